/-
  The frame for walks, fifth part: maps with int keys; cuts of slices; lists of one shape. It names no program. Conditions: none.
  The frame of a law's proof: from what the walk gives to the row. Conditions: none.
  More of the frame: whole numbers of other kinds; a part of what can be read. Conditions: none.
  More of the frame: slices of slices; many parts as one; copy; bits; bools. Conditions: none.
  The frame of a law's proof, where the size of what is handed in is asked; slices of slices, read. Conditions: none.
  More of the frame: a slice of one's own as a block in plain sight; append in place and into a new block; clear; parts that are there, whichever they be. Conditions: none.
  More of the frame: make of what has many cells; shift and or; pairs set in what is ours. Conditions: none.
  A region in which several operations that bring something of their own come up in any order. Conditions: none.
  More of the frame: pointers against nil. Conditions: none.
  More of the frame: what a row of trials does, named once. Each of these takes a goal, does one step by trial, and hands on the goal that is left. Conditions: none.
  A region whose operations come up in one of several orders: a plan, with ways. Conditions: none.
  Strings: their length, a byte, a part; as bytes and back. Conditions: none.
  A region of which some come last, told from further off. Conditions: none.
  What is made and never turned again: known by what is known of it. Conditions: none.
  The frame of a law's proof, where what is handed in is not great ('..UptoSaid'). Conditions: none.
  A range over a function: its rounds, what is put off till the function's end. Conditions: none.
  Sets: maps from ints to true. Conditions: none.
  Maps against nil; a new key by its entry; sums that wrap; arrays of two; literals of maps. Conditions: none.
  Plans as in the fifteenth part, with one of three. Conditions: none.
-/
import Derived.Test.YtenlcdokaadobaaGreatDoorRowMakesMg0
import Derived.WalkKit
import Derived.ProofKit
import Derived.OpenShut
import Derived.Deep.Slices
import Derived.Deep.Fields
import Derived.ChangeSame
import Derived.Carry
import Derived.Laws.CopyRow
import Derived.Laws.Small
import Derived.Scope
import Derived.SizedLaws
import Derived.Deep.Matrix
import Derived.Lib.Overlaps
import Derived.Laws.Cover3
import Derived.Laws.Pointers
import Derived.Lib.ConvBytes
import Derived.Laws.BytesString
import Derived.Laws.Strings
import Derived.Laws.Slices
import Derived.Laws.ResultCell
import Derived.JoinedCond
import Derived.RangeFuncWrites
import Derived.RangeFuncLeaves
import Derived.RangeFuncCalls
import Derived.RangeFuncBound
import Derived.OrdersIn
namespace Go.Fw
open Go Go.RowKit
set_option linter.unusedVariables false
def flat {α:Type} (enc:α→List Value) (l:List α):List Value:=l.flatMap enc
def encI (z:Int):List Value:=[.int .i64 z]
def encP (p:Int × Int):List Value:=[.int .i64 p.1,.int .i64 p.2]
theorem encI_len (z:Int):(encI z).length=1:=rfl
theorem HS.nil_flat {α:Type} (enc:α→List Value) {w0 w:World} {M:Nat→Prop} {H:List It} (h:HS w0 M H w) (T sz:Nat):HS w0 M (own T sz none 0 0 (flat enc [])::H) w:=h.nil_own T sz
theorem flat_length {α:Type} {enc:α→List Value} {sz:Nat} (henc:∀x,(enc x).length=sz) (l:List α):(flat enc l).length=l.length*sz:=by
  induction l with
  |nil=>simp [flat]
  |cons x l ih=>simp only [flat,List.flatMap_cons,List.length_append,henc,List.length_cons,Nat.add_mul] at ih ⊢;omega
theorem flat_get {α:Type} {enc:α→List Value} {sz:Nat} (henc:∀x,(enc x).length=sz):∀{l:List α} {i off:Nat} {x:α} {v:Value},l[i]?=some x→(enc x)[off]?=some v→(flat enc l)[i*sz+off]?=some v
  | [],i,off,x,v,hi,hv=>by simp at hi
  | y::l,0,off,x,v,hi,hv=>by
    obtain rfl:y=x:=by simpa using hi
    have:off<(enc y).length:=(List.getElem?_eq_some_iff.1 hv).1
    simp [flat,List.getElem?_append_left this,hv]
  | y::l,i+1,off,x,v,hi,hv=>by
    have ih:=flat_get henc (l:=l) (i:=i) (by simpa using hi) hv
    simp only [flat,List.flatMap_cons] at ih ⊢
    rw [List.getElem?_append_right (by rw [henc,Nat.add_mul];omega),henc,←ih]
    congr 1
    rw [Nat.add_mul];omega
theorem flat_get0 {α:Type} {enc:α→List Value} {sz:Nat} (henc:∀x,(enc x).length=sz) {l:List α} {i:Nat} {x:α} {v:Value} (hi:l[i]?=some x) (hv:(enc x)[0]?=some v):(flat enc l)[i*sz]?=some v:=
  flat_get henc (off:=0) hi hv
theorem flat_all {α:Type} {enc:α→List Value} {sz:Nat} (henc:∀x,(enc x).length=sz) {l:List α} {i:Nat} {x:α} (hi:l[i]?=some x):∀k v,(enc x)[k]?=some v→(flat enc l)[i*sz+k]?=some v:=
  fun k v hv=>flat_get henc hi hv
theorem flat_append {α:Type} (enc:α→List Value) (l r:List α):flat enc (l++r)=flat enc l++flat enc r:=by simp [flat]
theorem flat_snoc {α:Type} (enc:α→List Value) (l:List α) (x:α):flat enc (l++[x])=flat enc l++enc x:=by simp [flat]
theorem put_mid (A E B vs:List Value) (off:Nat) (h:off+vs.length≤E.length):Fw.put (A++(E++B)) (A.length+off) vs=A++(Fw.put E off vs++B):=by
  unfold Fw.put
  have h1:(A++(E++B)).take (A.length+off)=A++E.take off:=by
    rw [List.take_append,List.take_of_length_le (by omega),show A.length+off - A.length=off by omega,List.take_append_of_le_length (by omega)]
  have h2:(A++(E++B)).drop (A.length+off+vs.length)=E.drop (off+vs.length)++B:=by
    rw [List.drop_append,List.drop_of_length_le (by omega),show A.length+off+vs.length - A.length=off+vs.length by omega,List.drop_append_of_le_length (by omega)]
    simp
  rw [h1,h2]
  simp [List.append_assoc]
theorem flat_put {α:Type} {enc:α→List Value} {sz:Nat} (henc:∀x,(enc x).length=sz) {l:List α} {i:Nat} {x y:α} {off:Nat} {vs:List Value} (hi:l[i]?=some x) (hy:Fw.put (enc x) off vs=enc y) (hle:off+vs.length≤sz) :
    Fw.put (flat enc l) (i*sz+off) vs=flat enc (l.set i y):=by
  have hlt:i<l.length:=(List.getElem?_eq_some_iff.1 hi).1
  have hx:l[i]=x:=(List.getElem?_eq_some_iff.1 hi).2
  have e:l=l.take i++x::l.drop (i+1):=by rw [←hx];simp
  have e2:l.set i y=l.take i++y::l.drop (i+1):=List.set_eq_take_append_cons_drop.trans (if_pos hlt)
  have hta:(flat enc (l.take i)).length=i*sz:=by rw [flat_length henc,List.length_take,Nat.min_eq_left (by omega)]
  rw [e2]
  conv=>lhs;rw [e]
  simp only [flat_append,show ∀(z:α) (r:List α),flat enc (z::r)=enc z++flat enc r from fun z r=>by simp [flat]]
  rw [←hy,←hta]
  exact put_mid _ _ _ _ _ (by rw [henc];exact hle)
theorem flat_one_cell {α:Type} {enc:α→List Value} (h:∀x,(enc x).all (·.oneCell')=true) (l:List α):(flat enc l).all (·.oneCell')=true:=by
  simp only [flat,List.all_flatMap,List.all_eq_true]
  exact fun x _=>List.all_eq_true.1 (h x)

section
variable {P:Program} {N:Nat} {l:List (Nat × Value)} {C:World→Prop} {d:Option Tmp} {T:TypeId} {pos:String} {af:Array Edge} {g:Option (Nat × Bool)}

def subO (o:Option Addr) (c k sz:Nat):Option Addr:=if c=k then o else o.map (·.add (k*sz))
theorem Rd.sub {w:World} {o:Option Addr} {xs:List Value} {n c k sz:Nat} (h:Rd w o xs) (hl:xs.length=n*sz) (hkn:k≤n) (hnc:n≤c):Rd w (subO o c k sz) (xs.drop (k*sz)):=by
  by_cases hck:c=k
  · obtain rfl:n=k:=by omega
    have:xs.drop (n*sz)=[]:=by rw [←hl];simp
    rw [this]
    exact ⟨fun h=>by simp at h,fun j u h=>by simp at h⟩
  · refine ⟨fun hp=>?_,fun j u hj=>?_⟩
    · obtain ⟨b,off,rfl⟩:=h.1 (by simp at hp;omega)
      by_cases hz:k*sz=0
      · exact ⟨b,off,by simp [subO,hck,Addr.add,hz]⟩
      · exact ⟨b,off+k*sz,by simp [subO,hck,Addr.add,hz]⟩
    · rw [List.getElem?_drop] at hj
      have hlt:0<xs.length:=by have:=(List.getElem?_eq_some_iff.1 hj).1;omega
      obtain ⟨b,off,rfl⟩:=h.1 hlt
      have:=h.2 _ u hj
      rw [←this]
      congr 1
      simp only [subO,hck,if_false,Option.map_some,sat,blkO,offO]
      unfold Addr.add
      split<;>simp_all [Nat.add_assoc]
def mkE (e:Int × Value × Nat):MapEntry:=⟨.int .i64 e.1,e.2.1,e.2.2⟩
structure EsOk (es:List (Int × Value × Nat)) (clock:Nat):Prop where
  keys:(es.map (·.1)).Nodup
  borns:(es.map (·.2.2)).Nodup
  lt:∀e∈es,e.2.2<clock
def mpO (b:Nat) (es:List (Int × Value × Nat)) (clock:Nat):It:=blk b (.map (es.map mkE).toArray clock)
def mp (b:Nat) (m:List (Int × Value)):It where
  sat w F:=∃es clock,es.map (fun e=>(e.1,e.2.1))=m∧EsOk es clock∧(mpO b es clock).sat w F
  loc:=by
    rintro w w' F ⟨es,clock,h1,h2,h3⟩ he
    exact ⟨es,clock,h1,h2,(mpO b es clock).loc h3 he⟩
  lt:=by
    rintro w F ⟨es,clock,h1,h2,h3⟩
    exact (mpO b es clock).lt h3
  ext:=by
    rintro w F F' ⟨es,clock,h1,h2,h3⟩ he
    exact ⟨es,clock,h1,h2,(mpO b es clock).ext h3 he⟩

def mv (m:List (Int × Value)) (k:Int):Option Value:=(m.find? (fun e=>e.1 == k)).map (·.2)
def mset (m:List (Int × Value)) (k:Int) (v:Value):List (Int × Value):=if (mv m k).isSome then m.map (fun e=>if e.1 == k then (k,v) else e) else m++[(k,v)]
def mdel (m:List (Int × Value)) (k:Int):List (Int × Value):=m.filter (fun e=>!(e.1 == k))

def fnd (k:Int):List (Int × Value × Nat)→Nat→Option (Nat × Value)
  | [],_=>none
  |e::es,i=>if k == e.1 then some (i,e.2.1) else fnd k es (i+1)
theorem findNow_int (kk:IntKind) (k:Int):∀(es:List (Int × Value × Nat)) (i:Nat),Instr.findNow (.int kk) (.int .i64 k) (es.map mkE) i=some (fnd k es i)
  | [],i=>rfl
  | e::es,i=>by
    simp only [List.map_cons,Instr.findNow,Instr.sameNow,mkE,if_true,fnd]
    cases h:(k == e.1) with
    |true=>simp
    |false=>simpa using findNow_int kk k es (i+1)
theorem fnd_mv (k:Int):∀(es:List (Int × Value × Nat)) (i:Nat),(fnd k es i).map (·.2)=mv (es.map (fun e=>(e.1,e.2.1))) k
  | [],i=>rfl
  | e ::es,i=>by
    simp only [fnd,List.map_cons,mv,List.find?_cons]
    by_cases h:k=e.1
    · subst h;simp
    · have h1:(k == e.1)=false:=by simpa using h
      have h2:(e.1 == k)=false:=by simpa using fun h'=>h h'.symm
      simp only [h1,h2,Bool.false_eq_true,if_false]
      exact fnd_mv k es (i+1)
theorem fnd_some (k:Int):∀(es:List (Int × Value × Nat)) (i j:Nat) (v:Value),fnd k es i=some (j,v)→i≤j∧∃born,es[j - i]?=some (k,v,born)
  | [],i,j,v,h=>by simp [fnd] at h
  | e ::es,i,j,v,h=>by
    simp only [fnd] at h
    by_cases hk:k=e.1
    · subst hk
      simp at h
      obtain ⟨rfl,rfl⟩:=h
      exact ⟨Nat.le_refl _,e.2.2,by simp⟩
    · have h1:(k == e.1)=false:=by simpa using hk
      simp only [h1,Bool.false_eq_true,if_false] at h
      obtain ⟨h2,born,h3⟩:=fnd_some k es (i+1) j v h
      refine ⟨by omega,born,?_⟩
      rw [show j - i=(j - (i+1))+1 by omega]
      simpa using h3
theorem fnd_none (k:Int):∀(es:List (Int × Value × Nat)) (i:Nat),fnd k es i=none→∀e∈es,e.1≠k
  | [],i,h=>by simp
  | e ::es,i,h=>by
    simp only [fnd] at h
    by_cases hk:k=e.1
    · subst hk;simp at h
    · have h1:(k == e.1)=false:=by simpa using hk
      simp only [h1,Bool.false_eq_true,if_false] at h
      intro e' he'
      rcases List.mem_cons.1 he' with rfl|he'
      · exact fun h=>hk h.symm
      · exact fnd_none k es (i+1) h e' he'

theorem run_findKey {w:World} {kt:TypeId} {kk:IntKind} [hk:TIn P kt kk] (k:Int) (es:List (Int × Value × Nat)):(Instr.findKey kt (.int .i64 k) (es.map mkE)).run P w= .ok (fnd k es 0) w:=by
  simp [Instr.findKey,run_underlying hk.eq,findNow_int]
theorem run_checkKey {w:World} {kt:TypeId} {kk:IntKind} [hk:TIn P kt kk] (em:Bool) (k:Int):(Instr.checkKey em 10000 kt (.int .i64 k)).run P w= .ok () w:=by
  rw [show (10000:Nat)=9999+1 from rfl,Instr.checkKey,Sem.run_bind,run_underlying hk.eq]
  rfl
theorem run_getObj_map {w:World} {b:Nat} {es:Array MapEntry} {c:Nat} (h:w.heap[b]?=some (.map es c)):(getObj b).run P w= .ok (.map es c) w:=by
  simp [getObj,Sem.run,h]
theorem run_setObj_map {w:World} {b:Nat} {es:Array MapEntry} {c:Nat} (h:w.heap[b]?=some (.map es c)) (o:Obj):(setObj b o).run P w= .ok () {w with heap:=w.heap.setIfInBounds b o}:=by
  simp [setObj,Sem.run,h]

theorem run_lookup {w:World} {t kt e sz by_:Nat} {kk:IntKind} {z:Value} {zs:List Value} {b c:Nat} {es:List (Int × Value × Nat)} {k:Int} {ok:Bool} [ht:TMp P t kt e] [hk:TIn P kt kk] [hi:TIf P e z zs sz by_] (h:w.heap[b]?=some (.map (es.map mkE).toArray c)) :
    (Instr.lookup t (.map (some b)) (.int .i64 k) ok).run P w= .ok (if ok then .tuple #[((fnd k es 0).map (·.2)).getD z,.bool (fnd k es 0).isSome] else ((fnd k es 0).map (·.2)).getD z) w:=by
  obtain ⟨ti,h3,h4,h5,h6⟩:=hi.eq
  simp only [Instr.lookup,Sem.run_bind,run_underlying ht.eq,Result.andThen_ok,run_getObj_map h,Sem.run_pure,run_checkKey,run_findKey]
  cases hf:fnd k es 0 with
  |none=>cases ok<;>simp [zeroValue,typeInfo,h3,h4]
  |some p=>cases ok<;>simp

theorem ex_lookup_ok {t kt e sz by_ b:Nat} {kk:IntKind} {z:Value} {zs:List Value} {x y:Operand} {m:List (Int × Value)} {k:Int} {w0:World} {M:Nat→Prop} {H:List It} [ht:TMp P t kt e] [hk:TIn P kt kk] [hi:TIf P e z zs sz by_]
    (hx:ev l x=some (.map (some b))) (hy:ev l y=some (.int .i64 k)) (hm:mp b m∈H):Ex P N l (HS w0 M H) ⟨d,.lookup t x y true,T,pos,af,g⟩ (.tuple #[(mv m k).getD z,.bool (mv m k).isSome]):=by
  intro a w hA hH
  obtain ⟨F,es,clock,rfl,h2,h3,h4⟩:=hH.sat hm
  simp only [execOp,hA.ev hx,hA.ev hy,Sem.run_bind,run_lookup (t:=t) h4,if_true,Result.andThen_ok,Sem.run_pure]
  rw [fnd_mv,←fnd_mv k es 0]
  simp
theorem ex_lookup {t kt e sz by_ b:Nat} {kk:IntKind} {z:Value} {zs:List Value} {x y:Operand} {m:List (Int × Value)} {k:Int} {w0:World} {M:Nat→Prop} {H:List It} [ht:TMp P t kt e] [hk:TIn P kt kk] [hi:TIf P e z zs sz by_]
    (hx:ev l x=some (.map (some b))) (hy:ev l y=some (.int .i64 k)) (hm:mp b m∈H):Ex P N l (HS w0 M H) ⟨d,.lookup t x y false,T,pos,af,g⟩ ((mv m k).getD z):=by
  intro a w hA hH
  obtain ⟨F,es,clock,rfl,h2,h3,h4⟩:=hH.sat hm
  simp only [execOp,hA.ev hx,hA.ev hy,Sem.run_bind,run_lookup (t:=t) h4,Bool.false_eq_true,if_false,Result.andThen_ok,Sem.run_pure]
  rw [fnd_mv]

theorem setObj_kp {w:World} {b:Nat} {o:Obj} {F:Nat→Prop} (hb:F b):Kp w F {w with heap:=w.heap.setIfInBounds b o}:=by
  refine ⟨rfl,rfl,rfl,by simp,fun i hi hn=>?_⟩
  have hib:b≠i:=fun h=>hn (h▸hb)
  simp [Array.getElem?_setIfInBounds,hib]
theorem setObj_at {w:World} {b:Nat} {o o':Obj} (h:w.heap[b]?=some o'):({w with heap:=w.heap.setIfInBounds b o}:World).heap[b]?=some o:=by
  have:=lt_of_heap h
  simp [Array.getElem?_setIfInBounds,this]

theorem mset_mem {es:List (Int × Value × Nat)} {k:Int} {v v0:Value} {j born:Nat} (hok:(es.map (·.1)).Nodup) (hj:es[j]?=some (k,v0,born)) :
    (es.modify j (fun e=>(k,v,e.2.2))).map (fun e=>(e.1,e.2.1))=(es.map (fun e=>(e.1,e.2.1))).map (fun e=>if e.1 == k then (k,v) else e):=by
  apply List.ext_getElem?
  intro i
  simp only [List.getElem?_map,List.getElem?_modify]
  by_cases hij:j=i
  · subst hij;simp [hj]
  · cases he:es[i]? with
    |none=>simp [hij]
    | some e=>
      have:e.1≠k:=by
        intro hek
        have h1:(es.map (·.1))[i]?=some k:=by simp [he,hek]
        have h2:(es.map (·.1))[j]?=some k:=by simp [hj]
        have hi:i<(es.map (·.1)).length:=(List.getElem?_eq_some_iff.1 h1).1
        exact hij ((List.getElem?_inj (List.getElem?_eq_some_iff.1 h2).1 hok).1 (h2.trans h1.symm))
      simp [hij,this]

theorem op_mapUpdate {t kt e b:Nat} {kk:IntKind} {x y z:Operand} {m:List (Int × Value)} {k:Int} {v:Value} {w0 w:World} {M:Nat→Prop} {H H':List It} [ht:TMp P t kt e] [hk:TIn P kt kk]
    (hx:ev l x=some (.map (some b))) (hy:ev l y=some (.int .i64 k)) (hz:ev l z=some v) (hH:HS w0 M H w) (hr:Rp H (mp b m) (mp b (mset m k v)) H') :
    Op1 P N l ⟨d,.mapUpdate t x y z,T,pos,af,g⟩ w (fun _ w'=>HS w0 M H' w'):=by
  intro a hA K Q hK
  obtain ⟨R,p,_⟩:=hr.split
  obtain ⟨F,es,clock,rfl,hok,h3,h4⟩:=hH.sat (p.symm.subset (List.mem_cons_self))
  unfold Oper.wp
  simp only [execOp,hA.ev hx,hA.ev hy,hA.ev hz,Instr.mapUpdate,Sem.run_bind,run_underlying ht.eq,Result.andThen_ok,run_getObj_map h4,run_checkKey,run_findKey]
  cases hf:fnd k es 0 with
  | some q=>
    obtain ⟨j,v0⟩:=q
    obtain ⟨_,born,hj⟩:=fnd_some k es 0 j v0 hf
    simp only [Nat.sub_zero] at hj
    have hkey:(((es.map mkE).toArray[j]?).map (·.key)).getD (.int .i64 k)= .int .i64 k:=by simp [hj,mkE]
    have hkts:(Instr.keyThatStays (.int .i64 k) (.int .i64 k)).run P w= .ok (.int .i64 k) w:=by simp [Instr.keyThatStays,Instr.sameBits]
    have hmod:((es.map mkE).toArray.modify j fun e=>{e with key:=.int .i64 k,val:=v})=((es.modify j (fun e=>(k,v,e.2.2))).map mkE).toArray:=by
      apply Array.ext'
      simp only [Array.toList_modify]
      apply List.ext_getElem?
      intro i
      simp only [List.getElem?_map,List.getElem?_modify]
      by_cases hij:j=i
      · subst hij;simp [hj,mkE]
      · simp [hij]
    have hkey':(Option.map (fun x:MapEntry=>x.key) ((List.map mkE es).toArray)[j]?).getD (Value.int IntKind.i64 k)=Value.int IntKind.i64 k:=hkey
    simp only [Sem.run_bind,hkey',hkts,Result.andThen_ok,run_setObj_map h4,Oper.upon,hmod,Sem.run_pure]
    refine hK undef _ (hH.turn hr fun F' hF'=>⟨setObj_kp ((by obtain ⟨_,_,_,_,h,_⟩:=hF';exact (h b).2 rfl)),F',⟨es.modify j (fun e=>(k,v,e.2.2)),clock,?_,⟨?_,?_,?_⟩,by obtain ⟨_,_,_,_,h,_⟩:=hF';exact h,setObj_at h4⟩,fun b hb=>.inr hb⟩)
    · have hs:(mv (es.map (fun e=>(e.1,e.2.1))) k).isSome=true:=by rw [←fnd_mv k es 0,hf];rfl
      rw [mset,if_pos hs]
      exact mset_mem hok.keys hj
    · have e1:(es.modify j (fun e=>(k,v,e.2.2))).map (·.1)=es.map (·.1):=by
        apply List.ext_getElem?
        intro i
        simp only [List.getElem?_map,List.getElem?_modify]
        by_cases hij:j=i
        · subst hij;simp [hj]
        · simp [hij]
      rw [e1];exact hok.keys
    · have e1:(es.modify j (fun e=>(k,v,e.2.2))).map (·.2.2)=es.map (·.2.2):=by
        apply List.ext_getElem?
        intro i
        simp only [List.getElem?_map,List.getElem?_modify]
        by_cases hij:j=i
        · subst hij;simp [hj]
        · simp [hij]
      rw [e1];exact hok.borns
    · intro e he
      obtain ⟨i,hi⟩:=List.getElem?_of_mem he
      simp only [List.getElem?_modify] at hi
      by_cases hij:j=i
      · subst hij
        simp [hj] at hi
        subst hi
        exact hok.lt (k,v0,born) (List.mem_of_getElem? hj)
      · simp [hij] at hi
        exact hok.lt _ (List.mem_of_getElem? hi)
  | none=>
    have hne:=fnd_none k es 0 hf
    have hpush:((es.map mkE).toArray.push {key:=.int .i64 k,val:=v,born:=clock})=((es++[(k,v,clock)]).map mkE).toArray:=by simp [mkE]
    simp only [run_setObj_map h4,Result.andThen_ok,Oper.upon,hpush,Sem.run_pure]
    refine hK undef _ (hH.turn hr fun F' hF'=>⟨setObj_kp ((by obtain ⟨_,_,_,_,h,_⟩:=hF';exact (h b).2 rfl)),F',⟨es++[(k,v,clock)],clock+1,?_,⟨?_,?_,?_⟩,by obtain ⟨_,_,_,_,h,_⟩:=hF';exact h,setObj_at h4⟩,fun b hb=>.inr hb⟩)
    · have hs:¬(mv (es.map (fun e=>(e.1,e.2.1))) k).isSome=true:=by rw [←fnd_mv k es 0,hf];simp
      rw [mset,if_neg hs]
      simp
    · rw [List.map_append,List.nodup_append]
      refine ⟨hok.keys,by simp,fun x hx y hy=>?_⟩
      obtain ⟨e,he,rfl⟩:=List.mem_map.1 hx
      simp at hy;subst hy
      exact hne e he
    · rw [List.map_append,List.nodup_append]
      refine ⟨hok.borns,by simp,fun x hx y hy=>?_⟩
      obtain ⟨e,he,rfl⟩:=List.mem_map.1 hx
      simp at hy;subst hy
      exact Nat.ne_of_lt (hok.lt e he)
    · intro e he
      rcases List.mem_append.1 he with he|he
      · have:=hok.lt e he;omega
      · simp at he;subst he;exact Nat.lt_succ_self _

theorem eraseIdx_map' {α β:Type} (f:α→β):∀(l:List α) (j:Nat),(l.map f).eraseIdx j=(l.eraseIdx j).map f
  | [],j=>rfl
  |x::l,0=>rfl
  |x::l,j+1=>by simp [eraseIdx_map' f l j]
theorem eraseIdx_fnd {es:List (Int × Value × Nat)} {k:Int} {j born:Nat} {v:Value} (hok:(es.map (·.1)).Nodup) (hj:es[j]?=some (k,v,born)):es.eraseIdx j=es.filter (fun e=>!(e.1 == k)):=by
  induction es generalizing j with
  |nil=>simp at hj
  | cons e es ih=>
    simp only [List.map_cons,List.nodup_cons] at hok
    cases j with
    | zero=>
      obtain rfl:e=(k,v,born):=by simpa using hj
      simp only [List.eraseIdx_cons_zero,List.filter_cons,BEq.rfl,Bool.not_true,Bool.false_eq_true,if_false]
      refine (List.filter_eq_self.2 fun e' he'=>?_).symm
      have:e'.1≠k:=fun h=>hok.1 (h▸List.mem_map.2 ⟨e',he',rfl⟩)
      simpa using this
    | succ j=>
      have hj':es[j]?=some (k,v,born):=by simpa using hj
      have:e.1≠k:=fun h=>hok.1 (h▸List.mem_map.2 ⟨_,List.mem_of_getElem? hj',rfl⟩)
      have h1:(e.1 == k)=false:=by simpa using this
      simp only [List.eraseIdx_cons_succ,List.filter_cons,h1,Bool.not_false,if_true]
      rw [ih hok.2 hj']
theorem mdel_map (es:List (Int × Value × Nat)) (k:Int):(es.filter (fun e=>!(e.1 == k))).map (fun e=>(e.1,e.2.1))=mdel (es.map (fun e=>(e.1,e.2.1))) k:=by
  simp [mdel,List.filter_map,Function.comp_def]
theorem EsOk.filter {es:List (Int × Value × Nat)} {clock:Nat} (h:EsOk es clock) (p:Int × Value × Nat→Bool):EsOk (es.filter p) clock:=
  ⟨h.keys.sublist ((List.filter_sublist).map _),h.borns.sublist ((List.filter_sublist).map _),fun e he=>h.lt e (List.mem_filter.1 he).1⟩

theorem op_delete {t kt e b:Nat} {kk:IntKind} {x y:Operand} {u:TypeId} {m:List (Int × Value)} {k:Int} {w0 w:World} {M:Nat→Prop} {H H':List It} [ht:TMp P t kt e] [hk:TIn P kt kk]
    (hx:ev l x=some (.map (some b))) (hy:ev l y=some (.int .i64 k)) (hH:HS w0 M H w) (hr:Rp H (mp b m) (mp b (mdel m k)) H') :
    Op1 P N l ⟨d,.call ⟨.builtin .delete,#[x,y],#[t,u]⟩,T,pos,af,g⟩ w (fun v w'=>v= .tuple #[]∧HS w0 M H' w'):=by
  intro a hA K Q hK
  obtain ⟨R,p,_⟩:=hr.split
  obtain ⟨F,es,clock,rfl,hok,h3,h4⟩:=hH.sat (p.symm.subset (List.mem_cons_self))
  unfold Oper.wp
  simp only [execOp,resolve,invoke,builtin,List.map_toArray,List.map_cons,List.map_nil,hA.ev hx,hA.ev hy,Builtin.delete_,Sem.run_bind,Sem.run_pure,Result.andThen_ok,List.getElem?_toArray,List.getElem?_cons_zero,List.getElem?_cons_succ,
    run_underlying ht.eq,run_getObj_map h4,run_checkKey,run_findKey]
  cases hf:fnd k es 0 with
  | some q=>
    obtain ⟨j,v0⟩:=q
    obtain ⟨_,born,hj⟩:=fnd_some k es 0 j v0 hf
    simp only [Nat.sub_zero] at hj
    have hlt:j<es.length:=(List.getElem?_eq_some_iff.1 hj).1
    have herase:(es.map mkE).toArray.eraseIdxIfInBounds j=((es.filter (fun e=>!(e.1 == k))).map mkE).toArray:=by
      apply Array.ext'
      rw [←eraseIdx_fnd hok.keys hj]
      simp [Array.eraseIdxIfInBounds,hlt,eraseIdx_map']
    simp only [Sem.run_bind,run_setObj_map h4,Result.andThen_ok,herase,Sem.run_pure,Oper.upon]
    exact hK _ _ ⟨rfl,hH.turn hr fun F' hF'=>⟨setObj_kp ((by obtain ⟨_,_,_,_,h,_⟩:=hF';exact (h b).2 rfl)),F',⟨_,clock,mdel_map es k,hok.filter _,by obtain ⟨_,_,_,_,h,_⟩:=hF';exact h,setObj_at h4⟩,fun b hb=>.inr hb⟩⟩
  | none=>
    have hne:=fnd_none k es 0 hf
    have hself:mdel (es.map (fun e=>(e.1,e.2.1))) k=es.map (fun e=>(e.1,e.2.1)):=by
      unfold mdel
      refine List.filter_eq_self.2 fun e he=>?_
      obtain ⟨e',he',rfl⟩:=List.mem_map.1 he
      simpa using hne e' he'
    simp only [Sem.run_bind,run_setObj_map h4,Result.andThen_ok,Sem.run_pure,Oper.upon]
    exact hK _ _ ⟨rfl,hH.turn hr fun F' hF'=>⟨setObj_kp ((by obtain ⟨_,_,_,_,h,_⟩:=hF';exact (h b).2 rfl)),F',⟨es,clock,hself.symm,hok,by obtain ⟨_,_,_,_,h,_⟩:=hF';exact h,setObj_at h4⟩,fun b hb=>.inr hb⟩⟩

theorem op_makeMap {t:Nat} {w0 w:World} {M:Nat→Prop} {H:List It} (hH:HS w0 M H w) :
    Op1 P N l ⟨d,.makeMap t none,T,pos,af,g⟩ w (fun v w'=>∃b,v= .map (some b)∧HS w0 M (mp b []::H) w'):=by
  intro a hA K Q hK
  unfold Oper.wp
  simp only [execOp,Instr.makeMap,Option.map_none,Sem.run_bind,Sem.run_pure,run_newObj,World.alloc_eq,Result.andThen_ok,Oper.upon]
  exact hK _ _ ⟨w.heap.size,rfl,hH.come (alloc_kp w _) (F':=fun x=>x=w.heap.size) ⟨[],0,rfl,⟨by simp,by simp,by simp⟩,fun x=>Iff.rfl,heap_alloc_new w _⟩ fun b hb=>by omega⟩

theorem ex_makeFunc {fn:Fn} {first captured:Array Operand} {fs cs:List Value} (hf:evL l first.toList=some fs) (hc:evL l captured.toList=some cs) :
    Ex P N l C ⟨d,.makeFunc fn first captured,T,pos,af,g⟩ (.func fn fs.toArray cs.toArray):=by
  intro a w hA _
  have e1:first.map a.eval=fs.toArray:=by
    have:=hA.evL hf
    apply Array.ext'
    simpa using this
  have e2:captured.map a.eval=cs.toArray:=by
    have:=hA.evL hc
    apply Array.ext'
    simpa using this
  simp only [execOp,Instr.makeFunc,e1,e2,Sem.run_bind,Sem.run_pure,Result.andThen_ok]

def itr (r b clock:Nat) (seen:List Nat):It:=blk r (.mapIter (some b) clock seen.toArray clock)
theorem op_range {t kt e b clock:Nat} {es:List (Int × Value × Nat)} {x:Operand} {w0 w:World} {M:Nat→Prop} {H:List It} [ht:TMp P t kt e] (hx:ev l x=some (.map (some b))) (hH:HS w0 M H w) (hm:mpO b es clock∈H) :
    Op1 P N l ⟨d,.range t x,T,pos,af,g⟩ w (fun v w'=>∃r,v= .pointer (some (bat r 0))∧HS w0 M (itr r b clock []::H) w'):=by
  intro a hA K Q hK
  obtain ⟨F,h3,h4⟩:=hH.sat hm
  unfold Oper.wp
  simp only [execOp,hA.ev hx,Instr.range,Sem.run_bind,run_underlying ht.eq,Result.andThen_ok,run_getObj_map h4,Sem.run_pure,run_newObj,World.alloc_eq,Oper.upon]
  exact hK _ _ ⟨w.heap.size,rfl,hH.come_blk _⟩
theorem run_getObj_iter {w:World} {r:Nat} {o:Option Nat} {s st:Nat} {seen:Array Nat} (h:w.heap[r]?=some (.mapIter o s seen st)):(getObj r).run P w= .ok (.mapIter o s seen st) w:=by
  simp [getObj,Sem.run,h]
theorem run_setObj_iter {w:World} {r:Nat} {o:Option Nat} {s st:Nat} {seen:Array Nat} (h:w.heap[r]?=some (.mapIter o s seen st)) (x:Obj):(setObj r x).run P w= .ok () {w with heap:=w.heap.setIfInBounds r x}:=by
  simp [setObj,Sem.run,h]

theorem op_next {r b clock:Nat} {seen:List Nat} {es:List (Int × Value × Nat)} {x:Operand} {w0 w:World} {M:Nat→Prop} {H:List It}
    (hx:ev l x=some (.pointer (some (bat r 0)))) (hH:HS w0 M H w) (hi:itr r b clock seen∈H) (hm:mpO b es clock∈H) (hok:EsOk es clock) :
    Op1 P N l ⟨d,.next x false,T,pos,af,g⟩ w (fun v w'=>
      ((∀e∈es,e.2.2∈seen)∧v= .tuple #[.bool false]∧HS w0 M H w')∨
      (∃e∈es,e.2.2 ∉ seen∧v= .tuple #[.bool true,.int .i64 e.1,e.2.1]∧∀H',Rp H (itr r b clock seen) (itr r b clock (seen++[e.2.2])) H'→HS w0 M H' w')):=by
  intro a hA K Q hK
  obtain ⟨F,h3,h4⟩:=hH.sat hm
  obtain ⟨F2,h5,h6⟩:=hH.sat hi
  have hcheck:(!seen.toArray.isEmpty && !(es.map mkE).toArray.isEmpty && (es.map mkE).toArray.all (fun x=>decide (x.born≥clock)))=false:=by
    cases hes:es with
    |nil=>simp
    | cons e es'=>
      have:=hok.lt e (by simp [hes])
      simp [mkE]
      intro _ hle
      omega
  have hleft:((es.map mkE).toArray.filter (fun e=>!seen.toArray.contains e.born))=((es.filter (fun e=>!seen.contains e.2.2)).map mkE).toArray:=by
    apply Array.ext'
    simp [List.filter_map,Function.comp_def,mkE]
    rfl
  have hold:((((es.filter (fun e=>!seen.contains e.2.2)).map mkE).toArray).filter (fun x=>decide (x.born<clock)))=((es.filter (fun e=>!seen.contains e.2.2)).map mkE).toArray:=by
    rw [Array.filter_eq_self]
    intro x hx
    simp only [List.mem_toArray,List.mem_map] at hx
    obtain ⟨e,he,rfl⟩:=hx
    exact decide_eq_true (hok.lt e (List.mem_filter.1 he).1)
  have hnew:((((es.filter (fun e=>!seen.contains e.2.2)).map mkE).toArray).filter (fun x=>decide (x.born≥clock)))=#[]:=by
    rw [Array.filter_eq_empty_iff]
    intro x hx
    simp only [List.mem_toArray,List.mem_map] at hx
    obtain ⟨e,he,rfl⟩:=hx
    have:=hok.lt e (List.mem_filter.1 he).1
    simp [mkE];omega
  unfold Oper.wp
  simp only [execOp,hA.ev hx,bat,Instr.next,Sem.run_bind,run_getObj_iter h6,Result.andThen_ok,run_getObj_map h4,hcheck,Bool.false_eq_true,if_false,hleft,hold,hnew,Sem.run_pure,Array.append_empty]
  generalize hL:es.filter (fun e=>!seen.contains e.2.2)=L
  have hLm:∀e,e∈L→e∈es∧e.2.2 ∉ seen:=fun e he=>by
    rw [←hL] at he
    have:=List.mem_filter.1 he
    exact ⟨this.1,by simpa using this.2⟩
  cases L with
  | nil=>
    have hall:∀e∈es,e.2.2∈seen:=fun e he=>by
      have:=List.filter_eq_nil_iff.1 hL e he
      simpa using this
    simp only [List.map_nil,Array.map_empty,Array.isEmpty_empty,if_true,Array.append_empty]
    simp [Question.forced,run_choose]
    simp only [Oper.upon]
    exact hK _ _ (.inl ⟨hall,rfl,hH⟩)
  | cons e0 L'=>
    have hne:((List.map mkE (e0::L')).toArray).isEmpty=false:=by simp
    simp only [hne,Bool.false_eq_true,if_false]
    have hch:∀n:Nat,0<n→∃i w1,i<n∧(choose (.mapNext n)).run P w= .ok i w1∧w1.heap=w.heap∧Kp w noM w1:=by
      intro n hn
      by_cases hf:n≤1
      · refine ⟨0,w,hn,?_,rfl,Kp.refl _ _⟩
        simp [run_choose,Question.forced,hf]
      · refine ⟨(Question.mapNext n).cut (w.tape w.drawn (.mapNext n)),w.drew,by simpa [Question.cut] using Nat.mod_lt _ hn,?_,rfl,Kp.drew _ _⟩
        simp [run_choose,Question.forced,hf]
    obtain ⟨i,w1,hi1,hrun,hheap,hkp⟩:=hch (#[]++((List.map mkE (e0::L')).toArray.map some)).size (by simp)
    simp only [hrun,Result.andThen_ok]
    have hi2:i<(e0::L').length:=by simpa using hi1
    have hget:(#[]++((List.map mkE (e0::L')).toArray.map some))[i]?=some (some (mkE (e0::L')[i])):=by
      have:(List.map (some ∘ mkE) (e0::L'))[i]?=some (some (mkE (e0::L')[i])):=by rw [List.getElem?_map,List.getElem?_eq_getElem hi2];rfl
      simpa using this
    simp only [hget]
    obtain ⟨he1,he2⟩:=hLm _ (List.getElem_mem hi2)
    have h6':w1.heap[r]?=some (.mapIter (some b) clock seen.toArray clock):=by rw [hheap];exact h6
    simp only [Sem.run_bind,run_setObj_iter h6',Result.andThen_ok,Sem.run_pure,Oper.upon]
    refine hK _ _ (.inr ⟨_,he1,he2,rfl,fun H' hrp=>?_⟩)
    refine (hH.keep hkp).turn hrp fun F' hF'=>⟨setObj_kp ((hF'.1 r).2 rfl),F',⟨hF'.1,?_⟩,fun b hb=>.inr hb⟩
    have:=setObj_at (o:=.mapIter (some b) clock (seen.toArray.push (mkE (e0::L')[i]).born) clock) h6'
    simpa [mkE] using this

theorem ex_entry {r b clock:Nat} {seen:List Nat} {es:List (Int × Value × Nat)} {x:Operand} {e:Int × Value × Nat} {w0:World} {M:Nat→Prop} {H:List It}
    (hx:ev l x=some (.pointer (some (bat r 0)))) (hi:itr r b clock (seen++[e.2.2])∈H) (hm:mpO b es clock∈H) (hok:(es.map (·.2.2)).Nodup) (he:e∈es) :
    Ex P N l (HS w0 M H) ⟨d,.entry x,T,pos,af,g⟩ (.tuple #[.int .i64 e.1,e.2.1]):=by
  intro a w hA hH
  obtain ⟨F,h3,h4⟩:=hH.sat hm
  obtain ⟨F2,h5,h6⟩:=hH.sat hi
  have hf:(es.map mkE).toArray.find? (fun x=>x.born == e.2.2)=some (mkE e):=by
    rw [List.find?_toArray,List.find?_map,Option.map_eq_some_iff]
    refine ⟨e,?_,rfl⟩
    simp only [Function.comp_def,mkE]
    clear h4 hm h3
    induction es with
    |nil=>simp at he
    | cons e' es ih=>
      simp only [List.map_cons,List.nodup_cons] at hok
      rw [List.find?_cons]
      rcases List.mem_cons.1 he with rfl|he'
      · simp
      · have hne:e'.2.2≠e.2.2:=fun h=>hok.1 (h▸List.mem_map.2 ⟨e,he',rfl⟩)
        have hb:(e'.2.2 == e.2.2)=false:=by simpa using hne
        simp only [hb]
        exact ih hok.2 he'
  simp only [execOp,hA.ev hx,bat,Instr.entry,Sem.run_bind,run_getObj_iter h6,Result.andThen_ok]
  have hb:(seen++[e.2.2]).toArray.back?=some e.2.2:=by simp
  simp only [hb,Sem.run_bind,run_getObj_map h4,Result.andThen_ok]
  simp [hf,mkE]

def encM (m:List (Int × Int)):List (Int × Value):=m.map fun p=>(p.1,.int .i64 p.2)
def mpI (b:Nat) (m:List (Int × Int)):It:=mp b (encM m)
def lkI (m:List (Int × Int)) (k:Int):Option Int:=(m.find? (fun e=>e.1 == k)).map (·.2)
def setI (m:List (Int × Int)) (k v:Int):List (Int × Int):=if (lkI m k).isSome then m.map (fun e=>if e.1 == k then (k,v) else e) else m++[(k,v)]
theorem mv_encM (m:List (Int × Int)) (k:Int):mv (encM m) k=(lkI m k).map (.int .i64):=by
  simp [mv,encM,lkI,List.find?_map,Function.comp_def]
theorem mset_encM (m:List (Int × Int)) (k v:Int):mset (encM m) k (.int .i64 v)=encM (setI m k v):=by
  unfold mset setI
  rw [mv_encM,Option.isSome_map]
  split
  · simp only [encM,List.map_map]
    apply List.map_congr_left
    intro e he
    simp only [Function.comp_def]
    split<;>rfl
  · simp [encM]
theorem getD_encM (m:List (Int × Int)) (k:Int):(mv (encM m) k).getD (.int .i64 0)= .int .i64 ((lkI m k).getD 0):=by
  rw [mv_encM];cases lkI m k<;>rfl
theorem ex_lookupI_ok {t kt e sz by_ b:Nat} {kk:IntKind} {zs:List Value} {x y:Operand} {m:List (Int × Int)} {k:Int} {w0:World} {M:Nat→Prop} {H:List It} [ht:TMp P t kt e] [hk:TIn P kt kk] [hi:TIf P e (.int .i64 0) zs sz by_]
    (hx:ev l x=some (.map (some b))) (hy:ev l y=some (.int .i64 k)) (hm:mpI b m∈H):Ex P N l (HS w0 M H) ⟨d,.lookup t x y true,T,pos,af,g⟩ (.tuple #[.int .i64 ((lkI m k).getD 0),.bool (lkI m k).isSome]):=by
  have:=ex_lookup_ok (P:=P) (N:=N) (l:=l) (d:=d) (T:=T) (pos:=pos) (af:=af) (g:=g) (t:=t) (w0:=w0) (M:=M) hx hy hm
  rw [getD_encM,mv_encM,Option.isSome_map] at this
  exact this
theorem ex_lookupI {t kt e sz by_ b:Nat} {kk:IntKind} {zs:List Value} {x y:Operand} {m:List (Int × Int)} {k:Int} {w0:World} {M:Nat→Prop} {H:List It} [ht:TMp P t kt e] [hk:TIn P kt kk] [hi:TIf P e (.int .i64 0) zs sz by_]
    (hx:ev l x=some (.map (some b))) (hy:ev l y=some (.int .i64 k)) (hm:mpI b m∈H):Ex P N l (HS w0 M H) ⟨d,.lookup t x y false,T,pos,af,g⟩ (.int .i64 ((lkI m k).getD 0)):=by
  have:=ex_lookup (P:=P) (N:=N) (l:=l) (d:=d) (T:=T) (pos:=pos) (af:=af) (g:=g) (t:=t) (w0:=w0) (M:=M) hx hy hm
  rw [getD_encM] at this
  exact this
theorem op_makeMapI {t:Nat} {w0 w:World} {M:Nat→Prop} {H:List It} (hH:HS w0 M H w) :
    Op1 P N l ⟨d,.makeMap t none,T,pos,af,g⟩ w (fun v w'=>∃b,v= .map (some b)∧HS w0 M (mpI b []::H) w'):=op_makeMap hH
theorem op_mapUpdateI {t kt e b:Nat} {kk:IntKind} {x y z:Operand} {m:List (Int × Int)} {k v:Int} {w0 w:World} {M:Nat→Prop} {H H':List It} [ht:TMp P t kt e] [hk:TIn P kt kk]
    (hx:ev l x=some (.map (some b))) (hy:ev l y=some (.int .i64 k)) (hz:ev l z=some (.int .i64 v)) (hH:HS w0 M H w) (hr:Rp H (mpI b m) (mpI b (setI m k v)) H') :
    Op1 P N l ⟨d,.mapUpdate t x y z,T,pos,af,g⟩ w (fun _ w'=>HS w0 M H' w'):=by
  unfold mpI at hr
  rw [←mset_encM] at hr
  exact op_mapUpdate hx hy hz hH hr
theorem one_cell_of (a b:Nat) {z:Value} {zs:List Value} {by_:Nat} [hi:TIf P a z zs 1 by_]:∃i,P.info? (a,b).1=some i∧i.size=1:=
  let ⟨i,h1,_,h3,_⟩:=hi.eq
  ⟨i,h1,h3⟩

def encE (e:Int × Int × Nat):Int × Value × Nat:=(e.1,.int .i64 e.2.1,e.2.2)
structure ElOk (el:List (Int × Int × Nat)) (clock:Nat):Prop where
  keys:(el.map (·.1)).Nodup
  borns:(el.map (·.2.2)).Nodup
  lt:∀e∈el,e.2.2<clock
def mpE (b:Nat) (el:List (Int × Int × Nat)) (clock:Nat):It:=mpO b (el.map encE) clock
theorem ElOk.es {el:List (Int × Int × Nat)} {clock:Nat} (h:ElOk el clock):EsOk (el.map encE) clock:=
  ⟨by simpa [encE,Function.comp_def] using h.keys,by simpa [encE,Function.comp_def] using h.borns,fun e he=>by
    obtain ⟨e',he',rfl⟩:=List.mem_map.1 he
    exact h.lt e' he'⟩
end
open Go Go.ChangeShapes Go.WideShapes Go.ChangeAt Go.RowKit Go.Deep
theorem HS.pick {w0 w:World} {M:Nat→Prop} {H:List It} {it:It} (h:HS w0 M H w) (hm:it∈H):HS w0 M [it] w:=
  let ⟨_,p⟩:=mem_split hm
  (h.perm p).head
def LawR (w0:World) (v:Value) (w:World):Prop:=v= .bool true∧Kp w0 noM w
theorem Kp.below {w0 w:World} (h:Kp w0 noM w):Below w0.heap.size w0 w:=⟨h.os,h.tape,h.output,h.size,fun k hk=>h.block k hk id⟩
section
variable {H:Type} {enc:TypeId × Value→H} {P:Program}
theorem trodAll_stays (hl:laidOutB P=true) {W W':World} (hb:Below W.heap.size W W'):∀{ts:List TypeId} {vs:List Value} {ds:List (DataW H)} {ps:List MemPlace},
    (∀t∈ts,P.readableRec t=true∧t<P.types.size)→DataW.TrodAll enc P W 0 (fun _=>true) true ts vs ds ps→(∀x∈ps,x.block<W.heap.size)→
    DataW.TrodAll enc P W' 0 (fun b=>decide (b<W.heap.size)) true ts vs ds ps
  | [],vs,ds,ps,_,h,_=>by
    obtain ⟨rfl,rfl,rfl⟩:=trodAll_nil h
    exact trodAll_mk0
  | t::ts,vs,ds,ps,hr,h,hlt=>by
    obtain ⟨v,vs1,d,ds1,a,b,rfl,rfl,rfl,h1,h2⟩:=trodAll_cons h
    have hlt1:∀x∈a,x.block<W.heap.size:=fun x hx=>hlt x (List.mem_append.2 (.inl hx))
    have hlt2:∀x∈b,x.block<W.heap.size:=fun x hx=>hlt x (List.mem_append.2 (.inr hx))
    have ht:=hr t (List.mem_cons_self)
    exact trodAll_cons_mk (Below.trod hl ht.1 ht.2 h1 hb hlt1) (trodAll_stays hl hb (fun t ht=>hr t (List.mem_cons_of_mem _ ht)) h2 hlt2)
theorem trodAll_len {W:World} {base:Nat} {spare:Nat→Bool} {held:Bool}:∀{ts:List TypeId} {vs:List Value} {ds:List (DataW H)} {ps:List MemPlace},
    DataW.TrodAll enc P W base spare held ts vs ds ps→ds.length=ts.length
  | [],vs,ds,ps,h=>by
    obtain ⟨rfl,rfl,rfl⟩:=trodAll_nil h
    rfl
  | t::ts,vs,ds,ps,h=>by
    obtain ⟨v,vs1,d,ds1,a,b,rfl,rfl,rfl,h1,h2⟩:=trodAll_cons h
    simp [trodAll_len h2]
theorem law_post {f:Func} {s:ChangeSpec} {W W':World} {args:Array Value} {ds gs:List (DataW H)} {before:List MemPlace} {tb:TypeId}
    (hl:laidOutB P=true) (hrd:f.params.toList.all (fun t=>P.readableRec t && decide (t<P.types.size))=true) (hv:s.vars=[])
    (hs:∀ds:List (DataW H),ds.length=f.params.size→(s.fn H (ds++[])).results=[.lit (.bool true)]∧(s.fn H (ds++[])).args=ds∧(s.fn H (ds++[])).vars=[])
    (hrt:f.resultTypes=#[tb]) (hb:P.underlying tb=some .bool)
    (hW:DataW.Whole enc P f.params.toList s.vars false W args.toList ds gs before) (hk:Kp W noM W') :
    s.post enc P f false true false false W args (.bool true) W':=by
  have hW':=hW
  obtain ⟨p,q,hA,hV,rfl,hfz,hnd⟩:=hW
  rw [hv] at hV
  have hg:gs=[]∧q=[]:=by
    cases gs with
    |nil=>exact ⟨rfl,hV⟩
    |cons g gs=>exact hV.elim
  obtain ⟨rfl,rfl⟩:=hg
  have hlen:=trodAll_len hA
  rw [Array.length_toList] at hlen
  obtain ⟨h1,h2,h3⟩:=hs ds hlen
  have hlt:∀x∈p,x.block<W.heap.size:=fun x hx=>by simpa using hW'.lt x (List.mem_append.2 (.inl hx))
  refine ⟨ds,[],p++[],[],p,[],hW',?_,?_,?_,(Kp.below hk).frame _,fun h=>by cases h⟩
  · rw [h1,hrt]
    exact trodAll_cons_mk (shut_bool hb _) trodAll_mk0
  · rw [h2]
    refine trodAll_stays hl (Kp.below hk) (fun t ht=>?_) hA hlt
    have:=List.all_eq_true.1 hrd t ht
    simpa using this
  · rw [h3,hv];rfl

end

section
variable {H:Type} {enc:TypeId × Value→H} {P:Program} {w:World} {base:Nat} {spare:Nat→Bool} {held:Bool}
theorem choose_list {α:Type} (p:Nat→α→Prop):∀n:Nat,(∀i,i<n→∃x,p i x)→∃l:List α,l.length=n∧∀i x,l[i]?=some x→p i x
  |0,_=>⟨[],rfl,by simp⟩
  | n +1,h=>by
    obtain ⟨l,hl,hp⟩:=choose_list p n (fun i hi=>h i (by omega))
    obtain ⟨x,hx⟩:=h n (by omega)
    refine ⟨l++[x],by simp [hl],fun i y hy=>?_⟩
    rcases Nat.lt_or_ge i n with hi|hi
    · rw [List.getElem?_append_left (by omega)] at hy
      exact hp i y hy
    · have:=(List.getElem?_eq_some_iff.1 hy).1
      simp only [List.length_append,List.length_cons,List.length_nil] at this
      obtain rfl:i=n:=by omega
      rw [List.getElem?_append_right (by omega),hl] at hy
      simp at hy
      exact hy▸hx
end
section
variable {P:Program} {N:Nat} {l:List (Nat × Value)} {C:World→Prop} {d:Option Tmp} {T:TypeId} {pos:String} {af:Array Edge} {g:Option (Nat × Bool)}
theorem ex_rem {t ty:TypeId} {x y:Operand} {k:IntKind} {m n:Int} (hx:ev l x=some (.int k m)) (hy:ev l y=some (.int k n)) (h:n≠0):Ex P N l C ⟨d,.binOp .rem t x y ty,T,pos,af,g⟩ (.int k (m.tmod n)):=by
  intro a w hA _
  simp only [execOp,hA.ev hx,hA.ev hy,eqGuard_at_int,binOp_rem]
  simp [Op.intDiv,h]
theorem ex_quo {t ty:TypeId} {x y:Operand} {k:IntKind} {m n:Int} (hx:ev l x=some (.int k m)) (hy:ev l y=some (.int k n)) (h:n≠0):Ex P N l C ⟨d,.binOp .quo t x y ty,T,pos,af,g⟩ (.int k (k.wrap (m.tdiv n))):=by
  intro a w hA _
  simp only [execOp,hA.ev hx,hA.ev hy,eqGuard_at_int,binOp_quo]
  simp [Op.intDiv,h]
end
theorem Rd.take {w:World} {o:Option Addr} {xs:List Value} (h:Rd w o xs) (k:Nat):Rd w o (xs.take k):=by
  refine ⟨fun hp=>h.1 (by rw [List.length_take] at hp;omega),fun j u hj=>h.2 j u ?_⟩
  have hjk:j<k:=by
    have:=(List.getElem?_eq_some_iff.1 hj).1
    rw [List.length_take] at this;omega
  rwa [List.getElem?_take_of_lt hjk] at hj
section
variable {H:Type} {enc:TypeId × Value→H} {P:Program} {w:World} {base:Nat} {spare:Nat→Bool} {held:Bool}
end
def encB (b:Bool):List Value:=[.bool b]
abbrev Sd:=Option Addr × Nat × Nat
def Sd.v (d:Sd):Value:=.slice d.1 d.2.1 d.2.2
def RdR {α:Type} (enc:α→List Value) (w:World) (ds:List Sd) (rows:List (List α)):Prop:=
  ds.length=rows.length∧∀(i:Nat) (d:Sd) (r:List α),ds[i]?=some d→rows[i]?=some r→d.2.1=r.length∧Rd w d.1 (flat enc r)
theorem RdR.at {α:Type} {enc:α→List Value} {w:World} {ds:List Sd} {rows:List (List α)} (h:RdR enc w ds rows) {i:Nat} {r:List α} (hr:rows[i]?=some r) :
    ∃o c,ds[i]?=some (o,r.length,c)∧Rd w o (flat enc r):=by
  have hlt:=(List.getElem?_eq_some_iff.1 hr).1
  obtain ⟨d,hd⟩:∃d,ds[i]?=some d:=⟨_,List.getElem?_eq_getElem (by rw [h.1];exact hlt)⟩
  obtain ⟨h1,h2⟩:=h.2 i d r hd hr
  obtain ⟨o,n,c⟩:=d
  dsimp only at h1 h2
  subst h1
  exact ⟨o,c,hd,h2⟩

theorem flatI_get {li:List Int} {i:Nat} {z:Int} (h:li[i]?=some z):(flat encI li)[i*1]?=some (.int .i64 z):=flat_get0 encI_len h rfl
theorem HS.moreM {w0 w:World} {M M':Nat→Prop} {H:List It} (h:HS w0 M H w) (hM:∀b,M b→M' b):HS w0 M' H w:=by
  obtain ⟨hk,F,hF,ho⟩:=h
  exact ⟨⟨hk.os,hk.tape,hk.output,hk.size,fun b hb hn=>hk.block b hb fun h=>hn (hM b h)⟩,F,hF,fun b hb=>(ho b hb).imp id (hM b)⟩
theorem HS.join {w0 w w':World} {M:Nat→Prop} {H H':List It} (h:HS w0 M H w) (h':HS w noM H' w'):HS w0 M (H'++H) w':=by
  obtain ⟨Mc,h1,h2,h3⟩:=HS.frame (Hc:=[]) (Hf:=H) h
  exact h3 w' H' (h'.moreM fun b hb=>hb.elim)

def all (L:List It):It where
  sat w F:=Hp w L F
  loc:=fun h he=>h.loc he
  lt:=fun h b hb=>h.lt b hb
  ext:=fun h he=>h.ext he
theorem HS.open_ {w0 w:World} {M:Nat→Prop} {L H:List It} (h:HS w0 M (all L::H) w):HS w0 M (L++H) w:=by
  obtain ⟨hk,F,⟨F1,F2,hF,hd,h1,h2⟩,ho⟩:=h
  exact ⟨hk,_,Hp.mk_append hd h1 h2,fun b hb=>ho b ((hF b).2 hb)⟩
theorem HS.shut {w0 w:World} {M:Nat→Prop} {L H:List It} (h:HS w0 M (L++H) w):HS w0 M (all L::H) w:=by
  obtain ⟨hk,F,hF,ho⟩:=h
  obtain ⟨F1,F2,hG,hd,h1,h2⟩:=hF.append
  exact ⟨hk,F,⟨F1,F2,hG,hd,h1,h2⟩,ho⟩
theorem HS.openAt {w0 w:World} {M:Nat→Prop} {L H:List It} {i:Nat} {x:It} (h:HS w0 M (all L::H) w) (hi:L[i]?=some x):HS w0 M (x::all (L.eraseIdx i)::H) w:=by
  have h1:=h.open_.perm ((perm_pick0 i hi).append_right H)
  have h2:HS w0 M (L.eraseIdx i++(x::H)) w:=h1.perm List.perm_middle.symm
  exact h2.shut.perm (.swap _ _ _)
theorem eraseIdx_set_perm {x:It}:∀{L:List It} {i:Nat},i<L.length→(x::L.eraseIdx i).Perm (L.set i x)
  | [],i,h=>by simp at h
  |y::L,0,h=>.refl _
  |y::L,i+1,h=>(List.Perm.swap y x _).trans ((eraseIdx_set_perm (L:=L) (i:=i) (by simpa using h)).cons y)
theorem HS.shutAt {w0 w:World} {M:Nat→Prop} {L H:List It} {i:Nat} {x:It} (h:HS w0 M (x::all (L.eraseIdx i)::H) w) (hi:i<L.length):HS w0 M (all (L.set i x)::H) w:=by
  have h1:HS w0 M (all (L.eraseIdx i)::x::H) w:=h.perm (.swap _ _ _)
  have h2:HS w0 M (x::(L.eraseIdx i++H)) w:=h1.open_.perm List.perm_middle
  have h3:HS w0 M (L.set i x++H) w:=h2.perm ((eraseIdx_set_perm hi).append_right H)
  exact h3.shut
theorem HS.in_all {w0 w:World} {M:Nat→Prop} {L H:List It} {x:It} (h:HS w0 M H w) (hm:all L∈H) (hx:x∈L):∃F,x.sat w F:=by
  obtain ⟨R,p⟩:=mem_split hm
  exact ((h.perm p).open_).sat (List.mem_append_left _ hx)
theorem HS.nil_all {w0 w:World} {M:Nat→Prop} {H:List It} (h:HS w0 M H w):HS w0 M (all []::H) w:=HS.shut (L:=[]) h

theorem HS.pushA {w0 w:World} {M:Nat→Prop} {L H:List It} {x:It} (h:HS w0 M (x::all L::H) w):HS w0 M (all (L++[x])::H) w:=by
  have h1:HS w0 M (all L::x::H) w:=h.perm (.swap _ _ _)
  have h2:HS w0 M (L++[x]++H) w:=by simpa using h1.open_
  exact h2.shut

def owns {α:Type} (T sz:Nat) (enc:α→List Value) (ds:List Sd) (rows:List (List α)):List It:=List.zipWith (fun (d:Sd) r=>own T sz d.1 d.2.1 d.2.2 (flat enc r)) ds rows
theorem flat_set1 {α:Type} {enc:α→List Value} (henc:∀x,(enc x).length=1) {l:List α} {i:Nat} (hi:i<l.length) (y:α):Fw.put (flat enc l) i (enc y)=flat enc (l.set i y):=by
  have:=flat_put henc (l:=l) (i:=i) (x:=l[i]) (y:=y) (off:=0) (vs:=enc y) (List.getElem?_eq_getElem hi) (by
    unfold put
    rw [List.take_zero,List.drop_of_length_le (by rw [henc,henc];exact Nat.le_refl _)]
    simp) (by rw [henc];exact Nat.le_refl _)
  simpa using this
theorem flat_replicate {α:Type} {enc:α→List Value} {z:Value} {x:α} (h:enc x=[z]):∀n,List.replicate n z=flat enc (List.replicate n x)
  |0=>rfl
  | n+1=>by
    rw [List.replicate_succ,List.replicate_succ,flat_replicate h n]
    simp [flat,h]
theorem made_flat {α:Type} {enc:α→List Value} {z:Value} {x:α} (h:enc x=[z]) (hz:z.cells=#[z]) (n:Nat):(madeCells z.cells (n*1)).toList.take (n*1)=flat enc (List.replicate n x):=by
  rw [madeCells_scalar z hz,←flat_replicate h n]
  simp

section
variable {P:Program} {N:Nat} {l:List (Nat × Value)} {C:World→Prop} {d:Option Tmp} {T:TypeId} {pos:String} {af:Array Edge} {g:Option (Nat × Bool)}
theorem op_make1 {α:Type} (enc:α→List Value) (x0:α) {t e by_:Nat} {z:Value} {zs:List Value} {x y:Operand} {kl kc:IntKind} {n:Nat} {m m':Int} {w0 w:World} {M:Nat→Prop} {H:List It} [ht:TSl P t e] [hi:TIf P e z zs 1 by_]
    (hx:ev l x=some (.int kl m)) (hy:ev l y=some (.int kc m')) (hm:m=(n:Int)) (hm':m'=(n:Int)) (hc:n≤maxLen) (hb:by_* n≤140737488355328) (he:enc x0=[z]) (hz:z.cells=#[z]) (hH:HS w0 M H w) :
    Op1 P N l ⟨d,.makeSlice t x y,T,pos,af,g⟩ w (fun v w'=>∃o,v= .slice o n n∧HS w0 M (own e 1 o n n (flat enc (List.replicate n x0))::H) w'):=by
  subst hm;subst hm'
  have:=op_makeSlice (P:=P) (N:=N) (l:=l) (d:=d) (T:=T) (pos:=pos) (af:=af) (g:=g) (t:=t) (e:=e) hx hy (Nat.le_refl n) hc hb hH
  rw [made_flat he hz] at this
  exact this
theorem run_eqlB {t:TypeId} [h:TBo P t] (m n:Bool) (w:World):(Op.equal t (.bool m) (.bool n)).run P w= .ok (m == n) w:=by
  exact run_equal_bool w t m n h.eq
theorem ex_eqlB {t ty:TypeId} {x y:Operand} {m n:Bool} [h:TBo P t] (hx:ev l x=some (.bool m)) (hy:ev l y=some (.bool n)):Ex P N l C ⟨d,.binOp .eql t x y ty,T,pos,af,g⟩ (.bool (m == n)):=by
  intro a w hA _
  simp [execOp,hA.ev hx,hA.ev hy,eqGuard_at_bool,binOp,run_eqlB]
theorem ex_neqB {t ty:TypeId} {x y:Operand} {m n:Bool} [h:TBo P t] (hx:ev l x=some (.bool m)) (hy:ev l y=some (.bool n)):Ex P N l C ⟨d,.binOp .neq t x y ty,T,pos,af,g⟩ (.bool (m != n)):=by
  intro a w hA _
  simp [execOp,hA.ev hx,hA.ev hy,eqGuard_at_bool,binOp,run_eqlB]
  cases m<;>cases n<;>rfl

theorem cl_w {w0:World} {M:Nat→Prop} {H:List It} {b j:Nat} {v:Value} (h:w0.cell? (bat b j)=some v) (hM:¬M b):Cl (HS w0 M H) (bat b j) v:=fun w hH=>by
  have hb:b<w0.heap.size:=World.block_lt_of_cell? w0 (bat b j) h
  rw [World.cell?_of_block (w:=w0) (hH.1.block b hb hM)]
  exact h
theorem ng_normal {Q:Exit→Act→World→Prop} {a:Act} {w:World} (h:Q .normal a w):Exit.noGoto Q .normal a w:=h
theorem ng_ret {Q:Exit→Act→World→Prop} {a:Act} {w:World} (h:Q .ret a w):Exit.noGoto Q .ret a w:=h
theorem op_set1 {α:Type} {enc:α→List Value} {y0:α} {t by_ j Tb n cap:Nat} {o:Option Addr} {z v:Value} {zs:List Value} {x y:Operand} {li:List α} {w0 w:World} {M:Nat→Prop} {H H':List It} [hi:TIf P t z zs 1 by_]
    (hx:ev l x=some (.pointer (some (sat o j)))) (hy:ev l y=some v) (he:enc y0=[v]) (h1:v.oneCell'=true) (henc:∀x,(enc x).length=1) (hH:HS w0 M H w) (hr:Rp H (own Tb 1 o n cap (flat enc li)) (own Tb 1 o n cap (flat enc (li.set j y0))) H') (hj:j<li.length) :
    Op1 P N l ⟨d,.store t x y,T,pos,af,g⟩ w (fun _ w'=>HS w0 M H' w'):=
  op_store_own1 (hi:=hi) hx hy h1 hH hr (by rw [flat_length henc];omega) (by rw [←he];exact flat_set1 henc hj y0)
theorem op_setI {m:Int} {t by_ j Tb n cap:Nat} {o:Option Addr} {z:Value} {zs:List Value} {x y:Operand} {li:List Int} {w0 w:World} {M:Nat→Prop} {H H':List It} [hi:TIf P t z zs 1 by_]
    (hx:ev l x=some (.pointer (some (sat o j)))) (hy:ev l y=some (.int .i64 m)) (hH:HS w0 M H w) (hr:Rp H (own Tb 1 o n cap (flat encI li)) (own Tb 1 o n cap (flat encI (li.set j m))) H') (hj:j<li.length) :
    Op1 P N l ⟨d,.store t x y,T,pos,af,g⟩ w (fun _ w'=>HS w0 M H' w'):=op_set1 (hi:=hi) (y0:=m) hx hy rfl rfl encI_len hH hr hj
end
theorem MEMT {α:Type _} {x:α} {l:List α} (h:x∈l:=by repeat (first|exact List.Mem.head _|apply List.Mem.tail)):x∈l:=h
theorem CATST {n:Nat} {vs xs:List Value} (h:Cats n vs xs:=by repeat (first|exact Cats.nil|(apply Cats.c1;rfl)|apply Cats.c2|apply Cats.c3|apply Cats.c4)):Cats n vs xs:=h
theorem EXT {P:Program} {N:Nat} {l:List (Nat × Value)} {C:World→Prop} {o:Oper} {v:Value} (h:Ex P N l C o v:=by (first|(apply ex_move;rfl)|(apply ex_assign;rfl)|(apply ex_eql;rfl;rfl)|(apply ex_eqlB;rfl;rfl)|(apply ex_neq;rfl;rfl)|(apply ex_neqB;rfl;rfl)|(apply ex_lss;rfl;rfl)|(apply ex_leq;rfl;rfl)|(apply ex_gtr;rfl;rfl)|(apply ex_geq;rfl;rfl)|(apply ex_len_slice;rfl)|(apply ex_fieldAddr_sat;rfl;rfl)|(apply ex_fieldAddr_bat;rfl;rfl)|(apply ex_nilCheck;rfl)|(apply ex_extract;rfl;rfl)|(apply ex_not;rfl)|(apply ex_pick_t;rfl;rfl)|(apply ex_pick_f;rfl;rfl)|(apply ex_succ;rfl;rfl;omega)|(apply ex_add;rfl;rfl;unfold i64ok;omega)|(apply ex_pred;rfl;rfl;omega)|(apply ex_sub;rfl;rfl;unfold i64ok;omega)|(apply ex_indexAddr_nat;rfl;rfl;omega;first|assumption|exact hH.own_sp MEMT)|(apply ex_indexAddr;rfl;rfl;omega;omega;first|assumption|exact hH.own_sp MEMT)|(apply ex_load;rfl;apply cl_cb;exact MEMT;rfl)|(apply ex_load_st;rfl;rotate_left;apply cls_cb_all;exact MEMT;rfl)|(apply ex_lookupI_ok;rfl;rfl;exact MEMT)|(apply ex_lookupI;rfl;rfl;exact MEMT)|(apply ex_makeFunc;rfl;rfl)|(apply ex_build_full;rfl;rfl;rfl;rfl;rfl;(repeat (first|(intro _ h;exact absurd h (List.not_mem_nil))|(refine List.forall_mem_cons.2 ⟨one_cell_of _ _,?_⟩)))))):Ex P N l C o v:=h
def Szd {H:Type} (P:Program) (t:TypeId) (d:DataW H):Prop:=(d.weights P t).all (·≤reachBytes)=true
section
variable {H:Type} {enc:TypeId × Value→H} {P:Program}
theorem szd_all {e:TypeId}:∀{l:List (DataW H)},(DataW.weightsAll P e l).all (·≤reachBytes)=true→∀d∈l,Szd P e d
  | [],_,d,hd=>by simp at hd
  | x::r,h,d,hd=>by
    simp only [DataW.weightsAll,List.all_append,Bool.and_eq_true] at h
    rcases List.mem_cons.1 hd with rfl|hd
    · exact h.1
    · exact szd_all h.2 d hd
theorem Szd.slice {t e:TypeId} {elems spare:List (DataW H)} (h:Szd P t (.slice elems spare)) (ht:P.underlying t=some (.slice e)) :
    (elems.length+spare.length)*P.bytesOf e≤reachBytes∧∀d,d∈elems→Szd P e d:=by
  simp only [Szd,DataW.weights,ht,List.all_cons,List.all_append,Bool.and_eq_true,decide_eq_true_eq] at h
  exact ⟨h.1,szd_all h.2.1⟩
theorem szd_each {ts:List TypeId}:∀{ts:List TypeId} {l:List (DataW H)},(DataW.weightsEach P ts l).all (·≤reachBytes)=true→∀(j:Nat) t d,ts[j]?=some t→l[j]?=some d→Szd P t d
  | [],l,_,j,t,d,ht,_=>by simp at ht
  |_::_,[],_,j,t,d,_,hd=>by simp at hd
  | t0::ts,d0::l,h,0,t,d,ht,hd=>by
    simp only [DataW.weightsEach,List.all_append,Bool.and_eq_true] at h
    obtain rfl:t0=t:=by simpa using ht
    obtain rfl:d0=d:=by simpa using hd
    exact h.1
  | t0::ts,d0::l,h,j+1,t,d,ht,hd=>by
    simp only [DataW.weightsEach,List.all_append,Bool.and_eq_true] at h
    exact szd_each (ts:=[]) h.2 j t d (by simpa using ht) (by simpa using hd)

end

section
variable {H:Type} {enc:TypeId × Value→H} {P:Program} {w:World} {base:Nat} {held:Bool}
theorem add_sat (a:Addr) (h:a.spot=none) (k:Nat):a.add k=sat (some a) k:=by
  obtain ⟨b,off,spot⟩:=a
  obtain rfl:spot=none:=h
  simp only [sat,blkO,offO,Addr.add]
  split<;>simp_all
end
theorem HS.own_block {w0 w:World} {M:Nat→Prop} {H:List It} {T sz n cap:Nat} {o:Option Addr} {xs:List Value} (h:HS w0 M (own T sz o n cap xs::H) w) (hc:0<cap) :
    ∃b spare,o=some (bat b 0)∧n≤cap∧cap≤maxLen∧xs.length=n*sz∧xs.length+spare.length=cap*sz∧HS w0 M (cb b T (xs++spare)::H) w:=by
  obtain ⟨F0,hF0⟩:=h.sat (List.mem_cons_self ..)
  rcases hF0 with ⟨_,_,rfl,_⟩| ⟨b,spare,rfl,g2,g3,g4,g5,g6,g7⟩
  · omega
  refine ⟨b,spare,rfl,g4,g5,g3,g6,h.conv Rp.here fun F hF=>?_⟩
  rcases hF with ⟨h0,_⟩| ⟨b',spare',hb',q2,q3,q4,q5,q6,q7⟩
  · cases h0
  · obtain rfl:b=b':=by simpa using hb'
    exact ⟨q2,g7⟩
theorem HS.block_own {w0 w:World} {M:Nat→Prop} {H:List It} {T sz n cap b:Nat} {xs spare:List Value} (h:HS w0 M (cb b T (xs++spare)::H) w) (h1:xs.length=n*sz) (h2:n≤cap) (h3:cap≤maxLen) (h4:xs.length+spare.length=cap*sz) :
    HS w0 M (own T sz (some (bat b 0)) n cap xs::H) w:=
  h.conv Rp.here fun F ⟨q1,q2⟩=>.inr ⟨b,spare,rfl,q1,h1,h2,h3,h4,q2⟩
theorem bat_sat (b k j:Nat):sat (some (bat b k)) j=bat b (k+j):=rfl
theorem Rd.news {w:World} {a:Addr} {xs:List Value} (h:Rd w (some a) xs):∀j u,xs[j]?=some u→w.cell? (a.add j)=some u:=by
  intro j u hj
  obtain ⟨b,off,hb⟩:=h.1 (by have:=(List.getElem?_eq_some_iff.1 hj).1;omega)
  obtain rfl:a=⟨b,off,none⟩:=by simpa using hb
  rw [add_eq_sat]
  exact h.2 j u hj

section
variable {P:Program} {N:Nat} {l:List (Nat × Value)} {C:World→Prop} {d:Option Tmp} {T:TypeId} {pos:String} {af:Array Edge} {g:Option (Nat × Bool)}
theorem ex_eqlNil {t e ty:TypeId} {x y:Operand} {o:Option Addr} {n c:Nat} [ht:TSl P t e] (hx:ev l x=some (.slice o n c)) (hy:ev l y=some (.slice none 0 0)):Ex P N l C ⟨d,.binOp .eql t x y ty,T,pos,af,g⟩ (.bool o.isNone):=by
  intro a w hA _
  simp [execOp,hA.ev hx,hA.ev hy,eqGuard_at_slice,binOp,run_equal_slice_nil w t e o n c ht.eq]
theorem ex_max {ats:Array TypeId} {x y:Operand} {k k':IntKind} {m n:Int} (hx:ev l x=some (.int k m)) (hy:ev l y=some (.int k' n)):Ex P N l C ⟨d,.call ⟨.builtin .max,#[x,y],ats⟩,T,pos,af,g⟩ (.int k (if n > m then n else m)):=by
  intro a w hA _
  simp [execOp,resolve,invoke,builtin,hA.ev hx,hA.ev hy,run_max_int2]

theorem op_copy_cb {t e sz by_ m nd cd cs k b:Nat} {z:Value} {zs:List Value} {ad:Addr} {x y:Operand} {cells news:List Value} {ty:TypeId} {w0 w:World} {M:Nat→Prop} {H H':List It} [ht:TSl P t e] [hi:TIf P e z zs sz by_]
    (hx:ev l x=some (.slice (some (bat b k)) nd cd)) (hy:ev l y=some (.slice (some ad) m cs)) (hH:HS w0 M H w) (hnews:∀j u,news[j]?=some u→w.cell? (ad.add j)=some u) (hl:news.length=Nat.min m nd*sz)
    (h1:news.all (·.oneCell')=true) (hk:k+news.length≤cells.length) (hr:Rp H (cb b e cells) (cb b e (put cells k news)) H') :
    Op1 P N l ⟨d,.call ⟨.builtin .copy,#[x,y],#[t,ty]⟩,T,pos,af,g⟩ w (fun v w'=>v= .int .i64 (Nat.min m nd)∧HS w0 M H' w'):=by
  intro a hA K Q hK
  obtain ⟨ti,h3,h4,h5,h6⟩:=hi.eq
  obtain ⟨R,p,_⟩:=hr.split
  obtain ⟨F,hF1,hF2⟩:=hH.sat (p.symm.subset (List.mem_cons_self))
  have hload:(loadCells ad news.length).run P w= .ok news.toArray w:=run_loadCells_list (P:=P) w ad news hnews
  have hst:=run_storeCells_at (P:=P) b k e news 0 cells.toArray w hF2 (by simpa using hk) (fun x hx=>List.all_eq_true.1 h1 x hx)
  simp only [Nat.add_zero] at hst
  have hrun:(Builtin.copy_ #[t,ty] T #[.slice (some ⟨b,k,none⟩) nd cd,.slice (some ad) m cs]).run P w= .ok (.int .i64 (Nat.min m nd)) (w.setRow b (put cells k news).toArray):=by
    simp [Builtin.copy_,run_underlying ht.eq,Builtin.lenOf,Builtin.firstCells,sizeOf,typeInfo,h3,h5,←hl,hload,hst,goInt,put]
  unfold Oper.wp
  have e0:(some (bat b k):Option Addr)=some ⟨b,k,none⟩:=rfl
  simp only [execOp,resolve,invoke,builtin,Sem.run_bind,Sem.run_pure,Result.andThen_ok,List.map_toArray,List.map_cons,List.map_nil,hA.ev hx,hA.ev hy,e0,hrun,Oper.upon]
  exact hK _ _ ⟨rfl,hH.turn hr fun F' hF'=>⟨setRow_kp w b _ F' ((hF'.1 b).2 rfl),F',⟨hF'.1,setRow_heap w b _ _ _ _ hF2⟩,fun b hb=>.inr hb⟩⟩

end
theorem made_flatN {α:Type} {enc:α→List Value} {z:Value} {zs:List Value} {x:α} {sz:Nat} (henc:∀x,(enc x).length=sz) (hz:z.cells.toList=zs) (he:enc x=zs) (hsz:0<sz) (n:Nat):(madeCells z.cells (n*sz)).toList.take (n*sz)=flat enc (List.replicate n x):=by
  have hs:z.cells.size=sz:=by rw [←henc x,he,←hz];simp
  rw [List.take_of_length_le (by simp [size_madeCells])]
  apply List.ext_getElem?
  intro i
  by_cases hi:i<n*sz
  · have hm:i % sz<sz:=Nat.mod_lt _ hsz
    have hd:i / sz<n:=by
      rw [Nat.div_lt_iff_lt_mul hsz]
      exact hi
    obtain ⟨v,hv⟩:∃v,(enc x)[i % sz]?=some v:=⟨_,List.getElem?_eq_getElem (by rw [henc];exact hm)⟩
    have h1:=flat_get henc (l:=List.replicate n x) (i:=i / sz) (off:=i % sz) (x:=x) (by simp [hd]) hv
    rw [show i / sz*sz+i % sz=i by rw [Nat.mul_comm];exact Nat.div_add_mod i sz] at h1
    rw [h1]
    rw [he,←hz] at hv
    have h2:i % z.cells.size<z.cells.size:=by rw [hs];exact hm
    have h3:z.cells[i % sz]?=some v:=by simpa using hv
    simp only [madeCells,Array.toList_map,Array.toList_range]
    rw [List.getElem?_map,List.getElem?_range hi,Option.map_some,hs]
    rw [getElem!_def,h3]
  · have h1:(flat enc (List.replicate n x)).length=n*sz:=by rw [flat_length henc,List.length_replicate]
    rw [List.getElem?_eq_none (by rw [Array.length_toList,size_madeCells];omega),List.getElem?_eq_none (by omega)]
section
variable {P:Program} {N:Nat} {l:List (Nat × Value)} {C:World→Prop} {d:Option Tmp} {T:TypeId} {pos:String} {af:Array Edge} {g:Option (Nat × Bool)}
theorem op_make {α:Type} (enc:α→List Value) (x0:α) {t e sz by_:Nat} {z:Value} {zs:List Value} {x y:Operand} {kl kc:IntKind} {n:Nat} {m m':Int} {w0 w:World} {M:Nat→Prop} {H:List It} [ht:TSl P t e] [hi:TIf P e z zs sz by_]
    (hx:ev l x=some (.int kl m)) (hy:ev l y=some (.int kc m')) (hm:m=(n:Int)) (hm':m'=(n:Int)) (hc:n≤maxLen) (hb:by_* n≤140737488355328) (henc:∀x,(enc x).length=sz) (he:enc x0=zs) (hsz:0<sz) (hH:HS w0 M H w) :
    Op1 P N l ⟨d,.makeSlice t x y,T,pos,af,g⟩ w (fun v w'=>∃o,v= .slice o n n∧HS w0 M (own e sz o n n (flat enc (List.replicate n x0))::H) w'):=by
  subst hm;subst hm'
  have:=op_makeSlice (P:=P) (N:=N) (l:=l) (d:=d) (T:=T) (pos:=pos) (af:=af) (g:=g) (t:=t) (e:=e) hx hy (Nat.le_refl n) hc hb hH
  rw [made_flatN henc hi.zc he hsz] at this
  exact this
theorem ex_build_p {t sz by_:Nat} {z:Value} {zs:List Value} {fl:List (Nat × Nat)} {ps:Array (Nat × Operand)} {vs:List Value} (cs:Array Value) [h:TSt P t fl] [hi:TIf P t z zs sz by_]
    (hv:evL l (ps.toList.map (·.2))=some vs) (hsz:∀p∈fl,∃i,P.info? p.1=some i∧i.size=1) (hf:Instr.fill ((fl.map (fun p=>(p.2,1)))[·]?) zs.toArray ((ps.toList.map (·.1)).zip vs)=some cs) :
    Ex P N l C ⟨d,.build t ps,T,pos,af,g⟩ (.agg cs):=by
  have hrun:∀(fl:List (Nat × Nat)) (w:World),(∀p∈fl,∃i,P.info? p.1=some i∧i.size=1)→(fl.mapM (fun p=>do pure (p.2,←sizeOf p.1)):Sem (List (Nat × Nat))).run P w= .ok (fl.map (fun p=>(p.2,1))) w:=by
    intro fl w
    induction fl with
    |nil=>intro _;simp
    | cons p fl ih=>
      intro hp
      obtain ⟨i,hi1,hi2⟩:=hp p (by simp)
      have:=ih fun q hq=>hp q (by simp [hq])
      simp only [List.mapM_cons,Sem.run_bind,sizeOf,typeInfo,run_program,Result.andThen_ok,hi1,Sem.run_pure,hi2] at this ⊢
      rw [this]
      simp
  have hzc:z.cells=zs.toArray:=by apply Array.ext';simpa using hi.zc
  exact ex_build (szs:=fl.map (fun p=>(p.2,1))) (fun w=>hrun fl w hsz) hv (by rw [hzc];exact hf)
end
section
variable {P:Program} {ops:Array Oper} {S:World→Prop} {Q:Exit→Act→World→Prop} {K:Act→World→Prop} {k:Array Bool→Bool} {m:Nat}
end
theorem Op1.mono {P:Program} {N:Nat} {l:List (Nat × Value)} {o:Oper} {w:World} {R R':Value→World→Prop} (h:Op1 P N l o w R) (hr:∀v w',R v w'→R' v w'):Op1 P N l o w R':=
  fun a hA K Q hK=>h a hA K Q fun v w' h'=>hK v w' (hr v w' h')

section
variable {P:Program} {N:Nat} {l:List (Nat × Value)} {Ds:List Deferred} {ops:Array Oper} {Q:Exit→Act→World→Prop} {K:Act→World→Prop} {w0:World} {M:Nat→Prop} {H:List It}
end
section
variable {P:Program} {N:Nat} {l:List (Nat × Value)} {a:Act} {Ds:List Deferred} {w:World} {ops:Array Oper} {S:World→Prop} {Q:Exit→Act→World→Prop} {K:Act→World→Prop} {i:Nat} {π:List (Nat × Nat)}
end
theorem then_mono {K R:Act→World→Prop} {Q:Exit→Act→World→Prop} (k:∀a w,R a w→K a w):∀e a w,Exit.then R Q e a w→Exit.then K Q e a w:=by
  intro e a w h
  cases e with
  |normal=>exact k _ _ h
  |_=>exact h
section
variable {P:Program} {N:Nat} {l:List (Nat × Value)} {C:World→Prop} {d:Option Tmp} {T:TypeId} {pos:String} {af:Array Edge} {g:Option (Nat × Bool)}
theorem ex_eqlPn {t ty:TypeId} {x y:Operand} {p:Option Addr} [h:TPt P t] (hx:ev l x=some (.pointer p)) (hy:ev l y=some (.pointer none)):Ex P N l C ⟨d,.binOp .eql t x y ty,T,pos,af,g⟩ (.bool p.isNone):=by
  intro a w hA _
  simp [execOp,hA.ev hx,hA.ev hy,eqGuard_at_pointer,run_eql_pointer_nil w t p h.eq]
theorem ex_neqPn {t ty:TypeId} {x y:Operand} {p:Option Addr} [h:TPt P t] (hx:ev l x=some (.pointer p)) (hy:ev l y=some (.pointer none)):Ex P N l C ⟨d,.binOp .neq t x y ty,T,pos,af,g⟩ (.bool (!p.isNone)):=by
  intro a w hA _
  simp [execOp,hA.ev hx,hA.ev hy,eqGuard_at_pointer,run_neq_pointer_nil w t p h.eq]
theorem ex_eqlPt {t ty:TypeId} {x y:Operand} [h:TPt P t] (hx:ev l x=some (.pointer none)) (hy:ev l y=some (.pointer none)):Ex P N l C ⟨d,.binOp .eql t x y ty,T,pos,af,g⟩ (.bool true):=ex_eqlPn (h:=h) hx hy
theorem ex_eqlPf {t ty:TypeId} {x y:Operand} {p:Addr} [h:TPt P t] (hx:ev l x=some (.pointer (some p))) (hy:ev l y=some (.pointer none)):Ex P N l C ⟨d,.binOp .eql t x y ty,T,pos,af,g⟩ (.bool false):=ex_eqlPn (h:=h) hx hy
theorem ex_neqPf {t ty:TypeId} {x y:Operand} [h:TPt P t] (hx:ev l x=some (.pointer none)) (hy:ev l y=some (.pointer none)):Ex P N l C ⟨d,.binOp .neq t x y ty,T,pos,af,g⟩ (.bool false):=ex_neqPn (h:=h) hx hy
theorem ex_neqPt {t ty:TypeId} {x y:Operand} {p:Addr} [h:TPt P t] (hx:ev l x=some (.pointer (some p))) (hy:ev l y=some (.pointer none)):Ex P N l C ⟨d,.binOp .neq t x y ty,T,pos,af,g⟩ (.bool true):=ex_neqPn (h:=h) hx hy
end
theorem inB_mono {id:Nat} {Q Q':Exit→Act→World→Prop} (h:∀e a w,Q e a w→Q' e a w):∀e a w,Exit.inBlock id Q e a w→Exit.inBlock id Q' e a w:=by
  intro e a w he
  cases e<;>simp only [Exit.inBlock] at he ⊢<;>first|exact h _ _ _ he|(split at he<;>rename_i hc<;>simp only [hc]<;>exact h _ _ _ he)
theorem st_join {P:Program} {ops:Array Oper} {ls:List Oper} {a:Act} {w:World} {c2:Code} {K:Act→World→Prop} {Q:Exit→Act→World→Prop} (R:Act→World→Prop)
    (h:wpList P ops (Exit.then (c2.wp P (Exit.then R Q)) (Exit.then R Q)) ls a w) (k:∀a w,R a w→K a w):wpList P ops (Exit.then (c2.wp P (Exit.then K Q)) (Exit.then K Q)) ls a w:=by
  induction ls generalizing a w with
  |nil=>exact Code.wp_mono (then_mono k) (show c2.wp P (Exit.then R Q) a w from h)
  | cons o rest ih=>
    unfold wpList at h ⊢
    split
    · rename_i hw
      rw [if_pos hw] at h
      rcases h with h| ⟨h1,h2⟩
      · refine .inl (Oper.wp_mono (K:=wpList P ops (Exit.then (c2.wp P (Exit.then R Q)) (Exit.then R Q)) rest) (fun a w h=>ih h) ?_)
        unfold Oper.wp at *
        generalize (execOp a.eval o).run P w=r at *
        cases r with
        |ok n w'=>cases n<;>simp only [Oper.upon] at h ⊢<;>exact h
        |halt x w'=>cases x<;>simp only [Oper.upon] at h ⊢<;>exact h
      · exact .inr ⟨h1,by obtain ⟨a',w3,h3⟩:=h2;exact ⟨a',w3,h3⟩⟩
    · rename_i hw
      rw [if_neg hw] at h
      exact ih h
section
variable {w0 w:World} {M:Nat→Prop} {p q r:It}
end
theorem wp_lpk {P:Program} {a:Act} {w:World} {id:Nat} {Q0:Exit→Act→World→Prop} {c:Code} {S:Type} (I:S→Act→World→Prop) (μ:S→Nat) (R:Act→World→Prop) (s:S) (h₀:I s a w)
    (round:∀s a w,I s a w→c.wp P (Exit.then (fun a' w'=>∃s',I s' a' w'∧μ s'<μ s) (Exit.inBlock id (Exit.then R Q0))) a w) (k:∀a w,R a w→Q0 .normal a w):(Code.loop c).wp P (Exit.inBlock id Q0) a w:=
  Code.wp_mono (inB_mono (fun e a w he=>by
    cases e with
    |normal=>exact k _ _ he
    |_=>exact he)) (wp_lp I μ s h₀ round)
structure Wr (p:Prop):Prop where
  out:p
theorem EXT2 {P:Program} {N:Nat} {l:List (Nat × Value)} {C:World→Prop} {o:Oper} {v:Value} (h:Ex P N l C o v:=by
  first
  |(apply ex_load;rfl;exact cl_w (by assumption) id)
  |(apply ex_load;rfl;exact cl_rd (by assumption) id (by assumption))
  |(apply ex_load;rfl;apply cl_own;exact MEMT;assumption)
  |(apply ex_load_st;rfl;rotate_left;exact cls_rd (by assumption) id (by assumption);rfl)
  |(apply ex_eqlPf;rfl;rfl)
  |(apply ex_eqlPt;rfl;rfl)
  |(apply ex_neqPt;rfl;rfl)
  |(apply ex_neqPf;rfl;rfl)
  |(apply ex_eqlNil;rfl;rfl)
  |(apply ex_max;rfl;rfl)
  |(apply ex_rem;rfl;rfl;first|decide|omega)
  |(apply ex_quo;rfl;rfl;first|decide|omega)):Ex P N l C o v:=h
theorem STT {p:Prop} (h:p:=by first|exact hH.drop_|exact hH.pick MEMT|exact hH):p:=h
theorem FA {G:Prop} (h:G:=by
  first
  |(exfalso;have h1:=of_decide_eq_true hg;omega)
  |(exfalso;have h1:=of_decide_eq_false hg;omega)
  |exact absurd hg (by decide)):G:=h
theorem QT {G G':Prop} (k:G') (h:Wr G'→G:=by
  intro k
  first
  |(apply st_ex hA hH rfl rfl (by decide);(first|exact EXT|exact EXT2);exact k.out)
  |(apply st_skip hA rfl rfl (by decide);exact k.out)
  |((first|apply dr_ex hA rfl rfl rfl (by decide)|apply dr_exp hA rfl rfl rfl (by decide)|apply dr_ex3 hA hH rfl rfl rfl (by decide));(first|exact EXT|exact EXT2);exact k.out)
  |((first|apply dr_skip hA rfl rfl rfl (by decide)|apply dr_skip3 hA rfl rfl rfl (by decide));exact k.out)):G:=h ⟨k⟩
theorem GT {G G1 G2:Prop} (k1:G1) (k2:G2) (h:Wr G1→Wr G2→G:=by
  intro k1 k2
  first
  |(apply st_exb hA hH rfl rfl (by decide) rfl (ex_move rfl);exact k1.out;exact k2.out)
  |(apply dr_exb hA rfl rfl rfl (by decide) rfl (ex_move rfl);exact k1.out;exact k2.out)):G:=h ⟨k1⟩ ⟨k2⟩
theorem CT {G G':Prop} (k:G') (h:Wr G'→G:=by
  intro k
  first|apply wp_seq|apply wp_region_lit|apply st_nil|apply then_normal|apply wp_block|apply st_cond_t hA rfl|apply st_cond_f hA rfl|apply wp_ret|apply wp_skip|apply wp_exit|apply then_ret|apply then_exit|apply inB_normal|apply inB_ret|apply inB_eq|apply inB_ne rfl|apply dr_nil|apply dr_late|apply dr_nil2|apply wp_scope_straight|apply wp_label|apply ng_normal|apply ng_ret
  repeat (first|apply wp_seq|apply wp_region_lit|apply st_nil|apply then_normal|apply wp_block|apply st_cond_t hA rfl|apply st_cond_f hA rfl|apply wp_ret|apply wp_skip|apply wp_exit|apply then_ret|apply then_exit|apply inB_normal|apply inB_ret|apply inB_eq|apply inB_ne rfl|apply dr_nil|apply dr_late|apply dr_nil2|apply wp_scope_straight|apply wp_label|apply ng_normal|apply ng_ret)
  exact k.out):G:=h ⟨k⟩
theorem DT {G G1 G2:Prop} (k1:G1) (k2:G2) (h:Wr G1→Wr G2→G:=by
  intro k1 k2
  first
  |(apply st_cond_d hA rfl;exact k1.out;exact k2.out)
  |(apply st_cond_nd hA rfl;exact k1.out;exact k2.out)
  |(apply st_cond hA rfl;exact k1.out;exact k2.out)):G:=h ⟨k1⟩ ⟨k2⟩
theorem BT {G G':Prop} (k:G') (h:Wr G'→G:=by
  intro k
  apply st_op hA rfl rfl (by decide)
  (first|apply op_alloc|(apply op_box_agg;rfl)|(apply op_box1;rfl;rfl))
  exact hH
  exact k.out):G:=h ⟨k⟩
theorem LT {G G':Prop} (k:G') (h:Wr G'→G:=by
  intro k
  apply st_op hA rfl rfl (by decide)
  apply op_sliceLit
  rfl
  rfl
  exact CATST
  rfl
  rfl
  rfl
  exact hH
  exact k.out):G:=h ⟨k⟩
theorem AT {G G':Prop} (k:G') (h:Wr G'→G:=by
  intro k
  apply st_op hA rfl rfl (by decide)
  apply op_append
  rfl
  rfl
  exact hH
  exact MEMT
  exact hH.own_rd (List.Mem.head _)
  rfl
  rfl
  decide
  rfl
  (unfold maxLen;omega)
  omega
  exact k.out):G:=h ⟨k⟩
theorem S0T {G G':Prop} (k:G') (h:Wr G'→G:=by
  intro k
  apply st_op0 hA rfl rfl
  (first|(apply op_store1;rfl;rfl;rfl;exact hH;(repeat constructor))|(apply op_store_agg;rfl;rfl;exact hH;(repeat constructor);rfl;rfl;rfl))
  exact k.out):G:=h ⟨k⟩
theorem DSK {G G':Prop} (k:G') (h:Wr G'→G:=by
  intro k
  apply dr_opskip hA rfl rfl rfl (by decide) STT
  exact k.out):G:=h ⟨k⟩
theorem DLT {G G':Prop} (k:G') (h:Wr G'→G:=by
  intro k
  apply dr_op hA rfl rfl rfl (by decide)
  apply op_sliceLit
  rfl
  rfl
  exact CATST
  rfl
  rfl
  rfl
  exact hH
  exact k.out):G:=h ⟨k⟩
theorem DAT {G G':Prop} (k:G') (h:Wr G'→G:=by
  intro k
  apply dr_op hA rfl rfl rfl (by decide)
  apply op_append
  rfl
  rfl
  exact hH
  exact MEMT
  exact hH.own_rd (List.Mem.head _)
  rfl
  rfl
  decide
  rfl
  (unfold maxLen;omega)
  omega
  exact k.out):G:=h ⟨k⟩
theorem PMT {l r:List It} (h:l.Perm r:=by repeat (first|exact List.Perm.refl _|exact List.Perm.nil|refine perm_pick 0 rfl ?_|refine perm_pick 1 rfl ?_|refine perm_pick 2 rfl ?_|refine perm_pick 3 rfl ?_|refine perm_pick 4 rfl ?_|refine perm_pick 5 rfl ?_|refine perm_pick 6 rfl ?_|refine perm_pick 7 rfl ?_|refine perm_pick 8 rfl ?_|refine perm_pick 9 rfl ?_|refine perm_pick 10 rfl ?_|refine perm_pick 11 rfl ?_)):l.Perm r:=h
theorem SBT {l r:List (Nat × Value)} (h:Subs l r:=by (repeat (first|exact trivial|refine ⟨rfl,?_⟩));first|done|fail "sub"):Subs l r:=h
theorem XE {E K:Value→Prop} {v:Value} (e:E v) (k:K v):∃v,E v∧K v:=⟨v,e,k⟩
theorem XT {G:Prop} {E K:Value→Prop} (x:∃v,E v∧K v) (h:∀v,E v→K v→G:=by intro v e k;first|exact st_ex (v:=v) hA hH rfl rfl (by decide) e k|exact dr_ex (v:=v) hA rfl rfl rfl (by decide) e k|exact dr_exp (v:=v) hA rfl rfl rfl (by decide) e k|exact dr_ex3 (v:=v) hA hH rfl rfl rfl (by decide) e k):G:=let ⟨v,e,k⟩:=x;h v e k
theorem dTr {p:Prop} [Decidable p] (h:decide p=true):p:=of_decide_eq_true h
theorem dFa {p:Prop} [Decidable p] (h:decide p=false):¬p:=of_decide_eq_false h
theorem ENT {P:Program} {N:Nat} {w:World} {l:List (Nat × Value)} {k:FuncId} {fn:Func} {c:Code} {args:List Value} {R:Value→World→Prop} (hf:P.funcs[k]?=some fn) (hn:fn.ntmps=N) (h:∀a,Sl N l a→c.wp P (bodyPost P fn fun e w'=>∃v,e= .returned v∧R v w') a w) (hb:fn.body=some c:=by rfl) (hle0:Nat.ble args.length N=true:=by rfl) (hl:sl0 0 args=l:=by dsimp only [sl0,Nat.reduceAdd]<;>exact rfl):Ret P k args.toArray w R:=enter hf hb hn hle0 fun a hA=>h a (hl▸hA)
theorem SAT {P:Program} {N:Nat} {l:List (Nat × Value)} {a:Act} {Ds:List Deferred} {w0 w:World} {M:Nat→Prop} {H H':List It} {ops:Array Oper} {rest:List Oper} {Q:Exit→Act→World→Prop} {T:TypeId} {pos:String} {af:Array Edge} {g:Option (Nat × Bool)} {t sz by_ b Tb:Nat} {z:Value} {zs cs:List Value} {x y:Operand} [hi:TIf P t z zs sz by_] (vs:List Value) (hA:Sl N l a Ds) (hH:HS w0 M H w) (k:∀w,HS w0 M H' w→wpList P ops Q rest a w)
    (hg:gd ops l g=some true:=by rfl) (hx:ev l x=some (.pointer (some (bat b 0))):=by rfl) (hy:ev l y=some (.agg vs.toArray):=by rfl) (hr:Rp H (cb b Tb cs) (cb b Tb vs) H':=by repeat constructor) (hl:vs.length=sz:=by rfl) (hl2:cs.length=sz:=by rfl) (h1:vs.all (·.oneCell')=true:=by rfl):wpList P ops Q (⟨none,.store t x y,T,pos,af,g⟩::rest) a w:=
  st_op0 hA hg rfl (op_store_agg hx hy hH hr hl hl2 h1) fun _ w' h=>k w' h
theorem FLT {P:Program} {fl:List (Nat × Nat)} (h:∀p∈fl,∃i,P.info? p.1=some i∧i.size=1:=by (repeat (first|(intro _ h;exact absurd h (List.not_mem_nil))|(refine List.forall_mem_cons.2 ⟨one_cell_of _ _,?_⟩)))):∀p∈fl,∃i,P.info? p.1=some i∧i.size=1:=h
inductive Pl where
  |nil
  |q (i:Nat) (t:Pl)
  |one (i:Nat) (t:Pl)
  |two (i j:Nat) (t u:Pl)
def Pl.len:Pl→Nat
  | .nil=>0
  | .q _ t=>t.len+1
  | .one _ t=>t.len+1
  | .two _ _ t _=>t.len+1
def qs:List Nat→Pl→Pl
  | [],t=>t
  |i::l,t=>.q i (qs l t)
def okT (ops:Array Oper):Pl→Array Bool→Bool
  | .nil,listed=>decide (Region.ready .any ops listed=[])
  | .q i t,listed=>(Region.ready .any ops listed).contains i && Region.free .any ops listed i && okT ops t (listed.setIfInBounds i true)
  | .one i t,listed=>decide (Region.ready .any ops listed=[i]) && okT ops t (listed.setIfInBounds i true)
  | .two i j t u,listed=>Nat.beq t.len u.len && decide (Region.ready .any ops listed=[i,j]) && okT ops t (listed.setIfInBounds i true) && okT ops u (listed.setIfInBounds j true)
def wkT (P:Program) (ops:Array Oper) (S:World→Prop) (Q:Exit→Act→World→Prop) (K:Act→World→Prop):Pl→Act→World→Prop
  | .nil,a,w=>K a w
  | .q i t,a,w=>∃o v,ops[i]?=some o∧YieldsIf P ops S o v a∧wkT P ops S Q K t (a.put o.dst v) w
  | .one i t,a,w=>wpOp P ops (NoPanic Q) i (fun a' w'=>S w'∧wkT P ops S Q K t a' w') a w
  | .two i j t u,a,w=>wpOp P ops (NoPanic Q) i (fun a' w'=>S w'∧wkT P ops S Q K t a' w') a w∧wpOp P ops (NoPanic Q) j (fun a' w'=>S w'∧wkT P ops S Q K u a' w') a w
section
variable {P:Program} {ops:Array Oper} {S:World→Prop} {Q:Exit→Act→World→Prop} {K:Act→World→Prop}
theorem wkT_any (hs:Region.noSelect ops=true) (hK:∀a w,K a w→Q .normal a w):∀(t:Pl) (listed:Array Bool) (a:Act) (w:World),
    okT ops t listed=true→S w→wkT P ops S Q K t a w→wpAnyK P .any ops (NoPanic Q) S (fun _=>true) t.len listed a w
  | .nil,listed,a,w,hok,hS,h=>⟨of_decide_eq_true hok,hK a w h⟩
  | .q i t,listed,a,w,hok,hS,h=>by
    simp only [okT,Bool.and_eq_true] at hok
    obtain ⟨⟨hr,hf⟩,hok'⟩:=hok
    obtain ⟨o,v,hi,hy,hk⟩:=h
    exact wpAnyK.first hi (Region.noSelect_spec hs) (fun c a w h=>h) _ listed a w (fun j hF=>by cases hF) (Region.free_spec hi hf) (by simpa using hr) hy hS (wkT_any hs hK t _ _ w hok' hS hk)
  | .one i t,listed,a,w,hok,hS,h=>by
    simp only [okT,Bool.and_eq_true,decide_eq_true_eq] at hok
    refine ⟨fun h0=>(by rw [hok.1] at h0;cases h0),fun j hj=>?_⟩
    rw [hok.1] at hj
    obtain rfl:j=i:=by simpa using hj
    exact wpOp_mono (fun a' w' ⟨hS',h'⟩=>⟨fun _ _=>hS',wkT_any hs hK t _ a' w' hok.2 hS' h'⟩) h
  | .two i k t u,listed,a,w,hok,hS,h=>by
    simp only [okT,Bool.and_eq_true,decide_eq_true_eq] at hok
    obtain ⟨⟨⟨hl,hr⟩,ht⟩,hu⟩:=hok
    have hl:=Nat.eq_of_beq_eq_true hl
    refine ⟨fun h0=>(by rw [hr] at h0;cases h0),fun j hj=>?_⟩
    rw [hr] at hj
    rcases (by simpa using hj:j=i∨j=k) with rfl|rfl
    · exact wpOp_mono (fun a' w' ⟨hS',h'⟩=>⟨fun _ _=>hS',wkT_any hs hK t _ a' w' ht hS' h'⟩) h.1
    · exact wpOp_mono (fun a' w' ⟨hS',h'⟩=>⟨fun _ _=>hS',by rw [hl];exact wkT_any hs hK u _ a' w' hu hS' h'⟩) h.2
end
theorem wp_drawT {P:Program} {id:Nat} {ops:List Oper} {Q:Exit→Act→World→Prop} {a:Act} {w0 w:World} {M:Nat→Prop} {H:List It} (t:Pl) (R:Act→World→Prop) (hm:P.follows .mixedOrders=true)
    (hok:(Region.noSelect ops.toArray && Nat.beq t.len ops.length && okT ops.toArray t (Array.replicate ops.length false))=true) (hH:HS w0 M H w)
    (h:wkT P ops.toArray (HS w0 M H) Q R t a w.drew) (k:∀a w,R a w→Q .normal a w):(Code.region id ops.toArray true).wp P Q a w:=by
  simp only [Bool.and_eq_true] at hok
  obtain ⟨⟨hs,hl⟩,hok⟩:=hok
  have hl':t.len=ops.toArray.size:=by simpa using Nat.eq_of_beq_eq_true hl
  have:=wkT_any (P:=P) (Q:=Q) hs k t _ a w.drew hok hH.drew h
  rw [hl'] at this
  refine wp_region_noPanic (wp_region_any hm (wpAnyK.any (S:=HS w0 M H) (F:=fun _=>true) _ _ _ _ ?_))
  simpa using this
section
variable {P:Program} {N:Nat} {l:List (Nat × Value)} {a:Act} {Ds:List Deferred} {w:World} {ops:Array Oper} {S:World→Prop} {Q:Exit→Act→World→Prop} {K:Act→World→Prop} {i j:Nat} {t u:Pl}
theorem dt_nil (h:K a w):wkT P ops S Q K .nil a w:=h
theorem dt_ex {o:Oper} {d:Nat} {v:Value} (hA:Sl N l a Ds) (hi:ops[i]?=some o) (hg:gd ops l o.guard=some true) (hd:o.dst=some d) (hdN:d<N)
    (h:Ex P N l S o v) (k':∀a',Sl N ((d,v)::l) a' Ds→wkT P ops S Q K t a' w):wkT P ops S Q K (.q i t) a w:=by
  refine ⟨o,v,hi,.inl ⟨hA.gd hg,fun w' hS=>h a w' hA.toSl0 hS⟩,?_⟩
  rw [hd]
  exact k' _ (hA.put hdN v)
theorem dt_op {o:Oper} {d:Nat} {R:Value→World→Prop} (hA:Sl N l a Ds) (hi:ops[i]?=some o) (hg:gd ops l o.guard=some true) (hd:o.dst=some d) (hdN:d<N)
    (h:Op1 P N l o w R) (k:∀v w',R v w'→S w'∧∀a',Sl N ((d,v)::l) a' Ds→wkT P ops S Q K t a' w'):wkT P ops S Q K (.one i t) a w:=by
  unfold wkT wpOp
  simp only [hi,hA.gd hg,if_true]
  refine .inl (h a hA.toSl0 _ _ fun v w' hR=>?_)
  rw [hd]
  exact ⟨(k v w' hR).1,(k v w' hR).2 _ (hA.put hdN v)⟩
theorem dt_op0 {o:Oper} {R:Value→World→Prop} (hA:Sl N l a Ds) (hi:ops[i]?=some o) (hg:gd ops l o.guard=some true) (hd:o.dst=none)
    (h:Op1 P N l o w R) (k:∀v w',R v w'→S w'∧wkT P ops S Q K t a w'):wkT P ops S Q K (.one i t) a w:=by
  unfold wkT wpOp
  simp only [hi,hA.gd hg,if_true]
  refine .inl (h a hA.toSl0 _ _ fun v w' hR=>?_)
  rw [hd]
  exact k v w' hR
theorem dt_two (h1:wkT P ops S Q K (.one i t) a w) (h2:wkT P ops S Q K (.one j u) a w):wkT P ops S Q K (.two i j t u) a w:=⟨h1,h2⟩
end
def bts (s:ByteArray):List Nat:=s.data.toList.map (·.toNat)
theorem bts_len (s:ByteArray):(bts s).length=s.size:=by simp [bts]
section
variable {P:Program} {N:Nat} {l:List (Nat × Value)} {C:World→Prop} {d:Option Tmp} {T:TypeId} {pos:String} {af:Array Edge} {g:Option (Nat × Bool)}
theorem ex_len_string {t:TypeId} {x:Operand} {s:ByteArray} [ht:TSr P t] (hx:ev l x=some (.string s)) :
    Ex P N l C ⟨d,.call ⟨.builtin .len,#[x],#[t]⟩,T,pos,af,g⟩ (.int .i64 (bts s).length):=by
  intro a w hA _
  rw [bts_len]
  simp [execOp,resolve,invoke,builtin,Builtin.len_,hA.ev hx,run_underlying ht.eq,goInt]
theorem ex_eqlS {t ty:TypeId} {x y:Operand} {m n:ByteArray} [h:TSr P t] (hx:ev l x=some (.string m)) (hy:ev l y=some (.string n)):Ex P N l C ⟨d,.binOp .eql t x y ty,T,pos,af,g⟩ (.bool (m.toList == n.toList)):=by
  intro a w hA _
  simp [execOp,hA.ev hx,hA.ev hy,eqGuard_at_string,binOp,Op.stringOp]
theorem push_ofB (l:List Nat):∀(s:ByteArray),((l.map fun (b:Nat)=>(b:Int)).foldl (fun r n=>r.push (UInt8.ofNat n.toNat)) s)=⟨s.data++(l.map UInt8.ofNat).toArray⟩:=by
  induction l with
  |nil=>intro s;simp
  | cons b l ih=>
    intro s
    rw [List.map_cons,List.foldl_cons,ih]
    simp [ByteArray.push]
theorem bytes_kp (w:World) (e:TypeId) (s:ByteArray):Kp w noM (Lib.bytesWorld w e s) where
  os:=by unfold Lib.bytesWorld World.freeze;split<;>rfl
  tape:=by unfold Lib.bytesWorld World.freeze;split<;>rfl
  output:=by unfold Lib.bytesWorld World.freeze;split<;>rfl
  size:=by rw [Lib.bytesWorld_size];omega
  block:=fun b hb _=>Lib.bytesWorld_at_old w e s b hb
end
def lateN (n:Nat) (ops:Array Oper) (π2:List Nat) (listed:Array Bool) (i:Nat):Bool:=
  π2.all fun j=>beh ops listed i n j
def okM (n:Nat) (ops:Array Oper) (π2:List Nat):List (Nat × Nat)→Array Bool→Bool
  | [],listed=>okL ops π2 listed
  |(i,0)::π,listed=>decide (Region.ready .any ops listed=[i]) && okM n ops π2 π (listed.setIfInBounds i true)
  |(i,1)::π,listed=>(Region.ready .any ops listed).contains i && Region.free .any ops listed i && lateN n ops π2 listed i && okM n ops π2 π (listed.setIfInBounds i true)
  |(i,_+2)::π,listed=>(Region.ready .any ops listed).contains i && Region.free .any ops listed i && okM n ops π2 π (listed.setIfInBounds i true)
theorem lateN_spec {n:Nat} {ops:Array Oper} {π2:List Nat} {listed:Array Bool} {i:Nat} (h:lateN n ops π2 listed i=true):∀j,(!π2.contains j)=false→Rch .any ops listed i j:=by
  intro j hc
  have hm:j∈π2:=by simpa using hc
  exact beh_spec n j (List.all_eq_true.1 h j hm)
theorem wpAny_wkM {n:Nat} {P:Program} {ops:Array Oper} {S:World→Prop} {Q:Exit→Act→World→Prop} (hs:Region.noSelect ops=true) (π2:List Nat):∀(π:List (Nat × Nat)) (listed:Array Bool) (a:Act) (w:World),
    okM n ops π2 π listed=true→S w→wkD P ops S Q π2 π a w→wpAnyK P .any ops (NoPanic Q) S (fun j=>!π2.contains j) (π.length+π2.length) listed a w
  | [],listed,a,w,hok,hS,h=>by
    have:=wk2_any (S:=S) (F:=fun j=>!π2.contains j) π2 listed a w (fun i hi=>by simpa using hi) hok h
    simpa using this
  | (i,1)::π,listed,a,w,hok,hS,h=>by
    simp only [okM,Bool.and_eq_true] at hok
    obtain ⟨⟨⟨hr,hf⟩,hl⟩,hok'⟩:=hok
    obtain ⟨o,v,hi,hy,hk⟩:=h
    have:=wpAny_wkM hs π2 π _ _ w hok' hS hk
    have e:((i,1)::π).length+π2.length=(π.length+π2.length)+1:=by simp;omega
    rw [e]
    exact wpAnyK.first hi (Region.noSelect_spec hs) (fun c a w h=>h) _ listed a w (lateN_spec hl) (Region.free_spec hi hf) (by simpa using hr) hy hS this
  | (i,k+2)::π,listed,a,w,hok,hS,h=>by
    simp only [okM,Bool.and_eq_true] at hok
    obtain ⟨⟨hr,hf⟩,hok'⟩:=hok
    obtain ⟨o,v,hi,hy,hk⟩:=h
    have:=wpAny_wkM hs π2 π _ _ w hok' hS hk
    have e:((i,k+2)::π).length+π2.length=(π.length+π2.length)+1:=by simp;omega
    rw [e]
    exact wpAnyK.firstp hi (Region.noSelect_spec hs) (fun c a w h=>h) _ listed a w (Region.free_spec hi hf) (by simpa using hr) hy this
  | (i,0)::π,listed,a,w,hok,hS,h=>by
    simp only [okM,Bool.and_eq_true,decide_eq_true_eq] at hok
    have e:((i,0)::π).length+π2.length=(π.length+π2.length)+1:=by simp;omega
    rw [e]
    refine ⟨fun h0=>(by rw [hok.1] at h0;cases h0),fun j hj=>?_⟩
    rw [hok.1] at hj
    obtain rfl:j=i:=by simpa using hj
    exact wpOp_mono (fun a' w' ⟨hS',h'⟩=>⟨fun _ _=>hS',wpAny_wkM hs π2 π _ a' w' hok.2 hS' h'⟩) h
theorem wp_draw3_HS (n:Nat) {P:Program} {id:Nat} {ops:List Oper} {Q:Exit→Act→World→Prop} {a:Act} {w0 w:World} {M:Nat→Prop} {H:List It} (π:List (Nat × Nat)) (π2:List Nat) (hm:P.follows .mixedOrders=true)
    (hok:(Region.noSelect ops.toArray && Nat.beq (π.length+π2.length) ops.length && okM n ops.toArray π2 π (Array.replicate ops.length false))=true) (hH:HS w0 M H w) (h:wkD P ops.toArray (HS w0 M H) Q π2 π a w.drew):(Code.region id ops.toArray true).wp P Q a w:=by
  simp only [Bool.and_eq_true] at hok
  obtain ⟨⟨hs,hl⟩,hok⟩:=hok
  have hl':π.length+π2.length=ops.toArray.size:=by simpa using Nat.eq_of_beq_eq_true hl
  have:=wpAny_wkM hs π2 π (Array.replicate ops.length false) a w.drew hok hH.drew h
  rw [hl'] at this
  refine wp_region_noPanic (wp_region_any hm (wpAnyK.any (S:=HS w0 M H) (F:=fun j=>!π2.contains j) _ _ _ _ ?_))
  simpa using this
theorem rt2c {P:Program} {N:Nat} {l:List (Nat × Value)} {a:Act} {w:World} {C:World→Prop} {fn:Func} {R:Value→World→Prop} {p u:Tmp} {ty sz by_:Nat} {z:Value} {zs:List Value} {fl:List (Nat × Nat)} {q:Addr} {vs:List Value} {v2:Value} {e:Exit} [h0:TSt P ty fl] [hi:TIf P ty z zs sz by_] (he:e= .ret∨e= .normal) (hr:fn.results=#[.cell p ty,.tmp u]) (hA:Sl N l a)
    (hp:lk l p=some (.pointer (some q))) (hv2:lk l u=some v2) (hl:vs.length=sz) (hC:C w) (hc:Cls C q vs) (h:R (.tuple #[.agg vs.toArray,v2]) w):bodyPost P fn (fun e w'=>∃v,e= .returned v∧R v w') e a w:=by
  have hg:a.tmps.getD p undef= .pointer (some q):=by simp [Array.getD_eq_getD_getElem?,hA.get p _ hp]
  have hg2:a.tmps.getD u undef=v2:=by simp [Array.getD_eq_getD_getElem?,hA.get u v2 hv2]
  obtain ⟨ti,h3,h4,h5,h6⟩:=hi.eq
  have hrun:(results fn a.tmps).run P w= .ok (.tuple #[.agg vs.toArray,v2]) w:=by
    rw [results_cell_tmp hr,hg,hg2]
    simp [asAddr,loadVar,run_isAgg_st,sizeOf,typeInfo,h3,h5,←hl,run_loadCells_list w q vs (hc w hC),Result.andThen]
  rcases he with rfl|rfl
  · exact bodyPost_ret hrun hA.defers ⟨_,rfl,h⟩
  · exact bodyPost_end hrun hA.defers ⟨_,rfl,h⟩
def fzI (K:World→Prop):It where
  sat w F:=(∀b,F b→b<w.heap.size)∧∀w':World,(∀b,F b→w'.heap[b]?=w.heap[b]?)→K w'
  loc:=fun {w w' F} ⟨h1,h2⟩ he=>⟨fun b hb=>by
    have h3:=he b hb
    rw [Array.getElem?_eq_getElem (h1 b hb)] at h3
    exact lt_of_heap h3,fun w2 h3=>h2 w2 fun b hb=>(h3 b hb).trans (he b hb)⟩
  lt:=fun ⟨h1,_⟩ b hb=>h1 b hb
  ext:=fun ⟨h1,h2⟩ he=>⟨fun b hb=>h1 b ((he b).2 hb),fun w' h3=>h2 w' fun b hb=>h3 b ((he b).1 hb)⟩
section
variable {w0 w w':World} {M:Nat→Prop} {H L:List It} {K K1 K2:World→Prop}
theorem fz_sat {F:Nat→Prop} (h:(fzI K).sat w F):K w:=h.2 w fun _ _=>rfl
theorem HS.fz (h:HS w0 M H w) (hm:fzI K∈H):K w:=
  let ⟨_,hF⟩:=h.sat hm
  fz_sat hF
end
open Go Go.ChangeShapes Go.WideShapes Go.ChangeAt Go.RowKit
section
variable {H:Type} {enc:TypeId × Value→H}
end
section
variable {P:Program} {a:Act} {w:World} {Q Q':Exit→Act→World→Prop} {K K':Act→World→Prop} {l n:Nat}
end

theorem HS.put {w0 w:World} {M:Nat→Prop} {H:List It} {b:Nat} {o o':Obj} (h:HS w0 M (blk b o::H) w):HS w0 M (blk b o'::H) (w.putObj b o'):=by
  refine h.turn .here fun F ⟨h1,h2⟩=>⟨⟨rfl,rfl,rfl,by simp [World.putObj],fun i hi hn=>?_⟩,F,⟨h1,World.putObj_heap_same (lt_of_heap h2)⟩,fun b hb=>.inr hb⟩
  exact World.putObj_heap_other fun e=>hn (e▸(h1 b).2 rfl)
theorem HS.blk_at {w0 w:World} {M:Nat→Prop} {H:List It} {b:Nat} {o:Obj} (h:HS w0 M H w) (hm:blk b o∈H):w.heap[b]?=some o:=by
  obtain ⟨F,_,h2⟩:=h.sat hm
  exact h2
section
variable {P:Program} {N:Nat} {w:World}
end
section
variable {P:Program} {N:Nat} {l:List (Nat × Value)} {a:Act} {Ds:List Deferred} {w:World} {ops:Array Oper} {rest:List Oper} {Q:Exit→Act→World→Prop} {d:Nat} {T:TypeId} {pos:String} {af:Array Edge}
end
open Go
def encK (ks:List Int):List (Int × Value):=ks.map fun k=>(k,.bool true)
def sk (b:Nat) (ks:List Int):It:=mp b (encK ks)
def sadd (ks:List Int) (k:Int):List Int:=if k∈ks then ks else ks++[k]
def sdel (ks:List Int) (k:Int):List Int:=ks.filter fun x=>!(x == k)
theorem mem_sadd {ks:List Int} {k x:Int}:x∈sadd ks k↔x∈ks∨x=k:=by
  unfold sadd
  split
  · exact ⟨.inl,fun h=>h.elim id fun e=>e▸(by assumption)⟩
  · rw [List.mem_append,List.mem_singleton]
theorem mem_sdel {ks:List Int} {k x:Int}:x∈sdel ks k↔x∈ks∧x≠k:=by
  unfold sdel
  rw [List.mem_filter]
  simp
theorem mv_encK (ks:List Int) (k:Int):mv (encK ks) k=if k∈ks then some (.bool true) else none:=by
  unfold mv encK
  induction ks with
  |nil=>rfl
  | cons x ks ih=>
    rw [List.map_cons,List.find?_cons]
    by_cases h:x=k
    · subst h;simp
    · have hb:(x == k)=false:=by simpa using h
      simp only [hb]
      rw [ih]
      have:k≠x:=fun e=>h e.symm
      simp [this]
theorem mset_encK (ks:List Int) (k:Int):mset (encK ks) k (.bool true)=encK (sadd ks k):=by
  unfold mset sadd
  rw [mv_encK]
  by_cases h:k∈ks
  · rw [if_pos h,if_pos h]
    show List.map _ (encK ks)=_
    unfold encK
    rw [List.map_map]
    refine List.map_congr_left fun x hx=>?_
    simp only [Function.comp_def]
    split
    · rename_i e
      have:x=k:=by simpa using e
      rw [this]
    · rfl
  · rw [if_neg h,if_neg h]
    simp [encK]
theorem mdel_encK (ks:List Int) (k:Int):mdel (encK ks) k=encK (sdel ks k):=by
  unfold mdel encK sdel
  rw [List.filter_map]
  rfl
structure ElK (el:List (Int × Nat)) (clock:Nat):Prop where
  keys:(el.map (·.1)).Nodup
  borns:(el.map (·.2)).Nodup
  lt:∀e∈el,e.2<clock
def mkK (e:Int × Nat):Int × Value × Nat:=(e.1,.bool true,e.2)
def mpK (b:Nat) (el:List (Int × Nat)) (clock:Nat):It:=mpO b (el.map mkK) clock
theorem ElK.es {el:List (Int × Nat)} {clock:Nat} (h:ElK el clock):EsOk (el.map mkK) clock:=
  ⟨by simpa [mkK,Function.comp_def] using h.keys,by simpa [mkK,Function.comp_def] using h.borns,fun e he=>by
    obtain ⟨e',he',rfl⟩:=List.mem_map.1 he
    exact h.lt e' he'⟩
theorem es_encK:∀(ks:List Int) (es:List (Int × Value × Nat)),es.map (fun e=>(e.1,e.2.1))=encK ks→∃el:List (Int × Nat),el.map mkK=es∧el.map (·.1)=ks
  | [],es,h=>by
    obtain rfl:es=[]:=by simpa [encK] using h
    exact ⟨[],rfl,rfl⟩
  |k::ks,[],h=>by simp [encK] at h
  | k::ks,e::es,h=>by
    simp only [encK,List.map_cons,List.cons.injEq,Prod.mk.injEq] at h
    obtain ⟨el,h1,h2⟩:=es_encK ks es h.2
    refine ⟨(k,e.2.2)::el,?_,by simp [h2]⟩
    simp only [List.map_cons,h1,mkK]
    rw [←h.1.1,←h.1.2]
theorem HS.openK {w0 w:World} {M:Nat→Prop} {H:List It} {b:Nat} {ks:List Int} (h:HS w0 M H w) (hm:sk b ks∈H) :
    ∃el clock,el.map (·.1)=ks∧ElK el clock∧∀H',Rp H (sk b ks) (mpK b el clock) H'→HS w0 M H' w:=by
  obtain ⟨F,es,clock,h1,h2,h3⟩:=h.sat hm
  obtain ⟨el,rfl,h5⟩:=es_encK ks es h1
  refine ⟨el,clock,h5,⟨by simpa [mkK,Function.comp_def] using h2.keys,by simpa [mkK,Function.comp_def] using h2.borns,fun e he=>h2.lt (mkK e) (List.mem_map.2 ⟨e,he,rfl⟩)⟩,fun H' hr=>?_⟩
  refine h.turn hr fun F' hF'=>⟨Kp.refl _ _,F',?_,fun b hb=>.inr hb⟩
  obtain ⟨es',clock',g1,g2,g3⟩:=hF'
  exact ⟨g3.1,h3.2⟩
theorem HS.shutK {w0 w:World} {M:Nat→Prop} {H H':List It} {b clock:Nat} {el:List (Int × Nat)} (h:HS w0 M H w) (hok:ElK el clock) (hr:Rp H (mpK b el clock) (sk b (el.map (·.1))) H'):HS w0 M H' w:=
  h.conv hr fun F hF=>⟨el.map mkK,clock,by simp [mkK,encK,Function.comp_def],hok.es,hF⟩
theorem HS.up {w0 w:World} {M:Nat→Prop} {H:List It} {x:It} (h:HS w0 M H w) (i:Nat) (hi:H[i]?=some x):HS w0 M (x::H.eraseIdx i) w:=h.perm (perm_pick0 i hi)
theorem HS.rm {w0 w:World} {M:Nat→Prop}:∀{H:List It} (i:Nat),HS w0 M H w→HS w0 M (H.eraseIdx i) w
  | [],i,h=>by simpa using h
  |x::H,0,h=>h.tail
  | x ::H,i+1,h=>by
    have h1:HS w0 M (H++[x]) w:=h.perm (List.perm_append_singleton x H).symm
    cases hg:H[i]? with
    | none=>
      have:H.eraseIdx i=H:=List.eraseIdx_of_length_le (List.getElem?_eq_none_iff.1 hg)
      rw [List.eraseIdx_cons_succ,this]
      exact h
    | some y=>
      have h2:=h.up (i+1) (x:=y) (by simpa using hg)
      exact h2.tail
section
variable {P:Program} {N:Nat} {l:List (Nat × Value)} {a:Act} {d:Option Tmp} {T:TypeId} {pos:String} {af:Array Edge} {g:Option (Nat × Bool)}
theorem op_makeMapK {t:Nat} {w0 w:World} {M:Nat→Prop} {H:List It} (hH:HS w0 M H w) :
    Op1 P N l ⟨d,.makeMap t none,T,pos,af,g⟩ w (fun v w'=>∃b,v= .map (some b)∧HS w0 M (sk b []::H) w'):=op_makeMap hH
theorem op_addK {t kt e b:Nat} {kk:IntKind} {x y z:Operand} {ks:List Int} {k:Int} {w0 w:World} {M:Nat→Prop} {H H':List It} [ht:TMp P t kt e] [hk:TIn P kt kk]
    (hx:ev l x=some (.map (some b))) (hy:ev l y=some (.int .i64 k)) (hz:ev l z=some (.bool true)) (hH:HS w0 M H w) (hr:Rp H (sk b ks) (sk b (sadd ks k)) H') :
    Op1 P N l ⟨d,.mapUpdate t x y z,T,pos,af,g⟩ w (fun _ w'=>HS w0 M H' w'):=by
  unfold sk at hr
  rw [←mset_encK] at hr
  exact op_mapUpdate hx hy hz hH hr
theorem op_delK {t kt e b:Nat} {kk:IntKind} {x y:Operand} {u:TypeId} {ks:List Int} {k:Int} {w0 w:World} {M:Nat→Prop} {H H':List It} [ht:TMp P t kt e] [hk:TIn P kt kk]
    (hx:ev l x=some (.map (some b))) (hy:ev l y=some (.int .i64 k)) (hH:HS w0 M H w) (hr:Rp H (sk b ks) (sk b (sdel ks k)) H') :
    Op1 P N l ⟨d,.call ⟨.builtin .delete,#[x,y],#[t,u]⟩,T,pos,af,g⟩ w (fun v w'=>v= .tuple #[]∧HS w0 M H' w'):=by
  unfold sk at hr
  rw [←mdel_encK] at hr
  exact op_delete hx hy hH hr
theorem ex_hasK {t kt e sz by_ b:Nat} {kk:IntKind} {zs:List Value} {x y:Operand} {ks:List Int} {k:Int} {w0:World} {M:Nat→Prop} {H:List It} [ht:TMp P t kt e] [hk:TIn P kt kk] [hi:TIf P e (.bool false) zs sz by_]
    (hx:ev l x=some (.map (some b))) (hy:ev l y=some (.int .i64 k)) (hm:sk b ks∈H):Ex P N l (HS w0 M H) ⟨d,.lookup t x y false,T,pos,af,g⟩ (.bool (decide (k∈ks))):=by
  have h:=ex_lookup (P:=P) (N:=N) (l:=l) (d:=d) (T:=T) (pos:=pos) (af:=af) (g:=g) (t:=t) (w0:=w0) (M:=M) (hi:=hi) hx hy hm
  rw [mv_encK] at h
  by_cases hk:k∈ks
  · rw [if_pos hk] at h;rw [decide_eq_true hk];exact h
  · rw [if_neg hk] at h;rw [decide_eq_false hk];exact h
theorem op_rangeK {t kt e b clock:Nat} {el:List (Int × Nat)} {x:Operand} {w0 w:World} {M:Nat→Prop} {H:List It} [ht:TMp P t kt e] (hx:ev l x=some (.map (some b))) (hH:HS w0 M H w) (hm:mpK b el clock∈H) :
    Op1 P N l ⟨d,.range t x,T,pos,af,g⟩ w (fun v w'=>∃r,v= .pointer (some (bat r 0))∧HS w0 M (itr r b clock []::H) w'):=op_range hx hH hm
theorem op_nextK {r b clock:Nat} {el done:List (Int × Nat)} {x:Operand} {w0 w:World} {M:Nat→Prop} {H:List It}
    (hx:ev l x=some (.pointer (some (bat r 0)))) (hH:HS w0 M H w) (hi:itr r b clock (done.map (·.2))∈H) (hm:mpK b el clock∈H) (hok:ElK el clock) (hd:∀e∈done,e∈el) :
    Op1 P N l ⟨d,.next x false,T,pos,af,g⟩ w (fun v w'=>
      ((∀e∈el,e∈done)∧v= .tuple #[.bool false]∧HS w0 M H w')∨
      (∃e∈el,e ∉ done∧v= .tuple #[.bool true,.int .i64 e.1,.bool true]∧∀H',Rp H (itr r b clock (done.map (·.2))) (itr r b clock ((done++[e]).map (·.2))) H'→HS w0 M H' w')):=by
  intro a hA K Q hK
  have hinj:∀e∈el,∀e'∈el,e.2=e'.2→e=e':=fun e he e' he' h2=>by
    have hn:=hok.borns
    clear hm hd hi hH hK
    induction el with
    |nil=>cases he
    | cons x el ih=>
      rw [List.map_cons,List.nodup_cons] at hn
      rcases List.mem_cons.1 he with rfl|h5<;>rcases List.mem_cons.1 he' with rfl|h6
      · rfl
      · exact absurd (List.mem_map.2 ⟨e',h6,h2.symm⟩:e.2∈el.map (·.2)) hn.1
      · exact absurd (List.mem_map.2 ⟨e,h5,h2⟩:e'.2∈el.map (·.2)) hn.1
      · exact ih ⟨(List.nodup_cons.1 hok.keys).2,hn.2,fun e he=>hok.lt e (.tail _ he)⟩ h5 h6 hn.2
  refine op_next hx hH hi hm hok.es a hA K Q fun v w' h=>hK v w' ?_
  rcases h with ⟨h1,h2,h3⟩| ⟨e,he,h1,h2,h3⟩
  · refine .inl ⟨fun e he=>?_,h2,h3⟩
    obtain ⟨e',he',h4⟩:=List.mem_map.1 (h1 (mkK e) (List.mem_map.2 ⟨e,he,rfl⟩))
    exact hinj e' (hd e' he') e he h4▸he'
  · obtain ⟨e',he',rfl⟩:=List.mem_map.1 he
    refine .inr ⟨e',he',fun h4=>h1 (List.mem_map.2 ⟨e',h4,rfl⟩),h2,fun H' hr=>h3 H' ?_⟩
    rw [List.map_append] at hr
    exact hr
theorem ex_entryK {r b clock:Nat} {el done:List (Int × Nat)} {x:Operand} {e:Int × Nat} {w0:World} {M:Nat→Prop} {H:List It}
    (hx:ev l x=some (.pointer (some (bat r 0)))) (hi:itr r b clock ((done++[e]).map (·.2))∈H) (hm:mpK b el clock∈H) (hok:ElK el clock) (he:e∈el) :
    Ex P N l (HS w0 M H) ⟨d,.entry x,T,pos,af,g⟩ (.tuple #[.int .i64 e.1,.bool true]):=by
  rw [List.map_append] at hi
  exact ex_entry (e:=mkK e) hx hi hm hok.es.borns (List.mem_map.2 ⟨e,he,rfl⟩)
end
theorem done_lt {el done:List (Int × Nat)} {e:Int × Nat} (hn:done.Nodup) (hd:∀e∈done,e∈el) (he:e∈el) (h:e ∉ done):done.length<el.length:=by
  have h1:(done++[e]).Nodup:=List.nodup_append.2 ⟨hn,List.nodup_cons.2 ⟨List.not_mem_nil,List.nodup_nil⟩,fun a ha b hb=>by rw [List.mem_singleton] at hb;subst hb;exact fun e=>h (e▸ha)⟩
  have h2:∀(l m:List (Int × Nat)),l.Nodup→(∀x∈l,x∈m)→l.length≤m.length:=by
    intro l
    induction l with
    |nil=>intro m _ _;exact Nat.zero_le _
    | cons x l ih=>
      intro m hn hs
      have hx:=hs x (.head _)
      have:=ih (m.erase x) (List.nodup_cons.1 hn).2 fun y hy=>(List.mem_erase_of_ne fun (e:y=x)=>(List.nodup_cons.1 hn).1 (e▸hy)).2 (hs y (.tail _ hy))
      rw [List.length_erase_of_mem hx] at this
      have:=List.length_pos_of_mem hx
      rw [List.length_cons]
      omega
  have:=h2 _ el h1 fun x hx=>by
    rcases List.mem_append.1 hx with hx|hx
    · exact hd x hx
    · rw [List.mem_singleton] at hx;subst hx;exact he
  rw [List.length_append] at this
  exact this
class TAr (P:Program) (t:TypeId) (n:outParam Nat) (e:outParam TypeId):Prop where
  eq:P.underlying t=some (.array n e)
def entK (b:Nat) (ks:List Int) (k:Int) (c:Nat):It where
  sat w F:=∃el,el.map (·.1)=ks∧ElK el c∧k ∉ ks∧(blk b (.map ((el.map mkK++[(k,Value.bool false,c)]).map mkE).toArray (c+1))).sat w F
  loc:=by
    rintro w w' F ⟨el,h1,h2,h3,h4⟩ he
    exact ⟨el,h1,h2,h3,(blk b _).loc h4 he⟩
  lt:=by
    rintro w F ⟨el,h1,h2,h3,h4⟩
    exact (blk b _).lt h4
  ext:=by
    rintro w F F' ⟨el,h1,h2,h3,h4⟩ he
    exact ⟨el,h1,h2,h3,(blk b _).ext h4 he⟩
theorem born_new {es:List (Int × Value × Nat)} {k:Int} {v:Value} {c:Nat} (hlt:∀e∈es,e.2.2<c):((es++[(k,v,c)]).map mkE).toArray.findIdx? (fun e=>(e.born:Int) == (c:Int))=some es.length:=by
  rw [Array.findIdx?_eq_some_iff_getElem]
  refine ⟨by simp,by simp [mkE],fun j hj=>?_⟩
  have h1:j<es.length:=hj
  have h2:=hlt es[j] (List.getElem_mem h1)
  simp only [List.map_append,List.getElem_toArray]
  rw [List.getElem_append_left (by simpa using h1)]
  simp only [List.getElem_map,mkE,beq_iff_eq]
  omega
section
variable {P:Program} {N:Nat} {l:List (Nat × Value)} {a:Act} {C:World→Prop} {d:Option Tmp} {T:TypeId} {pos:String} {af:Array Edge} {g:Option (Nat × Bool)}
theorem ex_eqlMapN {t k e ty:TypeId} {x y:Operand} {m:Option Nat} [h:TMp P t k e] (hx:ev l x=some (.map m)) (hy:ev l y=some (.map none)):Ex P N l C ⟨d,.binOp .eql t x y ty,T,pos,af,g⟩ (.bool m.isNone):=by
  intro a w hA _
  simp [execOp,hA.ev hx,hA.ev hy,eqGuard_at_map,binOp,run_equal_map_nil w t k e m h.eq]
theorem ex_eqlMapT {t k e ty:TypeId} {x y:Operand} [h:TMp P t k e] (hx:ev l x=some (.map none)) (hy:ev l y=some (.map none)):Ex P N l C ⟨d,.binOp .eql t x y ty,T,pos,af,g⟩ (.bool true):=ex_eqlMapN (h:=h) hx hy
theorem ex_eqlMapF {t k e ty:TypeId} {x y:Operand} {b:Nat} [h:TMp P t k e] (hx:ev l x=some (.map (some b))) (hy:ev l y=some (.map none)):Ex P N l C ⟨d,.binOp .eql t x y ty,T,pos,af,g⟩ (.bool false):=ex_eqlMapN (h:=h) hx hy
theorem ex_addW {t ty:TypeId} {x y:Operand} {m n:Int} (hx:ev l x=some (.int .i64 m)) (hy:ev l y=some (.int .i64 n)):Ex P N l C ⟨d,.binOp .add t x y ty,T,pos,af,g⟩ (.int .i64 (IntKind.i64.wrap (m+n))):=by
  intro a w hA _
  simp only [execOp,hA.ev hx,hA.ev hy,eqGuard_at_int,binOp_add]
  simp [Op.intArith]
theorem op_entryK {t kt e sz by_ b:Nat} {kk:IntKind} {zs:List Value} {x y:Operand} {ks:List Int} {k:Int} {w0 w:World} {M:Nat→Prop} {H:List It} [ht:TMp P t kt e] [hk:TIn P kt kk] [hi:TIf P e (.bool false) zs sz by_]
    (hx:ev l x=some (.map (some b))) (hy:ev l y=some (.int .i64 k)) (hH:HS w0 M (sk b ks::H) w) (hn:k ∉ ks) :
    Op1 P N l ⟨d,.mapEntry t x y,T,pos,af,g⟩ w (fun v w'=>∃c:Nat,v= .tuple #[.bool false,.int .i64 c]∧HS w0 M (entK b ks k c::H) w'):=by
  intro a hA K Q hK
  obtain ⟨F,es,clock,h1,hok,h3,h4⟩:=hH.sat (it:=sk b ks) (.head _)
  obtain ⟨el,rfl,h5⟩:=es_encK ks es h1
  obtain ⟨ti,g3,g4,g5,g6⟩:=hi.eq
  have hf:fnd k (el.map mkK) 0=none:=by
    cases hf:fnd k (el.map mkK) 0 with
    |none=>rfl
    | some q=>
      obtain ⟨j,v0⟩:=q
      obtain ⟨_,born,hj⟩:=fnd_some k _ 0 j v0 hf
      obtain ⟨e',he',h6⟩:=List.mem_map.1 (List.mem_of_getElem? hj)
      refine absurd ?_ hn
      rw [←h5]
      refine List.mem_map.2 ⟨e',he',?_⟩
      have:=congrArg Prod.fst h6
      exact this
  unfold Oper.wp
  simp only [execOp,hA.ev hx,hA.ev hy,Instr.mapEntry,Sem.run_bind,run_underlying ht.eq,Result.andThen_ok,run_getObj_map h4,run_checkKey,run_findKey,hf]
  have hpush:(((el.map mkK).map mkE).toArray.push {key:=.int .i64 k,val:=.bool false,born:=clock})=((el.map mkK++[(k,Value.bool false,clock)]).map mkE).toArray:=by simp [mkE]
  simp only [zeroValue,typeInfo,Sem.run_bind,Sem.run_pure,Result.andThen_ok,run_program,g3,g4,run_setObj_map h4,hpush,Oper.upon]
  have hok':ElK el clock:=⟨by simpa [mkK,Function.comp_def] using hok.keys,by simpa [mkK,Function.comp_def] using hok.borns,fun e he=>hok.lt (mkK e) (List.mem_map.2 ⟨e,he,rfl⟩)⟩
  refine hK _ _ ⟨clock,rfl,hH.turn .here fun F' hF'=>?_⟩
  obtain ⟨_,_,_,_,hF1,_⟩:=hF'
  exact ⟨setObj_kp ((hF1 b).2 rfl),F',⟨el,h5,hok',hn,hF1,setObj_at h4⟩,fun b hb=>.inr hb⟩
theorem op_entryStK {t b c:Nat} {x y z:Operand} {ks:List Int} {k:Int} {w0 w:World} {M:Nat→Prop} {H:List It}
    (hx:ev l x=some (.map (some b))) (hy:ev l y=some (.int .i64 c)) (hz:ev l z=some (.bool true)) (hH:HS w0 M (entK b ks k c::H) w) :
    Op1 P N l ⟨d,.entryStore t x y z,T,pos,af,g⟩ w (fun v w'=>HS w0 M (sk b (ks++[k])::H) w'):=by
  intro a hA K Q hK
  obtain ⟨F,el,h5,hok,hn,h3,h4⟩:=hH.sat (it:=entK b ks k c) (.head _)
  have hes:=hok.es
  have hb:=born_new (k:=k) (v:=.bool false) (c:=c) (es:=el.map mkK) hes.lt
  unfold Oper.wp
  simp only [execOp,hA.ev hx,hA.ev hy,hA.ev hz,Instr.entryStore,asInt,asIntOf,Sem.run_bind,Sem.run_pure,Result.andThen_ok,run_getObj_map h4,hb,run_setObj_map h4,Oper.upon]
  have hmod:(((el.map mkK++[(k,Value.bool false,c)]).map mkE).toArray.modify (el.map mkK).length fun e=>{e with val:=.bool true})=(((el++[(k,c)]).map mkK).map mkE).toArray:=by
    apply Array.ext'
    simp only [Array.toList_modify]
    apply List.ext_getElem?
    intro i
    simp only [List.getElem?_modify,List.map_append,List.map_cons,List.map_nil]
    rcases Nat.lt_trichotomy i el.length with h|h|h
    · rw [List.getElem?_append_left (by simpa using h),List.getElem?_append_left (by simpa using h)]
      have h1:¬el.length=i:=by omega
      simp [h1]
    · subst h
      simp [mkK,mkE]
    · rw [List.getElem?_eq_none_iff.2 (by simp;omega),List.getElem?_eq_none_iff.2 (by simp;omega)]
      rfl
  simp only [hmod]
  refine hK _ _ (hH.turn .here fun F' hF'=>?_)
  obtain ⟨el',h5',hok'',hn',hF1,hF2⟩:=hF'
  refine ⟨setObj_kp ((hF1 b).2 rfl),F',⟨(el++[(k,c)]).map mkK,c+1,?_,⟨?_,?_,?_⟩,hF1,setObj_at h4⟩,fun b hb=>.inr hb⟩
  · rw [←h5]
    simp [encK,mkK,Function.comp_def]
  · have:((el++[(k,c)]).map mkK).map (·.1)=ks++[k]:=by rw [←h5];simp [mkK,Function.comp_def]
    rw [this]
    refine List.nodup_append.2 ⟨h5▸hok.keys,by simp,fun x hx y hy=>?_⟩
    simp at hy;subst hy
    exact fun e=>hn (e▸hx)
  · have:((el++[(k,c)]).map mkK).map (·.2.2)=el.map (·.2)++[c]:=by simp [mkK,Function.comp_def]
    rw [this]
    refine List.nodup_append.2 ⟨hok.borns,by simp,fun x hx y hy=>?_⟩
    simp at hy;subst hy
    obtain ⟨e,he,rfl⟩:=List.mem_map.1 hx
    exact Nat.ne_of_lt (hok.lt e he)
  · intro e he
    obtain ⟨e',he',rfl⟩:=List.mem_map.1 he
    rcases List.mem_append.1 he' with h|h
    · have:=hok.lt e' h
      show e'.2<c+1
      omega
    · simp at h;subst h
      exact Nat.lt_succ_self _
theorem op_insertV {t kt e b:Nat} {kk:IntKind} {x y z:Operand} {m:List (Int × Value)} {k:Int} {v:Value} {w0 w:World} {M:Nat→Prop} {H H':List It} [ht:TMp P t kt e] [hk:TIn P kt kk]
    (hx:ev l x=some (.map (some b))) (hy:ev l y=some (.int .i64 k)) (hz:ev l z=some v) (hH:HS w0 M H w) (hr:Rp H (mp b m) (mp b (mset m k v)) H') :
    Op1 P N l ⟨d,.insert t x y z,T,pos,af,g⟩ w (fun _ w'=>HS w0 M H' w'):=by
  intro a hA K Q hK
  have h:=op_mapUpdate (P:=P) (N:=N) (d:=d) (T:=T) (pos:=pos) (af:=af) (g:=g) (t:=t) hx hy hz hH hr a hA K Q hK
  exact h
theorem ex_build2 {t e by_:Nat} {z ze u v:Value} {zs zse:List Value} {x y:Operand} {bye:Nat} [ha:TAr P t 2 e] [hi:TIf P t z zs 2 by_] [he:TIf P e ze zse 1 bye] (hx:ev l x=some u) (hy:ev l y=some v) (hz:zs.length=2) (h1:u.oneCell'=true) (h2:v.oneCell'=true) :
    Ex P N l C ⟨d,.build t #[(0,x),(1,y)],T,pos,af,g⟩ (.agg #[u,v]):=by
  intro a w hA hC
  obtain ⟨ti,g3,g4,g5,g6⟩:=hi.eq
  obtain ⟨te,e3,e4,e5,e6⟩:=he.eq
  have hzs:z.cells=zs.toArray:=by rw [←hi.zc]
  obtain ⟨q0,q1,hq⟩:∃q0 q1,zs=[q0,q1]:=by
    match zs,hz with
    | [q0,q1],_=>exact ⟨q0,q1,rfl⟩
  have hu:u.cells=#[u]:=by cases u<;>first|rfl|cases h1
  have hv:v.cells=#[v]:=by cases v<;>first|rfl|cases h2
  simp [execOp,Instr.build,zeroValue,typeInfo,sizeOf,g3,g4,e3,e5,run_underlying ha.eq,hA.ev hx,hA.ev hy,hzs,hq,Instr.fill,hu,hv]
theorem ex_indexArr {t e n sz by_ i b j:Nat} {z:Value} {zs:List Value} {k:IntKind} {x ix:Operand} [ht:TAr P t n e] [hi:TIf P e z zs sz by_] (hx:ev l x=some (.pointer (some (bat b j)))) (hix:ev l ix=some (.int k (i:Int))) (h1:i<n) :
    Ex P N l C ⟨d,.indexAddr t x ix,T,pos,af,g⟩ (.pointer (some (bat b (j+i*sz)))):=by
  intro a w hA _
  obtain ⟨ti,h3,h4,h5,h6⟩:=hi.eq
  simp [execOp,hA.ev hx,hA.ev hix,Instr.indexAt,asIntOf,run_underlying ht.eq,sizeOf,typeInfo,h3,h5,h1,Instr.sureAddr,bat,Addr.add]
end
inductive Pl3 where
  |nil
  |q (i:Nat) (t:Pl3)
  |one (i:Nat) (t:Pl3)
  |two (i j:Nat) (t u:Pl3)
  |three (i j k:Nat) (t u v:Pl3)
def Pl3.len:Pl3→Nat
  | .nil=>0
  | .q _ t=>t.len+1
  | .one _ t=>t.len+1
  | .two _ _ t _=>t.len+1
  | .three _ _ _ t _ _=>t.len+1
def qs3:List Nat→Pl3→Pl3
  | [],t=>t
  |i::l,t=>.q i (qs3 l t)
def okT3 (ops:Array Oper):Pl3→Array Bool→Bool
  | .nil,listed=>decide (Region.ready .any ops listed=[])
  | .q i t,listed=>(Region.ready .any ops listed).contains i && Region.free .any ops listed i && okT3 ops t (listed.setIfInBounds i true)
  | .one i t,listed=>decide (Region.ready .any ops listed=[i]) && okT3 ops t (listed.setIfInBounds i true)
  | .two i j t u,listed=>Nat.beq t.len u.len && decide (Region.ready .any ops listed=[i,j]) && okT3 ops t (listed.setIfInBounds i true) && okT3 ops u (listed.setIfInBounds j true)
  | .three i j k t u v,listed=>Nat.beq t.len u.len && Nat.beq t.len v.len && decide (Region.ready .any ops listed=[i,j,k]) && okT3 ops t (listed.setIfInBounds i true) && okT3 ops u (listed.setIfInBounds j true) && okT3 ops v (listed.setIfInBounds k true)
def wkT3 (P:Program) (ops:Array Oper) (S:World→Prop) (Q:Exit→Act→World→Prop) (K:Act→World→Prop):Pl3→Act→World→Prop
  | .nil,a,w=>K a w
  | .q i t,a,w=>∃o v,ops[i]?=some o∧YieldsIf P ops S o v a∧wkT3 P ops S Q K t (a.put o.dst v) w
  | .one i t,a,w=>wpOp P ops (NoPanic Q) i (fun a' w'=>S w'∧wkT3 P ops S Q K t a' w') a w
  | .two i j t u,a,w=>wpOp P ops (NoPanic Q) i (fun a' w'=>S w'∧wkT3 P ops S Q K t a' w') a w∧wpOp P ops (NoPanic Q) j (fun a' w'=>S w'∧wkT3 P ops S Q K u a' w') a w
  | .three i j k t u v,a,w=>wpOp P ops (NoPanic Q) i (fun a' w'=>S w'∧wkT3 P ops S Q K t a' w') a w∧wpOp P ops (NoPanic Q) j (fun a' w'=>S w'∧wkT3 P ops S Q K u a' w') a w∧wpOp P ops (NoPanic Q) k (fun a' w'=>S w'∧wkT3 P ops S Q K v a' w') a w
section
variable {P:Program} {ops:Array Oper} {S:World→Prop} {Q:Exit→Act→World→Prop} {K:Act→World→Prop}
theorem wkT3_any (hs:Region.noSelect ops=true) (hK:∀a w,K a w→Q .normal a w):∀(t:Pl3) (listed:Array Bool) (a:Act) (w:World),
    okT3 ops t listed=true→S w→wkT3 P ops S Q K t a w→wpAnyK P .any ops (NoPanic Q) S (fun _=>true) t.len listed a w
  | .nil,listed,a,w,hok,hS,h=>⟨of_decide_eq_true hok,hK a w h⟩
  | .q i t,listed,a,w,hok,hS,h=>by
    simp only [okT3,Bool.and_eq_true] at hok
    obtain ⟨⟨hr,hf⟩,hok'⟩:=hok
    obtain ⟨o,v,hi,hy,hk⟩:=h
    exact wpAnyK.first hi (Region.noSelect_spec hs) (fun c a w h=>h) _ listed a w (fun j hF=>by cases hF) (Region.free_spec hi hf) (by simpa using hr) hy hS (wkT3_any hs hK t _ _ w hok' hS hk)
  | .one i t,listed,a,w,hok,hS,h=>by
    simp only [okT3,Bool.and_eq_true,decide_eq_true_eq] at hok
    refine ⟨fun h0=>(by rw [hok.1] at h0;cases h0),fun j hj=>?_⟩
    rw [hok.1] at hj
    obtain rfl:j=i:=by simpa using hj
    exact wpOp_mono (fun a' w' ⟨hS',h'⟩=>⟨fun _ _=>hS',wkT3_any hs hK t _ a' w' hok.2 hS' h'⟩) h
  | .two i k t u,listed,a,w,hok,hS,h=>by
    simp only [okT3,Bool.and_eq_true,decide_eq_true_eq] at hok
    obtain ⟨⟨⟨hl,hr⟩,ht⟩,hu⟩:=hok
    have hl:=Nat.eq_of_beq_eq_true hl
    refine ⟨fun h0=>(by rw [hr] at h0;cases h0),fun j hj=>?_⟩
    rw [hr] at hj
    rcases (by simpa using hj:j=i∨j=k) with rfl|rfl
    · exact wpOp_mono (fun a' w' ⟨hS',h'⟩=>⟨fun _ _=>hS',wkT3_any hs hK t _ a' w' ht hS' h'⟩) h.1
    · exact wpOp_mono (fun a' w' ⟨hS',h'⟩=>⟨fun _ _=>hS',by rw [hl];exact wkT3_any hs hK u _ a' w' hu hS' h'⟩) h.2
  | .three i k m t u v,listed,a,w,hok,hS,h=>by
    simp only [okT3,Bool.and_eq_true,decide_eq_true_eq] at hok
    obtain ⟨⟨⟨⟨⟨hl,hl2⟩,hr⟩,ht⟩,hu⟩,hv⟩:=hok
    have hl:=Nat.eq_of_beq_eq_true hl
    have hl2:=Nat.eq_of_beq_eq_true hl2
    refine ⟨fun h0=>(by rw [hr] at h0;cases h0),fun j hj=>?_⟩
    rw [hr] at hj
    rcases (by simpa using hj:j=i∨j=k∨j=m) with rfl|rfl|rfl
    · exact wpOp_mono (fun a' w' ⟨hS',h'⟩=>⟨fun _ _=>hS',wkT3_any hs hK t _ a' w' ht hS' h'⟩) h.1
    · exact wpOp_mono (fun a' w' ⟨hS',h'⟩=>⟨fun _ _=>hS',by rw [hl];exact wkT3_any hs hK u _ a' w' hu hS' h'⟩) h.2.1
    · exact wpOp_mono (fun a' w' ⟨hS',h'⟩=>⟨fun _ _=>hS',by rw [hl2];exact wkT3_any hs hK v _ a' w' hv hS' h'⟩) h.2.2
end
theorem wp_drawT3 {P:Program} {id:Nat} {ops:List Oper} {Q:Exit→Act→World→Prop} {a:Act} {w0 w:World} {M:Nat→Prop} {H:List It} (t:Pl3) (R:Act→World→Prop) (hm:P.follows .mixedOrders=true)
    (hok:(Region.noSelect ops.toArray && Nat.beq t.len ops.length && okT3 ops.toArray t (Array.replicate ops.length false))=true) (hH:HS w0 M H w)
    (h:wkT3 P ops.toArray (HS w0 M H) Q R t a w.drew) (k:∀a w,R a w→Q .normal a w):(Code.region id ops.toArray true).wp P Q a w:=by
  simp only [Bool.and_eq_true] at hok
  obtain ⟨⟨hs,hl⟩,hok⟩:=hok
  have hl':t.len=ops.toArray.size:=by simpa using Nat.eq_of_beq_eq_true hl
  have:=wkT3_any (P:=P) (Q:=Q) hs k t _ a w.drew hok hH.drew h
  rw [hl'] at this
  refine wp_region_noPanic (wp_region_any hm (wpAnyK.any (S:=HS w0 M H) (F:=fun _=>true) _ _ _ _ ?_))
  simpa using this
section
variable {P:Program} {N:Nat} {l:List (Nat × Value)} {a:Act} {Ds:List Deferred} {w:World} {ops:Array Oper} {S:World→Prop} {Q:Exit→Act→World→Prop} {K:Act→World→Prop} {i j m:Nat} {t u v:Pl3}
theorem d3_ex {o:Oper} {d:Nat} {v:Value} (hA:Sl N l a Ds) (hi:ops[i]?=some o) (hg:gd ops l o.guard=some true) (hd:o.dst=some d) (hdN:d<N)
    (h:Ex P N l S o v) (k':∀a',Sl N ((d,v)::l) a' Ds→wkT3 P ops S Q K t a' w):wkT3 P ops S Q K (.q i t) a w:=by
  refine ⟨o,v,hi,.inl ⟨hA.gd hg,fun w' hS=>h a w' hA.toSl0 hS⟩,?_⟩
  rw [hd]
  exact k' _ (hA.put hdN v)
theorem d3_op {o:Oper} {d:Nat} {R:Value→World→Prop} (hA:Sl N l a Ds) (hi:ops[i]?=some o) (hg:gd ops l o.guard=some true) (hd:o.dst=some d) (hdN:d<N)
    (h:Op1 P N l o w R) (k:∀v w',R v w'→S w'∧∀a',Sl N ((d,v)::l) a' Ds→wkT3 P ops S Q K t a' w'):wkT3 P ops S Q K (.one i t) a w:=by
  unfold wkT3 wpOp
  simp only [hi,hA.gd hg,if_true]
  refine .inl (h a hA.toSl0 _ _ fun v w' hR=>?_)
  rw [hd]
  exact ⟨(k v w' hR).1,(k v w' hR).2 _ (hA.put hdN v)⟩
theorem d3_op0 {o:Oper} {R:Value→World→Prop} (hA:Sl N l a Ds) (hi:ops[i]?=some o) (hg:gd ops l o.guard=some true) (hd:o.dst=none)
    (h:Op1 P N l o w R) (k:∀v w',R v w'→S w'∧wkT3 P ops S Q K t a w'):wkT3 P ops S Q K (.one i t) a w:=by
  unfold wkT3 wpOp
  simp only [hi,hA.gd hg,if_true]
  refine .inl (h a hA.toSl0 _ _ fun v w' hR=>?_)
  rw [hd]
  exact k v w' hR
theorem d3_two (h1:wkT3 P ops S Q K (.one i t) a w) (h2:wkT3 P ops S Q K (.one j u) a w):wkT3 P ops S Q K (.two i j t u) a w:=⟨h1,h2⟩
theorem d3_three (h1:wkT3 P ops S Q K (.one i t) a w) (h2:wkT3 P ops S Q K (.one j u) a w) (h3:wkT3 P ops S Q K (.one m v) a w):wkT3 P ops S Q K (.three i j m t u v) a w:=⟨h1,h2,h3⟩
end
end Go.Fw
