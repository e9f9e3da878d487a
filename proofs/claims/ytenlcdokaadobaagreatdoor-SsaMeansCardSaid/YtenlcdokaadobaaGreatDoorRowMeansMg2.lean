/-
  Sets: maps from ints to true. Conditions: none.
  Maps against nil; a new key by its entry; sums that wrap; arrays of two; literals of maps. Conditions: none.
  Plans as in the fifteenth part, with one of three. Conditions: none.
  What is known of this seat's types and functions, for the frame. Printed by a program. Conditions: none.
  Graphs as they lie in memory; sets, or nil; rows. Conditions: none.
  Graphs that may be, exactly (plain). Conditions: none.
  ssa.May's check: what it holds, bind, atoms; how many parts graphs have, as an int. Conditions: none.
  anf.Step, exactly. Conditions: none.
-/
import Derived.Test.YtenlcdokaadobaaGreatDoorRowMeansMg1
import Derived.Test.YtenlcdokaadobaaGreatDoorRows
set_option maxHeartbeats 64000000
set_option maxRecDepth 10000
namespace Go.Fw
open Go
set_option linter.unusedVariables false
def pS (ks:List Int):List (Int × Value):=ks.map fun k=>(k,.bool true)
def sk (b:Nat) (ks:List Int):It:=mp b (pS ks)
def sG (ks:List Int) (k:Int):List Int:=if k∈ks then ks else ks++[k]
def rS (ks:List Int) (k:Int):List Int:=ks.filter fun x=>!(x == k)
theorem wE {ks:List Int} {k x:Int}:x∈sG ks k↔x∈ks∨x=k:=by
  unfold sG
  split
  · exact ⟨.inl,fun h=>h.elim id fun e=>e▸(by assumption)⟩
  · rw [List.mem_append,List.mem_singleton]
theorem mV {ks:List Int} {k x:Int}:x∈rS ks k↔x∈ks∧x≠k:=by
  unfold rS
  rw [List.mem_filter]
  simp
theorem mv_encK (ks:List Int) (k:Int):mv (pS ks) k=if k∈ks then some (.bool true) else none:=by
  unfold mv pS
  induction ks with
  |nil=>rfl
  | cons x ks ih=>
    rw [List.map_cons,List.find?_cons]
    by_cases h:x=k
    · subst h;simp
    · have hb:(x == k)=false:=by simpa using h
      simp only [hb]
      rw [ih]
      have:k≠x:=fun e=>h e.symm
      simp [this]
theorem mset_encK (ks:List Int) (k:Int):mset (pS ks) k (.bool true)=pS (sG ks k):=by
  unfold mset sG
  rw [mv_encK]
  by_cases h:k∈ks
  · rw [if_pos h,if_pos h]
    show List.map _ (pS ks)=_
    unfold pS
    rw [List.map_map]
    refine List.map_congr_left fun x hx=>?_
    simp only [Function.comp_def]
    split
    · rename_i e
      have:x=k:=by simpa using e
      rw [this]
    · rfl
  · rw [if_neg h,if_neg h]
    simp [pS]
theorem mdel_encK (ks:List Int) (k:Int):mdel (pS ks) k=pS (rS ks k):=by
  unfold mdel pS rS
  rw [List.filter_map]
  rfl
structure ElK (el:List (Int × Nat)) (clock:Nat):Prop where
  keys:(el.map (·.1)).Nodup
  borns:(el.map (·.2)).Nodup
  lt:∀e∈el,e.2<clock
def mkK (e:Int × Nat):Int × Value × Nat:=(e.1,.bool true,e.2)
def mpK (b:Nat) (el:List (Int × Nat)) (clock:Nat):It:=mpO b (el.map mkK) clock
theorem ElK.es {el:List (Int × Nat)} {clock:Nat} (h:ElK el clock):EsOk (el.map mkK) clock:=
  ⟨by simpa [mkK,Function.comp_def] using h.keys,by simpa [mkK,Function.comp_def] using h.borns,fun e he=>by
    obtain ⟨e',he',rfl⟩:=List.mem_map.1 he
    exact h.lt e' he'⟩
theorem aS:∀(ks:List Int) (es:List (Int × Value × Nat)),es.map (fun e=>(e.1,e.2.1))=pS ks→∃el:List (Int × Nat),el.map mkK=es∧el.map (·.1)=ks
  | [],es,h=>by
    obtain rfl:es=[]:=by simpa [pS] using h
    exact ⟨[],rfl,rfl⟩
  |k::ks,[],h=>by simp [pS] at h
  | k::ks,e::es,h=>by
    simp only [pS,List.map_cons,List.cons.injEq,Prod.mk.injEq] at h
    obtain ⟨el,h1,h2⟩:=aS ks es h.2
    refine ⟨(k,e.2.2)::el,?_,by simp [h2]⟩
    simp only [List.map_cons,h1,mkK]
    rw [←h.1.1,←h.1.2]
theorem HS.openK {w0 w:World} {M:Nat→Prop} {H:List It} {b:Nat} {ks:List Int} (h:HS w0 M H w) (hm:sk b ks∈H) :
    ∃el clock,el.map (·.1)=ks∧ElK el clock∧∀H',Rp H (sk b ks) (mpK b el clock) H'→HS w0 M H' w:=by
  obtain ⟨F,es,clock,h1,h2,h3⟩:=h.sat hm
  obtain ⟨el,rfl,h5⟩:=aS ks es h1
  refine ⟨el,clock,h5,⟨by simpa [mkK,Function.comp_def] using h2.keys,by simpa [mkK,Function.comp_def] using h2.borns,fun e he=>h2.lt (mkK e) (List.mem_map.2 ⟨e,he,rfl⟩)⟩,fun H' hr=>?_⟩
  refine h.turn hr fun F' hF'=>⟨Kp.refl _ _,F',?_,fun b hb=>.inr hb⟩
  obtain ⟨es',clock',g1,g2,g3⟩:=hF'
  exact ⟨g3.1,h3.2⟩
theorem HS.shutK {w0 w:World} {M:Nat→Prop} {H H':List It} {b clock:Nat} {el:List (Int × Nat)} (h:HS w0 M H w) (hok:ElK el clock) (hr:Rp H (mpK b el clock) (sk b (el.map (·.1))) H'):HS w0 M H' w:=
  h.conv hr fun F hF=>⟨el.map mkK,clock,by simp [mkK,pS,Function.comp_def],hok.es,hF⟩
theorem HS.up {w0 w:World} {M:Nat→Prop} {H:List It} {x:It} (h:HS w0 M H w) (i:Nat) (hi:H[i]?=some x):HS w0 M (x::H.eraseIdx i) w:=h.perm (qM i hi)
theorem HS.rm {w0 w:World} {M:Nat→Prop}:∀{H:List It} (i:Nat),HS w0 M H w→HS w0 M (H.eraseIdx i) w
  | [],i,h=>by simpa using h
  |x::H,0,h=>h.tail
  | x ::H,i+1,h=>by
    have h1:HS w0 M (H++[x]) w:=h.perm (List.perm_append_singleton x H).symm
    cases hg:H[i]? with
    | none=>
      have:H.eraseIdx i=H:=List.eraseIdx_of_length_le (List.getElem?_eq_none_iff.1 hg)
      rw [List.eraseIdx_cons_succ,this]
      exact h
    | some y=>
      have h2:=h.up (i+1) (x:=y) (by simpa using hg)
      exact h2.tail
section
variable {P:Program} {N:Nat} {l:List (Nat × Value)} {a:Act} {d:Option Tmp} {T:TypeId} {pos:String} {af:Array Edge} {g:Option (Nat × Bool)}
theorem wH {t:Nat} {w0 w:World} {M:Nat→Prop} {H:List It} (hH:HS w0 M H w) :
    Op1 P N l ⟨d,.makeMap t none,T,pos,af,g⟩ w (fun v w'=>∃b,v= .map (some b)∧HS w0 M (sk b []::H) w'):=vZ hH
theorem mR {t kt e b:Nat} {kk:IntKind} {x y z:Operand} {ks:List Int} {k:Int} {w0 w:World} {M:Nat→Prop} {H H':List It} [ht:TMp P t kt e] [hk:TIn P kt kk]
    (hx:ev l x=some (.map (some b))) (hy:ev l y=some (.int .i64 k)) (hz:ev l z=some (.bool true)) (hH:HS w0 M H w) (hr:Rp H (sk b ks) (sk b (sG ks k)) H') :
    Op1 P N l ⟨d,.mapUpdate t x y z,T,pos,af,g⟩ w (fun _ w'=>HS w0 M H' w'):=by
  unfold sk at hr
  rw [←mset_encK] at hr
  exact xT hx hy hz hH hr
theorem bI {t kt e b:Nat} {kk:IntKind} {x y:Operand} {u:TypeId} {ks:List Int} {k:Int} {w0 w:World} {M:Nat→Prop} {H H':List It} [ht:TMp P t kt e] [hk:TIn P kt kk]
    (hx:ev l x=some (.map (some b))) (hy:ev l y=some (.int .i64 k)) (hH:HS w0 M H w) (hr:Rp H (sk b ks) (sk b (rS ks k)) H') :
    Op1 P N l ⟨d,.call ⟨.builtin .delete,#[x,y],#[t,u]⟩,T,pos,af,g⟩ w (fun v w'=>v= .tuple #[]∧HS w0 M H' w'):=by
  unfold sk at hr
  rw [←mdel_encK] at hr
  exact op_delete hx hy hH hr
theorem qQ {t kt e sz by_ b:Nat} {kk:IntKind} {zs:List Value} {x y:Operand} {ks:List Int} {k:Int} {w0:World} {M:Nat→Prop} {H:List It} [ht:TMp P t kt e] [hk:TIn P kt kk] [hi:TIf P e (.bool false) zs sz by_]
    (hx:ev l x=some (.map (some b))) (hy:ev l y=some (.int .i64 k)) (hm:sk b ks∈H):Ex P N l (HS w0 M H) ⟨d,.lookup t x y false,T,pos,af,g⟩ (.bool (decide (k∈ks))):=by
  have h:=qG (P:=P) (N:=N) (l:=l) (d:=d) (T:=T) (pos:=pos) (af:=af) (g:=g) (t:=t) (w0:=w0) (M:=M) (hi:=hi) hx hy hm
  rw [mv_encK] at h
  by_cases hk:k∈ks
  · rw [if_pos hk] at h;rw [decide_eq_true hk];exact h
  · rw [if_neg hk] at h;rw [decide_eq_false hk];exact h
theorem dJ {t kt e b clock:Nat} {el:List (Int × Nat)} {x:Operand} {w0 w:World} {M:Nat→Prop} {H:List It} [ht:TMp P t kt e] (hx:ev l x=some (.map (some b))) (hH:HS w0 M H w) (hm:mpK b el clock∈H) :
    Op1 P N l ⟨d,.range t x,T,pos,af,g⟩ w (fun v w'=>∃r,v= .pointer (some (bat r 0))∧HS w0 M (itr r b clock []::H) w'):=op_range hx hH hm
theorem op_nextK {r b clock:Nat} {el done:List (Int × Nat)} {x:Operand} {w0 w:World} {M:Nat→Prop} {H:List It}
    (hx:ev l x=some (.pointer (some (bat r 0)))) (hH:HS w0 M H w) (hi:itr r b clock (done.map (·.2))∈H) (hm:mpK b el clock∈H) (hok:ElK el clock) (hd:∀e∈done,e∈el) :
    Op1 P N l ⟨d,.next x false,T,pos,af,g⟩ w (fun v w'=>
      ((∀e∈el,e∈done)∧v= .tuple #[.bool false]∧HS w0 M H w')∨
      (∃e∈el,e ∉ done∧v= .tuple #[.bool true,.int .i64 e.1,.bool true]∧∀H',Rp H (itr r b clock (done.map (·.2))) (itr r b clock ((done++[e]).map (·.2))) H'→HS w0 M H' w')):=by
  intro a hA K Q hK
  have hinj:∀e∈el,∀e'∈el,e.2=e'.2→e=e':=fun e he e' he' h2=>by
    have hn:=hok.borns
    clear hm hd hi hH hK
    induction el with
    |nil=>cases he
    | cons x el ih=>
      rw [List.map_cons,List.nodup_cons] at hn
      rcases List.mem_cons.1 he with rfl|h5<;>rcases List.mem_cons.1 he' with rfl|h6
      · rfl
      · exact absurd (List.mem_map.2 ⟨e',h6,h2.symm⟩:e.2∈el.map (·.2)) hn.1
      · exact absurd (List.mem_map.2 ⟨e,h5,h2⟩:e'.2∈el.map (·.2)) hn.1
      · exact ih ⟨(List.nodup_cons.1 hok.keys).2,hn.2,fun e he=>hok.lt e (.tail _ he)⟩ h5 h6 hn.2
  refine op_next hx hH hi hm hok.es a hA K Q fun v w' h=>hK v w' ?_
  rcases h with ⟨h1,h2,h3⟩| ⟨e,he,h1,h2,h3⟩
  · refine .inl ⟨fun e he=>?_,h2,h3⟩
    obtain ⟨e',he',h4⟩:=List.mem_map.1 (h1 (mkK e) (List.mem_map.2 ⟨e,he,rfl⟩))
    exact hinj e' (hd e' he') e he h4▸he'
  · obtain ⟨e',he',rfl⟩:=List.mem_map.1 he
    refine .inr ⟨e',he',fun h4=>h1 (List.mem_map.2 ⟨e',h4,rfl⟩),h2,fun H' hr=>h3 H' ?_⟩
    rw [List.map_append] at hr
    exact hr
theorem dW {r b clock:Nat} {el done:List (Int × Nat)} {x:Operand} {e:Int × Nat} {w0:World} {M:Nat→Prop} {H:List It}
    (hx:ev l x=some (.pointer (some (bat r 0)))) (hi:itr r b clock ((done++[e]).map (·.2))∈H) (hm:mpK b el clock∈H) (hok:ElK el clock) (he:e∈el) :
    Ex P N l (HS w0 M H) ⟨d,.entry x,T,pos,af,g⟩ (.tuple #[.int .i64 e.1,.bool true]):=by
  rw [List.map_append] at hi
  exact ex_entry (e:=mkK e) hx hi hm hok.es.borns (List.mem_map.2 ⟨e,he,rfl⟩)
end
theorem done_lt {el done:List (Int × Nat)} {e:Int × Nat} (hn:done.Nodup) (hd:∀e∈done,e∈el) (he:e∈el) (h:e ∉ done):done.length<el.length:=by
  have h1:(done++[e]).Nodup:=List.nodup_append.2 ⟨hn,List.nodup_cons.2 ⟨List.not_mem_nil,List.nodup_nil⟩,fun a ha b hb=>by rw [List.mem_singleton] at hb;subst hb;exact fun e=>h (e▸ha)⟩
  have h2:∀(l m:List (Int × Nat)),l.Nodup→(∀x∈l,x∈m)→l.length≤m.length:=by
    intro l
    induction l with
    |nil=>intro m _ _;exact Nat.zero_le _
    | cons x l ih=>
      intro m hn hs
      have hx:=hs x (.head _)
      have:=ih (m.erase x) (List.nodup_cons.1 hn).2 fun y hy=>(List.mem_erase_of_ne fun (e:y=x)=>(List.nodup_cons.1 hn).1 (e▸hy)).2 (hs y (.tail _ hy))
      rw [List.length_erase_of_mem hx] at this
      have:=List.length_pos_of_mem hx
      rw [List.length_cons]
      omega
  have:=h2 _ el h1 fun x hx=>by
    rcases List.mem_append.1 hx with hx|hx
    · exact hd x hx
    · rw [List.mem_singleton] at hx;subst hx;exact he
  rw [List.length_append] at this
  exact this
open Go Go.RowKit
class TAr (P:Program) (t:TypeId) (n:outParam Nat) (e:outParam TypeId):Prop where
  eq:P.underlying t=some (.array n e)
def xI (b:Nat) (ks:List Int) (k:Int) (c:Nat):It where
  sat w F:=∃el,el.map (·.1)=ks∧ElK el c∧k ∉ ks∧(blk b (.map ((el.map mkK++[(k,Value.bool false,c)]).map mkE).toArray (c+1))).sat w F
  loc:=by
    rintro w w' F ⟨el,h1,h2,h3,h4⟩ he
    exact ⟨el,h1,h2,h3,(blk b _).loc h4 he⟩
  lt:=by
    rintro w F ⟨el,h1,h2,h3,h4⟩
    exact (blk b _).lt h4
  ext:=by
    rintro w F F' ⟨el,h1,h2,h3,h4⟩ he
    exact ⟨el,h1,h2,h3,(blk b _).ext h4 he⟩
theorem born_new {es:List (Int × Value × Nat)} {k:Int} {v:Value} {c:Nat} (hlt:∀e∈es,e.2.2<c):((es++[(k,v,c)]).map mkE).toArray.findIdx? (fun e=>(e.born:Int) == (c:Int))=some es.length:=by
  rw [Array.findIdx?_eq_some_iff_getElem]
  refine ⟨by simp,by simp [mkE],fun j hj=>?_⟩
  have h1:j<es.length:=hj
  have h2:=hlt es[j] (List.getElem_mem h1)
  simp only [List.map_append,List.getElem_toArray]
  rw [List.getElem_append_left (by simpa using h1)]
  simp only [List.getElem_map,mkE,beq_iff_eq]
  omega
section
variable {P:Program} {N:Nat} {l:List (Nat × Value)} {a:Act} {C:World→Prop} {d:Option Tmp} {T:TypeId} {pos:String} {af:Array Edge} {g:Option (Nat × Bool)}
theorem fK {t k e ty:TypeId} {x y:Operand} {m:Option Nat} [h:TMp P t k e] (hx:ev l x=some (.map m)) (hy:ev l y=some (.map none)):Ex P N l C ⟨d,.binOp .eql t x y ty,T,pos,af,g⟩ (.bool m.isNone):=by
  intro a w hA _
  simp [execOp,hA.ev hx,hA.ev hy,eqGuard_at_map,binOp,run_equal_map_nil w t k e m h.eq]
theorem fJ {t k e ty:TypeId} {x y:Operand} [h:TMp P t k e] (hx:ev l x=some (.map none)) (hy:ev l y=some (.map none)):Ex P N l C ⟨d,.binOp .eql t x y ty,T,pos,af,g⟩ (.bool true):=fK (h:=h) hx hy
theorem fL {t k e ty:TypeId} {x y:Operand} {b:Nat} [h:TMp P t k e] (hx:ev l x=some (.map (some b))) (hy:ev l y=some (.map none)):Ex P N l C ⟨d,.binOp .eql t x y ty,T,pos,af,g⟩ (.bool false):=fK (h:=h) hx hy
theorem ex_addW {t ty:TypeId} {x y:Operand} {m n:Int} (hx:ev l x=some (.int .i64 m)) (hy:ev l y=some (.int .i64 n)):Ex P N l C ⟨d,.binOp .add t x y ty,T,pos,af,g⟩ (.int .i64 (IntKind.i64.wrap (m+n))):=by
  intro a w hA _
  simp only [execOp,hA.ev hx,hA.ev hy,eqGuard_at_int,binOp_add]
  simp [Op.intArith]
theorem lW {t kt e sz by_ b:Nat} {kk:IntKind} {zs:List Value} {x y:Operand} {ks:List Int} {k:Int} {w0 w:World} {M:Nat→Prop} {H:List It} [ht:TMp P t kt e] [hk:TIn P kt kk] [hi:TIf P e (.bool false) zs sz by_]
    (hx:ev l x=some (.map (some b))) (hy:ev l y=some (.int .i64 k)) (hH:HS w0 M (sk b ks::H) w) (hn:k ∉ ks) :
    Op1 P N l ⟨d,.mapEntry t x y,T,pos,af,g⟩ w (fun v w'=>∃c:Nat,v= .tuple #[.bool false,.int .i64 c]∧HS w0 M (xI b ks k c::H) w'):=by
  intro a hA K Q hK
  obtain ⟨F,es,clock,h1,hok,h3,h4⟩:=hH.sat (it:=sk b ks) (.head _)
  obtain ⟨el,rfl,h5⟩:=aS ks es h1
  obtain ⟨ti,g3,g4,g5,g6⟩:=hi.eq
  have hf:fnd k (el.map mkK) 0=none:=by
    cases hf:fnd k (el.map mkK) 0 with
    |none=>rfl
    | some q=>
      obtain ⟨j,v0⟩:=q
      obtain ⟨_,born,hj⟩:=pO k _ 0 j v0 hf
      obtain ⟨e',he',h6⟩:=List.mem_map.1 (List.mem_of_getElem? hj)
      refine absurd ?_ hn
      rw [←h5]
      refine List.mem_map.2 ⟨e',he',?_⟩
      have:=congrArg Prod.fst h6
      exact this
  unfold Oper.wp
  simp only [execOp,hA.ev hx,hA.ev hy,Instr.mapEntry,Sem.run_bind,run_underlying ht.eq,Result.andThen_ok,xM h4,tG,tZ,hf]
  have hpush:(((el.map mkK).map mkE).toArray.push {key:=.int .i64 k,val:=.bool false,born:=clock})=((el.map mkK++[(k,Value.bool false,clock)]).map mkE).toArray:=by simp [mkE]
  simp only [zeroValue,typeInfo,Sem.run_bind,Sem.run_pure,Result.andThen_ok,run_program,g3,g4,xV h4,hpush,Oper.upon]
  have hok':ElK el clock:=⟨by simpa [mkK,Function.comp_def] using hok.keys,by simpa [mkK,Function.comp_def] using hok.borns,fun e he=>hok.lt (mkK e) (List.mem_map.2 ⟨e,he,rfl⟩)⟩
  refine hK _ _ ⟨clock,rfl,hH.turn .here fun F' hF'=>?_⟩
  obtain ⟨_,_,_,_,hF1,_⟩:=hF'
  exact ⟨uG ((hF1 b).2 rfl),F',⟨el,h5,hok',hn,hF1,uH h4⟩,fun b hb=>.inr hb⟩
theorem pI {t b c:Nat} {x y z:Operand} {ks:List Int} {k:Int} {w0 w:World} {M:Nat→Prop} {H:List It}
    (hx:ev l x=some (.map (some b))) (hy:ev l y=some (.int .i64 c)) (hz:ev l z=some (.bool true)) (hH:HS w0 M (xI b ks k c::H) w) :
    Op1 P N l ⟨d,.entryStore t x y z,T,pos,af,g⟩ w (fun v w'=>HS w0 M (sk b (ks++[k])::H) w'):=by
  intro a hA K Q hK
  obtain ⟨F,el,h5,hok,hn,h3,h4⟩:=hH.sat (it:=xI b ks k c) (.head _)
  have hes:=hok.es
  have hb:=born_new (k:=k) (v:=.bool false) (c:=c) (es:=el.map mkK) hes.lt
  unfold Oper.wp
  simp only [execOp,hA.ev hx,hA.ev hy,hA.ev hz,Instr.entryStore,asInt,asIntOf,Sem.run_bind,Sem.run_pure,Result.andThen_ok,xM h4,hb,xV h4,Oper.upon]
  have hmod:(((el.map mkK++[(k,Value.bool false,c)]).map mkE).toArray.modify (el.map mkK).length fun e=>{e with val:=.bool true})=(((el++[(k,c)]).map mkK).map mkE).toArray:=by
    apply Array.ext'
    simp only [Array.toList_modify]
    apply List.ext_getElem?
    intro i
    simp only [List.getElem?_modify,List.map_append,List.map_cons,List.map_nil]
    rcases Nat.lt_trichotomy i el.length with h|h|h
    · rw [List.getElem?_append_left (by simpa using h),List.getElem?_append_left (by simpa using h)]
      have h1:¬el.length=i:=by omega
      simp [h1]
    · subst h
      simp [mkK,mkE]
    · rw [List.getElem?_eq_none_iff.2 (by simp;omega),List.getElem?_eq_none_iff.2 (by simp;omega)]
      rfl
  simp only [hmod]
  refine hK _ _ (hH.turn .here fun F' hF'=>?_)
  obtain ⟨el',h5',hok'',hn',hF1,hF2⟩:=hF'
  refine ⟨uG ((hF1 b).2 rfl),F',⟨(el++[(k,c)]).map mkK,c+1,?_,⟨?_,?_,?_⟩,hF1,uH h4⟩,fun b hb=>.inr hb⟩
  · rw [←h5]
    simp [pS,mkK,Function.comp_def]
  · have:((el++[(k,c)]).map mkK).map (·.1)=ks++[k]:=by rw [←h5];simp [mkK,Function.comp_def]
    rw [this]
    refine List.nodup_append.2 ⟨h5▸hok.keys,by simp,fun x hx y hy=>?_⟩
    simp at hy;subst hy
    exact fun e=>hn (e▸hx)
  · have:((el++[(k,c)]).map mkK).map (·.2.2)=el.map (·.2)++[c]:=by simp [mkK,Function.comp_def]
    rw [this]
    refine List.nodup_append.2 ⟨hok.borns,by simp,fun x hx y hy=>?_⟩
    simp at hy;subst hy
    obtain ⟨e,he,rfl⟩:=List.mem_map.1 hx
    exact Nat.ne_of_lt (hok.lt e he)
  · intro e he
    obtain ⟨e',he',rfl⟩:=List.mem_map.1 he
    rcases List.mem_append.1 he' with h|h
    · have:=hok.lt e' h
      show e'.2<c+1
      omega
    · simp at h;subst h
      exact Nat.lt_succ_self _
theorem wA {t kt e b:Nat} {kk:IntKind} {x y z:Operand} {m:List (Int × Value)} {k:Int} {v:Value} {w0 w:World} {M:Nat→Prop} {H H':List It} [ht:TMp P t kt e] [hk:TIn P kt kk]
    (hx:ev l x=some (.map (some b))) (hy:ev l y=some (.int .i64 k)) (hz:ev l z=some v) (hH:HS w0 M H w) (hr:Rp H (mp b m) (mp b (mset m k v)) H') :
    Op1 P N l ⟨d,.insert t x y z,T,pos,af,g⟩ w (fun _ w'=>HS w0 M H' w'):=by
  intro a hA K Q hK
  have h:=xT (P:=P) (N:=N) (d:=d) (T:=T) (pos:=pos) (af:=af) (g:=g) (t:=t) hx hy hz hH hr a hA K Q hK
  exact h
theorem ex_build2 {t e by_:Nat} {z ze u v:Value} {zs zse:List Value} {x y:Operand} {bye:Nat} [ha:TAr P t 2 e] [hi:TIf P t z zs 2 by_] [he:TIf P e ze zse 1 bye] (hx:ev l x=some u) (hy:ev l y=some v) (hz:zs.length=2) (h1:u.oneCell'=true) (h2:v.oneCell'=true) :
    Ex P N l C ⟨d,.build t #[(0,x),(1,y)],T,pos,af,g⟩ (.agg #[u,v]):=by
  intro a w hA hC
  obtain ⟨ti,g3,g4,g5,g6⟩:=hi.eq
  obtain ⟨te,e3,e4,e5,e6⟩:=he.eq
  have hzs:z.cells=zs.toArray:=by rw [←hi.zc]
  obtain ⟨q0,q1,hq⟩:∃q0 q1,zs=[q0,q1]:=by
    match zs,hz with
    | [q0,q1],_=>exact ⟨q0,q1,rfl⟩
  have hu:u.cells=#[u]:=by cases u<;>first|rfl|cases h1
  have hv:v.cells=#[v]:=by cases v<;>first|rfl|cases h2
  simp [execOp,Instr.build,zeroValue,typeInfo,sizeOf,g3,g4,e3,e5,run_underlying ha.eq,hA.ev hx,hA.ev hy,hzs,hq,Instr.fill,hu,hv]
theorem ex_indexArr {t e n sz by_ i b j:Nat} {z:Value} {zs:List Value} {k:IntKind} {x ix:Operand} [ht:TAr P t n e] [hi:TIf P e z zs sz by_] (hx:ev l x=some (.pointer (some (bat b j)))) (hix:ev l ix=some (.int k (i:Int))) (h1:i<n) :
    Ex P N l C ⟨d,.indexAddr t x ix,T,pos,af,g⟩ (.pointer (some (bat b (j+i*sz)))):=by
  intro a w hA _
  obtain ⟨ti,h3,h4,h5,h6⟩:=hi.eq
  simp [execOp,hA.ev hx,hA.ev hix,Instr.indexAt,asIntOf,run_underlying ht.eq,sizeOf,typeInfo,h3,h5,h1,Instr.sureAddr,bat,Addr.add]
end
inductive Pl3 where
  |nil
  |q (i:Nat) (t:Pl3)
  |one (i:Nat) (t:Pl3)
  |two (i j:Nat) (t u:Pl3)
  |three (i j k:Nat) (t u v:Pl3)
def Pl3.len:Pl3→Nat
  | .nil=>0
  | .q _ t=>t.len+1
  | .one _ t=>t.len+1
  | .two _ _ t _=>t.len+1
  | .three _ _ _ t _ _=>t.len+1
def qs3:List Nat→Pl3→Pl3
  | [],t=>t
  |i::l,t=>.q i (qs3 l t)
def lX (ops:Array Oper):Pl3→Array Bool→Bool
  | .nil,listed=>decide (Region.ready .any ops listed=[])
  | .q i t,listed=>(Region.ready .any ops listed).contains i && Region.free .any ops listed i && lX ops t (listed.setIfInBounds i true)
  | .one i t,listed=>decide (Region.ready .any ops listed=[i]) && lX ops t (listed.setIfInBounds i true)
  | .two i j t u,listed=>Nat.beq t.len u.len && decide (Region.ready .any ops listed=[i,j]) && lX ops t (listed.setIfInBounds i true) && lX ops u (listed.setIfInBounds j true)
  | .three i j k t u v,listed=>Nat.beq t.len u.len && Nat.beq t.len v.len && decide (Region.ready .any ops listed=[i,j,k]) && lX ops t (listed.setIfInBounds i true) && lX ops u (listed.setIfInBounds j true) && lX ops v (listed.setIfInBounds k true)
def sN (P:Program) (ops:Array Oper) (S:World→Prop) (Q:Exit→Act→World→Prop) (K:Act→World→Prop):Pl3→Act→World→Prop
  | .nil,a,w=>K a w
  | .q i t,a,w=>∃o v,ops[i]?=some o∧YieldsIf P ops S o v a∧sN P ops S Q K t (a.put o.dst v) w
  | .one i t,a,w=>wpOp P ops (NoPanic Q) i (fun a' w'=>S w'∧sN P ops S Q K t a' w') a w
  | .two i j t u,a,w=>wpOp P ops (NoPanic Q) i (fun a' w'=>S w'∧sN P ops S Q K t a' w') a w∧wpOp P ops (NoPanic Q) j (fun a' w'=>S w'∧sN P ops S Q K u a' w') a w
  | .three i j k t u v,a,w=>wpOp P ops (NoPanic Q) i (fun a' w'=>S w'∧sN P ops S Q K t a' w') a w∧wpOp P ops (NoPanic Q) j (fun a' w'=>S w'∧sN P ops S Q K u a' w') a w∧wpOp P ops (NoPanic Q) k (fun a' w'=>S w'∧sN P ops S Q K v a' w') a w
section
variable {P:Program} {ops:Array Oper} {S:World→Prop} {Q:Exit→Act→World→Prop} {K:Act→World→Prop}
theorem tW (hs:Region.noSelect ops=true) (hK:∀a w,K a w→Q .normal a w):∀(t:Pl3) (listed:Array Bool) (a:Act) (w:World),
    lX ops t listed=true→S w→sN P ops S Q K t a w→wpAnyK P .any ops (NoPanic Q) S (fun _=>true) t.len listed a w
  | .nil,listed,a,w,hok,hS,h=>⟨of_decide_eq_true hok,hK a w h⟩
  | .q i t,listed,a,w,hok,hS,h=>by
    simp only [lX,Bool.and_eq_true] at hok
    obtain ⟨⟨hr,hf⟩,hok'⟩:=hok
    obtain ⟨o,v,hi,hy,hk⟩:=h
    exact wpAnyK.first hi (Region.noSelect_spec hs) (fun c a w h=>h) _ listed a w (fun j hF=>by cases hF) (Region.free_spec hi hf) (by simpa using hr) hy hS (tW hs hK t _ _ w hok' hS hk)
  | .one i t,listed,a,w,hok,hS,h=>by
    simp only [lX,Bool.and_eq_true,decide_eq_true_eq] at hok
    refine ⟨fun h0=>(by rw [hok.1] at h0;cases h0),fun j hj=>?_⟩
    rw [hok.1] at hj
    obtain rfl:j=i:=by simpa using hj
    exact wpOp_mono (fun a' w' ⟨hS',h'⟩=>⟨fun _ _=>hS',tW hs hK t _ a' w' hok.2 hS' h'⟩) h
  | .two i k t u,listed,a,w,hok,hS,h=>by
    simp only [lX,Bool.and_eq_true,decide_eq_true_eq] at hok
    obtain ⟨⟨⟨hl,hr⟩,ht⟩,hu⟩:=hok
    have hl:=Nat.eq_of_beq_eq_true hl
    refine ⟨fun h0=>(by rw [hr] at h0;cases h0),fun j hj=>?_⟩
    rw [hr] at hj
    rcases (by simpa using hj:j=i∨j=k) with rfl|rfl
    · exact wpOp_mono (fun a' w' ⟨hS',h'⟩=>⟨fun _ _=>hS',tW hs hK t _ a' w' ht hS' h'⟩) h.1
    · exact wpOp_mono (fun a' w' ⟨hS',h'⟩=>⟨fun _ _=>hS',by rw [hl];exact tW hs hK u _ a' w' hu hS' h'⟩) h.2
  | .three i k m t u v,listed,a,w,hok,hS,h=>by
    simp only [lX,Bool.and_eq_true,decide_eq_true_eq] at hok
    obtain ⟨⟨⟨⟨⟨hl,hl2⟩,hr⟩,ht⟩,hu⟩,hv⟩:=hok
    have hl:=Nat.eq_of_beq_eq_true hl
    have hl2:=Nat.eq_of_beq_eq_true hl2
    refine ⟨fun h0=>(by rw [hr] at h0;cases h0),fun j hj=>?_⟩
    rw [hr] at hj
    rcases (by simpa using hj:j=i∨j=k∨j=m) with rfl|rfl|rfl
    · exact wpOp_mono (fun a' w' ⟨hS',h'⟩=>⟨fun _ _=>hS',tW hs hK t _ a' w' ht hS' h'⟩) h.1
    · exact wpOp_mono (fun a' w' ⟨hS',h'⟩=>⟨fun _ _=>hS',by rw [hl];exact tW hs hK u _ a' w' hu hS' h'⟩) h.2.1
    · exact wpOp_mono (fun a' w' ⟨hS',h'⟩=>⟨fun _ _=>hS',by rw [hl2];exact tW hs hK v _ a' w' hv hS' h'⟩) h.2.2
end
theorem wp_drawT3 {P:Program} {id:Nat} {ops:List Oper} {Q:Exit→Act→World→Prop} {a:Act} {w0 w:World} {M:Nat→Prop} {H:List It} (t:Pl3) (R:Act→World→Prop) (hm:P.follows .mixedOrders=true)
    (hok:(Region.noSelect ops.toArray && Nat.beq t.len ops.length && lX ops.toArray t (Array.replicate ops.length false))=true) (hH:HS w0 M H w)
    (h:sN P ops.toArray (HS w0 M H) Q R t a w.drew) (k:∀a w,R a w→Q .normal a w):(Code.region id ops.toArray true).wp P Q a w:=by
  simp only [Bool.and_eq_true] at hok
  obtain ⟨⟨hs,hl⟩,hok⟩:=hok
  have hl':t.len=ops.toArray.size:=by simpa using Nat.eq_of_beq_eq_true hl
  have:=tW (P:=P) (Q:=Q) hs k t _ a w.drew hok hH.drew h
  rw [hl'] at this
  refine wp_region_noPanic (wp_region_any hm (wpAnyK.any (S:=HS w0 M H) (F:=fun _=>true) _ _ _ _ ?_))
  simpa using this
section
variable {P:Program} {N:Nat} {l:List (Nat × Value)} {a:Act} {Ds:List Deferred} {w:World} {ops:Array Oper} {S:World→Prop} {Q:Exit→Act→World→Prop} {K:Act→World→Prop} {i j m:Nat} {t u v:Pl3}
theorem d3_ex {o:Oper} {d:Nat} {v:Value} (hA:Sl N l a Ds) (hi:ops[i]?=some o) (hg:gd ops l o.guard=some true) (hd:o.dst=some d) (hdN:d<N)
    (h:Ex P N l S o v) (k':∀a',Sl N ((d,v)::l) a' Ds→sN P ops S Q K t a' w):sN P ops S Q K (.q i t) a w:=by
  refine ⟨o,v,hi,.inl ⟨hA.gd hg,fun w' hS=>h a w' hA.toSl0 hS⟩,?_⟩
  rw [hd]
  exact k' _ (hA.put hdN v)
theorem d3_op {o:Oper} {d:Nat} {R:Value→World→Prop} (hA:Sl N l a Ds) (hi:ops[i]?=some o) (hg:gd ops l o.guard=some true) (hd:o.dst=some d) (hdN:d<N)
    (h:Op1 P N l o w R) (k:∀v w',R v w'→S w'∧∀a',Sl N ((d,v)::l) a' Ds→sN P ops S Q K t a' w'):sN P ops S Q K (.one i t) a w:=by
  unfold sN wpOp
  simp only [hi,hA.gd hg,if_true]
  refine .inl (h a hA.toSl0 _ _ fun v w' hR=>?_)
  rw [hd]
  exact ⟨(k v w' hR).1,(k v w' hR).2 _ (hA.put hdN v)⟩
theorem d3_op0 {o:Oper} {R:Value→World→Prop} (hA:Sl N l a Ds) (hi:ops[i]?=some o) (hg:gd ops l o.guard=some true) (hd:o.dst=none)
    (h:Op1 P N l o w R) (k:∀v w',R v w'→S w'∧sN P ops S Q K t a w'):sN P ops S Q K (.one i t) a w:=by
  unfold sN wpOp
  simp only [hi,hA.gd hg,if_true]
  refine .inl (h a hA.toSl0 _ _ fun v w' hR=>?_)
  rw [hd]
  exact k v w' hR
theorem d3_two (h1:sN P ops S Q K (.one i t) a w) (h2:sN P ops S Q K (.one j u) a w):sN P ops S Q K (.two i j t u) a w:=⟨h1,h2⟩
theorem d3_three (h1:sN P ops S Q K (.one i t) a w) (h2:sN P ops S Q K (.one j u) a w) (h3:sN P ops S Q K (.one m v) a w):sN P ops S Q K (.three i j m t u v) a w:=⟨h1,h2,h3⟩
end
end Go.Fw
namespace Go.Proofs.YtenlcdokaadobaaGreatDoor
open Go Go.Fw
set_option maxRecDepth 100000
instance:TSc Tryz.prog 1:=⟨_,Tryz.underlying1,rfl⟩
instance:TIf Tryz.prog 1 .nilFunc [.nilFunc] 1 8:=⟨⟨Tryz.t1,rfl,rfl,rfl,rfl⟩,rfl⟩
instance:TSc Tryz.prog 2:=⟨_,Tryz.underlying2,rfl⟩
instance:TIn Tryz.prog 2 .i64:=⟨Tryz.underlying2⟩
instance:TIf Tryz.prog 2 (.int .i64 0) [(.int .i64 0)] 1 8:=⟨⟨Tryz.t2,rfl,rfl,rfl,rfl⟩,rfl⟩
instance:TSc Tryz.prog 3:=⟨_,Tryz.underlying3,rfl⟩
instance:TIn Tryz.prog 3 .i64:=⟨Tryz.underlying3⟩
instance:TIf Tryz.prog 3 (.int .i64 0) [(.int .i64 0)] 1 8:=⟨⟨Tryz.t3,rfl,rfl,rfl,rfl⟩,rfl⟩
instance:TSc Tryz.prog 4:=⟨_,Tryz.underlying4,rfl⟩
instance:TBo Tryz.prog 4:=⟨Tryz.underlying4⟩
instance:TIf Tryz.prog 4 (.bool false) [(.bool false)] 1 1:=⟨⟨Tryz.t4,rfl,rfl,rfl,rfl⟩,rfl⟩
instance:TSc Tryz.prog 5:=⟨_,Tryz.underlying5,rfl⟩
instance:TIn Tryz.prog 5 .u8:=⟨Tryz.underlying5⟩
instance:TIf Tryz.prog 5 (.int .u8 0) [(.int .u8 0)] 1 1:=⟨⟨Tryz.t5,rfl,rfl,rfl,rfl⟩,rfl⟩
instance:TSc Tryz.prog 6:=⟨_,Tryz.underlying6,rfl⟩
instance:TIn Tryz.prog 6 .u8:=⟨Tryz.underlying6⟩
instance:TIf Tryz.prog 6 (.int .u8 0) [(.int .u8 0)] 1 1:=⟨⟨Tryz.t6,rfl,rfl,rfl,rfl⟩,rfl⟩
instance:TSt Tryz.prog 7 [(2,0),(3,1),(4,2),(6,3)]:=⟨⟨_,Tryz.underlying7,rfl⟩,List.forall_mem_cons.2 ⟨⟨Tryz.t2,rfl,by decide⟩,List.forall_mem_cons.2 ⟨⟨Tryz.t3,rfl,by decide⟩,List.forall_mem_cons.2 ⟨⟨Tryz.t4,rfl,by decide⟩,List.forall_mem_cons.2 ⟨⟨Tryz.t6,rfl,by decide⟩,nofun⟩⟩⟩⟩⟩
instance:TIf Tryz.prog 7 (.agg #[(.int .i64 0),(.int .i64 0),(.bool false),(.int .u8 0)]) [(.int .i64 0),(.int .i64 0),(.bool false),(.int .u8 0)] 4 24:=⟨⟨Tryz.t7,rfl,rfl,rfl,rfl⟩,rfl⟩
instance:TSt Tryz.prog 8 [(2,0),(3,1),(4,2),(6,3)]:=⟨⟨_,Tryz.underlying8,rfl⟩,List.forall_mem_cons.2 ⟨⟨Tryz.t2,rfl,by decide⟩,List.forall_mem_cons.2 ⟨⟨Tryz.t3,rfl,by decide⟩,List.forall_mem_cons.2 ⟨⟨Tryz.t4,rfl,by decide⟩,List.forall_mem_cons.2 ⟨⟨Tryz.t6,rfl,by decide⟩,nofun⟩⟩⟩⟩⟩
instance:TIf Tryz.prog 8 (.agg #[(.int .i64 0),(.int .i64 0),(.bool false),(.int .u8 0)]) [(.int .i64 0),(.int .i64 0),(.bool false),(.int .u8 0)] 4 24:=⟨⟨Tryz.t8,rfl,rfl,rfl,rfl⟩,rfl⟩
instance:TSc Tryz.prog 9:=⟨_,Tryz.underlying9,rfl⟩
instance:TSr Tryz.prog 9:=⟨Tryz.underlying9⟩
instance:TIf Tryz.prog 9 (.string ByteArray.empty) [(.string ByteArray.empty)] 1 16:=⟨⟨Tryz.t9,rfl,rfl,rfl,rfl⟩,rfl⟩
instance:TSc Tryz.prog 10:=⟨_,Tryz.underlying10,rfl⟩
instance:TSr Tryz.prog 10:=⟨Tryz.underlying10⟩
instance:TIf Tryz.prog 10 (.string ByteArray.empty) [(.string ByteArray.empty)] 1 16:=⟨⟨Tryz.t10,rfl,rfl,rfl,rfl⟩,rfl⟩
instance:TSc Tryz.prog 11:=⟨_,Tryz.underlying11,rfl⟩
instance:TSr Tryz.prog 11:=⟨Tryz.underlying11⟩
instance:TIf Tryz.prog 11 (.string ByteArray.empty) [(.string ByteArray.empty)] 1 16:=⟨⟨Tryz.t11,rfl,rfl,rfl,rfl⟩,rfl⟩
instance:TSc Tryz.prog 12:=⟨_,Tryz.underlying12,rfl⟩
instance:TIn Tryz.prog 12 .u64:=⟨Tryz.underlying12⟩
instance:TIf Tryz.prog 12 (.int .u64 0) [(.int .u64 0)] 1 8:=⟨⟨Tryz.t12,rfl,rfl,rfl,rfl⟩,rfl⟩
instance:TSt Tryz.prog 13 [(9,0),(12,1)]:=⟨⟨_,Tryz.underlying13,rfl⟩,List.forall_mem_cons.2 ⟨⟨Tryz.t9,rfl,by decide⟩,List.forall_mem_cons.2 ⟨⟨Tryz.t12,rfl,by decide⟩,nofun⟩⟩⟩
instance:TIf Tryz.prog 13 (.agg #[(.string ByteArray.empty),(.int .u64 0)]) [(.string ByteArray.empty),(.int .u64 0)] 2 24:=⟨⟨Tryz.t13,rfl,rfl,rfl,rfl⟩,rfl⟩
instance:TSt Tryz.prog 14 [(9,0),(12,1)]:=⟨⟨_,Tryz.underlying14,rfl⟩,List.forall_mem_cons.2 ⟨⟨Tryz.t9,rfl,by decide⟩,List.forall_mem_cons.2 ⟨⟨Tryz.t12,rfl,by decide⟩,nofun⟩⟩⟩
instance:TIf Tryz.prog 14 (.agg #[(.string ByteArray.empty),(.int .u64 0)]) [(.string ByteArray.empty),(.int .u64 0)] 2 24:=⟨⟨Tryz.t14,rfl,rfl,rfl,rfl⟩,rfl⟩
instance:TSc Tryz.prog 15:=⟨_,Tryz.underlying15,rfl⟩
instance:TPt Tryz.prog 15:=⟨by unfold Program.pointee;rw [Tryz.underlying15]⟩
instance:TIf Tryz.prog 15 (.pointer none) [(.pointer none)] 1 8:=⟨⟨Tryz.t15,rfl,rfl,rfl,rfl⟩,rfl⟩
instance:TSc Tryz.prog 16:=⟨_,Tryz.underlying16,rfl⟩
instance:TPt Tryz.prog 16:=⟨by unfold Program.pointee;rw [Tryz.underlying16]⟩
instance:TIf Tryz.prog 16 (.pointer none) [(.pointer none)] 1 8:=⟨⟨Tryz.t16,rfl,rfl,rfl,rfl⟩,rfl⟩
instance:TSc Tryz.prog 20:=⟨_,Tryz.underlying20,rfl⟩
instance:TIf Tryz.prog 20 .nilIface [.nilIface] 1 16:=⟨⟨Tryz.t20,rfl,rfl,rfl,rfl⟩,rfl⟩
instance:TSc Tryz.prog 21:=⟨_,Tryz.underlying21,rfl⟩
instance:TIn Tryz.prog 21 .i32:=⟨Tryz.underlying21⟩
instance:TIf Tryz.prog 21 (.int .i32 0) [(.int .i32 0)] 1 4:=⟨⟨Tryz.t21,rfl,rfl,rfl,rfl⟩,rfl⟩
instance:TSc Tryz.prog 22:=⟨_,Tryz.underlying22,rfl⟩
instance:TSl Tryz.prog 22 44:=⟨Tryz.underlying22⟩
instance:TIf Tryz.prog 22 (.slice none 0 0) [(.slice none 0 0)] 1 24:=⟨⟨Tryz.t22,rfl,rfl,rfl,rfl⟩,rfl⟩
instance:TSc Tryz.prog 23:=⟨_,Tryz.underlying23,rfl⟩
instance:TSl Tryz.prog 23 9:=⟨Tryz.underlying23⟩
instance:TIf Tryz.prog 23 (.slice none 0 0) [(.slice none 0 0)] 1 24:=⟨⟨Tryz.t23,rfl,rfl,rfl,rfl⟩,rfl⟩
instance:TSt Tryz.prog 25 [(22,0),(23,1),(23,2),(23,3),(23,4)]:=⟨⟨_,Tryz.underlying25,rfl⟩,List.forall_mem_cons.2 ⟨⟨Tryz.t22,rfl,by decide⟩,List.forall_mem_cons.2 ⟨⟨Tryz.t23,rfl,by decide⟩,List.forall_mem_cons.2 ⟨⟨Tryz.t23,rfl,by decide⟩,List.forall_mem_cons.2 ⟨⟨Tryz.t23,rfl,by decide⟩,List.forall_mem_cons.2 ⟨⟨Tryz.t23,rfl,by decide⟩,nofun⟩⟩⟩⟩⟩⟩
instance:TIf Tryz.prog 25 (.agg #[(.slice none 0 0),(.slice none 0 0),(.slice none 0 0),(.slice none 0 0),(.slice none 0 0)]) [(.slice none 0 0),(.slice none 0 0),(.slice none 0 0),(.slice none 0 0),(.slice none 0 0)] 5 120:=⟨⟨Tryz.t25,rfl,rfl,rfl,rfl⟩,rfl⟩
instance:TSt Tryz.prog 29 [(3,0),(9,1),(9,2)]:=⟨⟨_,Tryz.underlying29,rfl⟩,List.forall_mem_cons.2 ⟨⟨Tryz.t3,rfl,by decide⟩,List.forall_mem_cons.2 ⟨⟨Tryz.t9,rfl,by decide⟩,List.forall_mem_cons.2 ⟨⟨Tryz.t9,rfl,by decide⟩,nofun⟩⟩⟩⟩
instance:TIf Tryz.prog 29 (.agg #[(.int .i64 0),(.string ByteArray.empty),(.string ByteArray.empty)]) [(.int .i64 0),(.string ByteArray.empty),(.string ByteArray.empty)] 3 40:=⟨⟨Tryz.t29,rfl,rfl,rfl,rfl⟩,rfl⟩
instance:TSc Tryz.prog 32:=⟨_,Tryz.underlying32,rfl⟩
instance:TSl Tryz.prog 32 72:=⟨Tryz.underlying32⟩
instance:TIf Tryz.prog 32 (.slice none 0 0) [(.slice none 0 0)] 1 24:=⟨⟨Tryz.t32,rfl,rfl,rfl,rfl⟩,rfl⟩
instance:TSt Tryz.prog 34 [(32,0),(23,1),(23,2),(23,3),(23,4)]:=⟨⟨_,Tryz.underlying34,rfl⟩,List.forall_mem_cons.2 ⟨⟨Tryz.t32,rfl,by decide⟩,List.forall_mem_cons.2 ⟨⟨Tryz.t23,rfl,by decide⟩,List.forall_mem_cons.2 ⟨⟨Tryz.t23,rfl,by decide⟩,List.forall_mem_cons.2 ⟨⟨Tryz.t23,rfl,by decide⟩,List.forall_mem_cons.2 ⟨⟨Tryz.t23,rfl,by decide⟩,nofun⟩⟩⟩⟩⟩⟩
instance:TIf Tryz.prog 34 (.agg #[(.slice none 0 0),(.slice none 0 0),(.slice none 0 0),(.slice none 0 0),(.slice none 0 0)]) [(.slice none 0 0),(.slice none 0 0),(.slice none 0 0),(.slice none 0 0),(.slice none 0 0)] 5 120:=⟨⟨Tryz.t34,rfl,rfl,rfl,rfl⟩,rfl⟩
instance:TSc Tryz.prog 36:=⟨_,Tryz.underlying36,rfl⟩
instance:TIn Tryz.prog 36 .i64:=⟨Tryz.underlying36⟩
instance:TIf Tryz.prog 36 (.int .i64 0) [(.int .i64 0)] 1 8:=⟨⟨Tryz.t36,rfl,rfl,rfl,rfl⟩,rfl⟩
instance:TSc Tryz.prog 42:=⟨_,Tryz.underlying42,rfl⟩
instance:TSl Tryz.prog 42 53:=⟨Tryz.underlying42⟩
instance:TIf Tryz.prog 42 (.slice none 0 0) [(.slice none 0 0)] 1 24:=⟨⟨Tryz.t42,rfl,rfl,rfl,rfl⟩,rfl⟩
instance:TSt Tryz.prog 44 [(3,0),(42,1)]:=⟨⟨_,Tryz.underlying44,rfl⟩,List.forall_mem_cons.2 ⟨⟨Tryz.t3,rfl,by decide⟩,List.forall_mem_cons.2 ⟨⟨Tryz.t42,rfl,by decide⟩,nofun⟩⟩⟩
instance:TIf Tryz.prog 44 (.agg #[(.int .i64 0),(.slice none 0 0)]) [(.int .i64 0),(.slice none 0 0)] 2 32:=⟨⟨Tryz.t44,rfl,rfl,rfl,rfl⟩,rfl⟩
instance:TSc Tryz.prog 45:=⟨_,Tryz.underlying45,rfl⟩
instance:TSl Tryz.prog 45 3:=⟨Tryz.underlying45⟩
instance:TIf Tryz.prog 45 (.slice none 0 0) [(.slice none 0 0)] 1 24:=⟨⟨Tryz.t45,rfl,rfl,rfl,rfl⟩,rfl⟩
instance:TSc Tryz.prog 46:=⟨_,Tryz.underlying46,rfl⟩
instance:TSl Tryz.prog 46 59:=⟨Tryz.underlying46⟩
instance:TIf Tryz.prog 46 (.slice none 0 0) [(.slice none 0 0)] 1 24:=⟨⟨Tryz.t46,rfl,rfl,rfl,rfl⟩,rfl⟩
instance:TSc Tryz.prog 47:=⟨_,Tryz.underlying47,rfl⟩
instance:TSl Tryz.prog 47 65:=⟨Tryz.underlying47⟩
instance:TIf Tryz.prog 47 (.slice none 0 0) [(.slice none 0 0)] 1 24:=⟨⟨Tryz.t47,rfl,rfl,rfl,rfl⟩,rfl⟩
instance:TSc Tryz.prog 48:=⟨_,Tryz.underlying48,rfl⟩
instance:TSl Tryz.prog 48 2:=⟨Tryz.underlying48⟩
instance:TIf Tryz.prog 48 (.slice none 0 0) [(.slice none 0 0)] 1 24:=⟨⟨Tryz.t48,rfl,rfl,rfl,rfl⟩,rfl⟩
instance:TSc Tryz.prog 49:=⟨_,Tryz.underlying49,rfl⟩
instance:TSl Tryz.prog 49 61:=⟨Tryz.underlying49⟩
instance:TIf Tryz.prog 49 (.slice none 0 0) [(.slice none 0 0)] 1 24:=⟨⟨Tryz.t49,rfl,rfl,rfl,rfl⟩,rfl⟩
instance:TSt Tryz.prog 51 [(3,0),(47,1),(48,2),(49,3)]:=⟨⟨_,Tryz.underlying51,rfl⟩,List.forall_mem_cons.2 ⟨⟨Tryz.t3,rfl,by decide⟩,List.forall_mem_cons.2 ⟨⟨Tryz.t47,rfl,by decide⟩,List.forall_mem_cons.2 ⟨⟨Tryz.t48,rfl,by decide⟩,List.forall_mem_cons.2 ⟨⟨Tryz.t49,rfl,by decide⟩,nofun⟩⟩⟩⟩⟩
instance:TIf Tryz.prog 51 (.agg #[(.int .i64 0),(.slice none 0 0),(.slice none 0 0),(.slice none 0 0)]) [(.int .i64 0),(.slice none 0 0),(.slice none 0 0),(.slice none 0 0)] 4 80:=⟨⟨Tryz.t51,rfl,rfl,rfl,rfl⟩,rfl⟩
instance:TSt Tryz.prog 53 [(45,0),(46,1),(51,2)]:=⟨⟨_,Tryz.underlying53,rfl⟩,List.forall_mem_cons.2 ⟨⟨Tryz.t45,rfl,by decide⟩,List.forall_mem_cons.2 ⟨⟨Tryz.t46,rfl,by decide⟩,List.forall_mem_cons.2 ⟨⟨Tryz.t51,rfl,by decide⟩,nofun⟩⟩⟩⟩
instance:TIf Tryz.prog 53 (.agg #[(.slice none 0 0),(.slice none 0 0),(.int .i64 0),(.slice none 0 0),(.slice none 0 0),(.slice none 0 0)]) [(.slice none 0 0),(.slice none 0 0),(.int .i64 0),(.slice none 0 0),(.slice none 0 0),(.slice none 0 0)] 6 128:=⟨⟨Tryz.t53,rfl,rfl,rfl,rfl⟩,rfl⟩
instance:TSt Tryz.prog 57 [(3,0),(2,1),(48,2),(47,3)]:=⟨⟨_,Tryz.underlying57,rfl⟩,List.forall_mem_cons.2 ⟨⟨Tryz.t3,rfl,by decide⟩,List.forall_mem_cons.2 ⟨⟨Tryz.t2,rfl,by decide⟩,List.forall_mem_cons.2 ⟨⟨Tryz.t48,rfl,by decide⟩,List.forall_mem_cons.2 ⟨⟨Tryz.t47,rfl,by decide⟩,nofun⟩⟩⟩⟩⟩
instance:TIf Tryz.prog 57 (.agg #[(.int .i64 0),(.int .i64 0),(.slice none 0 0),(.slice none 0 0)]) [(.int .i64 0),(.int .i64 0),(.slice none 0 0),(.slice none 0 0)] 4 64:=⟨⟨Tryz.t57,rfl,rfl,rfl,rfl⟩,rfl⟩
instance:TSt Tryz.prog 59 [(3,0),(57,1)]:=⟨⟨_,Tryz.underlying59,rfl⟩,List.forall_mem_cons.2 ⟨⟨Tryz.t3,rfl,by decide⟩,List.forall_mem_cons.2 ⟨⟨Tryz.t57,rfl,by decide⟩,nofun⟩⟩⟩
instance:TIf Tryz.prog 59 (.agg #[(.int .i64 0),(.int .i64 0),(.int .i64 0),(.slice none 0 0),(.slice none 0 0)]) [(.int .i64 0),(.int .i64 0),(.int .i64 0),(.slice none 0 0),(.slice none 0 0)] 5 72:=⟨⟨Tryz.t59,rfl,rfl,rfl,rfl⟩,rfl⟩
instance:TSt Tryz.prog 61 [(3,0),(47,1)]:=⟨⟨_,Tryz.underlying61,rfl⟩,List.forall_mem_cons.2 ⟨⟨Tryz.t3,rfl,by decide⟩,List.forall_mem_cons.2 ⟨⟨Tryz.t47,rfl,by decide⟩,nofun⟩⟩⟩
instance:TIf Tryz.prog 61 (.agg #[(.int .i64 0),(.slice none 0 0)]) [(.int .i64 0),(.slice none 0 0)] 2 32:=⟨⟨Tryz.t61,rfl,rfl,rfl,rfl⟩,rfl⟩
instance:TSt Tryz.prog 65 [(3,0),(2,1)]:=⟨⟨_,Tryz.underlying65,rfl⟩,List.forall_mem_cons.2 ⟨⟨Tryz.t3,rfl,by decide⟩,List.forall_mem_cons.2 ⟨⟨Tryz.t2,rfl,by decide⟩,nofun⟩⟩⟩
instance:TIf Tryz.prog 65 (.agg #[(.int .i64 0),(.int .i64 0)]) [(.int .i64 0),(.int .i64 0)] 2 16:=⟨⟨Tryz.t65,rfl,rfl,rfl,rfl⟩,rfl⟩
instance:TSc Tryz.prog 68:=⟨_,Tryz.underlying68,rfl⟩
instance:TSl Tryz.prog 68 70:=⟨Tryz.underlying68⟩
instance:TIf Tryz.prog 68 (.slice none 0 0) [(.slice none 0 0)] 1 24:=⟨⟨Tryz.t68,rfl,rfl,rfl,rfl⟩,rfl⟩
instance:TSt Tryz.prog 70 [(3,0),(3,1),(45,2),(3,3),(48,4),(57,5),(47,9),(68,10)]:=⟨⟨_,Tryz.underlying70,rfl⟩,List.forall_mem_cons.2 ⟨⟨Tryz.t3,rfl,by decide⟩,List.forall_mem_cons.2 ⟨⟨Tryz.t3,rfl,by decide⟩,List.forall_mem_cons.2 ⟨⟨Tryz.t45,rfl,by decide⟩,List.forall_mem_cons.2 ⟨⟨Tryz.t3,rfl,by decide⟩,List.forall_mem_cons.2 ⟨⟨Tryz.t48,rfl,by decide⟩,List.forall_mem_cons.2 ⟨⟨Tryz.t57,rfl,by decide⟩,List.forall_mem_cons.2 ⟨⟨Tryz.t47,rfl,by decide⟩,List.forall_mem_cons.2 ⟨⟨Tryz.t68,rfl,by decide⟩,nofun⟩⟩⟩⟩⟩⟩⟩⟩⟩
instance:TIf Tryz.prog 70 (.agg #[(.int .i64 0),(.int .i64 0),(.slice none 0 0),(.int .i64 0),(.slice none 0 0),(.int .i64 0),(.int .i64 0),(.slice none 0 0),(.slice none 0 0),(.slice none 0 0),(.slice none 0 0)]) [(.int .i64 0),(.int .i64 0),(.slice none 0 0),(.int .i64 0),(.slice none 0 0),(.int .i64 0),(.int .i64 0),(.slice none 0 0),(.slice none 0 0),(.slice none 0 0),(.slice none 0 0)] 11 184:=⟨⟨Tryz.t70,rfl,rfl,rfl,rfl⟩,rfl⟩
instance:TSt Tryz.prog 72 [(3,0),(70,1)]:=⟨⟨_,Tryz.underlying72,rfl⟩,List.forall_mem_cons.2 ⟨⟨Tryz.t3,rfl,by decide⟩,List.forall_mem_cons.2 ⟨⟨Tryz.t70,rfl,by decide⟩,nofun⟩⟩⟩
instance:TIf Tryz.prog 72 (.agg #[(.int .i64 0),(.int .i64 0),(.int .i64 0),(.slice none 0 0),(.int .i64 0),(.slice none 0 0),(.int .i64 0),(.int .i64 0),(.slice none 0 0),(.slice none 0 0),(.slice none 0 0),(.slice none 0 0)]) [(.int .i64 0),(.int .i64 0),(.int .i64 0),(.slice none 0 0),(.int .i64 0),(.slice none 0 0),(.int .i64 0),(.int .i64 0),(.slice none 0 0),(.slice none 0 0),(.slice none 0 0),(.slice none 0 0)] 12 192:=⟨⟨Tryz.t72,rfl,rfl,rfl,rfl⟩,rfl⟩
instance:TSc Tryz.prog 74:=⟨_,Tryz.underlying74,rfl⟩
instance:TPt Tryz.prog 74:=⟨by unfold Program.pointee;rw [Tryz.underlying74]⟩
instance:TIf Tryz.prog 74 (.pointer none) [(.pointer none)] 1 8:=⟨⟨Tryz.t74,rfl,rfl,rfl,rfl⟩,rfl⟩
instance:TSc Tryz.prog 75:=⟨_,Tryz.underlying75,rfl⟩
instance:TSl Tryz.prog 75 5:=⟨Tryz.underlying75⟩
instance:TIf Tryz.prog 75 (.slice none 0 0) [(.slice none 0 0)] 1 24:=⟨⟨Tryz.t75,rfl,rfl,rfl,rfl⟩,rfl⟩
instance:TSt Tryz.prog 77 [(23,0),(23,1),(3,2),(9,3),(75,4)]:=⟨⟨_,Tryz.underlying77,rfl⟩,List.forall_mem_cons.2 ⟨⟨Tryz.t23,rfl,by decide⟩,List.forall_mem_cons.2 ⟨⟨Tryz.t23,rfl,by decide⟩,List.forall_mem_cons.2 ⟨⟨Tryz.t3,rfl,by decide⟩,List.forall_mem_cons.2 ⟨⟨Tryz.t9,rfl,by decide⟩,List.forall_mem_cons.2 ⟨⟨Tryz.t75,rfl,by decide⟩,nofun⟩⟩⟩⟩⟩⟩
instance:TIf Tryz.prog 77 (.agg #[(.slice none 0 0),(.slice none 0 0),(.int .i64 0),(.string ByteArray.empty),(.slice none 0 0)]) [(.slice none 0 0),(.slice none 0 0),(.int .i64 0),(.string ByteArray.empty),(.slice none 0 0)] 5 96:=⟨⟨Tryz.t77,rfl,rfl,rfl,rfl⟩,rfl⟩
instance:TSc Tryz.prog 78:=⟨_,Tryz.underlying78,rfl⟩
instance:TSl Tryz.prog 78 83:=⟨Tryz.underlying78⟩
instance:TIf Tryz.prog 78 (.slice none 0 0) [(.slice none 0 0)] 1 24:=⟨⟨Tryz.t78,rfl,rfl,rfl,rfl⟩,rfl⟩
instance:TSc Tryz.prog 79:=⟨_,Tryz.underlying79,rfl⟩
instance:TPt Tryz.prog 79:=⟨by unfold Program.pointee;rw [Tryz.underlying79]⟩
instance:TIf Tryz.prog 79 (.pointer none) [(.pointer none)] 1 8:=⟨⟨Tryz.t79,rfl,rfl,rfl,rfl⟩,rfl⟩
instance:TSc Tryz.prog 80:=⟨_,Tryz.underlying80,rfl⟩
instance:TMp Tryz.prog 80 3 137:=⟨Tryz.underlying80⟩
instance:TIf Tryz.prog 80 (.map none) [(.map none)] 1 8:=⟨⟨Tryz.t80,rfl,rfl,rfl,rfl⟩,rfl⟩
instance:TSc Tryz.prog 81:=⟨_,Tryz.underlying81,rfl⟩
instance:TPt Tryz.prog 81:=⟨by unfold Program.pointee;rw [Tryz.underlying81]⟩
instance:TIf Tryz.prog 81 (.pointer none) [(.pointer none)] 1 8:=⟨⟨Tryz.t81,rfl,rfl,rfl,rfl⟩,rfl⟩
instance:TSt Tryz.prog 83 [(79,0),(80,1),(81,2),(3,3),(79,4)]:=⟨⟨_,Tryz.underlying83,rfl⟩,List.forall_mem_cons.2 ⟨⟨Tryz.t79,rfl,by decide⟩,List.forall_mem_cons.2 ⟨⟨Tryz.t80,rfl,by decide⟩,List.forall_mem_cons.2 ⟨⟨Tryz.t81,rfl,by decide⟩,List.forall_mem_cons.2 ⟨⟨Tryz.t3,rfl,by decide⟩,List.forall_mem_cons.2 ⟨⟨Tryz.t79,rfl,by decide⟩,nofun⟩⟩⟩⟩⟩⟩
instance:TIf Tryz.prog 83 (.agg #[(.pointer none),(.map none),(.pointer none),(.int .i64 0),(.pointer none)]) [(.pointer none),(.map none),(.pointer none),(.int .i64 0),(.pointer none)] 5 40:=⟨⟨Tryz.t83,rfl,rfl,rfl,rfl⟩,rfl⟩
instance:TSc Tryz.prog 84:=⟨_,Tryz.underlying84,rfl⟩
instance:TPt Tryz.prog 84:=⟨by unfold Program.pointee;rw [Tryz.underlying84]⟩
instance:TIf Tryz.prog 84 (.pointer none) [(.pointer none)] 1 8:=⟨⟨Tryz.t84,rfl,rfl,rfl,rfl⟩,rfl⟩
instance:TSt Tryz.prog 86 [(77,0),(25,5),(2,10),(78,11),(83,12),(84,17)]:=⟨⟨_,Tryz.underlying86,rfl⟩,List.forall_mem_cons.2 ⟨⟨Tryz.t77,rfl,by decide⟩,List.forall_mem_cons.2 ⟨⟨Tryz.t25,rfl,by decide⟩,List.forall_mem_cons.2 ⟨⟨Tryz.t2,rfl,by decide⟩,List.forall_mem_cons.2 ⟨⟨Tryz.t78,rfl,by decide⟩,List.forall_mem_cons.2 ⟨⟨Tryz.t83,rfl,by decide⟩,List.forall_mem_cons.2 ⟨⟨Tryz.t84,rfl,by decide⟩,nofun⟩⟩⟩⟩⟩⟩⟩
instance:TIf Tryz.prog 86 (.agg #[(.slice none 0 0),(.slice none 0 0),(.int .i64 0),(.string ByteArray.empty),(.slice none 0 0),(.slice none 0 0),(.slice none 0 0),(.slice none 0 0),(.slice none 0 0),(.slice none 0 0),(.int .i64 0),(.slice none 0 0),(.pointer none),(.map none),(.pointer none),(.int .i64 0),(.pointer none),(.pointer none)]) [(.slice none 0 0),(.slice none 0 0),(.int .i64 0),(.string ByteArray.empty),(.slice none 0 0),(.slice none 0 0),(.slice none 0 0),(.slice none 0 0),(.slice none 0 0),(.slice none 0 0),(.int .i64 0),(.slice none 0 0),(.pointer none),(.map none),(.pointer none),(.int .i64 0),(.pointer none),(.pointer none)] 18 296:=⟨⟨Tryz.t86,rfl,rfl,rfl,rfl⟩,rfl⟩
instance:TSc Tryz.prog 88:=⟨_,Tryz.underlying88,rfl⟩
instance:TSl Tryz.prog 88 137:=⟨Tryz.underlying88⟩
instance:TIf Tryz.prog 88 (.slice none 0 0) [(.slice none 0 0)] 1 24:=⟨⟨Tryz.t88,rfl,rfl,rfl,rfl⟩,rfl⟩
instance:TSt Tryz.prog 90 [(3,0),(88,1)]:=⟨⟨_,Tryz.underlying90,rfl⟩,List.forall_mem_cons.2 ⟨⟨Tryz.t3,rfl,by decide⟩,List.forall_mem_cons.2 ⟨⟨Tryz.t88,rfl,by decide⟩,nofun⟩⟩⟩
instance:TIf Tryz.prog 90 (.agg #[(.int .i64 0),(.slice none 0 0)]) [(.int .i64 0),(.slice none 0 0)] 2 32:=⟨⟨Tryz.t90,rfl,rfl,rfl,rfl⟩,rfl⟩
instance:TSc Tryz.prog 94:=⟨_,Tryz.underlying94,rfl⟩
instance:TPt Tryz.prog 94:=⟨by unfold Program.pointee;rw [Tryz.underlying94]⟩
instance:TIf Tryz.prog 94 (.pointer none) [(.pointer none)] 1 8:=⟨⟨Tryz.t94,rfl,rfl,rfl,rfl⟩,rfl⟩
instance:TSc Tryz.prog 95:=⟨_,Tryz.underlying95,rfl⟩
instance:TPt Tryz.prog 95:=⟨by unfold Program.pointee;rw [Tryz.underlying95]⟩
instance:TIf Tryz.prog 95 (.pointer none) [(.pointer none)] 1 8:=⟨⟨Tryz.t95,rfl,rfl,rfl,rfl⟩,rfl⟩
instance:TSc Tryz.prog 96:=⟨_,Tryz.underlying96,rfl⟩
instance:TSl Tryz.prog 96 101:=⟨Tryz.underlying96⟩
instance:TIf Tryz.prog 96 (.slice none 0 0) [(.slice none 0 0)] 1 24:=⟨⟨Tryz.t96,rfl,rfl,rfl,rfl⟩,rfl⟩
instance:TSt Tryz.prog 98 [(23,0),(23,1),(9,2),(75,3),(96,4)]:=⟨⟨_,Tryz.underlying98,rfl⟩,List.forall_mem_cons.2 ⟨⟨Tryz.t23,rfl,by decide⟩,List.forall_mem_cons.2 ⟨⟨Tryz.t23,rfl,by decide⟩,List.forall_mem_cons.2 ⟨⟨Tryz.t9,rfl,by decide⟩,List.forall_mem_cons.2 ⟨⟨Tryz.t75,rfl,by decide⟩,List.forall_mem_cons.2 ⟨⟨Tryz.t96,rfl,by decide⟩,nofun⟩⟩⟩⟩⟩⟩
instance:TIf Tryz.prog 98 (.agg #[(.slice none 0 0),(.slice none 0 0),(.string ByteArray.empty),(.slice none 0 0),(.slice none 0 0)]) [(.slice none 0 0),(.slice none 0 0),(.string ByteArray.empty),(.slice none 0 0),(.slice none 0 0)] 5 112:=⟨⟨Tryz.t98,rfl,rfl,rfl,rfl⟩,rfl⟩
instance:TSt Tryz.prog 100 [(25,0),(2,5),(95,6)]:=⟨⟨_,Tryz.underlying100,rfl⟩,List.forall_mem_cons.2 ⟨⟨Tryz.t25,rfl,by decide⟩,List.forall_mem_cons.2 ⟨⟨Tryz.t2,rfl,by decide⟩,List.forall_mem_cons.2 ⟨⟨Tryz.t95,rfl,by decide⟩,nofun⟩⟩⟩⟩
instance:TIf Tryz.prog 100 (.agg #[(.slice none 0 0),(.slice none 0 0),(.slice none 0 0),(.slice none 0 0),(.slice none 0 0),(.int .i64 0),(.pointer none)]) [(.slice none 0 0),(.slice none 0 0),(.slice none 0 0),(.slice none 0 0),(.slice none 0 0),(.int .i64 0),(.pointer none)] 7 136:=⟨⟨Tryz.t100,rfl,rfl,rfl,rfl⟩,rfl⟩
instance:TSc Tryz.prog 101:=⟨_,Tryz.underlying101,rfl⟩
instance:TSl Tryz.prog 101 103:=⟨Tryz.underlying101⟩
instance:TIf Tryz.prog 101 (.slice none 0 0) [(.slice none 0 0)] 1 24:=⟨⟨Tryz.t101,rfl,rfl,rfl,rfl⟩,rfl⟩
instance:TSt Tryz.prog 103 [(3,0),(2,1),(9,2),(48,3),(101,4)]:=⟨⟨_,Tryz.underlying103,rfl⟩,List.forall_mem_cons.2 ⟨⟨Tryz.t3,rfl,by decide⟩,List.forall_mem_cons.2 ⟨⟨Tryz.t2,rfl,by decide⟩,List.forall_mem_cons.2 ⟨⟨Tryz.t9,rfl,by decide⟩,List.forall_mem_cons.2 ⟨⟨Tryz.t48,rfl,by decide⟩,List.forall_mem_cons.2 ⟨⟨Tryz.t101,rfl,by decide⟩,nofun⟩⟩⟩⟩⟩⟩
instance:TIf Tryz.prog 103 (.agg #[(.int .i64 0),(.int .i64 0),(.string ByteArray.empty),(.slice none 0 0),(.slice none 0 0)]) [(.int .i64 0),(.int .i64 0),(.string ByteArray.empty),(.slice none 0 0),(.slice none 0 0)] 5 80:=⟨⟨Tryz.t103,rfl,rfl,rfl,rfl⟩,rfl⟩
instance:TSc Tryz.prog 108:=⟨_,Tryz.underlying108,rfl⟩
instance:TPt Tryz.prog 108:=⟨by unfold Program.pointee;rw [Tryz.underlying108]⟩
instance:TIf Tryz.prog 108 (.pointer none) [(.pointer none)] 1 8:=⟨⟨Tryz.t108,rfl,rfl,rfl,rfl⟩,rfl⟩
instance:TSc Tryz.prog 109:=⟨_,Tryz.underlying109,rfl⟩
instance:TMp Tryz.prog 109 3 4:=⟨Tryz.underlying109⟩
instance:TIf Tryz.prog 109 (.map none) [(.map none)] 1 8:=⟨⟨Tryz.t109,rfl,rfl,rfl,rfl⟩,rfl⟩
instance:TSc Tryz.prog 110:=⟨_,Tryz.underlying110,rfl⟩
instance:TSl Tryz.prog 110 109:=⟨Tryz.underlying110⟩
instance:TIf Tryz.prog 110 (.slice none 0 0) [(.slice none 0 0)] 1 24:=⟨⟨Tryz.t110,rfl,rfl,rfl,rfl⟩,rfl⟩
instance:TSt Tryz.prog 112 [(25,0),(44,5),(45,7),(3,8),(109,9),(110,10)]:=⟨⟨_,Tryz.underlying112,rfl⟩,List.forall_mem_cons.2 ⟨⟨Tryz.t25,rfl,by decide⟩,List.forall_mem_cons.2 ⟨⟨Tryz.t44,rfl,by decide⟩,List.forall_mem_cons.2 ⟨⟨Tryz.t45,rfl,by decide⟩,List.forall_mem_cons.2 ⟨⟨Tryz.t3,rfl,by decide⟩,List.forall_mem_cons.2 ⟨⟨Tryz.t109,rfl,by decide⟩,List.forall_mem_cons.2 ⟨⟨Tryz.t110,rfl,by decide⟩,nofun⟩⟩⟩⟩⟩⟩⟩
instance:TIf Tryz.prog 112 (.agg #[(.slice none 0 0),(.slice none 0 0),(.slice none 0 0),(.slice none 0 0),(.slice none 0 0),(.int .i64 0),(.slice none 0 0),(.slice none 0 0),(.int .i64 0),(.map none),(.slice none 0 0)]) [(.slice none 0 0),(.slice none 0 0),(.slice none 0 0),(.slice none 0 0),(.slice none 0 0),(.int .i64 0),(.slice none 0 0),(.slice none 0 0),(.int .i64 0),(.map none),(.slice none 0 0)] 11 216:=⟨⟨Tryz.t112,rfl,rfl,rfl,rfl⟩,rfl⟩
instance:TSc Tryz.prog 123:=⟨_,Tryz.underlying123,rfl⟩
instance:TIf Tryz.prog 123 .nilFunc [.nilFunc] 1 8:=⟨⟨Tryz.t123,rfl,rfl,rfl,rfl⟩,rfl⟩
instance:TSc Tryz.prog 124:=⟨_,Tryz.underlying124,rfl⟩
instance:TPt Tryz.prog 124:=⟨by unfold Program.pointee;rw [Tryz.underlying124]⟩
instance:TIf Tryz.prog 124 (.pointer none) [(.pointer none)] 1 8:=⟨⟨Tryz.t124,rfl,rfl,rfl,rfl⟩,rfl⟩
instance:TSc Tryz.prog 125:=⟨_,Tryz.underlying125,rfl⟩
instance:TMp Tryz.prog 125 3 3:=⟨Tryz.underlying125⟩
instance:TIf Tryz.prog 125 (.map none) [(.map none)] 1 8:=⟨⟨Tryz.t125,rfl,rfl,rfl,rfl⟩,rfl⟩
instance:TSt Tryz.prog 127 [(34,0),(45,5),(3,6),(3,7),(109,8),(109,9),(125,10),(109,11)]:=⟨⟨_,Tryz.underlying127,rfl⟩,List.forall_mem_cons.2 ⟨⟨Tryz.t34,rfl,by decide⟩,List.forall_mem_cons.2 ⟨⟨Tryz.t45,rfl,by decide⟩,List.forall_mem_cons.2 ⟨⟨Tryz.t3,rfl,by decide⟩,List.forall_mem_cons.2 ⟨⟨Tryz.t3,rfl,by decide⟩,List.forall_mem_cons.2 ⟨⟨Tryz.t109,rfl,by decide⟩,List.forall_mem_cons.2 ⟨⟨Tryz.t109,rfl,by decide⟩,List.forall_mem_cons.2 ⟨⟨Tryz.t125,rfl,by decide⟩,List.forall_mem_cons.2 ⟨⟨Tryz.t109,rfl,by decide⟩,nofun⟩⟩⟩⟩⟩⟩⟩⟩⟩
instance:TIf Tryz.prog 127 (.agg #[(.slice none 0 0),(.slice none 0 0),(.slice none 0 0),(.slice none 0 0),(.slice none 0 0),(.slice none 0 0),(.int .i64 0),(.int .i64 0),(.map none),(.map none),(.map none),(.map none)]) [(.slice none 0 0),(.slice none 0 0),(.slice none 0 0),(.slice none 0 0),(.slice none 0 0),(.slice none 0 0),(.int .i64 0),(.int .i64 0),(.map none),(.map none),(.map none),(.map none)] 12 192:=⟨⟨Tryz.t127,rfl,rfl,rfl,rfl⟩,rfl⟩
instance:TSc Tryz.prog 129:=⟨_,Tryz.underlying129,rfl⟩
instance:TPt Tryz.prog 129:=⟨by unfold Program.pointee;rw [Tryz.underlying129]⟩
instance:TIf Tryz.prog 129 (.pointer none) [(.pointer none)] 1 8:=⟨⟨Tryz.t129,rfl,rfl,rfl,rfl⟩,rfl⟩
instance:TSc Tryz.prog 130:=⟨_,Tryz.underlying130,rfl⟩
instance:TSl Tryz.prog 130 134:=⟨Tryz.underlying130⟩
instance:TIf Tryz.prog 130 (.slice none 0 0) [(.slice none 0 0)] 1 24:=⟨⟨Tryz.t130,rfl,rfl,rfl,rfl⟩,rfl⟩
instance:TSc Tryz.prog 131:=⟨_,Tryz.underlying131,rfl⟩
instance:TMp Tryz.prog 131 3 132:=⟨Tryz.underlying131⟩
instance:TIf Tryz.prog 131 (.map none) [(.map none)] 1 8:=⟨⟨Tryz.t131,rfl,rfl,rfl,rfl⟩,rfl⟩
instance:TSc Tryz.prog 132:=⟨_,Tryz.underlying132,rfl⟩
instance:TPt Tryz.prog 132:=⟨by unfold Program.pointee;rw [Tryz.underlying132]⟩
instance:TIf Tryz.prog 132 (.pointer none) [(.pointer none)] 1 8:=⟨⟨Tryz.t132,rfl,rfl,rfl,rfl⟩,rfl⟩
instance:TSt Tryz.prog 134 [(79,0),(80,1),(131,2),(3,3),(132,4),(79,5)]:=⟨⟨_,Tryz.underlying134,rfl⟩,List.forall_mem_cons.2 ⟨⟨Tryz.t79,rfl,by decide⟩,List.forall_mem_cons.2 ⟨⟨Tryz.t80,rfl,by decide⟩,List.forall_mem_cons.2 ⟨⟨Tryz.t131,rfl,by decide⟩,List.forall_mem_cons.2 ⟨⟨Tryz.t3,rfl,by decide⟩,List.forall_mem_cons.2 ⟨⟨Tryz.t132,rfl,by decide⟩,List.forall_mem_cons.2 ⟨⟨Tryz.t79,rfl,by decide⟩,nofun⟩⟩⟩⟩⟩⟩⟩
instance:TIf Tryz.prog 134 (.agg #[(.pointer none),(.map none),(.map none),(.int .i64 0),(.pointer none),(.pointer none)]) [(.pointer none),(.map none),(.map none),(.int .i64 0),(.pointer none),(.pointer none)] 6 48:=⟨⟨Tryz.t134,rfl,rfl,rfl,rfl⟩,rfl⟩
instance:TSt Tryz.prog 136 [(77,0),(34,5),(2,10),(130,11),(134,12),(132,18),(84,19)]:=⟨⟨_,Tryz.underlying136,rfl⟩,List.forall_mem_cons.2 ⟨⟨Tryz.t77,rfl,by decide⟩,List.forall_mem_cons.2 ⟨⟨Tryz.t34,rfl,by decide⟩,List.forall_mem_cons.2 ⟨⟨Tryz.t2,rfl,by decide⟩,List.forall_mem_cons.2 ⟨⟨Tryz.t130,rfl,by decide⟩,List.forall_mem_cons.2 ⟨⟨Tryz.t134,rfl,by decide⟩,List.forall_mem_cons.2 ⟨⟨Tryz.t132,rfl,by decide⟩,List.forall_mem_cons.2 ⟨⟨Tryz.t84,rfl,by decide⟩,nofun⟩⟩⟩⟩⟩⟩⟩⟩
instance:TIf Tryz.prog 136 (.agg #[(.slice none 0 0),(.slice none 0 0),(.int .i64 0),(.string ByteArray.empty),(.slice none 0 0),(.slice none 0 0),(.slice none 0 0),(.slice none 0 0),(.slice none 0 0),(.slice none 0 0),(.int .i64 0),(.slice none 0 0),(.pointer none),(.map none),(.map none),(.int .i64 0),(.pointer none),(.pointer none),(.pointer none),(.pointer none)]) [(.slice none 0 0),(.slice none 0 0),(.int .i64 0),(.string ByteArray.empty),(.slice none 0 0),(.slice none 0 0),(.slice none 0 0),(.slice none 0 0),(.slice none 0 0),(.slice none 0 0),(.int .i64 0),(.slice none 0 0),(.pointer none),(.map none),(.map none),(.int .i64 0),(.pointer none),(.pointer none),(.pointer none),(.pointer none)] 20 312:=⟨⟨Tryz.t136,rfl,rfl,rfl,rfl⟩,rfl⟩
instance:TSc Tryz.prog 137:=⟨_,Tryz.underlying137,rfl⟩
instance:TIf Tryz.prog 137 .nilIface [.nilIface] 1 16:=⟨⟨Tryz.t137,rfl,rfl,rfl,rfl⟩,rfl⟩
instance:TSc Tryz.prog 161:=⟨_,Tryz.underlying161,rfl⟩
instance:TPt Tryz.prog 161:=⟨by unfold Program.pointee;rw [Tryz.underlying161]⟩
instance:TIf Tryz.prog 161 (.pointer none) [(.pointer none)] 1 8:=⟨⟨Tryz.t161,rfl,rfl,rfl,rfl⟩,rfl⟩
instance:TSt Tryz.prog 163 [(34,0),(45,5),(3,6),(3,7),(45,8),(45,9),(4,10)]:=⟨⟨_,Tryz.underlying163,rfl⟩,List.forall_mem_cons.2 ⟨⟨Tryz.t34,rfl,by decide⟩,List.forall_mem_cons.2 ⟨⟨Tryz.t45,rfl,by decide⟩,List.forall_mem_cons.2 ⟨⟨Tryz.t3,rfl,by decide⟩,List.forall_mem_cons.2 ⟨⟨Tryz.t3,rfl,by decide⟩,List.forall_mem_cons.2 ⟨⟨Tryz.t45,rfl,by decide⟩,List.forall_mem_cons.2 ⟨⟨Tryz.t45,rfl,by decide⟩,List.forall_mem_cons.2 ⟨⟨Tryz.t4,rfl,by decide⟩,nofun⟩⟩⟩⟩⟩⟩⟩⟩
instance:TIf Tryz.prog 163 (.agg #[(.slice none 0 0),(.slice none 0 0),(.slice none 0 0),(.slice none 0 0),(.slice none 0 0),(.slice none 0 0),(.int .i64 0),(.int .i64 0),(.slice none 0 0),(.slice none 0 0),(.bool false)]) [(.slice none 0 0),(.slice none 0 0),(.slice none 0 0),(.slice none 0 0),(.slice none 0 0),(.slice none 0 0),(.int .i64 0),(.int .i64 0),(.slice none 0 0),(.slice none 0 0),(.bool false)] 11 216:=⟨⟨Tryz.t163,rfl,rfl,rfl,rfl⟩,rfl⟩
instance:TSc Tryz.prog 165:=⟨_,Tryz.underlying165,rfl⟩
instance:TSl Tryz.prog 165 4:=⟨Tryz.underlying165⟩
instance:TIf Tryz.prog 165 (.slice none 0 0) [(.slice none 0 0)] 1 24:=⟨⟨Tryz.t165,rfl,rfl,rfl,rfl⟩,rfl⟩
instance:TSc Tryz.prog 171:=⟨_,Tryz.underlying171,rfl⟩
instance:TPt Tryz.prog 171:=⟨by unfold Program.pointee;rw [Tryz.underlying171]⟩
instance:TIf Tryz.prog 171 (.pointer none) [(.pointer none)] 1 8:=⟨⟨Tryz.t171,rfl,rfl,rfl,rfl⟩,rfl⟩
instance:TSc Tryz.prog 172:=⟨_,Tryz.underlying172,rfl⟩
instance:TSl Tryz.prog 172 179:=⟨Tryz.underlying172⟩
instance:TIf Tryz.prog 172 (.slice none 0 0) [(.slice none 0 0)] 1 24:=⟨⟨Tryz.t172,rfl,rfl,rfl,rfl⟩,rfl⟩
instance:TSt Tryz.prog 174 [(172,0),(125,1)]:=⟨⟨_,Tryz.underlying174,rfl⟩,List.forall_mem_cons.2 ⟨⟨Tryz.t172,rfl,by decide⟩,List.forall_mem_cons.2 ⟨⟨Tryz.t125,rfl,by decide⟩,nofun⟩⟩⟩
instance:TIf Tryz.prog 174 (.agg #[(.slice none 0 0),(.map none)]) [(.slice none 0 0),(.map none)] 2 32:=⟨⟨Tryz.t174,rfl,rfl,rfl,rfl⟩,rfl⟩
instance:TSt Tryz.prog 179 [(53,0),(3,6)]:=⟨⟨_,Tryz.underlying179,rfl⟩,List.forall_mem_cons.2 ⟨⟨Tryz.t53,rfl,by decide⟩,List.forall_mem_cons.2 ⟨⟨Tryz.t3,rfl,by decide⟩,nofun⟩⟩⟩
instance:TIf Tryz.prog 179 (.agg #[(.slice none 0 0),(.slice none 0 0),(.int .i64 0),(.slice none 0 0),(.slice none 0 0),(.slice none 0 0),(.int .i64 0)]) [(.slice none 0 0),(.slice none 0 0),(.int .i64 0),(.slice none 0 0),(.slice none 0 0),(.slice none 0 0),(.int .i64 0)] 7 136:=⟨⟨Tryz.t179,rfl,rfl,rfl,rfl⟩,rfl⟩
instance:TSt Tryz.prog 183 [(4,0),(4,1),(4,2),(4,3),(4,4),(3,5),(3,6)]:=⟨⟨_,Tryz.underlying183,rfl⟩,List.forall_mem_cons.2 ⟨⟨Tryz.t4,rfl,by decide⟩,List.forall_mem_cons.2 ⟨⟨Tryz.t4,rfl,by decide⟩,List.forall_mem_cons.2 ⟨⟨Tryz.t4,rfl,by decide⟩,List.forall_mem_cons.2 ⟨⟨Tryz.t4,rfl,by decide⟩,List.forall_mem_cons.2 ⟨⟨Tryz.t4,rfl,by decide⟩,List.forall_mem_cons.2 ⟨⟨Tryz.t3,rfl,by decide⟩,List.forall_mem_cons.2 ⟨⟨Tryz.t3,rfl,by decide⟩,nofun⟩⟩⟩⟩⟩⟩⟩⟩
instance:TIf Tryz.prog 183 (.agg #[(.bool false),(.bool false),(.bool false),(.bool false),(.bool false),(.int .i64 0),(.int .i64 0)]) [(.bool false),(.bool false),(.bool false),(.bool false),(.bool false),(.int .i64 0),(.int .i64 0)] 7 24:=⟨⟨Tryz.t183,rfl,rfl,rfl,rfl⟩,rfl⟩
instance:TSc Tryz.prog 190:=⟨_,Tryz.underlying190,rfl⟩
instance:TIf Tryz.prog 190 .nilFunc [.nilFunc] 1 8:=⟨⟨Tryz.t190,rfl,rfl,rfl,rfl⟩,rfl⟩
instance:TSc Tryz.prog 192:=⟨_,Tryz.underlying192,rfl⟩
instance:TPt Tryz.prog 192:=⟨by unfold Program.pointee;rw [Tryz.underlying192]⟩
instance:TIf Tryz.prog 192 (.pointer none) [(.pointer none)] 1 8:=⟨⟨Tryz.t192,rfl,rfl,rfl,rfl⟩,rfl⟩
instance:TSc Tryz.prog 194:=⟨_,Tryz.underlying194,rfl⟩
instance:TPt Tryz.prog 194:=⟨by unfold Program.pointee;rw [Tryz.underlying194]⟩
instance:TIf Tryz.prog 194 (.pointer none) [(.pointer none)] 1 8:=⟨⟨Tryz.t194,rfl,rfl,rfl,rfl⟩,rfl⟩
instance:TSt Tryz.prog 196 [(48,0),(88,1)]:=⟨⟨_,Tryz.underlying196,rfl⟩,List.forall_mem_cons.2 ⟨⟨Tryz.t48,rfl,by decide⟩,List.forall_mem_cons.2 ⟨⟨Tryz.t88,rfl,by decide⟩,nofun⟩⟩⟩
instance:TIf Tryz.prog 196 (.agg #[(.slice none 0 0),(.slice none 0 0)]) [(.slice none 0 0),(.slice none 0 0)] 2 48:=⟨⟨Tryz.t196,rfl,rfl,rfl,rfl⟩,rfl⟩
instance:TSc Tryz.prog 202:=⟨_,Tryz.underlying202,rfl⟩
instance:TPt Tryz.prog 202:=⟨by unfold Program.pointee;rw [Tryz.underlying202]⟩
instance:TIf Tryz.prog 202 (.pointer none) [(.pointer none)] 1 8:=⟨⟨Tryz.t202,rfl,rfl,rfl,rfl⟩,rfl⟩
instance:TSt Tryz.prog 204 [(2,0),(137,1)]:=⟨⟨_,Tryz.underlying204,rfl⟩,List.forall_mem_cons.2 ⟨⟨Tryz.t2,rfl,by decide⟩,List.forall_mem_cons.2 ⟨⟨Tryz.t137,rfl,by decide⟩,nofun⟩⟩⟩
instance:TIf Tryz.prog 204 (.agg #[(.int .i64 0),.nilIface]) [(.int .i64 0),.nilIface] 2 24:=⟨⟨Tryz.t204,rfl,rfl,rfl,rfl⟩,rfl⟩
instance:TSc Tryz.prog 207:=⟨_,Tryz.underlying207,rfl⟩
instance:TIn Tryz.prog 207 .u64:=⟨Tryz.underlying207⟩
instance:TIf Tryz.prog 207 (.int .u64 0) [(.int .u64 0)] 1 8:=⟨⟨Tryz.t207,rfl,rfl,rfl,rfl⟩,rfl⟩
instance:TSt Tryz.prog 211 [(3,0),(103,1)]:=⟨⟨_,Tryz.underlying211,rfl⟩,List.forall_mem_cons.2 ⟨⟨Tryz.t3,rfl,by decide⟩,List.forall_mem_cons.2 ⟨⟨Tryz.t103,rfl,by decide⟩,nofun⟩⟩⟩
instance:TIf Tryz.prog 211 (.agg #[(.int .i64 0),(.int .i64 0),(.int .i64 0),(.string ByteArray.empty),(.slice none 0 0),(.slice none 0 0)]) [(.int .i64 0),(.int .i64 0),(.int .i64 0),(.string ByteArray.empty),(.slice none 0 0),(.slice none 0 0)] 6 88:=⟨⟨Tryz.t211,rfl,rfl,rfl,rfl⟩,rfl⟩
instance:TSc Tryz.prog 212:=⟨_,Tryz.underlying212,rfl⟩
instance:TSl Tryz.prog 212 211:=⟨Tryz.underlying212⟩
instance:TIf Tryz.prog 212 (.slice none 0 0) [(.slice none 0 0)] 1 24:=⟨⟨Tryz.t212,rfl,rfl,rfl,rfl⟩,rfl⟩
instance:TIf Tryz.prog 217 (.agg #[(.int .i64 0),(.int .i64 0)]) [(.int .i64 0),(.int .i64 0)] 2 16:=⟨⟨Tryz.t217,rfl,rfl,rfl,rfl⟩,rfl⟩
instance:TSc Tryz.prog 218:=⟨_,Tryz.underlying218,rfl⟩
instance:TMp Tryz.prog 218 3 217:=⟨Tryz.underlying218⟩
instance:TIf Tryz.prog 218 (.map none) [(.map none)] 1 8:=⟨⟨Tryz.t218,rfl,rfl,rfl,rfl⟩,rfl⟩
instance:TSc Tryz.prog 220:=⟨_,Tryz.underlying220,rfl⟩
instance:TSl Tryz.prog 220 225:=⟨Tryz.underlying220⟩
instance:TIf Tryz.prog 220 (.slice none 0 0) [(.slice none 0 0)] 1 24:=⟨⟨Tryz.t220,rfl,rfl,rfl,rfl⟩,rfl⟩
instance:TSt Tryz.prog 225 [(3,0),(3,1)]:=⟨⟨_,Tryz.underlying225,rfl⟩,List.forall_mem_cons.2 ⟨⟨Tryz.t3,rfl,by decide⟩,List.forall_mem_cons.2 ⟨⟨Tryz.t3,rfl,by decide⟩,nofun⟩⟩⟩
instance:TIf Tryz.prog 225 (.agg #[(.int .i64 0),(.int .i64 0)]) [(.int .i64 0),(.int .i64 0)] 2 16:=⟨⟨Tryz.t225,rfl,rfl,rfl,rfl⟩,rfl⟩
instance:TSc Tryz.prog 228:=⟨_,Tryz.underlying228,rfl⟩
instance:TIf Tryz.prog 228 .nilFunc [.nilFunc] 1 8:=⟨⟨Tryz.t228,rfl,rfl,rfl,rfl⟩,rfl⟩
instance:TSc Tryz.prog 232:=⟨_,Tryz.underlying232,rfl⟩
instance:TPt Tryz.prog 232:=⟨by unfold Program.pointee;rw [Tryz.underlying232]⟩
instance:TIf Tryz.prog 232 (.pointer none) [(.pointer none)] 1 8:=⟨⟨Tryz.t232,rfl,rfl,rfl,rfl⟩,rfl⟩
instance:TSt Tryz.prog 234 [(137,0)]:=⟨⟨_,Tryz.underlying234,rfl⟩,List.forall_mem_cons.2 ⟨⟨Tryz.t137,rfl,by decide⟩,nofun⟩⟩
instance:TIf Tryz.prog 234 (.agg #[.nilIface]) [.nilIface] 1 16:=⟨⟨Tryz.t234,rfl,rfl,rfl,rfl⟩,rfl⟩
instance:TSc Tryz.prog 243:=⟨_,Tryz.underlying243,rfl⟩
instance:TPt Tryz.prog 243:=⟨by unfold Program.pointee;rw [Tryz.underlying243]⟩
instance:TIf Tryz.prog 243 (.pointer none) [(.pointer none)] 1 8:=⟨⟨Tryz.t243,rfl,rfl,rfl,rfl⟩,rfl⟩
instance:TSt Tryz.prog 246 [(88,0)]:=⟨⟨_,Tryz.underlying246,rfl⟩,List.forall_mem_cons.2 ⟨⟨Tryz.t88,rfl,by decide⟩,nofun⟩⟩
instance:TIf Tryz.prog 246 (.agg #[(.slice none 0 0)]) [(.slice none 0 0)] 1 24:=⟨⟨Tryz.t246,rfl,rfl,rfl,rfl⟩,rfl⟩
instance:TSc Tryz.prog 249:=⟨_,Tryz.underlying249,rfl⟩
instance:TIf Tryz.prog 249 .nilFunc [.nilFunc] 1 8:=⟨⟨Tryz.t249,rfl,rfl,rfl,rfl⟩,rfl⟩
instance:TSc Tryz.prog 251:=⟨_,Tryz.underlying251,rfl⟩
instance:TMp Tryz.prog 251 3 249:=⟨Tryz.underlying251⟩
instance:TIf Tryz.prog 251 (.map none) [(.map none)] 1 8:=⟨⟨Tryz.t251,rfl,rfl,rfl,rfl⟩,rfl⟩
instance:TSc Tryz.prog 254:=⟨_,Tryz.underlying254,rfl⟩
instance:TPt Tryz.prog 254:=⟨by unfold Program.pointee;rw [Tryz.underlying254]⟩
instance:TIf Tryz.prog 254 (.pointer none) [(.pointer none)] 1 8:=⟨⟨Tryz.t254,rfl,rfl,rfl,rfl⟩,rfl⟩
instance:TSt Tryz.prog 256 [(254,0),(75,1)]:=⟨⟨_,Tryz.underlying256,rfl⟩,List.forall_mem_cons.2 ⟨⟨Tryz.t254,rfl,by decide⟩,List.forall_mem_cons.2 ⟨⟨Tryz.t75,rfl,by decide⟩,nofun⟩⟩⟩
instance:TIf Tryz.prog 256 (.agg #[(.pointer none),(.slice none 0 0)]) [(.pointer none),(.slice none 0 0)] 2 32:=⟨⟨Tryz.t256,rfl,rfl,rfl,rfl⟩,rfl⟩
instance:TSc Tryz.prog 258:=⟨_,Tryz.underlying258,rfl⟩
instance:TIf Tryz.prog 258 .nilIface [.nilIface] 1 16:=⟨⟨Tryz.t258,rfl,rfl,rfl,rfl⟩,rfl⟩
instance:TSc Tryz.prog 269:=⟨_,Tryz.underlying269,rfl⟩
instance:TPt Tryz.prog 269:=⟨by unfold Program.pointee;rw [Tryz.underlying269]⟩
instance:TIf Tryz.prog 269 (.pointer none) [(.pointer none)] 1 8:=⟨⟨Tryz.t269,rfl,rfl,rfl,rfl⟩,rfl⟩
instance:TSc Tryz.prog 273:=⟨_,Tryz.underlying273,rfl⟩
instance:TIn Tryz.prog 273 .u32:=⟨Tryz.underlying273⟩
instance:TIf Tryz.prog 273 (.int .u32 0) [(.int .u32 0)] 1 4:=⟨⟨Tryz.t273,rfl,rfl,rfl,rfl⟩,rfl⟩
instance:TSc Tryz.prog 276:=⟨_,Tryz.underlying276,rfl⟩
instance:TIn Tryz.prog 276 .u64:=⟨Tryz.underlying276⟩
instance:TIf Tryz.prog 276 (.int .u64 0) [(.int .u64 0)] 1 8:=⟨⟨Tryz.t276,rfl,rfl,rfl,rfl⟩,rfl⟩
instance:TIf Tryz.prog 280 (.agg #[(.int .u8 0),(.int .u8 0),(.int .u8 0),(.int .u8 0),(.int .u8 0),(.int .u8 0),(.int .u8 0),(.int .u8 0),(.int .u8 0),(.int .u8 0),(.int .u8 0),(.int .u8 0),(.int .u8 0),(.int .u8 0),(.int .u8 0),(.int .u8 0),(.int .u8 0),(.int .u8 0),(.int .u8 0),(.int .u8 0),(.int .u8 0),(.int .u8 0),(.int .u8 0),(.int .u8 0)]) [(.int .u8 0),(.int .u8 0),(.int .u8 0),(.int .u8 0),(.int .u8 0),(.int .u8 0),(.int .u8 0),(.int .u8 0),(.int .u8 0),(.int .u8 0),(.int .u8 0),(.int .u8 0),(.int .u8 0),(.int .u8 0),(.int .u8 0),(.int .u8 0),(.int .u8 0),(.int .u8 0),(.int .u8 0),(.int .u8 0),(.int .u8 0),(.int .u8 0),(.int .u8 0),(.int .u8 0)] 24 24:=⟨⟨Tryz.t280,rfl,rfl,rfl,rfl⟩,rfl⟩
instance:TIf Tryz.prog 288 (.agg #[(.int .u64 0),(.int .u64 0),(.int .u64 0),(.int .u64 0),(.int .u64 0),(.int .u64 0),(.int .u64 0),(.int .u64 0),(.int .u64 0),(.int .u64 0),(.int .u64 0),(.int .u64 0),(.int .u64 0),(.int .u64 0),(.int .u64 0),(.int .u64 0),(.int .u64 0),(.int .u64 0),(.int .u64 0),(.int .u64 0)]) [(.int .u64 0),(.int .u64 0),(.int .u64 0),(.int .u64 0),(.int .u64 0),(.int .u64 0),(.int .u64 0),(.int .u64 0),(.int .u64 0),(.int .u64 0),(.int .u64 0),(.int .u64 0),(.int .u64 0),(.int .u64 0),(.int .u64 0),(.int .u64 0),(.int .u64 0),(.int .u64 0),(.int .u64 0),(.int .u64 0)] 20 160:=⟨⟨Tryz.t288,rfl,rfl,rfl,rfl⟩,rfl⟩
instance:TIf Tryz.prog 292 (.agg #[(.int .u8 0),(.int .u8 0),(.int .u8 0),(.int .u8 0),(.int .u8 0),(.int .u8 0),(.int .u8 0),(.int .u8 0),(.int .u8 0),(.int .u8 0),(.int .u8 0),(.int .u8 0),(.int .u8 0),(.int .u8 0),(.int .u8 0),(.int .u8 0),(.int .u8 0),(.int .u8 0),(.int .u8 0),(.int .u8 0),(.int .u8 0),(.int .u8 0),(.int .u8 0),(.int .u8 0),(.int .u8 0),(.int .u8 0),(.int .u8 0),(.int .u8 0),(.int .u8 0),(.int .u8 0),(.int .u8 0),(.int .u8 0)]) [(.int .u8 0),(.int .u8 0),(.int .u8 0),(.int .u8 0),(.int .u8 0),(.int .u8 0),(.int .u8 0),(.int .u8 0),(.int .u8 0),(.int .u8 0),(.int .u8 0),(.int .u8 0),(.int .u8 0),(.int .u8 0),(.int .u8 0),(.int .u8 0),(.int .u8 0),(.int .u8 0),(.int .u8 0),(.int .u8 0),(.int .u8 0),(.int .u8 0),(.int .u8 0),(.int .u8 0),(.int .u8 0),(.int .u8 0),(.int .u8 0),(.int .u8 0),(.int .u8 0),(.int .u8 0),(.int .u8 0),(.int .u8 0)] 32 32:=⟨⟨Tryz.t292,rfl,rfl,rfl,rfl⟩,rfl⟩
instance:FnB Tryz.prog 2:=⟨_,Tryz.func2,rfl,by kernel_rfl⟩
instance:FnB Tryz.prog 3:=⟨_,Tryz.func3,rfl,by kernel_rfl⟩
instance:FnB Tryz.prog 4:=⟨_,Tryz.func4,rfl,by kernel_rfl⟩
instance:FnB Tryz.prog 5:=⟨_,Tryz.func5,rfl,by kernel_rfl⟩
instance:FnB Tryz.prog 6:=⟨_,Tryz.func6,rfl,by kernel_rfl⟩
instance:FnB Tryz.prog 7:=⟨_,Tryz.func7,rfl,by kernel_rfl⟩
instance:FnB Tryz.prog 8:=⟨_,Tryz.func8,rfl,by kernel_rfl⟩
instance:FnB Tryz.prog 9:=⟨_,Tryz.func9,rfl,by kernel_rfl⟩
instance:FnB Tryz.prog 10:=⟨_,Tryz.func10,rfl,by kernel_rfl⟩
instance:FnB Tryz.prog 11:=⟨_,Tryz.func11,rfl,by kernel_rfl⟩
instance:FnB Tryz.prog 12:=⟨_,Tryz.func12,rfl,by kernel_rfl⟩
instance:FnB Tryz.prog 13:=⟨_,Tryz.func13,rfl,by kernel_rfl⟩
instance:FnB Tryz.prog 14:=⟨_,Tryz.func14,rfl,by kernel_rfl⟩
instance:FnB Tryz.prog 15:=⟨_,Tryz.func15,rfl,by kernel_rfl⟩
instance:FnB Tryz.prog 16:=⟨_,Tryz.func16,rfl,by kernel_rfl⟩
instance:FnB Tryz.prog 17:=⟨_,Tryz.func17,rfl,by kernel_rfl⟩
instance:FnB Tryz.prog 18:=⟨_,Tryz.func18,rfl,by kernel_rfl⟩
instance:FnB Tryz.prog 19:=⟨_,Tryz.func19,rfl,by kernel_rfl⟩
instance:FnB Tryz.prog 20:=⟨_,Tryz.func20,rfl,by kernel_rfl⟩
instance:FnB Tryz.prog 21:=⟨_,Tryz.func21,rfl,by kernel_rfl⟩
instance:FnB Tryz.prog 22:=⟨_,Tryz.func22,rfl,by kernel_rfl⟩
instance:FnB Tryz.prog 23:=⟨_,Tryz.func23,rfl,by kernel_rfl⟩
instance:FnB Tryz.prog 24:=⟨_,Tryz.func24,rfl,by kernel_rfl⟩
instance:FnB Tryz.prog 25:=⟨_,Tryz.func25,rfl,by kernel_rfl⟩
instance:FnB Tryz.prog 26:=⟨_,Tryz.func26,rfl,by kernel_rfl⟩
instance:FnB Tryz.prog 27:=⟨_,Tryz.func27,rfl,by kernel_rfl⟩
instance:FnB Tryz.prog 28:=⟨_,Tryz.func28,rfl,by kernel_rfl⟩
instance:FnB Tryz.prog 29:=⟨_,Tryz.func29,rfl,by kernel_rfl⟩
instance:FnB Tryz.prog 30:=⟨_,Tryz.func30,rfl,by kernel_rfl⟩
instance:FnB Tryz.prog 31:=⟨_,Tryz.func31,rfl,by kernel_rfl⟩
instance:FnB Tryz.prog 32:=⟨_,Tryz.func32,rfl,by kernel_rfl⟩
instance:FnB Tryz.prog 33:=⟨_,Tryz.func33,rfl,by kernel_rfl⟩
instance:FnB Tryz.prog 34:=⟨_,Tryz.func34,rfl,by kernel_rfl⟩
instance:FnB Tryz.prog 35:=⟨_,Tryz.func35,rfl,by kernel_rfl⟩
instance:FnB Tryz.prog 36:=⟨_,Tryz.func36,rfl,by kernel_rfl⟩
instance:FnB Tryz.prog 37:=⟨_,Tryz.func37,rfl,by kernel_rfl⟩
instance:FnB Tryz.prog 38:=⟨_,Tryz.func38,rfl,by kernel_rfl⟩
instance:FnB Tryz.prog 39:=⟨_,Tryz.func39,rfl,by kernel_rfl⟩
instance:FnB Tryz.prog 40:=⟨_,Tryz.func40,rfl,by kernel_rfl⟩
instance:FnB Tryz.prog 41:=⟨_,Tryz.func41,rfl,by kernel_rfl⟩
instance:FnB Tryz.prog 42:=⟨_,Tryz.func42,rfl,by kernel_rfl⟩
instance:FnB Tryz.prog 43:=⟨_,Tryz.func43,rfl,by kernel_rfl⟩
instance:FnB Tryz.prog 44:=⟨_,Tryz.func44,rfl,by kernel_rfl⟩
instance:FnB Tryz.prog 45:=⟨_,Tryz.func45,rfl,by kernel_rfl⟩
instance:FnB Tryz.prog 46:=⟨_,Tryz.func46,rfl,by kernel_rfl⟩
instance:FnB Tryz.prog 47:=⟨_,Tryz.func47,rfl,by kernel_rfl⟩
instance:FnB Tryz.prog 48:=⟨_,Tryz.func48,rfl,by kernel_rfl⟩
instance:FnB Tryz.prog 49:=⟨_,Tryz.func49,rfl,by kernel_rfl⟩
instance:FnB Tryz.prog 50:=⟨_,Tryz.func50,rfl,by kernel_rfl⟩
instance:FnB Tryz.prog 51:=⟨_,Tryz.func51,rfl,by kernel_rfl⟩
instance:FnB Tryz.prog 52:=⟨_,Tryz.func52,rfl,by kernel_rfl⟩
instance:FnB Tryz.prog 53:=⟨_,Tryz.func53,rfl,by kernel_rfl⟩
instance:FnB Tryz.prog 54:=⟨_,Tryz.func54,rfl,by kernel_rfl⟩
instance:FnB Tryz.prog 55:=⟨_,Tryz.func55,rfl,by kernel_rfl⟩
instance:FnB Tryz.prog 56:=⟨_,Tryz.func56,rfl,by kernel_rfl⟩
instance:FnB Tryz.prog 57:=⟨_,Tryz.func57,rfl,by kernel_rfl⟩
instance:FnB Tryz.prog 58:=⟨_,Tryz.func58,rfl,by kernel_rfl⟩
instance:FnB Tryz.prog 59:=⟨_,Tryz.func59,rfl,by kernel_rfl⟩
instance:FnB Tryz.prog 60:=⟨_,Tryz.func60,rfl,by kernel_rfl⟩
instance:FnB Tryz.prog 61:=⟨_,Tryz.func61,rfl,by kernel_rfl⟩
instance:FnB Tryz.prog 62:=⟨_,Tryz.func62,rfl,by kernel_rfl⟩
instance:FnB Tryz.prog 63:=⟨_,Tryz.func63,rfl,by kernel_rfl⟩
instance:FnB Tryz.prog 64:=⟨_,Tryz.func64,rfl,by kernel_rfl⟩
instance:FnB Tryz.prog 65:=⟨_,Tryz.func65,rfl,by kernel_rfl⟩
instance:FnB Tryz.prog 66:=⟨_,Tryz.func66,rfl,by kernel_rfl⟩
instance:FnB Tryz.prog 67:=⟨_,Tryz.func67,rfl,by kernel_rfl⟩
instance:FnB Tryz.prog 68:=⟨_,Tryz.func68,rfl,by kernel_rfl⟩
instance:FnB Tryz.prog 69:=⟨_,Tryz.func69,rfl,by kernel_rfl⟩
instance:FnB Tryz.prog 70:=⟨_,Tryz.func70,rfl,by kernel_rfl⟩
instance:FnB Tryz.prog 71:=⟨_,Tryz.func71,rfl,by kernel_rfl⟩
instance:FnB Tryz.prog 72:=⟨_,Tryz.func72,rfl,by kernel_rfl⟩
instance:FnB Tryz.prog 73:=⟨_,Tryz.func73,rfl,by kernel_rfl⟩
instance:FnB Tryz.prog 74:=⟨_,Tryz.func74,rfl,by kernel_rfl⟩
instance:FnB Tryz.prog 75:=⟨_,Tryz.func75,rfl,by kernel_rfl⟩
instance:FnB Tryz.prog 76:=⟨_,Tryz.func76,rfl,by kernel_rfl⟩
instance:FnB Tryz.prog 77:=⟨_,Tryz.func77,rfl,by kernel_rfl⟩
instance:FnB Tryz.prog 78:=⟨_,Tryz.func78,rfl,by kernel_rfl⟩
instance:FnB Tryz.prog 79:=⟨_,Tryz.func79,rfl,by kernel_rfl⟩
instance:FnB Tryz.prog 80:=⟨_,Tryz.func80,rfl,by kernel_rfl⟩
instance:FnB Tryz.prog 81:=⟨_,Tryz.func81,rfl,by kernel_rfl⟩
instance:FnB Tryz.prog 82:=⟨_,Tryz.func82,rfl,by kernel_rfl⟩
instance:FnB Tryz.prog 83:=⟨_,Tryz.func83,rfl,by kernel_rfl⟩
instance:FnB Tryz.prog 84:=⟨_,Tryz.func84,rfl,by kernel_rfl⟩
instance:FnB Tryz.prog 85:=⟨_,Tryz.func85,rfl,by kernel_rfl⟩
instance:FnB Tryz.prog 86:=⟨_,Tryz.func86,rfl,by kernel_rfl⟩
instance:FnB Tryz.prog 87:=⟨_,Tryz.func87,rfl,by kernel_rfl⟩
instance:FnB Tryz.prog 88:=⟨_,Tryz.func88,rfl,by kernel_rfl⟩
instance:FnB Tryz.prog 89:=⟨_,Tryz.func89,rfl,by kernel_rfl⟩
instance:FnB Tryz.prog 90:=⟨_,Tryz.func90,rfl,by kernel_rfl⟩
instance:FnB Tryz.prog 91:=⟨_,Tryz.func91,rfl,by kernel_rfl⟩
instance:FnB Tryz.prog 92:=⟨_,Tryz.func92,rfl,by kernel_rfl⟩
instance:FnB Tryz.prog 93:=⟨_,Tryz.func93,rfl,by kernel_rfl⟩
instance:FnB Tryz.prog 94:=⟨_,Tryz.func94,rfl,by kernel_rfl⟩
instance:FnB Tryz.prog 95:=⟨_,Tryz.func95,rfl,by kernel_rfl⟩
instance:FnB Tryz.prog 96:=⟨_,Tryz.func96,rfl,by kernel_rfl⟩
instance:FnB Tryz.prog 97:=⟨_,Tryz.func97,rfl,by kernel_rfl⟩
instance:FnB Tryz.prog 98:=⟨_,Tryz.func98,rfl,by kernel_rfl⟩
instance:FnB Tryz.prog 99:=⟨_,Tryz.func99,rfl,by kernel_rfl⟩
instance:FnB Tryz.prog 100:=⟨_,Tryz.func100,rfl,by kernel_rfl⟩
instance:FnB Tryz.prog 101:=⟨_,Tryz.func101,rfl,by kernel_rfl⟩
instance:FnB Tryz.prog 102:=⟨_,Tryz.func102,rfl,by kernel_rfl⟩
instance:FnB Tryz.prog 103:=⟨_,Tryz.func103,rfl,by kernel_rfl⟩
instance:FnB Tryz.prog 104:=⟨_,Tryz.func104,rfl,by kernel_rfl⟩
instance:FnB Tryz.prog 105:=⟨_,Tryz.func105,rfl,by kernel_rfl⟩
instance:FnB Tryz.prog 106:=⟨_,Tryz.func106,rfl,by kernel_rfl⟩
instance:FnB Tryz.prog 107:=⟨_,Tryz.func107,rfl,by kernel_rfl⟩
instance:FnB Tryz.prog 108:=⟨_,Tryz.func108,rfl,by kernel_rfl⟩
instance:FnB Tryz.prog 109:=⟨_,Tryz.func109,rfl,by kernel_rfl⟩
instance:FnB Tryz.prog 110:=⟨_,Tryz.func110,rfl,by kernel_rfl⟩
instance:FnB Tryz.prog 111:=⟨_,Tryz.func111,rfl,by kernel_rfl⟩
instance:FnB Tryz.prog 112:=⟨_,Tryz.func112,rfl,by kernel_rfl⟩
instance:FnB Tryz.prog 113:=⟨_,Tryz.func113,rfl,by kernel_rfl⟩
instance:FnB Tryz.prog 114:=⟨_,Tryz.func114,rfl,by kernel_rfl⟩
instance:FnB Tryz.prog 115:=⟨_,Tryz.func115,rfl,by kernel_rfl⟩
instance:FnB Tryz.prog 116:=⟨_,Tryz.func116,rfl,by kernel_rfl⟩
instance:FnB Tryz.prog 117:=⟨_,Tryz.func117,rfl,by kernel_rfl⟩
instance:FnB Tryz.prog 119:=⟨_,Tryz.func119,rfl,by kernel_rfl⟩
instance:FnB Tryz.prog 121:=⟨_,Tryz.func121,rfl,by kernel_rfl⟩
instance:FnB Tryz.prog 122:=⟨_,Tryz.func122,rfl,by kernel_rfl⟩
instance:FnB Tryz.prog 123:=⟨_,Tryz.func123,rfl,by kernel_rfl⟩
instance:FnB Tryz.prog 124:=⟨_,Tryz.func124,rfl,by kernel_rfl⟩
instance:FnB Tryz.prog 125:=⟨_,Tryz.func125,rfl,by kernel_rfl⟩
instance:FnB Tryz.prog 126:=⟨_,Tryz.func126,rfl,by kernel_rfl⟩
instance:FnB Tryz.prog 127:=⟨_,Tryz.func127,rfl,by kernel_rfl⟩
instance:FnB Tryz.prog 128:=⟨_,Tryz.func128,rfl,by kernel_rfl⟩
instance:FnB Tryz.prog 129:=⟨_,Tryz.func129,rfl,by kernel_rfl⟩
instance:FnB Tryz.prog 130:=⟨_,Tryz.func130,rfl,by kernel_rfl⟩
instance:FnB Tryz.prog 131:=⟨_,Tryz.func131,rfl,by kernel_rfl⟩
instance:FnB Tryz.prog 132:=⟨_,Tryz.func132,rfl,by kernel_rfl⟩
instance:FnB Tryz.prog 133:=⟨_,Tryz.func133,rfl,by kernel_rfl⟩
instance:FnB Tryz.prog 134:=⟨_,Tryz.func134,rfl,by kernel_rfl⟩
instance:FnB Tryz.prog 135:=⟨_,Tryz.func135,rfl,by kernel_rfl⟩
instance:FnB Tryz.prog 136:=⟨_,Tryz.func136,rfl,by kernel_rfl⟩
instance:FnB Tryz.prog 137:=⟨_,Tryz.func137,rfl,by kernel_rfl⟩
instance:FnB Tryz.prog 138:=⟨_,Tryz.func138,rfl,by kernel_rfl⟩
instance:FnB Tryz.prog 139:=⟨_,Tryz.func139,rfl,by kernel_rfl⟩
instance:FnB Tryz.prog 140:=⟨_,Tryz.func140,rfl,by kernel_rfl⟩
instance:FnB Tryz.prog 141:=⟨_,Tryz.func141,rfl,by kernel_rfl⟩
instance:FnB Tryz.prog 142:=⟨_,Tryz.func142,rfl,by kernel_rfl⟩
instance:FnB Tryz.prog 143:=⟨_,Tryz.func143,rfl,by kernel_rfl⟩
instance:FnB Tryz.prog 144:=⟨_,Tryz.func144,rfl,by kernel_rfl⟩
instance:FnB Tryz.prog 145:=⟨_,Tryz.func145,rfl,by kernel_rfl⟩
instance:FnB Tryz.prog 146:=⟨_,Tryz.func146,rfl,by kernel_rfl⟩
instance:FnB Tryz.prog 147:=⟨_,Tryz.func147,rfl,by kernel_rfl⟩
instance:FnB Tryz.prog 148:=⟨_,Tryz.func148,rfl,by kernel_rfl⟩
instance:FnB Tryz.prog 149:=⟨_,Tryz.func149,rfl,by kernel_rfl⟩
instance:FnB Tryz.prog 150:=⟨_,Tryz.func150,rfl,by kernel_rfl⟩
instance:FnB Tryz.prog 151:=⟨_,Tryz.func151,rfl,by kernel_rfl⟩
instance:FnB Tryz.prog 152:=⟨_,Tryz.func152,rfl,by kernel_rfl⟩
instance:FnB Tryz.prog 153:=⟨_,Tryz.func153,rfl,by kernel_rfl⟩
instance:FnB Tryz.prog 154:=⟨_,Tryz.func154,rfl,by kernel_rfl⟩
instance:FnB Tryz.prog 155:=⟨_,Tryz.func155,rfl,by kernel_rfl⟩
instance:FnB Tryz.prog 156:=⟨_,Tryz.func156,rfl,by kernel_rfl⟩
instance:FnB Tryz.prog 157:=⟨_,Tryz.func157,rfl,by kernel_rfl⟩
instance:FnB Tryz.prog 158:=⟨_,Tryz.func158,rfl,by kernel_rfl⟩
instance:FnB Tryz.prog 159:=⟨_,Tryz.func159,rfl,by kernel_rfl⟩
instance:FnB Tryz.prog 160:=⟨_,Tryz.func160,rfl,by kernel_rfl⟩
instance:FnB Tryz.prog 161:=⟨_,Tryz.func161,rfl,by kernel_rfl⟩
instance:FnB Tryz.prog 162:=⟨_,Tryz.func162,rfl,by kernel_rfl⟩
instance:FnB Tryz.prog 163:=⟨_,Tryz.func163,rfl,by kernel_rfl⟩
instance:FnB Tryz.prog 164:=⟨_,Tryz.func164,rfl,by kernel_rfl⟩
instance:FnB Tryz.prog 165:=⟨_,Tryz.func165,rfl,by kernel_rfl⟩
instance:FnB Tryz.prog 167:=⟨_,Tryz.func167,rfl,by kernel_rfl⟩
instance:FnB Tryz.prog 168:=⟨_,Tryz.func168,rfl,by kernel_rfl⟩
instance:FnB Tryz.prog 169:=⟨_,Tryz.func169,rfl,by kernel_rfl⟩
instance:FnB Tryz.prog 170:=⟨_,Tryz.func170,rfl,by kernel_rfl⟩
instance:FnB Tryz.prog 171:=⟨_,Tryz.func171,rfl,by kernel_rfl⟩
instance:FnB Tryz.prog 172:=⟨_,Tryz.func172,rfl,by kernel_rfl⟩
instance:FnB Tryz.prog 173:=⟨_,Tryz.func173,rfl,by kernel_rfl⟩
instance:FnB Tryz.prog 174:=⟨_,Tryz.func174,rfl,by kernel_rfl⟩
instance:FnB Tryz.prog 175:=⟨_,Tryz.func175,rfl,by kernel_rfl⟩
instance:FnB Tryz.prog 176:=⟨_,Tryz.func176,rfl,by kernel_rfl⟩
instance:FnB Tryz.prog 199:=⟨_,Tryz.func199,rfl,by kernel_rfl⟩
theorem mixed:Tryz.prog.follows .mixedOrders=true:=by kernel_rfl
set_option linter.unusedVariables false
structure Vec (α:Type) where
  o:Option Addr
  c:Nat
  l:List α
structure Atm where
  k:Int
  n:Int
structure Stp where
  k:Int
  n:Int
  ns:Vec Int
  a:Vec Atm
structure Ins where
  x:Int
  r:Stp
structure Edg where
  b:Int
  a:Vec Atm
structure En where
  k:Int
  a:Vec Atm
  ns:Vec Int
  to:Vec Edg
structure Blc where
  ps:Vec Int
  is:Vec Ins
  e:En
structure Gr where
  caps:Int
  bs:Vec Blc
structure Grs where
  fs:Vec Gr
  ls:Vec ByteArray
  ts:Vec ByteArray
  xs:Vec ByteArray
  ss:Vec ByteArray
def zT {α:Type}:Vec α:=⟨none,0,[]⟩
def ins0:Ins:=⟨0,⟨0,0,zT,zT⟩⟩
def wR:Blc:=⟨zT,zT,⟨0,zT,zT,zT⟩⟩
def gr0:Gr:=⟨0,zT⟩
def yY (s:ByteArray):List Value:=[.string s]
def zN (a:Atm):List Value:=[.int .i64 a.k,.int .i64 a.n]
def yG (r:Stp):List Value:=[.int .i64 r.k,.int .i64 r.n,.slice r.ns.o r.ns.l.length r.ns.c,.slice r.a.o r.a.l.length r.a.c]
def xK (i:Ins):List Value:=[.int .i64 i.x,.int .i64 i.r.k,.int .i64 i.r.n,.slice i.r.ns.o i.r.ns.l.length i.r.ns.c,.slice i.r.a.o i.r.a.l.length i.r.a.c]
def yL (e:Edg):List Value:=[.int .i64 e.b,.slice e.a.o e.a.l.length e.a.c]
def wO (e:En):List Value:=[.int .i64 e.k,.slice e.a.o e.a.l.length e.a.c,.slice e.ns.o e.ns.l.length e.ns.c,.slice e.to.o e.to.l.length e.to.c]
def yE (b:Blc):List Value:=[.slice b.ps.o b.ps.l.length b.ps.c,.slice b.is.o b.is.l.length b.is.c,.int .i64 b.e.k,.slice b.e.a.o b.e.a.l.length b.e.a.c,.slice b.e.ns.o b.e.ns.l.length b.e.ns.c,.slice b.e.to.o b.e.to.l.length b.e.to.c]
def vL (g:Gr):List Value:=[.int .i64 g.caps,.slice g.bs.o g.bs.l.length g.bs.c]
def yN (g:Grs):List Value:=[.slice g.fs.o g.fs.l.length g.fs.c,.slice g.ls.o g.ls.l.length g.ls.c,.slice g.ts.o g.ts.l.length g.ts.c,.slice g.xs.o g.xs.l.length g.xs.c,.slice g.ss.o g.ss.l.length g.ss.c]
theorem wZ (s:ByteArray):(yY s).length=1:=rfl
theorem yT (a:Atm):(zN a).length=2:=rfl
theorem sX (i:Ins):(xK i).length=5:=rfl
theorem wW (e:Edg):(yL e).length=2:=rfl
theorem uL (b:Blc):(yE b).length=6:=rfl
theorem sE (g:Gr):(vL g).length=2:=rfl
def RdV {α:Type} (w:World) (enc:α→List Value) (v:Vec α):Prop:=Rd w v.o (flat enc v.l)∧v.l.length≤v.c∧v.c≤maxLen
theorem RdV.keep {α:Type} {w w':World} {enc:α→List Value} {v:Vec α} (h:RdV w enc v) (hk:Kp w noM w'):RdV w' enc v:=⟨((HS.init w noM).keep hk).rd h.1 id,h.2⟩
theorem RdV.le {α:Type} {w:World} {enc:α→List Value} {v:Vec α} (h:RdV w enc v):v.l.length≤9223372036854775807:=by
  have h1:=h.2
  unfold maxLen at h1
  omega
def RdIn (w:World) (i:Ins):Prop:=RdV w Fw.encI i.r.ns∧RdV w zN i.r.a
def RdEn (w:World) (e:En):Prop:=RdV w zN e.a∧RdV w Fw.encI e.ns∧RdV w yL e.to∧∀x∈e.to.l,RdV w zN x.a
def RdBl (w:World) (b:Blc):Prop:=RdV w Fw.encI b.ps∧RdV w xK b.is∧(∀i∈b.is.l,RdIn w i)∧RdEn w b.e
def RdG (w:World) (g:Gr):Prop:=RdV w yE g.bs∧∀b∈g.bs.l,RdBl w b
def RdGs (w:World) (g:Grs):Prop:=RdV w vL g.fs∧(∀x∈g.fs.l,RdG w x)∧RdV w yY g.ls∧RdV w yY g.ts∧RdV w yY g.xs∧RdV w yY g.ss
theorem RdIn.keep {w w':World} {i:Ins} (h:RdIn w i) (hk:Kp w noM w'):RdIn w' i:=⟨h.1.keep hk,h.2.keep hk⟩
theorem RdEn.keep {w w':World} {e:En} (h:RdEn w e) (hk:Kp w noM w'):RdEn w' e:=⟨h.1.keep hk,h.2.1.keep hk,h.2.2.1.keep hk,fun x hx=>(h.2.2.2 x hx).keep hk⟩
theorem RdBl.keep {w w':World} {b:Blc} (h:RdBl w b) (hk:Kp w noM w'):RdBl w' b:=⟨h.1.keep hk,h.2.1.keep hk,fun i hi=>(h.2.2.1 i hi).keep hk,h.2.2.2.keep hk⟩
theorem RdG.keep {w w':World} {g:Gr} (h:RdG w g) (hk:Kp w noM w'):RdG w' g:=⟨h.1.keep hk,fun b hb=>(h.2 b hb).keep hk⟩
theorem RdGs.keep {w w':World} {g:Grs} (h:RdGs w g) (hk:Kp w noM w'):RdGs w' g:=⟨h.1.keep hk,fun x hx=>(h.2.1 x hx).keep hk,h.2.2.1.keep hk,h.2.2.2.1.keep hk,h.2.2.2.2.1.keep hk,h.2.2.2.2.2.keep hk⟩
theorem yU {α:Type} {l:List α} {i:Nat} {x:α} (h:l[i]?=some x):l.take (i+1)=l.take i++[x]:=by
  obtain ⟨hi,rfl⟩:=List.getElem?_eq_some_iff.1 h
  rw [List.take_succ_eq_append_getElem hi]
def kso:Option (Nat × List Int)→List Int
  |none=>[]
  |some p=>p.2
def wM:Option (Nat × List Int)→List Value
  |none=>[.map none]
  |some p=>[.map (some p.1)]
def sko:Option (Nat × List Int)→It
  |none=>all []
  |some p=>sk p.1 p.2
theorem qH (s:Option (Nat × List Int)):(wM s).length=1:=by cases s<;>rfl
theorem gF {α:Type} {l:List α} {i:Nat} {x:α} (h:l[i]?=some x):l.set i x=l:=by
  obtain ⟨hi,rfl⟩:=List.getElem?_eq_some_iff.1 h
  exact List.set_getElem_self hi
theorem dn_add {dn el:List (Int × Nat)} {e:Int × Nat} {ks ks':List Int} (hn:dn.Nodup) (hd:∀e∈dn,e∈el) (he:e∈el) (hs:e ∉ dn) (hks:∀x,x∈ks'↔x∈ks∨x∈dn.map (·.1)) :
    (dn++[e]).Nodup∧(∀e'∈dn++[e],e'∈el)∧∀x,x∈sG ks' e.1↔x∈ks∨x∈(dn++[e]).map (·.1):=by
  refine ⟨List.nodup_append.2 ⟨hn,List.nodup_cons.2 ⟨List.not_mem_nil,List.nodup_nil⟩,fun a ha b hb=>by rw [List.mem_singleton] at hb;subst hb;exact fun e=>hs (e▸ha)⟩,fun e' h=>?_,fun x=>?_⟩
  · rcases List.mem_append.1 h with h|h
    · exact hd e' h
    · rw [List.mem_singleton] at h;rw [h];exact he
  · rw [wE,hks,List.map_append,List.mem_append,or_assoc]
    exact or_congr Iff.rfl (or_congr Iff.rfl List.mem_singleton.symm)
theorem dn_all {dn el:List (Int × Nat)} {ks ks' kl:List Int} (hel:el.map (·.1)=kl) (hd:∀e∈dn,e∈el) (hall:∀e∈el,e∈dn) (hks:∀x,x∈ks'↔x∈ks∨x∈dn.map (·.1)) (x:Int):x∈ks'↔x∈ks∨x∈kl:=by
  rw [hks,←hel]
  refine or_congr Iff.rfl ⟨fun h=>?_,fun h=>?_⟩
  · obtain ⟨e,he,rfl⟩:=List.mem_map.1 h;exact List.mem_map.2 ⟨e,hd e he,rfl⟩
  · obtain ⟨e,he,rfl⟩:=List.mem_map.1 h;exact List.mem_map.2 ⟨e,hall e he,rfl⟩
theorem flatI_snoc (l:List Int) (x:Int):flat Fw.encI l++[.int .i64 x]=flat Fw.encI (l++[x]):=by rw [xZ];rfl
theorem kE:flat Fw.encI []=[]:=rfl
theorem fst_inj:∀{el:List (Int × Nat)},(el.map (·.1)).Nodup→∀e∈el,∀e'∈el,e.1=e'.1→e=e'
  | x::el,hn,e,he,e',he',h=>by
    rw [List.map_cons,List.nodup_cons] at hn
    rcases List.mem_cons.1 he with rfl|h5<;>rcases List.mem_cons.1 he' with rfl|h6
    · rfl
    · exact absurd (List.mem_map.2 ⟨e',h6,h.symm⟩:e.1∈el.map (·.1)) hn.1
    · exact absurd (List.mem_map.2 ⟨e,h5,h⟩:e'.1∈el.map (·.1)) hn.1
    · exact fst_inj hn.2 e h5 e' h6 h
theorem dn_mem {el dn:List (Int × Nat)} {ks:List Int} (hel:el.map (·.1)=ks) (hd:∀e∈dn,e∈el) (hall:∀e∈el,e∈dn) (x:Int):x∈dn.map (·.1)↔x∈ks:=by
  have:=dn_all (ks:=[]) (ks':=dn.map (·.1)) hel hd hall (fun x=>by simp) x
  simpa using this
def mvO (st:Option (Nat × List Int)):Value:=.map (st.map (·.1))
theorem lF (st:Option (Nat × List Int)):wM st=[mvO st]:=by cases st<;>rfl
theorem nd_t {p:Prop} [Decidable p] (h:(!decide p)=true):¬p:=by simpa using h
theorem nd_f {p:Prop} [Decidable p] (h:(!decide p)=false):p:=by simpa using h
end Go.Proofs.YtenlcdokaadobaaGreatDoor
namespace Go.Fw
open Go Go.RowKit
set_option linter.unusedVariables false
section
variable {P:Program} {N:Nat} {l:List (Nat × Value)} {C:World→Prop} {d:Option Tmp} {T:TypeId} {pos:String} {af:Array Edge} {g:Option (Nat × Bool)}
def geS (m n:ByteArray):Bool:=!(Op.bytesLess m.toList n.toList)
theorem ex_geqS {t ty:TypeId} {x y:Operand} {m n:ByteArray} [h:TSr P t] (hx:ev l x=some (.string m)) (hy:ev l y=some (.string n)):Ex P N l C ⟨d,.binOp .geq t x y ty,T,pos,af,g⟩ (.bool (geS m n)):=by
  intro a w hA _
  simp [execOp,hA.ev hx,hA.ev hy,eqGuard_at_string,binOp,Op.stringOp,geS]
end
end Go.Fw
namespace Go.Proofs.YtenlcdokaadobaaGreatDoor
open Go Go.Fw
set_option linter.unusedVariables false
abbrev eqS (a b:ByteArray):Bool:=a.toList == b.toList
def empS:ByteArray:=⟨#[]⟩
def risAt (l:List ByteArray) (i:Nat):Prop:=eqS (l.getD i default) empS=false∧(0<i→geS (l.getD (i - 1) default) (l.getD i default)=false)
def risP (l:List ByteArray):Prop:=∀i,i<l.length→risAt l i
def eT:ByteArray:=⟨#[66,111,117,110,100,115]⟩
def exnD:ByteArray:=⟨#[68,105,118,105,100,101]⟩
def exnM:ByteArray:=⟨#[77,97,116,99,104]⟩
def eS:ByteArray:=⟨#[83,105,122,101]⟩
def wQ (l:List ByteArray) (s:ByteArray):Int:=
  match l.findIdx? (fun x=>eqS s x) with
  |some i=>i
  |none=>-1
def pM (l:List ByteArray) (s:ByteArray):Prop:=0≤wQ l s
structure AnfP (cs:List Int) (g:Grs):Prop where
  pos:1≤cs.length
  top:cs.length≤4096
  c0:cs.getD 0 0=0
  ls:risP g.ls.l
  ts:risP g.ts.l
  xs:risP g.xs.l
  has:pM g.xs.l eT∧pM g.xs.l exnD∧pM g.xs.l exnM∧pM g.xs.l eS
  ss:∀s∈g.ss.l,s.size≤4096
  caps:∀c∈cs,0≤c∧c≤4096
def tT (n:Int):Int:=if n=6∨n=9∨n=10∨n=11∨n=16∨n=17∨n=20∨n=21 then 1 else if n=15 then 3 else if n<1∨21<n then -1 else 2
abbrev rF (n m:Int):Prop:=0≤n∧n<m
def vI (cs:List Int) (r:Stp):Int:=
  if r.k=1∨r.k=10∨r.k=11 then 1 else if r.k=2 then tT r.n else if r.k=3∨r.k=12∨r.k=13 then 2
  else if r.k=4 then cs.getD r.n.toNat 0 else if r.k=5 then 0 else if r.k=6 then r.ns.l.length else if r.k=8∨r.k=9 then 1 else 2
def rA (g:Grs) (cs:List Int) (mine:Int) (r:Stp):Prop:=
  if r.k=2 then True else if r.k=4∨r.k=14 then rF r.n cs.length else if r.k=5 then rF r.n mine else if r.k=7∨r.k=8 then rF r.n g.ls.l.length else if r.k=9 then rF r.n g.ts.l.length else r.n=0
def gT (g:Grs) (l:List Int) (i:Nat):Prop:=rF (l.getD i 0) g.ls.l.length∧(0<i→l.getD (i - 1) 0<l.getD i 0)
def labP (g:Grs) (l:List Int):Prop:=∀i,i<l.length→gT g l i
structure FormP (g:Grs) (cs:List Int) (mine:Int) (r:Stp):Prop where
  lo:1≤r.k
  hi:r.k≤14
  num:rA g cs mine r
  want:(r.a.l.length:Int)=vI cs r
  ns:r.ns.l=[]∨r.k=6
  lab:r.k=6→labP g r.ns.l
def upAt (l:List Int) (i:Nat):Prop:=0<i→l.getD (i - 1) 0<l.getD i 0
def upP (l:List Int):Prop:=∀i,i<l.length→upAt l i
def fT (k:Int):Int:=if k=2 then 2 else if k=4 then 0 else 1
def fS (n k:Int):Int:=if k=4 then 1 else if k=5 then 2 else if k=6 then n else 0
structure EndP (e:En):Prop where
  lo:1≤e.k
  hi:e.k≤6
  a:(e.a.l.length:Int)=fT e.k
  to:(e.to.l.length:Int)=fS (IntKind.i64.wrap ((e.ns.l.length:Int)+1)) e.k
  ns:e.k=6↔0<e.ns.l.length
  up:upP e.ns.l
def atS (g:Grs) (S:Int→Prop) (a:Atm):Prop:=(a.k=1∧0≤a.n∧a.n≤1048576∧(a.n<2∨S a.n))∨(a.k=2∧-4611686018427387904≤a.n∧a.n<4611686018427387904)∨(a.k=3∧0≤a.n∧a.n<g.ss.l.length)
def bvs (b:Blc):List Int:=b.ps.l++b.is.l.map Ins.x
def goes (b:Blc) (k:Nat):Prop:=∃t∈b.e.to.l,t.b=(k:Int)
def BS (f:Gr) (k:Nat) (x:Int):Prop:=0<k∧∀m,(h:m<k)→∀bl,f.bs.l[m]?=some bl→goes bl k→x∈bvs bl∨BS f m x
termination_by k
def vH (S:Int→Prop) (bl:Blc) (i:Nat) (x:Int):Prop:=S x∨x∈bl.ps.l∨x∈(bl.is.l.take i).map Ins.x
def come (f:Gr) (n:Nat):Prop:=n=0∨∃m bl,m<n∧f.bs.l[m]?=some bl∧goes bl n
structure BlkP (g:Grs) (f:Gr) (cs:List Int) (n:Nat) (bl:Blc) (S:Int→Prop):Prop where
  first:n=0→bl.ps.l=[]
  ins:∀(i:Nat) (x:Ins),bl.is.l[i]?=some x→FormP g cs f.caps x.r∧∀a∈x.r.a.l,atS g (vH S bl i) a
  end_:EndP bl.e
  ends:∀a∈bl.e.a.l,atS g (vH S bl bl.is.l.length) a
  edges:∀t∈bl.e.to.l,(n:Int)<t.b∧t.b<f.bs.l.length∧t.a.l.length=(f.bs.l.getD t.b.toNat wR).ps.l.length∧∀a∈t.a.l,atS g (vH S bl bl.is.l.length) a
structure EvOk (es:List Int):Prop where
  nd:es.Nodup
  rg:∀x∈es,2≤x∧x≤1048576
def sL (bl:Blc):Nat:=2+bl.ps.l.length+(bl.is.l.map fun i=>1+i.r.a.l.length).sum+bl.e.a.l.length+(bl.e.to.l.map fun t=>1+t.a.l.length).sum
def grN (f:Gr):Nat:=(f.bs.l.map sL).sum
def jD (g:Grs):Nat:=(g.fs.l.map grN).sum
structure GrP (g:Grs) (cs:List Int) (f:Gr):Prop where
  ne:0<f.bs.l.length
  blk:∀(n:Nat) (bl:Blc),f.bs.l[n]?=some bl→come f n∧BlkP g f cs n bl (BS f n)
  ev:EvOk (f.bs.l.flatMap bvs)
structure MayP (g:Grs):Prop where
  anf:AnfP (g.fs.l.map Gr.caps) g
  gr:∀f∈g.fs.l,GrP g (g.fs.l.map Gr.caps) f
  size:jD g≤65536
structure Ck where
  g:Grs
  f:Gr
  oA:Option Addr
  nA:Nat
  cA:Nat
  bE:Nat
  oT:Option Addr
  nT:Nat
  cT:Nat
def wU (c:Ck) (p:Int):List Value:=[.slice c.g.fs.o c.g.fs.l.length c.g.fs.c,.slice c.g.ls.o c.g.ls.l.length c.g.ls.c,.slice c.g.ts.o c.g.ts.l.length c.g.ts.c,.slice c.g.xs.o c.g.xs.l.length c.g.xs.c,.slice c.g.ss.o c.g.ss.l.length c.g.ss.c,
  .int .i64 c.f.caps,.slice c.f.bs.o c.f.bs.l.length c.f.bs.c,.slice c.oA c.nA c.cA,.int .i64 p,.map (some c.bE),.slice c.oT c.nT c.cT]
def qZ (es:List Int) (x:Int):Prop:=2≤x∧x≤1048576∧x ∉ es
def jK (g:Grs) (ks:List Int) (a:Atm):Prop:=(a.k=1∧0≤a.n∧a.n≤1048576∧(a.n<2∨a.n∈ks))∨(a.k=2∧-4611686018427387904≤a.n∧a.n<4611686018427387904)∨(a.k=3∧0≤a.n∧a.n<g.ss.l.length)
def cJ (g:Grs) (ks:List Int) (p:Int) (l:List Atm):Prop:=(∀a∈l,jK g ks a)∧(l=[]∨p+l.length≤65536)
section
attribute [local irreducible] Code.wp wpList Calls Ex Op1 sat bat blk cb own Go.Fw.mp Go.Fw.mpO Go.Fw.mpI Go.Fw.mpE Go.Fw.itr HS Rd Ret wkD Hp Cl Cls Exit.then Exit.inBlock Exit.noGoto bodyPost Go.Fw.flat wk2 Go.Fw.all Go.Fw.owns wpOp
attribute [local irreducible] sk mpK sko mvO xI

theorem cH (w0 w:World) (H:List It) (c:Ck) (bC bN:Nat) (p:Int) (es ks:List Int) (x:Int) (hH:HS w0 noM (cb bC 112 (wU c p)::sk c.bE es::sk bN ks::H) w) :
    Ret Tryz.prog 60 #[.pointer (some (bat bC 0)),.int .i64 x,.map (some bN)] w (fun r w'=>
      (qZ es x∧r= .bool true∧HS w0 noM (cb bC 112 (wU c p)::sk c.bE (es++[x])::sk bN (sG ks x)::H) w')∨
      (¬qZ es x∧r= .bool false∧HS w0 noM (cb bC 112 (wU c p)::sk c.bE es::sk bN ks::H) w')):=by
  (refine ENT (N:=30) Tryz.func60 Tryz.ntmps60 ?_;intro a hA)
  repeat' (first|(refine GT ?_ ?_<;>intro hg<;>clear hA a<;>intro a hA<;>(first|exact FA|replace hg:=dTr hg|replace hg:=dFa hg|skip))|(refine XT ?_;apply XE;(first|(apply qQ;rfl;rfl;exact MEMT));clear hA a;intro a hA)|(refine QT ?_;clear hA a;intro a hA)|refine CT ?_|(refine DT ?_ ?_<;>intro hc<;>try (exfalso;omega))|fail)
  · exact rt1 (.inl rfl) rfl hA rfl (.inr ⟨fun h=>(by have:=h.1;omega),rfl,hH⟩)
  · exact rt1 (.inl rfl) rfl hA rfl (.inr ⟨fun h=>(by have:=h.2.1;omega),rfl,hH⟩)
  · have hin:x∈es:=by assumption
    exact rt1 (.inl rfl) rfl hA rfl (.inr ⟨fun h=>h.2.2 hin,rfl,hH⟩)
  have hnin:¬x∈es:=by assumption
  have hbp:qZ es x:=⟨by omega,by omega,hnin⟩
  replace hH:=hH.up 1 rfl
  dsimp only [List.eraseIdx_cons_succ,List.eraseIdx_cons_zero] at hH
  (refine zH hA rfl rfl (by decide) (lW rfl rfl hH hnin) ?_;clear hA hH;rintro _ w ⟨cl,rfl,hH⟩ a hA)
  repeat' (first|(refine QT ?_;clear hA a;intro a hA)|fail)
  (refine zO hA rfl rfl (pI rfl rfl rfl hH) ?_;clear hH;rintro _ w hH)
  repeat' (first|(refine QT ?_;clear hA a;intro a hA)|(apply zO hA rfl rfl;apply mR;rfl;rfl;rfl;exact hH;(repeat constructor);clear hH;rintro _ w hH)|refine CT ?_|fail)
  exact rt1 (.inl rfl) rfl hA rfl (.inl ⟨hbp,rfl,hH.perm PMT⟩)

theorem atk {g:Grs} {ks:List Int} {a:Atm}:jK g ks a↔(a.k=1∧0≤a.n∧a.n≤1048576∧(a.n<2∨a.n∈ks))∨(a.k=2∧-4611686018427387904≤a.n∧a.n<4611686018427387904)∨(a.k=3∧0≤a.n∧a.n<g.ss.l.length):=Iff.rfl
theorem ats_next {g:Grs} {ks:List Int} {p:Int} {l:List Atm} {i:Nat} {a:Atm} (h:l[i]?=some a) (hp:∀b∈l.take i,jK g ks b) (ha:jK g ks a):∀b∈l.take (i+1),jK g ks b:=by
  intro b hb
  rw [yU h] at hb
  rcases List.mem_append.1 hb with h1|h1
  · exact hp b h1
  · rw [List.mem_singleton] at h1
    exact h1▸ha
theorem ats_no {g:Grs} {ks:List Int} {p:Int} {l:List Atm} {i:Nat} {a:Atm} (h:l[i]?=some a) (ha:¬jK g ks a):¬cJ g ks p l:=fun hc=>ha (hc.1 a (List.mem_of_getElem? h))
theorem ats_many {g:Grs} {ks:List Int} {p:Int} {l:List Atm} {i:Nat} (hi:i<l.length) (h:65536<p+((i+1:Nat):Int)):¬cJ g ks p l:=by
  rintro ⟨_,h2|h2⟩
  · rw [h2] at hi
    cases hi
  · omega
theorem mG (w0 w:World) (H:List It) (c:Ck) (bC bW:Nat) (p:Int) (ks:List Int) (v:Vec Atm) (hH:HS w0 noM (cb bC 112 (wU c p)::sk bW ks::H) w) (hR:RdV w0 zN v) (hp0:0≤p) (hp1:p≤3000000) :
    Ret Tryz.prog 62 #[.pointer (some (bat bC 0)),.slice v.o v.l.length v.c,.map (some bW)] w (fun r w'=>
      (cJ c.g ks p v.l∧r= .bool true∧HS w0 noM (cb bC 112 (wU c (p+v.l.length))::sk bW ks::H) w')∨
      (¬cJ c.g ks p v.l∧r= .bool false∧∃p',0≤p'∧p'≤3000001∧HS w0 noM (cb bC 112 (wU c p')::sk bW ks::H) w')):=by
  have hle:=hR.le
  have hsp:Sp v.o v.l.length:=hR.1.sp (sz:=2) (zF yT _) (by omega)
  (refine ENT (N:=82) Tryz.func62 Tryz.ntmps62 ?_;intro a hA)
  repeat' (first|(refine QT ?_;clear hA a;intro a hA)|refine CT ?_|fail)
  refine yK (S:=Nat) (fun i a w=>(i≤v.l.length∧(∀b∈v.l.take i,jK c.g ks b)∧(i=0∨p+i≤65536))∧HS w0 noM (cb bC 112 (wU c (p+i))::sk bW ks::H) w∧Sl 82 [(12,.int .i64 i),(11,.int .i64 v.l.length),(10,.slice v.o v.l.length v.c),(0,.pointer (some (bat bC 0))),(2,.map (some bW))] a) (fun i=>v.l.length - i)
    (fun a w=>cJ c.g ks p v.l∧HS w0 noM (cb bC 112 (wU c (p+v.l.length))::sk bW ks::H) w∧Sl 82 [] a) 0 ⟨⟨Nat.zero_le _,(by rw [List.take_zero];exact fun b h=>absurd h List.not_mem_nil),.inl rfl⟩,(by rw [show p+((0:Nat):Int)=p by omega];exact hH),(hA.sub SBT)⟩ ?_ ?_
  · clear hA hH
    rintro i a w ⟨⟨hi,hok,hpi⟩,hH,hA⟩
    by_cases hlt:i<v.l.length
    rotate_left
    · obtain rfl:i=v.l.length:=by omega
      rw [List.take_length] at hok
      repeat' (first|(refine QT ?_;clear hA a;intro a hA)|refine CT ?_|(refine DT ?_ ?_<;>intro hc<;>try (exfalso;omega))|fail)
      exact ⟨⟨hok,hpi.imp (fun h=>List.length_eq_zero_iff.1 h) id⟩,hH,(hA.sub SBT)⟩
    obtain ⟨x,hx⟩:∃x,v.l[i]?=some x:=⟨_,List.getElem?_eq_getElem hlt⟩
    have hvs:=yA yT hx
    have hpb:p+(i:Int)≤3000000:=by rcases hpi with h|h<;>omega
    have e1:p+(i:Int)+1=p+((i+1:Nat):Int):=by omega
    repeat' (first|(refine GT ?_ ?_<;>intro hg<;>clear hA a<;>intro a hA<;>(first|exact FA|replace hg:=dTr hg|replace hg:=dFa hg|skip))|(refine XT ?_;apply XE;(first|(apply qQ;rfl;rfl;exact MEMT)|(apply zG (vs:=zN x);rfl;rfl;exact yV hR.1 id hvs));clear hA a;intro a hA)|(refine QT ?_;clear hA a;intro a hA)|(refine BT ?_;clear hA hH;rintro _ w ⟨bN,rfl,hH⟩ a hA)|(refine SAT (zN x) hA hH ?_;clear hH;intro w hH)|(apply zO hA rfl rfl;apply zB (cs':=wU c (p+(i:Int)+1));rfl;rfl;rfl;exact hH;(repeat constructor);clear hH;rintro _ w hH)|refine CT ?_|(refine DT ?_ ?_<;>intro hc<;>try (exfalso;omega))|(refine zQ [(0,1),(1,1),(2,1),(3,1),(4,1),(5,1),(6,1),(7,1),(8,1),(9,1),(10,1),(11,1),(12,1),(13,1),(14,1)] mixed (by decide +kernel) hH ?_;replace hH:=hH.drew)|fail)
    all_goals first
      |exact ⟨i+1,⟨⟨hlt,ats_next (p:=p) hx hok (by first|exact .inl ⟨by assumption,by assumption,by assumption,.inl (by assumption)⟩|exact .inl ⟨by assumption,by assumption,by assumption,.inr (nd_f (by assumption))⟩|exact .inr (.inl ⟨by assumption,by assumption,nd_f (by assumption)⟩)|exact .inr (.inr ⟨by assumption,by assumption,nd_f (by assumption)⟩)),.inr (by omega)⟩,(by rw [←e1];exact hH.tail),(hA.sub SBT)⟩,by omega⟩
      |exact rt1 (.inl rfl) rfl hA rfl (.inr ⟨ats_many hlt (by omega),rfl,_,by omega,by omega,hH.tail⟩)
      |exact rt1 (.inl rfl) rfl hA rfl (.inr ⟨ats_no hx (fun h=>(by rcases atk.1 h with ⟨h1,h2,h3,h4⟩| ⟨h1,h2,h3⟩| ⟨h1,h2,h3⟩<;>first|omega|exact absurd h3 (nd_t (by assumption))|(rcases h4 with h4|h4<;>first|omega|exact absurd h4 (nd_t (by assumption))))),rfl,_,by omega,by omega,hH.tail⟩)
  clear hA hH
  rintro a w ⟨hok,hH,hA⟩
  repeat' (first|(refine QT ?_;clear hA a;intro a hA)|refine CT ?_|fail)
  exact rt1 (.inl rfl) rfl hA rfl (.inl ⟨hok,rfl,hH⟩)
end
theorem nE {l:List Int} {k:Nat} (h:k<l.length):(flat Fw.encI l)[k*1]?=some (.int .i64 (l.getD k 0)):=by
  refine yZ (off:=0) Fw.encI_len (List.getElem?_eq_getElem h) ?_
  rw [List.getD_eq_getElem?_getD,List.getElem?_eq_getElem h]
  rfl
def xA (o:Option Addr) (n c:Nat) (g:Grs):List Value:=[.slice o n c,.slice g.ls.o g.ls.l.length g.ls.c,.slice g.ts.o g.ts.l.length g.ts.c,.slice g.xs.o g.xs.l.length g.xs.c,.slice g.ss.o g.ss.l.length g.ss.c]
theorem and_dec {p q:Prop} [Decidable p] [Decidable q] (h:p):decide q=decide (p∧q):=by
  by_cases hq:q
  · rw [decide_eq_true hq,decide_eq_true ⟨h,hq⟩]
  · rw [decide_eq_false hq,decide_eq_false (fun h=>hq h.2)]
theorem w_1 {g:Grs} {cs:List Int} {mine:Int} {r:Stp} (h:r.k=1∨r.k=10∨r.k=11):vI cs r=1∧(rA g cs mine r↔r.n=0):=by
  unfold vI rA
  rcases h with h|h|h<;>rw [h]<;>exact ⟨rfl,Iff.rfl⟩
theorem w_2 {g:Grs} {cs:List Int} {mine:Int} {r:Stp} (h:r.k=2):vI cs r=tT r.n∧(rA g cs mine r↔True):=by
  unfold vI rA
  rw [h];exact ⟨rfl,Iff.rfl⟩
theorem w_3 {g:Grs} {cs:List Int} {mine:Int} {r:Stp} (h:r.k=3∨r.k=12∨r.k=13):vI cs r=2∧(rA g cs mine r↔r.n=0):=by
  unfold vI rA
  rcases h with h|h|h<;>rw [h]<;>exact ⟨rfl,Iff.rfl⟩
theorem w_4 {g:Grs} {cs:List Int} {mine:Int} {r:Stp} (h:r.k=4):vI cs r=cs.getD r.n.toNat 0∧(rA g cs mine r↔rF r.n cs.length):=by
  unfold vI rA
  rw [h];exact ⟨rfl,Iff.rfl⟩
theorem w_5 {g:Grs} {cs:List Int} {mine:Int} {r:Stp} (h:r.k=5):vI cs r=0∧(rA g cs mine r↔rF r.n mine):=by
  unfold vI rA
  rw [h];exact ⟨rfl,Iff.rfl⟩
theorem w_6 {g:Grs} {cs:List Int} {mine:Int} {r:Stp} (h:r.k=6):vI cs r=r.ns.l.length∧(rA g cs mine r↔r.n=0):=by
  unfold vI rA
  rw [h];exact ⟨rfl,Iff.rfl⟩
theorem w_7 {g:Grs} {cs:List Int} {mine:Int} {r:Stp} (h:r.k=7):vI cs r=2∧(rA g cs mine r↔rF r.n g.ls.l.length):=by
  unfold vI rA
  rw [h];exact ⟨rfl,Iff.rfl⟩
theorem w_8 {g:Grs} {cs:List Int} {mine:Int} {r:Stp} (h:r.k=8):vI cs r=1∧(rA g cs mine r↔rF r.n g.ls.l.length):=by
  unfold vI rA
  rw [h];exact ⟨rfl,Iff.rfl⟩
theorem w_9 {g:Grs} {cs:List Int} {mine:Int} {r:Stp} (h:r.k=9):vI cs r=1∧(rA g cs mine r↔rF r.n g.ts.l.length):=by
  unfold vI rA
  rw [h];exact ⟨rfl,Iff.rfl⟩
theorem w_14 {g:Grs} {cs:List Int} {mine:Int} {r:Stp} (h:r.k=14):vI cs r=2∧(rA g cs mine r↔rF r.n cs.length):=by
  unfold vI rA
  rw [h];exact ⟨rfl,Iff.rfl⟩
structure StepJ (g:Grs) (cs:List Int) (mine:Int) (r:Stp) (wt:Int) (n:Bool):Prop where
  lo:1≤r.k
  hi:r.k≤14
  want:n=true→vI cs r=wt
  num:rA g cs mine r↔n=true
  lab:r.k=6→labP g r.ns.l
theorem StepJ.form {g:Grs} {cs:List Int} {mine:Int} {r:Stp} {wt:Int} {n b:Bool} (h:StepJ g cs mine r wt n) (hb:b=true↔n=true∧(r.a.l.length:Int)=wt∧(r.ns.l=[]∨r.k=6)):b=true↔FormP g cs mine r:=by
  rw [hb,←h.num]
  exact ⟨fun ⟨h1,h2,h3⟩=>⟨h.lo,h.hi,h1,h2.trans (h.want (h.num.1 h1)).symm,h3,h.lab⟩,fun h1=>⟨h1.num,h1.want.trans (h.want (h.num.1 h1.num)),h1.ns⟩⟩
theorem aM {g:Grs} {cs:List Int} {mine:Int} {r:Stp} (h:¬FormP g cs mine r):false=true↔FormP g cs mine r:=⟨fun e=>(by cases e),fun e=>absurd e h⟩
theorem lab_next {g:Grs} {l:List Int} {i:Nat} (h:∀k,k<i→gT g l k) (ha:gT g l i):∀k,k<i+1→gT g l k:=fun k hk=>by
  by_cases e:k=i
  · exact e▸ha
  · exact h k (by omega)
theorem lab_no {g:Grs} {cs:List Int} {mine:Int} {r:Stp} {i:Nat} (hi:i<r.ns.l.length) (hk:r.k=6) (ha:¬gT g r.ns.l i):¬FormP g cs mine r:=fun h=>ha (h.lab hk i hi)
section
attribute [local irreducible] Code.wp wpList Calls Ex Op1 sat bat blk cb own Go.Fw.mp Go.Fw.mpO Go.Fw.mpI Go.Fw.mpE Go.Fw.itr HS Rd Ret wkD Hp Cl Cls Exit.then Exit.inBlock Exit.noGoto bodyPost Go.Fw.flat wk2 Go.Fw.all Go.Fw.owns wpOp
attribute [local irreducible] sk mpK sko mvO xI

theorem eH (w0:World) (n m:Int):Ret Tryz.prog 128 #[.int .i64 n,.int .i64 m] w0 (fun v w=>v= .bool (decide (0≤n∧n<m))∧Kp w0 noM w):=by
  have hH:HS w0 noM [] w0:=HS.init w0 noM
  (refine ENT (N:=12) Tryz.func128 Tryz.ntmps128 ?_;intro a hA)
  repeat' (first|(refine GT ?_ ?_<;>intro hg<;>clear hA a<;>intro a hA<;>(first|exact FA|replace hg:=dTr hg|replace hg:=dFa hg|skip))|(refine QT ?_;clear hA a;intro a hA)|refine CT ?_|fail)
  · exact rt1 (.inl rfl) rfl hA rfl ⟨by rw [and_dec (p:=0≤n) (by assumption)],hH.kp⟩
  · exact rt1 (.inl rfl) rfl hA rfl ⟨by rw [decide_eq_false];exact fun h=>(by assumption:¬0≤n) h.1,hH.kp⟩
theorem arity_spec (w0:World) (n:Int):Ret Tryz.prog 127 #[.int .i64 n] w0 (fun v w=>v= .int .i64 (tT n)∧Kp w0 noM w):=by
  have hH:HS w0 noM [] w0:=HS.init w0 noM
  (refine ENT (N:=21) Tryz.func127 Tryz.ntmps127 ?_;intro a hA)
  repeat' (first|(refine GT ?_ ?_<;>intro hg<;>clear hA a<;>intro a hA<;>(first|exact FA|replace hg:=dTr hg|replace hg:=dFa hg|skip))|(refine QT ?_;clear hA a;intro a hA)|refine CT ?_|(refine DT ?_ ?_<;>intro hc<;>try (exfalso;omega))|fail)
  all_goals exact rt1 (.inl rfl) rfl hA rfl ⟨by congr 1;unfold tT;(repeat (first|rw [if_pos (by omega)]|rw [if_neg (by omega)])),hH.kp⟩
theorem Step_spec (w0:World) (oP:Option Addr) (nP cP:Nat) (g:Grs) (oA:Option Addr) (cA:Nat) (la:List Int) (mine:Int) (r:Stp) (hA0:Rd w0 oA (flat Fw.encI la)) (hla:la.length≤9223372036854775807) (hN:RdV w0 Fw.encI r.ns) :
    Ret Tryz.prog 104 #[.agg (xA oP nP cP g).toArray,.slice oA la.length cA,.int .i64 mine,.agg (yG r).toArray] w0 (fun v w=>∃b,v= .bool b∧(b=true↔FormP g la mine r)∧Kp w0 noM w):=by
  have hH:HS w0 noM [] w0:=HS.init w0 noM
  have hle:=hN.le
  have hspA:Sp oA la.length:=hA0.sp (sz:=1) (zF Fw.encI_len _) (by omega)
  have hspN:Sp r.ns.o r.ns.l.length:=hN.1.sp (sz:=1) (zF Fw.encI_len _) (by omega)
  have hnil:r.ns.l=[]↔r.ns.l.length=0:=List.length_eq_zero_iff.symm
  (refine ENT (N:=134) Tryz.func104 Tryz.ntmps104 ?_;intro a hA)
  repeat' (first|(refine QT ?_;clear hA a;intro a hA)|(refine BT ?_;clear hA hH;rintro _ w ⟨bN,rfl,hH⟩ a hA)|refine CT ?_|fail)
  obtain ⟨b7,hb7⟩:∃x,x=bN:=⟨_,rfl⟩
  rw [←hb7] at hA hH
  clear hb7
  rename_i b4 _
  have hX:=hH
  (refine zQ [(0,1),(1,1),(2,1),(3,1),(4,1)] mixed (by decide +kernel) hH ?_;replace hH:=hH.drew)
  (first|(apply fW hA rfl rfl rfl (by decide) rfl (xC rfl)<;>intro hg<;>clear hA a<;>intro a hA<;>(first|(replace hg:=dTr hg;try (exfalso;omega))|(replace hg:=dFa hg;try (exfalso;omega))|(exact absurd hg (by decide))|skip))|(apply fX hA rfl rfl rfl (by decide);(first|(apply xC;rfl)|(apply wJ;rfl)|exact EXT);clear hA a;intro a hA)|(apply lH hA rfl rfl rfl (by decide);clear hA a;intro a hA)|(apply kK hA rfl rfl rfl (by decide);(first|(apply xC;rfl)|(apply wJ;rfl)|exact EXT);clear hA a;intro a hA)|(apply kL hA hH rfl rfl rfl (by decide);(first|(apply xC;rfl)|(apply wJ;rfl)|exact EXT);clear hA a;intro a hA)|(apply pU hA rfl rfl rfl (by decide);clear hA a;intro a hA)|apply kJ|apply nK|apply nJ)
  (first|(apply fW hA rfl rfl rfl (by decide) rfl (xC rfl)<;>intro hg<;>clear hA a<;>intro a hA<;>(first|(replace hg:=dTr hg;try (exfalso;omega))|(replace hg:=dFa hg;try (exfalso;omega))|(exact absurd hg (by decide))|skip))|(apply fX hA rfl rfl rfl (by decide);(first|(apply xC;rfl)|(apply wJ;rfl)|exact EXT);clear hA a;intro a hA)|(apply lH hA rfl rfl rfl (by decide);clear hA a;intro a hA)|(apply kK hA rfl rfl rfl (by decide);(first|(apply xC;rfl)|(apply wJ;rfl)|exact EXT);clear hA a;intro a hA)|(apply kL hA hH rfl rfl rfl (by decide);(first|(apply xC;rfl)|(apply wJ;rfl)|exact EXT);clear hA a;intro a hA)|(apply pU hA rfl rfl rfl (by decide);clear hA a;intro a hA)|apply kJ|apply nK|apply nJ)
  clear hH
  have hH:HS w0 noM [] w.drew:=hX.drop_.drew
  repeat' (first|(refine QT ?_;clear hA a;intro a hA)|refine CT ?_|fail)
  replace hH:=hX.drew
  clear hX
  refine oW (fun a w=>∃(wt:Int) (n:Bool),StepJ g la mine r wt n∧HS w0 noM [cb b7 57 (yG r),cb b4 34 (xA oP nP cP g)] w∧Sl 134 [(8,.bool false),(9,.int .i64 wt),(10,.bool n),(7,.pointer (some (bat b7 0)))] a) ?_ ?_
  · repeat' (first|(refine XT ?_;apply XE;(first|(apply zD;rfl;rfl;omega;omega;exact hspA)|(apply zC;rfl;refine xP hA0 id (nE ?_);omega));clear hA a;intro a hA)|(refine QT ?_;clear hA a;intro a hA)|(refine zH hA rfl rfl (by decide) (zA rfl rfl rfl (eH _ _ _)) ?_;clear hA;rintro _ w ⟨rfl,hk⟩ a hA;replace hH:=hH.keep hk;clear hk)|(refine zH hA rfl rfl (by decide) (zA rfl rfl rfl (arity_spec _ _)) ?_;clear hA;rintro _ w ⟨rfl,hk⟩ a hA;replace hH:=hH.keep hk;clear hk)|refine CT ?_|(refine DT ?_ ?_<;>intro hc<;>try (exfalso;omega))|fail)
    all_goals (first|exact ⟨_,_,⟨by omega,by omega,fun _=>(w_1 (g:=g) (mine:=mine) (by omega)).1,(w_1 (by omega)).2.trans decide_eq_true_iff.symm,fun h=>absurd h (by omega)⟩,hH,(hA.sub SBT)⟩|exact ⟨_,_,⟨by omega,by omega,fun _=>(w_2 (g:=g) (mine:=mine) (by assumption)).1,(w_2 (by assumption)).2.trans (iff_of_true trivial rfl),fun h=>absurd h (by omega)⟩,hH,(hA.sub SBT)⟩|exact ⟨_,_,⟨by omega,by omega,fun _=>(w_3 (g:=g) (mine:=mine) (by omega)).1,(w_3 (by omega)).2.trans decide_eq_true_iff.symm,fun h=>absurd h (by omega)⟩,hH,(hA.sub SBT)⟩|exact ⟨_,_,⟨by omega,by omega,fun _=>(w_4 (g:=g) (mine:=mine) (by assumption)).1,(w_4 (by assumption)).2.trans decide_eq_true_iff.symm,fun h=>absurd h (by omega)⟩,hH,(hA.sub SBT)⟩|exact ⟨_,_,⟨by omega,by omega,fun h=>absurd (dTr h) (by assumption),(w_4 (by assumption)).2.trans decide_eq_true_iff.symm,fun h=>absurd h (by omega)⟩,hH,(hA.sub SBT)⟩|exact ⟨_,_,⟨by omega,by omega,fun _=>(w_5 (g:=g) (mine:=mine) (by assumption)).1,(w_5 (by assumption)).2.trans decide_eq_true_iff.symm,fun h=>absurd h (by omega)⟩,hH,(hA.sub SBT)⟩|exact ⟨_,_,⟨by omega,by omega,fun _=>(w_7 (g:=g) (mine:=mine) (by assumption)).1,(w_7 (by assumption)).2.trans decide_eq_true_iff.symm,fun h=>absurd h (by omega)⟩,hH,(hA.sub SBT)⟩|exact ⟨_,_,⟨by omega,by omega,fun _=>(w_8 (g:=g) (mine:=mine) (by assumption)).1,(w_8 (by assumption)).2.trans decide_eq_true_iff.symm,fun h=>absurd h (by omega)⟩,hH,(hA.sub SBT)⟩|exact ⟨_,_,⟨by omega,by omega,fun _=>(w_9 (g:=g) (mine:=mine) (by assumption)).1,(w_9 (by assumption)).2.trans decide_eq_true_iff.symm,fun h=>absurd h (by omega)⟩,hH,(hA.sub SBT)⟩|exact ⟨_,_,⟨by omega,by omega,fun _=>(w_14 (g:=g) (mine:=mine) (by assumption)).1,(w_14 (by assumption)).2.trans decide_eq_true_iff.symm,fun h=>absurd h (by omega)⟩,hH,(hA.sub SBT)⟩|exact rt1 (.inl rfl) rfl hA rfl ⟨_,rfl,aM (fun h=>(by have h1:=h.lo;have h2:=h.hi;omega)),hH.kp⟩|skip)
    refine yK (S:=Nat) (fun i a w=>(i≤r.ns.l.length∧∀k,k<i→gT g r.ns.l k)∧HS w0 noM [cb b7 57 (yG r),cb b4 34 (xA oP nP cP g)] w∧Sl 134 [(58,.int .i64 i),(57,.int .i64 r.ns.l.length),(56,.slice r.ns.o r.ns.l.length r.ns.c),(8,.bool false),(9,.int .i64 r.ns.l.length),(10,.bool (decide (r.n=0))),(7,.pointer (some (bat b7 0))),(4,.pointer (some (bat b4 0)))] a) (fun i=>r.ns.l.length - i)
      (fun a w=>labP g r.ns.l∧HS w0 noM [cb b7 57 (yG r),cb b4 34 (xA oP nP cP g)] w∧Sl 134 [(8,.bool false),(9,.int .i64 r.ns.l.length),(10,.bool (decide (r.n=0))),(7,.pointer (some (bat b7 0)))] a) 0 ⟨⟨Nat.zero_le _,fun k h=>absurd h (Nat.not_lt_zero _)⟩,hH,(hA.sub SBT)⟩ ?_ ?_
    · clear hA hH
      rintro i a w ⟨⟨hi,hlab⟩,hH,hA⟩
      by_cases hlt:i<r.ns.l.length
      rotate_left
      · repeat' (first|(refine QT ?_;clear hA a;intro a hA)|refine CT ?_|(refine DT ?_ ?_<;>intro hc<;>try (exfalso;omega))|fail)
        obtain rfl:i=r.ns.l.length:=by omega
        exact ⟨hlab,hH,(hA.sub SBT)⟩
      have e1:((i:Int) - 1).toNat=i - 1:=by omega
      repeat' (first|(refine GT ?_ ?_<;>intro hg<;>clear hA a<;>intro a hA<;>(first|exact FA|replace hg:=dTr hg|replace hg:=dFa hg|skip))|(refine XT ?_;apply XE;(first|(apply zE;rfl;rfl;omega;exact hspN)|(apply zD;rfl;rfl;omega;omega;exact hspN)|(apply zC;rfl;refine xP hN.1 id (nE ?_);omega));clear hA a;intro a hA)|(refine QT ?_;clear hA a;intro a hA)|(refine zH hA rfl rfl (by decide) (zA rfl rfl rfl (eH _ _ _)) ?_;clear hA;rintro _ w ⟨rfl,hk⟩ a hA;replace hH:=hH.keep hk;clear hk)|refine CT ?_|(refine DT ?_ ?_<;>intro hc<;>try (exfalso;omega))|fail)
      all_goals first
        |exact ⟨i+1,⟨⟨hlt,lab_next hlab ⟨nd_f (by assumption),fun h0=>(by omega)⟩⟩,hH,(hA.sub SBT)⟩,by omega⟩
        |exact ⟨i+1,⟨⟨hlt,lab_next hlab ⟨nd_f (by assumption),fun h0=>(by rw [←e1];omega)⟩⟩,hH,(hA.sub SBT)⟩,by omega⟩
        |exact rt1 (.inl rfl) rfl hA rfl ⟨_,rfl,aM (lab_no hlt (by assumption) (fun h=>nd_t (by assumption) h.1)),hH.kp⟩
        |exact rt1 (.inl rfl) rfl hA rfl ⟨_,rfl,aM (lab_no hlt (by assumption) (fun h=>(by have h1:=h.2 (by omega);rw [←e1] at h1;omega))),hH.kp⟩
    clear hA hH
    rintro a w ⟨hlab,hH,hA⟩
    repeat' (first|(refine QT ?_;clear hA a;intro a hA)|refine CT ?_|fail)
    all_goals exact ⟨_,_,⟨by omega,by omega,fun _=>(w_6 (g:=g) (mine:=mine) (by assumption)).1,(w_6 (by assumption)).2.trans decide_eq_true_iff.symm,fun _=>hlab⟩,hH,(hA.sub SBT)⟩
  clear hA hH
  rintro a w ⟨wt,n,hJ,hH,hA⟩
  repeat' (first|(refine GT ?_ ?_<;>intro hg<;>clear hA a<;>intro a hA<;>(first|exact FA|replace hg:=dTr hg|replace hg:=dFa hg|skip))|(refine QT ?_;clear hA a;intro a hA)|refine CT ?_|fail)
  all_goals first
    |exact rt1 (.inl rfl) rfl hA rfl ⟨_,rfl,hJ.form ⟨fun _=>⟨by assumption,by assumption,.inl (hnil.2 (by omega))⟩,fun _=>rfl⟩,hH.kp⟩
    |exact rt1 (.inl rfl) rfl hA rfl ⟨_,rfl,hJ.form ⟨fun h=>⟨by assumption,by assumption,.inr (dTr h)⟩,fun h=>decide_eq_true (h.2.2.resolve_left fun e=>absurd (hnil.1 e) (by omega))⟩,hH.kp⟩
    |exact rt1 (.inl rfl) rfl hA rfl ⟨_,rfl,hJ.form ⟨fun h=>(by cases h),fun h=>absurd h.2.1 (by assumption)⟩,hH.kp⟩
    |exact rt1 (.inl rfl) rfl hA rfl ⟨_,rfl,hJ.form ⟨fun h=>(by cases h),fun h=>absurd ((by assumption:n=false).symm.trans h.1) (by decide)⟩,hH.kp⟩
end
end Go.Proofs.YtenlcdokaadobaaGreatDoor
