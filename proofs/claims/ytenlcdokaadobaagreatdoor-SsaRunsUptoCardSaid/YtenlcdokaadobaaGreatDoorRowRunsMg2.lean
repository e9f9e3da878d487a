/-
  Maps against nil; a new key by its entry; sums that wrap; arrays of two; literals of maps. Conditions: none.
  Plans as in the fifteenth part, with one of three. Conditions: none.
  What is known of this seat's types and functions, for the frame. Printed by a program. Conditions: none.
  Graphs as they lie in memory; sets, or nil; rows. Conditions: none.
  Graphs that may be, exactly (plain). Conditions: none.
  What graphs come to (plain): values, a step that calls nothing. Conditions: none.
  What graphs come to (plain): the machine, step by step. Conditions: none.
  Values whose type is told with them: made, asked for their type, held against nil; texts one behind the other. Conditions: none.
  What is made once and then only read (frozen); values, what is written, as they lie in memory. Conditions: none.
-/
import Derived.Test.YtenlcdokaadobaaGreatDoorRowRunsMg1
import Derived.Test.YtenlcdokaadobaaGreatDoorRows
namespace Go.Fw
open Go Go.RowKit
set_option linter.unusedVariables false
class TAr (P:Program) (t:TypeId) (n:outParam Nat) (e:outParam TypeId):Prop where
  eq:P.underlying t=some (.array n e)
def xM (b:Nat) (ks:List Int) (k:Int) (c:Nat):It where
  sat w F:=∃el,el.map (·.1)=ks∧ElK el c∧k ∉ ks∧(blk b (.map ((el.map mkK++[(k,Value.bool false,c)]).map mkE).toArray (c+1))).sat w F
  loc:=by
    rintro w w' F ⟨el,h1,h2,h3,h4⟩ he
    exact ⟨el,h1,h2,h3,(blk b _).loc h4 he⟩
  lt:=by
    rintro w F ⟨el,h1,h2,h3,h4⟩
    exact (blk b _).lt h4
  ext:=by
    rintro w F F' ⟨el,h1,h2,h3,h4⟩ he
    exact ⟨el,h1,h2,h3,(blk b _).ext h4 he⟩
theorem born_new {es:List (Int × Value × Nat)} {k:Int} {v:Value} {c:Nat} (hlt:∀e∈es,e.2.2<c):((es++[(k,v,c)]).map mkE).toArray.findIdx? (fun e=>(e.born:Int) == (c:Int))=some es.length:=by
  rw [Array.findIdx?_eq_some_iff_getElem]
  refine ⟨by simp,by simp [mkE],fun j hj=>?_⟩
  have h1:j<es.length:=hj
  have h2:=hlt es[j] (List.getElem_mem h1)
  simp only [List.map_append,List.getElem_toArray]
  rw [List.getElem_append_left (by simpa using h1)]
  simp only [List.getElem_map,mkE,beq_iff_eq]
  omega
section
variable {P:Program} {N:Nat} {l:List (Nat × Value)} {a:Act} {C:World→Prop} {d:Option Tmp} {T:TypeId} {pos:String} {af:Array Edge} {g:Option (Nat × Bool)}
theorem jN {t k e ty:TypeId} {x y:Operand} {m:Option Nat} [h:TMp P t k e] (hx:ev l x=some (.map m)) (hy:ev l y=some (.map none)):Ex P N l C ⟨d,.binOp .eql t x y ty,T,pos,af,g⟩ (.bool m.isNone):=by
  intro a w hA _
  simp [execOp,hA.ev hx,hA.ev hy,eqGuard_at_map,binOp,run_equal_map_nil w t k e m h.eq]
theorem jM {t k e ty:TypeId} {x y:Operand} [h:TMp P t k e] (hx:ev l x=some (.map none)) (hy:ev l y=some (.map none)):Ex P N l C ⟨d,.binOp .eql t x y ty,T,pos,af,g⟩ (.bool true):=jN (h:=h) hx hy
theorem jO {t k e ty:TypeId} {x y:Operand} {b:Nat} [h:TMp P t k e] (hx:ev l x=some (.map (some b))) (hy:ev l y=some (.map none)):Ex P N l C ⟨d,.binOp .eql t x y ty,T,pos,af,g⟩ (.bool false):=jN (h:=h) hx hy
theorem ex_addW {t ty:TypeId} {x y:Operand} {m n:Int} (hx:ev l x=some (.int .i64 m)) (hy:ev l y=some (.int .i64 n)):Ex P N l C ⟨d,.binOp .add t x y ty,T,pos,af,g⟩ (.int .i64 (IntKind.i64.wrap (m+n))):=by
  intro a w hA _
  simp only [execOp,hA.ev hx,hA.ev hy,eqGuard_at_int,binOp_add]
  simp [Op.intArith]
theorem op_entryK {t kt e sz by_ b:Nat} {kk:IntKind} {zs:List Value} {x y:Operand} {ks:List Int} {k:Int} {w0 w:World} {M:Nat→Prop} {H:List It} [ht:TMp P t kt e] [hk:TIn P kt kk] [hi:TIf P e (.bool false) zs sz by_]
    (hx:ev l x=some (.map (some b))) (hy:ev l y=some (.int .i64 k)) (hH:HS w0 M (sk b ks::H) w) (hn:k ∉ ks) :
    Op1 P N l ⟨d,.mapEntry t x y,T,pos,af,g⟩ w (fun v w'=>∃c:Nat,v= .tuple #[.bool false,.int .i64 c]∧HS w0 M (xM b ks k c::H) w'):=by
  intro a hA K Q hK
  obtain ⟨F,es,clock,h1,hok,h3,h4⟩:=hH.sat (it:=sk b ks) (.head _)
  obtain ⟨el,rfl,h5⟩:=dG ks es h1
  obtain ⟨ti,g3,g4,g5,g6⟩:=hi.eq
  have hf:fnd k (el.map mkK) 0=none:=by
    cases hf:fnd k (el.map mkK) 0 with
    |none=>rfl
    | some q=>
      obtain ⟨j,v0⟩:=q
      obtain ⟨_,born,hj⟩:=nU k _ 0 j v0 hf
      obtain ⟨e',he',h6⟩:=List.mem_map.1 (List.mem_of_getElem? hj)
      refine absurd ?_ hn
      rw [←h5]
      refine List.mem_map.2 ⟨e',he',?_⟩
      have:=congrArg Prod.fst h6
      exact this
  unfold Oper.wp
  simp only [execOp,hA.ev hx,hA.ev hy,Instr.mapEntry,Sem.run_bind,run_underlying ht.eq,Result.andThen_ok,wK h4,tL,sE,hf]
  have hpush:(((el.map mkK).map mkE).toArray.push {key:=.int .i64 k,val:=.bool false,born:=clock})=((el.map mkK++[(k,Value.bool false,clock)]).map mkE).toArray:=by simp [mkE]
  simp only [zeroValue,typeInfo,Sem.run_bind,Sem.run_pure,Result.andThen_ok,run_program,g3,g4,vF h4,hpush,Oper.upon]
  have hok':ElK el clock:=⟨by simpa [mkK,Function.comp_def] using hok.keys,by simpa [mkK,Function.comp_def] using hok.borns,fun e he=>hok.lt (mkK e) (List.mem_map.2 ⟨e,he,rfl⟩)⟩
  refine hK _ _ ⟨clock,rfl,hH.turn .here fun F' hF'=>?_⟩
  obtain ⟨_,_,_,_,hF1,_⟩:=hF'
  exact ⟨uU ((hF1 b).2 rfl),F',⟨el,h5,hok',hn,hF1,uV h4⟩,fun b hb=>.inr hb⟩
theorem bL {t b c:Nat} {x y z:Operand} {ks:List Int} {k:Int} {w0 w:World} {M:Nat→Prop} {H:List It}
    (hx:ev l x=some (.map (some b))) (hy:ev l y=some (.int .i64 c)) (hz:ev l z=some (.bool true)) (hH:HS w0 M (xM b ks k c::H) w) :
    Op1 P N l ⟨d,.entryStore t x y z,T,pos,af,g⟩ w (fun v w'=>HS w0 M (sk b (ks++[k])::H) w'):=by
  intro a hA K Q hK
  obtain ⟨F,el,h5,hok,hn,h3,h4⟩:=hH.sat (it:=xM b ks k c) (.head _)
  have hes:=hok.es
  have hb:=born_new (k:=k) (v:=.bool false) (c:=c) (es:=el.map mkK) hes.lt
  unfold Oper.wp
  simp only [execOp,hA.ev hx,hA.ev hy,hA.ev hz,Instr.entryStore,asInt,asIntOf,Sem.run_bind,Sem.run_pure,Result.andThen_ok,wK h4,hb,vF h4,Oper.upon]
  have hmod:(((el.map mkK++[(k,Value.bool false,c)]).map mkE).toArray.modify (el.map mkK).length fun e=>{e with val:=.bool true})=(((el++[(k,c)]).map mkK).map mkE).toArray:=by
    apply Array.ext'
    simp only [Array.toList_modify]
    apply List.ext_getElem?
    intro i
    simp only [List.getElem?_modify,List.map_append,List.map_cons,List.map_nil]
    rcases Nat.lt_trichotomy i el.length with h|h|h
    · rw [List.getElem?_append_left (by simpa using h),List.getElem?_append_left (by simpa using h)]
      have h1:¬el.length=i:=by omega
      simp [h1]
    · subst h
      simp [mkK,mkE]
    · rw [List.getElem?_eq_none_iff.2 (by simp;omega),List.getElem?_eq_none_iff.2 (by simp;omega)]
      rfl
  simp only [hmod]
  refine hK _ _ (hH.turn .here fun F' hF'=>?_)
  obtain ⟨el',h5',hok'',hn',hF1,hF2⟩:=hF'
  refine ⟨uU ((hF1 b).2 rfl),F',⟨(el++[(k,c)]).map mkK,c+1,?_,⟨?_,?_,?_⟩,hF1,uV h4⟩,fun b hb=>.inr hb⟩
  · rw [←h5]
    simp [nZ,mkK,Function.comp_def]
  · have:((el++[(k,c)]).map mkK).map (·.1)=ks++[k]:=by rw [←h5];simp [mkK,Function.comp_def]
    rw [this]
    refine List.nodup_append.2 ⟨h5▸hok.keys,by simp,fun x hx y hy=>?_⟩
    simp at hy;subst hy
    exact fun e=>hn (e▸hx)
  · have:((el++[(k,c)]).map mkK).map (·.2.2)=el.map (·.2)++[c]:=by simp [mkK,Function.comp_def]
    rw [this]
    refine List.nodup_append.2 ⟨hok.borns,by simp,fun x hx y hy=>?_⟩
    simp at hy;subst hy
    obtain ⟨e,he,rfl⟩:=List.mem_map.1 hx
    exact Nat.ne_of_lt (hok.lt e he)
  · intro e he
    obtain ⟨e',he',rfl⟩:=List.mem_map.1 he
    rcases List.mem_append.1 he' with h|h
    · have:=hok.lt e' h
      show e'.2<c+1
      omega
    · simp at h;subst h
      exact Nat.lt_succ_self _
theorem vC {t kt e b:Nat} {kk:IntKind} {x y z:Operand} {m:List (Int × Value)} {k:Int} {v:Value} {w0 w:World} {M:Nat→Prop} {H H':List It} [ht:TMp P t kt e] [hk:TIn P kt kk]
    (hx:ev l x=some (.map (some b))) (hy:ev l y=some (.int .i64 k)) (hz:ev l z=some v) (hH:HS w0 M H w) (hr:Rp H (mp b m) (mp b (mset m k v)) H') :
    Op1 P N l ⟨d,.insert t x y z,T,pos,af,g⟩ w (fun _ w'=>HS w0 M H' w'):=by
  intro a hA K Q hK
  have h:=uF (P:=P) (N:=N) (d:=d) (T:=T) (pos:=pos) (af:=af) (g:=g) (t:=t) hx hy hz hH hr a hA K Q hK
  exact h
theorem ex_build2 {t e by_:Nat} {z ze u v:Value} {zs zse:List Value} {x y:Operand} {bye:Nat} [ha:TAr P t 2 e] [hi:TIf P t z zs 2 by_] [he:TIf P e ze zse 1 bye] (hx:ev l x=some u) (hy:ev l y=some v) (hz:zs.length=2) (h1:u.oneCell'=true) (h2:v.oneCell'=true) :
    Ex P N l C ⟨d,.build t #[(0,x),(1,y)],T,pos,af,g⟩ (.agg #[u,v]):=by
  intro a w hA hC
  obtain ⟨ti,g3,g4,g5,g6⟩:=hi.eq
  obtain ⟨te,e3,e4,e5,e6⟩:=he.eq
  have hzs:z.cells=zs.toArray:=by rw [←hi.zc]
  obtain ⟨q0,q1,hq⟩:∃q0 q1,zs=[q0,q1]:=by
    match zs,hz with
    | [q0,q1],_=>exact ⟨q0,q1,rfl⟩
  have hu:u.cells=#[u]:=by cases u<;>first|rfl|cases h1
  have hv:v.cells=#[v]:=by cases v<;>first|rfl|cases h2
  simp [execOp,Instr.build,zeroValue,typeInfo,sizeOf,g3,g4,e3,e5,run_underlying ha.eq,hA.ev hx,hA.ev hy,hzs,hq,Instr.fill,hu,hv]
theorem aQ {t e n sz by_ i b j:Nat} {z:Value} {zs:List Value} {k:IntKind} {x ix:Operand} [ht:TAr P t n e] [hi:TIf P e z zs sz by_] (hx:ev l x=some (.pointer (some (bat b j)))) (hix:ev l ix=some (.int k (i:Int))) (h1:i<n) :
    Ex P N l C ⟨d,.indexAddr t x ix,T,pos,af,g⟩ (.pointer (some (bat b (j+i*sz)))):=by
  intro a w hA _
  obtain ⟨ti,h3,h4,h5,h6⟩:=hi.eq
  simp [execOp,hA.ev hx,hA.ev hix,Instr.indexAt,asIntOf,run_underlying ht.eq,sizeOf,typeInfo,h3,h5,h1,Instr.sureAddr,bat,Addr.add]
end
inductive Pl3 where
  |nil
  |q (i:Nat) (t:Pl3)
  |one (i:Nat) (t:Pl3)
  |two (i j:Nat) (t u:Pl3)
  |three (i j k:Nat) (t u v:Pl3)
def Pl3.len:Pl3→Nat
  | .nil=>0
  | .q _ t=>t.len+1
  | .one _ t=>t.len+1
  | .two _ _ t _=>t.len+1
  | .three _ _ _ t _ _=>t.len+1
def qs3:List Nat→Pl3→Pl3
  | [],t=>t
  |i::l,t=>.q i (qs3 l t)
def mM (ops:Array Oper):Pl3→Array Bool→Bool
  | .nil,listed=>decide (Region.ready .any ops listed=[])
  | .q i t,listed=>(Region.ready .any ops listed).contains i && Region.free .any ops listed i && mM ops t (listed.setIfInBounds i true)
  | .one i t,listed=>decide (Region.ready .any ops listed=[i]) && mM ops t (listed.setIfInBounds i true)
  | .two i j t u,listed=>Nat.beq t.len u.len && decide (Region.ready .any ops listed=[i,j]) && mM ops t (listed.setIfInBounds i true) && mM ops u (listed.setIfInBounds j true)
  | .three i j k t u v,listed=>Nat.beq t.len u.len && Nat.beq t.len v.len && decide (Region.ready .any ops listed=[i,j,k]) && mM ops t (listed.setIfInBounds i true) && mM ops u (listed.setIfInBounds j true) && mM ops v (listed.setIfInBounds k true)
def tJ (P:Program) (ops:Array Oper) (S:World→Prop) (Q:Exit→Act→World→Prop) (K:Act→World→Prop):Pl3→Act→World→Prop
  | .nil,a,w=>K a w
  | .q i t,a,w=>∃o v,ops[i]?=some o∧YieldsIf P ops S o v a∧tJ P ops S Q K t (a.put o.dst v) w
  | .one i t,a,w=>wpOp P ops (NoPanic Q) i (fun a' w'=>S w'∧tJ P ops S Q K t a' w') a w
  | .two i j t u,a,w=>wpOp P ops (NoPanic Q) i (fun a' w'=>S w'∧tJ P ops S Q K t a' w') a w∧wpOp P ops (NoPanic Q) j (fun a' w'=>S w'∧tJ P ops S Q K u a' w') a w
  | .three i j k t u v,a,w=>wpOp P ops (NoPanic Q) i (fun a' w'=>S w'∧tJ P ops S Q K t a' w') a w∧wpOp P ops (NoPanic Q) j (fun a' w'=>S w'∧tJ P ops S Q K u a' w') a w∧wpOp P ops (NoPanic Q) k (fun a' w'=>S w'∧tJ P ops S Q K v a' w') a w
section
variable {P:Program} {ops:Array Oper} {S:World→Prop} {Q:Exit→Act→World→Prop} {K:Act→World→Prop}
theorem tE (hs:Region.noSelect ops=true) (hK:∀a w,K a w→Q .normal a w):∀(t:Pl3) (listed:Array Bool) (a:Act) (w:World),
    mM ops t listed=true→S w→tJ P ops S Q K t a w→wpAnyK P .any ops (NoPanic Q) S (fun _=>true) t.len listed a w
  | .nil,listed,a,w,hok,hS,h=>⟨of_decide_eq_true hok,hK a w h⟩
  | .q i t,listed,a,w,hok,hS,h=>by
    simp only [mM,Bool.and_eq_true] at hok
    obtain ⟨⟨hr,hf⟩,hok'⟩:=hok
    obtain ⟨o,v,hi,hy,hk⟩:=h
    exact wpAnyK.first hi (Region.noSelect_spec hs) (fun c a w h=>h) _ listed a w (fun j hF=>by cases hF) (Region.free_spec hi hf) (by simpa using hr) hy hS (tE hs hK t _ _ w hok' hS hk)
  | .one i t,listed,a,w,hok,hS,h=>by
    simp only [mM,Bool.and_eq_true,decide_eq_true_eq] at hok
    refine ⟨fun h0=>(by rw [hok.1] at h0;cases h0),fun j hj=>?_⟩
    rw [hok.1] at hj
    obtain rfl:j=i:=by simpa using hj
    exact wpOp_mono (fun a' w' ⟨hS',h'⟩=>⟨fun _ _=>hS',tE hs hK t _ a' w' hok.2 hS' h'⟩) h
  | .two i k t u,listed,a,w,hok,hS,h=>by
    simp only [mM,Bool.and_eq_true,decide_eq_true_eq] at hok
    obtain ⟨⟨⟨hl,hr⟩,ht⟩,hu⟩:=hok
    have hl:=Nat.eq_of_beq_eq_true hl
    refine ⟨fun h0=>(by rw [hr] at h0;cases h0),fun j hj=>?_⟩
    rw [hr] at hj
    rcases (by simpa using hj:j=i∨j=k) with rfl|rfl
    · exact wpOp_mono (fun a' w' ⟨hS',h'⟩=>⟨fun _ _=>hS',tE hs hK t _ a' w' ht hS' h'⟩) h.1
    · exact wpOp_mono (fun a' w' ⟨hS',h'⟩=>⟨fun _ _=>hS',by rw [hl];exact tE hs hK u _ a' w' hu hS' h'⟩) h.2
  | .three i k m t u v,listed,a,w,hok,hS,h=>by
    simp only [mM,Bool.and_eq_true,decide_eq_true_eq] at hok
    obtain ⟨⟨⟨⟨⟨hl,hl2⟩,hr⟩,ht⟩,hu⟩,hv⟩:=hok
    have hl:=Nat.eq_of_beq_eq_true hl
    have hl2:=Nat.eq_of_beq_eq_true hl2
    refine ⟨fun h0=>(by rw [hr] at h0;cases h0),fun j hj=>?_⟩
    rw [hr] at hj
    rcases (by simpa using hj:j=i∨j=k∨j=m) with rfl|rfl|rfl
    · exact wpOp_mono (fun a' w' ⟨hS',h'⟩=>⟨fun _ _=>hS',tE hs hK t _ a' w' ht hS' h'⟩) h.1
    · exact wpOp_mono (fun a' w' ⟨hS',h'⟩=>⟨fun _ _=>hS',by rw [hl];exact tE hs hK u _ a' w' hu hS' h'⟩) h.2.1
    · exact wpOp_mono (fun a' w' ⟨hS',h'⟩=>⟨fun _ _=>hS',by rw [hl2];exact tE hs hK v _ a' w' hv hS' h'⟩) h.2.2
end
theorem wp_drawT3 {P:Program} {id:Nat} {ops:List Oper} {Q:Exit→Act→World→Prop} {a:Act} {w0 w:World} {M:Nat→Prop} {H:List It} (t:Pl3) (R:Act→World→Prop) (hm:P.follows .mixedOrders=true)
    (hok:(Region.noSelect ops.toArray && Nat.beq t.len ops.length && mM ops.toArray t (Array.replicate ops.length false))=true) (hH:HS w0 M H w)
    (h:tJ P ops.toArray (HS w0 M H) Q R t a w.drew) (k:∀a w,R a w→Q .normal a w):(Code.region id ops.toArray true).wp P Q a w:=by
  simp only [Bool.and_eq_true] at hok
  obtain ⟨⟨hs,hl⟩,hok⟩:=hok
  have hl':t.len=ops.toArray.size:=by simpa using Nat.eq_of_beq_eq_true hl
  have:=tE (P:=P) (Q:=Q) hs k t _ a w.drew hok hH.drew h
  rw [hl'] at this
  refine wp_region_noPanic (wp_region_any hm (wpAnyK.any (S:=HS w0 M H) (F:=fun _=>true) _ _ _ _ ?_))
  simpa using this
section
variable {P:Program} {N:Nat} {l:List (Nat × Value)} {a:Act} {Ds:List Deferred} {w:World} {ops:Array Oper} {S:World→Prop} {Q:Exit→Act→World→Prop} {K:Act→World→Prop} {i j m:Nat} {t u v:Pl3}
theorem d3_ex {o:Oper} {d:Nat} {v:Value} (hA:Sl N l a Ds) (hi:ops[i]?=some o) (hg:gd ops l o.guard=some true) (hd:o.dst=some d) (hdN:d<N)
    (h:Ex P N l S o v) (k':∀a',Sl N ((d,v)::l) a' Ds→tJ P ops S Q K t a' w):tJ P ops S Q K (.q i t) a w:=by
  refine ⟨o,v,hi,.inl ⟨hA.gd hg,fun w' hS=>h a w' hA.toSl0 hS⟩,?_⟩
  rw [hd]
  exact k' _ (hA.put hdN v)
theorem d3_op {o:Oper} {d:Nat} {R:Value→World→Prop} (hA:Sl N l a Ds) (hi:ops[i]?=some o) (hg:gd ops l o.guard=some true) (hd:o.dst=some d) (hdN:d<N)
    (h:Op1 P N l o w R) (k:∀v w',R v w'→S w'∧∀a',Sl N ((d,v)::l) a' Ds→tJ P ops S Q K t a' w'):tJ P ops S Q K (.one i t) a w:=by
  unfold tJ wpOp
  simp only [hi,hA.gd hg,if_true]
  refine .inl (h a hA.toSl0 _ _ fun v w' hR=>?_)
  rw [hd]
  exact ⟨(k v w' hR).1,(k v w' hR).2 _ (hA.put hdN v)⟩
theorem d3_op0 {o:Oper} {R:Value→World→Prop} (hA:Sl N l a Ds) (hi:ops[i]?=some o) (hg:gd ops l o.guard=some true) (hd:o.dst=none)
    (h:Op1 P N l o w R) (k:∀v w',R v w'→S w'∧tJ P ops S Q K t a w'):tJ P ops S Q K (.one i t) a w:=by
  unfold tJ wpOp
  simp only [hi,hA.gd hg,if_true]
  refine .inl (h a hA.toSl0 _ _ fun v w' hR=>?_)
  rw [hd]
  exact k v w' hR
theorem d3_two (h1:tJ P ops S Q K (.one i t) a w) (h2:tJ P ops S Q K (.one j u) a w):tJ P ops S Q K (.two i j t u) a w:=⟨h1,h2⟩
theorem d3_three (h1:tJ P ops S Q K (.one i t) a w) (h2:tJ P ops S Q K (.one j u) a w) (h3:tJ P ops S Q K (.one m v) a w):tJ P ops S Q K (.three i j m t u v) a w:=⟨h1,h2,h3⟩
end
end Go.Fw
namespace Go.Proofs.YtenlcdokaadobaaGreatDoor
open Go Go.Fw
set_option maxRecDepth 100000
instance:TSc Tryz.prog 1:=⟨_,Tryz.underlying1,rfl⟩
instance:TIf Tryz.prog 1 .nilFunc [.nilFunc] 1 8:=⟨⟨Tryz.t1,rfl,rfl,rfl,rfl⟩,rfl⟩
instance:TSc Tryz.prog 2:=⟨_,Tryz.underlying2,rfl⟩
instance:TIn Tryz.prog 2 .i64:=⟨Tryz.underlying2⟩
instance:TIf Tryz.prog 2 (.int .i64 0) [(.int .i64 0)] 1 8:=⟨⟨Tryz.t2,rfl,rfl,rfl,rfl⟩,rfl⟩
instance:TSc Tryz.prog 3:=⟨_,Tryz.underlying3,rfl⟩
instance:TIn Tryz.prog 3 .i64:=⟨Tryz.underlying3⟩
instance:TIf Tryz.prog 3 (.int .i64 0) [(.int .i64 0)] 1 8:=⟨⟨Tryz.t3,rfl,rfl,rfl,rfl⟩,rfl⟩
instance:TSc Tryz.prog 4:=⟨_,Tryz.underlying4,rfl⟩
instance:TBo Tryz.prog 4:=⟨Tryz.underlying4⟩
instance:TIf Tryz.prog 4 (.bool false) [(.bool false)] 1 1:=⟨⟨Tryz.t4,rfl,rfl,rfl,rfl⟩,rfl⟩
instance:TSc Tryz.prog 5:=⟨_,Tryz.underlying5,rfl⟩
instance:TIn Tryz.prog 5 .u8:=⟨Tryz.underlying5⟩
instance:TIf Tryz.prog 5 (.int .u8 0) [(.int .u8 0)] 1 1:=⟨⟨Tryz.t5,rfl,rfl,rfl,rfl⟩,rfl⟩
instance:TSc Tryz.prog 6:=⟨_,Tryz.underlying6,rfl⟩
instance:TIn Tryz.prog 6 .u8:=⟨Tryz.underlying6⟩
instance:TIf Tryz.prog 6 (.int .u8 0) [(.int .u8 0)] 1 1:=⟨⟨Tryz.t6,rfl,rfl,rfl,rfl⟩,rfl⟩
instance:TSt Tryz.prog 7 [(2,0),(3,1),(4,2),(6,3)]:=⟨⟨_,Tryz.underlying7,rfl⟩,List.forall_mem_cons.2 ⟨⟨Tryz.t2,rfl,by decide⟩,List.forall_mem_cons.2 ⟨⟨Tryz.t3,rfl,by decide⟩,List.forall_mem_cons.2 ⟨⟨Tryz.t4,rfl,by decide⟩,List.forall_mem_cons.2 ⟨⟨Tryz.t6,rfl,by decide⟩,nofun⟩⟩⟩⟩⟩
instance:TIf Tryz.prog 7 (.agg #[(.int .i64 0),(.int .i64 0),(.bool false),(.int .u8 0)]) [(.int .i64 0),(.int .i64 0),(.bool false),(.int .u8 0)] 4 24:=⟨⟨Tryz.t7,rfl,rfl,rfl,rfl⟩,rfl⟩
instance:TSt Tryz.prog 8 [(2,0),(3,1),(4,2),(6,3)]:=⟨⟨_,Tryz.underlying8,rfl⟩,List.forall_mem_cons.2 ⟨⟨Tryz.t2,rfl,by decide⟩,List.forall_mem_cons.2 ⟨⟨Tryz.t3,rfl,by decide⟩,List.forall_mem_cons.2 ⟨⟨Tryz.t4,rfl,by decide⟩,List.forall_mem_cons.2 ⟨⟨Tryz.t6,rfl,by decide⟩,nofun⟩⟩⟩⟩⟩
instance:TIf Tryz.prog 8 (.agg #[(.int .i64 0),(.int .i64 0),(.bool false),(.int .u8 0)]) [(.int .i64 0),(.int .i64 0),(.bool false),(.int .u8 0)] 4 24:=⟨⟨Tryz.t8,rfl,rfl,rfl,rfl⟩,rfl⟩
instance:TSc Tryz.prog 9:=⟨_,Tryz.underlying9,rfl⟩
instance:TSr Tryz.prog 9:=⟨Tryz.underlying9⟩
instance:TIf Tryz.prog 9 (.string ByteArray.empty) [(.string ByteArray.empty)] 1 16:=⟨⟨Tryz.t9,rfl,rfl,rfl,rfl⟩,rfl⟩
instance:TSc Tryz.prog 10:=⟨_,Tryz.underlying10,rfl⟩
instance:TSr Tryz.prog 10:=⟨Tryz.underlying10⟩
instance:TIf Tryz.prog 10 (.string ByteArray.empty) [(.string ByteArray.empty)] 1 16:=⟨⟨Tryz.t10,rfl,rfl,rfl,rfl⟩,rfl⟩
instance:TSc Tryz.prog 11:=⟨_,Tryz.underlying11,rfl⟩
instance:TSr Tryz.prog 11:=⟨Tryz.underlying11⟩
instance:TIf Tryz.prog 11 (.string ByteArray.empty) [(.string ByteArray.empty)] 1 16:=⟨⟨Tryz.t11,rfl,rfl,rfl,rfl⟩,rfl⟩
instance:TSc Tryz.prog 12:=⟨_,Tryz.underlying12,rfl⟩
instance:TIn Tryz.prog 12 .u64:=⟨Tryz.underlying12⟩
instance:TIf Tryz.prog 12 (.int .u64 0) [(.int .u64 0)] 1 8:=⟨⟨Tryz.t12,rfl,rfl,rfl,rfl⟩,rfl⟩
instance:TSt Tryz.prog 13 [(9,0),(12,1)]:=⟨⟨_,Tryz.underlying13,rfl⟩,List.forall_mem_cons.2 ⟨⟨Tryz.t9,rfl,by decide⟩,List.forall_mem_cons.2 ⟨⟨Tryz.t12,rfl,by decide⟩,nofun⟩⟩⟩
instance:TIf Tryz.prog 13 (.agg #[(.string ByteArray.empty),(.int .u64 0)]) [(.string ByteArray.empty),(.int .u64 0)] 2 24:=⟨⟨Tryz.t13,rfl,rfl,rfl,rfl⟩,rfl⟩
instance:TSt Tryz.prog 14 [(9,0),(12,1)]:=⟨⟨_,Tryz.underlying14,rfl⟩,List.forall_mem_cons.2 ⟨⟨Tryz.t9,rfl,by decide⟩,List.forall_mem_cons.2 ⟨⟨Tryz.t12,rfl,by decide⟩,nofun⟩⟩⟩
instance:TIf Tryz.prog 14 (.agg #[(.string ByteArray.empty),(.int .u64 0)]) [(.string ByteArray.empty),(.int .u64 0)] 2 24:=⟨⟨Tryz.t14,rfl,rfl,rfl,rfl⟩,rfl⟩
instance:TSc Tryz.prog 15:=⟨_,Tryz.underlying15,rfl⟩
instance:TPt Tryz.prog 15:=⟨by unfold Program.pointee;rw [Tryz.underlying15]⟩
instance:TIf Tryz.prog 15 (.pointer none) [(.pointer none)] 1 8:=⟨⟨Tryz.t15,rfl,rfl,rfl,rfl⟩,rfl⟩
instance:TSc Tryz.prog 16:=⟨_,Tryz.underlying16,rfl⟩
instance:TPt Tryz.prog 16:=⟨by unfold Program.pointee;rw [Tryz.underlying16]⟩
instance:TIf Tryz.prog 16 (.pointer none) [(.pointer none)] 1 8:=⟨⟨Tryz.t16,rfl,rfl,rfl,rfl⟩,rfl⟩
instance:TSc Tryz.prog 20:=⟨_,Tryz.underlying20,rfl⟩
instance:TIf Tryz.prog 20 .nilIface [.nilIface] 1 16:=⟨⟨Tryz.t20,rfl,rfl,rfl,rfl⟩,rfl⟩
instance:TSc Tryz.prog 21:=⟨_,Tryz.underlying21,rfl⟩
instance:TIn Tryz.prog 21 .i32:=⟨Tryz.underlying21⟩
instance:TIf Tryz.prog 21 (.int .i32 0) [(.int .i32 0)] 1 4:=⟨⟨Tryz.t21,rfl,rfl,rfl,rfl⟩,rfl⟩
instance:TSc Tryz.prog 22:=⟨_,Tryz.underlying22,rfl⟩
instance:TSl Tryz.prog 22 44:=⟨Tryz.underlying22⟩
instance:TIf Tryz.prog 22 (.slice none 0 0) [(.slice none 0 0)] 1 24:=⟨⟨Tryz.t22,rfl,rfl,rfl,rfl⟩,rfl⟩
instance:TSc Tryz.prog 23:=⟨_,Tryz.underlying23,rfl⟩
instance:TSl Tryz.prog 23 9:=⟨Tryz.underlying23⟩
instance:TIf Tryz.prog 23 (.slice none 0 0) [(.slice none 0 0)] 1 24:=⟨⟨Tryz.t23,rfl,rfl,rfl,rfl⟩,rfl⟩
instance:TSt Tryz.prog 25 [(22,0),(23,1),(23,2),(23,3),(23,4)]:=⟨⟨_,Tryz.underlying25,rfl⟩,List.forall_mem_cons.2 ⟨⟨Tryz.t22,rfl,by decide⟩,List.forall_mem_cons.2 ⟨⟨Tryz.t23,rfl,by decide⟩,List.forall_mem_cons.2 ⟨⟨Tryz.t23,rfl,by decide⟩,List.forall_mem_cons.2 ⟨⟨Tryz.t23,rfl,by decide⟩,List.forall_mem_cons.2 ⟨⟨Tryz.t23,rfl,by decide⟩,nofun⟩⟩⟩⟩⟩⟩
instance:TIf Tryz.prog 25 (.agg #[(.slice none 0 0),(.slice none 0 0),(.slice none 0 0),(.slice none 0 0),(.slice none 0 0)]) [(.slice none 0 0),(.slice none 0 0),(.slice none 0 0),(.slice none 0 0),(.slice none 0 0)] 5 120:=⟨⟨Tryz.t25,rfl,rfl,rfl,rfl⟩,rfl⟩
instance:TSt Tryz.prog 29 [(3,0),(9,1),(9,2)]:=⟨⟨_,Tryz.underlying29,rfl⟩,List.forall_mem_cons.2 ⟨⟨Tryz.t3,rfl,by decide⟩,List.forall_mem_cons.2 ⟨⟨Tryz.t9,rfl,by decide⟩,List.forall_mem_cons.2 ⟨⟨Tryz.t9,rfl,by decide⟩,nofun⟩⟩⟩⟩
instance:TIf Tryz.prog 29 (.agg #[(.int .i64 0),(.string ByteArray.empty),(.string ByteArray.empty)]) [(.int .i64 0),(.string ByteArray.empty),(.string ByteArray.empty)] 3 40:=⟨⟨Tryz.t29,rfl,rfl,rfl,rfl⟩,rfl⟩
instance:TSc Tryz.prog 32:=⟨_,Tryz.underlying32,rfl⟩
instance:TSl Tryz.prog 32 72:=⟨Tryz.underlying32⟩
instance:TIf Tryz.prog 32 (.slice none 0 0) [(.slice none 0 0)] 1 24:=⟨⟨Tryz.t32,rfl,rfl,rfl,rfl⟩,rfl⟩
instance:TSt Tryz.prog 34 [(32,0),(23,1),(23,2),(23,3),(23,4)]:=⟨⟨_,Tryz.underlying34,rfl⟩,List.forall_mem_cons.2 ⟨⟨Tryz.t32,rfl,by decide⟩,List.forall_mem_cons.2 ⟨⟨Tryz.t23,rfl,by decide⟩,List.forall_mem_cons.2 ⟨⟨Tryz.t23,rfl,by decide⟩,List.forall_mem_cons.2 ⟨⟨Tryz.t23,rfl,by decide⟩,List.forall_mem_cons.2 ⟨⟨Tryz.t23,rfl,by decide⟩,nofun⟩⟩⟩⟩⟩⟩
instance:TIf Tryz.prog 34 (.agg #[(.slice none 0 0),(.slice none 0 0),(.slice none 0 0),(.slice none 0 0),(.slice none 0 0)]) [(.slice none 0 0),(.slice none 0 0),(.slice none 0 0),(.slice none 0 0),(.slice none 0 0)] 5 120:=⟨⟨Tryz.t34,rfl,rfl,rfl,rfl⟩,rfl⟩
instance:TSc Tryz.prog 36:=⟨_,Tryz.underlying36,rfl⟩
instance:TIn Tryz.prog 36 .i64:=⟨Tryz.underlying36⟩
instance:TIf Tryz.prog 36 (.int .i64 0) [(.int .i64 0)] 1 8:=⟨⟨Tryz.t36,rfl,rfl,rfl,rfl⟩,rfl⟩
instance:TSc Tryz.prog 42:=⟨_,Tryz.underlying42,rfl⟩
instance:TSl Tryz.prog 42 53:=⟨Tryz.underlying42⟩
instance:TIf Tryz.prog 42 (.slice none 0 0) [(.slice none 0 0)] 1 24:=⟨⟨Tryz.t42,rfl,rfl,rfl,rfl⟩,rfl⟩
instance:TSt Tryz.prog 44 [(3,0),(42,1)]:=⟨⟨_,Tryz.underlying44,rfl⟩,List.forall_mem_cons.2 ⟨⟨Tryz.t3,rfl,by decide⟩,List.forall_mem_cons.2 ⟨⟨Tryz.t42,rfl,by decide⟩,nofun⟩⟩⟩
instance:TIf Tryz.prog 44 (.agg #[(.int .i64 0),(.slice none 0 0)]) [(.int .i64 0),(.slice none 0 0)] 2 32:=⟨⟨Tryz.t44,rfl,rfl,rfl,rfl⟩,rfl⟩
instance:TSc Tryz.prog 45:=⟨_,Tryz.underlying45,rfl⟩
instance:TSl Tryz.prog 45 3:=⟨Tryz.underlying45⟩
instance:TIf Tryz.prog 45 (.slice none 0 0) [(.slice none 0 0)] 1 24:=⟨⟨Tryz.t45,rfl,rfl,rfl,rfl⟩,rfl⟩
instance:TSc Tryz.prog 46:=⟨_,Tryz.underlying46,rfl⟩
instance:TSl Tryz.prog 46 59:=⟨Tryz.underlying46⟩
instance:TIf Tryz.prog 46 (.slice none 0 0) [(.slice none 0 0)] 1 24:=⟨⟨Tryz.t46,rfl,rfl,rfl,rfl⟩,rfl⟩
instance:TSc Tryz.prog 47:=⟨_,Tryz.underlying47,rfl⟩
instance:TSl Tryz.prog 47 65:=⟨Tryz.underlying47⟩
instance:TIf Tryz.prog 47 (.slice none 0 0) [(.slice none 0 0)] 1 24:=⟨⟨Tryz.t47,rfl,rfl,rfl,rfl⟩,rfl⟩
instance:TSc Tryz.prog 48:=⟨_,Tryz.underlying48,rfl⟩
instance:TSl Tryz.prog 48 2:=⟨Tryz.underlying48⟩
instance:TIf Tryz.prog 48 (.slice none 0 0) [(.slice none 0 0)] 1 24:=⟨⟨Tryz.t48,rfl,rfl,rfl,rfl⟩,rfl⟩
instance:TSc Tryz.prog 49:=⟨_,Tryz.underlying49,rfl⟩
instance:TSl Tryz.prog 49 61:=⟨Tryz.underlying49⟩
instance:TIf Tryz.prog 49 (.slice none 0 0) [(.slice none 0 0)] 1 24:=⟨⟨Tryz.t49,rfl,rfl,rfl,rfl⟩,rfl⟩
instance:TSt Tryz.prog 51 [(3,0),(47,1),(48,2),(49,3)]:=⟨⟨_,Tryz.underlying51,rfl⟩,List.forall_mem_cons.2 ⟨⟨Tryz.t3,rfl,by decide⟩,List.forall_mem_cons.2 ⟨⟨Tryz.t47,rfl,by decide⟩,List.forall_mem_cons.2 ⟨⟨Tryz.t48,rfl,by decide⟩,List.forall_mem_cons.2 ⟨⟨Tryz.t49,rfl,by decide⟩,nofun⟩⟩⟩⟩⟩
instance:TIf Tryz.prog 51 (.agg #[(.int .i64 0),(.slice none 0 0),(.slice none 0 0),(.slice none 0 0)]) [(.int .i64 0),(.slice none 0 0),(.slice none 0 0),(.slice none 0 0)] 4 80:=⟨⟨Tryz.t51,rfl,rfl,rfl,rfl⟩,rfl⟩
instance:TSt Tryz.prog 53 [(45,0),(46,1),(51,2)]:=⟨⟨_,Tryz.underlying53,rfl⟩,List.forall_mem_cons.2 ⟨⟨Tryz.t45,rfl,by decide⟩,List.forall_mem_cons.2 ⟨⟨Tryz.t46,rfl,by decide⟩,List.forall_mem_cons.2 ⟨⟨Tryz.t51,rfl,by decide⟩,nofun⟩⟩⟩⟩
instance:TIf Tryz.prog 53 (.agg #[(.slice none 0 0),(.slice none 0 0),(.int .i64 0),(.slice none 0 0),(.slice none 0 0),(.slice none 0 0)]) [(.slice none 0 0),(.slice none 0 0),(.int .i64 0),(.slice none 0 0),(.slice none 0 0),(.slice none 0 0)] 6 128:=⟨⟨Tryz.t53,rfl,rfl,rfl,rfl⟩,rfl⟩
instance:TSt Tryz.prog 57 [(3,0),(2,1),(48,2),(47,3)]:=⟨⟨_,Tryz.underlying57,rfl⟩,List.forall_mem_cons.2 ⟨⟨Tryz.t3,rfl,by decide⟩,List.forall_mem_cons.2 ⟨⟨Tryz.t2,rfl,by decide⟩,List.forall_mem_cons.2 ⟨⟨Tryz.t48,rfl,by decide⟩,List.forall_mem_cons.2 ⟨⟨Tryz.t47,rfl,by decide⟩,nofun⟩⟩⟩⟩⟩
instance:TIf Tryz.prog 57 (.agg #[(.int .i64 0),(.int .i64 0),(.slice none 0 0),(.slice none 0 0)]) [(.int .i64 0),(.int .i64 0),(.slice none 0 0),(.slice none 0 0)] 4 64:=⟨⟨Tryz.t57,rfl,rfl,rfl,rfl⟩,rfl⟩
instance:TSt Tryz.prog 59 [(3,0),(57,1)]:=⟨⟨_,Tryz.underlying59,rfl⟩,List.forall_mem_cons.2 ⟨⟨Tryz.t3,rfl,by decide⟩,List.forall_mem_cons.2 ⟨⟨Tryz.t57,rfl,by decide⟩,nofun⟩⟩⟩
instance:TIf Tryz.prog 59 (.agg #[(.int .i64 0),(.int .i64 0),(.int .i64 0),(.slice none 0 0),(.slice none 0 0)]) [(.int .i64 0),(.int .i64 0),(.int .i64 0),(.slice none 0 0),(.slice none 0 0)] 5 72:=⟨⟨Tryz.t59,rfl,rfl,rfl,rfl⟩,rfl⟩
instance:TSt Tryz.prog 61 [(3,0),(47,1)]:=⟨⟨_,Tryz.underlying61,rfl⟩,List.forall_mem_cons.2 ⟨⟨Tryz.t3,rfl,by decide⟩,List.forall_mem_cons.2 ⟨⟨Tryz.t47,rfl,by decide⟩,nofun⟩⟩⟩
instance:TIf Tryz.prog 61 (.agg #[(.int .i64 0),(.slice none 0 0)]) [(.int .i64 0),(.slice none 0 0)] 2 32:=⟨⟨Tryz.t61,rfl,rfl,rfl,rfl⟩,rfl⟩
instance:TSt Tryz.prog 65 [(3,0),(2,1)]:=⟨⟨_,Tryz.underlying65,rfl⟩,List.forall_mem_cons.2 ⟨⟨Tryz.t3,rfl,by decide⟩,List.forall_mem_cons.2 ⟨⟨Tryz.t2,rfl,by decide⟩,nofun⟩⟩⟩
instance:TIf Tryz.prog 65 (.agg #[(.int .i64 0),(.int .i64 0)]) [(.int .i64 0),(.int .i64 0)] 2 16:=⟨⟨Tryz.t65,rfl,rfl,rfl,rfl⟩,rfl⟩
instance:TSc Tryz.prog 68:=⟨_,Tryz.underlying68,rfl⟩
instance:TSl Tryz.prog 68 70:=⟨Tryz.underlying68⟩
instance:TIf Tryz.prog 68 (.slice none 0 0) [(.slice none 0 0)] 1 24:=⟨⟨Tryz.t68,rfl,rfl,rfl,rfl⟩,rfl⟩
instance:TSt Tryz.prog 70 [(3,0),(3,1),(45,2),(3,3),(48,4),(57,5),(47,9),(68,10)]:=⟨⟨_,Tryz.underlying70,rfl⟩,List.forall_mem_cons.2 ⟨⟨Tryz.t3,rfl,by decide⟩,List.forall_mem_cons.2 ⟨⟨Tryz.t3,rfl,by decide⟩,List.forall_mem_cons.2 ⟨⟨Tryz.t45,rfl,by decide⟩,List.forall_mem_cons.2 ⟨⟨Tryz.t3,rfl,by decide⟩,List.forall_mem_cons.2 ⟨⟨Tryz.t48,rfl,by decide⟩,List.forall_mem_cons.2 ⟨⟨Tryz.t57,rfl,by decide⟩,List.forall_mem_cons.2 ⟨⟨Tryz.t47,rfl,by decide⟩,List.forall_mem_cons.2 ⟨⟨Tryz.t68,rfl,by decide⟩,nofun⟩⟩⟩⟩⟩⟩⟩⟩⟩
instance:TIf Tryz.prog 70 (.agg #[(.int .i64 0),(.int .i64 0),(.slice none 0 0),(.int .i64 0),(.slice none 0 0),(.int .i64 0),(.int .i64 0),(.slice none 0 0),(.slice none 0 0),(.slice none 0 0),(.slice none 0 0)]) [(.int .i64 0),(.int .i64 0),(.slice none 0 0),(.int .i64 0),(.slice none 0 0),(.int .i64 0),(.int .i64 0),(.slice none 0 0),(.slice none 0 0),(.slice none 0 0),(.slice none 0 0)] 11 184:=⟨⟨Tryz.t70,rfl,rfl,rfl,rfl⟩,rfl⟩
instance:TSt Tryz.prog 72 [(3,0),(70,1)]:=⟨⟨_,Tryz.underlying72,rfl⟩,List.forall_mem_cons.2 ⟨⟨Tryz.t3,rfl,by decide⟩,List.forall_mem_cons.2 ⟨⟨Tryz.t70,rfl,by decide⟩,nofun⟩⟩⟩
instance:TIf Tryz.prog 72 (.agg #[(.int .i64 0),(.int .i64 0),(.int .i64 0),(.slice none 0 0),(.int .i64 0),(.slice none 0 0),(.int .i64 0),(.int .i64 0),(.slice none 0 0),(.slice none 0 0),(.slice none 0 0),(.slice none 0 0)]) [(.int .i64 0),(.int .i64 0),(.int .i64 0),(.slice none 0 0),(.int .i64 0),(.slice none 0 0),(.int .i64 0),(.int .i64 0),(.slice none 0 0),(.slice none 0 0),(.slice none 0 0),(.slice none 0 0)] 12 192:=⟨⟨Tryz.t72,rfl,rfl,rfl,rfl⟩,rfl⟩
instance:TSc Tryz.prog 74:=⟨_,Tryz.underlying74,rfl⟩
instance:TPt Tryz.prog 74:=⟨by unfold Program.pointee;rw [Tryz.underlying74]⟩
instance:TIf Tryz.prog 74 (.pointer none) [(.pointer none)] 1 8:=⟨⟨Tryz.t74,rfl,rfl,rfl,rfl⟩,rfl⟩
instance:TSc Tryz.prog 75:=⟨_,Tryz.underlying75,rfl⟩
instance:TSl Tryz.prog 75 5:=⟨Tryz.underlying75⟩
instance:TIf Tryz.prog 75 (.slice none 0 0) [(.slice none 0 0)] 1 24:=⟨⟨Tryz.t75,rfl,rfl,rfl,rfl⟩,rfl⟩
instance:TSt Tryz.prog 77 [(23,0),(23,1),(3,2),(9,3),(75,4)]:=⟨⟨_,Tryz.underlying77,rfl⟩,List.forall_mem_cons.2 ⟨⟨Tryz.t23,rfl,by decide⟩,List.forall_mem_cons.2 ⟨⟨Tryz.t23,rfl,by decide⟩,List.forall_mem_cons.2 ⟨⟨Tryz.t3,rfl,by decide⟩,List.forall_mem_cons.2 ⟨⟨Tryz.t9,rfl,by decide⟩,List.forall_mem_cons.2 ⟨⟨Tryz.t75,rfl,by decide⟩,nofun⟩⟩⟩⟩⟩⟩
instance:TIf Tryz.prog 77 (.agg #[(.slice none 0 0),(.slice none 0 0),(.int .i64 0),(.string ByteArray.empty),(.slice none 0 0)]) [(.slice none 0 0),(.slice none 0 0),(.int .i64 0),(.string ByteArray.empty),(.slice none 0 0)] 5 96:=⟨⟨Tryz.t77,rfl,rfl,rfl,rfl⟩,rfl⟩
instance:TSc Tryz.prog 78:=⟨_,Tryz.underlying78,rfl⟩
instance:TSl Tryz.prog 78 83:=⟨Tryz.underlying78⟩
instance:TIf Tryz.prog 78 (.slice none 0 0) [(.slice none 0 0)] 1 24:=⟨⟨Tryz.t78,rfl,rfl,rfl,rfl⟩,rfl⟩
instance:TSc Tryz.prog 79:=⟨_,Tryz.underlying79,rfl⟩
instance:TPt Tryz.prog 79:=⟨by unfold Program.pointee;rw [Tryz.underlying79]⟩
instance:TIf Tryz.prog 79 (.pointer none) [(.pointer none)] 1 8:=⟨⟨Tryz.t79,rfl,rfl,rfl,rfl⟩,rfl⟩
instance:TSc Tryz.prog 80:=⟨_,Tryz.underlying80,rfl⟩
instance:TMp Tryz.prog 80 3 137:=⟨Tryz.underlying80⟩
instance:TIf Tryz.prog 80 (.map none) [(.map none)] 1 8:=⟨⟨Tryz.t80,rfl,rfl,rfl,rfl⟩,rfl⟩
instance:TSc Tryz.prog 81:=⟨_,Tryz.underlying81,rfl⟩
instance:TPt Tryz.prog 81:=⟨by unfold Program.pointee;rw [Tryz.underlying81]⟩
instance:TIf Tryz.prog 81 (.pointer none) [(.pointer none)] 1 8:=⟨⟨Tryz.t81,rfl,rfl,rfl,rfl⟩,rfl⟩
instance:TSt Tryz.prog 83 [(79,0),(80,1),(81,2),(3,3),(79,4)]:=⟨⟨_,Tryz.underlying83,rfl⟩,List.forall_mem_cons.2 ⟨⟨Tryz.t79,rfl,by decide⟩,List.forall_mem_cons.2 ⟨⟨Tryz.t80,rfl,by decide⟩,List.forall_mem_cons.2 ⟨⟨Tryz.t81,rfl,by decide⟩,List.forall_mem_cons.2 ⟨⟨Tryz.t3,rfl,by decide⟩,List.forall_mem_cons.2 ⟨⟨Tryz.t79,rfl,by decide⟩,nofun⟩⟩⟩⟩⟩⟩
instance:TIf Tryz.prog 83 (.agg #[(.pointer none),(.map none),(.pointer none),(.int .i64 0),(.pointer none)]) [(.pointer none),(.map none),(.pointer none),(.int .i64 0),(.pointer none)] 5 40:=⟨⟨Tryz.t83,rfl,rfl,rfl,rfl⟩,rfl⟩
instance:TSc Tryz.prog 84:=⟨_,Tryz.underlying84,rfl⟩
instance:TPt Tryz.prog 84:=⟨by unfold Program.pointee;rw [Tryz.underlying84]⟩
instance:TIf Tryz.prog 84 (.pointer none) [(.pointer none)] 1 8:=⟨⟨Tryz.t84,rfl,rfl,rfl,rfl⟩,rfl⟩
instance:TSt Tryz.prog 86 [(77,0),(25,5),(2,10),(78,11),(83,12),(84,17)]:=⟨⟨_,Tryz.underlying86,rfl⟩,List.forall_mem_cons.2 ⟨⟨Tryz.t77,rfl,by decide⟩,List.forall_mem_cons.2 ⟨⟨Tryz.t25,rfl,by decide⟩,List.forall_mem_cons.2 ⟨⟨Tryz.t2,rfl,by decide⟩,List.forall_mem_cons.2 ⟨⟨Tryz.t78,rfl,by decide⟩,List.forall_mem_cons.2 ⟨⟨Tryz.t83,rfl,by decide⟩,List.forall_mem_cons.2 ⟨⟨Tryz.t84,rfl,by decide⟩,nofun⟩⟩⟩⟩⟩⟩⟩
instance:TIf Tryz.prog 86 (.agg #[(.slice none 0 0),(.slice none 0 0),(.int .i64 0),(.string ByteArray.empty),(.slice none 0 0),(.slice none 0 0),(.slice none 0 0),(.slice none 0 0),(.slice none 0 0),(.slice none 0 0),(.int .i64 0),(.slice none 0 0),(.pointer none),(.map none),(.pointer none),(.int .i64 0),(.pointer none),(.pointer none)]) [(.slice none 0 0),(.slice none 0 0),(.int .i64 0),(.string ByteArray.empty),(.slice none 0 0),(.slice none 0 0),(.slice none 0 0),(.slice none 0 0),(.slice none 0 0),(.slice none 0 0),(.int .i64 0),(.slice none 0 0),(.pointer none),(.map none),(.pointer none),(.int .i64 0),(.pointer none),(.pointer none)] 18 296:=⟨⟨Tryz.t86,rfl,rfl,rfl,rfl⟩,rfl⟩
instance:TSc Tryz.prog 88:=⟨_,Tryz.underlying88,rfl⟩
instance:TSl Tryz.prog 88 137:=⟨Tryz.underlying88⟩
instance:TIf Tryz.prog 88 (.slice none 0 0) [(.slice none 0 0)] 1 24:=⟨⟨Tryz.t88,rfl,rfl,rfl,rfl⟩,rfl⟩
instance:TSt Tryz.prog 90 [(3,0),(88,1)]:=⟨⟨_,Tryz.underlying90,rfl⟩,List.forall_mem_cons.2 ⟨⟨Tryz.t3,rfl,by decide⟩,List.forall_mem_cons.2 ⟨⟨Tryz.t88,rfl,by decide⟩,nofun⟩⟩⟩
instance:TIf Tryz.prog 90 (.agg #[(.int .i64 0),(.slice none 0 0)]) [(.int .i64 0),(.slice none 0 0)] 2 32:=⟨⟨Tryz.t90,rfl,rfl,rfl,rfl⟩,rfl⟩
instance:TSc Tryz.prog 94:=⟨_,Tryz.underlying94,rfl⟩
instance:TPt Tryz.prog 94:=⟨by unfold Program.pointee;rw [Tryz.underlying94]⟩
instance:TIf Tryz.prog 94 (.pointer none) [(.pointer none)] 1 8:=⟨⟨Tryz.t94,rfl,rfl,rfl,rfl⟩,rfl⟩
instance:TSc Tryz.prog 95:=⟨_,Tryz.underlying95,rfl⟩
instance:TPt Tryz.prog 95:=⟨by unfold Program.pointee;rw [Tryz.underlying95]⟩
instance:TIf Tryz.prog 95 (.pointer none) [(.pointer none)] 1 8:=⟨⟨Tryz.t95,rfl,rfl,rfl,rfl⟩,rfl⟩
instance:TSc Tryz.prog 96:=⟨_,Tryz.underlying96,rfl⟩
instance:TSl Tryz.prog 96 101:=⟨Tryz.underlying96⟩
instance:TIf Tryz.prog 96 (.slice none 0 0) [(.slice none 0 0)] 1 24:=⟨⟨Tryz.t96,rfl,rfl,rfl,rfl⟩,rfl⟩
instance:TSt Tryz.prog 98 [(23,0),(23,1),(9,2),(75,3),(96,4)]:=⟨⟨_,Tryz.underlying98,rfl⟩,List.forall_mem_cons.2 ⟨⟨Tryz.t23,rfl,by decide⟩,List.forall_mem_cons.2 ⟨⟨Tryz.t23,rfl,by decide⟩,List.forall_mem_cons.2 ⟨⟨Tryz.t9,rfl,by decide⟩,List.forall_mem_cons.2 ⟨⟨Tryz.t75,rfl,by decide⟩,List.forall_mem_cons.2 ⟨⟨Tryz.t96,rfl,by decide⟩,nofun⟩⟩⟩⟩⟩⟩
instance:TIf Tryz.prog 98 (.agg #[(.slice none 0 0),(.slice none 0 0),(.string ByteArray.empty),(.slice none 0 0),(.slice none 0 0)]) [(.slice none 0 0),(.slice none 0 0),(.string ByteArray.empty),(.slice none 0 0),(.slice none 0 0)] 5 112:=⟨⟨Tryz.t98,rfl,rfl,rfl,rfl⟩,rfl⟩
instance:TSt Tryz.prog 100 [(25,0),(2,5),(95,6)]:=⟨⟨_,Tryz.underlying100,rfl⟩,List.forall_mem_cons.2 ⟨⟨Tryz.t25,rfl,by decide⟩,List.forall_mem_cons.2 ⟨⟨Tryz.t2,rfl,by decide⟩,List.forall_mem_cons.2 ⟨⟨Tryz.t95,rfl,by decide⟩,nofun⟩⟩⟩⟩
instance:TIf Tryz.prog 100 (.agg #[(.slice none 0 0),(.slice none 0 0),(.slice none 0 0),(.slice none 0 0),(.slice none 0 0),(.int .i64 0),(.pointer none)]) [(.slice none 0 0),(.slice none 0 0),(.slice none 0 0),(.slice none 0 0),(.slice none 0 0),(.int .i64 0),(.pointer none)] 7 136:=⟨⟨Tryz.t100,rfl,rfl,rfl,rfl⟩,rfl⟩
instance:TSc Tryz.prog 101:=⟨_,Tryz.underlying101,rfl⟩
instance:TSl Tryz.prog 101 103:=⟨Tryz.underlying101⟩
instance:TIf Tryz.prog 101 (.slice none 0 0) [(.slice none 0 0)] 1 24:=⟨⟨Tryz.t101,rfl,rfl,rfl,rfl⟩,rfl⟩
instance:TSt Tryz.prog 103 [(3,0),(2,1),(9,2),(48,3),(101,4)]:=⟨⟨_,Tryz.underlying103,rfl⟩,List.forall_mem_cons.2 ⟨⟨Tryz.t3,rfl,by decide⟩,List.forall_mem_cons.2 ⟨⟨Tryz.t2,rfl,by decide⟩,List.forall_mem_cons.2 ⟨⟨Tryz.t9,rfl,by decide⟩,List.forall_mem_cons.2 ⟨⟨Tryz.t48,rfl,by decide⟩,List.forall_mem_cons.2 ⟨⟨Tryz.t101,rfl,by decide⟩,nofun⟩⟩⟩⟩⟩⟩
instance:TIf Tryz.prog 103 (.agg #[(.int .i64 0),(.int .i64 0),(.string ByteArray.empty),(.slice none 0 0),(.slice none 0 0)]) [(.int .i64 0),(.int .i64 0),(.string ByteArray.empty),(.slice none 0 0),(.slice none 0 0)] 5 80:=⟨⟨Tryz.t103,rfl,rfl,rfl,rfl⟩,rfl⟩
instance:TSc Tryz.prog 108:=⟨_,Tryz.underlying108,rfl⟩
instance:TPt Tryz.prog 108:=⟨by unfold Program.pointee;rw [Tryz.underlying108]⟩
instance:TIf Tryz.prog 108 (.pointer none) [(.pointer none)] 1 8:=⟨⟨Tryz.t108,rfl,rfl,rfl,rfl⟩,rfl⟩
instance:TSc Tryz.prog 109:=⟨_,Tryz.underlying109,rfl⟩
instance:TMp Tryz.prog 109 3 4:=⟨Tryz.underlying109⟩
instance:TIf Tryz.prog 109 (.map none) [(.map none)] 1 8:=⟨⟨Tryz.t109,rfl,rfl,rfl,rfl⟩,rfl⟩
instance:TSc Tryz.prog 110:=⟨_,Tryz.underlying110,rfl⟩
instance:TSl Tryz.prog 110 109:=⟨Tryz.underlying110⟩
instance:TIf Tryz.prog 110 (.slice none 0 0) [(.slice none 0 0)] 1 24:=⟨⟨Tryz.t110,rfl,rfl,rfl,rfl⟩,rfl⟩
instance:TSt Tryz.prog 112 [(25,0),(44,5),(45,7),(3,8),(109,9),(110,10)]:=⟨⟨_,Tryz.underlying112,rfl⟩,List.forall_mem_cons.2 ⟨⟨Tryz.t25,rfl,by decide⟩,List.forall_mem_cons.2 ⟨⟨Tryz.t44,rfl,by decide⟩,List.forall_mem_cons.2 ⟨⟨Tryz.t45,rfl,by decide⟩,List.forall_mem_cons.2 ⟨⟨Tryz.t3,rfl,by decide⟩,List.forall_mem_cons.2 ⟨⟨Tryz.t109,rfl,by decide⟩,List.forall_mem_cons.2 ⟨⟨Tryz.t110,rfl,by decide⟩,nofun⟩⟩⟩⟩⟩⟩⟩
instance:TIf Tryz.prog 112 (.agg #[(.slice none 0 0),(.slice none 0 0),(.slice none 0 0),(.slice none 0 0),(.slice none 0 0),(.int .i64 0),(.slice none 0 0),(.slice none 0 0),(.int .i64 0),(.map none),(.slice none 0 0)]) [(.slice none 0 0),(.slice none 0 0),(.slice none 0 0),(.slice none 0 0),(.slice none 0 0),(.int .i64 0),(.slice none 0 0),(.slice none 0 0),(.int .i64 0),(.map none),(.slice none 0 0)] 11 216:=⟨⟨Tryz.t112,rfl,rfl,rfl,rfl⟩,rfl⟩
instance:TSc Tryz.prog 123:=⟨_,Tryz.underlying123,rfl⟩
instance:TIf Tryz.prog 123 .nilFunc [.nilFunc] 1 8:=⟨⟨Tryz.t123,rfl,rfl,rfl,rfl⟩,rfl⟩
instance:TSc Tryz.prog 124:=⟨_,Tryz.underlying124,rfl⟩
instance:TPt Tryz.prog 124:=⟨by unfold Program.pointee;rw [Tryz.underlying124]⟩
instance:TIf Tryz.prog 124 (.pointer none) [(.pointer none)] 1 8:=⟨⟨Tryz.t124,rfl,rfl,rfl,rfl⟩,rfl⟩
instance:TSc Tryz.prog 125:=⟨_,Tryz.underlying125,rfl⟩
instance:TMp Tryz.prog 125 3 3:=⟨Tryz.underlying125⟩
instance:TIf Tryz.prog 125 (.map none) [(.map none)] 1 8:=⟨⟨Tryz.t125,rfl,rfl,rfl,rfl⟩,rfl⟩
instance:TSt Tryz.prog 127 [(34,0),(45,5),(3,6),(3,7),(109,8),(109,9),(125,10),(109,11)]:=⟨⟨_,Tryz.underlying127,rfl⟩,List.forall_mem_cons.2 ⟨⟨Tryz.t34,rfl,by decide⟩,List.forall_mem_cons.2 ⟨⟨Tryz.t45,rfl,by decide⟩,List.forall_mem_cons.2 ⟨⟨Tryz.t3,rfl,by decide⟩,List.forall_mem_cons.2 ⟨⟨Tryz.t3,rfl,by decide⟩,List.forall_mem_cons.2 ⟨⟨Tryz.t109,rfl,by decide⟩,List.forall_mem_cons.2 ⟨⟨Tryz.t109,rfl,by decide⟩,List.forall_mem_cons.2 ⟨⟨Tryz.t125,rfl,by decide⟩,List.forall_mem_cons.2 ⟨⟨Tryz.t109,rfl,by decide⟩,nofun⟩⟩⟩⟩⟩⟩⟩⟩⟩
instance:TIf Tryz.prog 127 (.agg #[(.slice none 0 0),(.slice none 0 0),(.slice none 0 0),(.slice none 0 0),(.slice none 0 0),(.slice none 0 0),(.int .i64 0),(.int .i64 0),(.map none),(.map none),(.map none),(.map none)]) [(.slice none 0 0),(.slice none 0 0),(.slice none 0 0),(.slice none 0 0),(.slice none 0 0),(.slice none 0 0),(.int .i64 0),(.int .i64 0),(.map none),(.map none),(.map none),(.map none)] 12 192:=⟨⟨Tryz.t127,rfl,rfl,rfl,rfl⟩,rfl⟩
instance:TSc Tryz.prog 129:=⟨_,Tryz.underlying129,rfl⟩
instance:TPt Tryz.prog 129:=⟨by unfold Program.pointee;rw [Tryz.underlying129]⟩
instance:TIf Tryz.prog 129 (.pointer none) [(.pointer none)] 1 8:=⟨⟨Tryz.t129,rfl,rfl,rfl,rfl⟩,rfl⟩
instance:TSc Tryz.prog 130:=⟨_,Tryz.underlying130,rfl⟩
instance:TSl Tryz.prog 130 134:=⟨Tryz.underlying130⟩
instance:TIf Tryz.prog 130 (.slice none 0 0) [(.slice none 0 0)] 1 24:=⟨⟨Tryz.t130,rfl,rfl,rfl,rfl⟩,rfl⟩
instance:TSc Tryz.prog 131:=⟨_,Tryz.underlying131,rfl⟩
instance:TMp Tryz.prog 131 3 132:=⟨Tryz.underlying131⟩
instance:TIf Tryz.prog 131 (.map none) [(.map none)] 1 8:=⟨⟨Tryz.t131,rfl,rfl,rfl,rfl⟩,rfl⟩
instance:TSc Tryz.prog 132:=⟨_,Tryz.underlying132,rfl⟩
instance:TPt Tryz.prog 132:=⟨by unfold Program.pointee;rw [Tryz.underlying132]⟩
instance:TIf Tryz.prog 132 (.pointer none) [(.pointer none)] 1 8:=⟨⟨Tryz.t132,rfl,rfl,rfl,rfl⟩,rfl⟩
instance:TSt Tryz.prog 134 [(79,0),(80,1),(131,2),(3,3),(132,4),(79,5)]:=⟨⟨_,Tryz.underlying134,rfl⟩,List.forall_mem_cons.2 ⟨⟨Tryz.t79,rfl,by decide⟩,List.forall_mem_cons.2 ⟨⟨Tryz.t80,rfl,by decide⟩,List.forall_mem_cons.2 ⟨⟨Tryz.t131,rfl,by decide⟩,List.forall_mem_cons.2 ⟨⟨Tryz.t3,rfl,by decide⟩,List.forall_mem_cons.2 ⟨⟨Tryz.t132,rfl,by decide⟩,List.forall_mem_cons.2 ⟨⟨Tryz.t79,rfl,by decide⟩,nofun⟩⟩⟩⟩⟩⟩⟩
instance:TIf Tryz.prog 134 (.agg #[(.pointer none),(.map none),(.map none),(.int .i64 0),(.pointer none),(.pointer none)]) [(.pointer none),(.map none),(.map none),(.int .i64 0),(.pointer none),(.pointer none)] 6 48:=⟨⟨Tryz.t134,rfl,rfl,rfl,rfl⟩,rfl⟩
instance:TSt Tryz.prog 136 [(77,0),(34,5),(2,10),(130,11),(134,12),(132,18),(84,19)]:=⟨⟨_,Tryz.underlying136,rfl⟩,List.forall_mem_cons.2 ⟨⟨Tryz.t77,rfl,by decide⟩,List.forall_mem_cons.2 ⟨⟨Tryz.t34,rfl,by decide⟩,List.forall_mem_cons.2 ⟨⟨Tryz.t2,rfl,by decide⟩,List.forall_mem_cons.2 ⟨⟨Tryz.t130,rfl,by decide⟩,List.forall_mem_cons.2 ⟨⟨Tryz.t134,rfl,by decide⟩,List.forall_mem_cons.2 ⟨⟨Tryz.t132,rfl,by decide⟩,List.forall_mem_cons.2 ⟨⟨Tryz.t84,rfl,by decide⟩,nofun⟩⟩⟩⟩⟩⟩⟩⟩
instance:TIf Tryz.prog 136 (.agg #[(.slice none 0 0),(.slice none 0 0),(.int .i64 0),(.string ByteArray.empty),(.slice none 0 0),(.slice none 0 0),(.slice none 0 0),(.slice none 0 0),(.slice none 0 0),(.slice none 0 0),(.int .i64 0),(.slice none 0 0),(.pointer none),(.map none),(.map none),(.int .i64 0),(.pointer none),(.pointer none),(.pointer none),(.pointer none)]) [(.slice none 0 0),(.slice none 0 0),(.int .i64 0),(.string ByteArray.empty),(.slice none 0 0),(.slice none 0 0),(.slice none 0 0),(.slice none 0 0),(.slice none 0 0),(.slice none 0 0),(.int .i64 0),(.slice none 0 0),(.pointer none),(.map none),(.map none),(.int .i64 0),(.pointer none),(.pointer none),(.pointer none),(.pointer none)] 20 312:=⟨⟨Tryz.t136,rfl,rfl,rfl,rfl⟩,rfl⟩
instance:TSc Tryz.prog 137:=⟨_,Tryz.underlying137,rfl⟩
instance:TIf Tryz.prog 137 .nilIface [.nilIface] 1 16:=⟨⟨Tryz.t137,rfl,rfl,rfl,rfl⟩,rfl⟩
instance:TSc Tryz.prog 161:=⟨_,Tryz.underlying161,rfl⟩
instance:TPt Tryz.prog 161:=⟨by unfold Program.pointee;rw [Tryz.underlying161]⟩
instance:TIf Tryz.prog 161 (.pointer none) [(.pointer none)] 1 8:=⟨⟨Tryz.t161,rfl,rfl,rfl,rfl⟩,rfl⟩
instance:TSt Tryz.prog 163 [(34,0),(45,5),(3,6),(3,7),(45,8),(45,9),(4,10)]:=⟨⟨_,Tryz.underlying163,rfl⟩,List.forall_mem_cons.2 ⟨⟨Tryz.t34,rfl,by decide⟩,List.forall_mem_cons.2 ⟨⟨Tryz.t45,rfl,by decide⟩,List.forall_mem_cons.2 ⟨⟨Tryz.t3,rfl,by decide⟩,List.forall_mem_cons.2 ⟨⟨Tryz.t3,rfl,by decide⟩,List.forall_mem_cons.2 ⟨⟨Tryz.t45,rfl,by decide⟩,List.forall_mem_cons.2 ⟨⟨Tryz.t45,rfl,by decide⟩,List.forall_mem_cons.2 ⟨⟨Tryz.t4,rfl,by decide⟩,nofun⟩⟩⟩⟩⟩⟩⟩⟩
instance:TIf Tryz.prog 163 (.agg #[(.slice none 0 0),(.slice none 0 0),(.slice none 0 0),(.slice none 0 0),(.slice none 0 0),(.slice none 0 0),(.int .i64 0),(.int .i64 0),(.slice none 0 0),(.slice none 0 0),(.bool false)]) [(.slice none 0 0),(.slice none 0 0),(.slice none 0 0),(.slice none 0 0),(.slice none 0 0),(.slice none 0 0),(.int .i64 0),(.int .i64 0),(.slice none 0 0),(.slice none 0 0),(.bool false)] 11 216:=⟨⟨Tryz.t163,rfl,rfl,rfl,rfl⟩,rfl⟩
instance:TSc Tryz.prog 165:=⟨_,Tryz.underlying165,rfl⟩
instance:TSl Tryz.prog 165 4:=⟨Tryz.underlying165⟩
instance:TIf Tryz.prog 165 (.slice none 0 0) [(.slice none 0 0)] 1 24:=⟨⟨Tryz.t165,rfl,rfl,rfl,rfl⟩,rfl⟩
instance:TSc Tryz.prog 171:=⟨_,Tryz.underlying171,rfl⟩
instance:TPt Tryz.prog 171:=⟨by unfold Program.pointee;rw [Tryz.underlying171]⟩
instance:TIf Tryz.prog 171 (.pointer none) [(.pointer none)] 1 8:=⟨⟨Tryz.t171,rfl,rfl,rfl,rfl⟩,rfl⟩
instance:TSc Tryz.prog 172:=⟨_,Tryz.underlying172,rfl⟩
instance:TSl Tryz.prog 172 179:=⟨Tryz.underlying172⟩
instance:TIf Tryz.prog 172 (.slice none 0 0) [(.slice none 0 0)] 1 24:=⟨⟨Tryz.t172,rfl,rfl,rfl,rfl⟩,rfl⟩
instance:TSt Tryz.prog 174 [(172,0),(125,1)]:=⟨⟨_,Tryz.underlying174,rfl⟩,List.forall_mem_cons.2 ⟨⟨Tryz.t172,rfl,by decide⟩,List.forall_mem_cons.2 ⟨⟨Tryz.t125,rfl,by decide⟩,nofun⟩⟩⟩
instance:TIf Tryz.prog 174 (.agg #[(.slice none 0 0),(.map none)]) [(.slice none 0 0),(.map none)] 2 32:=⟨⟨Tryz.t174,rfl,rfl,rfl,rfl⟩,rfl⟩
instance:TSt Tryz.prog 179 [(53,0),(3,6)]:=⟨⟨_,Tryz.underlying179,rfl⟩,List.forall_mem_cons.2 ⟨⟨Tryz.t53,rfl,by decide⟩,List.forall_mem_cons.2 ⟨⟨Tryz.t3,rfl,by decide⟩,nofun⟩⟩⟩
instance:TIf Tryz.prog 179 (.agg #[(.slice none 0 0),(.slice none 0 0),(.int .i64 0),(.slice none 0 0),(.slice none 0 0),(.slice none 0 0),(.int .i64 0)]) [(.slice none 0 0),(.slice none 0 0),(.int .i64 0),(.slice none 0 0),(.slice none 0 0),(.slice none 0 0),(.int .i64 0)] 7 136:=⟨⟨Tryz.t179,rfl,rfl,rfl,rfl⟩,rfl⟩
instance:TSt Tryz.prog 183 [(4,0),(4,1),(4,2),(4,3),(4,4),(3,5),(3,6)]:=⟨⟨_,Tryz.underlying183,rfl⟩,List.forall_mem_cons.2 ⟨⟨Tryz.t4,rfl,by decide⟩,List.forall_mem_cons.2 ⟨⟨Tryz.t4,rfl,by decide⟩,List.forall_mem_cons.2 ⟨⟨Tryz.t4,rfl,by decide⟩,List.forall_mem_cons.2 ⟨⟨Tryz.t4,rfl,by decide⟩,List.forall_mem_cons.2 ⟨⟨Tryz.t4,rfl,by decide⟩,List.forall_mem_cons.2 ⟨⟨Tryz.t3,rfl,by decide⟩,List.forall_mem_cons.2 ⟨⟨Tryz.t3,rfl,by decide⟩,nofun⟩⟩⟩⟩⟩⟩⟩⟩
instance:TIf Tryz.prog 183 (.agg #[(.bool false),(.bool false),(.bool false),(.bool false),(.bool false),(.int .i64 0),(.int .i64 0)]) [(.bool false),(.bool false),(.bool false),(.bool false),(.bool false),(.int .i64 0),(.int .i64 0)] 7 24:=⟨⟨Tryz.t183,rfl,rfl,rfl,rfl⟩,rfl⟩
instance:TSc Tryz.prog 190:=⟨_,Tryz.underlying190,rfl⟩
instance:TIf Tryz.prog 190 .nilFunc [.nilFunc] 1 8:=⟨⟨Tryz.t190,rfl,rfl,rfl,rfl⟩,rfl⟩
instance:TSc Tryz.prog 192:=⟨_,Tryz.underlying192,rfl⟩
instance:TPt Tryz.prog 192:=⟨by unfold Program.pointee;rw [Tryz.underlying192]⟩
instance:TIf Tryz.prog 192 (.pointer none) [(.pointer none)] 1 8:=⟨⟨Tryz.t192,rfl,rfl,rfl,rfl⟩,rfl⟩
instance:TSc Tryz.prog 194:=⟨_,Tryz.underlying194,rfl⟩
instance:TPt Tryz.prog 194:=⟨by unfold Program.pointee;rw [Tryz.underlying194]⟩
instance:TIf Tryz.prog 194 (.pointer none) [(.pointer none)] 1 8:=⟨⟨Tryz.t194,rfl,rfl,rfl,rfl⟩,rfl⟩
instance:TSt Tryz.prog 196 [(48,0),(88,1)]:=⟨⟨_,Tryz.underlying196,rfl⟩,List.forall_mem_cons.2 ⟨⟨Tryz.t48,rfl,by decide⟩,List.forall_mem_cons.2 ⟨⟨Tryz.t88,rfl,by decide⟩,nofun⟩⟩⟩
instance:TIf Tryz.prog 196 (.agg #[(.slice none 0 0),(.slice none 0 0)]) [(.slice none 0 0),(.slice none 0 0)] 2 48:=⟨⟨Tryz.t196,rfl,rfl,rfl,rfl⟩,rfl⟩
instance:TSc Tryz.prog 202:=⟨_,Tryz.underlying202,rfl⟩
instance:TPt Tryz.prog 202:=⟨by unfold Program.pointee;rw [Tryz.underlying202]⟩
instance:TIf Tryz.prog 202 (.pointer none) [(.pointer none)] 1 8:=⟨⟨Tryz.t202,rfl,rfl,rfl,rfl⟩,rfl⟩
instance:TSt Tryz.prog 204 [(2,0),(137,1)]:=⟨⟨_,Tryz.underlying204,rfl⟩,List.forall_mem_cons.2 ⟨⟨Tryz.t2,rfl,by decide⟩,List.forall_mem_cons.2 ⟨⟨Tryz.t137,rfl,by decide⟩,nofun⟩⟩⟩
instance:TIf Tryz.prog 204 (.agg #[(.int .i64 0),.nilIface]) [(.int .i64 0),.nilIface] 2 24:=⟨⟨Tryz.t204,rfl,rfl,rfl,rfl⟩,rfl⟩
instance:TSc Tryz.prog 207:=⟨_,Tryz.underlying207,rfl⟩
instance:TIn Tryz.prog 207 .u64:=⟨Tryz.underlying207⟩
instance:TIf Tryz.prog 207 (.int .u64 0) [(.int .u64 0)] 1 8:=⟨⟨Tryz.t207,rfl,rfl,rfl,rfl⟩,rfl⟩
instance:TSt Tryz.prog 211 [(3,0),(103,1)]:=⟨⟨_,Tryz.underlying211,rfl⟩,List.forall_mem_cons.2 ⟨⟨Tryz.t3,rfl,by decide⟩,List.forall_mem_cons.2 ⟨⟨Tryz.t103,rfl,by decide⟩,nofun⟩⟩⟩
instance:TIf Tryz.prog 211 (.agg #[(.int .i64 0),(.int .i64 0),(.int .i64 0),(.string ByteArray.empty),(.slice none 0 0),(.slice none 0 0)]) [(.int .i64 0),(.int .i64 0),(.int .i64 0),(.string ByteArray.empty),(.slice none 0 0),(.slice none 0 0)] 6 88:=⟨⟨Tryz.t211,rfl,rfl,rfl,rfl⟩,rfl⟩
instance:TSc Tryz.prog 212:=⟨_,Tryz.underlying212,rfl⟩
instance:TSl Tryz.prog 212 211:=⟨Tryz.underlying212⟩
instance:TIf Tryz.prog 212 (.slice none 0 0) [(.slice none 0 0)] 1 24:=⟨⟨Tryz.t212,rfl,rfl,rfl,rfl⟩,rfl⟩
instance:TIf Tryz.prog 217 (.agg #[(.int .i64 0),(.int .i64 0)]) [(.int .i64 0),(.int .i64 0)] 2 16:=⟨⟨Tryz.t217,rfl,rfl,rfl,rfl⟩,rfl⟩
instance:TSc Tryz.prog 218:=⟨_,Tryz.underlying218,rfl⟩
instance:TMp Tryz.prog 218 3 217:=⟨Tryz.underlying218⟩
instance:TIf Tryz.prog 218 (.map none) [(.map none)] 1 8:=⟨⟨Tryz.t218,rfl,rfl,rfl,rfl⟩,rfl⟩
instance:TSc Tryz.prog 220:=⟨_,Tryz.underlying220,rfl⟩
instance:TSl Tryz.prog 220 225:=⟨Tryz.underlying220⟩
instance:TIf Tryz.prog 220 (.slice none 0 0) [(.slice none 0 0)] 1 24:=⟨⟨Tryz.t220,rfl,rfl,rfl,rfl⟩,rfl⟩
instance:TSt Tryz.prog 225 [(3,0),(3,1)]:=⟨⟨_,Tryz.underlying225,rfl⟩,List.forall_mem_cons.2 ⟨⟨Tryz.t3,rfl,by decide⟩,List.forall_mem_cons.2 ⟨⟨Tryz.t3,rfl,by decide⟩,nofun⟩⟩⟩
instance:TIf Tryz.prog 225 (.agg #[(.int .i64 0),(.int .i64 0)]) [(.int .i64 0),(.int .i64 0)] 2 16:=⟨⟨Tryz.t225,rfl,rfl,rfl,rfl⟩,rfl⟩
instance:TSc Tryz.prog 228:=⟨_,Tryz.underlying228,rfl⟩
instance:TIf Tryz.prog 228 .nilFunc [.nilFunc] 1 8:=⟨⟨Tryz.t228,rfl,rfl,rfl,rfl⟩,rfl⟩
instance:TSc Tryz.prog 232:=⟨_,Tryz.underlying232,rfl⟩
instance:TPt Tryz.prog 232:=⟨by unfold Program.pointee;rw [Tryz.underlying232]⟩
instance:TIf Tryz.prog 232 (.pointer none) [(.pointer none)] 1 8:=⟨⟨Tryz.t232,rfl,rfl,rfl,rfl⟩,rfl⟩
instance:TSt Tryz.prog 234 [(137,0)]:=⟨⟨_,Tryz.underlying234,rfl⟩,List.forall_mem_cons.2 ⟨⟨Tryz.t137,rfl,by decide⟩,nofun⟩⟩
instance:TIf Tryz.prog 234 (.agg #[.nilIface]) [.nilIface] 1 16:=⟨⟨Tryz.t234,rfl,rfl,rfl,rfl⟩,rfl⟩
instance:TSc Tryz.prog 243:=⟨_,Tryz.underlying243,rfl⟩
instance:TPt Tryz.prog 243:=⟨by unfold Program.pointee;rw [Tryz.underlying243]⟩
instance:TIf Tryz.prog 243 (.pointer none) [(.pointer none)] 1 8:=⟨⟨Tryz.t243,rfl,rfl,rfl,rfl⟩,rfl⟩
instance:TSt Tryz.prog 246 [(88,0)]:=⟨⟨_,Tryz.underlying246,rfl⟩,List.forall_mem_cons.2 ⟨⟨Tryz.t88,rfl,by decide⟩,nofun⟩⟩
instance:TIf Tryz.prog 246 (.agg #[(.slice none 0 0)]) [(.slice none 0 0)] 1 24:=⟨⟨Tryz.t246,rfl,rfl,rfl,rfl⟩,rfl⟩
instance:TSc Tryz.prog 249:=⟨_,Tryz.underlying249,rfl⟩
instance:TIf Tryz.prog 249 .nilFunc [.nilFunc] 1 8:=⟨⟨Tryz.t249,rfl,rfl,rfl,rfl⟩,rfl⟩
instance:TSc Tryz.prog 251:=⟨_,Tryz.underlying251,rfl⟩
instance:TMp Tryz.prog 251 3 249:=⟨Tryz.underlying251⟩
instance:TIf Tryz.prog 251 (.map none) [(.map none)] 1 8:=⟨⟨Tryz.t251,rfl,rfl,rfl,rfl⟩,rfl⟩
instance:TSc Tryz.prog 254:=⟨_,Tryz.underlying254,rfl⟩
instance:TPt Tryz.prog 254:=⟨by unfold Program.pointee;rw [Tryz.underlying254]⟩
instance:TIf Tryz.prog 254 (.pointer none) [(.pointer none)] 1 8:=⟨⟨Tryz.t254,rfl,rfl,rfl,rfl⟩,rfl⟩
instance:TSt Tryz.prog 256 [(254,0),(75,1)]:=⟨⟨_,Tryz.underlying256,rfl⟩,List.forall_mem_cons.2 ⟨⟨Tryz.t254,rfl,by decide⟩,List.forall_mem_cons.2 ⟨⟨Tryz.t75,rfl,by decide⟩,nofun⟩⟩⟩
instance:TIf Tryz.prog 256 (.agg #[(.pointer none),(.slice none 0 0)]) [(.pointer none),(.slice none 0 0)] 2 32:=⟨⟨Tryz.t256,rfl,rfl,rfl,rfl⟩,rfl⟩
instance:TSc Tryz.prog 258:=⟨_,Tryz.underlying258,rfl⟩
instance:TIf Tryz.prog 258 .nilIface [.nilIface] 1 16:=⟨⟨Tryz.t258,rfl,rfl,rfl,rfl⟩,rfl⟩
instance:TSc Tryz.prog 269:=⟨_,Tryz.underlying269,rfl⟩
instance:TPt Tryz.prog 269:=⟨by unfold Program.pointee;rw [Tryz.underlying269]⟩
instance:TIf Tryz.prog 269 (.pointer none) [(.pointer none)] 1 8:=⟨⟨Tryz.t269,rfl,rfl,rfl,rfl⟩,rfl⟩
instance:TSc Tryz.prog 273:=⟨_,Tryz.underlying273,rfl⟩
instance:TIn Tryz.prog 273 .u32:=⟨Tryz.underlying273⟩
instance:TIf Tryz.prog 273 (.int .u32 0) [(.int .u32 0)] 1 4:=⟨⟨Tryz.t273,rfl,rfl,rfl,rfl⟩,rfl⟩
instance:TSc Tryz.prog 276:=⟨_,Tryz.underlying276,rfl⟩
instance:TIn Tryz.prog 276 .u64:=⟨Tryz.underlying276⟩
instance:TIf Tryz.prog 276 (.int .u64 0) [(.int .u64 0)] 1 8:=⟨⟨Tryz.t276,rfl,rfl,rfl,rfl⟩,rfl⟩
instance:TIf Tryz.prog 280 (.agg #[(.int .u8 0),(.int .u8 0),(.int .u8 0),(.int .u8 0),(.int .u8 0),(.int .u8 0),(.int .u8 0),(.int .u8 0),(.int .u8 0),(.int .u8 0),(.int .u8 0),(.int .u8 0),(.int .u8 0),(.int .u8 0),(.int .u8 0),(.int .u8 0),(.int .u8 0),(.int .u8 0),(.int .u8 0),(.int .u8 0),(.int .u8 0),(.int .u8 0),(.int .u8 0),(.int .u8 0)]) [(.int .u8 0),(.int .u8 0),(.int .u8 0),(.int .u8 0),(.int .u8 0),(.int .u8 0),(.int .u8 0),(.int .u8 0),(.int .u8 0),(.int .u8 0),(.int .u8 0),(.int .u8 0),(.int .u8 0),(.int .u8 0),(.int .u8 0),(.int .u8 0),(.int .u8 0),(.int .u8 0),(.int .u8 0),(.int .u8 0),(.int .u8 0),(.int .u8 0),(.int .u8 0),(.int .u8 0)] 24 24:=⟨⟨Tryz.t280,rfl,rfl,rfl,rfl⟩,rfl⟩
instance:TIf Tryz.prog 288 (.agg #[(.int .u64 0),(.int .u64 0),(.int .u64 0),(.int .u64 0),(.int .u64 0),(.int .u64 0),(.int .u64 0),(.int .u64 0),(.int .u64 0),(.int .u64 0),(.int .u64 0),(.int .u64 0),(.int .u64 0),(.int .u64 0),(.int .u64 0),(.int .u64 0),(.int .u64 0),(.int .u64 0),(.int .u64 0),(.int .u64 0)]) [(.int .u64 0),(.int .u64 0),(.int .u64 0),(.int .u64 0),(.int .u64 0),(.int .u64 0),(.int .u64 0),(.int .u64 0),(.int .u64 0),(.int .u64 0),(.int .u64 0),(.int .u64 0),(.int .u64 0),(.int .u64 0),(.int .u64 0),(.int .u64 0),(.int .u64 0),(.int .u64 0),(.int .u64 0),(.int .u64 0)] 20 160:=⟨⟨Tryz.t288,rfl,rfl,rfl,rfl⟩,rfl⟩
instance:TIf Tryz.prog 292 (.agg #[(.int .u8 0),(.int .u8 0),(.int .u8 0),(.int .u8 0),(.int .u8 0),(.int .u8 0),(.int .u8 0),(.int .u8 0),(.int .u8 0),(.int .u8 0),(.int .u8 0),(.int .u8 0),(.int .u8 0),(.int .u8 0),(.int .u8 0),(.int .u8 0),(.int .u8 0),(.int .u8 0),(.int .u8 0),(.int .u8 0),(.int .u8 0),(.int .u8 0),(.int .u8 0),(.int .u8 0),(.int .u8 0),(.int .u8 0),(.int .u8 0),(.int .u8 0),(.int .u8 0),(.int .u8 0),(.int .u8 0),(.int .u8 0)]) [(.int .u8 0),(.int .u8 0),(.int .u8 0),(.int .u8 0),(.int .u8 0),(.int .u8 0),(.int .u8 0),(.int .u8 0),(.int .u8 0),(.int .u8 0),(.int .u8 0),(.int .u8 0),(.int .u8 0),(.int .u8 0),(.int .u8 0),(.int .u8 0),(.int .u8 0),(.int .u8 0),(.int .u8 0),(.int .u8 0),(.int .u8 0),(.int .u8 0),(.int .u8 0),(.int .u8 0),(.int .u8 0),(.int .u8 0),(.int .u8 0),(.int .u8 0),(.int .u8 0),(.int .u8 0),(.int .u8 0),(.int .u8 0)] 32 32:=⟨⟨Tryz.t292,rfl,rfl,rfl,rfl⟩,rfl⟩
instance:FnB Tryz.prog 2:=⟨_,Tryz.func2,rfl,by kernel_rfl⟩
instance:FnB Tryz.prog 3:=⟨_,Tryz.func3,rfl,by kernel_rfl⟩
instance:FnB Tryz.prog 4:=⟨_,Tryz.func4,rfl,by kernel_rfl⟩
instance:FnB Tryz.prog 5:=⟨_,Tryz.func5,rfl,by kernel_rfl⟩
instance:FnB Tryz.prog 6:=⟨_,Tryz.func6,rfl,by kernel_rfl⟩
instance:FnB Tryz.prog 7:=⟨_,Tryz.func7,rfl,by kernel_rfl⟩
instance:FnB Tryz.prog 8:=⟨_,Tryz.func8,rfl,by kernel_rfl⟩
instance:FnB Tryz.prog 9:=⟨_,Tryz.func9,rfl,by kernel_rfl⟩
instance:FnB Tryz.prog 10:=⟨_,Tryz.func10,rfl,by kernel_rfl⟩
instance:FnB Tryz.prog 11:=⟨_,Tryz.func11,rfl,by kernel_rfl⟩
instance:FnB Tryz.prog 12:=⟨_,Tryz.func12,rfl,by kernel_rfl⟩
instance:FnB Tryz.prog 13:=⟨_,Tryz.func13,rfl,by kernel_rfl⟩
instance:FnB Tryz.prog 14:=⟨_,Tryz.func14,rfl,by kernel_rfl⟩
instance:FnB Tryz.prog 15:=⟨_,Tryz.func15,rfl,by kernel_rfl⟩
instance:FnB Tryz.prog 16:=⟨_,Tryz.func16,rfl,by kernel_rfl⟩
instance:FnB Tryz.prog 17:=⟨_,Tryz.func17,rfl,by kernel_rfl⟩
instance:FnB Tryz.prog 18:=⟨_,Tryz.func18,rfl,by kernel_rfl⟩
instance:FnB Tryz.prog 19:=⟨_,Tryz.func19,rfl,by kernel_rfl⟩
instance:FnB Tryz.prog 20:=⟨_,Tryz.func20,rfl,by kernel_rfl⟩
instance:FnB Tryz.prog 21:=⟨_,Tryz.func21,rfl,by kernel_rfl⟩
instance:FnB Tryz.prog 22:=⟨_,Tryz.func22,rfl,by kernel_rfl⟩
instance:FnB Tryz.prog 23:=⟨_,Tryz.func23,rfl,by kernel_rfl⟩
instance:FnB Tryz.prog 24:=⟨_,Tryz.func24,rfl,by kernel_rfl⟩
instance:FnB Tryz.prog 25:=⟨_,Tryz.func25,rfl,by kernel_rfl⟩
instance:FnB Tryz.prog 26:=⟨_,Tryz.func26,rfl,by kernel_rfl⟩
instance:FnB Tryz.prog 27:=⟨_,Tryz.func27,rfl,by kernel_rfl⟩
instance:FnB Tryz.prog 28:=⟨_,Tryz.func28,rfl,by kernel_rfl⟩
instance:FnB Tryz.prog 29:=⟨_,Tryz.func29,rfl,by kernel_rfl⟩
instance:FnB Tryz.prog 30:=⟨_,Tryz.func30,rfl,by kernel_rfl⟩
instance:FnB Tryz.prog 31:=⟨_,Tryz.func31,rfl,by kernel_rfl⟩
instance:FnB Tryz.prog 32:=⟨_,Tryz.func32,rfl,by kernel_rfl⟩
instance:FnB Tryz.prog 33:=⟨_,Tryz.func33,rfl,by kernel_rfl⟩
instance:FnB Tryz.prog 34:=⟨_,Tryz.func34,rfl,by kernel_rfl⟩
instance:FnB Tryz.prog 35:=⟨_,Tryz.func35,rfl,by kernel_rfl⟩
instance:FnB Tryz.prog 36:=⟨_,Tryz.func36,rfl,by kernel_rfl⟩
instance:FnB Tryz.prog 37:=⟨_,Tryz.func37,rfl,by kernel_rfl⟩
instance:FnB Tryz.prog 38:=⟨_,Tryz.func38,rfl,by kernel_rfl⟩
instance:FnB Tryz.prog 39:=⟨_,Tryz.func39,rfl,by kernel_rfl⟩
instance:FnB Tryz.prog 40:=⟨_,Tryz.func40,rfl,by kernel_rfl⟩
instance:FnB Tryz.prog 41:=⟨_,Tryz.func41,rfl,by kernel_rfl⟩
instance:FnB Tryz.prog 42:=⟨_,Tryz.func42,rfl,by kernel_rfl⟩
instance:FnB Tryz.prog 43:=⟨_,Tryz.func43,rfl,by kernel_rfl⟩
instance:FnB Tryz.prog 44:=⟨_,Tryz.func44,rfl,by kernel_rfl⟩
instance:FnB Tryz.prog 45:=⟨_,Tryz.func45,rfl,by kernel_rfl⟩
instance:FnB Tryz.prog 46:=⟨_,Tryz.func46,rfl,by kernel_rfl⟩
instance:FnB Tryz.prog 47:=⟨_,Tryz.func47,rfl,by kernel_rfl⟩
instance:FnB Tryz.prog 48:=⟨_,Tryz.func48,rfl,by kernel_rfl⟩
instance:FnB Tryz.prog 49:=⟨_,Tryz.func49,rfl,by kernel_rfl⟩
instance:FnB Tryz.prog 50:=⟨_,Tryz.func50,rfl,by kernel_rfl⟩
instance:FnB Tryz.prog 51:=⟨_,Tryz.func51,rfl,by kernel_rfl⟩
instance:FnB Tryz.prog 52:=⟨_,Tryz.func52,rfl,by kernel_rfl⟩
instance:FnB Tryz.prog 53:=⟨_,Tryz.func53,rfl,by kernel_rfl⟩
instance:FnB Tryz.prog 54:=⟨_,Tryz.func54,rfl,by kernel_rfl⟩
instance:FnB Tryz.prog 55:=⟨_,Tryz.func55,rfl,by kernel_rfl⟩
instance:FnB Tryz.prog 56:=⟨_,Tryz.func56,rfl,by kernel_rfl⟩
instance:FnB Tryz.prog 57:=⟨_,Tryz.func57,rfl,by kernel_rfl⟩
instance:FnB Tryz.prog 58:=⟨_,Tryz.func58,rfl,by kernel_rfl⟩
instance:FnB Tryz.prog 59:=⟨_,Tryz.func59,rfl,by kernel_rfl⟩
instance:FnB Tryz.prog 60:=⟨_,Tryz.func60,rfl,by kernel_rfl⟩
instance:FnB Tryz.prog 61:=⟨_,Tryz.func61,rfl,by kernel_rfl⟩
instance:FnB Tryz.prog 62:=⟨_,Tryz.func62,rfl,by kernel_rfl⟩
instance:FnB Tryz.prog 63:=⟨_,Tryz.func63,rfl,by kernel_rfl⟩
instance:FnB Tryz.prog 64:=⟨_,Tryz.func64,rfl,by kernel_rfl⟩
instance:FnB Tryz.prog 65:=⟨_,Tryz.func65,rfl,by kernel_rfl⟩
instance:FnB Tryz.prog 66:=⟨_,Tryz.func66,rfl,by kernel_rfl⟩
instance:FnB Tryz.prog 67:=⟨_,Tryz.func67,rfl,by kernel_rfl⟩
instance:FnB Tryz.prog 68:=⟨_,Tryz.func68,rfl,by kernel_rfl⟩
instance:FnB Tryz.prog 69:=⟨_,Tryz.func69,rfl,by kernel_rfl⟩
instance:FnB Tryz.prog 70:=⟨_,Tryz.func70,rfl,by kernel_rfl⟩
instance:FnB Tryz.prog 71:=⟨_,Tryz.func71,rfl,by kernel_rfl⟩
instance:FnB Tryz.prog 72:=⟨_,Tryz.func72,rfl,by kernel_rfl⟩
instance:FnB Tryz.prog 73:=⟨_,Tryz.func73,rfl,by kernel_rfl⟩
instance:FnB Tryz.prog 74:=⟨_,Tryz.func74,rfl,by kernel_rfl⟩
instance:FnB Tryz.prog 75:=⟨_,Tryz.func75,rfl,by kernel_rfl⟩
instance:FnB Tryz.prog 76:=⟨_,Tryz.func76,rfl,by kernel_rfl⟩
instance:FnB Tryz.prog 77:=⟨_,Tryz.func77,rfl,by kernel_rfl⟩
instance:FnB Tryz.prog 78:=⟨_,Tryz.func78,rfl,by kernel_rfl⟩
instance:FnB Tryz.prog 79:=⟨_,Tryz.func79,rfl,by kernel_rfl⟩
instance:FnB Tryz.prog 80:=⟨_,Tryz.func80,rfl,by kernel_rfl⟩
instance:FnB Tryz.prog 81:=⟨_,Tryz.func81,rfl,by kernel_rfl⟩
instance:FnB Tryz.prog 82:=⟨_,Tryz.func82,rfl,by kernel_rfl⟩
instance:FnB Tryz.prog 83:=⟨_,Tryz.func83,rfl,by kernel_rfl⟩
instance:FnB Tryz.prog 84:=⟨_,Tryz.func84,rfl,by kernel_rfl⟩
instance:FnB Tryz.prog 85:=⟨_,Tryz.func85,rfl,by kernel_rfl⟩
instance:FnB Tryz.prog 86:=⟨_,Tryz.func86,rfl,by kernel_rfl⟩
instance:FnB Tryz.prog 87:=⟨_,Tryz.func87,rfl,by kernel_rfl⟩
instance:FnB Tryz.prog 88:=⟨_,Tryz.func88,rfl,by kernel_rfl⟩
instance:FnB Tryz.prog 89:=⟨_,Tryz.func89,rfl,by kernel_rfl⟩
instance:FnB Tryz.prog 90:=⟨_,Tryz.func90,rfl,by kernel_rfl⟩
instance:FnB Tryz.prog 91:=⟨_,Tryz.func91,rfl,by kernel_rfl⟩
instance:FnB Tryz.prog 92:=⟨_,Tryz.func92,rfl,by kernel_rfl⟩
instance:FnB Tryz.prog 93:=⟨_,Tryz.func93,rfl,by kernel_rfl⟩
instance:FnB Tryz.prog 94:=⟨_,Tryz.func94,rfl,by kernel_rfl⟩
instance:FnB Tryz.prog 95:=⟨_,Tryz.func95,rfl,by kernel_rfl⟩
instance:FnB Tryz.prog 96:=⟨_,Tryz.func96,rfl,by kernel_rfl⟩
instance:FnB Tryz.prog 97:=⟨_,Tryz.func97,rfl,by kernel_rfl⟩
instance:FnB Tryz.prog 98:=⟨_,Tryz.func98,rfl,by kernel_rfl⟩
instance:FnB Tryz.prog 99:=⟨_,Tryz.func99,rfl,by kernel_rfl⟩
instance:FnB Tryz.prog 100:=⟨_,Tryz.func100,rfl,by kernel_rfl⟩
instance:FnB Tryz.prog 101:=⟨_,Tryz.func101,rfl,by kernel_rfl⟩
instance:FnB Tryz.prog 102:=⟨_,Tryz.func102,rfl,by kernel_rfl⟩
instance:FnB Tryz.prog 103:=⟨_,Tryz.func103,rfl,by kernel_rfl⟩
instance:FnB Tryz.prog 104:=⟨_,Tryz.func104,rfl,by kernel_rfl⟩
instance:FnB Tryz.prog 105:=⟨_,Tryz.func105,rfl,by kernel_rfl⟩
instance:FnB Tryz.prog 106:=⟨_,Tryz.func106,rfl,by kernel_rfl⟩
instance:FnB Tryz.prog 107:=⟨_,Tryz.func107,rfl,by kernel_rfl⟩
instance:FnB Tryz.prog 108:=⟨_,Tryz.func108,rfl,by kernel_rfl⟩
instance:FnB Tryz.prog 109:=⟨_,Tryz.func109,rfl,by kernel_rfl⟩
instance:FnB Tryz.prog 110:=⟨_,Tryz.func110,rfl,by kernel_rfl⟩
instance:FnB Tryz.prog 111:=⟨_,Tryz.func111,rfl,by kernel_rfl⟩
instance:FnB Tryz.prog 112:=⟨_,Tryz.func112,rfl,by kernel_rfl⟩
instance:FnB Tryz.prog 113:=⟨_,Tryz.func113,rfl,by kernel_rfl⟩
instance:FnB Tryz.prog 114:=⟨_,Tryz.func114,rfl,by kernel_rfl⟩
instance:FnB Tryz.prog 115:=⟨_,Tryz.func115,rfl,by kernel_rfl⟩
instance:FnB Tryz.prog 116:=⟨_,Tryz.func116,rfl,by kernel_rfl⟩
instance:FnB Tryz.prog 117:=⟨_,Tryz.func117,rfl,by kernel_rfl⟩
instance:FnB Tryz.prog 119:=⟨_,Tryz.func119,rfl,by kernel_rfl⟩
instance:FnB Tryz.prog 121:=⟨_,Tryz.func121,rfl,by kernel_rfl⟩
instance:FnB Tryz.prog 122:=⟨_,Tryz.func122,rfl,by kernel_rfl⟩
instance:FnB Tryz.prog 123:=⟨_,Tryz.func123,rfl,by kernel_rfl⟩
instance:FnB Tryz.prog 124:=⟨_,Tryz.func124,rfl,by kernel_rfl⟩
instance:FnB Tryz.prog 125:=⟨_,Tryz.func125,rfl,by kernel_rfl⟩
instance:FnB Tryz.prog 126:=⟨_,Tryz.func126,rfl,by kernel_rfl⟩
instance:FnB Tryz.prog 127:=⟨_,Tryz.func127,rfl,by kernel_rfl⟩
instance:FnB Tryz.prog 128:=⟨_,Tryz.func128,rfl,by kernel_rfl⟩
instance:FnB Tryz.prog 129:=⟨_,Tryz.func129,rfl,by kernel_rfl⟩
instance:FnB Tryz.prog 130:=⟨_,Tryz.func130,rfl,by kernel_rfl⟩
instance:FnB Tryz.prog 131:=⟨_,Tryz.func131,rfl,by kernel_rfl⟩
instance:FnB Tryz.prog 132:=⟨_,Tryz.func132,rfl,by kernel_rfl⟩
instance:FnB Tryz.prog 133:=⟨_,Tryz.func133,rfl,by kernel_rfl⟩
instance:FnB Tryz.prog 134:=⟨_,Tryz.func134,rfl,by kernel_rfl⟩
instance:FnB Tryz.prog 135:=⟨_,Tryz.func135,rfl,by kernel_rfl⟩
instance:FnB Tryz.prog 136:=⟨_,Tryz.func136,rfl,by kernel_rfl⟩
instance:FnB Tryz.prog 137:=⟨_,Tryz.func137,rfl,by kernel_rfl⟩
instance:FnB Tryz.prog 138:=⟨_,Tryz.func138,rfl,by kernel_rfl⟩
instance:FnB Tryz.prog 139:=⟨_,Tryz.func139,rfl,by kernel_rfl⟩
instance:FnB Tryz.prog 140:=⟨_,Tryz.func140,rfl,by kernel_rfl⟩
instance:FnB Tryz.prog 141:=⟨_,Tryz.func141,rfl,by kernel_rfl⟩
instance:FnB Tryz.prog 142:=⟨_,Tryz.func142,rfl,by kernel_rfl⟩
instance:FnB Tryz.prog 143:=⟨_,Tryz.func143,rfl,by kernel_rfl⟩
instance:FnB Tryz.prog 144:=⟨_,Tryz.func144,rfl,by kernel_rfl⟩
instance:FnB Tryz.prog 145:=⟨_,Tryz.func145,rfl,by kernel_rfl⟩
instance:FnB Tryz.prog 146:=⟨_,Tryz.func146,rfl,by kernel_rfl⟩
instance:FnB Tryz.prog 147:=⟨_,Tryz.func147,rfl,by kernel_rfl⟩
instance:FnB Tryz.prog 148:=⟨_,Tryz.func148,rfl,by kernel_rfl⟩
instance:FnB Tryz.prog 149:=⟨_,Tryz.func149,rfl,by kernel_rfl⟩
instance:FnB Tryz.prog 150:=⟨_,Tryz.func150,rfl,by kernel_rfl⟩
instance:FnB Tryz.prog 151:=⟨_,Tryz.func151,rfl,by kernel_rfl⟩
instance:FnB Tryz.prog 152:=⟨_,Tryz.func152,rfl,by kernel_rfl⟩
instance:FnB Tryz.prog 153:=⟨_,Tryz.func153,rfl,by kernel_rfl⟩
instance:FnB Tryz.prog 154:=⟨_,Tryz.func154,rfl,by kernel_rfl⟩
instance:FnB Tryz.prog 155:=⟨_,Tryz.func155,rfl,by kernel_rfl⟩
instance:FnB Tryz.prog 156:=⟨_,Tryz.func156,rfl,by kernel_rfl⟩
instance:FnB Tryz.prog 157:=⟨_,Tryz.func157,rfl,by kernel_rfl⟩
instance:FnB Tryz.prog 158:=⟨_,Tryz.func158,rfl,by kernel_rfl⟩
instance:FnB Tryz.prog 159:=⟨_,Tryz.func159,rfl,by kernel_rfl⟩
instance:FnB Tryz.prog 160:=⟨_,Tryz.func160,rfl,by kernel_rfl⟩
instance:FnB Tryz.prog 161:=⟨_,Tryz.func161,rfl,by kernel_rfl⟩
instance:FnB Tryz.prog 162:=⟨_,Tryz.func162,rfl,by kernel_rfl⟩
instance:FnB Tryz.prog 163:=⟨_,Tryz.func163,rfl,by kernel_rfl⟩
instance:FnB Tryz.prog 164:=⟨_,Tryz.func164,rfl,by kernel_rfl⟩
instance:FnB Tryz.prog 165:=⟨_,Tryz.func165,rfl,by kernel_rfl⟩
instance:FnB Tryz.prog 167:=⟨_,Tryz.func167,rfl,by kernel_rfl⟩
instance:FnB Tryz.prog 168:=⟨_,Tryz.func168,rfl,by kernel_rfl⟩
instance:FnB Tryz.prog 169:=⟨_,Tryz.func169,rfl,by kernel_rfl⟩
instance:FnB Tryz.prog 170:=⟨_,Tryz.func170,rfl,by kernel_rfl⟩
instance:FnB Tryz.prog 171:=⟨_,Tryz.func171,rfl,by kernel_rfl⟩
instance:FnB Tryz.prog 172:=⟨_,Tryz.func172,rfl,by kernel_rfl⟩
instance:FnB Tryz.prog 173:=⟨_,Tryz.func173,rfl,by kernel_rfl⟩
instance:FnB Tryz.prog 174:=⟨_,Tryz.func174,rfl,by kernel_rfl⟩
instance:FnB Tryz.prog 175:=⟨_,Tryz.func175,rfl,by kernel_rfl⟩
instance:FnB Tryz.prog 176:=⟨_,Tryz.func176,rfl,by kernel_rfl⟩
instance:FnB Tryz.prog 199:=⟨_,Tryz.func199,rfl,by kernel_rfl⟩
theorem mixed:Tryz.prog.follows .mixedOrders=true:=by kernel_rfl
set_option linter.unusedVariables false
structure Vec (α:Type) where
  o:Option Addr
  c:Nat
  l:List α
structure Atm where
  k:Int
  n:Int
structure Stp where
  k:Int
  n:Int
  ns:Vec Int
  a:Vec Atm
structure Ins where
  x:Int
  r:Stp
structure Edg where
  b:Int
  a:Vec Atm
structure En where
  k:Int
  a:Vec Atm
  ns:Vec Int
  to:Vec Edg
structure Blc where
  ps:Vec Int
  is:Vec Ins
  e:En
structure Gr where
  caps:Int
  bs:Vec Blc
structure Grs where
  fs:Vec Gr
  ls:Vec ByteArray
  ts:Vec ByteArray
  xs:Vec ByteArray
  ss:Vec ByteArray
def yM {α:Type}:Vec α:=⟨none,0,[]⟩
def ins0:Ins:=⟨0,⟨0,0,yM,yM⟩⟩
def rG:Blc:=⟨yM,yM,⟨0,yM,yM,yM⟩⟩
def gr0:Gr:=⟨0,yM⟩
def yQ (s:ByteArray):List Value:=[.string s]
def zV (a:Atm):List Value:=[.int .i64 a.k,.int .i64 a.n]
def zX (r:Stp):List Value:=[.int .i64 r.k,.int .i64 r.n,.slice r.ns.o r.ns.l.length r.ns.c,.slice r.a.o r.a.l.length r.a.c]
def wV (i:Ins):List Value:=[.int .i64 i.x,.int .i64 i.r.k,.int .i64 i.r.n,.slice i.r.ns.o i.r.ns.l.length i.r.ns.c,.slice i.r.a.o i.r.a.l.length i.r.a.c]
def uD (e:Edg):List Value:=[.int .i64 e.b,.slice e.a.o e.a.l.length e.a.c]
def vJ (e:En):List Value:=[.int .i64 e.k,.slice e.a.o e.a.l.length e.a.c,.slice e.ns.o e.ns.l.length e.ns.c,.slice e.to.o e.to.l.length e.to.c]
def zL (b:Blc):List Value:=[.slice b.ps.o b.ps.l.length b.ps.c,.slice b.is.o b.is.l.length b.is.c,.int .i64 b.e.k,.slice b.e.a.o b.e.a.l.length b.e.a.c,.slice b.e.ns.o b.e.ns.l.length b.e.ns.c,.slice b.e.to.o b.e.to.l.length b.e.to.c]
def wE (g:Gr):List Value:=[.int .i64 g.caps,.slice g.bs.o g.bs.l.length g.bs.c]
def zZ (g:Grs):List Value:=[.slice g.fs.o g.fs.l.length g.fs.c,.slice g.ls.o g.ls.l.length g.ls.c,.slice g.ts.o g.ts.l.length g.ts.c,.slice g.xs.o g.xs.l.length g.xs.c,.slice g.ss.o g.ss.l.length g.ss.c]
theorem wC (s:ByteArray):(yQ s).length=1:=rfl
theorem xN (a:Atm):(zV a).length=2:=rfl
theorem xY (i:Ins):(wV i).length=5:=rfl
theorem xW (e:Edg):(uD e).length=2:=rfl
theorem yS (b:Blc):(zL b).length=6:=rfl
theorem wM (g:Gr):(wE g).length=2:=rfl
def RdV {α:Type} (w:World) (enc:α→List Value) (v:Vec α):Prop:=Rd w v.o (flat enc v.l)∧v.l.length≤v.c∧v.c≤maxLen
theorem RdV.keep {α:Type} {w w':World} {enc:α→List Value} {v:Vec α} (h:RdV w enc v) (hk:Kp w noM w'):RdV w' enc v:=⟨((HS.init w noM).keep hk).rd h.1 id,h.2⟩
theorem RdV.le {α:Type} {w:World} {enc:α→List Value} {v:Vec α} (h:RdV w enc v):v.l.length≤9223372036854775807:=by
  have h1:=h.2
  unfold maxLen at h1
  omega
def RdIn (w:World) (i:Ins):Prop:=RdV w Fw.encI i.r.ns∧RdV w zV i.r.a
def RdEn (w:World) (e:En):Prop:=RdV w zV e.a∧RdV w Fw.encI e.ns∧RdV w uD e.to∧∀x∈e.to.l,RdV w zV x.a
def RdBl (w:World) (b:Blc):Prop:=RdV w Fw.encI b.ps∧RdV w wV b.is∧(∀i∈b.is.l,RdIn w i)∧RdEn w b.e
def RdG (w:World) (g:Gr):Prop:=RdV w zL g.bs∧∀b∈g.bs.l,RdBl w b
def RdGs (w:World) (g:Grs):Prop:=RdV w wE g.fs∧(∀x∈g.fs.l,RdG w x)∧RdV w yQ g.ls∧RdV w yQ g.ts∧RdV w yQ g.xs∧RdV w yQ g.ss
theorem RdIn.keep {w w':World} {i:Ins} (h:RdIn w i) (hk:Kp w noM w'):RdIn w' i:=⟨h.1.keep hk,h.2.keep hk⟩
theorem RdEn.keep {w w':World} {e:En} (h:RdEn w e) (hk:Kp w noM w'):RdEn w' e:=⟨h.1.keep hk,h.2.1.keep hk,h.2.2.1.keep hk,fun x hx=>(h.2.2.2 x hx).keep hk⟩
theorem RdBl.keep {w w':World} {b:Blc} (h:RdBl w b) (hk:Kp w noM w'):RdBl w' b:=⟨h.1.keep hk,h.2.1.keep hk,fun i hi=>(h.2.2.1 i hi).keep hk,h.2.2.2.keep hk⟩
theorem RdG.keep {w w':World} {g:Gr} (h:RdG w g) (hk:Kp w noM w'):RdG w' g:=⟨h.1.keep hk,fun b hb=>(h.2 b hb).keep hk⟩
theorem RdGs.keep {w w':World} {g:Grs} (h:RdGs w g) (hk:Kp w noM w'):RdGs w' g:=⟨h.1.keep hk,fun x hx=>(h.2.1 x hx).keep hk,h.2.2.1.keep hk,h.2.2.2.1.keep hk,h.2.2.2.2.1.keep hk,h.2.2.2.2.2.keep hk⟩
theorem yK {α:Type} {l:List α} {i:Nat} {x:α} (h:l[i]?=some x):l.take (i+1)=l.take i++[x]:=by
  obtain ⟨hi,rfl⟩:=List.getElem?_eq_some_iff.1 h
  rw [List.take_succ_eq_append_getElem hi]
def kso:Option (Nat × List Int)→List Int
  |none=>[]
  |some p=>p.2
def wU:Option (Nat × List Int)→List Value
  |none=>[.map none]
  |some p=>[.map (some p.1)]
def sko:Option (Nat × List Int)→It
  |none=>all []
  |some p=>sk p.1 p.2
theorem rD (s:Option (Nat × List Int)):(wU s).length=1:=by cases s<;>rfl
theorem kS {α:Type} {l:List α} {i:Nat} {x:α} (h:l[i]?=some x):l.set i x=l:=by
  obtain ⟨hi,rfl⟩:=List.getElem?_eq_some_iff.1 h
  exact List.set_getElem_self hi
theorem dn_add {dn el:List (Int × Nat)} {e:Int × Nat} {ks ks':List Int} (hn:dn.Nodup) (hd:∀e∈dn,e∈el) (he:e∈el) (hs:e ∉ dn) (hks:∀x,x∈ks'↔x∈ks∨x∈dn.map (·.1)) :
    (dn++[e]).Nodup∧(∀e'∈dn++[e],e'∈el)∧∀x,x∈lU ks' e.1↔x∈ks∨x∈(dn++[e]).map (·.1):=by
  refine ⟨List.nodup_append.2 ⟨hn,List.nodup_cons.2 ⟨List.not_mem_nil,List.nodup_nil⟩,fun a ha b hb=>by rw [List.mem_singleton] at hb;subst hb;exact fun e=>hs (e▸ha)⟩,fun e' h=>?_,fun x=>?_⟩
  · rcases List.mem_append.1 h with h|h
    · exact hd e' h
    · rw [List.mem_singleton] at h;rw [h];exact he
  · rw [jA,hks,List.map_append,List.mem_append,or_assoc]
    exact or_congr Iff.rfl (or_congr Iff.rfl List.mem_singleton.symm)
theorem dn_all {dn el:List (Int × Nat)} {ks ks' kl:List Int} (hel:el.map (·.1)=kl) (hd:∀e∈dn,e∈el) (hall:∀e∈el,e∈dn) (hks:∀x,x∈ks'↔x∈ks∨x∈dn.map (·.1)) (x:Int):x∈ks'↔x∈ks∨x∈kl:=by
  rw [hks,←hel]
  refine or_congr Iff.rfl ⟨fun h=>?_,fun h=>?_⟩
  · obtain ⟨e,he,rfl⟩:=List.mem_map.1 h;exact List.mem_map.2 ⟨e,hd e he,rfl⟩
  · obtain ⟨e,he,rfl⟩:=List.mem_map.1 h;exact List.mem_map.2 ⟨e,hall e he,rfl⟩
theorem fK:flat Fw.encI []=[]:=rfl
theorem fst_inj:∀{el:List (Int × Nat)},(el.map (·.1)).Nodup→∀e∈el,∀e'∈el,e.1=e'.1→e=e'
  | x::el,hn,e,he,e',he',h=>by
    rw [List.map_cons,List.nodup_cons] at hn
    rcases List.mem_cons.1 he with rfl|h5<;>rcases List.mem_cons.1 he' with rfl|h6
    · rfl
    · exact absurd (List.mem_map.2 ⟨e',h6,h.symm⟩:e.1∈el.map (·.1)) hn.1
    · exact absurd (List.mem_map.2 ⟨e,h5,h⟩:e'.1∈el.map (·.1)) hn.1
    · exact fst_inj hn.2 e h5 e' h6 h
theorem dn_mem {el dn:List (Int × Nat)} {ks:List Int} (hel:el.map (·.1)=ks) (hd:∀e∈dn,e∈el) (hall:∀e∈el,e∈dn) (x:Int):x∈dn.map (·.1)↔x∈ks:=by
  have:=dn_all (ks:=[]) (ks':=dn.map (·.1)) hel hd hall (fun x=>by simp) x
  simpa using this
def mvO (st:Option (Nat × List Int)):Value:=.map (st.map (·.1))
theorem nY (st:Option (Nat × List Int)):wU st=[mvO st]:=by cases st<;>rfl
theorem nd_t {p:Prop} [Decidable p] (h:(!decide p)=true):¬p:=by simpa using h
theorem nd_f {p:Prop} [Decidable p] (h:(!decide p)=false):p:=by simpa using h
end Go.Proofs.YtenlcdokaadobaaGreatDoor
namespace Go.Fw
open Go Go.RowKit
set_option linter.unusedVariables false
section
variable {P:Program} {N:Nat} {l:List (Nat × Value)} {C:World→Prop} {d:Option Tmp} {T:TypeId} {pos:String} {af:Array Edge} {g:Option (Nat × Bool)}
def geS (m n:ByteArray):Bool:=!(Op.bytesLess m.toList n.toList)
theorem ex_geqS {t ty:TypeId} {x y:Operand} {m n:ByteArray} [h:TSr P t] (hx:ev l x=some (.string m)) (hy:ev l y=some (.string n)):Ex P N l C ⟨d,.binOp .geq t x y ty,T,pos,af,g⟩ (.bool (geS m n)):=by
  intro a w hA _
  simp [execOp,hA.ev hx,hA.ev hy,eqGuard_at_string,binOp,Op.stringOp,geS]
end
end Go.Fw
namespace Go.Proofs.YtenlcdokaadobaaGreatDoor
open Go Go.Fw
set_option linter.unusedVariables false
abbrev eqS (a b:ByteArray):Bool:=a.toList == b.toList
def empS:ByteArray:=⟨#[]⟩
def risAt (l:List ByteArray) (i:Nat):Prop:=eqS (l.getD i default) empS=false∧(0<i→geS (l.getD (i - 1) default) (l.getD i default)=false)
def gG (l:List ByteArray):Prop:=∀i,i<l.length→risAt l i
def uX:ByteArray:=⟨#[66,111,117,110,100,115]⟩
def pW:ByteArray:=⟨#[68,105,118,105,100,101]⟩
def exnM:ByteArray:=⟨#[77,97,116,99,104]⟩
def rX:ByteArray:=⟨#[83,105,122,101]⟩
def xC (l:List ByteArray) (s:ByteArray):Int:=
  match l.findIdx? (fun x=>eqS s x) with
  |some i=>i
  |none=>-1
def tX (l:List ByteArray) (s:ByteArray):Prop:=0≤xC l s
structure AnfP (cs:List Int) (g:Grs):Prop where
  pos:1≤cs.length
  top:cs.length≤4096
  c0:cs.getD 0 0=0
  ls:gG g.ls.l
  ts:gG g.ts.l
  xs:gG g.xs.l
  has:tX g.xs.l uX∧tX g.xs.l pW∧tX g.xs.l exnM∧tX g.xs.l rX
  ss:∀s∈g.ss.l,s.size≤4096
  caps:∀c∈cs,0≤c∧c≤4096
def wO (n:Int):Int:=if n=6∨n=9∨n=10∨n=11∨n=16∨n=17∨n=20∨n=21 then 1 else if n=15 then 3 else if n<1∨21<n then -1 else 2
abbrev tA (n m:Int):Prop:=0≤n∧n<m
def vO (cs:List Int) (r:Stp):Int:=
  if r.k=1∨r.k=10∨r.k=11 then 1 else if r.k=2 then wO r.n else if r.k=3∨r.k=12∨r.k=13 then 2
  else if r.k=4 then cs.getD r.n.toNat 0 else if r.k=5 then 0 else if r.k=6 then r.ns.l.length else if r.k=8∨r.k=9 then 1 else 2
def tM (g:Grs) (cs:List Int) (mine:Int) (r:Stp):Prop:=
  if r.k=2 then True else if r.k=4∨r.k=14 then tA r.n cs.length else if r.k=5 then tA r.n mine else if r.k=7∨r.k=8 then tA r.n g.ls.l.length else if r.k=9 then tA r.n g.ts.l.length else r.n=0
def jE (g:Grs) (l:List Int) (i:Nat):Prop:=tA (l.getD i 0) g.ls.l.length∧(0<i→l.getD (i - 1) 0<l.getD i 0)
def labP (g:Grs) (l:List Int):Prop:=∀i,i<l.length→jE g l i
structure FormP (g:Grs) (cs:List Int) (mine:Int) (r:Stp):Prop where
  lo:1≤r.k
  hi:r.k≤14
  num:tM g cs mine r
  want:(r.a.l.length:Int)=vO cs r
  ns:r.ns.l=[]∨r.k=6
  lab:r.k=6→labP g r.ns.l
def upAt (l:List Int) (i:Nat):Prop:=0<i→l.getD (i - 1) 0<l.getD i 0
def upP (l:List Int):Prop:=∀i,i<l.length→upAt l i
def mW (k:Int):Int:=if k=2 then 2 else if k=4 then 0 else 1
def jQ (n k:Int):Int:=if k=4 then 1 else if k=5 then 2 else if k=6 then n else 0
structure EndP (e:En):Prop where
  lo:1≤e.k
  hi:e.k≤6
  a:(e.a.l.length:Int)=mW e.k
  to:(e.to.l.length:Int)=jQ (IntKind.i64.wrap ((e.ns.l.length:Int)+1)) e.k
  ns:e.k=6↔0<e.ns.l.length
  up:upP e.ns.l
def atS (g:Grs) (S:Int→Prop) (a:Atm):Prop:=(a.k=1∧0≤a.n∧a.n≤1048576∧(a.n<2∨S a.n))∨(a.k=2∧-4611686018427387904≤a.n∧a.n<4611686018427387904)∨(a.k=3∧0≤a.n∧a.n<g.ss.l.length)
def bvs (b:Blc):List Int:=b.ps.l++b.is.l.map Ins.x
def goes (b:Blc) (k:Nat):Prop:=∃t∈b.e.to.l,t.b=(k:Int)
def BS (f:Gr) (k:Nat) (x:Int):Prop:=0<k∧∀m,(h:m<k)→∀bl,f.bs.l[m]?=some bl→goes bl k→x∈bvs bl∨BS f m x
termination_by k
def vK (S:Int→Prop) (bl:Blc) (i:Nat) (x:Int):Prop:=S x∨x∈bl.ps.l∨x∈(bl.is.l.take i).map Ins.x
def come (f:Gr) (n:Nat):Prop:=n=0∨∃m bl,m<n∧f.bs.l[m]?=some bl∧goes bl n
structure BlkP (g:Grs) (f:Gr) (cs:List Int) (n:Nat) (bl:Blc) (S:Int→Prop):Prop where
  first:n=0→bl.ps.l=[]
  ins:∀(i:Nat) (x:Ins),bl.is.l[i]?=some x→FormP g cs f.caps x.r∧∀a∈x.r.a.l,atS g (vK S bl i) a
  end_:EndP bl.e
  ends:∀a∈bl.e.a.l,atS g (vK S bl bl.is.l.length) a
  edges:∀t∈bl.e.to.l,(n:Int)<t.b∧t.b<f.bs.l.length∧t.a.l.length=(f.bs.l.getD t.b.toNat rG).ps.l.length∧∀a∈t.a.l,atS g (vK S bl bl.is.l.length) a
structure EvOk (es:List Int):Prop where
  nd:es.Nodup
  rg:∀x∈es,2≤x∧x≤1048576
def uZ (bl:Blc):Nat:=2+bl.ps.l.length+(bl.is.l.map fun i=>1+i.r.a.l.length).sum+bl.e.a.l.length+(bl.e.to.l.map fun t=>1+t.a.l.length).sum
def grN (f:Gr):Nat:=(f.bs.l.map uZ).sum
def rW (g:Grs):Nat:=(g.fs.l.map grN).sum
structure GrP (g:Grs) (cs:List Int) (f:Gr):Prop where
  ne:0<f.bs.l.length
  blk:∀(n:Nat) (bl:Blc),f.bs.l[n]?=some bl→come f n∧BlkP g f cs n bl (BS f n)
  ev:EvOk (f.bs.l.flatMap bvs)
structure MayP (g:Grs):Prop where
  anf:AnfP (g.fs.l.map Gr.caps) g
  gr:∀f∈g.fs.l,GrP g (g.fs.l.map Gr.caps) f
  size:rW g≤65536
inductive Vl
  |nil
  |num (n:Int)
  |txt (s:ByteArray)
  |fn (f:Int) (l:List Vl)
  |rc (ns:List Int) (l:List Vl)
  |tg (n:Int) (x:Vl)
  |cl (i:Nat)
  |ar (i:Nat)
def asNum:Vl→Option Int
  | .num n=>some n
  |_=>none
def asTxt:Vl→Option ByteArray
  | .txt s=>some s
  |_=>none
def asFn:Vl→Option (Int × List Vl)
  | .fn f l=>some (f,l)
  |_=>none
def asRc:Vl→Option (List Int × List Vl)
  | .rc ns l=>some (ns,l)
  |_=>none
def asTg:Vl→Option (Int × Vl)
  | .tg n x=>some (n,x)
  |_=>none
def asCl:Vl→Option Nat
  | .cl i=>some i
  |_=>none
def asAr:Vl→Option Nat
  | .ar i=>some i
  |_=>none
structure Wd where
  inp:ByteArray
  out:List Nat
  st:List (List Vl)
def pJ (n:Int):Int:=IntKind.i64.wrap n
def w63 (n:Int):Int:=pR .i64 (shlK .i64 n 1) 1
def tru (b:Bool):Int:=if b then 1 else 0
def opG (op a b:Int):Int:=
  if op=1 then pJ (a+b) else if op=2 then pJ (a - b) else if op=3 then pJ (a*b) else if op=4 then pJ (Int.tdiv a b) else if op=5 then Int.tmod a b
  else if op=6 then pJ (-a) else if op=7 then tru (decide (a=b)) else if op=8 then tru (decide (a<b)) else tru (decide (a=0))
def doF (op a b:Int):Option Int:=if op<1∨9<op then none else if w63 b=0∧(op=4∨op=5) then none else some (w63 (opG op (w63 a) (w63 b)))
def bsL (l:List Int) (x:Int) (i j:Nat):Nat:=
  if i<j then (if l.getD ((i+j) / 2) 0<x then bsL l x ((i+j) / 2+1) j else bsL l x i ((i+j) / 2)) else i
termination_by j - i
def bsI (l:List Int) (x:Int):Nat:=bsL l x 0 l.length
def bsB (l:List Int) (x:Int):Bool:=decide (bsI l x<l.length∧l.getD (bsI l x) 0=x)
theorem bsL_le (l:List Int) (x:Int) (i j:Nat) (h:i≤j):i≤bsL l x i j∧bsL l x i j≤j:=by
  fun_induction bsL l x i j with
  |case1 i j h1 h2 ih=>have:=ih (by omega);omega
  |case2 i j h1 h2 ih=>have:=ih (by omega);omega
  |case3 i j h1=>omega
theorem jV (l:List Int) (x:Int):bsI l x≤l.length:=(bsL_le l x 0 l.length (Nat.zero_le _)).2
inductive Rs
  |val (v:Vl) (w:Wd)
  |exn (s:ByteArray)
def zS (l:List Vl) (i:Nat):Vl:=l.getD i .nil
def stk (w:Wd):Rs:=.val .nil w
def wG (op:Int) (l:List Vl) (w:Wd):Rs:=
  match asTxt (zS l 0) with
  | some s=>
    if op=17 then .val (.num (bts s).length) w
    else if op=19 then
      match asTxt (zS l 1) with
      |some t=>if 4096<(bts s).length+(bts t).length then .exn rX else .val (.txt (s++t)) w
      |none=>stk w
    else
      match asNum (zS l 1) with
      |some i=>if i<0∨((bts s).length:Int)≤i then .exn uX else .val (.num ((bts s).getD i.toNat 0)) w
      |none=>stk w
  |none=>stk w
def vV (op:Int) (l:List Vl) (w:Wd):Rs:=
  if op=13 then
    match asNum (zS l 0) with
    |some n=>if n<0∨256<n then .exn rX else .val (.ar w.st.length) {w with st:=w.st++[List.replicate n.toNat (zS l 1)]}
    |none=>stk w
  else
    match asAr (zS l 0) with
    | some p=>
      if op=16 then .val (.num (w.st.getD p []).length) w
      else
        match asNum (zS l 1) with
        | some i=>
          if i<0∨((w.st.getD p []).length:Int)≤i then .exn uX
          else if op=14 then .val (zS (w.st.getD p []) i.toNat) w
          else .val (.num 0) {w with st:=w.st.set p ((w.st.getD p []).set i.toNat (zS l 2))}
        |none=>stk w
    |none=>stk w
def opF (op:Int) (l:List Vl) (w:Wd):Rs:=
  if op=10 then .val (.cl w.st.length) {w with st:=w.st++[[zS l 0]]}
  else if op=11 then
    match asCl (zS l 0) with
    |some p=>.val (zS (w.st.getD p []) 0) w
    |none=>stk w
  else if op=12 then
    match asCl (zS l 0) with
    |some p=>.val (.num 0) {w with st:=w.st.set p [zS l 1]}
    |none=>stk w
  else if op=17∨op=18∨op=19 then wG op l w
  else if op=13∨op=14∨op=15∨op=16 then vV op l w
  else
    match asNum (zS l 0),(if 1<l.length then asNum (zS l 1) else some 0) with
    | some a,some b=>
      if op=20 then (if eqS w.inp empS=true then .val (.num (-1)) w else .val (.num ((bts w.inp).getD 0 0)) {w with inp:=w.inp.extract 1 w.inp.size})
      else if op=21 then .val (.num 0) {w with out:=w.out++[(IntKind.u8.wrap a).toNat]}
      else match doF op a b with
        |some n=>.val (.num n) w
        |none=>.exn pW
    |_,_=>stk w
def yD (r:Stp) (l:List Vl) (cs:List Vl) (w:Wd):Rs:=
  if r.k=1 then .val (zS l 0) w
  else if r.k=2 then opF r.n l w
  else if r.k=4 then .val (.fn r.n l) w
  else if r.k=5 then .val (zS cs r.n.toNat) w
  else if r.k=6 then .val (.rc r.ns.l l) w
  else if r.k=7 then
    match asRc (zS l 0) with
    |some (ns,xs)=>if bsB ns r.n then .val (.rc ns (xs.set (bsI ns r.n) (zS l 1))) w else .val (.rc (ns.insertIdx (bsI ns r.n) r.n) (xs.insertIdx (bsI ns r.n) (zS l 1))) w
    |none=>stk w
  else if r.k=8 then
    match asRc (zS l 0) with
    |some (ns,xs)=>if bsB ns r.n then .val (zS xs (bsI ns r.n)) w else stk w
    |none=>stk w
  else if r.k=9 then .val (.tg r.n (zS l 0)) w
  else if r.k=10 then
    match asTg (zS l 0) with
    |some (n,x)=>.val (.num n) w
    |none=>stk w
  else if r.k=11 then
    match asTg (zS l 0) with
    |some (n,x)=>.val x w
    |none=>stk w
  else if r.k=12 then
    match asTxt (zS l 0),asTxt (zS l 1) with
    |some s,some t=>.val (.num (tru (eqS s t))) w
    |_,_=>stk w
  else stk w
def qD (m:List (Int × Vl)) (k:Int) (v:Vl):List (Int × Vl):=
  if (m.find? (fun e=>e.1 == k)).isSome then m.map (fun e=>if e.1 == k then (k,v) else e) else m++[(k,v)]
def pget (m:List (Int × Vl)) (k:Int):Vl:=((m.find? (fun e=>e.1 == k)).map (·.2)).getD .nil
abbrev Clo:=Int × List Vl
structure Fm where
  c:Clo
  vs:List (Int × Vl)
  b:Nat
  i:Nat
  h:Option Clo
structure Mc where
  wd:Wd
  sk:List Fm
  fm:Fm
inductive Sr
  |go (m:Mc)
  |stop (kind:Int) (res:ByteArray) (wd:Wd)
def wZ (w:Wd):Sr:=.stop 4 ⟨#[]⟩ w
def xQ (g:Grs) (f:Int) (b:Nat):Blc:=(g.fs.l.getD f.toNat gr0).bs.l.getD b rG
def uH (g:Grs) (m:Fm):Blc:=xQ g m.c.1 m.b
def rM (g:Grs) (fm:Fm) (a:Atm):Vl:=if a.k=1 then pget fm.vs a.n else if a.k=3 then .txt (g.ss.l.getD a.n.toNat default) else .num a.n
def xZ (g:Grs) (fm:Fm) (l:List Atm):List Vl:=l.map (rM g fm)
def qH (c:Clo) (x:Vl):Fm:=⟨c,[(0,.fn c.1 c.2),(1,x)],0,0,none⟩
def vN (f x:Vl) (w:Wd) (sk:List Fm):Sr:=
  match asFn f with
  |some c=>.go ⟨w,sk,qH c x⟩
  |none=>wZ w
def rJ (n:Int) (w:Wd):List Fm→Option (List Fm × Clo)
  | []=>none
  | f::r=>match f.h with
    |some c=>some ({f with h:=none}::r,c)
    |none=>rJ n w r
def raiseB:ByteArray:=⟨#[114,97,105,115,101,32]⟩
def vH (g:Grs) (n:Int) (w:Wd) (sk:List Fm):Sr:=
  if n<0∨(g.xs.l.length:Int)≤n then wZ w
  else match rJ n w sk with
    |some (sk',c)=>.go ⟨w,sk',qH c (.num n)⟩
    |none=>.stop 1 (raiseB++g.xs.l.getD n.toNat default) w
end Go.Proofs.YtenlcdokaadobaaGreatDoor
namespace Go.Fw
open Go Go.RowKit
set_option linter.unusedVariables false
class TNi (P:Program) (t:TypeId):Prop where
  eq:∃d,P.underlying t=some d∧(match d with| .interface _=>true|_=>false)=false
class TIc (P:Program) (t:TypeId):Prop where
  eq:∃ms,P.underlying t=some (.interface ms)
section
variable {P:Program} {N:Nat} {l:List (Nat × Value)} {C:World→Prop} {d:Option Tmp} {T:TypeId} {pos:String} {af:Array Edge} {g:Option (Nat × Bool)}
theorem yJ {t:TypeId} {x:Operand} {v:Value} [h:TNi P t] (hx:ev l x=some v):Ex P N l C ⟨d,.makeInterface t x,T,pos,af,g⟩ (.iface t v):=by
  intro a w hA _
  obtain ⟨u,h1,h2⟩:=h.eq
  cases u<;>simp_all [execOp,hA.ev hx,Instr.makeInterface,run_underlying h1]
theorem zW {xt t:TypeId} {x:Operand} {v:Value} [h:TNi P t] (hx:ev l x=some (.iface t v)):Ex P N l C ⟨d,.typeAssert x xt t true,T,pos,af,g⟩ (.tuple #[v,.bool true]):=by
  intro a w hA _
  obtain ⟨u,h1,h2⟩:=h.eq
  cases u<;>simp_all [execOp,hA.ev hx,Instr.typeAssert,run_underlying h1]
theorem uO {xt t s sz by_:Nat} {z:Value} {zs:List Value} {x:Operand} {v:Value} [h:TNi P t] [hi:TIf P t z zs sz by_] (hx:ev l x=some (.iface s v)) (hne:Nat.beq s t=false):Ex P N l C ⟨d,.typeAssert x xt t true,T,pos,af,g⟩ (.tuple #[z,.bool false]):=by
  intro a w hA _
  obtain ⟨u,h1,h2⟩:=h.eq
  obtain ⟨ti,h3,h4,h5,h6⟩:=hi.eq
  have hst:s≠t:=fun e=>by subst e;simp at hne
  cases u<;>simp_all [execOp,hA.ev hx,Instr.typeAssert,run_underlying h1,zeroValue,typeInfo]
theorem jP {xt t sz by_:Nat} {z:Value} {zs:List Value} {x:Operand} [h:TNi P t] [hi:TIf P t z zs sz by_] (hx:ev l x=some .nilIface):Ex P N l C ⟨d,.typeAssert x xt t true,T,pos,af,g⟩ (.tuple #[z,.bool false]):=by
  intro a w hA _
  obtain ⟨u,h1,h2⟩:=h.eq
  obtain ⟨ti,h3,h4,h5,h6⟩:=hi.eq
  cases u<;>simp_all [execOp,hA.ev hx,Instr.typeAssert,run_underlying h1,zeroValue,typeInfo]
theorem run_eqlI0 (w:World) (D:Nat) (t:TypeId) {ms:Array (String × TypeId)} (h:P.underlying t=some (.interface ms)):(Op.equalIn (D+1) t .nilIface .nilIface).run P w= .ok true w:=by
  simp [Op.equalIn,run_underlying h]
theorem run_eqlI1 (w:World) (D:Nat) (t s:TypeId) (v:Value) {ms:Array (String × TypeId)} (h:P.underlying t=some (.interface ms)):(Op.equalIn (D+1) t (.iface s v) .nilIface).run P w= .ok false w:=by
  simp [Op.equalIn,run_underlying h]
theorem ex_eqlI0 {t ty:TypeId} {x:Operand} [h:TIc P t] (hx:ev l x=some .nilIface):Ex P N l C ⟨d,.binOp .eql t x (.const .nilIface) ty,T,pos,af,g⟩ (.bool true):=by
  intro a w hA _
  obtain ⟨ms,h1⟩:=h.eq
  have e:a.eval (.const .nilIface)= .nilIface:=rfl
  have e2:(Op.equal t .nilIface .nilIface).run P w= .ok true w:=run_eqlI0 w 9999 t h1
  simp [execOp,hA.ev hx,e,eqGuard_nil_constR,binOp,e2]
theorem ex_eqlI1 {t ty s:TypeId} {v:Value} {x:Operand} [h:TIc P t] (hx:ev l x=some (.iface s v)):Ex P N l C ⟨d,.binOp .eql t x (.const .nilIface) ty,T,pos,af,g⟩ (.bool false):=by
  intro a w hA _
  obtain ⟨ms,h1⟩:=h.eq
  have e:a.eval (.const .nilIface)= .nilIface:=rfl
  have e2:(Op.equal t (.iface s v) .nilIface).run P w= .ok false w:=run_eqlI1 w 9999 t s v h1
  simp [execOp,hA.ev hx,e,eqGuard_at_iface,binOp,e2]
theorem sI {t ty:TypeId} {x y:Operand} {m n:ByteArray} [h:TSr P t] (hx:ev l x=some (.string m)) (hy:ev l y=some (.string n)) (hs:m.size+n.size≤9223372036854775807):Ex P N l C ⟨d,.binOp .add t x y ty,T,pos,af,g⟩ (.string (m++n)):=by
  intro a w hA _
  have h1:¬((m.size+n.size:Nat):Int) > IntKind.i64.max:=by
    have:IntKind.i64.max=9223372036854775807:=by decide
    rw [this];omega
  simp only [execOp,hA.ev hx,hA.ev hy,eqGuard_at_string,binOp,Op.stringOp,if_neg h1]
  rfl
theorem uN {t:TypeId} {x y:Operand} {s:ByteArray} {kd:IntKind} {m:Int} {i:Nat} [ht:TSr P t] (hx:ev l x=some (.string s)) (hy:ev l y=some (.int kd m)) (hk:m=(i:Int)) (hij:i≤s.size) :
    Ex P N l C ⟨d,.slice t x (some y) none none,T,pos,af,g⟩ (.string (s.extract i s.size)):=by
  intro a w hA _
  subst hk
  have h2:(i:Int)≤(s.size:Int):=by omega
  simp only [execOp,hA.ev hx,Instr.sliceAt,Sem.run_bind,run_underlying ht.eq,Result.andThen_ok,Instr.slice,Instr.sliceBounds,Option.map_some,Option.map_none,Sem.run_pure,hA.ev hy,Instr.sliceBound,asIntOf]
  simp [hij]
end
def frz (w0:World) (K:World→Prop):It where
  sat w F:=(∀b,F b→b<w.heap.size)∧∀w':World,Kp w0 noM w'→(∀b,F b→w'.heap[b]?=w.heap[b]?)→K w'
  loc:=fun {w w' F} ⟨h1,h2⟩ he=>⟨fun b hb=>by
    have h3:=he b hb
    rw [Array.getElem?_eq_getElem (h1 b hb)] at h3
    exact uW h3,fun w2 hk h3=>h2 w2 hk fun b hb=>(h3 b hb).trans (he b hb)⟩
  lt:=fun ⟨h1,_⟩ b hb=>h1 b hb
  ext:=fun ⟨h1,h2⟩ he=>⟨fun b hb=>h1 b ((he b).2 hb),fun w' hk h3=>h2 w' hk fun b hb=>h3 b ((he b).1 hb)⟩
section
variable {w0 w w':World} {H L:List It} {K K1 K2:World→Prop}
theorem HS.frz (h:HS w0 noM H w) (hm:Go.Fw.frz w0 K∈H):K w:=
  let ⟨_,h1,h2⟩:=h.sat hm
  h2 w h.kp fun _ _=>rfl
theorem HS.frz_mono (h:HS w0 noM (Go.Fw.frz w0 K1::H) w) (hK:∀w,K1 w→K2 w):HS w0 noM (Go.Fw.frz w0 K2::H) w:=
  h.conv .here fun F ⟨h1,h2⟩=>⟨h1,fun w' hk h3=>hK _ (h2 w' hk h3)⟩
theorem HS.frz_nil (h:HS w0 noM H w) (hK:∀w,Kp w0 noM w→K w):HS w0 noM (Go.Fw.frz w0 K::H) w:=by
  obtain ⟨hk,F,hF,ho⟩:=h
  exact ⟨hk,F,⟨fun _=>False,F,fun b=>by simp,fun b hb=>hb.elim,⟨fun b hb=>hb.elim,fun w' hk _=>hK w' hk⟩,hF⟩,ho⟩
theorem HS.frz_all (h:HS w0 noM (all (L++[Go.Fw.frz w0 K])::H) w) (hK:∀w F,Hp w L F→K1 w):HS w0 noM (Go.Fw.frz w0 (fun w=>K1 w∧K w)::H) w:=
  h.conv .here fun F h1=>⟨fun b hb=>Hp.lt h1 b hb,fun w' hk h3=>by
    obtain ⟨F1,F2,hF,hd,h4,h5⟩:=Hp.append (Hp.loc h1 h3)
    obtain ⟨F3,F4,hG,hd',h6,h7⟩:=h5
    exact ⟨hK w' F1 h4,h6.2 w' hk fun _ _=>rfl⟩⟩
theorem HS.frz_it {it:It} (h:HS w0 noM (it::Go.Fw.frz w0 K::H) w) (hK:∀w F,it.sat w F→K1 w):HS w0 noM (Go.Fw.frz w0 (fun w=>K1 w∧K w)::H) w:=by
  have h1:HS w0 noM (all ([it]++[Go.Fw.frz w0 K])::H) w:=HS.shut (L:=[it]++[Go.Fw.frz w0 K]) h
  exact h1.frz_all fun w F ⟨F1,F2,hF,hd,h2,h3⟩=>hK w F1 h2
theorem HS.frz_own {T sz:Nat} {o:Option Addr} {n c:Nat} {xs:List Value} (h:HS w0 noM (own T sz o n c xs::Go.Fw.frz w0 K::H) w):HS w0 noM (Go.Fw.frz w0 (fun w=>Rd w o xs∧K w)::H) w:=
  h.frz_it fun w F h1=>Fw.own_rd h1
theorem yF {j:Nat} {o:Option Addr} {xs vs:List Value} (hm:frz w0 K∈H) (hr:∀w,K w→Rd w o xs) (hv:∀i v,vs[i]?=some v→xs[j+i]?=some v):Cls (HS w0 noM H) (sat o j) vs:=by
  intro w hH i v hi
  rw [kF]
  exact (hr w (hH.frz hm)).2 (j+i) v (hv i v hi)
theorem zP {j:Nat} {o:Option Addr} {xs:List Value} {v:Value} (hm:frz w0 K∈H) (hr:∀w,K w→Rd w o xs) (hv:xs[j]?=some v):Cl (HS w0 noM H) (sat o j) v:=
  fun w hH=>(hr w (hH.frz hm)).2 j v hv
end
def RdB (w:World) (p:Nat) (cs:List Value):Prop:=∀j u,cs[j]?=some u→w.cell? (bat p j)=some u
section
variable {w0 w w':World} {H L:List It} {K K1 K2:World→Prop}
theorem RdB.of_blk {p T:Nat} {cs:List Value} (h:w.heap[p]?=some (.cells cs.toArray T (0,0))):RdB w p cs:=fun j u hj=>by
  rw [bat,tD h]
  simpa using hj
theorem HS.frz_cb {b T:Nat} {cs:List Value} (h:HS w0 noM (cb b T cs::Go.Fw.frz w0 K::H) w):HS w0 noM (Go.Fw.frz w0 (fun w=>RdB w b cs∧K w)::H) w:=
  h.frz_it fun w F ⟨_,h1⟩=>RdB.of_blk h1
theorem vE {p j:Nat} {cs:List Value} {v:Value} (hm:frz w0 K∈H) (hr:∀w,K w→RdB w p cs) (hv:nth cs j=some v):Cl (HS w0 noM H) (bat p j) v:=
  fun w hH=>hr w (hH.frz hm) j v (by rw [←qG];exact hv)
end
end Go.Fw
namespace Go.Proofs.YtenlcdokaadobaaGreatDoor
open Go Go.Fw
set_option linter.unusedVariables false
structure Cx where
  K:World→Prop
  ad:List (Nat × Bool)
  bd:Nat
  nf:Nat
def iok (n:Int):Prop:=-9223372036854775808≤n∧n≤9223372036854775807
def uT (T p:Nat):Value:=.iface T (.pointer (some (bat p 0)))
mutual
def RV (c:Cx):Vl→Value→Prop
  | .nil,v=>v= .nilIface
  | .num n,v=>v= .iface 2 (.int .i64 n)∧iok n
  | .txt s,v=>v= .iface 9 (.string s)∧s.size≤4096
  | .fn f l,v=>∃p o k vs,v=uT 79 p∧(0≤f∧f<c.nf)∧(∀w,c.K w→RdB w p [.int .i64 f,.slice o l.length k])∧(∀w,c.K w→Rd w o vs)∧RVs c l vs
  | .rc ns l,v=>∃p on cn ol cl vs,v=uT 194 p∧(ns.length=l.length∧ns.length≤c.bd∧ns.length≤cn∧cn≤maxLen∧l.length≤cl∧cl≤maxLen)∧(∀w,c.K w→RdB w p [.slice on ns.length cn,.slice ol l.length cl])∧(∀w,c.K w→Rd w on (flat Fw.encI ns))∧(∀w,c.K w→Rd w ol vs)∧RVs c l vs
  | .tg n x,v=>∃p u,v=uT 202 p∧iok n∧(∀w,c.K w→RdB w p [.int .i64 n,u])∧RV c x u
  | .cl i,v=>∃p,v=uT 232 p∧c.ad[i]?=some (p,true)
  | .ar i,v=>∃p,v=uT 243 p∧c.ad[i]?=some (p,false)
def RVs (c:Cx):List Vl→List Value→Prop
  | [],vs=>vs=[]
  |x::l,vs=>∃v r,vs=v::r∧RV c x v∧RVs c l r
end
structure Cx.le (c d:Cx):Prop where
  K:∀w,d.K w→c.K w
  ad:∃t,d.ad=c.ad++t
  bd:c.bd≤d.bd
  nf:c.nf=d.nf
theorem Cx.le_refl (c:Cx):c.le c:=⟨fun _ h=>h,⟨[],by simp⟩,Nat.le_refl _,rfl⟩
theorem Cx.le.trans {c d e:Cx} (h:c.le d) (h':d.le e):c.le e:=by
  obtain ⟨t,ht⟩:=h.ad
  obtain ⟨t',ht'⟩:=h'.ad
  exact ⟨fun w hw=>h.K w (h'.K w hw),⟨t++t',by rw [ht',ht,List.append_assoc]⟩,Nat.le_trans h.bd h'.bd,h.nf.trans h'.nf⟩
theorem Cx.le.at {c d:Cx} (h:c.le d) {i:Nat} {e:Nat × Bool} (hi:c.ad[i]?=some e):d.ad[i]?=some e:=by
  obtain ⟨t,ht⟩:=h.ad
  rw [ht,List.getElem?_append_left (List.getElem?_eq_some_iff.1 hi).1]
  exact hi
mutual
theorem RV.mono {c d:Cx} (h:c.le d):∀(x:Vl) (v:Value),RV c x v→RV d x v
  | .nil,v,hv=>by rw [RV] at hv ⊢;exact hv
  | .num n,v,hv=>by rw [RV] at hv ⊢;exact hv
  | .txt s,v,hv=>by rw [RV] at hv ⊢;exact hv
  | .fn f l,v,hv=>by
    rw [RV] at hv ⊢
    obtain ⟨p,o,k,vs,h1,h2,h3,h4,h5⟩:=hv
    exact ⟨p,o,k,vs,h1,h.nf▸h2,fun w hw=>h3 w (h.K w hw),fun w hw=>h4 w (h.K w hw),RVs.mono h l vs h5⟩
  | .rc ns l,v,hv=>by
    rw [RV] at hv ⊢
    obtain ⟨p,on,cn,ol,cl,vs,h1,h2,h3,h4,h5,h6⟩:=hv
    exact ⟨p,on,cn,ol,cl,vs,h1,⟨h2.1,Nat.le_trans h2.2.1 h.bd,h2.2.2⟩,fun w hw=>h3 w (h.K w hw),fun w hw=>h4 w (h.K w hw),fun w hw=>h5 w (h.K w hw),RVs.mono h l vs h6⟩
  | .tg n x,v,hv=>by
    rw [RV] at hv ⊢
    obtain ⟨p,u,h1,h2,h3,h4⟩:=hv
    exact ⟨p,u,h1,h2,fun w hw=>h3 w (h.K w hw),RV.mono h x u h4⟩
  | .cl i,v,hv=>by
    rw [RV] at hv ⊢
    obtain ⟨p,h1,h2⟩:=hv
    exact ⟨p,h1,h.at h2⟩
  | .ar i,v,hv=>by
    rw [RV] at hv ⊢
    obtain ⟨p,h1,h2⟩:=hv
    exact ⟨p,h1,h.at h2⟩
theorem RVs.mono {c d:Cx} (h:c.le d):∀(l:List Vl) (vs:List Value),RVs c l vs→RVs d l vs
  | [],vs,hv=>by rw [RVs] at hv ⊢;exact hv
  | x::l,vs,hv=>by
    rw [RVs] at hv ⊢
    obtain ⟨v,r,h1,h2,h3⟩:=hv
    exact ⟨v,r,h1,RV.mono h x v h2,RVs.mono h l r h3⟩
end
theorem RV.one {c:Cx} {x:Vl} {v:Value} (h:RV c x v):v.oneCell'=true:=by
  cases x<;>rw [RV] at h
  · rw [h];rfl
  · rw [h.1];rfl
  · rw [h.1];rfl
  · obtain ⟨p,o,k,vs,h1,_⟩:=h;rw [h1];rfl
  · obtain ⟨p,on,cn,ol,cl,vs,h1,_⟩:=h;rw [h1];rfl
  · obtain ⟨p,u,h1,_⟩:=h;rw [h1];rfl
  · obtain ⟨p,h1,_⟩:=h;rw [h1];rfl
  · obtain ⟨p,h1,_⟩:=h;rw [h1];rfl
def NotT (T:TypeId) (v:Value):Prop:=v= .nilIface∨∃s u,v= .iface s u∧Nat.beq s T=false
instance:TNi Tryz.prog 2:=⟨_,Tryz.underlying2,rfl⟩
instance:TNi Tryz.prog 9:=⟨_,Tryz.underlying9,rfl⟩
instance:TNi Tryz.prog 79:=⟨_,Tryz.underlying79,rfl⟩
instance:TNi Tryz.prog 194:=⟨_,Tryz.underlying194,rfl⟩
instance:TNi Tryz.prog 202:=⟨_,Tryz.underlying202,rfl⟩
instance:TNi Tryz.prog 232:=⟨_,Tryz.underlying232,rfl⟩
instance:TNi Tryz.prog 243:=⟨_,Tryz.underlying243,rfl⟩
instance:TIc Tryz.prog 137:=⟨_,Tryz.underlying137⟩
theorem yO {P:Program} {N:Nat} {l:List (Nat × Value)} {C:World→Prop} {d:Option Tmp} {T:TypeId} {pos:String} {af:Array Edge} {g:Option (Nat × Bool)} {xt t sz by_:Nat} {z:Value} {zs:List Value} {x:Operand} {v:Value} [h:TNi P t] [hi:TIf P t z zs sz by_] (hx:ev l x=some v) (hn:NotT t v) :
    Ex P N l C ⟨d,.typeAssert x xt t true,T,pos,af,g⟩ (.tuple #[z,.bool false]):=by
  rcases hn with rfl| ⟨s,u,rfl,hb⟩
  · exact jP hx
  · exact uO hx hb
theorem RV.asNum {c:Cx} {x:Vl} {v:Value} (h:RV c x v):(∃n,asNum x=some n∧v= .iface 2 (.int .i64 n)∧iok n)∨(asNum x=none∧NotT 2 v):=by
  cases x<;>rw [RV] at h
  · exact .inr ⟨rfl,.inl h⟩
  · exact .inl ⟨_,rfl,h⟩
  · exact .inr ⟨rfl,.inr ⟨_,_,h.1,rfl⟩⟩
  · obtain ⟨p,o,k,vs,h1,_⟩:=h;exact .inr ⟨rfl,.inr ⟨_,_,h1,rfl⟩⟩
  · obtain ⟨p,on,cn,ol,cl,vs,h1,_⟩:=h;exact .inr ⟨rfl,.inr ⟨_,_,h1,rfl⟩⟩
  · obtain ⟨p,u,h1,_⟩:=h;exact .inr ⟨rfl,.inr ⟨_,_,h1,rfl⟩⟩
  · obtain ⟨p,h1,_⟩:=h;exact .inr ⟨rfl,.inr ⟨_,_,h1,rfl⟩⟩
  · obtain ⟨p,h1,_⟩:=h;exact .inr ⟨rfl,.inr ⟨_,_,h1,rfl⟩⟩
theorem RV.asTxt {c:Cx} {x:Vl} {v:Value} (h:RV c x v):(∃s,asTxt x=some s∧v= .iface 9 (.string s)∧s.size≤4096)∨(asTxt x=none∧NotT 9 v):=by
  cases x<;>rw [RV] at h
  · exact .inr ⟨rfl,.inl h⟩
  · exact .inr ⟨rfl,.inr ⟨_,_,h.1,rfl⟩⟩
  · exact .inl ⟨_,rfl,h⟩
  · obtain ⟨p,o,k,vs,h1,_⟩:=h;exact .inr ⟨rfl,.inr ⟨_,_,h1,rfl⟩⟩
  · obtain ⟨p,on,cn,ol,cl,vs,h1,_⟩:=h;exact .inr ⟨rfl,.inr ⟨_,_,h1,rfl⟩⟩
  · obtain ⟨p,u,h1,_⟩:=h;exact .inr ⟨rfl,.inr ⟨_,_,h1,rfl⟩⟩
  · obtain ⟨p,h1,_⟩:=h;exact .inr ⟨rfl,.inr ⟨_,_,h1,rfl⟩⟩
  · obtain ⟨p,h1,_⟩:=h;exact .inr ⟨rfl,.inr ⟨_,_,h1,rfl⟩⟩
def FnR (c:Cx) (f:Int) (l:List Vl) (p:Nat):Prop:=∃o k vs,(0≤f∧f<c.nf)∧(∀w,c.K w→RdB w p [.int .i64 f,.slice o l.length k])∧(∀w,c.K w→Rd w o vs)∧RVs c l vs
theorem FnR.rv {c:Cx} {f:Int} {l:List Vl} {p:Nat} (h:FnR c f l p):RV c (.fn f l) (uT 79 p):=by
  obtain ⟨o,k,vs,h1,h2,h3,h4⟩:=h
  rw [RV]
  exact ⟨p,o,k,vs,rfl,h1,h2,h3,h4⟩
theorem FnR.mono {c d:Cx} (h:c.le d) {f:Int} {l:List Vl} {p:Nat} (hf:FnR c f l p):FnR d f l p:=by
  obtain ⟨o,k,vs,h1,h2,h3,h4⟩:=hf
  exact ⟨o,k,vs,h.nf▸h1,fun w hw=>h2 w (h.K w hw),fun w hw=>h3 w (h.K w hw),RVs.mono h _ _ h4⟩
theorem RV.asFn {c:Cx} {x:Vl} {v:Value} (h:RV c x v):(∃f l p,asFn x=some (f,l)∧v=uT 79 p∧FnR c f l p)∨(asFn x=none∧NotT 79 v):=by
  cases x<;>rw [RV] at h
  · exact .inr ⟨rfl,.inl h⟩
  · exact .inr ⟨rfl,.inr ⟨_,_,h.1,rfl⟩⟩
  · exact .inr ⟨rfl,.inr ⟨_,_,h.1,rfl⟩⟩
  · obtain ⟨p,o,k,vs,h1,h2⟩:=h;exact .inl ⟨_,_,p,rfl,h1,o,k,vs,h2⟩
  · obtain ⟨p,on,cn,ol,cl,vs,h1,_⟩:=h;exact .inr ⟨rfl,.inr ⟨_,_,h1,rfl⟩⟩
  · obtain ⟨p,u,h1,_⟩:=h;exact .inr ⟨rfl,.inr ⟨_,_,h1,rfl⟩⟩
  · obtain ⟨p,h1,_⟩:=h;exact .inr ⟨rfl,.inr ⟨_,_,h1,rfl⟩⟩
  · obtain ⟨p,h1,_⟩:=h;exact .inr ⟨rfl,.inr ⟨_,_,h1,rfl⟩⟩
theorem RV.asRc {c:Cx} {x:Vl} {v:Value} (h:RV c x v):(∃ns l p on cn ol cl vs,asRc x=some (ns,l)∧v=uT 194 p∧(ns.length=l.length∧ns.length≤c.bd∧ns.length≤cn∧cn≤maxLen∧l.length≤cl∧cl≤maxLen)∧(∀w,c.K w→RdB w p [.slice on ns.length cn,.slice ol l.length cl])∧(∀w,c.K w→Rd w on (flat Fw.encI ns))∧(∀w,c.K w→Rd w ol vs)∧RVs c l vs)∨(asRc x=none∧NotT 194 v):=by
  cases x<;>rw [RV] at h
  · exact .inr ⟨rfl,.inl h⟩
  · exact .inr ⟨rfl,.inr ⟨_,_,h.1,rfl⟩⟩
  · exact .inr ⟨rfl,.inr ⟨_,_,h.1,rfl⟩⟩
  · obtain ⟨p,o,k,vs,h1,h2⟩:=h;exact .inr ⟨rfl,.inr ⟨_,_,h1,rfl⟩⟩
  · obtain ⟨p,on,cn,ol,cl,vs,h1,h2⟩:=h;exact .inl ⟨_,_,p,on,cn,ol,cl,vs,rfl,h1,h2⟩
  · obtain ⟨p,u,h1,_⟩:=h;exact .inr ⟨rfl,.inr ⟨_,_,h1,rfl⟩⟩
  · obtain ⟨p,h1,_⟩:=h;exact .inr ⟨rfl,.inr ⟨_,_,h1,rfl⟩⟩
  · obtain ⟨p,h1,_⟩:=h;exact .inr ⟨rfl,.inr ⟨_,_,h1,rfl⟩⟩
theorem RV.asTg {c:Cx} {x:Vl} {v:Value} (h:RV c x v):(∃n y p u,asTg x=some (n,y)∧v=uT 202 p∧iok n∧(∀w,c.K w→RdB w p [.int .i64 n,u])∧RV c y u)∨(asTg x=none∧NotT 202 v):=by
  cases x<;>rw [RV] at h
  · exact .inr ⟨rfl,.inl h⟩
  · exact .inr ⟨rfl,.inr ⟨_,_,h.1,rfl⟩⟩
  · exact .inr ⟨rfl,.inr ⟨_,_,h.1,rfl⟩⟩
  · obtain ⟨p,o,k,vs,h1,h2⟩:=h;exact .inr ⟨rfl,.inr ⟨_,_,h1,rfl⟩⟩
  · obtain ⟨p,on,cn,ol,cl,vs,h1,h2⟩:=h;exact .inr ⟨rfl,.inr ⟨_,_,h1,rfl⟩⟩
  · obtain ⟨p,u,h1,h2⟩:=h;exact .inl ⟨_,_,p,u,rfl,h1,h2⟩
  · obtain ⟨p,h1,_⟩:=h;exact .inr ⟨rfl,.inr ⟨_,_,h1,rfl⟩⟩
  · obtain ⟨p,h1,_⟩:=h;exact .inr ⟨rfl,.inr ⟨_,_,h1,rfl⟩⟩
theorem RV.asCl {c:Cx} {x:Vl} {v:Value} (h:RV c x v):(∃i p,asCl x=some i∧v=uT 232 p∧c.ad[i]?=some (p,true))∨(asCl x=none∧NotT 232 v):=by
  cases x<;>rw [RV] at h
  · exact .inr ⟨rfl,.inl h⟩
  · exact .inr ⟨rfl,.inr ⟨_,_,h.1,rfl⟩⟩
  · exact .inr ⟨rfl,.inr ⟨_,_,h.1,rfl⟩⟩
  · obtain ⟨p,o,k,vs,h1,h2⟩:=h;exact .inr ⟨rfl,.inr ⟨_,_,h1,rfl⟩⟩
  · obtain ⟨p,on,cn,ol,cl,vs,h1,h2⟩:=h;exact .inr ⟨rfl,.inr ⟨_,_,h1,rfl⟩⟩
  · obtain ⟨p,u,h1,h2⟩:=h;exact .inr ⟨rfl,.inr ⟨_,_,h1,rfl⟩⟩
  · obtain ⟨p,h1,h2⟩:=h;exact .inl ⟨_,p,rfl,h1,h2⟩
  · obtain ⟨p,h1,_⟩:=h;exact .inr ⟨rfl,.inr ⟨_,_,h1,rfl⟩⟩
theorem RV.asAr {c:Cx} {x:Vl} {v:Value} (h:RV c x v):(∃i p,asAr x=some i∧v=uT 243 p∧c.ad[i]?=some (p,false))∨(asAr x=none∧NotT 243 v):=by
  cases x<;>rw [RV] at h
  · exact .inr ⟨rfl,.inl h⟩
  · exact .inr ⟨rfl,.inr ⟨_,_,h.1,rfl⟩⟩
  · exact .inr ⟨rfl,.inr ⟨_,_,h.1,rfl⟩⟩
  · obtain ⟨p,o,k,vs,h1,h2⟩:=h;exact .inr ⟨rfl,.inr ⟨_,_,h1,rfl⟩⟩
  · obtain ⟨p,on,cn,ol,cl,vs,h1,h2⟩:=h;exact .inr ⟨rfl,.inr ⟨_,_,h1,rfl⟩⟩
  · obtain ⟨p,u,h1,h2⟩:=h;exact .inr ⟨rfl,.inr ⟨_,_,h1,rfl⟩⟩
  · obtain ⟨p,h1,h2⟩:=h;exact .inr ⟨rfl,.inr ⟨_,_,h1,rfl⟩⟩
  · obtain ⟨p,h1,h2⟩:=h;exact .inl ⟨_,p,rfl,h1,h2⟩
def RsV (c:Cx) (r:Rs) (v:Value):Prop:=
  match r with
  | .val x _=>∃u,RV c x u∧v= .tuple #[u,.string empS]
  | .exn s=>v= .tuple #[.nilIface,.string s]
theorem RVs.len {c:Cx}:∀{l:List Vl} {vs:List Value},RVs c l vs→vs.length=l.length
  | [],vs,h=>by rw [RVs] at h;rw [h];rfl
  | x::l,vs,h=>by
    rw [RVs] at h
    obtain ⟨v,r,h1,h2,h3⟩:=h
    rw [h1,List.length_cons,List.length_cons,h3.len]
theorem RVs.at {c:Cx}:∀{l:List Vl} {vs:List Value} {i:Nat} {x:Vl},RVs c l vs→l[i]?=some x→∃v,vs[i]?=some v∧RV c x v
  | [],vs,i,x,h,hi=>by simp at hi
  | y :: l, vs,i,x,h,hi=>by
    rw [RVs] at h
    obtain ⟨v,r,rfl,h2,h3⟩:=h
    cases i with
    | zero => obtain rfl:y=x:=by simpa using hi
              exact ⟨v,rfl,h2⟩
    |succ i=>exact h3.at (i:=i) (by simpa using hi)
theorem RVs.get0 {c:Cx} {l:List Vl} {vs:List Value} {i:Nat} (h:RVs c l vs) (hi:i<l.length):∃v,vs[i]?=some v∧RV c (zS l i) v:=by
  have h1:l[i]?=some (zS l i):=by
    unfold zS
    rw [List.getD_eq_getElem?_getD,List.getElem?_eq_getElem hi]
    rfl
  exact h.at h1
theorem RVs.all {c:Cx} {l:List Vl} {vs:List Value} (h:RVs c l vs):vs.all (·.oneCell')=true:=by
  induction l generalizing vs with
  |nil=>rw [RVs] at h;rw [h];rfl
  | cons x l ih=>
    rw [RVs] at h
    obtain ⟨v,r,rfl,h2,h3⟩:=h
    rw [List.all_cons,h2.one,ih h3]
    rfl
theorem RVs.append {c:Cx}:∀{l l':List Vl} {vs vs':List Value},RVs c l vs→RVs c l' vs'→RVs c (l++l') (vs++vs')
  | [],l',vs,vs',h,h'=>by rw [RVs] at h;rw [h];exact h'
  | x::l,l',vs,vs',h,h'=>by
    rw [RVs] at h
    obtain ⟨v,r,rfl,h2,h3⟩:=h
    rw [List.cons_append,List.cons_append,RVs]
    exact ⟨v,r++vs',rfl,h2,h3.append h'⟩
theorem RVs.nil {c:Cx}:RVs c [] []:=by rw [RVs]
theorem RVs.one_ {c:Cx} {x:Vl} {v:Value} (h:RV c x v):RVs c [x] [v]:=by rw [RVs];exact ⟨v,[],rfl,h,RVs.nil⟩
theorem RVs.mk {c:Cx}:∀{l:List Vl} {vs:List Value},vs.length=l.length→(∀(i:Nat) (x:Vl) (v:Value),l[i]?=some x→vs[i]?=some v→RV c x v)→RVs c l vs
  | [],vs,hl,h=>by rw [RVs];exact List.length_eq_zero_iff.1 hl
  |x::l,[],hl,h=>by simp at hl
  | x::l,v::r,hl,h=>by
    rw [RVs]
    exact ⟨v,r,rfl,h 0 x v rfl rfl,RVs.mk (by simpa using hl) fun i y u hi hu=>h (i+1) y u (by simpa using hi) (by simpa using hu)⟩
theorem RVs.set {c:Cx} {l:List Vl} {vs:List Value} {i:Nat} {x:Vl} {v:Value} (h:RVs c l vs) (hx:RV c x v):RVs c (l.set i x) (vs.set i v):=by
  refine RVs.mk (by rw [List.length_set,List.length_set,h.len]) fun j y u hy hu=>?_
  by_cases e:i=j
  · subst e
    rw [List.getElem?_set] at hy hu
    simp only [if_true] at hy hu
    split at hy
    · split at hu
      · cases hy;cases hu;exact hx
      · cases hu
    · cases hy
  · rw [List.getElem?_set_ne e] at hy hu
    obtain ⟨u',h1,h2⟩:=h.at hy
    rw [hu] at h1
    cases h1
    exact h2
theorem ins_eq {α:Type} (x:α):∀(l:List α) (i:Nat),i≤l.length→l.insertIdx i x=l.take i++[x]++l.drop i
  |l,0,_=>by simp
  | [],i+1,h=>by simp at h
  | y::l,i+1,h=>by
    have:=ins_eq x l i (by simpa using h)
    simp only [List.insertIdx_succ_cons,this,List.take_succ_cons,List.drop_succ_cons,List.cons_append]
theorem RVs.ins {c:Cx} {l:List Vl} {vs:List Value} {i:Nat} {x:Vl} {v:Value} (h:RVs c l vs) (hx:RV c x v) (hi:i≤l.length):RVs c (l.insertIdx i x) (vs.take i++[v]++vs.drop i):=by
  rw [ins_eq x l i hi]
  refine RVs.append (RVs.append ?_ (RVs.one_ hx)) ?_
  · refine RVs.mk (by rw [List.length_take,List.length_take,h.len]) fun j y u hy hu=>?_
    rw [List.getElem?_take] at hy hu
    split at hy
    · rename_i hlt
      rw [if_pos hlt] at hu
      obtain ⟨u',h1,h2⟩:=h.at hy
      rw [hu] at h1
      cases h1
      exact h2
    · cases hy
  · refine RVs.mk (by rw [List.length_drop,List.length_drop,h.len]) fun j y u hy hu=>?_
    rw [List.getElem?_drop] at hy hu
    obtain ⟨u',h1,h2⟩:=h.at hy
    rw [hu] at h1
    cases h1
    exact h2
theorem RVs.rep {c:Cx} {x:Vl} {v:Value} (h:RV c x v) (n:Nat):RVs c (List.replicate n x) (List.replicate n v):=
  RVs.mk (by simp) fun i y u hy hu=>by
    rw [List.getElem?_replicate] at hy hu
    split at hy
    · rename_i hlt
      rw [if_pos hlt] at hu
      cases hy;cases hu
      exact h
    · cases hy
inductive Ob
  |cell (v:Value)
  |arr (o:Option Addr) (c:Nat) (vs:List Value)
def Ob.one:Ob→Bool
  | .cell _=>true
  | .arr ..=>false
def obI (e:Nat × Ob):It:=
  match e.2 with
  | .cell v=>cb e.1 234 [v]
  | .arr o c vs=>all [cb e.1 246 [.slice o vs.length c],own 137 1 o vs.length c vs]
abbrev Sx:=List (Nat × Ob)
def adr (sx:Sx):List (Nat × Bool):=sx.map fun e=>(e.1,e.2.one)
def ObR (c:Cx):Ob→List Vl→Prop
  | .cell v,l=>∃x,l=[x]∧RV c x v
  | .arr _ _ vs,l=>RVs c l vs
theorem ObR.mono {c d:Cx} (h:c.le d) {ob:Ob} {l:List Vl} (ho:ObR c ob l):ObR d ob l:=by
  cases ob with
  |cell v=>obtain ⟨x,h1,h2⟩:=ho;exact ⟨x,h1,RV.mono h _ _ h2⟩
  |arr o k vs=>exact RVs.mono h _ _ ho
structure StR (c:Cx) (sx:Sx) (st:List (List Vl)):Prop where
  ad:c.ad=adr sx
  len:sx.length=st.length
  at_:∀(i:Nat) (e:Nat × Ob) (l:List Vl),sx[i]?=some e→st[i]?=some l→ObR c e.2 l
theorem adr_set {sx:Sx} {i p:Nat} {ob ob':Ob} (h:sx[i]?=some (p,ob)) (ho:ob.one=ob'.one):adr (sx.set i (p,ob'))=adr sx:=by
  unfold adr
  rw [List.map_set]
  refine kS ?_
  rw [List.getElem?_map,h,←ho]
  rfl
theorem StR.set {c:Cx} {sx:Sx} {st:List (List Vl)} {i p:Nat} {ob ob':Ob} {l:List Vl} (h:StR c sx st) (hi:sx[i]?=some (p,ob)) (ho:ob.one=ob'.one) (hl:ObR c ob' l):StR c (sx.set i (p,ob')) (st.set i l):=by
  refine ⟨by rw [adr_set hi ho];exact h.ad,by rw [List.length_set,List.length_set];exact h.len,fun j e l' he hl'=>?_⟩
  by_cases e1:i=j
  · subst e1
    rw [List.getElem?_set] at he hl'
    simp only [if_true] at he hl'
    split at he
    · split at hl'
      · cases he;cases hl';exact hl
      · cases hl'
    · cases he
  · rw [List.getElem?_set_ne e1] at he hl'
    exact h.at_ j e l' he hl'
theorem StR.add {c:Cx} {sx:Sx} {st:List (List Vl)} {p:Nat} {ob:Ob} {l:List Vl} (h:StR c sx st) (hl:ObR c ob l):c.le {c with ad:=c.ad++[(p,ob.one)]}∧StR {c with ad:=c.ad++[(p,ob.one)]} (sx++[(p,ob)]) (st++[l]):=by
  have hle:c.le {c with ad:=c.ad++[(p,ob.one)]}:=⟨fun _ h=>h,⟨_,rfl⟩,Nat.le_refl _,rfl⟩
  refine ⟨hle,by show c.ad++_=_;rw [h.ad];unfold adr;rw [List.map_append];rfl,by rw [List.length_append,List.length_append,h.len];rfl,fun j e l' he hl'=>?_⟩
  have hj:=h.len
  by_cases e1:j<sx.length
  · rw [List.getElem?_append_left e1] at he
    rw [List.getElem?_append_left (by omega)] at hl'
    exact (h.at_ j e l' he hl').mono hle
  · rw [List.getElem?_append_right (by omega)] at he hl'
    rw [hj] at he
    by_cases e2:j - st.length=0
    · rw [e2] at he hl'
      cases he;cases hl'
      exact hl.mono hle
    · rw [List.getElem?_eq_none_iff.2 (by simp;omega)] at he
      cases he
theorem StR.le {c d:Cx} {sx:Sx} {st:List (List Vl)} (h:StR c sx st) (hl:c.le d) (ha:d.ad=c.ad):StR d sx st:=
  ⟨ha.trans h.ad,h.len,fun i e l he hs=>(h.at_ i e l he hs).mono hl⟩
theorem StR.place {c:Cx} {sx:Sx} {st:List (List Vl)} {i p:Nat} {b:Bool} (h:StR c sx st) (hi:c.ad[i]?=some (p,b)):∃ob l,sx[i]?=some (p,ob)∧ob.one=b∧st[i]?=some l∧ObR c ob l:=by
  rw [h.ad] at hi
  unfold adr at hi
  rw [List.getElem?_map] at hi
  obtain ⟨e,he,h1⟩:=Option.map_eq_some_iff.1 hi
  have hlt:=(List.getElem?_eq_some_iff.1 he).1
  have hl:=h.len
  obtain ⟨l,hs⟩:∃l,st[i]?=some l:=⟨_,List.getElem?_eq_getElem (by omega)⟩
  obtain ⟨q,ob⟩:=e
  simp only [Prod.mk.injEq] at h1
  obtain ⟨rfl,rfl⟩:=h1
  exact ⟨ob,l,he,rfl,hs,h.at_ i _ l he hs⟩
end Go.Proofs.YtenlcdokaadobaaGreatDoor
