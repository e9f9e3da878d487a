/-
  An executor for runs on known data: a map's entry. Conditions: none.
  An executor for runs on known data: entries stored, keys deleted. Conditions: none.
  An executor for runs on known data: every operation that calls nothing. Conditions: none.
  An executor for runs on known data: every built-in function. Conditions: none.
  An executor for runs on known data: what an operation does, said once for all places that fit. Conditions: none.
  An executor for runs on known data: operations one behind the other. Conditions: none.
  An executor for runs on known data: a region that draws its order, read as a row of states. Conditions: none.
  An executor for runs on known data: a region that draws its order: one operation more, whichever. Conditions: none.
  An executor for runs on known data: a region that draws its order, whole. Conditions: none.
  An executor for runs on known data: what is to be shown of calls and code; operations with calls; regions. Conditions: none.
-/
import Derived.Test.YtenlcdokaadobaaGreatDoorRowMakesMg11
import Derived.Scope
import Derived.LoopN
namespace Go.Xc
open Go Go.RowKit Go.Fw
set_option linter.unusedVariables false
section
variable {P:Program} {X:Ctx} {N:Nat} {sl:Tr LV} {h:Tr LB} {n:Nat} {d:Option Tmp} {T:TypeId} {pos:String} {af:Array Edge} {g:Option (Nat × Bool)}
theorem does_entry {x:Operand} {q:R1} (hX:CtxOk P X) (hB:HB n h) (hS:SB n sl) (hq:opX X sl h n (.entry x)=some q):Does P N sl h n ⟨d,.entry x,T,pos,af,g⟩ q:=by
  simp only [opX] at hq
  split at hq
  · rename_i b hx
    have hlt:=opd_bd hS hx
    simp only [LV.bd] at hlt
    split at hq
    · rename_i m since seen last hg
      split at hq
      · rename_i es c i hgm hi
        have hltm:=(hB.get m _ hgm).1
        obtain ⟨hc,hq1⟩:=ck_some hq
        clear hq
        obtain rfl:=Nat.eq_of_beq_eq_true hc
        split at hq1
        · rename_i k v i2 hf
          cases hq1
          have hkv:=(hB.get m _ hgm).2 _ (List.mem_of_find?_eq_some hf)
          refine does_look hB (by simp only [LV.bd,LV.bds,and_true];exact hkv) fun e w a hA hG=>?_
          have hs:=hG.sat b _ ⟨hlt,(bt_or _ _ _).2 (.inr ((bt_bitM b b).2 rfl))⟩ hg
          have hsm:=hG.sat m _ ⟨hltm,(bt_or _ _ _).2 (.inl ((bt_bitM m m).2 rfl))⟩ hgm
          simp only [LB.sat,Option.map_some] at hs hsm
          have h1:=hA.ev hx
          simp only [LV.val] at h1
          have hbk:seen.toArray.back?=some i:=by rw [List.back?_toArray];exact hi
          have hfind:((es.map (ent e)).toArray).find? (fun x=>x.born == i)=some (ent e (k,v,i2)):=by
            rw [List.find?_toArray,List.find?_map]
            have:((fun x:MapEntry=>x.born == i) ∘ ent e)=fun x=>Nat.beq x.2.2 i:=by
              funext y
              show (y.2.2 == i)=Nat.beq y.2.2 i
              rw [beq_dec]
              rfl
            rw [this,hf]
            rfl
          simp only [execOp,h1,Instr.entry,Sem.run_bind,gObj hs,gObj hsm,Result.andThen_ok,hbk,hfind,LV.val,LV.vals]
          simp [ent]
        · cases hq1
      · cases hq
    · cases hq
  · cases hq
theorem does_mapEntry {t:TypeId} {m k:Operand} {q:R1} (hX:CtxOk P X) (hB:HB n h) (hS:SB n sl) (hq:opX X sl h n (.mapEntry t m k)=some q):Does P N sl h n ⟨d,.mapEntry t m k,T,pos,af,g⟩ q:=by
  simp only [opX] at hq
  split at hq
  · rename_i y b kv hy hm hk
    have hkb:=opd_bd hS hk
    split at hq
    · rename_i es c et hg het
      have hlt:=(hB.get b _ hg).1
      have hbd:=(hB.get b _ hg).2
      split at hq
      · rename_i z v i hz hf
        split at hq
        · rename_i q' hu
          obtain ⟨hkk,hq1⟩:=ck_some hq
          cases hq1
          obtain ⟨y',kt,et',ud,hy',hyk,hko⟩:=keyK_ok hX hkk
          obtain ⟨j0,a0,h10,h20,_,h40⟩:=fndM_now hko ⟨id,id⟩ 0 hf
          have hset:=h40 v q' hu
          subst hset
          have hav:=hbd _ (List.mem_of_getElem? h10)
          have hd:=dd_set (f:=0) hB.top hg hlt (B':=.M (es.set j0 (kv,v,i)) c) fun _=>(fun x hx=>by
            rcases List.mem_or_eq_of_mem_set hx with hx|rfl
            · exact hbd x hx
            · exact ⟨hkb,hav.2⟩)
          rw [zero_or] at hd
          refine ⟨hd,(fun u hu=>by cases hu;simp only [LV.bd,LV.bds,and_true];exact hav.2),fun e w a hA hG=>?_⟩
          have hs:=hG.sat b _ ⟨hlt,(bt_bitM b b).2 rfl⟩ hg
          simp only [LB.sat] at hs
          obtain ⟨j,a',h1,h2,h3,h4⟩:=fndM_now hko e 0 hf
          have hset:=h4 v _ hu
          rw [Nat.zero_add] at h3
          have hx:((es.map (ent e)).toArray)[j]?=some (ent e (a',v,i)):=by simp [h1]
          have hm2:=mod_set (u:=v) (k:=kv) e h1 (fun y=>{y with key:=kv.val e}) rfl
          have ht:=tk_set (f:=0) (B':=.M (es.set j0 (kv,v,i)) c) hB hg (by rw [zero_or];exact hG) (set_kp (o:=.map (((es.map (ent e)).toArray).modify j fun y=>{y with key:=kv.val e}) c)) (by simp only [LB.sat];rw [set_heap hs,hm2,hset])
          rw [zero_or] at ht
          refine ⟨e,_,.inl ⟨rfl,rfl⟩,ht,?_⟩
          have e1:=hA.ev hm
          have e2:=hA.ev hk
          simp only [LV.val] at e1
          simp only [execOp,e1,e2,Instr.mapEntry,Sem.run_bind,run_underlying hko.hm,Result.andThen_ok,gObj hs,hko.chk,run_findNow hko h3,hx,Option.map_some,Option.getD_some,ent,keepKey (hko.bits e a' h2),sObj hs,Sem.run_pure,LV.val,LV.vals]
          rfl
        · cases hq
      · rename_i z hz hf
        obtain ⟨hkk,hq1⟩:=ck_some hq
        cases hq1
        obtain ⟨y',kt,et',ud,hy',hyk,hko⟩:=keyK_ok hX hkk
        rw [hy] at hy'
        cases hy'
        rw [hyk] at het
        simp only [TK.mp?,Option.some.injEq] at het
        subst het
        have hz2:=hX.ty _ z hz
        have hzb:=Ty.zero_bd (n:=n) hz2
        have hd:=dd_set (f:=0) hB.top hg hlt (B':=.M (es++[(kv,z.zero,c)]) (c+1)) fun _=>(fun x hx=>by
          rcases List.mem_append.1 hx with hx|hx
          · exact hbd x hx
          · rw [List.mem_singleton.1 hx];exact ⟨hkb,hzb⟩)
        rw [zero_or] at hd
        refine ⟨hd,(fun u hu=>by cases hu;simp only [LV.bd,LV.bds,and_true];exact hzb),fun e w a hA hG=>?_⟩
        have hs:=hG.sat b _ ⟨hlt,(bt_bitM b b).2 rfl⟩ hg
        simp only [LB.sat] at hs
        have h3:=fndM_now hko e 0 hf
        simp only at h3
        have ht:=tk_set (f:=0) (B':=.M (es++[(kv,z.zero,c)]) (c+1)) hB hg (by rw [zero_or];exact hG) (set_kp (o:=.map ((es.map (ent e)).toArray.push ⟨kv.val e,z.zero.val e,c⟩) (c+1))) (by
          simp only [LB.sat]
          rw [set_heap hs]
          simp [ent])
        rw [zero_or] at ht
        refine ⟨e,_,.inl ⟨rfl,rfl⟩,ht,?_⟩
        have e1:=hA.ev hm
        have e2:=hA.ev hk
        simp only [LV.val] at e1
        simp only [execOp,e1,e2,Instr.mapEntry,Sem.run_bind,run_underlying hko.hm,Result.andThen_ok,gObj hs,hko.chk,run_findNow hko h3,run_zero hz2 e,sObj hs,Sem.run_pure,LV.val,LV.vals]
        rfl
      · cases hq
    · cases hq
  · cases hq
end
theorem bornM_ok (e:En) {b:Nat} {v:LV}:∀{es q:List (LV × LV × Nat)},bornM b v es=some q→∃j a u,es[j]?=some (a,u,b)∧q=es.set j (a,v,b)∧(es.map (ent e)).findIdx? (fun x=>(x.born:Int) == (b:Int))=some j
  | [],q,h=>by cases h
  | (a, u,c)::r,q,h=>by
    simp only [bornM] at h
    cases hb:Nat.beq c b with
    | true=>
      rw [hb,cond_true] at h
      cases h
      obtain rfl:=Nat.eq_of_beq_eq_true hb
      exact ⟨0,a,u,rfl,rfl,by simp [List.findIdx?_cons,ent]⟩
    | false=>
      rw [hb,cond_false] at h
      split at h
      · rename_i q' hq
        cases h
        obtain ⟨j,a',u',h1,h2,h3⟩:=bornM_ok e hq
        have hne:¬c=b:=fun he=>by subst he;simp at hb
        have hne2:¬(c:Int)=(b:Int):=by omega
        refine ⟨j+1,a',u',by simpa using h1,by rw [h2];rfl,?_⟩
        rw [List.map_cons,List.findIdx?_cons,h3]
        simp [ent,hne]
        exact hne2
      · cases h
section
variable {P:Program} {X:Ctx} {N:Nat} {sl:Tr LV} {h:Tr LB} {n:Nat} {d:Option Tmp} {T:TypeId} {pos:String} {af:Array Edge} {g:Option (Nat × Bool)}
theorem does_entryStore {t:TypeId} {m st x:Operand} {q:R1} (hX:CtxOk P X) (hB:HB n h) (hS:SB n sl) (hq:opX X sl h n (.entryStore t m st x)=some q):Does P N sl h n ⟨d,.entryStore t m st x,T,pos,af,g⟩ q:=by
  simp only [opX] at hq
  split at hq
  · rename_i b ik i v hm hst hx
    have hvb:=opd_bd hS hx
    split at hq
    · rename_i es c hg
      have hlt:=(hB.get b _ hg).1
      have hbd:=(hB.get b _ hg).2
      split at hq
      · rename_i q' hbn
        cases hq
        obtain ⟨j0,a0,u0,h10,h20,_⟩:=bornM_ok ⟨id,id⟩ hbn
        have hd:=dd_set (f:=0) hB.top hg hlt (B':=.M q' c) fun _=>(fun y hy=>by
          rw [h20] at hy
          rcases List.mem_or_eq_of_mem_set hy with hy|rfl
          · exact hbd y hy
          · exact ⟨(hbd _ (List.mem_of_getElem? h10)).1,hvb⟩)
        rw [zero_or] at hd
        refine ⟨hd,(fun u hu=>by cases hu),fun e w a hA hG=>?_⟩
        have hs:=hG.sat b _ ⟨hlt,(bt_bitM b b).2 rfl⟩ hg
        simp only [LB.sat] at hs
        obtain ⟨j,a',u',h1,h2,h3⟩:=bornM_ok e hbn
        have hm2:=mod_set (u:=v) (k:=a') e h1 (fun y=>{y with val:=v.val e}) rfl
        have ht:=tk_set (f:=0) (B':=.M q' c) hB hg (by rw [zero_or];exact hG) (set_kp (o:=.map (((es.map (ent e)).toArray).modify j fun y=>{y with val:=v.val e}) c)) (by simp only [LB.sat];rw [set_heap hs,hm2,h2])
        rw [zero_or] at ht
        refine ⟨e,_,.inl ⟨rfl,rfl⟩,ht,?_⟩
        have e1:=hA.ev hm
        have e2:=hA.ev hst
        have e3:=hA.ev hx
        simp only [LV.val] at e1 e2
        have hfi:((es.map (ent e)).toArray).findIdx? (fun x=>(x.born:Int) == (Int.ofNat i))=some j:=by
          rw [List.findIdx?_toArray];exact h3
        simp only [execOp,e1,e2,e3,Instr.entryStore,Sem.run_bind,gObj hs,asInt,asIntOf,Sem.run_pure,Result.andThen_ok,hfi,sObj hs]
      · cases hq
    · cases hq
  · cases hq
end
section
variable {P:Program} {X:Ctx} {N:Nat} {sl:Tr LV} {h:Tr LB} {n:Nat} {d:Option Tmp} {T:TypeId} {pos:String} {af:Array Edge} {g:Option (Nat × Bool)}
theorem does_op {o:Op} {q:R1} (hX:CtxOk P X) (hB:HB n h) (hS:SB n sl) (hq:opX X sl h n o=some q):Does P N sl h n ⟨d,o,T,pos,af,g⟩ q:=by
  cases o with
  |move x=>exact does_move hB hS (by simpa only [opX] using hq)
  |assign x=>exact does_assign hB hS (by simpa only [opX] using hq)
  |pick c a b=>exact does_pick hB hS hq
  |nilCheck x=>exact does_nilCheck hB hS hq
  |binOp op t x y t2=>exact does_bin hX hB hS hq
  |unOp op t x=>exact does_un hB hS hq
  |extract t i=>exact does_extract hB hS hq
  |fieldAddr t x f=>exact does_fieldAddr hX hB hS hq
  |indexAddr t x i=>exact does_indexAddr hX hB hS hq
  |index t x i=>exact does_index hX hB hS hq
  |field t x f=>exact does_field hX hB hS hq
  |load t a=>exact does_load hX hB hS hq
  |store t a x=>exact does_store hX hB hS hq
  |alloc t=>exact does_alloc hX hB hq
  |box t x=>exact does_box hB hS hq
  |build t ps=>exact does_build hX hB hS hq
  |buildSlice t k ps=>exact does_buildSlice hX hB hS hq
  |makeSlice t l c=>exact does_makeSlice hX hB hS hq
  |makeMap t r=>exact does_makeMap hX hB hS hq
  |lookup t x i ok=>exact does_lookup hX hB hS hq
  |mapUpdate t m k x=>exact does_mapUpdate hX hB hS hq
  |insert t m k x=>exact does_insert hX hB hS hq
  |mapEntry t m k=>exact does_mapEntry hX hB hS hq
  |entryStore t m st x=>exact does_entryStore hX hB hS hq
  |range t x=>exact does_range hX hB hS hq
  |next it st=>exact does_next hX hB hS hq
  |entry it=>exact does_entry hX hB hS hq
  |slice t x lo hi mx=>exact does_slice hX hB hS hq
  |convert a b x=>exact does_convert hX hB hS hq
  |makeInterface t x=>exact does_makeInterface hX hB hS hq
  |makeFunc f a b=>exact does_makeFunc hB hS hq
  |typeAssert x xt t ok=>exact does_typeAssert hX hB hS hq
  |_=>simp only [opX] at hq;cases hq
end
theorem er_map {α β:Type} (f:α→β):∀(l:List α) (j:Nat),(l.map f).eraseIdx j=(l.eraseIdx j).map f
  | [],j=>rfl
  |x::l,0=>rfl
  |x::l,j+1=>by simp only [List.map_cons,List.eraseIdx_cons_succ,er_map f l j]
theorem delM_now {P:Program} {t kt et:TypeId} {ud:TypeDesc} {k:LV} (hk:KeyOk P t kt et ud k) (e:En):∀{es q:List (LV × LV × Nat)} (i:Nat),delM k es=some q→
    (q=es∧Instr.findNow ud (k.val e) (es.map (ent e)) i=some none)∨∃j v,q=es.eraseIdx j∧j<es.length∧Instr.findNow ud (k.val e) (es.map (ent e)) i=some (some (i+j,v))
  | [],q,i,h=>by cases h;exact .inl ⟨rfl,rfl⟩
  | (a, v,b)::es,q,i,h=>by
    simp only [delM] at h
    split at h
    · rename_i hka
      cases h
      exact .inr ⟨0,v.val e,rfl,Nat.succ_pos _,by simp only [List.map_cons,Instr.findNow,ent,hk.same e a true hka];rfl⟩
    · rename_i hka
      have h1:Instr.findNow ud (k.val e) (((a,v,b)::es).map (ent e)) i=Instr.findNow ud (k.val e) (es.map (ent e)) (i+1):=by
        simp only [List.map_cons,Instr.findNow,ent,hk.same e a false hka]
      split at h
      · rename_i q' hq'
        cases h
        rw [h1]
        rcases delM_now hk e (i+1) hq' with ⟨rfl,h2⟩| ⟨j,v',rfl,h3,h2⟩
        · exact .inl ⟨rfl,h2⟩
        · exact .inr ⟨j+1,v',rfl,Nat.succ_lt_succ h3,by rw [h2];congr 3;omega⟩
      · cases h
    · cases h
section
variable {P:Program} {X:Ctx} {N:Nat} {sl:Tr LV} {h:Tr LB} {n:Nat} {d:Option Tmp} {T:TypeId} {pos:String} {af:Array Edge} {g:Option (Nat × Bool)}
theorem run_delete {t kt et:TypeId} {ud:TypeDesc} {k:LV} {ats:Array TypeId} (hk:KeyOk P t kt et ud k) (h0:ats[0]?=some t) {e:En} {es q:List (LV × LV × Nat)} {c r:Nat} {w:World} (hw:w.heap[r]?=some (.map (es.map (ent e)).toArray c)) (hq:delM k es=some q) :
    (Builtin.delete_ ats T #[.map (some r),k.val e]).run P w= .ok (.tuple #[]) {w with heap:=w.heap.setIfInBounds r (.map (q.map (ent e)).toArray c)}:=by
  rcases delM_now hk e 0 hq with ⟨rfl,h2⟩| ⟨j,v,rfl,h3,h2⟩
  · simp [Builtin.delete_,h0,run_underlying hk.hm,gObj hw,hk.chk,run_findNow hk h2,sObj hw]
  · skip
    rw [Nat.zero_add] at h2
    simp [Builtin.delete_,h0,run_underlying hk.hm,gObj hw,hk.chk,run_findNow hk h2,sObj hw,er_map]
theorem does_delete {t:TypeId} {aa:Array Operand} {ats:Array TypeId} {b c:Nat} {k:LV} {es q:List (LV × LV × Nat)} (hX:CtxOk P X) (hB:HB n h) (hS:SB n sl) (h0:ats[0]?=some t) (ha:opds sl aa.toList=some [.M b,k]) (hg:h.get b=some (.M es c))
    (hd:delM k es=some q) (hkk:keyK X t k=true):Does P N sl h n ⟨d,.call ⟨.builtin .delete,aa,ats⟩,T,pos,af,g⟩ ⟨some (.T []),h.set 21 b (some (.M q c)),n,bitM b,bitM b⟩:=by
  obtain ⟨y',kt,et',ud,hy',hyk,hko⟩:=keyK_ok hX hkk
  have hlt:=(hB.get b _ hg).1
  have hb:=(hB.get b _ hg).2
  have hdd:=dd_set (f:=0) hB.top hg hlt (B':=.M q c) fun _=>by
    intro x hx
    rcases delM_now hko ⟨id,id⟩ 0 hd with ⟨rfl,_⟩| ⟨j,v,rfl,_,_⟩
    · exact hb x hx
    · exact hb x (List.mem_of_mem_eraseIdx hx)
  rw [zero_or] at hdd
  refine ⟨hdd,(fun u hu=>by cases hu;simp only [LV.bd,LV.bds]),fun e w a hA hG=>?_⟩
  have hs:=hG.sat b _ ⟨hlt,(bt_bitM b b).2 rfl⟩ hg
  simp only [LB.sat] at hs
  have ht:=tk_set (f:=0) (B':=.M q c) hB hg (by rw [zero_or];exact hG) (set_kp (o:=.map (q.map (ent e)).toArray c)) (by simp only [LB.sat];exact set_heap hs)
  rw [zero_or] at ht
  refine ⟨e,_,.inl ⟨rfl,rfl⟩,ht,?_⟩
  rw [exec_blt (evs_arr hA ha)]
  have hr:=run_delete (T:=T) hko h0 hs hd
  simp only [builtin,LV.vals,LV.val,Sem.run_bind,hr,Result.andThen_ok,Sem.run_pure]
theorem does_blt {b:Builtin} {aa:Array Operand} {ats:Array TypeId} {vs:List LV} {q:R1} (hX:CtxOk P X) (hB:HB n h) (hS:SB n sl) (ha:opds sl aa.toList=some vs) (hq:bltX X h n b ats.toList vs=some q) :
    Does P N sl h n ⟨d,.call ⟨.builtin b,aa,ats⟩,T,pos,af,g⟩ q:=by
  unfold bltX at hq
  split at hq
  · rename_i t ts hats
    have h0:ats[0]?=some t:=by rw [←Array.getElem?_toList,hats];rfl
    split at hq
    · rename_i y hy
      have hty:=hX.ty t y hy
      have hbs:=opds_bd hS ha
      unfold bltT at hq
      split at hq
      · rename_i v
        split at hq
        · rename_i m f hl
          cases hq
          simp only [LV.bds] at hbs
          refine does_blt_look hB ha (by simp only [LV.bd]) fun e w hG cs=>?_
          have:=lenX_ok (T:=T) hty h0 hbs.1 hB hl e w hG
          simp only [builtin,LV.vals,LV.val,Sem.run_bind,this,Result.andThen_ok,Sem.run_pure]
        · cases hq
      · rename_i v
        split at hq
        · rename_i m hl
          cases hq
          refine does_blt_look hB ha (by simp only [LV.bd]) fun e w hG cs=>?_
          have:=capX_ok (T:=T) hty h0 hl e w
          simp only [builtin,LV.vals,LV.val,Sem.run_bind,this,Result.andThen_ok,Sem.run_pure]
        · cases hq
      · rename_i k x k2 z
        cases hq
        refine does_blt_look hB ha (by simp only [LV.bd]) fun e w hG cs=>?_
        have h1:(Builtin.min_ ats T #[.int k x,.int k2 z]).run P w= .ok (.int k (if z<x then z else x)) w:=by simp [Builtin.min_,Builtin.min2]
        simp only [builtin,LV.vals,LV.val,Sem.run_bind,h1,Result.andThen_ok,Sem.run_pure,ltI_eq]
        congr 3
        by_cases hc:z<x<;>simp [hc]
      · rename_i k x k2 z
        cases hq
        refine does_blt_look hB ha (by simp only [LV.bd]) fun e w hG cs=>?_
        have h1:(Builtin.max_ ats T #[.int k x,.int k2 z]).run P w= .ok (.int k (if z > x then z else x)) w:=by simp [Builtin.max_,Builtin.max2]
        simp only [builtin,LV.vals,LV.val,Sem.run_bind,h1,Result.andThen_ok,Sem.run_pure,ltI_eq]
        congr 3
        by_cases hc:x<z<;>simp [hc]
      · rename_i x v
        split at hq
        · rename_i e a0 t2 hel hts
          split at hq
          · rename_i z w2 hz hw2
            obtain ⟨hc,hq1⟩:=ck_some hq
            have hk:=hty.k
            rw [elT_some hel] at hk
            unfold opAppend at hq1
            split at hq1
            · rename_i m news f hl hsc
              obtain ⟨hc2,hq2⟩:=ck_some hq1
              obtain ⟨hc2,h5⟩:=(Bool.and_eq_true _ _).mp hc2
              obtain ⟨hc2,h4⟩:=(Bool.and_eq_true _ _).mp hc2
              obtain ⟨hc2,h3⟩:=(Bool.and_eq_true _ _).mp hc2
              obtain ⟨h1,h2⟩:=(Bool.and_eq_true _ _).mp hc2
              rw [blt_eq] at h1
              have hat:ats=#[t,t2]:=by
                apply Array.ext'
                rw [hts] at hats
                obtain ⟨rfl,_⟩:=List.cons.inj hats
                exact hts
              rw [hat]
              exact does_appV hB hS (hX.ty e z hz) hk (flat_some (hX.ty t2 w2 hw2) hc) ha hl hsc (dTr h1) (Nat.le_of_ble_eq_true h2) (Nat.le_of_ble_eq_true h3) (Nat.eq_of_beq_eq_true h4) h5 hq2
            · cases hq1
          · cases hq
        · cases hq
      · rename_i x v
        split at hq
        · rename_i e hel
          split at hq
          · rename_i z hz
            have hk:=hty.k
            rw [elT_some hel] at hk
            exact does_copy hB hS (hX.ty e z hz) hk h0 ha hq
          · cases hq
        · cases hq
      · rename_i b0 k
        split at hq
        · rename_i es c hg
          split at hq
          · rename_i q' hd
            obtain ⟨hkk,hq1⟩:=ck_some hq
            cases hq1
            exact does_delete hX hB hS h0 ha hg hd hkk
          · cases hq
        · cases hq
      · cases hq
    · cases hq
  · cases hq
end
def En.ext (e:En) (n:Nat) (d:En):En:=⟨fun i=>if i<n then e.ρ i else d.ρ i,fun i=>if i<n then e.κ i else d.κ i⟩
theorem En.ext_ag (e:En) (n:Nat) (d:En):Ag n e (e.ext n d):=⟨fun i hi=>by simp only [En.ext,if_pos hi],fun i hi=>by simp only [En.ext,if_pos hi]⟩
theorem Ag.symm {n:Nat} {e e':En} (h:Ag n e e'):Ag n e' e:=⟨fun i hi=>(h.ρ i hi).symm,fun i hi=>(h.κ i hi).symm⟩
theorem Ag.mono {n m:Nat} {e e':En} (h:Ag n e e') (hm:m≤n):Ag m e e':=⟨fun i hi=>h.ρ i (by omega),fun i hi=>h.κ i (by omega)⟩
theorem En.ext_ext (e d d2:En) {n n1:Nat} (h:n≤n1):(e.ext n d).ext n1 d2=e.ext n (d.ext n1 d2):=by
  unfold En.ext
  simp only [En.mk.injEq]
  constructor<;>funext i<;>by_cases h1:i<n
  · have:i<n1:=by omega
    simp [h1,this]
  · simp [h1]
  · have:i<n1:=by omega
    simp [h1,this]
  · simp [h1]
theorem Tk.re {h h':Tr LB} {n n' f m:Nat} {e e' e2:En} {w w':World} (d:Dd h n f m h' n') (hB:HB n h) (t:Tk h n f m h' n' e w e' w') (ha:Ag n' e' e2):Tk h n f m h' n' e w e2 w':=by
  have hB':=d.hb hB
  refine ⟨t.ag.trans (ha.mono d.nn) (Nat.le_refl n),⟨fun i B hi hg=>?_,fun i j B C hi hj hg hk he=>?_⟩,t.kp,fun i hi hs=>?_⟩
  · have hb:=hB'.get i B hg
    exact LB.sat_ag ha hb.1 rfl hb.2 (t.gd.sat i B hi hg)
  · have hb:=hB'.get i B hg
    have hc:=hB'.get j C hk
    exact t.gd.inj i j B C hi hj hg hk (by rw [←ha.ρ i hb.1,←ha.ρ j hc.1];exact he)
  · obtain ⟨B,hg⟩:=Option.isSome_iff_exists.1 hs
    rw [ha.ρ i (hB'.get i B hg).1]
    exact t.nw i hi hs
structure SW (N n:Nat) (sl:Tr LV):Prop where
  bd:SB n sl
  lt:∀i v,sl.get i=some v→i<N
structure SlO (N:Nat) (e:En) (sl:Tr LV) (a:Act) (o:Oper):Prop where
  size:a.tmps.size=N
  get:∀t v,Operand.tmp t∈o.op.operands→sl.get t=some v→a.tmps[t]?=some (v.val e)
theorem SlT.o {N:Nat} {e:En} {sl:Tr LV} {a:Act} (h:SlT N e sl a) (o:Oper):SlO N e sl a o:=⟨h.size,fun t v _ hg=>h.get t v hg⟩
def actE (N:Nat) (e:En) (sl:Tr LV) (a:Act):Act:={a with tmps:=Array.ofFn (n:=N) fun i=>match sl.get i with
  |some v=>v.val e
  |none=>a.tmps.getD i undef}
theorem actE_ok {N n:Nat} {sl:Tr LV} (hS:SW N n sl) (e:En) (a:Act):SlT N e sl (actE N e sl a):=by
  refine ⟨by simp [actE],fun i v hi=>?_⟩
  have hlt:=hS.lt i v hi
  simp [actE,hlt,hi]
theorem actE_eval {N:Nat} {e:En} {sl:Tr LV} {a:Act} {o:Oper} (h:SlO N e sl a o) (hs:∀cs b,o.op≠.select cs b):execOp (actE N e sl a).eval o=execOp a.eval o:=by
  refine execOp_congr o hs fun x hx=>?_
  cases x with
  | tmp t=>
    simp only [Act.eval,actE]
    by_cases ht:t<N
    · cases hg:sl.get t with
      |none=>simp [ht,hg]
      | some v=>
        have:=h.get t v hx hg
        simp [ht,hg,this]
    · have hsz:=h.size
      simp [ht,hsz]
  |const c=>rfl
  |global g=>rfl
  |func f=>rfl
section
variable {P:Program} {X:Ctx} {N:Nat} {sl:Tr LV} {h:Tr LB} {n:Nat}
def GdF (e:En) (n f:Nat) (h:Tr LB) (w:World):Prop:=Gd e (fun i=>i<n∧bt f i) h w
def Upd (q:R1) (h:Tr LB) (n:Nat) (w:World) (G:En→Prop) (w':World) (C:En→Prop):Prop:=
  ∃δ:En,∀e,G e→Tk h n q.fp q.wm q.h q.n e w (e.ext n δ) w'∧C (e.ext n δ)
def GoO (N:Nat) (sl:Tr LV) (h:Tr LB) (n f:Nat) (o:Oper) (w:World) (a:Act) (e:En):Prop:=SlO N e sl a o∧GdF e n f h w
structure OpU (P:Program) (N:Nat) (sl:Tr LV) (h:Tr LB) (n:Nat) (o:Oper) (q:R1):Prop where
  dd:Dd h n q.fp q.wm q.h q.n
  bd:∀v,q.v=some v→v.bd q.n
  run:∀w a,(∃e,GoO N sl h n q.fp o w a e)→
    (∃nx w',(execOp a.eval o).run P w= .ok nx w'∧Upd q h n w (GoO N sl h n q.fp o w a) w' fun e'=>nx=match q.v with|some v=>.value (v.val e')|none=>.skip)∨
    (∃k vs,(execOp a.eval o).run P w= .ok (.enter k vs) w∧Ret P k vs w fun u w'=>Upd q h n w (GoO N sl h n q.fp o w a) w' fun e'=>∃v,q.v=some v∧u=v.val e')
theorem opU_of_does {o:Oper} {q:R1} (hB:HB n h) (hS:SW N n sl) (hs:∀cs b,o.op≠.select cs b) (hd:Does P N sl h n o q):OpU P N sl h n o q:=by
  obtain ⟨d1,d2,d3⟩:=hd
  refine ⟨d1,d2,fun w a ⟨e0,ho0,hg0⟩=>.inl ?_⟩
  obtain ⟨e0',w',hn0,ht0,hr0⟩:=d3 e0 w (actE N e0 sl a) (actE_ok hS e0 a) hg0
  rw [actE_eval ho0 hs] at hr0
  refine ⟨_,w',hr0,e0',fun e he=>?_⟩
  obtain ⟨ho,hg⟩:=he
  obtain ⟨e',w'',hn,ht,hr⟩:=d3 e w (actE N e sl a) (actE_ok hS e a) hg
  rw [actE_eval ho hs,hr0] at hr
  simp only [Result.ok.injEq] at hr
  obtain ⟨hv,rfl⟩:=hr
  have ha : Ag q.n e' (e.ext n e0'):=by
    rcases hn with ⟨h1,rfl⟩| ⟨h1,r,κ,rfl,h2⟩
    · rw [h1];exact En.ext_ag _ _ _
    · rcases hn0 with ⟨h3,_⟩| ⟨_,r0,κ0,rfl,h4⟩
      · omega
      · have hrk:r=r0∧κ=κ0:=by
          by_cases hU:∃m,q.v=some (.L n 0 m (.U 0))
          · obtain ⟨m,hm⟩:=hU
            rw [hm] at hv
            simp only [LV.val,Cp.val,En.add_ρ,En.add_κ,Next.value.injEq,Value.slice.injEq,Option.some.injEq,Addr.mk.injEq,Nat.sub_zero] at hv
            exact ⟨hv.1.1.symm,hv.2.2.symm⟩
          · have h5:=h2.resolve_right hU
            have h6:=h4.resolve_right hU
            exact ⟨h5.1.trans h6.1.symm,h5.2.trans h6.2.symm⟩
        obtain ⟨rfl,rfl⟩:=hrk
        rw [h1]
        have h7:=En.add_ag e n r κ
        refine ⟨fun i hi=>?_,fun i hi=>?_⟩
        · by_cases hin:i<n
          · rw [(En.ext_ag e n _).ρ i hin,h7.ρ i hin]
          · obtain rfl:i=n:=by omega
            simp only [En.ext,if_neg hin,En.add_ρ]
        · by_cases hin:i<n
          · rw [(En.ext_ag e n _).κ i hin,h7.κ i hin]
          · obtain rfl:i=n:=by omega
            simp only [En.ext,if_neg hin,En.add_κ]
  refine ⟨ht.re d1 hB ha,?_⟩
  rw [hv]
  cases hq:q.v with
  |none=>rfl
  |some v=>simp only;rw [LV.val_ag ha v (d2 v hq)]
theorem putS_ok {d:Option Nat} {v:Option LV} {sl':Tr LV} {e:En} {a:Act} {u:Value} (hN:N≤4096) (hq:putS N sl d v=some sl') (hA:SlT N e sl a) (hv:∀x,v=some x→u=x.val e):SlT N e sl' (a.put d u):=by
  unfold putS at hq
  cases d with
  |none=>cases hq;exact hA
  | some d=>
    obtain ⟨h1,h2⟩:=ck_some hq
    rw [blt_eq] at h1
    have h1:=dTr h1
    have ht:d<top:=by unfold top;omega
    cases h2
    cases v with
    |none=>exact hA.forget ht u
    |some x=>rw [hv x rfl];exact hA.put h1 ht x
theorem putS_sw {m:Nat} {d:Option Nat} {v:Option LV} {sl':Tr LV} (hN:N≤4096) (hq:putS N sl d v=some sl') (hS:SW N n sl) (hm:n≤m) (hv:∀x,v=some x→x.bd m):SW N m sl':=by
  unfold putS at hq
  cases d with
  |none=>cases hq;exact ⟨hS.bd.mono hm,hS.lt⟩
  | some d=>
    obtain ⟨h1,h2⟩:=ck_some hq
    rw [blt_eq] at h1
    have h1:=dTr h1
    have ht:d<top:=by unfold top;omega
    cases h2
    have lt:∀i u,(sl.set 21 d v).get i=some u→i<N:=by
      intro i u hi
      rw [Tr.get_put sl i _ ht] at hi
      by_cases hid:i=d
      · omega
      · rw [if_neg hid] at hi;exact hS.lt i u hi
    cases v with
    |none=>exact ⟨(hS.bd.mono hm).forget ht,lt⟩
    |some x=>exact ⟨(hS.bd.mono hm).put ht (hv x rfl),lt⟩
end
def U (N:Nat) (h:Tr LB) (n f m:Nat) (h':Tr LB) (n':Nat) (sl sl':Tr LV) (a:Act) (w:World) (a':Act) (w':World):Prop:=
  ∃δ:En,∀e,SlT N e sl a→GdF e n f h w→Tk h n f m h' n' e w (e.ext n δ) w'∧SlT N (e.ext n δ) sl' a'
section
variable {P:Program} {X:Ctx} {N:Nat} {sl sl1 sl2:Tr LV} {h h1 h2:Tr LB} {n n1 n2 f1 f2 m1 m2:Nat} {a a1 a2:Act} {w w1 w2:World}
theorem gdF_left {e:En} (g:GdF e n (f1 ||| f2) h w):GdF e n f1 h w:=g.sub fun i hi=>⟨hi.1,(bt_or _ _ _).2 (.inl hi.2)⟩
theorem U.next {e:En} (hB:HB n h) (d1:Dd h n f1 m1 h1 n1) (d2:Dd h1 n1 f2 m2 h2 n2) {δ:En} (hu:∀e,SlT N e sl a→GdF e n f1 h w→Tk h n f1 m1 h1 n1 e w (e.ext n δ) w1∧SlT N (e.ext n δ) sl1 a1)
    (hA:SlT N e sl a) (hg:GdF e n (f1 ||| f2) h w):SlT N (e.ext n δ) sl1 a1∧GdF (e.ext n δ) n1 f2 h1 w1:=by
  obtain ⟨t,hA1⟩:=hu e hA (gdF_left hg)
  exact ⟨hA1,(t.trans hB d1 d2 hg).1⟩
theorem U.trans (hB:HB n h) (d1:Dd h n f1 m1 h1 n1) (d2:Dd h1 n1 f2 m2 h2 n2) (u1:U N h n f1 m1 h1 n1 sl sl1 a w a1 w1) (u2:U N h1 n1 f2 m2 h2 n2 sl1 sl2 a1 w1 a2 w2) :
    U N h n (f1 ||| f2) (m1 ||| m2) h2 n2 sl sl2 a w a2 w2:=by
  obtain ⟨δ,hu⟩:=u1
  obtain ⟨δ2,hu2⟩:=u2
  refine ⟨δ.ext n1 δ2,fun e hA hg=>?_⟩
  obtain ⟨hA1,hg1⟩:=U.next hB d1 d2 hu hA hg
  obtain ⟨t2,hA2⟩:=hu2 _ hA1 hg1
  rw [En.ext_ext e δ δ2 d1.nn] at t2 hA2
  obtain ⟨t,_⟩:=hu e hA (gdF_left hg)
  exact ⟨(t.trans hB d1 d2 hg).2 _ _ t2,hA2⟩
theorem U.good (hB:HB n h) (d1:Dd h n f1 m1 h1 n1) (d2:Dd h1 n1 f2 m2 h2 n2) (u1:U N h n f1 m1 h1 n1 sl sl1 a w a1 w1) (hG:∃e,SlT N e sl a∧GdF e n (f1 ||| f2) h w):∃e,SlT N e sl1 a1∧GdF e n1 f2 h1 w1:=by
  obtain ⟨δ,hu⟩:=u1
  obtain ⟨e,hA,hg⟩:=hG
  exact ⟨_,U.next hB d1 d2 hu hA hg⟩
theorem U.refl (hB:HB n h) (hS:SW N n sl):U N h n 0 0 h n sl sl a w a w:=⟨⟨id,id⟩,fun e hA hg=>⟨(Tk.refl hB).re (Dd.refl h n) hB (En.ext_ag _ _ _),hA.ag hS.bd (En.ext_ag _ _ _)⟩⟩
theorem put_defers (a:Act) (d:Option Nat) (v:Value):(a.put d v).defers=a.defers:=by cases d<;>rfl
theorem OpU.wp0 {o:Oper} {q:R1} (ho:OpU P N sl h n o q) (hG:∃e,GoO N sl h n q.fp o w a e) {K:Act→World→Prop} {Q:Exit→Act→World→Prop}
    (k:∀u w',(Upd q h n w (GoO N sl h n q.fp o w a) w' fun e'=>∀x,q.v=some x→u=x.val e')→K (a.put o.dst u) w'):o.wp P a w K Q:=by
  rcases ho.run w a hG with ⟨nx,w',hr,δ,hU⟩| ⟨f,vs,hr,hret⟩
  · obtain ⟨e0,hG0⟩:=hG
    unfold Oper.wp
    rw [hr]
    have h0:=(hU e0 hG0).2
    cases hq:q.v with
    | none=>
      rw [hq] at h0
      simp only at h0
      subst h0
      rw [Oper.upon_skip]
      exact k _ _ ⟨δ,fun e he=>⟨(hU e he).1,fun x hx=>by rw [hq] at hx;cases hx⟩⟩
    | some v=>
      rw [hq] at h0
      simp only at h0
      subst h0
      rw [Oper.upon_value]
      refine k _ _ ⟨δ,fun e he=>⟨(hU e he).1,fun x hx=>?_⟩⟩
      have h1:=(hU e he).2
      rw [hq] at hx h1
      cases hx
      exact Next.value.inj h1
  · unfold Oper.wp
    rw [hr,Oper.upon_enter]
    refine Calls.mono hret fun en w' ⟨u,he,δ,hU⟩=>?_
    subst he
    refine k _ _ ⟨δ,fun e he=>?_⟩
    obtain ⟨t,v,hv,rfl⟩:=hU e he
    exact ⟨t,fun x hx=>by rw [hv] at hx;cases hx;rfl⟩
theorem OpU.wp {o:Oper} {q:R1} {sl':Tr LV} (ho:OpU P N sl h n o q) (hN:N≤4096) (hS:SW N n sl) (hp:putS N sl o.dst q.v=some sl') (hG:∃e,SlT N e sl a∧GdF e n q.fp h w) {K:Act→World→Prop} {Q:Exit→Act→World→Prop}
    (k:∀a' w',a'.defers=a.defers→U N h n q.fp q.wm q.h q.n sl sl' a w a' w'→K a' w'):o.wp P a w K Q:=by
  refine ho.wp0 (hG.imp fun e he=>⟨he.1.o o,he.2⟩) fun u w' ⟨δ,hU⟩=>k _ _ (put_defers _ _ _) ⟨δ,fun e hA hg=>?_⟩
  obtain ⟨t,hv⟩:=hU e ⟨hA.o o,hg⟩
  exact ⟨t,putS_ok hN hp (hA.ag hS.bd (En.ext_ag _ _ _)) hv⟩
theorem wanted_ok {e:En} {ops:Array Oper} {o:Oper} {b:Bool} (hA:∀g c d v,o.guard=some (g,c)→(ops[g]?).bind (·.dst)=some d→sl.get d=some v→a.tmps[d]?=some (v.val e)) (hq:wanted ops sl o.guard=some b):Region.wanted o (yielded ops a.tmps)=b:=by
  unfold Region.wanted
  unfold wanted at hq
  cases hgo:o.guard with
  |none=>rw [hgo] at hq;simpa using hq
  | some p=>
    obtain ⟨j,want⟩:=p
    rw [hgo] at hq
    simp only at hq ⊢
    unfold yielded
    cases hd:(ops[j]?).bind (·.dst) with
    |none=>rw [hd] at hq;cases hq
    | some d=>
      rw [hd] at hq
      simp only at hq
      simp only [Option.bind_some]
      cases hl:sl.get d with
      |none=>rw [hl] at hq;simp at hq
      | some v=>
        rw [hl] at hq
        rw [hA j want d v hgo hd hl]
        cases v<;>simp at hq
        · rw [LV.val]
          simpa using hq
        · rw [LV.val]
          subst hq
          rfl
variable {ih:Task→Tr LB→Nat→Option Rs}
theorem runL_ok {ops:Array Oper} (hN:N≤4096) (hop:∀sl h n (o:Oper) q,opA X ih sl h n o.op=some q→HB n h→SW N n sl→OpU P N sl h n o q) :
    ∀(l:List Oper) (sl:Tr LV) (h:Tr LB) (n fp wm:Nat) (r:Rs),runL X ih N ops l sl h n fp wm=some r→HB n h→SW N n sl→
    ∃ f m,r.fp=fp ||| f∧r.wm=wm ||| m∧r.e= .n∧Dd h n f m r.h r.n∧SW N r.n r.sl∧∀a w,(∃e,SlT N e sl a∧GdF e n f h w)→∀Q:Exit→Act→World→Prop,
      (∀a' w',a'.defers=a.defers→U N h n f m r.h r.n sl r.sl a w a' w'→Q .normal a' w')→wpList P ops Q l a w
  | [],sl,h,n,fp,wm,r,hq,hB,hS=>by
    simp only [runL] at hq
    cases hq
    refine ⟨0,0,(Nat.or_zero _).symm,(Nat.or_zero _).symm,rfl,Dd.refl h n,hS,fun a w hG Q k=>?_⟩
    exact wpList_nil (k a w rfl (U.refl hB hS))
  | o :: l, sl,h,n,fp,wm,r,hq,hB,hS=>by
    simp only [runL] at hq
    split at hq
    · rename_i hw
      split at hq
      · rename_i q ho
        split at hq
        · rename_i sl' hp
          have hforce:(Nat.ble 0 (fp ||| q.fp) && Nat.ble 0 (wm ||| q.wm) && Nat.ble 0 q.n)=true:=by simp
          rw [hforce,cond_true] at hq
          have hO:=hop sl h n o q ho hB hS
          have hB1:=hO.dd.hb hB
          have hS1:=putS_sw hN hp hS hO.dd.nn fun x hx=>hO.bd x hx
          obtain ⟨f,m,h1,h2,h3,hd,hS2,hrun⟩:=runL_ok hN hop l sl' q.h q.n _ _ r hq hB1 hS1
          refine ⟨q.fp ||| f,q.wm ||| m,by rw [h1,Nat.or_assoc],by rw [h2,Nat.or_assoc],h3,hO.dd.trans hd,hS2,fun a w hG Q k=>?_⟩
          refine wpList_step fun K hK=>?_
          have hwt:Region.wanted o (yielded ops a.tmps)=true:=by
            obtain ⟨e,hA,_⟩:=hG
            exact wanted_ok (e:=e) (fun g c d v _ _ hg=>hA.get d v hg) hw
          rw [if_pos hwt]
          refine hO.wp hN hS hp (hG.imp fun e he=>⟨he.1,gdF_left he.2⟩) fun a' w' hdf hu=>hK _ _ ?_
          exact hrun a' w' (U.good hB hO.dd hd hu hG) Q fun a'' w'' hdf2 hu2=>k a'' w'' (hdf2.trans hdf) (U.trans hB hO.dd hd hu hu2)
        · cases hq
      · cases hq
    · rename_i hw
      split at hq
      · rename_i sl' hp
        have hS1:=putS_sw hN hp hS (Nat.le_refl n) fun x hx=>by cases hx;exact trivial
        obtain ⟨f,m,h1,h2,h3,hd,hS2,hrun⟩:=runL_ok hN hop l sl' h n _ _ r hq hB hS1
        refine ⟨f,m,h1,h2,h3,hd,hS2,fun a w hG Q k=>?_⟩
        refine wpList_step fun K hK=>?_
        have hwt:Region.wanted o (yielded ops a.tmps)=false:=by
          obtain ⟨e,hA,_⟩:=hG
          exact wanted_ok (e:=e) (fun g c d v _ _ hg=>hA.get d v hg) hw
        rw [if_neg (by rw [hwt];exact Bool.false_ne_true)]
        refine hK _ _ (hrun _ w (hG.imp fun e he=>⟨putS_ok hN hp he.1 (fun x hx=>by cases hx;rfl),he.2⟩) Q fun a'' w'' hdf2 hu2=>k a'' w'' (hdf2.trans (put_defers _ _ _)) ?_)
        obtain ⟨δ,hu⟩:=hu2
        exact ⟨δ,fun e hA hg=>hu e (putS_ok hN hp hA (fun x hx=>by cases hx;rfl)) hg⟩
      · cases hq
    · cases hq
end
def noSel (o:Oper):Bool:=match o.op with
  | .select _ _=>false
  |_=>true
def dstNe (p o:Oper):Bool:=match p.dst,o.dst with
  |some x,some y=>!Nat.beq x y
  |_,_=>true
def prevOk (ops:Array Oper) (o:Oper) (b:Nat):List Oper→Nat→Bool
  | [],_=>true
  |p::r,k=>(p.apart ops o || (Nat.testBit b (k - 1) && dstNe p o)) && prevOk ops o b r (k - 1)
def regL (ops:Array Oper):List Oper→Nat→List Nat→List Oper→Bool
  | [],_,_,_=>true
  |o::r,i,bs,prev=>noSel o && o.after.toList.all (fun e=>!Region.binds .any e || Nat.blt e.on i) && prevOk ops o (before bs o.after.toList) prev i && regL ops r (i+1) (before bs o.after.toList::bs) (o::prev)
def regOk (ops:Array Oper):Bool:=regL ops ops.toList 0 [] []
theorem noSel_ok {o:Oper} (h:noSel o=true) (cs:Array SelectCase) (b:Bool):o.op≠.select cs b:=fun e=>by
  unfold noSel at h
  rw [e] at h
  cases h
def revB (ops:Array Oper):Nat→List Nat
  |0=>[]
  |k+1=>before (revB ops k) ((ops[k]?.map (·.after.toList)).getD [])::revB ops k
def Bk (ops:Array Oper) (k:Nat):Nat:=before (revB ops k) ((ops[k]?.map (·.after.toList)).getD [])
theorem revB_len (ops:Array Oper):∀k,(revB ops k).length=k
  |0=>rfl
  |k+1=>by rw [revB,List.length_cons,revB_len ops k]
theorem revB_get (ops:Array Oper):∀k j,j<k→(revB ops k).getD (k - 1 - j) 0=Bk ops j
  |0,j,h=>by omega
  | k +1,j,h=>by
    by_cases hj:j=k
    · subst hj
      rw [show j+1 - 1 - j=0 by omega]
      rfl
    · rw [show k+1 - 1 - j=(k - 1 - j)+1 by omega,revB,List.getD_cons_succ]
      exact revB_get ops k j (by omega)
theorem before_bit {bs:List Nat} {j:Nat}:∀{es:List Edge} {m:Nat},Nat.testBit (es.foldl (fun m e=>bif Region.binds .any e then m ||| bitM e.on ||| (bs.getD (bs.length - 1 - e.on) 0) else m) m) j=true→
    Nat.testBit m j=true∨∃e∈es,Region.binds .any e=true∧(j=e.on∨Nat.testBit (bs.getD (bs.length - 1 - e.on) 0) j=true)
  | [],m,h=>.inl h
  | e ::es,m,h=>by
    rw [List.foldl_cons] at h
    rcases before_bit h with h1| ⟨e',h2,h3⟩
    · cases hb:Region.binds .any e with
      |false=>rw [hb,cond_false] at h1;exact .inl h1
      | true=>
        rw [hb,cond_true,Nat.testBit_or,Nat.testBit_or,Bool.or_eq_true,Bool.or_eq_true] at h1
        rcases h1 with (h1|h1)|h1
        · exact .inl h1
        · exact .inr ⟨e,.head _,hb,.inl ((bt_bitM e.on j).1 h1)⟩
        · exact .inr ⟨e,.head _,hb,.inr h1⟩
    · exact .inr ⟨e',.tail _ h2,h3⟩
structure RegS (ops:Array Oper):Prop where
  sel:∀(k:Nat) (o:Oper),ops[k]?=some o→∀cs b,o.op≠.select cs b
  on:∀(k:Nat) (o:Oper),ops[k]?=some o→∀e∈o.after,Region.binds .any e=true→e.on<k
  ord:∀(j k:Nat) (p o:Oper),j<k→ops[j]?=some p→ops[k]?=some o→p.apart ops o=true∨(Nat.testBit (Bk ops k) j=true∧∀x,p.dst=some x→o.dst≠some x)
theorem prevOk_ok {ops:Array Oper} {o:Oper} {b:Nat}:∀(k:Nat) (prev:List Oper),prev.length=k→(∀j p,j<k→ops[j]?=some p→prev[k - 1 - j]?=some p)→prevOk ops o b prev k=true→
    ∀j p,j<k→ops[j]?=some p→p.apart ops o=true∨(Nat.testBit b j=true∧∀x,p.dst=some x→o.dst≠some x)
  |0,prev,hl,hp,h,j,p,hj,hg=>by omega
  |k+1,[],hl,hp,h,j,p,hj,hg=>by cases hl
  | k + 1,q::prev,hl,hp,h,j,p,hj,hg=>by
    simp only [prevOk,Nat.add_sub_cancel] at h
    obtain ⟨h1,h2⟩:=(Bool.and_eq_true _ _).mp h
    by_cases hjk:j=k
    · subst hjk
      have:=hp j p hj hg
      rw [show j+1 - 1 - j=0 by omega,List.getElem?_cons_zero] at this
      cases this
      rcases (Bool.or_eq_true _ _).mp h1 with h3|h3
      · exact .inl h3
      · obtain ⟨h3,h4⟩:=(Bool.and_eq_true _ _).mp h3
        refine .inr ⟨h3,fun x hx hy=>?_⟩
        unfold dstNe at h4
        rw [hx,hy] at h4
        simp at h4
    · refine prevOk_ok k prev (by simpa using hl) (fun j' p' hj' hg'=>?_) h2 j p (by omega) hg
      have:=hp j' p' (by omega) hg'
      rw [show k+1 - 1 - j'=(k - 1 - j')+1 by omega,List.getElem?_cons_succ] at this
      exact this
theorem regL_ok {ops:Array Oper}:∀(l:List Oper) (i:Nat) (prev:List Oper),ops.toList.drop i=l→prev.length=i→(∀j p,j<i→ops[j]?=some p→prev[i - 1 - j]?=some p)→regL ops l i (revB ops i) prev=true→
    ∀k,i≤k→∀o,ops[k]?=some o→noSel o=true∧(∀e∈o.after,Region.binds .any e=true→e.on<k)∧∀j p,j<k→ops[j]?=some p→p.apart ops o=true∨(Nat.testBit (Bk ops k) j=true∧∀x,p.dst=some x→o.dst≠some x)
  | [],i,prev,hd,hl,hp,h,k,hk,o,hg=>by
    have hlt:k<ops.size:=(Array.getElem?_eq_some_iff.1 hg).1
    have:=List.drop_eq_nil_iff.1 hd
    rw [Array.length_toList] at this
    omega
  | q :: l,i,prev,hd,hl,hp,h,k,hk,o,hg=>by
    simp only [regL] at h
    obtain ⟨h,h4⟩:=(Bool.and_eq_true _ _).mp h
    obtain ⟨h,h3⟩:=(Bool.and_eq_true _ _).mp h
    obtain ⟨h1,h2⟩:=(Bool.and_eq_true _ _).mp h
    have hq:ops[i]?=some q:=by
      rw [←Array.getElem?_toList]
      have:(ops.toList.drop i)[0]?=some q:=by rw [hd];rfl
      simpa using this
    have hB:before (revB ops i) q.after.toList=Bk ops i:=by unfold Bk;rw [hq];rfl
    by_cases hki:k=i
    · subst hki
      rw [hq] at hg
      cases hg
      refine ⟨h1,fun e he hb=>?_,?_⟩
      · have:=List.all_eq_true.1 h2 e (Array.mem_toList_iff.2 he)
        rw [hb] at this
        rw [blt_eq] at this
        simpa using this
      · rw [hB] at h3
        exact prevOk_ok k prev hl hp h3
    · refine regL_ok l (i+1) (q::prev) ?_ (by rw [List.length_cons,hl]) (fun j p hj hgj=>?_) ?_ k (by omega) o hg
      · rw [←List.drop_drop,hd];rfl
      · by_cases hji:j=i
        · subst hji
          rw [hq] at hgj
          cases hgj
          rw [show j+1 - 1 - j=0 by omega]
          rfl
        · rw [show i+1 - 1 - j=(i - 1 - j)+1 by omega,List.getElem?_cons_succ]
          exact hp j p (by omega) hgj
      · rw [revB,hq]
        exact h4
theorem regOk_ok {ops:Array Oper} (h:regOk ops=true):RegS ops:=by
  have:=regL_ok (ops:=ops) ops.toList 0 [] rfl rfl (fun j p hj=>by omega) h
  exact ⟨fun k o hg cs b=>noSel_ok (this k (Nat.zero_le k) o hg).1 cs b,fun k o hg=>(this k (Nat.zero_le k) o hg).2.1,fun j k p o hj hp hg=>(this k (Nat.zero_le k) o hg).2.2 j p hj hp⟩
structure Sn where
  sl:Tr LV
  h:Tr LB
  n:Nat
section
variable (X:Ctx) (ih:Task→Tr LB→Nat→Option Rs) (N:Nat) (ops:Array Oper)
def one (o:Oper) (s:Sn):Option (R1 × Tr LV):=
  match wanted ops s.sl o.guard with
  | some true=>match opA X ih s.sl s.h s.n o.op with
    | some q=>match putS N s.sl o.dst q.v with
      |some sl'=>some (q,sl')
      |none=>none
    |none=>none
  | some false=>match putS N s.sl o.dst (some (.T [])) with
    |some sl'=>some (⟨some (.T []),s.h,s.n,0,0⟩,sl')
    |none=>none
  |none=>none
variable (s0:Sn)
def Sk:Nat→Sn
  |0=>s0
  | k +1=>match ops[k]? with
    | some o=>match one X ih N ops o (Sk k) with
      |some p=>⟨p.2,p.1.h,p.1.n⟩
      |none=>Sk k
    |none=>Sk k
def Qk (k:Nat):R1:=match ops[k]? with
  | some o=>match one X ih N ops o (Sk X ih N ops s0 k) with
    |some p=>p.1
    |none=>⟨none,.e,0,0,0⟩
  |none=>⟨none,.e,0,0,0⟩
def isI (ops:Array Oper) (k:Nat):Bool:=match ops[k]? with
  |some o=>isIns o.op
  |none=>false
def fk (k:Nat):Nat × Nat × Bool:=((Qk X ih N ops s0 k).fp ||| newM (Sk X ih N ops s0 k).n (Qk X ih N ops s0 k).n,(Qk X ih N ops s0 k).wm ||| newM (Sk X ih N ops s0 k).n (Qk X ih N ops s0 k).n,isI ops k)
def revF:Nat→List (Nat × Nat × Bool)
  |0=>[]
  |k+1=>fk X ih N ops s0 k::revF k
end
theorem clash_ok {X:Ctx} {ih:Task→Tr LB→Nat→Option Rs} {N:Nat} {ops:Array Oper} {s0:Sn} {f w b:Nat} {g:Bool}:∀k,clash f w g b (revF X ih N ops s0 k) k=false→∀j,j<k→Nat.testBit b j=true∨((f &&& (fk X ih N ops s0 j).2.1) ||| (w &&& (fk X ih N ops s0 j).1))=0∨(g=true∧isI ops j=true)
  |0,h,j,hj=>by omega
  | k + 1,h,j,hj=>by
    rw [revF] at h
    have h':((bif Nat.beq ((f &&& (fk X ih N ops s0 k).2.1) ||| (w &&& (fk X ih N ops s0 k).1)) 0 || (g && isI ops k) then false else !(Nat.testBit b k)) || clash f w g b (revF X ih N ops s0 k) k)=false:=h
    obtain ⟨h1,h2⟩:=Bool.or_eq_false_iff.1 h'
    by_cases hjk:j=k
    · subst hjk
      cases hc:Nat.beq ((f &&& (fk X ih N ops s0 j).2.1) ||| (w &&& (fk X ih N ops s0 j).1)) 0 with
      |true=>exact .inr (.inl (Nat.eq_of_beq_eq_true hc))
      | false=>
        rw [hc,Bool.false_or] at h1
        cases hg:(g && isI ops j) with
        |true=>exact .inr (.inr ((Bool.and_eq_true _ _).mp hg))
        | false=>
          rw [hg,cond_false] at h1
          simp at h1
          exact .inl h1
    · exact clash_ok k h2 j (by omega)
theorem and_or_zero {f w f' w' x:Nat} (h:((f &&& w') ||| (w &&& f'))=0):¬(bt f x∧bt w' x)∧¬(bt w x∧bt f' x):=by
  have h1:((f &&& w') ||| (w &&& f')).testBit x=false:=by rw [h,Nat.zero_testBit]
  rw [Nat.testBit_or,Nat.testBit_and,Nat.testBit_and,Bool.or_eq_false_iff] at h1
  obtain ⟨h2,h3⟩:=h1
  unfold bt
  constructor<;>rintro ⟨h4,h5⟩<;>simp_all
theorem newM_self (n:Nat):newM n n=0:=by unfold newM;exact Nat.sub_self _
theorem newM_bt {n m x:Nat} (h1:n≤x) (h2:x<m):bt (newM n m) x:=by
  unfold bt newM
  have e1:Nat.shiftLeft 1 m=2 ^ m:=Nat.one_shiftLeft m
  have e2:Nat.shiftLeft 1 n=2 ^ n:=Nat.one_shiftLeft n
  rw [e1,e2]
  have e3:Nat.sub (2 ^ m) (2 ^ n)=2 ^ n* (2 ^ (m - n) - 1):=by
    rw [Nat.mul_sub,←Nat.pow_add,Nat.mul_one,show n+(m - n)=m by omega]
    rfl
  rw [e3,Nat.testBit_two_pow_mul]
  simp
  exact ⟨h1,by omega⟩
section
variable {X:Ctx} {ih:Task→Tr LB→Nat→Option Rs} {N:Nat} {ops:Array Oper} {s0:Sn}
def OkAt (X:Ctx) (ih:Task→Tr LB→Nat→Option Rs) (N:Nat) (ops:Array Oper) (s0:Sn) (k:Nat):Prop:=
  ∃ o,ops[k]?=some o∧one X ih N ops o (Sk X ih N ops s0 k)=some (Qk X ih N ops s0 k,(Sk X ih N ops s0 (k+1)).sl)∧(Sk X ih N ops s0 (k+1)).h=(Qk X ih N ops s0 k).h∧(Sk X ih N ops s0 (k+1)).n=(Qk X ih N ops s0 k).n∧
    clash (fk X ih N ops s0 k).1 (fk X ih N ops s0 k).2.1 (isI ops k) (Bk ops k) (revF X ih N ops s0 k) k=false
def TrR (X:Ctx) (ih:Task→Tr LB→Nat→Option Rs) (N:Nat) (ops:Array Oper) (s0:Sn) (i m fp wm:Nat) (r:Rs):Prop:=
  (∀k,i≤k→k<ops.size→OkAt X ih N ops s0 k)∧r.e= .n∧r.sl=(Sk X ih N ops s0 m).sl∧r.h=(Sk X ih N ops s0 m).h∧r.n=(Sk X ih N ops s0 m).n∧
    ∃f g,r.fp=fp ||| f∧r.wm=wm ||| g∧(∀x,bt f x↔∃k,i≤k∧k<m∧bt (Qk X ih N ops s0 k).fp x)∧(∀x,bt g x↔∃k,i≤k∧k<m∧bt (Qk X ih N ops s0 k).wm x)
theorem runD_tr:∀(l:List Oper) (i fp wm:Nat) (r:Rs),ops.toList.drop i=l→
    runD X ih N ops l i (revB ops i) (revF X ih N ops s0 i) (Sk X ih N ops s0 i).sl (Sk X ih N ops s0 i).h (Sk X ih N ops s0 i).n fp wm=some r→
    TrR X ih N ops s0 i (i+l.length) fp wm r
  | [],i,fp,wm,r,hd,hq=>by
    simp only [runD] at hq
    cases hq
    have hle:=List.drop_eq_nil_iff.1 hd
    rw [Array.length_toList] at hle
    refine ⟨fun k h1 h2=>by omega,rfl,rfl,rfl,rfl,0,0,(Nat.or_zero _).symm,(Nat.or_zero _).symm,fun x=>⟨fun h=>absurd h (bt_zero x),fun ⟨k,h1,h2,_⟩=>by simp only [List.length_nil] at h2;omega⟩,fun x=>⟨fun h=>absurd h (bt_zero x),fun ⟨k,h1,h2,_⟩=>by simp only [List.length_nil] at h2;omega⟩⟩
  | o :: l, i,fp,wm,r,hd,hq=>by
    have ho:ops[i]?=some o:=by
      rw [←Array.getElem?_toList]
      have:(ops.toList.drop i)[0]?=some o:=by rw [hd];rfl
      simpa using this
    have hd':ops.toList.drop (i+1)=l:=by rw [←List.drop_drop,hd];rfl
    have hB:before (revB ops i) o.after.toList=Bk ops i:=by unfold Bk;rw [ho];rfl
    have hrB:revB ops (i+1)=Bk ops i::revB ops i:=rfl
    have main:∀(q:R1) (sl':Tr LV) (fp' wm':Nat),one X ih N ops o (Sk X ih N ops s0 i)=some (q,sl')→fp'=fp ||| q.fp→wm'=wm ||| q.wm→
        clash (q.fp ||| newM (Sk X ih N ops s0 i).n q.n) (q.wm ||| newM (Sk X ih N ops s0 i).n q.n) (isIns o.op) (Bk ops i) (revF X ih N ops s0 i) i=false→
        runD X ih N ops l (i+1) (Bk ops i::revB ops i) ((q.fp ||| newM (Sk X ih N ops s0 i).n q.n,q.wm ||| newM (Sk X ih N ops s0 i).n q.n,isIns o.op)::revF X ih N ops s0 i) sl' q.h q.n fp' wm'=some r→TrR X ih N ops s0 i (i+(o::l).length) fp wm r:=by
      intro q sl' fp' wm' h1 hf hw hc hr
      have hQ:Qk X ih N ops s0 i=q:=by unfold Qk;rw [ho];simp only [h1]
      have hS:Sk X ih N ops s0 (i+1)=⟨sl',q.h,q.n⟩:=by rw [Sk,ho];simp only [h1]
      have hfk:fk X ih N ops s0 i=(q.fp ||| newM (Sk X ih N ops s0 i).n q.n,q.wm ||| newM (Sk X ih N ops s0 i).n q.n,isIns o.op):=by unfold fk isI;rw [hQ,ho]
      have hr2:runD X ih N ops l (i+1) (revB ops (i+1)) (revF X ih N ops s0 (i+1)) (Sk X ih N ops s0 (i+1)).sl (Sk X ih N ops s0 (i+1)).h (Sk X ih N ops s0 (i+1)).n fp' wm'=some r:=by
        rw [hS,hrB,revF,hfk];exact hr
      obtain ⟨g1,g2,g3,g4,g5,f,m,g6,g7,g8,g9⟩:=runD_tr l (i+1) fp' wm' r hd' hr2
      have hl:i+1+l.length=i+(o::l).length:=by rw [List.length_cons];omega
      rw [hl] at g3 g4 g5 g8 g9
      refine ⟨fun k hk1 hk2=>?_,g2,g3,g4,g5,q.fp ||| f,q.wm ||| m,by rw [g6,hf,Nat.or_assoc],by rw [g7,hw,Nat.or_assoc],fun x=>?_,fun x=>?_⟩
      · by_cases hki:k=i
        · subst hki
          refine ⟨o,ho,by rw [h1,hQ,hS],by rw [hS,hQ],by rw [hS,hQ],?_⟩
          rw [hfk]
          unfold isI
          rw [ho]
          exact hc
        · exact g1 k (by omega) hk2
      · rw [bt_or,g8]
        constructor
        · rintro (h2| ⟨k,h2,h3,h4⟩)
          · exact ⟨i,Nat.le_refl i,by rw [List.length_cons];omega,by rw [hQ];exact h2⟩
          · exact ⟨k,by omega,h3,h4⟩
        · rintro ⟨k,h2,h3,h4⟩
          by_cases hki:k=i
          · subst hki;rw [hQ] at h4;exact .inl h4
          · exact .inr ⟨k,by omega,h3,h4⟩
      · rw [bt_or,g9]
        constructor
        · rintro (h2| ⟨k,h2,h3,h4⟩)
          · exact ⟨i,Nat.le_refl i,by rw [List.length_cons];omega,by rw [hQ];exact h2⟩
          · exact ⟨k,by omega,h3,h4⟩
        · rintro ⟨k,h2,h3,h4⟩
          by_cases hki:k=i
          · subst hki;rw [hQ] at h4;exact .inl h4
          · exact .inr ⟨k,by omega,h3,h4⟩
    simp only [runD] at hq
    rw [hB] at hq
    split at hq
    · rename_i hw
      split at hq
      · rename_i q hop
        split at hq
        · rename_i sl' hp
          cases hc:clash (q.fp ||| newM (Sk X ih N ops s0 i).n q.n) (q.wm ||| newM (Sk X ih N ops s0 i).n q.n) (isIns o.op) (Bk ops i) (revF X ih N ops s0 i) i with
          |true=>rw [hc,cond_true] at hq;cases hq
          | false=>
            rw [hc,cond_false] at hq
            exact main q sl' _ _ (by simp only [one,hw,hop,hp]) rfl rfl hc hq
        · cases hq
      · cases hq
    · rename_i hw
      split at hq
      · rename_i sl' hp
        have hz:∀(g:Bool) (b k:Nat) (L:List (Nat × Nat × Bool)),clash 0 0 g b L k=false:=by
          intro g b k L
          induction L generalizing k with
          |nil=>rfl
          | cons x L ihL=>
            obtain ⟨x1,x2,x3⟩:=x
            simp only [clash,Nat.zero_and,Nat.or_zero,ihL,Bool.or_false]
            rfl
        refine main ⟨some (.T []),(Sk X ih N ops s0 i).h,(Sk X ih N ops s0 i).n,0,0⟩ sl' fp wm (by simp only [one,hw,hp]) (Nat.or_zero _).symm (Nat.or_zero _).symm ?_ ?_
        · simp only [newM_self,Nat.or_zero]
          exact hz _ _ _ _
        · simp only [newM_self,Nat.or_zero]
          exact hq
      · cases hq
    · cases hq
end
section
open Classical
noncomputable def curF {α:Type} (g:Nat→Nat→Option α) (Wr:Nat→Nat→Prop) (D:Nat→Prop):Nat→Nat→Option α
  |0,x=>g 0 x
  |k+1,x=>if D k∧Wr k x then g (k+1) x else curF g Wr D k x
variable {α:Type} {g:Nat→Nat→Option α} {Wr:Nat→Nat→Prop} {D D':Nat→Prop} {m x:Nat}
theorem cur_low (hs:∀k,k<m→¬Wr k x→g (k+1) x=g k x):∀j,j≤m→(∀k,k<j→Wr k x→D k)→curF g Wr D j x=g j x
  |0,_,_=>rfl
  | j+1,hj,h=>by
    rw [curF]
    by_cases hw:Wr j x
    · rw [if_pos ⟨h j (Nat.lt_succ_self j) hw,hw⟩]
    · rw [if_neg (fun c=>hw c.2),cur_low hs j (by omega) (fun k hk=>h k (by omega)),hs j (by omega) hw]
theorem cur_high {j:Nat}:∀m,j≤m→(∀k,j≤k→k<m→Wr k x→¬D k)→curF g Wr D m x=curF g Wr D j x
  |0,hj,_=>by rw [show j=0 by omega]
  | m +1,hj,h=>by
    by_cases hjm:j=m+1
    · rw [hjm]
    · rw [curF,if_neg (fun c=>h m (by omega) (Nat.lt_succ_self m) c.2 c.1)]
      exact cur_high m (by omega) (fun k h1 h2=>h k h1 (by omega))
theorem cur_at {j:Nat} (hs:∀k,k<m→¬Wr k x→g (k+1) x=g k x) (hj:j≤m) (h1:∀k,k<j→Wr k x→D k) (h2:∀k,j≤k→k<m→Wr k x→¬D k):curF g Wr D m x=g j x:=by
  rw [cur_high m hj h2,cur_low hs j hj h1]
theorem cur_same:∀m,(∀k,k<m→Wr k x→(D k↔D' k))→curF g Wr D m x=curF g Wr D' m x
  |0,_=>rfl
  | m +1,h=>by
    rw [curF,curF,cur_same m (fun k hk=>h k (by omega))]
    by_cases hw:Wr m x
    · have:=h m (Nat.lt_succ_self m) hw
      by_cases hd:D m
      · rw [if_pos ⟨hd,hw⟩,if_pos ⟨this.1 hd,hw⟩]
      · rw [if_neg (fun c=>hd c.1),if_neg (fun c=>hd (this.2 c.1))]
    · rw [if_neg (fun c=>hw c.2),if_neg (fun c=>hw c.2)]
end
theorem sat_same {e:En} {w w':World} {i:Nat} (hw:w'.heap[e.ρ i]?=w.heap[e.ρ i]?) {B:LB} (h:B.sat e w i):B.sat e w' i:=by
  cases B<;>simp only [LB.sat] at*<;>rw [hw]<;>exact h
section
variable (S:Nat→Sn) (Q:Nat→R1)
def Wr (k x:Nat):Prop:=(x<(S k).n∧bt (Q k).wm x)∨((S k).n≤x∧x<(S (k+1)).n)
def Fp (k x:Nat):Prop:=(x<(S k).n∧bt (Q k).fp x)∨((S k).n≤x∧x<(S (k+1)).n)
def insO (p:LV × LV):Option LB→Option LB
  |some (.M [] _)=>some (.N [p])
  |some (.N es)=>some (.N (insN p.1 p.2 es))
  |_=>none
open Classical in
noncomputable def curB (act:Nat→Option (LV × LV)) (D:Nat→Prop):Nat→Nat→Option LB
  |0,x=>(S 0).h.get x
  |k+1,x=>if D k∧Wr S Q k x then (match act k with|some p=>insO p (curB act D k x)|none=>(S (k+1)).h.get x) else curB act D k x
noncomputable def curS (ops:Array Oper) (D:Nat→Prop) (m s:Nat):Option LV:=curF (fun k s=>(S k).sl.get s) (fun k s=>∃o,ops[k]?=some o∧o.dst=some s) D m s
def Dom (F:Nat) (D:Nat→Prop) (x:Nat):Prop:=(x<(S 0).n∧bt F x)∨∃i,D i∧(S i).n≤x∧x<(S (i+1)).n
structure InsAt (P:Program) (N:Nat) (ops:Array Oper) (act:Nat→Option (LV × LV)) (k:Nat) (o:Oper) (b:Nat) (B B':LB) (kv xv:LV):Prop where
  op:ops[k]?=some o
  want:wanted ops (S k).sl o.guard=some true
  act:act k=some (kv,xv)
  get:(S k).h.get b=some B
  ins:insB B kv xv=some B'
  nh:(S (k+1)).h=(S k).h.set 21 b (some B')
  nn:(S (k+1)).n=(S k).n
  q:Q k=⟨none,(S (k+1)).h,(S k).n,bitM b,bitM b⟩
  put:putS N (S k).sl o.dst none=some (S (k+1)).sl
  kb:kv.bd (S k).n
  xb:xv.bd (S k).n
  run:∀n' H B1 B2,(S k).n≤n'→HB n' H→H.get b=some B1→insB B1 kv xv=some B2→OpU P N (S k).sl H n' o ⟨none,H.set 21 b (some B2),n',bitM b,bitM b⟩
structure RgOk (P:Program) (N:Nat) (ops:Array Oper) (act:Nat→Option (LV × LV)) (m F M:Nat):Prop where
  N4:N≤4096
  size:ops.size=m
  op:∀k,k<m→∃o,ops[k]?=some o∧((wanted ops (S k).sl o.guard=some true∧OpU P N (S k).sl (S k).h (S k).n o (Q k)∧putS N (S k).sl o.dst (Q k).v=some (S (k+1)).sl)∨
    (wanted ops (S k).sl o.guard=some false∧Q k=⟨some (.T []),(S k).h,(S k).n,0,0⟩∧putS N (S k).sl o.dst (some (.T []))=some (S (k+1)).sl))
  nxh:∀k,k<m→(S (k+1)).h=(Q k).h
  nxn:∀k,k<m→(S (k+1)).n=(Q k).n
  hb:∀k,k≤m→HB (S k).n (S k).h
  sw:∀k,k≤m→SW N (S k).n (S k).sl
  dd:∀k,k<m→Dd (S k).h (S k).n (Q k).fp (Q k).wm (S (k+1)).h (S (k+1)).n
  cl:∀j k x,j<k→k<m→¬(isI ops j=true∧isI ops k=true)→(Fp S Q k x∧Wr S Q j x∨Wr S Q k x∧Fp S Q j x)→Nat.testBit (Bk ops k) j=true
  fp:∀k,k<m→∀x,bt (Q k).fp x→bt F x
  wm:∀k,k<m→∀x,bt (Q k).wm x→bt M x
  txt:RegS ops
  ina:∀k,k<m→isI ops k=false→act k=none
  ins:∀k,k<m→isI ops k=true→(∀x,¬Fp S Q k x)∨∃o b B B' kv xv,InsAt S Q P N ops act k o b B B' kv xv
def ExtD (D:Nat→Prop) (δ e:En):Prop:=∀i,D i→∀x,(S i).n≤x→x<(S (i+1)).n→e.ρ x=δ.ρ x∧e.κ x=δ.κ x
structure Sx (N:Nat) (ops:Array Oper) (act:Nat→Option (LV × LV)) (m F M:Nat) (D:Nat→Prop) (w0:World) (e f:En) (a:Act) (w:World):Prop where
  sz:a.tmps.size=N
  sl:∀s v,curS S ops D m s=some v→a.tmps[s]?=some (v.val f)
  sat:∀x B,Dom S F D x→curB S Q act D m x=some B→B.sat f w x
  inj:∀x y B C,Dom S F D x→Dom S F D y→curB S Q act D m x=some B→curB S Q act D m y=some C→f.ρ x=f.ρ y→x=y
  kp:Kp w0 (fun b=>∃i,i<(S 0).n∧bt M i∧((S 0).h.get i).isSome∧e.ρ i=b) w
  nw:∀x,(S 0).n≤x→Dom S F D x→(curB S Q act D m x).isSome→w0.heap.size≤f.ρ x∨∃j,j<(S 0).n∧bt M j∧((S 0).h.get j).isSome∧e.ρ j=f.ρ x
def St (N:Nat) (ops:Array Oper) (act:Nat→Option (LV × LV)) (m F M:Nat) (D:Nat→Prop) (w0:World) (a0:Act) (δ:En) (a:Act) (w:World):Prop:=
  ∀e,SlT N e (S 0).sl a0→GdF e (S 0).n F (S 0).h w0→∀f,Ag (S 0).n e f→ExtD S D δ f→Sx S Q N ops act m F M D w0 e f a w
end
section
variable {S:Nat→Sn} {Q:Nat→R1} {P:Program} {N:Nat} {ops:Array Oper} {act:Nat→Option (LV × LV)} {m F M:Nat}
theorem RgOk.mono (R:RgOk S Q P N ops act m F M):∀j i,i≤j→j≤m→(S i).n≤(S j).n
  |0,i,h,_=>by rw [show i=0 by omega];exact Nat.le_refl _
  | j+1,i,h,hj=>by
    by_cases hi:i=j+1
    · rw [hi];exact Nat.le_refl _
    · exact Nat.le_trans (R.mono j i (by omega) (by omega)) (R.dd j (by omega)).nn
theorem RgOk.where_ (R:RgOk S Q P N ops act m F M) {x:Nat} (h0:(S 0).n≤x):∀j,j≤m→x<(S j).n→∃i,i<j∧(S i).n≤x∧x<(S (i+1)).n
  |0,_,h=>by omega
  | j +1,hj,h=>by
    by_cases hx:x<(S j).n
    · obtain ⟨i,h1,h2⟩:=R.where_ h0 j (by omega) hx
      exact ⟨i,by omega,h2⟩
    · exact ⟨j,by omega,by omega,h⟩
theorem RgOk.some_ (R:RgOk S Q P N ops act m F M) {x:Nat} (h0:x<(S 0).n):∀j,j≤m→((S j).h.get x).isSome→((S 0).h.get x).isSome
  |0,_,h=>h
  | j+1,hj,h=>by
    obtain ⟨B,hB⟩:=Option.isSome_iff_exists.1 h
    obtain ⟨B0,hB0⟩:=(R.dd j (by omega)).some (Nat.lt_of_lt_of_le h0 (R.mono j 0 (Nat.zero_le j) (by omega))) hB
    exact R.some_ h0 j (by omega) (by rw [hB0];rfl)
theorem RgOk.wf (R:RgOk S Q P N ops act m F M) {k x:Nat} (hk:k<m) (h:Wr S Q k x):Fp S Q k x:=h.imp (fun h=>⟨h.1,(R.dd k hk).sub x h.1 h.2⟩) id
theorem RgOk.hs (R:RgOk S Q P N ops act m F M) {k x:Nat} (hk:k<m) (h:¬Wr S Q k x):(S (k+1)).h.get x=(S k).h.get x:=by
  by_cases hx:x<(S k).n
  · exact (R.dd k hk).sm x hx fun hb=>h (.inl ⟨hx,hb⟩)
  · have hx2:¬x<(S (k+1)).n:=fun hl=>h (.inr ⟨by omega,hl⟩)
    have none:∀j,j≤m→¬x<(S j).n→(S j).h.get x=none:=fun j hj hn=>by
      cases hg:(S j).h.get x with
      |none=>rfl
      |some B=>exact absurd ((R.hb j hj).get x B hg).1 hn
    rw [none k (by omega) hx,none (k+1) (by omega) hx2]
theorem RgOk.ps (R:RgOk S Q P N ops act m F M) {k:Nat} (hk:k<m):∃o v,ops[k]?=some o∧putS N (S k).sl o.dst v=some (S (k+1)).sl:=by
  obtain ⟨o,ho,h⟩:=R.op k hk
  rcases h with ⟨_,_,h⟩| ⟨_,_,h⟩
  · exact ⟨o,_,ho,h⟩
  · exact ⟨o,_,ho,h⟩
theorem putS_get {N d s:Nat} {sl sl':Tr LV} {v:Option LV} (hN:N≤4096) (h:putS N sl (some d) v=some sl'):sl'.get s=if s=d then v else sl.get s:=by
  unfold putS at h
  obtain ⟨h1,h2⟩:=ck_some h
  rw [blt_eq] at h1
  have h1:=dTr h1
  cases h2
  exact Tr.get_put sl s v (by unfold top;omega)
theorem RgOk.hsl (R:RgOk S Q P N ops act m F M) {k s:Nat} (hk:k<m) (h:¬∃o,ops[k]?=some o∧o.dst=some s):(S (k+1)).sl.get s=(S k).sl.get s:=by
  obtain ⟨o,v,ho,hp⟩:=R.ps hk
  cases hd:o.dst with
  |none=>rw [hd] at hp;rw [←Option.some.inj hp]
  | some d=>
    rw [hd] at hp
    rw [putS_get R.N4 hp,if_neg]
    rintro rfl
    exact h ⟨o,ho,hd⟩
theorem apart3 {p o:Oper} (h:p.apart ops o=true):(∀d,p.dst=some d→d ∉ o.looksAt ops)∧(∀d,p.dst=some d→o.dst≠some d)∧(∀d,o.dst=some d→d ∉ p.looksAt ops):=Oper.apart_spec h
structure NxS (S:Nat→Sn) (ops:Array Oper) (m:Nat) (D:Nat→Prop) (j:Nat) (o:Oper):Prop where
  look:∀s,s∈o.looksAt ops→curS S ops D m s=(S j).sl.get s
  dst:∀s,o.dst=some s→curS S ops (fun i=>D i∨i=j) m s=(S (j+1)).sl.get s
  dsto:∀s,o.dst≠some s→curS S ops (fun i=>D i∨i=j) m s=curS S ops D m s
structure NxB (S:Nat→Sn) (Q:Nat→R1) (act:Nat→Option (LV × LV)) (m F:Nat) (D:Nat→Prop) (j:Nat) (H H':Tr LB):Prop where
  dd:Dd H (S j).n (Q j).fp (Q j).wm H' (S (j+1)).n
  dom:∀x,x<(S j).n→bt (Q j).fp x→Dom S F D x
  blk:∀x,x<(S j).n→bt (Q j).fp x→curB S Q act D m x=H.get x
  blk2:∀x B,Fp S Q j x→curB S Q act (fun i=>D i∨i=j) m x=some B→∃B0,H'.get x=some B0∧∀e w,B0.sat e w x→B.sat e w x
  oth:∀x,¬Fp S Q j x→curB S Q act (fun i=>D i∨i=j) m x=curB S Q act D m x
  old:∀x,x<(S 0).n→bt (Q j).wm x→(H.get x).isSome→((S 0).h.get x).isSome
theorem RgOk.nxs (R:RgOk S Q P N ops act m F M) {D:Nat→Prop} {j:Nat} {o:Oper} (hj:j<m) (ho:ops[j]?=some o) (hDj:¬D j) (hcl:∀k,D k→∀i,Nat.testBit (Bk ops k) i=true→D i) (hBj:∀i,Nat.testBit (Bk ops j) i=true→D i):NxS S ops m D j o:=by
  have lowS:∀s,s∈o.looksAt ops→∀k,k<j→(∃p,ops[k]?=some p∧p.dst=some s)→D k:=by
    rintro s hs k hk ⟨p,hp,hd⟩
    rcases R.txt.ord k j p o hk hp ho with h| ⟨h,_⟩
    · exact absurd hs ((apart3 h).1 s hd)
    · exact hBj k h
  have one:∀s,o.dst=some s→∀k,k<m→(∃p,ops[k]?=some p∧p.dst=some s)→k=j:=by
    rintro s hs k hk ⟨p,hp,hd⟩
    rcases Nat.lt_trichotomy k j with h|h|h
    · rcases R.txt.ord k j p o h hp ho with h1| ⟨_,h1⟩
      · exact absurd hs ((apart3 h1).2.1 s hd)
      · exact absurd hs (h1 s hd)
    · exact h
    · rcases R.txt.ord j k o p h ho hp with h1| ⟨_,h1⟩
      · exact absurd hd ((apart3 h1).2.1 s hs)
      · exact absurd hd (h1 s hs)
  refine ⟨fun s hs=>?_,fun s hs=>?_,fun s hs=>?_⟩
  · refine cur_at (fun k hk h=>R.hsl hk h) (Nat.le_of_lt hj) (lowS s hs) fun k hk hkm ⟨p,hp,hd⟩ hDk=>?_
    rcases Nat.lt_or_eq_of_le hk with h|h
    · rcases R.txt.ord j k o p h ho hp with h1| ⟨h1,_⟩
      · exact (apart3 h1).2.2 s hd hs
      · exact hDj (hcl k hDk j h1)
    · rw [←h] at hDk;exact hDj hDk
  · refine cur_at (fun k hk h=>R.hsl hk h) hj (fun k hk hw=>.inr (one s hs k (by omega) hw)) fun k hk hkm hw hDk=>?_
    have:=one s hs k hkm hw
    omega
  · refine cur_same m fun k hk hw=>⟨fun h=>?_,.inl⟩
    rcases h with h|h
    · exact h
    · subst h
      obtain ⟨p,hp,hd⟩:=hw
      rw [ho] at hp
      cases hp
      exact absurd hd hs
theorem insO_of {B B':LB} {kv xv:LV} (h:insB B kv xv=some B'):insO (kv,xv) (some B)=some B':=by
  unfold insB at h
  split at h
  · cases h;rfl
  · split at h
    · cases h;rfl
    · cases h
  · cases h
theorem RgOk.tx (R:RgOk S Q P N ops act m F M) {k x:Nat} {p:LV × LV} (hk:k<m) (hp:act k=some p) (hw:Wr S Q k x):(S (k+1)).h.get x=insO p ((S k).h.get x):=by
  cases hI:isI ops k with
  |false=>rw [R.ina k hk hI] at hp;cases hp
  | true=>
    rcases R.ins k hk hI with h| ⟨o,b,B,B',kv,xv,h⟩
    · exact absurd (R.wf hk hw) (h x)
    · rw [h.act] at hp
      cases hp
      have hxb:x=b:=by
        rcases hw with ⟨_,h1⟩| ⟨h1,h2⟩
        · rw [h.q] at h1;exact (bt_bitM b x).1 h1
        · rw [h.nn] at h2;omega
      subst hxb
      have ht:=(R.hb k (Nat.le_of_lt hk)).get x B h.get
      rw [h.nh,Tr.get_put _ _ _ (Nat.lt_of_lt_of_le ht.1 (R.hb k (Nat.le_of_lt hk)).top),if_pos rfl,h.get,insO_of h.ins]
theorem RgOk.low (R:RgOk S Q P N ops act m F M) {D:Nat→Prop} {x:Nat}:∀j,j≤m→(∀k,k<j→Wr S Q k x→D k)→curB S Q act D j x=(S j).h.get x
  |0,_,_=>rfl
  | j + 1,hj,h=>by
    rw [curB]
    by_cases hw:Wr S Q j x
    · rw [if_pos ⟨h j (Nat.lt_succ_self j) hw,hw⟩]
      cases ha:act j with
      |none=>rfl
      | some p=>
        simp only
        rw [R.low j (by omega) (fun k hk=>h k (by omega)),R.tx (by omega) ha hw]
    · rw [if_neg (fun c=>hw c.2),R.low j (by omega) (fun k hk=>h k (by omega)),R.hs (by omega) hw]
theorem high {D:Nat→Prop} {x j:Nat}:∀m,j≤m→(∀k,j≤k→k<m→Wr S Q k x→¬D k)→curB S Q act D m x=curB S Q act D j x
  |0,hj,_=>by rw [show j=0 by omega]
  | m +1,hj,h=>by
    by_cases hjm:j=m+1
    · rw [hjm]
    · rw [curB,if_neg (fun c=>h m (by omega) (Nat.lt_succ_self m) c.2 c.1)]
      exact high m (by omega) (fun k h1 h2=>h k h1 (by omega))
theorem same {D D':Nat→Prop} {x:Nat}:∀m,(∀k,k<m→Wr S Q k x→(D k↔D' k))→curB S Q act D m x=curB S Q act D' m x
  |0,_=>rfl
  | m +1,h=>by
    rw [curB,curB,same m (fun k hk=>h k (by omega))]
    by_cases hw:Wr S Q m x
    · have:=h m (Nat.lt_succ_self m) hw
      by_cases hd:D m
      · rw [if_pos ⟨hd,hw⟩,if_pos ⟨this.1 hd,hw⟩]
      · rw [if_neg (fun c=>hd c.1),if_neg (fun c=>hd (this.2 c.1))]
    · rw [if_neg (fun c=>hw c.2),if_neg (fun c=>hw c.2)]
theorem RgOk.at_ (R:RgOk S Q P N ops act m F M) {D:Nat→Prop} {x j:Nat} (hj:j≤m) (h1:∀k,k<j→Wr S Q k x→D k) (h2:∀k,j≤k→k<m→Wr S Q k x→¬D k):curB S Q act D m x=(S j).h.get x:=by
  rw [high m hj h2,R.low j hj h1]
theorem RgOk.nxb (R:RgOk S Q P N ops act m F M) {D:Nat→Prop} {j:Nat} (hj:j<m) (hDj:¬D j) (hcl:∀k,D k→∀i,Nat.testBit (Bk ops k) i=true→D i) (hBj:∀i,Nat.testBit (Bk ops j) i=true→D i) (hno:∀x,Fp S Q j x→isI ops j=false):NxB S Q act m F D j (S j).h (S (j+1)).h:=by
  have lowB:∀x,Fp S Q j x→∀k,k<j→Wr S Q k x→D k:=fun x hx k hk hw=>hBj k (R.cl k j x hk hj (fun c=>by rw [hno x hx] at c;cases c.2) (.inl ⟨hx,hw⟩))
  have highB:∀x,Fp S Q j x→∀k,j<k→k<m→Wr S Q k x→¬D k:=fun x hx k hk hkm hw hd=>hDj (hcl k hd j (R.cl j k x hk hkm (fun c=>by rw [hno x hx] at c;cases c.1) (.inr ⟨hw,hx⟩)))
  refine ⟨R.dd j hj,fun x hxn hx=>?_,fun x hxn hx=>?_,fun x B hx hc=>⟨B,?_,fun e w h=>h⟩,fun x hx=>?_,fun x h0 hw hs=>R.some_ h0 j (Nat.le_of_lt hj) hs⟩
  · by_cases h0:x<(S 0).n
    · exact .inl ⟨h0,R.fp j hj x hx⟩
    · obtain ⟨i,h1,h2,h3⟩:=R.where_ (by omega) j (Nat.le_of_lt hj) hxn
      exact .inr ⟨i,lowB x (.inl ⟨hxn,hx⟩) i h1 (.inr ⟨h2,h3⟩),h2,h3⟩
  · refine R.at_ (Nat.le_of_lt hj) (lowB x (.inl ⟨hxn,hx⟩)) fun k hk hkm hw hDk=>?_
    rcases Nat.lt_or_eq_of_le hk with h|h
    · exact highB x (.inl ⟨hxn,hx⟩) k h hkm hw hDk
    · rw [←h] at hDk;exact hDj hDk
  · rw [←hc]
    refine (R.at_ (Nat.succ_le_of_lt hj) (fun k hk hw=>?_) fun k hk hkm hw hDk=>?_).symm
    · rcases Nat.lt_or_eq_of_le (Nat.le_of_lt_succ hk) with h|h
      · exact .inl (lowB x hx k h hw)
      · exact .inr h
    · rcases hDk with h|h
      · exact highB x hx k (by omega) hkm hw h
      · omega
  · refine same m fun k hk hw=>⟨fun h=>?_,.inl⟩
    rcases h with h|h
    · exact h
    · subst h;exact absurd (R.wf hj hw) hx
def dlt (S:Nat→Sn) (j:Nat) (δ δ2:En):En:=⟨fun x=>if (S j).n≤x∧x<(S (j+1)).n then δ2.ρ x else δ.ρ x,fun x=>if (S j).n≤x∧x<(S (j+1)).n then δ2.κ x else δ.κ x⟩
theorem RgOk.parts (R:RgOk S Q P N ops act m F M) {D:Nat→Prop} {j:Nat} (hj:j<m) (hDj:¬D j) (hDm:∀k,D k→k<m) {δ δ2 f:En} (hE:ExtD S (fun i=>D i∨i=j) (dlt S j δ δ2) f):ExtD S D δ f∧Ag (S (j+1)).n (f.ext (S j).n δ2) f:=by
  refine ⟨?_,fun i hi=>?_,fun i hi=>?_⟩
  · intro i hi x h1 h2
    obtain ⟨h3,h4⟩:=hE i (.inl hi) x h1 h2
    have hne:i≠j:=fun c=>hDj (c▸hi)
    have hout:¬((S j).n≤x∧x<(S (j+1)).n):=by
      rintro ⟨q1,q2⟩
      rcases Nat.lt_or_gt_of_ne hne with h5|h5
      · have:=R.mono j (i+1) h5 (Nat.le_of_lt hj)
        omega
      · have:=R.mono i (j+1) h5 (Nat.le_of_lt (hDm i hi))
        omega
    dsimp only [dlt] at h3 h4
    rw [if_neg hout] at h3 h4
    exact ⟨h3,h4⟩
  · by_cases h1:i<(S j).n
    · simp only [En.ext,if_pos h1]
    · have:=(hE j (.inr rfl) i (by omega) hi).1
      dsimp only [dlt] at this
      rw [if_pos (show (S j).n≤i∧i<(S (j+1)).n from ⟨by omega,hi⟩)] at this
      simp only [En.ext,if_neg h1,this]
  · by_cases h1:i<(S j).n
    · simp only [En.ext,if_pos h1]
    · have:=(hE j (.inr rfl) i (by omega) hi).2
      dsimp only [dlt] at this
      rw [if_pos (show (S j).n≤i∧i<(S (j+1)).n from ⟨by omega,hi⟩)] at this
      simp only [En.ext,if_neg h1,this]
theorem RgOk.put (R:RgOk S Q P N ops act m F M) {D:Nat→Prop} {j:Nat} {o:Oper} {H H':Tr LB} (hj:j<m) (hDj:¬D j) (hDm:∀k,D k→k<m) (hx:NxS S ops m D j o) (hy:NxB S Q act m F D j H H') {w0:World} {a0:Act} {δ δ2:En} {a:Act} {w w':World} {u:Value} (h:St S Q N ops act m F M D w0 a0 δ a w)
    (hp:∃v,putS N (S j).sl o.dst v=some (S (j+1)).sl∧v=(Q j).v)
    (hu:∀e f,SlT N e (S 0).sl a0→GdF e (S 0).n F (S 0).h w0→Ag (S 0).n e f→ExtD S D δ f→Ag (S (j+1)).n (f.ext (S j).n δ2) f→Tk H (S j).n (Q j).fp (Q j).wm H' (S (j+1)).n f w f w'∧∀x,(Q j).v=some x→u=x.val f) :
    St S Q N ops act m F M (fun i=>D i∨i=j) w0 a0 (dlt S j δ δ2) (a.put o.dst u) w':=by
  intro e hA hg f hf hE
  obtain ⟨hE1,hag⟩:=R.parts hj hDj hDm hE
  have hX:=h e hA hg f hf hE1
  obtain ⟨t,hv⟩:=hu e f hA hg hf hE1 hag
  have hdd:=hy.dd
  have old:∀x,x<(S j).n→bt (Q j).fp x→Dom S F D x∧curB S Q act D m x=H.get x:=fun x h1 h2=>⟨hy.dom x h1 h2,hy.blk x h1 h2⟩
  have sub:∀x,Dom S F (fun i=>D i∨i=j) x→¬Fp S Q j x→Dom S F D x:=by
    rintro x (hd| ⟨i,hi|hi,h1,h2⟩) hn
    · exact .inl hd
    · exact .inr ⟨i,hi,h1,h2⟩
    · subst hi;exact absurd (.inr ⟨h1,h2⟩) hn
  have gone:∀x B,Dom S F D x→¬Fp S Q j x→curB S Q act D m x=some B→w'.heap[f.ρ x]?=w.heap[f.ρ x]?∧f.ρ x<w.heap.size:=by
    intro x B hd hn hc
    have hs:=hX.sat x B hd hc
    refine ⟨t.kp.block _ (LB.sat_lt hs) ?_,LB.sat_lt hs⟩
    rintro ⟨i,h1,h2,h3,h4⟩
    obtain ⟨C,hC⟩:=Option.isSome_iff_exists.1 h3
    obtain ⟨hdi,hci⟩:=old i h1 (hdd.sub i h1 h2)
    rw [←hci] at hC
    obtain rfl:=hX.inj i x C B hdi hd hC hc h4
    exact hn (.inl ⟨h1,hdd.sub i h1 h2⟩)
  have mix:∀x y B C,Dom S F D y→Fp S Q j x→¬Fp S Q j y→H'.get x=some B→curB S Q act D m y=some C→f.ρ x=f.ρ y→x=y:=by
    intro x y B C hdy hx1 hy1 hg1 hc he
    obtain ⟨_,hlt⟩:=gone y C hdy hy1 hc
    rcases hx1 with ⟨h1,h2⟩| ⟨h1,h2⟩
    · obtain ⟨B0,hB0⟩:=hdd.some h1 hg1
      obtain ⟨hdx,hcx⟩:=old x h1 h2
      rw [←hcx] at hB0
      exact hX.inj x y B0 C hdx hdy hB0 hc he
    · rcases t.nw x h1 (by rw [hg1];rfl) with h3| ⟨i,i1,i2,i3,i4⟩
      · omega
      · obtain ⟨D0,hD0⟩:=Option.isSome_iff_exists.1 i3
        obtain ⟨hdi,hci⟩:=old i i1 (hdd.sub i i1 i2)
        rw [←hci] at hD0
        obtain rfl:=hX.inj i y D0 C hdi hdy hD0 hc (i4.trans he)
        exact absurd (.inl ⟨i1,hdd.sub i i1 i2⟩) hy1
  have back:∀b,(∃i,i<(S j).n∧bt (Q j).wm i∧(H.get i).isSome∧f.ρ i=b)→(w0.heap.size≤b∨∃i,i<(S 0).n∧bt M i∧((S 0).h.get i).isSome∧e.ρ i=b):=by
    rintro b ⟨i,i1,i2,i3,i4⟩
    by_cases h0:i<(S 0).n
    · exact .inr ⟨i,h0,R.wm j hj i i2,hy.old i h0 i2 i3,by rw [←hf.ρ i h0];exact i4⟩
    · obtain ⟨hdi,hci⟩:=old i i1 (hdd.sub i i1 i2)
      rw [←i4]
      exact hX.nw i (by omega) hdi (by rw [hci];exact i3)
  obtain ⟨v,hp1,hp2⟩:=hp
  refine ⟨by cases o.dst<;>simp [Act.put,hX.sz],fun s v' hs=>?_,fun x B hd hc=>?_,fun x y B C hdx hdy hcx hcy he=>?_,⟨t.kp.os.trans hX.kp.os,t.kp.tape.trans hX.kp.tape,t.kp.output.trans hX.kp.output,Nat.le_trans hX.kp.size t.kp.size,fun c hc hM=>?_⟩,fun x h0 hd hs=>?_⟩
  · cases hds:o.dst with
    | none=>
      rw [hx.dsto s (by rw [hds];exact fun c=>by cases c)] at hs
      exact hX.sl s v' hs
    | some d=>
      rw [hds] at hp1
      by_cases hsd:s=d
      · subst hsd
        rw [hx.dst s hds,putS_get R.N4 hp1,if_pos rfl,hp2] at hs
        have hb:=(R.sw (j+1) hj).bd s v' (by rw [putS_get R.N4 hp1,if_pos rfl,hp2];exact hs)
        have hlt:=(R.sw (j+1) hj).lt s v' (by rw [putS_get R.N4 hp1,if_pos rfl,hp2];exact hs)
        rw [hv v' hs]
        simp [Act.put,hX.sz,hlt]
      · rw [hx.dsto s (by rw [hds];exact fun c=>hsd (Option.some.inj c).symm)] at hs
        simp only [Act.put]
        rw [Array.getElem?_setIfInBounds_ne (fun c=>hsd c.symm)]
        exact hX.sl s v' hs
  · by_cases h1:Fp S Q j x
    · obtain ⟨B0,hB0,hk⟩:=hy.blk2 x B h1 hc
      exact hk _ _ (t.gd.sat x B0 h1 hB0)
    · rw [hy.oth x h1] at hc
      have hd1:=sub x hd h1
      exact sat_same (gone x B hd1 h1 hc).1 (hX.sat x B hd1 hc)
  · by_cases h1:Fp S Q j x<;>by_cases h2:Fp S Q j y
    · obtain ⟨B0,hB0,_⟩:=hy.blk2 x B h1 hcx
      obtain ⟨C0,hC0,_⟩:=hy.blk2 y C h2 hcy
      exact t.gd.inj x y B0 C0 h1 h2 hB0 hC0 he
    · obtain ⟨B0,hB0,_⟩:=hy.blk2 x B h1 hcx
      rw [hy.oth y h2] at hcy
      exact mix x y B0 C (sub y hdy h2) h1 h2 hB0 hcy he
    · rw [hy.oth x h1] at hcx
      obtain ⟨C0,hC0,_⟩:=hy.blk2 y C h2 hcy
      exact (mix y x C0 B (sub x hdx h1) h2 h1 hC0 hcx he.symm).symm
    · rw [hy.oth x h1] at hcx
      rw [hy.oth y h2] at hcy
      exact hX.inj x y B C (sub x hdx h1) (sub y hdy h2) hcx hcy he
  · rw [t.kp.block c (Nat.lt_of_lt_of_le hc hX.kp.size) (fun hb=>?_),hX.kp.block c hc hM]
    rcases back c hb with h1|h1
    · omega
    · exact hM h1
  · by_cases h1:Fp S Q j x
    · obtain ⟨B,hB⟩:=Option.isSome_iff_exists.1 hs
      obtain ⟨B0,hB0,_⟩:=hy.blk2 x B h1 hB
      rcases h1 with ⟨q1,q2⟩| ⟨q1,q2⟩
      · obtain ⟨B1,hB1⟩:=hdd.some q1 hB0
        obtain ⟨hdx,hcx⟩:=old x q1 q2
        exact hX.nw x h0 hdx (by rw [hcx,hB1];rfl)
      · rcases t.nw x q1 (by rw [hB0];rfl) with h3|h3
        · exact .inl (Nat.le_trans hX.kp.size h3)
        · exact back _ h3
    · rw [hy.oth x h1] at hs
      exact hX.nw x h0 (sub x hd h1) hs
def Mp (B:LB) (es:List (LV × LV)):Prop:=(∃c,B= .M [] c∧es=[])∨B= .N es
theorem Mp.uniq {B:LB} {x y:List (LV × LV)} (h1:Mp B x) (h2:Mp B y):x=y:=by
  rcases h1 with ⟨c,rfl,rfl⟩|rfl<;>rcases h2 with ⟨d,h,rfl⟩|h<;>first|rfl|(cases h;done)|(cases h;rfl)
theorem Mp.ins {B:LB} {es:List (LV × LV)} (h:Mp B es) (p:LV × LV):∃es',insO p (some B)=some (.N es')∧es'.Perm (p::es):=by
  rcases h with ⟨c,rfl,rfl⟩|rfl
  · exact ⟨_,rfl,List.Perm.refl _⟩
  · exact ⟨_,rfl,insN_perm _ _ _⟩
theorem insB_mp {B B':LB} {kv xv:LV} (h:insB B kv xv=some B'):∃es,Mp B es∧∀a∈es,keyE kv a.1=some false:=by
  unfold insB at h
  split at h
  · exact ⟨[],.inl ⟨_,rfl,rfl⟩,fun a ha=>by cases ha⟩
  · rename_i es
    split at h
    · rename_i hf
      exact ⟨es,.inr rfl,fndN_facts hf⟩
    · cases h
  · cases h
theorem fndN_none {k:LV}:∀{es:List (LV × LV)},(∀a∈es,keyE k a.1=some false)→fndN k es=some none
  | [],_=>rfl
  | (a,v)::es,h=>by
    have h1:=h (a,v) (.head _)
    simp only [fndN,h1]
    exact fndN_none fun x hx=>h x (.tail _ hx)
theorem mp_insB {B:LB} {es:List (LV × LV)} {kv xv:LV} (h:Mp B es) (hk:∀a∈es,keyE kv a.1=some false):∃es',insB B kv xv=some (.N es')∧es'.Perm ((kv,xv)::es):=by
  rcases h with ⟨c,rfl,rfl⟩|rfl
  · exact ⟨_,rfl,List.Perm.refl _⟩
  · exact ⟨_,by simp only [insB,fndN_none hk],insN_perm _ _ _⟩
theorem keyE_symm {a b:LV} {r:Bool} (h:keyE a b=some r):keyE b a=some r:=by
  cases a<;>cases b<;>simp only [keyE] at h ⊢<;>first|(cases h;done)|skip
  · obtain ⟨h1,h2⟩:=ck_some h
    rw [Nat.eq_of_beq_eq_true h1,Nat.beq_refl]
    rw [beI_eq] at h2 ⊢
    rw [←h2]
    show some _=some _
    congr 1
    exact decide_eq_decide.2 eq_comm
  · rw [beL_eq] at h ⊢
    rw [←h]
    congr 1
    exact decide_eq_decide.2 eq_comm
theorem sat_perm {e:En} {w:World} {i:Nat} {x y:List (LV × LV)} (h:x.Perm y) (hs:(LB.N x).sat e w i):(LB.N y).sat e w i:=by
  simp only [LB.sat] at hs ⊢
  obtain ⟨ents,clock,h1,h2⟩:=hs
  exact ⟨ents,clock,h1,h2.trans (h.map _)⟩
theorem InsAt.fp {k x:Nat} {o:Oper} {b:Nat} {B B':LB} {kv xv:LV} (h:InsAt S Q P N ops act k o b B B' kv xv) (hx:Fp S Q k x):x=b:=by
  rcases hx with ⟨_,h1⟩| ⟨h1,h2⟩
  · rw [h.q] at h1;exact (bt_bitM b x).1 h1
  · rw [h.nn] at h2;omega
theorem RgOk.cbd (R:RgOk S Q P N ops act m F M) {D:Nat→Prop} {x:Nat}:∀k,k≤m→∀B,curB S Q act D k x=some B→B.bd (S m).n
  |0,hk,B,h=>LB.bd_mono (R.mono m 0 (Nat.zero_le m) (Nat.le_refl m)) ((R.hb 0 (Nat.zero_le m)).get x B h).2
  | k + 1, hk,B,h=>by
    rw [curB] at h
    have ih:=R.cbd (D:=D) (x:=x) k (by omega)
    by_cases hw:D k∧Wr S Q k x
    · rw [if_pos hw] at h
      cases ha:act k with
      | none=>
        rw [ha] at h
        exact LB.bd_mono (R.mono m (k+1) hk (Nat.le_refl m)) ((R.hb (k+1) hk).get x B h).2
      | some p=>
        rw [ha] at h
        simp only at h
        have hp:p.1.bd (S m).n∧p.2.bd (S m).n:=by
          cases hI:isI ops k with
          |false=>rw [R.ina k hk hI] at ha;cases ha
          | true=>
            rcases R.ins k hk hI with h1| ⟨o,b,B,B',kv,xv,h1⟩
            · exact absurd (R.wf hk hw.2) (h1 x)
            · rw [h1.act] at ha
              cases ha
              have:=R.mono m k (by omega) (Nat.le_refl m)
              exact ⟨LV.bd_mono this _ h1.kb,LV.bd_mono this _ h1.xb⟩
        unfold insO at h
        split at h
        · cases h
          intro y hy
          rw [List.mem_singleton.1 hy]
          exact hp
        · rename_i es hc
          cases h
          intro y hy
          rcases List.mem_cons.1 ((insN_perm _ _ _).subset hy) with rfl|hy
          · exact hp
          · exact ih _ hc y hy
        · cases h
    · rw [if_neg hw] at h
      exact ih B h
theorem RgOk.nxi (R:RgOk S Q P N ops act m F M) {D:Nat→Prop} {j:Nat} {o:Oper} {b:Nat} {B B':LB} {kv xv:LV} (hI:InsAt S Q P N ops act j o b B B' kv xv) (hIj:isI ops j=true) (hj:j<m) (hDj:¬D j) (hcl:∀k,D k→∀i,Nat.testBit (Bk ops k) i=true→D i) (hBj:∀i,Nat.testBit (Bk ops j) i=true→D i) :
    ∃Bc es,curB S Q act D m b=some Bc∧insB Bc kv xv=some (.N es)∧NxB S Q act m F D j ((S j).h.set 21 b (some Bc)) (((S j).h.set 21 b (some Bc)).set 21 b (some (.N es))):=by
  have hbj:=(R.hb j (Nat.le_of_lt hj)).get b B hI.get
  have htop:=Nat.lt_of_lt_of_le hbj.1 (R.hb j (Nat.le_of_lt hj)).top
  have fpj:Fp S Q j b:=.inl ⟨hbj.1,by rw [hI.q];exact (bt_bitM b b).2 rfl⟩
  have wrj:Wr S Q j b:=.inl ⟨hbj.1,by rw [hI.q];exact (bt_bitM b b).2 rfl⟩
  have ordlow:∀k,k<j→Wr S Q k b→isI ops k=false→D k:=fun k hk hw hi=>hBj k (R.cl k j b hk hj (fun c=>by rw [hi] at c;cases c.1) (.inl ⟨fpj,hw⟩))
  have ordup:∀k,j<k→k<m→Wr S Q k b→isI ops k=false→Nat.testBit (Bk ops k) j=true:=fun k hk hkm hw hi=>R.cl j k b hk hkm (fun c=>by rw [hi] at c;cases c.2) (.inr ⟨hw,fpj⟩)
  have ordhigh:∀k,j<k→k<m→Wr S Q k b→isI ops k=false→¬D k:=fun k hk hkm hw hi hd=>hDj (hcl k hd j (ordup k hk hkm hw hi))
  have insk:∀k,k<m→isI ops k=true→Wr S Q k b→∃p Bt T T',act k=some p∧(S k).h.get b=some Bt∧Mp Bt T∧(∀a∈T,keyE p.1 a.1=some false)∧(S (k+1)).h.get b=some (.N T')∧T'.Perm (p::T):=by
    intro k hk hi hw
    rcases R.ins k hk hi with h| ⟨o2,b2,B2,B2',kv2,xv2,h⟩
    · exact absurd (R.wf hk hw) (h b)
    · have hb2:=h.fp (R.wf hk hw)
      subst hb2
      obtain ⟨T,h1,h2⟩:=insB_mp h.ins
      obtain ⟨T',h3,h4⟩:=h1.ins (kv2,xv2)
      refine ⟨(kv2,xv2),B2,T,T',h.act,h.get,h1,h2,?_,h4⟩
      rw [R.tx hk h.act hw,h.get,h3]
  have c1 : ∀ k,k≤j→(∃Bc Bt C T,curB S Q act D k b=some Bc∧(S k).h.get b=some Bt∧Mp Bc C∧Mp Bt T∧∀a∈C,a∈T)∨curB S Q act D k b=(S k).h.get b:=by
    intro k
    induction k with
    |zero=>exact fun _=>.inr rfl
    | succ k ih=>
      intro hk
      have ih:=ih (by omega)
      rw [curB]
      by_cases hw:Wr S Q k b
      · cases hi:isI ops k with
        | false=>
          rw [if_pos ⟨ordlow k (by omega) hw hi,hw⟩,R.ina k (by omega) hi]
          exact .inr rfl
        | true=>
          obtain ⟨p,Bt,T,T',h1,h2,h3,h4,h5,h6⟩:=insk k (by omega) hi hw
          by_cases hd:D k
          · rw [if_pos ⟨hd,hw⟩,h1]
            simp only
            rcases ih with ⟨Bc,Bt',C,T0,g1,g2,g3,g4,g5⟩|ih
            · rw [h2] at g2
              cases g2
              obtain rfl:=g4.uniq h3
              obtain ⟨C',g6,g7⟩:=g3.ins p
              rw [g1,g6]
              refine .inl ⟨_,_,C',T',rfl,h5,.inr rfl,.inr rfl,fun a ha=>h6.symm.subset ?_⟩
              rcases List.mem_cons.1 (g7.subset ha) with rfl|ha
              · exact .head _
              · exact .tail _ (g5 a ha)
            · rw [ih,←R.tx (by omega) h1 hw]
              exact .inr rfl
          · rw [if_neg fun c=>hd c.1]
            rcases ih with ⟨Bc,Bt',C,T0,g1,g2,g3,g4,g5⟩|ih
            · rw [h2] at g2
              cases g2
              obtain rfl:=g4.uniq h3
              exact .inl ⟨Bc,_,C,T',g1,h5,g3,.inr rfl,fun a ha=>h6.symm.subset (.tail _ (g5 a ha))⟩
            · exact .inl ⟨Bt,_,T,T',ih.trans h2,h5,h3,.inr rfl,fun a ha=>h6.symm.subset (.tail _ ha)⟩
      · rw [if_neg fun c=>hw c.2,R.hs (by omega) hw]
        exact ih
  obtain ⟨Tj,hT1,hT2⟩:=insB_mp hI.ins
  obtain ⟨Bj,Cj,hc1,hc2,hc3⟩:∃Bj Cj,curB S Q act D j b=some Bj∧Mp Bj Cj∧∀a∈Cj,keyE kv a.1=some false:=by
    rcases c1 j (Nat.le_refl j) with ⟨Bc,Bt,C,T,g1,g2,g3,g4,g5⟩|h
    · rw [hI.get] at g2
      cases g2
      obtain rfl:=g4.uniq hT1
      exact ⟨Bc,C,g1,g3,fun a ha=>hT2 a (g5 a ha)⟩
    · exact ⟨B,Tj,h.trans hI.get,hT1,hT2⟩
  have c3 : ∀k,j<k→k<m→D k→Wr S Q k b→∀i,j<i→i≤k→∃Bt T,(S i).h.get b=some Bt∧Mp Bt T∧(kv,xv)∈T:=by
    intro k hk hkm hd hw i
    have hik:isI ops k=true:=by
      cases hi:isI ops k with
      |true=>rfl
      |false=>exact absurd hd (ordhigh k hk hkm hw hi)
    induction i with
    |zero=>intro h;omega
    | succ i ih=>
      intro hji hi
      by_cases hij:i=j
      · subst hij
        obtain ⟨T',h1,h2⟩:=hT1.ins (kv,xv)
        refine ⟨_,T',?_,.inr rfl,h2.symm.subset (.head _)⟩
        rw [R.tx hj hI.act wrj,hI.get,h1]
      · obtain ⟨Bt,T,h1,h2,h3⟩:=ih (by omega) (by omega)
        by_cases hwi:Wr S Q i b
        · cases hii:isI ops i with
          | false=>
            have h4:=hcl k hd i (R.cl i k b (by omega) hkm (fun c=>by rw [hii] at c;cases c.1) (.inl ⟨R.wf hkm hw,hwi⟩))
            exact absurd h4 (ordhigh i (by omega) (by omega) hwi hii)
          | true=>
            obtain ⟨p,Bt',T0,T',g1,g2,g3,g4,g5,g6⟩:=insk i (by omega) hii hwi
            rw [h1] at g2
            cases g2
            obtain rfl:=g3.uniq h2
            exact ⟨_,T',g5,.inr rfl,g6.symm.subset (.tail _ h3)⟩
        · exact ⟨Bt,T,by rw [R.hs (by omega) hwi];exact h1,h2,h3⟩
  have c2 : ∀k,j<k→k≤m→∃Bc C E,curB S Q act D k b=some Bc∧Mp Bc C∧curB S Q act (fun i=>D i∨i=j) k b=some (.N E)∧E.Perm ((kv,xv)::C)∧∀a∈C,keyE kv a.1=some false:=by
    intro k
    induction k with
    |zero=>intro h;omega
    | succ k ih=>
      intro hjk hkm
      rw [curB,curB]
      by_cases hkj:k=j
      · subst hkj
        have hsame:curB S Q act (fun i=>D i∨i=k) k b=curB S Q act D k b:=same k fun q hq _=>⟨fun h=>h.resolve_right (by omega),.inl⟩
        rw [if_neg fun c=>hDj c.1,if_pos ⟨.inr rfl,wrj⟩,hI.act]
        simp only
        rw [hsame,hc1]
        obtain ⟨E,h1,h2⟩:=hc2.ins (kv,xv)
        exact ⟨Bj,Cj,E,rfl,hc2,h1,h2,hc3⟩
      · obtain ⟨Bc,C,E,h1,h2,h3,h4,h5⟩:=ih (by omega) (by omega)
        by_cases hd:D k∧Wr S Q k b
        · have hik:isI ops k=true:=by
            cases hi:isI ops k with
            |true=>rfl
            |false=>exact absurd hd.1 (ordhigh k (by omega) (by omega) hd.2 hi)
          obtain ⟨p,Bt,T,T',g1,g2,g3,g4,g5,g6⟩:=insk k (by omega) hik hd.2
          obtain ⟨Bt',T0,q1,q2,q3⟩:=c3 k (by omega) (by omega) hd.1 hd.2 k (by omega) (Nat.le_refl k)
          rw [g2] at q1
          cases q1
          obtain rfl:=q2.uniq g3
          rw [if_pos hd,if_pos ⟨.inl hd.1,hd.2⟩,g1]
          simp only
          rw [h1,h3]
          obtain ⟨C',r1,r2⟩:=h2.ins p
          refine ⟨_,C',insN p.1 p.2 E,r1,.inr rfl,rfl,?_,fun a ha=>?_⟩
          · exact (insN_perm _ _ _).trans ((h4.cons p).trans ((List.Perm.swap _ _ _).trans (r2.symm.cons _)))
          · rcases List.mem_cons.1 (r2.subset ha) with rfl|ha
            · exact keyE_symm (g4 _ q3)
            · exact h5 a ha
        · rw [if_neg hd,if_neg fun c=>hd ⟨c.1.resolve_right hkj,c.2⟩]
          exact ⟨Bc,C,E,h1,h2,h3,h4,h5⟩
  obtain ⟨Bc,C,E,h1,h2,h3,h4,h5⟩:=c2 m hj (Nat.le_refl m)
  obtain ⟨es,h6,h7⟩:=mp_insB (xv:=xv) h2 h5
  have hg:((S j).h.set 21 b (some Bc)).get b=some Bc:=by rw [Tr.get_put _ _ _ htop,if_pos rfl]
  refine ⟨Bc,es,h1,h6,?_,fun x hxn hx=>?_,fun x hxn hx=>?_,fun x B1 hx hc=>?_,fun x hx=>?_,fun x h0 hw hs=>?_⟩
  · rw [hI.q,hI.nn]
    have:=dd_set (f:=0) (B':=.N es) (R.hb j (Nat.le_of_lt hj)).top hg hbj.1 fun hB=>by
      intro y hy
      rcases List.mem_cons.1 (h7.subset hy) with rfl|hy
      · exact ⟨hI.kb,hI.xb⟩
      · have hbd:=(hB.get b Bc hg).2
        rcases h2 with ⟨c,rfl,rfl⟩|rfl
        · cases hy
        · exact hbd y hy
    rw [zero_or] at this
    exact this
  · obtain rfl:=hI.fp (.inl ⟨hxn,hx⟩)
    by_cases h0:x<(S 0).n
    · exact .inl ⟨h0,R.fp j hj x hx⟩
    · obtain ⟨i,g1,g2,g3⟩:=R.where_ (by omega) j (Nat.le_of_lt hj) hxn
      refine .inr ⟨i,ordlow i g1 (.inr ⟨g2,g3⟩) ?_,g2,g3⟩
      cases hi:isI ops i with
      |false=>rfl
      | true=>
        rcases R.ins i (by omega) hi with h| ⟨_,_,_,_,_,_,h⟩
        · exact absurd (.inr ⟨g2,g3⟩) (h x)
        · rw [h.nn] at g3;omega
  · obtain rfl:=hI.fp (.inl ⟨hxn,hx⟩)
    rw [h1,hg]
  · obtain rfl:=hI.fp hx
    rw [h3] at hc
    cases hc
    exact ⟨.N es,by rw [Tr.get_put _ _ _ htop,if_pos rfl],fun e w hs=>sat_perm (h7.trans h4.symm) hs⟩
  · refine same m fun k hk hw=>⟨fun h=>?_,.inl⟩
    rcases h with h|h
    · exact h
    · subst h;exact absurd (R.wf hj hw) hx
  · obtain rfl:=hI.fp (.inl ⟨Nat.lt_of_lt_of_le h0 (R.mono j 0 (Nat.zero_le j) (Nat.le_of_lt hj)),by rw [hI.q] at hw ⊢;exact hw⟩)
    exact R.some_ h0 j (Nat.le_of_lt hj) (by rw [hI.get];rfl)
end
section
variable {S:Nat→Sn} {Q:Nat→R1} {P:Program} {N:Nat} {ops:Array Oper} {act:Nat→Option (LV × LV)} {m F M:Nat} {w0:World} {a0:Act}
theorem RgOk.slo (R:RgOk S Q P N ops act m F M) {D:Nat→Prop} {j:Nat} {o:Oper} (hx:NxS S ops m D j o) {e f:En} {a:Act} {w:World} (hX:Sx S Q N ops act m F M D w0 e f a w):SlO N f (S j).sl a o:=
  ⟨hX.sz,fun t v ht hv=>hX.sl t v (by rw [hx.look t (List.mem_append_left _ (List.mem_filterMap.2 ⟨.tmp t,Array.mem_toList_iff.2 ht,rfl⟩))];exact hv)⟩
theorem RgOk.wt (R:RgOk S Q P N ops act m F M) {D:Nat→Prop} {j:Nat} {o:Oper} (hx:NxS S ops m D j o) {e f:En} {a:Act} {w:World} (hX:Sx S Q N ops act m F M D w0 e f a w) (b:Bool) (hb:wanted ops (S j).sl o.guard=some b):Region.wanted o (yielded ops a.tmps)=b:=
  wanted_ok (e:=f) (fun g c d v hg hd hv=>hX.sl d v (by rw [hx.look d (by simp [Oper.looksAt,hg,hd])];exact hv)) hb
theorem RgOk.e0 (R:RgOk S Q P N ops act m F M) {D:Nat→Prop} (hDm:∀k,D k→k<m) (e δ:En):ExtD S D δ (e.ext (S 0).n δ):=by
  intro i hi x h1 h2
  have:=R.mono i 0 (Nat.zero_le i) (Nat.le_of_lt (hDm i hi))
  have hx0:¬x<(S 0).n:=by omega
  exact ⟨if_neg hx0,if_neg hx0⟩
theorem RgOk.goO (R:RgOk S Q P N ops act m F M) (hG:∃e,SlT N e (S 0).sl a0∧GdF e (S 0).n F (S 0).h w0) {Q':Exit→Act→World→Prop} {K:Act→World→Prop} {D:Nat→Prop} {j:Nat} {δ:En} {a:Act} {w:World}
    (hj:j<m) (hDj:¬D j) (hcl:∀k,D k→∀i,Nat.testBit (Bk ops k) i=true→D i) (hBj:∀i,Nat.testBit (Bk ops j) i=true→D i) (hDm:∀k,D k→k<m) (hno:∀x,Fp S Q j x→isI ops j=false) (h:St S Q N ops act m F M D w0 a0 δ a w)
    (k:∀a' w' δ',a'.defers=a.defers→St S Q N ops act m F M (fun i=>D i∨i=j) w0 a0 δ' a' w'→K a' w'):wpOp P ops Q' j K a w:=by
  obtain ⟨o,ho,hop⟩:=R.op j hj
  have hx:=R.nxs hj ho hDj hcl hBj
  have hy:=R.nxb hj hDj hcl hBj hno
  have good:∀e f,SlT N e (S 0).sl a0→GdF e (S 0).n F (S 0).h w0→Ag (S 0).n e f→ExtD S D δ f→GoO N (S j).sl (S j).h (S j).n (Q j).fp o w a f:=by
    intro e f hA hg hf hE
    have hX:=h e hA hg f hf hE
    exact ⟨R.slo hx hX,⟨fun x B h1 h2=>hX.sat x B (hy.dom x h1.1 h1.2) (by rw [hy.blk x h1.1 h1.2];exact h2),fun x y B C h1 h2 h3 h4 he=>hX.inj x y B C (hy.dom x h1.1 h1.2) (hy.dom y h2.1 h2.2) (by rw [hy.blk x h1.1 h1.2];exact h3) (by rw [hy.blk y h2.1 h2.2];exact h4) he⟩⟩
  obtain ⟨e0,hA0,hg0⟩:=hG
  have hE0:=R.e0 hDm e0 δ
  have wt:=R.wt hx (h e0 hA0 hg0 _ (En.ext_ag _ _ _) hE0)
  unfold wpOp
  simp only [ho]
  rcases hop with ⟨hw,hO,hp⟩| ⟨hw,hQ,hp⟩
  · rw [if_pos (wt true hw)]
    refine .inl (hO.wp0 ⟨_,good e0 _ hA0 hg0 (En.ext_ag _ _ _) hE0⟩ fun u w' ⟨δ2,hU⟩=>k _ _ _ (put_defers _ _ _) (R.put (δ2:=δ2) hj hDj hDm hx hy h ⟨_,hp,rfl⟩ fun e f hA hg hf hE hag=>?_))
    obtain ⟨t,hv⟩:=hU f (good e f hA hg hf hE)
    rw [←R.nxh j hj,←R.nxn j hj] at t
    refine ⟨t.re (R.dd j hj) (R.hb j (Nat.le_of_lt hj)) hag,fun x hxv=>(hv x hxv).trans (LV.val_ag hag x ?_).symm⟩
    rw [R.nxn j hj]
    exact hO.bd x hxv
  · rw [if_neg (by rw [wt false hw];exact Bool.false_ne_true)]
    refine k _ _ _ (put_defers _ _ _) (R.put (δ2:=⟨id,id⟩) hj hDj hDm hx hy h ⟨_,hp,by rw [hQ]⟩ fun e f hA hg hf hE hag=>?_)
    rw [R.nxh j hj,R.nxn j hj,hQ]
    exact ⟨Tk.refl (R.hb j (Nat.le_of_lt hj)),fun x hx=>by cases hx;rfl⟩
theorem RgOk.goI (R:RgOk S Q P N ops act m F M) (hG:∃e,SlT N e (S 0).sl a0∧GdF e (S 0).n F (S 0).h w0) {Q':Exit→Act→World→Prop} {K:Act→World→Prop} {D:Nat→Prop} {j:Nat} {δ:En} {a:Act} {w:World} {o:Oper} {b:Nat} {B B':LB} {kv xv:LV} (hI:InsAt S Q P N ops act j o b B B' kv xv) (hIj:isI ops j=true)
    (hj:j<m) (hDj:¬D j) (hcl:∀k,D k→∀i,Nat.testBit (Bk ops k) i=true→D i) (hBj:∀i,Nat.testBit (Bk ops j) i=true→D i) (hDm:∀k,D k→k<m) (h:St S Q N ops act m F M D w0 a0 δ a w)
    (k:∀a' w' δ',a'.defers=a.defers→St S Q N ops act m F M (fun i=>D i∨i=j) w0 a0 δ' a' w'→K a' w'):wpOp P ops Q' j K a w:=by
  have hx:=R.nxs hj hI.op hDj hcl hBj
  obtain ⟨Bc,es,hc,hins,hy⟩:=R.nxi hI hIj hj hDj hcl hBj
  have hbj:=R.hb j (Nat.le_of_lt hj)
  have hbl:=(hbj.get b B hI.get).1
  have htop:=Nat.lt_of_lt_of_le hbl hbj.top
  have hjm:=R.mono m j (Nat.le_of_lt hj) (Nat.le_refl m)
  have hg:((S j).h.set 21 b (some Bc)).get b=some Bc:=by rw [Tr.get_put _ _ _ htop,if_pos rfl]
  have hHB:HB (S m).n ((S j).h.set 21 b (some Bc)):=by
    refine ⟨(R.hb m (Nat.le_refl m)).top,fun i C hi=>?_⟩
    rw [Tr.get_put _ _ _ htop] at hi
    by_cases hib:i=b
    · rw [if_pos hib] at hi
      cases hi
      exact ⟨by omega,R.cbd m (Nat.le_refl m) _ hc⟩
    · rw [if_neg hib] at hi
      have:=hbj.get i C hi
      exact ⟨by omega,LB.bd_mono hjm this.2⟩
  have hO:=hI.run (S m).n _ Bc (.N es) hjm hHB hg hins
  have fpb:bt (Q j).fp b:=by rw [hI.q];exact (bt_bitM b b).2 rfl
  have good:∀e f,SlT N e (S 0).sl a0→GdF e (S 0).n F (S 0).h w0→Ag (S 0).n e f→ExtD S D δ f→GoO N (S j).sl ((S j).h.set 21 b (some Bc)) (S m).n (bitM b) o w a f:=by
    intro e f hA hg0 hf hE
    have hX:=h e hA hg0 f hf hE
    refine ⟨R.slo hx hX,⟨fun x C h1 h2=>?_,fun x y C C' h1 h2 _ _ _=>((bt_bitM b x).1 h1.2).trans ((bt_bitM b y).1 h2.2).symm⟩⟩
    obtain rfl:=(bt_bitM b x).1 h1.2
    rw [hg] at h2
    cases h2
    exact hX.sat x _ (hy.dom x hbl fpb) hc
  obtain ⟨e0,hA0,hg0⟩:=hG
  have hE0:=R.e0 hDm e0 δ
  have wt:=R.wt hx (h e0 hA0 hg0 _ (En.ext_ag _ _ _) hE0)
  unfold wpOp
  simp only [hI.op]
  rw [if_pos (wt true hI.want)]
  refine .inl (hO.wp0 ⟨_,good e0 _ hA0 hg0 (En.ext_ag _ _ _) hE0⟩ fun u w' ⟨δ2,hU⟩=>k _ _ _ (put_defers _ _ _) (R.put (δ2:=δ2) hj hDj hDm hx hy h ⟨_,hI.put,by rw [hI.q]⟩ fun e f hA hg1 hf hE hag=>?_))
  obtain ⟨t,_⟩:=hU f (good e f hA hg1 hf hE)
  replace t:=t.re hO.dd hHB (En.ext_ag f (S m).n δ2).symm
  refine ⟨?_,fun x hxv=>by rw [hI.q] at hxv;cases hxv⟩
  rw [hI.nn]
  rw [hI.q]
  refine ⟨Ag.refl _ f,t.gd.sub fun i hi=>?_,⟨t.kp.os,t.kp.tape,t.kp.output,t.kp.size,fun c hc hM=>t.kp.block c hc fun ⟨i,h1,h2,h3,h4⟩=>hM ⟨i,?_,h2,h3,h4⟩⟩,fun i hi hs=>?_⟩
  · rcases hi with hi|hi
    · exact .inl ⟨Nat.lt_of_lt_of_le hi.1 hjm,hi.2⟩
    · omega
  · rw [(bt_bitM b i).1 h2];exact hbl
  · have hib:i≠b:=by omega
    rw [Tr.get_put _ _ _ htop,if_neg hib,Tr.get_put _ _ _ htop,if_neg hib] at hs
    obtain ⟨C,hC⟩:=Option.isSome_iff_exists.1 hs
    have:=(hbj.get i C hC).1
    omega
theorem RgOk.go (R:RgOk S Q P N ops act m F M) (hG:∃e,SlT N e (S 0).sl a0∧GdF e (S 0).n F (S 0).h w0) {Q':Exit→Act→World→Prop} {K:Act→World→Prop} {D:Nat→Prop} {j:Nat} {δ:En} {a:Act} {w:World}
    (hj:j<m) (hDj:¬D j) (hcl:∀k,D k→∀i,Nat.testBit (Bk ops k) i=true→D i) (hBj:∀i,Nat.testBit (Bk ops j) i=true→D i) (hDm:∀k,D k→k<m) (h:St S Q N ops act m F M D w0 a0 δ a w)
    (k:∀a' w' δ',a'.defers=a.defers→St S Q N ops act m F M (fun i=>D i∨i=j) w0 a0 δ' a' w'→K a' w'):wpOp P ops Q' j K a w:=by
  cases hI:isI ops j with
  |false=>exact R.goO hG hj hDj hcl hBj hDm (fun x _=>hI) h k
  | true=>
    rcases R.ins j hj hI with hs| ⟨o,b,B,B',kv,xv,h1⟩
    · exact R.goO hG hj hDj hcl hBj hDm (fun x hx=>absurd hx (hs x)) h k
    · exact R.goI hG h1 hI hj hDj hcl hBj hDm h k
theorem RgOk.fin (R:RgOk S Q P N ops act m F M) {D:Nat→Prop} {δ:En} {a:Act} {w:World} (hall:∀k,k<m→D k) (hDm:∀k,D k→k<m) (h:St S Q N ops act m F M D w0 a0 δ a w):U N (S 0).h (S 0).n F M (S m).h (S m).n (S 0).sl (S m).sl a0 w0 a w:=by
  refine ⟨δ,fun e hA hg=>?_⟩
  have cB:∀x,curB S Q act D m x=(S m).h.get x:=fun x=>R.at_ (Nat.le_refl m) (fun k hk _=>hall k hk) (fun k h1 h2=>by omega)
  have cS:∀s,curS S ops D m s=(S m).sl.get s:=fun s=>cur_at (fun k hk h=>R.hsl hk h) (Nat.le_refl m) (fun k hk _=>hall k hk) (fun k h1 h2=>by omega)
  have hE:ExtD S D δ (e.ext (S 0).n δ):=by
    intro i hi x h1 h2
    have:=R.mono i 0 (Nat.zero_le i) (Nat.le_of_lt (hDm i hi))
    have hx0:¬x<(S 0).n:=by omega
    exact ⟨if_neg hx0,if_neg hx0⟩
  have hX:=h e hA hg _ (En.ext_ag _ _ _) hE
  have dm:∀x,(x<(S 0).n∧bt F x∨(S 0).n≤x∧x<(S m).n)→Dom S F D x:=by
    rintro x (h1| ⟨h1,h2⟩)
    · exact .inl h1
    · obtain ⟨i,h3,h4⟩:=R.where_ h1 m (Nat.le_refl m) h2
      exact .inr ⟨i,hall i h3,h4⟩
  refine ⟨⟨En.ext_ag _ _ _,⟨fun x B h1 h2=>hX.sat x B (dm x h1) (by rw [cB];exact h2),fun x y B C h1 h2 h3 h4 he=>hX.inj x y B C (dm x h1) (dm y h2) (by rw [cB];exact h3) (by rw [cB];exact h4) he⟩,hX.kp,fun x h1 h2=>?_⟩,hX.sz,fun s v hs=>hX.sl s v (by rw [cS];exact hs)⟩
  obtain ⟨B,hB⟩:=Option.isSome_iff_exists.1 h2
  exact hX.nw x h1 (dm x (.inr ⟨h1,((R.hb m (Nat.le_refl m)).get x B hB).1⟩)) (by rw [cB];exact h2)
theorem RgOk.all (R:RgOk S Q P N ops act m F M) (hM:∀x,bt M x→∃k,k<m∧bt (Q k).wm x):Dd (S 0).h (S 0).n F M (S m).h (S m).n:=by
  have up:∀k,k≤m→(S 0).n≤(S k).n:=fun k hk=>R.mono k 0 (Nat.zero_le k) hk
  refine ⟨up m (Nat.le_refl m),fun _=>R.hb m (Nat.le_refl m),fun x hx hm=>?_,fun x hx hn=>?_,fun x hx hm=>?_⟩
  · have:∀j,j≤m→(S j).h.get x=(S 0).h.get x:=by
      intro j
      induction j with
      |zero=>intro _;rfl
      | succ j ih=>
        intro hj
        rw [R.hs (by omega) ?_,ih (by omega)]
        have:=up j (by omega)
        rintro (⟨_,h2⟩| ⟨h1,_⟩)
        · exact hm (R.wm j (by omega) x h2)
        · omega
    exact this m (Nat.le_refl m)
  · cases hg:(S m).h.get x with
    |none=>rfl
    | some B=>
      have:=R.some_ hx m (Nat.le_refl m) (by rw [hg];rfl)
      rw [hn] at this
      cases this
  · obtain ⟨k,hk,h1⟩:=hM x hm
    exact R.fp k hk x ((R.dd k hk).sub x (Nat.lt_of_lt_of_le hx (up k (Nat.le_of_lt hk))) h1)
def unl:List Bool→Nat
  | []=>0
  |b::l=>(if b then 0 else 1)+unl l
theorem unl_set:∀(l:List Bool) (i:Nat),l[i]?=some false→unl (l.set i true)+1=unl l
  | [],i,h=>by cases h
  | b::l,0,h=>by
    rw [List.getElem?_cons_zero] at h
    cases h
    simp [unl]
    omega
  | b::l,i+1,h=>by
    rw [List.getElem?_cons_succ] at h
    have:=unl_set l i h
    rw [List.set_cons_succ,unl,unl]
    omega
theorem unl_zero:∀(l:List Bool),unl l=0→∀i:Nat,l[i]?≠some false
  | [],_,i,hc=>by cases hc
  | b ::l,h,i,hc=>by
    rw [unl] at h
    cases b with
    |false=>simp at h
    | true=>
      cases i with
      |zero=>rw [List.getElem?_cons_zero] at hc;cases hc
      | succ i=>
        rw [List.getElem?_cons_succ] at hc
        exact unl_zero l (by simpa using h) i hc
def Lst (l:Array Bool) (i:Nat):Prop:=l[i]?=some true
theorem getD_lst {l:Array Bool} {i:Nat}:l.getD i false=true↔Lst l i:=by
  unfold Lst
  rw [Array.getD_eq_getD_getElem?]
  cases l[i]? with
  |none=>simp
  |some b=>simp
theorem getD_nlst {l:Array Bool} {i:Nat}:l.getD i true=false↔l[i]?=some false:=by
  rw [Array.getD_eq_getD_getElem?]
  cases l[i]? with
  |none=>simp
  |some b=>simp
theorem bits_in (R:RgOk S Q P N ops act m F M) {D:Nat→Prop} (hD:∀k,D k→∀o,ops[k]?=some o→∀e∈o.after,Region.binds .any e=true→D e.on):∀k,(∀o,ops[k]?=some o→∀e∈o.after,Region.binds .any e=true→D e.on)→∀i,Nat.testBit (Bk ops k) i=true→D i:=by
  intro k
  induction k using Nat.strongRecOn with
  | _ k ih=>
    intro hk i hi
    unfold Bk before at hi
    rcases before_bit hi with h| ⟨e,he,hb,h⟩
    · rw [Nat.zero_testBit] at h;cases h
    · cases ho:ops[k]? with
      |none=>rw [ho] at he;cases he
      | some o=>
        rw [ho] at he
        have he:e∈o.after:=Array.mem_toList_iff.1 he
        have hDe:=hk o ho e he hb
        rcases h with rfl|h
        · exact hDe
        · have hlt:=R.txt.on k o ho e he hb
          rw [revB_len,revB_get ops k e.on hlt] at h
          exact ih e.on hlt (fun o' ho' e' he' hb'=>hD e.on hDe o' ho' e' he' hb') i h
theorem RgOk.any (R:RgOk S Q P N ops act m F M) (hG:∃e,SlT N e (S 0).sl a0∧GdF e (S 0).n F (S 0).h w0) {Q':Exit→Act→World→Prop} (k:∀a w,a.defers=a0.defers→U N (S 0).h (S 0).n F M (S m).h (S m).n (S 0).sl (S m).sl a0 w0 a w→Q' .normal a w) :
    ∀(fuel:Nat) (l:Array Bool) (a:Act) (w:World) (δ:En),l.size=m→unl l.toList≤fuel→(∀k,Lst l k→∀o,ops[k]?=some o→∀e∈o.after,Region.binds .any e=true→Lst l e.on)→St S Q N ops act m F M (Lst l) w0 a0 δ a w→a.defers=a0.defers→wpAny P .any ops Q' fuel l a w:=by
  have lt:∀(l:Array Bool),l.size=m→∀k,Lst l k→k<m:=fun l hl k hk=>hl▸(Array.getElem?_eq_some_iff.1 hk).1
  have done:∀(l:Array Bool) (a:Act) (w:World) (δ:En),l.size=m→St S Q N ops act m F M (Lst l) w0 a0 δ a w→a.defers=a0.defers→Region.ready .any ops l=[]→Q' .normal a w:=by
    intro l a w δ hl h hd hr
    refine k a w hd (R.fin (fun j=>?_) (lt l hl) h)
    induction j using Nat.strongRecOn with
    | _ j ih=>
      intro hj
      cases hg:l[j]? with
      |none=>have:=Array.getElem?_eq_none_iff.1 hg;omega
      | some b=>
        cases b with
        |true=>exact hg
        | false=>
          obtain ⟨o,ho,_⟩:=R.op j hj
          have:j∈Region.ready .any ops l:=mem_ready.2 ⟨getD_nlst.2 hg,o,ho,fun e he hb=>getD_lst.2 (ih e.on (R.txt.on j o ho e he hb) (Nat.lt_trans (R.txt.on j o ho e he hb) hj))⟩
          rw [hr] at this
          cases this
  intro fuel
  induction fuel with
  | zero=>
    intro l a w δ hl hu hcl h hd
    have hr:Region.ready .any ops l=[]:=by
      refine List.eq_nil_iff_forall_not_mem.2 fun j hj=>?_
      have h1:=getD_nlst.1 (mem_ready.1 hj).1
      rw [←Array.getElem?_toList] at h1
      exact unl_zero _ (by omega) j h1
    exact ⟨hr,done l a w δ hl h hd hr⟩
  | succ fuel ih=>
    intro l a w δ hl hu hcl h hd
    refine ⟨done l a w δ hl h hd,fun j hj=>?_⟩
    obtain ⟨h1,o,ho,h2⟩:=mem_ready.1 hj
    have hf:=getD_nlst.1 h1
    have hjm:j<m:=hl▸(Array.getElem?_eq_some_iff.1 hf).1
    have hnD:¬Lst l j:=fun c=>by unfold Lst at c;rw [hf] at c;cases c
    have hin:∀o',ops[j]?=some o'→∀e∈o'.after,Region.binds .any e=true→Lst l e.on:=fun o' ho' e he hb=>by
      rw [ho] at ho'
      cases ho'
      exact getD_lst.1 (h2 e he hb)
    refine R.go hG hjm hnD (fun q hq=>bits_in R hcl q (hcl q hq)) (bits_in R hcl j hin) (lt l hl) h fun a' w' δ' hd' h'=>?_
    have hL:(fun i=>Lst l i∨i=j)=Lst (l.setIfInBounds j true):=by
      funext i
      refine propext ?_
      unfold Lst
      by_cases hij:i=j
      · subst hij
        simp [hl,hjm]
      · rw [Array.getElem?_setIfInBounds_ne (fun c=>hij c.symm)]
        simp [hij]
    rw [hL] at h'
    refine ih _ a' w' δ' (by simp [hl]) ?_ (fun q hq o' ho' e he hb=>?_) h' (hd'.trans hd)
    · have:=unl_set l.toList j (by rw [Array.getElem?_toList];exact hf)
      rw [Array.toList_setIfInBounds]
      omega
    · rw [←hL] at hq ⊢
      rcases hq with hq|rfl
      · exact .inl (hcl q hq o' ho' e he hb)
      · exact .inl (hin o' ho' e he hb)
theorem RgOk.start (R:RgOk S Q P N ops act m F M):∃δ,St S Q N ops act m F M (Lst (Array.replicate m false)) w0 a0 δ a0 w0:=by
  have hno:∀i,¬Lst (Array.replicate m false) i:=by
    intro i h
    unfold Lst at h
    rw [Array.getElem?_replicate] at h
    split at h<;>cases h
  refine ⟨⟨id,id⟩,fun e hA hg f hf hE=>?_⟩
  have cB:∀x,curB S Q act (Lst (Array.replicate m false)) m x=(S 0).h.get x:=fun x=>high m (Nat.zero_le m) (fun k _ _ _ hk=>hno k hk)
  have cS:∀s,curS S ops (Lst (Array.replicate m false)) m s=(S 0).sl.get s:=fun s=>cur_high m (Nat.zero_le m) (fun k _ _ _ hk=>hno k hk)
  have dm:∀x,Dom S F (Lst (Array.replicate m false)) x→x<(S 0).n∧bt F x:=by
    rintro x (h| ⟨i,hi,_⟩)
    · exact h
    · exact absurd hi (hno i)
  have hb0:=R.hb 0 (Nat.zero_le m)
  have hs0:=R.sw 0 (Nat.zero_le m)
  refine ⟨hA.size,fun s v hs=>?_,fun x B h1 h2=>?_,fun x y B C h1 h2 h3 h4 he=>?_,Kp.refl w0 _,fun x h1 h2=>?_⟩
  · rw [cS] at hs
    rw [LV.val_ag hf v (hs0.bd s v hs)]
    exact hA.get s v hs
  · rw [cB] at h2
    exact LB.sat_ag hf (dm x h1).1 rfl (hb0.get x B h2).2 (hg.sat x B (dm x h1) h2)
  · rw [cB] at h3 h4
    rw [hf.ρ x (dm x h1).1,hf.ρ y (dm y h2).1] at he
    exact hg.inj x y B C (dm x h1) (dm y h2) h3 h4 he
  · have:=(dm x h2).1
    omega
end
structure CallU (P:Program) (k:Nat) (args:List LV) (h:Tr LB) (n:Nat) (r:Rs):Prop where
  fn:∃fn,P.funcs[k]?=some fn∧fn.body.isSome=true∧(fn.name == "runtime.NumGoroutine")=false
  dd:Dd h n r.fp r.wm r.h r.n
  bd:r.v.bd r.n
  run:∀w vs,(∃e,vs=(LV.vals e args).toArray∧GdF e n r.fp h w)→Ret P k vs w fun u w'=>∃δ:En,∀e,vs=(LV.vals e args).toArray→GdF e n r.fp h w→Tk h n r.fp r.wm r.h r.n e w (e.ext n δ) w'∧u=r.v.val (e.ext n δ)
def XE.ex:XE→Exit
  | .n=>.normal
  | .x i=>.exit i
  | .r=>.ret
def WpK (P:Program) (K:Nat) (c:Code) (Q:Exit→Act→World→Prop) (a:Act) (w:World):Prop:=match c with
  | .loop b=>Code.rounds P b Q K a w
  |c=>c.wp P Q a w
theorem WpK.wp {P:Program} {K:Nat} {c:Code} {Q:Exit→Act→World→Prop} {a:Act} {w:World} (h:WpK P K c Q a w):c.wp P Q a w:=by
  unfold WpK at h
  split at h
  · exact wp_loop_rounds K h
  · exact h
structure CodeU (P:Program) (K N:Nat) (sl:Tr LV) (c:Code) (h:Tr LB) (n:Nat) (r:Rs):Prop where
  dd:Dd h n r.fp r.wm r.h r.n
  sw:SW N r.n r.sl
  run:∀a w,a.defers=[]→(∃e,SlT N e sl a∧GdF e n r.fp h w)→∀Q:Exit→Act→World→Prop,(∀a' w',a'.defers=[]→U N h n r.fp r.wm r.h r.n sl r.sl a w a' w'→Q r.e.ex a' w')→WpK P K c Q a w
def codeOk:Code→Bool
  | .region _ ops d=>!d || regOk ops
  | .seq a b=>codeOk a && codeOk b
  | .cond _ a b=>codeOk a && codeOk b
  | .block _ b=>codeOk b
  | .loop b=>codeOk b
  | .scope b=>codeOk b
  |_=>true
structure CtxOkC (P:Program) (X:Ctx):Prop extends CtxOk P X where
  mixed:P.follows .mixedOrders=true
  txt:∀k f c,X.fn k=some f→f.body=some c→codeOk c=true
  orc:∀k g,X.orc k=some g→∀args h n q,g args h n=some q→HB n h→LV.bds n args→∃v,q.v=some v∧CallU P k args h n ⟨.r,.e,v,q.h,q.n,q.fp,q.wm⟩
def Sound (P:Program) (X:Ctx) (K:Nat) (ih:Task→Tr LB→Nat→Option Rs):Prop:=
  ∀ t h n r,ih t h n=some r→HB n h→match t with
    | .code N sl c=>N≤4096→codeOk c=true→SW N n sl→CodeU P K N sl c h n r
    | .call k args=>LV.bds n args→CallU P k args h n r
section
variable {P:Program} {X:Ctx} {K N:Nat} {sl:Tr LV} {h:Tr LB} {n:Nat} {ih:Task→Tr LB→Nat→Option Rs}
theorem callU_op {o:Oper} {f:Operand} {aa:Array Operand} {ats:Array TypeId} {k:Nat} {a b vs:List LV} {r:Rs} {q:R1} (hS:SW N n sl) (hop:o.op= .call ⟨.value f,aa,ats⟩) (hf:opd sl f=some (.F (.func k) a b)) (ha:opds sl aa.toList=some vs)
    (hc:CallU P k (a++vs++b) h n r) (hq:q=⟨some r.v,r.h,r.n,r.fp,r.wm⟩):OpU P N sl h n o q:=by
  subst hq
  refine ⟨hc.dd,fun u hu=>by cases hu;exact hc.bd,fun w a0 ⟨e0,ho,hg⟩=>.inr ?_⟩
  have hs:∀cs b,o.op≠.select cs b:=fun cs b c=>by rw [hop] at c;cases c
  have ex:∀e,SlO N e sl a0 o→(execOp a0.eval o).run P w= .ok (.enter k (LV.vals e (a++vs++b)).toArray) w:=by
    intro e ho
    rw [←actE_eval ho hs]
    have hA:=actE_ok hS e a0
    have h1:=hA.ev hf
    have h2:=evs_arr hA ha
    obtain ⟨fn,g1,g2,g3⟩:=hc.fn
    have g4:fn.body.isNone=false:=by cases hb:fn.body<;>simp_all
    obtain ⟨d,op,T,pos,af,g⟩:=o
    simp only at hop
    subst hop
    simp only [LV.val] at h1
    simp only [execOp,resolve,h2,h1,Deferred.ofValue,Sem.run_bind,Sem.run_pure,Result.andThen_ok,invoke,callFunc,run_program,g1,g3,g4,Bool.false_eq_true,if_false]
    congr 2
    apply Array.ext'
    simp [vals_map]
  refine ⟨k,_,ex e0 ho,Ret.mono (hc.run w _ ⟨e0,rfl,hg⟩) fun u w' ⟨δ,hU⟩=>⟨δ,fun e he=>?_⟩⟩
  have h1:=ex e0 ho
  rw [ex e he.1] at h1
  have h2:(LV.vals e (a++vs++b)).toArray=(LV.vals e0 (a++vs++b)).toArray:=by
    have:=(Result.ok.inj h1).1
    exact (Next.enter.inj this).2
  obtain ⟨t,hu⟩:=hU e h2.symm he.2
  exact ⟨t,_,rfl,hu⟩
theorem bds_app {x y:List LV} (h1:LV.bds n x) (h2:LV.bds n y):LV.bds n (x++y):=bds_iff.2 fun v hv=>(List.mem_append.1 hv).elim (bds_iff.1 h1 v) (bds_iff.1 h2 v)
theorem opA_ok (hX:CtxOkC P X) (hs:Sound P X K ih) {o:Oper} {q:R1} (hq:opA X ih sl h n o.op=some q) (hB:HB n h) (hS:SW N n sl):OpU P N sl h n o q:=by
  obtain ⟨d,op,T,pos,af,g⟩:=o
  simp only at hq
  unfold opA at hq
  split at hq
  · rename_i c
    obtain ⟨callee,aa,ats⟩:=c
    split at hq
    · rename_i vs ha
      split at hq
      · rename_i bi hcal
        simp only at hcal
        subst hcal
        exact opU_of_does hB hS (fun cs b c=>by cases c) (does_blt hX.toCtxOk hB hS.bd ha hq)
      · rename_i f hcal
        simp only at hcal
        subst hcal
        split at hq
        · rename_i k a b hf
          have hfb:=opd_bd hS.bd hf
          simp only [LV.bd] at hfb
          have hbs:=bds_app (bds_app hfb.1 (opds_bd hS.bd ha)) hfb.2
          split at hq
          · rename_i gg hg
            obtain ⟨v,hv,hc⟩:=hX.orc k gg hg _ h n q hq hB hbs
            refine callU_op hS rfl hf ha hc ?_
            obtain ⟨qv,qh,qn,qf,qw⟩:=q
            simp only at hv
            rw [hv]
          · split at hq
            · rename_i r hr
              cases hq
              exact callU_op hS rfl hf ha (hs _ h n r hr hB hbs) rfl
            · cases hq
        · cases hq
      · cases hq
    · cases hq
  · refine opU_of_does hB hS (fun cs b c=>?_) (does_op hX.toCtxOk hB hS.bd hq)
    simp only at c
    subst c
    simp only [opX] at hq
    cases hq
theorem one_ok {ops:Array Oper} {o:Oper} {s:Sn} {q:R1} {sl':Tr LV} (h:one X ih N ops o s=some (q,sl')) :
    (wanted ops s.sl o.guard=some true∧opA X ih s.sl s.h s.n o.op=some q∧putS N s.sl o.dst q.v=some sl')∨(wanted ops s.sl o.guard=some false∧q=⟨some (.T []),s.h,s.n,0,0⟩∧putS N s.sl o.dst (some (.T []))=some sl'):=by
  unfold one at h
  split at h
  · rename_i hw
    split at h
    · rename_i q' ho
      split at h
      · rename_i s' hp
        cases h
        exact .inl ⟨hw,ho,hp⟩
      · cases h
    · cases h
  · rename_i hw
    split at h
    · rename_i s' hp
      cases h
      exact .inr ⟨hw,rfl,hp⟩
    · cases h
  · cases h
theorem runD_ok (hX:CtxOk P X) {ops:Array Oper} (hN:N≤4096) (hreg:regOk ops=true) (hop:∀sl h n (o:Oper) q,opA X ih sl h n o.op=some q→HB n h→SW N n sl→OpU P N sl h n o q) {r:Rs} (hq:runD X ih N ops ops.toList 0 [] [] sl h n 0 0=some r) (hB:HB n h) (hS:SW N n sl) :
    r.e= .n∧Dd h n r.fp r.wm r.h r.n∧SW N r.n r.sl∧∀a w,(∃e,SlT N e sl a∧GdF e n r.fp h w)→∀Q:Exit→Act→World→Prop,(∀a' w',a'.defers=a.defers→U N h n r.fp r.wm r.h r.n sl r.sl a w a' w'→Q .normal a' w')→wpAny P .any ops Q ops.size (Array.replicate ops.size false) a w:=by
  obtain ⟨g1,g2,g3,g4,g5,F,M,g6,g7,g8,g9⟩:=runD_tr (X:=X) (ih:=ih) (N:=N) (ops:=ops) (s0:=⟨sl,h,n⟩) ops.toList 0 0 0 r rfl hq
  rw [Nat.zero_or] at g6 g7
  rw [Nat.zero_add,Array.length_toList] at g3 g4 g5 g8 g9
  obtain ⟨S,hSd⟩:∃S,S=Sk X ih N ops ⟨sl,h,n⟩:=⟨_,rfl⟩
  obtain ⟨Q,hQd⟩:∃Q,Q=Qk X ih N ops ⟨sl,h,n⟩:=⟨_,rfl⟩
  have hS0:S 0=⟨sl,h,n⟩:=by rw [hSd];rfl
  have base:∀k,k<ops.size→∃o,ops[k]?=some o∧one X ih N ops o (S k)=some (Q k,(S (k+1)).sl)∧(S (k+1)).h=(Q k).h∧(S (k+1)).n=(Q k).n:=by
    intro k hk
    obtain ⟨o,h1,h2,h3,h4,_⟩:=g1 k (Nat.zero_le k) hk
    rw [hSd,hQd]
    exact ⟨o,h1,h2,h3,h4⟩
  have inv:∀k,k≤ops.size→HB (S k).n (S k).h∧SW N (S k).n (S k).sl:=by
    intro k
    induction k with
    |zero=>intro _;rw [hS0];exact ⟨hB,hS⟩
    | succ k ihk=>
      intro hk
      obtain ⟨hb,hs⟩:=ihk (by omega)
      obtain ⟨o,h1,h2,h3,h4⟩:=base k (by omega)
      rw [h3,h4]
      rcases one_ok h2 with ⟨_,q2,q3⟩| ⟨_,q2,q3⟩
      · have hO:=hop _ _ _ o _ q2 hb hs
        exact ⟨hO.dd.hb hb,putS_sw hN q3 hs hO.dd.nn hO.bd⟩
      · rw [q2]
        exact ⟨hb,putS_sw hN q3 hs (Nat.le_refl _) fun x hx=>by cases hx;exact trivial⟩
  obtain ⟨act,hact⟩:∃act:Nat→Option (LV × LV),act=fun k=>match ops[k]? with
    | some o=>(match o.op with
      | .insert _ _ kk xx=>(match opd (S k).sl kk,opd (S k).sl xx with
        |some a,some b=>some (a,b)
        |_,_=>none)
      |_=>none)
    |none=>none:=⟨_,rfl⟩
  have R : RgOk S Q P N ops act ops.size F M:=by
    refine ⟨hN,rfl,fun k hk=>?_,fun k hk=>?_,fun k hk=>?_,fun k hk=>(inv k hk).1,fun k hk=>(inv k hk).2,fun k hk=>?_,fun j k x hj hk hnI hx=>?_,fun k hk x hx=>?_,fun k hk x hx=>?_,regOk_ok hreg,fun k hk hi=>?_,fun k hk hi=>?_⟩
    · obtain ⟨o,h1,h2,h3,h4⟩:=base k hk
      obtain ⟨hb,hs⟩:=inv k (Nat.le_of_lt hk)
      rcases one_ok h2 with ⟨q1,q2,q3⟩| ⟨q1,q2,q3⟩
      · exact ⟨o,h1,.inl ⟨q1,hop _ _ _ o _ q2 hb hs,q3⟩⟩
      · exact ⟨o,h1,.inr ⟨q1,q2,q3⟩⟩
    · obtain ⟨o,h1,h2,h3,h4⟩:=base k hk;exact h3
    · obtain ⟨o,h1,h2,h3,h4⟩:=base k hk;exact h4
    · obtain ⟨o,h1,h2,h3,h4⟩:=base k hk
      obtain ⟨hb,hs⟩:=inv k (Nat.le_of_lt hk)
      rw [h3,h4]
      rcases one_ok h2 with ⟨q1,q2,q3⟩| ⟨q1,q2,q3⟩
      · exact (hop _ _ _ o _ q2 hb hs).dd
      · rw [q2];exact Dd.refl _ _
    · obtain ⟨o,h1,h2,h3,h4,hc⟩:=g1 k (Nat.zero_le k) hk
      rcases clash_ok k hc j hj with h5|h5|h5
      · exact h5
      rotate_left
      · exact absurd ⟨h5.2,h5.1⟩ hnI
      · exfalso
        have tr:∀i,Fp S Q i x→i<ops.size→bt (fk X ih N ops ⟨sl,h,n⟩ i).1 x:=by
          intro i hi him
          obtain ⟨o,h1,h2,h3,h4⟩:=base i him
          unfold fk
          rw [←hSd,←hQd]
          rw [bt_or]
          rcases hi with hi|hi
          · exact .inl hi.2
          · rw [h4] at hi;exact .inr (newM_bt hi.1 hi.2)
        have tw:∀i,Wr S Q i x→i<ops.size→bt (fk X ih N ops ⟨sl,h,n⟩ i).2.1 x:=by
          intro i hi him
          obtain ⟨o,h1,h2,h3,h4⟩:=base i him
          unfold fk
          rw [←hSd,←hQd]
          rw [bt_or]
          rcases hi with hi|hi
          · exact .inl hi.2
          · rw [h4] at hi;exact .inr (newM_bt hi.1 hi.2)
        obtain ⟨z1,z2⟩:=and_or_zero (x:=x) h5
        rcases hx with ⟨hx1,hx2⟩| ⟨hx1,hx2⟩
        · exact z1 ⟨tr k hx1 hk,tw j hx2 (by omega)⟩
        · exact z2 ⟨tw k hx1 hk,tr j hx2 (by omega)⟩
    · rw [hQd] at hx
      exact (g8 x).2 ⟨k,Nat.zero_le k,hk,hx⟩
    · rw [hQd] at hx
      exact (g9 x).2 ⟨k,Nat.zero_le k,hk,hx⟩
    · obtain ⟨o,h1,_⟩:=base k hk
      rw [hact]
      unfold isI at hi
      rw [h1] at hi
      simp only at hi
      simp only [h1]
      cases hop:o.op<;>first|rfl|(rw [hop] at hi;cases hi)
    · obtain ⟨o, h1,h2,h3,h4⟩:=base k hk
      obtain ⟨hb,hs⟩:=inv k (Nat.le_of_lt hk)
      unfold isI at hi
      rw [h1] at hi
      simp only at hi
      rcases one_ok h2 with ⟨q1,q2,q3⟩| ⟨q1,q2,q3⟩
      · obtain ⟨d,op,T,pos,af,g⟩:=o
        cases op with
        | insert t mm kk xx=>
          have q4:=q2
          simp only [opA,opX] at q2
          split at q2
          · rename_i b kv xv g1 g2 g3
            split at q2
            · rename_i B gB
              split at q2
              · rename_i B' gB'
                obtain ⟨gk,q5⟩:=ck_some q2
                have q6:=Option.some.inj q5
                have hn:(S (k+1)).n=(S k).n:=by rw [h4,←q6]
                have hh:(S (k+1)).h=(S k).h.set 21 b (some B'):=by rw [h3,←q6]
                refine .inr ⟨_,b,B,B',kv,xv,h1,q1,?_,gB,gB',hh,hn,?_,?_,opd_bd hs.bd g2,opd_bd hs.bd g3,fun n' H B1 B2 hn' hB' hg' hi'=>?_⟩
                · rw [hact]
                  simp only [h1,g2,g3]
                · rw [←q6,hh]
                · rw [←q6] at q3;exact q3
                · refine opU_of_does hB' ⟨hs.bd.mono hn',hs.lt⟩ (fun cs b c=>by cases c) (does_op hX hB' (hs.bd.mono hn') ?_)
                  simp only [opX,g1,g2,g3,hg',hi',gk]
                  rfl
              · cases q2
            · cases q2
          · cases q2
        |_=>cases hi
      · refine .inl fun x hx=>?_
        rcases hx with ⟨_,hx⟩| ⟨hx1,hx2⟩
        · rw [q2] at hx;exact bt_zero x hx
        · rw [h4,q2] at hx2
          simp only at hx2
          omega
  have hM:∀x,bt M x→∃k,k<ops.size∧bt (Q k).wm x:=fun x hx=>by
    obtain ⟨k,_,h2,h3⟩:=(g9 x).1 hx
    exact ⟨k,h2,by rw [hQd];exact h3⟩
  have hdd:=R.all hM
  rw [←hSd] at g3 g4 g5
  rw [g3,g4,g5,g6,g7]
  rw [hS0] at hdd
  refine ⟨g2,hdd,(inv _ (Nat.le_refl _)).2,fun a w hG Q' k=>?_⟩
  obtain ⟨δ,hst⟩:=R.start (w0:=w) (a0:=a)
  refine R.any (by rw [hS0];exact hG) (fun a' w' hd hu=>k a' w' hd ?_) ops.size _ a w δ (by simp) ?_ (fun q hq=>?_) hst rfl
  · rw [hS0] at hu;exact hu
  · have:∀m,unl (List.replicate m false)≤m:=by
      intro m
      induction m with
      |zero=>exact Nat.le_refl 0
      |succ m ihm=>rw [List.replicate_succ,unl];simp;omega
    rw [Array.toList_replicate]
    exact this _
  · unfold Lst at hq
    rw [Array.getElem?_replicate] at hq
    split at hq<;>cases hq
end
end Go.Xc
