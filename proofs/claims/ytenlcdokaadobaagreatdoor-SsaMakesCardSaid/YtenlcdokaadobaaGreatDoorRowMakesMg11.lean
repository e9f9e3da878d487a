/-
  An executor for runs on known data: new blocks, stores. Conditions: none.
  An executor for runs on known data: stores; structs and slices put together. Conditions: none.
  An executor for runs on known data: literals of structs and slices, make. Conditions: none.
  An executor for runs on known data: rows that are made; slices of slices; conversions. Conditions: none.
  An executor for runs on known data: slices of slices and strings; conversions. Conditions: none.
  An executor for runs on known data: conversions. Conditions: none.
  An executor for runs on known data: append. Conditions: none.
  An executor for runs on known data: append, second part. Conditions: none.
  An executor for runs on known data: append, third part. Conditions: none.
  An executor for runs on known data: built-in functions. Conditions: none.
  An executor for runs on known data: maps. Conditions: none.
  An executor for runs on known data: maps, looked up and written. Conditions: none.
  An executor for runs on known data: maps, written. Conditions: none.
  An executor for runs on known data: ranging. Conditions: none.
  An executor for runs on known data: ranging, the next one. Conditions: none.
-/
import Derived.Test.YtenlcdokaadobaaGreatDoorRowMakesMg10
namespace Go.Xc
open Go Go.RowKit Go.Fw
set_option linter.unusedVariables false
theorem LB.bd_mono {n m:Nat} (h:n≤m):∀{B:LB},B.bd n→B.bd m
  | .C _ cs,hb=>LV.bds_mono h cs hb
  | .G _ _ cs,hb=>LV.bds_mono h cs hb
  | .W _ cs,hb=>LV.bds_mono h cs hb
  | .M es _,hb=>fun x hx=>⟨LV.bd_mono h _ (hb x hx).1,LV.bd_mono h _ (hb x hx).2⟩
  | .N es,hb=>fun x hx=>⟨LV.bd_mono h _ (hb x hx).1,LV.bd_mono h _ (hb x hx).2⟩
  | .S _ _,_=>trivial
  | .R m _ _ _,hb=>fun b hm=>Nat.lt_of_lt_of_le (hb b hm) h
theorem dd_new {h:Tr LB} {n fp:Nat} {B:LB} (hn:n<top) (hb:B.bd n):Dd h n (fp ||| bitM n) 0 (h.set 21 n (some B)) (n+1):=
  ⟨Nat.le_succ n,fun hB=>⟨hn,fun i C hg=>by
    rw [Tr.get_put h i _ hn] at hg
    by_cases hi:i=n
    · rw [if_pos hi] at hg
      cases hg
      exact ⟨by omega,LB.bd_mono (Nat.le_succ n) hb⟩
    · rw [if_neg hi] at hg
      exact ⟨Nat.lt_succ_of_lt (hB.get i C hg).1,LB.bd_mono (Nat.le_succ n) (hB.get i C hg).2⟩⟩,
   fun i hi _=>by rw [Tr.get_put h i _ hn,if_neg (by omega)],
   fun i hi h0=>by rw [Tr.get_put h i _ hn,if_neg (by omega)];exact h0,fun i _ hi=>absurd hi (bt_zero i)⟩
theorem tk_newr {h:Tr LB} {n fp k r:Nat} {B:LB} {e:En} {w w':World} (hB:HB n h) (hn:n<top) (hr:w.heap.size≤r) (hg:Gd e (fun i=>i<n∧bt (fp ||| bitM n) i) h w) (hk:Kp w noM w') (hs:B.sat (e.add n r k) w' n) :
    Tk h n (fp ||| bitM n) 0 (h.set 21 n (some B)) (n+1) e w (e.add n r k) w':=by
  have hag:=En.add_ag e n r k
  have old:∀i C,i<n→bt (fp ||| bitM n) i→(h.set 21 n (some B)).get i=some C→C.sat (e.add n r k) w' i∧h.get i=some C∧e.ρ i<w.heap.size:=by
    intro i C hi hf hgt
    rw [Tr.get_put h i _ hn,if_neg (by omega)] at hgt
    have h1:=hg.sat i C ⟨hi,hf⟩ hgt
    exact ⟨LB.sat_ag hag hi (hk.block _ (LB.sat_lt h1) id) (hB.get i C hgt).2 h1,hgt,LB.sat_lt h1⟩
  refine ⟨hag,⟨fun i C hi hgt=>?_,fun i j C D hi hj hgi hgj he=>?_⟩,⟨hk.os,hk.tape,hk.output,hk.size,fun b hb _=>hk.block b hb id⟩,fun i hi hsm=>?_⟩
  · rcases hi with ⟨h1,h2⟩| ⟨h1,h2⟩
    · exact (old i C h1 h2 hgt).1
    · obtain rfl:i=n:=by omega
      rw [Tr.get_put h i _ hn,if_pos rfl] at hgt
      cases hgt
      exact hs
  · rcases hi with ⟨h1,h2⟩| ⟨h1,h2⟩<;>rcases hj with ⟨h3,h4⟩| ⟨h3,h4⟩
    · obtain ⟨_,q1,_⟩:=old i C h1 h2 hgi
      obtain ⟨_,q2,_⟩:=old j D h3 h4 hgj
      rw [hag.ρ i h1,hag.ρ j h3] at he
      exact hg.inj i j C D ⟨h1,h2⟩ ⟨h3,h4⟩ q1 q2 he
    · obtain ⟨_,q1,q3⟩:=old i C h1 h2 hgi
      obtain rfl:j=n:=by omega
      rw [hag.ρ i h1,En.add_ρ] at he
      omega
    · obtain ⟨_,q2,q3⟩:=old j D h3 h4 hgj
      obtain rfl:i=n:=by omega
      rw [hag.ρ j h3,En.add_ρ] at he
      omega
    · omega
  · by_cases hin:i=n
    · subst hin
      rw [En.add_ρ]
      exact .inl hr
    · rw [Tr.get_put h i _ hn,if_neg hin] at hsm
      obtain ⟨C,hC⟩:=Option.isSome_iff_exists.1 hsm
      have:=(hB.get i C hC).1
      omega
theorem tk_new {h:Tr LB} {n fp k:Nat} {B:LB} {e:En} {w w':World} (hB:HB n h) (hn:n<top) (hg:Gd e (fun i=>i<n∧bt (fp ||| bitM n) i) h w) (hk:Kp w noM w') (hs:B.sat (e.add n w.heap.size k) w' n) :
    Tk h n (fp ||| bitM n) 0 (h.set 21 n (some B)) (n+1) e w (e.add n w.heap.size k) w':=tk_newr hB hn (Nat.le_refl _) hg hk hs
theorem newB_some {h:Tr LB} {n fp wm:Nat} {B:LB} {v:LV} {q:R1} (hq:newB h n B v fp wm=some q):n<top∧q=⟨some v,h.set 21 n (some B),n+1,fp ||| bitM n,wm⟩:=by
  unfold newB at hq
  obtain ⟨h1,h2⟩:=ck_some hq
  rw [blt_eq] at h1
  cases h2
  exact ⟨dTr h1,rfl⟩
section
variable {P:Program} {X:Ctx} {N:Nat} {sl:Tr LV} {h:Tr LB} {n:Nat} {d:Option Tmp} {T:TypeId} {pos:String} {af:Array Edge} {g:Option (Nat × Bool)}
theorem does_new {o:Oper} {B:LB} {v:LV} {fp:Nat} {q:R1} (hB:HB n h) (hq:newB h n B v fp 0=some q) (hb:B.bd n) (hv:v.bd (n+1))
    (hr:∀e w a,SlT N e sl a→Gd e (fun i=>i<n∧bt fp i) h w→∃k w',(k=0∨∃m,v= .L n 0 m (.U 0))∧Kp w noM w'∧B.sat (e.add n w.heap.size k) w' n∧(execOp a.eval o).run P w= .ok (.value (v.val (e.add n w.heap.size k))) w'):Does P N sl h n o q:=by
  obtain ⟨hn,rfl⟩:=newB_some hq
  refine ⟨dd_new hn hb,fun u hu=>by cases hu;exact hv,fun e w a hA hG=>?_⟩
  obtain ⟨k,w',h0,h1,h2,h3⟩:=hr e w a hA (hG.sub fun i hi=>⟨hi.1,(bt_or fp _ i).2 (.inl hi.2)⟩)
  exact ⟨_,w',.inr ⟨rfl,_,_,rfl,h0.imp (fun h=>⟨rfl,h⟩) fun ⟨m,h⟩=>⟨m,by rw [h]⟩⟩,tk_new hB hn hG h1 h2,h3⟩
theorem cells_val' (e:En) (v:LV):(v.val e).cells.toList=LV.vals e v.cells:=by
  cases v<;>simp only [LV.val,Value.cells,LV.cells,LV.vals]
theorem cells_bd {n:Nat} {v:LV} (h:v.bd n):LV.bds n v.cells:=by
  cases v<;>simp only [LV.cells,LV.bds,LV.bd] at h ⊢<;>first|exact h|exact ⟨h,trivial⟩|trivial|skip
  all_goals simp_all
theorem zero_cells {t:Nat} {y:Ty} (hy:TyOk P t y) (e:En):(y.zero.val e).cells.toList=LV.vals e y.zs:=by
  rw [cells_val']
  congr 1
  unfold Ty.zero
  split
  · rename_i v h1 h2
    obtain ⟨u,hu,hn⟩:=hy.one h1
    rw [h2] at hu
    cases hu
    rw [h2]
    cases v<;>first|rfl|exact absurd rfl (hn _)
  · rfl
theorem does_alloc {t:TypeId} {q:R1} (hX:CtxOk P X) (hB:HB n h) (hq:opX X sl h n (.alloc t)=some q):Does P N sl h n ⟨d,.alloc t,T,pos,af,g⟩ q:=by
  simp only [opX] at hq
  split at hq
  · rename_i y hy
    have hty:=hX.ty t y hy
    refine does_new hB hq (LV.bds_mono (Nat.zero_le n) _ hty.zbd) (by simp only [LV.bd];exact Nat.lt_succ_self n) fun e w a hA hG=>?_
    have hz:=run_zero hty (e.add n w.heap.size 0) w
    refine ⟨0,w.alloc (.cells (y.zero.val (e.add n w.heap.size 0)).cells t),.inl rfl,alloc_kp w _,?_,?_⟩
    · simp only [LB.sat]
      rw [En.add_ρ,heap_alloc_new,←zero_cells hty]
    · simp only [execOp,Instr.alloc,Sem.run_bind,hz,Result.andThen_ok,Sem.run_pure,newVar,newRow,run_newObj,World.alloc_eq,LV.val,En.add_ρ]
  · cases hq
theorem does_box {t:TypeId} {x:Operand} {q:R1} (hB:HB n h) (hS:SB n sl) (hq:opX X sl h n (.box t x)=some q):Does P N sl h n ⟨d,.box t x,T,pos,af,g⟩ q:=by
  simp only [opX] at hq
  split at hq
  · rename_i v hx
    have hb:=opd_bd hS hx
    refine does_new hB hq (cells_bd hb) (by simp only [LV.bd];exact Nat.lt_succ_self n) fun e w a hA hG=>?_
    have h1:=hA.ev hx
    refine ⟨0,w.alloc (.cells (v.val e).cells t),.inl rfl,alloc_kp w _,?_,?_⟩
    · simp only [LB.sat]
      rw [En.add_ρ,heap_alloc_new,LV.vals_ag (En.add_ag e n w.heap.size 0) _ (cells_bd hb),←cells_val']
    · simp only [execOp,h1,Instr.box,Sem.run_bind,Result.andThen_ok,Sem.run_pure,newVar,newRow,run_newObj,World.alloc_eq,LV.val,En.add_ρ]
  · cases hq
theorem putL_some {cs vs r:List LV} {o:Nat} (hq:putL cs o vs=some r):o+vs.length≤cs.length∧r=cs.take o++vs++cs.drop (o+vs.length):=by
  unfold putL at hq
  obtain ⟨h1,h2⟩:=ck_some hq
  cases h2
  exact ⟨Nat.le_of_ble_eq_true h1,rfl⟩
theorem putL_val {cs vs r:List LV} {o:Nat} (hq:putL cs o vs=some r) (e:En):LV.vals e r=Fw.put (LV.vals e cs) o (LV.vals e vs)∧r.length=cs.length:=by
  obtain ⟨h1,rfl⟩:=putL_some hq
  refine ⟨?_,by simp only [List.length_append,List.length_take,List.length_drop];omega⟩
  unfold Fw.put
  simp only [vals_map,List.map_append,List.map_take,List.map_drop,List.length_map]
theorem putL_bd {n:Nat} {cs vs r:List LV} {o:Nat} (hq:putL cs o vs=some r) (hc:LV.bds n cs) (hv:LV.bds n vs):LV.bds n r:=by
  obtain ⟨h1,rfl⟩:=putL_some hq
  refine bds_iff.2 fun x hx=>?_
  rcases List.mem_append.1 hx with hx|hx
  · rcases List.mem_append.1 hx with hx|hx
    · exact bds_iff.1 hc x (List.mem_of_mem_take hx)
    · exact bds_iff.1 hv x hx
  · exact bds_iff.1 hc x (List.mem_of_mem_drop hx)
structure WrS (h:Tr LB) (n b:Nat) (vs:List LV) (o:Nat) (h':Tr LB):Prop where
  lt:b<n
  ex:∃B B' cs r,h.get b=some B∧h'=h.set 21 b (some B')∧putL cs o vs=some r∧((∃T,B= .C T cs∧B'= .C T r)∨∃T z,B= .G T z cs∧B'= .G T z r)
theorem wrC_some {h h':Tr LB} {n b o:Nat} {vs:List LV} (hB:HB n h) (hq:wrC h b o vs=some h'):WrS h n b vs o h':=by
  unfold wrC at hq
  split at hq
  · rename_i t cs hg
    split at hq
    · rename_i r hr
      cases hq
      exact ⟨(hB.get b _ hg).1,_,_,cs,r,hg,rfl,hr,.inl ⟨t,rfl,rfl⟩⟩
    · cases hq
  · rename_i t z cs hg
    split at hq
    · rename_i r hr
      cases hq
      exact ⟨(hB.get b _ hg).1,_,_,cs,r,hg,rfl,hr,.inr ⟨t,z,rfl,rfl⟩⟩
    · cases hq
  · cases hq
theorem dd_set {h:Tr LB} {n b f:Nat} {B B':LB} (ht:n≤top) (hg:h.get b=some B) (hlt:b<n) (hb:HB n h→B'.bd n):Dd h n (f ||| bitM b) (bitM b) (h.set 21 b (some B')) n:=
  ⟨Nat.le_refl n,fun hB=>⟨hB.top,fun i C hgt=>by
    rw [Tr.get_put h i _ (by omega)] at hgt
    by_cases hi:i=b
    · rw [if_pos hi] at hgt;cases hgt;exact ⟨by omega,hb hB⟩
    · rw [if_neg hi] at hgt;exact hB.get i C hgt⟩,
   fun i hi hm=>by rw [Tr.get_put h i _ (by omega),if_neg fun e=>hm ((bt_bitM b i).2 e)],
   fun i hi h0=>by
    by_cases hib:i=b
    · subst hib;rw [hg] at h0;cases h0
    · rw [Tr.get_put h i _ (by omega),if_neg hib];exact h0,fun i hi hm=>(bt_or _ _ _).2 (.inr hm)⟩
theorem tk_set {h:Tr LB} {n b f:Nat} {B B':LB} {e:En} {w w':World} (hB:HB n h) (hgb:h.get b=some B) (hg:Gd e (fun i=>i<n∧bt (f ||| bitM b) i) h w) (hk:Kp w (fun c=>c=e.ρ b) w') (hs:B'.sat e w' b):Tk h n (f ||| bitM b) (bitM b) (h.set 21 b (some B')) n e w e w':=by
  have hlt:=(hB.get b B hgb).1
  have ht:=hB.top
  have hbs:bt (f ||| bitM b) b:=(bt_or _ _ _).2 (.inr ((bt_bitM b b).2 rfl))
  have old:∀i C,i<n→bt (f ||| bitM b) i→i≠b→h.get i=some C→C.sat e w' i:=by
    intro i C hi hf hib hgi
    have h1:=hg.sat i C ⟨hi,hf⟩ hgi
    refine LB.sat_ag (Ag.refl n e) hi (hk.block _ (LB.sat_lt h1) fun he=>hib ?_) (hB.get i C hgi).2 h1
    exact hg.inj i b C B ⟨hi,hf⟩ ⟨hlt,hbs⟩ hgi hgb he
  have gt:∀i C,(h.set 21 b (some B')).get i=some C→(i=b∧C=B')∨(i≠b∧h.get i=some C):=by
    intro i C hgi
    rw [Tr.get_put h i _ (by omega)] at hgi
    by_cases hi:i=b
    · rw [if_pos hi] at hgi;cases hgi;exact .inl ⟨hi,rfl⟩
    · rw [if_neg hi] at hgi;exact .inr ⟨hi,hgi⟩
  have sm:∀i C,(h.set 21 b (some B')).get i=some C→∃D,h.get i=some D:=by
    intro i C hgi
    rcases gt i C hgi with ⟨rfl,_⟩| ⟨_,h1⟩
    · exact ⟨B,hgb⟩
    · exact ⟨C,h1⟩
  refine ⟨Ag.refl n e,⟨fun i C hi hgi=>?_,fun i j C D hi hj hgi hgj he=>?_⟩,⟨hk.os,hk.tape,hk.output,hk.size,fun c hc hM=>hk.block c hc fun hcb=>hM ⟨b,hlt,(bt_bitM b b).2 rfl,by rw [hgb];rfl,hcb.symm⟩⟩,fun i hi hsm=>?_⟩
  · have hi':i<n∧bt (f ||| bitM b) i:=by
      rcases hi with hi|hi
      · exact hi
      · omega
    rcases gt i C hgi with ⟨rfl,rfl⟩| ⟨hib,h1⟩
    · exact hs
    · exact old i C hi'.1 hi'.2 hib h1
  · obtain ⟨C',hC'⟩:=sm i C hgi
    obtain ⟨D',hD'⟩:=sm j D hgj
    have hi':i<n∧bt (f ||| bitM b) i:=by
      rcases hi with hi|hi
      · exact hi
      · omega
    have hj':j<n∧bt (f ||| bitM b) j:=by
      rcases hj with hj|hj
      · exact hj
      · omega
    exact hg.inj i j C' D' hi' hj' hC' hD' he
  · obtain ⟨C,hC⟩:=Option.isSome_iff_exists.1 hsm
    obtain ⟨D,hD⟩:=sm i C hC
    have:=(hB.get i D hD).1
    omega
end
theorem one_val (e:En) {v:LV} (h:v.one=true):(v.val e).oneCell'=true:=by cases v<;>simp [LV.one] at h<;>simp only [LV.val,Value.oneCell']
theorem ones_val (e:En) {l:List LV} (h:l.all LV.one=true):(LV.vals e l).all (·.oneCell')=true:=by
  rw [vals_map,List.all_map]
  exact List.all_eq_true.2 fun x hx=>one_val e (List.all_eq_true.1 h x hx)
section
variable {P:Program} {X:Ctx} {N:Nat} {sl:Tr LV} {h:Tr LB} {n:Nat} {d:Option Tmp} {T:TypeId} {pos:String} {af:Array Edge} {g:Option (Nat × Bool)}
theorem run_storeRow {w:World} {t:Nat} {y:Ty} (hy:TyOk P t y) {Tb b j:Nat} {cs vs:List Value} {v:Value} (hv:v.cells.toList=vs) (hl:vs.length=y.zs.length) (h1:vs.all (·.oneCell')=true)
    (hb:w.heap[b]?=some (.cells cs.toArray Tb (0,0))) (hj:j+vs.length≤cs.length):(storeVar t ⟨b,j,none⟩ v).run P w= .ok () (w.setRow b (Fw.put cs j vs).toArray):=by
  obtain ⟨ti,h3,h4,h5,h6⟩:=hy.inf
  have hs:v.cells.size=y.zs.length:=by rw [←hl,←hv];simp
  have hh:=run_storeCells_at (P:=P) b j Tb vs 0 cs.toArray w hb (by simp;omega) (fun x hx=>List.all_eq_true.1 h1 x hx)
  simp only [Nat.add_zero] at hh
  simp only [storeVar,Sem.run_bind,sizeOf,typeInfo,run_program,Result.andThen_ok,h3,Sem.run_pure,h5,hs,ne_eq,not_true_eq_false,if_false,hv,hh]
  rfl
theorem wr_row {e:En} {w:World} {S:Nat→Prop} {b o:Nat} {vs:List LV} {h':Tr LB} (hw:WrS h n b vs o h') (hG:Gd e S h w) (hs:S b) :
    ∃cs Tb B',w.heap[e.ρ b]?=some (.cells cs.toArray Tb (0,0))∧o+vs.length≤cs.length∧h'=h.set 21 b (some B')∧B'.sat e (w.setRow (e.ρ b) (Fw.put cs o (LV.vals e vs)).toArray) b:=by
  obtain ⟨B,B',cs,r,hg,rfl,hp,hB⟩:=hw.ex
  have h1:=hG.sat b B hs hg
  obtain ⟨hle,_⟩:=putL_some hp
  obtain ⟨hv,hlen⟩:=putL_val hp e
  rcases hB with ⟨Tb,rfl,rfl⟩| ⟨Tb,z,rfl,rfl⟩
  · simp only [LB.sat] at h1
    refine ⟨LV.vals e cs,Tb,_,h1,by rw [vals_length];exact hle,rfl,?_⟩
    simp only [LB.sat]
    rw [hv]
    exact setRow_heap w _ _ _ _ _ h1
  · simp only [LB.sat] at h1
    obtain ⟨sp,h2,h3,h4,k,h5,h6⟩:=h1
    refine ⟨LV.vals e cs++sp,Tb,_,h2,by rw [List.length_append,vals_length];omega,rfl,?_⟩
    simp only [LB.sat]
    have hput:Fw.put (LV.vals e cs++sp) o (LV.vals e vs)=LV.vals e r++sp:=by
      rw [hv]
      unfold Fw.put
      have e1:o≤(LV.vals e cs).length:=by rw [vals_length];omega
      have e2:o+(LV.vals e vs).length≤(LV.vals e cs).length:=by rw [vals_length,vals_length];omega
      rw [List.take_append_of_le_length e1,List.drop_append_of_le_length e2]
      simp
    rw [hput]
    refine ⟨sp,setRow_heap w _ _ _ _ _ h2,?_,h4,k,by rw [hlen];exact h5,h6⟩
    rw [vals_length,hlen,←vals_length e cs]
    exact h3
theorem wr_dd {b o f:Nat} {vs:List LV} {h':Tr LB} (hw:WrS h n b vs o h') (hB:HB n h) (hv:LV.bds n vs):Dd h n (f ||| bitM b) (bitM b) h' n:=by
  obtain ⟨B,B',cs,r,hg,rfl,hp,hb⟩:=hw.ex
  refine dd_set hB.top hg hw.lt fun hB=>?_
  have:=(hB.get b B hg).2
  rcases hb with ⟨T,rfl,rfl⟩| ⟨T,z,rfl,rfl⟩<;>exact putL_bd hp this hv
theorem wr_tk {b o f:Nat} {vs:List LV} {h':Tr LB} {e:En} {w:World} (hw:WrS h n b vs o h') (hB:HB n h) (hG:Gd e (fun i=>i<n∧bt (f ||| bitM b) i) h w) :
    ∃cs Tb,w.heap[e.ρ b]?=some (.cells cs.toArray Tb (0,0))∧o+vs.length≤cs.length∧Tk h n (f ||| bitM b) (bitM b) h' n e w e (w.setRow (e.ρ b) (Fw.put cs o (LV.vals e vs)).toArray):=by
  obtain ⟨cs,Tb,B',h1,h2,rfl,h3⟩:=wr_row hw hG ⟨hw.lt,(bt_or _ _ _).2 (.inr ((bt_bitM b b).2 rfl))⟩
  obtain ⟨B,B'',cs',r,hg,_,_,_⟩:=hw.ex
  exact ⟨cs,Tb,h1,h2,tk_set hB hg hG (setRow_kp w _ _ _ rfl) h3⟩
theorem zero_or (b:Nat):0 ||| b=b:=Nat.zero_or b
theorem does_store {t:TypeId} {x z:Operand} {q:R1} (hX:CtxOk P X) (hB:HB n h) (hS:SB n sl) (hq:opX X sl h n (.store t x z)=some q):Does P N sl h n ⟨d,.store t x z,T,pos,af,g⟩ q:=by
  simp only [opX,opStore] at hq
  split at hq
  · rename_i b o v y hx hz hy
    obtain ⟨hc,hq1⟩:=ck_some hq
    clear hq
    split at hq1
    · rename_i h' hw
      cases hq1
      have hb:=opd_bd hS hz
      have hw:=wrC_some hB hw
      obtain ⟨hc1,hc2⟩:=(Bool.and_eq_true _ _).mp hc
      have hdd:=wr_dd (f:=0) hw hB (cells_bd hb)
      rw [zero_or] at hdd
      refine ⟨hdd,(fun u hu=>by cases hu),fun e w a hA hG=>?_⟩
      have h1:=hA.ev hx
      have h2:=hA.ev hz
      simp only [LV.val] at h1
      obtain ⟨cs,Tb,h3,h4,h5⟩:=wr_tk (f:=0) hw hB (by rw [zero_or];exact hG)
      rw [zero_or] at h5
      have h6:=run_storeRow (P:=P) (hX.ty t y hy) (cells_val' e v) (by rw [vals_length];exact Nat.eq_of_beq_eq_true hc1) (ones_val e hc2) h3 (by rw [vals_length];exact h4)
      refine ⟨e,_,.inl ⟨rfl,rfl⟩,h5,?_⟩
      simp only [execOp,h1,h2,Instr.storeAt,Instr.sureAddr,Sem.run_bind,Sem.run_pure,Result.andThen_ok,h6]
    · cases hq1
  · cases hq
end
theorem fold_put:∀(us zs done pre post:List Value),us.length=zs.length→((us.zipIdx done.length).foldl (fun (acc:Array Value) (x:Value × Nat)=>acc.setIfInBounds (pre.length+x.2) x.1) (pre++(done++(zs++post))).toArray)=(pre++(done++(us++post))).toArray
  | [],zs,done,pre,post,h=>by
    obtain rfl:zs=[]:=by simpa using h.symm
    simp
  |c::us,[],done,pre,post,h=>by simp at h
  | c ::us,z::zs,done,pre,post,h=>by
    have ih:=fold_put us zs (done++[c]) pre post (by simpa using h)
    simp only [List.length_append,List.length_cons,List.length_nil] at ih
    simp only [List.zipIdx_cons,List.foldl_cons]
    have e:(pre++(done++(z::zs++post))).toArray.setIfInBounds (pre.length+done.length) c=(pre++(done++[c]++(zs++post))).toArray:=by
      apply Array.ext'
      simp [List.set_append]
    rw [e,ih]
    simp
theorem fill_seg {place:Nat→Option (Nat × Nat)} {pre zs post us:List Value} {v:Value} {i:Nat} {rest:List (Nat × Value)} (hv:v.cells=us.toArray) (hp:place i=some (pre.length,us.length)) (hz:zs.length=us.length) :
    Instr.fill place (pre++(zs++post)).toArray ((i,v)::rest)=Instr.fill place (pre++(us++post)).toArray rest:=by
  have h1:=fold_put us zs [] pre post hz.symm
  have hc:v.cells.size=us.length:=by rw [hv];simp
  rw [Instr.fill,hp]
  simp only
  rw [if_neg (by
    rw [hc]
    simp
    omega)]
  congr 1
  rw [hv,←Array.foldl_toList]
  simpa using h1
theorem fillL_val {sl:Tr LV} {off:Nat→Option (Nat × Nat)} {e:En} {N:Nat} {a:Act} (hA:SlT N e sl a):∀{ps:List (Nat × Operand)} {cs r:List LV},fillL off sl ps cs=some r→
    Instr.fill off (LV.vals e cs).toArray (ps.map fun p=>(p.1,a.eval p.2))=some (LV.vals e r).toArray∧r.length=cs.length
  | [],cs,r,h=>by cases h;exact ⟨rfl,rfl⟩
  | (i, x)::ps,cs,r,h=>by
    simp only [fillL] at h
    split at h
    · rename_i p v hp hx
      obtain ⟨hc,h1⟩:=ck_some h
      clear h
      split at h1
      · rename_i cs' hput
        have hk:=Nat.eq_of_beq_eq_true hc
        obtain ⟨ih,il⟩:=fillL_val hA h1
        obtain ⟨hle,rfl⟩:=putL_some hput
        refine ⟨?_,by rw [il];simp only [List.length_append,List.length_take,List.length_drop];omega⟩
        rw [List.map_cons,←ih,hA.ev hx]
        have hv:(v.val e).cells=(LV.vals e v.cells).toArray:=by apply Array.ext';rw [cells_val']
        have e0:LV.vals e cs=LV.vals e (cs.take p.1)++(LV.vals e ((cs.drop p.1).take v.cells.length)++LV.vals e (cs.drop (p.1+v.cells.length))):=by
          simp only [vals_map,←List.map_append]
          congr 1
          rw [←List.drop_drop,List.take_append_drop,List.take_append_drop]
        have e1:LV.vals e (cs.take p.1++v.cells++cs.drop (p.1+v.cells.length))=LV.vals e (cs.take p.1)++(LV.vals e v.cells++LV.vals e (cs.drop (p.1+v.cells.length))):=by
          simp only [vals_map,List.map_append,List.append_assoc]
        rw [e0,e1]
        have hpl:(LV.vals e (cs.take p.1)).length=p.1:=by rw [vals_length,List.length_take];omega
        refine fill_seg hv ?_ ?_
        · rw [hpl,vals_length,hk];exact hp
        · rw [vals_length,vals_length,List.length_take,List.length_drop];omega
      · cases h1
    · cases h
theorem fillL_bd {n:Nat} {sl:Tr LV} {off:Nat→Option (Nat × Nat)} (hS:SB n sl):∀{ps:List (Nat × Operand)} {cs r:List LV},LV.bds n cs→fillL off sl ps cs=some r→LV.bds n r
  | [],cs,r,hb,h=>by cases h;exact hb
  | (i, x)::ps,cs,r,hb,h=>by
    simp only [fillL] at h
    split at h
    · rename_i p v hp hx
      obtain ⟨hc,h1⟩:=ck_some h
      split at h1
      · rename_i cs' hput
        exact fillL_bd hS (putL_bd hput hb (cells_bd (opd_bd hS hx))) h1
      · cases h1
    · cases h
section
variable {P:Program} {X:Ctx} {N:Nat} {sl:Tr LV} {h:Tr LB} {n:Nat} {d:Option Tmp} {T:TypeId} {pos:String} {af:Array Edge} {g:Option (Nat × Bool)}
theorem map_parts (ps:Array (Nat × Operand)) (f:Operand→Value):(ps.map fun (i,x)=>(i,f x)).toList=ps.toList.map fun p=>(p.1,f p.2):=by simp
theorem run_places {t:Nat} {y:Ty} (hX:CtxOk P X) (hy:TyOk P t y) {fs:List (Nat × Nat)} (hf:y.k= .st fs) (w:World) :
    ∃s szs,P.underlying t=some (.struct s)∧(s.mapM (fun f=>do pure (f.offset,←sizeOf f.type)):Sem (Array (Nat × Nat))).run P w= .ok szs w∧∀(i:Nat) (p:Nat × Nat),fldP X y i=some p→szs[i]?=some p:=by
  have hk:=hy.k
  rw [hf] at hk
  obtain ⟨⟨s,h1,h2⟩,h3⟩:=hk
  have key:∀(fs:List (Nat × Nat)),(∀p∈fs,∃i,P.info? p.1=some i∧i.size≠0)→∃szs:List (Nat × Nat),(fs.mapM (fun p=>do pure (p.2,←sizeOf p.1)):Sem (List (Nat × Nat))).run P w= .ok szs w∧szs.length=fs.length∧∀(i:Nat) (p:Nat × Nat),fs[i]?=some p→∃j,P.info? p.1=some j∧szs[i]?=some (p.2,j.size):=by
    intro fs
    induction fs with
    |nil=>intro _;exact ⟨[],by simp,rfl,fun i p h=>by simp at h⟩
    | cons p fs ih=>
      intro hp
      obtain ⟨szs,e1,e2,e3⟩:=ih fun q hq=>hp q (.tail _ hq)
      obtain ⟨j,hj,_⟩:=hp p (.head _)
      refine ⟨(p.2,j.size)::szs,?_,by simp [e2],fun i q hq=>?_⟩
      · simp only [List.mapM_cons,Sem.run_bind,sizeOf,typeInfo,run_program,Result.andThen_ok,hj,Sem.run_pure] at e1 ⊢
        rw [e1]
        simp
      · cases i with
        |zero=>simp at hq;subst hq;exact ⟨j,hj,rfl⟩
        |succ i=>simpa using e3 i q (by simpa using hq)
  obtain ⟨szs,e1,e2,e3⟩:=key fs h3
  refine ⟨s,szs.toArray,h1,?_,fun i p hp=>?_⟩
  · rw [←h2,List.mapM_map] at e1
    rw [Array.mapM_eq_mapM_toList]
    simp [Function.comp_def] at e1
    simp [e1]
  · unfold fldP at hp
    rw [hf] at hp
    simp only [TK.st?] at hp
    split at hp
    · rename_i q hq
      split at hp
      · rename_i z hz
        cases hp
        obtain ⟨j,hj,hs⟩:=e3 i q hq
        obtain ⟨ti,g1,g2,g3,g4⟩:=(hX.ty _ z hz).inf
        rw [hj] at g1
        cases g1
        simp [hs,g3]
      · cases hp
    · cases hp
theorem fill_mono {p p':Nat→Option (Nat × Nat)} (hp:∀i q,p i=some q→p' i=some q):∀{l:List (Nat × Value)} {cs r:Array Value},Instr.fill p cs l=some r→Instr.fill p' cs l=some r
  | [],cs,r,h=>h
  | (i, v)::l,cs,r,h=>by
    simp only [Instr.fill] at h ⊢
    cases hq:p i with
    |none=>rw [hq] at h;cases h
    | some q=>
      rw [hq] at h
      rw [hp i q hq]
      dsimp only at h ⊢
      split at h
      · cases h
      · rename_i hc
        rw [if_neg hc]
        exact fill_mono hp h
theorem does_build {t:TypeId} {ps:Array (Nat × Operand)} {q:R1} (hX:CtxOk P X) (hB:HB n h) (hS:SB n sl) (hq:opX X sl h n (.build t ps)=some q):Does P N sl h n ⟨d,.build t ps,T,pos,af,g⟩ q:=by
  simp only [opX] at hq
  split at hq
  · rename_i y hy
    have hty:=hX.ty t y hy
    have hzb:=LV.bds_mono (Nat.zero_le n) _ hty.zbd
    split at hq
    · rename_i p hp
      split at hq
      · rename_i z hz
        split at hq
        · rename_i r hr
          cases hq
          refine does_look hB (by simp only [LV.bd];exact fillL_bd hS hzb hr) fun e w a hA _=>?_
          have hk:=hty.k
          rw [TK.ar_some hp] at hk
          obtain ⟨h1,_⟩:=fillL_val hA hr
          have h2:=run_zero hty e w
          have h3:(y.zero.val e).cells=(LV.vals e y.zs).toArray:=by apply Array.ext';rw [zero_cells hty]
          obtain ⟨ti,g1,g2,g3,g4⟩:=(hX.ty _ z hz).inf
          simp only [execOp,Instr.build,Sem.run_bind,h2,Result.andThen_ok,run_underlying hk,sizeOf,typeInfo,run_program,g1,Sem.run_pure,map_parts,h3,g3,h1,LV.val]
        · cases hq
      · cases hq
    · split at hq
      · rename_i fs r hf hr
        cases hq
        refine does_look hB (by simp only [LV.bd];exact fillL_bd hS hzb hr) fun e w a hA _=>?_
        obtain ⟨s,szs,h4,h5,h6⟩:=run_places hX hty (TK.st_some hf) w
        obtain ⟨h1,_⟩:=fillL_val hA hr
        have h2:=run_zero hty e w
        have h3:(y.zero.val e).cells=(LV.vals e y.zs).toArray:=by apply Array.ext';rw [zero_cells hty]
        have h7:=fill_mono (p':=(szs[·]?)) h6 h1
        simp only [execOp,Instr.build,Sem.run_bind,h2,Result.andThen_ok,run_underlying h4,h5,map_parts,h3,h7,LV.val]
        rfl
      · cases hq
  · cases hq
end
theorem rep_vals (e:En) (k:Nat) (l:List LV):LV.vals e (repL k l)=(List.replicate k (LV.vals e l)).flatten:=by
  induction k with
  |zero=>rfl
  | succ k ih=>
    have h1:repL (k+1) l=l++repL k l:=by unfold repL;rw [List.replicate_succ,List.flatten_cons]
    rw [h1,List.replicate_succ,List.flatten_cons,←ih,vals_map,vals_map,vals_map,List.map_append]
theorem rep_bd {n k:Nat} {l:List LV} (h:LV.bds n l):LV.bds n (repL k l):=by
  refine bds_iff.2 fun x hx=>?_
  unfold repL at hx
  obtain ⟨y,hy,hxy⟩:=List.mem_flatten.1 hx
  rw [(List.mem_replicate.1 hy).2] at hxy
  exact bds_iff.1 h x hxy
theorem flat_rep_get (zs:List Value):∀(k i:Nat),i<k*zs.length→((List.replicate k zs).flatten)[i]?=zs[i % zs.length]?
  |0,i,h=>by omega
  | k +1,i,h=>by
    rw [List.replicate_succ,List.flatten_cons]
    rw [Nat.add_mul,Nat.one_mul] at h
    by_cases hi:i<zs.length
    · rw [List.getElem?_append_left hi,Nat.mod_eq_of_lt hi]
    · rw [List.getElem?_append_right (by omega),flat_rep_get zs k (i - zs.length) (by omega)]
      congr 1
      rw [←Nat.mod_eq_sub_mod (by omega)]
theorem made_rep (zs:List Value) (k:Nat):(Array.range (k*zs.length)).map (zs.toArray[· % zs.toArray.size]!)=((List.replicate k zs).flatten).toArray:=by
  apply Array.ext'
  apply List.ext_getElem?
  intro i
  simp only [Array.toList_map,Array.toList_range,List.getElem?_map,List.size_toArray]
  by_cases hi:i<k*zs.length
  · have h0:0<zs.length:=by
      rcases Nat.eq_zero_or_pos zs.length with h|h
      · rw [h] at hi;omega
      · exact h
    rw [flat_rep_get zs k i hi,List.getElem?_range hi]
    have hm:i % zs.length<zs.length:=Nat.mod_lt _ h0
    simp [List.getElem?_eq_getElem hm,hm]
  · have h1:(List.range (k*zs.length))[i]?=none:=List.getElem?_eq_none (by simp;omega)
    have h2:((List.replicate k zs).flatten)[i]?=none:=List.getElem?_eq_none (by simp [List.length_flatten];omega)
    rw [h1,h2]
    rfl
section
variable {P:Program} {X:Ctx} {N:Nat} {sl:Tr LV} {h:Tr LB} {n:Nat} {d:Option Tmp} {T:TypeId} {pos:String} {af:Array Edge} {g:Option (Nat × Bool)}
theorem zero_arr {t:Nat} {y:Ty} (hy:TyOk P t y) (e:En):(y.zero.val e).cells=(LV.vals e y.zs).toArray:=by apply Array.ext';rw [zero_cells hy]
theorem does_buildSlice {t:TypeId} {k:Nat} {ps:Array (Nat × Operand)} {q:R1} (hX:CtxOk P X) (hB:HB n h) (hS:SB n sl) (hq:opX X sl h n (.buildSlice t k ps)=some q):Does P N sl h n ⟨d,.buildSlice t k ps,T,pos,af,g⟩ q:=by
  simp only [opX] at hq
  split at hq
  · rename_i y hy
    have hty:=hX.ty t y hy
    split at hq
    · rename_i el hel
      split at hq
      · rename_i z hz
        obtain ⟨hc,hq1⟩:=ck_some hq
        clear hq
        split at hq1
        · rename_i r hr
          have hz2:=hX.ty _ z hz
          have hzb:=rep_bd (k:=k) (LV.bds_mono (Nat.zero_le n) _ hz2.zbd)
          have hrb:=fillL_bd hS hzb hr
          have hc:=Nat.le_of_ble_eq_true hc
          refine does_new hB hq1 hrb (by simp only [LV.bd];exact Nat.lt_succ_self n) fun e w a hA hG=>?_
          have hk:=hty.k
          rw [elT_some hel] at hk
          obtain ⟨h1,_⟩:=fillL_val hA hr
          obtain ⟨ti,g1,g2,g3,g4⟩:=hz2.inf
          have h2:=run_zero hz2 e w
          have h3:=zero_arr hz2 e
          rw [rep_vals,←made_rep] at h1
          refine ⟨0,w.alloc (.cells (LV.vals e r).toArray el),.inl rfl,alloc_kp w _,?_,?_⟩
          · simp only [LB.sat]
            rw [En.add_ρ,heap_alloc_new,LV.vals_ag (En.add_ag e n w.heap.size 0) _ hrb]
          · have hl:(LV.vals e z.zs).length=z.zs.length:=vals_length e z.zs
            have hbig:¬(k*z.zs.length > 2 ^ 24):=by omega
            rw [hl] at h1
            simp only [execOp,Instr.buildSlice,Sem.run_bind,run_underlying hk,Result.andThen_ok,sizeOf,typeInfo,run_program,g1,Sem.run_pure,g3,hbig,if_false,map_parts]
            by_cases h0:k*z.zs.length=0
            · have hz:∀f:Nat→Value,(Array.range 0).map f=#[]:=fun f=>by simp
              rw [h0,hz] at h1
              simp only [h0,if_true,Sem.run_pure,Result.andThen_ok,hz,h1,newRow,run_newObj,World.alloc_eq,Sem.run_bind,LV.val,En.add_ρ,Cp.val]
            · simp only [h0,if_false,Sem.run_bind,h2,Result.andThen_ok,Sem.run_pure,h3,h1,newRow,run_newObj,World.alloc_eq,LV.val,En.add_ρ,Cp.val]
        · cases hq1
      · cases hq
    · cases hq
  · cases hq
theorem does_makeSlice {t:TypeId} {x y:Operand} {q:R1} (hX:CtxOk P X) (hB:HB n h) (hS:SB n sl) (hq:opX X sl h n (.makeSlice t x y)=some q):Does P N sl h n ⟨d,.makeSlice t x y,T,pos,af,g⟩ q:=by
  simp only [opX] at hq
  split at hq
  · rename_i y0 k1 l k2 c hy hx1 hx2
    have hty:=hX.ty t y0 hy
    split at hq
    · rename_i el hel
      split at hq
      · rename_i z hz
        obtain ⟨hc,hq1⟩:=ck_some hq
        clear hq
        obtain ⟨hc,hc4⟩:=(Bool.and_eq_true _ _).mp hc
        obtain ⟨hc,hc3⟩:=(Bool.and_eq_true _ _).mp hc
        obtain ⟨hc1,hc2⟩:=(Bool.and_eq_true _ _).mp hc
        have hc1:=Nat.le_of_ble_eq_true hc1
        have hc2:=Nat.le_of_ble_eq_true hc2
        have hc3:=Nat.le_of_ble_eq_true hc3
        have hz2:=hX.ty _ z hz
        have hzb:=rep_bd (k:=c) (LV.bds_mono (Nat.zero_le n) _ hz2.zbd)
        refine does_new hB hq1 hzb (by simp only [LV.bd];exact Nat.lt_succ_self n) fun e w a hA hG=>?_
        have hk:=hty.k
        rw [elT_some hel] at hk
        obtain ⟨ti,g1,g2,g3,g4⟩:=hz2.inf
        have h3:=zero_arr hz2 e
        have hm:=Nat.mul_le_mul hc3 hc2
        have hbi:(ti.bytes:Int)* (c:Int)≤281474976710656:=by rw [g4,←Int.natCast_mul];omega
        have hrun:=run_make (P:=P) w t el ti _ hk g1 (g2 e) k1 k2 (l:Int) (c:Int) (by omega) (by omega) hbi (by omega)
        have hh1:=hA.ev hx1
        have hh2:=hA.ev hx2
        simp only [LV.val,Int.ofNat_eq_natCast] at hh1 hh2
        rw [g3,h3] at hrun
        simp only [Int.toNat_natCast,madeCells] at hrun
        have hl:(LV.vals e z.zs).length=z.zs.length:=vals_length e z.zs
        have h4:=made_rep (LV.vals e z.zs) c
        rw [hl] at h4
        rw [h4,←rep_vals] at hrun
        refine ⟨0,w.alloc (.cells (LV.vals e (repL c z.zs)).toArray el),.inl rfl,alloc_kp w _,?_,?_⟩
        · simp only [LB.sat]
          rw [En.add_ρ,heap_alloc_new,LV.vals_ag (En.add_ag e n w.heap.size 0) _ hzb]
        · simp only [execOp,hh1,hh2,Sem.run_bind,hrun,Result.andThen_ok,Sem.run_pure,LV.val,En.add_ρ,Cp.val]
      · cases hq
    · cases hq
  · cases hq
theorem does_makeMap {t:TypeId} {r:Option Operand} {q:R1} (hX:CtxOk P X) (hB:HB n h) (hS:SB n sl) (hq:opX X sl h n (.makeMap t r)=some q):Does P N sl h n ⟨d,.makeMap t r,T,pos,af,g⟩ q:=by
  have key:∀(hh:∀(a:Act) (e:En) (w:World),SlT N e sl a→(Instr.makeMap t (r.map a.eval)).run P w= .ok (.map (some w.heap.size)) (w.alloc (.map #[] 0))),newB h n (.M [] 0) (.M n) 0 0=some q→Does P N sl h n ⟨d,.makeMap t r,T,pos,af,g⟩ q:=by
    intro hh hq
    refine does_new hB hq (by intro x hx;cases hx) (by simp only [LV.bd];exact Nat.lt_succ_self n) fun e w a hA hG=>?_
    refine ⟨0,w.alloc (.map #[] 0),.inl rfl,alloc_kp w _,?_,?_⟩
    · simp only [LB.sat]
      rw [En.add_ρ,heap_alloc_new]
      rfl
    · simp only [execOp,Sem.run_bind,hh a e w hA,Result.andThen_ok,Sem.run_pure,LV.val,En.add_ρ]
  cases r with
  | none=>
    simp only [opX] at hq
    exact key (fun a e w hA=>by simp [Instr.makeMap]) hq
  | some r=>
    simp only [opX] at hq
    split at hq
    · rename_i k m y hr hy
      obtain ⟨hc,hq⟩:=ck_some hq
      obtain ⟨k1,k2,hk⟩:=TK.mp_of hc
      have hty:=(hX.ty t y hy).k
      rw [hk] at hty
      refine key (fun a e w hA=>?_) hq
      have h1:=hA.ev hr
      simp only [LV.val] at h1
      simp [Instr.makeMap,run_underlying hty,h1,asInt,asIntOf]
    · cases hq
end
def Bd (o:Option Int) (d m j:Nat):Prop:=(o=none∧j=d)∨(o=some (j:Int)∧j≤m)
theorem bnd_some {o:Option Int} {d m j:Nat} (h:bnd o d m=some j):Bd o d m j:=by
  unfold bnd at h
  split at h
  · cases h;exact .inl ⟨rfl,rfl⟩
  · obtain ⟨rfl,h2⟩:=inB_some h;exact .inr ⟨rfl,h2⟩
theorem Bd.le {o:Option Int} {d m j:Nat} (h:Bd o d m j) (hd:d≤m):j≤m:=by
  rcases h with ⟨_,rfl⟩| ⟨_,h⟩
  · exact hd
  · exact h
theorem Bd.mono {o:Option Int} {d m m' j:Nat} (h:Bd o d m j) (hm:m≤m'):Bd o d m' j:=by
  rcases h with ⟨h1,h2⟩| ⟨h1,h2⟩
  · exact .inl ⟨h1,h2⟩
  · exact .inr ⟨h1,Nat.le_trans h2 hm⟩
theorem optI_some {sl:Tr LV} {o:Option Operand} {l:Option Int} (h:optI sl o=some l):(o=none∧l=none)∨∃x k i,o=some x∧opd sl x=some (.I k i)∧l=some i:=by
  unfold optI at h
  split at h
  · cases h;exact .inl ⟨rfl,rfl⟩
  · split at h
    · rename_i k i hx;cases h;exact .inr ⟨_,k,i,rfl,hx,rfl⟩
    · cases h
theorem run_sliceBound {P:Program} {w:World} {k:IntKind} {j m:Nat} (c:BoundsCode) (h:j≤m):(Instr.sliceBound (.int k (j:Int)) m c).run P w= .ok j w:=by
  have h1:(0:Int)≤(j:Int):=by omega
  have h2:(j:Int)≤(m:Int):=by omega
  simp [Instr.sliceBound,asIntOf,h1,h2,h]
section
variable {P:Program} {X:Ctx} {N:Nat} {sl:Tr LV} {h:Tr LB} {n:Nat} {d:Option Tmp} {T:TypeId} {pos:String} {af:Array Edge} {g:Option (Nat × Bool)}
theorem run_bounds {e:En} {a:Act} {w:World} (hA:SlT N e sl a) {lo hi mx:Option Operand} {l u m:Option Int} {ln cp ll hh mm:Nat} (b:Bool) (ol:optI sl lo=some l) (oh:optI sl hi=some u) (om:optI sl mx=some m)
    (h1:Bd m cp cp mm) (h2:Bd u ln mm hh) (h3:Bd l 0 hh ll) (h4:(u.isSome || m.isNone)=true):(Instr.sliceBounds b ln cp (lo.map a.eval) (hi.map a.eval) (mx.map a.eval)).run P w= .ok (ll,hh,mm) w:=by
  rcases optI_some ol with ⟨rfl,rfl⟩| ⟨xl,kl,il,rfl,el,rfl⟩<;>rcases optI_some oh with ⟨rfl,rfl⟩| ⟨xh,kh,ih,rfl,eh,rfl⟩<;>rcases optI_some om with ⟨rfl,rfl⟩| ⟨xm,km,im,rfl,em,rfl⟩<;>
    (try cases h4)<;>rcases h1 with ⟨q1,r1⟩| ⟨q1,r1⟩<;>cases q1<;>rcases h2 with ⟨q2,r2⟩| ⟨q2,r2⟩<;>cases q2<;>rcases h3 with ⟨q3,r3⟩| ⟨q3,r3⟩<;>cases q3<;>(try subst r1)<;>(try subst r2)<;>(try subst r3)
  · simp [Instr.sliceBounds]
  · have:=hA.ev eh;simp only [LV.val] at this;simp [Instr.sliceBounds,this,run_sliceBound,r2]
  · have:=hA.ev eh;have:=hA.ev em;simp only [LV.val] at *;simp [Instr.sliceBounds, *,run_sliceBound]
  · have:=hA.ev el;simp only [LV.val] at this;simp [Instr.sliceBounds,this,run_sliceBound,r3]
  · have:=hA.ev el;have:=hA.ev eh;simp only [LV.val] at *;simp [Instr.sliceBounds, *,run_sliceBound]
  · have:=hA.ev el;have:=hA.ev eh;have:=hA.ev em;simp only [LV.val] at *;simp [Instr.sliceBounds, *,run_sliceBound]
theorem sub_str (l:List UInt8) (i j:Nat):(mkS l).extract i j=mkS ((l.take j).drop i):=by
  apply ByteArray.ext
  simp [mkS,ByteArray.data_extract,List.extract_eq_take_drop,List.drop_take]
theorem gB_sat {B:Option LB} {s:Nat} {cs:List LV} (hq:gB B=some (s,cs)):∃C,B=some C∧∀e w i,C.sat e w i→∃k,cs.length=k*s∧k≤e.κ i:=by
  unfold gB at hq
  split at hq
  · cases hq
    refine ⟨_,rfl,fun e w i hs=>?_⟩
    simp only [LB.sat] at hs
    obtain ⟨_,_,_,_,k,h1,h2⟩:=hs
    exact ⟨k,h1,h2⟩
  · cases hq
    refine ⟨_,rfl,fun e w i hs=>?_⟩
    simp only [LB.sat] at hs
    obtain ⟨_,_,_,h2⟩:=hs
    exact ⟨cs.length,by omega,h2⟩
  · cases hq
theorem addr_add (b o j:Nat):Addr.add ⟨b,o,none⟩ j=⟨b,o+j,none⟩:=by
  unfold Addr.add
  split
  · rename_i h0;rw [h0];rfl
  · rfl
theorem beq_dec (a b:Nat):Nat.beq a b=decide (a=b):=by
  by_cases h:a=b
  · subst h;simp
  · rw [decide_eq_false h]
    cases hb:Nat.beq a b with
    |false=>rfl
    |true=>exact absurd (Nat.eq_of_beq_eq_true hb) h
theorem does_slice {t:TypeId} {x:Operand} {lo hi mx:Option Operand} {q:R1} (hX:CtxOk P X) (hB:HB n h) (hS:SB n sl) (hq:opX X sl h n (.slice t x lo hi mx)=some q):Does P N sl h n ⟨d,.slice t x lo hi mx,T,pos,af,g⟩ q:=by
  simp only [opX] at hq
  split at hq
  · rename_i y s l u m hy hx hl hu hm
    obtain ⟨hc,hq1⟩:=ck_some hq
    clear hq
    obtain ⟨v,hv,rfl⟩:=q1_some hq1
    have hty:=(hX.ty t y hy).k
    rw [TK.str_of hc] at hty
    unfold slcS at hv
    split at hv
    · rename_i hh h2
      split at hv
      · rename_i ll h3
        obtain ⟨h4,hv⟩:=ck_some hv
        cases hv
        refine does_look hB (by simp only [LV.bd]) fun e w a hA _=>?_
        have h1:=hA.ev hx
        simp only [LV.val] at h1
        obtain rfl:m=none:=by cases m<;>first|rfl|cases h4
        rcases optI_some hm with ⟨rfl,_⟩| ⟨_,_,_,_,_,hx'⟩
        · have hb:=run_bounds (P:=P) (w:=w) (cp:=s.length) hA false hl hu hm (.inl ⟨rfl,rfl⟩) (bnd_some h2) (bnd_some h3) (by simp)
          have e1:=sub_str s ll hh
          have e2:=mkS_size s
          unfold mkS at e1 e2
          simp only [execOp,h1,Instr.sliceAt,Sem.run_bind,run_underlying hty,Result.andThen_ok,Instr.slice,Option.map_none,Option.isSome_none,e2] at hb ⊢
          simp [hb,e1,LV.val]
        · cases hx'
      · cases hv
    · cases hv
  · rename_i y l u m hy hx hl hu hm
    split at hq
    · rename_i el hel
      split at hq
      · rename_i z hz
        obtain ⟨hc,hq1⟩:=ck_some hq
        clear hq
        obtain ⟨v,hv,rfl⟩:=q1_some hq1
        cases hv
        obtain ⟨hc,hc4⟩:=(Bool.and_eq_true _ _).mp hc
        obtain ⟨hc,hc3⟩:=(Bool.and_eq_true _ _).mp hc
        obtain ⟨hc1,hc2⟩:=(Bool.and_eq_true _ _).mp hc
        have hty:=(hX.ty t y hy).k
        rw [elT_some hel] at hty
        have zz:∀{o:Option Int},optZ o=true→Bd o 0 0 0:=by
          intro o ho
          cases o with
          |none=>exact .inl ⟨rfl,rfl⟩
          | some i=>
            simp only [optZ,beI_eq,decide_eq_true_eq] at ho
            subst ho
            exact .inr ⟨rfl,Nat.le_refl 0⟩
        obtain ⟨ti,g1,g2,g3,g4⟩:=(hX.ty _ z hz).inf
        refine does_look hB (by simp only [LV.bd]) fun e w a hA _=>?_
        have h1:=hA.ev hx
        simp only [LV.val] at h1
        have hb:=run_bounds (P:=P) (w:=w) hA true hl hu hm (zz hc3) (zz hc2) (zz hc1) hc4
        simp [execOp,h1,Instr.sliceAt,run_underlying hty,Instr.slice,hb,sizeOf,typeInfo,g1,LV.val]
      · cases hq
    · cases hq
  · rename_i y b o c cp l u m hy hx hl hu hm
    split at hq
    · rename_i el hel
      split at hq
      · rename_i z hz
        obtain ⟨hc,hq1⟩:=ck_some hq
        clear hq
        obtain ⟨v,hv,rfl⟩:=q1_some hq1
        have hcc:=Nat.le_of_ble_eq_true hc
        have hty:=(hX.ty t y hy).k
        rw [elT_some hel] at hty
        unfold slcK at hv
        split at hv
        · rename_i mm h2
          split at hv
          · rename_i hh h3
            split at hv
            · rename_i ll h4
              obtain ⟨h5,hv⟩:=ck_some hv
              cases hv
              obtain ⟨ti,g1,g2,g3,g4⟩:=(hX.ty _ z hz).inf
              have hb0:=opd_bd hS hx
              simp only [LV.bd] at hb0
              refine does_look hB (by simp only [LV.bd];exact hb0) fun e w a hA _=>?_
              have h1:=hA.ev hx
              simp only [LV.val,Cp.val] at h1
              have hb:=run_bounds (P:=P) (w:=w) hA true hl hu hm (bnd_some h2) (bnd_some h3) (bnd_some h4) h5
              simp only [execOp,h1,Instr.sliceAt,Sem.run_bind,run_underlying hty,Result.andThen_ok,Instr.slice,hb,sizeOf,typeInfo,run_program,g1,Sem.run_pure,g3,LV.val,Cp.val,beq_dec]
              by_cases he:mm=ll
              · simp [he]
              · simp [he,addr_add]
            · cases hv
          · cases hv
        · cases hv
      · cases hq
    · cases hq
  · rename_i y b o c du l u m hy hx hl hu hm
    split at hq
    · rename_i el hel
      split at hq
      · rename_i z s cs hz hg
        obtain ⟨hc,hq1⟩:=ck_some hq
        clear hq
        split at hq1
        · rename_i v hv
          cases hq1
          obtain ⟨hc,hc3⟩:=(Bool.and_eq_true _ _).mp hc
          obtain ⟨hc1,hc2⟩:=(Bool.and_eq_true _ _).mp hc
          obtain rfl:=Nat.eq_of_beq_eq_true hc1
          have hc3:=Nat.le_of_ble_eq_true hc3
          rw [blt_eq] at hc2
          have hc2:=dTr hc2
          obtain ⟨C,hC,hsat⟩:=gB_sat hg
          have hty:=(hX.ty t y hy).k
          rw [elT_some hel] at hty
          obtain ⟨ti,g1,g2,g3,g4⟩:=(hX.ty _ z hz).inf
          have hb0:=opd_bd hS hx
          simp only [LV.bd] at hb0
          have hcap:∀e w,Gd e (fun i=>i<n∧bt (bitM b) i) h w→du+c≤e.κ b:=by
            intro e w hG
            obtain ⟨k,k1,k2⟩:=hsat e w b (hG.sat b C ⟨hb0,(bt_bitM b b).2 rfl⟩ hC)
            rw [k1] at hc3
            exact Nat.le_trans (Nat.le_of_mul_le_mul_right hc3 hc2) k2
          unfold slcU at hv
          split at hv
          · rename_i mv
            split at hv
            · rename_i mm h2
              split at hv
              · rename_i hh h3
                split at hv
                · rename_i ll h4
                  obtain ⟨h5,hv⟩:=ck_some hv
                  cases hv
                  refine does_look hB (by simp only [LV.bd];exact hb0) fun e w a hA hG=>?_
                  have h1:=hA.ev hx
                  have hk:=hcap e w hG
                  simp only [LV.val,Cp.val] at h1
                  obtain ⟨rfl,h6⟩:=inB_some h2
                  have hb:=run_bounds (P:=P) (w:=w) (cp:=e.κ b - du) hA true hl hu hm (.inr ⟨rfl,by omega⟩) (bnd_some h3) (bnd_some h4) (by rw [h5];rfl)
                  simp only [execOp,h1,Instr.sliceAt,Sem.run_bind,run_underlying hty,Result.andThen_ok,Instr.slice,hb,sizeOf,typeInfo,run_program,g1,Sem.run_pure,g3,LV.val,Cp.val,beq_dec]
                  by_cases he:mm=ll
                  · simp [he]
                  · simp [he,addr_add]
                · cases hv
              · cases hv
            · cases hv
          · split at hv
            · rename_i hh h3
              split at hv
              · rename_i ll h4
                cases hv
                have hll:=(bnd_some h4).le (Nat.zero_le _)
                have hhl:=(bnd_some h3).le (Nat.le_refl _)
                rw [blt_eq,beq_dec]
                refine does_look hB (by cases hd:(decide (ll<c) || decide (ll=0))<;>simp only [cond_true,cond_false,LV.bd]<;>exact hb0) fun e w a hA hG=>?_
                have h1:=hA.ev hx
                have hk:=hcap e w hG
                simp only [LV.val,Cp.val] at h1
                have hb:=run_bounds (P:=P) (w:=w) (cp:=e.κ b - du) (mm:=e.κ b - du) hA true hl hu hm (.inl ⟨rfl,rfl⟩) ((bnd_some h3).mono (by omega)) (bnd_some h4) (by simp)
                simp only [execOp,h1,Instr.sliceAt,Sem.run_bind,run_underlying hty,Result.andThen_ok,Instr.slice,hb,sizeOf,typeInfo,run_program,g1,Sem.run_pure,g3]
                by_cases hcase:ll<c∨ll=0
                · have hd:(decide (ll<c) || decide (ll=0))=true:=by simpa using hcase
                  simp only [hd,cond_true,LV.val,Cp.val]
                  have e3:e.κ b - du - ll=e.κ b - (du+ll):=by omega
                  rw [e3]
                  by_cases he:e.κ b - du=ll
                  · obtain rfl:ll=0:=by omega
                    simp [he]
                  · simp [he,addr_add]
                · have hd:(decide (ll<c) || decide (ll=0))=false:=by simpa using hcase
                  obtain rfl:ll=c:=by omega
                  obtain rfl:hh=ll:=by omega
                  simp only [hd,cond_false,LV.val]
                  have e3:e.κ b - du - hh=e.κ b - (du+hh):=by omega
                  rw [e3,Nat.sub_self]
                  by_cases he:e.κ b - du=hh
                  · have he2:e.κ b=du+hh:=by omega
                    simp [he,he2]
                  · have he2:¬e.κ b=du+hh:=by omega
                    simp [he,he2,addr_add]
              · cases hv
            · cases hv
        · cases hq1
      · cases hq
    · cases hq
  · cases hq
end
theorem u8_some {P:Program} {t:Nat} {z:Ty} (hz:TyOk P t z) (h:isU8 z=true):P.underlying t=some (.int .u8):=by
  unfold isU8 at h
  split at h
  · rename_i k hk
    have:=hz.k
    rw [TK.int_some hk] at this
    have h1:k= .u8:=ikn_inj (k':=.u8) h
    rw [this,h1]
  · cases h
theorem byts_some:∀{cs:List LV} {s:List UInt8},byts cs=some s→∃ns:List Nat,s=ns.map UInt8.ofNat∧∀e,LV.vals e cs=(ns.map fun (c:Nat)=>(c:Int)).map (Value.int .u8):=by
  intro cs
  induction cs with
  |nil=>intro s h;cases h;exact ⟨[],rfl,fun e=>rfl⟩
  | cons x r ih=>
    intro s h
    unfold byts at h
    split at h
    · cases ‹_=([]:List LV)›
    · rename_i c r' he
      cases he
      split at h
      · rename_i q hq
        cases h
        obtain ⟨ns,h1,h2⟩:=ih hq
        exact ⟨c::ns,by rw [h1];rfl,fun e=>by rw [LV.vals,h2 e,LV.val];rfl⟩
      · cases h
    · cases h
theorem any_underlying {P:Program} {t:Nat} {y:Ty} (hy:TyOk P t y):∃u,P.underlying t=some u:=by
  obtain ⟨d,h1,_⟩:=hy.agg
  exact ⟨d,h1⟩
theorem slC_sl {h:Tr LB} {n sz f:Nat} {v:LV} {cs:List LV} (hB:HB n h) (hv:v.bd n) (hq:slC h sz v=some (cs,f)):(∃x,v= .S x∧cs=u8s x∧f=0)∨
    ∃m,lenL v=some m∧cs.length=m*sz∧LV.bds n cs∧∀e w,Gd e (fun i=>i<n∧bt f i) h w→∃o c,v.val e= .slice o m c∧(o=none→m=0)∧∀a,o=some a→∀j u,(LV.vals e cs)[j]?=some u→w.cell? (a.add j)=some u:=by
  unfold slC at hq
  split at hq
  · cases hq
    exact .inr ⟨0,rfl,by simp,by simp only [LV.bds],fun e w _=>⟨none,0,by simp only [LV.val],fun _=>rfl,fun a ha=>by cases ha⟩⟩
  · cases hq
    refine .inr ⟨0,rfl,by simp,by simp only [LV.bds],fun e w _=>⟨_,_,by simp only [LV.val];rfl,fun _=>rfl,fun a ha j u hu=>by simp [LV.vals] at hu⟩⟩
  · rename_i b o k c
    split at hq
    · rename_i r hr
      cases hq
      obtain ⟨h1,h2⟩:=rdC_bd hB hr
      obtain ⟨_,_,_,h3⟩:=rdC_some hr
      refine .inr ⟨k,rfl,h3,h1,fun e w hG=>⟨some ⟨e.ρ b,o,none⟩,c.val e b,by simp only [LV.val],fun h0=>by (cases h0),fun a ha j u hu=>?_⟩⟩
      cases ha
      exact rdC_cls hG ⟨h2,(bt_bitM b b).2 rfl⟩ hr j u hu
    · cases hq
  · cases hq
    exact .inl ⟨_,rfl,rfl,rfl⟩
  · cases hq
theorem u8s_val (e:En) (s:List UInt8):LV.vals e (u8s s)=s.map fun b=>Value.int .u8 b.toNat:=by
  rw [vals_map,u8s,List.map_map]
  rfl
theorem u8s_bd (n:Nat) (s:List UInt8):LV.bds n (u8s s):=by
  refine bds_iff.2 fun x hx=>?_
  obtain ⟨c,_,rfl⟩:=List.mem_map.1 hx
  simp only [LV.bd]
section
variable {P:Program} {X:Ctx} {N:Nat} {sl:Tr LV} {h:Tr LB} {n:Nat} {d:Option Tmp} {T:TypeId} {pos:String} {af:Array Edge} {g:Option (Nat × Bool)}
theorem does_convert {s t:TypeId} {x:Operand} {q:R1} (hX:CtxOk P X) (hB:HB n h) (hS:SB n sl) (hq:opX X sl h n (.convert s t x)=some q):Does P N sl h n ⟨d,.convert s t x,T,pos,af,g⟩ q:=by
  simp only [opX] at hq
  split at hq
  · rename_i w0 y k m hs hy hx
    split at hq
    · rename_i k' hk
      cases hq
      obtain ⟨u,hu⟩:=any_underlying (hX.ty s _ hs)
      have hty:=(hX.ty t y hy).k
      rw [TK.int_some hk] at hty
      refine does_look hB (by simp only [LV.bd]) fun e w a hA _=>?_
      have h1:=hA.ev hx
      simp only [LV.val] at h1 ⊢
      simp [execOp,h1,convert,run_underlying hu,run_underlying hty,Conv.intToInt]
    · cases hq
  · rename_i w0 y l hs hy hx
    obtain ⟨u,hu⟩:=any_underlying (hX.ty s _ hs)
    have hty:=(hX.ty t y hy).k
    cases hc:Nat.beq y.k.code 5 with
    | true=>
      rw [hc,cond_true] at hq
      cases hq
      rw [TK.str_of hc] at hty
      refine does_look hB (by simp only [LV.bd]) fun e w a hA _=>?_
      have h1:=hA.ev hx
      simp only [LV.val] at h1 ⊢
      simp [execOp,h1,convert,run_underlying hu,run_underlying hty]
    | false =>
      rw [hc,cond_false] at hq
      split at hq
      · rename_i el hel
        split at hq
        · rename_i z hz
          obtain ⟨hc2,hq1⟩:=ck_some hq
          clear hq
          obtain ⟨hc3,hc4⟩:=(Bool.and_eq_true _ _).mp hc2
          rw [elT_some hel] at hty
          have he:=u8_some (hX.ty _ z hz) hc3
          refine does_new hB hq1 (u8s_bd n l) (by simp only [LV.bd];exact Nat.lt_succ_self n) fun e w a hA hG=>?_
          have h1:=hA.ev hx
          simp only [LV.val] at h1
          have hrun:=Lib.run_convert_string_bytes (P:=P) w s t el ⟨l.toArray⟩ hu hty he
          refine ⟨grownCap w l.length 0 el,Lib.bytesWorld w el ⟨l.toArray⟩,.inr ⟨_,rfl⟩,bytes_kp w el _,?_,?_⟩
          · simp only [LB.sat]
            rw [En.add_ρ,En.add_κ,u8s_val,Lib.bytesWorld_at_new]
            refine ⟨(Array.replicate (grownCap w (ByteArray.mk l.toArray).size 0 el - (ByteArray.mk l.toArray).size) (Value.int .u8 0)).toList,((Lib.bytesCells w el ⟨l.toArray⟩).size,(Lib.bytesCells w el ⟨l.toArray⟩).size+1),?_,?_⟩
            · congr 2
              apply Array.ext'
              simp [Lib.bytesCells]
            · rw [u8s,List.length_map]
              exact grownCap_ge w l.length 0 el
          · simp only [execOp,h1,Sem.run_bind,hrun,Result.andThen_ok,Sem.run_pure,LV.val,En.add_ρ,Cp.val,En.add_κ]
            rfl
        · cases hq
      · cases hq
  · rename_i w0 y v hn1 hn2 hs hy hx
    split at hq
    · rename_i el hel
      split at hq
      · rename_i z cs f hz hsl
        split at hq
        · rename_i bs hbs
          obtain ⟨hc2,hq1⟩:=ck_some hq
          clear hq
          cases hq1
          obtain ⟨hc3,hc4⟩:=(Bool.and_eq_true _ _).mp hc2
          have he:=u8_some (hX.ty _ z hz) hc3
          have hts:=(hX.ty s w0 hs).k
          rw [elT_some hel] at hts
          have hty:=(hX.ty t y hy).k
          rw [TK.str_of hc4] at hty
          rcases slC_sl hB (opd_bd hS hx) hsl with ⟨x',rfl,_⟩| ⟨m,hm,hlen,_,hrd⟩
          · exact absurd rfl (hn2 _)
          · refine does_look hB (by simp only [LV.bd]) fun e w a hA hG=>?_
            have h1:=hA.ev hx
            obtain ⟨o,c,h2,h3,h4⟩:=hrd e w hG
            rw [h2] at h1
            obtain ⟨ns,rfl,h5⟩:=byts_some hbs
            have hlen2:ns.length=m:=by
              have:=congrArg List.length (h5 e)
              simp [vals_length] at this
              omega
            simp only [execOp,h1,Sem.run_bind,run_convert_bytes_string w s t el o m c hts he hty,LV.val]
            cases o with
            | none=>
              have h0:=h3 rfl
              rw [h0] at hlen2
              obtain rfl:ns=[]:=List.eq_nil_of_length_eq_zero hlen2
              simp [Conv.bytesToString]
              rfl
            | some a0=>
              have hl:=run_loadCells_list (P:=P) (w:=w) a0 (LV.vals e cs) (h4 a0 rfl)
              rw [vals_length,hlen,Nat.mul_one,h5 e] at hl
              rw [run_bytesToString w a0 _ c _ hl,push_ofB]
              simp
        · cases hq
      · cases hq
    · cases hq
  · cases hq
end
section
variable {P:Program} {X:Ctx} {N:Nat} {sl:Tr LV} {h:Tr LB} {n:Nat} {d:Option Tmp} {T:TypeId} {pos:String} {af:Array Edge} {g:Option (Nat × Bool)}
def Flat (P:Program) (t:TypeId):Prop:=(∃e,P.underlying t=some (.slice e))∨P.underlying t=some .string
theorem run_append_grow2 {w:World} {t t2 ty e:TypeId} {i:TypeInfo} {z:Value} (ht:P.underlying t=some (.slice e)) (ht2:Flat P t2) (hi:P.info? e=some i) (hz:i.zero=some z)
    {base:Option Addr} {sLen sCap m:Nat} {y:Value} {olds news:List Value} (hlen:(Builtin.lenOf y).run P w= .ok m w) (hnews:(Builtin.firstCells i.size m y).run P w.drew= .ok news.toArray w.drew)
    (holds:(Builtin.firstCells i.size sLen (.slice base sLen sCap)).run P w.drew= .ok olds.toArray w.drew)
    (hg:sCap<sLen+m) (h63:((sLen+m:Nat):Int)≤9223372036854775807) (hfit:Builtin.nextslicecap (sLen+m) sCap*i.bytes≤281474976710656) :
    (Builtin.append_ #[t,t2] ty #[.slice base sLen sCap,y]).run P w= .ok (.slice (some ⟨w.heap.size,0,none⟩) (sLen+m) (grownCap w (sLen+m) sCap e))
      (w.drew.alloc (.cells (olds.toArray++news.toArray++Builtin.zeroCells z.cells (grownCap w (sLen+m) sCap e - (sLen+m))) e)):=by
  have hn:¬(sLen+m≤sCap):=by omega
  have h63':¬(9223372036854775807<((sLen:Int)+(m:Int))):=by omega
  have h48':¬(281474976710656<Builtin.nextslicecap (sLen+m) sCap*i.bytes):=by omega
  rcases ht2 with ⟨e2,h2⟩|h2<;>simp [Builtin.append_,run_underlying ht,run_underlying h2,sizeOf,typeInfo,zeroValue,hi,hz,hlen,hn,h63',h48',Question.forced,hnews,holds,newRow,grownCap]<;>(congr 2;apply Array.ext';simp)
theorem run_append_room2 {w:World} {t t2 ty e:TypeId} {i:TypeInfo} (ht:P.underlying t=some (.slice e)) (ht2:Flat P t2) (hi:P.info? e=some i)
    {b o e' sLen sCap m:Nat} {y:Value} {cur news:List Value} (hb:w.heap[b]?=some (.cells cur.toArray e' (0,0))) (hlen:(Builtin.lenOf y).run P w= .ok m w) (hnews:(Builtin.firstCells i.size m y).run P w= .ok news.toArray w)
    (h1:∀u∈news,u.oneCell'=true) (hr:sLen+m≤sCap) (hfit:o+sLen*i.size+news.length≤cur.length) :
    (Builtin.append_ #[t,t2] ty #[.slice (some ⟨b,o,none⟩) sLen sCap,y]).run P w= .ok (.slice (some ⟨b,o,none⟩) (sLen+m) sCap) (w.setRow b (Fw.put cur (o+sLen*i.size) news).toArray):=by
  have hst:=run_storeCells_at P b (o+sLen*i.size) e' news 0 cur.toArray w hb (by simpa using hfit) h1
  simp only [Nat.add_zero] at hst
  have hst2:(storeCells ⟨b,o+sLen*i.size,none⟩ news).run P w= .ok () (w.setRow b (Fw.put cur (o+sLen*i.size) news).toArray):=by
    rw [hst]
    rfl
  rcases ht2 with ⟨e2,h2⟩|h2<;>simp [Builtin.append_,run_underlying ht,run_underlying h2,sizeOf,typeInfo,hi,hlen,hr,hnews,addr_add,hst2]
theorem run_append_nil2 {w:World} {t t2 ty e:TypeId} {i:TypeInfo} (ht:P.underlying t=some (.slice e)) (ht2:Flat P t2) (hi:P.info? e=some i)
    {base:Option Addr} {sLen sCap:Nat} {y:Value} (hlen:(Builtin.lenOf y).run P w= .ok 0 w) (hnews:(Builtin.firstCells i.size 0 y).run P w= .ok #[] w) (hr:sLen≤sCap) :
    (Builtin.append_ #[t,t2] ty #[.slice base sLen sCap,y]).run P w= .ok (.slice base sLen sCap) w:=by
  rcases ht2 with ⟨e2,h2⟩|h2<;>cases base<;>simp [Builtin.append_,run_underlying ht,run_underlying h2,sizeOf,typeInfo,hi,hlen,hr,hnews,storeCells]
theorem dd_mv {b fp:Nat} {B:LB} (hn:n<top) (hbn:b<n) (hbf:bt fp b) (hb:B.bd n):Dd h n (fp ||| bitM n) (bitM b) ((h.set 21 b none).set 21 n (some B)) (n+1):=by
  have hbt:b<top:=by omega
  have gt:∀i,((h.set 21 b none).set 21 n (some B)).get i=if i=n then some B else if i=b then none else h.get i:=by
    intro i
    rw [Tr.get_put _ i _ hn,Tr.get_put h i _ hbt]
  refine ⟨Nat.le_succ n,fun hB=>⟨hn,fun i C hg=>?_⟩,fun i hi hm=>?_,fun i hi h0=>?_,fun i hi hm=>?_⟩
  · rw [gt] at hg
    by_cases hi:i=n
    · rw [if_pos hi] at hg;cases hg;exact ⟨by omega,LB.bd_mono (Nat.le_succ n) hb⟩
    · rw [if_neg hi] at hg
      by_cases hib:i=b
      · rw [if_pos hib] at hg;cases hg
      · rw [if_neg hib] at hg
        exact ⟨Nat.lt_succ_of_lt (hB.get i C hg).1,LB.bd_mono (Nat.le_succ n) (hB.get i C hg).2⟩
  · rw [gt,if_neg (by omega),if_neg fun e=>hm ((bt_bitM b i).2 e)]
  · rw [gt,if_neg (by omega)]
    by_cases hib:i=b
    · rw [if_pos hib]
    · rw [if_neg hib];exact h0
  · rw [(bt_bitM b i).1 hm]
    exact (bt_or _ _ _).2 (.inl hbf)
theorem tk_mv {b fp k r:Nat} {B B0:LB} {e:En} {w w':World} (hB:HB n h) (hn:n<top) (hgb:h.get b=some B0) (hbf:bt fp b) (hg:Gd e (fun i=>i<n∧bt (fp ||| bitM n) i) h w) (hr:r=w.heap.size∨r=e.ρ b)
    (hk:Kp w (fun c=>c=e.ρ b) w') (hs:B.sat (e.add n r k) w' n):Tk h n (fp ||| bitM n) (bitM b) ((h.set 21 b none).set 21 n (some B)) (n+1) e w (e.add n r k) w':=by
  have hbn:=(hB.get b B0 hgb).1
  have hbt:b<top:=by omega
  have hag:=En.add_ag e n r k
  have hbS:b<n∧bt (fp ||| bitM n) b:=⟨hbn,(bt_or _ _ _).2 (.inl hbf)⟩
  have gt:∀i,((h.set 21 b none).set 21 n (some B)).get i=if i=n then some B else if i=b then none else h.get i:=by
    intro i
    rw [Tr.get_put _ i _ hn,Tr.get_put h i _ hbt]
  have old:∀i C,i<n→bt (fp ||| bitM n) i→((h.set 21 b none).set 21 n (some B)).get i=some C→C.sat (e.add n r k) w' i∧h.get i=some C∧e.ρ i<w.heap.size∧e.ρ i≠e.ρ b:=by
    intro i C hi hf hgt
    rw [gt,if_neg (by omega)] at hgt
    by_cases hib:i=b
    · rw [if_pos hib] at hgt;cases hgt
    · rw [if_neg hib] at hgt
      have h1:=hg.sat i C ⟨hi,hf⟩ hgt
      have hne:e.ρ i≠e.ρ b:=fun he=>hib (hg.inj i b C B0 ⟨hi,hf⟩ hbS hgt hgb he)
      exact ⟨LB.sat_ag hag hi (hk.block _ (LB.sat_lt h1) hne) (hB.get i C hgt).2 h1,hgt,LB.sat_lt h1,hne⟩
  refine ⟨hag,⟨fun i C hi hgt=>?_,fun i j C D hi hj hgi hgj he=>?_⟩,⟨hk.os,hk.tape,hk.output,hk.size,fun c hc hM=>hk.block c hc fun he=>hM ⟨b,hbn,(bt_bitM b b).2 rfl,by rw [hgb];rfl,he.symm⟩⟩,fun i hi hsm=>?_⟩
  · rcases hi with ⟨h1,h2⟩| ⟨h1,h2⟩
    · exact (old i C h1 h2 hgt).1
    · obtain rfl:i=n:=by omega
      rw [gt,if_pos rfl] at hgt
      cases hgt
      exact hs
  · have mix:∀i C,i<n→bt (fp ||| bitM n) i→((h.set 21 b none).set 21 n (some B)).get i=some C→(e.add n r k).ρ i≠(e.add n r k).ρ n:=by
      intro i C h1 h2 hgt he
      obtain ⟨_,_,q3,q4⟩:=old i C h1 h2 hgt
      rw [hag.ρ i h1,En.add_ρ] at he
      rcases hr with rfl|rfl
      · omega
      · exact q4 he
    rcases hi with ⟨h1,h2⟩| ⟨h1,h2⟩<;>rcases hj with ⟨h3,h4⟩| ⟨h3,h4⟩
    · obtain ⟨_,q1,_⟩:=old i C h1 h2 hgi
      obtain ⟨_,q2,_⟩:=old j D h3 h4 hgj
      rw [hag.ρ i h1,hag.ρ j h3] at he
      exact hg.inj i j C D ⟨h1,h2⟩ ⟨h3,h4⟩ q1 q2 he
    · obtain rfl:j=n:=by omega
      exact absurd he (mix i C h1 h2 hgi)
    · obtain rfl:i=n:=by omega
      exact absurd he.symm (mix j D h3 h4 hgj)
    · omega
  · by_cases hin:i=n
    · subst hin
      rw [En.add_ρ]
      rcases hr with rfl|rfl
      · exact .inl (Nat.le_refl _)
      · exact .inr ⟨b,hbn,(bt_bitM b b).2 rfl,by rw [hgb];rfl,rfl⟩
    · rw [gt,if_neg hin] at hsm
      by_cases hib:i=b
      · omega
      · rw [if_neg hib] at hsm
        obtain ⟨C,hC⟩:=Option.isSome_iff_exists.1 hsm
        have:=(hB.get i C hC).1
        omega
end
section
variable {P:Program} {X:Ctx} {N:Nat} {sl:Tr LV} {h:Tr LB} {n:Nat} {d:Option Tmp} {T:TypeId} {pos:String} {af:Array Edge} {g:Option (Nat × Bool)}
theorem lenL_bytes (l:List UInt8):(ByteArray.mk l.toArray).size=l.length:=rfl
theorem slC_run {sz f m:Nat} {v:LV} {cs:List LV} (hB:HB n h) (hv:v.bd n) (hq:slC h sz v=some (cs,f)) (hl:lenL v=some m) :
    LV.bds n cs∧∀e w,Gd e (fun i=>i<n∧bt f i) h w→(Builtin.lenOf (v.val e)).run P w= .ok m w∧∀w':World,w'.heap=w.heap→(Builtin.firstCells sz m (v.val e)).run P w'= .ok (LV.vals e cs).toArray w':=by
  rcases slC_sl hB hv hq with ⟨x,rfl,rfl,rfl⟩| ⟨m',hm',hlen,hb,hrd⟩
  · simp only [lenL,Option.some.injEq] at hl
    subst hl
    refine ⟨u8s_bd n x,fun e w _=>⟨?_,fun w' _=>?_⟩⟩
    · simp only [LV.val,Builtin.lenOf,Sem.run_pure];rfl
    · simp only [LV.val,Builtin.firstCells,Sem.run_pure,u8s_val]
      congr 1
      have h1:(ByteArray.mk x.toArray).extract 0 x.length=ByteArray.mk x.toArray:=ByteArray.extract_zero_size
      rw [h1]
      apply Array.ext'
      simp
  · rw [hl] at hm'
    cases hm'
    refine ⟨hb,fun e w hG=>?_⟩
    obtain ⟨o,c,h1,h2,h3⟩:=hrd e w hG
    rw [h1]
    refine ⟨by simp [Builtin.lenOf],fun w' hw'=>?_⟩
    cases o with
    | none=>
      have h0:=h2 rfl
      subst h0
      have:cs=[]:=List.eq_nil_of_length_eq_zero (by omega)
      subst this
      simp [Builtin.firstCells,LV.vals]
    | some a=>
      refine run_firstCells_some w' sz m a m c (LV.vals e cs) (by rw [vals_length];exact hlen) fun j u hu=>?_
      rw [←h3 a rfl j u hu]
      exact World.cell?_of_block (by rw [hw'])
theorem drew_kp (w:World):Kp w noM w.drew:=⟨rfl,rfl,rfl,Nat.le_refl _,fun b hb _=>rfl⟩
theorem alloc_drew_kp (w:World) (o:Obj):Kp w noM (w.drew.alloc o):=(drew_kp w).trans (alloc_kp w.drew o) fun b hb=>.inr hb
theorem exec_blt {b:Builtin} {aa:Array Operand} {ats:Array TypeId} {vs:Array Value} {a:Act} (h:aa.map a.eval=vs):execOp a.eval ⟨d,.call ⟨.builtin b,aa,ats⟩,T,pos,af,g⟩=builtin b ats T (aa.map fun| .const _=>true|_=>false) vs:=by
  simp only [execOp,resolve,invoke,h]
  rfl
theorem evs_arr {e:En} {a:Act} (hA:SlT N e sl a) {aa:Array Operand} {vs:List LV} (h:opds sl aa.toList=some vs):aa.map a.eval=(LV.vals e vs).toArray:=by
  apply Array.ext'
  rw [Array.toList_map,hA.evs h]
theorem grown_sat {e:En} {w:World} {Te sz c old:Nat} {olds news:List LV} {zc:Array Value} (ho:LV.bds n olds) (hn:LV.bds n news) (hl:olds.length+news.length=c*sz) (hz:zc.size=sz) (hc:c≤maxLen) (r:Nat) (w1:World)
    (hw:w1.heap[r]?=some (.cells ((LV.vals e olds).toArray++(LV.vals e news).toArray++Builtin.zeroCells zc (grownCap w c old Te - c)) Te (0,0))):LB.sat (e.add n r (grownCap w c old Te)) w1 n (.G Te sz (olds++news)):=by
  have hge:=grownCap_ge w c old Te
  simp only [LB.sat]
  rw [En.add_ρ,En.add_κ,hw,LV.vals_ag (En.add_ag e n _ _) _ (bds_iff.2 fun x hx=>(List.mem_append.1 hx).elim (bds_iff.1 ho x) (bds_iff.1 hn x))]
  refine ⟨(Builtin.zeroCells zc (grownCap w c old Te - c)).toList,?_,?_,grownCap_le_maxLen w c old Te hc,c,by rw [List.length_append];exact hl,hge⟩
  · congr 2
    apply Array.ext'
    simp [vals_map]
  · rw [vals_length,List.length_append,hl,Array.length_toList,size_zeroCells,hz,←Nat.add_mul]
    congr 1
    omega
end
section
variable {P:Program} {X:Ctx} {N:Nat} {sl:Tr LV} {h:Tr LB} {n:Nat} {d:Option Tmp} {T:TypeId} {pos:String} {af:Array Edge} {g:Option (Nat × Bool)}
theorem flat_some {t:Nat} {y:Ty} (hy:TyOk P t y) (hc:(Nat.beq y.k.code 1 || Nat.beq y.k.code 5)=true):Flat P t:=by
  rcases (Bool.or_eq_true _ _).mp hc with h|h
  · obtain ⟨e,he⟩:=TK.sl_of h
    have:=hy.k
    rw [he] at this
    exact .inl ⟨e,this⟩
  · have:=hy.k
    rw [TK.str_of h] at this
    exact .inr this
theorem does_appV {t t2 el:TypeId} {aa:Array Operand} {x y:LV} {z:Ty} {m f:Nat} {news:List LV} {q:R1} (hB:HB n h) (hS:SB n sl) (hz:TyOk P el z) (ht:P.underlying t=some (.slice el)) (ht2:Flat P t2) (ha:opds sl aa.toList=some [x,y])
    (hl:lenL y=some m) (hc:slC h z.zs.length y=some (news,f)) (h0:0<z.zs.length) (hby:z.by_≤65536) (hm:m≤1000000) (hnl:news.length=m*z.zs.length) (h1:news.all LV.one=true)
    (hq:appV h n el z.by_ z.zs.length m news f x=some q):Does P N sl h n ⟨d,.call ⟨.builtin .append,aa,#[t,t2]⟩,T,pos,af,g⟩ q:=by
  have hbs:=opds_bd hS ha
  simp only [LV.bds] at hbs
  obtain ⟨hnb,hrun⟩:=slC_run (P:=P) hB hbs.2.1 hc hl
  obtain ⟨ti,g1,g2,g3,g4⟩:=hz.inf
  have ex:∀(e:En) (w w':World) (a:Act) (v:Value),SlT N e sl a→(Builtin.append_ #[t,t2] T #[x.val e,y.val e]).run P w= .ok v w'→(execOp a.eval ⟨d,.call ⟨.builtin .append,aa,#[t,t2]⟩,T,pos,af,g⟩).run P w= .ok (.value v) w':=by
    intro e w w' a v hA hr
    rw [exec_blt (evs_arr hA ha)]
    simp only [builtin,LV.vals,Sem.run_bind,hr,Result.andThen_ok,Sem.run_pure]
  have one:∀e,∀u∈LV.vals e news,u.oneCell'=true:=fun e u hu=>List.all_eq_true.1 (ones_val e h1) u hu
  have fits:∀c cp,cp<c+m→c+m≤1000000+1000000→Builtin.nextslicecap (c+m) cp*ti.bytes≤281474976710656:=by
    intro c cp h2 h3
    refine growslice_fits h2 ?_
    rw [g4]
    have:=Nat.mul_le_mul h3 hby
    omega
  have hzs:∀e,(z.zero.val e).cells.size=z.zs.length:=fun e=>by rw [zero_arr hz e];simp [vals_length]
  have hml:maxLen=9223372036854775807:=rfl
  have nil:∀e w,m=0→Gd e (fun i=>i<n∧bt f i) h w→(Builtin.lenOf (y.val e)).run P w= .ok 0 w∧(Builtin.firstCells ti.size 0 (y.val e)).run P w= .ok #[] w:=by
    intro e w hm0 hG
    obtain ⟨r1,r2⟩:=hrun e w hG
    have:news=[]:=List.eq_nil_of_length_eq_zero (by rw [hnl,hm0];omega)
    subst this
    rw [hm0] at r1 r2
    rw [g3]
    exact ⟨r1,r2 w rfl⟩
  unfold appV at hq
  split at hq
  · cases hm0:Nat.beq m 0 with
    | true=>
      rw [hm0,cond_true] at hq
      cases hq
      have hm0:=Nat.eq_of_beq_eq_true hm0
      refine does_look hB (by simp only [LV.bd]) fun e w a hA hG=>?_
      obtain ⟨r1,r2⟩:=nil e w hm0 hG
      exact ex e w w a _ hA (by simp only [LV.val];exact run_append_nil2 ht ht2 g1 r1 r2 (Nat.le_refl _))
    | false=>
      rw [hm0,cond_false] at hq
      have hm0:m≠0:=fun h=>by rw [h] at hm0;cases hm0
      refine does_new hB hq hnb (by simp only [LV.bd];exact Nat.lt_succ_self n) fun e w a hA hG=>?_
      obtain ⟨r1,r2⟩:=hrun e w hG
      have hr:=run_append_grow2 (ty:=T) (base:=none) (sLen:=0) (sCap:=0) (olds:=[]) ht ht2 g1 (g2 e) r1 (by rw [g3];exact r2 _ rfl) (by simp [Builtin.firstCells]) (by omega) (by omega) (fits 0 0 (by omega) (by omega))
      have hs:=grown_sat (n:=n) (e:=e) (w:=w) (Te:=el) (sz:=z.zs.length) (c:=0+m) (old:=0) (olds:=[]) (zc:=(z.zero.val e).cells) (by simp only [LV.bds]) hnb (by rw [hnl];simp) (hzs e) (by omega) w.heap.size _ (heap_alloc_new _ _)
      refine ⟨_,_,.inr ⟨_,rfl⟩,alloc_drew_kp w _,hs,?_⟩
      refine ex e w _ a _ hA ?_
      simp only [LV.val,En.add_ρ,Cp.val,En.add_κ]
      rw [hr]
      simp [LV.vals]
  · rename_i b o c cp
    have hbx:=hbs.1
    simp only [LV.bd] at hbx
    cases hr0:Nat.ble (c+m) cp with
    | true=>
      rw [hr0,cond_true] at hq
      have hroom:=Nat.le_of_ble_eq_true hr0
      cases hm0:Nat.beq m 0 with
      | true=>
        rw [hm0,cond_true] at hq
        cases hq
        have hm0:=Nat.eq_of_beq_eq_true hm0
        refine does_look hB (by simp only [LV.bd];exact hbx) fun e w a hA hG=>?_
        obtain ⟨r1,r2⟩:=nil e w hm0 hG
        exact ex e w w a _ hA (by simp only [LV.val,Cp.val];exact run_append_nil2 ht ht2 g1 r1 r2 (by omega))
      | false=>
        rw [hm0,cond_false] at hq
        split at hq
        · rename_i h' hw
          cases hq
          have hw:=wrC_some hB hw
          refine ⟨wr_dd hw hB hnb,(fun u hu=>by cases hu;simp only [LV.bd];exact hbx),fun e w a hA hG=>?_⟩
          obtain ⟨r1,r2⟩:=hrun e w (hG.sub fun i hi=>⟨hi.1,(bt_or _ _ _).2 (.inl hi.2)⟩)
          obtain ⟨cs,Tb,h3,h4,h5⟩:=wr_tk hw hB hG
          refine ⟨e,_,.inl ⟨rfl,rfl⟩,h5,ex e w _ a _ hA ?_⟩
          simp only [LV.val,Cp.val]
          have hr:=run_append_room2 (ty:=T) (sLen:=c) (sCap:=cp) ht ht2 g1 h3 r1 (by rw [g3];exact r2 w rfl) (one e) hroom (by rw [g3,vals_length];exact h4)
          rw [g3] at hr
          exact hr
        · cases hq
    | false=>
      rw [hr0,cond_false] at hq
      have hgrow:¬c+m≤cp:=fun h=>by
        have:=Nat.ble_eq_true_of_le h
        rw [this] at hr0
        cases hr0
      split at hq
      · rename_i old hrd
        obtain ⟨hck,hq1⟩:=ck_some hq
        obtain ⟨hc1,hc2⟩:=(Bool.and_eq_true _ _).mp hck
        have hc1:=Nat.le_of_ble_eq_true hc1
        have hc2:=Nat.le_of_ble_eq_true hc2
        obtain ⟨hob,_⟩:=rdC_bd hB hrd
        obtain ⟨_,_,_,hol⟩:=rdC_some hrd
        refine does_new hB hq1 (bds_iff.2 fun x hx=>(List.mem_append.1 hx).elim (bds_iff.1 hob x) (bds_iff.1 hnb x)) (by simp only [LV.bd];exact Nat.lt_succ_self n) fun e w a hA hG=>?_
        obtain ⟨r1,r2⟩:=hrun e w (hG.sub fun i hi=>⟨hi.1,(bt_or _ _ _).2 (.inl hi.2)⟩)
        have hcl:=rdC_cls hG ⟨hbx,(bt_or _ _ _).2 (.inr ((bt_bitM b b).2 rfl))⟩ hrd
        have hold:=run_firstCells_some (P:=P) w.drew ti.size c ⟨e.ρ b,o,none⟩ c cp (LV.vals e old) (by rw [vals_length,g3];exact hol) (fun j u hu=>by rw [←hcl j u hu];rfl)
        have hr:=run_append_grow2 (ty:=T) ht ht2 g1 (g2 e) r1 (by rw [g3];exact r2 _ rfl) hold (by omega) (by omega) (fits c cp (by omega) (by omega))
        have hs:=grown_sat (n:=n) (e:=e) (w:=w) (Te:=el) (sz:=z.zs.length) (c:=c+m) (old:=cp) (olds:=old) (zc:=(z.zero.val e).cells) hob hnb (by rw [hnl,hol,Nat.add_mul]) (hzs e) (by omega) w.heap.size _ (heap_alloc_new _ _)
        refine ⟨_,_,.inr ⟨_,rfl⟩,alloc_drew_kp w _,hs,?_⟩
        refine ex e w _ a _ hA ?_
        simp only [LV.val,En.add_ρ,Cp.val,En.add_κ]
        rw [hr]
        simp
      · cases hq
  · rename_i b c
    have hbx:=hbs.1
    simp only [LV.bd] at hbx
    split at hq
    · rename_i e' k' cs hgb
      obtain ⟨hck,hq1⟩:=ck_some hq
      clear hq
      obtain ⟨hc1,hc2⟩:=(Bool.and_eq_true _ _).mp hck
      obtain rfl:=Nat.eq_of_beq_eq_true hc1
      obtain rfl:=Nat.eq_of_beq_eq_true hc2
      have hgb2:blkC h b=some cs:=by unfold blkC;rw [hgb]
      have hsat:∀e w,(Gd e (fun i=>i<n∧(bt f i∨i=b)) h w)→∃sp k,w.heap[e.ρ b]?=some (.cells (LV.vals e cs++sp).toArray el (0,0))∧cs.length+sp.length=e.κ b*z.zs.length∧e.κ b≤maxLen∧cs.length=k*z.zs.length∧k≤e.κ b:=by
        intro e w hG
        have:=hG.sat b _ ⟨hbx,.inr rfl⟩ hgb
        simp only [LB.sat] at this
        obtain ⟨sp,q1,q2,q3,k,q4,q5⟩:=this
        exact ⟨sp,k,q1,by rw [←vals_length e cs];exact q2,q3,q4,q5⟩
      cases hr0:Nat.ble ((c+m)*z.zs.length) cs.length with
      | true=>
        rw [hr0,cond_true] at hq1
        have hroom:=Nat.le_of_ble_eq_true hr0
        split at hq1
        · rename_i h' hw
          cases hq1
          have hw:=wrC_some hB hw
          refine ⟨wr_dd hw hB hnb,(fun u hu=>by cases hu;simp only [LV.bd];exact hbx),fun e w a hA hG=>?_⟩
          obtain ⟨r1,r2⟩:=hrun e w (hG.sub fun i hi=>⟨hi.1,(bt_or _ _ _).2 (.inl hi.2)⟩)
          obtain ⟨sp,k,q1,q2,q3,q4,q5⟩:=hsat e w (hG.sub fun i hi=>⟨hi.1,(bt_or _ _ _).2 (hi.2.imp id fun h=>(bt_bitM b i).2 h)⟩)
          obtain ⟨cs',Tb,h3,h4,h5⟩:=wr_tk hw hB hG
          refine ⟨e,_,.inl ⟨rfl,rfl⟩,h5,ex e w _ a _ hA ?_⟩
          simp only [LV.val,Cp.val,Nat.sub_zero]
          rw [q4] at hroom
          have hcap:=Nat.le_trans (Nat.le_of_mul_le_mul_right hroom h0) q5
          have hr:=run_append_room2 (ty:=T) (o:=0) (sLen:=c) (sCap:=e.κ b) ht ht2 g1 h3 r1 (by rw [g3];exact r2 w rfl) (one e) hcap (by rw [g3,vals_length,Nat.zero_add];exact h4)
          rw [g3,Nat.zero_add] at hr
          exact hr
        · cases hq1
      | false =>
        rw [hr0,cond_false] at hq1
        obtain ⟨hck2,hq2⟩:=ck_some hq1
        clear hq1
        obtain ⟨hc3,hc4⟩:=(Bool.and_eq_true _ _).mp hck2
        have hc3:=Nat.le_of_ble_eq_true hc3
        have hc4:=Nat.le_of_ble_eq_true hc4
        obtain ⟨hn,rfl⟩:=newB_some hq2
        have hcb:=(blkC_bd hB hgb2).1
        have htb:LV.bds n (cs.take (c*z.zs.length)):=bds_iff.2 fun x hx=>bds_iff.1 hcb x (List.mem_of_mem_take hx)
        have hbd:LV.bds n (cs.take (c*z.zs.length)++news):=bds_iff.2 fun x hx=>(List.mem_append.1 hx).elim (bds_iff.1 htb x) (bds_iff.1 hnb x)
        have hbf:bt (f ||| bitM b) b:=(bt_or _ _ _).2 (.inr ((bt_bitM b b).2 rfl))
        have htl:(cs.take (c*z.zs.length)).length=c*z.zs.length:=by rw [List.length_take];omega
        refine ⟨dd_mv hn hbx hbf hbd,(fun u hu=>by cases hu;simp only [LV.bd];exact Nat.lt_succ_self n),fun e w a hA hG=>?_⟩
        obtain ⟨r1,r2⟩:=hrun e w (hG.sub fun i hi=>⟨hi.1,(bt_or _ _ _).2 (.inl ((bt_or _ _ _).2 (.inl hi.2)))⟩)
        obtain ⟨sp,k,q1,q2,q3,q4,q5⟩:=hsat e w (hG.sub fun i hi=>⟨hi.1,(bt_or _ _ _).2 (.inl ((bt_or _ _ _).2 (hi.2.imp id fun h=>(bt_bitM b i).2 h)))⟩)
        by_cases hcap:c+m≤e.κ b
        · have hmul:=Nat.mul_le_mul_right z.zs.length hcap
          rw [Nat.add_mul] at hmul
          have hr:=run_append_room2 (ty:=T) (o:=0) (sLen:=c) (sCap:=e.κ b) ht ht2 g1 q1 r1 (by rw [g3];exact r2 w rfl) (one e) hcap (by rw [g3,vals_length,List.length_append,vals_length,hnl];omega)
          rw [g3,Nat.zero_add] at hr
          have hs:LB.sat (e.add n (e.ρ b) (e.κ b)) (w.setRow (e.ρ b) (Fw.put (LV.vals e cs++sp) (c*z.zs.length) (LV.vals e news)).toArray) n (.G el z.zs.length (cs.take (c*z.zs.length)++news)):=by
            simp only [LB.sat]
            rw [En.add_ρ,En.add_κ,LV.vals_ag (En.add_ag e n _ _) _ hbd]
            refine ⟨(LV.vals e cs++sp).drop (c*z.zs.length+(LV.vals e news).length),?_,?_,q3,c+m,by rw [List.length_append,htl,hnl,Nat.add_mul],hcap⟩
            · rw [setRow_heap w _ _ _ _ _ q1]
              congr 3
              unfold Fw.put
              rw [List.take_append_of_le_length (by rw [vals_length];exact hc3)]
              simp only [vals_map,List.map_append,List.map_take]
            · rw [vals_length,List.length_append,htl,hnl,List.length_drop,List.length_append,vals_length,vals_length,hnl]
              omega
          refine ⟨_,_,.inr ⟨rfl,_,_,rfl,.inr ⟨_,rfl⟩⟩,tk_mv hB hn hgb hbf hG (.inr rfl) (setRow_kp w _ _ _ rfl) hs,ex e w _ a _ hA ?_⟩
          simp only [LV.val,Cp.val,Nat.sub_zero,En.add_ρ,En.add_κ]
          exact hr
        · have hcl:=cells_at hG ⟨hbx,(bt_or _ _ _).2 (.inl hbf)⟩ hgb2
          have hold:=run_firstCells_some (P:=P) w.drew ti.size c ⟨e.ρ b,0,none⟩ c (e.κ b) (LV.vals e (cs.take (c*z.zs.length))) (by rw [vals_length,g3];exact htl) (fun j u hu=>by
            rw [vals_get] at hu
            obtain ⟨v,hv,rfl⟩:=Option.map_eq_some_iff.1 hu
            have hj:j<c*z.zs.length:=by
              have:=(List.getElem?_eq_some_iff.1 hv).1
              omega
            rw [List.getElem?_take_of_lt hj] at hv
            have:=hcl j v hv
            rw [addr_add,Nat.zero_add]
            exact this)
          have hr:=run_append_grow2 (ty:=T) ht ht2 g1 (g2 e) r1 (by rw [g3];exact r2 _ rfl) hold (by omega) (by omega) (fits c (e.κ b) (by omega) (by omega))
          have hs:=grown_sat (n:=n) (e:=e) (w:=w) (Te:=el) (sz:=z.zs.length) (c:=c+m) (old:=e.κ b) (zc:=(z.zero.val e).cells) htb hnb (by rw [hnl,htl,Nat.add_mul]) (hzs e) (by omega) w.heap.size _ (heap_alloc_new _ _)
          have hk:=alloc_drew_kp w (.cells ((LV.vals e (cs.take (c*z.zs.length))).toArray++(LV.vals e news).toArray++Builtin.zeroCells (z.zero.val e).cells (grownCap w (c+m) (e.κ b) el - (c+m))) el)
          refine ⟨_,_,.inr ⟨rfl,_,_,rfl,.inr ⟨_,rfl⟩⟩,tk_mv hB hn hgb hbf hG (.inl rfl) ⟨hk.os,hk.tape,hk.output,hk.size,fun b' hb' _=>hk.block b' hb' id⟩ hs,ex e w _ a _ hA ?_⟩
          simp only [LV.val,Cp.val,Nat.sub_zero,En.add_ρ,En.add_κ]
          rw [hr]
    · cases hq
  · cases hq
end
theorem run_copy {P:Program} {w:World} {t ty e:TypeId} {i:TypeInfo} {ats:Array TypeId} (ht:P.underlying t=some (.slice e)) (h0:ats[0]?=some t) (hi:P.info? e=some i)
    {base:Option Addr} {a cp b:Nat} {y:Value} {cs:Array Value} {w':World} (hlen:(Builtin.lenOf y).run P w= .ok b w) (hcs:(Builtin.firstCells i.size (Nat.min b a) y).run P w= .ok cs w)
    (hst:(match base with|some a=>storeCells a cs.toList|none=>pure ()).run P w= .ok () w'):(Builtin.copy_ ats ty #[.slice base a cp,y]).run P w= .ok (.int .i64 (Nat.min b a:Nat)) w':=by
  cases base with
  |none=>simp at hst;subst hst;simp [Builtin.copy_,h0,run_underlying ht,sizeOf,typeInfo,hi,hlen,hcs,goInt]
  |some ad=>simp at hst;simp [Builtin.copy_,h0,run_underlying ht,sizeOf,typeInfo,hi,hlen,hcs,hst,goInt]
def nCell:Obj→Prop
  | .cells _ _ _=>False
  |_=>True
theorem gObj {P:Program} {w:World} {b:Nat} {o:Obj} (h:w.heap[b]?=some o) (hn:nCell o:=by trivial):(getObj b).run P w= .ok o w:=by
  cases o<;>first|exact hn.elim|simp [getObj,Sem.run,h]
theorem sObj {P:Program} {w:World} {b:Nat} {o:Obj} (h:w.heap[b]?=some o) (o':Obj) (hn:nCell o:=by trivial):(setObj b o').run P w= .ok () {w with heap:=w.heap.setIfInBounds b o'}:=by
  cases o<;>first|exact hn.elim|simp [setObj,Sem.run,h]
section
variable {P:Program} {X:Ctx} {N:Nat} {sl:Tr LV} {h:Tr LB} {n:Nat} {d:Option Tmp} {T:TypeId} {pos:String} {af:Array Edge} {g:Option (Nat × Bool)}
theorem does_blt_look {b:Builtin} {aa:Array Operand} {ats:Array TypeId} {vs:List LV} {v:LV} {f:Nat} (hB:HB n h) (ha:opds sl aa.toList=some vs) (hv:v.bd n)
    (hr:∀e w,Gd e (fun i=>i<n∧bt f i) h w→∀cs,(builtin b ats T cs (LV.vals e vs).toArray).run P w= .ok (.value (v.val e)) w):Does P N sl h n ⟨d,.call ⟨.builtin b,aa,ats⟩,T,pos,af,g⟩ ⟨some v,h,n,f,0⟩:=
  does_look hB hv fun e w a hA hG=>by rw [exec_blt (evs_arr hA ha)];exact hr e w hG _
theorem lenX_ok {t:TypeId} {y:Ty} {v:LV} {m f:Nat} {ats:Array TypeId} (hy:TyOk P t y) (h0:ats[0]?=some t) (hv:v.bd n) (hB:HB n h) (hq:lenX h y.k v=some (m,f)) (e:En) (w:World) (hG:Gd e (fun i=>i<n∧bt f i) h w) :
    (Builtin.len_ ats T #[v.val e]).run P w= .ok (.int .i64 (m:Nat)) w:=by
  have hk:=hy.k
  unfold lenX at hq
  split at hq
  · obtain ⟨hc,hq⟩:=ck_some hq
    cases hq
    rw [TK.str_of hc] at hk
    simp only [LV.val]
    simp [Builtin.len_,h0,run_underlying hk,goInt,lenL_bytes]
  · obtain ⟨hc,hq⟩:=ck_some hq
    cases hq
    obtain ⟨e',he⟩:=TK.sl_of hc
    rw [he] at hk
    simp only [LV.val]
    simp [Builtin.len_,h0,run_underlying hk,goInt]
  · obtain ⟨hc,hq⟩:=ck_some hq
    cases hq
    obtain ⟨e',he⟩:=TK.sl_of hc
    rw [he] at hk
    simp only [LV.val]
    simp [Builtin.len_,h0,run_underlying hk,goInt]
  · obtain ⟨hc,hq⟩:=ck_some hq
    cases hq
    obtain ⟨e',he⟩:=TK.sl_of hc
    rw [he] at hk
    simp only [LV.val]
    simp [Builtin.len_,h0,run_underlying hk,goInt]
  · obtain ⟨hc,hq⟩:=ck_some hq
    cases hq
    obtain ⟨k1,k2,he⟩:=TK.mp_of hc
    rw [he] at hk
    simp only [LV.val]
    simp [Builtin.len_,h0,run_underlying hk,goInt]
  · rename_i b
    simp only [LV.bd] at hv
    split at hq
    · rename_i es c hg
      obtain ⟨hc,hq⟩:=ck_some hq
      cases hq
      obtain ⟨k1,k2,he⟩:=TK.mp_of hc
      rw [he] at hk
      have hs:=hG.sat b _ ⟨hv,(bt_bitM b b).2 rfl⟩ hg
      simp only [LB.sat] at hs
      simp only [LV.val]
      simp [Builtin.len_,h0,run_underlying hk,goInt,gObj hs]
    · rename_i es hg
      obtain ⟨hc,hq⟩:=ck_some hq
      cases hq
      obtain ⟨k1,k2,he⟩:=TK.mp_of hc
      rw [he] at hk
      have hs:=hG.sat b _ ⟨hv,(bt_bitM b b).2 rfl⟩ hg
      simp only [LB.sat] at hs
      obtain ⟨ents,clock,hs,hp⟩:=hs
      have hlen:=hp.length_eq
      simp only [List.length_map,Array.length_toList] at hlen
      simp only [LV.val]
      simp [Builtin.len_,h0,run_underlying hk,goInt,gObj hs,hlen]
    · cases hq
  · cases hq
theorem capX_ok {t:TypeId} {y:Ty} {v:LV} {m:Nat} {ats:Array TypeId} (hy:TyOk P t y) (h0:ats[0]?=some t) (hq:capX y.k v=some m) (e:En) (w:World) :
    (Builtin.cap_ ats T #[v.val e]).run P w= .ok (.int .i64 (m:Nat)) w:=by
  have hk:=hy.k
  unfold capX at hq
  split at hq
  · obtain ⟨hc,hq⟩:=ck_some hq
    cases hq
    obtain ⟨e',he⟩:=TK.sl_of hc
    rw [he] at hk
    simp only [LV.val]
    simp [Builtin.cap_,h0,run_underlying hk,goInt]
  · obtain ⟨hc,hq⟩:=ck_some hq
    cases hq
    obtain ⟨e',he⟩:=TK.sl_of hc
    rw [he] at hk
    simp only [LV.val,Cp.val]
    simp [Builtin.cap_,h0,run_underlying hk,goInt]
  · cases hq
theorem isSl_val {x:LV} {a:Nat} (hs:isSl x=true) (hl:lenL x=some a) (e:En):∃o c,x.val e= .slice o a c:=by
  cases x<;>simp [isSl] at hs<;>simp only [lenL,Option.some.injEq] at hl<;>subst hl<;>exact ⟨_,_,by simp only [LV.val];rfl⟩
theorem does_copy {t:TypeId} {aa:Array Operand} {ats:Array TypeId} {x y:LV} {z:Ty} {el:TypeId} {q:R1} (hB:HB n h) (hS:SB n sl) (hz:TyOk P el z) (ht:P.underlying t=some (.slice el)) (h0:ats[0]?=some t) (ha:opds sl aa.toList=some [x,y])
    (hq:opCopy h n z.zs.length x y=some q):Does P N sl h n ⟨d,.call ⟨.builtin .copy,aa,ats⟩,T,pos,af,g⟩ q:=by
  have hbs:=opds_bd hS ha
  simp only [LV.bds] at hbs
  obtain ⟨ti,g1,g2,g3,g4⟩:=hz.inf
  have ex:∀(e:En) (w w':World) (a:Act) (v:Value),SlT N e sl a→(Builtin.copy_ ats T #[x.val e,y.val e]).run P w= .ok v w'→(execOp a.eval ⟨d,.call ⟨.builtin .copy,aa,ats⟩,T,pos,af,g⟩).run P w= .ok (.value v) w':=by
    intro e w w' a v hA hr
    rw [exec_blt (evs_arr hA ha)]
    simp only [builtin,LV.vals,Sem.run_bind,hr,Result.andThen_ok,Sem.run_pure]
  unfold opCopy at hq
  split at hq
  · rename_i la lb cs f hla hlb hsl
    obtain ⟨hc,hq1⟩:=ck_some hq
    clear hq
    obtain ⟨hc1,hc2⟩:=(Bool.and_eq_true _ _).mp hc
    have hc2:=Nat.eq_of_beq_eq_true hc2
    obtain ⟨hnb,hrun⟩:=slC_run (P:=P) hB hbs.2.1 hsl hlb
    have hmin:(bif Nat.ble la lb then la else lb)=Nat.min lb la:=by
      cases hb:Nat.ble la lb with
      |true=>have:=Nat.le_of_ble_eq_true hb;simp only [cond_true];exact (Nat.min_eq_right this).symm
      | false=>
        have:¬la≤lb:=fun h=>by rw [Nat.ble_eq_true_of_le h] at hb;cases hb
        simp only [cond_false]
        exact (Nat.min_eq_left (by omega)).symm
    rw [hmin] at hq1
    have cells:∀e w,Gd e (fun i=>i<n∧bt f i) h w→(Builtin.firstCells ti.size (Nat.min lb la) (y.val e)).run P w= .ok (LV.vals e (cs.take (Nat.min lb la*z.zs.length))).toArray w:=by
      intro e w hG
      have hml:Nat.min lb la≤lb:=Nat.min_le_left lb la
      rcases slC_sl hB hbs.2.1 hsl with ⟨s,rfl,rfl,rfl⟩| ⟨m',hm',hlen,hb,hrd⟩
      · simp only [lenL,Option.some.injEq] at hlb
        subst hlb
        rw [u8s,List.length_map] at hc2
        simp only [LV.val,Builtin.firstCells,Sem.run_pure]
        congr 1
        by_cases hs0:s.length=0
        · have:s=[]:=List.eq_nil_of_length_eq_zero hs0
          subst this
          simp [u8s,LV.vals]
        · have h1:z.zs.length=1:=by
            have:s.length*z.zs.length=s.length*1:=by omega
            exact Nat.eq_of_mul_eq_mul_left (by omega) this
          rw [h1,Nat.mul_one]
          have h2:=sub_str s 0 (Nat.min s.length la)
          unfold mkS at h2
          rw [h2]
          apply Array.ext'
          simp [u8s,vals_map,List.map_take,LV.val]
          rfl
      · rw [hlb] at hm'
        cases hm'
        obtain ⟨o,c,h1,h2,h3⟩:=hrd e w hG
        rw [h1]
        have hle:=Nat.mul_le_mul_right z.zs.length hml
        cases o with
        | none=>
          have h0:=h2 rfl
          subst h0
          have:cs=[]:=List.eq_nil_of_length_eq_zero (by omega)
          subst this
          simp [Builtin.firstCells,LV.vals]
        | some a=>
          refine run_firstCells_some w ti.size _ a lb c _ (by rw [vals_length,List.length_take,g3];omega) fun j u hu=>?_
          refine h3 a rfl j u ?_
          rw [vals_get] at hu ⊢
          obtain ⟨v,hv,rfl⟩:=Option.map_eq_some_iff.1 hu
          have hj:=(List.getElem?_eq_some_iff.1 hv).1
          rw [List.length_take] at hj
          rw [List.getElem?_take_of_lt (by omega)] at hv
          rw [hv]
          rfl
    unfold cpyV at hq1
    cases hm0:Nat.beq (Nat.min lb la) 0 with
    | true=>
      rw [hm0,cond_true] at hq1
      cases hq1
      have hm0:=Nat.eq_of_beq_eq_true hm0
      refine does_look hB (by simp only [LV.bd]) fun e w a hA hG=>?_
      obtain ⟨o,c,hx⟩:=isSl_val hc1 hla e
      have hcl:=cells e w hG
      have hr:=run_copy (ty:=T) (base:=o) (cp:=c) ht h0 g1 (hrun e w hG).1 hcl (w':=w) (by
        rw [hm0]
        cases o<;>simp [LV.vals,storeCells])
      refine ex e w w a _ hA ?_
      rw [hx,hr,hm0]
      simp only [LV.val]
      rfl
    | false=>
      rw [hm0,cond_false] at hq1
      split at hq1
      · rename_i b o k cp
        obtain ⟨hone,hq2⟩:=ck_some hq1
        clear hq1
        split at hq2
        · rename_i h' hw
          cases hq2
          have hw:=wrC_some hB hw
          have htb:LV.bds n (cs.take (Nat.min lb la*z.zs.length)):=bds_iff.2 fun x hx=>bds_iff.1 hnb x (List.mem_of_mem_take hx)
          refine ⟨wr_dd hw hB htb,(fun u hu=>by cases hu;simp only [LV.bd]),fun e w a hA hG=>?_⟩
          have hG1:=hG.sub (S':=fun i=>i<n∧bt f i) fun i hi=>⟨hi.1,(bt_or _ _ _).2 (.inl hi.2)⟩
          obtain ⟨cs',Tb,h3,h4,h5⟩:=wr_tk hw hB hG
          have hst:=run_storeCells_at P (e.ρ b) o Tb (LV.vals e (cs.take (Nat.min lb la*z.zs.length))) 0 cs'.toArray w h3 (by rw [vals_length];simpa using h4) (fun u hu=>List.all_eq_true.1 (ones_val e hone) u hu)
          simp only [Nat.add_zero] at hst
          simp only [lenL,Option.some.injEq] at hla
          subst hla
          have hr:=run_copy (ty:=T) (base:=some ⟨e.ρ b,o,none⟩) (cp:=cp.val e b) ht h0 g1 (hrun e w hG1).1 (cells e w hG1) hst
          refine ⟨e,_,.inl ⟨rfl,rfl⟩,h5,ex e w _ a _ hA ?_⟩
          simp only [LV.val]
          rw [hr]
          rfl
        · cases hq2
      · cases hq1
  · cases hq
end
theorem ba_beq (s b:List UInt8):(ByteArray.mk s.toArray == ByteArray.mk b.toArray)=decide (s=b):=by
  have h:(ByteArray.mk s.toArray == ByteArray.mk b.toArray)=(s.toArray == b.toArray):=rfl
  rw [h]
  by_cases e:s=b
  · subst e;simp
  · rw [decide_eq_false e];simpa using e
structure KeyOk (P:Program) (t:TypeId) (kt et:TypeId) (ud:TypeDesc) (k:LV):Prop where
  hm:P.underlying t=some (.map kt et)
  hu:P.underlying kt=some ud
  same:∀e v r,keyE k v=some r→Instr.sameNow ud (k.val e) (v.val e)=some r
  chk:∀(e:En) (w:World) em,(Instr.checkKey em 10000 kt (k.val e)).run P w= .ok () w
  bits:∀e v,keyE k v=some true→Instr.sameBits 10000 (v.val e) (k.val e)=true
theorem keyK_ok {P:Program} {X:Ctx} {t:Nat} {k:LV} (hX:CtxOk P X) (h:keyK X t k=true):∃y kt et ud,X.ty t=some y∧y.k= .mp kt et∧KeyOk P t kt et ud k:=by
  unfold keyK at h
  split at h
  · rename_i y hy
    split at h
    · rename_i q hq
      have hmk:∃et,y.k= .mp q et:=by cases hyk:y.k<;>rw [hyk] at hq<;>simp [TK.mk?] at hq;exact ⟨_,by rw [hq]⟩
      obtain ⟨et,hm⟩:=hmk
      have hu:=(hX.ty t y hy).k
      rw [hm] at hu
      split at h
      · rename_i z k1 m hz
        cases hzi:z.k.int? with
        |none=>rw [hzi] at h;cases h
        | some ki=>
          have hk:=(hX.ty q z hz).k
          rw [TK.int_some hzi] at hk
          refine ⟨y,q,et,.int ki,hy,hm,hu,hk,fun e v r hr=>?_,fun e w em=>?_,fun e v hr=>?_⟩
          · cases v<;>simp only [keyE] at hr<;>first|(cases hr;done)|skip
            obtain ⟨h1,h2⟩:=ck_some hr
            cases h2
            obtain rfl:=ikn_inj h1
            simp only [LV.val,Instr.sameNow,if_true,beI_eq]
            congr 1
          · rw [show (10000:Nat)=9999+1 from rfl,Instr.checkKey,Sem.run_bind,run_underlying hk]
            simp only [LV.val]
            rfl
          · cases v<;>simp only [keyE] at hr<;>first|(cases hr;done)|skip
            obtain ⟨h1,h2⟩:=ck_some hr
            obtain rfl:=ikn_inj h1
            rw [beI_eq] at h2
            have h2:=dTr (Option.some.inj h2)
            subst h2
            simp [LV.val,Instr.sameBits]
      · rename_i z s hz
        have hk:=(hX.ty q z hz).k
        rw [TK.str_of h] at hk
        refine ⟨y,q,et,.string,hy,hm,hu,hk,fun e v r hr=>?_,fun e w em=>?_,fun e v hr=>?_⟩
        · cases v<;>simp only [keyE] at hr<;>first|(cases hr;done)|skip
          rename_i b
          cases hr
          rw [beL_eq]
          simp only [LV.val,Instr.sameNow]
          congr 1
          exact ba_beq s b
        · rw [show (10000:Nat)=9999+1 from rfl,Instr.checkKey,Sem.run_bind,run_underlying hk]
          simp only [LV.val]
          rfl
        · cases v<;>simp only [keyE] at hr<;>first|(cases hr;done)|skip
          rw [beL_eq] at hr
          have h2:=dTr (Option.some.inj hr)
          subst h2
          simp only [LV.val,Instr.sameBits,ba_beq,decide_true]
      · cases h
    · cases h
  · cases h
theorem fndM_now {P:Program} {t kt et:TypeId} {ud:TypeDesc} {k:LV} (hk:KeyOk P t kt et ud k) (e:En):∀{es:List (LV × LV × Nat)} {r:Option (LV × Nat)} (i:Nat),fndM k es=some r→
    match r with
    |none=>Instr.findNow ud (k.val e) (es.map (ent e)) i=some none
    |some (v,b)=>∃j a,es[j]?=some (a,v,b)∧keyE k a=some true∧Instr.findNow ud (k.val e) (es.map (ent e)) i=some (some (i+j,v.val e))∧∀u q,updM k u es=some q→q=es.set j (k,u,b)
  | [],r,i,h=>by cases h;rfl
  | (a, v,b)::es,r,i,h=>by
    simp only [fndM] at h
    split at h
    · rename_i hka
      cases h
      refine ⟨0,a,rfl,hka,?_,fun u q hq=>?_⟩
      · simp only [List.map_cons,Instr.findNow,ent,hk.same e a true hka];rfl
      · simp only [updM,hka] at hq
        cases hq
        rfl
    · rename_i hka
      have ih:=fndM_now hk e (i+1) h
      have h1:Instr.findNow ud (k.val e) (((a,v,b)::es).map (ent e)) i=Instr.findNow ud (k.val e) (es.map (ent e)) (i+1):=by
        simp only [List.map_cons,Instr.findNow,ent,hk.same e a false hka]
      cases r with
      |none=>simp only at ih ⊢;rw [h1];exact ih
      | some p=>
        obtain ⟨v',b'⟩:=p
        simp only at ih ⊢
        obtain ⟨j,a',q1,q2,q3,q4⟩:=ih
        refine ⟨j+1,a',by simpa using q1,q2,by rw [h1,q3];congr 3;omega,fun u q hq=>?_⟩
        simp only [updM,hka] at hq
        split at hq
        · rename_i q' hq'
          cases hq
          rw [q4 u q' hq']
          rfl
        · cases hq
    · cases h
theorem run_findNow {P:Program} {t kt et:TypeId} {ud:TypeDesc} {k:LV} (hk:KeyOk P t kt et ud k) {w:World} {kv:Value} {es:List MapEntry} {r:Option (Nat × Value)} (h:Instr.findNow ud kv es 0=some r):(Instr.findKey kt kv es).run P w= .ok r w:=by
  simp [Instr.findKey,run_underlying hk.hu,h]
theorem fndN_facts {k:LV}:∀{es:List (LV × LV)} {r:Option LV},fndN k es=some r→
    match r with
    |none=>∀x∈es,keyE k x.1=some false
    |some v=>(∃x∈es,keyE k x.1=some true)∧∀x∈es,keyE k x.1=some false∨(keyE k x.1=some true∧x.2=v)
  | [],r,h=>by cases h;intro x hx;cases hx
  | (a, v)::es,r,h=>by
    simp only [fndN] at h
    split at h
    · rename_i hka hn
      cases h
      have ih:=fndN_facts hn
      simp only at ih ⊢
      refine ⟨⟨_,.head _,hka⟩,fun x hx=>?_⟩
      rcases List.mem_cons.1 hx with rfl|hx
      · exact .inr ⟨hka,rfl⟩
      · exact .inl (ih x hx)
    · rename_i hka
      have ih:=fndN_facts h
      cases r with
      | none=>
        simp only at ih ⊢
        intro x hx
        rcases List.mem_cons.1 hx with rfl|hx
        · exact hka
        · exact ih x hx
      | some u=>
        simp only at ih ⊢
        obtain ⟨⟨x,hx,hxk⟩,h2⟩:=ih
        refine ⟨⟨x,.tail _ hx,hxk⟩,fun x hx=>?_⟩
        rcases List.mem_cons.1 hx with rfl|hx
        · exact .inl hka
        · exact h2 x hx
    · cases h
theorem now_none {ud:TypeDesc} {kv:Value}:∀{es:List MapEntry} (i:Nat),(∀x∈es,Instr.sameNow ud kv x.key=some false)→Instr.findNow ud kv es i=some none
  | [],i,h=>rfl
  | x::es,i,h=>by
    simp only [Instr.findNow,h x (.head _)]
    exact now_none (i+1) fun y hy=>h y (.tail _ hy)
theorem now_some {ud:TypeDesc} {kv v:Value}:∀{es:List MapEntry} (i:Nat),(∀x∈es,Instr.sameNow ud kv x.key=some false∨(Instr.sameNow ud kv x.key=some true∧x.val=v))→(∃x∈es,Instr.sameNow ud kv x.key=some true)→∃j,Instr.findNow ud kv es i=some (some (j,v))
  | [],i,h,⟨x,hx,_⟩=>by cases hx
  | x ::es,i,h,hx=>by
    rcases h x (.head _) with h1| ⟨h1,h2⟩
    · obtain ⟨j,hj⟩:=now_some (i+1) (fun y hy=>h y (.tail _ hy)) (by
        obtain ⟨y,hy,hyk⟩:=hx
        rcases List.mem_cons.1 hy with rfl|hy
        · rw [h1] at hyk;cases hyk
        · exact ⟨y,hy,hyk⟩)
      exact ⟨j,by simp only [Instr.findNow,h1,hj]⟩
    · exact ⟨i,by simp only [Instr.findNow,h1,h2]⟩
theorem fndN_now {P:Program} {t kt et:TypeId} {ud:TypeDesc} {k:LV} (hk:KeyOk P t kt et ud k) (e:En) {es:List (LV × LV)} {r:Option LV} (h:fndN k es=some r) {ents:Array MapEntry}
    (hp:(ents.toList.map (fun x=>(x.key,x.val))).Perm (es.map (fun x=>(x.1.val e,x.2.val e)))) :
    match r with
    |none=>Instr.findNow ud (k.val e) ents.toList 0=some none
    |some v=>∃j,Instr.findNow ud (k.val e) ents.toList 0=some (some (j,v.val e)):=by
  have hf:=fndN_facts h
  have get:∀x∈ents.toList,∃p∈es,x.key=p.1.val e∧x.val=p.2.val e:=by
    intro x hx
    have h1:(x.key,x.val)∈es.map (fun x=>(x.1.val e,x.2.val e)):=hp.subset (List.mem_map.2 ⟨x,hx,rfl⟩)
    obtain ⟨p,hp1,hp2⟩:=List.mem_map.1 h1
    simp only [Prod.mk.injEq] at hp2
    exact ⟨p,hp1,hp2.1.symm,hp2.2.symm⟩
  cases r with
  | none=>
    simp only at hf ⊢
    refine now_none 0 fun x hx=>?_
    obtain ⟨p,hp1,hp2,_⟩:=get x hx
    rw [hp2]
    exact hk.same e _ _ (hf p hp1)
  | some v=>
    simp only at hf ⊢
    obtain ⟨⟨p0,hp0,hpk⟩,h2⟩:=hf
    refine now_some 0 (fun x hx=>?_) ?_
    · obtain ⟨p,hp1,hp2,hp3⟩:=get x hx
      rw [hp2,hp3]
      rcases h2 p hp1 with h3| ⟨h3,h4⟩
      · exact .inl (hk.same e _ _ h3)
      · exact .inr ⟨hk.same e _ _ h3,by rw [h4]⟩
    · have h1:(p0.1.val e,p0.2.val e)∈ents.toList.map (fun x=>(x.key,x.val)):=hp.symm.subset (List.mem_map.2 ⟨p0,hp0,rfl⟩)
      obtain ⟨x,hx1,hx2⟩:=List.mem_map.1 h1
      simp only [Prod.mk.injEq] at hx2
      exact ⟨x,hx1,by rw [hx2.1];exact hk.same e _ _ hpk⟩
section
variable {P:Program} {X:Ctx} {N:Nat} {sl:Tr LV} {h:Tr LB} {n:Nat} {d:Option Tmp} {T:TypeId} {pos:String} {af:Array Edge} {g:Option (Nat × Bool)}
theorem lkB_now {t kt et:TypeId} {ud:TypeDesc} {k:LV} {B:LB} {r:Option LV} (hk:KeyOk P t kt et ud k) (hq:lkB B k=some r) {e:En} {w:World} {i:Nat} (hs:B.sat e w i) (hb:B.bd n) :
    ∃ents clock,w.heap[e.ρ i]?=some (.map ents clock)∧∃f,Instr.findNow ud (k.val e) ents.toList 0=some f∧f.map (·.2)=r.map (LV.val e)∧∀v,r=some v→v.bd n:=by
  unfold lkB at hq
  split at hq
  · rename_i es c
    simp only [LB.sat] at hs
    split at hq
    · rename_i v b hf
      cases hq
      obtain ⟨j,a,h1,h2,h3,_⟩:=fndM_now hk e 0 hf
      refine ⟨_,_,hs,_,h3,rfl,fun u hu=>?_⟩
      cases hu
      exact (hb _ (List.mem_of_getElem? h1)).2
    · rename_i hf
      cases hq
      exact ⟨_,_,hs,_,fndM_now hk e 0 hf,rfl,fun u hu=>by cases hu⟩
    · cases hq
  · rename_i es
    simp only [LB.sat] at hs
    obtain ⟨ents,clock,h1,h2⟩:=hs
    have hn:=fndN_now hk e hq h2
    have hf:=fndN_facts hq
    refine ⟨ents,clock,h1,?_⟩
    cases r with
    |none=>exact ⟨_,hn,rfl,fun u hu=>by cases hu⟩
    | some v=>
      obtain ⟨j,hj⟩:=hn
      obtain ⟨⟨x,hx,hxk⟩,h3⟩:=hf
      refine ⟨_,hj,rfl,fun u hu=>?_⟩
      cases hu
      rcases h3 x hx with h4| ⟨_,h4⟩
      · rw [hxk] at h4;cases h4
      · rw [←h4];exact (hb x hx).2
  · cases hq
theorem does_lookup {t :TypeId} {x i:Operand} {ok:Bool} {q:R1} (hX:CtxOk P X) (hB:HB n h) (hS:SB n sl) (hq:opX X sl h n (.lookup t x i ok)=some q):Does P N sl h n ⟨d,.lookup t x i ok,T,pos,af,g⟩ q:=by
  simp only [opX] at hq
  split at hq
  · rename_i y k hy hi
    split at hq
    · rename_i et het
      split at hq
      · rename_i z hz
        split at hq
        · rename_i r f hr
          obtain ⟨hkk,hq1⟩:=ck_some hq
          clear hq
          cases hq1
          obtain ⟨y',kt,et',ud,hy',hyk,hk⟩:=keyK_ok hX hkk
          rw [hy] at hy'
          cases hy'
          rw [hyk] at het
          simp only [TK.mp?,Option.some.injEq] at het
          subst het
          have hz2:=hX.ty _ z hz
          have key : (∀ v,r=some v→v.bd n)∧∀e w,Gd e (fun i=>i<n∧bt f i) h w→∀a,SlT N e sl a→(Instr.lookup t (a.eval x) (a.eval i) ok).run P w= .ok (if ok then .tuple #[(r.getD z.zero).val e,.bool r.isSome] else (r.getD z.zero).val e) w:=by
            split at hr
            · rename_i hx
              cases hr
              refine ⟨fun v hv=>(by cases hv),fun e w hG a hA=>?_⟩
              have h1:=hA.ev hx
              have h2:=hA.ev hi
              simp only [LV.val] at h1
              have hfn:(Instr.findKey kt (k.val e) []).run P w= .ok none w:=run_findNow hk rfl
              have hzr:=run_zero hz2 e w
              cases ok<;>simp [Instr.lookup,h1,h2,run_underlying hk.hm,hk.chk,hfn,hzr]
            · rename_i b hx
              have hbb:=opd_bd hS hx
              simp only [LV.bd] at hbb
              split at hr
              · rename_i B hg
                split at hr
                · rename_i r' hl
                  cases hr
                  refine ⟨fun v hv=>?_,fun e w hG a hA=>?_⟩
                  · subst hv
                    unfold lkB at hl
                    split at hl
                    · rename_i es c
                      split at hl
                      · rename_i v' b' hf
                        cases hl
                        obtain ⟨j,a,h1,_⟩:=fndM_now hk ⟨id,id⟩ 0 hf
                        exact ((hB.get b _ hg).2 _ (List.mem_of_getElem? h1)).2
                      · cases hl
                      · cases hl
                    · rename_i es
                      obtain ⟨⟨x,hx,hxk⟩,h3⟩:=fndN_facts hl
                      rcases h3 x hx with h4| ⟨_,h4⟩
                      · rw [hxk] at h4;cases h4
                      · rw [←h4];exact ((hB.get b _ hg).2 x hx).2
                    · cases hl
                  · have h1:=hA.ev hx
                    have h2:=hA.ev hi
                    simp only [LV.val] at h1
                    obtain ⟨ents,clock,h3,f',h4,h5,_⟩:=lkB_now hk hl (hG.sat b B ⟨hbb,(bt_bitM b b).2 rfl⟩ hg) (hB.get b B hg).2
                    have hfn:=run_findNow (P:=P) hk (w:=w) h4
                    have hzr:=run_zero hz2 e w
                    cases f' with
                    | none=>
                      cases r with
                      |none=>cases ok<;>simp [Instr.lookup,h1,h2,run_underlying hk.hm,gObj h3,hk.chk,hfn,hzr]
                      |some v=>cases h5
                    | some p=>
                      cases r with
                      |none=>cases h5
                      | some v=>
                        simp only [Option.map_some,Option.some.injEq] at h5
                        cases ok<;>simp [Instr.lookup,h1,h2,run_underlying hk.hm,gObj h3,hk.chk,hfn,h5]
                · cases hr
              · cases hr
            · cases hr
          have hvb:(r.getD z.zero).bd n:=by
            cases r with
            |none=>exact Ty.zero_bd hz2
            |some v=>exact key.1 v rfl
          refine does_look hB (by cases ok<;>simp only [cond_true,cond_false,LV.bd,LV.bds,and_true]<;>exact hvb) fun e w a hA hG=>?_
          have h1:=key.2 e w hG a hA
          simp only [execOp,Sem.run_bind,h1,Result.andThen_ok,Sem.run_pure]
          cases ok<;>simp [LV.val,LV.vals]
        · cases hq
      · cases hq
    · cases hq
  · cases hq
end
theorem insN_perm (k v:LV):∀es:List (LV × LV),(insN k v es).Perm ((k,v)::es)
  | []=>List.Perm.refl _
  | (a,u)::r=>by
    unfold insN
    cases ltV k a with
    |true=>exact List.Perm.refl _
    |false=>exact ((insN_perm k v r).cons _).trans (List.Perm.swap _ _ _)
theorem keepKey {P:Program} {w:World} {a b:Value} (h:Instr.sameBits 10000 a b=true):(Instr.keyThatStays a b).run P w= .ok b w:=by
  simp [Instr.keyThatStays,h]
theorem set_heap {w:World} {b:Nat} {o o':Obj} (h:w.heap[b]?=some o):({w with heap:=w.heap.setIfInBounds b o'}:World).heap[b]?=some o':=by
  have:=lt_of_heap h
  simp [this]
theorem set_kp {w:World} {b:Nat} {o:Obj}:Kp w (fun c=>c=b) {w with heap:=w.heap.setIfInBounds b o}:=
  ⟨rfl,rfl,rfl,by simp,fun c hc hn=>by simp only;rw [Array.getElem?_setIfInBounds_ne (fun e=>hn e.symm)]⟩
theorem mod_set (e:En) {es:List (LV × LV × Nat)} {j:Nat} {a k v u:LV} {b:Nat} (hj:es[j]?=some (a,v,b)) (f:MapEntry→MapEntry) (hf:f (ent e (a,v,b))=ent e (k,u,b)):((es.map (ent e)).toArray).modify j f=((es.set j (k,u,b)).map (ent e)).toArray:=by
  apply Array.ext'
  apply List.ext_getElem?
  intro i
  rw [Array.toList_modify,List.getElem?_modify,List.map_set,List.getElem?_set]
  have hl:=(List.getElem?_eq_some_iff.1 hj).1
  by_cases hi:j=i
  · subst hi
    simp [hl,hj,hf]
    have:=(List.getElem?_eq_some_iff.1 hj).2
    rw [this,hf]
  · simp [hi]
section
variable {P:Program} {X:Ctx} {N:Nat} {sl:Tr LV} {h:Tr LB} {n:Nat} {d:Option Tmp} {T:TypeId} {pos:String} {af:Array Edge} {g:Option (Nat × Bool)}
theorem run_put_new {t kt et:TypeId} {ud:TypeDesc} {k:LV} (hk:KeyOk P t kt et ud k) {e:En} {w:World} {r:Nat} {ents:Array MapEntry} {clock:Nat} (hw:w.heap[r]?=some (.map ents clock)) (hf:Instr.findNow ud (k.val e) ents.toList 0=some none) (v:Value) :
    (Instr.mapUpdate t (.map (some r)) (k.val e) v).run P w= .ok () {w with heap:=w.heap.setIfInBounds r (.map (ents.push ⟨k.val e,v,clock⟩) (clock+1))}:=by
  simp only [Instr.mapUpdate,Sem.run_bind,run_underlying hk.hm,Result.andThen_ok,gObj hw,hk.chk,run_findNow hk hf,sObj hw]
theorem run_put_old {t kt et:TypeId} {ud:TypeDesc} {k:LV} (hk:KeyOk P t kt et ud k) {e:En} {w:World} {r j:Nat} {ents:Array MapEntry} {clock:Nat} {x:MapEntry} {u:Value} (hw:w.heap[r]?=some (.map ents clock)) (hf:Instr.findNow ud (k.val e) ents.toList 0=some (some (j,u))) (hx:ents[j]?=some x) (hb:Instr.sameBits 10000 x.key (k.val e)=true) (v:Value) :
    (Instr.mapUpdate t (.map (some r)) (k.val e) v).run P w= .ok () {w with heap:=w.heap.setIfInBounds r (.map (ents.modify j fun y=>{y with key:=k.val e,val:=v}) clock)}:=by
  simp only [Instr.mapUpdate,Sem.run_bind,run_underlying hk.hm,Result.andThen_ok,gObj hw,hk.chk,run_findNow hk hf,hx,Option.map_some,Option.getD_some,keepKey hb,sObj hw]
theorem putB_ok {t kt et:TypeId} {ud:TypeDesc} {k v:LV} {B B':LB} (hk:KeyOk P t kt et ud k) (hq:putB B k v=some B') (hB:B.bd n) (hkb:k.bd n) (hvb:v.bd n):B'.bd n∧∀(e:En) (w:World) (b:Nat),B.sat e w b→
    ∃w',(Instr.mapUpdate t (.map (some (e.ρ b))) (k.val e) (v.val e)).run P w= .ok () w'∧Kp w (fun c=>c=e.ρ b) w'∧B'.sat e w' b:=by
  unfold putB at hq
  split at hq
  · rename_i es c
    split at hq
    · rename_i hf
      cases hq
      refine ⟨fun x hx=>?_,fun e w b hs=>?_⟩
      · rcases List.mem_append.1 hx with hx|hx
        · exact hB x hx
        · rw [List.mem_singleton.1 hx];exact ⟨hkb,hvb⟩
      · simp only [LB.sat] at hs
        refine ⟨_,run_put_new hk hs (fndM_now hk e 0 hf) _,set_kp,?_⟩
        simp only [LB.sat]
        rw [set_heap hs]
        simp [ent]
    · rename_i p hf
      split at hq
      · rename_i q' hu
        cases hq
        obtain ⟨v0,b0⟩:=p
        obtain ⟨j0,a0,h10,h20,_,h40⟩:=fndM_now hk ⟨id,id⟩ 0 hf
        have hset:=h40 v q' hu
        subst hset
        refine ⟨fun x hx=>?_,fun e w b hs=>?_⟩
        · rcases List.mem_or_eq_of_mem_set hx with hx|rfl
          · exact hB x hx
          · exact ⟨hkb,hvb⟩
        · simp only [LB.sat] at hs
          obtain ⟨j,a,h1,h2,h3,h4⟩:=fndM_now hk e 0 hf
          have hset:=h4 v _ hu
          rw [hset]
          rw [Nat.zero_add] at h3
          have hx:((es.map (ent e)).toArray)[j]?=some (ent e (a,v0,b0)):=by simp [h1]
          refine ⟨_,run_put_old hk hs h3 hx (hk.bits e a h2) _,set_kp,?_⟩
          simp only [LB.sat]
          rw [set_heap hs,mod_set (u:=v) (k:=k) e h1 _ rfl]
      · cases hq
    · cases hq
  · rename_i es
    split at hq
    · rename_i hf
      cases hq
      refine ⟨fun x hx=>?_,fun e w b hs=>?_⟩
      · rcases List.mem_cons.1 ((insN_perm k v es).subset hx) with rfl|hx
        · exact ⟨hkb,hvb⟩
        · exact hB x hx
      · simp only [LB.sat] at hs
        obtain ⟨ents,clock,h1,h2⟩:=hs
        refine ⟨_,run_put_new hk h1 (fndN_now hk e hf h2) _,set_kp,?_⟩
        simp only [LB.sat]
        refine ⟨_,_,set_heap h1,?_⟩
        have h3:=((insN_perm k v es).map (fun x:LV × LV=>(x.1.val e,x.2.val e))).symm
        refine List.Perm.trans ?_ h3
        rw [List.map_cons]
        simp only [Array.toList_push,List.map_append,List.map_cons,List.map_nil]
        exact (List.perm_append_comm).trans (h2.cons _)
    · cases hq
  · cases hq
theorem insB_ok {t kt et:TypeId} {ud:TypeDesc} {k v:LV} {B B':LB} (hk:KeyOk P t kt et ud k) (hq:insB B k v=some B') (hB:B.bd n) (hkb:k.bd n) (hvb:v.bd n):B'.bd n∧∀(e:En) (w:World) (b:Nat),B.sat e w b→
    ∃w',(Instr.mapUpdate t (.map (some (e.ρ b))) (k.val e) (v.val e)).run P w= .ok () w'∧Kp w (fun c=>c=e.ρ b) w'∧B'.sat e w' b:=by
  unfold insB at hq
  split at hq
  · cases hq
    refine ⟨fun x hx=>?_,fun e w b hs=>?_⟩
    · rw [List.mem_singleton.1 hx];exact ⟨hkb,hvb⟩
    · simp only [LB.sat] at hs
      refine ⟨_,run_put_new hk hs rfl _,set_kp,?_⟩
      simp only [LB.sat]
      exact ⟨_,_,set_heap hs,by simp⟩
  · rename_i es
    split at hq
    · rename_i hf
      cases hq
      exact putB_ok (B:=.N es) hk (by simp only [putB,hf]) hB hkb hvb
    · cases hq
  · cases hq
theorem does_put {o:Oper} {t:TypeId} {m:Operand} {mb:Nat} {kv xv:LV} {B B':LB} (hX:CtxOk P X) (hB:HB n h) (hS:SB n sl) (hm:opd sl m=some (.M mb)) (hkk:keyK X t kv=true) (hg:h.get mb=some B)
    (hb:B'.bd n) (hr:∀(e:En) (w:World) (b:Nat),B.sat e w b→∃w',(Instr.mapUpdate t (.map (some (e.ρ b))) (kv.val e) (xv.val e)).run P w= .ok () w'∧Kp w (fun c=>c=e.ρ b) w'∧B'.sat e w' b)
    (hx:∀(a:Act) (e:En),SlT N e sl a→∀(w w':World),(Instr.mapUpdate t (.map (some (e.ρ mb))) (kv.val e) (xv.val e)).run P w= .ok () w'→(execOp a.eval o).run P w= .ok .skip w') :
    Does P N sl h n o ⟨none,h.set 21 mb (some B'),n,bitM mb,bitM mb⟩:=by
  have hlt:=(hB.get mb B hg).1
  have hd:=dd_set (f:=0) hB.top hg hlt (B':=B') fun _=>hb
  rw [zero_or] at hd
  refine ⟨hd,(fun u hu=>by cases hu),fun e w a hA hG=>?_⟩
  obtain ⟨w',h1,h2,h3⟩:=hr e w mb (hG.sat mb B ⟨hlt,(bt_bitM mb mb).2 rfl⟩ hg)
  have ht:=tk_set (f:=0) hB hg (by rw [zero_or];exact hG) h2 h3
  rw [zero_or] at ht
  exact ⟨e,w',.inl ⟨rfl,rfl⟩,ht,hx a e hA w w' h1⟩
theorem does_mapUpdate {t:TypeId} {m k x:Operand} {q:R1} (hX:CtxOk P X) (hB:HB n h) (hS:SB n sl) (hq:opX X sl h n (.mapUpdate t m k x)=some q):Does P N sl h n ⟨d,.mapUpdate t m k x,T,pos,af,g⟩ q:=by
  simp only [opX] at hq
  split at hq
  · rename_i b kv xv hm hk hx
    split at hq
    · rename_i B hg
      split at hq
      · rename_i B' hp
        obtain ⟨hkk,hq1⟩:=ck_some hq
        cases hq1
        obtain ⟨y',kt,et',ud,hy',hyk,hko⟩:=keyK_ok hX hkk
        obtain ⟨h1,h2⟩:=putB_ok hko hp (hB.get b B hg).2 (opd_bd hS hk) (opd_bd hS hx)
        refine does_put hX hB hS hm hkk hg h1 h2 fun a e hA w w' hr=>?_
        have e1:=hA.ev hm
        have e2:=hA.ev hk
        have e3:=hA.ev hx
        simp only [LV.val] at e1
        simp only [execOp,e1,e2,e3,Sem.run_bind,hr,Result.andThen_ok,Sem.run_pure]
      · cases hq
    · cases hq
  · cases hq
theorem does_insert {t:TypeId} {m k x:Operand} {q:R1} (hX:CtxOk P X) (hB:HB n h) (hS:SB n sl) (hq:opX X sl h n (.insert t m k x)=some q):Does P N sl h n ⟨d,.insert t m k x,T,pos,af,g⟩ q:=by
  simp only [opX] at hq
  split at hq
  · rename_i b kv xv hm hk hx
    split at hq
    · rename_i B hg
      split at hq
      · rename_i B' hp
        obtain ⟨hkk,hq1⟩:=ck_some hq
        cases hq1
        obtain ⟨y',kt,et',ud,hy',hyk,hko⟩:=keyK_ok hX hkk
        obtain ⟨h1,h2⟩:=insB_ok hko hp (hB.get b B hg).2 (opd_bd hS hk) (opd_bd hS hx)
        refine does_put hX hB hS hm hkk hg h1 h2 fun a e hA w w' hr=>?_
        have e1:=hA.ev hm
        have e2:=hA.ev hk
        have e3:=hA.ev hx
        simp only [LV.val] at e1
        simp only [execOp,e1,e2,e3,Sem.run_bind,hr,Result.andThen_ok,Sem.run_pure]
      · cases hq
    · cases hq
  · cases hq
end
section
variable {P:Program} {X:Ctx} {N:Nat} {sl:Tr LV} {h:Tr LB} {n:Nat} {d:Option Tmp} {T:TypeId} {pos:String} {af:Array Edge} {g:Option (Nat × Bool)}
theorem does_range {t:TypeId} {x:Operand} {q:R1} (hX:CtxOk P X) (hB:HB n h) (hS:SB n sl) (hq:opX X sl h n (.range t x)=some q):Does P N sl h n ⟨d,.range t x,T,pos,af,g⟩ q:=by
  simp only [opX] at hq
  split at hq
  · rename_i y s hy hx
    obtain ⟨hc,hq1⟩:=ck_some hq
    have hk:=(hX.ty t y hy).k
    rw [TK.str_of hc] at hk
    refine does_new hB hq1 trivial (by simp only [LV.bd];exact Nat.lt_succ_self n) fun e w a hA hG=>?_
    have h1:=hA.ev hx
    simp only [LV.val] at h1
    refine ⟨0,w.alloc (.stringIter ⟨s.toArray⟩ 0),.inl rfl,alloc_kp w _,?_,?_⟩
    · simp only [LB.sat]
      rw [En.add_ρ,heap_alloc_new]
    · simp only [execOp,h1,Instr.range,Sem.run_bind,run_underlying hk,Result.andThen_ok,Sem.run_pure,run_newObj,World.alloc_eq,LV.val,En.add_ρ]
  · rename_i y hy hx
    obtain ⟨hc,hq1⟩:=ck_some hq
    have hk:=(hX.ty t y hy).k
    obtain ⟨k1,k2,hm⟩:=TK.mp_of hc
    rw [hm] at hk
    refine does_new hB hq1 (fun b hb=>by cases hb) (by simp only [LV.bd];exact Nat.lt_succ_self n) fun e w a hA hG=>?_
    have h1:=hA.ev hx
    simp only [LV.val] at h1
    refine ⟨0,w.alloc (.mapIter none 0 #[] 0),.inl rfl,alloc_kp w _,?_,?_⟩
    · simp only [LB.sat]
      rw [En.add_ρ,heap_alloc_new]
      rfl
    · simp only [execOp,h1,Instr.range,Sem.run_bind,run_underlying hk,Result.andThen_ok,Sem.run_pure,run_newObj,World.alloc_eq,LV.val,En.add_ρ]
  · rename_i y m hy hx
    split at hq
    · rename_i es c hg
      obtain ⟨hc,hq1⟩:=ck_some hq
      have hk:=(hX.ty t y hy).k
      obtain ⟨k1,k2,hm⟩:=TK.mp_of hc
      rw [hm] at hk
      have hlt:=(hB.get m _ hg).1
      refine does_new hB hq1 (fun b hb=>by cases hb;exact hlt) (by simp only [LV.bd];exact Nat.lt_succ_self n) fun e w a hA hG=>?_
      have h1:=hA.ev hx
      simp only [LV.val] at h1
      have hs:=hG.sat m _ ⟨hlt,(bt_bitM m m).2 rfl⟩ hg
      simp only [LB.sat] at hs
      refine ⟨0,w.alloc (.mapIter (some (e.ρ m)) c #[] c),.inl rfl,alloc_kp w _,?_,?_⟩
      · simp only [LB.sat]
        rw [En.add_ρ,heap_alloc_new,Option.map_some,(En.add_ag e n _ _).ρ m hlt]
      · simp only [execOp,h1,Instr.range,Sem.run_bind,run_underlying hk,Result.andThen_ok,gObj hs,Sem.run_pure,run_newObj,World.alloc_eq,LV.val,En.add_ρ]
    · cases hq
  · cases hq
end
theorem born_c (seen:List Nat) (b:Nat):seen.toArray.contains b=seen.any fun x=>Nat.beq x b:=by
  rw [List.contains_toArray]
  induction seen with
  |nil=>rfl
  | cons x l ih=>
    rw [List.contains_cons,List.any_cons,ih,beq_dec]
    congr 1
    by_cases h:b=x
    · subst h;simp
    · have:¬x=b:=fun e=>h e.symm
      simp [h,this]
theorem cands_val (e:En) (es:List (LV × LV × Nat)) (since:Nat) (seen:List Nat) :
    (let left:=(es.map (ent e)).toArray.filter fun x=>!seen.toArray.contains x.born
     let old:=left.filter (·.born<since)
     let new:=left.filter (·.born≥since)
     (if old.isEmpty then #[none] else #[])++(old++new).map some)=((cands es since seen).map (Option.map (ent e))).toArray:=by
  simp only [cands,born_c,blt_eq]
  simp only [List.filter_toArray,List.filter_map,List.isEmpty_toArray,List.append_toArray,List.map_toArray]
  have e1:((fun x:MapEntry=>decide (x.born<since)) ∘ ent e)=fun x=>decide (x.2.2<since):=rfl
  have e2:((fun x:MapEntry=>!seen.any fun x_1=>x_1.beq x.born) ∘ ent e)=fun x=>!seen.any fun b=>b.beq x.2.2:=rfl
  have e3:((fun x:MapEntry=>decide (x.born≥since)) ∘ ent e)=fun x=>!decide (x.2.2<since):=by
    funext x
    show decide (x.2.2≥since)= !decide (x.2.2<since)
    by_cases h:x.2.2<since
    · have h2:¬x.2.2≥since:=by omega
      rw [decide_eq_true h,decide_eq_false h2];rfl
    · have h2:x.2.2≥since:=by omega
      rw [decide_eq_false h,decide_eq_true h2];rfl
  rw [e1,e2,e3]
  generalize List.filter (fun x=>decide (x.2.2<since)) (List.filter (fun x=>!seen.any fun b=>b.beq x.2.2) es)=O
  generalize List.filter (fun x=>!decide (x.2.2<since)) (List.filter (fun x=>!seen.any fun b=>b.beq x.2.2) es)=R
  cases O with
  |nil=>apply Array.ext';simp
  |cons a l=>apply Array.ext';simp;rfl
section
variable {P:Program} {X:Ctx} {N:Nat} {sl:Tr LV} {h:Tr LB} {n:Nat} {d:Option Tmp} {T:TypeId} {pos:String} {af:Array Edge} {g:Option (Nat × Bool)}
theorem does_next {x:Operand} {st:Bool} {q:R1} (hX:CtxOk P X) (hB:HB n h) (hS:SB n sl) (hq:opX X sl h n (.next x st)=some q):Does P N sl h n ⟨d,.next x st,T,pos,af,g⟩ q:=by
  simp only [opX] at hq
  split at hq
  · rename_i b hx
    have hlt:=opd_bd hS hx
    simp only [LV.bd] at hlt
    split at hq
    · rename_i s p hg
      split at hq
      · rename_i c hc
        obtain ⟨hck,hq1⟩:=ck_some hq
        cases hq1
        obtain ⟨hst,hc8⟩:=(Bool.and_eq_true _ _).mp hck
        subst hst
        rw [blt_eq] at hc8
        have hc8:=dTr hc8
        have hd:=dd_set (f:=0) hB.top hg hlt (B':=.S s (p+1)) fun _=>trivial
        rw [zero_or] at hd
        refine ⟨hd,(fun u hu=>by cases hu;simp only [LV.bd,LV.bds,and_self]),fun e w a hA hG=>?_⟩
        have hs:=hG.sat b _ ⟨hlt,(bt_bitM b b).2 rfl⟩ hg
        simp only [LB.sat] at hs
        have h1:=hA.ev hx
        simp only [LV.val] at h1
        obtain ⟨hp,hpc⟩:=List.getElem?_eq_some_iff.1 hc
        have hsz:p<(ByteArray.mk s.toArray).size:=hp
        have hgc:(ByteArray.mk s.toArray)[p]'hsz=c:=hpc
        have hdec:=decode_ascii (ByteArray.mk s.toArray) p hsz (by rw [hgc];exact hc8)
        rw [hgc] at hdec
        have ht:=tk_set (f:=0) (B':=.S s (p+1)) hB hg (by rw [zero_or];exact hG) (set_kp (o:=.stringIter ⟨s.toArray⟩ (p+1))) (by simp only [LB.sat];exact set_heap hs)
        rw [zero_or] at ht
        refine ⟨e,_,.inl ⟨rfl,rfl⟩,ht,?_⟩
        simp only [execOp,h1,Instr.next,Sem.run_bind,gObj hs,Result.andThen_ok,hsz,if_true,hdec,sObj hs,Sem.run_pure,LV.val,LV.vals]
        rfl
      · rename_i hc
        obtain ⟨hst,hq1⟩:=ck_some hq
        cases hq1
        subst hst
        refine does_look hB (by simp only [LV.bd,LV.bds,and_self]) fun e w a hA hG=>?_
        have hs:=hG.sat b _ ⟨hlt,(bt_bitM b b).2 rfl⟩ hg
        simp only [LB.sat] at hs
        have h1:=hA.ev hx
        simp only [LV.val] at h1
        have hsz:¬p<(ByteArray.mk s.toArray).size:=fun hp=>by
          have:=List.getElem?_eq_none_iff.1 hc
          have hp:p<s.length:=hp
          omega
        simp only [execOp,h1,Instr.next,Sem.run_bind,gObj hs,Result.andThen_ok,hsz,if_false,Sem.run_pure,LV.val,LV.vals]
    · rename_i s1 s2 s3 hg
      obtain ⟨hst,hq1⟩:=ck_some hq
      cases hq1
      obtain rfl:st=false:=by cases st<;>first|rfl|cases hst
      refine does_look hB (by simp only [LV.bd,LV.bds,and_self]) fun e w a hA hG=>?_
      have hs:=hG.sat b _ ⟨hlt,(bt_bitM b b).2 rfl⟩ hg
      simp only [LB.sat,Option.map_none] at hs
      have h1:=hA.ev hx
      simp only [LV.val] at h1
      simp only [execOp,h1,Instr.next,Sem.run_bind,gObj hs,Result.andThen_ok,Sem.run_pure,LV.val,LV.vals]
    · rename_i m since seen last hg
      split at hq
      · rename_i es c hgm
        have hltm:=(hB.get m _ hgm).1
        cases hcond:(st || (!seen.isEmpty && !es.isEmpty && es.all (fun x=>!Nat.blt x.2.2 last))) with
        |true=>rw [hcond,cond_true] at hq;cases hq
        | false =>
          rw [hcond,cond_false] at hq
          obtain ⟨hst,hall⟩:=Bool.or_eq_false_iff.mp hcond
          subst hst
          have hall2:∀e:En,(!seen.toArray.isEmpty && !((es.map (ent e)).toArray).isEmpty && ((es.map (ent e)).toArray).all (fun x=>decide (x.born≥last)))=false:=by
            intro e
            rw [←hall]
            have e1:(es.map (ent e)).toArray.all (fun x=>decide (x.born≥last))=es.all (fun x=>!Nat.blt x.2.2 last):=by
              rw [List.all_toArray,List.all_map]
              congr 1
              funext x
              rw [blt_eq]
              show decide (x.2.2≥last)= !decide (x.2.2<last)
              by_cases h:x.2.2<last
              · have h2:¬x.2.2≥last:=by omega
                rw [decide_eq_true h,decide_eq_false h2];rfl
              · have h2:x.2.2≥last:=by omega
                rw [decide_eq_false h,decide_eq_true h2];rfl
            rw [e1]
            simp
          have cv:=fun e=>cands_val e es since seen
          simp only at cv
          have go:∀(e:En) (w:World) (a:Act),SlT N e sl a→Gd e (fun i=>i<n∧bt (bitM m ||| bitM b) i) h w→∀r,cands es since seen=[r]→(execOp a.eval ⟨d,.next x false,T,pos,af,g⟩).run P w=(match r with
              |some y=>.ok (.value (.tuple #[.bool true,y.1.val e,y.2.1.val e])) {w with heap:=w.heap.setIfInBounds (e.ρ b) (.mapIter (some (e.ρ m)) since (seen++[y.2.2]).toArray c)}
              |none=>.ok (.value (.tuple #[.bool false])) w):=by
            intro e w a hA hG r hr
            have hs:=hG.sat b _ ⟨hlt,(bt_or _ _ _).2 (.inr ((bt_bitM b b).2 rfl))⟩ hg
            have hsm:=hG.sat m _ ⟨hltm,(bt_or _ _ _).2 (.inl ((bt_bitM m m).2 rfl))⟩ hgm
            simp only [LB.sat,Option.map_some] at hs hsm
            have h1:=hA.ev hx
            simp only [LV.val] at h1
            have cv1:=cv e
            rw [hr] at cv1
            simp only [execOp,h1,Instr.next,Sem.run_bind,gObj hs,gObj hsm,Result.andThen_ok,hall2 e,cv1]
            cases r with
            |none=>simp [Question.forced,run_choose_drew]
            |some y=>simp [Question.forced,run_choose_drew,sObj hs,ent]
          split at hq
          · rename_i k v i hcs
            cases hq
            have hmem:(k,v,i)∈es:=by
              have h1:some (k,v,i)∈cands es since seen:=by rw [hcs];exact .head _
              unfold cands at h1
              simp only [List.mem_append,List.mem_map,List.mem_filter,Option.some.injEq] at h1
              rcases h1 with h1| ⟨y,h1,rfl⟩
              · split at h1
                · cases List.mem_singleton.1 h1
                · cases h1
              · rcases h1 with h1|h1<;>exact h1.1.1
            have hkv:=(hB.get m _ hgm).2 _ hmem
            refine ⟨dd_set (f:=bitM m) hB.top hg hlt (B':=.R (some m) since (seen++[i]) c) fun _=>(fun b' hb'=>by cases hb';exact hltm),(fun u hu=>by cases hu;simp only [LV.bd,LV.bds,true_and,and_true];exact hkv),fun e w a hA hG=>?_⟩
            have hs:=hG.sat b _ ⟨hlt,(bt_or _ _ _).2 (.inr ((bt_bitM b b).2 rfl))⟩ hg
            simp only [LB.sat,Option.map_some] at hs
            have ht:=tk_set (f:=bitM m) (B':=.R (some m) since (seen++[i]) c) hB hg hG (set_kp (o:=.mapIter (some (e.ρ m)) since (seen++[i]).toArray c)) (by simp only [LB.sat,Option.map_some];exact set_heap hs)
            refine ⟨e,_,.inl ⟨rfl,rfl⟩,ht,?_⟩
            rw [go e w a hA hG _ hcs]
            simp only [LV.val,LV.vals]
          · rename_i hcs
            cases hq
            refine does_look hB (by simp only [LV.bd,LV.bds,and_self]) fun e w a hA hG=>?_
            rw [go e w a hA hG _ hcs]
            simp only [LV.val,LV.vals]
          · cases hq
      · cases hq
    · cases hq
  · cases hq
end
end Go.Xc
