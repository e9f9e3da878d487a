/-
  An executor for runs on known data: code, calls, all of it. Conditions: none.
  An executor for runs on known data: it is right: what it tells of a call, the call does. Conditions: none.
  An executor for runs on known data: what it takes out of the program's own tables. Conditions: none.
  The law's own check comes to true: by the executor. Conditions: none.
  SsaMakes: the law. Conditions: none.
  The door's own heap meets the condition on what is laid. Conditions: none.
-/
import Derived.Test.YtenlcdokaadobaaGreatDoorRowMakesMg12
import Derived.ChangeKeysEq
import Derived.Laws.StructEq
import Derived.Test.YtenlcdokaadobaaGreatDoorProg
import Derived.Test.YtenlcdokaadobaaGreatDoorRowMakesMg2
import Derived.Test.YtenlcdokaadobaaGreatDoorRowMakesMg10
import Derived.Test.YtenlcdokaadobaaGreatDoorRows
import Derived.Test.YtenlcdokaadobaaGreatDoorRowMakesMg9
import Derived.Lib.LaidTab
set_option maxHeartbeats 64000000
set_option maxRecDepth 10000
namespace Go.Xc
open Go Go.RowKit Go.Fw
set_option linter.unusedVariables false
section
variable {P:Program} {X:Ctx} {K N:Nat} {sl sl':Tr LV} {h:Tr LB} {n:Nat} {ih:Task→Tr LB→Nat→Option Rs} {a a':Act} {w w':World}
theorem gdF_drew {e:En} {f:Nat} (hg:GdF e n f h w):GdF e n f h {w with drawn:=w.drawn+1}:=⟨fun i B hi hb=>sat_same rfl (hg.sat i B hi hb),hg.inj⟩
theorem U.drew {h':Tr LB} {n' f m:Nat} (hu:U N h n f m h' n' sl sl' a {w with drawn:=w.drawn+1} a' w'):U N h n f m h' n' sl sl' a w a' w':=by
  obtain ⟨δ,hu⟩:=hu
  refine ⟨δ,fun e hA hg=>?_⟩
  obtain ⟨t,hA'⟩:=hu e hA (gdF_drew hg)
  exact ⟨⟨t.ag,t.gd,⟨t.kp.os,t.kp.tape,t.kp.output,t.kp.size,t.kp.block⟩,t.nw⟩,hA'⟩
theorem slots0_get:∀(vs:List LV) (k:Nat) (t:Tr LV) (i:Nat) (v:LV),k+vs.length≤4096→(slots0 k vs t).get i=some v→(k≤i∧vs[i - k]?=some v)∨t.get i=some v
  | [],k,t,i,v,hl,h=>.inr h
  | x ::vs,k,t,i,v,hl,h=>by
    rw [List.length_cons] at hl
    rw [slots0] at h
    rcases slots0_get vs (k+1) _ i v (by omega) h with ⟨h1,h2⟩|h1
    · refine .inl ⟨by omega,?_⟩
      rw [show i - k=(i - (k+1))+1 by omega,List.getElem?_cons_succ]
      exact h2
    · rw [Tr.get_put t i _ (by unfold top;omega)] at h1
      by_cases hik:i=k
      · rw [if_pos hik] at h1
        cases h1
        refine .inl ⟨by omega,?_⟩
        rw [show i - k=0 by omega]
        rfl
      · rw [if_neg hik] at h1;exact .inr h1
def resF (tm:Array Value):ResultVar→Sem Value
  | .tmp t=>pure (tm.getD t undef)
  | .cell c t=>do loadVar t (←asAddr (tm.getD c undef))
theorem results_eq (fn:Func) (tm:Array Value):results fn tm=(do let vs ←fn.results.mapM (resF tm);pure (if h:vs.size=1 then vs[0] else .tuple vs)):=rfl
theorem resF_tmp (tm:Array Value) (t:Tmp):resF tm (.tmp t)=pure (tm.getD t undef):=rfl
theorem resF_cell (tm:Array Value) (c:Tmp) (t:TypeId):resF tm (.cell c t)=(do loadVar t (←asAddr (tm.getD c undef))):=rfl
theorem resV_one (hX:CtxOk P X) (hS:SW N n sl) (hB:HB n h):∀{l:List ResultVar} {vs:List LV} {f:Nat},resV X sl h l=some (vs,f)→LV.bds n vs∧∀e a w,SlT N e sl a→GdF e n f h w→
    (l.mapM (resF a.tmps)).run P w= .ok (LV.vals e vs) w
  | [],vs,f,hq=>by
    cases hq
    exact ⟨trivial,fun e a w _ _=>rfl⟩
  | .tmp t::l,vs,f,hq=>by
    simp only [resV] at hq
    split at hq
    · rename_i v vs' f' h1 h2
      cases hq
      obtain ⟨hb,hr⟩:=resV_one hX hS hB h2
      refine ⟨⟨hS.bd t v h1,hb⟩,fun e a w hA hg=>?_⟩
      have hg1:a.tmps.getD t undef=v.val e:=by simp [Array.getD_eq_getD_getElem?,hA.get t v h1]
      simp only [List.mapM_cons,Sem.run_bind,resF_tmp,Sem.run_pure,Result.andThen_ok,hr e a w hA hg,hg1,LV.vals]
    · cases hq
  | .cell c t::l,vs,f,hq=>by
    simp only [resV] at hq
    split at hq
    · rename_i b o y vs' f' h1 hy h2
      split at hq
      · rename_i cs hrd
        split at hq
        · rename_i v hm
          cases hq
          obtain ⟨hb,hr⟩:=resV_one hX hS hB h2
          have hrb:=rdC_bd hB hrd
          refine ⟨⟨mkV_bd hrb.1 hm,hb⟩,fun e a w hA hg=>?_⟩
          have hg1:a.tmps.getD c undef= .pointer (some ⟨e.ρ b,o,none⟩):=by simp [Array.getD_eq_getD_getElem?,hA.get c _ h1,LV.val]
          have hld:=run_load (hX.ty t y hy) (show Gd e _ h w from hg) ⟨hrb.2,(bt_or _ _ _).2 (.inr ((bt_bitM b b).2 rfl))⟩ hrd hm
          have hr2:=hr e a w hA (gdF_left hg)
          simp only [List.mapM_cons,Sem.run_bind,resF_cell,hg1,asAddr,Sem.run_pure,Result.andThen_ok,hld,hr2,LV.vals]
        · cases hq
      · cases hq
    · cases hq
def resL:List LV→LV
  | [v]=>v
  | []=>.T []
  |v::u::r=>.T (v::u::r)
theorem run_results (hX:CtxOk P X) (hS:SW N n sl) (hB:HB n h) {fn:Func} {vs:List LV} {f:Nat} (hq:resV X sl h fn.results.toList=some (vs,f)) {e:En} (hA:SlT N e sl a) (hg:GdF e n f h w) :
    (results fn a.tmps).run P w= .ok ((resL vs).val e) w:=by
  have h1:=(resV_one hX hS hB hq).2 e a w hA hg
  rw [results_eq,Array.mapM_eq_mapM_toList,←bind_pure_comp]
  simp only [Sem.run_bind,h1,Result.andThen_ok,Sem.run_pure]
  match vs with
  | []=>rfl
  | [v]=>rfl
  | v::u::r=>
    have:¬(LV.vals e (v::u::r)).toArray.size=1:=by simp [LV.vals]
    rw [dif_neg this]
    simp only [resL,LV.val]
theorem frameA (args:List Value) (N:Nat) (hl:args.length≤N) (i:Nat) (v:Value) (h:args[i]?=some v):(args.toArray++Array.replicate (N - args.toArray.size) undef)[i]?=some v:=by
  have hlt:i<args.length:=(List.getElem?_eq_some_iff.1 h).1
  rw [Array.getElem?_append_left (by simpa using hlt)]
  simpa using h
theorem slots0_ok {args:List LV} (hl:args.length≤N) (hN:N≤4096) (e:En):SlT N e (slots0 0 args .e) ⟨(LV.vals e args).toArray++Array.replicate (N - (LV.vals e args).toArray.size) undef,[]⟩:=by
  refine ⟨by simp [vals_length];omega,fun i v hi=>?_⟩
  rcases slots0_get args 0 .e i v (by omega) hi with ⟨_,h1⟩|h1
  · refine frameA _ N (by rw [vals_length];exact hl) i _ ?_
    rw [vals_get]
    rw [Nat.sub_zero] at h1
    rw [h1];rfl
  · cases h1
theorem slots0_sw {args:List LV} (hl:args.length≤N) (hN:N≤4096) (hb:LV.bds n args):SW N n (slots0 0 args .e):=by
  have key:∀i v,(slots0 0 args .e).get i=some v→args[i]?=some v:=fun i v hi=>by
    rcases slots0_get args 0 .e i v (by omega) hi with ⟨_,h1⟩|h1
    · exact h1
    · cases h1
  exact ⟨fun i v hi=>bds_iff.1 hb v (List.mem_of_getElem? (key i v hi)),fun i v hi=>by have:=(List.getElem?_eq_some_iff.1 (key i v hi)).1;omega⟩
theorem dd_look {h1:Tr LB} {n1 f f2 m:Nat} (d:Dd h n f m h1 n1):Dd h n (f ||| f2) m h1 n1:=⟨d.nn,d.hb,d.sm,d.dom,fun i hi hm=>(bt_or _ _ _).2 (.inl (d.sub i hi hm))⟩
theorem tk_look {h1:Tr LB} {n1 f f2 m:Nat} {e e':En} (hB:HB n h) (d:Dd h n f m h1 n1) (hg:GdF e n (f ||| f2) h w) (t:Tk h n f m h1 n1 e w e' w'):Tk h n (f ||| f2) m h1 n1 e w e' w'∧GdF e' n1 f2 h1 w':=by
  have h1:=(t.trans hB d (Dd.look h1 n1 f2) hg)
  have h2:=h1.2 e' w' (Tk.look (d.hb hB) h1.1)
  rw [Nat.or_zero] at h2
  exact ⟨h2,h1.1⟩
theorem step_call (hX:CtxOkC P X) (hs:Sound P X K ih) {k:Nat} {args:List LV} {r:Rs} (hq:step X ih (.call k args) h n=some r) (hB:HB n h) (hb:LV.bds n args):CallU P k args h n r:=by
  unfold step at hq
  simp only at hq
  split at hq
  · rename_i fn hfn
    split at hq
    · rename_i c hc
      obtain ⟨hck,hq1⟩:=ck_some hq
      clear hq
      obtain ⟨hc1,hc2⟩:=(Bool.and_eq_true _ _).mp hck
      have hc1:=Nat.le_of_ble_eq_true hc1
      have hc2:=Nat.le_of_ble_eq_true hc2
      obtain ⟨hf1,hf2⟩:=hX.fn k fn hfn
      split at hq1
      · rename_i r0 hr0
        have hU:CodeU P K fn.ntmps (slots0 0 args .e) c h n r0:=hs _ h n r0 hr0 hB hc2 (hX.txt k fn c hfn hc) (slots0_sw hc1 hc2 hb)
        cases hx:r0.e.isX with
        |true=>rw [hx,cond_true] at hq1;cases hq1
        | false=>
          rw [hx,cond_false] at hq1
          have hend:r0.e.ex= .normal∨r0.e.ex= .ret:=by cases he:r0.e<;>rw [he] at hx<;>simp [XE.isX] at hx<;>simp [XE.ex]
          have main:∀(vs:List LV) (f:Nat) (v:LV),resV X r0.sl r0.h fn.results.toList=some (vs,f)→resL vs=v→(LV.bds r0.n vs→v.bd r0.n)→CallU P k args h n ⟨.r,.e,v,r0.h,r0.n,r0.fp ||| f,r0.wm⟩:=by
            intro vs f v hrv hve hvb
            have hB1:=hU.dd.hb hB
            refine ⟨⟨fn,hf1,by rw [hc];rfl,hf2⟩,dd_look hU.dd,hvb (resV_one (P:=P) hX.toCtxOk hU.sw hB1 hrv).1,fun w vs' ⟨e0,hv0,hg0⟩=>?_⟩
            subst hv0
            refine calls_of_wp hf1 hc (WpK.wp (K:=K) ?_)
            refine hU.run _ w rfl ⟨e0,slots0_ok hc1 hc2 e0,gdF_left hg0⟩ _ fun a' w' hd ⟨δ,hu⟩=>?_
            have all:∀e,(LV.vals e0 args).toArray=(LV.vals e args).toArray→GdF e n (r0.fp ||| f) h w→Tk h n (r0.fp ||| f) r0.wm r0.h r0.n e w (e.ext n δ) w'∧(results fn a'.tmps).run P w'= .ok (v.val (e.ext n δ)) w':=by
              intro e he hg
              rw [he] at hu
              obtain ⟨t,hA'⟩:=hu e (slots0_ok hc1 hc2 e) (gdF_left hg)
              obtain ⟨t2,hg2⟩:=tk_look hB hU.dd hg t
              refine ⟨t2,?_⟩
              rw [run_results hX.toCtxOk hU.sw hB1 hrv hA' hg2,hve]
            have h0:=(all e0 rfl hg0).2
            have fin:bodyPost P fn (fun e w''=>∃u,e= .returned u∧∃δ:En,∀e,(LV.vals e0 args).toArray=(LV.vals e args).toArray→GdF e n (r0.fp ||| f) h w→Tk h n (r0.fp ||| f) r0.wm r0.h r0.n e w (e.ext n δ) w''∧u=v.val (e.ext n δ)) .ret a' w':=by
              refine bodyPost_ret h0 hd ⟨_,rfl,δ,fun e he hg=>⟨(all e he hg).1,?_⟩⟩
              have:=(all e he hg).2
              rw [h0] at this
              exact (Result.ok.inj this).1
            rcases hend with he|he
            · rw [he];exact fin
            · rw [he];exact fin
          split at hq1
          · rename_i v f hrv
            cases hq1
            exact main [v] f v hrv rfl fun hb=>hb.1
          · rename_i vs f hn hrv
            cases hq1
            refine main vs f (.T vs) hrv ?_ fun hb=>hb
            match vs,hn with
            | [],_=>rfl
            | [v],hn=>exact absurd rfl (hn v)
            |v::u::r,_=>rfl
          · cases hq1
      · cases hq1
    · cases hq
  · cases hq
end
section
variable {P:Program} {X:Ctx} {K N:Nat} {sl sl':Tr LV} {h:Tr LB} {n:Nat} {ih:Task→Tr LB→Nat→Option Rs}
theorem CodeU.wp {c:Code} {r:Rs} (hc:CodeU P K N sl c h n r) {a:Act} {w:World} (hd:a.defers=[]) (hG:∃e,SlT N e sl a∧GdF e n r.fp h w) {Q:Exit→Act→World→Prop} (k:∀a' w',a'.defers=[]→U N h n r.fp r.wm r.h r.n sl r.sl a w a' w'→Q r.e.ex a' w'):c.wp P Q a w:=(hc.run a w hd hG Q k).wp
theorem ex_then {K':Act→World→Prop} {Q:Exit→Act→World→Prop} {e:XE} {a:Act} {w:World} (he:e.ex≠.normal) (h:Q e.ex a w):Exit.then K' Q e.ex a w:=by
  cases e with
  |n=>exact absurd rfl he
  |x i=>exact h
  |r=>exact h
theorem ex_ng {Q:Exit→Act→World→Prop} {e:XE} {a:Act} {w:World} (h:Q e.ex a w):Exit.noGoto Q e.ex a w:=by cases e<;>exact h
theorem good_left {f g:Nat} {a:Act} {w:World} (hG:∃e,SlT N e sl a∧GdF e n (f ||| g) h w):∃e,SlT N e sl a∧GdF e n f h w:=hG.imp fun e he=>⟨he.1,gdF_left he.2⟩
theorem step_code (hX:CtxOkC P X) (hs:Sound P X K ih) {c:Code} {r:Rs} (hN:N≤4096) (hc:codeOk c=true) (hS:SW N n sl) (hB:HB n h) (hq:step X ih (.code N sl c) h n=some r):CodeU P (K+1) N sl c h n r:=by
  have sd:∀{sl c h n r},ih (.code N sl c) h n=some r→HB n h→codeOk c=true→SW N n sl→CodeU P K N sl c h n r:=fun h1 h2 h3 h4=>hs _ _ _ _ h1 h2 hN h3 h4
  have hop:∀sl h n (o:Oper) q,opA X ih sl h n o.op=some q→HB n h→SW N n sl→OpU P N sl h n o q:=fun sl h n o q h1 h2 h3=>opA_ok hX hs h1 h2 h3
  cases c with
  | skip=>
    simp only [step] at hq
    cases hq
    exact ⟨Dd.refl h n,hS,fun a w hd hG Q k=>wp_skip (k a w hd (U.refl hB hS))⟩
  | label l=>
    simp only [step] at hq
    cases hq
    exact ⟨Dd.refl h n,hS,fun a w hd hG Q k=>wp_label (k a w hd (U.refl hB hS))⟩
  | exit i=>
    simp only [step] at hq
    cases hq
    exact ⟨Dd.refl h n,hS,fun a w hd hG Q k=>wp_exit (k a w hd (U.refl hB hS))⟩
  | ret=>
    simp only [step] at hq
    cases hq
    exact ⟨Dd.refl h n,hS,fun a w hd hG Q k=>wp_ret (k a w hd (U.refl hB hS))⟩
  | region id ops d=>
    simp only [step] at hq
    cases d with
    | false=>
      rw [cond_false] at hq
      obtain ⟨f,m,h1,h2,h3,hd,hS2,hrun⟩:=runL_ok hN hop ops.toList sl h n 0 0 r hq hB hS
      rw [Nat.zero_or] at h1 h2
      rw [←h1,←h2] at hd
      refine ⟨hd,hS2,fun a w hdf hG Q k=>?_⟩
      refine wp_region_list (hrun a w (by rw [←h1];exact hG) Q fun a' w' hd' hu=>?_)
      have:=k a' w' (hd'.trans hdf) (by rw [h1,h2];exact hu)
      rw [h3] at this
      exact this
    | true=>
      rw [cond_true] at hq
      simp only [codeOk,Bool.not_true,Bool.false_or] at hc
      obtain ⟨h3,hd,hS2,hrun⟩:=runD_ok hX.toCtxOk hN hc hop hq hB hS
      refine ⟨hd,hS2,fun a w hdf hG Q k=>?_⟩
      refine wp_region_any hX.mixed (hrun a _ (hG.imp fun e he=>⟨he.1,gdF_drew he.2⟩) Q fun a' w' hd' hu=>?_)
      have:=k a' w' (hd'.trans hdf) hu.drew
      rw [h3] at this
      exact this
  | seq x y=>
    simp only [codeOk] at hc
    obtain ⟨hc1,hc2⟩:=(Bool.and_eq_true _ _).mp hc
    simp only [step] at hq
    split at hq
    · rename_i s1 v1 h1 n1 f1 w1 hi
      have h1:=sd hi hB hc1 hS
      have hB1:=h1.dd.hb hB
      split at hq
      · rename_i r2 hi2
        cases hq
        have h2:=sd hi2 hB1 hc2 h1.sw
        refine ⟨h1.dd.trans h2.dd,h2.sw,fun a w hd hG Q k=>?_⟩
        refine wp_seq (h1.wp hd (good_left hG) fun a' w' hd' hu=>?_)
        exact h2.wp hd' (U.good hB h1.dd h2.dd hu hG) fun a'' w'' hd'' hu2=>k a'' w'' hd'' (U.trans hB h1.dd h2.dd hu hu2)
      · cases hq
    · rename_i hno
      have h1:=sd hq hB hc1 hS
      refine ⟨h1.dd,h1.sw,fun a w hd hG Q k=>?_⟩
      refine wp_seq (h1.wp hd hG fun a' w' hd' hu=>ex_then (fun he=>?_) (k a' w' hd' hu))
      obtain ⟨re,rsl,rv,rh,rn,rf,rw_⟩:=r
      cases re with
      |n=>exact hno _ _ _ _ _ _ hq
      |x i=>cases he
      |r=>cases he
  | cond co x y=>
    simp only [codeOk] at hc
    obtain ⟨hc1,hc2⟩:=(Bool.and_eq_true _ _).mp hc
    simp only [step] at hq
    split at hq
    · rename_i t ht
      have h1:=sd hq hB (by cases t<;>assumption) hS
      refine ⟨h1.dd,h1.sw,fun a w hd hG Q k=>?_⟩
      have hev:a.eval co= .bool t:=by
        obtain ⟨e,hA,_⟩:=hG
        have:=hA.ev ht
        simpa only [LV.val] using this
      refine wp_cond hev ?_
      have h2:=h1.wp hd hG k
      cases t<;>exact h2
    · cases hq
  | block id b=>
    simp only [codeOk] at hc
    simp only [step] at hq
    split at hq
    · rename_i i s1 v1 h1 n1 f1 w1 hi
      have h1:=sd hi hB hc hS
      cases hq
      refine ⟨h1.dd,h1.sw,fun a w hd hG Q k=>?_⟩
      refine wp_block (h1.wp hd hG fun a' w' hd' hu=>?_)
      have hk:=k a' w' hd' hu
      cases hb:Nat.beq i id with
      | true=>
        rw [hb,cond_true] at hk
        obtain rfl:=Nat.eq_of_beq_eq_true hb
        exact inB_eq hk
      | false=>
        rw [hb,cond_false] at hk
        exact inB_ne hb hk
    · rename_i hno
      have h1:=sd hq hB hc hS
      refine ⟨h1.dd,h1.sw,fun a w hd hG Q k=>?_⟩
      refine wp_block (h1.wp hd hG fun a' w' hd' hu=>?_)
      have hk:=k a' w' hd' hu
      obtain ⟨re,rsl,rv,rh,rn,rf,rw_⟩:=r
      cases re with
      |n=>exact hk
      |x i=>exact absurd hq (hno _ _ _ _ _ _ _)
      |r=>exact hk
  | loop b=>
    simp only [step] at hq
    split at hq
    · rename_i s1 v1 h1 n1 f1 w1 hi
      have h1:=sd hi hB hc hS
      have hB1:=h1.dd.hb hB
      split at hq
      · rename_i r2 hi2
        cases hq
        have h2:=sd hi2 hB1 hc h1.sw
        refine ⟨h1.dd.trans h2.dd,h2.sw,fun a w hd hG Q k=>?_⟩
        show b.wp P (Exit.then (Code.rounds P b Q K) Q) a w
        refine h1.wp hd (good_left hG) fun a' w' hd' hu=>?_
        exact h2.run a' w' hd' (U.good hB h1.dd h2.dd hu hG) Q fun a'' w'' hd'' hu2=>k a'' w'' hd'' (U.trans hB h1.dd h2.dd hu hu2)
      · cases hq
    · rename_i hno
      have h1:=sd hq hB hc hS
      refine ⟨h1.dd,h1.sw,fun a w hd hG Q k=>?_⟩
      show b.wp P (Exit.then (Code.rounds P b Q K) Q) a w
      refine h1.wp hd hG fun a' w' hd' hu=>ex_then (fun he=>?_) (k a' w' hd' hu)
      obtain ⟨re,rsl,rv,rh,rn,rf,rw_⟩:=r
      cases re with
      |n=>exact hno _ _ _ _ _ _ hq
      |x i=>cases he
      |r=>cases he
  | scope b=>
    simp only [codeOk] at hc
    simp only [step] at hq
    have h1:=sd hq hB hc hS
    exact ⟨h1.dd,h1.sw,fun a w hd hG Q k=>wp_scope_straight (h1.wp hd hG fun a' w' hd' hu=>ex_ng (k a' w' hd' hu))⟩
  |rangeFunc f p s b=>simp only [step] at hq;cases hq
  |goto l=>simp only [step] at hq;cases hq
  |refuse y=>simp only [step] at hq;cases hq
theorem go_ok (hX:CtxOkC P X):∀K,Sound P X K (go X K)
  |0=>fun t h n r hq=>by cases hq
  | K+1=>fun t h n r hq hB=>by
    cases t with
    |code N sl c=>exact fun hN hc hS=>step_code hX (go_ok hX K) hN hc hS hB hq
    |call k args=>exact fun hb=>step_call hX (go_ok hX K) hq hB hb
theorem run_ok (hX:CtxOkC P X) {K k:Nat} {v:LV} {h':Tr LB} {n' f m:Nat} {x:XE} {s:Tr LV} (hq:go X K (.call k []) .e 0=some ⟨x,s,v,h',n',f,m⟩) (w:World):Ret P k #[] w fun u w'=>(∃e,u=v.val e)∧Kp w noM w':=by
  have hB:HB 0 .e:=⟨by unfold top;omega,fun i B h=>by cases h⟩
  have hc:CallU P k [] .e 0 _:=go_ok hX K _ _ _ _ hq hB trivial
  have hg:∀e,GdF e 0 f .e w:=fun e=>⟨fun i B hi=>absurd hi.1 (Nat.not_lt_zero i),fun i j B C hi=>absurd hi.1 (Nat.not_lt_zero i)⟩
  refine Ret.mono (hc.run w #[] ⟨⟨id,id⟩,rfl,hg _⟩) fun u w' ⟨δ,hu⟩=>?_
  obtain ⟨t,hv⟩:=hu ⟨id,id⟩ rfl (hg _)
  exact ⟨⟨_,hv⟩,⟨t.kp.os,t.kp.tape,t.kp.output,t.kp.size,fun b hb _=>t.kp.block b hb fun ⟨i,hi,_⟩=>Nat.not_lt_zero i hi⟩⟩
end
def lvL:List Value→Option (List LV)
  | []=>some []
  | c::cs=>match lvC c,lvL cs with
    |some v,some vs=>some (v::vs)
    |_,_=>none
def lvs:Value→Option (Bool × List LV)
  | .agg cs=>match lvL cs.toList with
    |some l=>some (true,l)
    |none=>none
  | v=>match lvC v with
    |some x=>some (false,[x])
    |none=>none
def aggD:TypeDesc→Bool
  | .struct _=>true
  | .array _ _=>true
  |_=>false
def sized (P:Program):List (Nat × Nat)→Bool
  | []=>true
  | p::r=>(match P.info? p.1 with
    |some i=>!Nat.beq i.size 0
    |none=>false) && sized P r
def kindD (P:Program) (t:Nat):TypeDesc→TK
  | .int k=>.int k
  | .slice e=>.sl e
  | .struct s=>bif sized P (s.toList.map fun f=>(f.type,f.offset)) then .st (s.toList.map fun f=>(f.type,f.offset)) else .oth
  | .map k e=>.mp k e
  | .array k e=>.ar k e
  | .string=>.str
  | .bool=>.bo
  | .pointer e=>bif Nat.beq e (P.pointee t) then .pt else .oth
  | .interface _=>.ifc
  |_=>.oth
def tyP (P:Program) (t:Nat):Option Ty:=match P.info? t,P.underlying t with
  | some i,some d=>match i.zero with
    | some z=>match lvs z with
      |some p=>ck (Nat.beq i.size p.2.length && (p.1 == aggD d)) (some ⟨p.1,p.2,i.bytes,kindD P t d⟩)
      |none=>none
    |none=>none
  |_,_=>none
theorem lvC_noA {c:Value} {v:LV} (h:lvC c=some v) (l:List LV):v≠.A l:=by
  unfold lvC at h
  split at h<;>first|(cases h;intro c;cases c)|cases h
theorem lvL_ok:∀{cs:List Value} {l:List LV},lvL cs=some l→(∀e,LV.vals e l=cs)∧LV.bds 0 l
  | [],l,h=>by cases h;exact ⟨fun e=>rfl,trivial⟩
  | c ::cs,l,h=>by
    simp only [lvL] at h
    split at h
    · rename_i v vs h1 h2
      cases h
      obtain ⟨g1,g2⟩:=lvL_ok h2
      exact ⟨fun e=>by rw [LV.vals,g1 e,(lvC_val (n:=0) e h1).1],⟨(lvC_val (n:=0) ⟨id,id⟩ h1).2,g2⟩⟩
    · cases h
theorem sized_ok {P:Program}:∀{l:List (Nat × Nat)},sized P l=true→∀p∈l,∃i,P.info? p.1=some i∧i.size≠0
  | [],_,p,hp=>by cases hp
  | q ::r,h,p,hp=>by
    simp only [sized] at h
    obtain ⟨h1,h2⟩:=(Bool.and_eq_true _ _).mp h
    rcases List.mem_cons.1 hp with rfl|hp
    · cases hi:P.info? p.1 with
      |none=>rw [hi] at h1;cases h1
      | some i=>
        rw [hi] at h1
        refine ⟨i,rfl,fun c=>?_⟩
        simp only [c] at h1
        cases h1
    · exact sized_ok h2 p hp
theorem lvs_ok {z:Value} {p:Bool × List LV} (h:lvs z=some p) (by_:Nat) (k:TK):(∀e,(Ty.mk p.1 p.2 by_ k).zero.val e=z)∧LV.bds 0 p.2∧(p.1=false→∃v,p.2=[v]∧∀l,v≠.A l):=by
  unfold lvs at h
  split at h
  · split at h
    · rename_i l hl
      cases h
      obtain ⟨g1,g2⟩:=lvL_ok hl
      refine ⟨fun e=>?_,g2,fun c=>by cases c⟩
      simp only [Ty.zero,LV.val]
      rw [g1 e]
    · cases h
  · split at h
    · rename_i v hv
      cases h
      refine ⟨fun e=>?_,⟨(lvC_val (n:=0) ⟨id,id⟩ hv).2,trivial⟩,fun _=>⟨v,rfl,lvC_noA hv⟩⟩
      simp only [Ty.zero]
      exact (lvC_val (n:=0) e hv).1
    · cases h
theorem tyP_ok {P:Program} {t:Nat} {y:Ty} (h:tyP P t=some y):TyOk P t y:=by
  unfold tyP at h
  split at h
  · rename_i i d hi hd
    split at h
    · rename_i z hz
      split at h
      · rename_i p hp
        obtain ⟨hc,hy⟩:=ck_some h
        obtain ⟨hc1,hc2⟩:=(Bool.and_eq_true _ _).mp hc
        cases hy
        obtain ⟨g1,g2,g3⟩:=lvs_ok hp i.bytes (kindD P t d)
        refine ⟨⟨i,hi,fun e=>by rw [hz,g1 e],Nat.eq_of_beq_eq_true hc1,rfl⟩,g2,g3,⟨d,hd,?_⟩,?_⟩
        · have:=eq_of_beq hc2
          simp only
          rw [this]
          cases d<;>rfl
        · cases d with
          | struct s=>
            simp only [kindD]
            cases hs:sized P (s.toList.map fun f=>(f.type,f.offset)) with
            |true=>rw [cond_true];exact ⟨⟨s,hd,rfl⟩,sized_ok hs⟩
            |false=>rw [cond_false];trivial
          | pointer e=>
            simp only [kindD]
            cases hs:Nat.beq e (P.pointee t) with
            |true=>rw [cond_true];rw [Nat.eq_of_beq_eq_true hs] at hd;exact hd
            |false=>rw [cond_false];trivial
          |_=>first|exact hd|trivial|exact ⟨_,hd⟩
      · cases h
    · cases h
  · cases h
def fnOk (f:Func):Bool:=!(f.name == "runtime.NumGoroutine") && match f.body with
  |some c=>codeOk c
  |none=>true
def inL (k:Nat):List Nat→Bool
  | []=>false
  |b::r=>Nat.beq k b || inL k r
def fnP (P:Program) (bad:List Nat) (k:Nat):Option Func:=bif inL k bad then none else P.funcs[k]?
def fnsOk (bad:List Nat):List Func→Nat→Bool
  | [],_=>true
  |f::r,k=>(inL k bad || fnOk f) && fnsOk bad r (k+1)
theorem fnsOk_get {bad:List Nat}:∀{l:List Func} {k:Nat},fnsOk bad l k=true→∀i f,l[i]?=some f→inL (k+i) bad=false→fnOk f=true
  | [],k,h,i,f,hi,hb=>by cases hi
  | g::l,k,h,0,f,hi,hb=>by
    simp only [fnsOk] at h
    obtain ⟨h1,h2⟩:=(Bool.and_eq_true _ _).mp h
    cases hi
    rw [Nat.add_zero] at hb
    rw [hb,Bool.false_or] at h1
    exact h1
  | g::l,k,h,i+1,f,hi,hb=>by
    simp only [fnsOk] at h
    obtain ⟨h1,h2⟩:=(Bool.and_eq_true _ _).mp h
    exact fnsOk_get h2 i f (by simpa using hi) (by rw [show k+1+i=k+(i+1) by omega];exact hb)
theorem fnP_ok {P:Program} {bad:List Nat} (h:fnsOk bad P.funcs.toList 0=true) {k:Nat} {f:Func} (hf:fnP P bad k=some f):P.funcs[k]?=some f∧fnOk f=true:=by
  unfold fnP at hf
  cases hb:inL k bad with
  |true=>rw [hb,cond_true] at hf;cases hf
  | false=>
    rw [hb,cond_false] at hf
    exact ⟨hf,fnsOk_get h k f (by rw [Array.getElem?_toList];exact hf) (by rw [Nat.zero_add];exact hb)⟩
theorem run_eqF3 {P:Program} {w:World} {d:Nat} {fs:List Field} {t1 t2 t3:TypeId} {k1 k2:Int} {a1 b1 a2 b2:ByteArray} (h:fs.map (fun f=>(f.name != "_",f.type,f.offset))=[(true,t1,0),(true,t2,1),(true,t3,2)])
    (h1:P.underlying t1=some (.int .i64)) (h2:P.underlying t2=some .string) (h3:P.underlying t3=some .string) (p1:P.plainKey t1=true) (p2:P.plainKey t2=true) (p3:P.plainKey t3=true) :
    (Op.eqFields (d+1) #[.int .i64 k1,.string a1,.string b1] #[.int .i64 k2,.string a2,.string b2] fs).run P w= .ok (k1 == k2 && (a1.toList == a2.toList && b1.toList == b2.toList)) w:=by
  rcases fs with _| ⟨f1,_| ⟨f2,_| ⟨f3,_| ⟨f4,fs⟩⟩⟩⟩
  · cases h
  · exact absurd (congrArg List.length h) (by simp)
  · exact absurd (congrArg List.length h) (by simp)
  rotate_left
  · exact absurd (congrArg List.length h) (by simp)
  · simp only [List.map_cons,List.map_nil,List.cons.injEq,Prod.mk.injEq,and_true,bne_iff_ne,ne_eq] at h
    obtain ⟨⟨n1,rfl,o1⟩,⟨n2,rfl,o2⟩,⟨n3,rfl,o3⟩⟩:=h
    simp only [Op.eqFields,n1,n2,n3,ne_eq,not_false_eq_true,if_true,o1,o2,o3,Sem.run_bind]
    rw [run_part_plain w p1 (v:=.int .i64 k1) rfl]
    simp only [Result.andThen_ok]
    rw [run_part_plain w p1 (v:=.int .i64 k2) rfl]
    simp only [Result.andThen_ok,run_equalIn_int w d _ _ .i64 k1 k2 h1]
    cases hk:k1 == k2
    · simp
    simp only [Bool.not_true,Bool.false_eq_true,if_false,Bool.true_and,Sem.run_bind]
    rw [run_part_plain w p2 (v:=.string a1) rfl]
    simp only [Result.andThen_ok]
    rw [run_part_plain w p2 (v:=.string a2) rfl]
    simp only [Result.andThen_ok,run_equalIn_string w d _ a1 a2 h2]
    cases ha:a1.toList == a2.toList
    · simp
    simp only [Bool.not_true,Bool.false_eq_true,if_false,Bool.true_and,Sem.run_bind]
    rw [run_part_plain w p3 (v:=.string b1) rfl]
    simp only [Result.andThen_ok]
    rw [run_part_plain w p3 (v:=.string b2) rfl]
    simp only [Result.andThen_ok,run_equalIn_string w d _ b1 b2 h3]
    cases hb:b1.toList == b2.toList<;>simp
structure Out3 (P:Program) (t:TypeId):Prop where
  st:∃t1 t2 t3,(P.fieldsOf t).toList.map (fun f=>(f.name != "_",f.type,f.offset))=[(true,t1,0),(true,t2,1),(true,t3,2)]∧P.underlying t1=some (.int .i64)∧P.underlying t2=some .string∧P.underlying t3=some .string∧P.plainKey t1=true∧P.plainKey t2=true∧P.plainKey t3=true
  ge:P.eqGuardType P.depth t=false
  si:P.stoodInHeld t=false
  un:P.underlying t=some (.struct (P.fieldsOf t))
def eqO3 (t0 t:Nat):List LV→List LV→Option Bool
  | [.I .i64 a,.S b,.S c],[.I .i64 d,.S e,.S f]=>ck (Nat.beq t t0) (some (beI a d && (beL b e && beL c f)))
  |_,_=>none
theorem eqO3_ok {P:Program} {t0 t:Nat} {l r:List LV} {b:Bool} (ht:Out3 P t0) (h:eqO3 t0 t l r=some b) (e:En) (w:World) (x y:Operand) :
    (eqGuard .eql t x y (.agg (LV.vals e l).toArray) (.agg (LV.vals e r).toArray)).run P w= .ok () w∧(binOp .eql t (.agg (LV.vals e l).toArray) (.agg (LV.vals e r).toArray)).run P w= .ok (.bool b) w:=by
  unfold eqO3 at h
  split at h
  · obtain ⟨h1,h2⟩:=ck_some h
    cases h2
    obtain rfl:=Nat.eq_of_beq_eq_true h1
    refine ⟨run_eqGuard_agg w .eql _ _ _ _ _ ht.ge,?_⟩
    rw [run_eql_struct,show (10000:Nat)=9999+1 from rfl,run_equalIn_agg w 9999 _ _ _ ht.un ht.si]
    obtain ⟨t1,t2,t3,g1,g2,g3,g4,g5,g6,g7⟩:=ht.st
    simp only [LV.vals,LV.val]
    rw [run_eqF3 (d:=9998) g1 g2 g3 g4 g5 g6 g7]
    simp only [Result.andThen_ok,beI_eq,beL_eq]
    have hm:∀x:List UInt8,(ByteArray.mk x.toArray).toList=x:=mkS_toList
    have h1:∀x y:Int,(x == y)=decide (x=y):=fun x y=>by by_cases h:x=y<;>simp [h]
    have h2:∀x y:List UInt8,(x == y)=decide (x=y):=fun x y=>by by_cases h:x=y<;>simp [h]
    simp only [hm,h1,h2]
  · cases h
def ctxP (P:Program) (bad:List Nat) (t0:Nat) (orc:Nat→Option (List LV→Tr LB→Nat→Option R1)):Ctx:=⟨fnP P bad,tyP P,orc,eqO3 t0⟩
theorem ctxP_ok {P:Program} {bad:List Nat} {t0:Nat} {orc:Nat→Option (List LV→Tr LB→Nat→Option R1)} (hm:P.follows .mixedOrders=true) (hf:fnsOk bad P.funcs.toList 0=true) (ht:Out3 P t0)
    (ho:∀k g,orc k=some g→∀args h n q,g args h n=some q→HB n h→LV.bds n args→∃v,q.v=some v∧CallU P k args h n ⟨.r,.e,v,q.h,q.n,q.fp,q.wm⟩):CtxOkC P (ctxP P bad t0 orc):=by
  refine ⟨⟨fun k f hk=>?_,fun t y hy=>tyP_ok hy,fun t l r b hb e w x y=>eqO3_ok ht hb e w x y⟩,hm,fun k f c hk hc=>?_,ho⟩
  · obtain ⟨h1,h2⟩:=fnP_ok hf hk
    unfold fnOk at h2
    obtain ⟨h3,h4⟩:=(Bool.and_eq_true _ _).mp h2
    exact ⟨h1,by simpa using h3⟩
  · obtain ⟨h1,h2⟩:=fnP_ok hf hk
    unfold fnOk at h2
    obtain ⟨h3,h4⟩:=(Bool.and_eq_true _ _).mp h2
    rw [hc] at h4
    exact h4
end Go.Xc
namespace Go.Proofs.YtenlcdokaadobaaGreatDoor
open Go Go.Fw Go.Xc
theorem xc_fns:fnsOk [] Tryz.prog.funcs.toList 0=true:=by decide +kernel
theorem xc_out:Out3 Tryz.prog 29:=by
  have hst:(match Tryz.prog.underlying 29 with|some (.struct _)=>true|_=>false)=true:=by decide +kernel
  refine ⟨⟨3,9,9,by decide +kernel,TIn.eq (t:=3),TSr.eq (t:=9),TSr.eq (t:=9),by decide +kernel,by decide +kernel,by decide +kernel⟩,by decide +kernel,by decide +kernel,?_⟩
  unfold Program.fieldsOf
  cases hu:Tryz.prog.underlying 29 with
  |none=>rw [hu] at hst;cases hst
  |some d=>cases d<;>rw [hu] at hst<;>first|rfl|cases hst
noncomputable def xcX:Ctx:=ctxP Tryz.prog [] 29 fun _=>none
theorem xc_ok:CtxOkC Tryz.prog xcX:=ctxP_ok (by decide +kernel) xc_fns xc_out (fun k g h=>by cases h)
def okT (r:Option Rs):Bool:=match r with
  | some r=>match r.v with
    | .B true=>true
    |_=>false
  |none=>false
set_option maxRecDepth 100000 in
theorem xc_run:okT (go xcX 100000 (.call 10 []) .e 0)=true:=by decide +kernel
theorem xc_awake (w:World):Ret Tryz.prog 10 #[] w (fun r w'=>r= .bool true∧Kp w noM w'):=by
  have h:=xc_run
  unfold okT at h
  cases hg:go xcX 100000 (.call 10 []) .e 0 with
  |none=>rw [hg] at h;cases h
  | some r=>
    rw [hg] at h
    obtain ⟨x,s,v,h',n',f,m⟩:=r
    refine Ret.mono (run_ok xc_ok hg w) fun u w' ⟨⟨e,he⟩,hk⟩=>⟨?_,hk⟩
    rw [he]
    simp only at h
    cases v with
    |B x=>cases x<;>first|rfl|cases h
    |_=>cases h
open Go Go.Fw
set_option linter.unusedVariables false
def WideP (fl:List FN):Prop:=50<fl.length∨1000≤progK fl 1000 0
section
attribute [local irreducible] Code.wp wpList Calls Ex Op1 sat bat blk cb own Go.Fw.mp Go.Fw.mpO Go.Fw.mpI Go.Fw.mpE Go.Fw.itr HS Rd Ret wkD Hp Cl Cls Exit.then Exit.inBlock Exit.noGoto bodyPost Go.Fw.flat wk2 Go.Fw.all Go.Fw.owns wpOp
attribute [local irreducible] sk mpK sko mvO entK

theorem wide_spec (w0:World) (oF:Option Addr) (cF:Nat) (fl:List FN) (g:Grs) (hp:PrB w0 oF cF fl g):Ret Tryz.prog 16 #[.agg (encP oF fl.length cF g).toArray] w0 (fun r w=>∃b,r= .bool b∧(b=true↔WideP fl)∧Kp w0 noM w):=by
  have hH:HS w0 noM [] w0:=HS.init w0 noM
  have hfl:=hp.len
  (refine ENT (N:=12) Tryz.func16 Tryz.ntmps16 ?_;intro a hA)
  by_cases hl:50<fl.length
  · repeat' (first|(first|(refine GT ?_ ?_<;>intro hg<;>clear hA a<;>intro a hA<;>(first|exact FA|replace hg:=dTr hg|replace hg:=dFa hg|skip))|(refine QT ?_;clear hA a;intro a hA)|(first|(refine BT ?_;clear hA hH;rintro _ w ⟨bN,rfl,hH⟩ a hA)|(refine LT ?_;clear hA hH;rintro _ w ⟨oN,rfl,hH⟩ a hA)|(refine AT ?_;clear hA;rintro _ w ⟨oN,cN,rfl,hH2⟩ a hA;clear hH;have hH:=(hH2 _ (by (repeat constructor))).tail;clear hH2)|(refine S0T ?_;clear hH;rintro _ w hH)))|refine CT ?_|(refine DT ?_ ?_<;>intro hc<;>try (exfalso;omega))|(first|(refine DSK ?_;clear hA a;intro a hA)|(first|(refine DLT ?_;clear hA hH;rintro _ w ⟨oN,rfl,hH⟩;refine ⟨STT,?_⟩;intro a hA)|(refine DAT ?_;clear hA;rintro _ w ⟨oN,cN,rfl,hH2⟩;clear hH;have hH:=(hH2 _ (by (repeat constructor))).tail;clear hH2;refine ⟨STT,?_⟩;intro a hA))))
    exact rt1 (.inl rfl) rfl hA rfl ⟨true,rfl,iff_of_true rfl (.inl hl),hH.kp⟩
  repeat' (first|(first|(refine GT ?_ ?_<;>intro hg<;>clear hA a<;>intro a hA<;>(first|exact FA|replace hg:=dTr hg|replace hg:=dFa hg|skip))|(refine XT ?_;apply XE;(first|(apply ex_load_st (vs:=encP oF fl.length cF g);rfl;rfl;exact cls_cb_all MEMT));clear hA a;intro a hA)|(refine QT ?_;clear hA a;intro a hA)|(first|(refine BT ?_;clear hA hH;rintro _ w ⟨bN,rfl,hH⟩ a hA)|(refine LT ?_;clear hA hH;rintro _ w ⟨oN,rfl,hH⟩ a hA)|(refine AT ?_;clear hA;rintro _ w ⟨oN,cN,rfl,hH2⟩ a hA;clear hH;have hH:=(hH2 _ (by (repeat constructor))).tail;clear hH2)|(refine S0T ?_;clear hH;rintro _ w hH)))|refine CT ?_|(refine DT ?_ ?_<;>intro hc<;>try (exfalso;omega))|(first|(refine DSK ?_;clear hA a;intro a hA)|(first|(refine DLT ?_;clear hA hH;rintro _ w ⟨oN,rfl,hH⟩;refine ⟨STT,?_⟩;intro a hA)|(refine DAT ?_;clear hA;rintro _ w ⟨oN,cN,rfl,hH2⟩;clear hH;have hH:=(hH2 _ (by (repeat constructor))).tail;clear hH2;refine ⟨STT,?_⟩;intro a hA))))
  (refine st_op hA rfl rfl (by decide) (op_call rfl rfl rfl (PartsN_spec _ oF cF fl g 1000 (hH.rd hp.fs id) (fun f hf=>(hp.rd f hf).keep hH.kp) hp.len (by decide) (by decide))) ?_;clear hA;rintro _ w ⟨rfl,hk⟩ a hA;replace hH:=hH.keep hk;clear hk)
  by_cases h2:1000≤progK fl 1000 0
  · repeat' (first|(first|(refine GT ?_ ?_<;>intro hg<;>clear hA a<;>intro a hA<;>(first|exact FA|replace hg:=dTr hg|replace hg:=dFa hg|skip))|(refine QT ?_;clear hA a;intro a hA)|(first|(refine BT ?_;clear hA hH;rintro _ w ⟨bN,rfl,hH⟩ a hA)|(refine LT ?_;clear hA hH;rintro _ w ⟨oN,rfl,hH⟩ a hA)|(refine AT ?_;clear hA;rintro _ w ⟨oN,cN,rfl,hH2⟩ a hA;clear hH;have hH:=(hH2 _ (by (repeat constructor))).tail;clear hH2)|(refine S0T ?_;clear hH;rintro _ w hH)))|refine CT ?_|(refine DT ?_ ?_<;>intro hc<;>try (exfalso;omega))|(first|(refine DSK ?_;clear hA a;intro a hA)|(first|(refine DLT ?_;clear hA hH;rintro _ w ⟨oN,rfl,hH⟩;refine ⟨STT,?_⟩;intro a hA)|(refine DAT ?_;clear hA;rintro _ w ⟨oN,cN,rfl,hH2⟩;clear hH;have hH:=(hH2 _ (by (repeat constructor))).tail;clear hH2;refine ⟨STT,?_⟩;intro a hA))))
    exact rt1 (.inl rfl) rfl hA rfl ⟨_,rfl,iff_of_true (decide_eq_true (by omega)) (.inr h2),hH.kp⟩
  · repeat' (first|(first|(refine GT ?_ ?_<;>intro hg<;>clear hA a<;>intro a hA<;>(first|exact FA|replace hg:=dTr hg|replace hg:=dFa hg|skip))|(refine QT ?_;clear hA a;intro a hA)|(first|(refine BT ?_;clear hA hH;rintro _ w ⟨bN,rfl,hH⟩ a hA)|(refine LT ?_;clear hA hH;rintro _ w ⟨oN,rfl,hH⟩ a hA)|(refine AT ?_;clear hA;rintro _ w ⟨oN,cN,rfl,hH2⟩ a hA;clear hH;have hH:=(hH2 _ (by (repeat constructor))).tail;clear hH2)|(refine S0T ?_;clear hH;rintro _ w hH)))|refine CT ?_|(refine DT ?_ ?_<;>intro hc<;>try (exfalso;omega))|(first|(refine DSK ?_;clear hA a;intro a hA)|(first|(refine DLT ?_;clear hA hH;rintro _ w ⟨oN,rfl,hH⟩;refine ⟨STT,?_⟩;intro a hA)|(refine DAT ?_;clear hA;rintro _ w ⟨oN,cN,rfl,hH2⟩;clear hH;have hH:=(hH2 _ (by (repeat constructor))).tail;clear hH2;refine ⟨STT,?_⟩;intro a hA))))
    exact rt1 (.inl rfl) rfl hA rfl ⟨_,rfl,iff_of_false (fun h=>(by have:=dTr h;omega)) (fun h=>h.elim hl h2),hH.kp⟩
theorem makes_law (W:World) (oF:Option Addr) (cF:Nat) (fl:List FN) (g:Grs) (hp:PrB W oF cF fl g):Ret Tryz.prog 5 #[.agg (encP oF fl.length cF g).toArray] W (LawR W):=by
  have hH:HS W noM [] W:=HS.init W noM
  (refine ENT (N:=31) Tryz.func5 Tryz.ntmps5 ?_;intro a hA)
  repeat' (first|(first|(refine GT ?_ ?_<;>intro hg<;>clear hA a<;>intro a hA<;>(first|exact FA|replace hg:=dTr hg|replace hg:=dFa hg|skip))|(refine QT ?_;clear hA a;intro a hA)|(first|(refine BT ?_;clear hA hH;rintro _ w ⟨bN,rfl,hH⟩ a hA)|(refine LT ?_;clear hA hH;rintro _ w ⟨oN,rfl,hH⟩ a hA)|(refine AT ?_;clear hA;rintro _ w ⟨oN,cN,rfl,hH2⟩ a hA;clear hH;have hH:=(hH2 _ (by (repeat constructor))).tail;clear hH2)|(refine S0T ?_;clear hH;rintro _ w hH)))|refine CT ?_|(refine DT ?_ ?_<;>intro hc<;>try (exfalso;omega))|(first|(refine DSK ?_;clear hA a;intro a hA)|(first|(refine DLT ?_;clear hA hH;rintro _ w ⟨oN,rfl,hH⟩;refine ⟨STT,?_⟩;intro a hA)|(refine DAT ?_;clear hA;rintro _ w ⟨oN,cN,rfl,hH2⟩;clear hH;have hH:=(hH2 _ (by (repeat constructor))).tail;clear hH2;refine ⟨STT,?_⟩;intro a hA))))
  (refine st_op hA rfl rfl (by decide) (op_call rfl rfl rfl (xc_awake _)) ?_;clear hA;rintro _ w ⟨rfl,hk⟩ a hA;replace hH:=hH.keep hk;clear hk)
  repeat' (first|(first|(refine GT ?_ ?_<;>intro hg<;>clear hA a<;>intro a hA<;>(first|exact FA|replace hg:=dTr hg|replace hg:=dFa hg|skip))|(refine XT ?_;apply XE;(first|(apply ex_load_st (vs:=encP oF fl.length cF g);rfl;rfl;exact cls_cb_all MEMT));clear hA a;intro a hA)|(refine QT ?_;clear hA a;intro a hA)|(first|(refine BT ?_;clear hA hH;rintro _ w ⟨bN,rfl,hH⟩ a hA)|(refine LT ?_;clear hA hH;rintro _ w ⟨oN,rfl,hH⟩ a hA)|(refine AT ?_;clear hA;rintro _ w ⟨oN,cN,rfl,hH2⟩ a hA;clear hH;have hH:=(hH2 _ (by (repeat constructor))).tail;clear hH2)|(refine S0T ?_;clear hH;rintro _ w hH)))|refine CT ?_|(refine DT ?_ ?_<;>intro hc<;>try (exfalso;omega))|(first|(refine DSK ?_;clear hA a;intro a hA)|(first|(refine DLT ?_;clear hA hH;rintro _ w ⟨oN,rfl,hH⟩;refine ⟨STT,?_⟩;intro a hA)|(refine DAT ?_;clear hA;rintro _ w ⟨oN,cN,rfl,hH2⟩;clear hH;have hH:=(hH2 _ (by (repeat constructor))).tail;clear hH2;refine ⟨STT,?_⟩;intro a hA))))
  have hpk:∀w,Kp W noM w→PrB w oF cF fl g:=fun w hk=>⟨((HS.init W noM).keep hk).rd hp.fs id,fun f hf=>(hp.rd f hf).keep hk,hp.len,hp.ls.keep hk,hp.ts.keep hk,hp.xs.keep hk,hp.ss.keep hk,hp.l4⟩
  (refine st_op hA rfl rfl (by decide) (op_call rfl rfl rfl (wide_spec _ oF cF fl g (hpk _ hH.kp))) ?_;clear hA;rintro _ w ⟨b,rfl,hb,hk⟩ a hA;replace hH:=hH.keep hk;clear hk)
  cases b with
  | true=>
    repeat' (first|(first|(refine GT ?_ ?_<;>intro hg<;>clear hA a<;>intro a hA<;>(first|exact FA|replace hg:=dTr hg|replace hg:=dFa hg|skip))|(refine QT ?_;clear hA a;intro a hA)|(first|(refine BT ?_;clear hA hH;rintro _ w ⟨bN,rfl,hH⟩ a hA)|(refine LT ?_;clear hA hH;rintro _ w ⟨oN,rfl,hH⟩ a hA)|(refine AT ?_;clear hA;rintro _ w ⟨oN,cN,rfl,hH2⟩ a hA;clear hH;have hH:=(hH2 _ (by (repeat constructor))).tail;clear hH2)|(refine S0T ?_;clear hH;rintro _ w hH)))|refine CT ?_|(refine DT ?_ ?_<;>intro hc<;>try (exfalso;omega))|(first|(refine DSK ?_;clear hA a;intro a hA)|(first|(refine DLT ?_;clear hA hH;rintro _ w ⟨oN,rfl,hH⟩;refine ⟨STT,?_⟩;intro a hA)|(refine DAT ?_;clear hA;rintro _ w ⟨oN,cN,rfl,hH2⟩;clear hH;have hH:=(hH2 _ (by (repeat constructor))).tail;clear hH2;refine ⟨STT,?_⟩;intro a hA))))
    exact rt1 (.inl rfl) rfl hA rfl ⟨rfl,hH.kp⟩
  |false=>
  have hnw:¬WideP fl:=fun h=>Bool.noConfusion (hb.2 h)
  have h50:fl.length≤50:=by
    exact Nat.not_lt.1 fun h=>hnw (.inl h)
  have h1000:progK fl 1000 0<1000:=by
    exact Int.not_le.1 fun h=>hnw (.inr h)
  repeat' (first|(first|(refine GT ?_ ?_<;>intro hg<;>clear hA a<;>intro a hA<;>(first|exact FA|replace hg:=dTr hg|replace hg:=dFa hg|skip))|(refine XT ?_;apply XE;(first|(apply ex_load_st (vs:=encP oF fl.length cF g);rfl;rfl;exact cls_cb_all MEMT));clear hA a;intro a hA)|(refine QT ?_;clear hA a;intro a hA)|(first|(refine BT ?_;clear hA hH;rintro _ w ⟨bN,rfl,hH⟩ a hA)|(refine LT ?_;clear hA hH;rintro _ w ⟨oN,rfl,hH⟩ a hA)|(refine AT ?_;clear hA;rintro _ w ⟨oN,cN,rfl,hH2⟩ a hA;clear hH;have hH:=(hH2 _ (by (repeat constructor))).tail;clear hH2)|(refine S0T ?_;clear hH;rintro _ w hH)))|refine CT ?_|(refine DT ?_ ?_<;>intro hc<;>try (exfalso;omega))|(first|(refine DSK ?_;clear hA a;intro a hA)|(first|(refine DLT ?_;clear hA hH;rintro _ w ⟨oN,rfl,hH⟩;refine ⟨STT,?_⟩;intro a hA)|(refine DAT ?_;clear hA;rintro _ w ⟨oN,cN,rfl,hH2⟩;clear hH;have hH:=(hH2 _ (by (repeat constructor))).tail;clear hH2;refine ⟨STT,?_⟩;intro a hA))))
  (refine st_op hA rfl rfl (by decide) (op_call rfl rfl rfl (ofN_spec W _ _ hH oF cF fl g hp.fs hp.rd h50 h1000 hp.ls hp.ts hp.xs hp.ss hp.l4)) ?_;clear hA hH;rintro _ w (⟨hno,rfl,hH⟩| ⟨hyes,G,K,rfl,hmay,hsame,hfs,hH,hK⟩) a hA)
  · repeat' (first|(first|(refine GT ?_ ?_<;>intro hg<;>clear hA a<;>intro a hA<;>(first|exact FA|replace hg:=dTr hg|replace hg:=dFa hg|skip))|(refine XT ?_;apply XE;(first|(apply ex_load_st (vs:=encP oF fl.length cF g);rfl;rfl;exact cls_cb_all MEMT));clear hA a;intro a hA)|(refine QT ?_;clear hA a;intro a hA)|(first|(refine BT ?_;clear hA hH;rintro _ w ⟨bN,rfl,hH⟩ a hA)|(refine LT ?_;clear hA hH;rintro _ w ⟨oN,rfl,hH⟩ a hA)|(refine AT ?_;clear hA;rintro _ w ⟨oN,cN,rfl,hH2⟩ a hA;clear hH;have hH:=(hH2 _ (by (repeat constructor))).tail;clear hH2)|(refine S0T ?_;clear hH;rintro _ w hH)|(refine SAT (encGs gs0) hA hH ?_;clear hH;intro w hH)))|refine CT ?_|(refine DT ?_ ?_<;>intro hc<;>try (exfalso;omega))|(first|(refine DSK ?_;clear hA a;intro a hA)|(first|(refine DLT ?_;clear hA hH;rintro _ w ⟨oN,rfl,hH⟩;refine ⟨STT,?_⟩;intro a hA)|(refine DAT ?_;clear hA;rintro _ w ⟨oN,cN,rfl,hH2⟩;clear hH;have hH:=(hH2 _ (by (repeat constructor))).tail;clear hH2;refine ⟨STT,?_⟩;intro a hA))))
    have hpw2:=hpk _ hH.kp
    (refine st_op hA rfl rfl (by decide) (op_call rfl rfl rfl (anfMayN_spec _ oF cF fl g hpw2.fs hpw2.rd hpw2.len hpw2.ls hpw2.ts hpw2.xs hpw2.ss)) ?_;clear hA;rintro _ w ⟨b,rfl,hb2,hk⟩ a hA;replace hH:=hH.keep hk;clear hk)
    obtain rfl:b=false:=by
      cases b with
      |false=>rfl
      |true=>exact absurd (hb2.1 rfl) hno
    repeat' (first|(first|(refine GT ?_ ?_<;>intro hg<;>clear hA a<;>intro a hA<;>(first|exact FA|replace hg:=dTr hg|replace hg:=dFa hg|skip))|(refine QT ?_;clear hA a;intro a hA)|(first|(refine BT ?_;clear hA hH;rintro _ w ⟨bN,rfl,hH⟩ a hA)|(refine LT ?_;clear hA hH;rintro _ w ⟨oN,rfl,hH⟩ a hA)|(refine AT ?_;clear hA;rintro _ w ⟨oN,cN,rfl,hH2⟩ a hA;clear hH;have hH:=(hH2 _ (by (repeat constructor))).tail;clear hH2)|(refine S0T ?_;clear hH;rintro _ w hH)))|refine CT ?_|(refine DT ?_ ?_<;>intro hc<;>try (exfalso;omega))|(first|(refine DSK ?_;clear hA a;intro a hA)|(first|(refine DLT ?_;clear hA hH;rintro _ w ⟨oN,rfl,hH⟩;refine ⟨STT,?_⟩;intro a hA)|(refine DAT ?_;clear hA;rintro _ w ⟨oN,cN,rfl,hH2⟩;clear hH;have hH:=(hH2 _ (by (repeat constructor))).tail;clear hH2;refine ⟨STT,?_⟩;intro a hA))))
    exact rt1 (.inl rfl) rfl hA rfl ⟨rfl,hH.kp⟩
  · have hlen:G.fs.l.length=fl.length:=by
      have:=congrArg List.length hfs
      rw [List.length_map,List.length_map] at this
      exact this
    have hgr:∀f∈G.fs.l,f.bs.l.length≤1048576∧∀bl∈f.bs.l,bl.e.to.l.length≤1048576:=fun f hf=>by
      have h1:=hmay.size
      unfold grsN at h1
      have h2:=sum_le (f:=grN) hf
      exact gr_small (by omega)
    repeat' (first|(first|(refine GT ?_ ?_<;>intro hg<;>clear hA a<;>intro a hA<;>(first|exact FA|replace hg:=dTr hg|replace hg:=dFa hg|skip))|(refine XT ?_;apply XE;(first|(apply ex_load_st (vs:=encP oF fl.length cF g);rfl;rfl;exact cls_cb_all MEMT));clear hA a;intro a hA)|(refine QT ?_;clear hA a;intro a hA)|(first|(refine BT ?_;clear hA hH;rintro _ w ⟨bN,rfl,hH⟩ a hA)|(refine LT ?_;clear hA hH;rintro _ w ⟨oN,rfl,hH⟩ a hA)|(refine AT ?_;clear hA;rintro _ w ⟨oN,cN,rfl,hH2⟩ a hA;clear hH;have hH:=(hH2 _ (by (repeat constructor))).tail;clear hH2)|(refine S0T ?_;clear hH;rintro _ w hH)|(refine SAT (encGs G) hA hH ?_;clear hH;intro w hH)))|refine CT ?_|(refine DT ?_ ?_<;>intro hc<;>try (exfalso;omega))|(first|(refine DSK ?_;clear hA a;intro a hA)|(first|(refine DLT ?_;clear hA hH;rintro _ w ⟨oN,rfl,hH⟩;refine ⟨STT,?_⟩;intro a hA)|(refine DAT ?_;clear hA;rintro _ w ⟨oN,cN,rfl,hH2⟩;clear hH;have hH:=(hH2 _ (by (repeat constructor))).tail;clear hH2;refine ⟨STT,?_⟩;intro a hA))))
    have hpw2:=hpk _ hH.kp
    (refine st_op hA rfl rfl (by decide) (op_call rfl rfl rfl (anfMayN_spec _ oF cF fl g hpw2.fs hpw2.rd hpw2.len hpw2.ls hpw2.ts hpw2.xs hpw2.ss)) ?_;clear hA;rintro _ w ⟨b,rfl,hb2,hk⟩ a hA;replace hH:=hH.keep hk;clear hk)
    obtain rfl:b=true:=hb2.2 hyes
    repeat' (first|(first|(refine GT ?_ ?_<;>intro hg<;>clear hA a<;>intro a hA<;>(first|exact FA|replace hg:=dTr hg|replace hg:=dFa hg|skip))|(refine XT ?_;apply XE;(first|(apply ex_load_st (vs:=encGs G);rfl;rfl;exact cls_cb_all MEMT));clear hA a;intro a hA)|(refine QT ?_;clear hA a;intro a hA)|(first|(refine BT ?_;clear hA hH;rintro _ w ⟨bN,rfl,hH⟩ a hA)|(refine LT ?_;clear hA hH;rintro _ w ⟨oN,rfl,hH⟩ a hA)|(refine AT ?_;clear hA;rintro _ w ⟨oN,cN,rfl,hH2⟩ a hA;clear hH;have hH:=(hH2 _ (by (repeat constructor))).tail;clear hH2)|(refine S0T ?_;clear hH;rintro _ w hH)))|refine CT ?_|(refine DT ?_ ?_<;>intro hc<;>try (exfalso;omega))|(first|(refine DSK ?_;clear hA a;intro a hA)|(first|(refine DLT ?_;clear hA hH;rintro _ w ⟨oN,rfl,hH⟩;refine ⟨STT,?_⟩;intro a hA)|(refine DAT ?_;clear hA;rintro _ w ⟨oN,cN,rfl,hH2⟩;clear hH;have hH:=(hH2 _ (by (repeat constructor))).tail;clear hH2;refine ⟨STT,?_⟩;intro a hA))))
    (refine st_op hA rfl rfl (by decide) (op_call rfl rfl rfl (May_spec _ G (hK _ (hH.frz MEMT)) (by omega) hgr)) ?_;clear hA;rintro _ w ⟨b,rfl,hk,hb3⟩ a hA;replace hH:=hH.keep hk;clear hk)
    obtain rfl:b=true:=hb3.2 hmay
    repeat' (first|(first|(refine GT ?_ ?_<;>intro hg<;>clear hA a<;>intro a hA<;>(first|exact FA|replace hg:=dTr hg|replace hg:=dFa hg|skip))|(refine QT ?_;clear hA a;intro a hA)|(first|(refine BT ?_;clear hA hH;rintro _ w ⟨bN,rfl,hH⟩ a hA)|(refine LT ?_;clear hA hH;rintro _ w ⟨oN,rfl,hH⟩ a hA)|(refine AT ?_;clear hA;rintro _ w ⟨oN,cN,rfl,hH2⟩ a hA;clear hH;have hH:=(hH2 _ (by (repeat constructor))).tail;clear hH2)|(refine S0T ?_;clear hH;rintro _ w hH)))|refine CT ?_|(refine DT ?_ ?_<;>intro hc<;>try (exfalso;omega))|(first|(refine DSK ?_;clear hA a;intro a hA)|(first|(refine DLT ?_;clear hA hH;rintro _ w ⟨oN,rfl,hH⟩;refine ⟨STT,?_⟩;intro a hA)|(refine DAT ?_;clear hA;rintro _ w ⟨oN,cN,rfl,hH2⟩;clear hH;have hH:=(hH2 _ (by (repeat constructor))).tail;clear hH2;refine ⟨STT,?_⟩;intro a hA))))
    exact rt1 (.inl rfl) rfl hA rfl ⟨rfl,hH.kp⟩
end
set_option maxRecDepth 100000 in
theorem doorN_met (os:Os) (args:Array Value):laidMetH Tryz.prog Rows.ssaMakesRow.laid ((World.doorLaid Tryz.prog 400 os).forCall (fun _ _=>0) ⟨#[],args,[]⟩).memory:=
  laidMetH_of_parts3 (fuel:=8) (laidMet_of_run' 8 (by kernel_rfl) (by kernel_rfl)) (by kernel_rfl) (by kernel_rfl)
theorem doorN_shaped (os:Os) (args:Array Value):((World.doorLaid Tryz.prog 400 os).forCall (fun _ _=>0) ⟨#[],args,[]⟩).Shaped Tryz.prog:=World.shaped_of_RefB (by kernel_rfl) (by kernel_rfl)
end Go.Proofs.YtenlcdokaadobaaGreatDoor
