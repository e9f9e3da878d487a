/-
  What is handed in, taken apart, with what the bound of '..UptoSaid' gives. Conditions: none.
  The frame of a law's proof, where what is handed in is not great and tables are laid ('..UptoCardSaid'). Conditions: none.
  Code handed in. Conditions: none.
-/
import Derived.Test.YtbapejgbjpcadaaGreatDoorRowJoinsMg5
import Derived.Test.YtbapejgbjpcadaaGreatDoorRowJoinsMg0
import Derived.Test.YtbapejgbjpcadaaGreatDoorRowJoinsMg1
import Derived.LaidLaws
import Derived.LaidMore
import Derived.Stop.Joined
import Derived.LaidHandle
import Derived.Test.YtbapejgbjpcadaaGreatDoorRows
import Derived.Lib.LaidTab
namespace Go.Proofs.YtbapejgbjpcadaaGreatDoor
open Go Go.Fw Go.ChangeShapes Go.WideShapes Go.ChangeAt Go.RowKit Go.Deep
set_option linter.unusedVariables false
section
variable {H:Type} {enc0:TypeId × Value→H} {w:World} {held:Bool}
def Opn (enc0:TypeId × Value→H) (w:World) (held:Bool) (t:TypeId) {α:Type} (enc:α→List Value) (K:α→Prop):Prop:=
  ∀(fuel:Nat) (cs:List Value) (x:DataW H × List MemPlace),DataW.trod enc0 Tryz.prog w 0 (fun _=>true) held fuel t cs=some x→∃a,cs=enc a∧(Rows.uptoBulk x.1≤1048576→K a)
theorem opn_int {t:TypeId} {k:IntKind} [h:TIn Tryz.prog t k]:Opn enc0 w held t (fun n:Int=>[.int k n]) (fun _=>True):=fun fuel cs x hx=>by
  obtain ⟨n,rfl,_⟩:=DataW.trod_int h.eq hx
  exact ⟨n,rfl,fun _=>trivial⟩
theorem rd_of0 {a:Addr} {vs:List Value} (h:∀j v,vs[j]?=some v→w.cell? (a.add j)=some v):Rd w (some a) vs:=by
  cases vs with
  |nil=>exact ⟨fun h=>absurd h (by decide),fun j u h=>by simp at h⟩
  | cons v vs=>
    have h1:=World.cell?_spot (h 0 v rfl)
    have hs:a.spot=none:=by simpa [Addr.add] using h1
    refine ⟨fun _=>⟨a.block,a.off,by rw [←hs]⟩,fun j u hj=>?_⟩
    rw [←add_sat a hs]
    exact h j u hj
theorem opn_slice {t e:TypeId} [ht:TSl Tryz.prog t e] {α:Type} {enc:α→List Value} {K:α→Prop} {sz:Nat} (he:Opn enc0 w held e enc K) (hc:Tryz.prog.cellsOf e=sz) (hsz:0<sz) (hl:∀a,(enc a).length=sz) :
    Opn enc0 w held t (fun v:Option Addr × Nat × List α=>[.slice v.1 v.2.2.length v.2.1]) (fun v=>(Rd w v.1 (flat enc v.2.2)∧v.2.2.length≤v.2.1∧v.2.1≤maxLen)∧v.2.2.length≤1048576∧∀a∈v.2.2,K a):=fun fuel cs x hx=>by
  rcases DataW.trod_slice ht.eq hx with ⟨rfl,rfl⟩| ⟨a,len,cap,elems,rest,n,rfl,rfl,rfl,hb,hle,hm,hlen,hel,_,_⟩
  · exact ⟨(none,0,[]),rfl,fun _=>⟨⟨⟨fun h=>absurd h (Nat.lt_irrefl 0),fun j u h=>by simp [flat] at h⟩,Nat.le_refl _,Nat.zero_le _⟩,Nat.zero_le _,fun a ha=>absurd ha List.not_mem_nil⟩⟩
  · obtain ⟨l,hll,hp⟩:=choose_list (fun i (p:α)=>(∀j v,(enc p)[j]?=some v→w.cell? (a.add (i*sz+j))=some v)∧∀y,elems[i]?=some y→Rows.uptoBulk y.1≤1048576→K p) len (fun i hi=>by
      have h1:=hel i hi
      have h2:elems[i]?=some (elems[i]'(by omega)):=List.getElem?_eq_getElem (by omega)
      rw [h2,hc] at h1
      obtain ⟨cs',hcs,ht'⟩:=Option.bind_eq_some_iff.1 h1
      obtain ⟨_,hcl,hat⟩:=World.cells?_some hcs
      obtain ⟨p,rfl,hK⟩:=he _ _ _ ht'
      refine ⟨p,fun j v hj=>?_,fun y hy hbk=>?_⟩
      · have hjl:=(List.getElem?_eq_some_iff.1 hj).1
        rw [hl] at hjl
        rw [←Go.Deep.add_add,hat j hjl,hj]
      · rw [h2] at hy
        cases hy
        exact hK hbk)
    subst hll
    refine ⟨(some a,cap,l),rfl,fun hbk=>⟨⟨rd_of0 fun j v hj=>?_,hle,hm⟩,?_,fun p hp'=>?_⟩⟩
    · dsimp only at hj
      have hjl:=(List.getElem?_eq_some_iff.1 hj).1
      rw [flat_length hl] at hjl
      have hjq:j / sz<l.length:=Nat.div_lt_of_lt_mul (by rw [Nat.mul_comm];exact hjl)
      obtain ⟨p,hpp⟩:∃p,l[j / sz]?=some p:=⟨_,List.getElem?_eq_getElem hjq⟩
      have h6:=(hp _ _ hpp).1 (j % sz)
      have ej:j / sz*sz+j % sz=j:=by rw [Nat.mul_comm];exact Nat.div_add_mod j sz
      obtain ⟨u,hu⟩:∃u,(enc p)[j % sz]?=some u:=⟨_,List.getElem?_eq_getElem (by rw [hl];exact Nat.mod_lt _ hsz)⟩
      have h7:=flat_get hl hpp hu
      rw [ej,hj] at h7
      have h8:=h6 u hu
      rw [ej] at h8
      rw [h8,←Option.some.inj h7]
    · have:=bulk_slice (elems:=elems.map (·.1)) (rest:=rest.map (·.1))
      rw [List.length_map] at this
      dsimp only at hbk ⊢
      omega
    · dsimp only at hp' hbk
      obtain ⟨i,hi⟩:=List.getElem?_of_mem hp'
      have hil:=(List.getElem?_eq_some_iff.1 hi).1
      obtain ⟨y,hy⟩:∃y,elems[i]?=some y:=⟨_,List.getElem?_eq_getElem (by omega)⟩
      refine (hp i p hi).2 y hy ?_
      have h9:=bulk_mem (List.mem_map_of_mem (f:=fun x=>x.1) (List.mem_of_getElem? hy))
      rw [Rows.uptoBulk] at hbk
      omega
theorem opn_struct {t:TypeId} {fl:List (Nat × Nat)} [ht:TSt Tryz.prog t fl] {fuel:Nat} {cs:List Value} {x:DataW H × List MemPlace} (hx:DataW.trod enc0 Tryz.prog w 0 (fun _=>true) held fuel t cs=some x) :
    ∃n,cs.length=Tryz.prog.cellsOf t∧∀(i ft off:Nat),fl[i]?=some (ft,off)→∃y:DataW H × List MemPlace,DataW.trod enc0 Tryz.prog w 0 (fun _=>true) held n ft ((cs.drop off).take (Tryz.prog.cellsOf ft))=some y∧(Rows.uptoBulk x.1≤1048576→Rows.uptoBulk y.1≤1048576):=by
  obtain ⟨fs,hfs,hfl⟩:=ht.eq
  obtain ⟨ys,n,rfl,rfl,hcl,hyl,hf⟩:=DataW.trod_struct hfs hx
  refine ⟨n,hcl,fun i ft off hi=>?_⟩
  rw [←hfl,List.getElem?_map] at hi
  obtain ⟨fd,hfd,e⟩:=Option.map_eq_some_iff.1 hi
  cases e
  have hfd2:fs[i]?=some fd:=by rw [←Array.getElem?_toList];exact hfd
  have h1:=hf i fd hfd2
  have hil:i<ys.length:=by
    rw [hyl]
    exact (Array.getElem?_eq_some_iff.1 hfd2).1
  rw [List.getElem?_eq_getElem hil] at h1
  refine ⟨_,h1,fun hbk=>?_⟩
  have h9:=bulk_mem (List.mem_map_of_mem (f:=fun x=>x.1) (List.getElem_mem hil))
  rw [Rows.uptoBulk] at hbk
  omega
theorem cut_at (cs:List Value) (off s:Nat):cs.drop off=(cs.drop off).take s++cs.drop (off+s):=by
  rw [←List.drop_drop]
  exact (List.take_append_drop s (cs.drop off)).symm
theorem opn_imp {t:TypeId} {α β:Type} {enc:α→List Value} {K:α→Prop} {enc2:β→List Value} {K2:β→Prop} (h:Opn enc0 w held t enc K) (f:α→β) (he:∀a,enc a=enc2 (f a)) (hK:∀a,K a→K2 (f a)):Opn enc0 w held t enc2 K2:=fun fuel cs x hx=>by
  obtain ⟨a,rfl,hk⟩:=h fuel cs x hx
  exact ⟨f a,he a,fun hb=>hK a (hk hb)⟩
theorem opn_arg {t:TypeId} {α:Type} {enc:α→List Value} {K:α→Prop} (h:Opn enc0 w held t enc K) {v:Value} {d:DataW H} {p:List MemPlace} {ds:List (DataW H)} (hT:DataW.Trod enc0 Tryz.prog w 0 (fun _=>true) held t v d p) (hd:d∈ds) (hk:∃gs,Rows.uptoSmall H (ds++gs)=true) :
    ∃a,v.cells.toList=enc a∧K a:=by
  obtain ⟨fuel,hf⟩:=hT
  obtain ⟨a,he,hK⟩:=h fuel _ _ hf
  exact ⟨a,he,hK (bulk_of hk hd)⟩
end
end Go.Proofs.YtbapejgbjpcadaaGreatDoor
namespace Go.Fw
open Go Go.ChangeShapes Go.WideShapes Go.ChangeAt Go.RowKit
set_option linter.unusedVariables false
section
variable {H:Type} {enc:TypeId × Value→H}
def preL (enc:TypeId × Value→H) (P:Program) (fn:Func) (s:OpenSpec) (conds:List PathCond) (laid:List (String × DataW Unit)) (w:World) (args:Array Value):Prop:=
  (s.pre enc P fn conds false w args∧laidMetH P laid w)∧sizedMet enc P fn s false w args
theorem law_lifted_uptoL {C:Checked} {os:Os} {f:FuncId} {fn:Func} {s:ChangeSpec} {k:(H:Type)→List (DataW H)→Bool} {F:Stop.Interp} {conds:List PathCond} {tb:TypeId} {laid:List (String × DataW Unit)}
    (own:ownKnob C.prog.godebug=none) (started:os.Started) (noInit:C.prog.inits.idxOf? f=none) (hfn:C.prog.funcs[f]?=some fn)
    (witness:∃(w:World) (tape:Tape) (i:Input),w.os=os∧(w.forCall tape i).Shaped C.prog∧i.vars=[]∧Input.okWide C.prog (w.forCall tape i) .any w.heap.size f i∧
      preL enc C.prog fn {OpenSpec.ofChange s with cond:=some k} conds laid (w.forCall tape i).memory i.args∧({}:Assume).holds C.prog (lone (Frame.enter C.prog f i.args .normal) [] (w.forCall tape i)))
    (hl:laidOutB C.prog=true) (hrd:fn.params.toList.all (fun t=>C.prog.readableRec t && decide (t<C.prog.types.size))=true) (hv:s.vars=[])
    (hs:∀ds:List (DataW H),ds.length=fn.params.size→(s.fn H (ds++[])).results=[.lit (.bool true)]∧(s.fn H (ds++[])).args=ds∧(s.fn H (ds++[])).vars=[])
    (hrt:fn.resultTypes=#[tb]) (hb:C.prog.underlying tb=some .bool)
    (walk:∀(W:World) (base:Nat) (args:Array Value) (ds:List (DataW H)) (p:List MemPlace),
      (∀(j:Nat) t v,fn.params[j]?=some t→args[j]?=some v→Value.okWide C.prog W .any base t v)→
      DataW.TrodAll enc C.prog W 0 (fun _=>true) true fn.params.toList args.toList ds p→(∃gs,k H (ds++gs)=true)→laidMetH C.prog laid W→Ret C.prog f args W (LawR W)) :
    ReturnsInHanded {} C os f .any (preL enc C.prog fn {OpenSpec.ofChange s with cond:=some k} conds laid) ((({OpenSpec.ofChange s with cond:=some k}:OpenSpec).at F).post enc C.prog fn false true false false):=by
  refine returnsInHanded_of_calls own started noInit witness ?_
  intro w tape i _ _ _ hok hpre hholds
  obtain ⟨_,_,_,fn',hfn',_,_,_,_,hval⟩:=hok
  have e:fn'=fn:=Option.some.inj (hfn'.symm.trans hfn)
  subst e
  obtain ⟨⟨hp0,hL⟩,hz⟩:=hpre
  obtain ⟨ds,gs,before,hw,hc,hkk⟩:=(OpenSpec.pre_some (s:={OpenSpec.ofChange s with cond:=some k}) (k:=k) rfl conds false _ _).1 hp0
  have hw':=DataW.Whole.of_heap (w':=w.forCall tape i) (by rfl) hw
  have hL':laidMetH C.prog laid (w.forCall tape i):=laidMetH.of_heap (by rfl) hL
  have hA:=hw'
  obtain ⟨p,q,hA,_⟩:=hA
  refine Calls.mono (walk (w.forCall tape i) w.heap.size i.args ds p hval hA ⟨gs,hkk⟩ hL') fun e W' ⟨v,he,hp⟩=>?_
  subst he
  obtain ⟨rfl,hkp⟩:=hp
  exact ChangeSpec.post_blind (law_post hl hrd hv hs hrt hb hw' hkp)
theorem witnessL {C:Checked} {os:Os} {f:FuncId} {fn:Func} {s:OpenSpec} {k:(H:Type)→List (DataW H)→Bool} (hk:s.cond=some k) {conds:List PathCond} {laid:List (String × DataW Unit)} (w0:World) (args:Array Value) (fuel:Nat) (hos:w0.os=os)
    (hsh:(w0.forCall (fun _ _=>0) ⟨#[],args,[]⟩).Shaped C.prog)
    (hok:Input.okWideB C.prog (w0.forCall (fun _ _=>0) ⟨#[],args,[]⟩) f ⟨#[],args,[]⟩=true)
    {x:List (DataW H) × List (DataW H) × List MemPlace} (hx:DataW.whole enc C.prog (w0.forCall (fun _ _=>0) ⟨#[],args,[]⟩).memory fn.params.toList s.vars false args.toList fuel=some x)
    (hconds:conds.all (PathCond.test C.prog ⟨fn.params.toList,x.1,s.bare.plain.varTypes C.prog,x.2.1⟩)=true) (hkk:k H (x.1++x.2.1)=true)
    (hsz:s.bare.sizedB enc C.prog fn false (w0.forCall (fun _ _=>0) ⟨#[],args,[]⟩).memory args fuel=true)
    (hX:laidMetH C.prog laid (w0.forCall (fun _ _=>0) ⟨#[],args,[]⟩).memory) :
    ∃ (w:World) (tape:Tape) (i:Input),w.os=os∧(w.forCall tape i).Shaped C.prog∧i.vars=[]∧Input.okWide C.prog (w.forCall tape i) .any w.heap.size f i∧
      preL enc C.prog fn s conds laid (w.forCall tape i).memory i.args∧({}:Assume).holds C.prog (lone (Frame.enter C.prog f i.args .normal) [] (w.forCall tape i)):=
  ⟨w0,fun _ _=>0,⟨#[],args,[]⟩,hos,hsh,(Input.okWide_of_okWideB (base:=0) hok).1,(Input.okWide_of_okWideB hok).2,
    ⟨⟨(OpenSpec.pre_some hk conds false _ _).2 ⟨x.1,x.2.1,x.2.2,DataW.Whole_of_whole hx,hconds,hkk⟩,hX⟩,sizedMet_of_sizedB hsz⟩,by
    simp only [Assume.holds]
    exact ⟨by simp,by simp,fun _=>Modest.zero,by simp,by simp⟩⟩
end
end Go.Fw
namespace Go.Proofs.YtbapejgbjpcadaaGreatDoor
open Go Go.Fw Go.ChangeShapes Go.WideShapes Go.ChangeAt Go.RowKit Go.Deep
set_option linter.unusedVariables false
section
variable {H:Type} {enc0:TypeId × Value→H} {w:World} {held:Bool}
theorem cutc {cs A B:List Value} {o s o2:Nat} (z:o2=o+s) (e:(cs.drop o).take s=A) (h:cs.drop o2=B):cs.drop o=A++B:=by
  subst z
  rw [cut_at cs o s,e,h]
theorem cutn {cs:List Value} {o n:Nat} (h:cs.length=n) (z:n=o):cs.drop o=[]:=List.drop_eq_nil_of_le (by omega)
theorem opn_vec {t e:TypeId} [ht:TSl Tryz.prog t e] {α:Type} {enc:α→List Value} {K:α→Prop} {sz:Nat} (he:Opn enc0 w held e enc K) (hc:Tryz.prog.cellsOf e=sz) (hsz:0<sz) (hl:∀a,(enc a).length=sz) :
    Opn enc0 w held t (fun v:Vec α=>[.slice v.o v.l.length v.c]) (fun v=>RdV w enc v∧v.l.length≤1048576∧∀a∈v.l,K a):=
  opn_imp (opn_slice he hc hsz hl) (fun v=>⟨v.1,v.2.1,v.2.2⟩) (fun v=>rfl) (fun v h=>h)
theorem opn_few {t e:TypeId} [ht:TSl Tryz.prog t e] {α:Type} {enc:α→List Value} {K:α→Prop} {sz:Nat} (he:Opn enc0 w held e enc K) (hc:Tryz.prog.cellsOf e=sz) (hsz:0<sz) (hl:∀a,(enc a).length=sz) :
    Opn enc0 w held t (fun s:Option Addr × Nat × Nat=>[encT3 s]) (fun s=>s.2.1≤1048576):=
  opn_imp (opn_slice he hc hsz hl) (fun v=>(v.1,v.2.2.length,v.2.1)) (fun v=>rfl) (fun v h=>h.2.1)
theorem opn_encI {t:TypeId} [h:TIn Tryz.prog t .i64]:Opn enc0 w held t Fw.encI (fun _=>True):=opn_imp opn_int id (fun _=>rfl) (fun _ _=>trivial)
def encA2 (a:Int × Int):List Value:=[.int .i64 a.1,.int .i64 a.2]
theorem encA2_len (a:Int × Int):(encA2 a).length=2:=rfl
theorem opn_atm:Opn enc0 w held 46 encA2 (fun _=>True):=fun fuel cs x hx=>by
  obtain ⟨n,hcl,hf⟩:=opn_struct hx
  obtain ⟨y0,h0,b0⟩:=hf 0 _ _ rfl
  obtain ⟨a0,e0,k0⟩:=(opn_int) n _ _ h0
  obtain ⟨y1,h1,b1⟩:=hf 1 _ _ rfl
  obtain ⟨a1,e1,k1⟩:=(opn_int) n _ _ h1
  exact ⟨⟨a0,a1⟩,cutc (o2:=1) (by kernel_rfl) e0 (cutc (o2:=2) (by kernel_rfl) e1 (cutn (o:=2) hcl (by kernel_rfl))),fun hb=>trivial⟩
def encS4 (s:Int × Int × (Option Addr × Nat × Nat) × (Option Addr × Nat × Nat)):List Value:=[.int .i64 s.1,.int .i64 s.2.1,encT3 s.2.2.1,encT3 s.2.2.2]
theorem opn_stp:Opn enc0 w held 49 encS4 (fun s=>s.2.2.1.2.1≤1048576∧s.2.2.2.2.1≤1048576):=fun fuel cs x hx=>by
  obtain ⟨n,hcl,hf⟩:=opn_struct hx
  obtain ⟨y0,h0,b0⟩:=hf 0 _ _ rfl
  obtain ⟨a0,e0,k0⟩:=(opn_int) n _ _ h0
  obtain ⟨y1,h1,b1⟩:=hf 1 _ _ rfl
  obtain ⟨a1,e1,k1⟩:=(opn_int) n _ _ h1
  obtain ⟨y2,h2,b2⟩:=hf 2 _ _ rfl
  obtain ⟨a2,e2,k2⟩:=(opn_few (opn_encI) (by kernel_rfl) (by decide) Fw.encI_len) n _ _ h2
  obtain ⟨y3,h3,b3⟩:=hf 3 _ _ rfl
  obtain ⟨a3,e3,k3⟩:=(opn_few (opn_atm) (by kernel_rfl) (by decide) encA2_len) n _ _ h3
  exact ⟨(a0,a1,a2,a3),cutc (o2:=1) (by kernel_rfl) e0 (cutc (o2:=2) (by kernel_rfl) e1 (cutc (o2:=3) (by kernel_rfl) e2 (cutc (o2:=4) (by kernel_rfl) e3 (cutn (o:=4) hcl (by kernel_rfl))))),fun hb=>⟨k2 (b2 hb),k3 (b3 hb)⟩⟩
theorem opn_cod:Opn enc0 w held 51 encCo (fun c=>RdV w Fw.encI c.to∧Few c):=fun fuel cs x hx=>by
  obtain ⟨n,hcl,hf⟩:=opn_struct hx
  obtain ⟨y0,h0,b0⟩:=hf 0 _ _ rfl
  obtain ⟨a0,e0,k0⟩:=(opn_int) n _ _ h0
  obtain ⟨y1,h1,b1⟩:=hf 1 _ _ rfl
  obtain ⟨a1,e1,k1⟩:=(opn_int) n _ _ h1
  obtain ⟨y2,h2,b2⟩:=hf 2 _ _ rfl
  obtain ⟨a2,e2,k2⟩:=(opn_stp) n _ _ h2
  obtain ⟨y3,h3,b3⟩:=hf 3 _ _ rfl
  obtain ⟨a3,e3,k3⟩:=(opn_few (opn_atm) (by kernel_rfl) (by decide) encA2_len) n _ _ h3
  obtain ⟨y4,h4,b4⟩:=hf 4 _ _ rfl
  obtain ⟨a4,e4,k4⟩:=(opn_few (opn_encI) (by kernel_rfl) (by decide) Fw.encI_len) n _ _ h4
  obtain ⟨y5,h5,b5⟩:=hf 5 _ _ rfl
  obtain ⟨a5,e5,k5⟩:=(opn_vec (opn_encI) (by kernel_rfl) (by decide) Fw.encI_len) n _ _ h5
  refine ⟨⟨a0,a1,a2.1,a2.2.1,a2.2.2.1,a2.2.2.2,a3,a4,a5⟩,cutc (o2:=1) (by kernel_rfl) e0 (cutc (o2:=2) (by kernel_rfl) e1 (cutc (o2:=6) (by kernel_rfl) e2 (cutc (o2:=7) (by kernel_rfl) e3 (cutc (o2:=8) (by kernel_rfl) e4 (cutc (o2:=9) (by kernel_rfl) e5 (cutn (o:=9) hcl (by kernel_rfl))))))),fun hb=>?_⟩
  have g2:=k2 (b2 hb)
  have g5:=k5 (b5 hb)
  exact ⟨g5.1,g2.1,g2.2,k3 (b3 hb),k4 (b4 hb),g5.2.1⟩
theorem opn_cf:Opn enc0 w held 24 encF (fun f=>RdF w f):=fun fuel cs x hx=>by
  obtain ⟨n,hcl,hf⟩:=opn_struct hx
  obtain ⟨y0,h0,b0⟩:=hf 0 _ _ rfl
  obtain ⟨a0,e0,k0⟩:=(opn_int) n _ _ h0
  obtain ⟨y1,h1,b1⟩:=hf 1 _ _ rfl
  obtain ⟨a1,e1,k1⟩:=(opn_int) n _ _ h1
  obtain ⟨y2,h2,b2⟩:=hf 2 _ _ rfl
  obtain ⟨a2,e2,k2⟩:=(opn_vec (opn_cod) (by kernel_rfl) (by decide) encCo_len) n _ _ h2
  refine ⟨⟨a0,a1,a2⟩,cutc (o2:=1) (by kernel_rfl) e0 (cutc (o2:=2) (by kernel_rfl) e1 (cutc (o2:=3) (by kernel_rfl) e2 (cutn (o:=3) hcl (by kernel_rfl)))),fun hb=>?_⟩
  have g2:=k2 (b2 hb)
  exact ⟨g2.1,g2.2.2,g2.2.1⟩
set_option maxRecDepth 100000 in
theorem argF {base:Nat} {v:Value} {d:DataW H} {p:List MemPlace} {ds:List (DataW H)} (hv:Value.okWide Tryz.prog w .any base 24 v) (h:DataW.Trod enc0 Tryz.prog w 0 (fun _=>true) held 24 v d p) (hd:d∈ds) (hk:∃gs,Rows.uptoSmall H (ds++gs)=true) :
    ∃f:CF,v= .agg (encF f).toArray∧RdF w f:=by
  obtain ⟨cs,rfl,_⟩:=okWide_struct Tryz.underlying24 hv
  obtain ⟨g,he,hK⟩:=opn_arg opn_cf h hd hk
  have he:cs.toList=encF g:=he
  exact ⟨g,by rw [←he],hK⟩
end
theorem own_:ownKnob Tryz.checked.prog.godebug=none:=by kernel_rfl
theorem laidOut:laidOutB Tryz.checked.prog=true:=by kernel_rfl
set_option maxRecDepth 100000 in
theorem door_met (os:Os) (args:Array Value):laidMetH Tryz.prog Rows.tierJoinsUptoRow.laid ((World.doorLaid Tryz.prog 400 os).forCall (fun _ _=>0) ⟨#[],args,[]⟩).memory:=
  laidMetH_of_parts3 (fuel:=8) (laidMet_of_run' 8 (by kernel_rfl) (by kernel_rfl)) (by kernel_rfl) (by kernel_rfl)
theorem door_shaped (os:Os) (args:Array Value):((World.doorLaid Tryz.prog 400 os).forCall (fun _ _=>0) ⟨#[],args,[]⟩).Shaped Tryz.prog:=World.shaped_of_RefB (by kernel_rfl) (by kernel_rfl)
end Go.Proofs.YtbapejgbjpcadaaGreatDoor
