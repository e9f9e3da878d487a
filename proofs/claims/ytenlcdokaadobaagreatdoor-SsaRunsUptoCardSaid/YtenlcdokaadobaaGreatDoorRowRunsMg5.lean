/-
  What steps do with arrays. Conditions: none.
  What operations do. Conditions: none.
  rt's Plain: moves, operations, closures, records, tags, texts alike. Conditions: none.
  rt's Plain: a record's field, a record with a field. Conditions: none.
  A region whose operations come up in one of several orders, and some of which come last. Conditions: none.
  rt's Plain: a record with a field. Conditions: none.
  rt's Plain, whatever the step; an exception's number. Conditions: none.
-/
import Derived.Test.YtenlcdokaadobaaGreatDoorRowRunsMg4
import Derived.Test.YtenlcdokaadobaaGreatDoorRowRunsMg2
set_option maxHeartbeats 64000000
set_option maxRecDepth 10000
namespace Go.Proofs.YtenlcdokaadobaaGreatDoor
open Go Go.Fw
set_option linter.unusedVariables false
def Rs.wd (r:Rs) (w:Wd):Wd:=
  match r with
  | .val _ w'=>w'
  | .exn _=>w
theorem sto_arr {w0 w:World} {H:List It} {sx:Sx} {i p k:Nat} {o:Option Addr} {us:List Value} (h:HS w0 noM (all (sx.map obI)::H) w) (hi:sx[i]?=some (p,Ob.arr o k us)) :
    HS w0 noM (cb p 246 [.slice o us.length k]::own 137 1 o us.length k us::all ((sx.map obI).eraseIdx i)::H) w:=
  HS.open_ (L:=[_,_]) (h.openAt (i:=i) (x:=obI (p,Ob.arr o k us)) (by rw [List.getElem?_map,hi];rfl))
theorem lI {w0 w:World} {H:List It} {sx:Sx} {i p k:Nat} {o:Option Addr} {us:List Value} (h:HS w0 noM (cb p 246 [.slice o us.length k]::own 137 1 o us.length k us::all ((sx.map obI).eraseIdx i)::H) w) (hi:i<sx.length) :
    HS w0 noM (all ((sx.set i (p,Ob.arr o k us)).map obI)::H) w:=by
  have h1:HS w0 noM (obI (p,Ob.arr o k us)::all ((sx.map obI).eraseIdx i)::H) w:=HS.shut (L:=[cb p 246 [.slice o us.length k],own 137 1 o us.length k us]) h
  have h2:=h1.shutAt (by rw [List.length_map];exact hi)
  rw [List.map_set]
  exact h2
theorem cH {w0 w:World} {H:List It} {sx:Sx} {p k:Nat} {o:Option Addr} {us:List Value} (h:HS w0 noM (cb p 246 [.slice o us.length k]::own 137 1 o us.length k us::all (sx.map obI)::H) w) :
    HS w0 noM (all ((sx++[(p,Ob.arr o k us)]).map obI)::H) w:=by
  have h1:HS w0 noM (obI (p,Ob.arr o k us)::all (sx.map obI)::H) w:=HS.shut (L:=[cb p 246 [.slice o us.length k],own 137 1 o us.length k us]) h
  have h2:=h1.pushA
  rw [List.map_append]
  exact h2
theorem dZ {w0 w:World} {H:List It} {sx:Sx} {i p:Nat} {v:Value} (h:HS w0 noM (all (sx.map obI)::H) w) (hi:sx[i]?=some (p,Ob.cell v)) :
    HS w0 noM (cb p 234 [v]::all ((sx.map obI).eraseIdx i)::H) w:=h.openAt (i:=i) (x:=obI (p,Ob.cell v)) (by rw [List.getElem?_map,hi];rfl)
theorem oW {w0 w:World} {H:List It} {sx:Sx} {i p:Nat} {v:Value} (h:HS w0 noM (cb p 234 [v]::all ((sx.map obI).eraseIdx i)::H) w) (hi:i<sx.length) :
    HS w0 noM (all ((sx.set i (p,Ob.cell v)).map obI)::H) w:=by
  have h1:HS w0 noM (obI (p,Ob.cell v)::all ((sx.map obI).eraseIdx i)::H) w:=h
  have h2:=h1.shutAt (by rw [List.length_map];exact hi)
  rw [List.map_set]
  exact h2
theorem fV {w0 w:World} {H:List It} {sx:Sx} {p:Nat} {v:Value} (h:HS w0 noM (cb p 234 [v]::all (sx.map obI)::H) w) :
    HS w0 noM (all ((sx++[(p,Ob.cell v)]).map obI)::H) w:=by
  have h1:HS w0 noM (obI (p,Ob.cell v)::all (sx.map obI)::H) w:=h
  have h2:=h1.pushA
  rw [List.map_append]
  exact h2
theorem cK {α:Type} {l:List α} {i:Nat} {x:α} (h:l[i]?=some x):l.set i x=l:=kS h
theorem fG {α:Type} {l:List α} {i:Nat} {x d:α} (h:l[i]?=some x):l.getD i d=x:=by rw [List.getD_eq_getElem?_getD,h];rfl
theorem arr_of {c:Cx} {sx:Sx} {st:List (List Vl)} {i p:Nat} (h:StR c sx st) (hi:c.ad[i]?=some (p,false)):∃o k us l,sx[i]?=some (p,.arr o k us)∧st[i]?=some l∧RVs c l us:=by
  obtain ⟨ob,l,h1,h2,h3,h4⟩:=h.place hi
  cases ob with
  |cell v=>cases h2
  |arr o k us=>exact ⟨o,k,us,l,h1,h3,h4⟩
theorem cell_of {c:Cx} {sx:Sx} {st:List (List Vl)} {i p:Nat} (h:StR c sx st) (hi:c.ad[i]?=some (p,true)):∃v x,sx[i]?=some (p,.cell v)∧st[i]?=some [x]∧RV c x v:=by
  obtain ⟨ob,l,h1,h2,h3,h4⟩:=h.place hi
  cases ob with
  |arr o k us=>cases h2
  | cell v=>
    obtain ⟨x,rfl,h5⟩:=h4
    exact ⟨v,x,h1,h3,h5⟩
def Pst (w0:World) (c:Cx) (H:List It) (r:Rs) (wd:Wd) (v:Value) (w:World):Prop:=
  ∃d sx,(c.le d∧d.bd≤c.bd+1)∧HS w0 noM (frz w0 d.K::all (sx.map obI)::H) w∧RsV d r v∧StR d sx (r.wd wd).st
theorem Pst.same {w0 w:World} {c:Cx} {H:List It} {r:Rs} {wd:Wd} {v:Value} {sx:Sx} (hH:HS w0 noM (frz w0 c.K::all (sx.map obI)::H) w) (hr:RsV c r v) (hS:StR c sx (r.wd wd).st):Pst w0 c H r wd v w:=⟨c,sx,⟨c.le_refl,Nat.le_succ _⟩,hH,hr,hS⟩
theorem RV_ar {c:Cx} {i p:Nat} (h:c.ad[i]?=some (p,false)):RV c (.ar i) (uT 243 p):=by rw [RV];exact ⟨p,rfl,h⟩
theorem RV_cl {c:Cx} {i p:Nat} (h:c.ad[i]?=some (p,true)):RV c (.cl i) (uT 232 p):=by rw [RV];exact ⟨p,rfl,h⟩
theorem StR.next {c:Cx} {sx:Sx} {st:List (List Vl)} (h:StR c sx st) (e:Nat × Bool):(c.ad++[e])[st.length]?=some e:=by
  have h1:c.ad.length=st.length:=by rw [h.ad,←h.len];unfold adr;rw [List.length_map]
  rw [List.getElem?_append_right (by omega),h1,Nat.sub_self]
  rfl
theorem Pst.arr {w0 w:World} {c:Cx} {H:List It} {r:Rs} {wd:Wd} {sx:Sx} {p m:Nat} {o:Option Addr} {x:Vl} {u v:Value} (hH:HS w0 noM (cb p 246 [.slice o m m]::own 137 1 o m m (List.replicate m u)::all (sx.map obI)::frz w0 c.K::H) w) (hx:RV c x u) (hS:StR c sx wd.st)
    (hr:r= .val (.ar wd.st.length) {wd with st:=wd.st++[List.replicate m x]}) (hv:v= .tuple #[uT 243 p,.string empS]):Pst w0 c H r wd v w:=by
  obtain ⟨hle,hS2⟩:=hS.add (p:=p) (ob:=.arr o m (List.replicate m u)) (l:=List.replicate m x) (RVs.rep hx m)
  refine ⟨_,_,⟨hle,Nat.le_succ _⟩,?_,RsV_val hr (RV_ar (hS.next _)) hv,by rw [hr];exact hS2⟩
  have e:(List.replicate m u).length=m:=List.length_replicate
  have h1:HS w0 noM (cb p 246 [.slice o (List.replicate m u).length m]::own 137 1 o (List.replicate m u).length m (List.replicate m u)::all (sx.map obI)::frz w0 c.K::H) w:=by rw [e];exact hH
  exact (cH h1).perm (.swap _ _ _)
theorem arr13 {l:List Vl} {wd:Wd} {op:Int} (h:op=13):vV op l wd=(match asNum (zS l 0) with|some n=>if n<0∨256<n then .exn rX else .val (.ar wd.st.length) {wd with st:=wd.st++[List.replicate n.toNat (zS l 1)]}|none=>stk wd):=if_pos h
theorem lD {l:List Vl} {wd:Wd} {op:Int} (h:op≠13):vV op l wd=(match asAr (zS l 0) with
    | some p=>
      if op=16 then .val (.num (wd.st.getD p []).length) wd
      else
        match asNum (zS l 1) with
        | some i=>
          if i<0∨((wd.st.getD p []).length:Int)≤i then .exn uX
          else if op=14 then .val (zS (wd.st.getD p []) i.toNat) wd
          else .val (.num 0) {wd with st:=wd.st.set p ((wd.st.getD p []).set i.toNat (zS l 2))}
        |none=>stk wd
    |none=>stk wd):=if_neg h
theorem put_set {cs:List Value} {j:Nat} {v:Value} (h:j<cs.length):put cs (j*1) [v]=cs.set j v:=by
  rw [Nat.mul_one,List.set_eq_take_append_cons_drop,if_pos h]
  simp [put]
section
attribute [local irreducible] Code.wp wpList Calls Ex Op1 sat bat blk cb own Go.Fw.mp Go.Fw.mpO Go.Fw.mpI Go.Fw.mpE Go.Fw.itr HS Rd Ret wkD Hp Cl Cls Exit.then Exit.inBlock Exit.noGoto bodyPost Go.Fw.flat wk2 Go.Fw.all Go.Fw.owns wpOp
attribute [local irreducible] sk mpK sko mvO xM opM Go.Fw.mset Go.Fw.mv opK w63 frz obI RV

theorem arrays_spec (w0 w:World) (H:List It) (c:Cx) (op:Int) (l:List Vl) (vs:List Value) (oL:Option Addr) (cL:Nat) (wd:Wd) (sx:Sx) (hH:HS w0 noM (frz w0 c.K::all (sx.map obI)::H) w) (hL:∀w,c.K w→Rd w oL vs) (hV:RVs c l vs) (hS:StR c sx wd.st)
    (hop:(op=13∧2≤l.length)∨(op=14∧2≤l.length)∨(op=15∧3≤l.length)∨(op=16∧1≤l.length)) :
    Ret Tryz.prog 116 #[.int .i64 op,.slice oL vs.length cL] w (fun v w'=>Pst w0 c H (vV op l wd) wd v w'):=by
  have hvl:=hV.len
  have hsp:Sp oL vs.length:=(hL w (hH.frz (.head _))).sp (sz:=1) (by omega) (by omega)
  obtain ⟨v0,hv0,hx0⟩:=hV.get0 (i:=0) (by omega)
  (refine ENT (N:=98) Tryz.func116 Tryz.ntmps116 ?_;intro a hA)
  by_cases h13:op=13
  · obtain ⟨v1,hv1,hx1⟩:=hV.get0 (i:=1) (by omega)
    have e13:=arr13 (l:=l) (wd:=wd) h13
    repeat' (first|(refine XT ?_;apply XE;(first|(apply zC;rfl;rfl;decide;omega;exact hsp)|(apply zF;rfl;exact zP MEMT hL hv0));clear hA a;intro a hA)|(refine QT ?_;clear hA a;intro a hA)|refine CT ?_|(refine DT ?_ ?_<;>intro hc<;>try (exfalso;omega))|fail)
    rcases hx0.asNum with ⟨n,hs,rfl,hio⟩| ⟨hs,hn⟩
    rotate_left
    · repeat' (first|(refine XT ?_;apply XE;(first|(apply yO;rfl;exact hn));clear hA a;intro a hA)|(refine QT ?_;clear hA a;intro a hA)|refine CT ?_|fail)
      rw [hs] at e13
      exact rt2 (.inl rfl) rfl hA rfl rfl (Pst.same hH (RsV_stk e13 rfl) (by rw [e13];exact hS))
    rw [hs] at e13
    dsimp only at e13
    repeat' (first|(refine GT ?_ ?_<;>intro hg<;>clear hA a<;>intro a hA<;>(first|exact FA|replace hg:=dTr hg|replace hg:=dFa hg|skip))|(refine XT ?_;apply XE;(first|(apply zW;rfl)|(apply zF;rfl;exact zP MEMT hL hv1));clear hA a;intro a hA)|(refine QT ?_;clear hA a;intro a hA)|refine CT ?_|(refine DT ?_ ?_<;>intro hc<;>try (exfalso;omega))|fail)
    · rw [if_pos (.inl (by omega))] at e13
      exact rt2 (.inl rfl) rfl hA rfl rfl (Pst.same hH (RsV_exn e13 rfl) (by rw [e13];exact hS))
    · rw [if_pos (.inr (by omega))] at e13
      exact rt2 (.inl rfl) rfl hA rfl rfl (Pst.same hH (RsV_exn e13 rfl) (by rw [e13];exact hS))
    rw [if_neg (by omega)] at e13
    obtain ⟨m,rfl⟩:∃m:Nat,n=m:=⟨n.toNat,by omega⟩
    (apply zJ hA rfl rfl (by decide);apply zQ (xs:=[v1]) (vs:=[v1]);rfl;rfl;exact .c1 hx1.one .nil;rfl;rfl;rfl;exact hH;clear hA hH;rintro _ w ⟨oN,rfl,hH⟩ a hA)
    repeat' (first|(refine QT ?_;clear hA a;intro a hA)|fail)
    have hrp:=cZ w oN m v1 (hH.own_rd (T:=137) (.head _)) hx1.one (by omega)
    (refine zJ hA rfl rfl (by decide) (zE rfl rfl rfl hrp) ?_;clear hA;rintro _ w ⟨oR,rfl,hj⟩ a hA;replace hH:=hH.join hj;clear hj hrp)
    repeat' (first|(refine XT ?_;apply XE;(first|(apply yJ;rfl));clear hA a;intro a hA)|(refine QT ?_;clear hA a;intro a hA)|(refine BT ?_;clear hA hH;rintro _ w ⟨bN,rfl,hH⟩ a hA)|refine CT ?_|fail)
    exact rt2 (.inl rfl) rfl hA rfl rfl (Pst.arr (x:=zS l 1) (hH.perm (H':=cb bN 246 [.slice oR m m]::own 137 1 oR m m (List.replicate m v1)::all (sx.map obI)::frz w0 c.K::own 137 1 oN 1 1 [v1]::H) PMT |>.rm 4) hx1 hS e13 rfl)
  · have eN:=lD (l:=l) (wd:=wd) h13
    repeat' (first|(refine XT ?_;apply XE;(first|(apply zC;rfl;rfl;decide;omega;exact hsp)|(apply zF;rfl;exact zP MEMT hL hv0));clear hA a;intro a hA)|(refine QT ?_;clear hA a;intro a hA)|refine CT ?_|(refine DT ?_ ?_<;>intro hc<;>try (exfalso;omega))|fail)
    rcases hx0.asAr with ⟨i,p,hs,rfl,hio⟩| ⟨hs,hn⟩
    rotate_left
    · repeat' (first|(refine XT ?_;apply XE;(first|(apply yO;rfl;exact hn));clear hA a;intro a hA)|(refine QT ?_;clear hA a;intro a hA)|refine CT ?_|fail)
      rw [hs] at eN
      exact rt2 (.inl rfl) rfl hA rfl rfl (Pst.same hH (RsV_stk eN rfl) (by rw [eN];exact hS))
    rw [hs] at eN
    dsimp only at eN
    obtain ⟨o,k,us,xs,hsx,hst,hus⟩:=arr_of hS hio
    have hul:=hus.len
    rw [fG hst] at eN
    have hiL:=(List.getElem?_eq_some_iff.1 hsx).1
    have hH2:=sto_arr ((hH.perm (.swap _ _ _))) hsx
    clear hH
    have hH:=hH2
    clear hH2
    have hback:∀w,HS w0 noM (cb p 246 [.slice o us.length k]::own 137 1 o us.length k us::all ((sx.map obI).eraseIdx i)::frz w0 c.K::H) w→HS w0 noM (frz w0 c.K::all (sx.map obI)::H) w:=fun w h=>by
      have h2:=lI h hiL
      rw [cK hsx] at h2
      exact h2.perm (.swap _ _ _)
    have hspU:=hH.own_sp (T:=137) (o:=o) (by exact MEMT)
    repeat' (first|(refine XT ?_;apply XE;(first|(apply zW;rfl)|(apply yJ;rfl));clear hA a;intro a hA)|(refine QT ?_;clear hA a;intro a hA)|refine CT ?_|(refine DT ?_ ?_<;>intro hc<;>try (exfalso;omega))|fail)
    · rw [if_pos (by assumption)] at eN
      have hle:=(hH.own_le (T:=137) (o:=o) (by exact MEMT))
      unfold maxLen at hle
      exact rt2 (.inl rfl) rfl hA rfl rfl (Pst.same (hback _ hH) (RsV_val (x:=.num xs.length) eN (by rw [←hul];exact RV_num ⟨by omega,by omega⟩) rfl) (by rw [eN];exact hS))
    rw [if_neg (by assumption)] at eN
    obtain ⟨v1,hv1,hx1⟩:=hV.get0 (i:=1) (by omega)
    repeat' (first|(refine XT ?_;apply XE;(first|(apply zF;rfl;exact zP MEMT hL hv1));clear hA a;intro a hA)|(refine QT ?_;clear hA a;intro a hA)|fail)
    rcases hx1.asNum with ⟨j,hj,rfl,hjo⟩| ⟨hj,hn⟩
    rotate_left
    · repeat' (first|(refine XT ?_;apply XE;(first|(apply yO;rfl;exact hn));clear hA a;intro a hA)|(refine QT ?_;clear hA a;intro a hA)|refine CT ?_|fail)
      rw [hj] at eN
      exact rt2 (.inl rfl) rfl hA rfl rfl (Pst.same (hback _ hH) (RsV_stk eN rfl) (by rw [eN];exact hS))
    rw [hj] at eN
    dsimp only at eN
    have hget:∀h:¬(j<0∨(xs.length:Int)≤j),∃u,us[j.toNat*1]?=some u∧RV c (zS xs j.toNat) u:=fun h=>by
      obtain ⟨u,h1,h2⟩:=hus.get0 (i:=j.toNat) (by omega)
      exact ⟨u,by rw [Nat.mul_one];exact h1,h2⟩
    by_cases hb:j<0∨(xs.length:Int)≤j
    · rw [if_pos hb] at eN
      repeat' (first|(refine GT ?_ ?_<;>intro hg<;>clear hA a<;>intro a hA<;>(first|exact FA|replace hg:=dTr hg|replace hg:=dFa hg|skip))|(refine XT ?_;apply XE;(first|(apply zW;rfl));clear hA a;intro a hA)|(refine QT ?_;clear hA a;intro a hA)|refine CT ?_|(refine DT ?_ ?_<;>intro hc<;>try (exfalso;omega))|fail)
      all_goals exact rt2 (.inl rfl) rfl hA rfl rfl (Pst.same (hback _ hH) (RsV_exn eN rfl) (by rw [eN];exact hS))
    obtain ⟨u,hu,hxu⟩:=hget hb
    rw [if_neg hb] at eN
    by_cases h14:op=14
    · rw [if_pos h14] at eN
      repeat' (first|(refine GT ?_ ?_<;>intro hg<;>clear hA a<;>intro a hA<;>(first|exact FA|replace hg:=dTr hg|replace hg:=dFa hg|skip))|(refine XT ?_;apply XE;(first|(apply zW;rfl)|(apply zC;rfl;rfl;omega;omega;exact hspU)|(apply zF;rfl;apply xJ (T:=137) (o:=o);exact MEMT;exact hu));clear hA a;intro a hA)|(refine QT ?_;clear hA a;intro a hA)|refine CT ?_|(refine DT ?_ ?_<;>intro hc<;>try (exfalso;omega))|fail)
      exact rt2 (.inl rfl) rfl hA rfl rfl (Pst.same (hback _ hH) (RsV_val eN hxu rfl) (by rw [eN];exact hS))
    · rw [if_neg h14] at eN
      obtain ⟨v2,hv2,hx2⟩:=hV.get0 (i:=2) (by omega)
      repeat' (first|(refine GT ?_ ?_<;>intro hg<;>clear hA a<;>intro a hA<;>(first|exact FA|replace hg:=dTr hg|replace hg:=dFa hg|skip))|(refine XT ?_;apply XE;(first|(apply zW;rfl));clear hA a;intro a hA)|(refine QT ?_;clear hA a;intro a hA)|refine CT ?_|(refine DT ?_ ?_<;>intro hc<;>try (exfalso;omega))|fail)
      have hjl:j.toNat<us.length:=by omega
      have hjl1:j.toNat*1<us.length:=by omega
      have hps:=put_set (v:=v2) hjl
      have h1v:=hx2.one
      (refine zN [(0,1),(1,1),(2,1),(3,1),(4,1),(5,1),(6,1),(7,1),(8,1)] [9] mixed (by decide +kernel) hH ?_;replace hH:=hH.drew)
      repeat' (first|(refine XT ?_;apply XE;(first|(apply zC;rfl;rfl;decide;omega;exact hsp)|(apply zC;rfl;rfl;omega;omega;exact hspU)|(apply zF;rfl;exact zP MEMT hL hv2));clear hA a;intro a hA)|(refine QT ?_;clear hA a;intro a hA)|refine CT ?_|fail)
      (apply yB hA rfl rfl rfl;apply vB;rfl;rfl;exact h1v;exact hH;(repeat constructor);exact hjl1;exact hps;clear hH;rintro _ w hH)
      repeat' (first|(refine XT ?_;apply XE;(first|(apply yJ;rfl));clear hA a;intro a hA)|(refine QT ?_;clear hA a;intro a hA)|refine CT ?_|fail)
      have hlen:(us.set j.toNat v2).length=us.length:=List.length_set
      rw [←hlen] at hH
      have h2:=lI hH hiL
      have hS2:=hS.set (ob':=.arr o k (us.set j.toNat v2)) (l:=xs.set j.toNat (zS l 2)) hsx rfl (RVs.set hus hx2)
      exact rt2 (.inl rfl) rfl hA rfl rfl ⟨c,_,⟨c.le_refl,Nat.le_succ _⟩,h2.perm (.swap _ _ _),RsV_val eN (RV_num ⟨by omega,by omega⟩) rfl,by rw [eN];exact hS2⟩
end
def yA (g:Grs) (kd:Int) (s:ByteArray) (o:Option Addr) (n c:Nat):List Value:=[.slice g.xs.o g.xs.l.length g.xs.c,.slice g.ss.o g.ss.l.length g.ss.c,.int .i64 kd,.string s,.slice o n c]
def Wst (w0:World) (c:Cx) (TM bM:Nat) (g:Grs) (kd:Int) (rest:List Value) (H:List It) (r:Rs) (wd:Wd) (v:Value) (w:World):Prop:=
  ∃d sx oO cO,(c.le d∧d.bd≤c.bd+1)∧HS w0 noM (cb bM TM (yA g kd (r.wd wd).inp oO (r.wd wd).out.length cO++rest)::own 5 1 oO (r.wd wd).out.length cO (flat zY (r.wd wd).out)::frz w0 d.K::all (sx.map obI)::H) w∧RsV d r v∧StR d sx (r.wd wd).st
theorem Wst.same {w0 w:World} {c d:Cx} {TM bM:Nat} {g:Grs} {kd:Int} {rest:List Value} {H:List It} {r:Rs} {wd:Wd} {v:Value} {sx:Sx} {oO:Option Addr} {cO:Nat} (hd:c.le d) (hH:HS w0 noM (cb bM TM (yA g kd wd.inp oO wd.out.length cO++rest)::own 5 1 oO wd.out.length cO (flat zY wd.out)::frz w0 d.K::all (sx.map obI)::H) w) (hr:RsV d r v) (hS:StR d sx (r.wd wd).st) (hi:(r.wd wd).inp=wd.inp) (ho:(r.wd wd).out=wd.out) (hb:d.bd≤c.bd+1:=by exact Nat.le_succ _) :
    Wst w0 c TM bM g kd rest H r wd v w:=⟨d,sx,oO,cO,⟨hd,hb⟩,by rw [hi,ho];exact hH,hr,hS⟩
theorem texts_wd {op:Int} {l:List Vl} {wd:Wd}:(wG op l wd).wd wd=wd:=by
  unfold wG
  split
  · split
    · rfl
    · split
      · split
        · split<;>rfl
        · rfl
      · split
        · split<;>rfl
        · rfl
  · rfl
theorem arrays_io {op:Int} {l:List Vl} {wd:Wd}:((vV op l wd).wd wd).inp=wd.inp∧((vV op l wd).wd wd).out=wd.out:=by
  unfold vV
  split
  · split
    · split<;>exact ⟨rfl,rfl⟩
    · exact ⟨rfl,rfl⟩
  · split
    · split
      · exact ⟨rfl,rfl⟩
      · split
        · split
          · exact ⟨rfl,rfl⟩
          · split<;>exact ⟨rfl,rfl⟩
        · exact ⟨rfl,rfl⟩
    · exact ⟨rfl,rfl⟩
theorem op_10 {op:Int} {l:List Vl} {wd:Wd} (h:op=10):opF op l wd= .val (.cl wd.st.length) {wd with st:=wd.st++[[zS l 0]]}:=if_pos h
theorem op_11 {op:Int} {l:List Vl} {wd:Wd} (h:op=11):opF op l wd=(match asCl (zS l 0) with|some p=>.val (zS (wd.st.getD p []) 0) wd|none=>stk wd):=by
  subst h;rfl
theorem op_12 {op:Int} {l:List Vl} {wd:Wd} (h:op=12):opF op l wd=(match asCl (zS l 0) with|some p=>.val (.num 0) {wd with st:=wd.st.set p [zS l 1]}|none=>stk wd):=by
  subst h;rfl
theorem rQ {op:Int} {l:List Vl} {wd:Wd} (h:op=17∨op=18∨op=19):opF op l wd=wG op l wd:=by
  rcases h with rfl|rfl|rfl<;>rfl
theorem tF {op:Int} {l:List Vl} {wd:Wd} (h:op=13∨op=14∨op=15∨op=16):opF op l wd=vV op l wd:=by
  rcases h with rfl|rfl|rfl|rfl<;>rfl
theorem mL {op:Int} {l:List Vl} {wd:Wd} (h:op<10∨19<op):opF op l wd=(match asNum (zS l 0),(if 1<l.length then asNum (zS l 1) else some 0) with
    | some a,some b=>
      if op=20 then (if eqS wd.inp empS=true then .val (.num (-1)) wd else .val (.num ((bts wd.inp).getD 0 0)) {wd with inp:=wd.inp.extract 1 wd.inp.size})
      else if op=21 then .val (.num 0) {wd with out:=wd.out++[(IntKind.u8.wrap a).toNat]}
      else match doF op a b with
        |some n=>.val (.num n) wd
        |none=>.exn pW
    |_,_=>stk wd):=by
  unfold opF
  rw [if_neg (by omega),if_neg (by omega),if_neg (by omega),if_neg (by omega),if_neg (by omega)]
  rfl
theorem eS {s:ByteArray} (h:eqS s empS=false):0<(bts s).length:=by
  rcases Nat.eq_zero_or_pos (bts s).length with h0|h0
  · rw [wI] at h0
    have:s=empS:=by
      cases s with
      |mk d=>unfold empS;congr 1;exact Array.eq_empty_of_size_eq_zero h0
    rw [this,show eqS empS empS=true from beq_self_eq_true _] at h
    cases h
  · exact h0
theorem eX (l:List Nat) (n:Nat):flat zY l++[.int .u8 (n:Int)]=flat zY (l++[n]):=by rw [vQ];rfl
theorem lenY (l:List Nat) (n:Nat):(l++[n]).length=l.length+1:=by rw [List.length_append];rfl
theorem u8_nat (a:Int):((IntKind.u8.wrap a).toNat:Int)=IntKind.u8.wrap a:=by
  have:IntKind.u8.wrap a=a % 256:=rfl
  rw [this]
  omega
theorem shr_63 (x:Int) (h:iok x):iok (pR .i64 x 1):=by
  unfold pR iok at *
  have:min (Int.toNat 1) IntKind.i64.bits=1:=by decide
  rw [this,Int.fdiv_eq_ediv_of_nonneg _ (by decide)]
  show -9223372036854775808≤x / 2∧x / 2≤9223372036854775807
  omega
theorem wrap_iok (x:Int):iok (IntKind.i64.wrap x):=by
  have h:IntKind.i64.wrap x=if (x % 18446744073709551616)≥9223372036854775808 then x % 18446744073709551616 - 18446744073709551616 else x % 18446744073709551616:=by
    unfold IntKind.wrap
    simp [IntKind.bits,IntKind.signed]
  rw [h]
  unfold iok
  split<;>omega
theorem w63_iok (n:Int):iok (w63 n):=by
  unfold w63 shlK
  exact shr_63 _ (wrap_iok _)
theorem kL {op a b n:Int} (h:doF op a b=some n):iok n:=by
  unfold doF at h
  split at h
  · cases h
  · split at h
    · cases h
    · cases h;exact w63_iok _
section
attribute [local irreducible] Code.wp wpList Calls Ex Op1 sat bat blk cb own Go.Fw.mp Go.Fw.mpO Go.Fw.mpI Go.Fw.mpE Go.Fw.itr HS Rd Ret wkD Hp Cl Cls Exit.then Exit.inBlock Exit.noGoto bodyPost Go.Fw.flat wk2 Go.Fw.all Go.Fw.owns wpOp
attribute [local irreducible] sk mpK sko mvO xM opM Go.Fw.mset Go.Fw.mv opK w63 frz obI RV

theorem op_spec (w0 w : World) (H :List It) (c:Cx) (TM bM:Nat) (g:Grs) (kd:Int) (rest:List Value) (op:Int) (l:List Vl) (vs:List Value) (oL oO:Option Addr) (cL cO:Nat) (wd:Wd) (sx:Sx) (hH:HS w0 noM (cb bM TM (yA g kd wd.inp oO wd.out.length cO++rest)::own 5 1 oO wd.out.length cO (flat zY wd.out)::frz w0 c.K::all (sx.map obI)::H) w)
    (hL:∀w,c.K w→Rd w oL vs) (hV:RVs c l vs) (hS:StR c sx wd.st) (hlo:1≤op) (hhi:op≤21) (hop:(l.length:Int)=wO op) (hout:wd.out.length≤1000000) :
    Ret Tryz.prog 92 #[.pointer (some (bat bM 0)),.int .i64 op,.slice oL vs.length cL] w (fun v w'=>Wst w0 c TM bM g kd rest H (opF op l wd) wd v w'):=by
  have hvl:=hV.len
  have hl1:1≤l.length:=by unfold wO at hop;(repeat' split at hop)<;>omega
  have hsp:Sp oL vs.length:=(hL w (hH.frz (by exact MEMT))).sp (sz:=1) (by omega) (by omega)
  obtain ⟨v0,hv0,hx0⟩:=hV.get0 (i:=0) (by omega)
  (refine ENT (N:=153) Tryz.func92 Tryz.ntmps92 ?_;intro a hA)
  by_cases h10:op=10
  · have e:=op_10 (l:=l) (wd:=wd) h10
    have hone:([v0]:List Value).all (·.oneCell')=true:=by simp [hx0.one]
    repeat' (first|(refine XT ?_;apply XE;(first|(apply zC;rfl;rfl;decide;omega;exact hsp)|(apply zF;rfl;exact zP MEMT hL hv0)|(apply yJ;rfl)|(apply sQ (vs:=[v0]);rfl;rfl;rfl;exact hone;rfl;exact FLT));clear hA a;intro a hA)|(refine QT ?_;clear hA a;intro a hA)|(refine BT ?_;clear hA hH;rintro _ w ⟨bN,rfl,hH⟩ a hA)|refine CT ?_|(refine DT ?_ ?_<;>intro hc<;>try (exfalso;omega))|fail)
    obtain ⟨hle,hS2⟩:=hS.add (p:=bN) (ob:=.cell v0) (l:=[zS l 0]) ⟨_,rfl,hx0⟩
    have h2:=fV (hH.perm (H':=cb bN 234 [v0]::all (sx.map obI)::cb bM TM (yA g kd wd.inp oO wd.out.length cO++rest)::own 5 1 oO wd.out.length cO (flat zY wd.out)::frz w0 c.K::H) PMT)
    exact rt2 (.inl rfl) rfl hA rfl rfl (Wst.same hle (h2.perm PMT) (RsV_val e (RV_cl (hS.next _)) rfl) (by rw [e];exact hS2) (by rw [e];rfl) (by rw [e];rfl))
  by_cases h11:op=11
  · have e:=op_11 (l:=l) (wd:=wd) h11
    repeat' (first|(refine XT ?_;apply XE;(first|(apply zC;rfl;rfl;decide;omega;exact hsp)|(apply zF;rfl;exact zP MEMT hL hv0));clear hA a;intro a hA)|(refine QT ?_;clear hA a;intro a hA)|refine CT ?_|(refine DT ?_ ?_<;>intro hc<;>try (exfalso;omega))|fail)
    rcases hx0.asCl with ⟨i,p,hs,rfl,hio⟩| ⟨hs,hn⟩
    rotate_left
    · rw [hs] at e
      repeat' (first|(refine XT ?_;apply XE;(first|(apply yO;rfl;exact hn));clear hA a;intro a hA)|(refine QT ?_;clear hA a;intro a hA)|refine CT ?_|fail)
      exact rt2 (.inl rfl) rfl hA rfl rfl (Wst.same c.le_refl hH (RsV_stk e rfl) (by rw [e];exact hS) (by rw [e];rfl) (by rw [e];rfl))
    rw [hs] at e
    obtain ⟨u,x,hsx,hst,hux⟩:=cell_of hS hio
    dsimp only at e
    rw [fG hst] at e
    have hiL:=(List.getElem?_eq_some_iff.1 hsx).1
    have hH2:=dZ (hH.perm (H':=all (sx.map obI)::cb bM TM (yA g kd wd.inp oO wd.out.length cO++rest)::own 5 1 oO wd.out.length cO (flat zY wd.out)::frz w0 c.K::H) PMT) hsx
    clear hH
    have hH:=hH2
    clear hH2
    repeat' (first|(refine XT ?_;apply XE;(first|(apply zW;rfl));clear hA a;intro a hA)|(refine QT ?_;clear hA a;intro a hA)|refine CT ?_|fail)
    have h2:=oW hH hiL
    rw [cK hsx] at h2
    exact rt2 (.inl rfl) rfl hA rfl rfl (Wst.same c.le_refl (h2.perm PMT) (RsV_val e hux rfl) (by rw [e];exact hS) (by rw [e];rfl) (by rw [e];rfl))
  by_cases h12:op=12
  · have e := op_12 (l := l) (wd :=wd) h12
    have hl2 : 2 ≤ l.length := by rw [h12] at hop;have:wO 12=2:=by decide
                                  omega
    obtain ⟨v1,hv1,hx1⟩:=hV.get0 (i:=1) (by omega)
    repeat' (first|(refine XT ?_;apply XE;(first|(apply zC;rfl;rfl;decide;omega;exact hsp)|(apply zF;rfl;exact zP MEMT hL hv0));clear hA a;intro a hA)|(refine QT ?_;clear hA a;intro a hA)|refine CT ?_|(refine DT ?_ ?_<;>intro hc<;>try (exfalso;omega))|fail)
    rcases hx0.asCl with ⟨i,p,hs,rfl,hio⟩| ⟨hs,hn⟩
    rotate_left
    · rw [hs] at e
      repeat' (first|(refine XT ?_;apply XE;(first|(apply yO;rfl;exact hn));clear hA a;intro a hA)|(refine QT ?_;clear hA a;intro a hA)|refine CT ?_|fail)
      exact rt2 (.inl rfl) rfl hA rfl rfl (Wst.same c.le_refl hH (RsV_stk e rfl) (by rw [e];exact hS) (by rw [e];rfl) (by rw [e];rfl))
    rw [hs] at e
    obtain ⟨u,x,hsx,hst,hux⟩:=cell_of hS hio
    dsimp only at e
    have hiL:=(List.getElem?_eq_some_iff.1 hsx).1
    have hH2:=dZ (hH.perm (H':=all (sx.map obI)::cb bM TM (yA g kd wd.inp oO wd.out.length cO++rest)::own 5 1 oO wd.out.length cO (flat zY wd.out)::frz w0 c.K::H) PMT) hsx
    clear hH
    have hH:=hH2
    clear hH2
    have h1v:=hx1.one
    repeat' (first|(refine XT ?_;apply XE;(first|(apply zW;rfl)|(apply zC;rfl;rfl;decide;omega;exact hsp)|(apply zF;rfl;exact zP MEMT hL hv1)|(apply yJ;rfl));clear hA a;intro a hA)|(refine QT ?_;clear hA a;intro a hA)|(apply zT hA rfl rfl;apply zG (cs':=[v1]);rfl;rfl;exact h1v;exact hH;(repeat constructor);clear hH;rintro _ w hH)|refine CT ?_|fail)
    have h2:=oW hH hiL
    have hS2:=hS.set (ob':=.cell v1) (l:=[zS l 1]) hsx rfl ⟨_,rfl,hx1⟩
    exact rt2 (.inl rfl) rfl hA rfl rfl (Wst.same c.le_refl (h2.perm PMT) (RsV_val e (RV_num ⟨by omega,by omega⟩) rfl) (by rw [e];exact hS2) (by rw [e];rfl) (by rw [e];rfl))
  by_cases htx:op=17∨op=18∨op=19
  · have e := rQ (l := l) (wd := wd) htx
    have hopx : (op = 17 ∧ 1 ≤ l.length)∨((op=18∨op=19)∧2≤l.length):=by
      rcases htx with rfl|rfl|rfl
      · exact .inl ⟨rfl,hl1⟩
      · exact .inr ⟨.inl rfl, by have:wO 18=2:=by decide
                                 omega⟩
      · exact .inr ⟨.inr rfl, by have:wO 19=2:=by decide
                                 omega⟩
    have hRw:=fun (w:World) (h:HS w0 noM (cb bM TM (yA g kd wd.inp oO wd.out.length cO++rest)::own 5 1 oO wd.out.length cO (flat zY wd.out)::frz w0 c.K::all (sx.map obI)::H) w)=>texts_spec w c op l vs oL cL wd (hL w (h.frz (by exact MEMT))) hV hopx
    repeat' (first|(refine QT ?_;clear hA a;intro a hA)|refine CT ?_|(refine DT ?_ ?_<;>intro hc<;>try (exfalso;omega))|fail)
    all_goals
      (refine zJ hA rfl rfl (by decide) (zE rfl rfl rfl (hRw _ hH)) ?_;clear hA;rintro _ w ⟨hr,hk⟩ a hA;replace hH:=hH.keep hk;clear hk)
      rw [←e] at hr
      have hwd:(opF op l wd).wd wd=wd:=by rw [e];exact texts_wd
      cases hrs:opF op l wd with
      | val x w'=>
        rw [hrs] at hr hwd
        obtain ⟨u,hu,rfl⟩:=hr
        repeat' (first|(refine QT ?_;clear hA a;intro a hA)|refine CT ?_|fail)
        exact rt2 (.inl rfl) rfl hA rfl rfl (Wst.same c.le_refl hH (RsV_val rfl hu rfl) (by rw [hwd];exact hS) (by rw [hwd]) (by rw [hwd]))
      | exn s=>
        rw [hrs] at hr hwd
        obtain rfl:=hr
        repeat' (first|(refine QT ?_;clear hA a;intro a hA)|refine CT ?_|fail)
        exact rt2 (.inl rfl) rfl hA rfl rfl (Wst.same c.le_refl hH (RsV_exn rfl rfl) (by rw [hwd];exact hS) (by rw [hwd]) (by rw [hwd]))
  by_cases har:op=13∨op=14∨op=15∨op=16
  · have e:=tF (l:=l) (wd:=wd) har
    have hopx:(op=13∧2≤l.length)∨(op=14∧2≤l.length)∨(op=15∧3≤l.length)∨(op=16∧1≤l.length):=by
      have a13:wO 13=2:=by decide
      have a14:wO 14=2:=by decide
      have a15:wO 15=3:=by decide
      rcases har with rfl|rfl|rfl|rfl
      · exact .inl ⟨rfl,by omega⟩
      · exact .inr (.inl ⟨rfl,by omega⟩)
      · exact .inr (.inr (.inl ⟨rfl,by omega⟩))
      · exact .inr (.inr (.inr ⟨rfl,hl1⟩))
    have hRw:=fun (w:World) (h:HS w0 noM (cb bM TM (yA g kd wd.inp oO wd.out.length cO++rest)::own 5 1 oO wd.out.length cO (flat zY wd.out)::frz w0 c.K::all (sx.map obI)::H) w)=>arrays_spec w0 w (cb bM TM (yA g kd wd.inp oO wd.out.length cO++rest)::own 5 1 oO wd.out.length cO (flat zY wd.out)::H) c op l vs oL cL wd sx (h.perm PMT) hL hV hS hopx
    repeat' (first|(refine QT ?_;clear hA a;intro a hA)|refine CT ?_|(refine DT ?_ ?_<;>intro hc<;>try (exfalso;omega))|fail)
    all_goals
      (refine zJ hA rfl rfl (by decide) (zE rfl rfl rfl (hRw _ hH)) ?_;clear hA hH;rintro _ w ⟨d,sx2,⟨hle,hb9⟩,hH,hr,hS2⟩ a hA)
      rw [←e] at hr hS2
      have hio:=arrays_io (op:=op) (l:=l) (wd:=wd)
      rw [←e] at hio
      cases hrs:opF op l wd with
      | val x w'=>
        rw [hrs] at hr hS2 hio
        obtain ⟨u,hu,rfl⟩:=hr
        repeat' (first|(refine QT ?_;clear hA a;intro a hA)|refine CT ?_|fail)
        exact rt2 (.inl rfl) rfl hA rfl rfl (Wst.same hle (hH.perm PMT) (RsV_val rfl hu rfl) hS2 hio.1 hio.2 hb9)
      | exn s=>
        rw [hrs] at hr hS2 hio
        obtain rfl:=hr
        repeat' (first|(refine QT ?_;clear hA a;intro a hA)|refine CT ?_|fail)
        exact rt2 (.inl rfl) rfl hA rfl rfl (Wst.same hle (hH.perm PMT) (RsV_exn rfl rfl) hS2 hio.1 hio.2 hb9)
  have e:=mL (l:=l) (wd:=wd) (op:=op) (by omega)
  repeat' (first|(refine XT ?_;apply XE;(first|(apply zC;rfl;rfl;decide;omega;exact hsp)|(apply zF;rfl;exact zP MEMT hL hv0));clear hA a;intro a hA)|(refine QT ?_;clear hA a;intro a hA)|refine CT ?_|(refine DT ?_ ?_<;>intro hc<;>try (exfalso;omega))|fail)
  replace hA:Sl 153 [(81,v0),(0,.pointer (some (bat bM 0))),(1,.int .i64 op),(2,.slice oL vs.length cL)] a:=(hA.sub SBT)
  rcases hx0.asNum with ⟨m,hs,rfl,hmo⟩| ⟨hs,hn⟩
  rotate_left
  · rw [hs] at e
    rcases Nat.lt_or_ge 1 l.length with h2|h2
    · obtain ⟨v1,hv1,hx1⟩:=hV.get0 (i:=1) (by omega)
      rcases hx1.asNum with ⟨y,hy,rfl,hyo⟩| ⟨hy,hn1⟩
      · repeat' (first|(refine GT ?_ ?_<;>intro hg<;>clear hA a<;>intro a hA<;>(first|exact FA|replace hg:=dTr hg|replace hg:=dFa hg|skip))|(refine XT ?_;apply XE;(first|(apply zC;rfl;rfl;decide;omega;exact hsp)|(apply yO;rfl;exact hn)|(apply zF;rfl;exact zP MEMT hL hv1)|(apply zW;rfl));clear hA a;intro a hA)|(refine QT ?_;clear hA a;intro a hA)|refine CT ?_|(refine DT ?_ ?_<;>intro hc<;>try (exfalso;omega))|fail)
        exact rt2 (.inl rfl) rfl hA rfl rfl (Wst.same c.le_refl hH (RsV_stk e rfl) (by rw [e];exact hS) (by rw [e];rfl) (by rw [e];rfl))
      · repeat' (first|(refine GT ?_ ?_<;>intro hg<;>clear hA a<;>intro a hA<;>(first|exact FA|replace hg:=dTr hg|replace hg:=dFa hg|skip))|(refine XT ?_;apply XE;(first|(apply zC;rfl;rfl;decide;omega;exact hsp)|(apply yO;rfl;exact hn)|(apply zF;rfl;exact zP MEMT hL hv1)|(apply yO;rfl;exact hn1));clear hA a;intro a hA)|(refine QT ?_;clear hA a;intro a hA)|refine CT ?_|(refine DT ?_ ?_<;>intro hc<;>try (exfalso;omega))|fail)
        exact rt2 (.inl rfl) rfl hA rfl rfl (Wst.same c.le_refl hH (RsV_stk e rfl) (by rw [e];exact hS) (by rw [e];rfl) (by rw [e];rfl))
    · repeat' (first|(refine XT ?_;apply XE;(first|(apply yO;rfl;exact hn));clear hA a;intro a hA)|(refine QT ?_;clear hA a;intro a hA)|refine CT ?_|(refine DT ?_ ?_<;>intro hc<;>try (exfalso;omega))|fail)
      exact rt2 (.inl rfl) rfl hA rfl rfl (Wst.same c.le_refl hH (RsV_stk e rfl) (by rw [e];exact hS) (by rw [e];rfl) (by rw [e];rfl))
  rcases Nat.lt_or_ge 1 l.length with h2|h2
  · obtain ⟨v1,hv1,hx1⟩:=hV.get0 (i:=1) (by omega)
    rcases hx1.asNum with ⟨y,hy,rfl,hyo⟩| ⟨hy,hn1⟩
    · rw [hs,if_pos h2,hy] at e
      dsimp only at e
      by_cases h20:op=20
      · rw [if_pos h20] at e
        cases hem:eqS wd.inp empS with
        | true=>
          rw [if_pos hem] at e
          repeat' (first|(refine GT ?_ ?_<;>intro hg<;>clear hA a<;>intro a hA<;>(first|exact FA|replace hg:=dTr hg|replace hg:=dFa hg|skip))|(refine XT ?_;apply XE;(first|(apply zC;rfl;rfl;decide;omega;exact hsp)|(apply yJ;rfl)|(apply zW;rfl)|(apply zF;rfl;exact zP MEMT hL hv1)|(apply uK;rfl;rfl));clear hA a;intro a hA)|(refine QT ?_;clear hA a;intro a hA)|refine CT ?_|(refine DT ?_ ?_<;>intro hc<;>try (exfalso;omega))|fail)
          · exact rt2 (.inl rfl) rfl hA rfl rfl (Wst.same c.le_refl hH (RsV_val e (RV_num ⟨by omega,by omega⟩) rfl) (by rw [e];exact hS) (by rw [e];rfl) (by rw [e];rfl))
          · exact absurd (hem.symm.trans (by assumption:eqS wd.inp empS=false)) (by decide)
        | false=>
          rw [if_neg (by rw [hem];decide)] at e
          have hip:=eS hem
          have hby:=mD wd.inp 0
          have hsz:1≤wd.inp.size:=by rw [←wI];omega
          repeat' (first|(refine GT ?_ ?_<;>intro hg<;>clear hA a<;>intro a hA<;>(first|exact FA|replace hg:=dTr hg|replace hg:=dFa hg|skip))|(refine XT ?_;apply XE;(first|(apply zC;rfl;rfl;decide;omega;exact hsp)|(apply yJ;rfl)|(apply zW;rfl)|(apply zF;rfl;exact zP MEMT hL hv1)|(apply uK;rfl;rfl)|(apply xL (j:=0);rfl;rfl;rfl;exact sL hip)|(apply uN (i:=1);rfl;rfl;rfl;exact hsz)|(apply wL;rfl;exact wA (by unfold uA;omega)));clear hA a;intro a hA)|(refine QT ?_;clear hA a;intro a hA)|(apply zT hA rfl rfl;apply zG (cs':=yA g kd (wd.inp.extract 1 wd.inp.size) oO wd.out.length cO++rest);rfl;rfl;rfl;exact hH;(repeat constructor);clear hH;rintro _ w hH)|refine CT ?_|(refine DT ?_ ?_<;>intro hc<;>try (exfalso;omega))|fail)
          · exact absurd (hem.symm.trans (by assumption:eqS wd.inp empS=true)) (by decide)
          · exact rt2 (.inl rfl) rfl hA rfl rfl ⟨c,sx,oO,cO,⟨c.le_refl,Nat.le_succ _⟩,by rw [e];exact hH,RsV_val e (RV_num ⟨by omega,by omega⟩) rfl,by rw [e];exact hS⟩
      by_cases h21:op=21
      · rw [if_neg h20,if_pos h21] at e
        have hu8:=(u8_nat m).symm
        repeat' (first|(refine GT ?_ ?_<;>intro hg<;>clear hA a<;>intro a hA<;>(first|exact FA|replace hg:=dTr hg|replace hg:=dFa hg|skip))|(refine XT ?_;apply XE;(first|(apply zC;rfl;rfl;decide;omega;exact hsp)|(apply zW;rfl)|(apply zF;rfl;exact zP MEMT hL hv1)|(apply wL;rfl;exact hu8));clear hA a;intro a hA)|(refine QT ?_;clear hA a;intro a hA)|(refine LT ?_;clear hA hH;rintro _ w ⟨oN,rfl,hH⟩ a hA)|(refine AT ?_;clear hA;rintro _ w ⟨oN,cN,rfl,hH2⟩ a hA;clear hH;have hH:=(hH2 _ (by (repeat constructor))).tail;clear hH2)|refine CT ?_|(refine DT ?_ ?_<;>intro hc<;>try (exfalso;omega))|fail)
        rw [eX] at hH
        repeat' (first|(refine XT ?_;apply XE;(first|(apply yJ;rfl));clear hA a;intro a hA)|(refine QT ?_;clear hA a;intro a hA)|(apply zT hA rfl rfl;apply zG (cs':=yA g kd wd.inp oN (wd.out.length+1) cN++rest);rfl;rfl;rfl;exact hH;(repeat constructor);clear hH;rintro _ w hH)|refine CT ?_|fail)
        refine rt2 (.inl rfl) rfl hA rfl rfl ⟨c,sx,oN,cN,⟨c.le_refl,Nat.le_succ _⟩,?_,RsV_val e (RV_num ⟨by omega,by omega⟩) rfl,by rw [e];exact hS⟩
        rw [e]
        show HS w0 noM (cb bM TM (yA g kd wd.inp oN (wd.out++[(IntKind.u8.wrap m).toNat]).length cN++rest)::own 5 1 oN (wd.out++[(IntKind.u8.wrap m).toNat]).length cN _::_) w
        rw [lenY]
        exact hH.perm PMT
      rw [if_neg h20,if_neg h21] at e
      repeat' (first|(refine GT ?_ ?_<;>intro hg<;>clear hA a<;>intro a hA<;>(first|exact FA|replace hg:=dTr hg|replace hg:=dFa hg|skip))|(refine XT ?_;apply XE;(first|(apply zC;rfl;rfl;decide;omega;exact hsp)|(apply zW;rfl)|(apply zF;rfl;exact zP MEMT hL hv1));clear hA a;intro a hA)|(refine QT ?_;clear hA a;intro a hA)|refine CT ?_|(refine DT ?_ ?_<;>intro hc<;>try (exfalso;omega))|fail)
      (refine zJ hA rfl rfl (by decide) (zE rfl rfl rfl (Do_spec _ op m y)) ?_;clear hA;rintro _ w ⟨hk,hdo⟩ a hA;replace hH:=hH.keep hk;clear hk)
      rcases hdo with ⟨x,hdo,rfl⟩| ⟨er,her,hdo,rfl⟩
      · rw [hdo] at e
        repeat' (first|(refine XT ?_;apply XE;(first|(apply yJ;rfl));clear hA a;intro a hA)|(refine QT ?_;clear hA a;intro a hA)|refine CT ?_|fail)
        exact rt2 (.inl rfl) rfl hA rfl rfl (Wst.same c.le_refl hH (RsV_val e (RV_num (kL hdo)) rfl) (by rw [e];exact hS) (by rw [e];rfl) (by rw [e];rfl))
      · rw [hdo] at e
        repeat' (first|(refine QT ?_;clear hA a;intro a hA)|refine CT ?_|(refine DT ?_ ?_<;>intro hc<;>try (exfalso;omega))|fail)
        exact rt2 (.inl rfl) rfl hA rfl rfl (Wst.same c.le_refl hH (RsV_exn e rfl) (by rw [e];exact hS) (by rw [e];rfl) (by rw [e];rfl))
    · rw [hs,if_pos h2,hy] at e
      repeat' (first|(refine GT ?_ ?_<;>intro hg<;>clear hA a<;>intro a hA<;>(first|exact FA|replace hg:=dTr hg|replace hg:=dFa hg|skip))|(refine XT ?_;apply XE;(first|(apply zC;rfl;rfl;decide;omega;exact hsp)|(apply zW;rfl)|(apply zF;rfl;exact zP MEMT hL hv1)|(apply yO;rfl;exact hn1));clear hA a;intro a hA)|(refine QT ?_;clear hA a;intro a hA)|refine CT ?_|(refine DT ?_ ?_<;>intro hc<;>try (exfalso;omega))|fail)
      exact rt2 (.inl rfl) rfl hA rfl rfl (Wst.same c.le_refl hH (RsV_stk e rfl) (by rw [e];exact hS) (by rw [e];rfl) (by rw [e];rfl))
  · rw [hs,if_neg (by omega)] at e
    dsimp only at e
    by_cases h20:op=20
    · rw [if_pos h20] at e
      cases hem:eqS wd.inp empS with
      | true=>
        rw [if_pos hem] at e
        repeat' (first|(refine XT ?_;apply XE;(first|(apply yJ;rfl)|(apply zW;rfl)|(apply uK;rfl;rfl));clear hA a;intro a hA)|(refine QT ?_;clear hA a;intro a hA)|refine CT ?_|(refine DT ?_ ?_<;>intro hc<;>try (exfalso;omega))|fail)
        · exact rt2 (.inl rfl) rfl hA rfl rfl (Wst.same c.le_refl hH (RsV_val e (RV_num ⟨by omega,by omega⟩) rfl) (by rw [e];exact hS) (by rw [e];rfl) (by rw [e];rfl))
        · exact absurd (hem.symm.trans (by assumption:eqS wd.inp empS=false)) (by decide)
      | false=>
        rw [if_neg (by rw [hem];decide)] at e
        have hip:=eS hem
        have hby:=mD wd.inp 0
        have hsz:1≤wd.inp.size:=by rw [←wI];omega
        repeat' (first|(refine XT ?_;apply XE;(first|(apply yJ;rfl)|(apply zW;rfl)|(apply uK;rfl;rfl)|(apply xL (j:=0);rfl;rfl;rfl;exact sL hip)|(apply uN (i:=1);rfl;rfl;rfl;exact hsz)|(apply wL;rfl;exact wA (by unfold uA;omega)));clear hA a;intro a hA)|(refine QT ?_;clear hA a;intro a hA)|(apply zT hA rfl rfl;apply zG (cs':=yA g kd (wd.inp.extract 1 wd.inp.size) oO wd.out.length cO++rest);rfl;rfl;rfl;exact hH;(repeat constructor);clear hH;rintro _ w hH)|refine CT ?_|(refine DT ?_ ?_<;>intro hc<;>try (exfalso;omega))|fail)
        · exact absurd (hem.symm.trans (by assumption:eqS wd.inp empS=true)) (by decide)
        · exact rt2 (.inl rfl) rfl hA rfl rfl ⟨c,sx,oO,cO,⟨c.le_refl,Nat.le_succ _⟩,by rw [e];exact hH,RsV_val e (RV_num ⟨by omega,by omega⟩) rfl,by rw [e];exact hS⟩
    by_cases h21:op=21
    · rw [if_neg h20,if_pos h21] at e
      have hu8:=(u8_nat m).symm
      repeat' (first|(refine XT ?_;apply XE;(first|(apply zW;rfl)|(apply wL;rfl;exact hu8));clear hA a;intro a hA)|(refine QT ?_;clear hA a;intro a hA)|(refine LT ?_;clear hA hH;rintro _ w ⟨oN,rfl,hH⟩ a hA)|(refine AT ?_;clear hA;rintro _ w ⟨oN,cN,rfl,hH2⟩ a hA;clear hH;have hH:=(hH2 _ (by (repeat constructor))).tail;clear hH2)|refine CT ?_|(refine DT ?_ ?_<;>intro hc<;>try (exfalso;omega))|fail)
      rw [eX] at hH
      repeat' (first|(refine XT ?_;apply XE;(first|(apply yJ;rfl));clear hA a;intro a hA)|(refine QT ?_;clear hA a;intro a hA)|(apply zT hA rfl rfl;apply zG (cs':=yA g kd wd.inp oN (wd.out.length+1) cN++rest);rfl;rfl;rfl;exact hH;(repeat constructor);clear hH;rintro _ w hH)|refine CT ?_|fail)
      refine rt2 (.inl rfl) rfl hA rfl rfl ⟨c,sx,oN,cN,⟨c.le_refl,Nat.le_succ _⟩,?_,RsV_val e (RV_num ⟨by omega,by omega⟩) rfl,by rw [e];exact hS⟩
      rw [e]
      show HS w0 noM (cb bM TM (yA g kd wd.inp oN (wd.out++[(IntKind.u8.wrap m).toNat]).length cN++rest)::own 5 1 oN (wd.out++[(IntKind.u8.wrap m).toNat]).length cN _::_) w
      rw [lenY]
      exact hH.perm PMT
    rw [if_neg h20,if_neg h21] at e
    repeat' (first|(refine XT ?_;apply XE;(first|(apply zW;rfl));clear hA a;intro a hA)|(refine QT ?_;clear hA a;intro a hA)|refine CT ?_|(refine DT ?_ ?_<;>intro hc<;>try (exfalso;omega))|fail)
    (refine zJ hA rfl rfl (by decide) (zE rfl rfl rfl (Do_spec _ op m 0)) ?_;clear hA;rintro _ w ⟨hk,hdo⟩ a hA;replace hH:=hH.keep hk;clear hk)
    rcases hdo with ⟨x,hdo,rfl⟩| ⟨er,her,hdo,rfl⟩
    · rw [hdo] at e
      repeat' (first|(refine XT ?_;apply XE;(first|(apply yJ;rfl));clear hA a;intro a hA)|(refine QT ?_;clear hA a;intro a hA)|refine CT ?_|fail)
      exact rt2 (.inl rfl) rfl hA rfl rfl (Wst.same c.le_refl hH (RsV_val e (RV_num (kL hdo)) rfl) (by rw [e];exact hS) (by rw [e];rfl) (by rw [e];rfl))
    · rw [hdo] at e
      repeat' (first|(refine QT ?_;clear hA a;intro a hA)|refine CT ?_|(refine DT ?_ ?_<;>intro hc<;>try (exfalso;omega))|fail)
      exact rt2 (.inl rfl) rfl hA rfl rfl (Wst.same c.le_refl hH (RsV_exn e rfl) (by rw [e];exact hS) (by rw [e];rfl) (by rw [e];rfl))
end
theorem pl_1 {r:Stp} {l cs:List Vl} {wd:Wd} (h:r.k=1):yD r l cs wd= .val (zS l 0) wd:=by unfold yD;rw [h];rfl
theorem pl_2 {r:Stp} {l cs:List Vl} {wd:Wd} (h:r.k=2):yD r l cs wd=opF r.n l wd:=by unfold yD;rw [h];rfl
theorem pl_4 {r:Stp} {l cs:List Vl} {wd:Wd} (h:r.k=4):yD r l cs wd= .val (.fn r.n l) wd:=by unfold yD;rw [h];rfl
theorem pl_5 {r:Stp} {l cs:List Vl} {wd:Wd} (h:r.k=5):yD r l cs wd= .val (zS cs r.n.toNat) wd:=by unfold yD;rw [h];rfl
theorem pl_6 {r:Stp} {l cs:List Vl} {wd:Wd} (h:r.k=6):yD r l cs wd= .val (.rc r.ns.l l) wd:=by unfold yD;rw [h];rfl
theorem pl_7 {r:Stp} {l cs:List Vl} {wd:Wd} (h:r.k=7):yD r l cs wd=(match asRc (zS l 0) with
    |some (ns,xs)=>if bsB ns r.n then .val (.rc ns (xs.set (bsI ns r.n) (zS l 1))) wd else .val (.rc (ns.insertIdx (bsI ns r.n) r.n) (xs.insertIdx (bsI ns r.n) (zS l 1))) wd
    |none=>stk wd):=by unfold yD;rw [h];rfl
theorem pl_8 {r:Stp} {l cs:List Vl} {wd:Wd} (h:r.k=8):yD r l cs wd=(match asRc (zS l 0) with
    |some (ns,xs)=>if bsB ns r.n then .val (zS xs (bsI ns r.n)) wd else stk wd
    |none=>stk wd):=by unfold yD;rw [h];rfl
theorem pl_9 {r:Stp} {l cs:List Vl} {wd:Wd} (h:r.k=9):yD r l cs wd= .val (.tg r.n (zS l 0)) wd:=by unfold yD;rw [h];rfl
theorem pl_10 {r:Stp} {l cs:List Vl} {wd:Wd} (h:r.k=10):yD r l cs wd=(match asTg (zS l 0) with
    |some (n,x)=>.val (.num n) wd
    |none=>stk wd):=by unfold yD;rw [h];rfl
theorem pl_11 {r:Stp} {l cs:List Vl} {wd:Wd} (h:r.k=11):yD r l cs wd=(match asTg (zS l 0) with
    |some (n,x)=>.val x wd
    |none=>stk wd):=by unfold yD;rw [h];rfl
theorem pl_12 {r:Stp} {l cs:List Vl} {wd:Wd} (h:r.k=12):yD r l cs wd=(match asTxt (zS l 0),asTxt (zS l 1) with
    |some s,some t=>.val (.num (tru (eqS s t))) wd
    |_,_=>stk wd):=by unfold yD;rw [h];rfl
theorem RV_rc {c:Cx} {ns:List Int} {l:List Vl} {p cn cl:Nat} {on ol:Option Addr} {vs:List Value} (h1:ns.length=l.length∧ns.length≤c.bd∧ns.length≤cn∧cn≤maxLen∧l.length≤cl∧cl≤maxLen) (h2:∀w,c.K w→RdB w p [.slice on ns.length cn,.slice ol l.length cl]) (h3:∀w,c.K w→Rd w on (flat Fw.encI ns)) (h4:∀w,c.K w→Rd w ol vs) (h5:RVs c l vs):RV c (.rc ns l) (uT 194 p):=by
  rw [RV]
  exact ⟨p,on,cn,ol,cl,vs,rfl,h1,h2,h3,h4,h5⟩
theorem RV_tg {c:Cx} {n:Int} {x:Vl} {u:Value} {p:Nat} (h1:iok n) (h2:∀w,c.K w→RdB w p [.int .i64 n,u]) (h3:RV c x u):RV c (.tg n x) (uT 202 p):=by
  rw [RV]
  exact ⟨p,u,rfl,h1,h2,h3⟩
theorem Cx.more (c:Cx) (K1:World→Prop):c.le {c with K:=fun w=>K1 w∧c.K w}:=⟨fun w h=>h.2,⟨[],(List.append_nil _).symm⟩,Nat.le_refl _,rfl⟩
theorem StR.more {c:Cx} {sx:Sx} {st:List (List Vl)} (h:StR c sx st) (K1:World→Prop):StR {c with K:=fun w=>K1 w∧c.K w} sx st:=h.le (c.more K1) rfl
section
attribute [local irreducible] Code.wp wpList Calls Ex Op1 sat bat blk cb own Go.Fw.mp Go.Fw.mpO Go.Fw.mpI Go.Fw.mpE Go.Fw.itr HS Rd Ret wkD Hp Cl Cls Exit.then Exit.inBlock Exit.noGoto bodyPost Go.Fw.flat wk2 Go.Fw.all Go.Fw.owns wpOp
attribute [local irreducible] sk mpK sko mvO xM opM Go.Fw.mset Go.Fw.mv opK w63 frz obI RV

theorem Plain1_spec (w0 w:World) (H:List It) (c:Cx) (TM bM:Nat) (g:Grs) (kd:Int) (rest:List Value) (caps:List Int) (mine:Int) (r:Stp) (l:List Vl) (vs:List Value) (oL oO:Option Addr) (cL cO:Nat) (wd:Wd) (sx:Sx) (f:Int) (cs:List Vl) (pc:Nat) (hH:HS w0 noM (cb bM TM (yA g kd wd.inp oO wd.out.length cO++rest)::own 5 1 oO wd.out.length cO (flat zY wd.out)::frz w0 c.K::all (sx.map obI)::H) w) (hL:∀w,c.K w→Rd w oL vs) (hlc:vs.length≤cL∧cL≤maxLen) (hV:RVs c l vs) (hS:StR c sx wd.st) (hF:FormP g caps mine r) (hrl:l.length=r.a.l.length) (hnf:c.nf=caps.length) (hcf:FnR c f cs pc) (hK0:∀w,c.K w→Kp w0 noM w) (hN:RdV w0 Fw.encI r.ns) (hbn:r.ns.l.length≤c.bd) (hbd:c.bd≤1000000) (hout:wd.out.length≤1000000) (hlab:g.ts.l.length≤9223372036854775807) (hk:r.k=1):Ret Tryz.prog 50 #[.pointer (some (bat bM 0)),.agg (zX r).toArray,.slice oL vs.length cL,.pointer (some (bat pc 0))] w (fun v w'=>Wst w0 c TM bM g kd rest H (yD r l cs wd) wd v w'):=by
  have hvl:=hV.len
  have hw:=hF.want
  have hnum:=hF.num
  have hsp:Sp oL vs.length:=(hL w (hH.frz (by exact MEMT))).sp (sz:=1) (by omega) (by omega)
  have e:=pl_1 (r:=r) (l:=l) (cs:=cs) (wd:=wd) hk
  rw [(w_1 (g:=g) (mine:=mine) (.inl hk)).1] at hw
  rw [(w_1 (g:=g) (mine:=mine) (.inl hk)).2] at hnum
  obtain ⟨v0,hv0,hx0⟩:=hV.get0 (i:=0) (by omega)
  (refine ENT (N:=238) Tryz.func50 Tryz.ntmps50 ?_;intro a hA)
  repeat' (first|(refine XT ?_;apply XE;(first|(apply zC;rfl;rfl;decide;omega;exact hsp)|(apply zF;rfl;exact zP MEMT hL hv0));clear hA a;intro a hA)|(refine QT ?_;clear hA a;intro a hA)|(refine BT ?_;clear hA hH;rintro _ w ⟨bN,rfl,hH⟩ a hA)|refine CT ?_|(refine DT ?_ ?_<;>intro hc<;>try (exfalso;omega))|fail)
  exact rt2 (.inl rfl) rfl hA rfl rfl (Wst.same c.le_refl (hH.tail) (RsV_val e hx0 rfl) (by rw [e];exact hS) (by rw [e];rfl) (by rw [e];rfl))
theorem Plain4_spec (w0 w:World) (H:List It) (c:Cx) (TM bM:Nat) (g:Grs) (kd:Int) (rest:List Value) (caps:List Int) (mine:Int) (r:Stp) (l:List Vl) (vs:List Value) (oL oO:Option Addr) (cL cO:Nat) (wd:Wd) (sx:Sx) (f:Int) (cs:List Vl) (pc:Nat) (hH:HS w0 noM (cb bM TM (yA g kd wd.inp oO wd.out.length cO++rest)::own 5 1 oO wd.out.length cO (flat zY wd.out)::frz w0 c.K::all (sx.map obI)::H) w) (hL:∀w,c.K w→Rd w oL vs) (hlc:vs.length≤cL∧cL≤maxLen) (hV:RVs c l vs) (hS:StR c sx wd.st) (hF:FormP g caps mine r) (hrl:l.length=r.a.l.length) (hnf:c.nf=caps.length) (hcf:FnR c f cs pc) (hK0:∀w,c.K w→Kp w0 noM w) (hN:RdV w0 Fw.encI r.ns) (hbn:r.ns.l.length≤c.bd) (hbd:c.bd≤1000000) (hout:wd.out.length≤1000000) (hlab:g.ts.l.length≤9223372036854775807) (hk:r.k=4):Ret Tryz.prog 50 #[.pointer (some (bat bM 0)),.agg (zX r).toArray,.slice oL vs.length cL,.pointer (some (bat pc 0))] w (fun v w'=>Wst w0 c TM bM g kd rest H (yD r l cs wd) wd v w'):=by
  have hvl:=hV.len
  have hw:=hF.want
  have hnum:=hF.num
  have hsp:Sp oL vs.length:=(hL w (hH.frz (by exact MEMT))).sp (sz:=1) (by omega) (by omega)
  have e:=pl_4 (r:=r) (l:=l) (cs:=cs) (wd:=wd) hk
  rw [(w_4 (g:=g) (mine:=mine) hk).1] at hw
  rw [(w_4 (g:=g) (mine:=mine) hk).2] at hnum
  (refine ENT (N:=238) Tryz.func50 Tryz.ntmps50 ?_;intro a hA)
  repeat' (first|(refine XT ?_;apply XE;(first|(apply yJ;rfl));clear hA a;intro a hA)|(refine QT ?_;clear hA a;intro a hA)|(refine BT ?_;clear hA hH;rintro _ w ⟨bN,rfl,hH⟩ a hA)|refine CT ?_|(refine DT ?_ ?_<;>intro hc<;>try (exfalso;omega))|fail)
  have h1:=((hH.rm 1).perm (H':=cb bN 90 [.int .i64 r.n,.slice oL vs.length cL]::frz w0 c.K::cb bM TM (yA g kd wd.inp oO wd.out.length cO++rest)::own 5 1 oO wd.out.length cO (flat zY wd.out)::all (sx.map obI)::H) PMT).frz_cb
  have hle:=c.more (fun w=>RdB w bN [.int .i64 r.n,.slice oL vs.length cL])
  exact rt2 (.inl rfl) rfl hA rfl rfl (Wst.same hle (h1.perm PMT) (RsV_val e (FnR.rv ⟨oL,cL,vs,⟨hnum.1,by rw [hnf];exact hnum.2⟩,fun w h=>by rw [←hvl];exact h.1,fun w h=>hL w h.2,RVs.mono hle _ _ hV⟩) rfl) (by rw [e];exact hS.more _) (by rw [e];rfl) (by rw [e];rfl))
theorem Plain6_spec (w0 w:World) (H:List It) (c:Cx) (TM bM:Nat) (g:Grs) (kd:Int) (rest:List Value) (caps:List Int) (mine:Int) (r:Stp) (l:List Vl) (vs:List Value) (oL oO:Option Addr) (cL cO:Nat) (wd:Wd) (sx:Sx) (f:Int) (cs:List Vl) (pc:Nat) (hH:HS w0 noM (cb bM TM (yA g kd wd.inp oO wd.out.length cO++rest)::own 5 1 oO wd.out.length cO (flat zY wd.out)::frz w0 c.K::all (sx.map obI)::H) w) (hL:∀w,c.K w→Rd w oL vs) (hlc:vs.length≤cL∧cL≤maxLen) (hV:RVs c l vs) (hS:StR c sx wd.st) (hF:FormP g caps mine r) (hrl:l.length=r.a.l.length) (hnf:c.nf=caps.length) (hcf:FnR c f cs pc) (hK0:∀w,c.K w→Kp w0 noM w) (hN:RdV w0 Fw.encI r.ns) (hbn:r.ns.l.length≤c.bd) (hbd:c.bd≤1000000) (hout:wd.out.length≤1000000) (hlab:g.ts.l.length≤9223372036854775807) (hk:r.k=6):Ret Tryz.prog 50 #[.pointer (some (bat bM 0)),.agg (zX r).toArray,.slice oL vs.length cL,.pointer (some (bat pc 0))] w (fun v w'=>Wst w0 c TM bM g kd rest H (yD r l cs wd) wd v w'):=by
  have hvl:=hV.len
  have hw:=hF.want
  have hnum:=hF.num
  have hsp:Sp oL vs.length:=(hL w (hH.frz (by exact MEMT))).sp (sz:=1) (by omega) (by omega)
  have e:=pl_6 (r:=r) (l:=l) (cs:=cs) (wd:=wd) hk
  rw [(w_6 (g:=g) (mine:=mine) hk).1] at hw
  rw [(w_6 (g:=g) (mine:=mine) hk).2] at hnum
  (refine ENT (N:=238) Tryz.func50 Tryz.ntmps50 ?_;intro a hA)
  repeat' (first|(refine XT ?_;apply XE;(first|(apply yJ;rfl));clear hA a;intro a hA)|(refine QT ?_;clear hA a;intro a hA)|(refine BT ?_;clear hA hH;rintro _ w ⟨bN,rfl,hH⟩ a hA)|refine CT ?_|(refine DT ?_ ?_<;>intro hc<;>try (exfalso;omega))|fail)
  have h1:=((hH.rm 1).perm (H':=cb bN 196 [.slice r.ns.o r.ns.l.length r.ns.c,.slice oL vs.length cL]::frz w0 c.K::cb bM TM (yA g kd wd.inp oO wd.out.length cO++rest)::own 5 1 oO wd.out.length cO (flat zY wd.out)::all (sx.map obI)::H) PMT).frz_cb
  have hle:=c.more (fun w=>RdB w bN [.slice r.ns.o r.ns.l.length r.ns.c,.slice oL vs.length cL])
  exact rt2 (.inl rfl) rfl hA rfl rfl (Wst.same hle (h1.perm PMT) (RsV_val e (RV_rc (p:=bN) (on:=r.ns.o) (cn:=r.ns.c) (ol:=oL) (cl:=cL) (vs:=vs) ⟨by omega,hbn,hN.2.1,hN.2.2,by omega,hlc.2⟩ (fun w h=>by rw [←hvl];exact h.1) (fun w h=>(hN.keep (hK0 w h.2)).1) (fun w h=>hL w h.2) (RVs.mono hle _ _ hV)) rfl) (by rw [e];exact hS.more _) (by rw [e];rfl) (by rw [e];rfl))
theorem Plain9_spec (w0 w:World) (H:List It) (c:Cx) (TM bM:Nat) (g:Grs) (kd:Int) (rest:List Value) (caps:List Int) (mine:Int) (r:Stp) (l:List Vl) (vs:List Value) (oL oO:Option Addr) (cL cO:Nat) (wd:Wd) (sx:Sx) (f:Int) (cs:List Vl) (pc:Nat) (hH:HS w0 noM (cb bM TM (yA g kd wd.inp oO wd.out.length cO++rest)::own 5 1 oO wd.out.length cO (flat zY wd.out)::frz w0 c.K::all (sx.map obI)::H) w) (hL:∀w,c.K w→Rd w oL vs) (hlc:vs.length≤cL∧cL≤maxLen) (hV:RVs c l vs) (hS:StR c sx wd.st) (hF:FormP g caps mine r) (hrl:l.length=r.a.l.length) (hnf:c.nf=caps.length) (hcf:FnR c f cs pc) (hK0:∀w,c.K w→Kp w0 noM w) (hN:RdV w0 Fw.encI r.ns) (hbn:r.ns.l.length≤c.bd) (hbd:c.bd≤1000000) (hout:wd.out.length≤1000000) (hlab:g.ts.l.length≤9223372036854775807) (hk:r.k=9):Ret Tryz.prog 50 #[.pointer (some (bat bM 0)),.agg (zX r).toArray,.slice oL vs.length cL,.pointer (some (bat pc 0))] w (fun v w'=>Wst w0 c TM bM g kd rest H (yD r l cs wd) wd v w'):=by
  have hvl:=hV.len
  have hw:=hF.want
  have hnum:=hF.num
  have hsp:Sp oL vs.length:=(hL w (hH.frz (by exact MEMT))).sp (sz:=1) (by omega) (by omega)
  have e:=pl_9 (r:=r) (l:=l) (cs:=cs) (wd:=wd) hk
  rw [(w_9 (g:=g) (mine:=mine) hk).1] at hw
  rw [(w_9 (g:=g) (mine:=mine) hk).2] at hnum
  obtain ⟨v0,hv0,hx0⟩:=hV.get0 (i:=0) (by omega)
  (refine ENT (N:=238) Tryz.func50 Tryz.ntmps50 ?_;intro a hA)
  have hone:([.int .i64 r.n,v0]:List Value).all (·.oneCell')=true:=by simp [hx0.one];rfl
  repeat' (first|(refine QT ?_;clear hA a;intro a hA)|(refine BT ?_;clear hA hH;rintro _ w ⟨bN,rfl,hH⟩ a hA)|refine CT ?_|(refine DT ?_ ?_<;>intro hc<;>try (exfalso;omega))|fail)
  obtain ⟨b5,hb5⟩:∃x,x=bN:=⟨_,rfl⟩
  rw [←hb5] at hA hH
  clear hb5 bN
  (refine zO [(0,1),(1,1),(2,1),(3,1),(4,1),(5,1),(6,0),(7,1),(8,1),(9,1)] mixed (by decide +kernel) hH ?_;replace hH:=hH.drew)
  repeat' (first|(refine XT ?_;apply XE;(first|(apply zC;rfl;rfl;decide;omega;exact hsp)|(apply zF;rfl;exact zP MEMT hL hv0)|(apply yJ;rfl)|(apply sQ (vs:=[.int .i64 r.n,v0]);rfl;rfl;rfl;exact hone;rfl;exact FLT));clear hA a;intro a hA)|(refine QT ?_;clear hA a;intro a hA)|refine CT ?_|(apply yC hA rfl rfl rfl (by decide);apply pV;rfl;exact hH;clear hA hH;rintro _ w ⟨bN,rfl,hH⟩;refine ⟨hH.tail,?_⟩;intro a hA)|fail)
  have h1:=((hH.rm 1).perm (H':=cb bN 204 [.int .i64 r.n,v0]::frz w0 c.K::cb bM TM (yA g kd wd.inp oO wd.out.length cO++rest)::own 5 1 oO wd.out.length cO (flat zY wd.out)::all (sx.map obI)::H) PMT).frz_cb
  have hle:=c.more (fun w=>RdB w bN [.int .i64 r.n,v0])
  exact rt2 (.inl rfl) rfl hA rfl rfl (Wst.same hle (h1.perm PMT) (RsV_val e (RV_tg ⟨by omega,by omega⟩ (fun w h=>h.1) (RV.mono hle _ _ hx0)) rfl) (by rw [e];exact hS.more _) (by rw [e];rfl) (by rw [e];rfl))
theorem Plain2_spec (w0 w:World) (H:List It) (c:Cx) (TM bM:Nat) (g:Grs) (kd:Int) (rest:List Value) (caps:List Int) (mine:Int) (r:Stp) (l:List Vl) (vs:List Value) (oL oO:Option Addr) (cL cO:Nat) (wd:Wd) (sx:Sx) (f:Int) (cs:List Vl) (pc:Nat) (hH:HS w0 noM (cb bM TM (yA g kd wd.inp oO wd.out.length cO++rest)::own 5 1 oO wd.out.length cO (flat zY wd.out)::frz w0 c.K::all (sx.map obI)::H) w) (hL:∀w,c.K w→Rd w oL vs) (hlc:vs.length≤cL∧cL≤maxLen) (hV:RVs c l vs) (hS:StR c sx wd.st) (hF:FormP g caps mine r) (hrl:l.length=r.a.l.length) (hnf:c.nf=caps.length) (hcf:FnR c f cs pc) (hK0:∀w,c.K w→Kp w0 noM w) (hN:RdV w0 Fw.encI r.ns) (hbn:r.ns.l.length≤c.bd) (hbd:c.bd≤1000000) (hout:wd.out.length≤1000000) (hlab:g.ts.l.length≤9223372036854775807) (hk:r.k=2):Ret Tryz.prog 50 #[.pointer (some (bat bM 0)),.agg (zX r).toArray,.slice oL vs.length cL,.pointer (some (bat pc 0))] w (fun v w'=>Wst w0 c TM bM g kd rest H (yD r l cs wd) wd v w'):=by
  have hvl:=hV.len
  have hw:=hF.want
  have hnum:=hF.num
  have hsp:Sp oL vs.length:=(hL w (hH.frz (by exact MEMT))).sp (sz:=1) (by omega) (by omega)
  have e:=pl_2 (r:=r) (l:=l) (cs:=cs) (wd:=wd) hk
  rw [(w_2 (g:=g) (mine:=mine) hk).1] at hw
  rw [(w_2 (g:=g) (mine:=mine) hk).2] at hnum
  have hn1:1≤r.n∧r.n≤21:=by
    unfold wO at hw
    (repeat' split at hw)<;>omega
  obtain ⟨hn1,hn2⟩:=hn1
  (refine ENT (N:=238) Tryz.func50 Tryz.ntmps50 ?_;intro a hA)
  have hop:=op_spec
  repeat' (first|(refine QT ?_;clear hA a;intro a hA)|(refine BT ?_;clear hA hH;rintro _ w ⟨bN,rfl,hH⟩ a hA)|refine CT ?_|(refine DT ?_ ?_<;>intro hc<;>try (exfalso;omega))|fail)
  (refine zJ hA rfl rfl (by decide) (zE rfl rfl rfl (op_spec w0 _ (cb bN 57 (zX r)::H) c TM bM g kd rest r.n l vs oL oO cL cO wd sx (hH.perm PMT) hL hV hS hn1 hn2 (by omega) hout)) ?_;clear hA hH;rintro _ w ⟨d,sx2,oO2,cO2,hle,hH,hr,hS2⟩ a hA)
  rw [←e] at hr hS2 hH
  cases hrs:yD r l cs wd with
  | val x w'=>
    rw [hrs] at hr hS2 hH
    obtain ⟨u,hu,rfl⟩:=hr
    repeat' (first|(refine QT ?_;clear hA a;intro a hA)|refine CT ?_|fail)
    exact rt2 (.inl rfl) rfl hA rfl rfl ⟨d,sx2,oO2,cO2,hle,hH.rm 4,⟨u,hu,rfl⟩,hS2⟩
  | exn s=>
    rw [hrs] at hr hS2 hH
    obtain rfl:=hr
    repeat' (first|(refine QT ?_;clear hA a;intro a hA)|refine CT ?_|fail)
    exact rt2 (.inl rfl) rfl hA rfl rfl ⟨d,sx2,oO2,cO2,hle,hH.rm 4,rfl,hS2⟩
theorem Plain12_spec (w0 w:World) (H:List It) (c:Cx) (TM bM:Nat) (g:Grs) (kd:Int) (rest:List Value) (caps:List Int) (mine:Int) (r:Stp) (l:List Vl) (vs:List Value) (oL oO:Option Addr) (cL cO:Nat) (wd:Wd) (sx:Sx) (f:Int) (cs:List Vl) (pc:Nat) (hH:HS w0 noM (cb bM TM (yA g kd wd.inp oO wd.out.length cO++rest)::own 5 1 oO wd.out.length cO (flat zY wd.out)::frz w0 c.K::all (sx.map obI)::H) w) (hL:∀w,c.K w→Rd w oL vs) (hlc:vs.length≤cL∧cL≤maxLen) (hV:RVs c l vs) (hS:StR c sx wd.st) (hF:FormP g caps mine r) (hrl:l.length=r.a.l.length) (hnf:c.nf=caps.length) (hcf:FnR c f cs pc) (hK0:∀w,c.K w→Kp w0 noM w) (hN:RdV w0 Fw.encI r.ns) (hbn:r.ns.l.length≤c.bd) (hbd:c.bd≤1000000) (hout:wd.out.length≤1000000) (hlab:g.ts.l.length≤9223372036854775807) (hk:r.k=12):Ret Tryz.prog 50 #[.pointer (some (bat bM 0)),.agg (zX r).toArray,.slice oL vs.length cL,.pointer (some (bat pc 0))] w (fun v w'=>Wst w0 c TM bM g kd rest H (yD r l cs wd) wd v w'):=by
  have hvl:=hV.len
  have hw:=hF.want
  have hnum:=hF.num
  have hsp:Sp oL vs.length:=(hL w (hH.frz (by exact MEMT))).sp (sz:=1) (by omega) (by omega)
  have e:=pl_12 (r:=r) (l:=l) (cs:=cs) (wd:=wd) hk
  rw [(w_3 (g:=g) (mine:=mine) (.inr (.inl hk))).1] at hw
  rw [(w_3 (g:=g) (mine:=mine) (.inr (.inl hk))).2] at hnum
  obtain ⟨v0,hv0,hx0⟩:=hV.get0 (i:=0) (by omega)
  obtain ⟨v1,hv1,hx1⟩:=hV.get0 (i:=1) (by omega)
  (refine ENT (N:=238) Tryz.func50 Tryz.ntmps50 ?_;intro a hA)
  repeat' (first|(refine XT ?_;apply XE;(first|(apply zC;rfl;rfl;decide;omega;exact hsp)|(apply zF;rfl;exact zP MEMT hL hv0));clear hA a;intro a hA)|(refine QT ?_;clear hA a;intro a hA)|(refine BT ?_;clear hA hH;rintro _ w ⟨bN,rfl,hH⟩ a hA)|refine CT ?_|(refine DT ?_ ?_<;>intro hc<;>try (exfalso;omega))|fail)
  rcases hx0.asTxt with ⟨s,hs,rfl,hss⟩| ⟨hs,hn⟩
  · repeat' (first|(refine XT ?_;apply XE;(first|(apply zC;rfl;rfl;decide;omega;exact hsp)|(apply zW;rfl)|(apply zF;rfl;exact zP MEMT hL hv1));clear hA a;intro a hA)|(refine QT ?_;clear hA a;intro a hA)|refine CT ?_|fail)
    rcases hx1.asTxt with ⟨t,ht,rfl,hts⟩| ⟨ht,hn⟩
    · rw [hs,ht] at e
      dsimp only at e
      have htr:iok (tru (eqS s t)):=by unfold tru iok;split<;>omega
      repeat' (first|(refine GT ?_ ?_<;>intro hg<;>clear hA a<;>intro a hA<;>(first|exact FA|replace hg:=dTr hg|replace hg:=dFa hg|skip))|(refine XT ?_;apply XE;(first|(apply yJ;rfl)|(apply zW;rfl)|(apply uK;rfl;rfl));clear hA a;intro a hA)|(refine QT ?_;clear hA a;intro a hA)|(refine zJ hA rfl rfl (by decide) (zE rfl rfl rfl (Truth_spec _ _)) ?_;clear hA;rintro _ w ⟨rfl,hk⟩ a hA;replace hH:=hH.keep hk;clear hk)|refine CT ?_|fail)
      exact rt2 (.inl rfl) rfl hA rfl rfl (Wst.same c.le_refl (hH.tail) (RsV_val e (RV_num htr) rfl) (by rw [e];exact hS) (by rw [e];rfl) (by rw [e];rfl))
    · rw [hs,ht] at e
      repeat' (first|(refine GT ?_ ?_<;>intro hg<;>clear hA a<;>intro a hA<;>(first|exact FA|replace hg:=dTr hg|replace hg:=dFa hg|skip))|(refine XT ?_;apply XE;(first|(apply yO;rfl;exact hn));clear hA a;intro a hA)|(refine QT ?_;clear hA a;intro a hA)|refine CT ?_|fail)
      exact rt2 (.inl rfl) rfl hA rfl rfl (Wst.same c.le_refl (hH.tail) (RsV_stk e rfl) (by rw [e];exact hS) (by rw [e];rfl) (by rw [e];rfl))
  · rcases hx1.asTxt with ⟨t,ht,rfl,hts⟩| ⟨ht,hn2⟩
    · rw [hs,ht] at e
      repeat' (first|(refine GT ?_ ?_<;>intro hg<;>clear hA a<;>intro a hA<;>(first|exact FA|replace hg:=dTr hg|replace hg:=dFa hg|skip))|(refine XT ?_;apply XE;(first|(apply zC;rfl;rfl;decide;omega;exact hsp)|(apply yO;rfl;exact hn)|(apply zF;rfl;exact zP MEMT hL hv1)|(apply zW;rfl));clear hA a;intro a hA)|(refine QT ?_;clear hA a;intro a hA)|refine CT ?_|fail)
      exact rt2 (.inl rfl) rfl hA rfl rfl (Wst.same c.le_refl (hH.tail) (RsV_stk e rfl) (by rw [e];exact hS) (by rw [e];rfl) (by rw [e];rfl))
    · rw [hs,ht] at e
      repeat' (first|(refine GT ?_ ?_<;>intro hg<;>clear hA a<;>intro a hA<;>(first|exact FA|replace hg:=dTr hg|replace hg:=dFa hg|skip))|(refine XT ?_;apply XE;(first|(apply zC;rfl;rfl;decide;omega;exact hsp)|(apply yO;rfl;exact hn)|(apply zF;rfl;exact zP MEMT hL hv1)|(apply yO;rfl;exact hn2));clear hA a;intro a hA)|(refine QT ?_;clear hA a;intro a hA)|refine CT ?_|fail)
      exact rt2 (.inl rfl) rfl hA rfl rfl (Wst.same c.le_refl (hH.tail) (RsV_stk e rfl) (by rw [e];exact hS) (by rw [e];rfl) (by rw [e];rfl))
theorem Plain5_spec (w0 w:World) (H:List It) (c:Cx) (TM bM:Nat) (g:Grs) (kd:Int) (rest:List Value) (caps:List Int) (mine:Int) (r:Stp) (l:List Vl) (vs:List Value) (oL oO:Option Addr) (cL cO:Nat) (wd:Wd) (sx:Sx) (f:Int) (cs:List Vl) (pc:Nat) (hH:HS w0 noM (cb bM TM (yA g kd wd.inp oO wd.out.length cO++rest)::own 5 1 oO wd.out.length cO (flat zY wd.out)::frz w0 c.K::all (sx.map obI)::H) w) (hL:∀w,c.K w→Rd w oL vs) (hlc:vs.length≤cL∧cL≤maxLen) (hV:RVs c l vs) (hS:StR c sx wd.st) (hF:FormP g caps mine r) (hrl:l.length=r.a.l.length) (hnf:c.nf=caps.length) (hcf:FnR c f cs pc) (hK0:∀w,c.K w→Kp w0 noM w) (hN:RdV w0 Fw.encI r.ns) (hbn:r.ns.l.length≤c.bd) (hbd:c.bd≤1000000) (hout:wd.out.length≤1000000) (hlab:g.ts.l.length≤9223372036854775807) (hk:r.k=5):Ret Tryz.prog 50 #[.pointer (some (bat bM 0)),.agg (zX r).toArray,.slice oL vs.length cL,.pointer (some (bat pc 0))] w (fun v w'=>Wst w0 c TM bM g kd rest H (yD r l cs wd) wd v w'):=by
  have hvl:=hV.len
  have hw:=hF.want
  have hnum:=hF.num
  have hsp:Sp oL vs.length:=(hL w (hH.frz (by exact MEMT))).sp (sz:=1) (by omega) (by omega)
  have e:=pl_5 (r:=r) (l:=l) (cs:=cs) (wd:=wd) hk
  rw [(w_5 (g:=g) (mine:=mine) hk).1] at hw
  rw [(w_5 (g:=g) (mine:=mine) hk).2] at hnum
  (refine ENT (N:=238) Tryz.func50 Tryz.ntmps50 ?_;intro a hA)
  obtain ⟨o5,k5,vs5,hf5,hp5,hr5,hv5⟩:=hcf
  have hl5:=hv5.len
  repeat' (first|(refine QT ?_;clear hA a;intro a hA)|(refine BT ?_;clear hA hH;rintro _ w ⟨bN,rfl,hH⟩ a hA)|refine CT ?_|(refine DT ?_ ?_<;>intro hc<;>try (exfalso;omega))|fail)
  (refine zO [(0,1),(1,1),(2,1),(3,1),(4,1),(5,1),(6,1),(7,1)] mixed (by decide +kernel) hH ?_;replace hH:=hH.drew)
  have hsp5:Sp o5 cs.length:=(hr5 _ (hH.frz (by exact MEMT))).sp (sz:=1) (by omega) (by omega)
  repeat' (first|(refine XT ?_;apply XE;(first|(apply zF;rfl;exact vE MEMT hp5 rfl));clear hA a;intro a hA)|(refine QT ?_;clear hA a;intro a hA)|refine CT ?_|(refine DT ?_ ?_<;>intro hc<;>try (exfalso;omega))|fail)
  · obtain ⟨u5,hu5,hx5⟩:=hv5.get0 (i:=r.n.toNat) (by omega)
    have hu6:vs5[r.n.toNat*1]?=some u5:=by rw [Nat.mul_one];exact hu5
    (refine zO [(0,1),(1,1),(2,1),(3,1),(4,1),(5,1),(6,1),(7,1),(8,1),(9,1)] mixed (by decide +kernel) hH ?_;replace hH:=hH.drew)
    repeat' (first|(refine XT ?_;apply XE;(first|(apply zF;rfl;exact vE MEMT hp5 rfl)|(apply zC;rfl;rfl;exact hnum.1;omega;exact hsp5)|(apply zF;rfl;exact zP MEMT hr5 hu6));clear hA a;intro a hA)|(refine QT ?_;clear hA a;intro a hA)|refine CT ?_|fail)
    exact rt2 (.inl rfl) rfl hA rfl rfl (Wst.same c.le_refl (hH.tail) (RsV_val e hx5 rfl) (by rw [e];exact hS) (by rw [e];rfl) (by rw [e];rfl))
  · have hnl:zS cs r.n.toNat= .nil:=by
      unfold zS
      rw [List.getD_eq_getElem?_getD,List.getElem?_eq_none_iff.2 (by omega)]
      rfl
    rw [hnl] at e
    exact rt2 (.inl rfl) rfl hA rfl rfl (Wst.same c.le_refl (hH.tail) (RsV_stk e rfl) (by rw [e];exact hS) (by rw [e];rfl) (by rw [e];rfl))
theorem Plain10_spec (w0 w:World) (H:List It) (c:Cx) (TM bM:Nat) (g:Grs) (kd:Int) (rest:List Value) (caps:List Int) (mine:Int) (r:Stp) (l:List Vl) (vs:List Value) (oL oO:Option Addr) (cL cO:Nat) (wd:Wd) (sx:Sx) (f:Int) (cs:List Vl) (pc:Nat) (hH:HS w0 noM (cb bM TM (yA g kd wd.inp oO wd.out.length cO++rest)::own 5 1 oO wd.out.length cO (flat zY wd.out)::frz w0 c.K::all (sx.map obI)::H) w) (hL:∀w,c.K w→Rd w oL vs) (hlc:vs.length≤cL∧cL≤maxLen) (hV:RVs c l vs) (hS:StR c sx wd.st) (hF:FormP g caps mine r) (hrl:l.length=r.a.l.length) (hnf:c.nf=caps.length) (hcf:FnR c f cs pc) (hK0:∀w,c.K w→Kp w0 noM w) (hN:RdV w0 Fw.encI r.ns) (hbn:r.ns.l.length≤c.bd) (hbd:c.bd≤1000000) (hout:wd.out.length≤1000000) (hlab:g.ts.l.length≤9223372036854775807) (hk:r.k=10):Ret Tryz.prog 50 #[.pointer (some (bat bM 0)),.agg (zX r).toArray,.slice oL vs.length cL,.pointer (some (bat pc 0))] w (fun v w'=>Wst w0 c TM bM g kd rest H (yD r l cs wd) wd v w'):=by
  have hvl:=hV.len
  have hw:=hF.want
  have hnum:=hF.num
  have hsp:Sp oL vs.length:=(hL w (hH.frz (by exact MEMT))).sp (sz:=1) (by omega) (by omega)
  have e:=pl_10 (r:=r) (l:=l) (cs:=cs) (wd:=wd) hk
  rw [(w_1 (g:=g) (mine:=mine) (.inr (.inl hk))).1] at hw
  rw [(w_1 (g:=g) (mine:=mine) (.inr (.inl hk))).2] at hnum
  obtain ⟨v0,hv0,hx0⟩:=hV.get0 (i:=0) (by omega)
  (refine ENT (N:=238) Tryz.func50 Tryz.ntmps50 ?_;intro a hA)
  repeat' (first|(refine XT ?_;apply XE;(first|(apply zC;rfl;rfl;decide;omega;exact hsp)|(apply zF;rfl;exact zP MEMT hL hv0));clear hA a;intro a hA)|(refine QT ?_;clear hA a;intro a hA)|(refine BT ?_;clear hA hH;rintro _ w ⟨bN,rfl,hH⟩ a hA)|refine CT ?_|(refine DT ?_ ?_<;>intro hc<;>try (exfalso;omega))|fail)
  rcases hx0.asTg with ⟨n,y,p,u,hs,rfl,hio,hp,hxu⟩| ⟨hs,hn⟩
  · rw [hs] at e
    repeat' (first|(refine XT ?_;apply XE;(first|(apply yJ;rfl)|(apply zW;rfl)|(apply zF;rfl;exact vE MEMT hp rfl));clear hA a;intro a hA)|(refine QT ?_;clear hA a;intro a hA)|refine CT ?_|fail)
    exact rt2 (.inl rfl) rfl hA rfl rfl (Wst.same c.le_refl (hH.tail) (RsV_val e (RV_num hio) rfl) (by rw [e];exact hS) (by rw [e];rfl) (by rw [e];rfl))
  · rw [hs] at e
    repeat' (first|(refine XT ?_;apply XE;(first|(apply yO;rfl;exact hn));clear hA a;intro a hA)|(refine QT ?_;clear hA a;intro a hA)|refine CT ?_|fail)
    exact rt2 (.inl rfl) rfl hA rfl rfl (Wst.same c.le_refl (hH.tail) (RsV_stk e rfl) (by rw [e];exact hS) (by rw [e];rfl) (by rw [e];rfl))
theorem Plain11_spec (w0 w:World) (H:List It) (c:Cx) (TM bM:Nat) (g:Grs) (kd:Int) (rest:List Value) (caps:List Int) (mine:Int) (r:Stp) (l:List Vl) (vs:List Value) (oL oO:Option Addr) (cL cO:Nat) (wd:Wd) (sx:Sx) (f:Int) (cs:List Vl) (pc:Nat) (hH:HS w0 noM (cb bM TM (yA g kd wd.inp oO wd.out.length cO++rest)::own 5 1 oO wd.out.length cO (flat zY wd.out)::frz w0 c.K::all (sx.map obI)::H) w) (hL:∀w,c.K w→Rd w oL vs) (hlc:vs.length≤cL∧cL≤maxLen) (hV:RVs c l vs) (hS:StR c sx wd.st) (hF:FormP g caps mine r) (hrl:l.length=r.a.l.length) (hnf:c.nf=caps.length) (hcf:FnR c f cs pc) (hK0:∀w,c.K w→Kp w0 noM w) (hN:RdV w0 Fw.encI r.ns) (hbn:r.ns.l.length≤c.bd) (hbd:c.bd≤1000000) (hout:wd.out.length≤1000000) (hlab:g.ts.l.length≤9223372036854775807) (hk:r.k=11):Ret Tryz.prog 50 #[.pointer (some (bat bM 0)),.agg (zX r).toArray,.slice oL vs.length cL,.pointer (some (bat pc 0))] w (fun v w'=>Wst w0 c TM bM g kd rest H (yD r l cs wd) wd v w'):=by
  have hvl:=hV.len
  have hw:=hF.want
  have hnum:=hF.num
  have hsp:Sp oL vs.length:=(hL w (hH.frz (by exact MEMT))).sp (sz:=1) (by omega) (by omega)
  have e:=pl_11 (r:=r) (l:=l) (cs:=cs) (wd:=wd) hk
  rw [(w_1 (g:=g) (mine:=mine) (.inr (.inr hk))).1] at hw
  rw [(w_1 (g:=g) (mine:=mine) (.inr (.inr hk))).2] at hnum
  obtain ⟨v0,hv0,hx0⟩:=hV.get0 (i:=0) (by omega)
  (refine ENT (N:=238) Tryz.func50 Tryz.ntmps50 ?_;intro a hA)
  repeat' (first|(refine XT ?_;apply XE;(first|(apply zC;rfl;rfl;decide;omega;exact hsp)|(apply zF;rfl;exact zP MEMT hL hv0));clear hA a;intro a hA)|(refine QT ?_;clear hA a;intro a hA)|(refine BT ?_;clear hA hH;rintro _ w ⟨bN,rfl,hH⟩ a hA)|refine CT ?_|(refine DT ?_ ?_<;>intro hc<;>try (exfalso;omega))|fail)
  rcases hx0.asTg with ⟨n,y,p,u,hs,rfl,hio,hp,hxu⟩| ⟨hs,hn⟩
  · rw [hs] at e
    repeat' (first|(refine XT ?_;apply XE;(first|(apply zW;rfl)|(apply zF;rfl;exact vE MEMT hp rfl));clear hA a;intro a hA)|(refine QT ?_;clear hA a;intro a hA)|refine CT ?_|fail)
    exact rt2 (.inl rfl) rfl hA rfl rfl (Wst.same c.le_refl (hH.tail) (RsV_val e hxu rfl) (by rw [e];exact hS) (by rw [e];rfl) (by rw [e];rfl))
  · rw [hs] at e
    repeat' (first|(refine XT ?_;apply XE;(first|(apply yO;rfl;exact hn));clear hA a;intro a hA)|(refine QT ?_;clear hA a;intro a hA)|refine CT ?_|fail)
    exact rt2 (.inl rfl) rfl hA rfl rfl (Wst.same c.le_refl (hH.tail) (RsV_stk e rfl) (by rw [e];exact hS) (by rw [e];rfl) (by rw [e];rfl))
end
section
attribute [local irreducible] Code.wp wpList Calls Ex Op1 sat bat blk cb own Go.Fw.mp Go.Fw.mpO Go.Fw.mpI Go.Fw.mpE Go.Fw.itr HS Rd Ret wkD Hp Cl Cls Exit.then Exit.inBlock Exit.noGoto bodyPost Go.Fw.flat wk2 Go.Fw.all Go.Fw.owns wpOp
attribute [local irreducible] sk mpK sko mvO xM opM Go.Fw.mset Go.Fw.mv opK w63 frz obI RV

theorem Plain8_spec (w0 w:World) (H:List It) (c:Cx) (TM bM:Nat) (g:Grs) (kd:Int) (rest:List Value) (caps:List Int) (mine:Int) (r:Stp) (l:List Vl) (vs:List Value) (oL oO:Option Addr) (cL cO:Nat) (wd:Wd) (sx:Sx) (f:Int) (cs:List Vl) (pc:Nat) (hH:HS w0 noM (cb bM TM (yA g kd wd.inp oO wd.out.length cO++rest)::own 5 1 oO wd.out.length cO (flat zY wd.out)::frz w0 c.K::all (sx.map obI)::H) w) (hL:∀w,c.K w→Rd w oL vs) (hlc:vs.length≤cL∧cL≤maxLen) (hV:RVs c l vs) (hS:StR c sx wd.st) (hF:FormP g caps mine r) (hrl:l.length=r.a.l.length) (hnf:c.nf=caps.length) (hcf:FnR c f cs pc) (hK0:∀w,c.K w→Kp w0 noM w) (hN:RdV w0 Fw.encI r.ns) (hbn:r.ns.l.length≤c.bd) (hbd:c.bd≤1000000) (hout:wd.out.length≤1000000) (hlab:g.ts.l.length≤9223372036854775807) (hk:r.k=8):Ret Tryz.prog 50 #[.pointer (some (bat bM 0)),.agg (zX r).toArray,.slice oL vs.length cL,.pointer (some (bat pc 0))] w (fun v w'=>Wst w0 c TM bM g kd rest H (yD r l cs wd) wd v w'):=by
  have hvl:=hV.len
  have hw:=hF.want
  have hnum:=hF.num
  have hsp:Sp oL vs.length:=(hL w (hH.frz (by exact MEMT))).sp (sz:=1) (by omega) (by omega)
  have e:=pl_8 (r:=r) (l:=l) (cs:=cs) (wd:=wd) hk
  rw [(w_8 (g:=g) (mine:=mine) hk).1] at hw
  rw [(w_8 (g:=g) (mine:=mine) hk).2] at hnum
  obtain ⟨v0,hv0,hx0⟩:=hV.get0 (i:=0) (by omega)
  (refine ENT (N:=238) Tryz.func50 Tryz.ntmps50 ?_;intro a hA)
  repeat' (first|(refine XT ?_;apply XE;(first|(apply zC;rfl;rfl;decide;omega;exact hsp)|(apply zF;rfl;exact zP MEMT hL hv0));clear hA a;intro a hA)|(refine QT ?_;clear hA a;intro a hA)|(refine BT ?_;clear hA hH;rintro _ w ⟨bN,rfl,hH⟩ a hA)|refine CT ?_|(refine DT ?_ ?_<;>intro hc<;>try (exfalso;omega))|fail)
  rcases hx0.asRc with ⟨ns,xs,p,on,cn,ol,cl,us,hs,rfl,⟨hq1,hq2,hq3,hq4,hq5,hq6⟩,hp,hrn,hrl2,hus⟩| ⟨hs,hn⟩
  rotate_left
  · rw [hs] at e
    repeat' (first|(refine XT ?_;apply XE;(first|(apply yO;rfl;exact hn));clear hA a;intro a hA)|(refine QT ?_;clear hA a;intro a hA)|refine CT ?_|fail)
    exact rt2 (.inl rfl) rfl hA rfl rfl (Wst.same c.le_refl (hH.tail) (RsV_stk e rfl) (by rw [e];exact hS) (by rw [e];rfl) (by rw [e];rfl))
  rw [hs] at e
  dsimp only at e
  have hul:=hus.len
  repeat' (first|(refine XT ?_;apply XE;(first|(apply zW;rfl));clear hA a;intro a hA)|(refine QT ?_;clear hA a;intro a hA)|refine CT ?_|fail)
  (refine zO [(0,1),(1,1),(2,1),(3,1),(4,1),(5,1),(6,0),(7,1),(8,1),(9,1),(10,1),(11,1)] mixed (by decide +kernel) hH ?_;replace hH:=hH.drew)
  repeat' (first|(refine XT ?_;apply XE;(first|(apply zF;rfl;exact vE MEMT hp rfl));clear hA a;intro a hA)|(refine QT ?_;clear hA a;intro a hA)|fail)
  have hb:=dN w.drew on cn ns r.n (hrn _ (hH.frz (by exact MEMT))) (by omega)
  (refine yC hA rfl rfl rfl (by decide) (zE rfl rfl rfl (hb)) ?_;clear hA;rintro _ w ⟨rfl,hk2⟩;refine ⟨hH.keep hk2,?_⟩;intro a hA)
  replace hH:=hH.keep hk2
  clear hk2 hb
  have hspU:Sp ol xs.length:=(hrl2 _ (hH.frz (by exact MEMT))).sp (sz:=1) (by omega) (by omega)
  cases hfd:bsB ns r.n with
  | true=>
    rw [if_pos hfd] at e
    have hbi:bsI ns r.n<ns.length:=(dTr hfd).1
    obtain ⟨u,hu,hxu⟩:=hus.get0 (i:=bsI ns r.n) (by omega)
    have hu6:us[bsI ns r.n*1]?=some u:=by rw [Nat.mul_one];exact hu
    rw [hfd] at hA
    repeat' (first|(refine XT ?_;apply XE;(first|(apply zF;rfl;exact vE MEMT hp rfl)|(apply zB;rfl;rfl;omega;exact hspU)|(apply zF;rfl;exact zP MEMT hrl2 hu6));clear hA a;intro a hA)|(refine QT ?_;clear hA a;intro a hA)|refine CT ?_|fail)
    exact rt2 (.inl rfl) rfl hA rfl rfl (Wst.same c.le_refl (hH.tail) (RsV_val e hxu rfl) (by rw [e];exact hS) (by rw [e];rfl) (by rw [e];rfl))
  | false=>
    rw [if_neg (by rw [hfd];decide)] at e
    rw [hfd] at hA
    repeat' (first|(refine QT ?_;clear hA a;intro a hA)|refine CT ?_|fail)
    exact rt2 (.inl rfl) rfl hA rfl rfl (Wst.same c.le_refl (hH.tail) (RsV_stk e rfl) (by rw [e];exact hS) (by rw [e];rfl) (by rw [e];rfl))
end
end Go.Proofs.YtenlcdokaadobaaGreatDoor
namespace Go.Fw
open Go Go.RowKit
set_option linter.unusedVariables false
def eJ (ops:Array Oper) (π2 ps:List Nat):Pl→Array Bool→Bool
  | .nil,listed=>okL ops π2 listed
  | .q i t,listed=>(Region.ready .any ops listed).contains i && Region.free .any ops listed i && (ps.contains i || late ops π2 listed i) && eJ ops π2 ps t (listed.setIfInBounds i true)
  | .one i t,listed=>decide (Region.ready .any ops listed=[i]) && eJ ops π2 ps t (listed.setIfInBounds i true)
  | .two i j t u,listed=>Nat.beq t.len u.len && decide (Region.ready .any ops listed=[i,j]) && eJ ops π2 ps t (listed.setIfInBounds i true) && eJ ops π2 ps u (listed.setIfInBounds j true)
def sS (P:Program) (ops:Array Oper) (S:World→Prop) (Q:Exit→Act→World→Prop) (π2 ps:List Nat):Pl→Act→World→Prop
  | .nil,a,w=>wk2 P ops Q π2 a w
  | .q i t,a,w=>∃o v,ops[i]?=some o∧YieldsIf P ops (if ps.contains i then fun _=>True else S) o v a∧sS P ops S Q π2 ps t (a.put o.dst v) w
  | .one i t,a,w=>wpOp P ops (NoPanic Q) i (fun a' w'=>S w'∧sS P ops S Q π2 ps t a' w') a w
  | .two i j t u,a,w=>wpOp P ops (NoPanic Q) i (fun a' w'=>S w'∧sS P ops S Q π2 ps t a' w') a w∧wpOp P ops (NoPanic Q) j (fun a' w'=>S w'∧sS P ops S Q π2 ps u a' w') a w
section
variable {P:Program} {ops:Array Oper} {S:World→Prop} {Q:Exit→Act→World→Prop} {π2 ps:List Nat}
theorem rZ (hs:Region.noSelect ops=true):∀(t:Pl) (listed:Array Bool) (a:Act) (w:World),
    eJ ops π2 ps t listed=true→S w→sS P ops S Q π2 ps t a w→wpAnyK P .any ops (NoPanic Q) S (fun j=>!π2.contains j) (t.len+π2.length) listed a w
  | .nil,listed,a,w,hok,hS,h=>by
    have:=kB (S:=S) (F:=fun j=>!π2.contains j) π2 listed a w (fun i hi=>by simpa using hi) hok h
    have e:Pl.nil.len+π2.length=π2.length:=Nat.zero_add _
    rw [e]
    exact this
  | .q i t,listed,a,w,hok,hS,h=>by
    simp only [eJ,Bool.and_eq_true] at hok
    obtain ⟨⟨⟨hr,hf⟩,hl⟩,hok'⟩:=hok
    obtain ⟨o,v,hi,hy,hk⟩:=h
    have e:(Pl.q i t).len+π2.length=(t.len+π2.length)+1:=by show t.len+1+_=_;omega
    rw [e]
    have hn:=rZ hs t _ _ w hok' hS hk
    cases hp:ps.contains i with
    | true=>
      rw [hp,if_pos rfl] at hy
      exact wpAnyK.firstp hi (Region.noSelect_spec hs) (fun c a w h=>h) _ listed a w (Region.free_spec hi hf) (by simpa using hr) hy hn
    | false=>
      rw [hp] at hy hl
      exact wpAnyK.first hi (Region.noSelect_spec hs) (fun c a w h=>h) _ listed a w (fB (by simpa using hl)) (Region.free_spec hi hf) (by simpa using hr) (by simpa using hy) hS hn
  | .one i t,listed,a,w,hok,hS,h=>by
    simp only [eJ,Bool.and_eq_true,decide_eq_true_eq] at hok
    have e:(Pl.one i t).len+π2.length=(t.len+π2.length)+1:=by show t.len+1+_=_;omega
    rw [e]
    refine ⟨fun h0=>(by rw [hok.1] at h0;cases h0),fun j hj=>?_⟩
    rw [hok.1] at hj
    obtain rfl:j=i:=by simpa using hj
    exact wpOp_mono (fun a' w' ⟨hS',h'⟩=>⟨fun _ _=>hS',rZ hs t _ a' w' hok.2 hS' h'⟩) h
  | .two i k t u,listed,a,w,hok,hS,h=>by
    simp only [eJ,Bool.and_eq_true,decide_eq_true_eq] at hok
    obtain ⟨⟨⟨hl,hr⟩,ht⟩,hu⟩:=hok
    have hl:=Nat.eq_of_beq_eq_true hl
    have e:(Pl.two i k t u).len+π2.length=(t.len+π2.length)+1:=by show t.len+1+_=_;omega
    rw [e]
    refine ⟨fun h0=>(by rw [hr] at h0;cases h0),fun j hj=>?_⟩
    rw [hr] at hj
    rcases (by simpa using hj:j=i∨j=k) with rfl|rfl
    · exact wpOp_mono (fun a' w' ⟨hS',h'⟩=>⟨fun _ _=>hS',rZ hs t _ a' w' ht hS' h'⟩) h.1
    · exact wpOp_mono (fun a' w' ⟨hS',h'⟩=>⟨fun _ _=>hS',by rw [hl];exact rZ hs u _ a' w' hu hS' h'⟩) h.2
end
theorem mH {P:Program} {id:Nat} {ops:List Oper} {Q:Exit→Act→World→Prop} {a:Act} {w0 w:World} {M:Nat→Prop} {H:List It} (t:Pl) (π2 ps:List Nat) (R:Act→World→Prop) (hm:P.follows .mixedOrders=true)
    (hok:(Region.noSelect ops.toArray && Nat.beq (t.len+π2.length) ops.length && eJ ops.toArray π2 ps t (Array.replicate ops.length false))=true) (hH:HS w0 M H w)
    (h:(∀a w,R a w→Q .normal a w)→sS P ops.toArray (HS w0 M H) Q π2 ps t a w.drew) (k:∀a w,R a w→Q .normal a w):(Code.region id ops.toArray true).wp P Q a w:=by
  simp only [Bool.and_eq_true] at hok
  obtain ⟨⟨hs,hl⟩,hok⟩:=hok
  have hl':t.len+π2.length=ops.toArray.size:=by simpa using Nat.eq_of_beq_eq_true hl
  have:=rZ (P:=P) (Q:=Q) hs t _ a w.drew hok hH.drew (h k)
  rw [hl'] at this
  refine wp_region_noPanic (wp_region_any hm (wpAnyK.any (S:=HS w0 M H) (F:=fun j=>!π2.contains j) _ _ _ _ ?_))
  simpa using this
section
variable {P:Program} {N:Nat} {l:List (Nat × Value)} {a:Act} {Ds:List Deferred} {w:World} {ops:Array Oper} {S:World→Prop} {Q:Exit→Act→World→Prop} {π2 ps:List Nat} {i j:Nat} {t u:Pl}
theorem oH (h:wk2 P ops Q π2 a w):sS P ops S Q π2 ps .nil a w:=h
theorem oJ {o:Oper} {d:Nat} {v:Value} (hA:Sl N l a Ds) (hi:ops[i]?=some o) (hg:gd ops l o.guard=some true) (hd:o.dst=some d) (hdN:d<N) (hp:ps.contains i=true)
    (h:Ex P N l (fun _=>True) o v) (k':∀a',Sl N ((d,v)::l) a' Ds→sS P ops S Q π2 ps t a' w):sS P ops S Q π2 ps (.q i t) a w:=by
  refine ⟨o,v,hi,?_,?_⟩
  · rw [hp,if_pos rfl]
    exact .inl ⟨hA.gd hg,fun w' hS=>h a w' hA.toSl0 hS⟩
  · rw [hd]
    exact k' _ (hA.put hdN v)
theorem jT {o:Oper} {d:Nat} {v:Value} (hA:Sl N l a Ds) (hi:ops[i]?=some o) (hg:gd ops l o.guard=some true) (hd:o.dst=some d) (hdN:d<N) (hp:ps.contains i=false)
    (h:Ex P N l S o v) (k':∀a',Sl N ((d,v)::l) a' Ds→sS P ops S Q π2 ps t a' w):sS P ops S Q π2 ps (.q i t) a w:=by
  refine ⟨o,v,hi,?_,?_⟩
  · rw [hp,if_neg (by decide)]
    exact .inl ⟨hA.gd hg,fun w' hS=>h a w' hA.toSl0 hS⟩
  · rw [hd]
    exact k' _ (hA.put hdN v)
theorem rE {o:Oper} {d:Nat} {R:Value→World→Prop} (hA:Sl N l a Ds) (hi:ops[i]?=some o) (hg:gd ops l o.guard=some true) (hd:o.dst=some d) (hdN:d<N)
    (h:Op1 P N l o w R) (k:∀v w',R v w'→S w'∧∀a',Sl N ((d,v)::l) a' Ds→sS P ops S Q π2 ps t a' w'):sS P ops S Q π2 ps (.one i t) a w:=by
  unfold sS wpOp
  simp only [hi,hA.gd hg,if_true]
  refine .inl (h a hA.toSl0 _ _ fun v w' hR=>?_)
  rw [hd]
  exact ⟨(k v w' hR).1,(k v w' hR).2 _ (hA.put hdN v)⟩
theorem qT {o:Oper} {R:Value→World→Prop} (hA:Sl N l a Ds) (hi:ops[i]?=some o) (hg:gd ops l o.guard=some true) (hd:o.dst=none)
    (h:Op1 P N l o w R) (k:∀v w',R v w'→S w'∧sS P ops S Q π2 ps t a w'):sS P ops S Q π2 ps (.one i t) a w:=by
  unfold sS wpOp
  simp only [hi,hA.gd hg,if_true]
  refine .inl (h a hA.toSl0 _ _ fun v w' hR=>?_)
  rw [hd]
  exact k v w' hR
theorem dJ (h1:sS P ops S Q π2 ps (.one i t) a w) (h2:sS P ops S Q π2 ps (.one j u) a w):sS P ops S Q π2 ps (.two i j t u) a w:=⟨h1,h2⟩
end
end Go.Fw
namespace Go.Proofs.YtenlcdokaadobaaGreatDoor
open Go Go.Fw
set_option linter.unusedVariables false
theorem Wst.rec_ {w0 w:World} {H:List It} {c:Cx} {TM bM p:Nat} {g:Grs} {kd:Int} {rest:List Value} {r:Rs} {wd:Wd} {v:Value} {sx:Sx} {oO oI oV:Option Addr} {cO cI cV n:Nat} {ns:List Int} {xs:List Vl} {us:List Value}
    (hH:HS w0 noM (cb p 196 [.slice oI n cI,.slice oV n cV]::own 2 1 oI n cI (flat Fw.encI ns)::own 137 1 oV n cV us::cb bM TM (yA g kd wd.inp oO wd.out.length cO++rest)::own 5 1 oO wd.out.length cO (flat zY wd.out)::frz w0 c.K::all (sx.map obI)::H) w) (hn:ns.length=n) (hx:xs.length=n) (hb:n≤c.bd+1) (hV:RVs c xs us) (hS:StR c sx wd.st)
    (hr:r= .val (.rc ns xs) wd) (hv:v= .tuple #[uT 194 p,.string empS]):Wst w0 c TM bM g kd rest H r wd v w:=by
  subst hn
  have hi:=hH.own_le (T:=2) (o:=oI) (.tail _ (.head _))
  have hj:=hH.own_le (T:=137) (o:=oV) (.tail _ (.tail _ (.head _)))
  have h1:=(hH.perm (H':=own 137 1 oV ns.length cV us::frz w0 c.K::own 2 1 oI ns.length cI (flat Fw.encI ns)::cb p 196 [.slice oI ns.length cI,.slice oV ns.length cV]::cb bM TM (yA g kd wd.inp oO wd.out.length cO++rest)::own 5 1 oO wd.out.length cO (flat zY wd.out)::all (sx.map obI)::H) PMT).frz_own
  have h2:=(h1.perm (.swap _ _ _)).frz_own
  have h3:=(h2.perm (.swap _ _ _)).frz_cb
  have hle:c.le {c with K:=fun w=>RdB w p [.slice oI ns.length cI,.slice oV ns.length cV]∧Rd w oI (flat Fw.encI ns)∧Rd w oV us∧c.K w,bd:=c.bd+1}:=⟨fun w h=>h.2.2.2,⟨[],(List.append_nil _).symm⟩,Nat.le_succ _,rfl⟩
  refine ⟨_,sx,oO,cO,⟨hle,Nat.le_refl _⟩,by rw [hr];exact h3.perm PMT,RsV_val hr (RV_rc (on:=oI) (cn:=cI) (ol:=oV) (cl:=cV) (vs:=us) ⟨hx.symm,hb,hi.1,hi.2,by omega,hj.2⟩ (fun w h=>by rw [hx];exact h.1) (fun w h=>h.2.1) (fun w h=>h.2.2.1) (RVs.mono hle _ _ hV)) hv,by rw [hr];exact hS.le hle rfl⟩
theorem ins_len' {α:Type} {l:List α} {i:Nat} {x:α} (hi:i≤l.length):(l.insertIdx i x).length=l.length+1:=by rw [pE hi,tV hi]
theorem all_drop {l:List Value} (h:l.all (·.oneCell')=true) (i:Nat):(l.drop i).all (·.oneCell')=true:=by
  rw [List.all_eq_true] at h ⊢
  exact fun x hx=>h x (List.mem_of_mem_drop hx)
theorem insI_call {w0 w:World} {H:List It} {o ov:Option Addr} {cn i:Nat} {fr:List Int} {r:Int} (hH:HS w0 noM (own 2 1 o fr.length cn (flat Fw.encI fr)::own 2 1 ov 1 1 (Fw.encI r)::H) w) (hi:i≤fr.length) (hl:fr.length≤1048576) :
    Ret Tryz.prog 95 #[.slice o fr.length cn,.int .i64 i,.slice ov 1 1] w (fun v w'=>∃o' c',v= .slice o' (fr.insertIdx i r).length c'∧HS w0 noM (own 2 1 o' (fr.insertIdx i r).length c' (flat Fw.encI (fr.insertIdx i r))::H) w'):=by
  obtain ⟨Mc,h1,-,h2⟩:=HS.frame (Hc:=[_,_]) hH
  refine (eR w Mc o ov cn i fr r h1 hi hl rfl fun l _=>tC (fun _=>rfl) l).mono fun v w' h=>?_
  obtain ⟨o',c',h3,h4⟩:=h
  have e1:(fr.insertIdx i r).length=fr.length+1:=by rw [pE hi,tV hi]
  rw [e1,pE hi]
  exact ⟨o',c',h3,h2 _ [_] h4⟩
theorem insV_call {w0 w:World} {H:List It} {o ov:Option Addr} {cn i:Nat} {fr:List Value} {r:Value} (hH:HS w0 noM (own 137 1 o fr.length cn fr::own 137 1 ov 1 1 [r]::H) w) (hi:i≤fr.length) (hl:fr.length≤1048576) (h1r:r.oneCell'=true) (hall:fr.all (·.oneCell')=true) :
    Ret Tryz.prog 96 #[.slice o fr.length cn,.int .i64 i,.slice ov 1 1] w (fun v w'=>∃o' c',v= .slice o' (fr.length+1) c'∧HS w0 noM (own 137 1 o' (fr.length+1) c' (fr.take i++[r]++fr.drop i)::H) w'):=by
  have hH':HS w0 noM (own 137 1 o fr.length cn (flat yY fr)::own 137 1 ov 1 1 (yY r)::H) w:=by rw [aL];exact hH
  obtain ⟨Mc,h1,-,h2⟩:=HS.frame (Hc:=[_,_]) hH'
  refine (eQ w Mc o ov cn i fr r h1 hi hl (by show [r].all _=true;simp [h1r]) fun l hl'=>by rw [aL,hl'];exact all_drop hall i).mono fun v w' h=>?_
  obtain ⟨o',c',h3,h4⟩:=h
  rw [aL] at h4
  refine ⟨o',c',h3,?_⟩
  have e2:fr.take i++[r]++fr.drop i=tH fr i r:=by unfold tH;simp
  rw [e2]
  exact h2 _ [_] h4
section
attribute [local irreducible] Code.wp wpList Calls Ex Op1 sat bat blk cb own Go.Fw.mp Go.Fw.mpO Go.Fw.mpI Go.Fw.mpE Go.Fw.itr HS Rd Ret wkD Hp Cl Cls Exit.then Exit.inBlock Exit.noGoto bodyPost Go.Fw.flat wk2 Go.Fw.all Go.Fw.owns wpOp
attribute [local irreducible] sk mpK sko mvO xM opM Go.Fw.mset Go.Fw.mv opK w63 frz obI RV

theorem Plain7_spec (w0 w:World) (H:List It) (c:Cx) (TM bM:Nat) (g:Grs) (kd:Int) (rest:List Value) (caps:List Int) (mine:Int) (r:Stp) (l:List Vl) (vs:List Value) (oL oO:Option Addr) (cL cO:Nat) (wd:Wd) (sx:Sx) (f:Int) (cs:List Vl) (pc:Nat) (hH:HS w0 noM (cb bM TM (yA g kd wd.inp oO wd.out.length cO++rest)::own 5 1 oO wd.out.length cO (flat zY wd.out)::frz w0 c.K::all (sx.map obI)::H) w) (hL:∀w,c.K w→Rd w oL vs) (hlc:vs.length≤cL∧cL≤maxLen) (hV:RVs c l vs) (hS:StR c sx wd.st) (hF:FormP g caps mine r) (hrl:l.length=r.a.l.length) (hnf:c.nf=caps.length) (hcf:FnR c f cs pc) (hK0:∀w,c.K w→Kp w0 noM w) (hN:RdV w0 Fw.encI r.ns) (hbn:r.ns.l.length≤c.bd) (hbd:c.bd≤1000000) (hout:wd.out.length≤1000000) (hlab:g.ts.l.length≤9223372036854775807) (hk:r.k=7):Ret Tryz.prog 50 #[.pointer (some (bat bM 0)),.agg (zX r).toArray,.slice oL vs.length cL,.pointer (some (bat pc 0))] w (fun v w'=>Wst w0 c TM bM g kd rest H (yD r l cs wd) wd v w'):=by
  have hvl:=hV.len
  have hw:=hF.want
  have hnum:=hF.num
  have hsp:Sp oL vs.length:=(hL w (hH.frz (by exact MEMT))).sp (sz:=1) (by omega) (by omega)
  have e:=pl_7 (r:=r) (l:=l) (cs:=cs) (wd:=wd) hk
  rw [(w_7 (g:=g) (mine:=mine) hk).1] at hw
  rw [(w_7 (g:=g) (mine:=mine) hk).2] at hnum
  obtain ⟨v0,hv0,hx0⟩:=hV.get0 (i:=0) (by omega)
  obtain ⟨v1,hv1,hx1⟩:=hV.get0 (i:=1) (by omega)
  (refine ENT (N:=238) Tryz.func50 Tryz.ntmps50 ?_;intro a hA)
  repeat' (first|(refine XT ?_;apply XE;(first|(apply zC;rfl;rfl;decide;omega;exact hsp)|(apply zF;rfl;exact zP MEMT hL hv0));clear hA a;intro a hA)|(refine QT ?_;clear hA a;intro a hA)|(refine BT ?_;clear hA hH;rintro _ w ⟨bN,rfl,hH⟩ a hA)|refine CT ?_|(refine DT ?_ ?_<;>intro hc<;>try (exfalso;omega))|fail)
  rcases hx0.asRc with ⟨ns,xs,p,on,cn,ol,cl,us,hs,rfl,⟨hq1,hq2,hq3,hq4,hq5,hq6⟩,hp,hrn,hrl2,hus⟩| ⟨hs,hn⟩
  rotate_left
  · rw [hs] at e
    repeat' (first|(refine XT ?_;apply XE;(first|(apply yO;rfl;exact hn));clear hA a;intro a hA)|(refine QT ?_;clear hA a;intro a hA)|refine CT ?_|fail)
    exact rt2 (.inl rfl) rfl hA rfl rfl (Wst.same c.le_refl (hH.tail) (RsV_stk e rfl) (by rw [e];exact hS) (by rw [e];rfl) (by rw [e];rfl))
  rw [hs] at e
  dsimp only at e
  have hul:=hus.len
  obtain ⟨b5,hb5⟩:∃x,x=bN:=⟨_,rfl⟩
  rw [←hb5] at hA hH
  clear hb5 bN
  repeat' (first|(refine XT ?_;apply XE;(first|(apply zW;rfl));clear hA a;intro a hA)|(refine QT ?_;clear hA a;intro a hA)|refine CT ?_|fail)
  (refine zO [(0,1),(1,1),(2,1),(3,1),(4,1),(5,1),(6,0),(7,1),(8,1),(9,1),(10,1),(11,1)] mixed (by decide +kernel) hH ?_;replace hH:=hH.drew)
  repeat' (first|(refine XT ?_;apply XE;(first|(apply zF;rfl;exact vE MEMT hp rfl));clear hA a;intro a hA)|(refine QT ?_;clear hA a;intro a hA)|fail)
  have hb:=dN w.drew on cn ns r.n (hrn _ (hH.frz (by exact MEMT))) (by omega)
  (refine yC hA rfl rfl rfl (by decide) (zE rfl rfl rfl (hb)) ?_;clear hA;rintro _ w ⟨rfl,hk2⟩;refine ⟨hH.keep hk2,?_⟩;intro a hA)
  replace hH:=hH.keep hk2
  clear hk2 hb
  repeat' (first|(refine QT ?_;clear hA a;intro a hA)|refine CT ?_|fail)
  (refine zO (H:=[frz w0 c.K]) [(0,1),(1,1),(2,1),(3,1),(5,1),(6,1),(7,1),(8,1),(4,0),(9,0),(10,1),(11,0),(12,1)] mixed (by decide +kernel) (hH.pick (by exact MEMT)) ?_;replace hH:=hH.drew)
  repeat' (first|(refine XT ?_;apply XE;(first|(apply zF;rfl;exact vE MEMT hp rfl));clear hA a;intro a hA)|(refine QT ?_;clear hA a;intro a hA)|fail)
  (refine yC hA rfl rfl rfl (by decide) (zE rfl rfl rfl (cloneI_spec _ on cn ns (hrn _ (hH.frz (by exact MEMT))) (by omega))) ?_;clear hA;rintro _ w ⟨oI,cI,rfl,hj⟩;replace hH:=hH.join hj;clear hj;refine ⟨hH.pick (by exact MEMT),?_⟩;intro a hA)
  repeat' (first|(refine QT ?_;clear hA a;intro a hA)|fail)
  have hcv:=fun w (h:Rd w ol us)=>cloneV_spec w ol cl us h hus.all (by omega)
  rw [hul] at hcv
  (refine yC hA rfl rfl rfl (by decide) (zE rfl rfl rfl (hcv _ (hrl2 _ (hH.frz (by exact MEMT))))) ?_;clear hA;rintro _ w ⟨oV,cV,rfl,hj⟩;replace hH:=hH.join hj;clear hj;refine ⟨hH.pick (by exact MEMT),?_⟩;intro a hA)
  repeat' (first|(refine QT ?_;clear hA a;intro a hA)|refine CT ?_|(refine DT ?_ ?_<;>intro hc<;>try (exfalso;omega))|(apply yC hA rfl rfl rfl (by decide);apply pV;rfl;exact hH;clear hA hH;rintro _ w ⟨bN,rfl,hH⟩;refine ⟨hH.pick (by exact MEMT),?_⟩;intro a hA)|fail)
  all_goals
    obtain ⟨bR,hbR⟩:∃x,x=bN:=⟨_,rfl⟩
    rw [←hbR] at hA hH
    clear hbR bN
    replace hH:=hH.perm (H':=cb bR 196 [.slice oI ns.length cI,.slice oV xs.length cV]::own 2 1 oI ns.length cI (flat Fw.encI ns)::own 137 1 oV xs.length cV us::cb bM TM (yA g kd wd.inp oO wd.out.length cO++rest)::own 5 1 oO wd.out.length cO (flat zY wd.out)::frz w0 c.K::all (sx.map obI)::cb b5 57 (zX r)::H) PMT
    replace hA:Sl 238 [(14,.pointer (some (bat bR 0))),(12,.int .i64 (bsI ns r.n)),(5,.pointer (some (bat b5 0))),(2,.slice oL vs.length cL),(0,.pointer (some (bat bM 0)))] a:=(hA.sub SBT)
    have hspV:=hH.own_sp (T:=137) (o:=oV) (by exact MEMT)
    have h1v:=hx1.one
  · have hfd:bsB ns r.n=true:=by first|assumption|exact decide_eq_true (by assumption)
    rw [if_pos hfd] at e
    have hbi:bsI ns r.n<ns.length:=(dTr hfd).1
    have hjl:bsI ns r.n<us.length:=by omega
    have hjl1:bsI ns r.n*1<us.length:=by omega
    have hps:=put_set (v:=v1) hjl
    (refine zN [(0,1),(1,1),(2,1),(3,1),(4,1),(5,1),(6,1),(7,1),(8,1)] [9] mixed (by decide +kernel) hH ?_;replace hH:=hH.drew)
    repeat' (first|(refine XT ?_;apply XE;(first|(apply zC;rfl;rfl;decide;omega;exact hsp)|(apply zB;rfl;rfl;omega;exact hspV)|(apply zF;rfl;exact zP MEMT hL hv1));clear hA a;intro a hA)|(refine QT ?_;clear hA a;intro a hA)|refine CT ?_|fail)
    (apply yB hA rfl rfl rfl;apply vB;rfl;rfl;exact h1v;exact hH;(repeat constructor);exact hjl1;exact hps;clear hH;rintro _ w hH)
    repeat' (first|(refine XT ?_;apply XE;(first|(apply yJ;rfl));clear hA a;intro a hA)|(refine QT ?_;clear hA a;intro a hA)|refine CT ?_|fail)
    rw [←hq1] at hH
    exact rt2 (.inl rfl) rfl hA rfl rfl (Wst.rec_ (hH.rm 7) rfl (by rw [List.length_set];exact hq1.symm) (by omega) (RVs.set hus hx1) hS e rfl)
  · have hfd:¬bsB ns r.n=true:=by rw [(by first|assumption|exact decide_eq_false (by assumption):bsB ns r.n=false)];decide
    rw [if_neg hfd] at e
    have hbi:bsI ns r.n≤ns.length:=jV _ _
    have hlI:ns.length≤1048576:=by omega
    have hiU:bsI ns r.n≤us.length:=by omega
    have hn1:=ins_len' (x:=r.n) hbi
    have hul1:=hus.len
    have hKP:∀{w:World} {H2:List It},HS w0 noM (cb bR 196 [.slice oI ns.length cI,.slice oV xs.length cV]::frz w0 c.K::cb b5 57 (zX r)::H2) w→HS w0 noM [cb bR 196 [.slice oI ns.length cI,.slice oV xs.length cV],frz w0 c.K,cb b5 57 (zX r)] w:=fun h=>HS.left (H1:=[_,_,_]) h
    have hST:=hKP (hH.perm (H':=cb bR 196 [.slice oI ns.length cI,.slice oV xs.length cV]::frz w0 c.K::cb b5 57 (zX r)::own 2 1 oI ns.length cI (flat Fw.encI ns)::own 137 1 oV xs.length cV us::cb bM TM (yA g kd wd.inp oO wd.out.length cO++rest)::own 5 1 oO wd.out.length cO (flat zY wd.out)::all (sx.map obI)::H) PMT)
    replace hH:=hH.perm (H':=cb bR 196 [.slice oI ns.length cI,.slice oV xs.length cV]::frz w0 c.K::cb b5 57 (zX r)::own 2 1 oI ns.length cI (flat Fw.encI ns)::own 137 1 oV xs.length cV us::cb bM TM (yA g kd wd.inp oO wd.out.length cO++rest)::own 5 1 oO wd.out.length cO (flat zY wd.out)::all (sx.map obI)::H) PMT
    refine mH (qs [0,1,2,3,4,5,6,7,8,11,12,13,14,15,16,17,18] (.two 9 19 (.two 10 19 (.one 19 (.one 20 .nil)) (.one 10 (.one 20 .nil))) (.one 9 (.one 10 (.one 20 .nil))))) [21,22,23,24,25,26] [1]
      (fun _ _=>False)
      mixed (by decide +kernel) hST ?_ ?_
    · intro hQ
      clear hST
      replace hH:=hH.drew
      (repeat ((first|(apply oJ hA rfl rfl rfl (by decide) rfl;exact xT rfl)|(apply jT hA rfl rfl rfl (by decide) rfl;first|(apply zF;rfl;exact zP MEMT hL hv1)|(apply zC;rfl;rfl;decide;omega;exact hsp)|exact EXT));clear hA a;intro a hA))
      have hIV:∀(w:World) (oB:Option Addr) (H2:List It),HS w0 noM (own 137 1 oV xs.length cV us::own 137 1 oB 1 1 [v1]::H2) w→Ret Tryz.prog 96 #[.slice oV xs.length cV,.int .i64 (bsI ns r.n),.slice oB 1 1] w (fun v w'=>∃o' c',v= .slice o' (xs.length+1) c'∧HS w0 noM (own 137 1 o' (xs.length+1) c' (us.take (bsI ns r.n)++[v1]++us.drop (bsI ns r.n))::H2) w'):=fun w oB H2 h=>by
        have h5:=insV_call (fr:=us) (r:=v1) (o:=oV) (cn:=cV) (ov:=oB) (i:=bsI ns r.n) (H:=H2) (w:=w) (w0:=w0) (by rw [hul];exact h) hiU (by omega) h1v hus.all
        rw [hul] at h5
        exact h5
      have hII:∀(w:World) (oA:Option Addr) (H2:List It),HS w0 noM (own 2 1 oI ns.length cI (flat Fw.encI ns)::own 2 1 oA 1 1 [.int .i64 r.n]::H2) w→Ret Tryz.prog 95 #[.slice oI ns.length cI,.int .i64 (bsI ns r.n),.slice oA 1 1] w (fun v w'=>∃o' c',v= .slice o' (ns.length+1) c'∧HS w0 noM (own 2 1 o' (ns.length+1) c' (flat Fw.encI (ns.insertIdx (bsI ns r.n) r.n))::H2) w'):=fun w oA H2 h=>by
        have h5:=insI_call (fr:=ns) (r:=r.n) (o:=oI) (cn:=cI) (ov:=oA) (i:=bsI ns r.n) (H:=H2) (w:=w) (w0:=w0) h hbi hlI
        rw [hn1] at h5
        exact h5
      refine dJ ?_ ?_
      · (apply rE hA rfl rfl rfl (by decide);apply zQ (xs:=[.int .i64 r.n]) (vs:=[.int .i64 r.n]);rfl;rfl;exact CATST;rfl;rfl;rfl;exact hH;clear hA hH;rintro _ w ⟨oA,rfl,hH⟩;refine ⟨hKP hH.tail,?_⟩;intro a hA)
        refine dJ ?_ ?_
        · (refine rE hA rfl rfl rfl (by decide) (zE rfl rfl rfl (hII _ _ _ (hH.perm (H':=own 2 1 oI ns.length cI (flat Fw.encI ns)::own 2 1 oA 1 1 [.int .i64 r.n]::cb bR 196 [.slice oI ns.length cI,.slice oV xs.length cV]::frz w0 c.K::cb b5 57 (zX r)::own 137 1 oV xs.length cV us::cb bM TM (yA g kd wd.inp oO wd.out.length cO++rest)::own 5 1 oO wd.out.length cO (flat zY wd.out)::all (sx.map obI)::H) PMT))) ?_;clear hA hH;rintro _ w ⟨oI2,cI2,rfl,hH⟩;refine ⟨hKP hH.tail,?_⟩;intro a hA)
          (apply rE hA rfl rfl rfl (by decide);apply zQ (xs:=[v1]) (vs:=[v1]);rfl;rfl;exact .c1 h1v .nil;rfl;rfl;rfl;exact hH;clear hA hH;rintro _ w ⟨oB,rfl,hH⟩;refine ⟨hKP hH.tail.tail,?_⟩;intro a hA)
          (refine rE hA rfl rfl rfl (by decide) (zE rfl rfl rfl (hIV _ _ _ (hH.perm (H':=own 137 1 oV xs.length cV us::own 137 1 oB 1 1 [v1]::cb bR 196 [.slice oI ns.length cI,.slice oV xs.length cV]::frz w0 c.K::cb b5 57 (zX r)::own 2 1 oI2 (ns.length+1) cI2 (flat Fw.encI (ns.insertIdx (bsI ns r.n) r.n))::cb bM TM (yA g kd wd.inp oO wd.out.length cO++rest)::own 5 1 oO wd.out.length cO (flat zY wd.out)::all (sx.map obI)::H) PMT))) ?_;clear hA hH;rintro _ w ⟨oV2,cV2,rfl,hH⟩;refine ⟨hKP hH.tail,?_⟩;intro a hA)
          (apply oH;(repeat' (first|(refine QT ?_;clear hA a;intro a hA)|(apply yB hA rfl rfl rfl;apply zG (cs':=[.slice oI2 (ns.length+1) cI2,.slice oV xs.length cV]);rfl;rfl;rfl;exact hH;(repeat constructor);clear hH;rintro _ w hH)|(apply yB hA rfl rfl rfl;apply zG (cs':=[.slice oI2 (ns.length+1) cI2,.slice oV2 (xs.length+1) cV2]);rfl;rfl;rfl;exact hH;(repeat constructor);clear hH;rintro _ w hH)|refine CT ?_|fail));(repeat' (first|(refine XT ?_;apply XE;(first|(apply yJ;rfl));clear hA a;intro a hA)|(refine QT ?_;clear hA a;intro a hA)|refine CT ?_|fail));rw [←hq1] at hH;exact rt2 (.inl rfl) rfl hA rfl rfl (Wst.rec_ (p:=bR) ((hH.perm (H':=cb bR 196 [.slice oI2 (ns.length+1) cI2,.slice oV2 (ns.length+1) cV2]::own 2 1 oI2 (ns.length+1) cI2 (flat Fw.encI (ns.insertIdx (bsI ns r.n) r.n))::own 137 1 oV2 (ns.length+1) cV2 (us.take (bsI ns r.n)++[v1]++us.drop (bsI ns r.n))::cb bM TM (yA g kd wd.inp oO wd.out.length cO++rest)::own 5 1 oO wd.out.length cO (flat zY wd.out)::frz w0 c.K::all (sx.map obI)::cb b5 57 (zX r)::H) PMT).rm 7) hn1 (by rw [ins_len' (by omega)];omega) (by omega) (RVs.ins hus hx1 (by omega)) hS e rfl))
        · (apply rE hA rfl rfl rfl (by decide);apply zQ (xs:=[v1]) (vs:=[v1]);rfl;rfl;exact .c1 h1v .nil;rfl;rfl;rfl;exact hH;clear hA hH;rintro _ w ⟨oB,rfl,hH⟩;refine ⟨hKP hH.tail.tail,?_⟩;intro a hA)
          (refine rE hA rfl rfl rfl (by decide) (zE rfl rfl rfl (hII _ _ _ (hH.perm (H':=own 2 1 oI ns.length cI (flat Fw.encI ns)::own 2 1 oA 1 1 [.int .i64 r.n]::cb bR 196 [.slice oI ns.length cI,.slice oV xs.length cV]::frz w0 c.K::cb b5 57 (zX r)::own 137 1 oB 1 1 [v1]::own 137 1 oV xs.length cV us::cb bM TM (yA g kd wd.inp oO wd.out.length cO++rest)::own 5 1 oO wd.out.length cO (flat zY wd.out)::all (sx.map obI)::H) PMT))) ?_;clear hA hH;rintro _ w ⟨oI2,cI2,rfl,hH⟩;refine ⟨hKP hH.tail,?_⟩;intro a hA)
          (refine rE hA rfl rfl rfl (by decide) (zE rfl rfl rfl (hIV _ _ _ (hH.perm (H':=own 137 1 oV xs.length cV us::own 137 1 oB 1 1 [v1]::cb bR 196 [.slice oI ns.length cI,.slice oV xs.length cV]::frz w0 c.K::cb b5 57 (zX r)::own 2 1 oI2 (ns.length+1) cI2 (flat Fw.encI (ns.insertIdx (bsI ns r.n) r.n))::cb bM TM (yA g kd wd.inp oO wd.out.length cO++rest)::own 5 1 oO wd.out.length cO (flat zY wd.out)::all (sx.map obI)::H) PMT))) ?_;clear hA hH;rintro _ w ⟨oV2,cV2,rfl,hH⟩;refine ⟨hKP hH.tail,?_⟩;intro a hA)
          (apply oH;(repeat' (first|(refine QT ?_;clear hA a;intro a hA)|(apply yB hA rfl rfl rfl;apply zG (cs':=[.slice oI2 (ns.length+1) cI2,.slice oV xs.length cV]);rfl;rfl;rfl;exact hH;(repeat constructor);clear hH;rintro _ w hH)|(apply yB hA rfl rfl rfl;apply zG (cs':=[.slice oI2 (ns.length+1) cI2,.slice oV2 (xs.length+1) cV2]);rfl;rfl;rfl;exact hH;(repeat constructor);clear hH;rintro _ w hH)|refine CT ?_|fail));(repeat' (first|(refine XT ?_;apply XE;(first|(apply yJ;rfl));clear hA a;intro a hA)|(refine QT ?_;clear hA a;intro a hA)|refine CT ?_|fail));rw [←hq1] at hH;exact rt2 (.inl rfl) rfl hA rfl rfl (Wst.rec_ (p:=bR) ((hH.perm (H':=cb bR 196 [.slice oI2 (ns.length+1) cI2,.slice oV2 (ns.length+1) cV2]::own 2 1 oI2 (ns.length+1) cI2 (flat Fw.encI (ns.insertIdx (bsI ns r.n) r.n))::own 137 1 oV2 (ns.length+1) cV2 (us.take (bsI ns r.n)++[v1]++us.drop (bsI ns r.n))::cb bM TM (yA g kd wd.inp oO wd.out.length cO++rest)::own 5 1 oO wd.out.length cO (flat zY wd.out)::frz w0 c.K::all (sx.map obI)::cb b5 57 (zX r)::H) PMT).rm 7) hn1 (by rw [ins_len' (by omega)];omega) (by omega) (RVs.ins hus hx1 (by omega)) hS e rfl))
      · (apply rE hA rfl rfl rfl (by decide);apply zQ (xs:=[v1]) (vs:=[v1]);rfl;rfl;exact .c1 h1v .nil;rfl;rfl;rfl;exact hH;clear hA hH;rintro _ w ⟨oB,rfl,hH⟩;refine ⟨hKP hH.tail,?_⟩;intro a hA)
        (apply rE hA rfl rfl rfl (by decide);apply zQ (xs:=[.int .i64 r.n]) (vs:=[.int .i64 r.n]);rfl;rfl;exact CATST;rfl;rfl;rfl;exact hH;clear hA hH;rintro _ w ⟨oA,rfl,hH⟩;refine ⟨hKP hH.tail.tail,?_⟩;intro a hA)
        (refine rE hA rfl rfl rfl (by decide) (zE rfl rfl rfl (hII _ _ _ (hH.perm (H':=own 2 1 oI ns.length cI (flat Fw.encI ns)::own 2 1 oA 1 1 [.int .i64 r.n]::cb bR 196 [.slice oI ns.length cI,.slice oV xs.length cV]::frz w0 c.K::cb b5 57 (zX r)::own 137 1 oB 1 1 [v1]::own 137 1 oV xs.length cV us::cb bM TM (yA g kd wd.inp oO wd.out.length cO++rest)::own 5 1 oO wd.out.length cO (flat zY wd.out)::all (sx.map obI)::H) PMT))) ?_;clear hA hH;rintro _ w ⟨oI2,cI2,rfl,hH⟩;refine ⟨hKP hH.tail,?_⟩;intro a hA)
        (refine rE hA rfl rfl rfl (by decide) (zE rfl rfl rfl (hIV _ _ _ (hH.perm (H':=own 137 1 oV xs.length cV us::own 137 1 oB 1 1 [v1]::cb bR 196 [.slice oI ns.length cI,.slice oV xs.length cV]::frz w0 c.K::cb b5 57 (zX r)::own 2 1 oI2 (ns.length+1) cI2 (flat Fw.encI (ns.insertIdx (bsI ns r.n) r.n))::cb bM TM (yA g kd wd.inp oO wd.out.length cO++rest)::own 5 1 oO wd.out.length cO (flat zY wd.out)::all (sx.map obI)::H) PMT))) ?_;clear hA hH;rintro _ w ⟨oV2,cV2,rfl,hH⟩;refine ⟨hKP hH.tail,?_⟩;intro a hA)
        (apply oH;(repeat' (first|(refine QT ?_;clear hA a;intro a hA)|(apply yB hA rfl rfl rfl;apply zG (cs':=[.slice oI2 (ns.length+1) cI2,.slice oV xs.length cV]);rfl;rfl;rfl;exact hH;(repeat constructor);clear hH;rintro _ w hH)|(apply yB hA rfl rfl rfl;apply zG (cs':=[.slice oI2 (ns.length+1) cI2,.slice oV2 (xs.length+1) cV2]);rfl;rfl;rfl;exact hH;(repeat constructor);clear hH;rintro _ w hH)|refine CT ?_|fail));(repeat' (first|(refine XT ?_;apply XE;(first|(apply yJ;rfl));clear hA a;intro a hA)|(refine QT ?_;clear hA a;intro a hA)|refine CT ?_|fail));rw [←hq1] at hH;exact rt2 (.inl rfl) rfl hA rfl rfl (Wst.rec_ (p:=bR) ((hH.perm (H':=cb bR 196 [.slice oI2 (ns.length+1) cI2,.slice oV2 (ns.length+1) cV2]::own 2 1 oI2 (ns.length+1) cI2 (flat Fw.encI (ns.insertIdx (bsI ns r.n) r.n))::own 137 1 oV2 (ns.length+1) cV2 (us.take (bsI ns r.n)++[v1]++us.drop (bsI ns r.n))::cb bM TM (yA g kd wd.inp oO wd.out.length cO++rest)::own 5 1 oO wd.out.length cO (flat zY wd.out)::frz w0 c.K::all (sx.map obI)::cb b5 57 (zX r)::H) PMT).rm 7) hn1 (by rw [ins_len' (by omega)];omega) (by omega) (RVs.ins hus hx1 (by omega)) hS e rfl))
    exact fun a w h=>h.elim
end
theorem Plain_spec (w0 w:World) (H:List It) (c:Cx) (TM bM:Nat) (g:Grs) (kd:Int) (rest:List Value) (caps:List Int) (mine:Int) (r:Stp) (l:List Vl) (vs:List Value) (oL oO:Option Addr) (cL cO:Nat) (wd:Wd) (sx:Sx) (f:Int) (cs:List Vl) (pc:Nat)
    (hH:HS w0 noM (cb bM TM (yA g kd wd.inp oO wd.out.length cO++rest)::own 5 1 oO wd.out.length cO (flat zY wd.out)::frz w0 c.K::all (sx.map obI)::H) w) (hL:∀w,c.K w→Rd w oL vs) (hlc:vs.length≤cL∧cL≤maxLen) (hV:RVs c l vs) (hS:StR c sx wd.st) (hF:FormP g caps mine r) (hrl:l.length=r.a.l.length) (hnf:c.nf=caps.length) (hcf:FnR c f cs pc)
    (hK0:∀w,c.K w→Kp w0 noM w) (hN:RdV w0 Fw.encI r.ns) (hbn:r.ns.l.length≤c.bd) (hbd:c.bd≤1000000) (hout:wd.out.length≤1000000) (hlab:g.ts.l.length≤9223372036854775807) (hk:r.k≠3∧r.k≠13∧r.k≠14) :
    Ret Tryz.prog 50 #[.pointer (some (bat bM 0)),.agg (zX r).toArray,.slice oL vs.length cL,.pointer (some (bat pc 0))] w (fun v w'=>Wst w0 c TM bM g kd rest H (yD r l cs wd) wd v w'):=by
  have h1:=hF.lo
  have h2:=hF.hi
  have hc:r.k=1∨r.k=2∨r.k=4∨r.k=5∨r.k=6∨r.k=7∨r.k=8∨r.k=9∨r.k=10∨r.k=11∨r.k=12:=by omega
  rcases hc with h|h|h|h|h|h|h|h|h|h|h
  · exact Plain1_spec w0 w H c TM bM g kd rest caps mine r l vs oL oO cL cO wd sx f cs pc hH hL hlc hV hS hF hrl hnf hcf hK0 hN hbn hbd hout hlab h
  · exact Plain2_spec w0 w H c TM bM g kd rest caps mine r l vs oL oO cL cO wd sx f cs pc hH hL hlc hV hS hF hrl hnf hcf hK0 hN hbn hbd hout hlab h
  · exact Plain4_spec w0 w H c TM bM g kd rest caps mine r l vs oL oO cL cO wd sx f cs pc hH hL hlc hV hS hF hrl hnf hcf hK0 hN hbn hbd hout hlab h
  · exact Plain5_spec w0 w H c TM bM g kd rest caps mine r l vs oL oO cL cO wd sx f cs pc hH hL hlc hV hS hF hrl hnf hcf hK0 hN hbn hbd hout hlab h
  · exact Plain6_spec w0 w H c TM bM g kd rest caps mine r l vs oL oO cL cO wd sx f cs pc hH hL hlc hV hS hF hrl hnf hcf hK0 hN hbn hbd hout hlab h
  · exact Plain7_spec w0 w H c TM bM g kd rest caps mine r l vs oL oO cL cO wd sx f cs pc hH hL hlc hV hS hF hrl hnf hcf hK0 hN hbn hbd hout hlab h
  · exact Plain8_spec w0 w H c TM bM g kd rest caps mine r l vs oL oO cL cO wd sx f cs pc hH hL hlc hV hS hF hrl hnf hcf hK0 hN hbn hbd hout hlab h
  · exact Plain9_spec w0 w H c TM bM g kd rest caps mine r l vs oL oO cL cO wd sx f cs pc hH hL hlc hV hS hF hrl hnf hcf hK0 hN hbn hbd hout hlab h
  · exact Plain10_spec w0 w H c TM bM g kd rest caps mine r l vs oL oO cL cO wd sx f cs pc hH hL hlc hV hS hF hrl hnf hcf hK0 hN hbn hbd hout hlab h
  · exact Plain11_spec w0 w H c TM bM g kd rest caps mine r l vs oL oO cL cO wd sx f cs pc hH hL hlc hV hS hF hrl hnf hcf hK0 hN hbn hbd hout hlab h
  · exact Plain12_spec w0 w H c TM bM g kd rest caps mine r l vs oL oO cL cO wd sx f cs pc hH hL hlc hV hS hF hrl hnf hcf hK0 hN hbn hbd hout hlab h
section
attribute [local irreducible] Code.wp wpList Calls Ex Op1 sat bat blk cb own Go.Fw.mp Go.Fw.mpO Go.Fw.mpI Go.Fw.mpE Go.Fw.itr HS Rd Ret wkD Hp Cl Cls Exit.then Exit.inBlock Exit.noGoto bodyPost Go.Fw.flat wk2 Go.Fw.all Go.Fw.owns wpOp
attribute [local irreducible] sk mpK sko mvO xM opM Go.Fw.mset Go.Fw.mv opK w63 frz obI RV xC

theorem Exn_spec (w0 w:World) (H:List It) (TM bM:Nat) (cs rest:List Value) (xs:Vec ByteArray) (s:ByteArray) (hH:HS w0 noM (cb bM TM (.slice xs.o xs.l.length xs.c::rest)::H) w) (hR:RdV w0 yQ xs) :
    Ret Tryz.prog 52 #[.pointer (some (bat bM 0)),.string s] w (fun v w'=>v= .int .i64 (xC xs.l s)∧HS w0 noM (cb bM TM (.slice xs.o xs.l.length xs.c::rest)::H) w'):=by
  (refine ENT (N:=11) Tryz.func52 Tryz.ntmps52 ?_;intro a hA)
  repeat' (first|(refine QT ?_;clear hA a;intro a hA)|refine CT ?_|fail)
  (refine zJ hA rfl rfl (by decide) (zE rfl rfl rfl (lP _ xs s (hR.keep hH.kp))) ?_;clear hA;rintro _ w ⟨rfl,hk⟩ a hA;replace hH:=hH.keep hk;clear hk)
  repeat' (first|(refine QT ?_;clear hA a;intro a hA)|refine CT ?_|fail)
  exact rt1 (.inl rfl) rfl hA rfl ⟨rfl,hH⟩
end
end Go.Proofs.YtenlcdokaadobaaGreatDoor
