/-
  rt's Plain: a record with a field. Conditions: none.
  rt's Plain, whatever the step; an exception's number. Conditions: none.
  The machine in memory; what an atom is, what atoms are. Conditions: none.
  The machine: stop, enter, call. Conditions: none.
  The machine: call. Conditions: none.
  The machine: back to who waits. Conditions: none.
  The machine: those that wait, as they lie in memory; raise. Conditions: none.
  DERIVED: THE SHELF's CONTRACTS AT THIS DUMP, IN PLAIN WORDS (tools/lay-plain.mjs out of 'TryzShelf2.lean', which tools/lay-shelf.mjs wrote): THE SAME DECLARATIONS UNDER THE SAME NAMES: 'import', 'namespace', 'open', 'def', 'theorem' AND NOTHING ELSE: no command of the shelf's: FOR A HAND-IN. Each laying: the table of numbers ('.._ren') and one theorem, a field a fact of the dump's own or the kernel's comparison; each contract: ONE APPLICATION.
  A strings.Builder, as it lies in memory: copyCheck, WriteByte, WriteString, String. Conditions: none.
  word.Quote. Conditions: none.
  rt's Text; word.Text under what strconv.FormatInt tells. Conditions: none.
-/
import Derived.Test.YtenlcdokaadobaaGreatDoorRowMeansMg8
import Derived.Shelf.Strings.Builder1
import Derived.Shelf.LaysM
import Derived.Shelf.Strconv.Itoa4
import Derived.Test.YtenlcdokaadobaaGreatDoorProg
import Derived.Lib.AppendStr
import Derived.Lib.Builder
import Derived.Laws.Externs
set_option maxHeartbeats 64000000
set_option maxRecDepth 10000
namespace Go.Proofs.YtenlcdokaadobaaGreatDoor
open Go Go.Fw
set_option linter.unusedVariables false
theorem Wst.rec_ {w0 w:World} {H:List It} {c:Cx} {TM bM p:Nat} {g:Grs} {kd:Int} {rest:List Value} {r:Rs} {wd:Wd} {v:Value} {sx:Sx} {oO oI oV:Option Addr} {cO cI cV n:Nat} {ns:List Int} {xs:List Vl} {us:List Value}
    (hH:HS w0 noM (cb p 196 [.slice oI n cI,.slice oV n cV]::own 2 1 oI n cI (flat Fw.encI ns)::own 137 1 oV n cV us::cb bM TM (zJ g kd wd.inp oO wd.out.length cO++rest)::own 5 1 oO wd.out.length cO (flat zV wd.out)::frz w0 c.K::all (sx.map obI)::H) w) (hn:ns.length=n) (hx:xs.length=n) (hb:n≤c.bd+1) (hV:RVs c xs us) (hS:StR c sx wd.st)
    (hr:r= .val (.rc ns xs) wd) (hv:v= .tuple #[vY 194 p,.string empS]):Wst w0 c TM bM g kd rest H r wd v w:=by
  subst hn
  have hi:=hH.own_le (T:=2) (o:=oI) (.tail _ (.head _))
  have hj:=hH.own_le (T:=137) (o:=oV) (.tail _ (.tail _ (.head _)))
  have h1:=(hH.perm (H':=own 137 1 oV ns.length cV us::frz w0 c.K::own 2 1 oI ns.length cI (flat Fw.encI ns)::cb p 196 [.slice oI ns.length cI,.slice oV ns.length cV]::cb bM TM (zJ g kd wd.inp oO wd.out.length cO++rest)::own 5 1 oO wd.out.length cO (flat zV wd.out)::all (sx.map obI)::H) PMT).frz_own
  have h2:=(h1.perm (.swap _ _ _)).frz_own
  have h3:=(h2.perm (.swap _ _ _)).frz_cb
  have hle:c.le {c with K:=fun w=>RdB w p [.slice oI ns.length cI,.slice oV ns.length cV]∧Rd w oI (flat Fw.encI ns)∧Rd w oV us∧c.K w,bd:=c.bd+1}:=⟨fun w h=>h.2.2.2,⟨[],(List.append_nil _).symm⟩,Nat.le_succ _,rfl⟩
  refine ⟨_,sx,oO,cO,⟨hle,Nat.le_refl _⟩,by rw [hr];exact h3.perm PMT,RsV_val hr (RV_rc (on:=oI) (cn:=cI) (ol:=oV) (cl:=cV) (vs:=us) ⟨hx.symm,hb,hi.1,hi.2,by omega,hj.2⟩ (fun w h=>by rw [hx];exact h.1) (fun w h=>h.2.1) (fun w h=>h.2.2.1) (RVs.mono hle _ _ hV)) hv,by rw [hr];exact hS.le hle rfl⟩
theorem ins_len' {α:Type} {l:List α} {i:Nat} {x:α} (hi:i≤l.length):(l.insertIdx i x).length=l.length+1:=by rw [aH hi,qB hi]
theorem all_drop {l:List Value} (h:l.all (·.oneCell')=true) (i:Nat):(l.drop i).all (·.oneCell')=true:=by
  rw [List.all_eq_true] at h ⊢
  exact fun x hx=>h x (List.mem_of_mem_drop hx)
theorem insI_call {w0 w:World} {H:List It} {o ov:Option Addr} {cn i:Nat} {fr:List Int} {r:Int} (hH:HS w0 noM (own 2 1 o fr.length cn (flat Fw.encI fr)::own 2 1 ov 1 1 (Fw.encI r)::H) w) (hi:i≤fr.length) (hl:fr.length≤1048576) :
    Ret Tryz.prog 95 #[.slice o fr.length cn,.int .i64 i,.slice ov 1 1] w (fun v w'=>∃o' c',v= .slice o' (fr.insertIdx i r).length c'∧HS w0 noM (own 2 1 o' (fr.insertIdx i r).length c' (flat Fw.encI (fr.insertIdx i r))::H) w'):=by
  obtain ⟨Mc,h1,-,h2⟩:=HS.frame (Hc:=[_,_]) hH
  refine (aG w Mc o ov cn i fr r h1 hi hl rfl fun l _=>vQ (fun _=>rfl) l).mono fun v w' h=>?_
  obtain ⟨o',c',h3,h4⟩:=h
  have e1:(fr.insertIdx i r).length=fr.length+1:=by rw [aH hi,qB hi]
  rw [e1,aH hi]
  exact ⟨o',c',h3,h2 _ [_] h4⟩
theorem insV_call {w0 w:World} {H:List It} {o ov:Option Addr} {cn i:Nat} {fr:List Value} {r:Value} (hH:HS w0 noM (own 137 1 o fr.length cn fr::own 137 1 ov 1 1 [r]::H) w) (hi:i≤fr.length) (hl:fr.length≤1048576) (h1r:r.oneCell'=true) (hall:fr.all (·.oneCell')=true) :
    Ret Tryz.prog 96 #[.slice o fr.length cn,.int .i64 i,.slice ov 1 1] w (fun v w'=>∃o' c',v= .slice o' (fr.length+1) c'∧HS w0 noM (own 137 1 o' (fr.length+1) c' (fr.take i++[r]++fr.drop i)::H) w'):=by
  have hH':HS w0 noM (own 137 1 o fr.length cn (flat yR fr)::own 137 1 ov 1 1 (yR r)::H) w:=by rw [flatV];exact hH
  obtain ⟨Mc,h1,-,h2⟩:=HS.frame (Hc:=[_,_]) hH'
  refine (aF w Mc o ov cn i fr r h1 hi hl (by show [r].all _=true;simp [h1r]) fun l hl'=>by rw [flatV,hl'];exact all_drop hall i).mono fun v w' h=>?_
  obtain ⟨o',c',h3,h4⟩:=h
  rw [flatV] at h4
  refine ⟨o',c',h3,?_⟩
  have e2:fr.take i++[r]++fr.drop i=sP fr i r:=by unfold sP;simp
  rw [e2]
  exact h2 _ [_] h4
section
attribute [local irreducible] Code.wp wpList Calls Ex Op1 sat bat blk cb own Go.Fw.mp Go.Fw.mpO Go.Fw.mpI Go.Fw.mpE Go.Fw.itr HS Rd Ret wkD Hp Cl Cls Exit.then Exit.inBlock Exit.noGoto bodyPost Go.Fw.flat wk2 Go.Fw.all Go.Fw.owns wpOp
attribute [local irreducible] sk mpK sko mvO xI opM Go.Fw.mset Go.Fw.mv opK w63 frz obI RV

theorem Plain7_spec (w0 w:World) (H:List It) (c:Cx) (TM bM:Nat) (g:Grs) (kd:Int) (rest:List Value) (caps:List Int) (mine:Int) (r:Stp) (l:List Vl) (vs:List Value) (oL oO:Option Addr) (cL cO:Nat) (wd:Wd) (sx:Sx) (f:Int) (cs:List Vl) (pc:Nat) (hH:HS w0 noM (cb bM TM (zJ g kd wd.inp oO wd.out.length cO++rest)::own 5 1 oO wd.out.length cO (flat zV wd.out)::frz w0 c.K::all (sx.map obI)::H) w) (hL:∀w,c.K w→Rd w oL vs) (hlc:vs.length≤cL∧cL≤maxLen) (hV:RVs c l vs) (hS:StR c sx wd.st) (hF:FormP g caps mine r) (hrl:l.length=r.a.l.length) (hnf:c.nf=caps.length) (hcf:FnR c f cs pc) (hK0:∀w,c.K w→Kp w0 noM w) (hN:RdV w0 Fw.encI r.ns) (hbn:r.ns.l.length≤c.bd) (hbd:c.bd≤1000000) (hout:wd.out.length≤1000000) (hlab:g.ts.l.length≤9223372036854775807) (hk:r.k=7):Ret Tryz.prog 50 #[.pointer (some (bat bM 0)),.agg (yG r).toArray,.slice oL vs.length cL,.pointer (some (bat pc 0))] w (fun v w'=>Wst w0 c TM bM g kd rest H (yH r l cs wd) wd v w'):=by
  have hvl:=hV.len
  have hw:=hF.want
  have hnum:=hF.num
  have hsp:Sp oL vs.length:=(hL w (hH.frz (by exact MEMT))).sp (sz:=1) (by omega) (by omega)
  have e:=pl_7 (r:=r) (l:=l) (cs:=cs) (wd:=wd) hk
  rw [(w_7 (g:=g) (mine:=mine) hk).1] at hw
  rw [(w_7 (g:=g) (mine:=mine) hk).2] at hnum
  obtain ⟨v0,hv0,hx0⟩:=hV.get0 (i:=0) (by omega)
  obtain ⟨v1,hv1,hx1⟩:=hV.get0 (i:=1) (by omega)
  (refine ENT (N:=238) Tryz.func50 Tryz.ntmps50 ?_;intro a hA)
  repeat' (first|(refine XT ?_;apply XE;(first|(apply zD;rfl;rfl;decide;omega;exact hsp)|(apply zC;rfl;exact yJ MEMT hL hv0));clear hA a;intro a hA)|(refine QT ?_;clear hA a;intro a hA)|(refine BT ?_;clear hA hH;rintro _ w ⟨bN,rfl,hH⟩ a hA)|refine CT ?_|(refine DT ?_ ?_<;>intro hc<;>try (exfalso;omega))|fail)
  rcases hx0.asRc with ⟨ns,xs,p,on,cn,ol,cl,us,hs,rfl,⟨hq1,hq2,hq3,hq4,hq5,hq6⟩,hp,hrn,hrl2,hus⟩| ⟨hs,hn⟩
  rotate_left
  · rw [hs] at e
    repeat' (first|(refine XT ?_;apply XE;(first|(apply yC;rfl;exact hn));clear hA a;intro a hA)|(refine QT ?_;clear hA a;intro a hA)|refine CT ?_|fail)
    exact rt2 (.inl rfl) rfl hA rfl rfl (Wst.same c.le_refl (hH.tail) (RsV_stk e rfl) (by rw [e];exact hS) (by rw [e];rfl) (by rw [e];rfl))
  rw [hs] at e
  dsimp only at e
  have hul:=hus.len
  obtain ⟨b5,hb5⟩:∃x,x=bN:=⟨_,rfl⟩
  rw [←hb5] at hA hH
  clear hb5 bN
  repeat' (first|(refine XT ?_;apply XE;(first|(apply zL;rfl));clear hA a;intro a hA)|(refine QT ?_;clear hA a;intro a hA)|refine CT ?_|fail)
  (refine zQ [(0,1),(1,1),(2,1),(3,1),(4,1),(5,1),(6,0),(7,1),(8,1),(9,1),(10,1),(11,1)] mixed (by decide +kernel) hH ?_;replace hH:=hH.drew)
  repeat' (first|(refine XT ?_;apply XE;(first|(apply zC;rfl;exact wG MEMT hp rfl));clear hA a;intro a hA)|(refine QT ?_;clear hA a;intro a hA)|fail)
  have hb:=jV w.drew on cn ns r.n (hrn _ (hH.frz (by exact MEMT))) (by omega)
  (refine yO hA rfl rfl rfl (by decide) (zA rfl rfl rfl (hb)) ?_;clear hA;rintro _ w ⟨rfl,hk2⟩;refine ⟨hH.keep hk2,?_⟩;intro a hA)
  replace hH:=hH.keep hk2
  clear hk2 hb
  repeat' (first|(refine QT ?_;clear hA a;intro a hA)|refine CT ?_|fail)
  (refine zQ (H:=[frz w0 c.K]) [(0,1),(1,1),(2,1),(3,1),(5,1),(6,1),(7,1),(8,1),(4,0),(9,0),(10,1),(11,0),(12,1)] mixed (by decide +kernel) (hH.pick (by exact MEMT)) ?_;replace hH:=hH.drew)
  repeat' (first|(refine XT ?_;apply XE;(first|(apply zC;rfl;exact wG MEMT hp rfl));clear hA a;intro a hA)|(refine QT ?_;clear hA a;intro a hA)|fail)
  (refine yO hA rfl rfl rfl (by decide) (zA rfl rfl rfl (cloneI_spec _ on cn ns (hrn _ (hH.frz (by exact MEMT))) (by omega))) ?_;clear hA;rintro _ w ⟨oI,cI,rfl,hj⟩;replace hH:=hH.join hj;clear hj;refine ⟨hH.pick (by exact MEMT),?_⟩;intro a hA)
  repeat' (first|(refine QT ?_;clear hA a;intro a hA)|fail)
  have hcv:=fun w (h:Rd w ol us)=>cloneV_spec w ol cl us h hus.all (by omega)
  rw [hul] at hcv
  (refine yO hA rfl rfl rfl (by decide) (zA rfl rfl rfl (hcv _ (hrl2 _ (hH.frz (by exact MEMT))))) ?_;clear hA;rintro _ w ⟨oV,cV,rfl,hj⟩;replace hH:=hH.join hj;clear hj;refine ⟨hH.pick (by exact MEMT),?_⟩;intro a hA)
  repeat' (first|(refine QT ?_;clear hA a;intro a hA)|refine CT ?_|(refine DT ?_ ?_<;>intro hc<;>try (exfalso;omega))|(apply yO hA rfl rfl rfl (by decide);apply nX;rfl;exact hH;clear hA hH;rintro _ w ⟨bN,rfl,hH⟩;refine ⟨hH.pick (by exact MEMT),?_⟩;intro a hA)|fail)
  all_goals
    obtain ⟨bR,hbR⟩:∃x,x=bN:=⟨_,rfl⟩
    rw [←hbR] at hA hH
    clear hbR bN
    replace hH:=hH.perm (H':=cb bR 196 [.slice oI ns.length cI,.slice oV xs.length cV]::own 2 1 oI ns.length cI (flat Fw.encI ns)::own 137 1 oV xs.length cV us::cb bM TM (zJ g kd wd.inp oO wd.out.length cO++rest)::own 5 1 oO wd.out.length cO (flat zV wd.out)::frz w0 c.K::all (sx.map obI)::cb b5 57 (yG r)::H) PMT
    replace hA:Sl 238 [(14,.pointer (some (bat bR 0))),(12,.int .i64 (bsI ns r.n)),(5,.pointer (some (bat b5 0))),(2,.slice oL vs.length cL),(0,.pointer (some (bat bM 0)))] a:=(hA.sub SBT)
    have hspV:=hH.own_sp (T:=137) (o:=oV) (by exact MEMT)
    have h1v:=hx1.one
  · have hfd:bsB ns r.n=true:=by first|assumption|exact decide_eq_true (by assumption)
    rw [if_pos hfd] at e
    have hbi:bsI ns r.n<ns.length:=(dTr hfd).1
    have hjl:bsI ns r.n<us.length:=by omega
    have hjl1:bsI ns r.n*1<us.length:=by omega
    have hps:=put_set (v:=v1) hjl
    (refine zK [(0,1),(1,1),(2,1),(3,1),(4,1),(5,1),(6,1),(7,1),(8,1)] [9] mixed (by decide +kernel) hH ?_;replace hH:=hH.drew)
    repeat' (first|(refine XT ?_;apply XE;(first|(apply zD;rfl;rfl;decide;omega;exact hsp)|(apply zE;rfl;rfl;omega;exact hspV)|(apply zC;rfl;exact yJ MEMT hL hv1));clear hA a;intro a hA)|(refine QT ?_;clear hA a;intro a hA)|refine CT ?_|fail)
    (apply zX hA rfl rfl rfl;apply uS;rfl;rfl;exact h1v;exact hH;(repeat constructor);exact hjl1;exact hps;clear hH;rintro _ w hH)
    repeat' (first|(refine XT ?_;apply XE;(first|(apply zY;rfl));clear hA a;intro a hA)|(refine QT ?_;clear hA a;intro a hA)|refine CT ?_|fail)
    rw [←hq1] at hH
    exact rt2 (.inl rfl) rfl hA rfl rfl (Wst.rec_ (hH.rm 7) rfl (by rw [List.length_set];exact hq1.symm) (by omega) (RVs.set hus hx1) hS e rfl)
  · have hfd:¬bsB ns r.n=true:=by rw [(by first|assumption|exact decide_eq_false (by assumption):bsB ns r.n=false)];decide
    rw [if_neg hfd] at e
    have hbi:bsI ns r.n≤ns.length:=eD _ _
    have hlI:ns.length≤1048576:=by omega
    have hiU:bsI ns r.n≤us.length:=by omega
    have hn1:=ins_len' (x:=r.n) hbi
    have hul1:=hus.len
    have hKP:∀{w:World} {H2:List It},HS w0 noM (cb bR 196 [.slice oI ns.length cI,.slice oV xs.length cV]::frz w0 c.K::cb b5 57 (yG r)::H2) w→HS w0 noM [cb bR 196 [.slice oI ns.length cI,.slice oV xs.length cV],frz w0 c.K,cb b5 57 (yG r)] w:=fun h=>HS.left (H1:=[_,_,_]) h
    have hST:=hKP (hH.perm (H':=cb bR 196 [.slice oI ns.length cI,.slice oV xs.length cV]::frz w0 c.K::cb b5 57 (yG r)::own 2 1 oI ns.length cI (flat Fw.encI ns)::own 137 1 oV xs.length cV us::cb bM TM (zJ g kd wd.inp oO wd.out.length cO++rest)::own 5 1 oO wd.out.length cO (flat zV wd.out)::all (sx.map obI)::H) PMT)
    replace hH:=hH.perm (H':=cb bR 196 [.slice oI ns.length cI,.slice oV xs.length cV]::frz w0 c.K::cb b5 57 (yG r)::own 2 1 oI ns.length cI (flat Fw.encI ns)::own 137 1 oV xs.length cV us::cb bM TM (zJ g kd wd.inp oO wd.out.length cO++rest)::own 5 1 oO wd.out.length cO (flat zV wd.out)::all (sx.map obI)::H) PMT
    refine lN (qs [0,1,2,3,4,5,6,7,8,11,12,13,14,15,16,17,18] (.two 9 19 (.two 10 19 (.one 19 (.one 20 .nil)) (.one 10 (.one 20 .nil))) (.one 9 (.one 10 (.one 20 .nil))))) [21,22,23,24,25,26] [1]
      (fun _ _=>False)
      mixed (by decide +kernel) hST ?_ ?_
    · intro hQ
      clear hST
      replace hH:=hH.drew
      (repeat ((first|(apply mE hA rfl rfl rfl (by decide) rfl;exact xC rfl)|(apply fY hA rfl rfl rfl (by decide) rfl;first|(apply zC;rfl;exact yJ MEMT hL hv1)|(apply zD;rfl;rfl;decide;omega;exact hsp)|exact EXT));clear hA a;intro a hA))
      have hIV:∀(w:World) (oB:Option Addr) (H2:List It),HS w0 noM (own 137 1 oV xs.length cV us::own 137 1 oB 1 1 [v1]::H2) w→Ret Tryz.prog 96 #[.slice oV xs.length cV,.int .i64 (bsI ns r.n),.slice oB 1 1] w (fun v w'=>∃o' c',v= .slice o' (xs.length+1) c'∧HS w0 noM (own 137 1 o' (xs.length+1) c' (us.take (bsI ns r.n)++[v1]++us.drop (bsI ns r.n))::H2) w'):=fun w oB H2 h=>by
        have h5:=insV_call (fr:=us) (r:=v1) (o:=oV) (cn:=cV) (ov:=oB) (i:=bsI ns r.n) (H:=H2) (w:=w) (w0:=w0) (by rw [hul];exact h) hiU (by omega) h1v hus.all
        rw [hul] at h5
        exact h5
      have hII:∀(w:World) (oA:Option Addr) (H2:List It),HS w0 noM (own 2 1 oI ns.length cI (flat Fw.encI ns)::own 2 1 oA 1 1 [.int .i64 r.n]::H2) w→Ret Tryz.prog 95 #[.slice oI ns.length cI,.int .i64 (bsI ns r.n),.slice oA 1 1] w (fun v w'=>∃o' c',v= .slice o' (ns.length+1) c'∧HS w0 noM (own 2 1 o' (ns.length+1) c' (flat Fw.encI (ns.insertIdx (bsI ns r.n) r.n))::H2) w'):=fun w oA H2 h=>by
        have h5:=insI_call (fr:=ns) (r:=r.n) (o:=oI) (cn:=cI) (ov:=oA) (i:=bsI ns r.n) (H:=H2) (w:=w) (w0:=w0) h hbi hlI
        rw [hn1] at h5
        exact h5
      refine aX ?_ ?_
      · (apply qI hA rfl rfl rfl (by decide);apply zZ (xs:=[.int .i64 r.n]) (vs:=[.int .i64 r.n]);rfl;rfl;exact CATST;rfl;rfl;rfl;exact hH;clear hA hH;rintro _ w ⟨oA,rfl,hH⟩;refine ⟨hKP hH.tail,?_⟩;intro a hA)
        refine aX ?_ ?_
        · (refine qI hA rfl rfl rfl (by decide) (zA rfl rfl rfl (hII _ _ _ (hH.perm (H':=own 2 1 oI ns.length cI (flat Fw.encI ns)::own 2 1 oA 1 1 [.int .i64 r.n]::cb bR 196 [.slice oI ns.length cI,.slice oV xs.length cV]::frz w0 c.K::cb b5 57 (yG r)::own 137 1 oV xs.length cV us::cb bM TM (zJ g kd wd.inp oO wd.out.length cO++rest)::own 5 1 oO wd.out.length cO (flat zV wd.out)::all (sx.map obI)::H) PMT))) ?_;clear hA hH;rintro _ w ⟨oI2,cI2,rfl,hH⟩;refine ⟨hKP hH.tail,?_⟩;intro a hA)
          (apply qI hA rfl rfl rfl (by decide);apply zZ (xs:=[v1]) (vs:=[v1]);rfl;rfl;exact .c1 h1v .nil;rfl;rfl;rfl;exact hH;clear hA hH;rintro _ w ⟨oB,rfl,hH⟩;refine ⟨hKP hH.tail.tail,?_⟩;intro a hA)
          (refine qI hA rfl rfl rfl (by decide) (zA rfl rfl rfl (hIV _ _ _ (hH.perm (H':=own 137 1 oV xs.length cV us::own 137 1 oB 1 1 [v1]::cb bR 196 [.slice oI ns.length cI,.slice oV xs.length cV]::frz w0 c.K::cb b5 57 (yG r)::own 2 1 oI2 (ns.length+1) cI2 (flat Fw.encI (ns.insertIdx (bsI ns r.n) r.n))::cb bM TM (zJ g kd wd.inp oO wd.out.length cO++rest)::own 5 1 oO wd.out.length cO (flat zV wd.out)::all (sx.map obI)::H) PMT))) ?_;clear hA hH;rintro _ w ⟨oV2,cV2,rfl,hH⟩;refine ⟨hKP hH.tail,?_⟩;intro a hA)
          (apply mD;(repeat' (first|(refine QT ?_;clear hA a;intro a hA)|(apply zX hA rfl rfl rfl;apply zB (cs':=[.slice oI2 (ns.length+1) cI2,.slice oV xs.length cV]);rfl;rfl;rfl;exact hH;(repeat constructor);clear hH;rintro _ w hH)|(apply zX hA rfl rfl rfl;apply zB (cs':=[.slice oI2 (ns.length+1) cI2,.slice oV2 (xs.length+1) cV2]);rfl;rfl;rfl;exact hH;(repeat constructor);clear hH;rintro _ w hH)|refine CT ?_|fail));(repeat' (first|(refine XT ?_;apply XE;(first|(apply zY;rfl));clear hA a;intro a hA)|(refine QT ?_;clear hA a;intro a hA)|refine CT ?_|fail));rw [←hq1] at hH;exact rt2 (.inl rfl) rfl hA rfl rfl (Wst.rec_ (p:=bR) ((hH.perm (H':=cb bR 196 [.slice oI2 (ns.length+1) cI2,.slice oV2 (ns.length+1) cV2]::own 2 1 oI2 (ns.length+1) cI2 (flat Fw.encI (ns.insertIdx (bsI ns r.n) r.n))::own 137 1 oV2 (ns.length+1) cV2 (us.take (bsI ns r.n)++[v1]++us.drop (bsI ns r.n))::cb bM TM (zJ g kd wd.inp oO wd.out.length cO++rest)::own 5 1 oO wd.out.length cO (flat zV wd.out)::frz w0 c.K::all (sx.map obI)::cb b5 57 (yG r)::H) PMT).rm 7) hn1 (by rw [ins_len' (by omega)];omega) (by omega) (RVs.ins hus hx1 (by omega)) hS e rfl))
        · (apply qI hA rfl rfl rfl (by decide);apply zZ (xs:=[v1]) (vs:=[v1]);rfl;rfl;exact .c1 h1v .nil;rfl;rfl;rfl;exact hH;clear hA hH;rintro _ w ⟨oB,rfl,hH⟩;refine ⟨hKP hH.tail.tail,?_⟩;intro a hA)
          (refine qI hA rfl rfl rfl (by decide) (zA rfl rfl rfl (hII _ _ _ (hH.perm (H':=own 2 1 oI ns.length cI (flat Fw.encI ns)::own 2 1 oA 1 1 [.int .i64 r.n]::cb bR 196 [.slice oI ns.length cI,.slice oV xs.length cV]::frz w0 c.K::cb b5 57 (yG r)::own 137 1 oB 1 1 [v1]::own 137 1 oV xs.length cV us::cb bM TM (zJ g kd wd.inp oO wd.out.length cO++rest)::own 5 1 oO wd.out.length cO (flat zV wd.out)::all (sx.map obI)::H) PMT))) ?_;clear hA hH;rintro _ w ⟨oI2,cI2,rfl,hH⟩;refine ⟨hKP hH.tail,?_⟩;intro a hA)
          (refine qI hA rfl rfl rfl (by decide) (zA rfl rfl rfl (hIV _ _ _ (hH.perm (H':=own 137 1 oV xs.length cV us::own 137 1 oB 1 1 [v1]::cb bR 196 [.slice oI ns.length cI,.slice oV xs.length cV]::frz w0 c.K::cb b5 57 (yG r)::own 2 1 oI2 (ns.length+1) cI2 (flat Fw.encI (ns.insertIdx (bsI ns r.n) r.n))::cb bM TM (zJ g kd wd.inp oO wd.out.length cO++rest)::own 5 1 oO wd.out.length cO (flat zV wd.out)::all (sx.map obI)::H) PMT))) ?_;clear hA hH;rintro _ w ⟨oV2,cV2,rfl,hH⟩;refine ⟨hKP hH.tail,?_⟩;intro a hA)
          (apply mD;(repeat' (first|(refine QT ?_;clear hA a;intro a hA)|(apply zX hA rfl rfl rfl;apply zB (cs':=[.slice oI2 (ns.length+1) cI2,.slice oV xs.length cV]);rfl;rfl;rfl;exact hH;(repeat constructor);clear hH;rintro _ w hH)|(apply zX hA rfl rfl rfl;apply zB (cs':=[.slice oI2 (ns.length+1) cI2,.slice oV2 (xs.length+1) cV2]);rfl;rfl;rfl;exact hH;(repeat constructor);clear hH;rintro _ w hH)|refine CT ?_|fail));(repeat' (first|(refine XT ?_;apply XE;(first|(apply zY;rfl));clear hA a;intro a hA)|(refine QT ?_;clear hA a;intro a hA)|refine CT ?_|fail));rw [←hq1] at hH;exact rt2 (.inl rfl) rfl hA rfl rfl (Wst.rec_ (p:=bR) ((hH.perm (H':=cb bR 196 [.slice oI2 (ns.length+1) cI2,.slice oV2 (ns.length+1) cV2]::own 2 1 oI2 (ns.length+1) cI2 (flat Fw.encI (ns.insertIdx (bsI ns r.n) r.n))::own 137 1 oV2 (ns.length+1) cV2 (us.take (bsI ns r.n)++[v1]++us.drop (bsI ns r.n))::cb bM TM (zJ g kd wd.inp oO wd.out.length cO++rest)::own 5 1 oO wd.out.length cO (flat zV wd.out)::frz w0 c.K::all (sx.map obI)::cb b5 57 (yG r)::H) PMT).rm 7) hn1 (by rw [ins_len' (by omega)];omega) (by omega) (RVs.ins hus hx1 (by omega)) hS e rfl))
      · (apply qI hA rfl rfl rfl (by decide);apply zZ (xs:=[v1]) (vs:=[v1]);rfl;rfl;exact .c1 h1v .nil;rfl;rfl;rfl;exact hH;clear hA hH;rintro _ w ⟨oB,rfl,hH⟩;refine ⟨hKP hH.tail,?_⟩;intro a hA)
        (apply qI hA rfl rfl rfl (by decide);apply zZ (xs:=[.int .i64 r.n]) (vs:=[.int .i64 r.n]);rfl;rfl;exact CATST;rfl;rfl;rfl;exact hH;clear hA hH;rintro _ w ⟨oA,rfl,hH⟩;refine ⟨hKP hH.tail.tail,?_⟩;intro a hA)
        (refine qI hA rfl rfl rfl (by decide) (zA rfl rfl rfl (hII _ _ _ (hH.perm (H':=own 2 1 oI ns.length cI (flat Fw.encI ns)::own 2 1 oA 1 1 [.int .i64 r.n]::cb bR 196 [.slice oI ns.length cI,.slice oV xs.length cV]::frz w0 c.K::cb b5 57 (yG r)::own 137 1 oB 1 1 [v1]::own 137 1 oV xs.length cV us::cb bM TM (zJ g kd wd.inp oO wd.out.length cO++rest)::own 5 1 oO wd.out.length cO (flat zV wd.out)::all (sx.map obI)::H) PMT))) ?_;clear hA hH;rintro _ w ⟨oI2,cI2,rfl,hH⟩;refine ⟨hKP hH.tail,?_⟩;intro a hA)
        (refine qI hA rfl rfl rfl (by decide) (zA rfl rfl rfl (hIV _ _ _ (hH.perm (H':=own 137 1 oV xs.length cV us::own 137 1 oB 1 1 [v1]::cb bR 196 [.slice oI ns.length cI,.slice oV xs.length cV]::frz w0 c.K::cb b5 57 (yG r)::own 2 1 oI2 (ns.length+1) cI2 (flat Fw.encI (ns.insertIdx (bsI ns r.n) r.n))::cb bM TM (zJ g kd wd.inp oO wd.out.length cO++rest)::own 5 1 oO wd.out.length cO (flat zV wd.out)::all (sx.map obI)::H) PMT))) ?_;clear hA hH;rintro _ w ⟨oV2,cV2,rfl,hH⟩;refine ⟨hKP hH.tail,?_⟩;intro a hA)
        (apply mD;(repeat' (first|(refine QT ?_;clear hA a;intro a hA)|(apply zX hA rfl rfl rfl;apply zB (cs':=[.slice oI2 (ns.length+1) cI2,.slice oV xs.length cV]);rfl;rfl;rfl;exact hH;(repeat constructor);clear hH;rintro _ w hH)|(apply zX hA rfl rfl rfl;apply zB (cs':=[.slice oI2 (ns.length+1) cI2,.slice oV2 (xs.length+1) cV2]);rfl;rfl;rfl;exact hH;(repeat constructor);clear hH;rintro _ w hH)|refine CT ?_|fail));(repeat' (first|(refine XT ?_;apply XE;(first|(apply zY;rfl));clear hA a;intro a hA)|(refine QT ?_;clear hA a;intro a hA)|refine CT ?_|fail));rw [←hq1] at hH;exact rt2 (.inl rfl) rfl hA rfl rfl (Wst.rec_ (p:=bR) ((hH.perm (H':=cb bR 196 [.slice oI2 (ns.length+1) cI2,.slice oV2 (ns.length+1) cV2]::own 2 1 oI2 (ns.length+1) cI2 (flat Fw.encI (ns.insertIdx (bsI ns r.n) r.n))::own 137 1 oV2 (ns.length+1) cV2 (us.take (bsI ns r.n)++[v1]++us.drop (bsI ns r.n))::cb bM TM (zJ g kd wd.inp oO wd.out.length cO++rest)::own 5 1 oO wd.out.length cO (flat zV wd.out)::frz w0 c.K::all (sx.map obI)::cb b5 57 (yG r)::H) PMT).rm 7) hn1 (by rw [ins_len' (by omega)];omega) (by omega) (RVs.ins hus hx1 (by omega)) hS e rfl))
    exact fun a w h=>h.elim
end
theorem Plain_spec (w0 w:World) (H:List It) (c:Cx) (TM bM:Nat) (g:Grs) (kd:Int) (rest:List Value) (caps:List Int) (mine:Int) (r:Stp) (l:List Vl) (vs:List Value) (oL oO:Option Addr) (cL cO:Nat) (wd:Wd) (sx:Sx) (f:Int) (cs:List Vl) (pc:Nat)
    (hH:HS w0 noM (cb bM TM (zJ g kd wd.inp oO wd.out.length cO++rest)::own 5 1 oO wd.out.length cO (flat zV wd.out)::frz w0 c.K::all (sx.map obI)::H) w) (hL:∀w,c.K w→Rd w oL vs) (hlc:vs.length≤cL∧cL≤maxLen) (hV:RVs c l vs) (hS:StR c sx wd.st) (hF:FormP g caps mine r) (hrl:l.length=r.a.l.length) (hnf:c.nf=caps.length) (hcf:FnR c f cs pc)
    (hK0:∀w,c.K w→Kp w0 noM w) (hN:RdV w0 Fw.encI r.ns) (hbn:r.ns.l.length≤c.bd) (hbd:c.bd≤1000000) (hout:wd.out.length≤1000000) (hlab:g.ts.l.length≤9223372036854775807) (hk:r.k≠3∧r.k≠13∧r.k≠14) :
    Ret Tryz.prog 50 #[.pointer (some (bat bM 0)),.agg (yG r).toArray,.slice oL vs.length cL,.pointer (some (bat pc 0))] w (fun v w'=>Wst w0 c TM bM g kd rest H (yH r l cs wd) wd v w'):=by
  have h1:=hF.lo
  have h2:=hF.hi
  have hc:r.k=1∨r.k=2∨r.k=4∨r.k=5∨r.k=6∨r.k=7∨r.k=8∨r.k=9∨r.k=10∨r.k=11∨r.k=12:=by omega
  rcases hc with h|h|h|h|h|h|h|h|h|h|h
  · exact Plain1_spec w0 w H c TM bM g kd rest caps mine r l vs oL oO cL cO wd sx f cs pc hH hL hlc hV hS hF hrl hnf hcf hK0 hN hbn hbd hout hlab h
  · exact Plain2_spec w0 w H c TM bM g kd rest caps mine r l vs oL oO cL cO wd sx f cs pc hH hL hlc hV hS hF hrl hnf hcf hK0 hN hbn hbd hout hlab h
  · exact Plain4_spec w0 w H c TM bM g kd rest caps mine r l vs oL oO cL cO wd sx f cs pc hH hL hlc hV hS hF hrl hnf hcf hK0 hN hbn hbd hout hlab h
  · exact Plain5_spec w0 w H c TM bM g kd rest caps mine r l vs oL oO cL cO wd sx f cs pc hH hL hlc hV hS hF hrl hnf hcf hK0 hN hbn hbd hout hlab h
  · exact Plain6_spec w0 w H c TM bM g kd rest caps mine r l vs oL oO cL cO wd sx f cs pc hH hL hlc hV hS hF hrl hnf hcf hK0 hN hbn hbd hout hlab h
  · exact Plain7_spec w0 w H c TM bM g kd rest caps mine r l vs oL oO cL cO wd sx f cs pc hH hL hlc hV hS hF hrl hnf hcf hK0 hN hbn hbd hout hlab h
  · exact Plain8_spec w0 w H c TM bM g kd rest caps mine r l vs oL oO cL cO wd sx f cs pc hH hL hlc hV hS hF hrl hnf hcf hK0 hN hbn hbd hout hlab h
  · exact Plain9_spec w0 w H c TM bM g kd rest caps mine r l vs oL oO cL cO wd sx f cs pc hH hL hlc hV hS hF hrl hnf hcf hK0 hN hbn hbd hout hlab h
  · exact Plain10_spec w0 w H c TM bM g kd rest caps mine r l vs oL oO cL cO wd sx f cs pc hH hL hlc hV hS hF hrl hnf hcf hK0 hN hbn hbd hout hlab h
  · exact Plain11_spec w0 w H c TM bM g kd rest caps mine r l vs oL oO cL cO wd sx f cs pc hH hL hlc hV hS hF hrl hnf hcf hK0 hN hbn hbd hout hlab h
  · exact Plain12_spec w0 w H c TM bM g kd rest caps mine r l vs oL oO cL cO wd sx f cs pc hH hL hlc hV hS hF hrl hnf hcf hK0 hN hbn hbd hout hlab h
section
attribute [local irreducible] Code.wp wpList Calls Ex Op1 sat bat blk cb own Go.Fw.mp Go.Fw.mpO Go.Fw.mpI Go.Fw.mpE Go.Fw.itr HS Rd Ret wkD Hp Cl Cls Exit.then Exit.inBlock Exit.noGoto bodyPost Go.Fw.flat wk2 Go.Fw.all Go.Fw.owns wpOp
attribute [local irreducible] sk mpK sko mvO xI opM Go.Fw.mset Go.Fw.mv opK w63 frz obI RV wQ

theorem Exn_spec (w0 w:World) (H:List It) (TM bM:Nat) (cs rest:List Value) (xs:Vec ByteArray) (s:ByteArray) (hH:HS w0 noM (cb bM TM (.slice xs.o xs.l.length xs.c::rest)::H) w) (hR:RdV w0 yY xs) :
    Ret Tryz.prog 52 #[.pointer (some (bat bM 0)),.string s] w (fun v w'=>v= .int .i64 (wQ xs.l s)∧HS w0 noM (cb bM TM (.slice xs.o xs.l.length xs.c::rest)::H) w'):=by
  (refine ENT (N:=11) Tryz.func52 Tryz.ntmps52 ?_;intro a hA)
  repeat' (first|(refine QT ?_;clear hA a;intro a hA)|refine CT ?_|fail)
  (refine zH hA rfl rfl (by decide) (zA rfl rfl rfl (kU _ xs s (hR.keep hH.kp))) ?_;clear hA;rintro _ w ⟨rfl,hk⟩ a hA;replace hH:=hH.keep hk;clear hk)
  repeat' (first|(refine QT ?_;clear hA a;intro a hA)|refine CT ?_|fail)
  exact rt1 (.inl rfl) rfl hA rfl ⟨rfl,hH⟩
end
def plk (m:List (Int × Vl)) (k:Int):Option Vl:=(m.find? (fun e=>e.1 == k)).map (·.2)
def OptR (c:Cx):Option Vl→Option Value→Prop
  |none,none=>True
  |some x,some v=>RV c x v
  |_,_=>False
def MapR (c:Cx) (vs:List (Int × Vl)) (m:List (Int × Value)):Prop:=∀k,OptR c (plk vs k) (mv m k)
theorem OptR.mono {c d:Cx} (h:c.le d):∀{x:Option Vl} {v:Option Value},OptR c x v→OptR d x v
  |none,none,_=>trivial
  |some x,some v,hx=>RV.mono h x v hx
  |none,some _,hx=>hx.elim
  |some _,none,hx=>hx.elim
theorem MapR.mono {c d:Cx} (h:c.le d) {vs:List (Int × Vl)} {m:List (Int × Value)} (hm:MapR c vs m):MapR d vs m:=fun k=>(hm k).mono h
theorem MapR.get {c:Cx} {vs:List (Int × Vl)} {m:List (Int × Value)} (h:MapR c vs m) (k:Int):RV c (pget vs k) ((mv m k).getD .nilIface):=by
  have h1:=h k
  unfold pget
  unfold plk at h1
  cases h2:(vs.find? (fun e=>e.1 == k)).map (·.2) with
  | none=>
    rw [h2] at h1
    cases h3:mv m k with
    |none=>show RV c .nil .nilIface;rw [RV]
    |some v=>rw [h3] at h1;exact h1.elim
  | some x=>
    rw [h2] at h1
    cases h3:mv m k with
    |none=>rw [h3] at h1;exact h1.elim
    |some v=>rw [h3] at h1;exact h1
theorem lA {α:Type} (k j:Int) (v:α):∀(m:List (Int × α)),(((m.map fun e=>if e.1 == k then (k,v) else e).find? (fun e=>e.1 == j)).map (·.2))=if j=k then ((m.find? (fun e=>e.1 == k)).map fun _=>v) else (m.find? (fun e=>e.1 == j)).map (·.2)
  | []=>by simp
  | e :: m=>by
    have ih:=lA k j v m
    rw [List.map_cons,List.find?_cons,List.find?_cons,List.find?_cons]
    by_cases h1:e.1=k
    · have hb:(e.1 == k)=true:=by simpa using h1
      by_cases h2:j=k
      · subst h2
        simp [hb]
      · have h3:(k == j)=false:=by simpa using fun h=>h2 h.symm
        have h4:(e.1 == j)=false:=by rw [h1];exact h3
        rw [if_neg h2] at ih ⊢
        simp only [hb,if_true,h3,h4]
        exact ih
    · have hb:(e.1 == k)=false:=by simpa using h1
      simp only [hb]
      cases h2:e.1 == j with
      | true=>
        have:j≠k:=fun h=>by
          have h3:e.1=j:=by simpa using h2
          exact h1 (h3.trans h)
        rw [if_neg this]
        simp [h2]
      | false=>
        simp only [Bool.false_eq_true,if_false,h2]
        exact ih
theorem lk_set {α:Type} (m:List (Int × α)) (k j:Int) (v:α):(((if ((m.find? (fun e=>e.1 == k)).map (·.2)).isSome then m.map (fun e=>if e.1 == k then (k,v) else e) else m++[(k,v)]).find? (fun e=>e.1 == j)).map (·.2))=if j=k then some v else (m.find? (fun e=>e.1 == j)).map (·.2):=by
  cases hf:m.find? (fun e=>e.1 == k) with
  | some e=>
    rw [if_pos (by rfl),lA,hf]
    rfl
  | none=>
    rw [if_neg (by simp),List.find?_append]
    by_cases h:j=k
    · subst h
      rw [hf,if_pos rfl]
      simp
    · rw [if_neg h]
      have h3:(k == j)=false:=by simpa using fun h'=>h h'.symm
      cases hg:m.find? (fun e=>e.1 == j) with
      |some e=>rfl
      |none=>simp [h3]
theorem jS (m:List (Int × Value)) (k j:Int) (v:Value):mv (mset m k v) j=if j=k then some v else mv m j:=lk_set m k j v
theorem gK (m:List (Int × Vl)) (k j:Int) (v:Vl):plk (tP m k v) j=if j=k then some v else plk m j:=by
  have h:=lk_set m k j v
  unfold plk tP
  rw [←h]
  congr 3
  cases m.find? (fun e=>e.1 == k)<;>rfl
theorem MapR.set {c:Cx} {vs:List (Int × Vl)} {m:List (Int × Value)} {x:Vl} {v:Value} (h:MapR c vs m) (k:Int) (hx:RV c x v):MapR c (tP vs k x) (mset m k v):=fun j=>by
  rw [gK,jS]
  by_cases hj:j=k
  · rw [if_pos hj,if_pos hj];exact hx
  · rw [if_neg hj,if_neg hj];exact h j
theorem MapR.nil (c:Cx):MapR c [] []:=fun k=>trivial
theorem MapR.swap {c:Cx} {vs:List (Int × Vl)} {m:List (Int × Value)} {k1 k2:Int} {x1 x2:Vl} {v1 v2:Value} (h:MapR c vs m) (hk:k1≠k2) (h1:RV c x1 v1) (h2:RV c x2 v2):MapR c (tP (tP vs k1 x1) k2 x2) (mset (mset m k2 v2) k1 v1):=fun j=>by
  rw [gK,gK,jS,jS]
  by_cases hj1:j=k1
  · rw [if_neg (by omega),if_pos hj1,if_pos hj1];exact h1
  · rw [if_neg hj1,if_neg hj1]
    by_cases hj2:j=k2
    · rw [if_pos hj2,if_pos hj2];exact h2
    · rw [if_neg hj2,if_neg hj2];exact h j
def yS (g:Grs) (fuel:Int) (oS:Option Addr) (nS cS pc bv:Nat) (pb:Option Addr) (i:Int) (ph e:Option Addr):List Value:=
  [.slice g.fs.o g.fs.l.length g.fs.c,.slice g.ls.o g.ls.l.length g.ls.c,.slice g.ts.o g.ts.l.length g.ts.c,.slice g.xs.o g.xs.l.length g.xs.c,.slice g.ss.o g.ss.l.length g.ss.c,
   .int .i64 fuel,.slice oS nS cS,.pointer (some (bat pc 0)),.map (some bv),.pointer pb,.int .i64 i,.pointer ph,.pointer e]
def atW (g:Grs) (a:Atm):Prop:=iok a.n∧(a.k=3→0≤a.n∧a.n<g.ss.l.length)
theorem get_1 {g:Grs} {fm:Fm} {a:Atm} (h:a.k=1):uJ g fm a=pget fm.vs a.n:=if_pos h
theorem get_3 {g:Grs} {fm:Fm} {a:Atm} (h:a.k=3):uJ g fm a= .txt (g.ss.l.getD a.n.toNat default):=by unfold uJ;rw [if_neg (by omega),if_pos h]
theorem get_2 {g:Grs} {fm:Fm} {a:Atm} (h:a.k≠1) (h3:a.k≠3):uJ g fm a= .num a.n:=by unfold uJ;rw [if_neg h,if_neg h3]
theorem all_next {g:Grs} {fm:Fm} {l:List Atm} {i:Nat} {a:Atm} (h:l[i]?=some a):xB g fm (l.take (i+1))=xB g fm (l.take i)++[uJ g fm a]:=by
  unfold xB
  rw [yU h,List.map_append]
  rfl
section
attribute [local irreducible] Code.wp wpList Calls Ex Op1 sat bat blk cb own Go.Fw.mp Go.Fw.mpO Go.Fw.mpI Go.Fw.mpE Go.Fw.itr HS Rd Ret wkD Hp Cl Cls Exit.then Exit.inBlock Exit.noGoto bodyPost Go.Fw.flat wk2 Go.Fw.all Go.Fw.owns wpOp
attribute [local irreducible] sk mpK sko mvO xI opM Go.Fw.mset Go.Fw.mv opK w63 frz obI RV wQ

theorem pN (w0 w:World) (H:List It) (c:Cx) (bM:Nat) (g:Grs) (kd:Int) (s:ByteArray) (oO oS:Option Addr) (nO cO nS cS pc bv:Nat) (fuel pi:Int) (pb ph pe:Option Addr) (fm:Fm) (m:List (Int × Value)) (a:Atm)
    (hH:HS w0 noM (cb bM 86 (zJ g kd s oO nO cO++yS g fuel oS nS cS pc bv pb pi ph pe)::mp bv m::H) w) (hM:MapR c fm.vs m) (ha:atW g a) (hss:RdV w0 yY g.ss) (hsz:∀s∈g.ss.l,s.size≤4096) :
    Ret Tryz.prog 54 #[.pointer (some (bat bM 0)),.agg (zN a).toArray] w (fun v w'=>RV c (uJ g fm a) v∧HS w0 noM (cb bM 86 (zJ g kd s oO nO cO++yS g fuel oS nS cS pc bv pb pi ph pe)::mp bv m::H) w'):=by
  have hsp:Sp g.ss.o g.ss.l.length:=hss.1.sp (sz:=1) (zF wZ _) (by omega)
  have hle:=hss.le
  obtain ⟨x,hx⟩:∃x,x=a:=⟨_,rfl⟩
  rw [←hx] at ha ⊢
  clear hx a
  (refine ENT (N:=32) Tryz.func54 Tryz.ntmps54 ?_;intro a hA)
  repeat' (first|(refine QT ?_;clear hA a;intro a hA)|(refine BT ?_;clear hA hH;rintro _ w ⟨bN,rfl,hH⟩ a hA)|refine CT ?_|(refine DT ?_ ?_<;>intro hc<;>try (exfalso;omega))|fail)
  · have hk:x.k=1:=by assumption
    have hv:=hM.get x.n
    (refine zQ [(0,1),(1,1),(2,1),(3,1),(4,1),(5,1),(6,1),(7,1),(8,1)] mixed (by decide +kernel) hH ?_;replace hH:=hH.drew)
    repeat' (first|(refine XT ?_;apply XE;(first|(apply qG;rfl;rfl;exact MEMT));clear hA a;intro a hA)|(refine QT ?_;clear hA a;intro a hA)|refine CT ?_|fail)
    exact rt1 (.inl rfl) rfl hA rfl ⟨by rw [get_1 hk];exact hv,hH.tail⟩
  · have hk:x.k=3:=by assumption
    have hb:=ha.2 hk
    (refine zQ [(0,1),(1,1),(2,1),(3,1),(4,1),(5,1),(6,1),(7,1),(8,1),(9,1),(10,1)] mixed (by decide +kernel) hH ?_;replace hH:=hH.drew)
    repeat' (first|(refine XT ?_;apply XE;(first|(apply zD;rfl;rfl;omega;omega;exact hsp)|(apply zC;rfl;refine xP hss.1 id (tU ?_);omega)|(apply zY;rfl));clear hA a;intro a hA)|(refine QT ?_;clear hA a;intro a hA)|refine CT ?_|fail)
    exact rt1 (.inl rfl) rfl hA rfl ⟨by rw [get_3 hk];exact RV_txt (hsz _ (xN (by omega))),hH.tail⟩
  repeat' (first|(refine XT ?_;apply XE;(first|(apply zY;rfl));clear hA a;intro a hA)|(refine QT ?_;clear hA a;intro a hA)|refine CT ?_|fail)
  exact rt1 (.inl rfl) rfl hA rfl ⟨by rw [get_2 (by assumption) (by assumption)];exact RV_num ha.1,hH.tail⟩
theorem all_spec (w0 w:World) (H:List It) (c:Cx) (bM:Nat) (g:Grs) (kd:Int) (s:ByteArray) (oO oS:Option Addr) (nO cO nS cS pc bv:Nat) (fuel pi:Int) (pb ph pe:Option Addr) (fm:Fm) (m:List (Int × Value)) (v:Vec Atm)
    (hH:HS w0 noM (cb bM 86 (zJ g kd s oO nO cO++yS g fuel oS nS cS pc bv pb pi ph pe)::mp bv m::H) w) (hM:MapR c fm.vs m) (ha:∀a∈v.l,atW g a) (hss:RdV w0 yY g.ss) (hsz:∀s∈g.ss.l,s.size≤4096) (hR:RdV w0 zN v) (hl:v.l.length≤1048576) :
    Ret Tryz.prog 48 #[.pointer (some (bat bM 0)),.slice v.o v.l.length v.c] w (fun r w'=>∃o k vs,r= .slice o vs.length k∧RVs c (xB g fm v.l) vs∧HS w0 noM (own 137 1 o vs.length k vs::cb bM 86 (zJ g kd s oO nO cO++yS g fuel oS nS cS pc bv pb pi ph pe)::mp bv m::H) w'):=by
  have hsp:Sp v.o v.l.length:=hR.1.sp (sz:=2) (zF yT _) (by omega)
  (refine ENT (N:=22) Tryz.func48 Tryz.ntmps48 ?_;intro a hA)
  repeat' (first|(refine QT ?_;clear hA a;intro a hA)|refine CT ?_|fail)
  refine yK (S:=Nat) (fun i a w=>∃o k vs,(i≤v.l.length∧RVs c (xB g fm (v.l.take i)) vs)∧HS w0 noM (own 137 1 o vs.length k vs::cb bM 86 (zJ g kd s oO nO cO++yS g fuel oS nS cS pc bv pb pi ph pe)::mp bv m::H) w∧Sl 22 [(10,.int .i64 i),(9,.int .i64 v.l.length),(8,.slice v.o v.l.length v.c),(5,.slice o vs.length k),(0,.pointer (some (bat bM 0)))] a) (fun i=>v.l.length - i)
    (fun a w=>∃o k vs,RVs c (xB g fm v.l) vs∧HS w0 noM (own 137 1 o vs.length k vs::cb bM 86 (zJ g kd s oO nO cO++yS g fuel oS nS cS pc bv pb pi ph pe)::mp bv m::H) w∧Sl 22 [(5,.slice o vs.length k)] a) 0 ⟨none,0,[],⟨Nat.zero_le _,RVs.nil⟩,hH.nil_own 137 1,(hA.sub SBT)⟩ ?_ ?_
  · clear hA hH
    rintro i a w ⟨o,k,vs,⟨hi,hvs⟩,hH,hA⟩
    by_cases hlt:i<v.l.length
    rotate_left
    · obtain rfl:i=v.l.length:=by omega
      rw [List.take_length] at hvs
      repeat' (first|(refine QT ?_;clear hA a;intro a hA)|refine CT ?_|(refine DT ?_ ?_<;>intro hc<;>try (exfalso;omega))|fail)
      exact ⟨o,k,vs,hvs,hH,(hA.sub SBT)⟩
    obtain ⟨x,hx⟩:∃x,v.l[i]?=some x:=⟨_,List.getElem?_eq_getElem hlt⟩
    have hvx:=yA yT hx
    have hvl:=hvs.len
    unfold xB at hvl
    rw [List.length_map,List.length_take] at hvl
    repeat' (first|(refine XT ?_;apply XE;(first|(apply zG (vs:=zN x);rfl;rfl;exact yV hR.1 id hvx));clear hA a;intro a hA)|(refine QT ?_;clear hA a;intro a hA)|(refine BT ?_;clear hA hH;rintro _ w ⟨bN,rfl,hH⟩ a hA)|(refine SAT (zN x) hA hH ?_;clear hH;intro w hH)|refine CT ?_|(refine DT ?_ ?_<;>intro hc<;>try (exfalso;omega))|fail)
    (refine zH hA rfl rfl (by decide) (zA rfl rfl rfl (pN w0 w _ c bM g kd s oO oS nO cO nS cS pc bv fuel pi pb ph pe fm m x (hH.perm (H':=cb bM 86 (zJ g kd s oO nO cO++yS g fuel oS nS cS pc bv pb pi ph pe)::mp bv m::cb bN 65 (zN x)::own 137 1 o vs.length k vs::H) PMT) hM (ha x (List.mem_of_getElem? hx)) hss hsz)) ?_;clear hA hH;rintro u w ⟨hu,hH⟩ a hA)
    have h1u:=hu.one
    (apply zH hA rfl rfl (by decide);apply zZ (xs:=[u]) (vs:=[u]);rfl;rfl;exact .c1 h1u .nil;rfl;rfl;rfl;exact hH;clear hA hH;rintro _ w ⟨oN,rfl,hH⟩ a hA)
    have h1l:([u]:List Value).all (·.oneCell')=true:=by simp [h1u]
    (apply zH hA rfl rfl (by decide);apply yX;rfl;rfl;exact hH;exact MEMT;exact (hH.own_rd (T:=137) (List.Mem.head _));exact rfl;rfl;decide;exact h1l;(unfold maxLen;omega);omega;clear hA;rintro _ w ⟨oN,cN,rfl,hH2⟩ a hA;clear hH;have hH:=hH2 _ (by (repeat constructor));clear hH2)
    repeat' (first|(refine QT ?_;clear hA a;intro a hA)|refine CT ?_|fail)
    have hl1:(vs++[u]).length=vs.length+1:=by rw [List.length_append];rfl
    rw [←hl1] at hA hH
    exact ⟨i+1,⟨_,_,vs++[u],⟨hlt,by rw [all_next hx];exact RVs.append hvs (RVs.one_ hu)⟩,((hH.rm 0).rm 2).perm PMT,(hA.sub SBT)⟩,by omega⟩
  clear hA hH
  rintro a w ⟨o,k,vs,hvs,hH,hA⟩
  repeat' (first|(refine QT ?_;clear hA a;intro a hA)|refine CT ?_|fail)
  exact rt1 (.inl rfl) rfl hA rfl ⟨o,k,vs,rfl,hvs,hH⟩
end
def xD (k:Int) (o r:ByteArray):List Value:=[.int .i64 k,.string o,.string r]
def xG (g:Grs) (f:Int) (b:Nat):Option Addr:=some (sat (g.fs.l.getD f.toNat gr0).bs.o (b*6))
theorem new_vs (c:Clo) (x:Vl):(nY c x).vs=tP (tP [] 0 (.fn c.1 c.2)) 1 x:=rfl
theorem MapR_new {c:Cx} {cl:Clo} {p:Nat} {x:Vl} {v:Value} (hc:FnR c cl.1 cl.2 p) (hx:RV c x v):MapR c (nY cl x).vs (mset (mset [] 0 (vY 79 p)) 1 v):=by
  rw [new_vs]
  exact ((MapR.nil c).set 0 hc.rv).set 1 hx
theorem MapR_new2 {c:Cx} {cl:Clo} {p:Nat} {x:Vl} {v:Value} (hc:FnR c cl.1 cl.2 p) (hx:RV c x v):MapR c (nY cl x).vs (mset (mset [] 1 v) 0 (vY 79 p)):=by
  rw [new_vs]
  exact (MapR.nil c).swap (by decide) hc.rv hx
theorem fA {l:List Gr} {f:Nat} (h:f<l.length):(flat vL l)[f*2+1]?=some (.slice (l.getD f gr0).bs.o (l.getD f gr0).bs.l.length (l.getD f gr0).bs.c):=by
  refine yZ (off:=1) sE (List.getElem?_eq_getElem h) ?_
  rw [List.getD_eq_getElem?_getD,List.getElem?_eq_getElem h]
  rfl
section
attribute [local irreducible] Code.wp wpList Calls Ex Op1 sat bat blk cb own Go.Fw.mp Go.Fw.mpO Go.Fw.mpI Go.Fw.mpE Go.Fw.itr HS Rd Ret wkD Hp Cl Cls Exit.then Exit.inBlock Exit.noGoto bodyPost Go.Fw.flat wk2 Go.Fw.all Go.Fw.owns wpOp
attribute [local irreducible] sk mpK sko mvO xI opM Go.Fw.mset Go.Fw.mv opK w63 frz obI RV wQ

theorem sT (w0 w:World) (H:List It) (bM:Nat) (g:Grs) (kd:Int) (s:ByteArray) (oO oS:Option Addr) (nO cO nS cS pc bv:Nat) (fuel pi:Int) (pb ph pe:Option Addr) (k:Int) (r:ByteArray) (hH:HS w0 noM (cb bM 86 (zJ g kd s oO nO cO++yS g fuel oS nS cS pc bv pb pi ph pe)::H) w) :
    Ret Tryz.prog 27 #[.pointer (some (bat bM 0)),.int .i64 k,.string r] w (fun v w'=>∃b,HS w0 noM (cb bM 86 (zJ g kd s oO nO cO++yS g fuel oS nS cS pc bv pb pi ph (some (bat b 0)))::cb b 29 (xD k empS r)::H) w'):=by
  (refine ENT (N:=13) Tryz.func27 Tryz.ntmps27 ?_;intro a hA)
  repeat' (first|(refine XT ?_;apply XE;(first|(apply zI (cs:=(xD k empS r).toArray);rfl;exact FLT;rfl));clear hA a;intro a hA)|(refine QT ?_;clear hA a;intro a hA)|(refine BT ?_;clear hA hH;rintro _ w ⟨bN,rfl,hH⟩ a hA)|(apply zO hA rfl rfl;apply zB (cs':=zJ g kd s oO nO cO++yS g fuel oS nS cS pc bv pb pi ph (some (bat bN 0)));rfl;rfl;rfl;exact hH;(repeat constructor);clear hH;rintro _ w hH)|refine CT ?_|fail)
  exact rt0 (.inr rfl) rfl hA ⟨_,hH.perm PMT⟩
theorem mC (w0 w:World) (H:List It) (c:Cx) (bM:Nat) (g:Grs) (kd:Int) (s:ByteArray) (oO oS:Option Addr) (nO cO nS cS pc bv:Nat) (fuel pi:Int) (pb ph pe:Option Addr) (f x:Vl) (u v:Value) (hH:HS w0 noM (cb bM 86 (zJ g kd s oO nO cO++yS g fuel oS nS cS pc bv pb pi ph pe)::frz w0 c.K::H) w) (hu:RV c f u) (hv:RV c x v)
    (hR:RdGs w0 g) (hnf:c.nf=g.fs.l.length) (hne:∀f∈g.fs.l,0<f.bs.l.length) :
    Ret Tryz.prog 26 #[.pointer (some (bat bM 0)),u,v] w (fun r w'=>
      (∃cl p b m,asFn f=some cl∧r= .bool true∧FnR c cl.1 cl.2 p∧MapR c (nY cl x).vs m∧HS w0 noM (cb bM 86 (zJ g kd s oO nO cO++yS g fuel oS nS cS p b (xG g cl.1 0) 0 none pe)::mp b m::frz w0 c.K::H) w')∨
      (asFn f=none∧r= .bool false∧∃b,HS w0 noM (cb bM 86 (zJ g kd s oO nO cO++yS g fuel oS nS cS pc bv pb pi ph (some (bat b 0)))::cb b 29 (xD 4 empS empS)::frz w0 c.K::H) w')):=by
  have hspF:Sp g.fs.o g.fs.l.length:=hR.1.1.sp (sz:=2) (zF sE _) (by omega)
  (refine ENT (N:=41) Tryz.func26 Tryz.ntmps26 ?_;intro a hA)
  rcases hu.asFn with ⟨fi,l,p,hs,rfl,hf⟩| ⟨hs,hn⟩
  rotate_left
  · repeat' (first|(refine XT ?_;apply XE;(first|(apply yC;rfl;exact hn));clear hA a;intro a hA)|(refine QT ?_;clear hA a;intro a hA)|(refine zH hA rfl rfl (by decide) (zA rfl rfl rfl (sT w0 _ _ bM g kd s oO oS nO cO nS cS pc bv fuel pi pb ph pe 4 empS hH)) ?_;clear hA hH;rintro _ w ⟨b,hH⟩ a hA)|refine CT ?_|fail)
    exact rt1 (.inl rfl) rfl hA rfl (.inr ⟨hs,rfl,b,hH⟩)
  obtain ⟨o,k,vs,hfr,hp,hr2,hvs⟩:=id hf
  have hfl:fi.toNat<g.fs.l.length:=by omega
  have hgm:g.fs.l.getD fi.toNat gr0∈g.fs.l:=xN hfl
  have hbl:=hne _ hgm
  have hspB:Sp (g.fs.l.getD fi.toNat gr0).bs.o (g.fs.l.getD fi.toNat gr0).bs.l.length:=(hR.2.1 _ hgm).1.1.sp (sz:=6) (zF uL _) (by omega)
  repeat' (first|(refine XT ?_;apply XE;(first|(apply zL;rfl));clear hA a;intro a hA)|(refine QT ?_;clear hA a;intro a hA)|refine CT ?_|fail)
  have hb0:(0:Int)<(g.fs.l.getD fi.toNat gr0).bs.l.length:=by omega
  refine lN (qs [0,1,3,4,6,9,10,11,12,13,14,15,16,17,18,19,20,21] (.one 2 (.two 5 7 (.one 7 (qs [8,22,23,24] .nil)) (.one 5 (qs [8,22,23,24] .nil))))) [25] [] (fun _ _=>False) mixed (by decide +kernel) hH ?_ (fun a w h=>h.elim)
  intro hQ
  replace hH:=hH.drew
  (repeat ((first|(apply mE hA rfl rfl rfl (by decide) rfl;exact xC rfl)|(apply fY hA rfl rfl rfl (by decide) rfl;first|(apply zC;rfl;exact wG MEMT hp rfl)|(apply zD;rfl;rfl;omega;omega;first|exact hspF|exact hspB)|(apply zC;rfl;refine xP hR.1.1 id (fA ?_);omega)|(apply zY;rfl)|(apply zI (cs:=#[.pointer (some (bat p 0)),.map (some bV),.pointer (xG g fi 0),.int .i64 0,.pointer none]);rfl;exact FLT;rfl)|exact EXT));clear hA a;intro a hA))
  (refine qI hA rfl rfl rfl (by decide) (vZ hH) ?_;clear hA hH;rintro _ w ⟨bV,rfl,hH⟩;refine ⟨hH.tail,?_⟩;intro a hA)
  refine aX ?_ ?_
  · (apply pV hA rfl rfl rfl;apply wA;rfl;rfl;rfl;exact hH;(repeat constructor);clear hH;rintro _ w hH;refine ⟨hH.tail,?_⟩)
    (apply pV hA rfl rfl rfl;apply wA;rfl;rfl;rfl;exact hH;(repeat constructor);clear hH;rintro _ w hH;refine ⟨hH.tail,?_⟩)
    (repeat ((first|(apply mE hA rfl rfl rfl (by decide) rfl;exact xC rfl)|(apply fY hA rfl rfl rfl (by decide) rfl;first|(apply zC;rfl;exact wG MEMT hp rfl)|(apply zD;rfl;rfl;omega;omega;first|exact hspF|exact hspB)|(apply zC;rfl;refine xP hR.1.1 id (fA ?_);omega)|(apply zY;rfl)|(apply zI (cs:=#[.pointer (some (bat p 0)),.map (some bV),.pointer (xG g fi 0),.int .i64 0,.pointer none]);rfl;exact FLT;rfl)|exact EXT));clear hA a;intro a hA))
    (apply mD;(apply zX hA rfl rfl rfl;apply xO (vs:=[.pointer (some (bat p 0)),.map (some bV),.pointer (xG g fi 0),.int .i64 0,.pointer none]) (cs':=zJ g kd s oO nO cO++yS g fuel oS nS cS p bV (xG g fi 0) 0 none pe);rfl;rfl;exact hH;(repeat constructor);clear hH;rintro _ w hH);(repeat' (first|(refine QT ?_;clear hA a;intro a hA)|refine CT ?_|fail)))
    exact rt1 (.inl rfl) rfl hA rfl (.inl ⟨(fi,l),p,bV,_,hs,rfl,hf,MapR_new (cl:=(fi,l)) hf hv,hH.perm PMT⟩)
  · (apply pV hA rfl rfl rfl;apply wA;rfl;rfl;rfl;exact hH;(repeat constructor);clear hH;rintro _ w hH;refine ⟨hH.tail,?_⟩)
    (apply pV hA rfl rfl rfl;apply wA;rfl;rfl;rfl;exact hH;(repeat constructor);clear hH;rintro _ w hH;refine ⟨hH.tail,?_⟩)
    (repeat ((first|(apply mE hA rfl rfl rfl (by decide) rfl;exact xC rfl)|(apply fY hA rfl rfl rfl (by decide) rfl;first|(apply zC;rfl;exact wG MEMT hp rfl)|(apply zD;rfl;rfl;omega;omega;first|exact hspF|exact hspB)|(apply zC;rfl;refine xP hR.1.1 id (fA ?_);omega)|(apply zY;rfl)|(apply zI (cs:=#[.pointer (some (bat p 0)),.map (some bV),.pointer (xG g fi 0),.int .i64 0,.pointer none]);rfl;exact FLT;rfl)|exact EXT));clear hA a;intro a hA))
    (apply mD;(apply zX hA rfl rfl rfl;apply xO (vs:=[.pointer (some (bat p 0)),.map (some bV),.pointer (xG g fi 0),.int .i64 0,.pointer none]) (cs':=zJ g kd s oO nO cO++yS g fuel oS nS cS p bV (xG g fi 0) 0 none pe);rfl;rfl;exact hH;(repeat constructor);clear hH;rintro _ w hH);(repeat' (first|(refine QT ?_;clear hA a;intro a hA)|refine CT ?_|fail)))
    exact rt1 (.inl rfl) rfl hA rfl (.inl ⟨(fi,l),p,bV,_,hs,rfl,hf,MapR_new2 (cl:=(fi,l)) hf hv,hH.perm PMT⟩)
end
structure FmM where
  pc:Nat
  bv:Nat
  pb:Option Addr
  i:Int
  ph:Option Addr
  m:List (Int × Value)
def yF (f:FmM):List Value:=[.pointer (some (bat f.pc 0)),.map (some f.bv),.pointer f.pb,.int .i64 f.i,.pointer f.ph]
theorem nH (f:FmM):(yF f).length=5:=rfl
theorem fB (l:List FmM) (f:FmM):flat yF l++yF f=flat yF (l++[f]):=by rw [xZ]
theorem lenFm (l:List FmM) (f:FmM):(l++[f]).length=l.length+1:=by rw [List.length_append];rfl
theorem sub_fm (g:Grs) (fuel:Int) (oS:Option Addr) (nS cS pc bv:Nat) (pb:Option Addr) (pi:Int) (ph pe:Option Addr) (kd:Int) (s:ByteArray) (oO:Option Addr) (nO cO:Nat) (i:Nat) (v:Value) (h:(yF ⟨pc,bv,pb,pi,ph,[]⟩)[i]?=some v):(zJ g kd s oO nO cO++yS g fuel oS nS cS pc bv pb pi ph pe)[12+i]?=some v:=by
  match i,h with
  |0,h=>exact h
  |1,h=>exact h
  |2,h=>exact h
  |3,h=>exact h
  |4,h=>exact h
section
attribute [local irreducible] Code.wp wpList Calls Ex Op1 sat bat blk cb own Go.Fw.mp Go.Fw.mpO Go.Fw.mpI Go.Fw.mpE Go.Fw.itr HS Rd Ret wkD Hp Cl Cls Exit.then Exit.inBlock Exit.noGoto bodyPost Go.Fw.flat wk2 Go.Fw.all Go.Fw.owns wpOp
attribute [local irreducible] sk mpK sko mvO xI opM Go.Fw.mset Go.Fw.mv opK w63 frz obI RV wQ

theorem call_spec (w0 w:World) (H:List It) (c:Cx) (bM:Nat) (g:Grs) (kd:Int) (s:ByteArray) (oO oS:Option Addr) (nO cO cS pc bv:Nat) (fuel pi:Int) (pb ph pe hd:Option Addr) (mm:List (Int × Value)) (fms:List FmM) (f x:Vl) (u v:Value) (hH:HS w0 noM (cb bM 86 (zJ g kd s oO nO cO++yS g fuel oS fms.length cS pc bv pb pi ph pe)::frz w0 c.K::own 83 5 oS fms.length cS (flat yF fms)::H) w) (hu:RV c f u) (hv:RV c x v)
    (hR:RdGs w0 g) (hnf:c.nf=g.fs.l.length) (hne:∀f∈g.fs.l,0<f.bs.l.length) (hfl:fms.length≤1000000) :
    Ret Tryz.prog 49 #[.pointer (some (bat bM 0)),u,v,.pointer hd] w (fun r w'=>
      (∃cl p b m oS2 cS2,asFn f=some cl∧FnR c cl.1 cl.2 p∧MapR c (nY cl x).vs m∧HS w0 noM (cb bM 86 (zJ g kd s oO nO cO++yS g fuel oS2 (fms++[(⟨pc,bv,pb,pi,hd,mm⟩:FmM)]).length cS2 p b (xG g cl.1 0) 0 none pe)::own 83 5 oS2 (fms++[(⟨pc,bv,pb,pi,hd,mm⟩:FmM)]).length cS2 (flat yF (fms++[⟨pc,bv,pb,pi,hd,mm⟩]))::mp b m::frz w0 c.K::H) w')∨
      (asFn f=none∧∃b,HS w0 noM (cb bM 86 (zJ g kd s oO nO cO++yS g fuel oS fms.length cS pc bv pb pi ph (some (bat b 0)))::cb b 29 (xD 4 empS empS)::frz w0 c.K::own 83 5 oS fms.length cS (flat yF fms)::H) w')):=by
  (refine ENT (N:=29) Tryz.func49 Tryz.ntmps49 ?_;intro a hA)
  repeat' (first|(refine XT ?_;apply XE;(first|(apply zG (vs:=yF ⟨pc,bv,pb,pi,ph,mm⟩);rfl;rfl;exact rW MEMT (fun i v h=>(by rw [Nat.zero_add];exact sub_fm g fuel oS fms.length cS pc bv pb pi ph pe kd s oO nO cO i v h))));clear hA a;intro a hA)|(refine QT ?_;clear hA a;intro a hA)|(refine BT ?_;clear hA hH;rintro _ w ⟨bN,rfl,hH⟩ a hA)|(refine SAT (yF ⟨pc,bv,pb,pi,ph,mm⟩) hA hH ?_;clear hH;intro w hH)|(apply zO hA rfl rfl;apply zB (cs':=yF ⟨pc,bv,pb,pi,hd,mm⟩);rfl;rfl;rfl;exact hH;(repeat constructor);clear hH;rintro _ w hH)|refine CT ?_|fail)
  obtain ⟨b8,hb8⟩:∃x,x=bN:=⟨_,rfl⟩
  rw [←hb8] at hA hH
  clear hb8 bN
  (refine zH hA rfl rfl (by decide) (zA rfl rfl rfl (mC w0 w (own 83 5 oS fms.length cS (flat yF fms)::cb b8 83 (yF ⟨pc,bv,pb,pi,hd,mm⟩)::H) c bM g kd s oO oS nO cO fms.length cS pc bv fuel pi pb ph pe f x u v (hH.perm PMT) hu hv hR hnf hne)) ?_;clear hA hH)
  rintro _ w (⟨cl,p,b,m,hs,rfl,hcf,hm,hH⟩| ⟨hs,rfl,b,hH⟩) a hA
  rotate_left
  · repeat' (first|(refine QT ?_;clear hA a;intro a hA)|refine CT ?_|fail)
    exact rt0 (.inr rfl) rfl hA (.inr ⟨hs,b,(hH.rm 4).perm PMT⟩)
  repeat' (first|(refine QT ?_;clear hA a;intro a hA)|refine CT ?_|fail)
  have hST:HS w0 noM [cb bM 86 (zJ g kd s oO nO cO++yS g fuel oS fms.length cS p b (xG g cl.1 0) 0 none pe),cb b8 83 (yF ⟨pc,bv,pb,pi,hd,mm⟩)] w:=HS.left (H1:=[_,_]) (H2:=own 83 5 oS fms.length cS (flat yF fms)::mp b m::frz w0 c.K::H) (hH.perm PMT)
  replace hH:=hH.perm (H':=cb bM 86 (zJ g kd s oO nO cO++yS g fuel oS fms.length cS p b (xG g cl.1 0) 0 none pe)::cb b8 83 (yF ⟨pc,bv,pb,pi,hd,mm⟩)::own 83 5 oS fms.length cS (flat yF fms)::mp b m::frz w0 c.K::H) PMT
  (refine zK (H:=[_,_]) [(0,1),(1,1),(2,1),(3,1),(4,1),(5,1),(6,0),(7,0),(8,1),(9,1)] [10] mixed (by decide +kernel) (hST) ?_;replace hH:=hH.drew)
  clear hST
  repeat' (first|(refine XT ?_;apply XE;(first|(apply zG (vs:=yF ⟨pc,bv,pb,pi,hd,mm⟩);rfl;rfl;exact zR MEMT));clear hA a;intro a hA)|(refine QT ?_;clear hA a;intro a hA)|fail)
  (apply yO hA rfl rfl rfl (by decide);apply zZ (xs:=yF ⟨pc,bv,pb,pi,hd,mm⟩) (vs:=[.agg (yF ⟨pc,bv,pb,pi,hd,mm⟩).toArray]);rfl;rfl;exact (Cats.cn (cs:=yF ⟨pc,bv,pb,pi,hd,mm⟩) Cats.nil);rfl;rfl;rfl;exact hH;clear hA hH;rintro _ w ⟨oN,rfl,hH⟩;refine ⟨HS.left (H1:=[_,_]) hH.tail,?_⟩;intro a hA)
  (apply yO hA rfl rfl rfl (by decide);apply yX;rfl;rfl;exact hH;exact MEMT;exact (hH.own_rd (List.Mem.head _));exact rfl;rfl;decide;exact rfl;(unfold maxLen;omega);omega;clear hA;rintro _ w ⟨oN,cN,rfl,hH2⟩;clear hH;have hH:=hH2 _ (by (repeat constructor));clear hH2;refine ⟨HS.left (H1:=[_,_]) hH.tail,?_⟩;intro a hA)
  rw [fB] at hH
  repeat' (first|(refine QT ?_;clear hA a;intro a hA)|(apply zX hA rfl rfl rfl;apply zB (cs':=zJ g kd s oO nO cO++yS g fuel oN (fms.length+1) cN p b (xG g cl.1 0) 0 none pe);rfl;rfl;rfl;exact hH;(repeat constructor);clear hH;rintro _ w hH)|refine CT ?_|fail)
  rw [←lenFm fms ⟨pc,bv,pb,pi,hd,mm⟩] at hH
  refine rt0 (.inr rfl) rfl hA (.inl ⟨cl,p,b,m,oN,cN,hs,hcf,hm,?_⟩)
  exact ((hH.rm 0).rm 1).perm PMT
end
theorem HS_cut {w0 w:World} {M:Nat→Prop} {H H':List It} {T sz n cap k:Nat} {o:Option Addr} {xs:List Value} (h:HS w0 M H w) (hk:k≤n) (hr:Rp H (own T sz o n cap xs) (own T sz o k cap (xs.take (k*sz))) H'):HS w0 M H' w:=
  h.conv hr fun F hF=>own_cut hF hk
theorem mX {α:Type} (s:List α) (x:α):(s++[x])[s.length]?=some x:=by simp
theorem fC (pre:List FmM) (f:FmM):(flat yF (pre++[f])).take (pre.length*5)=flat yF pre:=by
  rw [←fB,List.take_append_of_le_length (Nat.le_of_eq (zF nH _).symm),List.take_of_length_le (Nat.le_of_eq (zF nH _))]
theorem bl_is {l:List Blc} {b:Nat} {bl:Blc} (h:l[b]?=some bl):(flat yE l)[b*6+1]?=some (.slice bl.is.o bl.is.l.length bl.is.c):=yZ (off:=1) uL h rfl
theorem in_x {l:List Ins} {i:Nat} {x:Ins} (h:l[i]?=some x):(flat xK l)[i*5+0]?=some (.int .i64 x.x):=yZ (off:=0) sX h rfl
section
attribute [local irreducible] Code.wp wpList Calls Ex Op1 sat bat blk cb own Go.Fw.mp Go.Fw.mpO Go.Fw.mpI Go.Fw.mpE Go.Fw.itr HS Rd Ret wkD Hp Cl Cls Exit.then Exit.inBlock Exit.noGoto bodyPost Go.Fw.flat wk2 Go.Fw.all Go.Fw.owns wpOp
attribute [local irreducible] sk mpK sko mvO xI opM Go.Fw.mset Go.Fw.mv opK w63 frz obI RV wQ

theorem back_spec (w0 w:World) (H:List It) (bM:Nat) (g:Grs) (kd:Int) (s:ByteArray) (oO oS oB:Option Addr) (nO cO cS pc bv b i:Nat) (fuel pi:Int) (pb ph pe:Option Addr) (pre:List FmM) (f0:FmM) (u:Value) (gr:Gr) (bl:Blc) (x:Ins) (hH:HS w0 noM (cb bM 86 (zJ g kd s oO nO cO++yS g fuel oS (pre.length+1) cS pc bv pb pi ph pe)::own 83 5 oS (pre.length+1) cS (flat yF (pre++[f0]))::mp f0.bv f0.m::H) w)
    (hR:RdG w0 gr) (hbl:gr.bs.l[b]?=some bl) (hx:bl.is.l[i]?=some x) (hpb:f0.pb=some (sat gr.bs.o (b*6))) (hi:f0.i=i) (hpl:pre.length≤1000000) :
    Ret Tryz.prog 53 #[.pointer (some (bat bM 0)),u] w (fun r w'=>
      HS w0 noM (cb bM 86 (zJ g kd s oO nO cO++yS g fuel oS pre.length cS f0.pc f0.bv f0.pb ((i+1:Nat):Int) f0.ph pe)::own 83 5 oS pre.length cS (flat yF pre)::mp f0.bv (mset f0.m x.x u)::H) w'):=by
  have hbm:=List.mem_of_getElem? hbl
  have hbR:=hR.2 bl hbm
  have hle:=hbR.2.1.le
  have hil:=(List.getElem?_eq_some_iff.1 hx).1
  have hspI:Sp bl.is.o bl.is.l.length:=hbR.2.1.1.sp (sz:=5) (zF sX _) (by omega)
  have hspS:=hH.own_sp (T:=83) (o:=oS) (by exact MEMT)
  have hlast:=yA nH (mX pre f0)
  have hvI:=bl_is hbl
  have hvX:=in_x hx
  have hown:=hH.own_le (T:=83) (o:=oS) (by exact MEMT)
  obtain ⟨pcf,bvf,pbf,pif,phf,mf⟩:=f0
  dsimp only at hpb hi hH ⊢
  subst hpb hi
  (refine ENT (N:=87) Tryz.func53 Tryz.ntmps53 ?_;intro a hA)
  repeat' (first|(refine QT ?_;clear hA a;intro a hA)|refine CT ?_|fail)
  (refine zK [(0,1),(1,1),(2,1),(3,1),(4,1),(5,1),(6,1),(7,1),(8,1),(9,1),(10,1),(11,1),(12,1),(13,1),(14,1)] [15] mixed (by decide +kernel) hH ?_;replace hH:=hH.drew)
  repeat' (first|(refine XT ?_;apply XE;(first|(apply sQ;rfl;rfl;omega)|(apply zE;rfl;rfl;omega;exact hspS)|(apply zG (vs:=yF ⟨pcf,bvf,some (sat gr.bs.o (b*6)),i,phf,mf⟩);rfl;rfl;exact lI (T:=83) (o:=oS) MEMT hlast));clear hA a;intro a hA)|(refine QT ?_;clear hA a;intro a hA)|(apply zX hA rfl rfl rfl;apply xO (vs:=yF ⟨pcf,bvf,some (sat gr.bs.o (b*6)),i,phf,mf⟩) (cs':=zJ g kd s oO nO cO++yS g fuel oS (pre.length+1) cS pcf bvf (some (sat gr.bs.o (b*6))) i phf pe);rfl;rfl;exact hH;(repeat constructor);clear hH;rintro _ w hH)|refine CT ?_|fail)
  (refine zK [(0,1),(1,1),(2,1),(3,1),(4,1),(5,1),(6,1),(7,1),(8,1),(9,1),(10,1),(11,1),(12,1),(13,1)] [14] mixed (by decide +kernel) hH ?_;replace hH:=hH.drew)
  repeat' (first|(refine XT ?_;apply XE;(first|(apply sQ;rfl;rfl;omega)|(apply wY (k:=pre.length);rfl;rfl;rfl;omega));clear hA a;intro a hA)|(refine QT ?_;clear hA a;intro a hA)|(apply zX hA rfl rfl rfl;apply zB (cs':=zJ g kd s oO nO cO++yS g fuel oS pre.length cS pcf bvf (some (sat gr.bs.o (b*6))) i phf pe);rfl;rfl;rfl;exact hH;(repeat constructor);clear hH;rintro _ w hH)|refine CT ?_|fail)
  replace hH:=HS_cut (T:=83) (sz:=5) (o:=oS) (cap:=cS) (k:=pre.length) (n:=pre.length+1) hH (Nat.le_succ _) (by (repeat constructor))
  rw [fC] at hH
  (refine zK [(0,1),(1,1),(2,1),(3,1),(4,1),(5,1),(6,1),(7,1),(8,1),(9,1),(10,1),(11,1),(12,1),(13,1),(14,1),(15,1),(16,1),(17,1),(18,1),(19,1),(20,1),(21,1)] [22] mixed (by decide +kernel) hH ?_;replace hH:=hH.drew)
  repeat' (first|(refine XT ?_;apply XE;(first|(apply zC;rfl;exact xP hR.1.1 id hvI)|(apply zC;rfl;exact xP hbR.2.1.1 id hvX)|(apply zE;rfl;rfl;omega;exact hspI));clear hA a;intro a hA)|(refine QT ?_;clear hA a;intro a hA)|(apply zX hA rfl rfl rfl;apply xT;rfl;rfl;rfl;exact hH;(repeat constructor);clear hH;rintro _ w hH)|refine CT ?_|fail)
  repeat' (first|(refine QT ?_;clear hA a;intro a hA)|(apply zO hA rfl rfl;apply zB (cs':=zJ g kd s oO nO cO++yS g fuel oS pre.length cS pcf bvf (some (sat gr.bs.o (b*6))) ((i+1:Nat):Int) phf pe);rfl;rfl;rfl;exact hH;(repeat constructor);clear hH;rintro _ w hH)|refine CT ?_|fail)
  exact rt0 (.inr rfl) rfl hA hH
end
def hdR (c:Cx):Option Clo→Option Addr→Prop
  |none,ph=>ph=none
  |some cl,ph=>∃p,ph=some (bat p 0)∧FnR c cl.1 cl.2 p
theorem hdR.mono {c d:Cx} (h:c.le d):∀{x:Option Clo} {p:Option Addr},hdR c x p→hdR d x p
  |none,p,hx=>hx
  |some cl,p,⟨q,h1,h2⟩=>⟨q,h1,h2.mono h⟩
structure FmR (g:Grs) (c:Cx) (f:Fm) (x:FmM):Prop where
  fn:FnR c f.c.1 f.c.2 x.pc
  vs:MapR c f.vs x.m
  pb:x.pb=xG g f.c.1 f.b
  i:x.i=(f.i:Int)
  h:hdR c f.h x.ph
theorem FmR.mono {g:Grs} {c d:Cx} (h:c.le d) {f:Fm} {x:FmM} (hf:FmR g c f x):FmR g d f x:=⟨hf.fn.mono h,hf.vs.mono h,hf.pb,hf.i,hf.h.mono h⟩
def FsR (g:Grs) (c:Cx):List Fm→List FmM→Prop
  | [],l=>l=[]
  |f::r,l=>∃pre x,l=pre++[x]∧FmR g c f x∧FsR g c r pre
theorem FsR.mono {g:Grs} {c d:Cx} (h:c.le d):∀{sk:List Fm} {l:List FmM},FsR g c sk l→FsR g d sk l
  | [],l,hs=>hs
  |f::r,l,⟨pre,x,h1,h2,h3⟩=>⟨pre,x,h1,h2.mono h,FsR.mono h h3⟩
theorem FsR.len {g:Grs} {c:Cx}:∀{sk:List Fm} {l:List FmM},FsR g c sk l→l.length=sk.length
  | [],l,hs=>by rw [show l=[] from hs];rfl
  |f::r,l,⟨pre,x,h1,h2,h3⟩=>by rw [h1,List.length_append,h3.len];rfl
def mpF (x:FmM):It:=mp x.bv x.m
theorem mpF_pop {w0 w:World} {H:List It} {pre:List FmM} {x:FmM} (h:HS w0 noM (all ((pre++[x]).map mpF)::H) w):HS w0 noM (mp x.bv x.m::all (pre.map mpF)::H) w:=by
  rw [List.map_append] at h
  have:=HS.all_out (A:=pre.map mpF) (B:=[]) (x:=mp x.bv x.m) h
  rwa [List.append_nil] at this
theorem mpF_push {w0 w:World} {H:List It} {pre:List FmM} {x:FmM} (h:HS w0 noM (mp x.bv x.m::all (pre.map mpF)::H) w):HS w0 noM (all ((pre++[x]).map mpF)::H) w:=by
  rw [List.map_append]
  exact HS.all_in (A:=pre.map mpF) (B:=[]) (x:=mp x.bv x.m) (by rwa [List.append_nil])
section
attribute [local irreducible] Code.wp wpList Calls Ex Op1 sat bat blk cb own Go.Fw.mp Go.Fw.mpO Go.Fw.mpI Go.Fw.mpE Go.Fw.itr HS Rd Ret wkD Hp Cl Cls Exit.then Exit.inBlock Exit.noGoto bodyPost Go.Fw.flat wk2 Go.Fw.all Go.Fw.owns wpOp
attribute [local irreducible] sk mpK sko mvO xI opM Go.Fw.mset Go.Fw.mv opK w63 frz obI RV wQ

theorem raise_spec (w0 w:World) (H:List It) (c:Cx) (bM:Nat) (g:Grs) (kd:Int) (s:ByteArray) (oO oS:Option Addr) (nO cO cS pc bv:Nat) (fuel pi:Int) (pb ph pe:Option Addr) (fms:List FmM) (sk:List Fm) (wd:Wd) (n:Int) (hH:HS w0 noM (cb bM 86 (zJ g kd s oO nO cO++yS g fuel oS fms.length cS pc bv pb pi ph pe)::frz w0 c.K::own 83 5 oS fms.length cS (flat yF fms)::all (fms.map mpF)::H) w) (hF:FsR g c sk fms) (hn:iok n)
    (hR:RdGs w0 g) (hnf:c.nf=g.fs.l.length) (hne:∀f∈g.fs.l,0<f.bs.l.length) (hfl:fms.length≤1000000) (hxs:∀s∈g.xs.l,s.size≤4611686018427387904) :
    Ret Tryz.prog 51 #[.pointer (some (bat bM 0)),.int .i64 n] w (fun r w'=>
      (∃sk' cl p b m oS cS fms',uY g n wd sk= .go ⟨wd,sk',nY cl (.num n)⟩∧FnR c cl.1 cl.2 p∧MapR c (nY cl (.num n)).vs m∧FsR g c sk' fms'∧HS w0 noM (cb bM 86 (zJ g kd s oO nO cO++yS g fuel oS fms'.length cS p b (xG g cl.1 0) 0 none pe)::own 83 5 oS fms'.length cS (flat yF fms')::all (fms'.map mpF)::mp b m::frz w0 c.K::H) w')∨
      (∃k res oS nS cS b,uY g n wd sk= .stop k res wd∧HS w0 noM (cb bM 86 (zJ g kd s oO nO cO++yS g fuel oS nS cS pc bv pb pi ph (some (bat b 0)))::cb b 29 (xD k empS res)::frz w0 c.K::H) w')):=by
  have hxR:=hR.2.2.2.2.1
  have hxl:=hxR.le
  have hspX:Sp g.xs.o g.xs.l.length:=hxR.1.sp (sz:=1) (zF wZ _) (by omega)
  (refine ENT (N:=84) Tryz.func51 Tryz.ntmps51 ?_;intro a hA)
  repeat' (first|(refine GT ?_ ?_<;>intro hg<;>clear hA a<;>intro a hA<;>(first|exact FA|replace hg:=dTr hg|replace hg:=dFa hg|skip))|(refine QT ?_;clear hA a;intro a hA)|(refine zH hA rfl rfl (by decide) (zA rfl rfl rfl (sT w0 _ _ bM g kd s oO oS nO cO fms.length cS pc bv fuel pi pb ph pe 4 empS hH)) ?_;clear hA hH;rintro _ w ⟨b,hH⟩ a hA)|refine CT ?_|(refine DT ?_ ?_<;>intro hc<;>try (exfalso;omega))|fail)
  · exact rt0 (.inl rfl) rfl hA (.inr ⟨4,empS,_,_,_,b,by unfold uY;rw [if_pos (.inl (by assumption))];rfl,((hH.rm 3).rm 3).perm PMT⟩)
  · exact rt0 (.inl rfl) rfl hA (.inr ⟨4,empS,_,_,_,b,by unfold uY;rw [if_pos (.inr (by assumption))];rfl,((hH.rm 3).rm 3).perm PMT⟩)
  have hn0:¬(n<0∨(g.xs.l.length:Int)≤n):=by omega
  refine yK (S:=List Fm) (fun sk' a w=>∃fms oS cS,(FsR g c sk' fms∧sH n wd sk=sH n wd sk'∧fms.length≤1000000)∧HS w0 noM (cb bM 86 (zJ g kd s oO nO cO++yS g fuel oS fms.length cS pc bv pb pi ph pe)::frz w0 c.K::own 83 5 oS fms.length cS (flat yF fms)::all (fms.map mpF)::H) w∧Sl 84 [(0,.pointer (some (bat bM 0))),(1,.int .i64 n)] a) (fun sk'=>sk'.length)
    (fun a w=>∃oS nS cS,sH n wd sk=none∧HS w0 noM (cb bM 86 (zJ g kd s oO nO cO++yS g fuel oS nS cS pc bv pb pi ph pe)::frz w0 c.K::H) w∧Sl 84 [(0,.pointer (some (bat bM 0))),(1,.int .i64 n)] a) sk ⟨fms,oS,cS,⟨hF,rfl,hfl⟩,hH,(hA.sub SBT)⟩ ?_ ?_
  · clear hA hH hF hfl
    rintro sk' a w ⟨fms,oS,cS,⟨hF,hr,hfl⟩,hH,hA⟩
    cases sk' with
    | nil=>
      obtain rfl:fms=[]:=hF
      repeat' (first|(refine QT ?_;clear hA a;intro a hA)|refine CT ?_|fail)
      exact ⟨_,_,_,hr,((hH.rm 2).rm 2),(hA.sub SBT)⟩
    | cons f r=>
      obtain ⟨pre,x,rfl,hx,hF⟩:=hF
      obtain ⟨pcf,bvf,pbf,pif,phf,mf⟩:=x
      rw [lenFm] at hH hfl
      have hspS:=hH.own_sp (T:=83) (o:=oS) (by exact MEMT)
      have hlast:=yA nH (mX pre ⟨pcf,bvf,pbf,pif,phf,mf⟩)
      have hown:=hH.own_le (T:=83) (o:=oS) (by exact MEMT)
      repeat' (first|(refine QT ?_;clear hA a;intro a hA)|refine CT ?_|(refine DT ?_ ?_<;>intro hc<;>try (exfalso;omega))|fail)
      (refine zK [(0,1),(1,1),(2,1),(3,1),(4,1),(5,1),(6,1),(7,1),(8,1),(9,1),(10,1),(11,1),(12,0)] [13] mixed (by decide +kernel) hH ?_;replace hH:=hH.drew)
      repeat' (first|(refine XT ?_;apply XE;(first|(apply sQ;rfl;rfl;omega)|(apply zE;rfl;rfl;omega;exact hspS)|(apply zG (vs:=yF ⟨pcf,bvf,pbf,pif,phf,mf⟩);rfl;rfl;exact lI (T:=83) (o:=oS) MEMT hlast));clear hA a;intro a hA)|(refine QT ?_;clear hA a;intro a hA)|fail)
      (apply yO hA rfl rfl rfl (by decide);apply wD;exact hH;clear hA hH;rintro _ w ⟨bN,rfl,hH⟩;refine ⟨hH.tail,?_⟩;intro a hA)
      repeat' (first|(refine QT ?_;clear hA a;intro a hA)|(apply zX hA rfl rfl rfl;apply yP (vs:=yF ⟨pcf,bvf,pbf,pif,phf,mf⟩);rfl;rfl;exact hH;(repeat constructor);(repeat rfl);clear hH;rintro _ w hH)|refine CT ?_|fail)
      replace hA:Sl 84 [(0,.pointer (some (bat bM 0))),(1,.int .i64 n),(4,.pointer (some (bat bN 0)))] a:=(hA.sub SBT)
      (refine zK [(0,1),(1,1),(2,1),(3,1),(4,1),(5,1),(6,1),(7,1),(8,1),(9,1),(10,1),(11,1),(12,1),(13,1)] [14] mixed (by decide +kernel) hH ?_;replace hH:=hH.drew)
      repeat' (first|(refine XT ?_;apply XE;(first|(apply sQ;rfl;rfl;omega)|(apply wY (k:=pre.length);rfl;rfl;rfl;omega));clear hA a;intro a hA)|(refine QT ?_;clear hA a;intro a hA)|(apply zX hA rfl rfl rfl;apply zB (cs':=zJ g kd s oO nO cO++yS g fuel oS pre.length cS pc bv pb pi ph pe);rfl;rfl;rfl;exact hH;(repeat constructor);clear hH;rintro _ w hH)|refine CT ?_|fail)
      replace hH:=HS_cut (T:=83) (sz:=5) (o:=oS) (cap:=cS) (k:=pre.length) (n:=pre.length+1) hH (Nat.le_succ _) (by (repeat constructor))
      rw [fC] at hH
      replace hA:Sl 84 [(0,.pointer (some (bat bM 0))),(1,.int .i64 n),(4,.pointer (some (bat bN 0))),(5,.pointer phf),(54,.pointer phf)] a:=(hA.sub SBT)
      cases hfh:f.h with
      | none=>
        obtain rfl:phf=none:=by have h1:=hx.h;rw [hfh] at h1;exact h1
        repeat' (first|(refine XT ?_;apply XE;(first|(apply fH;rfl;rfl));clear hA a;intro a hA)|(refine QT ?_;clear hA a;intro a hA)|refine CT ?_|fail)
        exact ⟨r,⟨pre,_,_,⟨hF,by rw [hr,sH,hfh],by omega⟩,((mpF_pop ((hH.rm 0).perm (H':=all ((pre++[(⟨pcf,bvf,pbf,pif,none,mf⟩:FmM)]).map mpF)::cb bM 86 (zJ g kd s oO nO cO++yS g fuel oS pre.length cS pc bv pb pi ph pe)::frz w0 c.K::own 83 5 oS pre.length cS (flat yF pre)::H) PMT)).tail).perm PMT,(hA.sub SBT)⟩,by rw [List.length_cons];omega⟩
      | some cl=>
        obtain ⟨p,rfl,hcl⟩:∃p,phf=some (bat p 0)∧FnR c cl.1 cl.2 p:=by have h1:=hx.h;rw [hfh] at h1;exact h1
        have e9:(pre++[(⟨pcf,bvf,pbf,pif,some (bat p 0),mf⟩:FmM)]).map mpF=(pre++[(⟨pcf,bvf,pbf,pif,none,mf⟩:FmM)]).map mpF:=by rw [List.map_append,List.map_append];rfl
        rw [e9] at hH
        repeat' (first|(refine XT ?_;apply XE;(first|(apply fG;rfl;rfl));clear hA a;intro a hA)|(refine QT ?_;clear hA a;intro a hA)|(apply zO hA rfl rfl;apply zB (cs':=yF ⟨pcf,bvf,pbf,pif,none,mf⟩);rfl;rfl;rfl;exact hH;(repeat constructor);clear hH;rintro _ w hH)|refine CT ?_|fail)
        have hST:HS w0 noM [cb bM 86 (zJ g kd s oO nO cO++yS g fuel oS pre.length cS pc bv pb pi ph pe),cb bN 83 (yF ⟨pcf,bvf,pbf,pif,none,mf⟩)] w:=HS.left (H1:=[_,_]) (H2:=frz w0 c.K::own 83 5 oS pre.length cS (flat yF pre)::all ((pre++[(⟨pcf,bvf,pbf,pif,none,mf⟩:FmM)]).map mpF)::H) (hH.perm PMT)
        replace hH:=hH.perm (H':=cb bM 86 (zJ g kd s oO nO cO++yS g fuel oS pre.length cS pc bv pb pi ph pe)::cb bN 83 (yF ⟨pcf,bvf,pbf,pif,none,mf⟩)::own 83 5 oS pre.length cS (flat yF pre)::frz w0 c.K::all ((pre++[(⟨pcf,bvf,pbf,pif,none,mf⟩:FmM)]).map mpF)::H) PMT
        obtain ⟨b8,hb8⟩:∃x,x=bN:=⟨_,rfl⟩
        rw [←hb8] at hA hH hST
        clear hb8 bN
        (refine zK (H:=[_,_]) [(0,1),(1,1),(2,1),(3,1),(4,1),(5,1),(6,0),(7,0),(8,1),(9,1)] [10] mixed (by decide +kernel) (hST) ?_;replace hH:=hH.drew)
        clear hST
        repeat' (first|(refine XT ?_;apply XE;(first|(apply zG (vs:=yF ⟨pcf,bvf,pbf,pif,none,mf⟩);rfl;rfl;exact zR MEMT));clear hA a;intro a hA)|(refine QT ?_;clear hA a;intro a hA)|fail)
        (apply yO hA rfl rfl rfl (by decide);apply zZ (xs:=yF ⟨pcf,bvf,pbf,pif,none,mf⟩) (vs:=[.agg (yF ⟨pcf,bvf,pbf,pif,none,mf⟩).toArray]);rfl;rfl;exact (Cats.cn (cs:=yF ⟨pcf,bvf,pbf,pif,none,mf⟩) Cats.nil);rfl;rfl;rfl;exact hH;clear hA hH;rintro _ w ⟨oN,rfl,hH⟩;refine ⟨HS.left (H1:=[_,_]) hH.tail,?_⟩;intro a hA)
        (apply yO hA rfl rfl rfl (by decide);apply yX;rfl;rfl;exact hH;exact MEMT;exact (hH.own_rd (List.Mem.head _));exact rfl;rfl;decide;exact rfl;(unfold maxLen;omega);omega;clear hA;rintro _ w ⟨oN,cN,rfl,hH2⟩;clear hH;have hH:=hH2 _ (by (repeat constructor));clear hH2;refine ⟨HS.left (H1:=[_,_]) hH.tail,?_⟩;intro a hA)
        rw [fB] at hH
        repeat' (first|(refine XT ?_;apply XE;(first|(apply zY;rfl));clear hA a;intro a hA)|(refine QT ?_;clear hA a;intro a hA)|(apply zX hA rfl rfl rfl;apply zB (cs':=zJ g kd s oO nO cO++yS g fuel oN (pre.length+1) cN pc bv pb pi ph pe);rfl;rfl;rfl;exact hH;(repeat constructor);clear hH;rintro _ w hH)|refine CT ?_|fail)
        replace hH:=(((hH.rm 0).rm 1).perm (H':=cb bM 86 (zJ g kd s oO nO cO++yS g fuel oN (pre.length+1) cN pc bv pb pi ph pe)::frz w0 c.K::own 83 5 oN (pre.length+1) cN (flat yF (pre++[⟨pcf,bvf,pbf,pif,none,mf⟩]))::all ((pre++[(⟨pcf,bvf,pbf,pif,none,mf⟩:FmM)]).map mpF)::H) PMT)
        (refine zH hA rfl rfl (by decide) (zA rfl rfl rfl (mC w0 w _ c bM g kd s oO oN nO cO (pre.length+1) cN pc bv fuel pi pb ph pe (.fn cl.1 cl.2) (.num n) _ _ hH hcl.rv (RV_num hn) hR hnf hne)) ?_;clear hA hH)
        rintro _ w (⟨cl',p',b',m',hs,rfl,hcf,hm,hH⟩| ⟨hs,rfl,b,hH⟩) a hA
        rotate_left
        · cases hs
        cases hs
        repeat' (first|(refine QT ?_;clear hA a;intro a hA)|refine CT ?_|fail)
        refine rt0 (.inl rfl) rfl hA (.inl ⟨{f with h:=none}::r,cl,p',b',m',oN,cN,pre++[⟨pcf,bvf,pbf,pif,none,mf⟩],?_,hcf,hm,⟨pre,⟨pcf,bvf,pbf,pif,none,mf⟩,rfl,⟨hx.fn,hx.vs,hx.pb,hx.i,rfl⟩,hF⟩,?_⟩)
        · unfold uY
          rw [if_neg hn0,hr,sH,hfh]
        · rw [lenFm]
          exact hH.perm PMT
  clear hA hH
  rintro a w ⟨oS,nS,cS,hr,hH,hA⟩
  have hsz:=hxs (g.xs.l.getD n.toNat default) (xN (show n.toNat<g.xs.l.length by omega))
  repeat' (first|(refine XT ?_;apply XE;(first|(apply zD;rfl;rfl;omega;omega;exact hspX)|(apply zC;rfl;refine xP hxR.1 id (tU ?_);omega)|(apply aR;rfl;rfl;have h6:raiseB.size=6:=rfl;show raiseB.size+_≤_;omega));clear hA a;intro a hA)|(refine QT ?_;clear hA a;intro a hA)|(refine zH hA rfl rfl (by decide) (zA rfl rfl rfl (sT w0 _ _ bM g kd s oO oS nO cO nS cS pc bv fuel pi pb ph pe 1 (raiseB++g.xs.l.getD n.toNat default) hH)) ?_;clear hA hH;rintro _ w ⟨b,hH⟩ a hA)|refine CT ?_|fail)
  exact rt0 (.inr rfl) rfl hA (.inr ⟨1,_,oS,nS,cS,b,by unfold uY;rw [if_neg hn0,hr],hH⟩)
end
end Go.Proofs.YtenlcdokaadobaaGreatDoor
namespace Go.Proofs
open Go.Shelf
def Tryz.lays169_ren:Go.Shelf.Ren:=⟨fun|169=>137|n=>n,fun|70=>254|9=>9|0=>0|72=>256|37=>75|127=>269|3=>3|5=>5|n=>n,fun|n=>n⟩
theorem Tryz.lays169:Go.Proofs.Lays.n169 Tryz.prog Tryz.lays169_ren:={
  mixed:=by kernel_rfl
  f169:=Tryz.func137.trans (congrArg some (by kernel_rfl))
  t0:=Tryz.underlying0
  a0:=Tryz.isAgg0
  z0:=Tryz.sizeOf0
  v0:=Tryz.zeroValue0
  t3:=Tryz.underlying3
  a3:=Tryz.isAgg3
  z3:=Tryz.sizeOf3
  v3:=Tryz.zeroValue3
  t9:=Tryz.underlying9
  a9:=Tryz.isAgg9
  z9:=Tryz.sizeOf9
  v9:=Tryz.zeroValue9
  t37:=Tryz.underlying75
  a37:=Tryz.isAgg75
  z37:=Tryz.sizeOf75
  v37:=Tryz.zeroValue75
  t70:=Tryz.underlying254
  a70:=Tryz.isAgg254
  z70:=Tryz.sizeOf254
  v70:=Tryz.zeroValue254
  t72:=Tryz.underlying256
  a72:=Tryz.isAgg256
  z72:=Tryz.sizeOf256
  v72:=Tryz.zeroValue256
  t127:=Tryz.underlying269
  a127:=Tryz.isAgg269
  z127:=Tryz.sizeOf269
  v127:=Tryz.zeroValue269}
theorem Tryz.Builder_Extra_169:Builder.Extra Tryz.prog Tryz.lays169_ren:={
  sizeBuilder:=by kernel_rfl
  liesBuilder:=by kernel_rfl
  t5:=Tryz.underlying5
  a5:=Tryz.isAgg5
  z5:=Tryz.sizeOf5
  v5:=Tryz.zeroValue5
  infoByte:=by kernel_rfl
  cellsByte:=by kernel_rfl
  sizeByte:=by kernel_rfl
  neB5:=by decide}
open Go.RowKit in
theorem Tryz.Builder_String (B b:Nat) (l:List UInt8) (w:World) (h:Lib.IsBuilder 256 5 B b (Lib.byteCells l) w) (h0:l≠[]) :
    Calls Tryz.prog 137 #[.pointer (some ⟨b,0,none⟩)] w fun e w'=>e= .returned (.string ⟨l.toArray⟩)∧Below B w w':=Any.Builder_String Tryz.lays169 Tryz.Builder_Extra_169 B b l w h h0
def Tryz.laysM173_ren:Go.Shelf.Ren:=⟨fun|173=>134|246=>154|283=>162|284=>163|285=>164|286=>165|129=>171|317=>170|318=>172|319=>173|320=>174|337=>175|338=>176|n=>n,fun|2=>2|3=>3|9=>9|4=>4|171=>280|0=>0|53=>276|37=>75|5=>5|173=>283|212=>288|51=>273|20=>20|213=>289|46=>207|232=>292|233=>293|n=>n,fun|17=>0|18=>1|19=>2|n=>n⟩
theorem Tryz.laysM173:Go.Proofs.LaysM.n173 Tryz.prog Tryz.laysM173_ren:={
  mixed:=by kernel_rfl
  f129:=Tryz.func171.trans (congrArg some (by kernel_rfl))
  f173:=Tryz.func134.trans (congrArg some (by kernel_rfl))
  f246:=Tryz.func154.trans (congrArg some (by kernel_rfl))
  f283:=Tryz.func162.trans (congrArg some (by kernel_rfl))
  f284:=Tryz.func163.trans (congrArg some (by kernel_rfl))
  f285:=Tryz.func164.trans (congrArg some (by kernel_rfl))
  f286:=Tryz.func165.trans (congrArg some (by kernel_rfl))
  f317:=Tryz.func170.trans (congrArg some (by kernel_rfl))
  f318:=Tryz.func172.trans (congrArg some (by kernel_rfl))
  f319:=Tryz.func173.trans (congrArg some (by kernel_rfl))
  f320:=Tryz.func174.trans (congrArg some (by kernel_rfl))
  f337:=Tryz.func175.trans (congrArg some (by kernel_rfl))
  f338:=Tryz.func176.trans (congrArg some (by kernel_rfl))
  t0:=Tryz.underlying0
  a0:=Tryz.isAgg0
  z0:=Tryz.sizeOf0
  v0:=Tryz.zeroValue0
  t2:=Tryz.underlying2
  a2:=Tryz.isAgg2
  z2:=Tryz.sizeOf2
  v2:=Tryz.zeroValue2
  t3:=Tryz.underlying3
  a3:=Tryz.isAgg3
  z3:=Tryz.sizeOf3
  v3:=Tryz.zeroValue3
  t4:=Tryz.underlying4
  a4:=Tryz.isAgg4
  z4:=Tryz.sizeOf4
  v4:=Tryz.zeroValue4
  t5:=Tryz.underlying5
  a5:=Tryz.isAgg5
  z5:=Tryz.sizeOf5
  v5:=Tryz.zeroValue5
  t9:=Tryz.underlying9
  a9:=Tryz.isAgg9
  z9:=Tryz.sizeOf9
  v9:=Tryz.zeroValue9
  t20:=Tryz.underlying20
  a20:=Tryz.isAgg20
  z20:=Tryz.sizeOf20
  v20:=Tryz.zeroValue20
  t37:=Tryz.underlying75
  a37:=Tryz.isAgg75
  z37:=Tryz.sizeOf75
  v37:=Tryz.zeroValue75
  t46:=Tryz.underlying207
  a46:=Tryz.isAgg207
  z46:=Tryz.sizeOf207
  v46:=Tryz.zeroValue207
  t51:=Tryz.underlying273
  a51:=Tryz.isAgg273
  z51:=Tryz.sizeOf273
  v51:=Tryz.zeroValue273
  t53:=Tryz.underlying276
  a53:=Tryz.isAgg276
  z53:=Tryz.sizeOf276
  v53:=Tryz.zeroValue276
  t171:=Tryz.underlying280
  a171:=Tryz.isAgg280
  z171:=Tryz.sizeOf280
  v171:=Tryz.zeroValue280
  t173:=Tryz.underlying283
  a173:=Tryz.isAgg283
  z173:=Tryz.sizeOf283
  v173:=Tryz.zeroValue283
  t212:=Tryz.underlying288
  a212:=Tryz.isAgg288
  z212:=Tryz.sizeOf288
  v212:=Tryz.zeroValue288
  t213:=Tryz.underlying289
  a213:=Tryz.isAgg289
  z213:=Tryz.sizeOf289
  t232:=Tryz.underlying292
  a232:=Tryz.isAgg292
  z232:=Tryz.sizeOf292
  v232:=Tryz.zeroValue292
  t233:=Tryz.underlying293
  a233:=Tryz.isAgg293
  z233:=Tryz.sizeOf293
  v233:=Tryz.zeroValue293
  g17:=by kernel_rfl
  g18:=by kernel_rfl
  g19:=by kernel_rfl
  i0:=by kernel_rfl
  i2:=by kernel_rfl
  i3:=by kernel_rfl
  i4:=by kernel_rfl
  i5:=by kernel_rfl
  i9:=by kernel_rfl
  i20:=by kernel_rfl
  i37:=by kernel_rfl
  i46:=by kernel_rfl
  i51:=by kernel_rfl
  i53:=by kernel_rfl
  i171:=by kernel_rfl
  i173:=by kernel_rfl
  i212:=by kernel_rfl
  i232:=by kernel_rfl
  i233:=by kernel_rfl
  m17:=by kernel_rfl
  m18:=by kernel_rfl
  m19:=by kernel_rfl}
open Go.RowKit Go.Sort Go.Lib in
theorem Tryz.strconv_FormatInt_10 (n:Int) (h0:-9223372036854775808≤n) (h1:n≤9223372036854775807) (w:World) (htab:Lib.TabIs Tryz.prog w "internal/strconv.uint64pow10" .u64 Lib.pow10Tab) :
    Calls Tryz.prog 134 #[.int .i64 n,.int .i64 10] w fun e w'=>e= .returned (.string ⟨(Lib.itoa n).toArray⟩)∧∃k os,w'=grow (w.drewN k) os:=Any.strconv_FormatInt_10 Tryz.laysM173 n h0 h1 w htab
end Go.Proofs
namespace Go.Fw
open Go Go.RowKit
set_option linter.unusedVariables false
section
variable {P:Program} {N:Nat} {l:List (Nat × Value)} {a:Act} {C:World→Prop} {d:Option Tmp} {T:TypeId} {pos:String} {af:Array Edge} {g:Option (Nat × Bool)}
theorem eO (s:ByteArray):Lib.strCells s=flat zV (bts s):=by
  rw [flatY,Lib.strCells,bts]
  simp
theorem op_appendS {t u e n cap:Nat} {o:Option Addr} {x y:Operand} {xs:List Value} {s:ByteArray} {w0 w:World} {M:Nat→Prop} {H:List It} [ht:TSl P t e] [hu:TSr P u] [hi:TIf P e (.int .u8 0) [.int .u8 0] 1 1]
    (hx:ev l x=some (.slice o n cap)) (hy:ev l y=some (.string s)) (hH:HS w0 M H w) (hm:own e 1 o n cap xs∈H) (hs0:0<s.size)
    (h63:n+s.size≤maxLen) (hby:n+s.size≤140737488355328) :
    Op1 P N l ⟨d,.call ⟨.builtin .append,#[x,y],#[t,u]⟩,T,pos,af,g⟩ w (fun v w'=>∃o' cap',v= .slice o' (n+s.size) cap'∧∀H',Rp H (own e 1 o n cap xs) (own e 1 o' (n+s.size) cap' (xs++flat zV (bts s))) H'→HS w0 M H' w'):=by
  intro a hA K Q hK
  obtain ⟨i,h3,h4,h5,h6⟩:=hi.eq
  obtain ⟨F,hF⟩:=hH.sat hm
  have hown:=own_to hF
  have key:∃v' w',(Builtin.append_ #[t,u] T #[.slice o n cap,.string s]).run P w= .ok v' w'∧w'.ownsRow 0 e 1 v' (n+s.size) (xs++Lib.strCells s)∧w.grownBy w' (Value.slice o n cap).ownBlock∧
      (v'.ownBlock=(Value.slice o n cap).ownBlock∨v'.ownBlock=some w.heap.size):=by
    have hsmall:n+s.size≤9223372036854775807:=by simp only [maxLen] at h63;omega
    have hxl:xs.length=n:=by simpa using hown.1
    have hlen:(xs++Lib.strCells s).length=(n+s.size)*1:=by rw [List.length_append,hxl,Lib.strCells_length,Nat.mul_one]
    have grown:∀(old:Nat),old<n+s.size→∀(row:Option Nat),
        (w.drew.alloc (.cells (xs.toArray++(Lib.strCells s).toArray++Builtin.zeroCells (Value.int .u8 0).cells (grownCap w (n+s.size) old e - (n+s.size))) e)).ownsRow 0 e 1
          (.slice (some ⟨w.heap.size,0,none⟩) (n+s.size) (grownCap w (n+s.size) old e)) (n+s.size) (xs++Lib.strCells s)∧
        w.grownBy (w.drew.alloc (.cells (xs.toArray++(Lib.strCells s).toArray++Builtin.zeroCells (Value.int .u8 0).cells (grownCap w (n+s.size) old e - (n+s.size))) e)) row:=by
      intro old ho row
      have hge:=grownCap_ge w (n+s.size) old e
      have hcm:grownCap w (n+s.size) old e≤maxLen:=grownCap_le_maxLen w (n+s.size) old e h63
      refine ⟨⟨hlen,.inr ⟨w.heap.size,_,_,rfl,Nat.zero_le _,heap_alloc_new w.drew _,hge,hcm,?_,?_⟩⟩,⟨rfl,rfl,rfl,by simp,fun k hk _=>Lib.alloc_old w.drew _ k hk⟩⟩
      · have hz1:(Value.int IntKind.u8 0).cells.size=1:=rfl
        simp only [Array.size_append,List.size_toArray,size_zeroCells,hz1,hxl,Lib.strCells_length]
        omega
      · simp only [Array.toList_append,List.append_assoc]
        rw [←List.append_assoc,←hlen]
        exact List.take_left
    rcases hown.2 with ⟨hv,rfl⟩| ⟨g',cap',cur,hv,hbg,hg,hnc,hcm,hcs,htake⟩
    · have hx:xs=[]:=List.eq_nil_of_length_eq_zero hxl
      subst hx
      have hr:=run_append_nil_string (P:=P) w t u T e i (.int .u8 0) ht.eq hu.eq h3 h4 s (by omega) (by omega) (by rw [h6];omega)
      have hgr:=grown 0 (by omega) (Value.ownBlock (.slice none 0 0))
      simp only [Nat.zero_add,List.nil_append,Array.empty_append] at hgr ⊢
      have e1:(s.data.map fun b=>Value.int .u8 b.toNat)=(Lib.strCells s).toArray:=by
        apply Array.ext'
        simp [Lib.strCells]
      rw [e1] at hr
      rw [hv]
      exact ⟨_,_,hr,hgr.1,hgr.2,.inr rfl⟩
    · rw [hv]
      by_cases hroom:n+s.size≤cap'
      · have hcs':cur.size=cap':=by simpa using hcs
        have hr:=Lib.run_append_room_string (P:=P) w t u T e i ht.eq hu.eq h3 h5 g' n cap' cur hg s hroom (by omega)
        refine ⟨_,_,hr,⟨hlen,.inr ⟨g',cap',_,rfl,Nat.zero_le _,setRow_heap w g' cur _ e _ hg,hroom,hcm,?_,?_⟩⟩,⟨rfl,rfl,rfl,by simp,fun k _ hk=>setRow_other w g' k _ (fun e=>hk (by simp [Value.ownBlock,e]))⟩,.inl rfl⟩
        · simp only [List.size_toArray,List.length_append,List.length_take,List.length_drop,Array.length_toList,Lib.strCells_length]
          omega
        · have ht':cur.toList.take n=xs:=by simpa using htake
          rw [ht',←hlen]
          exact List.take_left
      · rw [hv] at hown
        have holds:∀j u,xs[j]?=some u→w.cell? ((⟨g',0,none⟩:Addr).add j)=some u:=hown.cells (g:=g') rfl
        have hr:=Lib.run_append_grow_string (P:=P) w t u T e i (.int .u8 0) ht.eq hu.eq h3 h4 ⟨g',0,none⟩ n cap' xs (by rw [h5];simpa using hxl) holds s (by omega) (by omega) (by rw [h6];exact growslice_fits (by omega) (by omega))
        have hgr:=grown cap' (by omega) (Value.ownBlock (.slice (some ⟨g',0,none⟩) n cap'))
        exact ⟨_,_,hr,hgr.1,hgr.2,.inr rfl⟩
  obtain ⟨v',w',hrun,q2,q3,q5⟩:=key
  obtain ⟨o',cap',rfl,hs'⟩:=own_of q2
  rw [eO] at hs'
  unfold Oper.wp
  simp only [execOp,resolve,invoke,builtin,Sem.run_bind,Sem.run_pure,Result.andThen_ok,List.map_toArray,List.map_cons,List.map_nil,hA.ev hx,hA.ev hy,hrun,Oper.upon]
  refine hK _ _ ⟨o',cap',rfl,fun H' hrp=>hH.turn hrp fun F' hF'=>?_⟩
  have hFo:∀b,(Value.slice o n cap).ownBlock=some b→F' b:=by
    intro b hb
    rcases hF' with ⟨rfl,_⟩| ⟨b',spare',rfl,g2,_⟩
    · simp [Value.ownBlock] at hb
    · have:b'=b:=by simpa [Value.ownBlock] using hb
      subst this
      exact (g2 _).2 rfl
  refine ⟨grown_kp q3 hFo,_,hs',fun b hb=>?_⟩
  rcases q5 with h|h
  · exact .inr (hFo b (h▸hb))
  · rw [h] at hb;simp at hb;exact .inl (by omega)
theorem ex_neqPs {t te ty:TypeId} {x y:Operand} {p:Addr} {j:TypeInfo} (h:P.underlying t=some (.pointer te)) (hj:P.info? te=some j) (hx:ev l x=some (.pointer (some p))) (hy:ev l y=some (.pointer (some p))):Ex P N l C ⟨d,.binOp .neq t x y ty,T,pos,af,g⟩ (.bool false):=by
  intro a w hA _
  simp [execOp,hA.ev hx,hA.ev hy,eqGuard_at_pointer,Lib.run_neq_ptr_same w p h hj]
theorem ex_toU {src dst t Tb b:Nat} {x:Operand} {j:TypeInfo} {cs:List Value} {w0:World} {M:Nat→Prop} {H:List It} (hs:P.underlying src=some (.pointer t)) (hd:P.underlying dst=some .unsafePointer) (ht:P.info? t=some j) (hj:j.size≠0)
    (hx:ev l x=some (.pointer (some (bat b 0)))) (hm:cb b Tb cs∈H) (h0:0<cs.length):Ex P N l (HS w0 M H) ⟨d,.convert src dst x,T,pos,af,g⟩ (.pointer (some (bat b 0))):=by
  intro a w hA hH
  obtain ⟨F,h1,h2⟩:=hH.sat hm
  simp only [execOp,hA.ev hx,Sem.run_bind]
  rw [Lib.run_to_unsafe w (bat b 0) hs hd ht hj (e:=Tb) (cells:=cs.length) (by simp [World.shape?,bat,h2]) (by simpa [bat] using h0)]
  simp
theorem ex_fromU {src dst t Tb b:Nat} {x:Operand} {j:TypeInfo} {cs:List Value} {w0:World} {M:Nat→Prop} {H:List It} (hs:P.underlying src=some .unsafePointer) (hd:P.underlying dst=some (.pointer t)) (ht:P.info? t=some j)
    (hx:ev l x=some (.pointer (some (bat b 0)))) (hm:cb b Tb cs∈H) (hl:liesAt P P.depth Tb (cs.length / P.cellsOf Tb) 0 t 1=true):Ex P N l (HS w0 M H) ⟨d,.convert src dst x,T,pos,af,g⟩ (.pointer (some (bat b 0))):=by
  intro a w hA hH
  obtain ⟨F,h1,h2⟩:=hH.sat hm
  simp only [execOp,hA.ev hx,Sem.run_bind]
  rw [Lib.run_from_unsafe w (bat b 0) hs hd ht (e:=Tb) (cells:=cs.length) (by simp [World.shape?,bat,h2]) (by simpa [bat] using hl)]
  simp
theorem ex_same {k:FuncId} {f x:Operand} {ats:Array TypeId} {v:Value} (hf:ev l f=some (.func (.func k) #[] #[])) (hx:ev l x=some v) (hr:∀w,(callFunc k #[v]).run P w= .ok (.value v) w):Ex P N l C ⟨d,.call ⟨.value f,#[x],ats⟩,T,pos,af,g⟩ v:=by
  intro a w hA _
  simp [execOp,resolve,Deferred.ofValue,hA.ev hf,hA.ev hx,invoke,hr]
end
end Go.Fw
namespace Go.Proofs.YtenlcdokaadobaaGreatDoor
open Go Go.Fw
set_option linter.unusedVariables false
theorem noEsc (v:Value) (w:World):(callFunc 166 #[v]).run Tryz.prog w= .ok (.value v) w:=by
  rw [run_callFunc_extern Tryz.func166 (by kernel_rfl) (by kernel_rfl) (by kernel_rfl) (e:=Extern.AbiNoEscape.same) (by kernel_rfl)]
  rfl
section
attribute [local irreducible] Code.wp wpList Calls Ex Op1 sat bat blk cb own Go.Fw.mp Go.Fw.mpO Go.Fw.mpI Go.Fw.mpE Go.Fw.itr HS Rd Ret wkD Hp Cl Cls Exit.then Exit.inBlock Exit.noGoto bodyPost Go.Fw.flat wk2 Go.Fw.all Go.Fw.owns wpOp
attribute [local irreducible] sk mpK sko mvO xI opM Go.Fw.mset Go.Fw.mv opK w63 frz obI RV wQ

theorem pW (w0 w:World) (H:List It) (b n c:Nat) (p o:Option Addr) (hp:p=none∨p=some (bat b 0)) (hH:HS w0 noM (cb b 256 [.pointer p,.slice o n c]::H) w) :
    Ret Tryz.prog 155 #[.pointer (some (bat b 0))] w (fun r w'=>HS w0 noM (cb b 256 [.pointer (some (bat b 0)),.slice o n c]::H) w'):=by
  obtain ⟨j,hj,hjs⟩:=Option.map_eq_some_iff.1 Tryz.Builder_Extra_169.sizeBuilder
  (refine ENT (N:=20) Tryz.func155 Tryz.ntmps155 ?_;intro a hA)
  rcases hp with rfl|rfl
  · repeat' (first|(refine XT ?_;apply XE;(first|(apply ex_eqlPt;rfl;rfl)|(apply ex_toU;exact Tryz.underlying254;exact Tryz.underlying285;exact hj;(rw [hjs];decide);rfl;exact MEMT;exact Nat.zero_lt_succ _)|(apply ex_fromU;exact Tryz.underlying285;exact Tryz.underlying254;exact hj;rfl;exact MEMT;exact Tryz.Builder_Extra_169.liesBuilder)|(apply ex_same;rfl;rfl;exact noEsc _));clear hA a;intro a hA)|(refine QT ?_;clear hA a;intro a hA)|(apply zO hA rfl rfl;apply zB (cs':=[.pointer (some (bat b 0)),.slice o n c]);rfl;rfl;rfl;exact hH;(repeat constructor);clear hH;rintro _ w hH)|refine CT ?_|fail)
    exact rt0 (.inr rfl) rfl hA hH
  · repeat' (first|(refine XT ?_;apply XE;(first|(apply ex_eqlPf;rfl;rfl)|(apply ex_neqPs;exact Tryz.underlying254;exact hj;rfl;rfl));clear hA a;intro a hA)|(refine QT ?_;clear hA a;intro a hA)|refine CT ?_|fail)
    exact rt0 (.inr rfl) rfl hA hH
theorem WriteByte_spec (w0 w:World) (H:List It) (b c:Nat) (p o:Option Addr) (bs:List Nat) (x:Nat) (hp:p=none∨p=some (bat b 0)) (hl:bs.length≤1000000000) (hH:HS w0 noM (cb b 256 [.pointer p,.slice o bs.length c]::own 5 1 o bs.length c (flat zV bs)::H) w) :
    Ret Tryz.prog 135 #[.pointer (some (bat b 0)),.int .u8 (x:Int)] w (fun r w'=>∃o' c',HS w0 noM (cb b 256 [.pointer (some (bat b 0)),.slice o' (bs++[x]).length c']::own 5 1 o' (bs++[x]).length c' (flat zV (bs++[x]))::H) w'):=by
  (refine ENT (N:=17) Tryz.func135 Tryz.ntmps135 ?_;intro a hA)
  repeat' (first|(refine QT ?_;clear hA a;intro a hA)|(refine LT ?_;clear hA hH;rintro _ w ⟨oN,rfl,hH⟩ a hA)|(refine AT ?_;clear hA;rintro _ w ⟨oN,cN,rfl,hH2⟩ a hA;clear hH;have hH:=(hH2 _ (by (repeat constructor))).tail;clear hH2)|(refine zH hA rfl rfl (by decide) (zA rfl rfl rfl (pW w0 w _ b bs.length c p o hp hH)) ?_;clear hA hH;rintro _ w hH a hA)|refine CT ?_|fail)
  rw [show flat zV bs++[Value.int .u8 (x:Int)]=flat zV (bs++[x]) by rw [xZ];rfl] at hH
  repeat' (first|(refine QT ?_;clear hA a;intro a hA)|(apply zO hA rfl rfl;apply zB (cs':=[.pointer (some (bat b 0)),.slice oN (bs.length+1) cN]);rfl;rfl;rfl;exact hH;(repeat constructor);clear hH;rintro _ w hH)|refine CT ?_|fail)
  have e1:(bs++[x]).length=bs.length+1:=by rw [List.length_append];rfl
  exact rt1 (.inl rfl) rfl hA rfl ⟨oN,cN,by rw [e1];exact hH⟩
theorem WriteString_spec (w0 w:World) (H:List It) (b c:Nat) (p o:Option Addr) (bs:List Nat) (s:ByteArray) (hp:p=none∨p=some (bat b 0)) (hl:bs.length≤1000000000) (hs0:0<s.size) (hs:s.size≤1000000000) (hH:HS w0 noM (cb b 256 [.pointer p,.slice o bs.length c]::own 5 1 o bs.length c (flat zV bs)::H) w) :
    Ret Tryz.prog 136 #[.pointer (some (bat b 0)),.string s] w (fun r w'=>∃o' c',HS w0 noM (cb b 256 [.pointer (some (bat b 0)),.slice o' (bs++bts s).length c']::own 5 1 o' (bs++bts s).length c' (flat zV (bs++bts s))::H) w'):=by
  (refine ENT (N:=19) Tryz.func136 Tryz.ntmps136 ?_;intro a hA)
  repeat' (first|(refine QT ?_;clear hA a;intro a hA)|(refine zH hA rfl rfl (by decide) (zA rfl rfl rfl (pW w0 w _ b bs.length c p o hp hH)) ?_;clear hA hH;rintro _ w hH a hA)|refine CT ?_|fail)
  (apply zH hA rfl rfl (by decide);apply op_appendS;rfl;rfl;exact hH;exact MEMT;exact hs0;(unfold maxLen;omega);omega;clear hA;rintro _ w ⟨oN,cN,rfl,hH2⟩ a hA;clear hH;have hH:=hH2 _ (by (repeat constructor));clear hH2)
  rw [show flat zV bs++flat zV (bts s)=flat zV (bs++bts s) by rw [tE]] at hH
  repeat' (first|(refine XT ?_;apply XE;(first|(apply uT;rfl));clear hA a;intro a hA)|(refine QT ?_;clear hA a;intro a hA)|(apply zO hA rfl rfl;apply zB (cs':=[.pointer (some (bat b 0)),.slice oN (bs.length+s.size) cN]);rfl;rfl;rfl;exact hH;(repeat constructor);clear hH;rintro _ w hH)|refine CT ?_|fail)
  have e1:(bs++bts s).length=bs.length+s.size:=by rw [List.length_append,vM]
  exact rt2 (.inl rfl) rfl hA rfl rfl ⟨oN,cN,by rw [e1];exact hH⟩
end
def hexS:ByteArray:=⟨#[48,49,50,51,52,53,54,55,56,57,97,98,99,100,101,102]⟩
def hexd (k:Nat):Nat:=(bts hexS).getD k 0
def tO (c:Nat):List Nat:=if c=34∨c=92 then [92,c] else if c=10 then [92,110] else if 32≤c∧c≤126 then [c] else [92,120,hexd (c / 16),hexd (c % 16)]
def pG (l:List Nat):List Nat:=l.flatMap tO
def vR (s:ByteArray):ByteArray:=ofB ([34]++pG (bts s)++[34])
theorem shr4 (c:Nat) (h:c<256):nU .u8 (c:Int) 4=((c / 16:Nat):Int):=by
  have:∀c:Fin 256,nU .u8 ((c.1:Nat):Int) 4=((c.1 / 16:Nat):Int):=by decide +kernel
  exact this ⟨c,h⟩
theorem and15 (c:Nat) (h:c<256):andK .u8 (c:Int) 15=((c % 16:Nat):Int):=by
  have:∀c:Fin 256,andK .u8 ((c.1:Nat):Int) 15=((c.1 % 16:Nat):Int):=by decide +kernel
  exact this ⟨c,h⟩
theorem hex_get {k:Nat} (h:k<16):(bts hexS)[k]?=some (hexd k):=by
  unfold hexd
  rw [List.getD_eq_getElem?_getD,List.getElem?_eq_getElem (show k<(bts hexS).length from h)];rfl
theorem hexd_lt (k:Nat):hexd k<256:=by
  unfold hexd
  rw [List.getD_eq_getElem?_getD]
  cases h:(bts hexS)[k]? with
  |none=>show 0<256;omega
  |some b=>exact bts_lt hexS b (List.mem_of_getElem? h)
theorem quoteB_lt {c:Nat} (h:c<256):∀x∈tO c,x<256:=by
  intro x hx
  have h1:=hexd_lt (c / 16)
  have h2:=hexd_lt (c % 16)
  unfold tO at hx
  split at hx
  · simp only [List.mem_cons,List.not_mem_nil,or_false] at hx;omega
  · split at hx
    · simp only [List.mem_cons,List.not_mem_nil,or_false] at hx;omega
    · split at hx
      · simp only [List.mem_cons,List.not_mem_nil,or_false] at hx;omega
      · simp only [List.mem_cons,List.not_mem_nil,or_false] at hx;omega
theorem quoteB_len (c:Nat):(tO c).length≤4:=by
  unfold tO
  split
  · show 2≤4;omega
  · split
    · show 2≤4;omega
    · split
      · show 1≤4;omega
      · show 4≤4;omega
theorem kQ (l:List Nat) (c:Nat):pG (l++[c])=pG l++tO c:=by
  unfold pG
  rw [List.flatMap_append]
  simp
theorem q1 {x:Nat} (h:x=34∨x=92):tO x=[92]++[x]:=by unfold tO;rw [if_pos h];rfl
theorem q2 {x:Nat} (h:x=10):tO x=bts ⟨#[92,110]⟩:=by subst h;rfl
theorem q3 {x:Nat} (h:¬(x=34∨x=92)∧x≠10∧32≤x∧x≤126):tO x=[x]:=by unfold tO;rw [if_neg h.1,if_neg h.2.1,if_pos h.2.2]
theorem q4 {x:Nat} (h:¬(x=34∨x=92)∧x≠10∧¬(32≤x∧x≤126)):tO x=bts ⟨#[92,120]⟩++([hexd (x / 16)]++[hexd (x % 16)]):=by unfold tO;rw [if_neg h.1,if_neg h.2.1,if_neg h.2.2];rfl
theorem bytes_flat {l:List Nat} (h:∀x∈l,x<256):Lib.byteCells (l.map UInt8.ofNat)=flat zV l:=by
  rw [flatY,Lib.byteCells,List.map_map,List.map_map]
  refine List.map_congr_left fun x hx=>?_
  have:=h x hx
  show Value.int .u8 ((UInt8.ofNat x).toNat:Int)=_
  rw [UInt8.toNat_ofNat_of_lt' this]
  rfl
theorem bld_is {w0 w:World} {b c:Nat} {o:Option Addr} {bs:List Nat} (h:HS w0 noM [cb b 256 [.pointer (some (bat b 0)),.slice o bs.length c],own 5 1 o bs.length c (flat zV bs)] w) (hb:∀x∈bs,x<256):Lib.IsBuilder 256 5 w0.heap.size b (Lib.byteCells (bs.map UInt8.ofNat)) w:=by
  obtain ⟨hk,F,⟨F1,F2,hF,hd,⟨h1,h2⟩,F3,F4,hG,hd',h3,h4⟩,ho⟩:=h
  have hlow:∀x,F x→w0.heap.size≤x:=fun x hx=>(ho x hx).resolve_right id
  have hbl:w0.heap.size≤b:=hlow b ((hF b).2 (.inl ((h1 b).2 rfl)))
  refine .inr ⟨hbl,.slice o bs.length c,h2,?_,?_⟩
  · rw [bytes_flat hb,zF pR,Nat.mul_one]
    refine ⟨by rw [zF pR],?_⟩
    rcases h3 with ⟨rfl,h5,rfl,h6,_⟩| ⟨g,spare,rfl,h5,h6,h7,h8,h9,h10⟩
    · exact .inl ⟨by rw [h5],h5⟩
    · refine .inr ⟨g,c,_,rfl,hlow g ((hF g).2 (.inr ((hG g).2 (.inl ((h5 g).2 rfl))))),h10,h7,h8,by simpa using h9,?_⟩
      have e:(flat zV bs).length=bs.length*1:=by rw [zF pR]
      simp only
      rw [←e]
      exact List.take_left
  · rcases h3 with ⟨rfl,h5,rfl,h6,_⟩| ⟨g,spare,rfl,h5,h6,h7,h8,h9,h10⟩
    · simp [Value.ownBlock]
    · intro he
      have:g=b:=by simpa [Value.ownBlock] using he
      subst this
      exact hd g ((h1 g).2 rfl) ((hG g).2 (.inl ((h5 g).2 rfl)))
theorem bld0 {w0 w:World} {H:List It} {b:Nat} (h:HS w0 noM (cb b 256 [.pointer none,.slice none 0 0]::H) w):HS w0 noM (cb b 256 [.pointer none,.slice none ([]:List Nat).length 0]::own 5 1 none ([]:List Nat).length 0 (flat zV [])::H) w:=(h.nil_own 5 1).perm (.swap _ _ _)
theorem rdB_at {w:World} {o:Option Addr} {xs:List Value} {j:Nat} {v:Value} (h:Rd w o xs) (hv:xs[j]?=some v):w.cell? (sat o j)=some v:=h.2 j v hv
theorem len92 (a b:UInt8):(bts ⟨#[a,b]⟩).length=2:=rfl
theorem kp_below {w0 w w':World} (hk:Kp w0 noM w) (h:RowKit.Below w0.heap.size w w'):Kp w0 noM w':=
  ⟨h.os.trans hk.os,h.tape.trans hk.tape,h.output.trans hk.output,Nat.le_trans hk.size h.size,fun b hb hn=>(h.block b hb).trans (hk.block b hb hn)⟩
theorem String_spec {w0 w:World} {b c:Nat} {o:Option Addr} {bs:List Nat} (h:HS w0 noM [cb b 256 [.pointer (some (bat b 0)),.slice o bs.length c],own 5 1 o bs.length c (flat zV bs)] w) (hb:∀x∈bs,x<256) (h0:bs≠[]):Ret Tryz.prog 137 #[.pointer (some (bat b 0))] w (fun r w'=>r= .string (ofB bs)∧Kp w0 noM w'):=
  Calls.mono (Tryz.Builder_String w0.heap.size b (bs.map UInt8.ofNat) w (bld_is h hb) (by simpa using h0)) fun e w' ⟨he,hw⟩=>⟨_,he,rfl,kp_below h.kp hw⟩
section
attribute [local irreducible] Code.wp wpList Calls Ex Op1 sat bat blk cb own Go.Fw.mp Go.Fw.mpO Go.Fw.mpI Go.Fw.mpE Go.Fw.itr HS Rd Ret wkD Hp Cl Cls Exit.then Exit.inBlock Exit.noGoto bodyPost Go.Fw.flat wk2 Go.Fw.all Go.Fw.owns wpOp
attribute [local irreducible] sk mpK sko mvO xI opM Go.Fw.mset Go.Fw.mv opK w63 frz obI RV wQ

theorem Quote_spec (w0:World) (s:ByteArray) (hs:s.size≤100000000) :
    Ret Tryz.prog 123 #[.string s] w0 (fun r w=>r= .string (vR s)∧Kp w0 noM w):=by
  have hH:HS w0 noM [] w0:=HS.init w0 noM
  (refine ENT (N:=49) Tryz.func123 Tryz.ntmps123 ?_;intro a hA)
  repeat' (first|(refine QT ?_;clear hA a;intro a hA)|(refine BT ?_;clear hA hH;rintro _ w ⟨bN,rfl,hH⟩ a hA)|refine CT ?_|fail)
  obtain ⟨b,hb⟩:∃x,x=bN:=⟨_,rfl⟩
  rw [←hb] at hA hH
  clear hb bN
  replace hH:=bld0 hH
  (refine zH hA rfl rfl (by decide) (zA rfl rfl rfl (WriteByte_spec w0 w _ _ _ _ _ _ (34) (by first|exact .inr rfl|exact .inl rfl) (by (repeat (first|rw [List.length_append]|rw [List.length_cons]|rw [List.length_nil]|rw [len92]));omega) hH)) ?_;clear hA hH;rintro _ w ⟨oB,cB,hH⟩ a hA)
  rw [List.nil_append] at hH
  repeat' (first|(refine QT ?_;clear hA a;intro a hA)|(apply zH hA rfl rfl (by decide);apply op_toBytes;rfl;exact hH;clear hA hH;rintro _ w ⟨bb,cc,rfl,hH⟩ a hA)|refine CT ?_|fail)
  have hsl:(bts s).length=s.size:=vM s
  have hq:∀i,i≤(bts s).length→(pG ((bts s).take i)).length≤4*i:=by
    intro i
    induction i with
    |zero=>intro _;show 0≤_;omega
    | succ i ih=>
      intro hi
      have hx:(bts s)[i]?=some ((bts s).getD i 0):=lJ (by omega)
      rw [yU hx,kQ,List.length_append]
      have:=ih (by omega)
      have:=quoteB_len ((bts s).getD i 0)
      omega
  refine yK (S:=Nat) (fun i a w=>∃o c bs,(i≤(bts s).length∧bs=[34]++pG ((bts s).take i))∧HS w0 noM [cb b 256 [.pointer (some (bat b 0)),.slice o bs.length c],own 5 1 o bs.length c (flat zV bs),byI bb s] w∧Sl 49 [(10,.int .i64 i),(9,.int .i64 (bts s).length),(8,.slice (some (bat bb 0)) (bts s).length cc),(3,.pointer (some (bat b 0)))] a) (fun i=>(bts s).length - i)
    (fun a w=>∃o c bs,(bs=[34]++pG (bts s))∧HS w0 noM [cb b 256 [.pointer (some (bat b 0)),.slice o bs.length c],own 5 1 o bs.length c (flat zV bs)] w∧Sl 49 [(3,.pointer (some (bat b 0)))] a) 0 ⟨oB,cB,[34],⟨Nat.zero_le _,rfl⟩,hH.perm PMT,(hA.sub SBT)⟩ ?_ ?_
  · clear hA hH
    rintro i a w ⟨o,c,bs,⟨hi,hbs⟩,hH,hA⟩
    have hbl:bs.length≤1+4*i:=by
      rw [hbs,List.length_append]
      have:=hq i hi
      show 1+_≤_
      omega
    by_cases hlt:i<(bts s).length
    rotate_left
    · repeat' (first|(refine QT ?_;clear hA a;intro a hA)|refine CT ?_|(refine DT ?_ ?_<;>intro hc<;>try (exfalso;omega))|fail)
      obtain rfl:i=(bts s).length:=by omega
      rw [List.take_length] at hbs
      exact ⟨o,c,bs,hbs,hH.rm 2,(hA.sub SBT)⟩
    have hx:(bts s)[i]?=some ((bts s).getD i 0):=lJ hlt
    have hx1:=lK s i
    generalize (bts s).getD i 0=x at hx hx1
    have hspB:Sp (some (bat bb 0)) (bts s).length:=(by_rd hH (by exact MEMT)).sp (sz:=1) (zF pR _) (by omega)
    have hclb:Cl (HS w0 noM [cb b 256 [.pointer (some (bat b 0)),.slice o bs.length c],own 5 1 o bs.length c (flat zV bs),byI bb s]) (sat (some (bat bb 0)) (i*1)) (.int .u8 (x:Int)):=cl_of fun w h=>rdB_at (by_rd h (by exact MEMT)) (sV pR hx rfl)
    repeat' (first|(refine GT ?_ ?_<;>intro hg<;>clear hA a<;>intro a hA<;>(first|exact FA|replace hg:=dTr hg|replace hg:=dFa hg|skip))|(refine XT ?_;apply XE;(first|(apply zE;rfl;rfl;omega;exact hspB)|(apply zC;rfl;exact hclb)|(apply aP;rfl;rfl;decide;exact shr4 x hx1)|(apply ex_and;rfl;rfl;exact and15 x hx1)|(apply vO (j:=x / 16);rfl;rfl;rfl;exact hex_get (by omega))|(apply vO (j:=x % 16);rfl;rfl;rfl;exact hex_get (by omega)));clear hA a;intro a hA)|(refine QT ?_;clear hA a;intro a hA)|(refine zH hA rfl rfl (by decide) (zA rfl rfl rfl (WriteByte_spec w0 w _ _ _ _ _ _ (_) (by first|exact .inr rfl|exact .inl rfl) (by (repeat (first|rw [List.length_append]|rw [List.length_cons]|rw [List.length_nil]|rw [len92]));omega) hH)) ?_;clear hA hH;rintro _ w ⟨oB,cB,hH⟩ a hA)|(refine zH hA rfl rfl (by decide) (zA rfl rfl rfl (WriteString_spec w0 w _ _ _ _ _ _ _ (by first|exact .inr rfl|exact .inl rfl) (by (repeat (first|rw [List.length_append]|rw [List.length_cons]|rw [List.length_nil]|rw [len92]));omega) (by decide) (by decide) hH)) ?_;clear hA hH;rintro _ w ⟨oB,cB,hH⟩ a hA)|refine CT ?_|(refine DT ?_ ?_<;>intro hc<;>try (exfalso;omega))|fail)
    all_goals refine ⟨i+1,⟨_,_,_,⟨hlt,?_⟩,hH,(hA.sub SBT)⟩,by omega⟩
    all_goals rw [hbs,yU hx,kQ]
    all_goals first
      |(rw [q1 (by omega)];simp only [List.append_assoc];done)
      |(rw [q2 (by omega)];simp only [List.append_assoc];done)
      |(rw [q3 (by omega)];simp only [List.append_assoc];done)
      |(rw [q4 (by omega)];simp only [List.append_assoc];done)
  clear hA hH
  rintro a w ⟨o,c,bs,hbs,hH,hA⟩
  have hbl:bs.length≤1+4* (bts s).length:=by
    rw [hbs,List.length_append]
    have:=hq (bts s).length (Nat.le_refl _)
    rw [List.take_length] at this
    show 1+_≤_
    omega
  repeat' (first|(refine QT ?_;clear hA a;intro a hA)|(refine zH hA rfl rfl (by decide) (zA rfl rfl rfl (WriteByte_spec w0 w _ _ _ _ _ _ (34) (by first|exact .inr rfl|exact .inl rfl) (by (repeat (first|rw [List.length_append]|rw [List.length_cons]|rw [List.length_nil]|rw [len92]));omega) hH)) ?_;clear hA hH;rintro _ w ⟨oB,cB,hH⟩ a hA)|refine CT ?_|fail)
  have hlt:∀x∈bs++[34],x<256:=by
    rw [hbs]
    intro x hx
    simp only [List.mem_append,List.mem_singleton,pG,List.mem_flatMap] at hx
    rcases hx with (hx| ⟨y,hy,hx⟩)|hx
    · omega
    · exact quoteB_lt (bts_lt s y hy) x hx
    · omega
  (refine zH hA rfl rfl (by decide) (zA rfl rfl rfl (String_spec hH hlt (by simp))) ?_;clear hA hH;rintro _ w ⟨rfl,hk⟩ a hA)
  have hH:HS w0 noM [] w:=(HS.init w0 noM).keep hk
  repeat' (first|(refine QT ?_;clear hA a;intro a hA)|refine CT ?_|fail)
  exact rt1 (.inl rfl) rfl hA rfl ⟨by rw [hbs];rfl,hk⟩
end
def vT (n:Int):ByteArray:=⟨(Lib.itoa n).toArray⟩
def FI (w0:World):Prop:=∀w,Kp w0 noM w→∀n,iok n→Ret Tryz.prog 134 #[.int .i64 n,.int .i64 10] w (fun r w'=>r= .string (vT n)∧Kp w noM w')
theorem FI.keep {w w':World} (h:FI w) (hk:Kp w noM w'):FI w':=fun w2 h2=>h w2 (((HS.init w noM).keep hk).keep h2).kp
def rJ (g:Grs) (kd n:Int):Option ByteArray:=
  if kd=3 then some (if n=0 then ⟨#[102,97,108,115,101]⟩ else ⟨#[116,114,117,101]⟩)
  else if kd=5 then some ⟨#[40,41]⟩
  else if kd=6 then (if n<0∨(g.xs.l.length:Int)≤n then none else some (g.xs.l.getD n.toNat default))
  else some (vT n)
def wT (g:Grs) (kd:Int):Vl→Option ByteArray
  | .num n=>rJ g kd n
  | .txt s=>some (vR s)
  | .fn _ _=>some ⟨#[60,102,117,110,62]⟩
  | .rc _ _=>some ⟨#[60,114,101,99,111,114,100,62]⟩
  | .tg _ _=>some ⟨#[60,116,97,103,62]⟩
  | .cl _=>some ⟨#[60,114,101,102,62]⟩
  | .ar _=>some ⟨#[60,97,114,114,97,121,62]⟩
  | .nil=>some ⟨#[60,97,114,114,97,121,62]⟩
def txV:Option ByteArray→Value
  |some s=>.tuple #[.string s,.bool true]
  |none=>.tuple #[.string empS,.bool false]
theorem tx_b1 {g:Grs} {kd n:Int} (h:kd=3) (hn:n≠0):wT g kd (.num n)=some ⟨#[116,114,117,101]⟩:=by show rJ g kd n=_;unfold rJ;rw [if_pos h,if_neg hn]
theorem tx_b0 {g:Grs} {kd n:Int} (h:kd=3) (hn:n=0):wT g kd (.num n)=some ⟨#[102,97,108,115,101]⟩:=by show rJ g kd n=_;unfold rJ;rw [if_pos h,if_pos hn]
theorem tx_u {g:Grs} {kd n:Int} (h:kd=5):wT g kd (.num n)=some ⟨#[40,41]⟩:=by show rJ g kd n=_;unfold rJ;rw [if_neg (by omega),if_pos h]
theorem tx_x0 {g:Grs} {kd n:Int} (h:kd=6) (hn:n<0∨(g.xs.l.length:Int)≤n):wT g kd (.num n)=none:=by show rJ g kd n=_;unfold rJ;rw [if_neg (by omega),if_neg (by omega),if_pos h,if_pos hn]
theorem tx_x1 {g:Grs} {kd n:Int} (h:kd=6) (hn:¬(n<0∨(g.xs.l.length:Int)≤n)):wT g kd (.num n)=some (g.xs.l.getD n.toNat default):=by show rJ g kd n=_;unfold rJ;rw [if_neg (by omega),if_neg (by omega),if_pos h,if_neg hn]
theorem tx_n {g:Grs} {kd n:Int} (h:kd≠3∧kd≠5∧kd≠6):wT g kd (.num n)=some (vT n):=by show rJ g kd n=_;unfold rJ;rw [if_neg h.1,if_neg h.2.1,if_neg h.2.2]
section
attribute [local irreducible] Code.wp wpList Calls Ex Op1 sat bat blk cb own Go.Fw.mp Go.Fw.mpO Go.Fw.mpI Go.Fw.mpE Go.Fw.itr HS Rd Ret wkD Hp Cl Cls Exit.then Exit.inBlock Exit.noGoto bodyPost Go.Fw.flat wk2 Go.Fw.all Go.Fw.owns wpOp
attribute [local irreducible] sk mpK sko mvO xI opM Go.Fw.mset Go.Fw.mv opK w63 frz obI RV wQ vR vT

theorem jX (w0:World) (n:Int) (hn:iok n) (hFI:FI w0):Ret Tryz.prog 122 #[.int .i64 n] w0 (fun r w=>r= .string (vT n)∧Kp w0 noM w):=by
  have hH:HS w0 noM [] w0:=HS.init w0 noM
  (refine ENT (N:=5) Tryz.func122 Tryz.ntmps122 ?_;intro a hA)
  repeat' (first|(refine QT ?_;clear hA a;intro a hA)|refine CT ?_|fail)
  (refine zH hA rfl rfl (by decide) (zA rfl rfl rfl (hFI _ hH.kp n hn)) ?_;clear hA;rintro _ w ⟨rfl,hk⟩ a hA;replace hH:=hH.keep hk;clear hk)
  repeat' (first|(refine QT ?_;clear hA a;intro a hA)|refine CT ?_|fail)
  exact rt1 (.inl rfl) rfl hA rfl ⟨rfl,hH.kp⟩
theorem Text_spec (w0 w:World) (H:List It) (c:Cx) (TM bM:Nat) (g:Grs) (kd:Int) (s:ByteArray) (rest:List Value) (oO:Option Addr) (nO cO:Nat) (x:Vl) (v:Value) (hH:HS w0 noM (cb bM TM (zJ g kd s oO nO cO++rest)::H) w) (hx:RV c x v) (hxs:RdV w0 yY g.xs) (hFI:FI w0) :
    Ret Tryz.prog 97 #[.pointer (some (bat bM 0)),v] w (fun r w'=>r=txV (wT g kd x)∧HS w0 noM (cb bM TM (zJ g kd s oO nO cO++rest)::H) w'):=by
  have hle:=hxs.le
  have hsp:Sp g.xs.o g.xs.l.length:=hxs.1.sp (sz:=1) (zF wZ _) (by omega)
  (refine ENT (N:=65) Tryz.func97 Tryz.ntmps97 ?_;intro a hA)
  cases x<;>rw [RV] at hx
  · subst hx
    repeat' (first|(refine XT ?_;apply XE;(first|(apply fM;rfl));clear hA a;intro a hA)|(refine QT ?_;clear hA a;intro a hA)|refine CT ?_|fail)
    exact rt2 (.inl rfl) rfl hA rfl rfl ⟨rfl,hH⟩
  · obtain ⟨rfl,hn⟩:=hx
    repeat' (first|(refine GT ?_ ?_<;>intro hg<;>clear hA a<;>intro a hA<;>(first|exact FA|replace hg:=dTr hg|replace hg:=dFa hg|skip))|(refine XT ?_;apply XE;(first|(apply zL;rfl)|(apply zD;rfl;rfl;omega;omega;exact hsp)|(apply zC;rfl;refine xP hxs.1 id (tU ?_);omega));clear hA a;intro a hA)|(refine QT ?_;clear hA a;intro a hA)|refine CT ?_|(refine DT ?_ ?_<;>intro hc<;>try (exfalso;omega))|fail)
    all_goals first
      |exact rt2 (.inl rfl) rfl hA rfl rfl ⟨by rw [tx_b1 (by omega) (by omega)];rfl,hH⟩
      |exact rt2 (.inl rfl) rfl hA rfl rfl ⟨by rw [tx_b0 (by omega) (by omega)];rfl,hH⟩
      |exact rt2 (.inl rfl) rfl hA rfl rfl ⟨by rw [tx_u (by omega)];rfl,hH⟩
      |exact rt2 (.inl rfl) rfl hA rfl rfl ⟨by rw [tx_x0 (by omega) (by omega)];rfl,hH⟩
      |exact rt2 (.inl rfl) rfl hA rfl rfl ⟨by rw [tx_x1 (by omega) (by omega)];rfl,hH⟩
      |skip
    (refine zH hA rfl rfl (by decide) (zA rfl rfl rfl (jX w _ hn (hFI.keep hH.kp))) ?_;clear hA;rintro _ w ⟨rfl,hk⟩ a hA;replace hH:=hH.keep hk;clear hk)
    repeat' (first|(refine QT ?_;clear hA a;intro a hA)|refine CT ?_|fail)
    exact rt2 (.inl rfl) rfl hA rfl rfl ⟨by rw [tx_n ⟨by omega,by omega,by omega⟩];rfl,hH⟩
  · obtain ⟨rfl,hs⟩:=hx
    repeat' (first|(refine XT ?_;apply XE;(first|(apply zL;rfl)|(apply tC;rfl;rfl));clear hA a;intro a hA)|(refine QT ?_;clear hA a;intro a hA)|refine CT ?_|fail)
    (refine zH hA rfl rfl (by decide) (zA rfl rfl rfl (Quote_spec w _ (by omega))) ?_;clear hA;rintro _ w ⟨rfl,hk⟩ a hA;replace hH:=hH.keep hk;clear hk)
    repeat' (first|(refine QT ?_;clear hA a;intro a hA)|refine CT ?_|fail)
    exact rt2 (.inl rfl) rfl hA rfl rfl ⟨rfl,hH⟩
  · obtain ⟨p,o,k,vs,rfl,_⟩:=hx
    unfold vY at hA
    repeat' (first|(refine XT ?_;apply XE;(first|(apply zL;rfl)|(apply tC;rfl;rfl));clear hA a;intro a hA)|(refine QT ?_;clear hA a;intro a hA)|refine CT ?_|fail)
    exact rt2 (.inl rfl) rfl hA rfl rfl ⟨rfl,hH⟩
  · obtain ⟨p,on,cn,ol,cl,vs,rfl,_⟩:=hx
    unfold vY at hA
    repeat' (first|(refine XT ?_;apply XE;(first|(apply zL;rfl)|(apply tC;rfl;rfl));clear hA a;intro a hA)|(refine QT ?_;clear hA a;intro a hA)|refine CT ?_|fail)
    exact rt2 (.inl rfl) rfl hA rfl rfl ⟨rfl,hH⟩
  · obtain ⟨p,u,rfl,_⟩:=hx
    unfold vY at hA
    repeat' (first|(refine XT ?_;apply XE;(first|(apply zL;rfl)|(apply tC;rfl;rfl));clear hA a;intro a hA)|(refine QT ?_;clear hA a;intro a hA)|refine CT ?_|fail)
    exact rt2 (.inl rfl) rfl hA rfl rfl ⟨rfl,hH⟩
  · obtain ⟨p,rfl,_⟩:=hx
    unfold vY at hA
    repeat' (first|(refine XT ?_;apply XE;(first|(apply zL;rfl)|(apply tC;rfl;rfl));clear hA a;intro a hA)|(refine QT ?_;clear hA a;intro a hA)|refine CT ?_|fail)
    exact rt2 (.inl rfl) rfl hA rfl rfl ⟨rfl,hH⟩
  · obtain ⟨p,rfl,_⟩:=hx
    unfold vY at hA
    repeat' (first|(refine XT ?_;apply XE;(first|(apply tC;rfl;rfl));clear hA a;intro a hA)|(refine QT ?_;clear hA a;intro a hA)|refine CT ?_|fail)
    exact rt2 (.inl rfl) rfl hA rfl rfl ⟨rfl,hH⟩
end
end Go.Proofs.YtenlcdokaadobaaGreatDoor
