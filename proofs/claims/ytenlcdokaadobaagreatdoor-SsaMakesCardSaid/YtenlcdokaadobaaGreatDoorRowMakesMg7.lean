/-
  The graph that ssa.Of makes of a function may be (plain). Conditions: none.
  The graphs that ssa.Of makes of a program that may be, may be (plain). Conditions: none.
  ssa.Of: what is made once and then only read; a maker's drafts. Conditions: none.
  ssa.Of: a block is begun. Conditions: none.
  ssa.Of: shapes and bounds of what is filled (plain). Conditions: none.
-/
import Derived.Test.YtenlcdokaadobaaGreatDoorRowMakesMg6
set_option maxHeartbeats 64000000
set_option maxRecDepth 10000
namespace Go.Proofs.YtenlcdokaadobaaGreatDoor
open Go Go.Fw
set_option linter.unusedVariables false
def plF (ord:List Int):Nat→List (Int × Int)
  |0=>[]
  |i+1=>setI (plF ord i) (ord.getD i 0) i
theorem plF_at {ord:List Int} (hn:ord.Nodup):∀(i:Nat),i≤ord.length→∀(k:Nat) (x:Int),k<i→ord[k]?=some x→lkI (plF ord i) x=some (k:Int)
  |0,_,k,x,h,_=>absurd h (Nat.not_lt_zero _)
  | i +1,hi,k,x,h,hx=>by
    rw [plF,lkI_set]
    have hd:ord[i]?=some (ord.getD i 0):=by rw [List.getD_eq_getElem?_getD,List.getElem?_eq_getElem (by omega)];rfl
    by_cases he:k=i
    · subst he
      rw [hx] at hd
      rw [if_pos (Option.some.inj hd)]
    · rw [if_neg (fun e:x=ord.getD i 0=>he (nd_inj hn hx (by rw [e];exact hd))),plF_at hn i (by omega) k x (by omega) hx]
def renE (m:List (Int × Int)) (t:Edg):Edg:=⟨(lkI m t.b).getD 0,t.a⟩
def renB (m:List (Int × Int)) (bl:Blc):Blc:=⟨bl.ps,bl.is,⟨bl.e.k,bl.e.a,bl.e.ns,lv (bl.e.to.l.map (renE m))⟩⟩
def bsF (D:List Blc) (ord:List Int):List Blc:=ord.map fun n=>renB (plF ord ord.length) (D.getD n.toNat blc0)
section
variable {g:Grs} {la:List Int} {mine:Int} {D:List Blc} {A:List Ann} {ord:List Int}
structure AllOk (g:Grs) (la:List Int) (mine:Int) (D:List Blc) (A:List Ann):Prop where
  hd:Hd D A
  ok:∀i,i<D.length→∃bl an,D[i]?=some bl∧A[i]?=some an∧BOk g la mine A an bl
  zero:∃γ,A[0]?=some ⟨0,γ,[]⟩∧∀y∈γ,y<2
  ev:EvOk (D.flatMap bvs)
def rkA (A:List Ann) (n:Int):Nat:=(A.getD n.toNat ⟨0,[],[]⟩).rk
theorem getD_of {α:Type} {l:List α} {i:Nat} {x d:α} (h:l[i]?=some x):l.getD i d=x:=by rw [List.getD_eq_getElem?_getD,h];rfl
theorem AllOk.at_ (h:AllOk g la mine D A) {n:Int} (hn:InR D n):∃bl an,D[n.toNat]?=some bl∧D.getD n.toNat blc0=bl∧A[n.toNat]?=some an∧BOk g la mine A an bl:=by
  obtain ⟨bl,an,h1,h2,h3⟩:=h.ok n.toNat (by have:=hn.1;have:=hn.2;omega)
  exact ⟨bl,an,h1,getD_of h1,h2,h3⟩
theorem AllOk.up (h:AllOk g la mine D A):UpE D (rkA A):=by
  intro n hn m hm
  obtain ⟨bl,an,h1,h2,h3,h4⟩:=h.at_ hn
  unfold edT at hm
  rw [h2] at hm
  obtain ⟨t,ht,rfl⟩:=List.mem_map.1 hm
  obtain ⟨j,am,e1,e2,e3,e4⟩:=h4.edges t ht
  have hj:=(List.getElem?_eq_some_iff.1 e2).1
  rw [←h.hd.len] at hj
  refine ⟨⟨by omega,by omega⟩,?_⟩
  unfold rkA
  rw [getD_of h3,e1,Int.toNat_natCast,getD_of e2]
  exact e3
theorem bsF_at {k:Nat} {bl:Blc} (h:(bsF D ord)[k]?=some bl):∃n,ord[k]?=some n∧bl=renB (plF ord ord.length) (D.getD n.toNat blc0):=by
  unfold bsF at h
  rw [List.getElem?_map] at h
  obtain ⟨n,h1,h2⟩:=Option.map_eq_some_iff.1 h
  exact ⟨n,h1,h2.symm⟩
theorem bsF_of {k:Nat} {n:Int} (h:ord[k]?=some n):(bsF D ord)[k]?=some (renB (plF ord ord.length) (D.getD n.toNat blc0)):=by
  unfold bsF
  rw [List.getElem?_map,h]
  rfl
theorem bsF_len:(bsF D ord).length=ord.length:=by unfold bsF;rw [List.length_map]
theorem bvs_ren {m:List (Int × Int)} {bl:Blc}:bvs (renB m bl)=bvs bl:=rfl
theorem OrdOk.pl (ho:OrdOk D ord) {k:Nat} {n:Int} (h:ord[k]?=some n):lkI (plF ord ord.length) n=some (k:Int):=plF_at ho.nd _ (Nat.le_refl _) k n (List.getElem?_eq_some_iff.1 h).1 h
theorem ord_edge (h:AllOk g la mine D A) (ho:OrdOk D ord) {k:Nat} {n:Int} {bl:Blc} {an:Ann} (hk:ord[k]?=some n) (hb:D[n.toNat]?=some bl) (ha:A[n.toNat]?=some an) (hok:BOk g la mine A an bl) {t:Edg} (ht:t∈bl.e.to.l) :
    ∃(j:Nat) (i:Nat) (am:Ann) (bm:Blc),t.b=(j:Int)∧k<i∧ord[i]?=some (j:Int)∧lkI (plF ord ord.length) t.b=some (i:Int)∧A[j]?=some am∧D[j]?=some bm∧bm.ps.l=am.ps∧t.a.l.length=am.ps.length∧∀y∈am.γ,2≤y→y∈an.γ∨y∈bvs bl:=by
  obtain ⟨j,am,e1,e2,e3,e4,e5,e6⟩:=hok.edges t ht
  have hj:j<D.length:=by rw [h.hd.len];exact (List.getElem?_eq_some_iff.1 e2).1
  obtain ⟨bm,hbm⟩:∃bm,D[j]?=some bm:=⟨_,List.getElem?_eq_getElem hj⟩
  obtain ⟨i,hi1,hi2⟩:=ho.up k n t.b hk (by unfold edT;rw [getD_of hb];exact List.mem_map.2 ⟨t,ht,rfl⟩)
  exact ⟨j,i,am,bm,e1,hi1,e1▸hi2,ho.pl hi2,e2,hbm,h.hd.ps hbm e2,e4,e6⟩
theorem bs_there (h:AllOk g la mine D A) (ho:OrdOk D ord) (caps:Int):∀(k:Nat) (n:Int) (an:Ann),ord[k]?=some n→A[n.toNat]?=some an→∀y∈an.γ,2≤y→BS ⟨caps,lv (bsF D ord)⟩ k y:=by
  intro k
  induction k using Nat.strongRecOn with
  | _ k ih=>
    intro n an hk ha y hy h2
    rw [BS]
    refine ⟨?_,fun m hm bl hbl hgo=>?_⟩
    · rcases Nat.eq_zero_or_pos k with rfl|hpos
      · obtain ⟨γ,h3,h4⟩:=h.zero
        rw [ho.zero] at hk
        obtain rfl:=Option.some.inj hk
        rw [show ((0:Int)).toNat=0 from rfl,h3] at ha
        obtain rfl:=Option.some.inj ha
        have:=h4 y hy
        omega
      · exact hpos
    · obtain ⟨n',hn',rfl⟩:=bsF_at hbl
      obtain ⟨bl',an',e1,e2,e3,e4⟩:=h.at_ (ho.rg n' (List.mem_of_getElem? hn'))
      rw [e2] at hgo ⊢
      obtain ⟨t',ht',htb⟩:=hgo
      obtain ⟨t,ht,rfl⟩:=List.mem_map.1 (show t'∈bl'.e.to.l.map (renE _) from ht')
      obtain ⟨j,i,am,bm,q1,q2,q3,q4,q5,q6,q7,q8,q9⟩:=ord_edge h ho hn' e1 e3 e4 ht
      have:(i:Int)=(k:Int):=by
        have h5:(lkI (plF ord ord.length) t.b).getD 0=(k:Int):=htb
        rw [q4] at h5
        exact h5
      obtain rfl:i=k:=by omega
      rw [hk] at q3
      obtain rfl:=Option.some.inj q3
      rw [Int.toNat_natCast,q5] at ha
      obtain rfl:=Option.some.inj ha
      rcases q9 y hy h2 with h6|h6
      · exact .inr (ih m hm n' an' hn' e3 y h6 h2)
      · exact .inl (by rw [bvs_ren];exact h6)
theorem atS_mono {S S':Int→Prop} {a:Atm} (h:atS g S a) (hS:∀y,2≤y→S y→S' y):atS g S' a:=by
  rcases h with ⟨h1,h2,h3,h4⟩|h
  · refine .inl ⟨h1,h2,h3,?_⟩
    rcases h4 with h4|h4
    · exact .inl h4
    · by_cases h5:a.n<2
      · exact .inl h5
      · exact .inr (hS _ (by omega) h4)
  · exact .inr h
theorem graph_gr (h:AllOk g la mine D A) (ho:OrdOk D ord):GrP g la ⟨mine,lv (bsF D ord)⟩:=by
  have hpos:0<ord.length:=(List.getElem?_eq_some_iff.1 ho.zero).1
  refine ⟨by show 0<(bsF D ord).length;rw [bsF_len];exact hpos,fun k bl hbl=>?_,?_⟩
  · obtain ⟨n,hn,rfl⟩:=bsF_at hbl
    obtain ⟨bl,an,e1,e2,e3,e4⟩:=h.at_ (ho.rg n (List.mem_of_getElem? hn))
    rw [e2]
    have hS:∀i y,2≤y→nowS (·∈an.γ) bl i y→nowS (BS ⟨mine,lv (bsF D ord)⟩ k) (renB (plF ord ord.length) bl) i y:=fun i y hy h5=>by
      rcases h5 with h5|h5
      · exact .inl (bs_there h ho mine k n an hn e3 y h5 hy)
      · exact .inr h5
    refine ⟨?_,⟨fun hk0=>?_,fun i x hx=>⟨(e4.ins i x hx).1,fun a ha=>atS_mono ((e4.ins i x hx).2 a ha) (hS i)⟩,⟨e4.end_.lo,e4.end_.hi,e4.end_.a,?_,e4.end_.ns,e4.end_.up⟩,fun a ha=>atS_mono (e4.ends a ha) (hS _),fun t' ht'=>?_⟩⟩
    · rcases Nat.eq_zero_or_pos k with hk|hk
      · exact .inl hk
      · obtain ⟨i,n',hi,hn',hx⟩:=ho.come k n hk hn
        obtain ⟨bl',an',q1,q2,q3,q4⟩:=h.at_ (ho.rg n' (List.mem_of_getElem? hn'))
        unfold edT at hx
        rw [q2] at hx
        obtain ⟨t,ht,rfl⟩:=List.mem_map.1 hx
        refine .inr ⟨i,_,hi,bsF_of hn',renE (plF ord ord.length) t,?_,?_⟩
        · rw [q2]
          exact List.mem_map.2 ⟨t,ht,rfl⟩
        · show (lkI _ t.b).getD 0=_
          rw [ho.pl hn]
          rfl
    · subst hk0
      rw [ho.zero] at hn
      obtain rfl:=Option.some.inj hn
      obtain ⟨γ,h3,h4⟩:=h.zero
      have:=h.hd.ps e1 h3
      exact this
    · show ((bl.e.to.l.map (renE _)).length:Int)=_
      rw [List.length_map]
      exact e4.end_.to
    · obtain ⟨t,ht,rfl⟩:=List.mem_map.1 (show t'∈bl.e.to.l.map (renE _) from ht')
      obtain ⟨j,i,am,bm,q1,q2,q3,q4,q5,q6,q7,q8,q9⟩:=ord_edge h ho hn e1 e3 e4 ht
      obtain ⟨j',am',r1,r2,r3,r4,r5,r6⟩:=e4.edges t ht
      have hb:(renE (plF ord ord.length) t).b=(i:Int):=by show (lkI _ t.b).getD 0=_;rw [q4];rfl
      have hil:=(List.getElem?_eq_some_iff.1 q3).1
      rw [hb]
      refine ⟨by omega,by show (i:Int)<((bsF D ord).length:Int);rw [bsF_len];omega,?_,fun a ha=>atS_mono (r5 a ha) (hS _)⟩
      show t.a.l.length=((bsF D ord).getD (i:Int).toNat blc0).ps.l.length
      rw [Int.toNat_natCast,getD_of (bsF_of q3),Int.toNat_natCast,getD_of q6,q8,←q7]
      rfl
  · have hfl:(bsF D ord).flatMap bvs=ord.flatMap fun n=>bvs (D.getD n.toNat blc0):=by
      unfold bsF
      rw [List.flatMap_map]
      rfl
    show EvOk ((bsF D ord).flatMap bvs)
    rw [hfl]
    have hev:=h.ev
    have hmem:∀n∈ord,∀x∈bvs (D.getD n.toNat blc0),x∈D.flatMap bvs:=fun n hn x hx=>by
      obtain ⟨bl,an,e1,e2,e3,e4⟩:=h.at_ (ho.rg n hn)
      rw [e2] at hx
      exact List.mem_flatMap.2 ⟨bl,List.mem_of_getElem? e1,hx⟩
    have hp:=List.pairwise_flatMap.1 hev.nd
    refine ⟨List.pairwise_flatMap.2 ⟨fun n hn=>?_,?_⟩,fun x hx=>?_⟩
    · obtain ⟨bl,an,e1,e2,e3,e4⟩:=h.at_ (ho.rg n hn)
      rw [e2]
      exact hp.1 bl (List.mem_of_getElem? e1)
    · refine ho.nd.imp_of_mem fun {a b} ha hb hne x hx y hy=>?_
      obtain ⟨bl,an,e1,e2,e3,e4⟩:=h.at_ (ho.rg a ha)
      obtain ⟨bl',an',e1',e2',e3',e4'⟩:=h.at_ (ho.rg b hb)
      rw [e2] at hx
      rw [e2'] at hy
      have ra:=ho.rg a ha
      have rb:=ho.rg b hb
      have hne2:a.toNat≠b.toNat:=fun e=>hne (by have:=ra.1;have:=rb.1;omega)
      obtain ⟨l1,rfl⟩:=List.getElem?_eq_some_iff.1 e1
      obtain ⟨l2,rfl⟩:=List.getElem?_eq_some_iff.1 e1'
      have hpw:=List.pairwise_iff_getElem.1 hp.2
      rcases Nat.lt_or_gt_of_ne hne2 with h5|h5
      · exact hpw _ _ l1 l2 h5 x hx y hy
      · exact fun e=>hpw _ _ l2 l1 h5 y hy x hx e.symm
    · obtain ⟨n,hn,hx⟩:=List.mem_flatMap.1 hx
      exact hev.rg x (hmem n hn x hx)
theorem sum_sub {α:Type} [DecidableEq α] (w:α→Nat):∀{l L:List α},l.Nodup→(∀x∈l,x∈L)→(l.map w).sum≤(L.map w).sum
  | [],L,_,_=>Nat.zero_le _
  | a ::l,L,hn,hs=>by
    rw [List.nodup_cons] at hn
    have h1:=List.perm_cons_erase (hs a (List.mem_cons_self ..))
    have h2:=sum_sub w hn.2 (L:=L.erase a) fun x hx=>by
      have hne:x≠a:=fun e=>hn.1 (e▸hx)
      exact (List.mem_erase_of_ne hne).2 (hs x (List.mem_cons_of_mem _ hx))
    have h3:=(h1.map w).sum_nat
    rw [List.map_cons,List.sum_cons] at h3 ⊢
    omega
theorem ps_edges:∀(l:List Int) (E:List Edg) (w:Int→Nat),l.Nodup→(∀n∈l,∃t∈E,t.b=n∧t.a.l.length=w n)→(l.map w).sum≤(E.map fun t=>t.a.l.length).sum
  | [],E,w,_,_=>Nat.zero_le _
  | n ::l,E,w,hn,hs=>by
    rw [List.nodup_cons] at hn
    obtain ⟨t,ht,h1,h2⟩:=hs n (List.mem_cons_self ..)
    obtain ⟨E1,E2,rfl⟩:=List.append_of_mem ht
    have h3:=ps_edges l (E1++E2) w hn.2 fun m hm=>by
      obtain ⟨t',ht',h4,h5⟩:=hs m (List.mem_cons_of_mem _ hm)
      refine ⟨t',?_,h4,h5⟩
      rcases List.mem_append.1 ht' with h6|h6
      · exact List.mem_append_left _ h6
      · rcases List.mem_cons.1 h6 with rfl|h6
        · exact absurd (h1.symm.trans h4▸hm) hn.1
        · exact List.mem_append_right _ h6
    simp only [List.map_append,List.map_cons,List.sum_append,List.sum_cons] at h3 ⊢
    omega
theorem sum_flat (D:List Blc):∀l:List Int,((l.flatMap fun n=>(D.getD n.toNat blc0).e.to.l).map fun t=>t.a.l.length).sum≤(l.map fun n=>wB (D.getD n.toNat blc0)).sum
  | []=>Nat.le_refl _
  | n ::l=>by
    rw [List.flatMap_cons,List.map_append,List.sum_append,List.map_cons,List.sum_cons]
    have h1:=sum_flat D l
    have h2:∀es:List Edg,(es.map fun t=>t.a.l.length).sum≤(es.map fun t=>1+t.a.l.length).sum:=fun es=>by
      induction es with
      |nil=>exact Nat.le_refl _
      |cons e es ih=>rw [List.map_cons,List.map_cons,List.sum_cons,List.sum_cons];omega
    have h3:=h2 (D.getD n.toNat blc0).e.to.l
    unfold wB at h1 ⊢
    omega
theorem sum_add {α:Type} (f h:α→Nat) (l:List α):(l.map fun x=>f x+h x).sum=(l.map f).sum+(l.map h).sum:=by
  induction l with
  |nil=>rfl
  |cons a l ih=>rw [List.map_cons,List.map_cons,List.map_cons,List.sum_cons,List.sum_cons,List.sum_cons,ih];omega
theorem sum_range (D:List Blc):((List.range D.length).map fun i=>wB (D.getD i blc0)).sum=wS D:=by
  unfold wS
  congr 1
  apply List.ext_getElem?
  intro i
  rw [List.getElem?_map,List.getElem?_map]
  by_cases hi:i<D.length
  · rw [List.getElem?_range hi,List.getElem?_eq_getElem hi]
    show some (wB (D.getD i blc0))=_
    rw [getD_of (List.getElem?_eq_getElem hi)]
    rfl
  · rw [List.getElem?_eq_none (by rw [List.length_range];omega),List.getElem?_eq_none (by omega)]
    rfl
theorem ord_sum (ho:OrdOk D ord):(ord.map fun n=>wB (D.getD n.toNat blc0)).sum≤wS D:=by
  rw [←sum_range D]
  have h1:(ord.map fun n=>wB (D.getD n.toNat blc0)).sum=((ord.map Int.toNat).map fun i=>wB (D.getD i blc0)).sum:=by rw [List.map_map];rfl
  rw [h1]
  refine sum_sub _ ?_ fun x hx=>?_
  · unfold List.Nodup
    rw [List.pairwise_map]
    exact ho.nd.imp_of_mem fun {a b} ha hb hne e=>hne (by have:=(ho.rg a ha).1;have:=(ho.rg b hb).1;omega)
  · obtain ⟨n,hn,rfl⟩:=List.mem_map.1 hx
    obtain ⟨q1,q2⟩:=ho.rg n hn
    exact List.mem_range.2 (by omega)
theorem graph_size (h:AllOk g la mine D A) (ho:OrdOk D ord):grN ⟨mine,lv (bsF D ord)⟩≤2*wS D:=by
  have h1:grN ⟨mine,lv (bsF D ord)⟩=(ord.map fun n=>wB (D.getD n.toNat blc0)+(D.getD n.toNat blc0).ps.l.length).sum:=by
    unfold grN bsF
    show (List.map blkN (List.map _ ord)).sum=_
    rw [List.map_map]
    congr 1
    apply List.map_congr_left
    intro n hn
    show blkN (renB _ _)=_
    unfold blkN wB renB lv
    simp only [List.map_map]
    have:(fun t:Edg=>1+t.a.l.length) ∘ renE (plF ord ord.length)=fun t=>1+t.a.l.length:=rfl
    rw [this]
    omega
  rw [h1,sum_add]
  have h2:=ord_sum ho
  obtain ⟨l,hl⟩:∃l,ord=0::l:=by
    cases ord with
    |nil=>exact absurd ho.zero (by simp)
    |cons a l=>have:=ho.zero;simp at this;exact ⟨l,by rw [this]⟩
  have hz:(D.getD ((0:Int)).toNat blc0).ps.l.length=0:=by
    obtain ⟨γ,h3,h4⟩:=h.zero
    obtain ⟨bl,an,e1,e2,e3,e4⟩:=h.at_ (ho.rg 0 (by rw [hl];exact List.mem_cons_self ..))
    rw [e2,h.hd.ps e1 h3]
    rfl
  have h3:=ps_edges l (ord.flatMap fun n=>(D.getD n.toNat blc0).e.to.l) (fun n=>(D.getD n.toNat blc0).ps.l.length) (by have:=ho.nd;rw [hl,List.nodup_cons] at this;exact this.2) fun n hn=>by
    obtain ⟨k,hk⟩:=List.mem_iff_getElem?.1 hn
    have hk':ord[k+1]?=some n:=by rw [hl];exact hk
    obtain ⟨i,n',hi,hn',hx⟩:=ho.come (k+1) n (Nat.succ_pos _) hk'
    obtain ⟨bl',an',q1,q2,q3,q4⟩:=h.at_ (ho.rg n' (List.mem_of_getElem? hn'))
    unfold edT at hx
    rw [q2] at hx
    obtain ⟨t,ht,rfl⟩:=List.mem_map.1 hx
    obtain ⟨j,am,r1,r2,r3,r4,r5⟩:=q4.edges t ht
    refine ⟨t,List.mem_flatMap.2 ⟨n',List.mem_of_getElem? hn',by rw [q2];exact ht⟩,rfl,?_⟩
    have hj:j<D.length:=by rw [h.hd.len];exact (List.getElem?_eq_some_iff.1 r2).1
    show _=(D.getD t.b.toNat blc0).ps.l.length
    rw [r1,Int.toNat_natCast,getD_of (List.getElem?_eq_getElem hj),h.hd.ps (List.getElem?_eq_getElem hj) r2,r4]
  have h4:=sum_flat D ord
  have h5:(ord.map fun n=>(D.getD n.toNat blc0).ps.l.length).sum=(l.map fun n=>(D.getD n.toNat blc0).ps.l.length).sum:=by
    rw [hl,List.map_cons,List.sum_cons,hz,Nat.zero_add]
  omega
end
def dF (b:AN):List Blc:=(fillF b 0 ([newB []],[])).1
def ordF (D:List Blc):List Int:=(visF D (D.length+1) 0 ([],[])).2.reverse
def gbF (b:AN):List Blc:=bsF (dF b) (ordF (dF b))
section
variable {g:Grs} {la:List Int} {mine:Int}
theorem fun_ok {b:AN} {p:Int} {s:CS} (h:bodyF g la mine b 1 (cs0 p)=some s) (h0:0≤p) (h1:p≤65536) (hz:szN b≤1000000):∃A,AllOk g la mine (dF b) A∧wS (dF b)≤2+5*szN b∧0<(dF b).length:=by
  have hd:Hd [newB []] [(⟨0,[0,1],[]⟩:Ann)]:=rfl
  obtain ⟨new,F,hold,⟨bl',hat,hbo⟩,hw⟩:=fill_ok (g:=g) (la:=la) (mine:=mine) b 1 (cs0 p) s 0 0 ([newB []],[]) [⟨0,[0,1],[]⟩] (newB []) ⟨0,[0,1],[]⟩ h hz (cs0_ok h0 h1) hd (fun n hn=>absurd hn (List.not_mem_nil)) ⟨rfl,rfl,fun i x h=>(by unfold newB lv at h;simp at h),rfl,fun y hy h2=>by
    simp only [cs0,List.mem_cons,List.not_mem_nil,or_false] at hy
    omega,Nat.le_refl _⟩
  have hlen:=F.len hd
  refine ⟨_,⟨F.hd,fun i hi=>?_,⟨[0,1],rfl,fun y hy=>by
    simp only [List.mem_cons,List.not_mem_nil,or_false] at hy
    omega⟩,?_⟩,?_,hlen⟩
  · cases i with
    |zero=>exact ⟨bl',_,hat,rfl,hbo⟩
    |succ i=>exact F.news (i+1) (by show 1≤i+1;omega) hi
  · have hp:=F.ever (.refl [])
    have he:=F.ev ⟨List.nodup_nil,fun x h=>absurd h (List.not_mem_nil)⟩
    exact ⟨hp.nodup_iff.2 he.nd,fun x hx=>he.rg x (hp.mem_iff.1 hx)⟩
  · have:wS [newB []]=2:=rfl
    have hw':wS (dF b)+3≤2+5*szN b:=hw
    omega
theorem fun_gr {b:AN} {p:Int} {s:CS} (h:bodyF g la mine b 1 (cs0 p)=some s) (h0:0≤p) (h1:p≤65536) (hz:szN b≤1000000) :
    OrdOk (dF b) (ordF (dF b))∧GrP g la ⟨mine,lv (gbF b)⟩∧grN ⟨mine,lv (gbF b)⟩≤4+10*szN b:=by
  obtain ⟨A,hA,hw,hpos⟩:=fun_ok h h0 h1 hz
  have ho:OrdOk (dF b) (ordF (dF b)):=ord_ok hA.up hpos (Nat.lt_succ_self _)
  refine ⟨ho,graph_gr hA ho,?_⟩
  have:=graph_size hA ho
  show grN ⟨mine,lv (bsF (dF b) (ordF (dF b)))⟩≤_
  omega
theorem funs_each:∀{l:List FN} {p p':Int},funsF g la l p=some p'→0≤p→p≤65536→∀f∈l,∃(p:Int) (s:CS),0≤p∧p≤65536∧bodyF g la f.caps f.body 1 (cs0 p)=some s
  | [],p,p',_,_,_,f,hf=>absurd hf (List.not_mem_nil)
  | f ::l,p,p',h,h0,h1,f',hf=>by
    rw [funsF] at h
    split at h
    · obtain ⟨s,hs,h2⟩:=Option.bind_eq_some_iff.1 h
      rcases List.mem_cons.1 hf with rfl|hf
      · exact ⟨p,s,h0,h1,hs⟩
      · have hok:=bodyF_ok _ _ _ _ (cs0_ok h0 h1) hs
        exact funs_each h2 hok.p0 hok.p1 f' hf
    · cases h
end
mutual
theorem partsB_eq:∀(b:AN) (most:Int),partsB b most<most→partsB b most=szN b
  | .mk _ _ _ _ _ r a _ _ kids,most,h=>by
    rw [partsB] at h ⊢
    rw [partsK_eq kids most _ h,szN]
    omega
theorem partsK_eq:∀(l:List AN) (most n:Int),partsK l most n<most→partsK l most n=n+szNs l
  | [],most,n,h=>by rw [partsK,szNs];omega
  | b ::l,most,n,h=>by
    rw [partsK] at h ⊢
    split at h
    · next hn=>
      rw [if_pos hn,partsK_eq l most _ h,szNs]
      have h2:=partsK_eq l most _ h
      rw [h2] at h
      rw [partsB_eq b (most - n) (by omega)]
      omega
    · next hn=>exact absurd h hn
end
def szF (l:List FN):Nat:=(l.map fun f=>szN f.body).sum
theorem progK_eq:∀(l:List FN) (most n:Int),progK l most n<most→progK l most n=n+szF l
  | [],most,n,h=>by rw [progK];unfold szF;simp
  | f ::l,most,n,h=>by
    rw [progK] at h ⊢
    split at h
    · next hn=>
      have h2:=progK_eq l most _ h
      rw [if_pos hn,h2]
      rw [h2] at h
      rw [partsB_eq f.body (most - n) (by omega)]
      unfold szF
      rw [List.map_cons,List.sum_cons]
      omega
    · next hn=>exact absurd h hn
theorem szF_mem {l:List FN} {f:FN} (h:f∈l):szN f.body≤szF l:=by
  induction l with
  |nil=>exact absurd h (List.not_mem_nil)
  | cons a l ih=>
    unfold szF at *
    rw [List.map_cons,List.sum_cons]
    rcases List.mem_cons.1 h with rfl|h
    · omega
    · have:=ih h;omega
def stG (f:Gr):Gr:=⟨f.caps,lv (f.bs.l.map stB)⟩
theorem bvs_st (b:Blc):bvs (stB b)=bvs b:=by
  unfold bvs stB lv
  simp only [List.map_map]
  rfl
theorem goes_st {b:Blc} {k:Nat}:goes b k→goes (stB b) k:=fun ⟨t,ht,e⟩=>⟨stE t,List.mem_map.2 ⟨t,ht,rfl⟩,e⟩
theorem st_goes {b:Blc} {k:Nat}:goes (stB b) k→goes b k:=fun ⟨t,ht,e⟩=>by
  obtain ⟨t',ht',rfl⟩:=List.mem_map.1 ht
  exact ⟨t',ht',e⟩
theorem st_at {f:Gr} {k:Nat} {bl:Blc} (h:f.bs.l[k]?=some bl):(stG f).bs.l[k]?=some (stB bl):=by
  show (f.bs.l.map stB)[k]?=_
  rw [List.getElem?_map,h]
  rfl
theorem BS_st {f:Gr}:∀(k:Nat) (x:Int),BS (stG f) k x→BS f k x:=by
  intro k
  induction k using Nat.strongRecOn with
  | _ k ih=>
    intro x h
    rw [BS] at h ⊢
    refine ⟨h.1,fun m hm bl hbl hg=>?_⟩
    rcases h.2 m hm (stB bl) (st_at hbl) (goes_st hg) with h1|h1
    · rw [bvs_st] at h1;exact .inl h1
    · exact .inr (ih m hm x h1)
theorem nowS_st {S:Int→Prop} {b:Blc} {i:Nat} {x:Int} (h:nowS S (stB b) i x):nowS S b i x:=by
  unfold nowS at *
  have e:((stB b).is.l.take i).map Ins.x=(b.is.l.take i).map Ins.x:=by
    show ((b.is.l.map stI).take i).map Ins.x=_
    rw [←List.map_take,List.map_map]
    rfl
  rw [e] at h
  exact h
theorem blkN_st (b:Blc):blkN (stB b)=blkN b:=by
  unfold blkN stB stN lv
  simp only [List.map_map,List.length_map]
  rfl
section
variable {g g':Grs} {la:List Int}
structure SameN (g g':Grs):Prop where
  ls:g'.ls.l=g.ls.l
  ts:g'.ts.l=g.ts.l
  xs:g'.xs.l=g.xs.l
  ss:g'.ss.l=g.ss.l
theorem form_same (hs:SameN g g') {mine:Int} {r:Stp} (h:FormP g la mine r):FormP g' la mine r:=by
  refine ⟨h.lo,h.hi,?_,h.want,h.ns,fun hk=>?_⟩
  · have:=h.num
    unfold numP at this ⊢
    rw [hs.ls,hs.ts]
    exact this
  · have:=h.lab hk
    unfold labP labAt at this ⊢
    rw [hs.ls]
    exact this
theorem atS_same (hs:SameN g g') {S S':Int→Prop} {a:Atm} (h:atS g S a) (hS:∀y,S y→S' y):atS g' S' a:=by
  unfold atS at *
  rw [hs.ss]
  rcases h with ⟨h1,h2,h3,h4⟩|h
  · exact .inl ⟨h1,h2,h3,h4.imp id (hS _)⟩
  · exact .inr h
theorem gr_st (hs:SameN g g') {f:Gr} (h:GrP g la (stG f)):GrP g' la f:=by
  have hl:(stG f).bs.l.length=f.bs.l.length:=List.length_map ..
  refine ⟨by rw [←hl];exact h.ne,fun k bl hbl=>?_,?_⟩
  · obtain ⟨h1,h2⟩:=h.blk k (stB bl) (st_at hbl)
    have hS:∀i y,nowS (BS (stG f) k) (stB bl) i y→nowS (BS f k) bl i y:=fun i y h3=>by
      have:=nowS_st h3
      rcases this with h4|h4
      · exact .inl (BS_st k y h4)
      · exact .inr h4
    have hil:(stB bl).is.l.length=bl.is.l.length:=List.length_map ..
    refine ⟨?_,⟨fun hk=>h2.first hk,fun i x hx=>?_,⟨h2.end_.lo,h2.end_.hi,h2.end_.a,?_,h2.end_.ns,h2.end_.up⟩,fun a ha=>atS_same hs (h2.ends a ha) (by rw [hil];exact hS _),fun t ht=>?_⟩⟩
    · rcases h1 with h1| ⟨m,bm,h3,h4,h5⟩
      · exact .inl h1
      · have h4':(f.bs.l.map stB)[m]?=some bm:=h4
        rw [List.getElem?_map] at h4'
        obtain ⟨b',e1,rfl⟩:=Option.map_eq_some_iff.1 h4'
        exact .inr ⟨m,b',h3,e1,st_goes h5⟩
    · have hx':(stB bl).is.l[i]?=some (stI x):=by
        show (bl.is.l.map stI)[i]?=_
        rw [List.getElem?_map,hx]
        rfl
      obtain ⟨h3,h4⟩:=h2.ins i (stI x) hx'
      exact ⟨form_same hs ⟨h3.lo,h3.hi,h3.num,h3.want,h3.ns,h3.lab⟩,fun a ha=>atS_same hs (h4 a ha) (hS i)⟩
    · have h3:=h2.end_.to
      have e:(stB bl).e.to.l.length=bl.e.to.l.length:=List.length_map ..
      rw [e] at h3
      exact h3
    · obtain ⟨h3,h4,h5,h6⟩:=h2.edges (stE t) (List.mem_map.2 ⟨t,ht,rfl⟩)
      rw [hl] at h4
      refine ⟨h3,h4,?_,fun a ha=>atS_same hs (h6 a ha) (by rw [hil];exact hS _)⟩
      have e:((stG f).bs.l.getD (stE t).b.toNat blc0).ps.l.length=(f.bs.l.getD t.b.toNat blc0).ps.l.length:=by
        have hb:t.b.toNat<f.bs.l.length:=by
          have h3':(k:Int)<t.b:=h3
          have h4':t.b<f.bs.l.length:=h4
          omega
        show ((stG f).bs.l.getD t.b.toNat blc0).ps.l.length=_
        rw [getD_of (st_at (List.getElem?_eq_getElem hb)),getD_of (List.getElem?_eq_getElem hb)]
        rfl
      rw [←e]
      exact h5
  · have h3:=h.ev
    have e:(stG f).bs.l.flatMap bvs=f.bs.l.flatMap bvs:=by
      show (f.bs.l.map stB).flatMap bvs=_
      rw [List.flatMap_map]
      congr 1
      funext b
      exact bvs_st b
    rw [e] at h3
    exact h3
theorem grN_st (f:Gr):grN (stG f)=grN f:=by
  unfold grN stG lv
  rw [List.map_map]
  congr 2
  funext b
  exact blkN_st b
theorem made_may {fl:List FN} (hs:SameN g g') (hm:MayN fl g) (hz:progK fl 1000 0<1000) (hf50:fl.length≤50) (hfs:g'.fs.l.map stG=fl.map fun f=>⟨f.caps,lv (gbF f.body)⟩):MayP g':=by
  obtain ⟨hA,p',hp'⟩:=hm
  have hsz:=progK_eq fl 1000 0 hz
  rw [Int.zero_add] at hsz
  have hcaps:g'.fs.l.map Gr.caps=capsN fl:=by
    have:=congrArg (List.map Gr.caps) hfs
    rw [List.map_map,List.map_map] at this
    exact this
  rw [capsN] at hA
  have hall:=funs_each hp' (Int.le_refl _) (by decide)
  have hgr:∀f∈g'.fs.l,∃f'∈fl,stG f=⟨f'.caps,lv (gbF f'.body)⟩:=fun f hf=>by
    have:stG f∈g'.fs.l.map stG:=List.mem_map.2 ⟨f,hf,rfl⟩
    rw [hfs] at this
    obtain ⟨f',h1,h2⟩:=List.mem_map.1 this
    exact ⟨f',h1,h2.symm⟩
  refine ⟨?_,fun f hf=>?_,?_⟩
  · rw [hcaps]
    exact ⟨hA.pos,hA.top,hA.c0,by rw [hs.ls];exact hA.ls,by rw [hs.ts];exact hA.ts,by rw [hs.xs];exact hA.xs,by rw [hs.xs];exact hA.has,by rw [hs.ss];exact hA.ss,hA.caps⟩
  · rw [hcaps]
    obtain ⟨f',h1,h2⟩:=hgr f hf
    obtain ⟨p,s,h3,h4,h5⟩:=hall f' h1
    have:=szF_mem h1
    refine gr_st hs ?_
    rw [h2]
    exact (fun_gr h5 h3 h4 (by omega)).2.1
  · have h1:grsN g'=((fl.map fun f=>(⟨f.caps,lv (gbF f.body)⟩:Gr)).map grN).sum:=by
      rw [←hfs,List.map_map]
      unfold grsN
      congr 2
      funext f
      exact (grN_st f).symm
    rw [h1,List.map_map]
    have h2:∀l:List FN,(∀f∈l,f∈fl)→(l.map (grN ∘ fun f=>(⟨f.caps,lv (gbF f.body)⟩:Gr))).sum≤4*l.length+10*szF l:=by
      intro l
      induction l with
      |nil=>intro _;exact Nat.zero_le _
      | cons f l ih=>
        intro hl
        have h3:=ih fun f hf=>hl f (List.mem_cons_of_mem _ hf)
        obtain ⟨p,s,h4,h5,h6⟩:=hall f (hl f (List.mem_cons_self ..))
        have h7:=szF_mem (hl f (List.mem_cons_self ..))
        have h8:=(fun_gr h6 h4 h5 (by omega)).2.2
        have h9:szF (f::l)=szN f.body+szF l:=by unfold szF;rw [List.map_cons,List.sum_cons]
        rw [List.map_cons,List.sum_cons,List.length_cons,h9]
        have h10:(grN ∘ fun f:FN=>(⟨f.caps,lv (gbF f.body)⟩:Gr)) f=grN ⟨f.caps,lv (gbF f.body)⟩:=rfl
        omega
    have h3:=h2 fl fun f hf=>hf
    omega
end
end Go.Proofs.YtenlcdokaadobaaGreatDoor
namespace Go.Fw
open Go Go.RowKit
set_option linter.unusedVariables false
def frz (w0:World) (K:World→Prop):It where
  sat w F:=(∀b,F b→b<w.heap.size)∧∀w':World,Kp w0 noM w'→(∀b,F b→w'.heap[b]?=w.heap[b]?)→K w'
  loc:=fun {w w' F} ⟨h1,h2⟩ he=>⟨fun b hb=>by
    have h3:=he b hb
    rw [Array.getElem?_eq_getElem (h1 b hb)] at h3
    exact lt_of_heap h3,fun w2 hk h3=>h2 w2 hk fun b hb=>(h3 b hb).trans (he b hb)⟩
  lt:=fun ⟨h1,_⟩ b hb=>h1 b hb
  ext:=fun ⟨h1,h2⟩ he=>⟨fun b hb=>h1 b ((he b).2 hb),fun w' hk h3=>h2 w' hk fun b hb=>h3 b ((he b).1 hb)⟩
section
variable {w0 w w':World} {H L:List It} {K K1 K2:World→Prop}
theorem HS.frz (h:HS w0 noM H w) (hm:Go.Fw.frz w0 K∈H):K w:=
  let ⟨_,h1,h2⟩:=h.sat hm
  h2 w h.kp fun _ _=>rfl
theorem HS.frz1 (h:HS w0 noM (Go.Fw.frz w0 K::H) w):K w:=h.frz (.head _)
theorem HS.frz_nil (h:HS w0 noM H w) (hK:∀w,Kp w0 noM w→K w):HS w0 noM (Go.Fw.frz w0 K::H) w:=by
  obtain ⟨hk,F,hF,ho⟩:=h
  exact ⟨hk,F,⟨fun _=>False,F,fun b=>by simp,fun b hb=>hb.elim,⟨fun b hb=>hb.elim,fun w' hk _=>hK w' hk⟩,hF⟩,ho⟩
theorem HS.frz_all (h:HS w0 noM (all (L++[Go.Fw.frz w0 K])::H) w) (hK:∀w F,Hp w L F→K1 w):HS w0 noM (Go.Fw.frz w0 (fun w=>K1 w∧K w)::H) w:=
  h.conv .here fun F h1=>⟨fun b hb=>Hp.lt h1 b hb,fun w' hk h3=>by
    obtain ⟨F1,F2,hF,hd,h4,h5⟩:=Hp.append (Hp.loc h1 h3)
    obtain ⟨F3,F4,hG,hd',h6,h7⟩:=h5
    exact ⟨hK w' F1 h4,h6.2 w' hk fun _ _=>rfl⟩⟩
theorem HS.frz_it {it:It} (h:HS w0 noM (it::Go.Fw.frz w0 K::H) w) (hK:∀w F,it.sat w F→K1 w):HS w0 noM (Go.Fw.frz w0 (fun w=>K1 w∧K w)::H) w:=by
  have h1:HS w0 noM (all ([it]++[Go.Fw.frz w0 K])::H) w:=HS.shut (L:=[it]++[Go.Fw.frz w0 K]) h
  exact h1.frz_all fun w F ⟨F1,F2,hF,hd,h2,h3⟩=>hK w F1 h2
theorem HS.frz_own {T sz:Nat} {o:Option Addr} {n c:Nat} {xs:List Value} (h:HS w0 noM (own T sz o n c xs::Go.Fw.frz w0 K::H) w):HS w0 noM (Go.Fw.frz w0 (fun w=>Rd w o xs∧K w)::H) w:=
  h.frz_it fun w F h1=>Fw.own_rd h1
end
section
variable {w0:World} {H:List It} {K:World→Prop}
theorem cl_fz {A:Addr} {v:Value} (hm:frz w0 K∈H) (hr:∀w,K w→w.cell? A=some v):Cl (HS w0 noM H) A v:=fun w hH=>hr w (hH.frz hm)
theorem cls_fz {A:Addr} {vs:List Value} (hm:frz w0 K∈H) (hr:∀w,K w→∀i u,vs[i]?=some u→w.cell? (A.add i)=some u):Cls (HS w0 noM H) A vs:=fun w hH i u hu=>hr w (hH.frz hm) i u hu
end
theorem rt1d {P:Program} {N:Nat} {l:List (Nat × Value)} {a:Act} {w:World} {C:World→Prop} {fn:Func} {R:Value→World→Prop} {p:Tmp} {ty sz by_:Nat} {z:Value} {zs:List Value} {fl:List (Nat × Nat)} {q:Addr} {vs:List Value} {e:Exit} [h0:TSt P ty fl] [hi:TIf P ty z zs sz by_] (he:e= .ret∨e= .normal) (hr:fn.results=#[.cell p ty]) (hA:Sl N l a)
    (hp:lk l p=some (.pointer (some q))) (hl:vs.length=sz) (hC:C w) (hc:Cls C q vs) (h:R (.agg vs.toArray) w):bodyPost P fn (fun e w'=>∃v,e= .returned v∧R v w') e a w:=by
  have hg:a.tmps.getD p undef= .pointer (some q):=by simp [Array.getD_eq_getD_getElem?,hA.get p _ hp]
  obtain ⟨ti,h3,h4,h5,h6⟩:=hi.eq
  have hrun:(results fn a.tmps).run P w= .ok (.agg vs.toArray) w:=by
    have e1:(results fn a.tmps).run P w=((asAddr (a.tmps.getD p undef)).run P w).andThen fun b w₁=>(loadVar ty b).run P w₁:=by
      simp only [results,hr]
      simp [Sem.run_bind,Result.andThen]
    rw [e1,hg]
    simp [asAddr,loadVar,run_isAgg_st,sizeOf,typeInfo,h3,h5,←hl,run_loadCells_list w q vs (hc w hC),Result.andThen]
  rcases he with rfl|rfl
  · exact bodyPost_ret hrun hA.defers ⟨_,rfl,h⟩
  · exact bodyPost_end hrun hA.defers ⟨_,rfl,h⟩
end Go.Fw
namespace Go.Proofs.YtenlcdokaadobaaGreatDoor
open Go Go.Fw
set_option linter.unusedVariables false
def encDr (b:Blc):List Value:=encBl b++[.int .i64 0]
theorem encDr_len (b:Blc):(encDr b).length=7:=rfl
def encMkr (o:Option Addr) (n c bJ:Nat):List Value:=[.slice o n c,.map (some bJ)]
def insI (b:Blc):It:=own 59 5 b.is.o b.is.l.length b.is.c (flat encIn b.is.l)
def toI (b:Blc):It:=own 61 2 b.e.to.o b.e.to.l.length b.e.to.c (flat encEd b.e.to.l)
structure RdDr (w:World) (b:Blc):Prop where
  ps:RdV w Fw.encI b.ps
  is:∀i∈b.is.l,RdIn w i
  a:RdV w encAt b.e.a
  ns:RdV w Fw.encI b.e.ns
  to:∀x∈b.e.to.l,RdV w encAt x.a
theorem rdv_nilV {α:Type} (w:World) (enc:α→List Value):RdV w enc nilV:=⟨⟨fun h=>absurd h (Nat.lt_irrefl 0),fun j u h=>absurd h (by show ¬([]:List Value)[j]?=some u;simp)⟩,Nat.le_refl _,Nat.zero_le _⟩
def nbl (v:Vec Int):Blc:=⟨v,nilV,⟨0,nilV,nilV,nilV⟩⟩
theorem insI_nbl (v:Vec Int):insI (nbl v)=own 59 5 none 0 0 []:=rfl
theorem toI_nbl (v:Vec Int):toI (nbl v)=own 61 2 none 0 0 []:=rfl
theorem RdDr.nbl {w:World} {v:Vec Int} (h:RdV w Fw.encI v):RdDr w (nbl v):=⟨h,fun i hi=>absurd hi (List.not_mem_nil),rdv_nilV _ _,rdv_nilV _ _,fun i hi=>absurd hi (List.not_mem_nil)⟩
def AtN (w:World) (o:Option Addr) (j:Nat) (b:AN):Prop:=(∀i u,(encN b)[i]?=some u→w.cell? (sat o (j+i))=some u)∧RdN w b
theorem dr_at {ds:List Blc} {p off:Nat} {d:Blc} {v:Value} (h:ds[p]?=some d) (hv:(encDr d)[off]?=some v):(flat encDr ds)[p*7+off]?=some v:=flat_get encDr_len h hv
theorem bl_dr {d:Blc} {i:Nat} {v:Value} (h:(encBl d)[i]?=some v):(encDr d)[i]?=some v:=by
  unfold encDr
  rw [List.getElem?_append_left (List.getElem?_eq_some_iff.1 h).1]
  exact h
section
attribute [local irreducible] Code.wp wpList Calls Ex Op1 sat bat blk cb own Go.Fw.mp Go.Fw.mpO Go.Fw.mpI Go.Fw.mpE Go.Fw.itr HS Rd Ret wkD Hp Cl Cls Exit.then Exit.inBlock Exit.noGoto bodyPost Go.Fw.flat wk2 Go.Fw.all Go.Fw.owns wpOp
attribute [local irreducible] sk mpK sko mvO entK

theorem fresh_spec (w0 w:World) (H:List It) (bM bJ:Nat) (K:World→Prop) (oD:Option Addr) (cD:Nat) (ds:List Blc) (js:List (Int × Int)) (v:Vec Int) (hK:∀w,K w→RdV w Fw.encI v) (hl:v.l.length≤17592186044416) (hd:ds.length≤2000000) (hH:HS w0 noM (cb bM 174 (encMkr oD (ds).length cD bJ)::own 179 7 oD (ds).length cD (flat encDr (ds))::all ((ds).map insI)::all ((ds).map toI)::frz w0 K::mpI bJ js::H) w) :
    Ret Tryz.prog 74 #[.pointer (some (bat bM 0)),.slice v.o v.l.length v.c] w (fun r w'=>∃(oE:Option Addr) (cE:Nat) (K':World→Prop) (v':Vec Int),r= .int .i64 ds.length∧v'.l=v.l∧HS w0 noM (cb bM 174 (encMkr oE (ds++[nbl v']).length cE bJ)::own 179 7 oE (ds++[nbl v']).length cE (flat encDr (ds++[nbl v']))::all ((ds++[nbl v']).map insI)::all ((ds++[nbl v']).map toI)::frz w0 K'::mpI bJ js::H) w'∧∀w,K' w→K w∧RdV w Fw.encI v'):=by
  (refine ENT (N:=24) Tryz.func74 Tryz.ntmps74 ?_;intro a hA)
  repeat' (first|(first|(refine GT ?_ ?_<;>intro hg<;>clear hA a<;>intro a hA<;>(first|exact FA|replace hg:=dTr hg|replace hg:=dFa hg|skip))|(refine QT ?_;clear hA a;intro a hA)|(first|(refine BT ?_;clear hA hH;rintro _ w ⟨bN,rfl,hH⟩ a hA)|(refine LT ?_;clear hA hH;rintro _ w ⟨oN,rfl,hH⟩ a hA)|(refine AT ?_;clear hA;rintro _ w ⟨oN,cN,rfl,hH2⟩ a hA;clear hH;have hH:=(hH2 _ (by (repeat constructor))).tail;clear hH2)|(refine S0T ?_;clear hH;rintro _ w hH)))|refine CT ?_|(refine DT ?_ ?_<;>intro hc<;>try (exfalso;omega))|(first|(refine DSK ?_;clear hA a;intro a hA)|(first|(refine DLT ?_;clear hA hH;rintro _ w ⟨oN,rfl,hH⟩;refine ⟨STT,?_⟩;intro a hA)|(refine DAT ?_;clear hA;rintro _ w ⟨oN,cN,rfl,hH2⟩;clear hH;have hH:=(hH2 _ (by (repeat constructor))).tail;clear hH2;refine ⟨STT,?_⟩;intro a hA))))
  have hST:HS w0 noM [cb bM 174 (encMkr oD ds.length cD bJ)] w:=HS.left (H1:=[_]) hH
  (refine wp_draw2_HS (H:=[_]) [(0,1),(1,1),(2,1),(3,1),(4,1),(5,1),(6,0),(7,1),(8,1),(9,0),(10,0),(11,1),(12,1)] [13] mixed (by decide +kernel) (hST) ?_;replace hH:=hH.drew)
  clear hST
  repeat' (first|(first|(refine GT ?_ ?_<;>intro hg<;>clear hA a<;>intro a hA<;>(first|exact FA|replace hg:=dTr hg|replace hg:=dFa hg|skip))|(refine QT ?_;clear hA a;intro a hA)|(first|(refine BT ?_;clear hA hH;rintro _ w ⟨bN,rfl,hH⟩ a hA)|(refine LT ?_;clear hA hH;rintro _ w ⟨oN,rfl,hH⟩ a hA)|(refine AT ?_;clear hA;rintro _ w ⟨oN,cN,rfl,hH2⟩ a hA;clear hH;have hH:=(hH2 _ (by (repeat constructor))).tail;clear hH2)|(refine S0T ?_;clear hH;rintro _ w hH)|(refine dr_op hA rfl rfl rfl (by decide) (op_call rfl rfl rfl (cloneI_spec _ v (hK _ (hH.frz MEMT)) hl)) ?_;clear hA;rintro _ w ⟨oV,cV,rfl,hj⟩;replace hH:=hH.join hj;clear hj;refine ⟨hH.pick MEMT,?_⟩;intro a hA)))|refine CT ?_|(refine DT ?_ ?_<;>intro hc<;>try (exfalso;omega))|(first|(refine DSK ?_;clear hA a;intro a hA)|(first|(refine DLT ?_;clear hA hH;rintro _ w ⟨oN,rfl,hH⟩;refine ⟨STT,?_⟩;intro a hA)|(refine DAT ?_;clear hA;rintro _ w ⟨oN,cN,rfl,hH2⟩;clear hH;have hH:=(hH2 _ (by (repeat constructor))).tail;clear hH2;refine ⟨STT,?_⟩;intro a hA))))
  have hlV:=hH.own_le (T:=3) (o:=oV) (.head _)
  repeat' (first|(first|(refine GT ?_ ?_<;>intro hg<;>clear hA a<;>intro a hA<;>(first|exact FA|replace hg:=dTr hg|replace hg:=dFa hg|skip))|(refine XT ?_;apply XE;(first|(apply ex_build (szs:=[(0,6),(6,1)]) (cs:=#[.slice oV v.l.length cV,.slice none 0 0,.int .i64 0,.slice none 0 0,.slice none 0 0,.slice none 0 0,.int .i64 0]);exact run_szl (by (repeat (first|exact SzL.nil|refine SzL.cons ⟨_,rfl,by decide⟩ ?_)));rfl;rfl)|(apply ex_build (szs:=[(0,1),(1,1),(2,4)]) (cs:=#[.slice oV v.l.length cV,.slice none 0 0,.int .i64 0,.slice none 0 0,.slice none 0 0,.slice none 0 0]);exact run_szl (by (repeat (first|exact SzL.nil|refine SzL.cons ⟨_,rfl,by decide⟩ ?_)));rfl;rfl));clear hA a;intro a hA)|(refine QT ?_;clear hA a;intro a hA)|(first|(refine BT ?_;clear hA hH;rintro _ w ⟨bN,rfl,hH⟩ a hA)|(refine LT ?_;clear hA hH;rintro _ w ⟨oN,rfl,hH⟩ a hA)|(refine AT ?_;clear hA;rintro _ w ⟨oN,cN,rfl,hH2⟩ a hA;clear hH;have hH:=(hH2 _ (by (repeat constructor))).tail;clear hH2)|(refine S0T ?_;clear hH;rintro _ w hH)))|refine CT ?_|(refine DT ?_ ?_<;>intro hc<;>try (exfalso;omega))|(first|(refine DSK ?_;clear hA a;intro a hA)|(first|(refine DLT ?_;clear hA hH;rintro _ w ⟨oN,rfl,hH⟩;refine ⟨STT,?_⟩;intro a hA)|(refine DAT ?_;clear hA;rintro _ w ⟨oN,cN,rfl,hH2⟩;clear hH;have hH:=(hH2 _ (by (repeat constructor))).tail;clear hH2;refine ⟨STT,?_⟩;intro a hA))))
  have hsd:(Value.agg #[.slice oV v.l.length cV,.slice none 0 0,.int .i64 0,.slice none 0 0,.slice none 0 0,.slice none 0 0,.int .i64 0])= .agg (encDr (nbl ⟨oV,cV,v.l⟩)).toArray:=rfl
  rw [hsd] at hA
  obtain ⟨dn,hdn⟩:∃dn,dn=nbl ⟨oV,cV,v.l⟩:=⟨_,rfl⟩
  rw [←hdn] at hA
  clear hsd
  (apply dr_op hA rfl rfl rfl (by decide);apply op_sliceLit (xs:=encDr dn) (vs:=[.agg (encDr dn).toArray]);rfl;rfl;exact (Cats.cn (cs:=encDr dn) Cats.nil);rfl;rfl;rfl;exact hH;clear hA hH;rintro _ w ⟨oN,rfl,hH⟩;refine ⟨hH.pick MEMT,?_⟩;intro a hA)
  have hRw:=hH.own_rd (T:=179) (o:=oN) (.head _)
  replace hH:=hH.perm (H':=own 179 7 oD ds.length cD (flat encDr ds)::own 179 7 oN 1 1 (encDr dn)::own 3 1 oV v.l.length cV (flat Fw.encI v.l)::cb bM 174 (encMkr oD ds.length cD bJ)::all (ds.map insI)::all (ds.map toI)::frz w0 K::mpI bJ js::H) PMT
  have hfl:(encDr dn).length=1*7:=rfl
  have hon:(encDr dn).all (·.oneCell')=true:=by rw [hdn];rfl
  (apply dr_op hA rfl rfl rfl (by decide);apply op_append;rfl;rfl;exact hH;exact MEMT;exact hRw;exact hfl;rfl;decide;exact hon;(unfold maxLen;omega);omega;clear hA;rintro _ w ⟨oN,cN,rfl,hH2⟩;clear hH;have hH:=hH2 _ (by (repeat constructor));clear hH2;refine ⟨hH.pick MEMT,?_⟩;intro a hA)
  rw [←flat_snoc] at hH
  repeat' (first|(first|(refine GT ?_ ?_<;>intro hg<;>clear hA a<;>intro a hA<;>(first|exact FA|replace hg:=dTr hg|replace hg:=dFa hg|skip))|(refine QT ?_;clear hA a;intro a hA)|(first|(refine BT ?_;clear hA hH;rintro _ w ⟨bN,rfl,hH⟩ a hA)|(refine LT ?_;clear hA hH;rintro _ w ⟨oN,rfl,hH⟩ a hA)|(refine AT ?_;clear hA;rintro _ w ⟨oN,cN,rfl,hH2⟩ a hA;clear hH;have hH:=(hH2 _ (by (repeat constructor))).tail;clear hH2)|(refine S0T ?_;clear hH;rintro _ w hH)|(apply dr_op03 hA rfl rfl rfl;apply op_store_fld (cs':=encMkr oN (ds.length+1) cN bJ);rfl;rfl;rfl;exact hH;(repeat constructor);clear hH;rintro _ w hH)))|refine CT ?_|(refine DT ?_ ?_<;>intro hc<;>try (exfalso;omega))|(first|(refine DSK ?_;clear hA a;intro a hA)|(first|(refine DLT ?_;clear hA hH;rintro _ w ⟨oN,rfl,hH⟩;refine ⟨STT,?_⟩;intro a hA)|(refine DAT ?_;clear hA;rintro _ w ⟨oN,cN,rfl,hH2⟩;clear hH;have hH:=(hH2 _ (by (repeat constructor))).tail;clear hH2;refine ⟨STT,?_⟩;intro a hA))))
  have hlV:=hH.own_le (T:=3) (o:=oV) MEMT
  replace hH:=(hH.rm 1).perm (H':=own 3 1 oV v.l.length cV (flat Fw.encI v.l)::frz w0 K::cb bM 174 (encMkr oN (ds.length+1) cN bJ)::own 179 7 oN (ds.length+1) cN (flat encDr (ds++[dn]))::all (ds.map insI)::all (ds.map toI)::mpI bJ js::H) PMT
  replace hH:=hH.frz_own
  have hI:insI dn=own 59 5 none 0 0 []:=by rw [hdn];exact insI_nbl _
  have hT:toI dn=own 61 2 none 0 0 []:=by rw [hdn];exact toI_nbl _
  replace hH:=((((hH.nil_own 59 5)).perm (H':=own 59 5 none 0 0 []::all (ds.map insI)::frz w0 (fun w=>Rd w oV (flat Fw.encI v.l)∧K w)::cb bM 174 (encMkr oN (ds.length+1) cN bJ)::own 179 7 oN (ds.length+1) cN (flat encDr (ds++[dn]))::all (ds.map toI)::mpI bJ js::H) PMT)).pushA
  replace hH:=((((hH.nil_own 61 2)).perm (H':=own 61 2 none 0 0 []::all (ds.map toI)::frz w0 (fun w=>Rd w oV (flat Fw.encI v.l)∧K w)::cb bM 174 (encMkr oN (ds.length+1) cN bJ)::own 179 7 oN (ds.length+1) cN (flat encDr (ds++[dn]))::all (ds.map insI++[own 59 5 none 0 0 []])::mpI bJ js::H) PMT)).pushA
  rw [←hI,←hT] at hH
  refine rt1 (.inl rfl) rfl hA rfl ⟨oN,cN,fun w=>Rd w oV (flat Fw.encI v.l)∧K w,⟨oV,cV,v.l⟩,rfl,rfl,?_,fun w h=>⟨h.2,h.1,hlV.1,hlV.2⟩⟩
  rw [←hdn,List.map_append,List.map_append,List.length_append]
  exact hH.perm PMT
end
mutual
def ShN:AN→Prop
  | .mk k x xs n ns r a ko kc kids=>((1≤k∧k≤8)∧a.l.length≤65536∧r.a.l.length≤65536∧(k=1→kids.length=1)∧(k=7→kids.length=2))∧ShNs kids
def ShNs:List AN→Prop
  | []=>True
  |b::l=>ShN b∧ShNs l
end
theorem shns_mem:∀{l:List AN},ShNs l→∀b∈l,ShN b
  | [],_,b,h=>absurd h (List.not_mem_nil)
  | c::l,hl,b,h=>by
    rw [ShNs] at hl
    exact (List.mem_cons.1 h).elim (fun e=>e▸hl.1) (shns_mem hl.2 b)
section
variable {g:Grs} {la:List Int} {mine:Int}
theorem ats_len {l:List Atm} {s s':CS} (hs:CsOk s) (h:atsF g l s=some s'):l.length≤65536:=by
  unfold atsF at h
  split at h
  · next ha=>
    rcases ha.2 with rfl|h2
    · exact Nat.zero_le _
    · have:=hs.p0;omega
  · cases h
theorem kids_sh:∀(l:List AN),(∀b∈l,∀(d:Int) (s s':CS),CsOk s→bodyF g la mine b d s=some s'→ShN b)→∀(d:Int) (s s':CS),CsOk s→kidsF g la mine l d s=some s'→ShNs l
  | [],_,d,s,s',hs,h=>by rw [ShNs];trivial
  | b::l,ih,d,s,s',hs,h=>by
    rw [kidsF] at h
    obtain ⟨s1,h1,h2⟩:=Option.bind_eq_some_iff.1 h
    rw [ShNs]
    exact ⟨ih b (List.mem_cons_self ..) d s s1 hs h1,kids_sh l (fun b hb=>ih b (List.mem_cons_of_mem _ hb)) d s1 s' (bodyF_ok _ _ _ _ hs h1) h2⟩
theorem sh_of:∀b:AN,∀(d:Int) (s s':CS),CsOk s→bodyF g la mine b d s=some s'→ShN b:=an_ind fun k x xs n ns r a ko kc kids ih=>by
  intro d s s' hs he
  rw [bodyF] at he
  obtain ⟨s1,h1,he⟩:=Option.bind_eq_some_iff.1 he
  have hcp:=preF_ok hs h1
  have hal:a.l.length≤65536:=by
    unfold preF at h1
    split at h1
    · next hc=>exact ats_len (s:={s with p:=s.p+1}) ⟨by have:=hs.p0;show 0≤s.p+1;omega,hc.2.1,hs.now⟩ h1
    · cases h1
  obtain ⟨⟨hk,hsh⟩,hat,rfl⟩:=pre_of h1
  rw [ShN]
  have hra0:¬k=1→r.a.l.length≤65536:=fun h=>by
    rcases hsh.r with h2|h2
    · exact absurd h2 h
    · rw [h2.2.2.2];exact Nat.zero_le _
  by_cases k1:k=1
  · rw [if_pos k1] at he
    obtain ⟨s2,h2,he⟩:=Option.bind_eq_some_iff.1 he
    obtain ⟨s2',h2a,h2b⟩:=Option.bind_eq_some_iff.1 h2
    obtain ⟨s3,h3,rfl⟩:=Option.map_eq_some_iff.1 he
    obtain ⟨b0,rfl⟩:∃b0,kids=[b0]:=List.length_eq_one_iff.1 (hsh.kids.1 k1)
    rw [firstF] at h3
    have hra:r.a.l.length≤65536:=by
      unfold stepF at h2a
      split at h2a
      · exact ats_len hcp h2a
      · cases h2a
    refine ⟨⟨hk,hal,hra,fun _=>rfl,fun h=>absurd (k1.symm.trans h) (by decide)⟩,?_⟩
    rw [ShNs,ShNs]
    exact ⟨ih b0 (List.mem_singleton.2 rfl) _ _ _ (bindF_ok (stepF_ok hcp h2a) h2b) h3,trivial⟩
  rw [if_neg k1] at he
  have hra:=hra0 k1
  by_cases k7:k=7
  · rw [if_pos k7] at he
    obtain ⟨s2,h2,he⟩:=Option.bind_eq_some_iff.1 he
    obtain ⟨b0,b1,rfl⟩:∃b0 b1,kids=[b0,b1]:=two_of (hsh.kids.2.1 (.inr k7))
    rw [joinF] at he
    obtain ⟨s3,h3,he⟩:=Option.bind_eq_some_iff.1 he
    obtain ⟨s5,h5,rfl⟩:=Option.map_eq_some_iff.1 he
    rw [firstF] at h5
    have hcs2:=newJ_ok hcp h2
    refine ⟨⟨hk,hal,hra,fun h=>absurd h k1,fun _=>rfl⟩,?_⟩
    rw [ShNs,ShNs,ShNs]
    exact ⟨ih b0 (List.mem_cons_self ..) _ _ _ hcs2 h3,ih b1 (List.mem_cons_of_mem _ (List.mem_cons_self ..)) _ _ _ (bodyF_ok _ _ _ _ hcs2 h3).unb.op h5,trivial⟩
  rw [if_neg k7] at he
  refine ⟨⟨hk,hal,hra,fun h=>absurd h k1,fun h=>absurd h k7⟩,?_⟩
  by_cases k8:k=8
  · obtain rfl:kids=[]:=List.length_eq_zero_iff.1 (hsh.kids.2.2 (.inr (.inr (.inr k8))))
    rw [ShNs];trivial
  rw [if_neg k8] at he
  by_cases k6:k=6
  · rw [if_pos k6] at he
    split at he
    · exact kids_sh kids ih _ _ _ hcp he
    · cases he
  · rw [if_neg k6] at he
    exact kids_sh kids ih _ _ _ hcp he
end
def Lim (D:List Blc) (m:Nat):Prop:=D.length+m≤2000000∧∀d∈D,d.is.l.length+m≤2000000
theorem Lim.le {D:List Blc} {m n:Nat} (h:Lim D m) (hn:n≤m):Lim D n:=⟨by have:=h.1;omega,fun d hd=>by have:=h.2 d hd;omega⟩
theorem Lim.new {D:List Blc} {m:Nat} (h:Lim D (m+1)) (ps:List Int):Lim (D++[newB ps]) m:=⟨by have:=h.1;rw [List.length_append,List.length_singleton];omega,fun d hd=>by
  rcases List.mem_append.1 hd with hd|hd
  · have:=h.2 d hd;omega
  · rw [List.mem_singleton] at hd
    subst hd
    have:=h.1
    show 0+m≤_
    omega⟩
theorem mem_modify {α:Type} {l:List α} {p:Nat} {f:α→α} {x:α} (h:x∈l.modify p f):x∈l∨∃y∈l,x=f y:=by
  obtain ⟨i,hi⟩:=List.mem_iff_getElem?.1 h
  rw [List.getElem?_modify] at hi
  obtain ⟨y,hy,rfl⟩:=Option.map_eq_some_iff.1 hi
  split
  · exact .inr ⟨y,List.mem_of_getElem? hy,rfl⟩
  · exact .inl (List.mem_of_getElem? hy)
theorem Lim.add {D:List Blc} {m p:Nat} {x:Int} {r:Stp} (h:Lim D (m+1)):Lim (D.modify p (addI x r)) m:=⟨by have:=h.1;rw [List.length_modify];omega,fun d hd=>by
  rcases mem_modify hd with hd| ⟨y,hy,rfl⟩
  · have:=h.2 d hd;omega
  · have:=h.2 y hy
    show (y.is.l++[_]).length+m≤_
    rw [List.length_append,List.length_singleton]
    omega⟩
theorem Lim.end_ {D:List Blc} {m p:Nat} {e:En} (h:Lim D m):Lim (D.modify p (endB e)) m:=⟨by have:=h.1;rw [List.length_modify];omega,fun d hd=>by
  rcases mem_modify hd with hd| ⟨y,hy,rfl⟩
  · exact h.2 d hd
  · exact h.2 y hy⟩
theorem lim_kids:∀l:List AN,ShNs l→(∀b∈l,ShN b→∀(p:Nat) (S:FS) (m:Nat),Lim S.1 (szN b - 1+m)→Lim (fillF b p S).1 m∧S.1.length≤(fillF b p S).1.length)→∀(S:FS) (es:List Edg) (m:Nat),Lim S.1 (szNs l+m)→Lim (fillK l S es).1.1 m∧S.1.length≤(fillK l S es).1.1.length
  | [],_,_,S,es,m,h=>by
    rw [fillK]
    exact ⟨h.le (by omega),Nat.le_refl _⟩
  | b::l,hs,ih,S,es,m,h=>by
    rw [fillK]
    rw [szNs] at h
    rw [ShNs] at hs
    have hp:=szN_pos b
    obtain ⟨h1,h2⟩:=ih b (List.mem_cons_self ..) hs.1 S.1.length (S.1++[newB []],S.2) (szNs l+m) ((h.le (n:=szN b - 1+(szNs l+m)+1) (by omega)).new [])
    obtain ⟨h3,h4⟩:=lim_kids l hs.2 (fun b hb=>ih b (List.mem_cons_of_mem _ hb)) _ (es++[⟨S.1.length,lv []⟩]) m h1
    dsimp only at h2
    rw [List.length_append,List.length_singleton] at h2
    exact ⟨h3,by omega⟩
theorem lim_fill:∀(b:AN),ShN b→∀(p:Nat) (S:FS) (m:Nat),Lim S.1 (szN b - 1+m)→Lim (fillF b p S).1 m∧S.1.length≤(fillF b p S).1.length:=an_ind fun k x xs n ns r a ko kc kids ih=>by
  intro hsh p S m h
  obtain ⟨D,js⟩:=S
  dsimp only at h ⊢
  rw [szN] at h
  rw [ShN] at hsh
  obtain ⟨⟨hk,_,_,hk1,hk7⟩,hks⟩:=hsh
  rw [fillF]
  by_cases k1:k=1
  · rw [if_pos k1]
    obtain ⟨b,rfl⟩:∃b0,kids=[b0]:=List.length_eq_one_iff.1 (hk1 k1)
    rw [szNs] at h
    have hp:=szN_pos b
    rw [fill1]
    obtain ⟨h1,h2⟩:=ih b (List.mem_cons_self ..) (shns_mem hks b (List.mem_cons_self ..)) p (D.modify p (addI x r),js) m (h.le (n:=szN b - 1+m+1) (by omega)).add
    dsimp only at h2
    rw [List.length_modify] at h2
    exact ⟨h1,h2⟩
  rw [if_neg k1]
  by_cases k7:k=7
  · rw [if_pos k7]
    obtain ⟨b0,b1,rfl⟩:∃b0 b1,kids=[b0,b1]:=two_of (hk7 k7)
    rw [szNs,szNs,szNs] at h
    have hp0:=szN_pos b0
    have hp1:=szN_pos b1
    rw [fillJ,fill1]
    have m1:b1∈[b0,b1]:=List.mem_cons_of_mem _ (List.mem_cons_self ..)
    obtain ⟨h1,h2⟩:=ih b0 (List.mem_cons_self ..) (shns_mem hks b0 (List.mem_cons_self ..)) D.length (D++[newB xs.l],setI js n D.length) (szN b1 - 1+m) ((h.le (n:=szN b0 - 1+(szN b1 - 1+m)+1) (by omega)).new xs.l)
    obtain ⟨h3,h4⟩:=ih b1 m1 (shns_mem hks b1 m1) p _ m h1
    dsimp only at h2
    rw [List.length_append,List.length_singleton] at h2
    exact ⟨h3,by dsimp only;omega⟩
  rw [if_neg k7]
  by_cases k8:k=8
  · rw [if_pos k8]
    exact ⟨(h.le (by omega)).end_,by rw [List.length_modify];exact Nat.le_refl _⟩
  rw [if_neg k8]
  by_cases k56:k=5∨k=6
  · rw [if_pos k56]
    obtain ⟨h1,h2⟩:=lim_kids kids hks ih (D,js) [] m (h.le (by omega))
    exact ⟨h1.end_,by rw [List.length_modify];exact h2⟩
  · rw [if_neg k56]
    exact ⟨(h.le (by omega)).end_,by rw [List.length_modify];exact Nat.le_refl _⟩
theorem lim_st {ds:List Blc} {m:Nat}:Lim (ds.map stB) m↔Lim ds m:=by
  unfold Lim
  rw [List.length_map]
  refine and_congr Iff.rfl ⟨fun h d hd=>?_,fun h d hd=>?_⟩
  · have:=h (stB d) (List.mem_map.2 ⟨d,hd,rfl⟩)
    have e:(stB d).is.l.length=d.is.l.length:=List.length_map ..
    omega
  · obtain ⟨d',hd',rfl⟩:=List.mem_map.1 hd
    have e:(stB d').is.l.length=d'.is.l.length:=List.length_map ..
    have:=h d' hd'
    omega
theorem set_st {ds:List Blc} {p:Nat} {d d':Blc} {f:Blc→Blc} (h:ds[p]?=some d) (hf:stB d'=f (stB d)):(ds.set p d').map stB=(ds.map stB).modify p f:=by
  apply List.ext_getElem?
  intro i
  rw [List.getElem?_map,List.getElem?_modify,List.getElem?_map,List.getElem?_set]
  by_cases hi:p=i
  · subst hi
    have hl:=(List.getElem?_eq_some_iff.1 h).1
    rw [if_pos rfl,if_pos hl,h]
    simp [hf]
  · rw [if_neg hi]
    cases ds[i]? with
    |none=>rfl
    |some y=>show some (stB y)=some (if p=i then f (stB y) else stB y);rw [if_neg hi]
end Go.Proofs.YtenlcdokaadobaaGreatDoor
