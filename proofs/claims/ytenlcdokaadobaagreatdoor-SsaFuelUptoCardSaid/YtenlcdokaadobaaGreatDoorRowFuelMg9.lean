/-
  ssa.May's check: a block, exactly. Conditions: none.
-/
import Derived.Test.YtenlcdokaadobaaGreatDoorRowFuelMg8
namespace Go.Proofs.YtenlcdokaadobaaGreatDoor
open Go Go.Fw
set_option linter.unusedVariables false
theorem at_iff {g : Grs} {ks : List Int} {S : Int → Prop} {a : Atm} (hs : ∀ x, x ∈ ks ↔ S x) : atOk g ks a ↔ atS g S a := by
  unfold atOk atS
  rw [hs]
theorem at_of {g : Grs} {ks : List Int} {S : Int → Prop} {a : Atm} (hs : ∀ x, x ∈ ks ↔ S x) (h : atOk g ks a) : atS g S a := (at_iff hs).1 h
def Sk (k0 : List Int) (x : Int) : Prop := x ∈ k0
def setA (ss : List (Option (Nat × List Int))) (n : Nat) : List Int := kso ((ss[n]?).getD none)
def isA (ss : List (Option (Nat × List Int))) (n : Nat) : Prop := ((ss[n]?).getD none).isSome = true
structure ThR (th : List (Option (Nat × List Int))) (S : Int → Prop) (l : List Edg) (th' : List (Option (Nat × List Int))) : Prop where
  len : th'.length = th.length
  come : ∀ t ∈ l, ∀ m : Nat, t.b = m → isA th' m ∧ ∀ x ∈ setA th' m, S x
  sub : ∀ m x, x ∈ setA th' m → (isA th m → x ∈ setA th m) ∧ (¬ isA th m → S x)
  keep : ∀ m, isA th m → isA th' m
  from_ : ∀ m : Nat, isA th' m → isA th m ∨ ∃ t ∈ l, t.b = (m : Int)
  all_ : ∀ (m : Nat) (x : Int), isA th' m → (isA th m → x ∈ setA th m) → ((∃ t ∈ l, t.b = (m : Int)) → S x) → x ∈ setA th' m
theorem thR_0 (th : List (Option (Nat × List Int))) (S : Int → Prop) : ThR th S [] th :=
  ⟨rfl, fun t ht => absurd ht List.not_mem_nil, fun m x h => ⟨fun _ => h, fun hn => (by
    unfold isA at hn
    unfold setA at h
    cases h2 : (th[m]?).getD none with
    | none => rw [h2] at h; exact absurd h List.not_mem_nil
    | some p => rw [h2] at hn; exact absurd rfl hn)⟩, fun m h => h, fun m h => .inl h, fun m x hi h _ => h hi⟩
theorem setA_set {th : List (Option (Nat × List Int))} {t : Nat} (ht : t < th.length) (y : Option (Nat × List Int)) (m : Nat) : ((th.set t y)[m]?).getD none = if m = t then y else (th[m]?).getD none := by
  by_cases h : m = t
  · subst h
    rw [if_pos rfl, List.getElem?_set_self ht]
    rfl
  · rw [if_neg h, List.getElem?_set_ne (fun e => h e.symm)]
theorem thR_next {th th1 : List (Option (Nat × List Int))} {S : Int → Prop} {l : List Edg} {t : Edg} {m : Nat} {b : Nat} {ks ks' : List Int} {st : Option (Nat × List Int)} (h : ThR th S l th1) (htb : t.b = m) (hm : m < th1.length) (hst : th1[m]? = some st) (hks : ∀ x, x ∈ ks ↔ S x)
    (hk : ∀ x, x ∈ ks' ↔ x ∈ ks ∧ (st = none ∨ x ∈ kso st)) : ThR th S (l ++ [t]) (th1.set m (some (b, ks'))) := by
  have hg := setA_set hm (some (b, ks'))
  have hsA : setA th1 m = kso st := by unfold setA; rw [hst]; rfl
  have hiA : isA th1 m ↔ st.isSome = true := by unfold isA; rw [hst]; exact Iff.rfl
  refine ⟨by rw [List.length_set]; exact h.len, fun t' ht' m' hm' => ?_, fun m' x hx => ?_, fun m' hi => ?_, fun m' hi => ?_, fun m' x hi h1 h2 => ?_⟩
  · unfold isA setA
    rw [hg]
    by_cases he : m' = m
    · rw [if_pos he]
      exact ⟨rfl, fun x hx => (hks x).1 ((hk x).1 hx).1⟩
    · rw [if_neg he]
      rcases List.mem_append.1 ht' with h1 | h1
      · exact h.come t' h1 m' hm'
      · rw [List.mem_singleton] at h1
        subst h1
        exact absurd (by omega) he
  · unfold setA at hx
    rw [hg] at hx
    by_cases he : m' = m
    · rw [if_pos he] at hx
      subst he
      have h1 := (hk x).1 hx
      have hS : S x := (hks x).1 h1.1
      refine ⟨fun hi => ?_, fun _ => hS⟩
      have h2 : st.isSome = true := hiA.1 (h.keep _ hi)
      have h3 : x ∈ kso st := h1.2.resolve_left (fun e => (by rw [e] at h2; cases h2))
      exact (h.sub m' x (by rw [hsA]; exact h3)).1 hi
    · rw [if_neg he] at hx
      exact h.sub m' x hx
  · unfold isA
    rw [hg]
    by_cases he : m' = m
    · rw [if_pos he]; rfl
    · rw [if_neg he]; exact h.keep m' hi
  · unfold isA at hi
    rw [hg] at hi
    by_cases he : m' = m
    · exact .inr ⟨t, List.mem_append_right _ (.head _), by omega⟩
    · rw [if_neg he] at hi
      exact (h.from_ m' hi).imp id fun ⟨t', h1, h2⟩ => ⟨t', List.mem_append_left _ h1, h2⟩
  · unfold setA
    rw [hg]
    by_cases he : m' = m
    · rw [if_pos he]
      subst he
      have hS : S x := h2 ⟨t, List.mem_append_right _ (.head _), htb⟩
      refine (hk x).2 ⟨(hks x).2 hS, ?_⟩
      cases hst2 : st with
      | none => exact .inl rfl
      | some p =>
        refine .inr ?_
        have h3 := h.all_ m' x (hiA.2 (by rw [hst2]; rfl)) h1 fun _ => hS
        rw [hsA, hst2] at h3
        exact h3
    · rw [if_neg he]
      refine h.all_ m' x ?_ h1 fun ⟨t', h3, h4⟩ => h2 ⟨t', List.mem_append_left _ h3, h4⟩
      unfold isA at hi ⊢
      rw [hg, if_neg he] at hi
      exact hi
theorem nodup_len_le {l : List Int} (hn : l.Nodup) (hr : ∀ x ∈ l, 2 ≤ x ∧ x ≤ 1048576) : l.length ≤ 1048577 := by
  have key : ∀ {l m : List Int}, l.Nodup → (∀ x ∈ l, x ∈ m) → l.length ≤ m.length := by
    intro l
    induction l with
    | nil => intro m _ _; exact Nat.zero_le _
    | cons x l ih =>
      intro m hn hs
      have hx := hs x (.head _)
      have := ih (m := m.erase x) (List.nodup_cons.1 hn).2 fun y hy => (List.mem_erase_of_ne fun (e : y = x) => (List.nodup_cons.1 hn).1 (e ▸ hy)).2 (hs y (.tail _ hy))
      rw [List.length_erase_of_mem hx] at this
      have := List.length_pos_of_mem hx
      rw [List.length_cons]
      omega
  have := key (m := (List.range 1048577).map fun k : Nat => (k : Int)) hn fun x hx => by
    have h1 := hr x hx
    exact List.mem_map.2 ⟨x.toNat, List.mem_range.2 (by omega), by omega⟩
  rw [List.length_map, List.length_range] at this
  exact this
theorem EvOk.add {es : List Int} {x : Int} (h : EvOk es) (hb : bindP es x) : EvOk (es ++ [x]) := by
  refine ⟨List.nodup_append.2 ⟨h.nd, List.nodup_cons.2 ⟨List.not_mem_nil, List.nodup_nil⟩, fun a ha b hb' e => ?_⟩, fun y hy => ?_⟩
  · rw [List.mem_singleton] at hb'
    subst hb'
    exact hb.2.2 (e ▸ ha)
  · rcases List.mem_append.1 hy with h1 | h1
    · exact h.rg y h1
    · rw [List.mem_singleton] at h1
      subst h1
      exact ⟨hb.1, hb.2.1⟩
theorem EvOk.le {es : List Int} (h : EvOk es) : es.length ≤ 1048577 := nodup_len_le h.nd h.rg
theorem map_x_snoc {l : List Ins} {j : Nat} {x : Ins} (h : l[j]? = some x) : (l.take (j + 1)).map Ins.x = (l.take j).map Ins.x ++ [x.x] := by rw [take_snoc h, List.map_append]; rfl
theorem now_ps {k0 ks : List Int} {l : List Int} {j : Nat} {x : Int} (hx : l[j]? = some x) (h : ∀ y, y ∈ ks ↔ y ∈ k0 ∨ y ∈ l.take j) (y : Int) : y ∈ sadd ks x ↔ y ∈ k0 ∨ y ∈ l.take (j + 1) := by
  rw [mem_sadd, h, take_snoc hx, List.mem_append, List.mem_singleton, or_assoc]
theorem now_0 {k0 ks : List Int} {bl : Blc} (h : ∀ y, y ∈ ks ↔ y ∈ k0 ∨ y ∈ bl.ps.l) (y : Int) : y ∈ ks ↔ nowS (Sk k0) bl 0 y := by
  rw [h]
  unfold nowS Sk
  rw [List.take_zero]
  simp
theorem now_next {k0 ks : List Int} {bl : Blc} {i : Nat} {x : Ins} (hx : bl.is.l[i]? = some x) (h : ∀ y, y ∈ ks ↔ nowS (Sk k0) bl i y) (y : Int) : y ∈ sadd ks x.x ↔ nowS (Sk k0) bl (i + 1) y := by
  rw [mem_sadd, h]
  unfold nowS
  rw [map_x_snoc hx, List.mem_append, List.mem_singleton, or_assoc, or_assoc]
theorem sub_st (x : Ins) (i : Nat) (v : Value) (h : (encSt x.r)[i]? = some v) : (encIn x)[0 + 1 + i]? = some v := by rw [Nat.zero_add, Nat.add_comm]; exact h
theorem sub_en (b : Blc) (i : Nat) (v : Value) (h : (encEn b.e)[i]? = some v) : (encBl b)[0 + 2 + i]? = some v := by rw [Nat.zero_add, Nat.add_comm]; exact h
theorem blk_at {l : List Blc} {k : Nat} (h : k < l.length) : (flat encBl l)[k * 6 + 0]? = some (.slice (l.getD k blc0).ps.o (l.getD k blc0).ps.l.length (l.getD k blc0).ps.c) := by
  refine flat_get (off := 0) encBl_len (List.getElem?_eq_getElem h) ?_
  rw [List.getD_eq_getElem?_getD, List.getElem?_eq_getElem h]
  rfl
theorem eds_next {P : Edg → Prop} {l : List Edg} {j : Nat} {t : Edg} (ht : l[j]? = some t) (h : ∀ t ∈ l.take j, P t) (hp : P t) : ∀ t ∈ l.take (j + 1), P t := by
  intro s hs
  rw [take_snoc ht] at hs
  rcases List.mem_append.1 hs with h1 | h1
  · exact h s h1
  · rw [List.mem_singleton] at h1
    exact h1 ▸ hp
theorem map_none (th : List (Option (Nat × List Int))) (n : Nat) : (th.map sko).set n (all []) = (th.set n none).map sko := by rw [List.map_set]; rfl
theorem ev_ps {es : List Int} {l : List Int} {j : Nat} {x : Int} (hx : l[j]? = some x) : es ++ l.take j ++ [x] = es ++ l.take (j + 1) := by rw [take_snoc hx, List.append_assoc]
theorem ev_is {es q : List Int} {l : List Ins} {j : Nat} {x : Ins} (hx : l[j]? = some x) : es ++ q ++ (l.take j).map Ins.x ++ [x.x] = es ++ q ++ (l.take (j + 1)).map Ins.x := by rw [map_x_snoc hx, List.append_assoc]
theorem ev_end (es : List Int) (bl : Blc) : es ++ bl.ps.l ++ (bl.is.l.take bl.is.l.length).map Ins.x = es ++ bvs bl := by rw [List.take_length, List.append_assoc]; rfl
theorem ins_next {g : Grs} {f : Gr} {la k0 ks : List Int} {bl : Blc} {i : Nat} {x : Ins} (hx : bl.is.l[i]? = some x) (h : ∀ k x, bl.is.l[k]? = some x → k < i → FormP g la f.caps x.r ∧ ∀ a ∈ x.r.a.l, atS g (nowS (Sk k0) bl k) a) (hks : ∀ y, y ∈ ks ↔ nowS (Sk k0) bl i y) (hF : FormP g la f.caps x.r) (ha : ∀ a ∈ x.r.a.l, atOk g ks a) :
    ∀ k x, bl.is.l[k]? = some x → k < i + 1 → FormP g la f.caps x.r ∧ ∀ a ∈ x.r.a.l, atS g (nowS (Sk k0) bl k) a := by
  intro k y hk hlt
  by_cases he : k = i
  · subst he
    rw [hx] at hk
    cases hk
    exact ⟨hF, fun a hay => at_of hks (ha a hay)⟩
  · exact h k y hk (by omega)
def insN (l : List Ins) : Nat := (l.map fun i => 1 + i.r.a.l.length).sum
def edgN (l : List Edg) : Nat := (l.map fun t => 1 + t.a.l.length).sum
theorem blkN_eq (bl : Blc) : blkN bl = 2 + bl.ps.l.length + insN bl.is.l + bl.e.a.l.length + edgN bl.e.to.l := rfl
theorem insN_next {l : List Ins} {i : Nat} {x : Ins} (h : l[i]? = some x) : insN (l.take (i + 1)) = insN (l.take i) + 1 + x.r.a.l.length := by
  unfold insN
  rw [take_snoc h, List.map_append, List.sum_append]
  simp; omega
theorem edgN_next {l : List Edg} {i : Nat} {x : Edg} (h : l[i]? = some x) : edgN (l.take (i + 1)) = edgN (l.take i) + 1 + x.a.l.length := by
  unfold edgN
  rw [take_snoc h, List.map_append, List.sum_append]
  simp; omega
theorem sum_take_le (l : List Nat) (i : Nat) : (l.take i).sum ≤ l.sum := by
  have h := congrArg List.sum (List.take_append_drop i l)
  rw [List.sum_append] at h
  omega
theorem insN_le (l : List Ins) (i : Nat) : insN (l.take i) ≤ insN l := by
  unfold insN
  rw [List.map_take]
  exact sum_take_le _ _
theorem edgN_le (l : List Edg) (i : Nat) : edgN (l.take i) ≤ edgN l := by
  unfold edgN
  rw [List.map_take]
  exact sum_take_le _ _
theorem insN_at {l : List Ins} {i : Nat} {x : Ins} (h : l[i]? = some x) : insN (l.take i) + 1 + x.r.a.l.length ≤ insN l := by
  rw [← insN_next h]; exact insN_le l _
theorem edgN_at {l : List Edg} {i : Nat} {x : Edg} (h : l[i]? = some x) : edgN (l.take i) + 1 + x.a.l.length ≤ edgN l := by
  rw [← edgN_next h]; exact edgN_le l _
structure BlkC (g : Grs) (f : Gr) (la : List Int) (n : Nat) (bl : Blc) (th : List (Option (Nat × List Int))) (es : List Int) (p : Int) : Prop where
  come : isA th n
  blk : BlkP g f la n bl (Sk (setA th n))
  ev : EvOk (es ++ bvs bl)
  size : p + blkN bl ≤ 65536
theorem ev_bind {a b : List Int} {x : Int} (h : EvOk (a ++ x :: b)) : bindP a x := by
  have h1 := h.rg x (List.mem_append_right _ (.head _))
  refine ⟨h1.1, h1.2, fun hx => ?_⟩
  have h2 := (List.nodup_append.1 h.nd).2.2 x hx x (.head _)
  exact h2 rfl
theorem ev_ps_no {es : List Int} {bl : Blc} {j : Nat} {x : Int} (hx : bl.ps.l[j]? = some x) (h : EvOk (es ++ bvs bl)) : bindP (es ++ bl.ps.l.take j) x := by
  have e : es ++ bvs bl = (es ++ bl.ps.l.take j) ++ x :: (bl.ps.l.drop (j + 1) ++ bl.is.l.map Ins.x) := by
    have h1 : bl.ps.l = bl.ps.l.take j ++ x :: bl.ps.l.drop (j + 1) := by
      obtain ⟨hj, rfl⟩ := List.getElem?_eq_some_iff.1 hx
      rw [List.getElem_cons_drop, List.take_append_drop]
    unfold bvs
    conv => lhs; rw [h1]
    simp
  rw [e] at h
  exact ev_bind h
theorem ev_is_no {es : List Int} {bl : Blc} {j : Nat} {x : Ins} (hx : bl.is.l[j]? = some x) (h : EvOk (es ++ bvs bl)) : bindP (es ++ bl.ps.l ++ (bl.is.l.take j).map Ins.x) x.x := by
  have e : es ++ bvs bl = (es ++ bl.ps.l ++ (bl.is.l.take j).map Ins.x) ++ x.x :: (bl.is.l.drop (j + 1)).map Ins.x := by
    have h1 : bl.is.l = bl.is.l.take j ++ x :: bl.is.l.drop (j + 1) := by
      obtain ⟨hj, rfl⟩ := List.getElem?_eq_some_iff.1 hx
      rw [List.getElem_cons_drop, List.take_append_drop]
    unfold bvs
    conv => lhs; rw [h1]
    simp
  rw [e] at h
  exact ev_bind h
theorem ats_of {g : Grs} {ks : List Int} {S : Int → Prop} {p : Int} {l : List Atm} (hs : ∀ x, x ∈ ks ↔ S x) (h : ∀ a ∈ l, atS g S a) (hp : p + l.length ≤ 65536) : atsOk g ks p l := ⟨fun a ha => (at_iff hs).2 (h a ha), .inr hp⟩
set_option maxRecDepth 10000 attribute [local irreducible] Code.wp wpList Calls Ex Op1 sat bat blk cb own Go.Fw.mp Go.Fw.mpO Go.Fw.mpI Go.Fw.mpE Go.Fw.itr HS Rd Ret wkD Hp Cl Cls Exit.then Exit.inBlock Exit.noGoto bodyPost Go.Fw.flat wk2 Go.Fw.all Go.Fw.owns wpOp
attribute [local irreducible] sk mpK sko mvO entK atOk atS nowS

set_option maxHeartbeats 16000000 in
theorem block_spec (w0 w : World) (H : List It) (c : Ck) (bC n : Nat) (p : Int) (es la : List Int) (tc th : List (Option (Nat × List Int))) (bl : Blc) (hH : HS w0 noM (cb bC 112 (encC c (p)) :: sk c.bE es :: own 109 1 c.oT c.nT c.cT (flat encO (tc)) :: all (th.map sko) :: H) w) (hm : own 3 1 c.oA c.nA c.cA (flat Fw.encI la) ∈ H) (hla : c.nA = la.length) (hla9 : la.length ≤ 9223372036854775807)
    (hR : RdG w0 c.f) (hbl : c.f.bs.l[n]? = some bl) (hto : bl.e.to.l.length ≤ 1048576) (hn : c.nT = th.length) (hn2 : tc.length = th.length) (hn3 : th.length = c.f.bs.l.length) (hag : ∀ m, n ≤ m → tc[m]? = th[m]?) (hp0 : 0 ≤ p) (hp1 : p ≤ 65536) (hev : EvOk es) :
    Ret Tryz.prog 33 #[.pointer (some (bat bC 0)), .int .i64 n] w (fun v w' => (v = .bool false ∧ ¬ BlkC c.g c.f la n bl th es p ∧ HS w0 noM H w') ∨
      (v = .bool true ∧ BlkC c.g c.f la n bl th es p ∧ ∃ tc' th', ThR (th.set n none) (nowS (Sk (setA th n)) bl bl.is.l.length) bl.e.to.l th' ∧ tc'.length = tc.length ∧ (∀ m, n < m → tc'[m]? = th'[m]?) ∧
        HS w0 noM (cb bC 112 (encC c (p + (blkN bl : Int))) :: sk c.bE (es ++ bvs bl) :: own 109 1 c.oT c.nT c.cT (flat encO (tc')) :: all (th'.map sko) :: H) w')) := by
  have hnl := (List.getElem?_eq_some_iff.1 hbl).1
  have hbR := hR.2 bl (List.mem_of_getElem? hbl)
  have hle := hR.1.le
  have hlp := hbR.1.le
  have hli := hbR.2.1.le
  have hsp : Sp c.f.bs.o c.f.bs.l.length := hR.1.1.sp (sz := 6) (flat_length encBl_len _) (by omega)
  have hspP : Sp bl.ps.o bl.ps.l.length := hbR.1.1.sp (sz := 1) (flat_length Fw.encI_len _) (by omega)
  have hspI : Sp bl.is.o bl.is.l.length := hbR.2.1.1.sp (sz := 5) (flat_length encIn_len _) (by omega)
  have hspT : Sp c.oT c.nT := hH.own_sp (T := 109) (.tail _ (.tail _ (.head _)))
  have hvs := flat_all encBl_len hbl
  obtain ⟨st, hst⟩ : ∃ st, th[n]? = some st := ⟨_, List.getElem?_eq_getElem (by omega)⟩
  have htn : n < (th.map sko).length := by rw [List.length_map]; omega
  have hsm : (th.map sko)[n]? = some (sko st) := by rw [List.getElem?_map, hst]; rfl
  have htc : tc[n]? = some st := (hag n (Nat.le_refl _)).trans hst
  have hvT : (flat encO tc)[n * 1]? = some (mvO st) := flat_get (off := 0) encO_len htc (by rw [encO_eq]; rfl)
  (refine enter (N := 190) Tryz.func33 rfl Tryz.ntmps33 rfl ?_; intro a hA; dsimp only [sl0, Nat.reduceAdd] at hA)
  repeat' (first | (refine QT ?_; clear hA a; intro a hA) | (refine CT ?_ <;> repeat' refine CT ?_))
  have hST : HS w0 noM [cb bC 112 (encC c (p)), own 109 1 c.oT c.nT c.cT (flat encO (tc))] w := HS.left (H1 := [_, _]) (H2 := sk c.bE es :: all (th.map sko) :: H) (hH.perm (by (repeat (first | exact List.Perm.refl _ | exact List.Perm.nil | refine perm_pick 0 rfl ?_ | refine perm_pick 1 rfl ?_ | refine perm_pick 2 rfl ?_ | refine perm_pick 3 rfl ?_ | refine perm_pick 4 rfl ?_ | refine perm_pick 5 rfl ?_ | refine perm_pick 6 rfl ?_ | refine perm_pick 7 rfl ?_ | refine perm_pick 8 rfl ?_ | refine perm_pick 9 rfl ?_ | refine perm_pick 10 rfl ?_ | refine perm_pick 11 rfl ?_))))
  (refine wp_draw_HS (H := [_, _]) [(0, 1), (1, 1), (2, 1), (3, 1), (4, 1), (5, 1), (6, 1), (7, 1), (8, 1), (9, 1), (10, 1), (11, 1), (12, 1), (13, 1), (14, 1), (15, 0), (16, 0), (17, 1)] mixed (by decide +kernel) (hST) ?_; replace hH := hH.drew)
  clear hST
  repeat' (first | ((first | apply st_ex hA hH rfl rfl (by decide) | apply dr_ex hA rfl rfl rfl (by decide) | apply dr_exp hA rfl rfl rfl (by decide) | apply dr_ex3 hA hH rfl rfl rfl (by decide)); (first | (apply ex_load_st (vs := encBl bl); rfl; rfl; exact cls_rd hR.1.1 id hvs) | (apply ex_indexAddr_nat; rfl; rfl; omega; exact hspT) | (apply ex_indexAddr_nat; rfl; rfl; omega; exact hsp) | (apply ex_load; rfl; apply cl_own (T := 109); exact MEMT; exact hvT)); clear hA a; intro a hA) | (refine QT ?_; clear hA a; intro a hA))
  (apply dr_op hA rfl rfl rfl (by decide); apply op_alloc; exact hH; clear hA hH; rintro _ w ⟨bN, rfl, hH⟩; refine ⟨HS.left (H1 := [_, _]) (H2 := sk c.bE es :: all (th.map sko) :: H) (hH.tail.perm (by (repeat (first | exact List.Perm.refl _ | exact List.Perm.nil | refine perm_pick 0 rfl ?_ | refine perm_pick 1 rfl ?_ | refine perm_pick 2 rfl ?_ | refine perm_pick 3 rfl ?_ | refine perm_pick 4 rfl ?_ | refine perm_pick 5 rfl ?_ | refine perm_pick 6 rfl ?_ | refine perm_pick 7 rfl ?_ | refine perm_pick 8 rfl ?_ | refine perm_pick 9 rfl ?_ | refine perm_pick 10 rfl ?_ | refine perm_pick 11 rfl ?_)))), ?_⟩; intro a hA)
  (apply dr_op0 hA rfl rfl rfl; apply op_store_agg (vs := encBl bl); rfl; rfl; exact hH; (repeat constructor); (repeat rfl); clear hH; rintro _ w hH; refine ⟨HS.left (H1 := [_, _]) (H2 := sk c.bE es :: all (th.map sko) :: H) (hH.tail.perm (by (repeat (first | exact List.Perm.refl _ | exact List.Perm.nil | refine perm_pick 0 rfl ?_ | refine perm_pick 1 rfl ?_ | refine perm_pick 2 rfl ?_ | refine perm_pick 3 rfl ?_ | refine perm_pick 4 rfl ?_ | refine perm_pick 5 rfl ?_ | refine perm_pick 6 rfl ?_ | refine perm_pick 7 rfl ?_ | refine perm_pick 8 rfl ?_ | refine perm_pick 9 rfl ?_ | refine perm_pick 10 rfl ?_ | refine perm_pick 11 rfl ?_)))), ?_⟩)
  rcases st with _ | ⟨bW, k0⟩
  · rw [mvO_n] at hA
    repeat' (first | (refine GT ?_ ?_ <;> intro hg <;> clear hA a <;> intro a hA <;> (first | exact FA | replace hg := of_decide_eq_true hg | replace hg := of_decide_eq_false hg | skip)) | ((first | apply st_ex hA hH rfl rfl (by decide) | apply dr_ex hA rfl rfl rfl (by decide) | apply dr_exp hA rfl rfl rfl (by decide) | apply dr_ex3 hA hH rfl rfl rfl (by decide)); (first | (apply ex_eqlMapT; rfl; rfl)); clear hA a; intro a hA) | (refine QT ?_; clear hA a; intro a hA) | (refine CT ?_ <;> repeat' refine CT ?_))
    exact rt1 (.inl rfl) rfl hA rfl (.inl ⟨rfl, fun h => (by have h1 := h.come; unfold isA at h1; rw [hst] at h1; cases h1), hH.tail.tail.tail.tail.tail⟩)
  rw [mvO_s] at hA
  have hS0 : setA th n = k0 := by unfold setA; rw [hst]; rfl
  have hi0 : isA th n := by unfold isA; rw [hst]; rfl
  obtain ⟨b5, hb5⟩ : ∃ x, x = bN := ⟨_, rfl⟩
  rw [← hb5] at hA hH
  clear hb5 bN
  (first | (apply dr_exb hA rfl rfl rfl (by decide) rfl (ex_move rfl) <;> intro hg <;> clear hA a <;> intro a hA <;> (first | (replace hg := of_decide_eq_true hg; try (exfalso; omega)) | (replace hg := of_decide_eq_false hg; try (exfalso; omega)) | (exact absurd hg (by decide)) | skip)) | (apply dr_ex hA rfl rfl rfl (by decide); (first | (apply ex_move; rfl) | (apply ex_assign; rfl)  | exact EXT); clear hA a; intro a hA) | (apply dr_skip hA rfl rfl rfl (by decide); clear hA a; intro a hA) | (apply dr_exp hA rfl rfl rfl (by decide); (first | (apply ex_move; rfl) | (apply ex_assign; rfl)  | exact EXT); clear hA a; intro a hA) | (apply dr_ex3 hA hH rfl rfl rfl (by decide); (first | (apply ex_move; rfl) | (apply ex_assign; rfl)  | exact EXT); clear hA a; intro a hA) | (apply dr_skip3 hA rfl rfl rfl (by decide); clear hA a; intro a hA) | apply dr_nil | apply dr_late | apply dr_nil2)
  (first | (apply dr_exb hA rfl rfl rfl (by decide) rfl (ex_move rfl) <;> intro hg <;> clear hA a <;> intro a hA <;> (first | (replace hg := of_decide_eq_true hg; try (exfalso; omega)) | (replace hg := of_decide_eq_false hg; try (exfalso; omega)) | (exact absurd hg (by decide)) | skip)) | (apply dr_ex hA rfl rfl rfl (by decide); (first | (apply ex_move; rfl) | (apply ex_assign; rfl)  | exact EXT); clear hA a; intro a hA) | (apply dr_skip hA rfl rfl rfl (by decide); clear hA a; intro a hA) | (apply dr_exp hA rfl rfl rfl (by decide); (first | (apply ex_move; rfl) | (apply ex_assign; rfl)  | exact EXT); clear hA a; intro a hA) | (apply dr_ex3 hA hH rfl rfl rfl (by decide); (first | (apply ex_move; rfl) | (apply ex_assign; rfl)  | exact EXT); clear hA a; intro a hA) | (apply dr_skip3 hA rfl rfl rfl (by decide); clear hA a; intro a hA) | apply dr_nil | apply dr_late | apply dr_nil2)
  repeat refine CT ?_
  refine st_join (fun a w => (n = 0 → bl.ps.l = []) ∧ HS w0 noM (cb b5 53 (encBl bl) :: cb bC 112 (encC c (p)) :: sk c.bE es :: own 109 1 c.oT c.nT c.cT (flat encO (tc)) :: all (th.map sko) :: H) w ∧ Sl 190 [(5, .pointer (some (bat b5 0))), (6, .map (some bW)), (0, .pointer (some (bat bC 0))), (1, .int .i64 n)] a) ?_ ?_
  · repeat' (first | (refine GT ?_ ?_ <;> intro hg <;> clear hA a <;> intro a hA <;> (first | exact FA | replace hg := of_decide_eq_true hg | replace hg := of_decide_eq_false hg | skip)) | ((first | apply st_ex hA hH rfl rfl (by decide) | apply dr_ex hA rfl rfl rfl (by decide) | apply dr_exp hA rfl rfl rfl (by decide) | apply dr_ex3 hA hH rfl rfl rfl (by decide)); (first | (apply ex_eqlMapF; rfl; rfl)); clear hA a; intro a hA) | (refine QT ?_; clear hA a; intro a hA) | ((first | refine CT ?_ | (refine DT ?_ ?_ <;> intro hc <;> try (exfalso; omega))) <;> repeat' refine CT ?_))
    · exact rt1 (.inl rfl) rfl hA rfl (.inl ⟨rfl, fun h => absurd (congrArg List.length (h.blk.first (by omega))) (by show ¬ bl.ps.l.length = 0; omega), hH.tail.tail.tail.tail.tail⟩)
    · exact ⟨fun _ => List.length_eq_zero_iff.1 (by omega), hH, (hA.sub (by (repeat (first | exact trivial | refine ⟨rfl, ?_⟩)); first | done | fail "sub"))⟩
    · exact ⟨fun h => (by omega), hH, (hA.sub (by (repeat (first | exact trivial | refine ⟨rfl, ?_⟩)); first | done | fail "sub"))⟩
  clear hA hH
  rintro a w ⟨hfirst, hH, hA⟩
  have hH1 := (hH.up 4 rfl).openAt hsm
  clear hH
  dsimp only [List.eraseIdx_cons_succ, List.eraseIdx_cons_zero] at hH1
  rw [sko_s] at hH1
  have hH := (hH1.nil_all.perm (H' := all [] :: all ((th.map sko).eraseIdx n) :: cb bC 112 (encC c (p)) :: sk c.bE es :: sk bW k0 :: own 109 1 c.oT c.nT c.cT (flat encO (tc)) :: cb b5 53 (encBl bl) :: H) (by (repeat (first | exact List.Perm.refl _ | exact List.Perm.nil | refine perm_pick 0 rfl ?_ | refine perm_pick 1 rfl ?_ | refine perm_pick 2 rfl ?_ | refine perm_pick 3 rfl ?_ | refine perm_pick 4 rfl ?_ | refine perm_pick 5 rfl ?_ | refine perm_pick 6 rfl ?_ | refine perm_pick 7 rfl ?_ | refine perm_pick 8 rfl ?_ | refine perm_pick 9 rfl ?_ | refine perm_pick 10 rfl ?_ | refine perm_pick 11 rfl ?_)))).shutAt htn
  clear hH1
  rw [map_none] at hH
  obtain ⟨th0, hth0⟩ : ∃ x, x = th.set n none := ⟨_, rfl⟩
  rw [← hth0] at hH
  have hl0 : th0.length = th.length := by rw [hth0, List.length_set]
  have hag0 : ∀ m, n < m → tc[m]? = th0[m]? := fun m hm => by rw [hth0, List.getElem?_set_ne (by omega)]; exact hag m (by omega)
  replace hH := hH.perm (H' := cb bC 112 (encC c (p)) :: sk c.bE es :: sk bW k0 :: own 109 1 c.oT c.nT c.cT (flat encO (tc)) :: all (th0.map sko) :: cb b5 53 (encBl bl) :: H) (by (repeat (first | exact List.Perm.refl _ | exact List.Perm.nil | refine perm_pick 0 rfl ?_ | refine perm_pick 1 rfl ?_ | refine perm_pick 2 rfl ?_ | refine perm_pick 3 rfl ?_ | refine perm_pick 4 rfl ?_ | refine perm_pick 5 rfl ?_ | refine perm_pick 6 rfl ?_ | refine perm_pick 7 rfl ?_ | refine perm_pick 8 rfl ?_ | refine perm_pick 9 rfl ?_ | refine perm_pick 10 rfl ?_ | refine perm_pick 11 rfl ?_)))
  repeat' (first | (refine QT ?_; clear hA a; intro a hA) | (apply st_op0 hA rfl rfl; apply op_store_fld (cs' := encC c (p + 2)); rfl; rfl; rfl; exact hH; (repeat constructor); clear hH; rintro _ w hH) | (refine CT ?_ <;> repeat' refine CT ?_))
  refine wp_lpk (S := Nat) (fun j a w => ∃ ks, (j ≤ bl.ps.l.length ∧ EvOk (es ++ bl.ps.l.take j) ∧ ∀ y, y ∈ ks ↔ y ∈ k0 ∨ y ∈ bl.ps.l.take j) ∧ HS w0 noM (cb bC 112 (encC c (p + 2 + (j : Int))) :: sk c.bE (es ++ bl.ps.l.take j) :: sk bW ks :: own 109 1 c.oT c.nT c.cT (flat encO (tc)) :: all (th0.map sko) :: cb b5 53 (encBl bl) :: H) w ∧
      Sl 190 [(50, .int .i64 j), (49, .int .i64 bl.ps.l.length), (48, .slice bl.ps.o bl.ps.l.length bl.ps.c), (5, .pointer (some (bat b5 0))), (6, .map (some bW)), (0, .pointer (some (bat bC 0))), (1, .int .i64 n)] a) (fun j => bl.ps.l.length - j)
    (fun a w => ∃ ks, (EvOk (es ++ bl.ps.l) ∧ ∀ y, y ∈ ks ↔ y ∈ k0 ∨ y ∈ bl.ps.l) ∧ HS w0 noM (cb bC 112 (encC c (p + 2 + (bl.ps.l.length : Int))) :: sk c.bE (es ++ bl.ps.l) :: sk bW ks :: own 109 1 c.oT c.nT c.cT (flat encO (tc)) :: all (th0.map sko) :: cb b5 53 (encBl bl) :: H) w ∧
      Sl 190 [(5, .pointer (some (bat b5 0))), (6, .map (some bW)), (0, .pointer (some (bat bC 0))), (1, .int .i64 n)] a) 0 ⟨k0, ⟨Nat.zero_le _, (by rw [List.take_zero, List.append_nil]; exact hev), (fun y => by rw [List.take_zero]; simp)⟩, (by rw [List.take_zero, List.append_nil, show p + 2 + ((0 : Nat) : Int) = p + 2 by omega]; exact hH), (hA.sub (by (repeat (first | exact trivial | refine ⟨rfl, ?_⟩)); first | done | fail "sub"))⟩ ?_ ?_
  · clear hA hH
    rintro j a w ⟨ks, ⟨hj, hev1, hks⟩, hH, hA⟩
    by_cases hlt : j < bl.ps.l.length
    rotate_left
    · obtain rfl : j = bl.ps.l.length := by omega
      rw [List.take_length] at hev1 hks hH
      repeat' (first | (refine QT ?_; clear hA a; intro a hA) | ((first | refine CT ?_ | (refine DT ?_ ?_ <;> intro hc <;> try (exfalso; omega))) <;> repeat' refine CT ?_))
      exact ⟨ks, ⟨hev1, hks⟩, hH, (hA.sub (by (repeat (first | exact trivial | refine ⟨rfl, ?_⟩)); first | done | fail "sub"))⟩
    obtain ⟨x, hx⟩ : ∃ x, bl.ps.l[j]? = some x := ⟨_, List.getElem?_eq_getElem hlt⟩
    have hcx : (flat Fw.encI bl.ps.l)[j * 1]? = some (.int .i64 x) := flat_get (off := 0) Fw.encI_len hx rfl
    have hel := hev1.le
    rw [List.length_append, List.length_take] at hel
    have hjb : (j : Int) ≤ 1048577 := by omega
    have e1 : p + 2 + (j : Int) + 1 = p + 2 + ((j + 1 : Nat) : Int) := by omega
    repeat' (first | ((first | apply st_ex hA hH rfl rfl (by decide) | apply dr_ex hA rfl rfl rfl (by decide) | apply dr_exp hA rfl rfl rfl (by decide) | apply dr_ex3 hA hH rfl rfl rfl (by decide)); (first | (apply ex_indexAddr_nat; rfl; rfl; omega; exact hspP) | (apply ex_load; rfl; exact cl_rd hbR.1.1 id hcx)); clear hA a; intro a hA) | (refine QT ?_; clear hA a; intro a hA) | (apply st_op0 hA rfl rfl; apply op_store_fld (cs' := encC c (p + 2 + (j : Int) + 1)); rfl; rfl; rfl; exact hH; (repeat constructor); clear hH; rintro _ w hH) | ((first | refine CT ?_ | (refine DT ?_ ?_ <;> intro hc <;> try (exfalso; omega))) <;> repeat' refine CT ?_))
    (refine st_op hA rfl rfl (by decide) (op_call rfl rfl rfl (bind_spec w0 _ _ c bC bW _ _ _ x hH)) ?_; clear hA hH)
    rintro _ w (⟨hb, rfl, hH⟩ | ⟨hb, rfl, hH⟩) a hA
    rotate_left
    · repeat' (first | (refine QT ?_; clear hA a; intro a hA) | (refine CT ?_ <;> repeat' refine CT ?_))
      exact rt1 (.inl rfl) rfl hA rfl (.inl ⟨rfl, fun h => hb (ev_ps_no hx h.ev), hH.tail.tail.tail.tail.tail.tail⟩)
    repeat' (first | (refine QT ?_; clear hA a; intro a hA) | (refine CT ?_ <;> repeat' refine CT ?_))
    have hev2 := hev1.add hb
    rw [ev_ps hx] at hH hev2
    rw [e1] at hH
    exact ⟨j + 1, ⟨_, ⟨hlt, hev2, now_ps hx hks⟩, hH, (hA.sub (by (repeat (first | exact trivial | refine ⟨rfl, ?_⟩)); first | done | fail "sub"))⟩, by omega⟩
  clear hA hH
  rintro a w ⟨ks, ⟨hev1, hks0⟩, hH, hA⟩
  have hks := now_0 hks0
  clear hks0
  obtain ⟨q0, hq0⟩ : ∃ x, x = p + 2 + (bl.ps.l.length : Int) := ⟨_, rfl⟩
  have hpl : bl.ps.l.length ≤ 1048577 := by
    have := hev1.le
    rw [List.length_append] at this
    omega
  rw [← hq0] at hH
  repeat' (first | (refine QT ?_; clear hA a; intro a hA) | (refine CT ?_ <;> repeat' refine CT ?_))
  refine wp_lpk (S := Nat) (fun i a w => ∃ ks q, (i ≤ bl.is.l.length ∧ EvOk (es ++ bl.ps.l ++ (bl.is.l.take i).map Ins.x) ∧ (∀ y, y ∈ ks ↔ nowS (Sk k0) bl i y) ∧ (∀ k x, bl.is.l[k]? = some x → k < i → FormP c.g la c.f.caps x.r ∧ ∀ a ∈ x.r.a.l, atS c.g (nowS (Sk k0) bl k) a) ∧ q = q0 + insN (bl.is.l.take i) ∧ q ≤ 1200000) ∧
      HS w0 noM (cb bC 112 (encC c (q)) :: sk c.bE (es ++ bl.ps.l ++ (bl.is.l.take i).map Ins.x) :: sk bW ks :: own 109 1 c.oT c.nT c.cT (flat encO (tc)) :: all (th0.map sko) :: cb b5 53 (encBl bl) :: H) w ∧
      Sl 190 [(70, .int .i64 i), (69, .int .i64 bl.is.l.length), (68, .slice bl.is.o bl.is.l.length bl.is.c), (5, .pointer (some (bat b5 0))), (6, .map (some bW)), (0, .pointer (some (bat bC 0))), (1, .int .i64 n)] a) (fun i => bl.is.l.length - i)
    (fun a w => ∃ ks q, (EvOk (es ++ bvs bl) ∧ (∀ y, y ∈ ks ↔ nowS (Sk k0) bl bl.is.l.length y) ∧ (∀ k x, bl.is.l[k]? = some x → FormP c.g la c.f.caps x.r ∧ ∀ a ∈ x.r.a.l, atS c.g (nowS (Sk k0) bl k) a) ∧ q = q0 + insN bl.is.l ∧ q ≤ 1200000) ∧
      HS w0 noM (cb bC 112 (encC c (q)) :: sk c.bE (es ++ bvs bl) :: sk bW ks :: own 109 1 c.oT c.nT c.cT (flat encO (tc)) :: all (th0.map sko) :: cb b5 53 (encBl bl) :: H) w ∧
      Sl 190 [(5, .pointer (some (bat b5 0))), (6, .map (some bW)), (0, .pointer (some (bat bC 0))), (1, .int .i64 n)] a) 0 ⟨ks, q0, ⟨Nat.zero_le _, (by rw [List.take_zero, List.map_nil, List.append_nil]; exact hev1), hks, fun k x hk h => absurd h (Nat.not_lt_zero _), (by rw [List.take_zero]; show q0 = q0 + ((0 : Nat) : Int); omega), by omega⟩, (by rw [List.take_zero, List.map_nil, List.append_nil]; exact hH), (hA.sub (by (repeat (first | exact trivial | refine ⟨rfl, ?_⟩)); first | done | fail "sub"))⟩ ?_ ?_
  · clear hA hH hev1 hks
    rintro i a w ⟨ks, q, ⟨hi, hev1, hks, hins, hq1, hq2⟩, hH, hA⟩
    by_cases hlt : i < bl.is.l.length
    rotate_left
    · obtain rfl : i = bl.is.l.length := by omega
      rw [ev_end] at hev1 hH
      rw [List.take_length] at hq1
      repeat' (first | (refine QT ?_; clear hA a; intro a hA) | ((first | refine CT ?_ | (refine DT ?_ ?_ <;> intro hc <;> try (exfalso; omega))) <;> repeat' refine CT ?_))
      exact ⟨ks, q, ⟨hev1, hks, fun k x hk => hins k x hk (List.getElem?_eq_some_iff.1 hk).1, hq1, hq2⟩, hH, (hA.sub (by (repeat (first | exact trivial | refine ⟨rfl, ?_⟩)); first | done | fail "sub"))⟩
    obtain ⟨x, hx⟩ : ∃ x, bl.is.l[i]? = some x := ⟨_, List.getElem?_eq_getElem hlt⟩
    have hxR := hbR.2.2.1 x (List.mem_of_getElem? hx)
    have hvi := flat_all encIn_len hx
    repeat' (first | (refine GT ?_ ?_ <;> intro hg <;> clear hA a <;> intro a hA <;> (first | exact FA | replace hg := of_decide_eq_true hg | replace hg := of_decide_eq_false hg | skip)) | ((first | apply st_ex hA hH rfl rfl (by decide) | apply dr_ex hA rfl rfl rfl (by decide) | apply dr_exp hA rfl rfl rfl (by decide) | apply dr_ex3 hA hH rfl rfl rfl (by decide)); (first | (apply ex_load_st (vs := encIn x); rfl; rfl; exact cls_rd hbR.2.1.1 id hvi) | (apply ex_indexAddr_nat; rfl; rfl; omega; exact hspI)); clear hA a; intro a hA) | (refine QT ?_; clear hA a; intro a hA) | (refine BT ?_; clear hA hH; rintro _ w ⟨bN, rfl, hH⟩ a hA) | (apply st_op0 hA rfl rfl; apply op_store_agg (vs := encIn x); rfl; rfl; exact hH; (repeat constructor); (repeat rfl); clear hH; rintro _ w hH) | (apply st_op0 hA rfl rfl; apply op_store_fld (cs' := encC c (q + 1)); rfl; rfl; rfl; exact hH; (repeat constructor); clear hH; rintro _ w hH) | ((first | refine CT ?_ | (refine DT ?_ ?_ <;> intro hc <;> try (exfalso; omega))) <;> repeat' refine CT ?_))
    · exact rt1 (.inl rfl) rfl hA rfl (.inl ⟨rfl, fun h => (by have h1 := h.size; rw [blkN_eq] at h1; have h2 := insN_at hx; omega), hH.tail.tail.tail.tail.tail.tail.tail⟩)
    repeat' (first | ((first | apply st_ex hA hH rfl rfl (by decide) | apply dr_ex hA rfl rfl rfl (by decide) | apply dr_exp hA rfl rfl rfl (by decide) | apply dr_ex3 hA hH rfl rfl rfl (by decide)); (first | (apply ex_load_st (vs := encSt x.r); rfl; rfl; exact cls_cb MEMT (sub_st x))); clear hA a; intro a hA) | (refine QT ?_; clear hA a; intro a hA))
    replace hH := hH.perm (H' := cb bC 112 (encC c (q + 1)) :: sk bW ks :: sk c.bE (es ++ bl.ps.l ++ (bl.is.l.take i).map Ins.x) :: own 109 1 c.oT c.nT c.cT (flat encO (tc)) :: all (th0.map sko) :: cb b5 53 (encBl bl) :: cb bN 59 (encIn x) :: H) (by (repeat (first | exact List.Perm.refl _ | exact List.Perm.nil | refine perm_pick 0 rfl ?_ | refine perm_pick 1 rfl ?_ | refine perm_pick 2 rfl ?_ | refine perm_pick 3 rfl ?_ | refine perm_pick 4 rfl ?_ | refine perm_pick 5 rfl ?_ | refine perm_pick 6 rfl ?_ | refine perm_pick 7 rfl ?_ | refine perm_pick 8 rfl ?_ | refine perm_pick 9 rfl ?_ | refine perm_pick 10 rfl ?_ | refine perm_pick 11 rfl ?_)))
    (refine st_op hA rfl rfl (by decide) (op_call rfl rfl rfl (step2_spec w0 _ _ c bC (q + 1) la x.r hH (.tail _ (.tail _ (.tail _ (.tail _ (.tail _ (.tail _ hm)))))) hla hla9 hxR.1)) ?_; clear hA hH)
    rintro _ w ⟨bb, rfl, hbF, hH⟩ a hA
    cases bb with
    | false =>
      repeat' (first | (refine GT ?_ ?_ <;> intro hg <;> clear hA a <;> intro a hA <;> (first | exact FA | replace hg := of_decide_eq_true hg | replace hg := of_decide_eq_false hg | skip)) | (refine QT ?_; clear hA a; intro a hA) | (refine CT ?_ <;> repeat' refine CT ?_))
      exact rt1 (.inl rfl) rfl hA rfl (.inl ⟨rfl, fun h => absurd (hbF.2 (h.blk.ins i x hx).1) (by decide), hH.tail.tail.tail.tail.tail.tail.tail⟩)
    | true =>
      repeat' (first | (refine GT ?_ ?_ <;> intro hg <;> clear hA a <;> intro a hA <;> (first | exact FA | replace hg := of_decide_eq_true hg | replace hg := of_decide_eq_false hg | skip)) | (refine QT ?_; clear hA a; intro a hA))
      (refine st_op hA rfl rfl (by decide) (op_call rfl rfl rfl (atoms_spec w0 _ _ c bC bW (q + 1) ks x.r.a hH hxR.2 (by omega) (by omega))) ?_; clear hA hH)
      rintro _ w (⟨hat, rfl, hH⟩ | ⟨hat, rfl, q', hq3, hq4, hH⟩) a hA
      rotate_left
      · repeat' (first | (refine GT ?_ ?_ <;> intro hg <;> clear hA a <;> intro a hA <;> (first | exact FA | replace hg := of_decide_eq_true hg | replace hg := of_decide_eq_false hg | skip)) | (refine QT ?_; clear hA a; intro a hA) | (refine CT ?_ <;> repeat' refine CT ?_))
        exact rt1 (.inl rfl) rfl hA rfl (.inl ⟨rfl, fun h => hat (ats_of hks (by have h1 := (h.blk.ins i x hx).2; rw [hS0] at h1; exact h1) (by have h1 := h.size; rw [blkN_eq] at h1; have h2 := insN_at hx; omega)), hH.tail.tail.tail.tail.tail.tail.tail⟩)
      repeat' (first | (refine GT ?_ ?_ <;> intro hg <;> clear hA a <;> intro a hA <;> (first | exact FA | replace hg := of_decide_eq_true hg | replace hg := of_decide_eq_false hg | skip)) | (refine QT ?_; clear hA a; intro a hA))
      replace hH := hH.perm (H' := cb bC 112 (encC c (q + 1 + (x.r.a.l.length : Int))) :: sk c.bE (es ++ bl.ps.l ++ (bl.is.l.take i).map Ins.x) :: sk bW ks :: own 109 1 c.oT c.nT c.cT (flat encO (tc)) :: all (th0.map sko) :: cb b5 53 (encBl bl) :: cb bN 59 (encIn x) :: H) (by (repeat (first | exact List.Perm.refl _ | exact List.Perm.nil | refine perm_pick 0 rfl ?_ | refine perm_pick 1 rfl ?_ | refine perm_pick 2 rfl ?_ | refine perm_pick 3 rfl ?_ | refine perm_pick 4 rfl ?_ | refine perm_pick 5 rfl ?_ | refine perm_pick 6 rfl ?_ | refine perm_pick 7 rfl ?_ | refine perm_pick 8 rfl ?_ | refine perm_pick 9 rfl ?_ | refine perm_pick 10 rfl ?_ | refine perm_pick 11 rfl ?_)))
      (refine st_op hA rfl rfl (by decide) (op_call rfl rfl rfl (bind_spec w0 _ _ c bC bW _ _ _ x.x hH)) ?_; clear hA hH)
      rintro _ w (⟨hb, rfl, hH⟩ | ⟨hb, rfl, hH⟩) a hA
      rotate_left
      · repeat' (first | (refine QT ?_; clear hA a; intro a hA) | (refine CT ?_ <;> repeat' refine CT ?_))
        exact rt1 (.inl rfl) rfl hA rfl (.inl ⟨rfl, fun h => hb (ev_is_no hx h.ev), hH.tail.tail.tail.tail.tail.tail.tail⟩)
      repeat' (first | (refine QT ?_; clear hA a; intro a hA) | (refine CT ?_ <;> repeat' refine CT ?_))
      have hev2 := hev1.add hb
      rw [ev_is hx] at hH hev2
      have hql : q + 1 + (x.r.a.l.length : Int) ≤ 1200000 := by
        rcases hat.2 with h | h
        · rw [h]
          show q + 1 + (0 : Int) ≤ _
          omega
        · omega
      exact ⟨i + 1, ⟨_, _, ⟨hlt, hev2, now_next hx hks, ins_next hx hins hks (hbF.1 rfl) hat.1, by rw [insN_next hx]; omega, hql⟩, hH.rm 6, (hA.sub (by (repeat (first | exact trivial | refine ⟨rfl, ?_⟩)); first | done | fail "sub"))⟩, by omega⟩
  clear hA hH hev1 hks
  rintro a w ⟨ks, q, ⟨hev1, hks, hins, hq1, hq2⟩, hH, hA⟩
  have hsubE := sub_en bl
  repeat' (first | ((first | apply st_ex hA hH rfl rfl (by decide) | apply dr_ex hA rfl rfl rfl (by decide) | apply dr_exp hA rfl rfl rfl (by decide) | apply dr_ex3 hA hH rfl rfl rfl (by decide)); (first | (apply ex_load_st (vs := encEn bl.e); rfl; rfl; exact cls_cb MEMT hsubE)); clear hA a; intro a hA) | (refine QT ?_; clear hA a; intro a hA) | (refine CT ?_ <;> repeat' refine CT ?_))
  (refine st_op hA rfl rfl (by decide) (op_call rfl rfl rfl (end_spec _ bl.e (hbR.2.2.2.2.1.keep hH.kp))) ?_; clear hA)
  rintro _ w ⟨bb, rfl, hbE, hk⟩ a hA
  replace hH := hH.keep hk
  clear hk
  cases bb with
  | false =>
    repeat' (first | (refine GT ?_ ?_ <;> intro hg <;> clear hA a <;> intro a hA <;> (first | exact FA | replace hg := of_decide_eq_true hg | replace hg := of_decide_eq_false hg | skip)) | (refine QT ?_; clear hA a; intro a hA) | (refine CT ?_ <;> repeat' refine CT ?_))
    exact rt1 (.inl rfl) rfl hA rfl (.inl ⟨rfl, fun h => absurd (hbE.2 h.blk.end_) (by decide), hH.tail.tail.tail.tail.tail.tail⟩)
  | true =>
  repeat' (first | (refine GT ?_ ?_ <;> intro hg <;> clear hA a <;> intro a hA <;> (first | exact FA | replace hg := of_decide_eq_true hg | replace hg := of_decide_eq_false hg | skip)) | (refine QT ?_; clear hA a; intro a hA))
  replace hH := hH.perm (H' := cb bC 112 (encC c (q)) :: sk bW ks :: sk c.bE (es ++ bvs bl) :: own 109 1 c.oT c.nT c.cT (flat encO (tc)) :: all (th0.map sko) :: cb b5 53 (encBl bl) :: H) (by (repeat (first | exact List.Perm.refl _ | exact List.Perm.nil | refine perm_pick 0 rfl ?_ | refine perm_pick 1 rfl ?_ | refine perm_pick 2 rfl ?_ | refine perm_pick 3 rfl ?_ | refine perm_pick 4 rfl ?_ | refine perm_pick 5 rfl ?_ | refine perm_pick 6 rfl ?_ | refine perm_pick 7 rfl ?_ | refine perm_pick 8 rfl ?_ | refine perm_pick 9 rfl ?_ | refine perm_pick 10 rfl ?_ | refine perm_pick 11 rfl ?_)))
  (refine st_op hA rfl rfl (by decide) (op_call rfl rfl rfl (atoms_spec w0 _ _ c bC bW q ks bl.e.a hH hbR.2.2.2.1 (by omega) (by omega))) ?_; clear hA hH)
  rintro _ w (⟨hat, rfl, hH⟩ | ⟨hat, rfl, q', hq3, hq4, hH⟩) a hA
  rotate_left
  · repeat' (first | (refine QT ?_; clear hA a; intro a hA) | (refine CT ?_ <;> repeat' refine CT ?_))
    exact rt1 (.inl rfl) rfl hA rfl (.inl ⟨rfl, fun h => hat (ats_of hks (by have h1 := h.blk.ends; rw [hS0] at h1; exact h1) (by have h1 := h.size; rw [blkN_eq] at h1; omega)), hH.tail.tail.tail.tail.tail.tail⟩)
  have hends : ∀ a ∈ bl.e.a.l, atS c.g (nowS (Sk k0) bl bl.is.l.length) a := fun a ha => at_of hks (hat.1 a ha)
  have hql : q + (bl.e.a.l.length : Int) ≤ 1200000 := by
    rcases hat.2 with h | h
    · rw [h]
      show q + (0 : Int) ≤ _
      omega
    · omega
  obtain ⟨q2, hq2e⟩ : ∃ x, x = q + (bl.e.a.l.length : Int) := ⟨_, rfl⟩
  rw [← hq2e] at hH hql
  have hq5 : q2 = p + 2 + bl.ps.l.length + insN bl.is.l + bl.e.a.l.length := by omega
  have hspE : Sp bl.e.to.o bl.e.to.l.length := hbR.2.2.2.2.2.1.1.sp (sz := 2) (flat_length encEd_len _) (by omega)
  repeat' (first | (refine QT ?_; clear hA a; intro a hA) | (refine CT ?_ <;> repeat' refine CT ?_))
  refine wp_lpk (S := Nat) (fun j a w => ∃ tc' th' q, (j ≤ bl.e.to.l.length ∧ q = q2 + edgN (bl.e.to.l.take j) ∧ q ≤ 1200000 + (j : Int) ∧ ThR th0 (nowS (Sk k0) bl bl.is.l.length) (bl.e.to.l.take j) th' ∧ tc'.length = tc.length ∧ (∀ m, n < m → tc'[m]? = th'[m]?) ∧
        ∀ t ∈ bl.e.to.l.take j, (n : Int) < t.b ∧ t.b < c.f.bs.l.length ∧ t.a.l.length = (c.f.bs.l.getD t.b.toNat blc0).ps.l.length ∧ ∀ a ∈ t.a.l, atS c.g (nowS (Sk k0) bl bl.is.l.length) a) ∧
      HS w0 noM (cb bC 112 (encC c (q)) :: sk bW ks :: sk c.bE (es ++ bvs bl) :: own 109 1 c.oT c.nT c.cT (flat encO (tc')) :: all (th'.map sko) :: cb b5 53 (encBl bl) :: H) w ∧
      Sl 190 [(128, .int .i64 j), (127, .int .i64 bl.e.to.l.length), (126, .slice bl.e.to.o bl.e.to.l.length bl.e.to.c), (6, .map (some bW)), (0, .pointer (some (bat bC 0))), (1, .int .i64 n)] a) (fun j => bl.e.to.l.length - j)
    (fun a w => ∃ tc' th' q, (q = q2 + edgN bl.e.to.l ∧ q ≤ 2300000 ∧ ThR th0 (nowS (Sk k0) bl bl.is.l.length) bl.e.to.l th' ∧ tc'.length = tc.length ∧ (∀ m, n < m → tc'[m]? = th'[m]?) ∧
        ∀ t ∈ bl.e.to.l, (n : Int) < t.b ∧ t.b < c.f.bs.l.length ∧ t.a.l.length = (c.f.bs.l.getD t.b.toNat blc0).ps.l.length ∧ ∀ a ∈ t.a.l, atS c.g (nowS (Sk k0) bl bl.is.l.length) a) ∧
      HS w0 noM (cb bC 112 (encC c (q)) :: sk bW ks :: sk c.bE (es ++ bvs bl) :: own 109 1 c.oT c.nT c.cT (flat encO (tc')) :: all (th'.map sko) :: cb b5 53 (encBl bl) :: H) w ∧
      Sl 190 [(0, .pointer (some (bat bC 0)))] a) 0 ⟨tc, th0, q2, ⟨Nat.zero_le _, (by rw [List.take_zero]; show q2 = q2 + ((0 : Nat) : Int); omega), by omega, by rw [List.take_zero]; exact thR_0 _ _, rfl, hag0, by rw [List.take_zero]; exact fun t h => absurd h List.not_mem_nil⟩, hH, (hA.sub (by (repeat (first | exact trivial | refine ⟨rfl, ?_⟩)); first | done | fail "sub"))⟩ ?_ ?_
  · clear hA hH
    rintro j a w ⟨tc', th', q, ⟨hj, hqa, hqb, hth, htl, hag', heds⟩, hH, hA⟩
    by_cases hlt : j < bl.e.to.l.length
    rotate_left
    · obtain rfl : j = bl.e.to.l.length := by omega
      rw [List.take_length] at hth heds hqa
      repeat' (first | (refine QT ?_; clear hA a; intro a hA) | ((first | refine CT ?_ | (refine DT ?_ ?_ <;> intro hc <;> try (exfalso; omega))) <;> repeat' refine CT ?_))
      exact ⟨tc', th', q, ⟨hqa, by omega, hth, htl, hag', heds⟩, hH, (hA.sub (by (repeat (first | exact trivial | refine ⟨rfl, ?_⟩)); first | done | fail "sub"))⟩
    obtain ⟨t, ht⟩ : ∃ x, bl.e.to.l[j]? = some x := ⟨_, List.getElem?_eq_getElem hlt⟩
    have htm := List.mem_of_getElem? ht
    have htR := hbR.2.2.2.2.2.2 t htm
    have hvt := flat_all encEd_len ht
    repeat' (first | ((first | apply st_ex hA hH rfl rfl (by decide) | apply dr_ex hA rfl rfl rfl (by decide) | apply dr_exp hA rfl rfl rfl (by decide) | apply dr_ex3 hA hH rfl rfl rfl (by decide)); (first | (apply ex_load_st (vs := encEd t); rfl; rfl; exact cls_rd hbR.2.2.2.2.2.1.1 id hvt) | (apply ex_indexAddr_nat; rfl; rfl; omega; exact hspE)); clear hA a; intro a hA) | (refine QT ?_; clear hA a; intro a hA) | (refine BT ?_; clear hA hH; rintro _ w ⟨bN, rfl, hH⟩ a hA) | (apply st_op0 hA rfl rfl; apply op_store_agg (vs := encEd t); rfl; rfl; exact hH; (repeat constructor); (repeat rfl); clear hH; rintro _ w hH) | (apply st_op0 hA rfl rfl; apply op_store_fld (cs' := encC c (q + 1)); rfl; rfl; rfl; exact hH; (repeat constructor); clear hH; rintro _ w hH) | ((first | refine CT ?_ | (refine DT ?_ ?_ <;> intro hc <;> try (exfalso; omega))) <;> repeat' refine CT ?_))
    (refine wp_draw3_HS 40 [(0, 1), (1, 1), (2, 1), (3, 1), (4, 1), (5, 1), (6, 1), (7, 1), (8, 1), (9, 1), (10, 1), (11, 1), (12, 1), (13, 1), (14, 1), (15, 1), (16, 1), (17, 1), (18, 1), (19, 1), (20, 1), (21, 1), (22, 1), (23, 1), (24, 1), (25, 1), (26, 1), (27, 1), (28, 1), (29, 1), (30, 1), (31, 1), (32, 1), (33, 1), (34, 1), (35, 1), (36, 1)] [37,38,39] mixed (by decide +kernel) hH ?_; replace hH := hH.drew)
    repeat' (first | (refine GT ?_ ?_ <;> intro hg <;> clear hA a <;> intro a hA <;> (first | exact FA | replace hg := of_decide_eq_true hg | replace hg := of_decide_eq_false hg | skip)) | ((first | apply st_ex hA hH rfl rfl (by decide) | apply dr_ex hA rfl rfl rfl (by decide) | apply dr_exp hA rfl rfl rfl (by decide) | apply dr_ex3 hA hH rfl rfl rfl (by decide)); (first | (apply ex_indexAddr; rfl; rfl; omega; omega; exact hsp) | (apply ex_load; rfl; refine cl_rd hR.1.1 id (blk_at ?_); omega)); clear hA a; intro a hA) | (refine QT ?_; clear hA a; intro a hA) | (refine CT ?_ <;> repeat' refine CT ?_))
    · exact rt1 (.inl rfl) rfl hA rfl (.inl ⟨rfl, fun h => (by have h1 := h.blk.edges t htm; omega), hH.tail.tail.tail.tail.tail.tail.tail⟩)
    · exact rt1 (.inl rfl) rfl hA rfl (.inl ⟨rfl, fun h => (by have h1 := h.blk.edges t htm; omega), hH.tail.tail.tail.tail.tail.tail.tail⟩)
    · exact rt1 (.inl rfl) rfl hA rfl (.inl ⟨rfl, fun h => (by have h1 := (h.blk.edges t htm).2.2.1; omega), hH.tail.tail.tail.tail.tail.tail.tail⟩)
    have hb3 : t.a.l.length = (c.f.bs.l.getD t.b.toNat blc0).ps.l.length := by omega
    have hb1 : (n : Int) < t.b := by omega
    have hb2 : t.b < c.f.bs.l.length := by omega
    have hST2 := hH.perm (H' := cb bC 112 (encC c (q + 1)) :: sk bW ks :: cb bN 61 (encEd t) :: sk c.bE (es ++ bvs bl) :: own 109 1 c.oT c.nT c.cT (flat encO (tc')) :: all (th'.map sko) :: cb b5 53 (encBl bl) :: H) (by (repeat (first | exact List.Perm.refl _ | exact List.Perm.nil | refine perm_pick 0 rfl ?_ | refine perm_pick 1 rfl ?_ | refine perm_pick 2 rfl ?_ | refine perm_pick 3 rfl ?_ | refine perm_pick 4 rfl ?_ | refine perm_pick 5 rfl ?_ | refine perm_pick 6 rfl ?_ | refine perm_pick 7 rfl ?_ | refine perm_pick 8 rfl ?_ | refine perm_pick 9 rfl ?_ | refine perm_pick 10 rfl ?_ | refine perm_pick 11 rfl ?_)))
    clear hH
    (refine dr_op3 hA rfl rfl rfl (by decide) (op_call rfl rfl rfl (atoms_spec w0 _ _ c bC bW (q + 1) ks t.a hST2 htR (by omega) (by omega))) ?_; clear hA hST2)
    rintro _ w (⟨hat, rfl, hH⟩ | ⟨hat, rfl, q', hq3, hq4, hH⟩) a hA
    rotate_left
    · repeat' (first | (refine QT ?_; clear hA a; intro a hA) | (refine CT ?_ <;> repeat' refine CT ?_))
      exact rt1 (.inl rfl) rfl hA rfl (.inl ⟨rfl, fun h => hat (ats_of hks (by have h1 := (h.blk.edges t htm).2.2.2; rw [hS0] at h1; exact h1) (by have h1 := h.size; rw [blkN_eq] at h1; have h2 := edgN_at ht; omega)), hH.tail.tail.tail.tail.tail.tail.tail⟩)
    obtain ⟨m, hm1⟩ : ∃ m : Nat, t.b = m := ⟨t.b.toNat, by omega⟩
    have hth0l : th'.length = th0.length := hth.len
    have hml : m < th'.length := by omega
    obtain ⟨st', hst'⟩ : ∃ x, th'[m]? = some x := ⟨_, List.getElem?_eq_getElem hml⟩
    have htcm : tc'[m]? = some st' := (hag' m (by omega)).trans hst'
    have hcm : (flat encO tc')[m * 1]? = some (mvO st') := flat_get (off := 0) encO_len htcm (by rw [encO_eq]; rfl)
    have hnT : c.nT = th'.length := by omega
    have htcl : tc'.length = th'.length := by omega
    repeat' (first | (refine QT ?_; clear hA a; intro a hA) | (refine CT ?_ <;> repeat' refine CT ?_))
    replace hH := hH.perm (H' := cb bC 112 (encC c (q + 1 + (t.a.l.length : Int))) :: own 109 1 c.oT c.nT c.cT (flat encO (tc')) :: all (th'.map sko) :: sk bW ks :: sk c.bE (es ++ bvs bl) :: cb b5 53 (encBl bl) :: cb bN 61 (encEd t) :: H) (by (repeat (first | exact List.Perm.refl _ | exact List.Perm.nil | refine perm_pick 0 rfl ?_ | refine perm_pick 1 rfl ?_ | refine perm_pick 2 rfl ?_ | refine perm_pick 3 rfl ?_ | refine perm_pick 4 rfl ?_ | refine perm_pick 5 rfl ?_ | refine perm_pick 6 rfl ?_ | refine perm_pick 7 rfl ?_ | refine perm_pick 8 rfl ?_ | refine perm_pick 9 rfl ?_ | refine perm_pick 10 rfl ?_ | refine perm_pick 11 rfl ?_)))
    (refine st_op hA rfl rfl (by decide) (op_call rfl rfl (by rw [hm1]; rfl) (meet_spec w0 _ _ c bC bW m _ ks tc' th' st' hH hnT htcl hml hst' hcm)) ?_; clear hA hH)
    rintro _ w ⟨b', ks', hk', hH⟩ a hA
    repeat' (first | (refine QT ?_; clear hA a; intro a hA) | (refine CT ?_ <;> repeat' refine CT ?_))
    have hats : ∀ a ∈ t.a.l, atS c.g (nowS (Sk k0) bl bl.is.l.length) a := fun a ha => at_of hks (hat.1 a ha)
    have hqn : q + 1 + (t.a.l.length : Int) ≤ 1200000 + ((j + 1 : Nat) : Int) := by
      rcases hat.2 with h | h
      · rw [h]
        show q + 1 + (0 : Int) ≤ _
        omega
      · omega
    have hth2 := thR_next (b := b') hth hm1 hml hst' hks hk'
    rw [← take_snoc ht] at hth2
    have hag2 : ∀ k, n < k → (tc'.set m (some (b', ks')))[k]? = (th'.set m (some (b', ks')))[k]? := fun k hk => by
      by_cases he : m = k
      · subst he
        rw [List.getElem?_set_self (by omega), List.getElem?_set_self (by omega)]
      · rw [List.getElem?_set_ne he, List.getElem?_set_ne he]
        exact hag' k hk
    exact ⟨j + 1, ⟨tc'.set m (some (b', ks')), th'.set m (some (b', ks')), _, ⟨hlt, (by rw [edgN_next ht]; omega), hqn, hth2, by rw [List.length_set]; exact htl, hag2, eds_next ht heds ⟨hb1, hb2, hb3, hats⟩⟩, (hH.rm 6).perm (by (repeat (first | exact List.Perm.refl _ | exact List.Perm.nil | refine perm_pick 0 rfl ?_ | refine perm_pick 1 rfl ?_ | refine perm_pick 2 rfl ?_ | refine perm_pick 3 rfl ?_ | refine perm_pick 4 rfl ?_ | refine perm_pick 5 rfl ?_ | refine perm_pick 6 rfl ?_ | refine perm_pick 7 rfl ?_ | refine perm_pick 8 rfl ?_ | refine perm_pick 9 rfl ?_ | refine perm_pick 10 rfl ?_ | refine perm_pick 11 rfl ?_))), (hA.sub (by (repeat (first | exact trivial | refine ⟨rfl, ?_⟩)); first | done | fail "sub"))⟩, by omega⟩
  clear hA hH
  rintro a w ⟨tc', th', q3, ⟨hqa, hqb, hth, htl, hag', heds⟩, hH, hA⟩
  repeat' (first | (refine QT ?_; clear hA a; intro a hA) | (refine CT ?_ <;> repeat' refine CT ?_))
  have hfin : HS w0 noM (cb bC 112 (encC c (q3)) :: sk c.bE (es ++ bvs bl) :: own 109 1 c.oT c.nT c.cT (flat encO (tc')) :: all (th'.map sko) :: H) w := ((hH.rm 1).rm 4)
  have hqf : q3 = p + (blkN bl : Int) := by rw [blkN_eq]; omega
  by_cases hmax : q3 ≤ 65536
  · rw [decide_eq_true hmax] at hA
    rw [hqf] at hfin
    refine rt1 (.inl rfl) rfl hA rfl (.inr ⟨rfl, ⟨hi0, ?_, hev1, by omega⟩, tc', th', ?_, htl, hag', hfin⟩)
    · rw [hS0]
      exact ⟨hfirst, hins, hbE.1 rfl, hends, heds⟩
    · rw [hS0, ← hth0]
      exact hth
  · rw [decide_eq_false hmax] at hA
    exact rt1 (.inl rfl) rfl hA rfl (.inl ⟨rfl, fun h => (by have h1 := h.size; omega), hfin.tail.tail.tail.tail⟩)
end Go.Proofs.YtenlcdokaadobaaGreatDoor
