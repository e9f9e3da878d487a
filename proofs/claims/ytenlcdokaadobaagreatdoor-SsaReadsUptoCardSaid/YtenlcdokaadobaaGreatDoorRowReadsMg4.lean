/-
  ssa.May's check: a block, exactly. Conditions: none.
  anf.May's lists of names, exactly. Conditions: none.
  anf.May's check, at a body that returns a number, exactly. Conditions: none.
  anf.May at functions that return a number: exactly. Conditions: none.
  Graphs that may be: what ssa.May's loop over blocks keeps, exactly. Conditions: none.
-/
import Derived.Test.YtenlcdokaadobaaGreatDoorRowReadsMg3
namespace Go.Proofs.YtenlcdokaadobaaGreatDoor
open Go Go.Fw
set_option linter.unusedVariables false
theorem at_iff {g : Grs} {ks : List Int} {S : Int → Prop} {a : Atm} (hs : ∀ x, x ∈ ks ↔ S x) : atOk g ks a ↔ atS g S a := by
  unfold atOk atS
  rw [hs]
theorem at_of {g : Grs} {ks : List Int} {S : Int → Prop} {a : Atm} (hs : ∀ x, x ∈ ks ↔ S x) (h : atOk g ks a) : atS g S a := (at_iff hs).1 h
def Sk (k0 : List Int) (x : Int) : Prop := x ∈ k0
def setA (ss : List (Option (Nat × List Int))) (n : Nat) : List Int := kso ((ss[n]?).getD none)
def isA (ss : List (Option (Nat × List Int))) (n : Nat) : Prop := ((ss[n]?).getD none).isSome = true
structure ThR (th : List (Option (Nat × List Int))) (S : Int → Prop) (l : List Edg) (th' : List (Option (Nat × List Int))) : Prop where
  len : th'.length = th.length
  come : ∀ t ∈ l, ∀ m : Nat, t.b = m → isA th' m ∧ ∀ x ∈ setA th' m, S x
  sub : ∀ m x, x ∈ setA th' m → (isA th m → x ∈ setA th m) ∧ (¬ isA th m → S x)
  keep : ∀ m, isA th m → isA th' m
  from_ : ∀ m : Nat, isA th' m → isA th m ∨ ∃ t ∈ l, t.b = (m : Int)
  all_ : ∀ (m : Nat) (x : Int), isA th' m → (isA th m → x ∈ setA th m) → ((∃ t ∈ l, t.b = (m : Int)) → S x) → x ∈ setA th' m
theorem thR_0 (th : List (Option (Nat × List Int))) (S : Int → Prop) : ThR th S [] th :=
  ⟨rfl, fun t ht => absurd ht List.not_mem_nil, fun m x h => ⟨fun _ => h, fun hn => (by
    unfold isA at hn
    unfold setA at h
    cases h2 : (th[m]?).getD none with
    | none => rw [h2] at h; exact absurd h List.not_mem_nil
    | some p => rw [h2] at hn; exact absurd rfl hn)⟩, fun m h => h, fun m h => .inl h, fun m x hi h _ => h hi⟩
theorem setA_set {th : List (Option (Nat × List Int))} {t : Nat} (ht : t < th.length) (y : Option (Nat × List Int)) (m : Nat) : ((th.set t y)[m]?).getD none = if m = t then y else (th[m]?).getD none := by
  by_cases h : m = t
  · subst h
    rw [if_pos rfl, List.getElem?_set_self ht]
    rfl
  · rw [if_neg h, List.getElem?_set_ne (fun e => h e.symm)]
theorem thR_next {th th1 : List (Option (Nat × List Int))} {S : Int → Prop} {l : List Edg} {t : Edg} {m : Nat} {b : Nat} {ks ks' : List Int} {st : Option (Nat × List Int)} (h : ThR th S l th1) (htb : t.b = m) (hm : m < th1.length) (hst : th1[m]? = some st) (hks : ∀ x, x ∈ ks ↔ S x)
    (hk : ∀ x, x ∈ ks' ↔ x ∈ ks ∧ (st = none ∨ x ∈ kso st)) : ThR th S (l ++ [t]) (th1.set m (some (b, ks'))) := by
  have hg := setA_set hm (some (b, ks'))
  have hsA : setA th1 m = kso st := by unfold setA; rw [hst]; rfl
  have hiA : isA th1 m ↔ st.isSome = true := by unfold isA; rw [hst]; exact Iff.rfl
  refine ⟨by rw [List.length_set]; exact h.len, fun t' ht' m' hm' => ?_, fun m' x hx => ?_, fun m' hi => ?_, fun m' hi => ?_, fun m' x hi h1 h2 => ?_⟩
  · unfold isA setA
    rw [hg]
    by_cases he : m' = m
    · rw [if_pos he]
      exact ⟨rfl, fun x hx => (hks x).1 ((hk x).1 hx).1⟩
    · rw [if_neg he]
      rcases List.mem_append.1 ht' with h1 | h1
      · exact h.come t' h1 m' hm'
      · rw [List.mem_singleton] at h1
        subst h1
        exact absurd (by omega) he
  · unfold setA at hx
    rw [hg] at hx
    by_cases he : m' = m
    · rw [if_pos he] at hx
      subst he
      have h1 := (hk x).1 hx
      have hS : S x := (hks x).1 h1.1
      refine ⟨fun hi => ?_, fun _ => hS⟩
      have h2 : st.isSome = true := hiA.1 (h.keep _ hi)
      have h3 : x ∈ kso st := h1.2.resolve_left (fun e => (by rw [e] at h2; cases h2))
      exact (h.sub m' x (by rw [hsA]; exact h3)).1 hi
    · rw [if_neg he] at hx
      exact h.sub m' x hx
  · unfold isA
    rw [hg]
    by_cases he : m' = m
    · rw [if_pos he]; rfl
    · rw [if_neg he]; exact h.keep m' hi
  · unfold isA at hi
    rw [hg] at hi
    by_cases he : m' = m
    · exact .inr ⟨t, List.mem_append_right _ (.head _), by omega⟩
    · rw [if_neg he] at hi
      exact (h.from_ m' hi).imp id fun ⟨t', h1, h2⟩ => ⟨t', List.mem_append_left _ h1, h2⟩
  · unfold setA
    rw [hg]
    by_cases he : m' = m
    · rw [if_pos he]
      subst he
      have hS : S x := h2 ⟨t, List.mem_append_right _ (.head _), htb⟩
      refine (hk x).2 ⟨(hks x).2 hS, ?_⟩
      cases hst2 : st with
      | none => exact .inl rfl
      | some p =>
        refine .inr ?_
        have h3 := h.all_ m' x (hiA.2 (by rw [hst2]; rfl)) h1 fun _ => hS
        rw [hsA, hst2] at h3
        exact h3
    · rw [if_neg he]
      refine h.all_ m' x ?_ h1 fun ⟨t', h3, h4⟩ => h2 ⟨t', List.mem_append_left _ h3, h4⟩
      unfold isA at hi ⊢
      rw [hg, if_neg he] at hi
      exact hi
theorem nodup_len_le {l : List Int} (hn : l.Nodup) (hr : ∀ x ∈ l, 2 ≤ x ∧ x ≤ 1048576) : l.length ≤ 1048577 := by
  have key : ∀ {l m : List Int}, l.Nodup → (∀ x ∈ l, x ∈ m) → l.length ≤ m.length := by
    intro l
    induction l with
    | nil => intro m _ _; exact Nat.zero_le _
    | cons x l ih =>
      intro m hn hs
      have hx := hs x (.head _)
      have := ih (m := m.erase x) (List.nodup_cons.1 hn).2 fun y hy => (List.mem_erase_of_ne fun (e : y = x) => (List.nodup_cons.1 hn).1 (e ▸ hy)).2 (hs y (.tail _ hy))
      rw [List.length_erase_of_mem hx] at this
      have := List.length_pos_of_mem hx
      rw [List.length_cons]
      omega
  have := key (m := (List.range 1048577).map fun k : Nat => (k : Int)) hn fun x hx => by
    have h1 := hr x hx
    exact List.mem_map.2 ⟨x.toNat, List.mem_range.2 (by omega), by omega⟩
  rw [List.length_map, List.length_range] at this
  exact this
theorem EvOk.add {es : List Int} {x : Int} (h : EvOk es) (hb : bindP es x) : EvOk (es ++ [x]) := by
  refine ⟨List.nodup_append.2 ⟨h.nd, List.nodup_cons.2 ⟨List.not_mem_nil, List.nodup_nil⟩, fun a ha b hb' e => ?_⟩, fun y hy => ?_⟩
  · rw [List.mem_singleton] at hb'
    subst hb'
    exact hb.2.2 (e ▸ ha)
  · rcases List.mem_append.1 hy with h1 | h1
    · exact h.rg y h1
    · rw [List.mem_singleton] at h1
      subst h1
      exact ⟨hb.1, hb.2.1⟩
theorem EvOk.le {es : List Int} (h : EvOk es) : es.length ≤ 1048577 := nodup_len_le h.nd h.rg
theorem map_x_snoc {l : List Ins} {j : Nat} {x : Ins} (h : l[j]? = some x) : (l.take (j + 1)).map Ins.x = (l.take j).map Ins.x ++ [x.x] := by rw [take_snoc h, List.map_append]; rfl
theorem now_ps {k0 ks : List Int} {l : List Int} {j : Nat} {x : Int} (hx : l[j]? = some x) (h : ∀ y, y ∈ ks ↔ y ∈ k0 ∨ y ∈ l.take j) (y : Int) : y ∈ sadd ks x ↔ y ∈ k0 ∨ y ∈ l.take (j + 1) := by
  rw [mem_sadd, h, take_snoc hx, List.mem_append, List.mem_singleton, or_assoc]
theorem now_0 {k0 ks : List Int} {bl : Blc} (h : ∀ y, y ∈ ks ↔ y ∈ k0 ∨ y ∈ bl.ps.l) (y : Int) : y ∈ ks ↔ nowS (Sk k0) bl 0 y := by
  rw [h]
  unfold nowS Sk
  rw [List.take_zero]
  simp
theorem now_next {k0 ks : List Int} {bl : Blc} {i : Nat} {x : Ins} (hx : bl.is.l[i]? = some x) (h : ∀ y, y ∈ ks ↔ nowS (Sk k0) bl i y) (y : Int) : y ∈ sadd ks x.x ↔ nowS (Sk k0) bl (i + 1) y := by
  rw [mem_sadd, h]
  unfold nowS
  rw [map_x_snoc hx, List.mem_append, List.mem_singleton, or_assoc, or_assoc]
theorem sub_st (x : Ins) (i : Nat) (v : Value) (h : (encSt x.r)[i]? = some v) : (encIn x)[0 + 1 + i]? = some v := by rw [Nat.zero_add, Nat.add_comm]; exact h
theorem sub_en (b : Blc) (i : Nat) (v : Value) (h : (encEn b.e)[i]? = some v) : (encBl b)[0 + 2 + i]? = some v := by rw [Nat.zero_add, Nat.add_comm]; exact h
theorem blk_at {l : List Blc} {k : Nat} (h : k < l.length) : (flat encBl l)[k * 6 + 0]? = some (.slice (l.getD k blc0).ps.o (l.getD k blc0).ps.l.length (l.getD k blc0).ps.c) := by
  refine flat_get (off := 0) encBl_len (List.getElem?_eq_getElem h) ?_
  rw [List.getD_eq_getElem?_getD, List.getElem?_eq_getElem h]
  rfl
theorem eds_next {P : Edg → Prop} {l : List Edg} {j : Nat} {t : Edg} (ht : l[j]? = some t) (h : ∀ t ∈ l.take j, P t) (hp : P t) : ∀ t ∈ l.take (j + 1), P t := by
  intro s hs
  rw [take_snoc ht] at hs
  rcases List.mem_append.1 hs with h1 | h1
  · exact h s h1
  · rw [List.mem_singleton] at h1
    exact h1 ▸ hp
theorem map_none (th : List (Option (Nat × List Int))) (n : Nat) : (th.map sko).set n (all []) = (th.set n none).map sko := by rw [List.map_set]; rfl
theorem ev_ps {es : List Int} {l : List Int} {j : Nat} {x : Int} (hx : l[j]? = some x) : es ++ l.take j ++ [x] = es ++ l.take (j + 1) := by rw [take_snoc hx, List.append_assoc]
theorem ev_is {es q : List Int} {l : List Ins} {j : Nat} {x : Ins} (hx : l[j]? = some x) : es ++ q ++ (l.take j).map Ins.x ++ [x.x] = es ++ q ++ (l.take (j + 1)).map Ins.x := by rw [map_x_snoc hx, List.append_assoc]
theorem ev_end (es : List Int) (bl : Blc) : es ++ bl.ps.l ++ (bl.is.l.take bl.is.l.length).map Ins.x = es ++ bvs bl := by rw [List.take_length, List.append_assoc]; rfl
theorem ins_next {g : Grs} {f : Gr} {la k0 ks : List Int} {bl : Blc} {i : Nat} {x : Ins} (hx : bl.is.l[i]? = some x) (h : ∀ k x, bl.is.l[k]? = some x → k < i → FormP g la f.caps x.r ∧ ∀ a ∈ x.r.a.l, atS g (nowS (Sk k0) bl k) a) (hks : ∀ y, y ∈ ks ↔ nowS (Sk k0) bl i y) (hF : FormP g la f.caps x.r) (ha : ∀ a ∈ x.r.a.l, atOk g ks a) :
    ∀ k x, bl.is.l[k]? = some x → k < i + 1 → FormP g la f.caps x.r ∧ ∀ a ∈ x.r.a.l, atS g (nowS (Sk k0) bl k) a := by
  intro k y hk hlt
  by_cases he : k = i
  · subst he
    rw [hx] at hk
    cases hk
    exact ⟨hF, fun a hay => at_of hks (ha a hay)⟩
  · exact h k y hk (by omega)
def insN (l : List Ins) : Nat := (l.map fun i => 1 + i.r.a.l.length).sum
def edgN (l : List Edg) : Nat := (l.map fun t => 1 + t.a.l.length).sum
theorem blkN_eq (bl : Blc) : blkN bl = 2 + bl.ps.l.length + insN bl.is.l + bl.e.a.l.length + edgN bl.e.to.l := rfl
theorem insN_next {l : List Ins} {i : Nat} {x : Ins} (h : l[i]? = some x) : insN (l.take (i + 1)) = insN (l.take i) + 1 + x.r.a.l.length := by
  unfold insN
  rw [take_snoc h, List.map_append, List.sum_append]
  simp; omega
theorem edgN_next {l : List Edg} {i : Nat} {x : Edg} (h : l[i]? = some x) : edgN (l.take (i + 1)) = edgN (l.take i) + 1 + x.a.l.length := by
  unfold edgN
  rw [take_snoc h, List.map_append, List.sum_append]
  simp; omega
theorem sum_take_le (l : List Nat) (i : Nat) : (l.take i).sum ≤ l.sum := by
  have h := congrArg List.sum (List.take_append_drop i l)
  rw [List.sum_append] at h
  omega
theorem insN_le (l : List Ins) (i : Nat) : insN (l.take i) ≤ insN l := by
  unfold insN
  rw [List.map_take]
  exact sum_take_le _ _
theorem edgN_le (l : List Edg) (i : Nat) : edgN (l.take i) ≤ edgN l := by
  unfold edgN
  rw [List.map_take]
  exact sum_take_le _ _
theorem insN_at {l : List Ins} {i : Nat} {x : Ins} (h : l[i]? = some x) : insN (l.take i) + 1 + x.r.a.l.length ≤ insN l := by
  rw [← insN_next h]; exact insN_le l _
theorem edgN_at {l : List Edg} {i : Nat} {x : Edg} (h : l[i]? = some x) : edgN (l.take i) + 1 + x.a.l.length ≤ edgN l := by
  rw [← edgN_next h]; exact edgN_le l _
structure BlkC (g : Grs) (f : Gr) (la : List Int) (n : Nat) (bl : Blc) (th : List (Option (Nat × List Int))) (es : List Int) (p : Int) : Prop where
  come : isA th n
  blk : BlkP g f la n bl (Sk (setA th n))
  ev : EvOk (es ++ bvs bl)
  size : p + blkN bl ≤ 65536
theorem ev_bind {a b : List Int} {x : Int} (h : EvOk (a ++ x :: b)) : bindP a x := by
  have h1 := h.rg x (List.mem_append_right _ (.head _))
  refine ⟨h1.1, h1.2, fun hx => ?_⟩
  have h2 := (List.nodup_append.1 h.nd).2.2 x hx x (.head _)
  exact h2 rfl
theorem ev_ps_no {es : List Int} {bl : Blc} {j : Nat} {x : Int} (hx : bl.ps.l[j]? = some x) (h : EvOk (es ++ bvs bl)) : bindP (es ++ bl.ps.l.take j) x := by
  have e : es ++ bvs bl = (es ++ bl.ps.l.take j) ++ x :: (bl.ps.l.drop (j + 1) ++ bl.is.l.map Ins.x) := by
    have h1 : bl.ps.l = bl.ps.l.take j ++ x :: bl.ps.l.drop (j + 1) := by
      obtain ⟨hj, rfl⟩ := List.getElem?_eq_some_iff.1 hx
      rw [List.getElem_cons_drop, List.take_append_drop]
    unfold bvs
    conv => lhs; rw [h1]
    simp
  rw [e] at h
  exact ev_bind h
theorem ev_is_no {es : List Int} {bl : Blc} {j : Nat} {x : Ins} (hx : bl.is.l[j]? = some x) (h : EvOk (es ++ bvs bl)) : bindP (es ++ bl.ps.l ++ (bl.is.l.take j).map Ins.x) x.x := by
  have e : es ++ bvs bl = (es ++ bl.ps.l ++ (bl.is.l.take j).map Ins.x) ++ x.x :: (bl.is.l.drop (j + 1)).map Ins.x := by
    have h1 : bl.is.l = bl.is.l.take j ++ x :: bl.is.l.drop (j + 1) := by
      obtain ⟨hj, rfl⟩ := List.getElem?_eq_some_iff.1 hx
      rw [List.getElem_cons_drop, List.take_append_drop]
    unfold bvs
    conv => lhs; rw [h1]
    simp
  rw [e] at h
  exact ev_bind h
theorem ats_of {g : Grs} {ks : List Int} {S : Int → Prop} {p : Int} {l : List Atm} (hs : ∀ x, x ∈ ks ↔ S x) (h : ∀ a ∈ l, atS g S a) (hp : p + l.length ≤ 65536) : atsOk g ks p l := ⟨fun a ha => (at_iff hs).2 (h a ha), .inr hp⟩
set_option maxRecDepth 10000 attribute [local irreducible] Code.wp wpList Calls Ex Op1 sat bat blk cb own Go.Fw.mp Go.Fw.mpO Go.Fw.mpI Go.Fw.mpE Go.Fw.itr HS Rd Ret wkD Hp Cl Cls Exit.then Exit.inBlock Exit.noGoto bodyPost Go.Fw.flat wk2 Go.Fw.all Go.Fw.owns wpOp
attribute [local irreducible] sk mpK sko mvO entK atOk atS nowS

set_option maxHeartbeats 16000000 in
theorem block_spec (w0 w : World) (H : List It) (c : Ck) (bC n : Nat) (p : Int) (es la : List Int) (tc th : List (Option (Nat × List Int))) (bl : Blc) (hH : HS w0 noM (cb bC 112 (encC c (p)) :: sk c.bE es :: own 109 1 c.oT c.nT c.cT (flat encO (tc)) :: all (th.map sko) :: H) w) (hm : own 3 1 c.oA c.nA c.cA (flat Fw.encI la) ∈ H) (hla : c.nA = la.length) (hla9 : la.length ≤ 9223372036854775807)
    (hR : RdG w0 c.f) (hbl : c.f.bs.l[n]? = some bl) (hto : bl.e.to.l.length ≤ 1048576) (hn : c.nT = th.length) (hn2 : tc.length = th.length) (hn3 : th.length = c.f.bs.l.length) (hag : ∀ m, n ≤ m → tc[m]? = th[m]?) (hp0 : 0 ≤ p) (hp1 : p ≤ 65536) (hev : EvOk es) :
    Ret Tryz.prog 33 #[.pointer (some (bat bC 0)), .int .i64 n] w (fun v w' => (v = .bool false ∧ ¬ BlkC c.g c.f la n bl th es p ∧ HS w0 noM H w') ∨
      (v = .bool true ∧ BlkC c.g c.f la n bl th es p ∧ ∃ tc' th', ThR (th.set n none) (nowS (Sk (setA th n)) bl bl.is.l.length) bl.e.to.l th' ∧ tc'.length = tc.length ∧ (∀ m, n < m → tc'[m]? = th'[m]?) ∧
        HS w0 noM (cb bC 112 (encC c (p + (blkN bl : Int))) :: sk c.bE (es ++ bvs bl) :: own 109 1 c.oT c.nT c.cT (flat encO (tc')) :: all (th'.map sko) :: H) w')) := by
  have hnl := (List.getElem?_eq_some_iff.1 hbl).1
  have hbR := hR.2 bl (List.mem_of_getElem? hbl)
  have hle := hR.1.le
  have hlp := hbR.1.le
  have hli := hbR.2.1.le
  have hsp : Sp c.f.bs.o c.f.bs.l.length := hR.1.1.sp (sz := 6) (flat_length encBl_len _) (by omega)
  have hspP : Sp bl.ps.o bl.ps.l.length := hbR.1.1.sp (sz := 1) (flat_length Fw.encI_len _) (by omega)
  have hspI : Sp bl.is.o bl.is.l.length := hbR.2.1.1.sp (sz := 5) (flat_length encIn_len _) (by omega)
  have hspT : Sp c.oT c.nT := hH.own_sp (T := 109) (.tail _ (.tail _ (.head _)))
  have hvs := flat_all encBl_len hbl
  obtain ⟨st, hst⟩ : ∃ st, th[n]? = some st := ⟨_, List.getElem?_eq_getElem (by omega)⟩
  have htn : n < (th.map sko).length := by rw [List.length_map]; omega
  have hsm : (th.map sko)[n]? = some (sko st) := by rw [List.getElem?_map, hst]; rfl
  have htc : tc[n]? = some st := (hag n (Nat.le_refl _)).trans hst
  have hvT : (flat encO tc)[n * 1]? = some (mvO st) := flat_get (off := 0) encO_len htc (by rw [encO_eq]; rfl)
  (refine enter (N := 190) Tryz.func33 rfl Tryz.ntmps33 rfl ?_; intro a hA; dsimp only [sl0, Nat.reduceAdd] at hA)
  repeat' (first | (refine QT ?_; clear hA a; intro a hA) | (refine CT ?_ <;> repeat' refine CT ?_) | fail)
  have hST : HS w0 noM [cb bC 112 (encC c (p)), own 109 1 c.oT c.nT c.cT (flat encO (tc))] w := HS.left (H1 := [_, _]) (H2 := sk c.bE es :: all (th.map sko) :: H) (hH.perm (by (repeat (first | exact List.Perm.refl _ | exact List.Perm.nil | refine perm_pick 0 rfl ?_ | refine perm_pick 1 rfl ?_ | refine perm_pick 2 rfl ?_ | refine perm_pick 3 rfl ?_ | refine perm_pick 4 rfl ?_ | refine perm_pick 5 rfl ?_ | refine perm_pick 6 rfl ?_ | refine perm_pick 7 rfl ?_ | refine perm_pick 8 rfl ?_ | refine perm_pick 9 rfl ?_ | refine perm_pick 10 rfl ?_ | refine perm_pick 11 rfl ?_))))
  (refine wp_draw_HS (H := [_, _]) [(0, 1), (1, 1), (2, 1), (3, 1), (4, 1), (5, 1), (6, 1), (7, 1), (8, 1), (9, 1), (10, 1), (11, 1), (12, 1), (13, 1), (14, 1), (15, 0), (16, 0), (17, 1)] mixed (by decide +kernel) (hST) ?_; replace hH := hH.drew)
  clear hST
  repeat' (first | ((first | apply st_ex hA hH rfl rfl (by decide) | apply dr_ex hA rfl rfl rfl (by decide) | apply dr_exp hA rfl rfl rfl (by decide) | apply dr_ex3 hA hH rfl rfl rfl (by decide)); (first | (apply ex_load_st (vs := encBl bl); rfl; rfl; exact cls_rd hR.1.1 id hvs) | (apply ex_indexAddr_nat; rfl; rfl; omega; exact hspT) | (apply ex_indexAddr_nat; rfl; rfl; omega; exact hsp) | (apply ex_load; rfl; apply cl_own (T := 109); exact MEMT; exact hvT)); clear hA a; intro a hA) | (refine QT ?_; clear hA a; intro a hA) | fail)
  (apply dr_op hA rfl rfl rfl (by decide); apply op_alloc; exact hH; clear hA hH; rintro _ w ⟨bN, rfl, hH⟩; refine ⟨HS.left (H1 := [_, _]) (H2 := sk c.bE es :: all (th.map sko) :: H) (hH.tail.perm (by (repeat (first | exact List.Perm.refl _ | exact List.Perm.nil | refine perm_pick 0 rfl ?_ | refine perm_pick 1 rfl ?_ | refine perm_pick 2 rfl ?_ | refine perm_pick 3 rfl ?_ | refine perm_pick 4 rfl ?_ | refine perm_pick 5 rfl ?_ | refine perm_pick 6 rfl ?_ | refine perm_pick 7 rfl ?_ | refine perm_pick 8 rfl ?_ | refine perm_pick 9 rfl ?_ | refine perm_pick 10 rfl ?_ | refine perm_pick 11 rfl ?_)))), ?_⟩; intro a hA)
  (apply dr_op0 hA rfl rfl rfl; apply op_store_agg (vs := encBl bl); rfl; rfl; exact hH; (repeat constructor); (repeat rfl); clear hH; rintro _ w hH; refine ⟨HS.left (H1 := [_, _]) (H2 := sk c.bE es :: all (th.map sko) :: H) (hH.tail.perm (by (repeat (first | exact List.Perm.refl _ | exact List.Perm.nil | refine perm_pick 0 rfl ?_ | refine perm_pick 1 rfl ?_ | refine perm_pick 2 rfl ?_ | refine perm_pick 3 rfl ?_ | refine perm_pick 4 rfl ?_ | refine perm_pick 5 rfl ?_ | refine perm_pick 6 rfl ?_ | refine perm_pick 7 rfl ?_ | refine perm_pick 8 rfl ?_ | refine perm_pick 9 rfl ?_ | refine perm_pick 10 rfl ?_ | refine perm_pick 11 rfl ?_)))), ?_⟩)
  rcases st with _ | ⟨bW, k0⟩
  · rw [mvO_n] at hA
    repeat' (first | (refine GT ?_ ?_ <;> intro hg <;> clear hA a <;> intro a hA <;> (first | exact FA | replace hg := of_decide_eq_true hg | replace hg := of_decide_eq_false hg | skip)) | ((first | apply st_ex hA hH rfl rfl (by decide) | apply dr_ex hA rfl rfl rfl (by decide) | apply dr_exp hA rfl rfl rfl (by decide) | apply dr_ex3 hA hH rfl rfl rfl (by decide)); (first | (apply ex_eqlMapT; rfl; rfl)); clear hA a; intro a hA) | (refine QT ?_; clear hA a; intro a hA) | (refine CT ?_ <;> repeat' refine CT ?_) | fail)
    exact rt1 (.inl rfl) rfl hA rfl (.inl ⟨rfl, fun h => (by have h1 := h.come; unfold isA at h1; rw [hst] at h1; cases h1), hH.tail.tail.tail.tail.tail⟩)
  rw [mvO_s] at hA
  have hS0 : setA th n = k0 := by unfold setA; rw [hst]; rfl
  have hi0 : isA th n := by unfold isA; rw [hst]; rfl
  obtain ⟨b5, hb5⟩ : ∃ x, x = bN := ⟨_, rfl⟩
  rw [← hb5] at hA hH
  clear hb5 bN
  (first | (apply dr_exb hA rfl rfl rfl (by decide) rfl (ex_move rfl) <;> intro hg <;> clear hA a <;> intro a hA <;> (first | (replace hg := of_decide_eq_true hg; try (exfalso; omega)) | (replace hg := of_decide_eq_false hg; try (exfalso; omega)) | (exact absurd hg (by decide)) | skip)) | (apply dr_ex hA rfl rfl rfl (by decide); (first | (apply ex_move; rfl) | (apply ex_assign; rfl)  | exact EXT); clear hA a; intro a hA) | (apply dr_skip hA rfl rfl rfl (by decide); clear hA a; intro a hA) | (apply dr_exp hA rfl rfl rfl (by decide); (first | (apply ex_move; rfl) | (apply ex_assign; rfl)  | exact EXT); clear hA a; intro a hA) | (apply dr_ex3 hA hH rfl rfl rfl (by decide); (first | (apply ex_move; rfl) | (apply ex_assign; rfl)  | exact EXT); clear hA a; intro a hA) | (apply dr_skip3 hA rfl rfl rfl (by decide); clear hA a; intro a hA) | apply dr_nil | apply dr_late | apply dr_nil2)
  (first | (apply dr_exb hA rfl rfl rfl (by decide) rfl (ex_move rfl) <;> intro hg <;> clear hA a <;> intro a hA <;> (first | (replace hg := of_decide_eq_true hg; try (exfalso; omega)) | (replace hg := of_decide_eq_false hg; try (exfalso; omega)) | (exact absurd hg (by decide)) | skip)) | (apply dr_ex hA rfl rfl rfl (by decide); (first | (apply ex_move; rfl) | (apply ex_assign; rfl)  | exact EXT); clear hA a; intro a hA) | (apply dr_skip hA rfl rfl rfl (by decide); clear hA a; intro a hA) | (apply dr_exp hA rfl rfl rfl (by decide); (first | (apply ex_move; rfl) | (apply ex_assign; rfl)  | exact EXT); clear hA a; intro a hA) | (apply dr_ex3 hA hH rfl rfl rfl (by decide); (first | (apply ex_move; rfl) | (apply ex_assign; rfl)  | exact EXT); clear hA a; intro a hA) | (apply dr_skip3 hA rfl rfl rfl (by decide); clear hA a; intro a hA) | apply dr_nil | apply dr_late | apply dr_nil2)
  repeat refine CT ?_
  refine st_join (fun a w => (n = 0 → bl.ps.l = []) ∧ HS w0 noM (cb b5 53 (encBl bl) :: cb bC 112 (encC c (p)) :: sk c.bE es :: own 109 1 c.oT c.nT c.cT (flat encO (tc)) :: all (th.map sko) :: H) w ∧ Sl 190 [(5, .pointer (some (bat b5 0))), (6, .map (some bW)), (0, .pointer (some (bat bC 0))), (1, .int .i64 n)] a) ?_ ?_
  · repeat' (first | (refine GT ?_ ?_ <;> intro hg <;> clear hA a <;> intro a hA <;> (first | exact FA | replace hg := of_decide_eq_true hg | replace hg := of_decide_eq_false hg | skip)) | ((first | apply st_ex hA hH rfl rfl (by decide) | apply dr_ex hA rfl rfl rfl (by decide) | apply dr_exp hA rfl rfl rfl (by decide) | apply dr_ex3 hA hH rfl rfl rfl (by decide)); (first | (apply ex_eqlMapF; rfl; rfl)); clear hA a; intro a hA) | (refine QT ?_; clear hA a; intro a hA) | ((first | refine CT ?_ | (refine DT ?_ ?_ <;> intro hc <;> try (exfalso; omega))) <;> repeat' refine CT ?_) | fail)
    · exact rt1 (.inl rfl) rfl hA rfl (.inl ⟨rfl, fun h => absurd (congrArg List.length (h.blk.first (by omega))) (by show ¬ bl.ps.l.length = 0; omega), hH.tail.tail.tail.tail.tail⟩)
    · exact ⟨fun _ => List.length_eq_zero_iff.1 (by omega), hH, (hA.sub (by (repeat (first | exact trivial | refine ⟨rfl, ?_⟩)); first | done | fail "sub"))⟩
    · exact ⟨fun h => (by omega), hH, (hA.sub (by (repeat (first | exact trivial | refine ⟨rfl, ?_⟩)); first | done | fail "sub"))⟩
  clear hA hH
  rintro a w ⟨hfirst, hH, hA⟩
  have hH1 := (hH.up 4 rfl).openAt hsm
  clear hH
  dsimp only [List.eraseIdx_cons_succ, List.eraseIdx_cons_zero] at hH1
  rw [sko_s] at hH1
  have hH := (hH1.nil_all.perm (H' := all [] :: all ((th.map sko).eraseIdx n) :: cb bC 112 (encC c (p)) :: sk c.bE es :: sk bW k0 :: own 109 1 c.oT c.nT c.cT (flat encO (tc)) :: cb b5 53 (encBl bl) :: H) (by (repeat (first | exact List.Perm.refl _ | exact List.Perm.nil | refine perm_pick 0 rfl ?_ | refine perm_pick 1 rfl ?_ | refine perm_pick 2 rfl ?_ | refine perm_pick 3 rfl ?_ | refine perm_pick 4 rfl ?_ | refine perm_pick 5 rfl ?_ | refine perm_pick 6 rfl ?_ | refine perm_pick 7 rfl ?_ | refine perm_pick 8 rfl ?_ | refine perm_pick 9 rfl ?_ | refine perm_pick 10 rfl ?_ | refine perm_pick 11 rfl ?_)))).shutAt htn
  clear hH1
  rw [map_none] at hH
  obtain ⟨th0, hth0⟩ : ∃ x, x = th.set n none := ⟨_, rfl⟩
  rw [← hth0] at hH
  have hl0 : th0.length = th.length := by rw [hth0, List.length_set]
  have hag0 : ∀ m, n < m → tc[m]? = th0[m]? := fun m hm => by rw [hth0, List.getElem?_set_ne (by omega)]; exact hag m (by omega)
  replace hH := hH.perm (H' := cb bC 112 (encC c (p)) :: sk c.bE es :: sk bW k0 :: own 109 1 c.oT c.nT c.cT (flat encO (tc)) :: all (th0.map sko) :: cb b5 53 (encBl bl) :: H) (by (repeat (first | exact List.Perm.refl _ | exact List.Perm.nil | refine perm_pick 0 rfl ?_ | refine perm_pick 1 rfl ?_ | refine perm_pick 2 rfl ?_ | refine perm_pick 3 rfl ?_ | refine perm_pick 4 rfl ?_ | refine perm_pick 5 rfl ?_ | refine perm_pick 6 rfl ?_ | refine perm_pick 7 rfl ?_ | refine perm_pick 8 rfl ?_ | refine perm_pick 9 rfl ?_ | refine perm_pick 10 rfl ?_ | refine perm_pick 11 rfl ?_)))
  repeat' (first | (refine QT ?_; clear hA a; intro a hA) | (apply st_op0 hA rfl rfl; apply op_store_fld (cs' := encC c (p + 2)); rfl; rfl; rfl; exact hH; (repeat constructor); clear hH; rintro _ w hH) | (refine CT ?_ <;> repeat' refine CT ?_) | fail)
  refine wp_lpk (S := Nat) (fun j a w => ∃ ks, (j ≤ bl.ps.l.length ∧ EvOk (es ++ bl.ps.l.take j) ∧ ∀ y, y ∈ ks ↔ y ∈ k0 ∨ y ∈ bl.ps.l.take j) ∧ HS w0 noM (cb bC 112 (encC c (p + 2 + (j : Int))) :: sk c.bE (es ++ bl.ps.l.take j) :: sk bW ks :: own 109 1 c.oT c.nT c.cT (flat encO (tc)) :: all (th0.map sko) :: cb b5 53 (encBl bl) :: H) w ∧
      Sl 190 [(50, .int .i64 j), (49, .int .i64 bl.ps.l.length), (48, .slice bl.ps.o bl.ps.l.length bl.ps.c), (5, .pointer (some (bat b5 0))), (6, .map (some bW)), (0, .pointer (some (bat bC 0))), (1, .int .i64 n)] a) (fun j => bl.ps.l.length - j)
    (fun a w => ∃ ks, (EvOk (es ++ bl.ps.l) ∧ ∀ y, y ∈ ks ↔ y ∈ k0 ∨ y ∈ bl.ps.l) ∧ HS w0 noM (cb bC 112 (encC c (p + 2 + (bl.ps.l.length : Int))) :: sk c.bE (es ++ bl.ps.l) :: sk bW ks :: own 109 1 c.oT c.nT c.cT (flat encO (tc)) :: all (th0.map sko) :: cb b5 53 (encBl bl) :: H) w ∧
      Sl 190 [(5, .pointer (some (bat b5 0))), (6, .map (some bW)), (0, .pointer (some (bat bC 0))), (1, .int .i64 n)] a) 0 ⟨k0, ⟨Nat.zero_le _, (by rw [List.take_zero, List.append_nil]; exact hev), (fun y => by rw [List.take_zero]; simp)⟩, (by rw [List.take_zero, List.append_nil, show p + 2 + ((0 : Nat) : Int) = p + 2 by omega]; exact hH), (hA.sub (by (repeat (first | exact trivial | refine ⟨rfl, ?_⟩)); first | done | fail "sub"))⟩ ?_ ?_
  · clear hA hH
    rintro j a w ⟨ks, ⟨hj, hev1, hks⟩, hH, hA⟩
    by_cases hlt : j < bl.ps.l.length
    rotate_left
    · obtain rfl : j = bl.ps.l.length := by omega
      rw [List.take_length] at hev1 hks hH
      repeat' (first | (refine QT ?_; clear hA a; intro a hA) | ((first | refine CT ?_ | (refine DT ?_ ?_ <;> intro hc <;> try (exfalso; omega))) <;> repeat' refine CT ?_) | fail)
      exact ⟨ks, ⟨hev1, hks⟩, hH, (hA.sub (by (repeat (first | exact trivial | refine ⟨rfl, ?_⟩)); first | done | fail "sub"))⟩
    obtain ⟨x, hx⟩ : ∃ x, bl.ps.l[j]? = some x := ⟨_, List.getElem?_eq_getElem hlt⟩
    have hcx : (flat Fw.encI bl.ps.l)[j * 1]? = some (.int .i64 x) := flat_get (off := 0) Fw.encI_len hx rfl
    have hel := hev1.le
    rw [List.length_append, List.length_take] at hel
    have hjb : (j : Int) ≤ 1048577 := by omega
    have e1 : p + 2 + (j : Int) + 1 = p + 2 + ((j + 1 : Nat) : Int) := by omega
    repeat' (first | ((first | apply st_ex hA hH rfl rfl (by decide) | apply dr_ex hA rfl rfl rfl (by decide) | apply dr_exp hA rfl rfl rfl (by decide) | apply dr_ex3 hA hH rfl rfl rfl (by decide)); (first | (apply ex_indexAddr_nat; rfl; rfl; omega; exact hspP) | (apply ex_load; rfl; exact cl_rd hbR.1.1 id hcx)); clear hA a; intro a hA) | (refine QT ?_; clear hA a; intro a hA) | (apply st_op0 hA rfl rfl; apply op_store_fld (cs' := encC c (p + 2 + (j : Int) + 1)); rfl; rfl; rfl; exact hH; (repeat constructor); clear hH; rintro _ w hH) | ((first | refine CT ?_ | (refine DT ?_ ?_ <;> intro hc <;> try (exfalso; omega))) <;> repeat' refine CT ?_) | fail)
    (refine st_op hA rfl rfl (by decide) (op_call rfl rfl rfl (bind_spec w0 _ _ c bC bW _ _ _ x hH)) ?_; clear hA hH)
    rintro _ w (⟨hb, rfl, hH⟩ | ⟨hb, rfl, hH⟩) a hA
    rotate_left
    · repeat' (first | (refine QT ?_; clear hA a; intro a hA) | (refine CT ?_ <;> repeat' refine CT ?_) | fail)
      exact rt1 (.inl rfl) rfl hA rfl (.inl ⟨rfl, fun h => hb (ev_ps_no hx h.ev), hH.tail.tail.tail.tail.tail.tail⟩)
    repeat' (first | (refine QT ?_; clear hA a; intro a hA) | (refine CT ?_ <;> repeat' refine CT ?_) | fail)
    have hev2 := hev1.add hb
    rw [ev_ps hx] at hH hev2
    rw [e1] at hH
    exact ⟨j + 1, ⟨_, ⟨hlt, hev2, now_ps hx hks⟩, hH, (hA.sub (by (repeat (first | exact trivial | refine ⟨rfl, ?_⟩)); first | done | fail "sub"))⟩, by omega⟩
  clear hA hH
  rintro a w ⟨ks, ⟨hev1, hks0⟩, hH, hA⟩
  have hks := now_0 hks0
  clear hks0
  obtain ⟨q0, hq0⟩ : ∃ x, x = p + 2 + (bl.ps.l.length : Int) := ⟨_, rfl⟩
  have hpl : bl.ps.l.length ≤ 1048577 := by
    have := hev1.le
    rw [List.length_append] at this
    omega
  rw [← hq0] at hH
  repeat' (first | (refine QT ?_; clear hA a; intro a hA) | (refine CT ?_ <;> repeat' refine CT ?_) | fail)
  refine wp_lpk (S := Nat) (fun i a w => ∃ ks q, (i ≤ bl.is.l.length ∧ EvOk (es ++ bl.ps.l ++ (bl.is.l.take i).map Ins.x) ∧ (∀ y, y ∈ ks ↔ nowS (Sk k0) bl i y) ∧ (∀ k x, bl.is.l[k]? = some x → k < i → FormP c.g la c.f.caps x.r ∧ ∀ a ∈ x.r.a.l, atS c.g (nowS (Sk k0) bl k) a) ∧ q = q0 + insN (bl.is.l.take i) ∧ q ≤ 1200000) ∧
      HS w0 noM (cb bC 112 (encC c (q)) :: sk c.bE (es ++ bl.ps.l ++ (bl.is.l.take i).map Ins.x) :: sk bW ks :: own 109 1 c.oT c.nT c.cT (flat encO (tc)) :: all (th0.map sko) :: cb b5 53 (encBl bl) :: H) w ∧
      Sl 190 [(70, .int .i64 i), (69, .int .i64 bl.is.l.length), (68, .slice bl.is.o bl.is.l.length bl.is.c), (5, .pointer (some (bat b5 0))), (6, .map (some bW)), (0, .pointer (some (bat bC 0))), (1, .int .i64 n)] a) (fun i => bl.is.l.length - i)
    (fun a w => ∃ ks q, (EvOk (es ++ bvs bl) ∧ (∀ y, y ∈ ks ↔ nowS (Sk k0) bl bl.is.l.length y) ∧ (∀ k x, bl.is.l[k]? = some x → FormP c.g la c.f.caps x.r ∧ ∀ a ∈ x.r.a.l, atS c.g (nowS (Sk k0) bl k) a) ∧ q = q0 + insN bl.is.l ∧ q ≤ 1200000) ∧
      HS w0 noM (cb bC 112 (encC c (q)) :: sk c.bE (es ++ bvs bl) :: sk bW ks :: own 109 1 c.oT c.nT c.cT (flat encO (tc)) :: all (th0.map sko) :: cb b5 53 (encBl bl) :: H) w ∧
      Sl 190 [(5, .pointer (some (bat b5 0))), (6, .map (some bW)), (0, .pointer (some (bat bC 0))), (1, .int .i64 n)] a) 0 ⟨ks, q0, ⟨Nat.zero_le _, (by rw [List.take_zero, List.map_nil, List.append_nil]; exact hev1), hks, fun k x hk h => absurd h (Nat.not_lt_zero _), (by rw [List.take_zero]; show q0 = q0 + ((0 : Nat) : Int); omega), by omega⟩, (by rw [List.take_zero, List.map_nil, List.append_nil]; exact hH), (hA.sub (by (repeat (first | exact trivial | refine ⟨rfl, ?_⟩)); first | done | fail "sub"))⟩ ?_ ?_
  · clear hA hH hev1 hks
    rintro i a w ⟨ks, q, ⟨hi, hev1, hks, hins, hq1, hq2⟩, hH, hA⟩
    by_cases hlt : i < bl.is.l.length
    rotate_left
    · obtain rfl : i = bl.is.l.length := by omega
      rw [ev_end] at hev1 hH
      rw [List.take_length] at hq1
      repeat' (first | (refine QT ?_; clear hA a; intro a hA) | ((first | refine CT ?_ | (refine DT ?_ ?_ <;> intro hc <;> try (exfalso; omega))) <;> repeat' refine CT ?_) | fail)
      exact ⟨ks, q, ⟨hev1, hks, fun k x hk => hins k x hk (List.getElem?_eq_some_iff.1 hk).1, hq1, hq2⟩, hH, (hA.sub (by (repeat (first | exact trivial | refine ⟨rfl, ?_⟩)); first | done | fail "sub"))⟩
    obtain ⟨x, hx⟩ : ∃ x, bl.is.l[i]? = some x := ⟨_, List.getElem?_eq_getElem hlt⟩
    have hxR := hbR.2.2.1 x (List.mem_of_getElem? hx)
    have hvi := flat_all encIn_len hx
    repeat' (first | (refine GT ?_ ?_ <;> intro hg <;> clear hA a <;> intro a hA <;> (first | exact FA | replace hg := of_decide_eq_true hg | replace hg := of_decide_eq_false hg | skip)) | ((first | apply st_ex hA hH rfl rfl (by decide) | apply dr_ex hA rfl rfl rfl (by decide) | apply dr_exp hA rfl rfl rfl (by decide) | apply dr_ex3 hA hH rfl rfl rfl (by decide)); (first | (apply ex_load_st (vs := encIn x); rfl; rfl; exact cls_rd hbR.2.1.1 id hvi) | (apply ex_indexAddr_nat; rfl; rfl; omega; exact hspI)); clear hA a; intro a hA) | (refine QT ?_; clear hA a; intro a hA) | (refine BT ?_; clear hA hH; rintro _ w ⟨bN, rfl, hH⟩ a hA) | (apply st_op0 hA rfl rfl; apply op_store_agg (vs := encIn x); rfl; rfl; exact hH; (repeat constructor); (repeat rfl); clear hH; rintro _ w hH) | (apply st_op0 hA rfl rfl; apply op_store_fld (cs' := encC c (q + 1)); rfl; rfl; rfl; exact hH; (repeat constructor); clear hH; rintro _ w hH) | ((first | refine CT ?_ | (refine DT ?_ ?_ <;> intro hc <;> try (exfalso; omega))) <;> repeat' refine CT ?_) | fail)
    · exact rt1 (.inl rfl) rfl hA rfl (.inl ⟨rfl, fun h => (by have h1 := h.size; rw [blkN_eq] at h1; have h2 := insN_at hx; omega), hH.tail.tail.tail.tail.tail.tail.tail⟩)
    repeat' (first | ((first | apply st_ex hA hH rfl rfl (by decide) | apply dr_ex hA rfl rfl rfl (by decide) | apply dr_exp hA rfl rfl rfl (by decide) | apply dr_ex3 hA hH rfl rfl rfl (by decide)); (first | (apply ex_load_st (vs := encSt x.r); rfl; rfl; exact cls_cb MEMT (sub_st x))); clear hA a; intro a hA) | (refine QT ?_; clear hA a; intro a hA) | fail)
    replace hH := hH.perm (H' := cb bC 112 (encC c (q + 1)) :: sk bW ks :: sk c.bE (es ++ bl.ps.l ++ (bl.is.l.take i).map Ins.x) :: own 109 1 c.oT c.nT c.cT (flat encO (tc)) :: all (th0.map sko) :: cb b5 53 (encBl bl) :: cb bN 59 (encIn x) :: H) (by (repeat (first | exact List.Perm.refl _ | exact List.Perm.nil | refine perm_pick 0 rfl ?_ | refine perm_pick 1 rfl ?_ | refine perm_pick 2 rfl ?_ | refine perm_pick 3 rfl ?_ | refine perm_pick 4 rfl ?_ | refine perm_pick 5 rfl ?_ | refine perm_pick 6 rfl ?_ | refine perm_pick 7 rfl ?_ | refine perm_pick 8 rfl ?_ | refine perm_pick 9 rfl ?_ | refine perm_pick 10 rfl ?_ | refine perm_pick 11 rfl ?_)))
    (refine st_op hA rfl rfl (by decide) (op_call rfl rfl rfl (step2_spec w0 _ _ c bC (q + 1) la x.r hH (.tail _ (.tail _ (.tail _ (.tail _ (.tail _ (.tail _ hm)))))) hla hla9 hxR.1)) ?_; clear hA hH)
    rintro _ w ⟨bb, rfl, hbF, hH⟩ a hA
    cases bb with
    | false =>
      repeat' (first | (refine GT ?_ ?_ <;> intro hg <;> clear hA a <;> intro a hA <;> (first | exact FA | replace hg := of_decide_eq_true hg | replace hg := of_decide_eq_false hg | skip)) | (refine QT ?_; clear hA a; intro a hA) | (refine CT ?_ <;> repeat' refine CT ?_) | fail)
      exact rt1 (.inl rfl) rfl hA rfl (.inl ⟨rfl, fun h => absurd (hbF.2 (h.blk.ins i x hx).1) (by decide), hH.tail.tail.tail.tail.tail.tail.tail⟩)
    | true =>
      repeat' (first | (refine GT ?_ ?_ <;> intro hg <;> clear hA a <;> intro a hA <;> (first | exact FA | replace hg := of_decide_eq_true hg | replace hg := of_decide_eq_false hg | skip)) | (refine QT ?_; clear hA a; intro a hA) | fail)
      (refine st_op hA rfl rfl (by decide) (op_call rfl rfl rfl (atoms_spec w0 _ _ c bC bW (q + 1) ks x.r.a hH hxR.2 (by omega) (by omega))) ?_; clear hA hH)
      rintro _ w (⟨hat, rfl, hH⟩ | ⟨hat, rfl, q', hq3, hq4, hH⟩) a hA
      rotate_left
      · repeat' (first | (refine GT ?_ ?_ <;> intro hg <;> clear hA a <;> intro a hA <;> (first | exact FA | replace hg := of_decide_eq_true hg | replace hg := of_decide_eq_false hg | skip)) | (refine QT ?_; clear hA a; intro a hA) | (refine CT ?_ <;> repeat' refine CT ?_) | fail)
        exact rt1 (.inl rfl) rfl hA rfl (.inl ⟨rfl, fun h => hat (ats_of hks (by have h1 := (h.blk.ins i x hx).2; rw [hS0] at h1; exact h1) (by have h1 := h.size; rw [blkN_eq] at h1; have h2 := insN_at hx; omega)), hH.tail.tail.tail.tail.tail.tail.tail⟩)
      repeat' (first | (refine GT ?_ ?_ <;> intro hg <;> clear hA a <;> intro a hA <;> (first | exact FA | replace hg := of_decide_eq_true hg | replace hg := of_decide_eq_false hg | skip)) | (refine QT ?_; clear hA a; intro a hA) | fail)
      replace hH := hH.perm (H' := cb bC 112 (encC c (q + 1 + (x.r.a.l.length : Int))) :: sk c.bE (es ++ bl.ps.l ++ (bl.is.l.take i).map Ins.x) :: sk bW ks :: own 109 1 c.oT c.nT c.cT (flat encO (tc)) :: all (th0.map sko) :: cb b5 53 (encBl bl) :: cb bN 59 (encIn x) :: H) (by (repeat (first | exact List.Perm.refl _ | exact List.Perm.nil | refine perm_pick 0 rfl ?_ | refine perm_pick 1 rfl ?_ | refine perm_pick 2 rfl ?_ | refine perm_pick 3 rfl ?_ | refine perm_pick 4 rfl ?_ | refine perm_pick 5 rfl ?_ | refine perm_pick 6 rfl ?_ | refine perm_pick 7 rfl ?_ | refine perm_pick 8 rfl ?_ | refine perm_pick 9 rfl ?_ | refine perm_pick 10 rfl ?_ | refine perm_pick 11 rfl ?_)))
      (refine st_op hA rfl rfl (by decide) (op_call rfl rfl rfl (bind_spec w0 _ _ c bC bW _ _ _ x.x hH)) ?_; clear hA hH)
      rintro _ w (⟨hb, rfl, hH⟩ | ⟨hb, rfl, hH⟩) a hA
      rotate_left
      · repeat' (first | (refine QT ?_; clear hA a; intro a hA) | (refine CT ?_ <;> repeat' refine CT ?_) | fail)
        exact rt1 (.inl rfl) rfl hA rfl (.inl ⟨rfl, fun h => hb (ev_is_no hx h.ev), hH.tail.tail.tail.tail.tail.tail.tail⟩)
      repeat' (first | (refine QT ?_; clear hA a; intro a hA) | (refine CT ?_ <;> repeat' refine CT ?_) | fail)
      have hev2 := hev1.add hb
      rw [ev_is hx] at hH hev2
      have hql : q + 1 + (x.r.a.l.length : Int) ≤ 1200000 := by
        rcases hat.2 with h | h
        · rw [h]
          show q + 1 + (0 : Int) ≤ _
          omega
        · omega
      exact ⟨i + 1, ⟨_, _, ⟨hlt, hev2, now_next hx hks, ins_next hx hins hks (hbF.1 rfl) hat.1, by rw [insN_next hx]; omega, hql⟩, hH.rm 6, (hA.sub (by (repeat (first | exact trivial | refine ⟨rfl, ?_⟩)); first | done | fail "sub"))⟩, by omega⟩
  clear hA hH hev1 hks
  rintro a w ⟨ks, q, ⟨hev1, hks, hins, hq1, hq2⟩, hH, hA⟩
  have hsubE := sub_en bl
  repeat' (first | ((first | apply st_ex hA hH rfl rfl (by decide) | apply dr_ex hA rfl rfl rfl (by decide) | apply dr_exp hA rfl rfl rfl (by decide) | apply dr_ex3 hA hH rfl rfl rfl (by decide)); (first | (apply ex_load_st (vs := encEn bl.e); rfl; rfl; exact cls_cb MEMT hsubE)); clear hA a; intro a hA) | (refine QT ?_; clear hA a; intro a hA) | (refine CT ?_ <;> repeat' refine CT ?_) | fail)
  (refine st_op hA rfl rfl (by decide) (op_call rfl rfl rfl (end_spec _ bl.e (hbR.2.2.2.2.1.keep hH.kp))) ?_; clear hA)
  rintro _ w ⟨bb, rfl, hbE, hk⟩ a hA
  replace hH := hH.keep hk
  clear hk
  cases bb with
  | false =>
    repeat' (first | (refine GT ?_ ?_ <;> intro hg <;> clear hA a <;> intro a hA <;> (first | exact FA | replace hg := of_decide_eq_true hg | replace hg := of_decide_eq_false hg | skip)) | (refine QT ?_; clear hA a; intro a hA) | (refine CT ?_ <;> repeat' refine CT ?_) | fail)
    exact rt1 (.inl rfl) rfl hA rfl (.inl ⟨rfl, fun h => absurd (hbE.2 h.blk.end_) (by decide), hH.tail.tail.tail.tail.tail.tail⟩)
  | true =>
  repeat' (first | (refine GT ?_ ?_ <;> intro hg <;> clear hA a <;> intro a hA <;> (first | exact FA | replace hg := of_decide_eq_true hg | replace hg := of_decide_eq_false hg | skip)) | (refine QT ?_; clear hA a; intro a hA) | fail)
  replace hH := hH.perm (H' := cb bC 112 (encC c (q)) :: sk bW ks :: sk c.bE (es ++ bvs bl) :: own 109 1 c.oT c.nT c.cT (flat encO (tc)) :: all (th0.map sko) :: cb b5 53 (encBl bl) :: H) (by (repeat (first | exact List.Perm.refl _ | exact List.Perm.nil | refine perm_pick 0 rfl ?_ | refine perm_pick 1 rfl ?_ | refine perm_pick 2 rfl ?_ | refine perm_pick 3 rfl ?_ | refine perm_pick 4 rfl ?_ | refine perm_pick 5 rfl ?_ | refine perm_pick 6 rfl ?_ | refine perm_pick 7 rfl ?_ | refine perm_pick 8 rfl ?_ | refine perm_pick 9 rfl ?_ | refine perm_pick 10 rfl ?_ | refine perm_pick 11 rfl ?_)))
  (refine st_op hA rfl rfl (by decide) (op_call rfl rfl rfl (atoms_spec w0 _ _ c bC bW q ks bl.e.a hH hbR.2.2.2.1 (by omega) (by omega))) ?_; clear hA hH)
  rintro _ w (⟨hat, rfl, hH⟩ | ⟨hat, rfl, q', hq3, hq4, hH⟩) a hA
  rotate_left
  · repeat' (first | (refine QT ?_; clear hA a; intro a hA) | (refine CT ?_ <;> repeat' refine CT ?_) | fail)
    exact rt1 (.inl rfl) rfl hA rfl (.inl ⟨rfl, fun h => hat (ats_of hks (by have h1 := h.blk.ends; rw [hS0] at h1; exact h1) (by have h1 := h.size; rw [blkN_eq] at h1; omega)), hH.tail.tail.tail.tail.tail.tail⟩)
  have hends : ∀ a ∈ bl.e.a.l, atS c.g (nowS (Sk k0) bl bl.is.l.length) a := fun a ha => at_of hks (hat.1 a ha)
  have hql : q + (bl.e.a.l.length : Int) ≤ 1200000 := by
    rcases hat.2 with h | h
    · rw [h]
      show q + (0 : Int) ≤ _
      omega
    · omega
  obtain ⟨q2, hq2e⟩ : ∃ x, x = q + (bl.e.a.l.length : Int) := ⟨_, rfl⟩
  rw [← hq2e] at hH hql
  have hq5 : q2 = p + 2 + bl.ps.l.length + insN bl.is.l + bl.e.a.l.length := by omega
  have hspE : Sp bl.e.to.o bl.e.to.l.length := hbR.2.2.2.2.2.1.1.sp (sz := 2) (flat_length encEd_len _) (by omega)
  repeat' (first | (refine QT ?_; clear hA a; intro a hA) | (refine CT ?_ <;> repeat' refine CT ?_) | fail)
  refine wp_lpk (S := Nat) (fun j a w => ∃ tc' th' q, (j ≤ bl.e.to.l.length ∧ q = q2 + edgN (bl.e.to.l.take j) ∧ q ≤ 1200000 + (j : Int) ∧ ThR th0 (nowS (Sk k0) bl bl.is.l.length) (bl.e.to.l.take j) th' ∧ tc'.length = tc.length ∧ (∀ m, n < m → tc'[m]? = th'[m]?) ∧
        ∀ t ∈ bl.e.to.l.take j, (n : Int) < t.b ∧ t.b < c.f.bs.l.length ∧ t.a.l.length = (c.f.bs.l.getD t.b.toNat blc0).ps.l.length ∧ ∀ a ∈ t.a.l, atS c.g (nowS (Sk k0) bl bl.is.l.length) a) ∧
      HS w0 noM (cb bC 112 (encC c (q)) :: sk bW ks :: sk c.bE (es ++ bvs bl) :: own 109 1 c.oT c.nT c.cT (flat encO (tc')) :: all (th'.map sko) :: cb b5 53 (encBl bl) :: H) w ∧
      Sl 190 [(128, .int .i64 j), (127, .int .i64 bl.e.to.l.length), (126, .slice bl.e.to.o bl.e.to.l.length bl.e.to.c), (6, .map (some bW)), (0, .pointer (some (bat bC 0))), (1, .int .i64 n)] a) (fun j => bl.e.to.l.length - j)
    (fun a w => ∃ tc' th' q, (q = q2 + edgN bl.e.to.l ∧ q ≤ 2300000 ∧ ThR th0 (nowS (Sk k0) bl bl.is.l.length) bl.e.to.l th' ∧ tc'.length = tc.length ∧ (∀ m, n < m → tc'[m]? = th'[m]?) ∧
        ∀ t ∈ bl.e.to.l, (n : Int) < t.b ∧ t.b < c.f.bs.l.length ∧ t.a.l.length = (c.f.bs.l.getD t.b.toNat blc0).ps.l.length ∧ ∀ a ∈ t.a.l, atS c.g (nowS (Sk k0) bl bl.is.l.length) a) ∧
      HS w0 noM (cb bC 112 (encC c (q)) :: sk bW ks :: sk c.bE (es ++ bvs bl) :: own 109 1 c.oT c.nT c.cT (flat encO (tc')) :: all (th'.map sko) :: cb b5 53 (encBl bl) :: H) w ∧
      Sl 190 [(0, .pointer (some (bat bC 0)))] a) 0 ⟨tc, th0, q2, ⟨Nat.zero_le _, (by rw [List.take_zero]; show q2 = q2 + ((0 : Nat) : Int); omega), by omega, by rw [List.take_zero]; exact thR_0 _ _, rfl, hag0, by rw [List.take_zero]; exact fun t h => absurd h List.not_mem_nil⟩, hH, (hA.sub (by (repeat (first | exact trivial | refine ⟨rfl, ?_⟩)); first | done | fail "sub"))⟩ ?_ ?_
  · clear hA hH
    rintro j a w ⟨tc', th', q, ⟨hj, hqa, hqb, hth, htl, hag', heds⟩, hH, hA⟩
    by_cases hlt : j < bl.e.to.l.length
    rotate_left
    · obtain rfl : j = bl.e.to.l.length := by omega
      rw [List.take_length] at hth heds hqa
      repeat' (first | (refine QT ?_; clear hA a; intro a hA) | ((first | refine CT ?_ | (refine DT ?_ ?_ <;> intro hc <;> try (exfalso; omega))) <;> repeat' refine CT ?_) | fail)
      exact ⟨tc', th', q, ⟨hqa, by omega, hth, htl, hag', heds⟩, hH, (hA.sub (by (repeat (first | exact trivial | refine ⟨rfl, ?_⟩)); first | done | fail "sub"))⟩
    obtain ⟨t, ht⟩ : ∃ x, bl.e.to.l[j]? = some x := ⟨_, List.getElem?_eq_getElem hlt⟩
    have htm := List.mem_of_getElem? ht
    have htR := hbR.2.2.2.2.2.2 t htm
    have hvt := flat_all encEd_len ht
    repeat' (first | ((first | apply st_ex hA hH rfl rfl (by decide) | apply dr_ex hA rfl rfl rfl (by decide) | apply dr_exp hA rfl rfl rfl (by decide) | apply dr_ex3 hA hH rfl rfl rfl (by decide)); (first | (apply ex_load_st (vs := encEd t); rfl; rfl; exact cls_rd hbR.2.2.2.2.2.1.1 id hvt) | (apply ex_indexAddr_nat; rfl; rfl; omega; exact hspE)); clear hA a; intro a hA) | (refine QT ?_; clear hA a; intro a hA) | (refine BT ?_; clear hA hH; rintro _ w ⟨bN, rfl, hH⟩ a hA) | (apply st_op0 hA rfl rfl; apply op_store_agg (vs := encEd t); rfl; rfl; exact hH; (repeat constructor); (repeat rfl); clear hH; rintro _ w hH) | (apply st_op0 hA rfl rfl; apply op_store_fld (cs' := encC c (q + 1)); rfl; rfl; rfl; exact hH; (repeat constructor); clear hH; rintro _ w hH) | ((first | refine CT ?_ | (refine DT ?_ ?_ <;> intro hc <;> try (exfalso; omega))) <;> repeat' refine CT ?_) | fail)
    (refine wp_draw3_HS 40 [(0, 1), (1, 1), (2, 1), (3, 1), (4, 1), (5, 1), (6, 1), (7, 1), (8, 1), (9, 1), (10, 1), (11, 1), (12, 1), (13, 1), (14, 1), (15, 1), (16, 1), (17, 1), (18, 1), (19, 1), (20, 1), (21, 1), (22, 1), (23, 1), (24, 1), (25, 1), (26, 1), (27, 1), (28, 1), (29, 1), (30, 1), (31, 1), (32, 1), (33, 1), (34, 1), (35, 1), (36, 1)] [37,38,39] mixed (by decide +kernel) hH ?_; replace hH := hH.drew)
    repeat' (first | (refine GT ?_ ?_ <;> intro hg <;> clear hA a <;> intro a hA <;> (first | exact FA | replace hg := of_decide_eq_true hg | replace hg := of_decide_eq_false hg | skip)) | ((first | apply st_ex hA hH rfl rfl (by decide) | apply dr_ex hA rfl rfl rfl (by decide) | apply dr_exp hA rfl rfl rfl (by decide) | apply dr_ex3 hA hH rfl rfl rfl (by decide)); (first | (apply ex_indexAddr; rfl; rfl; omega; omega; exact hsp) | (apply ex_load; rfl; refine cl_rd hR.1.1 id (blk_at ?_); omega)); clear hA a; intro a hA) | (refine QT ?_; clear hA a; intro a hA) | (refine CT ?_ <;> repeat' refine CT ?_) | fail)
    · exact rt1 (.inl rfl) rfl hA rfl (.inl ⟨rfl, fun h => (by have h1 := h.blk.edges t htm; omega), hH.tail.tail.tail.tail.tail.tail.tail⟩)
    · exact rt1 (.inl rfl) rfl hA rfl (.inl ⟨rfl, fun h => (by have h1 := h.blk.edges t htm; omega), hH.tail.tail.tail.tail.tail.tail.tail⟩)
    · exact rt1 (.inl rfl) rfl hA rfl (.inl ⟨rfl, fun h => (by have h1 := (h.blk.edges t htm).2.2.1; omega), hH.tail.tail.tail.tail.tail.tail.tail⟩)
    have hb3 : t.a.l.length = (c.f.bs.l.getD t.b.toNat blc0).ps.l.length := by omega
    have hb1 : (n : Int) < t.b := by omega
    have hb2 : t.b < c.f.bs.l.length := by omega
    have hST2 := hH.perm (H' := cb bC 112 (encC c (q + 1)) :: sk bW ks :: cb bN 61 (encEd t) :: sk c.bE (es ++ bvs bl) :: own 109 1 c.oT c.nT c.cT (flat encO (tc')) :: all (th'.map sko) :: cb b5 53 (encBl bl) :: H) (by (repeat (first | exact List.Perm.refl _ | exact List.Perm.nil | refine perm_pick 0 rfl ?_ | refine perm_pick 1 rfl ?_ | refine perm_pick 2 rfl ?_ | refine perm_pick 3 rfl ?_ | refine perm_pick 4 rfl ?_ | refine perm_pick 5 rfl ?_ | refine perm_pick 6 rfl ?_ | refine perm_pick 7 rfl ?_ | refine perm_pick 8 rfl ?_ | refine perm_pick 9 rfl ?_ | refine perm_pick 10 rfl ?_ | refine perm_pick 11 rfl ?_)))
    clear hH
    (refine dr_op3 hA rfl rfl rfl (by decide) (op_call rfl rfl rfl (atoms_spec w0 _ _ c bC bW (q + 1) ks t.a hST2 htR (by omega) (by omega))) ?_; clear hA hST2)
    rintro _ w (⟨hat, rfl, hH⟩ | ⟨hat, rfl, q', hq3, hq4, hH⟩) a hA
    rotate_left
    · repeat' (first | (refine QT ?_; clear hA a; intro a hA) | (refine CT ?_ <;> repeat' refine CT ?_) | fail)
      exact rt1 (.inl rfl) rfl hA rfl (.inl ⟨rfl, fun h => hat (ats_of hks (by have h1 := (h.blk.edges t htm).2.2.2; rw [hS0] at h1; exact h1) (by have h1 := h.size; rw [blkN_eq] at h1; have h2 := edgN_at ht; omega)), hH.tail.tail.tail.tail.tail.tail.tail⟩)
    obtain ⟨m, hm1⟩ : ∃ m : Nat, t.b = m := ⟨t.b.toNat, by omega⟩
    have hth0l : th'.length = th0.length := hth.len
    have hml : m < th'.length := by omega
    obtain ⟨st', hst'⟩ : ∃ x, th'[m]? = some x := ⟨_, List.getElem?_eq_getElem hml⟩
    have htcm : tc'[m]? = some st' := (hag' m (by omega)).trans hst'
    have hcm : (flat encO tc')[m * 1]? = some (mvO st') := flat_get (off := 0) encO_len htcm (by rw [encO_eq]; rfl)
    have hnT : c.nT = th'.length := by omega
    have htcl : tc'.length = th'.length := by omega
    repeat' (first | (refine QT ?_; clear hA a; intro a hA) | (refine CT ?_ <;> repeat' refine CT ?_) | fail)
    replace hH := hH.perm (H' := cb bC 112 (encC c (q + 1 + (t.a.l.length : Int))) :: own 109 1 c.oT c.nT c.cT (flat encO (tc')) :: all (th'.map sko) :: sk bW ks :: sk c.bE (es ++ bvs bl) :: cb b5 53 (encBl bl) :: cb bN 61 (encEd t) :: H) (by (repeat (first | exact List.Perm.refl _ | exact List.Perm.nil | refine perm_pick 0 rfl ?_ | refine perm_pick 1 rfl ?_ | refine perm_pick 2 rfl ?_ | refine perm_pick 3 rfl ?_ | refine perm_pick 4 rfl ?_ | refine perm_pick 5 rfl ?_ | refine perm_pick 6 rfl ?_ | refine perm_pick 7 rfl ?_ | refine perm_pick 8 rfl ?_ | refine perm_pick 9 rfl ?_ | refine perm_pick 10 rfl ?_ | refine perm_pick 11 rfl ?_)))
    (refine st_op hA rfl rfl (by decide) (op_call rfl rfl (by rw [hm1]; rfl) (meet_spec w0 _ _ c bC bW m _ ks tc' th' st' hH hnT htcl hml hst' hcm)) ?_; clear hA hH)
    rintro _ w ⟨b', ks', hk', hH⟩ a hA
    repeat' (first | (refine QT ?_; clear hA a; intro a hA) | (refine CT ?_ <;> repeat' refine CT ?_) | fail)
    have hats : ∀ a ∈ t.a.l, atS c.g (nowS (Sk k0) bl bl.is.l.length) a := fun a ha => at_of hks (hat.1 a ha)
    have hqn : q + 1 + (t.a.l.length : Int) ≤ 1200000 + ((j + 1 : Nat) : Int) := by
      rcases hat.2 with h | h
      · rw [h]
        show q + 1 + (0 : Int) ≤ _
        omega
      · omega
    have hth2 := thR_next (b := b') hth hm1 hml hst' hks hk'
    rw [← take_snoc ht] at hth2
    have hag2 : ∀ k, n < k → (tc'.set m (some (b', ks')))[k]? = (th'.set m (some (b', ks')))[k]? := fun k hk => by
      by_cases he : m = k
      · subst he
        rw [List.getElem?_set_self (by omega), List.getElem?_set_self (by omega)]
      · rw [List.getElem?_set_ne he, List.getElem?_set_ne he]
        exact hag' k hk
    exact ⟨j + 1, ⟨tc'.set m (some (b', ks')), th'.set m (some (b', ks')), _, ⟨hlt, (by rw [edgN_next ht]; omega), hqn, hth2, by rw [List.length_set]; exact htl, hag2, eds_next ht heds ⟨hb1, hb2, hb3, hats⟩⟩, (hH.rm 6).perm (by (repeat (first | exact List.Perm.refl _ | exact List.Perm.nil | refine perm_pick 0 rfl ?_ | refine perm_pick 1 rfl ?_ | refine perm_pick 2 rfl ?_ | refine perm_pick 3 rfl ?_ | refine perm_pick 4 rfl ?_ | refine perm_pick 5 rfl ?_ | refine perm_pick 6 rfl ?_ | refine perm_pick 7 rfl ?_ | refine perm_pick 8 rfl ?_ | refine perm_pick 9 rfl ?_ | refine perm_pick 10 rfl ?_ | refine perm_pick 11 rfl ?_))), (hA.sub (by (repeat (first | exact trivial | refine ⟨rfl, ?_⟩)); first | done | fail "sub"))⟩, by omega⟩
  clear hA hH
  rintro a w ⟨tc', th', q3, ⟨hqa, hqb, hth, htl, hag', heds⟩, hH, hA⟩
  repeat' (first | (refine QT ?_; clear hA a; intro a hA) | (refine CT ?_ <;> repeat' refine CT ?_) | fail)
  have hfin : HS w0 noM (cb bC 112 (encC c (q3)) :: sk c.bE (es ++ bvs bl) :: own 109 1 c.oT c.nT c.cT (flat encO (tc')) :: all (th'.map sko) :: H) w := ((hH.rm 1).rm 4)
  have hqf : q3 = p + (blkN bl : Int) := by rw [blkN_eq]; omega
  by_cases hmax : q3 ≤ 65536
  · rw [decide_eq_true hmax] at hA
    rw [hqf] at hfin
    refine rt1 (.inl rfl) rfl hA rfl (.inr ⟨rfl, ⟨hi0, ?_, hev1, by omega⟩, tc', th', ?_, htl, hag', hfin⟩)
    · rw [hS0]
      exact ⟨hfirst, hins, hbE.1 rfl, hends, heds⟩
    · rw [hS0, ← hth0]
      exact hth
  · rw [decide_eq_false hmax] at hA
    exact rt1 (.inl rfl) rfl hA rfl (.inl ⟨rfl, fun h => (by have h1 := h.size; omega), hfin.tail.tail.tail.tail⟩)
end Go.Proofs.YtenlcdokaadobaaGreatDoor
namespace Go.Proofs.YtenlcdokaadobaaGreatDoor
open Go Go.Fw
set_option linter.unusedVariables false
theorem strs_at {l : List ByteArray} {k : Nat} (h : k < l.length) : (flat encX l)[k * 1]? = some (.string (l.getD k default)) := by
  refine flat_get (off := 0) encX_len (List.getElem?_eq_getElem h) ?_
  rw [List.getD_eq_getElem?_getD, List.getElem?_eq_getElem h]
  rfl
theorem idx_at {l : List ByteArray} {s : ByteArray} {i : Nat} (h : ∀ k, k < i → eqS s (l.getD k default) = false) (hi : i < l.length) (he : eqS s (l.getD i default) = true) : idxF l s = i := by
  unfold idxF
  have : l.findIdx? (fun x => eqS s x) = some i := by
    rw [List.findIdx?_eq_some_iff_getElem]
    refine ⟨hi, ?_, fun j hj => ?_⟩
    · rw [List.getD_eq_getElem?_getD, List.getElem?_eq_getElem hi] at he
      exact he
    · have h1 := h j hj
      rw [List.getD_eq_getElem?_getD, List.getElem?_eq_getElem (by omega)] at h1
      simpa using h1
  rw [this]
theorem idx_none {l : List ByteArray} {s : ByteArray} (h : ∀ k, k < l.length → eqS s (l.getD k default) = false) : idxF l s = -1 := by
  unfold idxF
  have : l.findIdx? (fun x => eqS s x) = none := by
    rw [List.findIdx?_eq_none_iff]
    intro x hx
    obtain ⟨k, hk, rfl⟩ := List.getElem_of_mem hx
    have h1 := h k hk
    rw [List.getD_eq_getElem?_getD, List.getElem?_eq_getElem hk] at h1
    simpa using h1
  rw [this]
theorem lt_next {p : Nat → Prop} {i : Nat} (h : ∀ k, k < i → p k) (ha : p i) : ∀ k, k < i + 1 → p k := fun k hk => by
  by_cases e : k = i
  · exact e ▸ ha
  · exact h k (by omega)
theorem ris_no {l : List ByteArray} {i : Nat} (hi : i < l.length) (h : ¬ risAt l i) : false = true ↔ risP l := ⟨fun e => (by cases e), fun e => absurd (e i hi) h⟩
theorem longS_no {l : List ByteArray} {i : Nat} (hi : i < l.length) (h : 4096 < (l.getD i default).size) : ¬ ∀ s ∈ l, s.size ≤ 4096 := fun hc => by
  have h1 := hc (l.getD i default) (by rw [List.getD_eq_getElem?_getD, List.getElem?_eq_getElem hi]; exact List.getElem_mem hi)
  omega
theorem longS_yes {l : List ByteArray} (h : ∀ k, k < l.length → ¬ 4096 < (l.getD k default).size) : ∀ s ∈ l, s.size ≤ 4096 := fun s hs => by
  obtain ⟨k, hk, rfl⟩ := List.getElem_of_mem hs
  have h1 := h k hk
  rw [List.getD_eq_getElem?_getD, List.getElem?_eq_getElem hk] at h1
  simpa using h1
set_option maxRecDepth 10000 attribute [local irreducible] Code.wp wpList Calls Ex Op1 sat bat blk cb own Go.Fw.mp Go.Fw.mpO Go.Fw.mpI Go.Fw.mpE Go.Fw.itr HS Rd Ret wkD Hp Cl Cls Exit.then Exit.inBlock Exit.noGoto bodyPost Go.Fw.flat wk2 Go.Fw.all Go.Fw.owns wpOp
attribute [local irreducible] sk mpK sko mvO entK geS idxF

set_option maxHeartbeats 4000000 in
theorem rising_spec (w0 : World) (v : Vec ByteArray) (hR : RdV w0 encX v) : Ret Tryz.prog 41 #[.slice v.o v.l.length v.c] w0 (fun r w => ∃ b, r = .bool b ∧ (b = true ↔ risP v.l) ∧ Kp w0 noM w) := by
  have hH : HS w0 noM [] w0 := HS.init w0 noM
  have hle := hR.le
  have hsp : Sp v.o v.l.length := hR.1.sp (sz := 1) (flat_length encX_len _) (by omega)
  (refine enter (N := 28) Tryz.func41 rfl Tryz.ntmps41 rfl ?_; intro a hA; dsimp only [sl0, Nat.reduceAdd] at hA)
  repeat' (first | (refine QT ?_; clear hA a; intro a hA) | (refine CT ?_ <;> repeat' refine CT ?_) | fail)
  refine wp_lpk (S := Nat) (fun i a w => (i ≤ v.l.length ∧ ∀ k, k < i → risAt v.l k) ∧ HS w0 noM [] w ∧ Sl 28 [(7, .int .i64 i), (6, .int .i64 v.l.length), (5, .slice v.o v.l.length v.c), (0, .slice v.o v.l.length v.c)] a) (fun i => v.l.length - i)
    (fun a w => risP v.l ∧ HS w0 noM [] w ∧ Sl 28 [] a) 0 ⟨⟨Nat.zero_le _, fun k h => absurd h (Nat.not_lt_zero _)⟩, hH, (hA.sub (by (repeat (first | exact trivial | refine ⟨rfl, ?_⟩)); first | done | fail "sub"))⟩ ?_ ?_
  · clear hA hH
    rintro i a w ⟨⟨hi, hris⟩, hH, hA⟩
    by_cases hlt : i < v.l.length
    rotate_left
    · repeat' (first | (refine QT ?_; clear hA a; intro a hA) | ((first | refine CT ?_ | (refine DT ?_ ?_ <;> intro hc <;> try (exfalso; omega))) <;> repeat' refine CT ?_) | fail)
      obtain rfl : i = v.l.length := by omega
      exact ⟨hris, hH, (hA.sub (by (repeat (first | exact trivial | refine ⟨rfl, ?_⟩)); first | done | fail "sub"))⟩
    have e1 : ((i : Int) - 1).toNat = i - 1 := by omega
    repeat' (first | (refine GT ?_ ?_ <;> intro hg <;> clear hA a <;> intro a hA <;> (first | exact FA | replace hg := of_decide_eq_true hg | replace hg := of_decide_eq_false hg | skip)) | ((first | apply st_ex hA hH rfl rfl (by decide) | apply dr_ex hA rfl rfl rfl (by decide) | apply dr_exp hA rfl rfl rfl (by decide) | apply dr_ex3 hA hH rfl rfl rfl (by decide)); (first | (apply ex_eqlS; rfl; rfl) | (apply ex_geqS; rfl; rfl) | (apply ex_indexAddr_nat; rfl; rfl; omega; exact hsp) | (apply ex_indexAddr; rfl; rfl; omega; omega; exact hsp) | (apply ex_load; rfl; refine cl_rd hR.1 id (strs_at ?_); omega)); clear hA a; intro a hA) | (refine QT ?_; clear hA a; intro a hA) | ((first | refine CT ?_ | (refine DT ?_ ?_ <;> intro hc <;> try (exfalso; omega))) <;> repeat' refine CT ?_) | fail)
    all_goals first
      | exact ⟨i + 1, ⟨⟨hlt, lt_next hris ⟨by assumption, fun h0 => (by omega)⟩⟩, hH, (hA.sub (by (repeat (first | exact trivial | refine ⟨rfl, ?_⟩)); first | done | fail "sub"))⟩, by omega⟩
      | exact ⟨i + 1, ⟨⟨hlt, lt_next hris ⟨by assumption, fun h0 => (by rw [← e1]; assumption)⟩⟩, hH, (hA.sub (by (repeat (first | exact trivial | refine ⟨rfl, ?_⟩)); first | done | fail "sub"))⟩, by omega⟩
      | exact rt1 (.inl rfl) rfl hA rfl ⟨_, rfl, ris_no hlt (fun h => absurd ((by assumption : eqS (v.l.getD i default) empS = true).symm.trans h.1) (by decide)), hH.kp⟩
      | exact rt1 (.inl rfl) rfl hA rfl ⟨_, rfl, ris_no hlt (fun h => (by have h1 := h.2 (by omega); rw [← e1] at h1; exact absurd ((by assumption : geS (v.l.getD ((i : Int) - 1).toNat default) (v.l.getD i default) = true).symm.trans h1) (by decide))), hH.kp⟩
  clear hA hH
  rintro a w ⟨hris, hH, hA⟩
  repeat' (first | (refine QT ?_; clear hA a; intro a hA) | (refine CT ?_ <;> repeat' refine CT ?_) | fail)
  exact rt1 (.inl rfl) rfl hA rfl ⟨_, rfl, iff_of_true rfl hris, hH.kp⟩
set_option maxHeartbeats 4000000 in
theorem indexX_spec (w0 : World) (v : Vec ByteArray) (s : ByteArray) (hR : RdV w0 encX v) : Ret Tryz.prog 76 #[.slice v.o v.l.length v.c, .string s] w0 (fun r w => r = .int .i64 (idxF v.l s) ∧ Kp w0 noM w) := by
  have hH : HS w0 noM [] w0 := HS.init w0 noM
  have hle := hR.le
  have hsp : Sp v.o v.l.length := hR.1.sp (sz := 1) (flat_length encX_len _) (by omega)
  (refine enter (N := 19) Tryz.func76 rfl Tryz.ntmps76 rfl ?_; intro a hA; dsimp only [sl0, Nat.reduceAdd] at hA)
  repeat' (first | (refine QT ?_; clear hA a; intro a hA) | (refine CT ?_ <;> repeat' refine CT ?_) | fail)
  refine wp_lpk (S := Nat) (fun i a w => (i ≤ v.l.length ∧ ∀ k, k < i → eqS s (v.l.getD k default) = false) ∧ HS w0 noM [] w ∧ Sl 19 [(8, .int .i64 i), (7, .int .i64 v.l.length), (1, .string s), (0, .slice v.o v.l.length v.c)] a) (fun i => v.l.length - i)
    (fun a w => idxF v.l s = -1 ∧ HS w0 noM [] w ∧ Sl 19 [] a) 0 ⟨⟨Nat.zero_le _, fun k h => absurd h (Nat.not_lt_zero _)⟩, hH, (hA.sub (by (repeat (first | exact trivial | refine ⟨rfl, ?_⟩)); first | done | fail "sub"))⟩ ?_ ?_
  · clear hA hH
    rintro i a w ⟨⟨hi, hno⟩, hH, hA⟩
    by_cases hlt : i < v.l.length
    rotate_left
    · repeat' (first | (refine QT ?_; clear hA a; intro a hA) | ((first | refine CT ?_ | (refine DT ?_ ?_ <;> intro hc <;> try (exfalso; omega))) <;> repeat' refine CT ?_) | fail)
      obtain rfl : i = v.l.length := by omega
      exact ⟨idx_none hno, hH, (hA.sub (by (repeat (first | exact trivial | refine ⟨rfl, ?_⟩)); first | done | fail "sub"))⟩
    repeat' (first | ((first | apply st_ex hA hH rfl rfl (by decide) | apply dr_ex hA rfl rfl rfl (by decide) | apply dr_exp hA rfl rfl rfl (by decide) | apply dr_ex3 hA hH rfl rfl rfl (by decide)); (first | (apply ex_eqlS; rfl; rfl) | (apply ex_indexAddr_nat; rfl; rfl; omega; exact hsp) | (apply ex_load; rfl; refine cl_rd hR.1 id (strs_at ?_); omega)); clear hA a; intro a hA) | (refine QT ?_; clear hA a; intro a hA) | ((first | refine CT ?_ | (refine DT ?_ ?_ <;> intro hc <;> try (exfalso; omega))) <;> repeat' refine CT ?_) | fail)
    all_goals first | exact ⟨i + 1, ⟨⟨hlt, lt_next hno (by assumption)⟩, hH, (hA.sub (by (repeat (first | exact trivial | refine ⟨rfl, ?_⟩)); first | done | fail "sub"))⟩, by omega⟩ | exact rt1 (.inl rfl) rfl hA rfl ⟨by rw [idx_at hno hlt (by assumption)], hH.kp⟩
  clear hA hH
  rintro a w ⟨hno, hH, hA⟩
  repeat' (first | (refine QT ?_; clear hA a; intro a hA) | (refine CT ?_ <;> repeat' refine CT ?_) | fail)
  exact rt1 (.inl rfl) rfl hA rfl ⟨by rw [hno], hH.kp⟩
set_option maxHeartbeats 4000000 in
theorem containsX_spec (w0 : World) (v : Vec ByteArray) (s : ByteArray) (hR : RdV w0 encX v) : Ret Tryz.prog 42 #[.slice v.o v.l.length v.c, .string s] w0 (fun r w => r = .bool (decide (0 ≤ idxF v.l s)) ∧ Kp w0 noM w) := by
  have hH : HS w0 noM [] w0 := HS.init w0 noM
  (refine enter (N := 9) Tryz.func42 rfl Tryz.ntmps42 rfl ?_; intro a hA; dsimp only [sl0, Nat.reduceAdd] at hA)
  repeat' (first | (refine QT ?_; clear hA a; intro a hA) | (refine CT ?_ <;> repeat' refine CT ?_) | fail)
  (refine st_op hA rfl rfl (by decide) (op_call rfl rfl rfl (indexX_spec _ v s (hR.keep hH.kp))) ?_; clear hA; rintro _ w ⟨rfl, hk⟩ a hA; replace hH := hH.keep hk; clear hk)
  repeat' (first | (refine QT ?_; clear hA a; intro a hA) | (refine CT ?_ <;> repeat' refine CT ?_) | fail)
  exact rt1 (.inl rfl) rfl hA rfl ⟨rfl, hH.kp⟩
set_option maxHeartbeats 4000000 in
theorem long_spec (w0 : World) (s : ByteArray) : Ret Tryz.prog 44 #[.string s] w0 (fun r w => r = .bool (decide (4096 < s.size)) ∧ Kp w0 noM w) := by
  have hH : HS w0 noM [] w0 := HS.init w0 noM
  (refine enter (N := 6) Tryz.func44 rfl Tryz.ntmps44 rfl ?_; intro a hA; dsimp only [sl0, Nat.reduceAdd] at hA)
  repeat' (first | ((first | apply st_ex hA hH rfl rfl (by decide) | apply dr_ex hA rfl rfl rfl (by decide) | apply dr_exp hA rfl rfl rfl (by decide) | apply dr_ex3 hA hH rfl rfl rfl (by decide)); (first | (apply ex_len_string; rfl)); clear hA a; intro a hA) | (refine QT ?_; clear hA a; intro a hA) | (refine CT ?_ <;> repeat' refine CT ?_) | fail)
  exact rt1 (.inl rfl) rfl hA rfl ⟨by rw [bts_len]; congr 1; exact decide_eq_decide.2 (by omega), hH.kp⟩
set_option maxHeartbeats 4000000 in
theorem indexFX_spec (w0 : World) (v : Vec ByteArray) (hR : RdV w0 encX v) : Ret Tryz.prog 77 #[.slice v.o v.l.length v.c, .func (.func 44) #[] #[]] w0 (fun r w => ∃ n, r = .int .i64 n ∧ (0 ≤ n ↔ ¬ ∀ s ∈ v.l, s.size ≤ 4096) ∧ Kp w0 noM w) := by
  have hH : HS w0 noM [] w0 := HS.init w0 noM
  have hle := hR.le
  have hsp : Sp v.o v.l.length := hR.1.sp (sz := 1) (flat_length encX_len _) (by omega)
  (refine enter (N := 19) Tryz.func77 rfl Tryz.ntmps77 rfl ?_; intro a hA; dsimp only [sl0, Nat.reduceAdd] at hA)
  repeat' (first | (refine QT ?_; clear hA a; intro a hA) | (refine CT ?_ <;> repeat' refine CT ?_) | fail)
  refine wp_lpk (S := Nat) (fun i a w => (i ≤ v.l.length ∧ ∀ k, k < i → ¬ 4096 < (v.l.getD k default).size) ∧ HS w0 noM [] w ∧ Sl 19 [(8, .int .i64 i), (7, .int .i64 v.l.length), (1, .func (.func 44) #[] #[]), (0, .slice v.o v.l.length v.c)] a) (fun i => v.l.length - i)
    (fun a w => (∀ s ∈ v.l, s.size ≤ 4096) ∧ HS w0 noM [] w ∧ Sl 19 [] a) 0 ⟨⟨Nat.zero_le _, fun k h => absurd h (Nat.not_lt_zero _)⟩, hH, (hA.sub (by (repeat (first | exact trivial | refine ⟨rfl, ?_⟩)); first | done | fail "sub"))⟩ ?_ ?_
  · clear hA hH
    rintro i a w ⟨⟨hi, hno⟩, hH, hA⟩
    by_cases hlt : i < v.l.length
    rotate_left
    · repeat' (first | (refine QT ?_; clear hA a; intro a hA) | ((first | refine CT ?_ | (refine DT ?_ ?_ <;> intro hc <;> try (exfalso; omega))) <;> repeat' refine CT ?_) | fail)
      obtain rfl : i = v.l.length := by omega
      exact ⟨longS_yes hno, hH, (hA.sub (by (repeat (first | exact trivial | refine ⟨rfl, ?_⟩)); first | done | fail "sub"))⟩
    repeat' (first | ((first | apply st_ex hA hH rfl rfl (by decide) | apply dr_ex hA rfl rfl rfl (by decide) | apply dr_exp hA rfl rfl rfl (by decide) | apply dr_ex3 hA hH rfl rfl rfl (by decide)); (first | (apply ex_indexAddr_nat; rfl; rfl; omega; exact hsp) | (apply ex_load; rfl; refine cl_rd hR.1 id (strs_at ?_); omega)); clear hA a; intro a hA) | (refine QT ?_; clear hA a; intro a hA) | ((first | refine CT ?_ | (refine DT ?_ ?_ <;> intro hc <;> try (exfalso; omega))) <;> repeat' refine CT ?_) | fail)
    (refine st_op hA rfl rfl (by decide) (op_call rfl rfl rfl (long_spec _ _)) ?_; clear hA; rintro _ w ⟨rfl, hk⟩ a hA; replace hH := hH.keep hk; clear hk)
    repeat' (first | (refine QT ?_; clear hA a; intro a hA) | ((first | refine CT ?_ | (refine DT ?_ ?_ <;> intro hc <;> try (exfalso; omega))) <;> repeat' refine CT ?_) | fail)
    all_goals first | exact ⟨i + 1, ⟨⟨hlt, lt_next hno (by assumption)⟩, hH, (hA.sub (by (repeat (first | exact trivial | refine ⟨rfl, ?_⟩)); first | done | fail "sub"))⟩, by omega⟩ | exact rt1 (.inl rfl) rfl hA rfl ⟨_, rfl, iff_of_true (by omega) (longS_no hlt (by assumption)), hH.kp⟩
  clear hA hH
  rintro a w ⟨hall, hH, hA⟩
  repeat' (first | (refine QT ?_; clear hA a; intro a hA) | (refine CT ?_ <;> repeat' refine CT ?_) | fail)
  exact rt1 (.inl rfl) rfl hA rfl ⟨_, rfl, iff_of_false (by decide) (fun h => h hall), hH.kp⟩
set_option maxHeartbeats 4000000 in
theorem containsFX_spec (w0 : World) (v : Vec ByteArray) (hR : RdV w0 encX v) : Ret Tryz.prog 43 #[.slice v.o v.l.length v.c, .func (.func 44) #[] #[]] w0 (fun r w => ∃ b, r = .bool b ∧ (b = true ↔ ¬ ∀ s ∈ v.l, s.size ≤ 4096) ∧ Kp w0 noM w) := by
  have hH : HS w0 noM [] w0 := HS.init w0 noM
  (refine enter (N := 9) Tryz.func43 rfl Tryz.ntmps43 rfl ?_; intro a hA; dsimp only [sl0, Nat.reduceAdd] at hA)
  repeat' (first | (refine QT ?_; clear hA a; intro a hA) | (refine CT ?_ <;> repeat' refine CT ?_) | fail)
  (refine st_op hA rfl rfl (by decide) (op_call rfl rfl rfl (indexFX_spec _ v (hR.keep hH.kp))) ?_; clear hA; rintro _ w ⟨n, rfl, hn, hk⟩ a hA; replace hH := hH.keep hk; clear hk)
  repeat' (first | (refine QT ?_; clear hA a; intro a hA) | (refine CT ?_ <;> repeat' refine CT ?_) | fail)
  exact rt1 (.inl rfl) rfl hA rfl ⟨_, rfl, decide_eq_true_iff.trans hn, hH.kp⟩
end Go.Proofs.YtenlcdokaadobaaGreatDoor
namespace Go.Proofs.YtenlcdokaadobaaGreatDoor
open Go Go.Fw
set_option linter.unusedVariables false
def encB (o : Option Addr) : List Value := [.int .i64 2, .int .i64 0, .slice none 0 0, .int .i64 0, .slice none 0 0, .int .i64 0, .int .i64 0, .slice none 0 0, .slice none 0 0, .slice o 1 1, .slice none 0 0]
def at0 : Atm := ⟨2, 0⟩
structure Kk where
  oP : Option Addr
  nP : Nat
  cP : Nat
  g : Grs
  oA : Option Addr
  nA : Nat
  cA : Nat
  caps : Int
  e : Option Nat
  n : Option Nat
  j : Option Nat
  o : Option Nat
def encKk (c : Kk) (p : Int) : List Value := [.slice c.oP c.nP c.cP, .slice c.g.ls.o c.g.ls.l.length c.g.ls.c, .slice c.g.ts.o c.g.ts.l.length c.g.ts.c, .slice c.g.xs.o c.g.xs.l.length c.g.xs.c, .slice c.g.ss.o c.g.ss.l.length c.g.ss.c,
  .slice c.oA c.nA c.cA, .int .i64 p, .int .i64 c.caps, .map c.e, .map c.n, .map c.j, .map c.o]
set_option maxRecDepth 10000 attribute [local irreducible] Code.wp wpList Calls Ex Op1 sat bat blk cb own Go.Fw.mp Go.Fw.mpO Go.Fw.mpI Go.Fw.mpE Go.Fw.itr HS Rd Ret wkD Hp Cl Cls Exit.then Exit.inBlock Exit.noGoto bodyPost Go.Fw.flat wk2 Go.Fw.all Go.Fw.owns wpOp
attribute [local irreducible] sk mpK sko mvO entK geS

set_option maxHeartbeats 4000000 in
theorem indexFA_spec (w0 : World) (f : Value) : Ret Tryz.prog 113 #[.slice none 0 0, f] w0 (fun r w => r = .int .i64 (-1) ∧ Kp w0 noM w) := by
  have hH : HS w0 noM [] w0 := HS.init w0 noM
  (refine enter (N := 19) Tryz.func113 rfl Tryz.ntmps113 rfl ?_; intro a hA; dsimp only [sl0, Nat.reduceAdd] at hA)
  repeat' (first | (refine QT ?_; clear hA a; intro a hA) | (refine CT ?_ <;> repeat' refine CT ?_) | fail)
  refine wp_lpk (S := Nat) (fun i a w => i = 0 ∧ HS w0 noM [] w ∧ Sl 19 [(8, .int .i64 0), (7, .int .i64 0)] a) (fun i => i) (fun a w => HS w0 noM [] w ∧ Sl 19 [] a) 0 ⟨rfl, hH, (hA.sub (by (repeat (first | exact trivial | refine ⟨rfl, ?_⟩)); first | done | fail "sub"))⟩ ?_ ?_
  · clear hA hH
    rintro i a w ⟨hi, hH, hA⟩
    repeat' (first | (refine QT ?_; clear hA a; intro a hA) | (refine CT ?_ <;> repeat' refine CT ?_) | fail)
    exact ⟨hH, (hA.sub (by (repeat (first | exact trivial | refine ⟨rfl, ?_⟩)); first | done | fail "sub"))⟩
  clear hA hH
  rintro a w ⟨hH, hA⟩
  repeat' (first | (refine QT ?_; clear hA a; intro a hA) | (refine CT ?_ <;> repeat' refine CT ?_) | fail)
  exact rt1 (.inl rfl) rfl hA rfl ⟨rfl, hH.kp⟩
set_option maxHeartbeats 4000000 in
theorem containsFA_spec (w0 : World) (f : Value) : Ret Tryz.prog 84 #[.slice none 0 0, f] w0 (fun r w => r = .bool false ∧ Kp w0 noM w) := by
  have hH : HS w0 noM [] w0 := HS.init w0 noM
  (refine enter (N := 9) Tryz.func84 rfl Tryz.ntmps84 rfl ?_; intro a hA; dsimp only [sl0, Nat.reduceAdd] at hA)
  repeat' (first | (refine QT ?_; clear hA a; intro a hA) | (refine CT ?_ <;> repeat' refine CT ?_) | fail)
  (refine st_op hA rfl rfl (by decide) (op_call rfl rfl rfl (indexFA_spec _ f)) ?_; clear hA; rintro _ w ⟨rfl, hk⟩ a hA; replace hH := hH.keep hk; clear hk)
  repeat' (first | (refine QT ?_; clear hA a; intro a hA) | (refine CT ?_ <;> repeat' refine CT ?_) | fail)
  exact rt1 (.inl rfl) rfl hA rfl ⟨rfl, hH.kp⟩
def shp2 : List Value := [.bool false, .bool false, .bool false, .bool false, .bool false, .int .i64 1, .int .i64 0]
set_option maxHeartbeats 4000000 in
theorem shapes_spec (w0 : World) : Ret Tryz.prog 78 #[.int .i64 2] w0 (fun r w => r = .tuple #[.agg shp2.toArray, .bool true] ∧ Kp w0 noM w) := by
  have hH : HS w0 noM [] w0 := HS.init w0 noM
  (refine enter (N := 28) Tryz.func78 rfl Tryz.ntmps78 rfl ?_; intro a hA; dsimp only [sl0, Nat.reduceAdd] at hA)
  repeat' (first | ((first | apply st_ex hA hH rfl rfl (by decide) | apply dr_ex hA rfl rfl rfl (by decide) | apply dr_exp hA rfl rfl rfl (by decide) | apply dr_ex3 hA hH rfl rfl rfl (by decide)); (first | (apply ex_build_p (cs := shp2.toArray); rfl; (repeat (first | (intro _ h; exact absurd h (List.not_mem_nil)) | (refine List.forall_mem_cons.2 ⟨one_cell_of _ _, ?_⟩))); rfl)); clear hA a; intro a hA) | (refine QT ?_; clear hA a; intro a hA) | (refine BT ?_; clear hA hH; rintro _ w ⟨bN, rfl, hH⟩ a hA) | (apply st_op0 hA rfl rfl; apply op_store_agg (vs := shp2); rfl; rfl; exact hH; (repeat constructor); (repeat rfl); clear hH; rintro _ w hH) | (refine CT ?_ <;> repeat' refine CT ?_) | fail)
  exact rt2c (vs := shp2) (.inl rfl) rfl hA rfl rfl rfl hH (cls_cb_all (by exact MEMT)) ⟨rfl, hH.kp⟩
set_option maxHeartbeats 4000000 in
theorem atomsA_spec (w0 w : World) (H : List It) (c : Kk) (bK : Nat) (p : Int) (o : Option Addr) (hH : HS w0 noM (cb bK 127 (encKk c (p)) :: H) w) (hr : Rd w0 o (encAt at0)) (hp0 : 0 ≤ p) (hp1 : p ≤ 60001) :
    Ret Tryz.prog 79 #[.pointer (some (bat bK 0)), .slice o 1 1] w (fun r w' => r = .bool true ∧ HS w0 noM (cb bK 127 (encKk c (p + 1)) :: H) w') := by
  have hsp : Sp o 1 := hr.sp (sz := 2) rfl (by omega)
  (refine enter (N := 78) Tryz.func79 rfl Tryz.ntmps79 rfl ?_; intro a hA; dsimp only [sl0, Nat.reduceAdd] at hA)
  repeat' (first | (refine QT ?_; clear hA a; intro a hA) | (refine CT ?_ <;> repeat' refine CT ?_) | fail)
  refine wp_lpk (S := Nat) (fun i a w => i ≤ 1 ∧ HS w0 noM (cb bK 127 (encKk c (p + (i : Int))) :: H) w ∧ Sl 78 [(10, .int .i64 i), (9, .int .i64 (1 : Nat)), (8, .slice o 1 1), (0, .pointer (some (bat bK 0)))] a) (fun i => 1 - i)
    (fun a w => HS w0 noM (cb bK 127 (encKk c (p + 1)) :: H) w ∧ Sl 78 [] a) 0 ⟨by omega, (by rw [show p + ((0 : Nat) : Int) = p by omega]; exact hH), (hA.sub (by (repeat (first | exact trivial | refine ⟨rfl, ?_⟩)); first | done | fail "sub"))⟩ ?_ ?_
  · clear hA hH
    rintro i a w ⟨hi, hH, hA⟩
    by_cases hlt : i < 1
    rotate_left
    · obtain rfl : i = 1 := by omega
      repeat' (first | (refine QT ?_; clear hA a; intro a hA) | (refine CT ?_ <;> repeat' refine CT ?_) | fail)
      exact ⟨hH, (hA.sub (by (repeat (first | exact trivial | refine ⟨rfl, ?_⟩)); first | done | fail "sub"))⟩
    obtain rfl : i = 0 := by omega
    rw [show p + ((0 : Nat) : Int) = p by omega] at hH
    repeat' (first | (refine GT ?_ ?_ <;> intro hg <;> clear hA a <;> intro a hA <;> (first | exact FA | replace hg := of_decide_eq_true hg | replace hg := of_decide_eq_false hg | skip)) | ((first | apply st_ex hA hH rfl rfl (by decide) | apply dr_ex hA rfl rfl rfl (by decide) | apply dr_exp hA rfl rfl rfl (by decide) | apply dr_ex3 hA hH rfl rfl rfl (by decide)); (first | (apply ex_load_st (vs := encAt at0); rfl; rfl; exact cls_rd hr id (fun i v h => (by rw [Nat.zero_mul, Nat.zero_add]; exact h))) | (apply ex_indexAddr_nat; rfl; rfl; omega; exact hsp)); clear hA a; intro a hA) | (refine QT ?_; clear hA a; intro a hA) | (refine BT ?_; clear hA hH; rintro _ w ⟨bN, rfl, hH⟩ a hA) | (apply st_op0 hA rfl rfl; apply op_store_agg (vs := encAt at0); rfl; rfl; exact hH; (repeat constructor); (repeat rfl); clear hH; rintro _ w hH) | (apply st_op0 hA rfl rfl; apply op_store_fld (cs' := encKk c (p + 1)); rfl; rfl; rfl; exact hH; (repeat constructor); clear hH; rintro _ w hH) | ((first | refine CT ?_ | (refine DT ?_ ?_ <;> intro hc <;> try (exfalso; omega))) <;> repeat' refine CT ?_) | fail)
    all_goals first | exact ⟨1, ⟨by omega, hH.tail, (hA.sub (by (repeat (first | exact trivial | refine ⟨rfl, ?_⟩)); first | done | fail "sub"))⟩, by omega⟩ | (exfalso; have h1 := nd_t (by assumption); omega) | skip
  clear hA hH
  rintro a w ⟨hH, hA⟩
  repeat' (first | (refine QT ?_; clear hA a; intro a hA) | (refine CT ?_ <;> repeat' refine CT ?_) | fail)
  exact rt1 (.inl rfl) rfl hA rfl ⟨rfl, hH⟩
set_option maxHeartbeats 16000000 in
theorem body_spec (w0 w : World) (H : List It) (c : Kk) (bK : Nat) (p : Int) (o : Option Addr) (hH : HS w0 noM (cb bK 127 (encKk c (p)) :: H) w) (hr : Rd w0 o (encAt at0)) (hp0 : 0 ≤ p) (hp1 : p ≤ 60000) :
    Ret Tryz.prog 45 #[.pointer (some (bat bK 0)), .agg (encB o).toArray, .int .i64 1] w (fun r w' => r = .bool true ∧ HS w0 noM (cb bK 127 (encKk c (p + 2)) :: H) w') := by
  (refine enter (N := 241) Tryz.func45 rfl Tryz.ntmps45 rfl ?_; intro a hA; dsimp only [sl0, Nat.reduceAdd] at hA)
  repeat' (first | (refine QT ?_; clear hA a; intro a hA) | (refine BT ?_; clear hA hH; rintro _ w ⟨bN, rfl, hH⟩ a hA) | (refine CT ?_ <;> repeat' refine CT ?_) | fail)
  (refine st_op hA rfl rfl (by decide) (op_call rfl rfl rfl (shapes_spec _)) ?_; clear hA; rintro _ w ⟨rfl, hk⟩ a hA; replace hH := hH.keep hk; clear hk)
  repeat' (first | (refine GT ?_ ?_ <;> intro hg <;> clear hA a <;> intro a hA <;> (first | exact FA | replace hg := of_decide_eq_true hg | replace hg := of_decide_eq_false hg | skip)) | (refine QT ?_; clear hA a; intro a hA) | (refine BT ?_; clear hA hH; rintro _ w ⟨bN, rfl, hH⟩ a hA) | (apply st_op0 hA rfl rfl; apply op_store_agg (vs := shp2); rfl; rfl; exact hH; (repeat constructor); (repeat rfl); clear hH; rintro _ w hH) | (apply st_op0 hA rfl rfl; apply op_store_fld (cs' := encKk c (p + 1)); rfl; rfl; rfl; exact hH; (repeat constructor); clear hH; rintro _ w hH) | (refine CT ?_ <;> repeat' refine CT ?_) | fail)
  replace hH := hH.up 4 rfl
  dsimp only [List.eraseIdx_cons_succ, List.eraseIdx_cons_zero] at hH
  (refine st_op hA rfl rfl (by decide) (op_call rfl rfl rfl (atomsA_spec w0 _ _ c bK (p + 1) o hH hr (by omega) (by omega))) ?_; clear hA hH)
  rintro _ w ⟨rfl, hH⟩ a hA
  repeat' (first | (refine QT ?_; clear hA a; intro a hA) | (refine CT ?_ <;> repeat' refine CT ?_) | fail)
  (refine st_op hA rfl rfl (by decide) (op_call rfl rfl rfl (containsFA_spec _ _)) ?_; clear hA; rintro _ w ⟨rfl, hk⟩ a hA; replace hH := hH.keep hk; clear hk)
  repeat' (first | (refine QT ?_; clear hA a; intro a hA) | (refine CT ?_ <;> repeat' refine CT ?_) | fail)
  rw [show p + 1 + 1 = p + 2 by omega] at hH
  exact rt1 (.inl rfl) rfl hA rfl ⟨rfl, hH.rm 1 |>.rm 1 |>.rm 1 |>.rm 1⟩
end Go.Proofs.YtenlcdokaadobaaGreatDoor
namespace Go.Fw
open Go Go.RowKit
set_option linter.unusedVariables false
section
variable {P : Program} {N : Nat} {l : List (Nat × Value)} {C : World → Prop} {d : Option Tmp} {T : TypeId} {pos : String} {af : Array Edge} {g : Option (Nat × Bool)}
theorem op_insertK {t kt e b : Nat} {kk : IntKind} {x y z : Operand} {ks : List Int} {k : Int} {w0 w : World} {M : Nat → Prop} {H H' : List It} [ht : TMp P t kt e] [hk : TIn P kt kk]
    (hx : ev l x = some (.map (some b))) (hy : ev l y = some (.int .i64 k)) (hz : ev l z = some (.bool true)) (hH : HS w0 M H w) (hr : Rp H (sk b ks) (sk b (sadd ks k)) H') :
    Op1 P N l ⟨d, .insert t x y z, T, pos, af, g⟩ w (fun _ w' => HS w0 M H' w') := by
  intro a hA K Q hK
  have h := op_addK (P := P) (N := N) (d := d) (T := T) (pos := pos) (af := af) (g := g) (t := t) hx hy hz hH hr a hA K Q hK
  exact h
inductive SzL (P : Program) : List (Nat × Nat) → List (Nat × Nat) → Prop
  | nil : SzL P [] []
  | cons {t o s : Nat} {fl szs : List (Nat × Nat)} (h : ∃ i, P.info? t = some i ∧ i.size = s) (k : SzL P fl szs) : SzL P ((t, o) :: fl) ((o, s) :: szs)
theorem run_szl {fl szs : List (Nat × Nat)} (h : SzL P fl szs) (w : World) : (fl.mapM (fun p => do pure (p.2, ← sizeOf p.1)) : Sem (List (Nat × Nat))).run P w = .ok szs w := by
  induction h with
  | nil => simp
  | @cons t o s fl szs h k ih =>
    obtain ⟨i, h1, h2⟩ := h
    rw [List.mapM_cons]
    have e1 : (sizeOf t : Sem Nat).run P w = .ok s w := by
      simp [sizeOf, typeInfo, h1, h2]
    simp only [Sem.run_bind, e1, Result.andThen_ok, Sem.run_pure, ih]
end
end Go.Fw
namespace Go.Proofs.YtenlcdokaadobaaGreatDoor
open Go Go.Fw
set_option linter.unusedVariables false
def encF (o : Option Addr) (c : Int) : List Value := .int .i64 c :: encB o
theorem encF_len (o : Option Addr) (c : Int) : (encF o c).length = 12 := rfl
theorem nb_no {b : Bool} {p : Prop} (h : b = true ↔ p) (hn : (!b) = true) : ¬ p := fun hp => by rw [h.2 hp] at hn; cases hn
theorem nb_yes {b : Bool} {p : Prop} (h : b = true ↔ p) (hn : (!b) = false) : p := h.1 (by cases b with | true => rfl | false => cases hn)
theorem anf_no {cs : List Int} {g : Grs} (h : ¬ AnfP cs g) : false = true ↔ AnfP cs g := ⟨fun e => (by cases e), fun e => absurd e h⟩
def four : List ByteArray := [exnB, exnD, exnM, exnS]
theorem has4 {cs : List Int} {g : Grs} (h : AnfP cs g) : ∀ s ∈ four, hasS g.xs.l s := fun s hs => by
  simp only [four, List.mem_cons, List.not_mem_nil, or_false] at hs
  obtain ⟨h1, h2, h3, h4⟩ := h.has
  rcases hs with rfl | rfl | rfl | rfl <;> assumption
theorem has4_of {l : List ByteArray} (h : ∀ k, k < four.length → hasS l (four.getD k default)) : hasS l exnB ∧ hasS l exnD ∧ hasS l exnM ∧ hasS l exnS := ⟨h 0 (by decide), h 1 (by decide), h 2 (by decide), h 3 (by decide)⟩
theorem caps_next {l : List Int} {i : Nat} {x : Int} (hx : l[i]? = some x) (h : ∀ c ∈ l.take i, 0 ≤ c ∧ c ≤ 4096) (ha : 0 ≤ x ∧ x ≤ 4096) : ∀ c ∈ l.take (i + 1), 0 ≤ c ∧ c ≤ 4096 := by
  rw [take_snoc hx]
  intro c hc
  rcases List.mem_append.1 hc with h1 | h1
  · exact h c h1
  · rw [List.mem_singleton] at h1
    exact h1 ▸ ha
theorem getD_mem {α : Type} {l : List α} {k : Nat} {d : α} (h : k < l.length) : l.getD k d ∈ l := by
  rw [List.getD_eq_getElem?_getD, List.getElem?_eq_getElem h]
  exact List.getElem_mem h
theorem own4 {w0 w : World} {H : List It} {T : Nat} {o : Option Addr} {a b c d : ByteArray} (h : HS w0 noM (own T 1 o 4 4 [.string a, .string b, .string c, .string d] :: H) w) : ∃ sl : List ByteArray, sl = [a, b, c, d] ∧ sl.length = 4 ∧ HS w0 noM (own T 1 o sl.length sl.length (flat encX sl) :: H) w := ⟨[a, b, c, d], rfl, rfl, h⟩
def kk0 (o : Option Addr) (n c : Nat) (g : Grs) : Kk := ⟨o, n, c, g, none, 0, 0, 0, none, none, none, none⟩
theorem cap_at {o : Option Addr} {l : List Int} {k : Nat} (h : k < l.length) : (flat (encF o) l)[k * 12 + 0]? = some (.int .i64 (l.getD k 0)) := by
  refine flat_get (off := 0) (encF_len o) (List.getElem?_eq_getElem h) ?_
  rw [List.getD_eq_getElem?_getD, List.getElem?_eq_getElem h]
  rfl
theorem flatI_s (l : List Int) (x : Int) : flat Fw.encI l ++ [.int .i64 x] = flat Fw.encI (l ++ [x]) := by rw [flat_snoc]; rfl
theorem sub_bd (o : Option Addr) (c : Int) (i : Nat) (v : Value) (h : (encB o)[i]? = some v) : (encF o c)[0 + 1 + i]? = some v := by rw [Nat.zero_add, Nat.add_comm]; exact h
set_option maxRecDepth 10000 attribute [local irreducible] Code.wp wpList Calls Ex Op1 sat bat blk cb own Go.Fw.mp Go.Fw.mpO Go.Fw.mpI Go.Fw.mpE Go.Fw.itr HS Rd Ret wkD Hp Cl Cls Exit.then Exit.inBlock Exit.noGoto bodyPost Go.Fw.flat wk2 Go.Fw.all Go.Fw.owns wpOp
attribute [local irreducible] sk mpK sko mvO entK geS

set_option maxHeartbeats 16000000 in
theorem anfMay_spec (w0 : World) (oF : Option Addr) (cF : Nat) (cs : List Int) (o : Option Addr) (g : Grs) (hF : Rd w0 oF (flat (encF o) cs)) (hr : Rd w0 o (encAt at0)) (hcl : cs.length ≤ 100000) (hls : RdV w0 encX g.ls) (hts : RdV w0 encX g.ts) (hxs : RdV w0 encX g.xs) (hss : RdV w0 encX g.ss) :
    Ret Tryz.prog 18 #[.agg (encP oF cs.length cF g).toArray] w0 (fun v w => ∃ b, v = .bool b ∧ (b = true ↔ AnfP cs g) ∧ Kp w0 noM w) := by
  have hH : HS w0 noM [] w0 := HS.init w0 noM
  have hspF : Sp oF cs.length := hF.sp (sz := 12) (flat_length (encF_len o) _) (by omega)
  (refine enter (N := 126) Tryz.func18 rfl Tryz.ntmps18 rfl ?_; intro a hA; dsimp only [sl0, Nat.reduceAdd] at hA)
  repeat' (first | (refine GT ?_ ?_ <;> intro hg <;> clear hA a <;> intro a hA <;> (first | exact FA | replace hg := of_decide_eq_true hg | replace hg := of_decide_eq_false hg | skip)) | ((first | apply st_ex hA hH rfl rfl (by decide) | apply dr_ex hA rfl rfl rfl (by decide) | apply dr_exp hA rfl rfl rfl (by decide) | apply dr_ex3 hA hH rfl rfl rfl (by decide)); (first | (apply ex_load; rfl; refine cl_rd hF id (cap_at ?_); (show 0 < _); omega)); clear hA a; intro a hA) | (refine QT ?_; clear hA a; intro a hA) | (refine BT ?_; clear hA hH; rintro _ w ⟨bN, rfl, hH⟩ a hA) | (refine LT ?_; clear hA hH; rintro _ w ⟨oN, rfl, hH⟩ a hA) | (refine st_op hA rfl rfl (by decide) (op_call rfl rfl rfl (rising_spec _ g.ls (hls.keep hH.kp))) ?_; clear hA; rintro _ w ⟨b, rfl, hb1, hk⟩ a hA; replace hH := hH.keep hk; clear hk) | (refine st_op hA rfl rfl (by decide) (op_call rfl rfl rfl (rising_spec _ g.ts (hts.keep hH.kp))) ?_; clear hA; rintro _ w ⟨b, rfl, hb2, hk⟩ a hA; replace hH := hH.keep hk; clear hk) | (refine st_op hA rfl rfl (by decide) (op_call rfl rfl rfl (rising_spec _ g.xs (hxs.keep hH.kp))) ?_; clear hA; rintro _ w ⟨b, rfl, hb3, hk⟩ a hA; replace hH := hH.keep hk; clear hk) | ((first | refine CT ?_ | (refine DT ?_ ?_ <;> intro hc <;> try (exfalso; omega))) <;> repeat' refine CT ?_) | fail)
  · exact rt1 (.inl rfl) rfl hA rfl ⟨_, rfl, anf_no (fun h => (by have := h.pos; omega)), hH.kp⟩
  · exact rt1 (.inl rfl) rfl hA rfl ⟨_, rfl, anf_no (fun h => (by have := h.top; omega)), hH.kp⟩
  · exact rt1 (.inl rfl) rfl hA rfl ⟨_, rfl, anf_no (fun h => (by assumption : cs.getD (Int.toNat 0) 0 ≠ 0) h.c0), hH.kp⟩
  · exact rt1 (.inl rfl) rfl hA rfl ⟨_, rfl, anf_no (fun h => nb_no hb1 (by assumption) h.ls), hH.kp⟩
  · exact rt1 (.inl rfl) rfl hA rfl ⟨_, rfl, anf_no (fun h => nb_no hb2 (by assumption) h.ts), hH.kp⟩
  · exact rt1 (.inl rfl) rfl hA rfl ⟨_, rfl, anf_no (fun h => nb_no hb3 (by assumption) h.xs), hH.kp⟩
  have hp1 := nb_yes hb1 (by assumption)
  have hp2 := nb_yes hb2 (by assumption)
  have hp3 := nb_yes hb3 (by assumption)
  have hc0 : cs.getD 0 0 = 0 := Decidable.not_not.1 (by assumption : ¬ cs.getD (Int.toNat 0) 0 ≠ 0)
  clear hb1 hb2 hb3
  obtain ⟨b1, hb1⟩ : ∃ x, x = bN := ⟨_, rfl⟩
  rw [← hb1] at hA hH
  clear hb1 bN
  have hcl2 : 1 ≤ cs.length := by omega
  have hcl4 : cs.length ≤ 4096 := by omega
  obtain ⟨sl, hsl0, hsl, hH1⟩ := own4 hH
  have hsl4 : sl = four := hsl0.trans rfl
  clear hsl0
  clear hH
  have hH := hH1
  clear hH1
  have hA2 : Sl 126 [(48, .int .i64 (0 : Nat)), (47, .int .i64 sl.length), (46, .slice oN sl.length sl.length), (1, .pointer (some (bat b1 0)))] a := by rw [hsl]; exact (hA.sub (by (repeat (first | exact trivial | refine ⟨rfl, ?_⟩)); first | done | fail "sub"))
  clear hA
  have hspS := hH.own_sp (T := 9) (o := oN) (.head _)
  refine wp_lpk (S := Nat) (fun i a w => (i ≤ sl.length ∧ ∀ k, k < i → hasS g.xs.l (sl.getD k default)) ∧ HS w0 noM [own 9 1 oN sl.length sl.length (flat encX sl), cb b1 34 (encP oF cs.length cF g)] w ∧ Sl 126 [(48, .int .i64 i), (47, .int .i64 sl.length), (46, .slice oN sl.length sl.length), (1, .pointer (some (bat b1 0)))] a) (fun i => sl.length - i)
    (fun a w => (∀ k, k < sl.length → hasS g.xs.l (sl.getD k default)) ∧ HS w0 noM [cb b1 34 (encP oF cs.length cF g)] w ∧ Sl 126 [(1, .pointer (some (bat b1 0)))] a) 0 ⟨⟨Nat.zero_le _, fun k h => absurd h (Nat.not_lt_zero _)⟩, hH, hA2⟩ ?_ ?_
  · clear hA2 hH
    rintro i a w ⟨⟨hi, hhas⟩, hH, hA⟩
    by_cases hlt : i < sl.length
    rotate_left
    · obtain rfl : i = sl.length := by omega
      repeat' (first | (refine QT ?_; clear hA a; intro a hA) | ((first | refine CT ?_ | (refine DT ?_ ?_ <;> intro hc <;> try (exfalso; omega))) <;> repeat' refine CT ?_) | fail)
      exact ⟨hhas, hH.tail, (hA.sub (by (repeat (first | exact trivial | refine ⟨rfl, ?_⟩)); first | done | fail "sub"))⟩
    have hv := strs_at hlt
    repeat' (first | ((first | apply st_ex hA hH rfl rfl (by decide) | apply dr_ex hA rfl rfl rfl (by decide) | apply dr_exp hA rfl rfl rfl (by decide) | apply dr_ex3 hA hH rfl rfl rfl (by decide)); (first | (apply ex_indexAddr_nat; rfl; rfl; omega; exact hspS) | (apply ex_load; rfl; apply cl_own (T := 9); exact MEMT; exact hv)); clear hA a; intro a hA) | (refine QT ?_; clear hA a; intro a hA) | ((first | refine CT ?_ | (refine DT ?_ ?_ <;> intro hc <;> try (exfalso; omega))) <;> repeat' refine CT ?_) | fail)
    (refine st_op hA rfl rfl (by decide) (op_call rfl rfl rfl (containsX_spec _ g.xs _ (hxs.keep hH.kp))) ?_; clear hA; rintro _ w ⟨rfl, hk⟩ a hA; replace hH := hH.keep hk; clear hk)
    repeat' (first | (refine QT ?_; clear hA a; intro a hA) | ((first | refine CT ?_ | (refine DT ?_ ?_ <;> intro hc <;> try (exfalso; omega))) <;> repeat' refine CT ?_) | fail)
    all_goals first | exact ⟨i + 1, ⟨⟨hlt, lt_next (p := fun k => hasS g.xs.l (sl.getD k default)) hhas (by assumption)⟩, hH, (hA.sub (by (repeat (first | exact trivial | refine ⟨rfl, ?_⟩)); first | done | fail "sub"))⟩, by omega⟩ | exact rt1 (.inl rfl) rfl hA rfl ⟨_, rfl, anf_no (fun h => (by assumption : ¬ 0 ≤ idxF g.xs.l (sl.getD i default)) (has4 h _ (hsl4 ▸ getD_mem hlt))), hH.kp⟩
  clear hA2 hH
  rintro a w ⟨hhas, hH, hA⟩
  rw [hsl4] at hhas
  have hx4 := has4_of hhas
  clear hhas hsl hsl4 hspS
  repeat' (first | (refine QT ?_; clear hA a; intro a hA) | (refine CT ?_ <;> repeat' refine CT ?_) | fail)
  (refine st_op hA rfl rfl (by decide) (op_call rfl rfl rfl (containsFX_spec _ g.ss (hss.keep hH.kp))) ?_; clear hA; rintro _ w ⟨b, rfl, hbs, hk⟩ a hA; replace hH := hH.keep hk; clear hk)
  repeat' (first | ((first | apply st_ex hA hH rfl rfl (by decide) | apply dr_ex hA rfl rfl rfl (by decide) | apply dr_exp hA rfl rfl rfl (by decide) | apply dr_ex3 hA hH rfl rfl rfl (by decide)); (first | (apply ex_build (szs := [(0, 5), (5, 1), (6, 1), (7, 1), (8, 1), (9, 1), (10, 1), (11, 1)]) (cs := (encKk (kk0 oF cs.length cF g) 0).toArray); exact run_szl (by (repeat (first | exact SzL.nil | refine SzL.cons ⟨_, rfl, by decide⟩ ?_))); rfl; rfl)); clear hA a; intro a hA) | (refine QT ?_; clear hA a; intro a hA) | (refine BT ?_; clear hA hH; rintro _ w ⟨bN, rfl, hH⟩ a hA) | ((first | refine CT ?_ | (refine DT ?_ ?_ <;> intro hc <;> try (exfalso; omega))) <;> repeat' refine CT ?_) | fail)
  · exact rt1 (.inl rfl) rfl hA rfl ⟨_, rfl, anf_no (fun h => hbs.1 (by assumption) h.ss), hH.kp⟩
  have hss4 : ∀ s ∈ g.ss.l, s.size ≤ 4096 := Classical.not_not.1 fun h => absurd ((by assumption : b = false).symm.trans (hbs.2 h)) (by decide)
  clear hbs
  obtain ⟨bK, hbK⟩ : ∃ x, x = bN := ⟨_, rfl⟩
  rw [← hbK] at hA hH
  clear hbK bN
  refine wp_lpk (S := Nat) (fun i a w => ∃ oA cA, i ≤ cs.length ∧ HS w0 noM [cb bK 127 (encKk ⟨oF, cs.length, cF, g, oA, i, cA, 0, none, none, none, none⟩ 0), own 3 1 oA i cA (flat Fw.encI (cs.take i)), cb b1 34 (encP oF cs.length cF g)] w ∧ Sl 126 [(67, .int .i64 i), (66, .int .i64 cs.length), (65, .slice oF cs.length cF), (5, .pointer (some (bat bK 0))), (1, .pointer (some (bat b1 0)))] a) (fun i => cs.length - i)
    (fun a w => ∃ oA nA cA, HS w0 noM [cb bK 127 (encKk ⟨oF, cs.length, cF, g, oA, nA, cA, 0, none, none, none, none⟩ 0), cb b1 34 (encP oF cs.length cF g)] w ∧ Sl 126 [(5, .pointer (some (bat bK 0))), (1, .pointer (some (bat b1 0)))] a) 0 ⟨none, 0, Nat.zero_le _, (by rw [List.take_zero]; exact (hH.nil_flat Fw.encI 3 1).perm (by (repeat (first | exact List.Perm.refl _ | exact List.Perm.nil | refine perm_pick 0 rfl ?_ | refine perm_pick 1 rfl ?_ | refine perm_pick 2 rfl ?_ | refine perm_pick 3 rfl ?_ | refine perm_pick 4 rfl ?_ | refine perm_pick 5 rfl ?_ | refine perm_pick 6 rfl ?_ | refine perm_pick 7 rfl ?_ | refine perm_pick 8 rfl ?_ | refine perm_pick 9 rfl ?_ | refine perm_pick 10 rfl ?_ | refine perm_pick 11 rfl ?_)))), (hA.sub (by (repeat (first | exact trivial | refine ⟨rfl, ?_⟩)); first | done | fail "sub"))⟩ ?_ ?_
  · clear hA hH
    rintro i a w ⟨oA, cA, hi, hH, hA⟩
    by_cases hlt : i < cs.length
    rotate_left
    · repeat' (first | (refine QT ?_; clear hA a; intro a hA) | ((first | refine CT ?_ | (refine DT ?_ ?_ <;> intro hc <;> try (exfalso; omega))) <;> repeat' refine CT ?_) | fail)
      exact ⟨oA, i, cA, hH.rm 1, (hA.sub (by (repeat (first | exact trivial | refine ⟨rfl, ?_⟩)); first | done | fail "sub"))⟩
    obtain ⟨x, hx⟩ : ∃ x, cs[i]? = some x := ⟨_, List.getElem?_eq_getElem hlt⟩
    have hvx := flat_all (encF_len o) hx
    repeat' (first | ((first | apply st_ex hA hH rfl rfl (by decide) | apply dr_ex hA rfl rfl rfl (by decide) | apply dr_exp hA rfl rfl rfl (by decide) | apply dr_ex3 hA hH rfl rfl rfl (by decide)); (first | (apply ex_load_st (vs := encF o x); rfl; rfl; exact cls_rd hF id hvx) | (apply ex_indexAddr_nat; rfl; rfl; omega; exact hspF)); clear hA a; intro a hA) | (refine QT ?_; clear hA a; intro a hA) | (refine BT ?_; clear hA hH; rintro _ w ⟨bN, rfl, hH⟩ a hA) | (apply st_op0 hA rfl rfl; apply op_store_agg (vs := encF o x); rfl; rfl; exact hH; (repeat constructor); (repeat rfl); clear hH; rintro _ w hH) | ((first | refine CT ?_ | (refine DT ?_ ?_ <;> intro hc <;> try (exfalso; omega))) <;> repeat' refine CT ?_) | fail)
    have hST : HS w0 noM [cb bN 72 (encF o x), cb bK 127 (encKk ⟨oF, cs.length, cF, g, oA, i, cA, 0, none, none, none, none⟩ 0)] w := HS.left (H1 := [_, _]) hH
    (refine wp_draw2_HS (H := [_, _]) [(0, 1), (1, 1), (2, 1), (3, 1), (4, 1), (5, 1), (6, 1), (7, 0), (8, 0), (9, 1), (10, 1)] [11] mixed (by decide +kernel) (hST) ?_; replace hH := hH.drew)
    clear hST
    repeat' (first | (refine QT ?_; clear hA a; intro a hA) | (refine DLT ?_; clear hA hH; rintro _ w ⟨oN, rfl, hH⟩; refine ⟨STT, ?_⟩; intro a hA) | fail)
    (apply dr_op hA rfl rfl rfl (by decide); apply op_sliceLit; rfl; rfl; exact CATST; rfl; rfl; rfl; exact hH; clear hA hH; rintro _ w ⟨oN, rfl, hH⟩; refine ⟨HS.left (H1 := [_, _]) hH.tail, ?_⟩; intro a hA)
    dsimp only at hA
    (apply dr_op hA rfl rfl rfl (by decide); apply op_append; rfl; rfl; exact hH; exact MEMT; exact (hH.own_rd (List.Mem.head _)); exact rfl; rfl; decide; exact rfl; (unfold maxLen; omega); omega; clear hA; rintro _ w ⟨oN, cN, rfl, hH2⟩; clear hH; have hH := hH2 _ (by (repeat constructor)); clear hH2; refine ⟨HS.left (H1 := [_, _]) hH.tail, ?_⟩; intro a hA)
    rw [flatI_s, ← take_snoc hx] at hH
    repeat' (first | (refine QT ?_; clear hA a; intro a hA) | (refine CT ?_ <;> repeat' refine CT ?_) | fail)
    (apply dr_op03 hA rfl rfl rfl; apply op_store_fld (cs' := encKk ⟨oF, cs.length, cF, g, oN, i + 1, cN, 0, none, none, none, none⟩ 0); rfl; rfl; rfl; exact hH; (repeat constructor); clear hH; rintro _ w hH)
    repeat' (first | (refine QT ?_; clear hA a; intro a hA) | (refine CT ?_ <;> repeat' refine CT ?_) | fail)
    exact ⟨i + 1, ⟨oN, cN, hlt, (((hH.rm 0).rm 0).perm (by (repeat (first | exact List.Perm.refl _ | exact List.Perm.nil | refine perm_pick 0 rfl ?_ | refine perm_pick 1 rfl ?_ | refine perm_pick 2 rfl ?_ | refine perm_pick 3 rfl ?_ | refine perm_pick 4 rfl ?_ | refine perm_pick 5 rfl ?_ | refine perm_pick 6 rfl ?_ | refine perm_pick 7 rfl ?_ | refine perm_pick 8 rfl ?_ | refine perm_pick 9 rfl ?_ | refine perm_pick 10 rfl ?_ | refine perm_pick 11 rfl ?_)))), (hA.sub (by (repeat (first | exact trivial | refine ⟨rfl, ?_⟩)); first | done | fail "sub"))⟩, by omega⟩
  clear hA hH
  rintro a w ⟨oA, nA, cA, hH, hA⟩
  repeat' (first | (refine QT ?_; clear hA a; intro a hA) | (refine CT ?_ <;> repeat' refine CT ?_) | fail)
  refine wp_lpk (S := Nat) (fun i a w => ∃ c p, (i ≤ cs.length ∧ 0 ≤ p ∧ p ≤ 2 * (i : Int) ∧ ∀ c ∈ cs.take i, 0 ≤ c ∧ c ≤ 4096) ∧ HS w0 noM [cb bK 127 (encKk c p), cb b1 34 (encP oF cs.length cF g)] w ∧ Sl 126 [(86, .int .i64 i), (85, .int .i64 cs.length), (84, .slice oF cs.length cF), (5, .pointer (some (bat bK 0)))] a) (fun i => cs.length - i)
    (fun a w => (∀ c ∈ cs, 0 ≤ c ∧ c ≤ 4096) ∧ HS w0 noM [] w ∧ Sl 126 [] a) 0 ⟨_, 0, ⟨Nat.zero_le _, Int.le_refl _, by omega, (by rw [List.take_zero]; exact fun c h => absurd h List.not_mem_nil)⟩, hH, (hA.sub (by (repeat (first | exact trivial | refine ⟨rfl, ?_⟩)); first | done | fail "sub"))⟩ ?_ ?_
  · clear hA hH
    rintro i a w ⟨c, p, ⟨hi, hp0, hp1, hcap⟩, hH, hA⟩
    by_cases hlt : i < cs.length
    rotate_left
    · obtain rfl : i = cs.length := by omega
      rw [List.take_length] at hcap
      repeat' (first | (refine QT ?_; clear hA a; intro a hA) | ((first | refine CT ?_ | (refine DT ?_ ?_ <;> intro hc <;> try (exfalso; omega))) <;> repeat' refine CT ?_) | fail)
      exact ⟨hcap, hH.tail.tail, (hA.sub (by (repeat (first | exact trivial | refine ⟨rfl, ?_⟩)); first | done | fail "sub"))⟩
    obtain ⟨x, hx⟩ : ∃ x, cs[i]? = some x := ⟨_, List.getElem?_eq_getElem hlt⟩
    have hvx := flat_all (encF_len o) hx
    repeat' (first | (refine GT ?_ ?_ <;> intro hg <;> clear hA a <;> intro a hA <;> (first | exact FA | replace hg := of_decide_eq_true hg | replace hg := of_decide_eq_false hg | skip)) | ((first | apply st_ex hA hH rfl rfl (by decide) | apply dr_ex hA rfl rfl rfl (by decide) | apply dr_exp hA rfl rfl rfl (by decide) | apply dr_ex3 hA hH rfl rfl rfl (by decide)); (first | (apply ex_load_st (vs := encF o x); rfl; rfl; exact cls_rd hF id hvx) | (apply ex_indexAddr_nat; rfl; rfl; omega; exact hspF)); clear hA a; intro a hA) | (refine QT ?_; clear hA a; intro a hA) | (refine BT ?_; clear hA hH; rintro _ w ⟨bN, rfl, hH⟩ a hA) | (apply st_op0 hA rfl rfl; apply op_store_agg (vs := encF o x); rfl; rfl; exact hH; (repeat constructor); (repeat rfl); clear hH; rintro _ w hH) | (apply st_op0 hA rfl rfl; apply op_store_fld (cs' := encKk { c with caps := x } p); rfl; rfl; rfl; exact hH; (repeat constructor); clear hH; rintro _ w hH) | ((first | refine CT ?_ | (refine DT ?_ ?_ <;> intro hc <;> try (exfalso; omega))) <;> repeat' refine CT ?_) | fail)
    · exact rt1 (.inl rfl) rfl hA rfl ⟨_, rfl, anf_no (fun h => (by have := h.caps x (List.mem_of_getElem? hx); omega)), hH.kp⟩
    · exact rt1 (.inl rfl) rfl hA rfl ⟨_, rfl, anf_no (fun h => (by have := h.caps x (List.mem_of_getElem? hx); omega)), hH.kp⟩
    have hxx : 0 ≤ x ∧ x ≤ 4096 := by omega
    (refine st_op hA rfl rfl (by decide) (op_makeMapK hH) ?_; clear hA hH; rintro _ w ⟨m1, rfl, hH⟩ a hA)
    (refine st_op hA rfl rfl (by decide) (op_makeMapK hH) ?_; clear hA hH; rintro _ w ⟨m2, rfl, hH⟩ a hA)
    repeat' (first | (refine QT ?_; clear hA a; intro a hA) | (apply st_op0 hA rfl rfl; apply op_insertK; rfl; rfl; rfl; exact hH; (repeat constructor); clear hH; rintro _ w hH) | fail)
    (refine st_op hA rfl rfl (by decide) (op_makeMapI hH) ?_; clear hA hH; rintro _ w ⟨m3, rfl, hH⟩ a hA)
    (refine st_op hA rfl rfl (by decide) (op_makeMapK hH) ?_; clear hA hH; rintro _ w ⟨m4, rfl, hH⟩ a hA)
    obtain ⟨ca, hca⟩ : ∃ y : Kk, y = { c with caps := x } := ⟨_, rfl⟩
    have hH5 := hH.rm 0 |>.rm 0 |>.rm 0 |>.rm 0
    clear hH
    dsimp only [List.eraseIdx_cons_succ, List.eraseIdx_cons_zero] at hH5
    have hH := hH5
    clear hH5
    rw [← hca] at hH
    obtain ⟨oP, nP, cP, g', oA', nA', cA', caps', e', n', j', o'⟩ := ca
    repeat' (first | (refine QT ?_; clear hA a; intro a hA) | (apply st_op0 hA rfl rfl; apply op_store_fld (cs' := encKk ⟨oP, nP, cP, g', oA', nA', cA', caps', some m1, n', j', o'⟩ p); rfl; rfl; rfl; exact hH; (repeat constructor); clear hH; rintro _ w hH) | (apply st_op0 hA rfl rfl; apply op_store_fld (cs' := encKk ⟨oP, nP, cP, g', oA', nA', cA', caps', some m1, some m2, j', o'⟩ p); rfl; rfl; rfl; exact hH; (repeat constructor); clear hH; rintro _ w hH) | (apply st_op0 hA rfl rfl; apply op_store_fld (cs' := encKk ⟨oP, nP, cP, g', oA', nA', cA', caps', some m1, some m2, some m3, o'⟩ p); rfl; rfl; rfl; exact hH; (repeat constructor); clear hH; rintro _ w hH) | (apply st_op0 hA rfl rfl; apply op_store_fld (cs' := encKk ⟨oP, nP, cP, g', oA', nA', cA', caps', some m1, some m2, some m3, some m4⟩ p); rfl; rfl; rfl; exact hH; (repeat constructor); clear hH; rintro _ w hH) | (refine CT ?_ <;> repeat' refine CT ?_) | fail)
    repeat' (first | ((first | apply st_ex hA hH rfl rfl (by decide) | apply dr_ex hA rfl rfl rfl (by decide) | apply dr_exp hA rfl rfl rfl (by decide) | apply dr_ex3 hA hH rfl rfl rfl (by decide)); (first | (apply ex_load_st (vs := encB o); rfl; rfl; exact cls_cb MEMT (sub_bd o x))); clear hA a; intro a hA) | (refine QT ?_; clear hA a; intro a hA) | fail)
    (refine st_op hA rfl rfl (by decide) (op_call rfl rfl rfl (body_spec w0 _ _ _ bK p o (hH.up 1 rfl) hr hp0 (by omega))) ?_; clear hA hH)
    rintro _ w ⟨rfl, hH⟩ a hA
    repeat' (first | (refine QT ?_; clear hA a; intro a hA) | (refine CT ?_ <;> repeat' refine CT ?_) | fail)
    exact ⟨i + 1, ⟨_, p + 2, ⟨hlt, by omega, by omega, caps_next hx hcap hxx⟩, hH.rm 1, (hA.sub (by (repeat (first | exact trivial | refine ⟨rfl, ?_⟩)); first | done | fail "sub"))⟩, by omega⟩
  clear hA hH
  rintro a w ⟨hcap, hH, hA⟩
  repeat' (first | (refine QT ?_; clear hA a; intro a hA) | (refine CT ?_ <;> repeat' refine CT ?_) | fail)
  exact rt1 (.inl rfl) rfl hA rfl ⟨_, rfl, iff_of_true rfl ⟨hcl2, hcl4, hc0, hp1, hp2, hp3, hx4, hss4, hcap⟩, hH.kp⟩
end Go.Proofs.YtenlcdokaadobaaGreatDoor
namespace Go.Proofs.YtenlcdokaadobaaGreatDoor
open Go Go.Fw
set_option linter.unusedVariables false
def evs (f : Gr) (n : Nat) : List Int := (f.bs.l.take n).flatMap bvs
theorem evs_next {f : Gr} {n : Nat} {bl : Blc} (h : f.bs.l[n]? = some bl) : evs f (n + 1) = evs f n ++ bvs bl := by
  unfold evs
  rw [take_snoc h, List.flatMap_append]
  simp
theorem evs_all (f : Gr) : evs f f.bs.l.length = f.bs.l.flatMap bvs := by unfold evs; rw [List.take_length]
theorem EvOk.pre {a b : List Int} (h : EvOk (a ++ b)) : EvOk a := ⟨(List.nodup_append.1 h.nd).1, fun x hx => h.rg x (List.mem_append_left _ hx)⟩
theorem evs_pre (f : Gr) (n : Nat) : ∃ t, f.bs.l.flatMap bvs = evs f n ++ t := ⟨(f.bs.l.drop n).flatMap bvs, by unfold evs; rw [← List.flatMap_append, List.take_append_drop]⟩
def blkS (f : Gr) (n : Nat) : Nat := ((f.bs.l.take n).map blkN).sum
theorem blkS_next {f : Gr} {n : Nat} {bl : Blc} (h : f.bs.l[n]? = some bl) : blkS f (n + 1) = blkS f n + blkN bl := by
  unfold blkS
  rw [take_snoc h, List.map_append, List.sum_append]
  simp
theorem blkS_le (f : Gr) (n : Nat) : blkS f n ≤ grN f := by
  unfold blkS grN
  rw [List.map_take]
  exact sum_take_le _ _
theorem blkS_all (f : Gr) : blkS f f.bs.l.length = grN f := by unfold blkS grN; rw [List.take_length]
def BSn (f : Gr) (n k : Nat) (x : Int) : Prop := 0 < k ∧ ∀ m, m < n → ∀ bl, f.bs.l[m]? = some bl → goes bl k → x ∈ bvs bl ∨ BS f m x
theorem BS_eq (f : Gr) (k : Nat) (x : Int) : BS f k x ↔ BSn f k k x := by
  rw [BS]
  exact Iff.rfl
theorem isA_set_ne {th : List (Option (Nat × List Int))} {n k : Nat} (h : k ≠ n) : (isA (th.set n none) k ↔ isA th k) ∧ setA (th.set n none) k = setA th k := by
  unfold isA setA
  rw [List.getElem?_set_ne (fun e => h e.symm)]
  exact ⟨Iff.rfl, rfl⟩
structure LInv (g : Grs) (f : Gr) (la : List Int) (p0 : Int) (n : Nat) (th : List (Option (Nat × List Int))) (p : Int) : Prop where
  len : th.length = f.bs.l.length
  ev : EvOk (evs f n)
  size : p = p0 + blkS f n
  top : p ≤ 65536
  blk : ∀ (m : Nat) (bl : Blc), f.bs.l[m]? = some bl → m < n → come f m ∧ BlkP g f la m bl (BS f m)
  is_ : ∀ k : Nat, n ≤ k → (isA th k ↔ k = 0 ∨ ∃ (m : Nat) (bl : Blc), m < n ∧ f.bs.l[m]? = some bl ∧ goes bl k)
  set_ : ∀ (k : Nat) (x : Int), n ≤ k → isA th k → (x ∈ setA th k ↔ BSn f n k x)
theorem LInv.come {g : Grs} {f : Gr} {la : List Int} {p0 p : Int} {n : Nat} {th : List (Option (Nat × List Int))} (h : LInv g f la p0 n th p) : isA th n ↔ come f n := h.is_ n (Nat.le_refl _)
theorem LInv.S {g : Grs} {f : Gr} {la : List Int} {p0 p : Int} {n : Nat} {th : List (Option (Nat × List Int))} (h : LInv g f la p0 n th p) (hi : isA th n) : Sk (setA th n) = BS f n := by
  funext x
  exact propext ((h.set_ n x (Nat.le_refl _) hi).trans (BS_eq f n x).symm)
theorem nowS_end {S : Int → Prop} {bl : Blc} {x : Int} : nowS S bl bl.is.l.length x ↔ x ∈ bvs bl ∨ S x := by
  unfold nowS bvs
  rw [List.take_length, List.mem_append]
  exact or_comm
theorem linv_next {g : Grs} {f : Gr} {la : List Int} {n : Nat} {th th' : List (Option (Nat × List Int))} {p0 p : Int} {bl : Blc} (h : LInv g f la p0 n th p) (hbl : f.bs.l[n]? = some bl) (hc : BlkC g f la n bl th (evs f n) p)
    (hth : ThR (th.set n none) (nowS (Sk (setA th n)) bl bl.is.l.length) bl.e.to.l th') : LInv g f la p0 (n + 1) th' (p + (blkN bl : Int)) := by
  have hS := h.S hc.come
  rw [hS] at hth
  have hsz := h.size
  refine ⟨by rw [hth.len, List.length_set]; exact h.len, by rw [evs_next hbl]; exact hc.ev, by rw [blkS_next hbl]; omega, hc.size, fun m b hm hlt => ?_, fun k hk => ?_, fun k x hk hi => ?_⟩
  · by_cases hmn : m = n
    · subst hmn
      rw [hbl] at hm
      cases hm
      exact ⟨h.come.1 hc.come, hS ▸ hc.blk⟩
    · exact h.blk m b hm (by omega)
  · have h3 := isA_set_ne (th := th) (n := n) (k := k) (by omega)
    constructor
    · intro hi
      rcases hth.from_ k hi with h1 | ⟨t, ht, h1⟩
      · rcases (h.is_ k (by omega)).1 (h3.1.1 h1) with h4 | ⟨m, b, h4, h5⟩
        · exact .inl h4
        · exact .inr ⟨m, b, by omega, h5⟩
      · exact .inr ⟨n, bl, by omega, hbl, t, ht, h1⟩
    · rintro (h1 | ⟨m, b, h1, h2, h4⟩)
      · omega
      · by_cases hmn : m = n
        · subst hmn
          rw [hbl] at h2
          cases h2
          obtain ⟨t, ht, h5⟩ := h4
          exact (hth.come t ht k h5).1
        · exact hth.keep k (h3.1.2 ((h.is_ k (by omega)).2 (.inr ⟨m, b, by omega, h2, h4⟩)))
  · have h3 := isA_set_ne (th := th) (n := n) (k := k) (by omega)
    constructor
    · intro hx
      refine ⟨by omega, fun m hm b hb hg => ?_⟩
      by_cases hmn : m = n
      · subst hmn
        rw [hbl] at hb
        cases hb
        obtain ⟨t, ht, h5⟩ := hg
        exact nowS_end.1 ((hth.come t ht k h5).2 x hx)
      · have hik : isA th k := (h.is_ k (by omega)).2 (.inr ⟨m, b, by omega, hb, hg⟩)
        have h4 := (hth.sub k x hx).1 (h3.1.2 hik)
        rw [h3.2] at h4
        exact ((h.set_ k x (by omega) hik).1 h4).2 m (by omega) b hb hg
    · rintro ⟨h1, h2⟩
      refine hth.all_ k x hi (fun hik => ?_) fun ⟨t, ht, h5⟩ => nowS_end.2 (h2 n (by omega) bl hbl ⟨t, ht, h5⟩)
      rw [h3.2]
      exact (h.set_ k x (by omega) (h3.1.1 hik)).2 ⟨h1, fun m hm b hb hg => h2 m (by omega) b hb hg⟩
theorem linv_end {g : Grs} {f : Gr} {la : List Int} {p0 p : Int} {th : List (Option (Nat × List Int))} (h : LInv g f la p0 f.bs.l.length th p) (hne : 0 < f.bs.l.length) : GrP g la f ∧ p = p0 + grN f :=
  ⟨⟨hne, fun n bl hb => h.blk n bl hb (List.getElem?_eq_some_iff.1 hb).1, evs_all f ▸ h.ev⟩, by rw [← blkS_all]; exact h.size⟩
theorem linv_no {g : Grs} {f : Gr} {la : List Int} {p0 p : Int} {n : Nat} {th : List (Option (Nat × List Int))} {bl : Blc} (h : LInv g f la p0 n th p) (hbl : f.bs.l[n]? = some bl) (hc : ¬ BlkC g f la n bl th (evs f n) p) : ¬ (GrP g la f ∧ p0 + grN f ≤ 65536) := by
  rintro ⟨hg, hp⟩
  have h1 := hg.blk n bl hbl
  have hi := h.come.2 h1.1
  refine hc ⟨hi, by rw [h.S hi]; exact h1.2, ?_, ?_⟩
  · obtain ⟨t, ht⟩ := evs_pre f (n + 1)
    have h2 := hg.ev
    rw [ht] at h2
    rw [← evs_next hbl]
    exact h2.pre
  · have h2 := blkS_next hbl
    have h3 := blkS_le f (n + 1)
    have h4 := h.size
    omega
theorem linv_0 (g : Grs) (f : Gr) (la : List Int) (b : Nat) (p : Int) (hp1 : p ≤ 65536) (hne : 0 < f.bs.l.length) : LInv g f la p 0 ((List.replicate f.bs.l.length (none : Option (Nat × List Int))).set 0 (some (b, []))) p := by
  have hl : 0 < (List.replicate f.bs.l.length (none : Option (Nat × List Int))).length := by rw [List.length_replicate]; exact hne
  have hg := setA_set hl (some (b, []))
  have hr : ∀ k : Nat, k ≠ 0 → (((List.replicate f.bs.l.length (none : Option (Nat × List Int))).set 0 (some (b, [])))[k]?).getD none = none := fun k hk => by
    rw [hg, if_neg hk, List.getElem?_replicate]
    split <;> rfl
  have hi : ∀ k : Nat, isA ((List.replicate f.bs.l.length (none : Option (Nat × List Int))).set 0 (some (b, []))) k ↔ k = 0 := fun k => by
    by_cases h0 : k = 0
    · subst h0
      unfold isA
      rw [hg, if_pos rfl]
      exact ⟨fun _ => rfl, fun _ => rfl⟩
    · unfold isA
      rw [hr k h0]
      exact ⟨fun h => (by cases h), fun h => absurd h h0⟩
  refine ⟨by rw [List.length_set, List.length_replicate], ⟨List.nodup_nil, fun x hx => absurd hx List.not_mem_nil⟩, ?_, hp1, fun m bl hm h => by omega, fun k hk => ?_, fun k x hk hik => ?_⟩
  · show p = p + ((0 : Nat) : Int)
    omega
  · rw [hi]
    exact ⟨.inl, fun h => h.elim id fun ⟨m, b, h1, _⟩ => by omega⟩
  · obtain rfl := (hi k).1 hik
    constructor
    · intro hx
      unfold setA at hx
      rw [hg, if_pos rfl] at hx
      exact absurd hx List.not_mem_nil
    · rintro ⟨h1, _⟩
      omega
def grS (g : Grs) (i : Nat) : Nat := ((g.fs.l.take i).map grN).sum
theorem grS_next {g : Grs} {i : Nat} {f : Gr} (h : g.fs.l[i]? = some f) : grS g (i + 1) = grS g i + grN f := by
  unfold grS
  rw [take_snoc h, List.map_append, List.sum_append]
  simp
theorem grS_le (g : Grs) (i : Nat) : grS g i ≤ grsN g := by
  unfold grS grsN
  rw [List.map_take]
  exact sum_take_le _ _
theorem grS_all (g : Grs) : grS g g.fs.l.length = grsN g := by unfold grS grsN; rw [List.take_length]
theorem may_no {g : Grs} (h : ¬ MayP g) : false = true ↔ MayP g := ⟨fun e => (by cases e), fun e => absurd e h⟩
theorem may_gr_no {g : Grs} {i : Nat} {f : Gr} {p : Int} (hf : g.fs.l[i]? = some f) (hp : p = grS g i) (h : ¬ (GrP g (g.fs.l.map Gr.caps) f ∧ p + grN f ≤ 65536)) : ¬ MayP g := fun hm => h ⟨hm.gr f (List.mem_of_getElem? hf), by
  have h1 := hm.size
  have h2 := grS_next hf
  have h3 := grS_le g (i + 1)
  omega⟩
end Go.Proofs.YtenlcdokaadobaaGreatDoor
