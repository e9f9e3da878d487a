/-
  ssa.May's check: meet. Conditions: none.
  ssa.May's check: a block. Conditions: none.
-/
import Derived.Test.YtjfanjcoppeeaaaRowUnlikeMg4
namespace Go.Fw
open Go Go.RowKit
set_option linter.unusedVariables false
section
variable {P : Program} {N : Nat} {l : List (Nat × Value)} {a : Act} {d : Option Tmp} {T : TypeId} {pos : String} {af : Array Edge} {g : Option (Nat × Bool)}
theorem op_delEl {t kt e b : Nat} {kk : IntKind} {x y : Operand} {u : TypeId} {el : List (Int × Nat)} {clock : Nat} {k : Int} {w0 w : World} {M : Nat → Prop} {H H' : List It} [ht : TMp P t kt e] [hk : TIn P kt kk]
    (hx : ev l x = some (.map (some b))) (hy : ev l y = some (.int .i64 k)) (hH : HS w0 M H w) (hok : ElK el clock) (hr : Rp H (mpK b el clock) (mpK b (el.filter fun e => !(e.1 == k)) clock) H') :
    Op1 P N l ⟨d, .call ⟨.builtin .delete, #[x, y], #[t, u]⟩, T, pos, af, g⟩ w (fun v w' => v = .tuple #[] ∧ HS w0 M H' w') := by
  intro a hA K Q hK
  obtain ⟨R, p, _⟩ := hr.split
  obtain ⟨F, h3, h4⟩ := hH.sat (p.symm.subset (List.mem_cons_self))
  have hfm : ((el.map mkK).filter fun e => !(e.1 == k)) = (el.filter fun e => !(e.1 == k)).map mkK := by
    rw [List.filter_map]
    rfl
  unfold Oper.wp
  simp only [execOp, resolve, invoke, builtin, List.map_toArray, List.map_cons, List.map_nil, hA.ev hx, hA.ev hy, Builtin.delete_, Sem.run_bind, Sem.run_pure, Result.andThen_ok, List.getElem?_toArray, List.getElem?_cons_zero, List.getElem?_cons_succ,
    run_underlying ht.eq, run_getObj_map h4, run_checkKey, run_findKey]
  cases hf : fnd k (el.map mkK) 0 with
  | some q =>
    obtain ⟨j, v0⟩ := q
    obtain ⟨_, born, hj⟩ := fnd_some k _ 0 j v0 hf
    simp only [Nat.sub_zero] at hj
    have hlt : j < (el.map mkK).length := (List.getElem?_eq_some_iff.1 hj).1
    have herase : ((el.map mkK).map mkE).toArray.eraseIdxIfInBounds j = (((el.filter fun e => !(e.1 == k)).map mkK).map mkE).toArray := by
      apply Array.ext'
      rw [← hfm, ← eraseIdx_fnd hok.es.keys hj]
      simp only [List.eraseIdxIfInBounds_toArray, eraseIdx_map']
    simp only [Sem.run_bind, run_setObj_map h4, Result.andThen_ok, herase, Sem.run_pure, Oper.upon]
    refine hK _ _ ⟨rfl, hH.turn hr fun F' hF' => ?_⟩
    obtain ⟨hF1, hF2⟩ := hF'
    exact ⟨setObj_kp ((hF1 b).2 rfl), F', ⟨hF1, setObj_at h4⟩, fun b hb => .inr hb⟩
  | none =>
    have hne := fnd_none k _ 0 hf
    have hself : (el.filter fun e => !(e.1 == k)) = el := by
      refine List.filter_eq_self.2 fun e he => ?_
      have := hne (mkK e) (List.mem_map.2 ⟨e, he, rfl⟩)
      simpa [mkK] using this
    rw [hself] at hr
    simp only [Sem.run_bind, run_setObj_map h4, Result.andThen_ok, Sem.run_pure, Oper.upon]
    refine hK _ _ ⟨rfl, hH.turn hr fun F' hF' => ?_⟩
    obtain ⟨hF1, hF2⟩ := hF'
    exact ⟨setObj_kp ((hF1 b).2 rfl), F', ⟨hF1, setObj_at h4⟩, fun b hb => .inr hb⟩
/-- a range over a set of which some are let go on the way: el0 as it was -/
theorem op_nextKd {r b clock : Nat} {el el0 done : List (Int × Nat)} {x : Operand} {w0 w : World} {M : Nat → Prop} {H : List It}
    (hx : ev l x = some (.pointer (some (bat r 0)))) (hH : HS w0 M H w) (hi : itr r b clock (done.map (·.2)) ∈ H) (hm : mpK b el clock ∈ H) (hok : ElK el clock) (hok0 : ElK el0 clock) (hs : ∀ e ∈ el, e ∈ el0) (hd : ∀ e ∈ done, e ∈ el0) :
    Op1 P N l ⟨d, .next x false, T, pos, af, g⟩ w (fun v w' =>
      ((∀ e ∈ el, e ∈ done) ∧ v = .tuple #[.bool false] ∧ HS w0 M H w') ∨
      (∃ e ∈ el, e ∉ done ∧ v = .tuple #[.bool true, .int .i64 e.1, .bool true] ∧ ∀ H', Rp H (itr r b clock (done.map (·.2))) (itr r b clock ((done ++ [e]).map (·.2))) H' → HS w0 M H' w')) := by
  intro a hA K Q hK
  have hinj : ∀ e ∈ el0, ∀ e' ∈ el0, e.2 = e'.2 → e = e' := fun e he e' he' h2 => by
    have hn := hok0.borns
    clear hm hd hi hH hK hs hok
    induction el0 with
    | nil => cases he
    | cons x el ih =>
      rw [List.map_cons, List.nodup_cons] at hn
      rcases List.mem_cons.1 he with rfl | h5 <;> rcases List.mem_cons.1 he' with rfl | h6
      · rfl
      · exact absurd (List.mem_map.2 ⟨e', h6, h2.symm⟩ : e.2 ∈ el.map (·.2)) hn.1
      · exact absurd (List.mem_map.2 ⟨e, h5, h2⟩ : e'.2 ∈ el.map (·.2)) hn.1
      · exact ih ⟨(List.nodup_cons.1 hok0.keys).2, hn.2, fun e he => hok0.lt e (.tail _ he)⟩ h5 h6 hn.2
  refine op_next hx hH hi hm hok.es a hA K Q fun v w' h => hK v w' ?_
  rcases h with ⟨h1, h2, h3⟩ | ⟨e, he, h1, h2, h3⟩
  · refine .inl ⟨fun e he => ?_, h2, h3⟩
    obtain ⟨e', he', h4⟩ := List.mem_map.1 (h1 (mkK e) (List.mem_map.2 ⟨e, he, rfl⟩))
    exact hinj e' (hd e' he') e (hs e he) h4 ▸ he'
  · obtain ⟨e', he', rfl⟩ := List.mem_map.1 he
    refine .inr ⟨e', he', fun h4 => h1 (List.mem_map.2 ⟨e', h4, rfl⟩), h2, fun H' hr => h3 H' ?_⟩
    rw [List.map_append] at hr
    exact hr
end
end Go.Fw
namespace Go.Proofs.Ytjfanjcoppeeaaa
open Go Go.Fw
set_option linter.unusedVariables false
theorem flat_set_ids (tc : List (Option (Nat × List Int))) (t b : Nat) (k1 k2 : List Int) : flat encO (tc.set t (some (b, k1))) = flat encO (tc.set t (some (b, k2))) := by
  unfold Fw.flat
  rw [List.flatMap_def, List.flatMap_def, List.map_set, List.map_set]
  rfl
/-- those that are left on the way -/
def elL (el0 dn : List (Int × Nat)) (ks : List Int) (el : List (Int × Nat)) : Prop := ∀ e, e ∈ el ↔ e ∈ el0 ∧ (e ∉ dn ∨ e.1 ∈ ks)
theorem elL_keep {el0 dn el : List (Int × Nat)} {ks : List Int} (h : elL el0 dn ks el) {e : Int × Nat} (he : e.1 ∈ ks) : elL el0 (dn ++ [e]) ks el := by
  intro e'
  rw [h, List.mem_append, List.mem_singleton, not_or]
  refine and_congr_right fun _ => ⟨?_, ?_⟩
  · rintro (h1 | h1)
    · by_cases h2 : e' = e
      · exact .inr (h2 ▸ he)
      · exact .inl ⟨h1, h2⟩
    · exact .inr h1
  · rintro (h1 | h1)
    · exact .inl h1.1
    · exact .inr h1
theorem elL_del {el0 dn el : List (Int × Nat)} {ks : List Int} (h : elL el0 dn ks el) (hk : (el0.map (·.1)).Nodup) {e : Int × Nat} (h0 : e ∈ el0) (he : e.1 ∉ ks) : elL el0 (dn ++ [e]) ks (el.filter fun x => !(x.1 == e.1)) := by
  intro e'
  rw [List.mem_filter, h, List.mem_append, List.mem_singleton, not_or]
  have hb : ((!(e'.1 == e.1)) = true) ↔ e'.1 ≠ e.1 := by simp
  rw [hb]
  constructor
  · rintro ⟨⟨h1, h2⟩, h3⟩
    refine ⟨h1, h2.imp (fun h4 => ⟨h4, fun h5 => h3 (h5 ▸ rfl)⟩) id⟩
  · rintro ⟨h1, h2⟩
    refine ⟨⟨h1, h2.imp And.left id⟩, fun h3 => ?_⟩
    have := fst_inj hk e' h1 e h0 h3
    rcases h2 with h2 | h2
    · exact h2.2 this
    · exact he (this ▸ h2)
theorem elL_ok {el0 dn el : List (Int × Nat)} {ks : List Int} {clock : Nat} (h : elL el0 dn ks el) (hok0 : ElK el0 clock) (hok : ElK el clock) (k : Int) : ElK (el.filter fun x => !(x.1 == k)) clock :=
  ⟨List.Nodup.sublist (List.filter_sublist.map _) hok.keys, List.Nodup.sublist (List.filter_sublist.map _) hok.borns, fun e he => hok.lt e (List.mem_filter.1 he).1⟩
theorem elL_all {el0 dn el : List (Int × Nat)} {ks k0 : List Int} (h : elL el0 dn ks el) (hel : el0.map (·.1) = k0) (hall : ∀ e ∈ el, e ∈ dn) (x : Int) : x ∈ el.map (·.1) ↔ x ∈ ks ∧ x ∈ k0 := by
  rw [← hel, List.mem_map, List.mem_map]
  constructor
  · rintro ⟨e, he, rfl⟩
    have h1 := (h e).1 he
    exact ⟨h1.2.resolve_left fun h2 => h2 (hall e he), e, h1.1, rfl⟩
  · rintro ⟨h1, e, he, rfl⟩
    exact ⟨e, (h e).2 ⟨he, .inr h1⟩, rfl⟩
theorem elL_0 (el0 : List (Int × Nat)) (ks : List Int) : elL el0 [] ks el0 := fun e => ⟨fun h => ⟨h, .inl List.not_mem_nil⟩, And.left⟩
theorem flat_set_at (tc : List (Option (Nat × List Int))) {t b : Nat} {k1 : List Int} (h : t < tc.length) : (flat encO (tc.set t (some (b, k1))))[t * 1]? = some (.map (some b)) :=
  flat_get (off := 0) encO_len (List.getElem?_set_self h) rfl
theorem flat_set_same {tc : List (Option (Nat × List Int))} {t b : Nat} {k1 : List Int} (ht : t < tc.length) (h : (flat encO tc)[t * 1]? = some (.map (some b))) : flat encO (tc.set t (some (b, k1))) = flat encO tc := by
  have h1 : tc[t]? = some tc[t] := List.getElem?_eq_getElem ht
  have h2 : (flat encO tc)[t * 1]? = some (mvO tc[t]) := flat_get (off := 0) encO_len h1 (by rw [encO_eq]; rfl)
  rw [h] at h2
  have h3 : encO (some (b, k1)) = encO tc[t] := by
    rw [encO_eq, encO_eq, ← Option.some.inj h2]
    rfl
  unfold Fw.flat
  rw [List.flatMap_def, List.flatMap_def, List.map_set, h3]
  congr 1
  exact set_same (by rw [List.getElem?_map, h1]; rfl)
theorem mvO_n : mvO none = .map none := rfl
theorem mvO_s (b : Nat) (ks : List Int) : mvO (some (b, ks)) = .map (some b) := rfl
theorem sko_s (b : Nat) (ks : List Int) : sko (some (b, ks)) = sk b ks := rfl
theorem sko_sets (bs : List (Option (Nat × List Int))) (j b : Nat) (ks : List Int) : (bs.map sko).set j (sk b ks) = (bs.set j (some (b, ks))).map sko := by rw [List.map_set]; rfl
theorem mset_a {k1 k2 ks : List Int} (h : ∀ x, x ∈ k1 ↔ x ∈ ks) (x : Int) : x ∈ k1 ↔ x ∈ ks ∧ ((none : Option (Nat × List Int)) = none ∨ x ∈ k2) := by
  rw [h]
  exact ⟨fun h => ⟨h, .inl rfl⟩, And.left⟩
set_option maxRecDepth 10000 attribute [local irreducible] Code.wp wpList Calls Ex Op1 sat bat blk cb own Go.Fw.mp Go.Fw.mpO Go.Fw.mpI Go.Fw.mpE Go.Fw.itr HS Rd Ret wkD Hp Cl Cls Exit.then Exit.inBlock Exit.noGoto bodyPost Go.Fw.flat wk2 Go.Fw.all Go.Fw.owns wpOp
attribute [local irreducible] sk mpK srt sko mvO entK

set_option maxHeartbeats 4000000 in
theorem meet_spec (w0 w : World) (H : List It) (c : Ck) (bC bW t : Nat) (p : Int) (ks : List Int) (tc th : List (Option (Nat × List Int))) (st : Option (Nat × List Int))
    (hH : HS w0 noM (cb bC 95 (encC c p) :: own 71 1 c.oT c.nT c.cT (flat encO (tc)) :: all (th.map sko) :: sk bW ks :: H) w) (hn : c.nT = th.length) (hn2 : tc.length = th.length) (ht : t < th.length) (hst : th[t]? = some st) (hc : (flat encO tc)[t * 1]? = some (mvO st)) :
    Ret Try.prog 51 #[.pointer (some (bat bC 0)), .int .i64 t, .map (some bW)] w (fun v w' => ∃ b' ks', (∀ x, x ∈ ks' ↔ x ∈ ks ∧ (st = none ∨ x ∈ kso st)) ∧
      HS w0 noM (cb bC 95 (encC c p) :: own 71 1 c.oT c.nT c.cT (flat encO (tc.set t (some (b', ks')))) :: all ((th.set t (some (b', ks'))).map sko) :: sk bW ks :: H) w') := by
  have hspT : Sp c.oT c.nT := hH.own_sp (T := 71) (.tail _ (.head _))
  have htm : t < (th.map sko).length := by rw [List.length_map]; exact ht
  have hsm : (th.map sko)[t]? = some (sko st) := by rw [List.getElem?_map, hst]; rfl
  have hH1 := (hH.up 2 rfl).openAt hsm
  clear hH
  dsimp only [List.eraseIdx_cons_succ, List.eraseIdx_cons_zero] at hH1
  rcases st with _ | ⟨b0, k0⟩
  · rw [mvO_n] at hc
    have hH := hH1.tail
    clear hH1
    (refine enter (N := 61) Try.func51 rfl Try.ntmps51 rfl ?_; intro a hA; dsimp only [sl0, Nat.reduceAdd] at hA)
    repeat' (first | (first | (refine GT ?_ ?_ <;> intro hg <;> clear hA a <;> intro a hA <;> (first | exact FA | replace hg := of_decide_eq_true hg | replace hg := of_decide_eq_false hg | skip)) | ((first | apply st_ex hA hH rfl rfl (by decide) | apply dr_ex hA rfl rfl rfl (by decide) | apply dr_exp hA rfl rfl rfl (by decide) | apply dr_ex3 hA hH rfl rfl rfl (by decide)); (first | (apply ex_eqlMapT; rfl; rfl) | (apply ex_indexAddr_nat; rfl; rfl; omega; exact hspT) | (apply ex_load; rfl; apply cl_own (T := 71); exact MEMT; exact hc)); clear hA a; intro a hA) | (refine QT ?_; clear hA a; intro a hA) | (first | (refine BT ?_; clear hA hH; rintro _ w ⟨bN, rfl, hH⟩ a hA) | (refine LT ?_; clear hA hH; rintro _ w ⟨oN, rfl, hH⟩ a hA) | (refine AT ?_; clear hA; rintro _ w ⟨oN, cN, rfl, hH2⟩ a hA; clear hH; have hH := (hH2 _ (by (repeat constructor))).tail; clear hH2) | (refine S0T ?_; clear hH; rintro _ w hH) )) | ((first | refine CT ?_ | (refine DT ?_ ?_ <;> intro hc <;> try (exfalso; omega))) <;> repeat' refine CT ?_) | (first | (refine DSK ?_; clear hA a; intro a hA) | (first | (refine DLT ?_; clear hA hH; rintro _ w ⟨oN, rfl, hH⟩; refine ⟨STT, ?_⟩; intro a hA) | (refine DAT ?_; clear hA; rintro _ w ⟨oN, cN, rfl, hH2⟩; clear hH; have hH := (hH2 _ (by (repeat constructor))).tail; clear hH2; refine ⟨STT, ?_⟩; intro a hA))) )
    (refine st_op hA rfl rfl (by decide) (op_makeMapK hH) ?_; clear hA hH; rintro _ w ⟨b', rfl, hH⟩ a hA)
    have htb : t * 1 < tc.length := by omega
    repeat' (first | (first | (refine GT ?_ ?_ <;> intro hg <;> clear hA a <;> intro a hA <;> (first | exact FA | replace hg := of_decide_eq_true hg | replace hg := of_decide_eq_false hg | skip)) | ((first | apply st_ex hA hH rfl rfl (by decide) | apply dr_ex hA rfl rfl rfl (by decide) | apply dr_exp hA rfl rfl rfl (by decide) | apply dr_ex3 hA hH rfl rfl rfl (by decide)); (first | (apply ex_indexAddr_nat; rfl; rfl; omega; exact hspT)); clear hA a; intro a hA) | (refine QT ?_; clear hA a; intro a hA) | (first | (refine BT ?_; clear hA hH; rintro _ w ⟨bN, rfl, hH⟩ a hA) | (refine LT ?_; clear hA hH; rintro _ w ⟨oN, rfl, hH⟩ a hA) | (refine AT ?_; clear hA; rintro _ w ⟨oN, cN, rfl, hH2⟩ a hA; clear hH; have hH := (hH2 _ (by (repeat constructor))).tail; clear hH2) | (refine S0T ?_; clear hH; rintro _ w hH) | (apply st_op0 hA rfl rfl; apply op_set1 (enc := encO) (y0 := some (b', [])); rfl; rfl; rfl; rfl; exact encO_len; exact hH; (repeat constructor); exact htb; clear hH; rintro _ w hH))) | ((first | refine CT ?_ | (refine DT ?_ ?_ <;> intro hc <;> try (exfalso; omega))) <;> repeat' refine CT ?_) | (first | (refine DSK ?_; clear hA a; intro a hA) | (first | (refine DLT ?_; clear hA hH; rintro _ w ⟨oN, rfl, hH⟩; refine ⟨STT, ?_⟩; intro a hA) | (refine DAT ?_; clear hA; rintro _ w ⟨oN, cN, rfl, hH2⟩; clear hH; have hH := (hH2 _ (by (repeat constructor))).tail; clear hH2; refine ⟨STT, ?_⟩; intro a hA))) )
    rw [Nat.mul_one] at hH
    have hv := flat_set_at tc (b := b') (k1 := []) (show t < tc.length by omega)
    have hsk : sk bW ks ∈ sk b' [] :: all ((th.map sko).eraseIdx t) :: cb bC 95 (encC c p) :: own 71 1 c.oT c.nT c.cT (flat encO (tc.set t (some (b', [])))) :: sk bW ks :: H := by exact MEMT
    obtain ⟨el, clock, hel, hok, hop⟩ := hH.openK hsk
    replace hH := hop _ (by (repeat constructor))
    clear hop hsk
    (refine st_op hA rfl rfl (by decide) (op_rangeK rfl hH (by exact MEMT)) ?_; clear hA hH; rintro _ w ⟨r, rfl, hH⟩ a hA)
    repeat' (first | (first | (refine GT ?_ ?_ <;> intro hg <;> clear hA a <;> intro a hA <;> (first | exact FA | replace hg := of_decide_eq_true hg | replace hg := of_decide_eq_false hg | skip)) | (refine QT ?_; clear hA a; intro a hA) | (first | (refine BT ?_; clear hA hH; rintro _ w ⟨bN, rfl, hH⟩ a hA) | (refine LT ?_; clear hA hH; rintro _ w ⟨oN, rfl, hH⟩ a hA) | (refine AT ?_; clear hA; rintro _ w ⟨oN, cN, rfl, hH2⟩ a hA; clear hH; have hH := (hH2 _ (by (repeat constructor))).tail; clear hH2) | (refine S0T ?_; clear hH; rintro _ w hH) )) | ((first | refine CT ?_ | (refine DT ?_ ?_ <;> intro hc <;> try (exfalso; omega))) <;> repeat' refine CT ?_) | (first | (refine DSK ?_; clear hA a; intro a hA) | (first | (refine DLT ?_; clear hA hH; rintro _ w ⟨oN, rfl, hH⟩; refine ⟨STT, ?_⟩; intro a hA) | (refine DAT ?_; clear hA; rintro _ w ⟨oN, cN, rfl, hH2⟩; clear hH; have hH := (hH2 _ (by (repeat constructor))).tail; clear hH2; refine ⟨STT, ?_⟩; intro a hA))) )
    refine wp_lpk (S := List (Int × Nat)) (fun dn a w => ∃ ks', (dn.Nodup ∧ (∀ e ∈ dn, e ∈ el) ∧ ∀ x, x ∈ ks' ↔ x ∈ dn.map (·.1)) ∧ HS w0 noM (sk b' ks' :: itr r bW clock (dn.map (·.2)) :: mpK bW el clock :: cb bC 95 (encC c p) :: own 71 1 c.oT c.nT c.cT (flat encO (tc.set t (some (b', [])))) :: all ((th.map sko).eraseIdx t) :: H) w ∧
        Sl 61 [(24, .pointer (some (bat r 0))), (0, .pointer (some (bat bC 0))), (1, .int .i64 t)] a) (fun dn => el.length - dn.length)
      (fun a w => ∃ ks', (∀ x, x ∈ ks' ↔ x ∈ ks) ∧ HS w0 noM (sk b' ks' :: sk bW ks :: cb bC 95 (encC c p) :: own 71 1 c.oT c.nT c.cT (flat encO (tc.set t (some (b', [])))) :: all ((th.map sko).eraseIdx t) :: H) w ∧ Sl 61 [] a) [] ⟨[], ⟨List.nodup_nil, fun e he => absurd he List.not_mem_nil, fun x => Iff.rfl⟩, hH.perm (by (repeat (first | exact List.Perm.refl _ | exact List.Perm.nil | refine perm_pick 0 rfl ?_ | refine perm_pick 1 rfl ?_ | refine perm_pick 2 rfl ?_ | refine perm_pick 3 rfl ?_ | refine perm_pick 4 rfl ?_ | refine perm_pick 5 rfl ?_ | refine perm_pick 6 rfl ?_ | refine perm_pick 7 rfl ?_ | refine perm_pick 8 rfl ?_ | refine perm_pick 9 rfl ?_ | refine perm_pick 10 rfl ?_ | refine perm_pick 11 rfl ?_))), (hA.sub (by (repeat (first | exact trivial | refine ⟨rfl, ?_⟩))))⟩ ?_ ?_
    · clear hA hH
      rintro dn a w ⟨ks', ⟨hdn, hd, hks⟩, hH, hA⟩
      repeat' (first | (first | (refine GT ?_ ?_ <;> intro hg <;> clear hA a <;> intro a hA <;> (first | exact FA | replace hg := of_decide_eq_true hg | replace hg := of_decide_eq_false hg | skip)) | (refine QT ?_; clear hA a; intro a hA) | (first | (refine BT ?_; clear hA hH; rintro _ w ⟨bN, rfl, hH⟩ a hA) | (refine LT ?_; clear hA hH; rintro _ w ⟨oN, rfl, hH⟩ a hA) | (refine AT ?_; clear hA; rintro _ w ⟨oN, cN, rfl, hH2⟩ a hA; clear hH; have hH := (hH2 _ (by (repeat constructor))).tail; clear hH2) | (refine S0T ?_; clear hH; rintro _ w hH) )) | ((first | refine CT ?_ | (refine DT ?_ ?_ <;> intro hc <;> try (exfalso; omega))) <;> repeat' refine CT ?_) | (first | (refine DSK ?_; clear hA a; intro a hA) | (first | (refine DLT ?_; clear hA hH; rintro _ w ⟨oN, rfl, hH⟩; refine ⟨STT, ?_⟩; intro a hA) | (refine DAT ?_; clear hA; rintro _ w ⟨oN, cN, rfl, hH2⟩; clear hH; have hH := (hH2 _ (by (repeat constructor))).tail; clear hH2; refine ⟨STT, ?_⟩; intro a hA))) )
      refine st_op hA rfl rfl (by decide) (op_nextK rfl hH (by exact MEMT) (by exact MEMT) hok hd) ?_
      clear hA
      rintro _ w2 (⟨hall, rfl, hH⟩ | ⟨e, he, hs, rfl, hup⟩) a hA
      · repeat' (first | (first | (refine GT ?_ ?_ <;> intro hg <;> clear hA a <;> intro a hA <;> (first | exact FA | replace hg := of_decide_eq_true hg | replace hg := of_decide_eq_false hg | skip)) | (refine QT ?_; clear hA a; intro a hA) | (first | (refine BT ?_; clear hA hH; rintro _ w ⟨bN, rfl, hH⟩ a hA) | (refine LT ?_; clear hA hH; rintro _ w ⟨oN, rfl, hH⟩ a hA) | (refine AT ?_; clear hA; rintro _ w ⟨oN, cN, rfl, hH2⟩ a hA; clear hH; have hH := (hH2 _ (by (repeat constructor))).tail; clear hH2) | (refine S0T ?_; clear hH; rintro _ w hH) )) | ((first | refine CT ?_ | (refine DT ?_ ?_ <;> intro hc <;> try (exfalso; omega))) <;> repeat' refine CT ?_) | (first | (refine DSK ?_; clear hA a; intro a hA) | (first | (refine DLT ?_; clear hA hH; rintro _ w ⟨oN, rfl, hH⟩; refine ⟨STT, ?_⟩; intro a hA) | (refine DAT ?_; clear hA; rintro _ w ⟨oN, cN, rfl, hH2⟩; clear hH; have hH := (hH2 _ (by (repeat constructor))).tail; clear hH2; refine ⟨STT, ?_⟩; intro a hA))) )
        replace hH := hH.shutK (b := bW) hok (by (repeat constructor))
        rw [hel] at hH
        exact ⟨ks', fun x => (hks x).trans (dn_mem hel hd hall x), hH.rm 1, (hA.sub (by (repeat (first | exact trivial | refine ⟨rfl, ?_⟩))))⟩
      · have hlt := done_lt hdn hd he hs
        clear hH
        have hH := hup _ (by (repeat constructor))
        clear hup
        have ha := dn_add (ks := []) (ks' := ks') hdn hd he hs (fun x => by rw [hks]; simp)
        repeat' (first | (first | (refine GT ?_ ?_ <;> intro hg <;> clear hA a <;> intro a hA <;> (first | exact FA | replace hg := of_decide_eq_true hg | replace hg := of_decide_eq_false hg | skip)) | ((first | apply st_ex hA hH rfl rfl (by decide) | apply dr_ex hA rfl rfl rfl (by decide) | apply dr_exp hA rfl rfl rfl (by decide) | apply dr_ex3 hA hH rfl rfl rfl (by decide)); (first | (apply ex_entryK; rfl; exact MEMT; exact MEMT; exact hok; exact he) | (apply ex_indexAddr_nat; rfl; rfl; omega; exact hspT) | (apply ex_load; rfl; apply cl_own (T := 71); exact MEMT; exact hv)); clear hA a; intro a hA) | (refine QT ?_; clear hA a; intro a hA) | (first | (refine BT ?_; clear hA hH; rintro _ w ⟨bN, rfl, hH⟩ a hA) | (refine LT ?_; clear hA hH; rintro _ w ⟨oN, rfl, hH⟩ a hA) | (refine AT ?_; clear hA; rintro _ w ⟨oN, cN, rfl, hH2⟩ a hA; clear hH; have hH := (hH2 _ (by (repeat constructor))).tail; clear hH2) | (refine S0T ?_; clear hH; rintro _ w hH) | (apply st_op0 hA rfl rfl; apply op_addK; rfl; rfl; rfl; exact hH; (repeat constructor); clear hH; rintro _ w hH))) | ((first | refine CT ?_ | (refine DT ?_ ?_ <;> intro hc <;> try (exfalso; omega))) <;> repeat' refine CT ?_) | (first | (refine DSK ?_; clear hA a; intro a hA) | (first | (refine DLT ?_; clear hA hH; rintro _ w ⟨oN, rfl, hH⟩; refine ⟨STT, ?_⟩; intro a hA) | (refine DAT ?_; clear hA; rintro _ w ⟨oN, cN, rfl, hH2⟩; clear hH; have hH := (hH2 _ (by (repeat constructor))).tail; clear hH2; refine ⟨STT, ?_⟩; intro a hA))) )
        have hl : (dn ++ [e]).length = dn.length + 1 := by rw [List.length_append]; rfl
        exact ⟨dn ++ [e], ⟨_, ⟨ha.1, ha.2.1, fun x => by rw [ha.2.2]; simp⟩, hH, (hA.sub (by (repeat (first | exact trivial | refine ⟨rfl, ?_⟩))))⟩, by omega⟩
    clear hA hH
    rintro a w ⟨ks', hks, hH, hA⟩
    repeat' (first | (first | (refine GT ?_ ?_ <;> intro hg <;> clear hA a <;> intro a hA <;> (first | exact FA | replace hg := of_decide_eq_true hg | replace hg := of_decide_eq_false hg | skip)) | (refine QT ?_; clear hA a; intro a hA) | (first | (refine BT ?_; clear hA hH; rintro _ w ⟨bN, rfl, hH⟩ a hA) | (refine LT ?_; clear hA hH; rintro _ w ⟨oN, rfl, hH⟩ a hA) | (refine AT ?_; clear hA; rintro _ w ⟨oN, cN, rfl, hH2⟩ a hA; clear hH; have hH := (hH2 _ (by (repeat constructor))).tail; clear hH2) | (refine S0T ?_; clear hH; rintro _ w hH) )) | ((first | refine CT ?_ | (refine DT ?_ ?_ <;> intro hc <;> try (exfalso; omega))) <;> repeat' refine CT ?_) | (first | (refine DSK ?_; clear hA a; intro a hA) | (first | (refine DLT ?_; clear hA hH; rintro _ w ⟨oN, rfl, hH⟩; refine ⟨STT, ?_⟩; intro a hA) | (refine DAT ?_; clear hA; rintro _ w ⟨oN, cN, rfl, hH2⟩; clear hH; have hH := (hH2 _ (by (repeat constructor))).tail; clear hH2; refine ⟨STT, ?_⟩; intro a hA))) )
    refine rt0 (.inl rfl) rfl hA ⟨b', ks', mset_a hks, ?_⟩
    rw [flat_set_ids tc t b' ks' []]
    have hH2 := (hH.perm (H' := sk b' ks' :: all ((th.map sko).eraseIdx t) :: cb bC 95 (encC c p) :: own 71 1 c.oT c.nT c.cT (flat encO (tc.set t (some (b', [])))) :: sk bW ks :: H) (by (repeat (first | exact List.Perm.refl _ | exact List.Perm.nil | refine perm_pick 0 rfl ?_ | refine perm_pick 1 rfl ?_ | refine perm_pick 2 rfl ?_ | refine perm_pick 3 rfl ?_ | refine perm_pick 4 rfl ?_ | refine perm_pick 5 rfl ?_ | refine perm_pick 6 rfl ?_ | refine perm_pick 7 rfl ?_ | refine perm_pick 8 rfl ?_ | refine perm_pick 9 rfl ?_ | refine perm_pick 10 rfl ?_ | refine perm_pick 11 rfl ?_)))).shutAt htm
    rw [sko_sets] at hH2
    exact hH2.perm (by (repeat (first | exact List.Perm.refl _ | exact List.Perm.nil | refine perm_pick 0 rfl ?_ | refine perm_pick 1 rfl ?_ | refine perm_pick 2 rfl ?_ | refine perm_pick 3 rfl ?_ | refine perm_pick 4 rfl ?_ | refine perm_pick 5 rfl ?_ | refine perm_pick 6 rfl ?_ | refine perm_pick 7 rfl ?_ | refine perm_pick 8 rfl ?_ | refine perm_pick 9 rfl ?_ | refine perm_pick 10 rfl ?_ | refine perm_pick 11 rfl ?_)))
  · rw [mvO_s] at hc
    rw [sko_s] at hH1
    have hH := hH1
    clear hH1
    have hfs := fun k1 => flat_set_same (k1 := k1) (show t < tc.length by omega) hc
    (refine enter (N := 61) Try.func51 rfl Try.ntmps51 rfl ?_; intro a hA; dsimp only [sl0, Nat.reduceAdd] at hA)
    repeat' (first | (first | (refine GT ?_ ?_ <;> intro hg <;> clear hA a <;> intro a hA <;> (first | exact FA | replace hg := of_decide_eq_true hg | replace hg := of_decide_eq_false hg | skip)) | ((first | apply st_ex hA hH rfl rfl (by decide) | apply dr_ex hA rfl rfl rfl (by decide) | apply dr_exp hA rfl rfl rfl (by decide) | apply dr_ex3 hA hH rfl rfl rfl (by decide)); (first | (apply ex_eqlMapF; rfl; rfl) | (apply ex_indexAddr_nat; rfl; rfl; omega; exact hspT) | (apply ex_load; rfl; apply cl_own (T := 71); exact MEMT; exact hc)); clear hA a; intro a hA) | (refine QT ?_; clear hA a; intro a hA) | (first | (refine BT ?_; clear hA hH; rintro _ w ⟨bN, rfl, hH⟩ a hA) | (refine LT ?_; clear hA hH; rintro _ w ⟨oN, rfl, hH⟩ a hA) | (refine AT ?_; clear hA; rintro _ w ⟨oN, cN, rfl, hH2⟩ a hA; clear hH; have hH := (hH2 _ (by (repeat constructor))).tail; clear hH2) | (refine S0T ?_; clear hH; rintro _ w hH) )) | ((first | refine CT ?_ | (refine DT ?_ ?_ <;> intro hc <;> try (exfalso; omega))) <;> repeat' refine CT ?_) | (first | (refine DSK ?_; clear hA a; intro a hA) | (first | (refine DLT ?_; clear hA hH; rintro _ w ⟨oN, rfl, hH⟩; refine ⟨STT, ?_⟩; intro a hA) | (refine DAT ?_; clear hA; rintro _ w ⟨oN, cN, rfl, hH2⟩; clear hH; have hH := (hH2 _ (by (repeat constructor))).tail; clear hH2; refine ⟨STT, ?_⟩; intro a hA))) )
    obtain ⟨el0, clock, hel, hok0, hop⟩ := hH.openK (b := b0) (ks := k0) (.head _)
    replace hH := hop _ (by (repeat constructor))
    clear hop
    (refine st_op hA rfl rfl (by decide) (op_rangeK rfl hH (by exact MEMT)) ?_; clear hA hH; rintro _ w ⟨r, rfl, hH⟩ a hA)
    repeat' (first | (first | (refine GT ?_ ?_ <;> intro hg <;> clear hA a <;> intro a hA <;> (first | exact FA | replace hg := of_decide_eq_true hg | replace hg := of_decide_eq_false hg | skip)) | (refine QT ?_; clear hA a; intro a hA) | (first | (refine BT ?_; clear hA hH; rintro _ w ⟨bN, rfl, hH⟩ a hA) | (refine LT ?_; clear hA hH; rintro _ w ⟨oN, rfl, hH⟩ a hA) | (refine AT ?_; clear hA; rintro _ w ⟨oN, cN, rfl, hH2⟩ a hA; clear hH; have hH := (hH2 _ (by (repeat constructor))).tail; clear hH2) | (refine S0T ?_; clear hH; rintro _ w hH) )) | ((first | refine CT ?_ | (refine DT ?_ ?_ <;> intro hc <;> try (exfalso; omega))) <;> repeat' refine CT ?_) | (first | (refine DSK ?_; clear hA a; intro a hA) | (first | (refine DLT ?_; clear hA hH; rintro _ w ⟨oN, rfl, hH⟩; refine ⟨STT, ?_⟩; intro a hA) | (refine DAT ?_; clear hA; rintro _ w ⟨oN, cN, rfl, hH2⟩; clear hH; have hH := (hH2 _ (by (repeat constructor))).tail; clear hH2; refine ⟨STT, ?_⟩; intro a hA))) )
    refine wp_lpk (S := List (Int × Nat)) (fun dn a w => ∃ el, (dn.Nodup ∧ (∀ e ∈ dn, e ∈ el0) ∧ elL el0 dn ks el ∧ ElK el clock) ∧ HS w0 noM (mpK b0 el clock :: itr r b0 clock (dn.map (·.2)) :: sk bW ks :: cb bC 95 (encC c p) :: own 71 1 c.oT c.nT c.cT (flat encO (tc)) :: all ((th.map sko).eraseIdx t) :: H) w ∧
        Sl 61 [(44, .pointer (some (bat r 0))), (0, .pointer (some (bat bC 0))), (1, .int .i64 t), (2, .map (some bW))] a) (fun dn => el0.length - dn.length)
      (fun a w => ∃ ks', (∀ x, x ∈ ks' ↔ x ∈ ks ∧ x ∈ k0) ∧ HS w0 noM (sk b0 ks' :: sk bW ks :: cb bC 95 (encC c p) :: own 71 1 c.oT c.nT c.cT (flat encO (tc)) :: all ((th.map sko).eraseIdx t) :: H) w ∧ Sl 61 [] a) [] ⟨el0, ⟨List.nodup_nil, fun e he => absurd he List.not_mem_nil, elL_0 _ _, hok0⟩, hH.perm (by (repeat (first | exact List.Perm.refl _ | exact List.Perm.nil | refine perm_pick 0 rfl ?_ | refine perm_pick 1 rfl ?_ | refine perm_pick 2 rfl ?_ | refine perm_pick 3 rfl ?_ | refine perm_pick 4 rfl ?_ | refine perm_pick 5 rfl ?_ | refine perm_pick 6 rfl ?_ | refine perm_pick 7 rfl ?_ | refine perm_pick 8 rfl ?_ | refine perm_pick 9 rfl ?_ | refine perm_pick 10 rfl ?_ | refine perm_pick 11 rfl ?_))), (hA.sub (by (repeat (first | exact trivial | refine ⟨rfl, ?_⟩))))⟩ ?_ ?_
    · clear hA hH
      rintro dn a w ⟨el, ⟨hdn, hd, hll, hok⟩, hH, hA⟩
      repeat' (first | (first | (refine GT ?_ ?_ <;> intro hg <;> clear hA a <;> intro a hA <;> (first | exact FA | replace hg := of_decide_eq_true hg | replace hg := of_decide_eq_false hg | skip)) | (refine QT ?_; clear hA a; intro a hA) | (first | (refine BT ?_; clear hA hH; rintro _ w ⟨bN, rfl, hH⟩ a hA) | (refine LT ?_; clear hA hH; rintro _ w ⟨oN, rfl, hH⟩ a hA) | (refine AT ?_; clear hA; rintro _ w ⟨oN, cN, rfl, hH2⟩ a hA; clear hH; have hH := (hH2 _ (by (repeat constructor))).tail; clear hH2) | (refine S0T ?_; clear hH; rintro _ w hH) )) | ((first | refine CT ?_ | (refine DT ?_ ?_ <;> intro hc <;> try (exfalso; omega))) <;> repeat' refine CT ?_) | (first | (refine DSK ?_; clear hA a; intro a hA) | (first | (refine DLT ?_; clear hA hH; rintro _ w ⟨oN, rfl, hH⟩; refine ⟨STT, ?_⟩; intro a hA) | (refine DAT ?_; clear hA; rintro _ w ⟨oN, cN, rfl, hH2⟩; clear hH; have hH := (hH2 _ (by (repeat constructor))).tail; clear hH2; refine ⟨STT, ?_⟩; intro a hA))) )
      refine st_op hA rfl rfl (by decide) (op_nextKd rfl hH (by exact MEMT) (by exact MEMT) hok hok0 (fun e he => ((hll e).1 he).1) hd) ?_
      clear hA
      rintro _ w2 (⟨hall, rfl, hH⟩ | ⟨e, he, hs, rfl, hup⟩) a hA
      · repeat' (first | (first | (refine GT ?_ ?_ <;> intro hg <;> clear hA a <;> intro a hA <;> (first | exact FA | replace hg := of_decide_eq_true hg | replace hg := of_decide_eq_false hg | skip)) | (refine QT ?_; clear hA a; intro a hA) | (first | (refine BT ?_; clear hA hH; rintro _ w ⟨bN, rfl, hH⟩ a hA) | (refine LT ?_; clear hA hH; rintro _ w ⟨oN, rfl, hH⟩ a hA) | (refine AT ?_; clear hA; rintro _ w ⟨oN, cN, rfl, hH2⟩ a hA; clear hH; have hH := (hH2 _ (by (repeat constructor))).tail; clear hH2) | (refine S0T ?_; clear hH; rintro _ w hH) )) | ((first | refine CT ?_ | (refine DT ?_ ?_ <;> intro hc <;> try (exfalso; omega))) <;> repeat' refine CT ?_) | (first | (refine DSK ?_; clear hA a; intro a hA) | (first | (refine DLT ?_; clear hA hH; rintro _ w ⟨oN, rfl, hH⟩; refine ⟨STT, ?_⟩; intro a hA) | (refine DAT ?_; clear hA; rintro _ w ⟨oN, cN, rfl, hH2⟩; clear hH; have hH := (hH2 _ (by (repeat constructor))).tail; clear hH2; refine ⟨STT, ?_⟩; intro a hA))) )
        replace hH := hH.shutK (b := b0) hok (by (repeat constructor))
        exact ⟨_, elL_all hll hel hall, hH.rm 1, (hA.sub (by (repeat (first | exact trivial | refine ⟨rfl, ?_⟩))))⟩
      · have he0 := ((hll e).1 he).1
        have hlt := done_lt hdn hd he0 hs
        clear hH
        have hH := hup _ (by (repeat constructor))
        clear hup
        have ha := dn_add (ks := []) (ks' := dn.map (·.1)) hdn hd he0 hs (fun x => by simp)
        have hl : (dn ++ [e]).length = dn.length + 1 := by rw [List.length_append]; rfl
        repeat' (first | (first | (refine GT ?_ ?_ <;> intro hg <;> clear hA a <;> intro a hA <;> (first | exact FA | replace hg := of_decide_eq_true hg | replace hg := of_decide_eq_false hg | skip)) | ((first | apply st_ex hA hH rfl rfl (by decide) | apply dr_ex hA rfl rfl rfl (by decide) | apply dr_exp hA rfl rfl rfl (by decide) | apply dr_ex3 hA hH rfl rfl rfl (by decide)); (first | (apply ex_entryK; rfl; exact MEMT; exact MEMT; exact hok; exact he) | (apply ex_hasK; rfl; rfl; exact MEMT) | (apply ex_indexAddr_nat; rfl; rfl; omega; exact hspT) | (apply ex_load; rfl; apply cl_own (T := 71); exact MEMT; exact hc)); clear hA a; intro a hA) | (refine QT ?_; clear hA a; intro a hA) | (first | (refine BT ?_; clear hA hH; rintro _ w ⟨bN, rfl, hH⟩ a hA) | (refine LT ?_; clear hA hH; rintro _ w ⟨oN, rfl, hH⟩ a hA) | (refine AT ?_; clear hA; rintro _ w ⟨oN, cN, rfl, hH2⟩ a hA; clear hH; have hH := (hH2 _ (by (repeat constructor))).tail; clear hH2) | (refine S0T ?_; clear hH; rintro _ w hH) | (first | (apply st_op0 hA rfl rfl; apply op_delEl; rfl; rfl; exact hH; exact hok; (repeat constructor); clear hH; rintro _ w ⟨_, hH⟩) | (apply st_op hA rfl rfl (by decide); apply op_delEl; rfl; rfl; exact hH; exact hok; (repeat constructor); clear hA hH; rintro _ w ⟨rfl, hH⟩ a hA)))) | ((first | refine CT ?_ | (refine DT ?_ ?_ <;> intro hc <;> try (exfalso; omega))) <;> repeat' refine CT ?_) | (first | (refine DSK ?_; clear hA a; intro a hA) | (first | (refine DLT ?_; clear hA hH; rintro _ w ⟨oN, rfl, hH⟩; refine ⟨STT, ?_⟩; intro a hA) | (refine DAT ?_; clear hA; rintro _ w ⟨oN, cN, rfl, hH2⟩; clear hH; have hH := (hH2 _ (by (repeat constructor))).tail; clear hH2; refine ⟨STT, ?_⟩; intro a hA))) )
        · have hni : ¬ e.1 ∈ ks := by assumption
          exact ⟨dn ++ [e], ⟨_, ⟨ha.1, ha.2.1, elL_del hll hok0.keys he0 hni, elL_ok hll hok0 hok _⟩, hH, (hA.sub (by (repeat (first | exact trivial | refine ⟨rfl, ?_⟩))))⟩, by omega⟩
        · have hi : e.1 ∈ ks := by assumption
          exact ⟨dn ++ [e], ⟨_, ⟨ha.1, ha.2.1, elL_keep hll hi, hok⟩, hH, (hA.sub (by (repeat (first | exact trivial | refine ⟨rfl, ?_⟩))))⟩, by omega⟩
    clear hA hH
    rintro a w ⟨ks', hks, hH, hA⟩
    repeat' (first | (first | (refine GT ?_ ?_ <;> intro hg <;> clear hA a <;> intro a hA <;> (first | exact FA | replace hg := of_decide_eq_true hg | replace hg := of_decide_eq_false hg | skip)) | (refine QT ?_; clear hA a; intro a hA) | (first | (refine BT ?_; clear hA hH; rintro _ w ⟨bN, rfl, hH⟩ a hA) | (refine LT ?_; clear hA hH; rintro _ w ⟨oN, rfl, hH⟩ a hA) | (refine AT ?_; clear hA; rintro _ w ⟨oN, cN, rfl, hH2⟩ a hA; clear hH; have hH := (hH2 _ (by (repeat constructor))).tail; clear hH2) | (refine S0T ?_; clear hH; rintro _ w hH) )) | ((first | refine CT ?_ | (refine DT ?_ ?_ <;> intro hc <;> try (exfalso; omega))) <;> repeat' refine CT ?_) | (first | (refine DSK ?_; clear hA a; intro a hA) | (first | (refine DLT ?_; clear hA hH; rintro _ w ⟨oN, rfl, hH⟩; refine ⟨STT, ?_⟩; intro a hA) | (refine DAT ?_; clear hA; rintro _ w ⟨oN, cN, rfl, hH2⟩; clear hH; have hH := (hH2 _ (by (repeat constructor))).tail; clear hH2; refine ⟨STT, ?_⟩; intro a hA))) )
    refine rt0 (.inr rfl) rfl hA ⟨b0, ks', fun x => (hks x).trans (and_congr_right fun _ => ⟨.inr, fun h => h.resolve_left (fun h => by cases h)⟩), ?_⟩
    rw [hfs ks']
    have hH2 := (hH.perm (H' := sk b0 ks' :: all ((th.map sko).eraseIdx t) :: cb bC 95 (encC c p) :: own 71 1 c.oT c.nT c.cT (flat encO (tc)) :: sk bW ks :: H) (by (repeat (first | exact List.Perm.refl _ | exact List.Perm.nil | refine perm_pick 0 rfl ?_ | refine perm_pick 1 rfl ?_ | refine perm_pick 2 rfl ?_ | refine perm_pick 3 rfl ?_ | refine perm_pick 4 rfl ?_ | refine perm_pick 5 rfl ?_ | refine perm_pick 6 rfl ?_ | refine perm_pick 7 rfl ?_ | refine perm_pick 8 rfl ?_ | refine perm_pick 9 rfl ?_ | refine perm_pick 10 rfl ?_ | refine perm_pick 11 rfl ?_)))).shutAt htm
    rw [sko_sets] at hH2
    exact hH2.perm (by (repeat (first | exact List.Perm.refl _ | exact List.Perm.nil | refine perm_pick 0 rfl ?_ | refine perm_pick 1 rfl ?_ | refine perm_pick 2 rfl ?_ | refine perm_pick 3 rfl ?_ | refine perm_pick 4 rfl ?_ | refine perm_pick 5 rfl ?_ | refine perm_pick 6 rfl ?_ | refine perm_pick 7 rfl ?_ | refine perm_pick 8 rfl ?_ | refine perm_pick 9 rfl ?_ | refine perm_pick 10 rfl ?_ | refine perm_pick 11 rfl ?_)))
end Go.Proofs.Ytjfanjcoppeeaaa
namespace Go.Proofs.Ytjfanjcoppeeaaa
open Go Go.Fw
set_option linter.unusedVariables false
/-- an atom that may stand where some variables are, told by a set -/
def atS (g : Grs) (S : Int → Prop) (a : Atm) : Prop := (a.k = 1 ∧ 0 ≤ a.n ∧ a.n ≤ 1048576 ∧ (a.n < 2 ∨ S a.n)) ∨ (a.k = 2 ∧ -4611686018427387904 ≤ a.n ∧ a.n < 4611686018427387904) ∨ (a.k = 3 ∧ 0 ≤ a.n ∧ a.n < g.ss.l.length)
theorem at_of {g : Grs} {ks : List Int} {S : Int → Prop} {a : Atm} (hs : ∀ x, x ∈ ks ↔ S x) (h : atOk g ks a) : atS g S a := by
  rcases atk.1 h with h | h | h
  · exact .inl ⟨h.1, h.2.1, h.2.2.1, h.2.2.2.imp id (hs _).1⟩
  · exact .inr (.inl h)
  · exact .inr (.inr h)
/-- what is there in a block ahead of its Ins of a number -/
def nowS (k0 : List Int) (bl : Blc) (i : Nat) (x : Int) : Prop := x ∈ k0 ∨ x ∈ bl.ps.l ∨ x ∈ (bl.is.l.take i).map Ins.x
/-- a block that may be -/
structure BlkOk (g : Grs) (f : Gr) (n : Nat) (bl : Blc) (k0 : List Int) : Prop where
  first : n = 0 → bl.ps.l = []
  ins : ∀ (i : Nat) (x : Ins), bl.is.l[i]? = some x → ∀ a ∈ x.r.a.l, atS g (nowS k0 bl i) a
  ends : ∀ a ∈ bl.e.a.l, atS g (nowS k0 bl bl.is.l.length) a
  edges : ∀ t ∈ bl.e.to.l, (n : Int) < t.b ∧ t.b < f.bs.l.length ∧ ∀ a ∈ t.a.l, atS g (nowS k0 bl bl.is.l.length) a
def bvs (b : Blc) : List Int := b.ps.l ++ b.is.l.map Ins.x
def setA (ss : List (Option (Nat × List Int))) (n : Nat) : List Int := kso ((ss[n]?).getD none)
def isA (ss : List (Option (Nat × List Int))) (n : Nat) : Prop := ((ss[n]?).getD none).isSome = true
/-- what has come to blocks by some edges -/
structure ThR (th : List (Option (Nat × List Int))) (S : Int → Prop) (l : List Edg) (th' : List (Option (Nat × List Int))) : Prop where
  len : th'.length = th.length
  come : ∀ t ∈ l, ∀ m : Nat, t.b = m → isA th' m ∧ ∀ x ∈ setA th' m, S x
  sub : ∀ m x, x ∈ setA th' m → (isA th m → x ∈ setA th m) ∧ (¬ isA th m → S x)
  keep : ∀ m, isA th m → isA th' m
  from_ : ∀ m, isA th' m → isA th m ∨ ∃ t ∈ l, t.b = m
theorem thR_0 (th : List (Option (Nat × List Int))) (S : Int → Prop) : ThR th S [] th :=
  ⟨rfl, fun t ht => absurd ht List.not_mem_nil, fun m x h => ⟨fun _ => h, fun hn => (by
    unfold isA at hn
    unfold setA at h
    cases h2 : (th[m]?).getD none with
    | none => rw [h2] at h; exact absurd h List.not_mem_nil
    | some p => rw [h2] at hn; exact absurd rfl hn)⟩, fun m h => h, fun m h => .inl h⟩
theorem setA_set {th : List (Option (Nat × List Int))} {t : Nat} (ht : t < th.length) (y : Option (Nat × List Int)) (m : Nat) : ((th.set t y)[m]?).getD none = if m = t then y else (th[m]?).getD none := by
  by_cases h : m = t
  · subst h
    rw [if_pos rfl, List.getElem?_set_self ht]
    rfl
  · rw [if_neg h, List.getElem?_set_ne (fun e => h e.symm)]
theorem thR_next {th th1 : List (Option (Nat × List Int))} {S : Int → Prop} {l : List Edg} {t : Edg} {m : Nat} {b : Nat} {ks ks' : List Int} {st : Option (Nat × List Int)} (h : ThR th S l th1) (htb : t.b = m) (hm : m < th1.length) (hst : th1[m]? = some st) (hks : ∀ x, x ∈ ks ↔ S x)
    (hk : ∀ x, x ∈ ks' ↔ x ∈ ks ∧ (st = none ∨ x ∈ kso st)) : ThR th S (l ++ [t]) (th1.set m (some (b, ks'))) := by
  have hg := setA_set hm (some (b, ks'))
  have hsA : setA th1 m = kso st := by unfold setA; rw [hst]; rfl
  have hiA : isA th1 m ↔ st.isSome = true := by unfold isA; rw [hst]; exact Iff.rfl
  refine ⟨by rw [List.length_set]; exact h.len, fun t' ht' m' hm' => ?_, fun m' x hx => ?_, fun m' hi => ?_, fun m' hi => ?_⟩
  · unfold isA setA
    rw [hg]
    by_cases he : m' = m
    · rw [if_pos he]
      exact ⟨rfl, fun x hx => (hks x).1 ((hk x).1 hx).1⟩
    · rw [if_neg he]
      rcases List.mem_append.1 ht' with h1 | h1
      · exact h.come t' h1 m' hm'
      · rw [List.mem_singleton] at h1
        subst h1
        exact absurd (by omega) he
  · unfold setA at hx
    rw [hg] at hx
    by_cases he : m' = m
    · rw [if_pos he] at hx
      subst he
      have h1 := (hk x).1 hx
      have hS : S x := (hks x).1 h1.1
      refine ⟨fun hi => ?_, fun _ => hS⟩
      have h2 : st.isSome = true := hiA.1 (h.keep _ hi)
      have h3 : x ∈ kso st := h1.2.resolve_left (fun e => (by rw [e] at h2; cases h2))
      exact (h.sub m' x (by rw [hsA]; exact h3)).1 hi
    · rw [if_neg he] at hx
      exact h.sub m' x hx
  · unfold isA
    rw [hg]
    by_cases he : m' = m
    · rw [if_pos he]; rfl
    · rw [if_neg he]; exact h.keep m' hi
  · unfold isA at hi
    rw [hg] at hi
    by_cases he : m' = m
    · exact .inr ⟨t, List.mem_append_right _ (.head _), by omega⟩
    · rw [if_neg he] at hi
      exact (h.from_ m' hi).imp id fun ⟨t', h1, h2⟩ => ⟨t', List.mem_append_left _ h1, h2⟩
theorem nodup_len_le {l : List Int} (hn : l.Nodup) (hr : ∀ x ∈ l, 2 ≤ x ∧ x ≤ 1048576) : l.length ≤ 1048577 := by
  have key : ∀ {l m : List Int}, l.Nodup → (∀ x ∈ l, x ∈ m) → l.length ≤ m.length := by
    intro l
    induction l with
    | nil => intro m _ _; exact Nat.zero_le _
    | cons x l ih =>
      intro m hn hs
      have hx := hs x (.head _)
      have := ih (m := m.erase x) (List.nodup_cons.1 hn).2 fun y hy => (List.mem_erase_of_ne fun (e : y = x) => (List.nodup_cons.1 hn).1 (e ▸ hy)).2 (hs y (.tail _ hy))
      rw [List.length_erase_of_mem hx] at this
      have := List.length_pos_of_mem hx
      rw [List.length_cons]
      omega
  have := key (m := (List.range 1048577).map fun k : Nat => (k : Int)) hn fun x hx => by
    have h1 := hr x hx
    exact List.mem_map.2 ⟨x.toNat, List.mem_range.2 (by omega), by omega⟩
  rw [List.length_map, List.length_range] at this
  exact this
/-- the variables bound so far -/
structure EvOk (es : List Int) : Prop where
  nd : es.Nodup
  rg : ∀ x ∈ es, 2 ≤ x ∧ x ≤ 1048576
theorem EvOk.add {es : List Int} {x : Int} (h : EvOk es) (hb : bindP es x) : EvOk (es ++ [x]) := by
  refine ⟨List.nodup_append.2 ⟨h.nd, List.nodup_cons.2 ⟨List.not_mem_nil, List.nodup_nil⟩, fun a ha b hb' e => ?_⟩, fun y hy => ?_⟩
  · rw [List.mem_singleton] at hb'
    subst hb'
    exact hb.2.2 (e ▸ ha)
  · rcases List.mem_append.1 hy with h1 | h1
    · exact h.rg y h1
    · rw [List.mem_singleton] at h1
      subst h1
      exact ⟨hb.1, hb.2.1⟩
theorem EvOk.le {es : List Int} (h : EvOk es) : es.length ≤ 1048577 := nodup_len_le h.nd h.rg
theorem map_x_snoc {l : List Ins} {j : Nat} {x : Ins} (h : l[j]? = some x) : (l.take (j + 1)).map Ins.x = (l.take j).map Ins.x ++ [x.x] := by rw [take_snoc h, List.map_append]; rfl
theorem now_ps {k0 ks : List Int} {l : List Int} {j : Nat} {x : Int} (hx : l[j]? = some x) (h : ∀ y, y ∈ ks ↔ y ∈ k0 ∨ y ∈ l.take j) (y : Int) : y ∈ sadd ks x ↔ y ∈ k0 ∨ y ∈ l.take (j + 1) := by
  rw [mem_sadd, h, take_snoc hx, List.mem_append, List.mem_singleton, or_assoc]
theorem now_0 {k0 ks : List Int} {bl : Blc} (h : ∀ y, y ∈ ks ↔ y ∈ k0 ∨ y ∈ bl.ps.l) (y : Int) : y ∈ ks ↔ nowS k0 bl 0 y := by
  rw [h]
  unfold nowS
  rw [List.take_zero]
  simp
theorem now_next {k0 ks : List Int} {bl : Blc} {i : Nat} {x : Ins} (hx : bl.is.l[i]? = some x) (h : ∀ y, y ∈ ks ↔ nowS k0 bl i y) (y : Int) : y ∈ sadd ks x.x ↔ nowS k0 bl (i + 1) y := by
  rw [mem_sadd, h]
  unfold nowS
  rw [map_x_snoc hx, List.mem_append, List.mem_singleton, or_assoc, or_assoc]
theorem sub_st (x : Ins) (i : Nat) (v : Value) (h : (encSt x.r)[i]? = some v) : (encIn x)[0 + 1 + i]? = some v := by rw [Nat.zero_add, Nat.add_comm]; exact h
theorem sub_en (b : Blc) (i : Nat) (v : Value) (h : (encEn b.e)[i]? = some v) : (encBl b)[0 + 2 + i]? = some v := by rw [Nat.zero_add, Nat.add_comm]; exact h
theorem blk_at {l : List Blc} {k : Nat} (h : k < l.length) : (flat encBl l)[k * 6 + 0]? = some (.slice (l.getD k blc0).ps.o (l.getD k blc0).ps.l.length (l.getD k blc0).ps.c) := by
  refine flat_get (off := 0) encBl_len (List.getElem?_eq_getElem h) ?_
  rw [List.getD_eq_getElem?_getD, List.getElem?_eq_getElem h]
  rfl
theorem eds_next {P : Edg → Prop} {l : List Edg} {j : Nat} {t : Edg} (ht : l[j]? = some t) (h : ∀ t ∈ l.take j, P t) (hp : P t) : ∀ t ∈ l.take (j + 1), P t := by
  intro s hs
  rw [take_snoc ht] at hs
  rcases List.mem_append.1 hs with h1 | h1
  · exact h s h1
  · rw [List.mem_singleton] at h1
    exact h1 ▸ hp
theorem map_none (th : List (Option (Nat × List Int))) (n : Nat) : (th.map sko).set n (all []) = (th.set n none).map sko := by rw [List.map_set]; rfl
theorem ev_ps {es : List Int} {l : List Int} {j : Nat} {x : Int} (hx : l[j]? = some x) : es ++ l.take j ++ [x] = es ++ l.take (j + 1) := by rw [take_snoc hx, List.append_assoc]
theorem ev_is {es q : List Int} {l : List Ins} {j : Nat} {x : Ins} (hx : l[j]? = some x) : es ++ q ++ (l.take j).map Ins.x ++ [x.x] = es ++ q ++ (l.take (j + 1)).map Ins.x := by rw [map_x_snoc hx, List.append_assoc]
theorem ev_end (es : List Int) (bl : Blc) : es ++ bl.ps.l ++ (bl.is.l.take bl.is.l.length).map Ins.x = es ++ bvs bl := by rw [List.take_length, List.append_assoc]; rfl
theorem ins_next {g : Grs} {k0 ks : List Int} {bl : Blc} {i : Nat} {x : Ins} (hx : bl.is.l[i]? = some x) (h : ∀ k x, bl.is.l[k]? = some x → k < i → ∀ a ∈ x.r.a.l, atS g (nowS k0 bl k) a) (hks : ∀ y, y ∈ ks ↔ nowS k0 bl i y) (ha : ∀ a ∈ x.r.a.l, atOk g ks a) :
    ∀ k x, bl.is.l[k]? = some x → k < i + 1 → ∀ a ∈ x.r.a.l, atS g (nowS k0 bl k) a := by
  intro k y hk hlt a hay
  by_cases he : k = i
  · subst he
    rw [hx] at hk
    cases hk
    exact at_of hks (ha a hay)
  · exact h k y hk (by omega) a hay
set_option maxRecDepth 10000 attribute [local irreducible] Code.wp wpList Calls Ex Op1 sat bat blk cb own Go.Fw.mp Go.Fw.mpO Go.Fw.mpI Go.Fw.mpE Go.Fw.itr HS Rd Ret wkD Hp Cl Cls Exit.then Exit.inBlock Exit.noGoto bodyPost Go.Fw.flat wk2 Go.Fw.all Go.Fw.owns wpOp
attribute [local irreducible] sk mpK srt sko mvO entK atOk atS nowS

set_option maxHeartbeats 16000000 in
theorem block_spec (w0 w : World) (H : List It) (c : Ck) (bC n : Nat) (p : Int) (es la : List Int) (tc th : List (Option (Nat × List Int))) (bl : Blc) (hH : HS w0 noM (cb bC 95 (encC c (p)) :: sk c.bE es :: own 71 1 c.oT c.nT c.cT (flat encO (tc)) :: all (th.map sko) :: H) w) (hm : own 3 1 c.oA c.nA c.cA (flat Fw.encI la) ∈ H) (hla : c.nA = la.length) (hla9 : la.length ≤ 9223372036854775807)
    (hR : RdG w0 c.f) (hbl : c.f.bs.l[n]? = some bl) (hto : bl.e.to.l.length ≤ 1048576) (hn : c.nT = th.length) (hn2 : tc.length = th.length) (hn3 : th.length = c.f.bs.l.length) (hag : ∀ m, n ≤ m → tc[m]? = th[m]?) (hp0 : 0 ≤ p) (hp1 : p ≤ 65536) (hev : EvOk es) :
    Ret Try.prog 34 #[.pointer (some (bat bC 0)), .int .i64 n] w (fun v w' => (v = .bool false ∧ HS w0 noM H w') ∨
      (v = .bool true ∧ ∃ k0 tc' th' p', isA th n ∧ k0 = setA th n ∧ BlkOk c.g c.f n bl k0 ∧ EvOk (es ++ bvs bl) ∧ p + 2 + (bvs bl).length ≤ p' ∧ p' ≤ 65536 ∧ ThR (th.set n none) (nowS k0 bl bl.is.l.length) bl.e.to.l th' ∧ tc'.length = tc.length ∧ (∀ m, n < m → tc'[m]? = th'[m]?) ∧
        HS w0 noM (cb bC 95 (encC c (p')) :: sk c.bE (es ++ bvs bl) :: own 71 1 c.oT c.nT c.cT (flat encO (tc')) :: all (th'.map sko) :: H) w')) := by
  have hnl := (List.getElem?_eq_some_iff.1 hbl).1
  have hbR := hR.2 bl (List.mem_of_getElem? hbl)
  have hle := hR.1.le
  have hlp := hbR.1.le
  have hli := hbR.2.1.le
  have hsp : Sp c.f.bs.o c.f.bs.l.length := hR.1.1.sp (sz := 6) (flat_length encBl_len _) (by omega)
  have hspP : Sp bl.ps.o bl.ps.l.length := hbR.1.1.sp (sz := 1) (flat_length Fw.encI_len _) (by omega)
  have hspI : Sp bl.is.o bl.is.l.length := hbR.2.1.1.sp (sz := 5) (flat_length encIn_len _) (by omega)
  have hspT : Sp c.oT c.nT := hH.own_sp (T := 71) (.tail _ (.tail _ (.head _)))
  have hvs := flat_all encBl_len hbl
  obtain ⟨st, hst⟩ : ∃ st, th[n]? = some st := ⟨_, List.getElem?_eq_getElem (by omega)⟩
  have htn : n < (th.map sko).length := by rw [List.length_map]; omega
  have hsm : (th.map sko)[n]? = some (sko st) := by rw [List.getElem?_map, hst]; rfl
  have htc : tc[n]? = some st := (hag n (Nat.le_refl _)).trans hst
  have hvT : (flat encO tc)[n * 1]? = some (mvO st) := flat_get (off := 0) encO_len htc (by rw [encO_eq]; rfl)
  (refine enter (N := 190) Try.func34 rfl Try.ntmps34 rfl ?_; intro a hA; dsimp only [sl0, Nat.reduceAdd] at hA)
  repeat' (first | (first | (refine GT ?_ ?_ <;> intro hg <;> clear hA a <;> intro a hA <;> (first | exact FA | replace hg := of_decide_eq_true hg | replace hg := of_decide_eq_false hg | skip)) | (refine QT ?_; clear hA a; intro a hA) | (first | (refine BT ?_; clear hA hH; rintro _ w ⟨bN, rfl, hH⟩ a hA) | (refine LT ?_; clear hA hH; rintro _ w ⟨oN, rfl, hH⟩ a hA) | (refine AT ?_; clear hA; rintro _ w ⟨oN, cN, rfl, hH2⟩ a hA; clear hH; have hH := (hH2 _ (by (repeat constructor))).tail; clear hH2) | (refine S0T ?_; clear hH; rintro _ w hH) )) | ((first | refine CT ?_ | (refine DT ?_ ?_ <;> intro hc <;> try (exfalso; omega))) <;> repeat' refine CT ?_) | (first | (refine DSK ?_; clear hA a; intro a hA) | (first | (refine DLT ?_; clear hA hH; rintro _ w ⟨oN, rfl, hH⟩; refine ⟨STT, ?_⟩; intro a hA) | (refine DAT ?_; clear hA; rintro _ w ⟨oN, cN, rfl, hH2⟩; clear hH; have hH := (hH2 _ (by (repeat constructor))).tail; clear hH2; refine ⟨STT, ?_⟩; intro a hA))) )
  have hST : HS w0 noM [cb bC 95 (encC c (p)), own 71 1 c.oT c.nT c.cT (flat encO (tc))] w := HS.left (H1 := [_, _]) (H2 := sk c.bE es :: all (th.map sko) :: H) (hH.perm (by (repeat (first | exact List.Perm.refl _ | exact List.Perm.nil | refine perm_pick 0 rfl ?_ | refine perm_pick 1 rfl ?_ | refine perm_pick 2 rfl ?_ | refine perm_pick 3 rfl ?_ | refine perm_pick 4 rfl ?_ | refine perm_pick 5 rfl ?_ | refine perm_pick 6 rfl ?_ | refine perm_pick 7 rfl ?_ | refine perm_pick 8 rfl ?_ | refine perm_pick 9 rfl ?_ | refine perm_pick 10 rfl ?_ | refine perm_pick 11 rfl ?_))))
  (refine wp_draw_HS (H := [_, _]) [(0, 1), (1, 1), (2, 1), (3, 1), (4, 1), (5, 1), (6, 1), (7, 1), (8, 1), (9, 1), (10, 1), (11, 1), (12, 1), (13, 1), (14, 1), (15, 0), (16, 0), (17, 1)] mixed (by decide +kernel) (hST) ?_; replace hH := hH.drew)
  clear hST
  repeat' (first | (first | (refine GT ?_ ?_ <;> intro hg <;> clear hA a <;> intro a hA <;> (first | exact FA | replace hg := of_decide_eq_true hg | replace hg := of_decide_eq_false hg | skip)) | ((first | apply st_ex hA hH rfl rfl (by decide) | apply dr_ex hA rfl rfl rfl (by decide) | apply dr_exp hA rfl rfl rfl (by decide) | apply dr_ex3 hA hH rfl rfl rfl (by decide)); (first | (apply ex_load_st (vs := encBl bl); rfl; rfl; exact cls_rd hR.1.1 id hvs) | (apply ex_indexAddr_nat; rfl; rfl; omega; exact hspT) | (apply ex_indexAddr_nat; rfl; rfl; omega; exact hsp) | (apply ex_load; rfl; apply cl_own (T := 71); exact MEMT; exact hvT)); clear hA a; intro a hA) | (refine QT ?_; clear hA a; intro a hA) | (first | (refine BT ?_; clear hA hH; rintro _ w ⟨bN, rfl, hH⟩ a hA) | (refine LT ?_; clear hA hH; rintro _ w ⟨oN, rfl, hH⟩ a hA) | (refine AT ?_; clear hA; rintro _ w ⟨oN, cN, rfl, hH2⟩ a hA; clear hH; have hH := (hH2 _ (by (repeat constructor))).tail; clear hH2) | (refine S0T ?_; clear hH; rintro _ w hH) )) | ((first | refine CT ?_ | (refine DT ?_ ?_ <;> intro hc <;> try (exfalso; omega))) <;> repeat' refine CT ?_) | (first | (refine DSK ?_; clear hA a; intro a hA) | (first | (refine DLT ?_; clear hA hH; rintro _ w ⟨oN, rfl, hH⟩; refine ⟨STT, ?_⟩; intro a hA) | (refine DAT ?_; clear hA; rintro _ w ⟨oN, cN, rfl, hH2⟩; clear hH; have hH := (hH2 _ (by (repeat constructor))).tail; clear hH2; refine ⟨STT, ?_⟩; intro a hA))) )
  (apply dr_op hA rfl rfl rfl (by decide); apply op_alloc; exact hH; clear hA hH; rintro _ w ⟨bN, rfl, hH⟩; refine ⟨HS.left (H1 := [_, _]) (H2 := sk c.bE es :: all (th.map sko) :: H) (hH.tail.perm (by (repeat (first | exact List.Perm.refl _ | exact List.Perm.nil | refine perm_pick 0 rfl ?_ | refine perm_pick 1 rfl ?_ | refine perm_pick 2 rfl ?_ | refine perm_pick 3 rfl ?_ | refine perm_pick 4 rfl ?_ | refine perm_pick 5 rfl ?_ | refine perm_pick 6 rfl ?_ | refine perm_pick 7 rfl ?_ | refine perm_pick 8 rfl ?_ | refine perm_pick 9 rfl ?_ | refine perm_pick 10 rfl ?_ | refine perm_pick 11 rfl ?_)))), ?_⟩; intro a hA)
  (apply dr_op0 hA rfl rfl rfl; apply op_store_agg (vs := encBl bl); rfl; rfl; exact hH; (repeat constructor); (repeat rfl); clear hH; rintro _ w hH; refine ⟨HS.left (H1 := [_, _]) (H2 := sk c.bE es :: all (th.map sko) :: H) (hH.tail.perm (by (repeat (first | exact List.Perm.refl _ | exact List.Perm.nil | refine perm_pick 0 rfl ?_ | refine perm_pick 1 rfl ?_ | refine perm_pick 2 rfl ?_ | refine perm_pick 3 rfl ?_ | refine perm_pick 4 rfl ?_ | refine perm_pick 5 rfl ?_ | refine perm_pick 6 rfl ?_ | refine perm_pick 7 rfl ?_ | refine perm_pick 8 rfl ?_ | refine perm_pick 9 rfl ?_ | refine perm_pick 10 rfl ?_ | refine perm_pick 11 rfl ?_)))), ?_⟩)
  rcases st with _ | ⟨bW, k0⟩
  · rw [mvO_n] at hA
    repeat' (first | (first | (refine GT ?_ ?_ <;> intro hg <;> clear hA a <;> intro a hA <;> (first | exact FA | replace hg := of_decide_eq_true hg | replace hg := of_decide_eq_false hg | skip)) | ((first | apply st_ex hA hH rfl rfl (by decide) | apply dr_ex hA rfl rfl rfl (by decide) | apply dr_exp hA rfl rfl rfl (by decide) | apply dr_ex3 hA hH rfl rfl rfl (by decide)); (first | (apply ex_eqlMapT; rfl; rfl)); clear hA a; intro a hA) | (refine QT ?_; clear hA a; intro a hA) | (first | (refine BT ?_; clear hA hH; rintro _ w ⟨bN, rfl, hH⟩ a hA) | (refine LT ?_; clear hA hH; rintro _ w ⟨oN, rfl, hH⟩ a hA) | (refine AT ?_; clear hA; rintro _ w ⟨oN, cN, rfl, hH2⟩ a hA; clear hH; have hH := (hH2 _ (by (repeat constructor))).tail; clear hH2) | (refine S0T ?_; clear hH; rintro _ w hH) )) | ((first | refine CT ?_ | (refine DT ?_ ?_ <;> intro hc <;> try (exfalso; omega))) <;> repeat' refine CT ?_) | (first | (refine DSK ?_; clear hA a; intro a hA) | (first | (refine DLT ?_; clear hA hH; rintro _ w ⟨oN, rfl, hH⟩; refine ⟨STT, ?_⟩; intro a hA) | (refine DAT ?_; clear hA; rintro _ w ⟨oN, cN, rfl, hH2⟩; clear hH; have hH := (hH2 _ (by (repeat constructor))).tail; clear hH2; refine ⟨STT, ?_⟩; intro a hA))) )
    exact rt1 (.inl rfl) rfl hA rfl (.inl ⟨rfl, hH.tail.tail.tail.tail.tail⟩)
  rw [mvO_s] at hA
  obtain ⟨b5, hb5⟩ : ∃ x, x = bN := ⟨_, rfl⟩
  rw [← hb5] at hA hH
  clear hb5 bN
  (first | (apply dr_exb hA rfl rfl rfl (by decide) rfl (ex_move rfl) <;> intro hg <;> clear hA a <;> intro a hA <;> (first | (replace hg := of_decide_eq_true hg; try (exfalso; omega)) | (replace hg := of_decide_eq_false hg; try (exfalso; omega)) | (exact absurd hg (by decide)) | skip)) | (apply dr_ex hA rfl rfl rfl (by decide); (first | (apply ex_move; rfl) | (apply ex_assign; rfl)  | exact EXT); clear hA a; intro a hA) | (apply dr_skip hA rfl rfl rfl (by decide); clear hA a; intro a hA) | (apply dr_exp hA rfl rfl rfl (by decide); (first | (apply ex_move; rfl) | (apply ex_assign; rfl)  | exact EXT); clear hA a; intro a hA) | (apply dr_ex3 hA hH rfl rfl rfl (by decide); (first | (apply ex_move; rfl) | (apply ex_assign; rfl)  | exact EXT); clear hA a; intro a hA) | (apply dr_skip3 hA rfl rfl rfl (by decide); clear hA a; intro a hA) | apply dr_nil | apply dr_late | apply dr_nil2)
  (first | (apply dr_exb hA rfl rfl rfl (by decide) rfl (ex_move rfl) <;> intro hg <;> clear hA a <;> intro a hA <;> (first | (replace hg := of_decide_eq_true hg; try (exfalso; omega)) | (replace hg := of_decide_eq_false hg; try (exfalso; omega)) | (exact absurd hg (by decide)) | skip)) | (apply dr_ex hA rfl rfl rfl (by decide); (first | (apply ex_move; rfl) | (apply ex_assign; rfl)  | exact EXT); clear hA a; intro a hA) | (apply dr_skip hA rfl rfl rfl (by decide); clear hA a; intro a hA) | (apply dr_exp hA rfl rfl rfl (by decide); (first | (apply ex_move; rfl) | (apply ex_assign; rfl)  | exact EXT); clear hA a; intro a hA) | (apply dr_ex3 hA hH rfl rfl rfl (by decide); (first | (apply ex_move; rfl) | (apply ex_assign; rfl)  | exact EXT); clear hA a; intro a hA) | (apply dr_skip3 hA rfl rfl rfl (by decide); clear hA a; intro a hA) | apply dr_nil | apply dr_late | apply dr_nil2)
  repeat refine CT ?_
  refine st_join (fun a w => (n = 0 → bl.ps.l = []) ∧ HS w0 noM (cb b5 52 (encBl bl) :: cb bC 95 (encC c (p)) :: sk c.bE es :: own 71 1 c.oT c.nT c.cT (flat encO (tc)) :: all (th.map sko) :: H) w ∧ Sl 190 [(5, .pointer (some (bat b5 0))), (6, .map (some bW)), (0, .pointer (some (bat bC 0))), (1, .int .i64 n)] a) ?_ ?_
  · repeat' (first | (first | (refine GT ?_ ?_ <;> intro hg <;> clear hA a <;> intro a hA <;> (first | exact FA | replace hg := of_decide_eq_true hg | replace hg := of_decide_eq_false hg | skip)) | ((first | apply st_ex hA hH rfl rfl (by decide) | apply dr_ex hA rfl rfl rfl (by decide) | apply dr_exp hA rfl rfl rfl (by decide) | apply dr_ex3 hA hH rfl rfl rfl (by decide)); (first | (apply ex_eqlMapF; rfl; rfl)); clear hA a; intro a hA) | (refine QT ?_; clear hA a; intro a hA) | (first | (refine BT ?_; clear hA hH; rintro _ w ⟨bN, rfl, hH⟩ a hA) | (refine LT ?_; clear hA hH; rintro _ w ⟨oN, rfl, hH⟩ a hA) | (refine AT ?_; clear hA; rintro _ w ⟨oN, cN, rfl, hH2⟩ a hA; clear hH; have hH := (hH2 _ (by (repeat constructor))).tail; clear hH2) | (refine S0T ?_; clear hH; rintro _ w hH) )) | ((first | refine CT ?_ | (refine DT ?_ ?_ <;> intro hc <;> try (exfalso; omega))) <;> repeat' refine CT ?_) | (first | (refine DSK ?_; clear hA a; intro a hA) | (first | (refine DLT ?_; clear hA hH; rintro _ w ⟨oN, rfl, hH⟩; refine ⟨STT, ?_⟩; intro a hA) | (refine DAT ?_; clear hA; rintro _ w ⟨oN, cN, rfl, hH2⟩; clear hH; have hH := (hH2 _ (by (repeat constructor))).tail; clear hH2; refine ⟨STT, ?_⟩; intro a hA))) )
    · exact rt1 (.inl rfl) rfl hA rfl (.inl ⟨rfl, hH.tail.tail.tail.tail.tail⟩)
    · exact ⟨fun _ => List.length_eq_zero_iff.1 (by omega), hH, (hA.sub (by (repeat (first | exact trivial | refine ⟨rfl, ?_⟩))))⟩
    · exact ⟨fun h => (by omega), hH, (hA.sub (by (repeat (first | exact trivial | refine ⟨rfl, ?_⟩))))⟩
  clear hA hH
  rintro a w ⟨hfirst, hH, hA⟩
  have hH1 := (hH.up 4 rfl).openAt hsm
  clear hH
  dsimp only [List.eraseIdx_cons_succ, List.eraseIdx_cons_zero] at hH1
  rw [sko_s] at hH1
  have hH := (hH1.nil_all.perm (H' := all [] :: all ((th.map sko).eraseIdx n) :: cb bC 95 (encC c (p)) :: sk c.bE es :: sk bW k0 :: own 71 1 c.oT c.nT c.cT (flat encO (tc)) :: cb b5 52 (encBl bl) :: H) (by (repeat (first | exact List.Perm.refl _ | exact List.Perm.nil | refine perm_pick 0 rfl ?_ | refine perm_pick 1 rfl ?_ | refine perm_pick 2 rfl ?_ | refine perm_pick 3 rfl ?_ | refine perm_pick 4 rfl ?_ | refine perm_pick 5 rfl ?_ | refine perm_pick 6 rfl ?_ | refine perm_pick 7 rfl ?_ | refine perm_pick 8 rfl ?_ | refine perm_pick 9 rfl ?_ | refine perm_pick 10 rfl ?_ | refine perm_pick 11 rfl ?_)))).shutAt htn
  clear hH1
  rw [map_none] at hH
  obtain ⟨th0, hth0⟩ : ∃ x, x = th.set n none := ⟨_, rfl⟩
  rw [← hth0] at hH
  have hl0 : th0.length = th.length := by rw [hth0, List.length_set]
  have hag0 : ∀ m, n < m → tc[m]? = th0[m]? := fun m hm => by rw [hth0, List.getElem?_set_ne (by omega)]; exact hag m (by omega)
  replace hH := hH.perm (H' := cb bC 95 (encC c (p)) :: sk c.bE es :: sk bW k0 :: own 71 1 c.oT c.nT c.cT (flat encO (tc)) :: all (th0.map sko) :: cb b5 52 (encBl bl) :: H) (by (repeat (first | exact List.Perm.refl _ | exact List.Perm.nil | refine perm_pick 0 rfl ?_ | refine perm_pick 1 rfl ?_ | refine perm_pick 2 rfl ?_ | refine perm_pick 3 rfl ?_ | refine perm_pick 4 rfl ?_ | refine perm_pick 5 rfl ?_ | refine perm_pick 6 rfl ?_ | refine perm_pick 7 rfl ?_ | refine perm_pick 8 rfl ?_ | refine perm_pick 9 rfl ?_ | refine perm_pick 10 rfl ?_ | refine perm_pick 11 rfl ?_)))
  repeat' (first | (first | (refine GT ?_ ?_ <;> intro hg <;> clear hA a <;> intro a hA <;> (first | exact FA | replace hg := of_decide_eq_true hg | replace hg := of_decide_eq_false hg | skip)) | (refine QT ?_; clear hA a; intro a hA) | (first | (refine BT ?_; clear hA hH; rintro _ w ⟨bN, rfl, hH⟩ a hA) | (refine LT ?_; clear hA hH; rintro _ w ⟨oN, rfl, hH⟩ a hA) | (refine AT ?_; clear hA; rintro _ w ⟨oN, cN, rfl, hH2⟩ a hA; clear hH; have hH := (hH2 _ (by (repeat constructor))).tail; clear hH2) | (refine S0T ?_; clear hH; rintro _ w hH) | (apply st_op0 hA rfl rfl; apply op_store_fld (cs' := encC c (p + 2)); rfl; rfl; rfl; exact hH; (repeat constructor); clear hH; rintro _ w hH))) | ((first | refine CT ?_ | (refine DT ?_ ?_ <;> intro hc <;> try (exfalso; omega))) <;> repeat' refine CT ?_) | (first | (refine DSK ?_; clear hA a; intro a hA) | (first | (refine DLT ?_; clear hA hH; rintro _ w ⟨oN, rfl, hH⟩; refine ⟨STT, ?_⟩; intro a hA) | (refine DAT ?_; clear hA; rintro _ w ⟨oN, cN, rfl, hH2⟩; clear hH; have hH := (hH2 _ (by (repeat constructor))).tail; clear hH2; refine ⟨STT, ?_⟩; intro a hA))) )
  refine wp_lpk (S := Nat) (fun j a w => ∃ ks, (j ≤ bl.ps.l.length ∧ EvOk (es ++ bl.ps.l.take j) ∧ ∀ y, y ∈ ks ↔ y ∈ k0 ∨ y ∈ bl.ps.l.take j) ∧ HS w0 noM (cb bC 95 (encC c (p + 2 + (j : Int))) :: sk c.bE (es ++ bl.ps.l.take j) :: sk bW ks :: own 71 1 c.oT c.nT c.cT (flat encO (tc)) :: all (th0.map sko) :: cb b5 52 (encBl bl) :: H) w ∧
      Sl 190 [(50, .int .i64 j), (49, .int .i64 bl.ps.l.length), (48, .slice bl.ps.o bl.ps.l.length bl.ps.c), (5, .pointer (some (bat b5 0))), (6, .map (some bW)), (0, .pointer (some (bat bC 0))), (1, .int .i64 n)] a) (fun j => bl.ps.l.length - j)
    (fun a w => ∃ ks, (EvOk (es ++ bl.ps.l) ∧ ∀ y, y ∈ ks ↔ y ∈ k0 ∨ y ∈ bl.ps.l) ∧ HS w0 noM (cb bC 95 (encC c (p + 2 + (bl.ps.l.length : Int))) :: sk c.bE (es ++ bl.ps.l) :: sk bW ks :: own 71 1 c.oT c.nT c.cT (flat encO (tc)) :: all (th0.map sko) :: cb b5 52 (encBl bl) :: H) w ∧
      Sl 190 [(5, .pointer (some (bat b5 0))), (6, .map (some bW)), (0, .pointer (some (bat bC 0))), (1, .int .i64 n)] a) 0 ⟨k0, ⟨Nat.zero_le _, (by rw [List.take_zero, List.append_nil]; exact hev), (fun y => by rw [List.take_zero]; simp)⟩, (by rw [List.take_zero, List.append_nil, show p + 2 + ((0 : Nat) : Int) = p + 2 by omega]; exact hH), (hA.sub (by (repeat (first | exact trivial | refine ⟨rfl, ?_⟩))))⟩ ?_ ?_
  · clear hA hH
    rintro j a w ⟨ks, ⟨hj, hev1, hks⟩, hH, hA⟩
    by_cases hlt : j < bl.ps.l.length
    rotate_left
    · obtain rfl : j = bl.ps.l.length := by omega
      rw [List.take_length] at hev1 hks hH
      repeat' (first | (first | (refine GT ?_ ?_ <;> intro hg <;> clear hA a <;> intro a hA <;> (first | exact FA | replace hg := of_decide_eq_true hg | replace hg := of_decide_eq_false hg | skip)) | (refine QT ?_; clear hA a; intro a hA) | (first | (refine BT ?_; clear hA hH; rintro _ w ⟨bN, rfl, hH⟩ a hA) | (refine LT ?_; clear hA hH; rintro _ w ⟨oN, rfl, hH⟩ a hA) | (refine AT ?_; clear hA; rintro _ w ⟨oN, cN, rfl, hH2⟩ a hA; clear hH; have hH := (hH2 _ (by (repeat constructor))).tail; clear hH2) | (refine S0T ?_; clear hH; rintro _ w hH) )) | ((first | refine CT ?_ | (refine DT ?_ ?_ <;> intro hc <;> try (exfalso; omega))) <;> repeat' refine CT ?_) | (first | (refine DSK ?_; clear hA a; intro a hA) | (first | (refine DLT ?_; clear hA hH; rintro _ w ⟨oN, rfl, hH⟩; refine ⟨STT, ?_⟩; intro a hA) | (refine DAT ?_; clear hA; rintro _ w ⟨oN, cN, rfl, hH2⟩; clear hH; have hH := (hH2 _ (by (repeat constructor))).tail; clear hH2; refine ⟨STT, ?_⟩; intro a hA))) )
      exact ⟨ks, ⟨hev1, hks⟩, hH, (hA.sub (by (repeat (first | exact trivial | refine ⟨rfl, ?_⟩))))⟩
    obtain ⟨x, hx⟩ : ∃ x, bl.ps.l[j]? = some x := ⟨_, List.getElem?_eq_getElem hlt⟩
    have hcx : (flat Fw.encI bl.ps.l)[j * 1]? = some (.int .i64 x) := flat_get (off := 0) Fw.encI_len hx rfl
    have hel := hev1.le
    rw [List.length_append, List.length_take] at hel
    have hjb : (j : Int) ≤ 1048577 := by omega
    have e1 : p + 2 + (j : Int) + 1 = p + 2 + ((j + 1 : Nat) : Int) := by omega
    repeat' (first | (first | (refine GT ?_ ?_ <;> intro hg <;> clear hA a <;> intro a hA <;> (first | exact FA | replace hg := of_decide_eq_true hg | replace hg := of_decide_eq_false hg | skip)) | ((first | apply st_ex hA hH rfl rfl (by decide) | apply dr_ex hA rfl rfl rfl (by decide) | apply dr_exp hA rfl rfl rfl (by decide) | apply dr_ex3 hA hH rfl rfl rfl (by decide)); (first | (apply ex_indexAddr_nat; rfl; rfl; omega; exact hspP) | (apply ex_load; rfl; exact cl_rd hbR.1.1 id hcx)); clear hA a; intro a hA) | (refine QT ?_; clear hA a; intro a hA) | (first | (refine BT ?_; clear hA hH; rintro _ w ⟨bN, rfl, hH⟩ a hA) | (refine LT ?_; clear hA hH; rintro _ w ⟨oN, rfl, hH⟩ a hA) | (refine AT ?_; clear hA; rintro _ w ⟨oN, cN, rfl, hH2⟩ a hA; clear hH; have hH := (hH2 _ (by (repeat constructor))).tail; clear hH2) | (refine S0T ?_; clear hH; rintro _ w hH) | (apply st_op0 hA rfl rfl; apply op_store_fld (cs' := encC c (p + 2 + (j : Int) + 1)); rfl; rfl; rfl; exact hH; (repeat constructor); clear hH; rintro _ w hH))) | ((first | refine CT ?_ | (refine DT ?_ ?_ <;> intro hc <;> try (exfalso; omega))) <;> repeat' refine CT ?_) | (first | (refine DSK ?_; clear hA a; intro a hA) | (first | (refine DLT ?_; clear hA hH; rintro _ w ⟨oN, rfl, hH⟩; refine ⟨STT, ?_⟩; intro a hA) | (refine DAT ?_; clear hA; rintro _ w ⟨oN, cN, rfl, hH2⟩; clear hH; have hH := (hH2 _ (by (repeat constructor))).tail; clear hH2; refine ⟨STT, ?_⟩; intro a hA))) )
    (refine st_op hA rfl rfl (by decide) (op_call rfl rfl rfl (bind_spec w0 _ _ c bC bW _ _ _ x hH)) ?_; clear hA hH)
    rintro _ w (⟨hb, rfl, hH⟩ | ⟨hb, rfl, hH⟩) a hA
    rotate_left
    · repeat' (first | (first | (refine GT ?_ ?_ <;> intro hg <;> clear hA a <;> intro a hA <;> (first | exact FA | replace hg := of_decide_eq_true hg | replace hg := of_decide_eq_false hg | skip)) | (refine QT ?_; clear hA a; intro a hA) | (first | (refine BT ?_; clear hA hH; rintro _ w ⟨bN, rfl, hH⟩ a hA) | (refine LT ?_; clear hA hH; rintro _ w ⟨oN, rfl, hH⟩ a hA) | (refine AT ?_; clear hA; rintro _ w ⟨oN, cN, rfl, hH2⟩ a hA; clear hH; have hH := (hH2 _ (by (repeat constructor))).tail; clear hH2) | (refine S0T ?_; clear hH; rintro _ w hH) )) | ((first | refine CT ?_ | (refine DT ?_ ?_ <;> intro hc <;> try (exfalso; omega))) <;> repeat' refine CT ?_) | (first | (refine DSK ?_; clear hA a; intro a hA) | (first | (refine DLT ?_; clear hA hH; rintro _ w ⟨oN, rfl, hH⟩; refine ⟨STT, ?_⟩; intro a hA) | (refine DAT ?_; clear hA; rintro _ w ⟨oN, cN, rfl, hH2⟩; clear hH; have hH := (hH2 _ (by (repeat constructor))).tail; clear hH2; refine ⟨STT, ?_⟩; intro a hA))) )
      exact rt1 (.inl rfl) rfl hA rfl (.inl ⟨rfl, hH.tail.tail.tail.tail.tail.tail⟩)
    repeat' (first | (first | (refine GT ?_ ?_ <;> intro hg <;> clear hA a <;> intro a hA <;> (first | exact FA | replace hg := of_decide_eq_true hg | replace hg := of_decide_eq_false hg | skip)) | (refine QT ?_; clear hA a; intro a hA) | (first | (refine BT ?_; clear hA hH; rintro _ w ⟨bN, rfl, hH⟩ a hA) | (refine LT ?_; clear hA hH; rintro _ w ⟨oN, rfl, hH⟩ a hA) | (refine AT ?_; clear hA; rintro _ w ⟨oN, cN, rfl, hH2⟩ a hA; clear hH; have hH := (hH2 _ (by (repeat constructor))).tail; clear hH2) | (refine S0T ?_; clear hH; rintro _ w hH) )) | ((first | refine CT ?_ | (refine DT ?_ ?_ <;> intro hc <;> try (exfalso; omega))) <;> repeat' refine CT ?_) | (first | (refine DSK ?_; clear hA a; intro a hA) | (first | (refine DLT ?_; clear hA hH; rintro _ w ⟨oN, rfl, hH⟩; refine ⟨STT, ?_⟩; intro a hA) | (refine DAT ?_; clear hA; rintro _ w ⟨oN, cN, rfl, hH2⟩; clear hH; have hH := (hH2 _ (by (repeat constructor))).tail; clear hH2; refine ⟨STT, ?_⟩; intro a hA))) )
    have hev2 := hev1.add hb
    rw [ev_ps hx] at hH hev2
    rw [e1] at hH
    exact ⟨j + 1, ⟨_, ⟨hlt, hev2, now_ps hx hks⟩, hH, (hA.sub (by (repeat (first | exact trivial | refine ⟨rfl, ?_⟩))))⟩, by omega⟩
  clear hA hH
  rintro a w ⟨ks, ⟨hev1, hks0⟩, hH, hA⟩
  have hks := now_0 hks0
  clear hks0
  obtain ⟨q0, hq0⟩ : ∃ x, x = p + 2 + (bl.ps.l.length : Int) := ⟨_, rfl⟩
  have hpl : bl.ps.l.length ≤ 1048577 := by
    have := hev1.le
    rw [List.length_append] at this
    omega
  rw [← hq0] at hH
  repeat' (first | (first | (refine GT ?_ ?_ <;> intro hg <;> clear hA a <;> intro a hA <;> (first | exact FA | replace hg := of_decide_eq_true hg | replace hg := of_decide_eq_false hg | skip)) | (refine QT ?_; clear hA a; intro a hA) | (first | (refine BT ?_; clear hA hH; rintro _ w ⟨bN, rfl, hH⟩ a hA) | (refine LT ?_; clear hA hH; rintro _ w ⟨oN, rfl, hH⟩ a hA) | (refine AT ?_; clear hA; rintro _ w ⟨oN, cN, rfl, hH2⟩ a hA; clear hH; have hH := (hH2 _ (by (repeat constructor))).tail; clear hH2) | (refine S0T ?_; clear hH; rintro _ w hH) )) | ((first | refine CT ?_ | (refine DT ?_ ?_ <;> intro hc <;> try (exfalso; omega))) <;> repeat' refine CT ?_) | (first | (refine DSK ?_; clear hA a; intro a hA) | (first | (refine DLT ?_; clear hA hH; rintro _ w ⟨oN, rfl, hH⟩; refine ⟨STT, ?_⟩; intro a hA) | (refine DAT ?_; clear hA; rintro _ w ⟨oN, cN, rfl, hH2⟩; clear hH; have hH := (hH2 _ (by (repeat constructor))).tail; clear hH2; refine ⟨STT, ?_⟩; intro a hA))) )
  refine wp_lpk (S := Nat) (fun i a w => ∃ ks q, (i ≤ bl.is.l.length ∧ EvOk (es ++ bl.ps.l ++ (bl.is.l.take i).map Ins.x) ∧ (∀ y, y ∈ ks ↔ nowS k0 bl i y) ∧ (∀ k x, bl.is.l[k]? = some x → k < i → ∀ a ∈ x.r.a.l, atS c.g (nowS k0 bl k) a) ∧ q0 + (i : Int) ≤ q ∧ q ≤ 1200000) ∧
      HS w0 noM (cb bC 95 (encC c (q)) :: sk c.bE (es ++ bl.ps.l ++ (bl.is.l.take i).map Ins.x) :: sk bW ks :: own 71 1 c.oT c.nT c.cT (flat encO (tc)) :: all (th0.map sko) :: cb b5 52 (encBl bl) :: H) w ∧
      Sl 190 [(70, .int .i64 i), (69, .int .i64 bl.is.l.length), (68, .slice bl.is.o bl.is.l.length bl.is.c), (5, .pointer (some (bat b5 0))), (6, .map (some bW)), (0, .pointer (some (bat bC 0))), (1, .int .i64 n)] a) (fun i => bl.is.l.length - i)
    (fun a w => ∃ ks q, (EvOk (es ++ bvs bl) ∧ (∀ y, y ∈ ks ↔ nowS k0 bl bl.is.l.length y) ∧ (∀ k x, bl.is.l[k]? = some x → ∀ a ∈ x.r.a.l, atS c.g (nowS k0 bl k) a) ∧ q0 + (bl.is.l.length : Int) ≤ q ∧ q ≤ 1200000) ∧
      HS w0 noM (cb bC 95 (encC c (q)) :: sk c.bE (es ++ bvs bl) :: sk bW ks :: own 71 1 c.oT c.nT c.cT (flat encO (tc)) :: all (th0.map sko) :: cb b5 52 (encBl bl) :: H) w ∧
      Sl 190 [(5, .pointer (some (bat b5 0))), (6, .map (some bW)), (0, .pointer (some (bat bC 0))), (1, .int .i64 n)] a) 0 ⟨ks, q0, ⟨Nat.zero_le _, (by rw [List.take_zero, List.map_nil, List.append_nil]; exact hev1), hks, fun k x hk h => absurd h (Nat.not_lt_zero _), by omega, by omega⟩, (by rw [List.take_zero, List.map_nil, List.append_nil]; exact hH), (hA.sub (by (repeat (first | exact trivial | refine ⟨rfl, ?_⟩))))⟩ ?_ ?_
  · clear hA hH hev1 hks
    rintro i a w ⟨ks, q, ⟨hi, hev1, hks, hins, hq1, hq2⟩, hH, hA⟩
    by_cases hlt : i < bl.is.l.length
    rotate_left
    · obtain rfl : i = bl.is.l.length := by omega
      rw [ev_end] at hev1 hH
      repeat' (first | (first | (refine GT ?_ ?_ <;> intro hg <;> clear hA a <;> intro a hA <;> (first | exact FA | replace hg := of_decide_eq_true hg | replace hg := of_decide_eq_false hg | skip)) | (refine QT ?_; clear hA a; intro a hA) | (first | (refine BT ?_; clear hA hH; rintro _ w ⟨bN, rfl, hH⟩ a hA) | (refine LT ?_; clear hA hH; rintro _ w ⟨oN, rfl, hH⟩ a hA) | (refine AT ?_; clear hA; rintro _ w ⟨oN, cN, rfl, hH2⟩ a hA; clear hH; have hH := (hH2 _ (by (repeat constructor))).tail; clear hH2) | (refine S0T ?_; clear hH; rintro _ w hH) )) | ((first | refine CT ?_ | (refine DT ?_ ?_ <;> intro hc <;> try (exfalso; omega))) <;> repeat' refine CT ?_) | (first | (refine DSK ?_; clear hA a; intro a hA) | (first | (refine DLT ?_; clear hA hH; rintro _ w ⟨oN, rfl, hH⟩; refine ⟨STT, ?_⟩; intro a hA) | (refine DAT ?_; clear hA; rintro _ w ⟨oN, cN, rfl, hH2⟩; clear hH; have hH := (hH2 _ (by (repeat constructor))).tail; clear hH2; refine ⟨STT, ?_⟩; intro a hA))) )
      exact ⟨ks, q, ⟨hev1, hks, fun k x hk => hins k x hk (List.getElem?_eq_some_iff.1 hk).1, hq1, hq2⟩, hH, (hA.sub (by (repeat (first | exact trivial | refine ⟨rfl, ?_⟩))))⟩
    obtain ⟨x, hx⟩ : ∃ x, bl.is.l[i]? = some x := ⟨_, List.getElem?_eq_getElem hlt⟩
    have hxR := hbR.2.2.1 x (List.mem_of_getElem? hx)
    have hvi := flat_all encIn_len hx
    repeat' (first | (first | (refine GT ?_ ?_ <;> intro hg <;> clear hA a <;> intro a hA <;> (first | exact FA | replace hg := of_decide_eq_true hg | replace hg := of_decide_eq_false hg | skip)) | ((first | apply st_ex hA hH rfl rfl (by decide) | apply dr_ex hA rfl rfl rfl (by decide) | apply dr_exp hA rfl rfl rfl (by decide) | apply dr_ex3 hA hH rfl rfl rfl (by decide)); (first | (apply ex_load_st (vs := encIn x); rfl; rfl; exact cls_rd hbR.2.1.1 id hvi) | (apply ex_indexAddr_nat; rfl; rfl; omega; exact hspI)); clear hA a; intro a hA) | (refine QT ?_; clear hA a; intro a hA) | (first | (refine BT ?_; clear hA hH; rintro _ w ⟨bN, rfl, hH⟩ a hA) | (refine LT ?_; clear hA hH; rintro _ w ⟨oN, rfl, hH⟩ a hA) | (refine AT ?_; clear hA; rintro _ w ⟨oN, cN, rfl, hH2⟩ a hA; clear hH; have hH := (hH2 _ (by (repeat constructor))).tail; clear hH2) | (refine S0T ?_; clear hH; rintro _ w hH) | (apply st_op0 hA rfl rfl; apply op_store_agg (vs := encIn x); rfl; rfl; exact hH; (repeat constructor); (repeat rfl); clear hH; rintro _ w hH) | (apply st_op0 hA rfl rfl; apply op_store_fld (cs' := encC c (q + 1)); rfl; rfl; rfl; exact hH; (repeat constructor); clear hH; rintro _ w hH))) | ((first | refine CT ?_ | (refine DT ?_ ?_ <;> intro hc <;> try (exfalso; omega))) <;> repeat' refine CT ?_) | (first | (refine DSK ?_; clear hA a; intro a hA) | (first | (refine DLT ?_; clear hA hH; rintro _ w ⟨oN, rfl, hH⟩; refine ⟨STT, ?_⟩; intro a hA) | (refine DAT ?_; clear hA; rintro _ w ⟨oN, cN, rfl, hH2⟩; clear hH; have hH := (hH2 _ (by (repeat constructor))).tail; clear hH2; refine ⟨STT, ?_⟩; intro a hA))) )
    · exact rt1 (.inl rfl) rfl hA rfl (.inl ⟨rfl, hH.tail.tail.tail.tail.tail.tail.tail⟩)
    repeat' (first | (first | (refine GT ?_ ?_ <;> intro hg <;> clear hA a <;> intro a hA <;> (first | exact FA | replace hg := of_decide_eq_true hg | replace hg := of_decide_eq_false hg | skip)) | ((first | apply st_ex hA hH rfl rfl (by decide) | apply dr_ex hA rfl rfl rfl (by decide) | apply dr_exp hA rfl rfl rfl (by decide) | apply dr_ex3 hA hH rfl rfl rfl (by decide)); (first | (apply ex_load_st (vs := encSt x.r); rfl; rfl; exact cls_cb MEMT (sub_st x))); clear hA a; intro a hA) | (refine QT ?_; clear hA a; intro a hA) | (first | (refine BT ?_; clear hA hH; rintro _ w ⟨bN, rfl, hH⟩ a hA) | (refine LT ?_; clear hA hH; rintro _ w ⟨oN, rfl, hH⟩ a hA) | (refine AT ?_; clear hA; rintro _ w ⟨oN, cN, rfl, hH2⟩ a hA; clear hH; have hH := (hH2 _ (by (repeat constructor))).tail; clear hH2) | (refine S0T ?_; clear hH; rintro _ w hH) )) | ((first | refine CT ?_ | (refine DT ?_ ?_ <;> intro hc <;> try (exfalso; omega))) <;> repeat' refine CT ?_) | (first | (refine DSK ?_; clear hA a; intro a hA) | (first | (refine DLT ?_; clear hA hH; rintro _ w ⟨oN, rfl, hH⟩; refine ⟨STT, ?_⟩; intro a hA) | (refine DAT ?_; clear hA; rintro _ w ⟨oN, cN, rfl, hH2⟩; clear hH; have hH := (hH2 _ (by (repeat constructor))).tail; clear hH2; refine ⟨STT, ?_⟩; intro a hA))) )
    replace hH := hH.perm (H' := cb bC 95 (encC c (q + 1)) :: sk bW ks :: sk c.bE (es ++ bl.ps.l ++ (bl.is.l.take i).map Ins.x) :: own 71 1 c.oT c.nT c.cT (flat encO (tc)) :: all (th0.map sko) :: cb b5 52 (encBl bl) :: cb bN 58 (encIn x) :: H) (by (repeat (first | exact List.Perm.refl _ | exact List.Perm.nil | refine perm_pick 0 rfl ?_ | refine perm_pick 1 rfl ?_ | refine perm_pick 2 rfl ?_ | refine perm_pick 3 rfl ?_ | refine perm_pick 4 rfl ?_ | refine perm_pick 5 rfl ?_ | refine perm_pick 6 rfl ?_ | refine perm_pick 7 rfl ?_ | refine perm_pick 8 rfl ?_ | refine perm_pick 9 rfl ?_ | refine perm_pick 10 rfl ?_ | refine perm_pick 11 rfl ?_)))
    (refine st_op hA rfl rfl (by decide) (op_call rfl rfl rfl (step2_spec w0 _ _ c bC (q + 1) la x.r hH (.tail _ (.tail _ (.tail _ (.tail _ (.tail _ (.tail _ hm)))))) hla hla9 hxR.1)) ?_; clear hA hH)
    rintro _ w ⟨bb, rfl, hH⟩ a hA
    cases bb with
    | false =>
      repeat' (first | (first | (refine GT ?_ ?_ <;> intro hg <;> clear hA a <;> intro a hA <;> (first | exact FA | replace hg := of_decide_eq_true hg | replace hg := of_decide_eq_false hg | skip)) | (refine QT ?_; clear hA a; intro a hA) | (first | (refine BT ?_; clear hA hH; rintro _ w ⟨bN, rfl, hH⟩ a hA) | (refine LT ?_; clear hA hH; rintro _ w ⟨oN, rfl, hH⟩ a hA) | (refine AT ?_; clear hA; rintro _ w ⟨oN, cN, rfl, hH2⟩ a hA; clear hH; have hH := (hH2 _ (by (repeat constructor))).tail; clear hH2) | (refine S0T ?_; clear hH; rintro _ w hH) )) | ((first | refine CT ?_ | (refine DT ?_ ?_ <;> intro hc <;> try (exfalso; omega))) <;> repeat' refine CT ?_) | (first | (refine DSK ?_; clear hA a; intro a hA) | (first | (refine DLT ?_; clear hA hH; rintro _ w ⟨oN, rfl, hH⟩; refine ⟨STT, ?_⟩; intro a hA) | (refine DAT ?_; clear hA; rintro _ w ⟨oN, cN, rfl, hH2⟩; clear hH; have hH := (hH2 _ (by (repeat constructor))).tail; clear hH2; refine ⟨STT, ?_⟩; intro a hA))) )
      exact rt1 (.inl rfl) rfl hA rfl (.inl ⟨rfl, hH.tail.tail.tail.tail.tail.tail.tail⟩)
    | true =>
      repeat' (first | (first | (refine GT ?_ ?_ <;> intro hg <;> clear hA a <;> intro a hA <;> (first | exact FA | replace hg := of_decide_eq_true hg | replace hg := of_decide_eq_false hg | skip)) | (refine QT ?_; clear hA a; intro a hA) | (first | (refine BT ?_; clear hA hH; rintro _ w ⟨bN, rfl, hH⟩ a hA) | (refine LT ?_; clear hA hH; rintro _ w ⟨oN, rfl, hH⟩ a hA) | (refine AT ?_; clear hA; rintro _ w ⟨oN, cN, rfl, hH2⟩ a hA; clear hH; have hH := (hH2 _ (by (repeat constructor))).tail; clear hH2) | (refine S0T ?_; clear hH; rintro _ w hH) )) | ((first | refine CT ?_ | (refine DT ?_ ?_ <;> intro hc <;> try (exfalso; omega))) <;> repeat' refine CT ?_) | (first | (refine DSK ?_; clear hA a; intro a hA) | (first | (refine DLT ?_; clear hA hH; rintro _ w ⟨oN, rfl, hH⟩; refine ⟨STT, ?_⟩; intro a hA) | (refine DAT ?_; clear hA; rintro _ w ⟨oN, cN, rfl, hH2⟩; clear hH; have hH := (hH2 _ (by (repeat constructor))).tail; clear hH2; refine ⟨STT, ?_⟩; intro a hA))) )
      (refine st_op hA rfl rfl (by decide) (op_call rfl rfl rfl (atoms_spec w0 _ _ c bC bW (q + 1) ks x.r.a hH hxR.2 (by omega) (by omega))) ?_; clear hA hH)
      rintro _ w (⟨hat, rfl, hH⟩ | ⟨hat, rfl, q', hq3, hq4, hH⟩) a hA
      rotate_left
      · repeat' (first | (first | (refine GT ?_ ?_ <;> intro hg <;> clear hA a <;> intro a hA <;> (first | exact FA | replace hg := of_decide_eq_true hg | replace hg := of_decide_eq_false hg | skip)) | (refine QT ?_; clear hA a; intro a hA) | (first | (refine BT ?_; clear hA hH; rintro _ w ⟨bN, rfl, hH⟩ a hA) | (refine LT ?_; clear hA hH; rintro _ w ⟨oN, rfl, hH⟩ a hA) | (refine AT ?_; clear hA; rintro _ w ⟨oN, cN, rfl, hH2⟩ a hA; clear hH; have hH := (hH2 _ (by (repeat constructor))).tail; clear hH2) | (refine S0T ?_; clear hH; rintro _ w hH) )) | ((first | refine CT ?_ | (refine DT ?_ ?_ <;> intro hc <;> try (exfalso; omega))) <;> repeat' refine CT ?_) | (first | (refine DSK ?_; clear hA a; intro a hA) | (first | (refine DLT ?_; clear hA hH; rintro _ w ⟨oN, rfl, hH⟩; refine ⟨STT, ?_⟩; intro a hA) | (refine DAT ?_; clear hA; rintro _ w ⟨oN, cN, rfl, hH2⟩; clear hH; have hH := (hH2 _ (by (repeat constructor))).tail; clear hH2; refine ⟨STT, ?_⟩; intro a hA))) )
        exact rt1 (.inl rfl) rfl hA rfl (.inl ⟨rfl, hH.tail.tail.tail.tail.tail.tail.tail⟩)
      repeat' (first | (first | (refine GT ?_ ?_ <;> intro hg <;> clear hA a <;> intro a hA <;> (first | exact FA | replace hg := of_decide_eq_true hg | replace hg := of_decide_eq_false hg | skip)) | (refine QT ?_; clear hA a; intro a hA) | (first | (refine BT ?_; clear hA hH; rintro _ w ⟨bN, rfl, hH⟩ a hA) | (refine LT ?_; clear hA hH; rintro _ w ⟨oN, rfl, hH⟩ a hA) | (refine AT ?_; clear hA; rintro _ w ⟨oN, cN, rfl, hH2⟩ a hA; clear hH; have hH := (hH2 _ (by (repeat constructor))).tail; clear hH2) | (refine S0T ?_; clear hH; rintro _ w hH) )) | ((first | refine CT ?_ | (refine DT ?_ ?_ <;> intro hc <;> try (exfalso; omega))) <;> repeat' refine CT ?_) | (first | (refine DSK ?_; clear hA a; intro a hA) | (first | (refine DLT ?_; clear hA hH; rintro _ w ⟨oN, rfl, hH⟩; refine ⟨STT, ?_⟩; intro a hA) | (refine DAT ?_; clear hA; rintro _ w ⟨oN, cN, rfl, hH2⟩; clear hH; have hH := (hH2 _ (by (repeat constructor))).tail; clear hH2; refine ⟨STT, ?_⟩; intro a hA))) )
      replace hH := hH.perm (H' := cb bC 95 (encC c (q + 1 + (x.r.a.l.length : Int))) :: sk c.bE (es ++ bl.ps.l ++ (bl.is.l.take i).map Ins.x) :: sk bW ks :: own 71 1 c.oT c.nT c.cT (flat encO (tc)) :: all (th0.map sko) :: cb b5 52 (encBl bl) :: cb bN 58 (encIn x) :: H) (by (repeat (first | exact List.Perm.refl _ | exact List.Perm.nil | refine perm_pick 0 rfl ?_ | refine perm_pick 1 rfl ?_ | refine perm_pick 2 rfl ?_ | refine perm_pick 3 rfl ?_ | refine perm_pick 4 rfl ?_ | refine perm_pick 5 rfl ?_ | refine perm_pick 6 rfl ?_ | refine perm_pick 7 rfl ?_ | refine perm_pick 8 rfl ?_ | refine perm_pick 9 rfl ?_ | refine perm_pick 10 rfl ?_ | refine perm_pick 11 rfl ?_)))
      (refine st_op hA rfl rfl (by decide) (op_call rfl rfl rfl (bind_spec w0 _ _ c bC bW _ _ _ x.x hH)) ?_; clear hA hH)
      rintro _ w (⟨hb, rfl, hH⟩ | ⟨hb, rfl, hH⟩) a hA
      rotate_left
      · repeat' (first | (first | (refine GT ?_ ?_ <;> intro hg <;> clear hA a <;> intro a hA <;> (first | exact FA | replace hg := of_decide_eq_true hg | replace hg := of_decide_eq_false hg | skip)) | (refine QT ?_; clear hA a; intro a hA) | (first | (refine BT ?_; clear hA hH; rintro _ w ⟨bN, rfl, hH⟩ a hA) | (refine LT ?_; clear hA hH; rintro _ w ⟨oN, rfl, hH⟩ a hA) | (refine AT ?_; clear hA; rintro _ w ⟨oN, cN, rfl, hH2⟩ a hA; clear hH; have hH := (hH2 _ (by (repeat constructor))).tail; clear hH2) | (refine S0T ?_; clear hH; rintro _ w hH) )) | ((first | refine CT ?_ | (refine DT ?_ ?_ <;> intro hc <;> try (exfalso; omega))) <;> repeat' refine CT ?_) | (first | (refine DSK ?_; clear hA a; intro a hA) | (first | (refine DLT ?_; clear hA hH; rintro _ w ⟨oN, rfl, hH⟩; refine ⟨STT, ?_⟩; intro a hA) | (refine DAT ?_; clear hA; rintro _ w ⟨oN, cN, rfl, hH2⟩; clear hH; have hH := (hH2 _ (by (repeat constructor))).tail; clear hH2; refine ⟨STT, ?_⟩; intro a hA))) )
        exact rt1 (.inl rfl) rfl hA rfl (.inl ⟨rfl, hH.tail.tail.tail.tail.tail.tail.tail⟩)
      repeat' (first | (first | (refine GT ?_ ?_ <;> intro hg <;> clear hA a <;> intro a hA <;> (first | exact FA | replace hg := of_decide_eq_true hg | replace hg := of_decide_eq_false hg | skip)) | (refine QT ?_; clear hA a; intro a hA) | (first | (refine BT ?_; clear hA hH; rintro _ w ⟨bN, rfl, hH⟩ a hA) | (refine LT ?_; clear hA hH; rintro _ w ⟨oN, rfl, hH⟩ a hA) | (refine AT ?_; clear hA; rintro _ w ⟨oN, cN, rfl, hH2⟩ a hA; clear hH; have hH := (hH2 _ (by (repeat constructor))).tail; clear hH2) | (refine S0T ?_; clear hH; rintro _ w hH) )) | ((first | refine CT ?_ | (refine DT ?_ ?_ <;> intro hc <;> try (exfalso; omega))) <;> repeat' refine CT ?_) | (first | (refine DSK ?_; clear hA a; intro a hA) | (first | (refine DLT ?_; clear hA hH; rintro _ w ⟨oN, rfl, hH⟩; refine ⟨STT, ?_⟩; intro a hA) | (refine DAT ?_; clear hA; rintro _ w ⟨oN, cN, rfl, hH2⟩; clear hH; have hH := (hH2 _ (by (repeat constructor))).tail; clear hH2; refine ⟨STT, ?_⟩; intro a hA))) )
      have hev2 := hev1.add hb
      rw [ev_is hx] at hH hev2
      have hql : q + 1 + (x.r.a.l.length : Int) ≤ 1200000 := by
        rcases hat.2 with h | h
        · rw [h]
          show q + 1 + (0 : Int) ≤ _
          omega
        · omega
      exact ⟨i + 1, ⟨_, _, ⟨hlt, hev2, now_next hx hks, ins_next hx hins hks hat.1, by omega, hql⟩, hH.rm 6, (hA.sub (by (repeat (first | exact trivial | refine ⟨rfl, ?_⟩))))⟩, by omega⟩
  clear hA hH hev1 hks
  rintro a w ⟨ks, q, ⟨hev1, hks, hins, hq1, hq2⟩, hH, hA⟩
  have hsubE := sub_en bl
  repeat' (first | (first | (refine GT ?_ ?_ <;> intro hg <;> clear hA a <;> intro a hA <;> (first | exact FA | replace hg := of_decide_eq_true hg | replace hg := of_decide_eq_false hg | skip)) | ((first | apply st_ex hA hH rfl rfl (by decide) | apply dr_ex hA rfl rfl rfl (by decide) | apply dr_exp hA rfl rfl rfl (by decide) | apply dr_ex3 hA hH rfl rfl rfl (by decide)); (first | (apply ex_load_st (vs := encEn bl.e); rfl; rfl; exact cls_cb MEMT hsubE)); clear hA a; intro a hA) | (refine QT ?_; clear hA a; intro a hA) | (first | (refine BT ?_; clear hA hH; rintro _ w ⟨bN, rfl, hH⟩ a hA) | (refine LT ?_; clear hA hH; rintro _ w ⟨oN, rfl, hH⟩ a hA) | (refine AT ?_; clear hA; rintro _ w ⟨oN, cN, rfl, hH2⟩ a hA; clear hH; have hH := (hH2 _ (by (repeat constructor))).tail; clear hH2) | (refine S0T ?_; clear hH; rintro _ w hH) )) | ((first | refine CT ?_ | (refine DT ?_ ?_ <;> intro hc <;> try (exfalso; omega))) <;> repeat' refine CT ?_) | (first | (refine DSK ?_; clear hA a; intro a hA) | (first | (refine DLT ?_; clear hA hH; rintro _ w ⟨oN, rfl, hH⟩; refine ⟨STT, ?_⟩; intro a hA) | (refine DAT ?_; clear hA; rintro _ w ⟨oN, cN, rfl, hH2⟩; clear hH; have hH := (hH2 _ (by (repeat constructor))).tail; clear hH2; refine ⟨STT, ?_⟩; intro a hA))) )
  (refine st_op hA rfl rfl (by decide) (op_call rfl rfl rfl (end_spec _ bl.e (hbR.2.2.2.2.1.keep hH.kp))) ?_; clear hA)
  rintro _ w ⟨bb, rfl, hk⟩ a hA
  replace hH := hH.keep hk
  clear hk
  cases bb with
  | false =>
    repeat' (first | (first | (refine GT ?_ ?_ <;> intro hg <;> clear hA a <;> intro a hA <;> (first | exact FA | replace hg := of_decide_eq_true hg | replace hg := of_decide_eq_false hg | skip)) | (refine QT ?_; clear hA a; intro a hA) | (first | (refine BT ?_; clear hA hH; rintro _ w ⟨bN, rfl, hH⟩ a hA) | (refine LT ?_; clear hA hH; rintro _ w ⟨oN, rfl, hH⟩ a hA) | (refine AT ?_; clear hA; rintro _ w ⟨oN, cN, rfl, hH2⟩ a hA; clear hH; have hH := (hH2 _ (by (repeat constructor))).tail; clear hH2) | (refine S0T ?_; clear hH; rintro _ w hH) )) | ((first | refine CT ?_ | (refine DT ?_ ?_ <;> intro hc <;> try (exfalso; omega))) <;> repeat' refine CT ?_) | (first | (refine DSK ?_; clear hA a; intro a hA) | (first | (refine DLT ?_; clear hA hH; rintro _ w ⟨oN, rfl, hH⟩; refine ⟨STT, ?_⟩; intro a hA) | (refine DAT ?_; clear hA; rintro _ w ⟨oN, cN, rfl, hH2⟩; clear hH; have hH := (hH2 _ (by (repeat constructor))).tail; clear hH2; refine ⟨STT, ?_⟩; intro a hA))) )
    exact rt1 (.inl rfl) rfl hA rfl (.inl ⟨rfl, hH.tail.tail.tail.tail.tail.tail⟩)
  | true =>
  repeat' (first | (first | (refine GT ?_ ?_ <;> intro hg <;> clear hA a <;> intro a hA <;> (first | exact FA | replace hg := of_decide_eq_true hg | replace hg := of_decide_eq_false hg | skip)) | (refine QT ?_; clear hA a; intro a hA) | (first | (refine BT ?_; clear hA hH; rintro _ w ⟨bN, rfl, hH⟩ a hA) | (refine LT ?_; clear hA hH; rintro _ w ⟨oN, rfl, hH⟩ a hA) | (refine AT ?_; clear hA; rintro _ w ⟨oN, cN, rfl, hH2⟩ a hA; clear hH; have hH := (hH2 _ (by (repeat constructor))).tail; clear hH2) | (refine S0T ?_; clear hH; rintro _ w hH) )) | ((first | refine CT ?_ | (refine DT ?_ ?_ <;> intro hc <;> try (exfalso; omega))) <;> repeat' refine CT ?_) | (first | (refine DSK ?_; clear hA a; intro a hA) | (first | (refine DLT ?_; clear hA hH; rintro _ w ⟨oN, rfl, hH⟩; refine ⟨STT, ?_⟩; intro a hA) | (refine DAT ?_; clear hA; rintro _ w ⟨oN, cN, rfl, hH2⟩; clear hH; have hH := (hH2 _ (by (repeat constructor))).tail; clear hH2; refine ⟨STT, ?_⟩; intro a hA))) )
  replace hH := hH.perm (H' := cb bC 95 (encC c (q)) :: sk bW ks :: sk c.bE (es ++ bvs bl) :: own 71 1 c.oT c.nT c.cT (flat encO (tc)) :: all (th0.map sko) :: cb b5 52 (encBl bl) :: H) (by (repeat (first | exact List.Perm.refl _ | exact List.Perm.nil | refine perm_pick 0 rfl ?_ | refine perm_pick 1 rfl ?_ | refine perm_pick 2 rfl ?_ | refine perm_pick 3 rfl ?_ | refine perm_pick 4 rfl ?_ | refine perm_pick 5 rfl ?_ | refine perm_pick 6 rfl ?_ | refine perm_pick 7 rfl ?_ | refine perm_pick 8 rfl ?_ | refine perm_pick 9 rfl ?_ | refine perm_pick 10 rfl ?_ | refine perm_pick 11 rfl ?_)))
  (refine st_op hA rfl rfl (by decide) (op_call rfl rfl rfl (atoms_spec w0 _ _ c bC bW q ks bl.e.a hH hbR.2.2.2.1 (by omega) (by omega))) ?_; clear hA hH)
  rintro _ w (⟨hat, rfl, hH⟩ | ⟨hat, rfl, q', hq3, hq4, hH⟩) a hA
  rotate_left
  · repeat' (first | (first | (refine GT ?_ ?_ <;> intro hg <;> clear hA a <;> intro a hA <;> (first | exact FA | replace hg := of_decide_eq_true hg | replace hg := of_decide_eq_false hg | skip)) | (refine QT ?_; clear hA a; intro a hA) | (first | (refine BT ?_; clear hA hH; rintro _ w ⟨bN, rfl, hH⟩ a hA) | (refine LT ?_; clear hA hH; rintro _ w ⟨oN, rfl, hH⟩ a hA) | (refine AT ?_; clear hA; rintro _ w ⟨oN, cN, rfl, hH2⟩ a hA; clear hH; have hH := (hH2 _ (by (repeat constructor))).tail; clear hH2) | (refine S0T ?_; clear hH; rintro _ w hH) )) | ((first | refine CT ?_ | (refine DT ?_ ?_ <;> intro hc <;> try (exfalso; omega))) <;> repeat' refine CT ?_) | (first | (refine DSK ?_; clear hA a; intro a hA) | (first | (refine DLT ?_; clear hA hH; rintro _ w ⟨oN, rfl, hH⟩; refine ⟨STT, ?_⟩; intro a hA) | (refine DAT ?_; clear hA; rintro _ w ⟨oN, cN, rfl, hH2⟩; clear hH; have hH := (hH2 _ (by (repeat constructor))).tail; clear hH2; refine ⟨STT, ?_⟩; intro a hA))) )
    exact rt1 (.inl rfl) rfl hA rfl (.inl ⟨rfl, hH.tail.tail.tail.tail.tail.tail⟩)
  have hends : ∀ a ∈ bl.e.a.l, atS c.g (nowS k0 bl bl.is.l.length) a := fun a ha => at_of hks (hat.1 a ha)
  have hql : q + (bl.e.a.l.length : Int) ≤ 1200000 := by
    rcases hat.2 with h | h
    · rw [h]
      show q + (0 : Int) ≤ _
      omega
    · omega
  obtain ⟨q2, hq2e⟩ : ∃ x, x = q + (bl.e.a.l.length : Int) := ⟨_, rfl⟩
  rw [← hq2e] at hH hql
  have hq5 : q0 + (bl.is.l.length : Int) ≤ q2 := by omega
  have hspE : Sp bl.e.to.o bl.e.to.l.length := hbR.2.2.2.2.2.1.1.sp (sz := 2) (flat_length encEd_len _) (by omega)
  repeat' (first | (first | (refine GT ?_ ?_ <;> intro hg <;> clear hA a <;> intro a hA <;> (first | exact FA | replace hg := of_decide_eq_true hg | replace hg := of_decide_eq_false hg | skip)) | (refine QT ?_; clear hA a; intro a hA) | (first | (refine BT ?_; clear hA hH; rintro _ w ⟨bN, rfl, hH⟩ a hA) | (refine LT ?_; clear hA hH; rintro _ w ⟨oN, rfl, hH⟩ a hA) | (refine AT ?_; clear hA; rintro _ w ⟨oN, cN, rfl, hH2⟩ a hA; clear hH; have hH := (hH2 _ (by (repeat constructor))).tail; clear hH2) | (refine S0T ?_; clear hH; rintro _ w hH) )) | ((first | refine CT ?_ | (refine DT ?_ ?_ <;> intro hc <;> try (exfalso; omega))) <;> repeat' refine CT ?_) | (first | (refine DSK ?_; clear hA a; intro a hA) | (first | (refine DLT ?_; clear hA hH; rintro _ w ⟨oN, rfl, hH⟩; refine ⟨STT, ?_⟩; intro a hA) | (refine DAT ?_; clear hA; rintro _ w ⟨oN, cN, rfl, hH2⟩; clear hH; have hH := (hH2 _ (by (repeat constructor))).tail; clear hH2; refine ⟨STT, ?_⟩; intro a hA))) )
  refine wp_lpk (S := Nat) (fun j a w => ∃ tc' th' q, (j ≤ bl.e.to.l.length ∧ q2 ≤ q ∧ q ≤ 1200000 + (j : Int) ∧ ThR th0 (nowS k0 bl bl.is.l.length) (bl.e.to.l.take j) th' ∧ tc'.length = tc.length ∧ (∀ m, n < m → tc'[m]? = th'[m]?) ∧
        ∀ t ∈ bl.e.to.l.take j, (n : Int) < t.b ∧ t.b < c.f.bs.l.length ∧ ∀ a ∈ t.a.l, atS c.g (nowS k0 bl bl.is.l.length) a) ∧
      HS w0 noM (cb bC 95 (encC c (q)) :: sk bW ks :: sk c.bE (es ++ bvs bl) :: own 71 1 c.oT c.nT c.cT (flat encO (tc')) :: all (th'.map sko) :: cb b5 52 (encBl bl) :: H) w ∧
      Sl 190 [(128, .int .i64 j), (127, .int .i64 bl.e.to.l.length), (126, .slice bl.e.to.o bl.e.to.l.length bl.e.to.c), (6, .map (some bW)), (0, .pointer (some (bat bC 0))), (1, .int .i64 n)] a) (fun j => bl.e.to.l.length - j)
    (fun a w => ∃ tc' th' q, (q2 ≤ q ∧ q ≤ 2300000 ∧ ThR th0 (nowS k0 bl bl.is.l.length) bl.e.to.l th' ∧ tc'.length = tc.length ∧ (∀ m, n < m → tc'[m]? = th'[m]?) ∧
        ∀ t ∈ bl.e.to.l, (n : Int) < t.b ∧ t.b < c.f.bs.l.length ∧ ∀ a ∈ t.a.l, atS c.g (nowS k0 bl bl.is.l.length) a) ∧
      HS w0 noM (cb bC 95 (encC c (q)) :: sk bW ks :: sk c.bE (es ++ bvs bl) :: own 71 1 c.oT c.nT c.cT (flat encO (tc')) :: all (th'.map sko) :: cb b5 52 (encBl bl) :: H) w ∧
      Sl 190 [(0, .pointer (some (bat bC 0)))] a) 0 ⟨tc, th0, q2, ⟨Nat.zero_le _, Int.le_refl _, by omega, by rw [List.take_zero]; exact thR_0 _ _, rfl, hag0, by rw [List.take_zero]; exact fun t h => absurd h List.not_mem_nil⟩, hH, (hA.sub (by (repeat (first | exact trivial | refine ⟨rfl, ?_⟩))))⟩ ?_ ?_
  · clear hA hH
    rintro j a w ⟨tc', th', q, ⟨hj, hqa, hqb, hth, htl, hag', heds⟩, hH, hA⟩
    by_cases hlt : j < bl.e.to.l.length
    rotate_left
    · obtain rfl : j = bl.e.to.l.length := by omega
      rw [List.take_length] at hth heds
      repeat' (first | (first | (refine GT ?_ ?_ <;> intro hg <;> clear hA a <;> intro a hA <;> (first | exact FA | replace hg := of_decide_eq_true hg | replace hg := of_decide_eq_false hg | skip)) | (refine QT ?_; clear hA a; intro a hA) | (first | (refine BT ?_; clear hA hH; rintro _ w ⟨bN, rfl, hH⟩ a hA) | (refine LT ?_; clear hA hH; rintro _ w ⟨oN, rfl, hH⟩ a hA) | (refine AT ?_; clear hA; rintro _ w ⟨oN, cN, rfl, hH2⟩ a hA; clear hH; have hH := (hH2 _ (by (repeat constructor))).tail; clear hH2) | (refine S0T ?_; clear hH; rintro _ w hH) )) | ((first | refine CT ?_ | (refine DT ?_ ?_ <;> intro hc <;> try (exfalso; omega))) <;> repeat' refine CT ?_) | (first | (refine DSK ?_; clear hA a; intro a hA) | (first | (refine DLT ?_; clear hA hH; rintro _ w ⟨oN, rfl, hH⟩; refine ⟨STT, ?_⟩; intro a hA) | (refine DAT ?_; clear hA; rintro _ w ⟨oN, cN, rfl, hH2⟩; clear hH; have hH := (hH2 _ (by (repeat constructor))).tail; clear hH2; refine ⟨STT, ?_⟩; intro a hA))) )
      exact ⟨tc', th', q, ⟨hqa, by omega, hth, htl, hag', heds⟩, hH, (hA.sub (by (repeat (first | exact trivial | refine ⟨rfl, ?_⟩))))⟩
    obtain ⟨t, ht⟩ : ∃ x, bl.e.to.l[j]? = some x := ⟨_, List.getElem?_eq_getElem hlt⟩
    have htR := hbR.2.2.2.2.2.2 t (List.mem_of_getElem? ht)
    have hvt := flat_all encEd_len ht
    repeat' (first | (first | (refine GT ?_ ?_ <;> intro hg <;> clear hA a <;> intro a hA <;> (first | exact FA | replace hg := of_decide_eq_true hg | replace hg := of_decide_eq_false hg | skip)) | ((first | apply st_ex hA hH rfl rfl (by decide) | apply dr_ex hA rfl rfl rfl (by decide) | apply dr_exp hA rfl rfl rfl (by decide) | apply dr_ex3 hA hH rfl rfl rfl (by decide)); (first | (apply ex_load_st (vs := encEd t); rfl; rfl; exact cls_rd hbR.2.2.2.2.2.1.1 id hvt) | (apply ex_indexAddr_nat; rfl; rfl; omega; exact hspE)); clear hA a; intro a hA) | (refine QT ?_; clear hA a; intro a hA) | (first | (refine BT ?_; clear hA hH; rintro _ w ⟨bN, rfl, hH⟩ a hA) | (refine LT ?_; clear hA hH; rintro _ w ⟨oN, rfl, hH⟩ a hA) | (refine AT ?_; clear hA; rintro _ w ⟨oN, cN, rfl, hH2⟩ a hA; clear hH; have hH := (hH2 _ (by (repeat constructor))).tail; clear hH2) | (refine S0T ?_; clear hH; rintro _ w hH) | (apply st_op0 hA rfl rfl; apply op_store_agg (vs := encEd t); rfl; rfl; exact hH; (repeat constructor); (repeat rfl); clear hH; rintro _ w hH) | (apply st_op0 hA rfl rfl; apply op_store_fld (cs' := encC c (q + 1)); rfl; rfl; rfl; exact hH; (repeat constructor); clear hH; rintro _ w hH))) | ((first | refine CT ?_ | (refine DT ?_ ?_ <;> intro hc <;> try (exfalso; omega))) <;> repeat' refine CT ?_) | (first | (refine DSK ?_; clear hA a; intro a hA) | (first | (refine DLT ?_; clear hA hH; rintro _ w ⟨oN, rfl, hH⟩; refine ⟨STT, ?_⟩; intro a hA) | (refine DAT ?_; clear hA; rintro _ w ⟨oN, cN, rfl, hH2⟩; clear hH; have hH := (hH2 _ (by (repeat constructor))).tail; clear hH2; refine ⟨STT, ?_⟩; intro a hA))) )
    (refine wp_draw3_HS 40 [(0, 1), (1, 1), (2, 1), (3, 1), (4, 1), (5, 1), (6, 1), (7, 1), (8, 1), (9, 1), (10, 1), (11, 1), (12, 1), (13, 1), (14, 1), (15, 1), (16, 1), (17, 1), (18, 1), (19, 1), (20, 1), (21, 1), (22, 1), (23, 1), (24, 1), (25, 1), (26, 1), (27, 1), (28, 1), (29, 1), (30, 1), (31, 1), (32, 1), (33, 1), (34, 1), (35, 1), (36, 1)] [37,38,39] mixed (by decide +kernel) hH ?_; replace hH := hH.drew)
    repeat' (first | (first | (refine GT ?_ ?_ <;> intro hg <;> clear hA a <;> intro a hA <;> (first | exact FA | replace hg := of_decide_eq_true hg | replace hg := of_decide_eq_false hg | skip)) | ((first | apply st_ex hA hH rfl rfl (by decide) | apply dr_ex hA rfl rfl rfl (by decide) | apply dr_exp hA rfl rfl rfl (by decide) | apply dr_ex3 hA hH rfl rfl rfl (by decide)); (first | (apply ex_indexAddr; rfl; rfl; omega; omega; exact hsp) | (apply ex_load; rfl; refine cl_rd hR.1.1 id (blk_at ?_); omega)); clear hA a; intro a hA) | (refine QT ?_; clear hA a; intro a hA) | (first | (refine BT ?_; clear hA hH; rintro _ w ⟨bN, rfl, hH⟩ a hA) | (refine LT ?_; clear hA hH; rintro _ w ⟨oN, rfl, hH⟩ a hA) | (refine AT ?_; clear hA; rintro _ w ⟨oN, cN, rfl, hH2⟩ a hA; clear hH; have hH := (hH2 _ (by (repeat constructor))).tail; clear hH2) | (refine S0T ?_; clear hH; rintro _ w hH) )) | ((first | refine CT ?_ | (refine DT ?_ ?_ <;> intro hc <;> try (exfalso; omega))) <;> repeat' refine CT ?_) | (first | (refine DSK ?_; clear hA a; intro a hA) | (first | (refine DLT ?_; clear hA hH; rintro _ w ⟨oN, rfl, hH⟩; refine ⟨STT, ?_⟩; intro a hA) | (refine DAT ?_; clear hA; rintro _ w ⟨oN, cN, rfl, hH2⟩; clear hH; have hH := (hH2 _ (by (repeat constructor))).tail; clear hH2; refine ⟨STT, ?_⟩; intro a hA))) )
    iterate 3
      · exact rt1 (.inl rfl) rfl hA rfl (.inl ⟨rfl, hH.tail.tail.tail.tail.tail.tail.tail⟩)
    have hb1 : (n : Int) < t.b := by omega
    have hb2 : t.b < c.f.bs.l.length := by omega
    have hST2 := hH.perm (H' := cb bC 95 (encC c (q + 1)) :: sk bW ks :: cb bN 54 (encEd t) :: sk c.bE (es ++ bvs bl) :: own 71 1 c.oT c.nT c.cT (flat encO (tc')) :: all (th'.map sko) :: cb b5 52 (encBl bl) :: H) (by (repeat (first | exact List.Perm.refl _ | exact List.Perm.nil | refine perm_pick 0 rfl ?_ | refine perm_pick 1 rfl ?_ | refine perm_pick 2 rfl ?_ | refine perm_pick 3 rfl ?_ | refine perm_pick 4 rfl ?_ | refine perm_pick 5 rfl ?_ | refine perm_pick 6 rfl ?_ | refine perm_pick 7 rfl ?_ | refine perm_pick 8 rfl ?_ | refine perm_pick 9 rfl ?_ | refine perm_pick 10 rfl ?_ | refine perm_pick 11 rfl ?_)))
    clear hH
    (refine dr_op3 hA rfl rfl rfl (by decide) (op_call rfl rfl rfl (atoms_spec w0 _ _ c bC bW (q + 1) ks t.a hST2 htR (by omega) (by omega))) ?_; clear hA hST2)
    rintro _ w (⟨hat, rfl, hH⟩ | ⟨hat, rfl, q', hq3, hq4, hH⟩) a hA
    rotate_left
    · repeat' (first | (first | (refine GT ?_ ?_ <;> intro hg <;> clear hA a <;> intro a hA <;> (first | exact FA | replace hg := of_decide_eq_true hg | replace hg := of_decide_eq_false hg | skip)) | (refine QT ?_; clear hA a; intro a hA) | (first | (refine BT ?_; clear hA hH; rintro _ w ⟨bN, rfl, hH⟩ a hA) | (refine LT ?_; clear hA hH; rintro _ w ⟨oN, rfl, hH⟩ a hA) | (refine AT ?_; clear hA; rintro _ w ⟨oN, cN, rfl, hH2⟩ a hA; clear hH; have hH := (hH2 _ (by (repeat constructor))).tail; clear hH2) | (refine S0T ?_; clear hH; rintro _ w hH) )) | ((first | refine CT ?_ | (refine DT ?_ ?_ <;> intro hc <;> try (exfalso; omega))) <;> repeat' refine CT ?_) | (first | (refine DSK ?_; clear hA a; intro a hA) | (first | (refine DLT ?_; clear hA hH; rintro _ w ⟨oN, rfl, hH⟩; refine ⟨STT, ?_⟩; intro a hA) | (refine DAT ?_; clear hA; rintro _ w ⟨oN, cN, rfl, hH2⟩; clear hH; have hH := (hH2 _ (by (repeat constructor))).tail; clear hH2; refine ⟨STT, ?_⟩; intro a hA))) )
      exact rt1 (.inl rfl) rfl hA rfl (.inl ⟨rfl, hH.tail.tail.tail.tail.tail.tail.tail⟩)
    obtain ⟨m, hm1⟩ : ∃ m : Nat, t.b = m := ⟨t.b.toNat, by omega⟩
    have hth0l : th'.length = th0.length := hth.len
    have hml : m < th'.length := by omega
    obtain ⟨st', hst'⟩ : ∃ x, th'[m]? = some x := ⟨_, List.getElem?_eq_getElem hml⟩
    have htcm : tc'[m]? = some st' := (hag' m (by omega)).trans hst'
    have hcm : (flat encO tc')[m * 1]? = some (mvO st') := flat_get (off := 0) encO_len htcm (by rw [encO_eq]; rfl)
    have hnT : c.nT = th'.length := by omega
    have htcl : tc'.length = th'.length := by omega
    repeat' (first | (first | (refine GT ?_ ?_ <;> intro hg <;> clear hA a <;> intro a hA <;> (first | exact FA | replace hg := of_decide_eq_true hg | replace hg := of_decide_eq_false hg | skip)) | (refine QT ?_; clear hA a; intro a hA) | (first | (refine BT ?_; clear hA hH; rintro _ w ⟨bN, rfl, hH⟩ a hA) | (refine LT ?_; clear hA hH; rintro _ w ⟨oN, rfl, hH⟩ a hA) | (refine AT ?_; clear hA; rintro _ w ⟨oN, cN, rfl, hH2⟩ a hA; clear hH; have hH := (hH2 _ (by (repeat constructor))).tail; clear hH2) | (refine S0T ?_; clear hH; rintro _ w hH) )) | ((first | refine CT ?_ | (refine DT ?_ ?_ <;> intro hc <;> try (exfalso; omega))) <;> repeat' refine CT ?_) | (first | (refine DSK ?_; clear hA a; intro a hA) | (first | (refine DLT ?_; clear hA hH; rintro _ w ⟨oN, rfl, hH⟩; refine ⟨STT, ?_⟩; intro a hA) | (refine DAT ?_; clear hA; rintro _ w ⟨oN, cN, rfl, hH2⟩; clear hH; have hH := (hH2 _ (by (repeat constructor))).tail; clear hH2; refine ⟨STT, ?_⟩; intro a hA))) )
    replace hH := hH.perm (H' := cb bC 95 (encC c (q + 1 + (t.a.l.length : Int))) :: own 71 1 c.oT c.nT c.cT (flat encO (tc')) :: all (th'.map sko) :: sk bW ks :: sk c.bE (es ++ bvs bl) :: cb b5 52 (encBl bl) :: cb bN 54 (encEd t) :: H) (by (repeat (first | exact List.Perm.refl _ | exact List.Perm.nil | refine perm_pick 0 rfl ?_ | refine perm_pick 1 rfl ?_ | refine perm_pick 2 rfl ?_ | refine perm_pick 3 rfl ?_ | refine perm_pick 4 rfl ?_ | refine perm_pick 5 rfl ?_ | refine perm_pick 6 rfl ?_ | refine perm_pick 7 rfl ?_ | refine perm_pick 8 rfl ?_ | refine perm_pick 9 rfl ?_ | refine perm_pick 10 rfl ?_ | refine perm_pick 11 rfl ?_)))
    (refine st_op hA rfl rfl (by decide) (op_call rfl rfl (by rw [hm1]; rfl) (meet_spec w0 _ _ c bC bW m _ ks tc' th' st' hH hnT htcl hml hst' hcm)) ?_; clear hA hH)
    rintro _ w ⟨b', ks', hk', hH⟩ a hA
    repeat' (first | (first | (refine GT ?_ ?_ <;> intro hg <;> clear hA a <;> intro a hA <;> (first | exact FA | replace hg := of_decide_eq_true hg | replace hg := of_decide_eq_false hg | skip)) | (refine QT ?_; clear hA a; intro a hA) | (first | (refine BT ?_; clear hA hH; rintro _ w ⟨bN, rfl, hH⟩ a hA) | (refine LT ?_; clear hA hH; rintro _ w ⟨oN, rfl, hH⟩ a hA) | (refine AT ?_; clear hA; rintro _ w ⟨oN, cN, rfl, hH2⟩ a hA; clear hH; have hH := (hH2 _ (by (repeat constructor))).tail; clear hH2) | (refine S0T ?_; clear hH; rintro _ w hH) )) | ((first | refine CT ?_ | (refine DT ?_ ?_ <;> intro hc <;> try (exfalso; omega))) <;> repeat' refine CT ?_) | (first | (refine DSK ?_; clear hA a; intro a hA) | (first | (refine DLT ?_; clear hA hH; rintro _ w ⟨oN, rfl, hH⟩; refine ⟨STT, ?_⟩; intro a hA) | (refine DAT ?_; clear hA; rintro _ w ⟨oN, cN, rfl, hH2⟩; clear hH; have hH := (hH2 _ (by (repeat constructor))).tail; clear hH2; refine ⟨STT, ?_⟩; intro a hA))) )
    have hats : ∀ a ∈ t.a.l, atS c.g (nowS k0 bl bl.is.l.length) a := fun a ha => at_of hks (hat.1 a ha)
    have hqn : q + 1 + (t.a.l.length : Int) ≤ 1200000 + ((j + 1 : Nat) : Int) := by
      rcases hat.2 with h | h
      · rw [h]
        show q + 1 + (0 : Int) ≤ _
        omega
      · omega
    have hth2 := thR_next (b := b') hth hm1 hml hst' hks hk'
    rw [← take_snoc ht] at hth2
    have hag2 : ∀ k, n < k → (tc'.set m (some (b', ks')))[k]? = (th'.set m (some (b', ks')))[k]? := fun k hk => by
      by_cases he : m = k
      · subst he
        rw [List.getElem?_set_self (by omega), List.getElem?_set_self (by omega)]
      · rw [List.getElem?_set_ne he, List.getElem?_set_ne he]
        exact hag' k hk
    exact ⟨j + 1, ⟨tc'.set m (some (b', ks')), th'.set m (some (b', ks')), _, ⟨hlt, by omega, hqn, hth2, by rw [List.length_set]; exact htl, hag2, eds_next ht heds ⟨hb1, hb2, hats⟩⟩, (hH.rm 6).perm (by (repeat (first | exact List.Perm.refl _ | exact List.Perm.nil | refine perm_pick 0 rfl ?_ | refine perm_pick 1 rfl ?_ | refine perm_pick 2 rfl ?_ | refine perm_pick 3 rfl ?_ | refine perm_pick 4 rfl ?_ | refine perm_pick 5 rfl ?_ | refine perm_pick 6 rfl ?_ | refine perm_pick 7 rfl ?_ | refine perm_pick 8 rfl ?_ | refine perm_pick 9 rfl ?_ | refine perm_pick 10 rfl ?_ | refine perm_pick 11 rfl ?_))), (hA.sub (by (repeat (first | exact trivial | refine ⟨rfl, ?_⟩))))⟩, by omega⟩
  clear hA hH
  rintro a w ⟨tc', th', q3, ⟨hqa, hqb, hth, htl, hag', heds⟩, hH, hA⟩
  repeat' (first | (first | (refine GT ?_ ?_ <;> intro hg <;> clear hA a <;> intro a hA <;> (first | exact FA | replace hg := of_decide_eq_true hg | replace hg := of_decide_eq_false hg | skip)) | (refine QT ?_; clear hA a; intro a hA) | (first | (refine BT ?_; clear hA hH; rintro _ w ⟨bN, rfl, hH⟩ a hA) | (refine LT ?_; clear hA hH; rintro _ w ⟨oN, rfl, hH⟩ a hA) | (refine AT ?_; clear hA; rintro _ w ⟨oN, cN, rfl, hH2⟩ a hA; clear hH; have hH := (hH2 _ (by (repeat constructor))).tail; clear hH2) | (refine S0T ?_; clear hH; rintro _ w hH) )) | ((first | refine CT ?_ | (refine DT ?_ ?_ <;> intro hc <;> try (exfalso; omega))) <;> repeat' refine CT ?_) | (first | (refine DSK ?_; clear hA a; intro a hA) | (first | (refine DLT ?_; clear hA hH; rintro _ w ⟨oN, rfl, hH⟩; refine ⟨STT, ?_⟩; intro a hA) | (refine DAT ?_; clear hA; rintro _ w ⟨oN, cN, rfl, hH2⟩; clear hH; have hH := (hH2 _ (by (repeat constructor))).tail; clear hH2; refine ⟨STT, ?_⟩; intro a hA))) )
  have hfin : HS w0 noM (cb bC 95 (encC c (q3)) :: sk c.bE (es ++ bvs bl) :: own 71 1 c.oT c.nT c.cT (flat encO (tc')) :: all (th'.map sko) :: H) w := ((hH.rm 1).rm 4)
  by_cases hmax : q3 ≤ 65536
  · rw [decide_eq_true hmax] at hA
    refine rt1 (.inl rfl) rfl hA rfl (.inr ⟨rfl, k0, tc', th', q3, ?_, ?_, ⟨hfirst, hins, hends, heds⟩, hev1, ?_, hmax, ?_, htl, hag', hfin⟩)
    · unfold isA
      rw [hst]
      rfl
    · unfold setA
      rw [hst]
      rfl
    · have : (bvs bl).length = bl.ps.l.length + bl.is.l.length := by unfold bvs; rw [List.length_append, List.length_map]
      omega
    · rw [← hth0]
      exact hth
  · rw [decide_eq_false hmax] at hA
    exact rt1 (.inl rfl) rfl hA rfl (.inl ⟨rfl, hfin.tail.tail.tail.tail⟩)
end Go.Proofs.Ytjfanjcoppeeaaa
