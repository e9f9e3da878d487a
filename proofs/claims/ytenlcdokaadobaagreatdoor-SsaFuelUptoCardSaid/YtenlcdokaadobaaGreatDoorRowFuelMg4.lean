/-
  Sets: maps from ints to true. Conditions: none.
  Maps against nil; a new key by its entry; sums that wrap; arrays of two; literals of maps. Conditions: none.
  Plans as in the fifteenth part, with one of three. Conditions: none.
-/
import Derived.Test.YtenlcdokaadobaaGreatDoorRowFuelMg3
namespace Go.Fw
open Go
set_option linter.unusedVariables false
def encK (ks : List Int) : List (Int × Value) := ks.map fun k => (k, .bool true)
def sk (b : Nat) (ks : List Int) : It := mp b (encK ks)
def sadd (ks : List Int) (k : Int) : List Int := if k ∈ ks then ks else ks ++ [k]
theorem mem_sadd {ks : List Int} {k x : Int} : x ∈ sadd ks k ↔ x ∈ ks ∨ x = k := by
  unfold sadd
  split
  · exact ⟨.inl, fun h => h.elim id fun e => e ▸ (by assumption)⟩
  · rw [List.mem_append, List.mem_singleton]
theorem mv_encK (ks : List Int) (k : Int) : mv (encK ks) k = if k ∈ ks then some (.bool true) else none := by
  unfold mv encK
  induction ks with
  | nil => rfl
  | cons x ks ih =>
    rw [List.map_cons, List.find?_cons]
    by_cases h : x = k
    · subst h; simp
    · have hb : (x == k) = false := by simpa using h
      simp only [hb]
      rw [ih]
      have : k ≠ x := fun e => h e.symm
      simp [this]
theorem mset_encK (ks : List Int) (k : Int) : mset (encK ks) k (.bool true) = encK (sadd ks k) := by
  unfold mset sadd
  rw [mv_encK]
  by_cases h : k ∈ ks
  · rw [if_pos h, if_pos h]
    show List.map _ (encK ks) = _
    unfold encK
    rw [List.map_map]
    refine List.map_congr_left fun x hx => ?_
    simp only [Function.comp_def]
    split
    · rename_i e
      have : x = k := by simpa using e
      rw [this]
    · rfl
  · rw [if_neg h, if_neg h]
    simp [encK]
structure ElK (el : List (Int × Nat)) (clock : Nat) : Prop where
  keys : (el.map (·.1)).Nodup
  borns : (el.map (·.2)).Nodup
  lt : ∀ e ∈ el, e.2 < clock
def mkK (e : Int × Nat) : Int × Value × Nat := (e.1, .bool true, e.2)
def mpK (b : Nat) (el : List (Int × Nat)) (clock : Nat) : It := mpO b (el.map mkK) clock
theorem ElK.es {el : List (Int × Nat)} {clock : Nat} (h : ElK el clock) : EsOk (el.map mkK) clock :=
  ⟨by simpa [mkK, Function.comp_def] using h.keys, by simpa [mkK, Function.comp_def] using h.borns, fun e he => by
    obtain ⟨e', he', rfl⟩ := List.mem_map.1 he
    exact h.lt e' he'⟩
theorem es_encK : ∀ (ks : List Int) (es : List (Int × Value × Nat)), es.map (fun e => (e.1, e.2.1)) = encK ks → ∃ el : List (Int × Nat), el.map mkK = es ∧ el.map (·.1) = ks
  | [], es, h => by
    obtain rfl : es = [] := by simpa [encK] using h
    exact ⟨[], rfl, rfl⟩
  | k :: ks, [], h => by simp [encK] at h
  | k :: ks, e :: es, h => by
    simp only [encK, List.map_cons, List.cons.injEq, Prod.mk.injEq] at h
    obtain ⟨el, h1, h2⟩ := es_encK ks es h.2
    refine ⟨(k, e.2.2) :: el, ?_, by simp [h2]⟩
    simp only [List.map_cons, h1, mkK]
    rw [← h.1.1, ← h.1.2]
theorem HS.openK {w0 w : World} {M : Nat → Prop} {H : List It} {b : Nat} {ks : List Int} (h : HS w0 M H w) (hm : sk b ks ∈ H) :
    ∃ el clock, el.map (·.1) = ks ∧ ElK el clock ∧ ∀ H', Rp H (sk b ks) (mpK b el clock) H' → HS w0 M H' w := by
  obtain ⟨F, es, clock, h1, h2, h3⟩ := h.sat hm
  obtain ⟨el, rfl, h5⟩ := es_encK ks es h1
  refine ⟨el, clock, h5, ⟨by simpa [mkK, Function.comp_def] using h2.keys, by simpa [mkK, Function.comp_def] using h2.borns, fun e he => h2.lt (mkK e) (List.mem_map.2 ⟨e, he, rfl⟩)⟩, fun H' hr => ?_⟩
  refine h.turn hr fun F' hF' => ⟨Kp.refl _ _, F', ?_, fun b hb => .inr hb⟩
  obtain ⟨es', clock', g1, g2, g3⟩ := hF'
  exact ⟨g3.1, h3.2⟩
theorem HS.shutK {w0 w : World} {M : Nat → Prop} {H H' : List It} {b clock : Nat} {el : List (Int × Nat)} (h : HS w0 M H w) (hok : ElK el clock) (hr : Rp H (mpK b el clock) (sk b (el.map (·.1))) H') : HS w0 M H' w :=
  h.conv hr fun F hF => ⟨el.map mkK, clock, by simp [mkK, encK, Function.comp_def], hok.es, hF⟩
theorem HS.up {w0 w : World} {M : Nat → Prop} {H : List It} {x : It} (h : HS w0 M H w) (i : Nat) (hi : H[i]? = some x) : HS w0 M (x :: H.eraseIdx i) w := h.perm (perm_pick0 i hi)
theorem HS.rm {w0 w : World} {M : Nat → Prop} : ∀ {H : List It} (i : Nat), HS w0 M H w → HS w0 M (H.eraseIdx i) w
  | [], i, h => by simpa using h
  | x :: H, 0, h => h.tail
  | x :: H, i + 1, h => by
    have h1 : HS w0 M (H ++ [x]) w := h.perm (List.perm_append_singleton x H).symm
    cases hg : H[i]? with
    | none =>
      have : H.eraseIdx i = H := List.eraseIdx_of_length_le (List.getElem?_eq_none_iff.1 hg)
      rw [List.eraseIdx_cons_succ, this]
      exact h
    | some y =>
      have h2 := h.up (i + 1) (x := y) (by simpa using hg)
      exact h2.tail
section
variable {P : Program} {N : Nat} {l : List (Nat × Value)} {a : Act} {d : Option Tmp} {T : TypeId} {pos : String} {af : Array Edge} {g : Option (Nat × Bool)}
theorem op_makeMapK {t : Nat} {w0 w : World} {M : Nat → Prop} {H : List It} (hH : HS w0 M H w) :
    Op1 P N l ⟨d, .makeMap t none, T, pos, af, g⟩ w (fun v w' => ∃ b, v = .map (some b) ∧ HS w0 M (sk b [] :: H) w') := op_makeMap hH
theorem op_addK {t kt e b : Nat} {kk : IntKind} {x y z : Operand} {ks : List Int} {k : Int} {w0 w : World} {M : Nat → Prop} {H H' : List It} [ht : TMp P t kt e] [hk : TIn P kt kk]
    (hx : ev l x = some (.map (some b))) (hy : ev l y = some (.int .i64 k)) (hz : ev l z = some (.bool true)) (hH : HS w0 M H w) (hr : Rp H (sk b ks) (sk b (sadd ks k)) H') :
    Op1 P N l ⟨d, .mapUpdate t x y z, T, pos, af, g⟩ w (fun _ w' => HS w0 M H' w') := by
  unfold sk at hr
  rw [← mset_encK] at hr
  exact op_mapUpdate hx hy hz hH hr
theorem ex_hasK {t kt e sz by_ b : Nat} {kk : IntKind} {zs : List Value} {x y : Operand} {ks : List Int} {k : Int} {w0 : World} {M : Nat → Prop} {H : List It} [ht : TMp P t kt e] [hk : TIn P kt kk] [hi : TIf P e (.bool false) zs sz by_]
    (hx : ev l x = some (.map (some b))) (hy : ev l y = some (.int .i64 k)) (hm : sk b ks ∈ H) : Ex P N l (HS w0 M H) ⟨d, .lookup t x y false, T, pos, af, g⟩ (.bool (decide (k ∈ ks))) := by
  have h := ex_lookup (P := P) (N := N) (l := l) (d := d) (T := T) (pos := pos) (af := af) (g := g) (t := t) (w0 := w0) (M := M) (hi := hi) hx hy hm
  rw [mv_encK] at h
  by_cases hk : k ∈ ks
  · rw [if_pos hk] at h; rw [decide_eq_true hk]; exact h
  · rw [if_neg hk] at h; rw [decide_eq_false hk]; exact h
theorem op_rangeK {t kt e b clock : Nat} {el : List (Int × Nat)} {x : Operand} {w0 w : World} {M : Nat → Prop} {H : List It} [ht : TMp P t kt e] (hx : ev l x = some (.map (some b))) (hH : HS w0 M H w) (hm : mpK b el clock ∈ H) :
    Op1 P N l ⟨d, .range t x, T, pos, af, g⟩ w (fun v w' => ∃ r, v = .pointer (some (bat r 0)) ∧ HS w0 M (itr r b clock [] :: H) w') := op_range hx hH hm
theorem op_nextK {r b clock : Nat} {el done : List (Int × Nat)} {x : Operand} {w0 w : World} {M : Nat → Prop} {H : List It}
    (hx : ev l x = some (.pointer (some (bat r 0)))) (hH : HS w0 M H w) (hi : itr r b clock (done.map (·.2)) ∈ H) (hm : mpK b el clock ∈ H) (hok : ElK el clock) (hd : ∀ e ∈ done, e ∈ el) :
    Op1 P N l ⟨d, .next x false, T, pos, af, g⟩ w (fun v w' =>
      ((∀ e ∈ el, e ∈ done) ∧ v = .tuple #[.bool false] ∧ HS w0 M H w') ∨
      (∃ e ∈ el, e ∉ done ∧ v = .tuple #[.bool true, .int .i64 e.1, .bool true] ∧ ∀ H', Rp H (itr r b clock (done.map (·.2))) (itr r b clock ((done ++ [e]).map (·.2))) H' → HS w0 M H' w')) := by
  intro a hA K Q hK
  have hinj : ∀ e ∈ el, ∀ e' ∈ el, e.2 = e'.2 → e = e' := fun e he e' he' h2 => by
    have hn := hok.borns
    clear hm hd hi hH hK
    induction el with
    | nil => cases he
    | cons x el ih =>
      rw [List.map_cons, List.nodup_cons] at hn
      rcases List.mem_cons.1 he with rfl | h5 <;> rcases List.mem_cons.1 he' with rfl | h6
      · rfl
      · exact absurd (List.mem_map.2 ⟨e', h6, h2.symm⟩ : e.2 ∈ el.map (·.2)) hn.1
      · exact absurd (List.mem_map.2 ⟨e, h5, h2⟩ : e'.2 ∈ el.map (·.2)) hn.1
      · exact ih ⟨(List.nodup_cons.1 hok.keys).2, hn.2, fun e he => hok.lt e (.tail _ he)⟩ h5 h6 hn.2
  refine op_next hx hH hi hm hok.es a hA K Q fun v w' h => hK v w' ?_
  rcases h with ⟨h1, h2, h3⟩ | ⟨e, he, h1, h2, h3⟩
  · refine .inl ⟨fun e he => ?_, h2, h3⟩
    obtain ⟨e', he', h4⟩ := List.mem_map.1 (h1 (mkK e) (List.mem_map.2 ⟨e, he, rfl⟩))
    exact hinj e' (hd e' he') e he h4 ▸ he'
  · obtain ⟨e', he', rfl⟩ := List.mem_map.1 he
    refine .inr ⟨e', he', fun h4 => h1 (List.mem_map.2 ⟨e', h4, rfl⟩), h2, fun H' hr => h3 H' ?_⟩
    rw [List.map_append] at hr
    exact hr
theorem ex_entryK {r b clock : Nat} {el done : List (Int × Nat)} {x : Operand} {e : Int × Nat} {w0 : World} {M : Nat → Prop} {H : List It}
    (hx : ev l x = some (.pointer (some (bat r 0)))) (hi : itr r b clock ((done ++ [e]).map (·.2)) ∈ H) (hm : mpK b el clock ∈ H) (hok : ElK el clock) (he : e ∈ el) :
    Ex P N l (HS w0 M H) ⟨d, .entry x, T, pos, af, g⟩ (.tuple #[.int .i64 e.1, .bool true]) := by
  rw [List.map_append] at hi
  exact ex_entry (e := mkK e) hx hi hm hok.es.borns (List.mem_map.2 ⟨e, he, rfl⟩)
end
theorem done_lt {el done : List (Int × Nat)} {e : Int × Nat} (hn : done.Nodup) (hd : ∀ e ∈ done, e ∈ el) (he : e ∈ el) (h : e ∉ done) : done.length < el.length := by
  have h1 : (done ++ [e]).Nodup := List.nodup_append.2 ⟨hn, List.nodup_cons.2 ⟨List.not_mem_nil, List.nodup_nil⟩, fun a ha b hb => by rw [List.mem_singleton] at hb; subst hb; exact fun e => h (e ▸ ha)⟩
  have h2 : ∀ (l m : List (Int × Nat)), l.Nodup → (∀ x ∈ l, x ∈ m) → l.length ≤ m.length := by
    intro l
    induction l with
    | nil => intro m _ _; exact Nat.zero_le _
    | cons x l ih =>
      intro m hn hs
      have hx := hs x (.head _)
      have := ih (m.erase x) (List.nodup_cons.1 hn).2 fun y hy => (List.mem_erase_of_ne fun (e : y = x) => (List.nodup_cons.1 hn).1 (e ▸ hy)).2 (hs y (.tail _ hy))
      rw [List.length_erase_of_mem hx] at this
      have := List.length_pos_of_mem hx
      rw [List.length_cons]
      omega
  have := h2 _ el h1 fun x hx => by
    rcases List.mem_append.1 hx with hx | hx
    · exact hd x hx
    · rw [List.mem_singleton] at hx; subst hx; exact he
  rw [List.length_append] at this
  exact this
end Go.Fw
namespace Go.Fw
open Go Go.RowKit
set_option linter.unusedVariables false
class TAr (P : Program) (t : TypeId) (n : outParam Nat) (e : outParam TypeId) : Prop where
  eq : P.underlying t = some (.array n e)
def entK (b : Nat) (ks : List Int) (k : Int) (c : Nat) : It where
  sat w F := ∃ el, el.map (·.1) = ks ∧ ElK el c ∧ k ∉ ks ∧ (blk b (.map ((el.map mkK ++ [(k, Value.bool false, c)]).map mkE).toArray (c + 1))).sat w F
  loc := by
    rintro w w' F ⟨el, h1, h2, h3, h4⟩ he
    exact ⟨el, h1, h2, h3, (blk b _).loc h4 he⟩
  lt := by
    rintro w F ⟨el, h1, h2, h3, h4⟩
    exact (blk b _).lt h4
  ext := by
    rintro w F F' ⟨el, h1, h2, h3, h4⟩ he
    exact ⟨el, h1, h2, h3, (blk b _).ext h4 he⟩
theorem born_new {es : List (Int × Value × Nat)} {k : Int} {v : Value} {c : Nat} (hlt : ∀ e ∈ es, e.2.2 < c) : ((es ++ [(k, v, c)]).map mkE).toArray.findIdx? (fun e => (e.born : Int) == (c : Int)) = some es.length := by
  rw [Array.findIdx?_eq_some_iff_getElem]
  refine ⟨by simp, by simp [mkE], fun j hj => ?_⟩
  have h1 : j < es.length := hj
  have h2 := hlt es[j] (List.getElem_mem h1)
  simp only [List.map_append, List.getElem_toArray]
  rw [List.getElem_append_left (by simpa using h1)]
  simp only [List.getElem_map, mkE, beq_iff_eq]
  omega
section
variable {P : Program} {N : Nat} {l : List (Nat × Value)} {a : Act} {C : World → Prop} {d : Option Tmp} {T : TypeId} {pos : String} {af : Array Edge} {g : Option (Nat × Bool)}
theorem ex_eqlMapN {t k e ty : TypeId} {x y : Operand} {m : Option Nat} [h : TMp P t k e] (hx : ev l x = some (.map m)) (hy : ev l y = some (.map none)) : Ex P N l C ⟨d, .binOp .eql t x y ty, T, pos, af, g⟩ (.bool m.isNone) := by
  intro a w hA _
  simp [execOp, hA.ev hx, hA.ev hy, eqGuard_at_map, binOp, run_equal_map_nil w t k e m h.eq]
theorem ex_eqlMapT {t k e ty : TypeId} {x y : Operand} [h : TMp P t k e] (hx : ev l x = some (.map none)) (hy : ev l y = some (.map none)) : Ex P N l C ⟨d, .binOp .eql t x y ty, T, pos, af, g⟩ (.bool true) := ex_eqlMapN (h := h) hx hy
theorem ex_eqlMapF {t k e ty : TypeId} {x y : Operand} {b : Nat} [h : TMp P t k e] (hx : ev l x = some (.map (some b))) (hy : ev l y = some (.map none)) : Ex P N l C ⟨d, .binOp .eql t x y ty, T, pos, af, g⟩ (.bool false) := ex_eqlMapN (h := h) hx hy
theorem ex_addW {t ty : TypeId} {x y : Operand} {m n : Int} (hx : ev l x = some (.int .i64 m)) (hy : ev l y = some (.int .i64 n)) : Ex P N l C ⟨d, .binOp .add t x y ty, T, pos, af, g⟩ (.int .i64 (IntKind.i64.wrap (m + n))) := by
  intro a w hA _
  simp only [execOp, hA.ev hx, hA.ev hy, eqGuard_at_int, binOp_add]
  simp [Op.intArith]
theorem op_entryK {t kt e sz by_ b : Nat} {kk : IntKind} {zs : List Value} {x y : Operand} {ks : List Int} {k : Int} {w0 w : World} {M : Nat → Prop} {H : List It} [ht : TMp P t kt e] [hk : TIn P kt kk] [hi : TIf P e (.bool false) zs sz by_]
    (hx : ev l x = some (.map (some b))) (hy : ev l y = some (.int .i64 k)) (hH : HS w0 M (sk b ks :: H) w) (hn : k ∉ ks) :
    Op1 P N l ⟨d, .mapEntry t x y, T, pos, af, g⟩ w (fun v w' => ∃ c : Nat, v = .tuple #[.bool false, .int .i64 c] ∧ HS w0 M (entK b ks k c :: H) w') := by
  intro a hA K Q hK
  obtain ⟨F, es, clock, h1, hok, h3, h4⟩ := hH.sat (it := sk b ks) (.head _)
  obtain ⟨el, rfl, h5⟩ := es_encK ks es h1
  obtain ⟨ti, g3, g4, g5, g6⟩ := hi.eq
  have hf : fnd k (el.map mkK) 0 = none := by
    cases hf : fnd k (el.map mkK) 0 with
    | none => rfl
    | some q =>
      obtain ⟨j, v0⟩ := q
      obtain ⟨_, born, hj⟩ := fnd_some k _ 0 j v0 hf
      obtain ⟨e', he', h6⟩ := List.mem_map.1 (List.mem_of_getElem? hj)
      refine absurd ?_ hn
      rw [← h5]
      refine List.mem_map.2 ⟨e', he', ?_⟩
      have := congrArg Prod.fst h6
      exact this
  unfold Oper.wp
  simp only [execOp, hA.ev hx, hA.ev hy, Instr.mapEntry, Sem.run_bind, run_underlying ht.eq, Result.andThen_ok, run_getObj_map h4, run_checkKey, run_findKey, hf]
  have hpush : (((el.map mkK).map mkE).toArray.push { key := .int .i64 k, val := .bool false, born := clock }) = ((el.map mkK ++ [(k, Value.bool false, clock)]).map mkE).toArray := by simp [mkE]
  simp only [zeroValue, typeInfo, Sem.run_bind, Sem.run_pure, Result.andThen_ok, run_program, g3, g4, run_setObj_map h4, hpush, Oper.upon]
  have hok' : ElK el clock := ⟨by simpa [mkK, Function.comp_def] using hok.keys, by simpa [mkK, Function.comp_def] using hok.borns, fun e he => hok.lt (mkK e) (List.mem_map.2 ⟨e, he, rfl⟩)⟩
  refine hK _ _ ⟨clock, rfl, hH.turn .here fun F' hF' => ?_⟩
  obtain ⟨_, _, _, _, hF1, _⟩ := hF'
  exact ⟨setObj_kp ((hF1 b).2 rfl), F', ⟨el, h5, hok', hn, hF1, setObj_at h4⟩, fun b hb => .inr hb⟩
theorem op_entryStK {t b c : Nat} {x y z : Operand} {ks : List Int} {k : Int} {w0 w : World} {M : Nat → Prop} {H : List It}
    (hx : ev l x = some (.map (some b))) (hy : ev l y = some (.int .i64 c)) (hz : ev l z = some (.bool true)) (hH : HS w0 M (entK b ks k c :: H) w) :
    Op1 P N l ⟨d, .entryStore t x y z, T, pos, af, g⟩ w (fun v w' => HS w0 M (sk b (ks ++ [k]) :: H) w') := by
  intro a hA K Q hK
  obtain ⟨F, el, h5, hok, hn, h3, h4⟩ := hH.sat (it := entK b ks k c) (.head _)
  have hes := hok.es
  have hb := born_new (k := k) (v := .bool false) (c := c) (es := el.map mkK) hes.lt
  unfold Oper.wp
  simp only [execOp, hA.ev hx, hA.ev hy, hA.ev hz, Instr.entryStore, asInt, asIntOf, Sem.run_bind, Sem.run_pure, Result.andThen_ok, run_getObj_map h4, hb, run_setObj_map h4, Oper.upon]
  have hmod : (((el.map mkK ++ [(k, Value.bool false, c)]).map mkE).toArray.modify (el.map mkK).length fun e => { e with val := .bool true }) = (((el ++ [(k, c)]).map mkK).map mkE).toArray := by
    apply Array.ext'
    simp only [Array.toList_modify]
    apply List.ext_getElem?
    intro i
    simp only [List.getElem?_modify, List.map_append, List.map_cons, List.map_nil]
    rcases Nat.lt_trichotomy i el.length with h | h | h
    · rw [List.getElem?_append_left (by simpa using h), List.getElem?_append_left (by simpa using h)]
      have h1 : ¬ el.length = i := by omega
      simp [h1]
    · subst h
      simp [mkK, mkE]
    · rw [List.getElem?_eq_none_iff.2 (by simp; omega), List.getElem?_eq_none_iff.2 (by simp; omega)]
      rfl
  simp only [hmod]
  refine hK _ _ (hH.turn .here fun F' hF' => ?_)
  obtain ⟨el', h5', hok'', hn', hF1, hF2⟩ := hF'
  refine ⟨setObj_kp ((hF1 b).2 rfl), F', ⟨(el ++ [(k, c)]).map mkK, c + 1, ?_, ⟨?_, ?_, ?_⟩, hF1, setObj_at h4⟩, fun b hb => .inr hb⟩
  · rw [← h5]
    simp [encK, mkK, Function.comp_def]
  · have : ((el ++ [(k, c)]).map mkK).map (·.1) = ks ++ [k] := by rw [← h5]; simp [mkK, Function.comp_def]
    rw [this]
    refine List.nodup_append.2 ⟨h5 ▸ hok.keys, by simp, fun x hx y hy => ?_⟩
    simp at hy; subst hy
    exact fun e => hn (e ▸ hx)
  · have : ((el ++ [(k, c)]).map mkK).map (·.2.2) = el.map (·.2) ++ [c] := by simp [mkK, Function.comp_def]
    rw [this]
    refine List.nodup_append.2 ⟨hok.borns, by simp, fun x hx y hy => ?_⟩
    simp at hy; subst hy
    obtain ⟨e, he, rfl⟩ := List.mem_map.1 hx
    exact Nat.ne_of_lt (hok.lt e he)
  · intro e he
    obtain ⟨e', he', rfl⟩ := List.mem_map.1 he
    rcases List.mem_append.1 he' with h | h
    · have := hok.lt e' h
      show e'.2 < c + 1
      omega
    · simp at h; subst h
      exact Nat.lt_succ_self _
theorem op_insertV {t kt e b : Nat} {kk : IntKind} {x y z : Operand} {m : List (Int × Value)} {k : Int} {v : Value} {w0 w : World} {M : Nat → Prop} {H H' : List It} [ht : TMp P t kt e] [hk : TIn P kt kk]
    (hx : ev l x = some (.map (some b))) (hy : ev l y = some (.int .i64 k)) (hz : ev l z = some v) (hH : HS w0 M H w) (hr : Rp H (mp b m) (mp b (mset m k v)) H') :
    Op1 P N l ⟨d, .insert t x y z, T, pos, af, g⟩ w (fun _ w' => HS w0 M H' w') := by
  intro a hA K Q hK
  have h := op_mapUpdate (P := P) (N := N) (d := d) (T := T) (pos := pos) (af := af) (g := g) (t := t) hx hy hz hH hr a hA K Q hK
  exact h
theorem ex_build2 {t e by_ : Nat} {z ze u v : Value} {zs zse : List Value} {x y : Operand} {bye : Nat} [ha : TAr P t 2 e] [hi : TIf P t z zs 2 by_] [he : TIf P e ze zse 1 bye] (hx : ev l x = some u) (hy : ev l y = some v) (hz : zs.length = 2) (h1 : u.oneCell' = true) (h2 : v.oneCell' = true) :
    Ex P N l C ⟨d, .build t #[(0, x), (1, y)], T, pos, af, g⟩ (.agg #[u, v]) := by
  intro a w hA hC
  obtain ⟨ti, g3, g4, g5, g6⟩ := hi.eq
  obtain ⟨te, e3, e4, e5, e6⟩ := he.eq
  have hzs : z.cells = zs.toArray := by rw [← hi.zc]
  obtain ⟨q0, q1, hq⟩ : ∃ q0 q1, zs = [q0, q1] := by
    match zs, hz with
    | [q0, q1], _ => exact ⟨q0, q1, rfl⟩
  have hu : u.cells = #[u] := by cases u <;> first | rfl | cases h1
  have hv : v.cells = #[v] := by cases v <;> first | rfl | cases h2
  simp [execOp, Instr.build, zeroValue, typeInfo, sizeOf, g3, g4, e3, e5, run_underlying ha.eq, hA.ev hx, hA.ev hy, hzs, hq, Instr.fill, hu, hv]
theorem ex_indexArr {t e n sz by_ i b j : Nat} {z : Value} {zs : List Value} {k : IntKind} {x ix : Operand} [ht : TAr P t n e] [hi : TIf P e z zs sz by_] (hx : ev l x = some (.pointer (some (bat b j)))) (hix : ev l ix = some (.int k (i : Int))) (h1 : i < n) :
    Ex P N l C ⟨d, .indexAddr t x ix, T, pos, af, g⟩ (.pointer (some (bat b (j + i * sz)))) := by
  intro a w hA _
  obtain ⟨ti, h3, h4, h5, h6⟩ := hi.eq
  simp [execOp, hA.ev hx, hA.ev hix, Instr.indexAt, asIntOf, run_underlying ht.eq, sizeOf, typeInfo, h3, h5, h1, Instr.sureAddr, bat, Addr.add]
end
end Go.Fw
namespace Go.Fw
open Go Go.RowKit
set_option linter.unusedVariables false
inductive Pl3 where
  | nil
  | q (i : Nat) (t : Pl3)
  | one (i : Nat) (t : Pl3)
  | two (i j : Nat) (t u : Pl3)
  | three (i j k : Nat) (t u v : Pl3)
def Pl3.len : Pl3 → Nat
  | .nil => 0
  | .q _ t => t.len + 1
  | .one _ t => t.len + 1
  | .two _ _ t _ => t.len + 1
  | .three _ _ _ t _ _ => t.len + 1
def qs3 : List Nat → Pl3 → Pl3
  | [], t => t
  | i :: l, t => .q i (qs3 l t)
def okT3 (ops : Array Oper) : Pl3 → Array Bool → Bool
  | .nil, listed => decide (Region.ready .any ops listed = [])
  | .q i t, listed => (Region.ready .any ops listed).contains i && Region.free .any ops listed i && okT3 ops t (listed.setIfInBounds i true)
  | .one i t, listed => decide (Region.ready .any ops listed = [i]) && okT3 ops t (listed.setIfInBounds i true)
  | .two i j t u, listed => Nat.beq t.len u.len && decide (Region.ready .any ops listed = [i, j]) && okT3 ops t (listed.setIfInBounds i true) && okT3 ops u (listed.setIfInBounds j true)
  | .three i j k t u v, listed => Nat.beq t.len u.len && Nat.beq t.len v.len && decide (Region.ready .any ops listed = [i, j, k]) && okT3 ops t (listed.setIfInBounds i true) && okT3 ops u (listed.setIfInBounds j true) && okT3 ops v (listed.setIfInBounds k true)
def wkT3 (P : Program) (ops : Array Oper) (S : World → Prop) (Q : Exit → Act → World → Prop) (K : Act → World → Prop) : Pl3 → Act → World → Prop
  | .nil, a, w => K a w
  | .q i t, a, w => ∃ o v, ops[i]? = some o ∧ YieldsIf P ops S o v a ∧ wkT3 P ops S Q K t (a.put o.dst v) w
  | .one i t, a, w => wpOp P ops (NoPanic Q) i (fun a' w' => S w' ∧ wkT3 P ops S Q K t a' w') a w
  | .two i j t u, a, w => wpOp P ops (NoPanic Q) i (fun a' w' => S w' ∧ wkT3 P ops S Q K t a' w') a w ∧ wpOp P ops (NoPanic Q) j (fun a' w' => S w' ∧ wkT3 P ops S Q K u a' w') a w
  | .three i j k t u v, a, w => wpOp P ops (NoPanic Q) i (fun a' w' => S w' ∧ wkT3 P ops S Q K t a' w') a w ∧ wpOp P ops (NoPanic Q) j (fun a' w' => S w' ∧ wkT3 P ops S Q K u a' w') a w ∧ wpOp P ops (NoPanic Q) k (fun a' w' => S w' ∧ wkT3 P ops S Q K v a' w') a w
section
variable {P : Program} {ops : Array Oper} {S : World → Prop} {Q : Exit → Act → World → Prop} {K : Act → World → Prop}
theorem wkT3_any (hs : Region.noSelect ops = true) (hK : ∀ a w, K a w → Q .normal a w) : ∀ (t : Pl3) (listed : Array Bool) (a : Act) (w : World),
    okT3 ops t listed = true → S w → wkT3 P ops S Q K t a w → wpAnyK P .any ops (NoPanic Q) S (fun _ => true) t.len listed a w
  | .nil, listed, a, w, hok, hS, h => ⟨of_decide_eq_true hok, hK a w h⟩
  | .q i t, listed, a, w, hok, hS, h => by
    simp only [okT3, Bool.and_eq_true] at hok
    obtain ⟨⟨hr, hf⟩, hok'⟩ := hok
    obtain ⟨o, v, hi, hy, hk⟩ := h
    exact wpAnyK.first hi (Region.noSelect_spec hs) (fun c a w h => h) _ listed a w (fun j hF => by cases hF) (Region.free_spec hi hf) (by simpa using hr) hy hS (wkT3_any hs hK t _ _ w hok' hS hk)
  | .one i t, listed, a, w, hok, hS, h => by
    simp only [okT3, Bool.and_eq_true, decide_eq_true_eq] at hok
    refine ⟨fun h0 => (by rw [hok.1] at h0; cases h0), fun j hj => ?_⟩
    rw [hok.1] at hj
    obtain rfl : j = i := by simpa using hj
    exact wpOp_mono (fun a' w' ⟨hS', h'⟩ => ⟨fun _ _ => hS', wkT3_any hs hK t _ a' w' hok.2 hS' h'⟩) h
  | .two i k t u, listed, a, w, hok, hS, h => by
    simp only [okT3, Bool.and_eq_true, decide_eq_true_eq] at hok
    obtain ⟨⟨⟨hl, hr⟩, ht⟩, hu⟩ := hok
    have hl := Nat.eq_of_beq_eq_true hl
    refine ⟨fun h0 => (by rw [hr] at h0; cases h0), fun j hj => ?_⟩
    rw [hr] at hj
    rcases (by simpa using hj : j = i ∨ j = k) with rfl | rfl
    · exact wpOp_mono (fun a' w' ⟨hS', h'⟩ => ⟨fun _ _ => hS', wkT3_any hs hK t _ a' w' ht hS' h'⟩) h.1
    · exact wpOp_mono (fun a' w' ⟨hS', h'⟩ => ⟨fun _ _ => hS', by rw [hl]; exact wkT3_any hs hK u _ a' w' hu hS' h'⟩) h.2
  | .three i k m t u v, listed, a, w, hok, hS, h => by
    simp only [okT3, Bool.and_eq_true, decide_eq_true_eq] at hok
    obtain ⟨⟨⟨⟨⟨hl, hl2⟩, hr⟩, ht⟩, hu⟩, hv⟩ := hok
    have hl := Nat.eq_of_beq_eq_true hl
    have hl2 := Nat.eq_of_beq_eq_true hl2
    refine ⟨fun h0 => (by rw [hr] at h0; cases h0), fun j hj => ?_⟩
    rw [hr] at hj
    rcases (by simpa using hj : j = i ∨ j = k ∨ j = m) with rfl | rfl | rfl
    · exact wpOp_mono (fun a' w' ⟨hS', h'⟩ => ⟨fun _ _ => hS', wkT3_any hs hK t _ a' w' ht hS' h'⟩) h.1
    · exact wpOp_mono (fun a' w' ⟨hS', h'⟩ => ⟨fun _ _ => hS', by rw [hl]; exact wkT3_any hs hK u _ a' w' hu hS' h'⟩) h.2.1
    · exact wpOp_mono (fun a' w' ⟨hS', h'⟩ => ⟨fun _ _ => hS', by rw [hl2]; exact wkT3_any hs hK v _ a' w' hv hS' h'⟩) h.2.2
end
theorem wp_drawT3 {P : Program} {id : Nat} {ops : List Oper} {Q : Exit → Act → World → Prop} {a : Act} {w0 w : World} {M : Nat → Prop} {H : List It} (t : Pl3) (R : Act → World → Prop) (hm : P.follows .mixedOrders = true)
    (hok : (Region.noSelect ops.toArray && Nat.beq t.len ops.length && okT3 ops.toArray t (Array.replicate ops.length false)) = true) (hH : HS w0 M H w)
    (h : wkT3 P ops.toArray (HS w0 M H) Q R t a w.drew) (k : ∀ a w, R a w → Q .normal a w) : (Code.region id ops.toArray true).wp P Q a w := by
  simp only [Bool.and_eq_true] at hok
  obtain ⟨⟨hs, hl⟩, hok⟩ := hok
  have hl' : t.len = ops.toArray.size := by simpa using Nat.eq_of_beq_eq_true hl
  have := wkT3_any (P := P) (Q := Q) hs k t _ a w.drew hok hH.drew h
  rw [hl'] at this
  refine wp_region_noPanic (wp_region_any hm (wpAnyK.any (S := HS w0 M H) (F := fun _ => true) _ _ _ _ ?_))
  simpa using this
section
variable {P : Program} {N : Nat} {l : List (Nat × Value)} {a : Act} {Ds : List Deferred} {w : World} {ops : Array Oper} {S : World → Prop} {Q : Exit → Act → World → Prop} {K : Act → World → Prop} {i j m : Nat} {t u v : Pl3}
theorem d3_ex {o : Oper} {d : Nat} {v : Value} (hA : Sl N l a Ds) (hi : ops[i]? = some o) (hg : gd ops l o.guard = some true) (hd : o.dst = some d) (hdN : d < N)
    (h : Ex P N l S o v) (k' : ∀ a', Sl N ((d, v) :: l) a' Ds → wkT3 P ops S Q K t a' w) : wkT3 P ops S Q K (.q i t) a w := by
  refine ⟨o, v, hi, .inl ⟨hA.gd hg, fun w' hS => h a w' hA.toSl0 hS⟩, ?_⟩
  rw [hd]
  exact k' _ (hA.put hdN v)
theorem d3_op {o : Oper} {d : Nat} {R : Value → World → Prop} (hA : Sl N l a Ds) (hi : ops[i]? = some o) (hg : gd ops l o.guard = some true) (hd : o.dst = some d) (hdN : d < N)
    (h : Op1 P N l o w R) (k : ∀ v w', R v w' → S w' ∧ ∀ a', Sl N ((d, v) :: l) a' Ds → wkT3 P ops S Q K t a' w') : wkT3 P ops S Q K (.one i t) a w := by
  unfold wkT3 wpOp
  simp only [hi, hA.gd hg, if_true]
  refine .inl (h a hA.toSl0 _ _ fun v w' hR => ?_)
  rw [hd]
  exact ⟨(k v w' hR).1, (k v w' hR).2 _ (hA.put hdN v)⟩
theorem d3_op0 {o : Oper} {R : Value → World → Prop} (hA : Sl N l a Ds) (hi : ops[i]? = some o) (hg : gd ops l o.guard = some true) (hd : o.dst = none)
    (h : Op1 P N l o w R) (k : ∀ v w', R v w' → S w' ∧ wkT3 P ops S Q K t a w') : wkT3 P ops S Q K (.one i t) a w := by
  unfold wkT3 wpOp
  simp only [hi, hA.gd hg, if_true]
  refine .inl (h a hA.toSl0 _ _ fun v w' hR => ?_)
  rw [hd]
  exact k v w' hR
theorem d3_two (h1 : wkT3 P ops S Q K (.one i t) a w) (h2 : wkT3 P ops S Q K (.one j u) a w) : wkT3 P ops S Q K (.two i j t u) a w := ⟨h1, h2⟩
theorem d3_three (h1 : wkT3 P ops S Q K (.one i t) a w) (h2 : wkT3 P ops S Q K (.one j u) a w) (h3 : wkT3 P ops S Q K (.one m v) a w) : wkT3 P ops S Q K (.three i j m t u v) a w := ⟨h1, h2, h3⟩
end
end Go.Fw
