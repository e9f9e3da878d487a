/-
  The frame for walks, fifth part: maps with int keys; cuts of slices; lists of one shape. It names no program. Conditions: none.
  The frame of a law's proof: from what the walk gives to the row. Conditions: none.
  More of the frame: whole numbers of other kinds; a part of what can be read. Conditions: none.
  More of the frame: slices of slices; many parts as one; copy; bits; bools. Conditions: none.
  The frame of a law's proof, where the size of what is handed in is asked; slices of slices, read. Conditions: none.
-/
import Derived.Test.YtenlcdokaadobaaGreatDoorRowFuelMg1
import Derived.WalkKit
import Derived.ProofKit
import Derived.OpenShut
import Derived.Deep.Slices
import Derived.Deep.Fields
import Derived.ChangeSame
import Derived.Carry
import Derived.Laws.CopyRow
import Derived.Laws.Small
import Derived.Scope
import Derived.SizedLaws
import Derived.Deep.Matrix
namespace Go.Fw
open Go Go.RowKit
set_option linter.unusedVariables false

def flat {α : Type} (enc : α → List Value) (l : List α) : List Value := l.flatMap enc
def encI (z : Int) : List Value := [.int .i64 z]
def encP (p : Int × Int) : List Value := [.int .i64 p.1, .int .i64 p.2]
theorem encI_len (z : Int) : (encI z).length = 1 := rfl
theorem HS.nil_flat {α : Type} (enc : α → List Value) {w0 w : World} {M : Nat → Prop} {H : List It} (h : HS w0 M H w) (T sz : Nat) : HS w0 M (own T sz none 0 0 (flat enc []) :: H) w := h.nil_own T sz
theorem flat_length {α : Type} {enc : α → List Value} {sz : Nat} (henc : ∀ x, (enc x).length = sz) (l : List α) : (flat enc l).length = l.length * sz := by
  induction l with
  | nil => simp [flat]
  | cons x l ih => simp only [flat, List.flatMap_cons, List.length_append, henc, List.length_cons, Nat.add_mul] at ih ⊢; omega
theorem flat_get {α : Type} {enc : α → List Value} {sz : Nat} (henc : ∀ x, (enc x).length = sz) : ∀ {l : List α} {i off : Nat} {x : α} {v : Value}, l[i]? = some x → (enc x)[off]? = some v → (flat enc l)[i * sz + off]? = some v
  | [], i, off, x, v, hi, hv => by simp at hi
  | y :: l, 0, off, x, v, hi, hv => by
    obtain rfl : y = x := by simpa using hi
    have : off < (enc y).length := (List.getElem?_eq_some_iff.1 hv).1
    simp [flat, List.getElem?_append_left this, hv]
  | y :: l, i + 1, off, x, v, hi, hv => by
    have ih := flat_get henc (l := l) (i := i) (by simpa using hi) hv
    simp only [flat, List.flatMap_cons] at ih ⊢
    rw [List.getElem?_append_right (by rw [henc, Nat.add_mul]; omega), henc, ← ih]
    congr 1
    rw [Nat.add_mul]; omega
theorem flat_get0 {α : Type} {enc : α → List Value} {sz : Nat} (henc : ∀ x, (enc x).length = sz) {l : List α} {i : Nat} {x : α} {v : Value} (hi : l[i]? = some x) (hv : (enc x)[0]? = some v) : (flat enc l)[i * sz]? = some v :=
  flat_get henc (off := 0) hi hv
theorem flat_all {α : Type} {enc : α → List Value} {sz : Nat} (henc : ∀ x, (enc x).length = sz) {l : List α} {i : Nat} {x : α} (hi : l[i]? = some x) : ∀ k v, (enc x)[k]? = some v → (flat enc l)[i * sz + k]? = some v :=
  fun k v hv => flat_get henc hi hv
theorem flat_append {α : Type} (enc : α → List Value) (l r : List α) : flat enc (l ++ r) = flat enc l ++ flat enc r := by simp [flat]
theorem flat_one {α : Type} (enc : α → List Value) (x : α) : flat enc [x] = enc x := by simp [flat]
theorem flat_snoc {α : Type} (enc : α → List Value) (l : List α) (x : α) : flat enc (l ++ [x]) = flat enc l ++ enc x := by simp [flat]
theorem put_mid (A E B vs : List Value) (off : Nat) (h : off + vs.length ≤ E.length) : Fw.put (A ++ (E ++ B)) (A.length + off) vs = A ++ (Fw.put E off vs ++ B) := by
  unfold Fw.put
  have h1 : (A ++ (E ++ B)).take (A.length + off) = A ++ E.take off := by
    rw [List.take_append, List.take_of_length_le (by omega), show A.length + off - A.length = off by omega, List.take_append_of_le_length (by omega)]
  have h2 : (A ++ (E ++ B)).drop (A.length + off + vs.length) = E.drop (off + vs.length) ++ B := by
    rw [List.drop_append, List.drop_of_length_le (by omega), show A.length + off + vs.length - A.length = off + vs.length by omega, List.drop_append_of_le_length (by omega)]
    simp
  rw [h1, h2]
  simp [List.append_assoc]
theorem flat_put {α : Type} {enc : α → List Value} {sz : Nat} (henc : ∀ x, (enc x).length = sz) {l : List α} {i : Nat} {x y : α} {off : Nat} {vs : List Value} (hi : l[i]? = some x) (hy : Fw.put (enc x) off vs = enc y) (hle : off + vs.length ≤ sz) :
    Fw.put (flat enc l) (i * sz + off) vs = flat enc (l.set i y) := by
  have hlt : i < l.length := (List.getElem?_eq_some_iff.1 hi).1
  have hx : l[i] = x := (List.getElem?_eq_some_iff.1 hi).2
  have e : l = l.take i ++ x :: l.drop (i + 1) := by rw [← hx]; simp
  have e2 : l.set i y = l.take i ++ y :: l.drop (i + 1) := List.set_eq_take_append_cons_drop.trans (if_pos hlt)
  have hta : (flat enc (l.take i)).length = i * sz := by rw [flat_length henc, List.length_take, Nat.min_eq_left (by omega)]
  rw [e2]
  conv => lhs; rw [e]
  simp only [flat_append, show ∀ (z : α) (r : List α), flat enc (z :: r) = enc z ++ flat enc r from fun z r => by simp [flat]]
  rw [← hy, ← hta]
  exact put_mid _ _ _ _ _ (by rw [henc]; exact hle)
theorem flat_one_cell {α : Type} {enc : α → List Value} (h : ∀ x, (enc x).all (·.oneCell') = true) (l : List α) : (flat enc l).all (·.oneCell') = true := by
  simp only [flat, List.all_flatMap, List.all_eq_true]
  exact fun x _ => List.all_eq_true.1 (h x)

section
variable {P : Program} {N : Nat} {l : List (Nat × Value)} {C : World → Prop} {d : Option Tmp} {T : TypeId} {pos : String} {af : Array Edge} {g : Option (Nat × Bool)}

theorem ex_slice_hi {t e sz by_ k n c : Nat} {z : Value} {zs : List Value} {x y : Operand} {o : Option Addr} {kd : IntKind} {m : Int} [ht : TSl P t e] [hi : TIf P e z zs sz by_]
    (hx : ev l x = some (.slice o n c)) (hy : ev l y = some (.int kd m)) (hk : m = (k : Int)) (hkc : k ≤ c) : Ex P N l C ⟨d, .slice t x none (some y) none, T, pos, af, g⟩ (.slice o k c) := by
  intro a w hA _
  subst hk
  obtain ⟨ti, h3, h4, h5, h6⟩ := hi.eq
  have ho : Option.map (fun x : Addr => x.add 0) o = o := by cases o <;> simp [Addr.add]
  have hkc' : (k : Int) ≤ (c : Int) := by omega
  simp only [execOp, hA.ev hx, Instr.sliceAt, Sem.run_bind, run_underlying ht.eq, Result.andThen_ok, Instr.slice, Instr.sliceBounds, Option.map_some, Option.map_none, Sem.run_pure, hA.ev hy, Instr.sliceBound, asIntOf]
  simp [hkc', sizeOf, typeInfo, h3, h5]
  exact fun _ => ho
def subO (o : Option Addr) (c k sz : Nat) : Option Addr := if c = k then o else o.map (·.add (k * sz))
theorem ex_slice_lo {t e sz by_ k n c : Nat} {z : Value} {zs : List Value} {x y : Operand} {o : Option Addr} {kd : IntKind} {m : Int} [ht : TSl P t e] [hi : TIf P e z zs sz by_]
    (hx : ev l x = some (.slice o n c)) (hy : ev l y = some (.int kd m)) (hk : m = (k : Int)) (hkn : k ≤ n) : Ex P N l C ⟨d, .slice t x (some y) none none, T, pos, af, g⟩ (.slice (subO o c k sz) (n - k) (c - k)) := by
  intro a w hA _
  subst hk
  obtain ⟨ti, h3, h4, h5, h6⟩ := hi.eq
  have hkc' : (k : Int) ≤ (n : Int) := by omega
  simp only [execOp, hA.ev hx, Instr.sliceAt, Sem.run_bind, run_underlying ht.eq, Result.andThen_ok, Instr.slice, Instr.sliceBounds, Option.map_some, Option.map_none, Sem.run_pure, hA.ev hy, Instr.sliceBound, asIntOf]
  simp [hkc', sizeOf, typeInfo, h3, h5, subO]
theorem Rd.sub {w : World} {o : Option Addr} {xs : List Value} {n c k sz : Nat} (h : Rd w o xs) (hl : xs.length = n * sz) (hkn : k ≤ n) (hnc : n ≤ c) : Rd w (subO o c k sz) (xs.drop (k * sz)) := by
  by_cases hck : c = k
  · obtain rfl : n = k := by omega
    have : xs.drop (n * sz) = [] := by rw [← hl]; simp
    rw [this]
    exact ⟨fun h => by simp at h, fun j u h => by simp at h⟩
  · refine ⟨fun hp => ?_, fun j u hj => ?_⟩
    · obtain ⟨b, off, rfl⟩ := h.1 (by simp at hp; omega)
      by_cases hz : k * sz = 0
      · exact ⟨b, off, by simp [subO, hck, Addr.add, hz]⟩
      · exact ⟨b, off + k * sz, by simp [subO, hck, Addr.add, hz]⟩
    · rw [List.getElem?_drop] at hj
      have hlt : 0 < xs.length := by have := (List.getElem?_eq_some_iff.1 hj).1; omega
      obtain ⟨b, off, rfl⟩ := h.1 hlt
      have := h.2 _ u hj
      rw [← this]
      congr 1
      simp only [subO, hck, if_false, Option.map_some, sat, blkO, offO]
      unfold Addr.add
      split <;> simp_all [Nat.add_assoc]
theorem own_cut {w : World} {F : Nat → Prop} {T sz n cap k : Nat} {o : Option Addr} {xs : List Value} (h : (own T sz o n cap xs).sat w F) (hk : k ≤ n) : (own T sz o k cap (xs.take (k * sz))).sat w F := by
  rcases h with ⟨rfl, rfl, rfl, rfl, h⟩ | ⟨b, spare, rfl, h2, h3, h4, h5, h6, h7⟩
  · obtain rfl : k = 0 := by omega
    exact .inl ⟨rfl, rfl, rfl, by simp, h⟩
  · have hle := Nat.mul_le_mul_right sz hk
    refine .inr ⟨b, xs.drop (k * sz) ++ spare, rfl, h2, by rw [List.length_take]; omega, by omega, h5, by rw [List.length_take, List.length_append, List.length_drop]; omega, ?_⟩
    rw [← List.append_assoc, List.take_append_drop]
    exact h7

def mkE (e : Int × Value × Nat) : MapEntry := ⟨.int .i64 e.1, e.2.1, e.2.2⟩
structure EsOk (es : List (Int × Value × Nat)) (clock : Nat) : Prop where
  keys : (es.map (·.1)).Nodup
  borns : (es.map (·.2.2)).Nodup
  lt : ∀ e ∈ es, e.2.2 < clock
def mpO (b : Nat) (es : List (Int × Value × Nat)) (clock : Nat) : It := blk b (.map (es.map mkE).toArray clock)
def mp (b : Nat) (m : List (Int × Value)) : It where
  sat w F := ∃ es clock, es.map (fun e => (e.1, e.2.1)) = m ∧ EsOk es clock ∧ (mpO b es clock).sat w F
  loc := by
    rintro w w' F ⟨es, clock, h1, h2, h3⟩ he
    exact ⟨es, clock, h1, h2, (mpO b es clock).loc h3 he⟩
  lt := by
    rintro w F ⟨es, clock, h1, h2, h3⟩
    exact (mpO b es clock).lt h3
  ext := by
    rintro w F F' ⟨es, clock, h1, h2, h3⟩ he
    exact ⟨es, clock, h1, h2, (mpO b es clock).ext h3 he⟩

def mv (m : List (Int × Value)) (k : Int) : Option Value := (m.find? (fun e => e.1 == k)).map (·.2)
def mset (m : List (Int × Value)) (k : Int) (v : Value) : List (Int × Value) := if (mv m k).isSome then m.map (fun e => if e.1 == k then (k, v) else e) else m ++ [(k, v)]
def fnd (k : Int) : List (Int × Value × Nat) → Nat → Option (Nat × Value)
  | [], _ => none
  | e :: es, i => if k == e.1 then some (i, e.2.1) else fnd k es (i + 1)
theorem findNow_int (kk : IntKind) (k : Int) : ∀ (es : List (Int × Value × Nat)) (i : Nat), Instr.findNow (.int kk) (.int .i64 k) (es.map mkE) i = some (fnd k es i)
  | [], i => rfl
  | e :: es, i => by
    simp only [List.map_cons, Instr.findNow, Instr.sameNow, mkE, if_true, fnd]
    cases h : (k == e.1) with
    | true => simp
    | false => simpa using findNow_int kk k es (i + 1)
theorem fnd_mv (k : Int) : ∀ (es : List (Int × Value × Nat)) (i : Nat), (fnd k es i).map (·.2) = mv (es.map (fun e => (e.1, e.2.1))) k
  | [], i => rfl
  | e :: es, i => by
    simp only [fnd, List.map_cons, mv, List.find?_cons]
    by_cases h : k = e.1
    · subst h; simp
    · have h1 : (k == e.1) = false := by simpa using h
      have h2 : (e.1 == k) = false := by simpa using fun h' => h h'.symm
      simp only [h1, h2, Bool.false_eq_true, if_false]
      exact fnd_mv k es (i + 1)
theorem fnd_some (k : Int) : ∀ (es : List (Int × Value × Nat)) (i j : Nat) (v : Value), fnd k es i = some (j, v) → i ≤ j ∧ ∃ born, es[j - i]? = some (k, v, born)
  | [], i, j, v, h => by simp [fnd] at h
  | e :: es, i, j, v, h => by
    simp only [fnd] at h
    by_cases hk : k = e.1
    · subst hk
      simp at h
      obtain ⟨rfl, rfl⟩ := h
      exact ⟨Nat.le_refl _, e.2.2, by simp⟩
    · have h1 : (k == e.1) = false := by simpa using hk
      simp only [h1, Bool.false_eq_true, if_false] at h
      obtain ⟨h2, born, h3⟩ := fnd_some k es (i + 1) j v h
      refine ⟨by omega, born, ?_⟩
      rw [show j - i = (j - (i + 1)) + 1 by omega]
      simpa using h3
theorem fnd_none (k : Int) : ∀ (es : List (Int × Value × Nat)) (i : Nat), fnd k es i = none → ∀ e ∈ es, e.1 ≠ k
  | [], i, h => by simp
  | e :: es, i, h => by
    simp only [fnd] at h
    by_cases hk : k = e.1
    · subst hk; simp at h
    · have h1 : (k == e.1) = false := by simpa using hk
      simp only [h1, Bool.false_eq_true, if_false] at h
      intro e' he'
      rcases List.mem_cons.1 he' with rfl | he'
      · exact fun h => hk h.symm
      · exact fnd_none k es (i + 1) h e' he'

theorem run_findKey {w : World} {kt : TypeId} {kk : IntKind} [hk : TIn P kt kk] (k : Int) (es : List (Int × Value × Nat)) : (Instr.findKey kt (.int .i64 k) (es.map mkE)).run P w = .ok (fnd k es 0) w := by
  simp [Instr.findKey, run_underlying hk.eq, findNow_int]
theorem run_checkKey {w : World} {kt : TypeId} {kk : IntKind} [hk : TIn P kt kk] (em : Bool) (k : Int) : (Instr.checkKey em 10000 kt (.int .i64 k)).run P w = .ok () w := by
  rw [show (10000 : Nat) = 9999 + 1 from rfl, Instr.checkKey, Sem.run_bind, run_underlying hk.eq]
  rfl
theorem run_getObj_map {w : World} {b : Nat} {es : Array MapEntry} {c : Nat} (h : w.heap[b]? = some (.map es c)) : (getObj b).run P w = .ok (.map es c) w := by
  simp [getObj, Sem.run, h]
theorem run_setObj_map {w : World} {b : Nat} {es : Array MapEntry} {c : Nat} (h : w.heap[b]? = some (.map es c)) (o : Obj) : (setObj b o).run P w = .ok () { w with heap := w.heap.setIfInBounds b o } := by
  simp [setObj, Sem.run, h]

theorem run_lookup {w : World} {t kt e sz by_ : Nat} {kk : IntKind} {z : Value} {zs : List Value} {b c : Nat} {es : List (Int × Value × Nat)} {k : Int} {ok : Bool} [ht : TMp P t kt e] [hk : TIn P kt kk] [hi : TIf P e z zs sz by_] (h : w.heap[b]? = some (.map (es.map mkE).toArray c)) :
    (Instr.lookup t (.map (some b)) (.int .i64 k) ok).run P w = .ok (if ok then .tuple #[((fnd k es 0).map (·.2)).getD z, .bool (fnd k es 0).isSome] else ((fnd k es 0).map (·.2)).getD z) w := by
  obtain ⟨ti, h3, h4, h5, h6⟩ := hi.eq
  simp only [Instr.lookup, Sem.run_bind, run_underlying ht.eq, Result.andThen_ok, run_getObj_map h, Sem.run_pure, run_checkKey, run_findKey]
  cases hf : fnd k es 0 with
  | none => cases ok <;> simp [zeroValue, typeInfo, h3, h4]
  | some p => cases ok <;> simp

theorem ex_lookup_ok {t kt e sz by_ b : Nat} {kk : IntKind} {z : Value} {zs : List Value} {x y : Operand} {m : List (Int × Value)} {k : Int} {w0 : World} {M : Nat → Prop} {H : List It} [ht : TMp P t kt e] [hk : TIn P kt kk] [hi : TIf P e z zs sz by_]
    (hx : ev l x = some (.map (some b))) (hy : ev l y = some (.int .i64 k)) (hm : mp b m ∈ H) : Ex P N l (HS w0 M H) ⟨d, .lookup t x y true, T, pos, af, g⟩ (.tuple #[(mv m k).getD z, .bool (mv m k).isSome]) := by
  intro a w hA hH
  obtain ⟨F, es, clock, rfl, h2, h3, h4⟩ := hH.sat hm
  simp only [execOp, hA.ev hx, hA.ev hy, Sem.run_bind, run_lookup (t := t) h4, if_true, Result.andThen_ok, Sem.run_pure]
  rw [fnd_mv, ← fnd_mv k es 0]
  simp
theorem ex_lookup {t kt e sz by_ b : Nat} {kk : IntKind} {z : Value} {zs : List Value} {x y : Operand} {m : List (Int × Value)} {k : Int} {w0 : World} {M : Nat → Prop} {H : List It} [ht : TMp P t kt e] [hk : TIn P kt kk] [hi : TIf P e z zs sz by_]
    (hx : ev l x = some (.map (some b))) (hy : ev l y = some (.int .i64 k)) (hm : mp b m ∈ H) : Ex P N l (HS w0 M H) ⟨d, .lookup t x y false, T, pos, af, g⟩ ((mv m k).getD z) := by
  intro a w hA hH
  obtain ⟨F, es, clock, rfl, h2, h3, h4⟩ := hH.sat hm
  simp only [execOp, hA.ev hx, hA.ev hy, Sem.run_bind, run_lookup (t := t) h4, Bool.false_eq_true, if_false, Result.andThen_ok, Sem.run_pure]
  rw [fnd_mv]

theorem setObj_kp {w : World} {b : Nat} {o : Obj} {F : Nat → Prop} (hb : F b) : Kp w F { w with heap := w.heap.setIfInBounds b o } := by
  refine ⟨rfl, rfl, rfl, by simp, fun i hi hn => ?_⟩
  have hib : b ≠ i := fun h => hn (h ▸ hb)
  simp [Array.getElem?_setIfInBounds, hib]
theorem setObj_at {w : World} {b : Nat} {o o' : Obj} (h : w.heap[b]? = some o') : ({ w with heap := w.heap.setIfInBounds b o } : World).heap[b]? = some o := by
  have := lt_of_heap h
  simp [Array.getElem?_setIfInBounds, this]

theorem mset_mem {es : List (Int × Value × Nat)} {k : Int} {v v0 : Value} {j born : Nat} (hok : (es.map (·.1)).Nodup) (hj : es[j]? = some (k, v0, born)) :
    (es.modify j (fun e => (k, v, e.2.2))).map (fun e => (e.1, e.2.1)) = (es.map (fun e => (e.1, e.2.1))).map (fun e => if e.1 == k then (k, v) else e) := by
  apply List.ext_getElem?
  intro i
  simp only [List.getElem?_map, List.getElem?_modify]
  by_cases hij : j = i
  · subst hij; simp [hj]
  · cases he : es[i]? with
    | none => simp [hij]
    | some e =>
      have : e.1 ≠ k := by
        intro hek
        have h1 : (es.map (·.1))[i]? = some k := by simp [he, hek]
        have h2 : (es.map (·.1))[j]? = some k := by simp [hj]
        have hi : i < (es.map (·.1)).length := (List.getElem?_eq_some_iff.1 h1).1
        exact hij ((List.getElem?_inj (List.getElem?_eq_some_iff.1 h2).1 hok).1 (h2.trans h1.symm))
      simp [hij, this]

theorem op_mapUpdate {t kt e b : Nat} {kk : IntKind} {x y z : Operand} {m : List (Int × Value)} {k : Int} {v : Value} {w0 w : World} {M : Nat → Prop} {H H' : List It} [ht : TMp P t kt e] [hk : TIn P kt kk]
    (hx : ev l x = some (.map (some b))) (hy : ev l y = some (.int .i64 k)) (hz : ev l z = some v) (hH : HS w0 M H w) (hr : Rp H (mp b m) (mp b (mset m k v)) H') :
    Op1 P N l ⟨d, .mapUpdate t x y z, T, pos, af, g⟩ w (fun _ w' => HS w0 M H' w') := by
  intro a hA K Q hK
  obtain ⟨R, p, _⟩ := hr.split
  obtain ⟨F, es, clock, rfl, hok, h3, h4⟩ := hH.sat (p.symm.subset (List.mem_cons_self))
  unfold Oper.wp
  simp only [execOp, hA.ev hx, hA.ev hy, hA.ev hz, Instr.mapUpdate, Sem.run_bind, run_underlying ht.eq, Result.andThen_ok, run_getObj_map h4, run_checkKey, run_findKey]
  cases hf : fnd k es 0 with
  | some q =>
    obtain ⟨j, v0⟩ := q
    obtain ⟨_, born, hj⟩ := fnd_some k es 0 j v0 hf
    simp only [Nat.sub_zero] at hj
    have hkey : (((es.map mkE).toArray[j]?).map (·.key)).getD (.int .i64 k) = .int .i64 k := by simp [hj, mkE]
    have hkts : (Instr.keyThatStays (.int .i64 k) (.int .i64 k)).run P w = .ok (.int .i64 k) w := by simp [Instr.keyThatStays, Instr.sameBits]
    have hmod : ((es.map mkE).toArray.modify j fun e => { e with key := .int .i64 k, val := v }) = ((es.modify j (fun e => (k, v, e.2.2))).map mkE).toArray := by
      apply Array.ext'
      simp only [Array.toList_modify]
      apply List.ext_getElem?
      intro i
      simp only [List.getElem?_map, List.getElem?_modify]
      by_cases hij : j = i
      · subst hij; simp [hj, mkE]
      · simp [hij]
    have hkey' : (Option.map (fun x : MapEntry => x.key) ((List.map mkE es).toArray)[j]?).getD (Value.int IntKind.i64 k) = Value.int IntKind.i64 k := hkey
    simp only [Sem.run_bind, hkey', hkts, Result.andThen_ok, run_setObj_map h4, Oper.upon, hmod, Sem.run_pure]
    refine hK undef _ (hH.turn hr fun F' hF' => ⟨setObj_kp ((by obtain ⟨_, _, _, _, h, _⟩ := hF'; exact (h b).2 rfl)), F', ⟨es.modify j (fun e => (k, v, e.2.2)), clock, ?_, ⟨?_, ?_, ?_⟩, by obtain ⟨_, _, _, _, h, _⟩ := hF'; exact h, setObj_at h4⟩, fun b hb => .inr hb⟩)
    · have hs : (mv (es.map (fun e => (e.1, e.2.1))) k).isSome = true := by rw [← fnd_mv k es 0, hf]; rfl
      rw [mset, if_pos hs]
      exact mset_mem hok.keys hj
    · have e1 : (es.modify j (fun e => (k, v, e.2.2))).map (·.1) = es.map (·.1) := by
        apply List.ext_getElem?
        intro i
        simp only [List.getElem?_map, List.getElem?_modify]
        by_cases hij : j = i
        · subst hij; simp [hj]
        · simp [hij]
      rw [e1]; exact hok.keys
    · have e1 : (es.modify j (fun e => (k, v, e.2.2))).map (·.2.2) = es.map (·.2.2) := by
        apply List.ext_getElem?
        intro i
        simp only [List.getElem?_map, List.getElem?_modify]
        by_cases hij : j = i
        · subst hij; simp [hj]
        · simp [hij]
      rw [e1]; exact hok.borns
    · intro e he
      obtain ⟨i, hi⟩ := List.getElem?_of_mem he
      simp only [List.getElem?_modify] at hi
      by_cases hij : j = i
      · subst hij
        simp [hj] at hi
        subst hi
        exact hok.lt (k, v0, born) (List.mem_of_getElem? hj)
      · simp [hij] at hi
        exact hok.lt _ (List.mem_of_getElem? hi)
  | none =>
    have hne := fnd_none k es 0 hf
    have hpush : ((es.map mkE).toArray.push { key := .int .i64 k, val := v, born := clock }) = ((es ++ [(k, v, clock)]).map mkE).toArray := by simp [mkE]
    simp only [run_setObj_map h4, Result.andThen_ok, Oper.upon, hpush, Sem.run_pure]
    refine hK undef _ (hH.turn hr fun F' hF' => ⟨setObj_kp ((by obtain ⟨_, _, _, _, h, _⟩ := hF'; exact (h b).2 rfl)), F', ⟨es ++ [(k, v, clock)], clock + 1, ?_, ⟨?_, ?_, ?_⟩, by obtain ⟨_, _, _, _, h, _⟩ := hF'; exact h, setObj_at h4⟩, fun b hb => .inr hb⟩)
    · have hs : ¬ (mv (es.map (fun e => (e.1, e.2.1))) k).isSome = true := by rw [← fnd_mv k es 0, hf]; simp
      rw [mset, if_neg hs]
      simp
    · rw [List.map_append, List.nodup_append]
      refine ⟨hok.keys, by simp, fun x hx y hy => ?_⟩
      obtain ⟨e, he, rfl⟩ := List.mem_map.1 hx
      simp at hy; subst hy
      exact hne e he
    · rw [List.map_append, List.nodup_append]
      refine ⟨hok.borns, by simp, fun x hx y hy => ?_⟩
      obtain ⟨e, he, rfl⟩ := List.mem_map.1 hx
      simp at hy; subst hy
      exact Nat.ne_of_lt (hok.lt e he)
    · intro e he
      rcases List.mem_append.1 he with he | he
      · have := hok.lt e he; omega
      · simp at he; subst he; exact Nat.lt_succ_self _

theorem eraseIdx_map' {α β : Type} (f : α → β) : ∀ (l : List α) (j : Nat), (l.map f).eraseIdx j = (l.eraseIdx j).map f
  | [], j => rfl
  | x :: l, 0 => rfl
  | x :: l, j + 1 => by simp [eraseIdx_map' f l j]
theorem eraseIdx_fnd {es : List (Int × Value × Nat)} {k : Int} {j born : Nat} {v : Value} (hok : (es.map (·.1)).Nodup) (hj : es[j]? = some (k, v, born)) : es.eraseIdx j = es.filter (fun e => !(e.1 == k)) := by
  induction es generalizing j with
  | nil => simp at hj
  | cons e es ih =>
    simp only [List.map_cons, List.nodup_cons] at hok
    cases j with
    | zero =>
      obtain rfl : e = (k, v, born) := by simpa using hj
      simp only [List.eraseIdx_cons_zero, List.filter_cons, BEq.rfl, Bool.not_true, Bool.false_eq_true, if_false]
      refine (List.filter_eq_self.2 fun e' he' => ?_).symm
      have : e'.1 ≠ k := fun h => hok.1 (h ▸ List.mem_map.2 ⟨e', he', rfl⟩)
      simpa using this
    | succ j =>
      have hj' : es[j]? = some (k, v, born) := by simpa using hj
      have : e.1 ≠ k := fun h => hok.1 (h ▸ List.mem_map.2 ⟨_, List.mem_of_getElem? hj', rfl⟩)
      have h1 : (e.1 == k) = false := by simpa using this
      simp only [List.eraseIdx_cons_succ, List.filter_cons, h1, Bool.not_false, if_true]
      rw [ih hok.2 hj']
theorem EsOk.filter {es : List (Int × Value × Nat)} {clock : Nat} (h : EsOk es clock) (p : Int × Value × Nat → Bool) : EsOk (es.filter p) clock :=
  ⟨h.keys.sublist ((List.filter_sublist).map _), h.borns.sublist ((List.filter_sublist).map _), fun e he => h.lt e (List.mem_filter.1 he).1⟩

theorem op_makeMap {t : Nat} {w0 w : World} {M : Nat → Prop} {H : List It} (hH : HS w0 M H w) :
    Op1 P N l ⟨d, .makeMap t none, T, pos, af, g⟩ w (fun v w' => ∃ b, v = .map (some b) ∧ HS w0 M (mp b [] :: H) w') := by
  intro a hA K Q hK
  unfold Oper.wp
  simp only [execOp, Instr.makeMap, Option.map_none, Sem.run_bind, Sem.run_pure, run_newObj, World.alloc_eq, Result.andThen_ok, Oper.upon]
  exact hK _ _ ⟨w.heap.size, rfl, hH.come (alloc_kp w _) (F' := fun x => x = w.heap.size) ⟨[], 0, rfl, ⟨by simp, by simp, by simp⟩, fun x => Iff.rfl, heap_alloc_new w _⟩ fun b hb => by omega⟩

theorem ex_makeFunc {fn : Fn} {first captured : Array Operand} {fs cs : List Value} (hf : evL l first.toList = some fs) (hc : evL l captured.toList = some cs) :
    Ex P N l C ⟨d, .makeFunc fn first captured, T, pos, af, g⟩ (.func fn fs.toArray cs.toArray) := by
  intro a w hA _
  have e1 : first.map a.eval = fs.toArray := by
    have := hA.evL hf
    apply Array.ext'
    simpa using this
  have e2 : captured.map a.eval = cs.toArray := by
    have := hA.evL hc
    apply Array.ext'
    simpa using this
  simp only [execOp, Instr.makeFunc, e1, e2, Sem.run_bind, Sem.run_pure, Result.andThen_ok]

def itr (r b clock : Nat) (seen : List Nat) : It := blk r (.mapIter (some b) clock seen.toArray clock)
theorem op_range {t kt e b clock : Nat} {es : List (Int × Value × Nat)} {x : Operand} {w0 w : World} {M : Nat → Prop} {H : List It} [ht : TMp P t kt e] (hx : ev l x = some (.map (some b))) (hH : HS w0 M H w) (hm : mpO b es clock ∈ H) :
    Op1 P N l ⟨d, .range t x, T, pos, af, g⟩ w (fun v w' => ∃ r, v = .pointer (some (bat r 0)) ∧ HS w0 M (itr r b clock [] :: H) w') := by
  intro a hA K Q hK
  obtain ⟨F, h3, h4⟩ := hH.sat hm
  unfold Oper.wp
  simp only [execOp, hA.ev hx, Instr.range, Sem.run_bind, run_underlying ht.eq, Result.andThen_ok, run_getObj_map h4, Sem.run_pure, run_newObj, World.alloc_eq, Oper.upon]
  exact hK _ _ ⟨w.heap.size, rfl, hH.come_blk _⟩
theorem run_getObj_iter {w : World} {r : Nat} {o : Option Nat} {s st : Nat} {seen : Array Nat} (h : w.heap[r]? = some (.mapIter o s seen st)) : (getObj r).run P w = .ok (.mapIter o s seen st) w := by
  simp [getObj, Sem.run, h]
theorem run_setObj_iter {w : World} {r : Nat} {o : Option Nat} {s st : Nat} {seen : Array Nat} (h : w.heap[r]? = some (.mapIter o s seen st)) (x : Obj) : (setObj r x).run P w = .ok () { w with heap := w.heap.setIfInBounds r x } := by
  simp [setObj, Sem.run, h]

theorem op_next {r b clock : Nat} {seen : List Nat} {es : List (Int × Value × Nat)} {x : Operand} {w0 w : World} {M : Nat → Prop} {H : List It}
    (hx : ev l x = some (.pointer (some (bat r 0)))) (hH : HS w0 M H w) (hi : itr r b clock seen ∈ H) (hm : mpO b es clock ∈ H) (hok : EsOk es clock) :
    Op1 P N l ⟨d, .next x false, T, pos, af, g⟩ w (fun v w' =>
      ((∀ e ∈ es, e.2.2 ∈ seen) ∧ v = .tuple #[.bool false] ∧ HS w0 M H w') ∨
      (∃ e ∈ es, e.2.2 ∉ seen ∧ v = .tuple #[.bool true, .int .i64 e.1, e.2.1] ∧ ∀ H', Rp H (itr r b clock seen) (itr r b clock (seen ++ [e.2.2])) H' → HS w0 M H' w')) := by
  intro a hA K Q hK
  obtain ⟨F, h3, h4⟩ := hH.sat hm
  obtain ⟨F2, h5, h6⟩ := hH.sat hi
  have hcheck : (!seen.toArray.isEmpty && !(es.map mkE).toArray.isEmpty && (es.map mkE).toArray.all (fun x => decide (x.born ≥ clock))) = false := by
    cases hes : es with
    | nil => simp
    | cons e es' =>
      have := hok.lt e (by simp [hes])
      simp [mkE]
      intro _ hle
      omega
  have hleft : ((es.map mkE).toArray.filter (fun e => !seen.toArray.contains e.born)) = ((es.filter (fun e => !seen.contains e.2.2)).map mkE).toArray := by
    apply Array.ext'
    simp [List.filter_map, Function.comp_def, mkE]
    rfl
  have hold : ((((es.filter (fun e => !seen.contains e.2.2)).map mkE).toArray).filter (fun x => decide (x.born < clock))) = ((es.filter (fun e => !seen.contains e.2.2)).map mkE).toArray := by
    rw [Array.filter_eq_self]
    intro x hx
    simp only [List.mem_toArray, List.mem_map] at hx
    obtain ⟨e, he, rfl⟩ := hx
    exact decide_eq_true (hok.lt e (List.mem_filter.1 he).1)
  have hnew : ((((es.filter (fun e => !seen.contains e.2.2)).map mkE).toArray).filter (fun x => decide (x.born ≥ clock))) = #[] := by
    rw [Array.filter_eq_empty_iff]
    intro x hx
    simp only [List.mem_toArray, List.mem_map] at hx
    obtain ⟨e, he, rfl⟩ := hx
    have := hok.lt e (List.mem_filter.1 he).1
    simp [mkE]; omega
  unfold Oper.wp
  simp only [execOp, hA.ev hx, bat, Instr.next, Sem.run_bind, run_getObj_iter h6, Result.andThen_ok, run_getObj_map h4, hcheck, Bool.false_eq_true, if_false, hleft, hold, hnew, Sem.run_pure, Array.append_empty]
  generalize hL : es.filter (fun e => !seen.contains e.2.2) = L
  have hLm : ∀ e, e ∈ L → e ∈ es ∧ e.2.2 ∉ seen := fun e he => by
    rw [← hL] at he
    have := List.mem_filter.1 he
    exact ⟨this.1, by simpa using this.2⟩
  cases L with
  | nil =>
    have hall : ∀ e ∈ es, e.2.2 ∈ seen := fun e he => by
      have := List.filter_eq_nil_iff.1 hL e he
      simpa using this
    simp only [List.map_nil, Array.map_empty, Array.isEmpty_empty, if_true, Array.append_empty]
    simp [Question.forced, run_choose]
    simp only [Oper.upon]
    exact hK _ _ (.inl ⟨hall, rfl, hH⟩)
  | cons e0 L' =>
    have hne : ((List.map mkE (e0 :: L')).toArray).isEmpty = false := by simp
    simp only [hne, Bool.false_eq_true, if_false]
    have hch : ∀ n : Nat, 0 < n → ∃ i w1, i < n ∧ (choose (.mapNext n)).run P w = .ok i w1 ∧ w1.heap = w.heap ∧ Kp w noM w1 := by
      intro n hn
      by_cases hf : n ≤ 1
      · refine ⟨0, w, hn, ?_, rfl, Kp.refl _ _⟩
        simp [run_choose, Question.forced, hf]
      · refine ⟨(Question.mapNext n).cut (w.tape w.drawn (.mapNext n)), w.drew, by simpa [Question.cut] using Nat.mod_lt _ hn, ?_, rfl, Kp.drew _ _⟩
        simp [run_choose, Question.forced, hf]
    obtain ⟨i, w1, hi1, hrun, hheap, hkp⟩ := hch (#[] ++ ((List.map mkE (e0 :: L')).toArray.map some)).size (by simp)
    simp only [hrun, Result.andThen_ok]
    have hi2 : i < (e0 :: L').length := by simpa using hi1
    have hget : (#[] ++ ((List.map mkE (e0 :: L')).toArray.map some))[i]? = some (some (mkE (e0 :: L')[i])) := by
      have : (List.map (some ∘ mkE) (e0 :: L'))[i]? = some (some (mkE (e0 :: L')[i])) := by rw [List.getElem?_map, List.getElem?_eq_getElem hi2]; rfl
      simpa using this
    simp only [hget]
    obtain ⟨he1, he2⟩ := hLm _ (List.getElem_mem hi2)
    have h6' : w1.heap[r]? = some (.mapIter (some b) clock seen.toArray clock) := by rw [hheap]; exact h6
    simp only [Sem.run_bind, run_setObj_iter h6', Result.andThen_ok, Sem.run_pure, Oper.upon]
    refine hK _ _ (.inr ⟨_, he1, he2, rfl, fun H' hrp => ?_⟩)
    refine (hH.keep hkp).turn hrp fun F' hF' => ⟨setObj_kp ((hF'.1 r).2 rfl), F', ⟨hF'.1, ?_⟩, fun b hb => .inr hb⟩
    have := setObj_at (o := .mapIter (some b) clock (seen.toArray.push (mkE (e0 :: L')[i]).born) clock) h6'
    simpa [mkE] using this

theorem ex_entry {r b clock : Nat} {seen : List Nat} {es : List (Int × Value × Nat)} {x : Operand} {e : Int × Value × Nat} {w0 : World} {M : Nat → Prop} {H : List It}
    (hx : ev l x = some (.pointer (some (bat r 0)))) (hi : itr r b clock (seen ++ [e.2.2]) ∈ H) (hm : mpO b es clock ∈ H) (hok : (es.map (·.2.2)).Nodup) (he : e ∈ es) :
    Ex P N l (HS w0 M H) ⟨d, .entry x, T, pos, af, g⟩ (.tuple #[.int .i64 e.1, e.2.1]) := by
  intro a w hA hH
  obtain ⟨F, h3, h4⟩ := hH.sat hm
  obtain ⟨F2, h5, h6⟩ := hH.sat hi
  have hf : (es.map mkE).toArray.find? (fun x => x.born == e.2.2) = some (mkE e) := by
    rw [List.find?_toArray, List.find?_map, Option.map_eq_some_iff]
    refine ⟨e, ?_, rfl⟩
    simp only [Function.comp_def, mkE]
    clear h4 hm h3
    induction es with
    | nil => simp at he
    | cons e' es ih =>
      simp only [List.map_cons, List.nodup_cons] at hok
      rw [List.find?_cons]
      rcases List.mem_cons.1 he with rfl | he'
      · simp
      · have hne : e'.2.2 ≠ e.2.2 := fun h => hok.1 (h ▸ List.mem_map.2 ⟨e, he', rfl⟩)
        have hb : (e'.2.2 == e.2.2) = false := by simpa using hne
        simp only [hb]
        exact ih hok.2 he'
  simp only [execOp, hA.ev hx, bat, Instr.entry, Sem.run_bind, run_getObj_iter h6, Result.andThen_ok]
  have hb : (seen ++ [e.2.2]).toArray.back? = some e.2.2 := by simp
  simp only [hb, Sem.run_bind, run_getObj_map h4, Result.andThen_ok]
  simp [hf, mkE]

def encM (m : List (Int × Int)) : List (Int × Value) := m.map fun p => (p.1, .int .i64 p.2)
def mpI (b : Nat) (m : List (Int × Int)) : It := mp b (encM m)
def lkI (m : List (Int × Int)) (k : Int) : Option Int := (m.find? (fun e => e.1 == k)).map (·.2)
theorem mv_encM (m : List (Int × Int)) (k : Int) : mv (encM m) k = (lkI m k).map (.int .i64) := by
  simp [mv, encM, lkI, List.find?_map, Function.comp_def]
theorem getD_encM (m : List (Int × Int)) (k : Int) : (mv (encM m) k).getD (.int .i64 0) = .int .i64 ((lkI m k).getD 0) := by
  rw [mv_encM]; cases lkI m k <;> rfl
theorem ex_lookupI_ok {t kt e sz by_ b : Nat} {kk : IntKind} {zs : List Value} {x y : Operand} {m : List (Int × Int)} {k : Int} {w0 : World} {M : Nat → Prop} {H : List It} [ht : TMp P t kt e] [hk : TIn P kt kk] [hi : TIf P e (.int .i64 0) zs sz by_]
    (hx : ev l x = some (.map (some b))) (hy : ev l y = some (.int .i64 k)) (hm : mpI b m ∈ H) : Ex P N l (HS w0 M H) ⟨d, .lookup t x y true, T, pos, af, g⟩ (.tuple #[.int .i64 ((lkI m k).getD 0), .bool (lkI m k).isSome]) := by
  have := ex_lookup_ok (P := P) (N := N) (l := l) (d := d) (T := T) (pos := pos) (af := af) (g := g) (t := t) (w0 := w0) (M := M) hx hy hm
  rw [getD_encM, mv_encM, Option.isSome_map] at this
  exact this
theorem ex_lookupI {t kt e sz by_ b : Nat} {kk : IntKind} {zs : List Value} {x y : Operand} {m : List (Int × Int)} {k : Int} {w0 : World} {M : Nat → Prop} {H : List It} [ht : TMp P t kt e] [hk : TIn P kt kk] [hi : TIf P e (.int .i64 0) zs sz by_]
    (hx : ev l x = some (.map (some b))) (hy : ev l y = some (.int .i64 k)) (hm : mpI b m ∈ H) : Ex P N l (HS w0 M H) ⟨d, .lookup t x y false, T, pos, af, g⟩ (.int .i64 ((lkI m k).getD 0)) := by
  have := ex_lookup (P := P) (N := N) (l := l) (d := d) (T := T) (pos := pos) (af := af) (g := g) (t := t) (w0 := w0) (M := M) hx hy hm
  rw [getD_encM] at this
  exact this
theorem op_makeMapI {t : Nat} {w0 w : World} {M : Nat → Prop} {H : List It} (hH : HS w0 M H w) :
    Op1 P N l ⟨d, .makeMap t none, T, pos, af, g⟩ w (fun v w' => ∃ b, v = .map (some b) ∧ HS w0 M (mpI b [] :: H) w') := op_makeMap hH
theorem one_cell_of (a b : Nat) {z : Value} {zs : List Value} {by_ : Nat} [hi : TIf P a z zs 1 by_] : ∃ i, P.info? (a, b).1 = some i ∧ i.size = 1 :=
  let ⟨i, h1, _, h3, _⟩ := hi.eq
  ⟨i, h1, h3⟩

def encE (e : Int × Int × Nat) : Int × Value × Nat := (e.1, .int .i64 e.2.1, e.2.2)
structure ElOk (el : List (Int × Int × Nat)) (clock : Nat) : Prop where
  keys : (el.map (·.1)).Nodup
  borns : (el.map (·.2.2)).Nodup
  lt : ∀ e ∈ el, e.2.2 < clock
def mpE (b : Nat) (el : List (Int × Int × Nat)) (clock : Nat) : It := mpO b (el.map encE) clock
theorem ElOk.es {el : List (Int × Int × Nat)} {clock : Nat} (h : ElOk el clock) : EsOk (el.map encE) clock :=
  ⟨by simpa [encE, Function.comp_def] using h.keys, by simpa [encE, Function.comp_def] using h.borns, fun e he => by
    obtain ⟨e', he', rfl⟩ := List.mem_map.1 he
    exact h.lt e' he'⟩
end
end Go.Fw
namespace Go.Fw
open Go Go.ChangeShapes Go.WideShapes Go.ChangeAt Go.RowKit Go.Deep
set_option linter.unusedVariables false

theorem HS.pick {w0 w : World} {M : Nat → Prop} {H : List It} {it : It} (h : HS w0 M H w) (hm : it ∈ H) : HS w0 M [it] w :=
  let ⟨_, p⟩ := mem_split hm
  (h.perm p).head
def LawR (w0 : World) (v : Value) (w : World) : Prop := v = .bool true ∧ Kp w0 noM w
theorem Kp.below {w0 w : World} (h : Kp w0 noM w) : Below w0.heap.size w0 w := ⟨h.os, h.tape, h.output, h.size, fun k hk => h.block k hk id⟩
section
variable {H : Type} {enc : TypeId × Value → H} {P : Program}
theorem trodAll_stays (hl : laidOutB P = true) {W W' : World} (hb : Below W.heap.size W W') : ∀ {ts : List TypeId} {vs : List Value} {ds : List (DataW H)} {ps : List MemPlace},
    (∀ t ∈ ts, P.readableRec t = true ∧ t < P.types.size) → DataW.TrodAll enc P W 0 (fun _ => true) true ts vs ds ps → (∀ x ∈ ps, x.block < W.heap.size) →
    DataW.TrodAll enc P W' 0 (fun b => decide (b < W.heap.size)) true ts vs ds ps
  | [], vs, ds, ps, _, h, _ => by
    obtain ⟨rfl, rfl, rfl⟩ := trodAll_nil h
    exact trodAll_mk0
  | t :: ts, vs, ds, ps, hr, h, hlt => by
    obtain ⟨v, vs1, d, ds1, a, b, rfl, rfl, rfl, h1, h2⟩ := trodAll_cons h
    have hlt1 : ∀ x ∈ a, x.block < W.heap.size := fun x hx => hlt x (List.mem_append.2 (.inl hx))
    have hlt2 : ∀ x ∈ b, x.block < W.heap.size := fun x hx => hlt x (List.mem_append.2 (.inr hx))
    have ht := hr t (List.mem_cons_self)
    exact trodAll_cons_mk (Below.trod hl ht.1 ht.2 h1 hb hlt1) (trodAll_stays hl hb (fun t ht => hr t (List.mem_cons_of_mem _ ht)) h2 hlt2)
theorem trodAll_len {W : World} {base : Nat} {spare : Nat → Bool} {held : Bool} : ∀ {ts : List TypeId} {vs : List Value} {ds : List (DataW H)} {ps : List MemPlace},
    DataW.TrodAll enc P W base spare held ts vs ds ps → ds.length = ts.length
  | [], vs, ds, ps, h => by
    obtain ⟨rfl, rfl, rfl⟩ := trodAll_nil h
    rfl
  | t :: ts, vs, ds, ps, h => by
    obtain ⟨v, vs1, d, ds1, a, b, rfl, rfl, rfl, h1, h2⟩ := trodAll_cons h
    simp [trodAll_len h2]
theorem law_post {f : Func} {s : ChangeSpec} {W W' : World} {args : Array Value} {ds gs : List (DataW H)} {before : List MemPlace} {tb : TypeId}
    (hl : laidOutB P = true) (hrd : f.params.toList.all (fun t => P.readableRec t && decide (t < P.types.size)) = true) (hv : s.vars = [])
    (hs : ∀ ds : List (DataW H), ds.length = f.params.size → (s.fn H (ds ++ [])).results = [.lit (.bool true)] ∧ (s.fn H (ds ++ [])).args = ds ∧ (s.fn H (ds ++ [])).vars = [])
    (hrt : f.resultTypes = #[tb]) (hb : P.underlying tb = some .bool)
    (hW : DataW.Whole enc P f.params.toList s.vars false W args.toList ds gs before) (hk : Kp W noM W') :
    s.post enc P f false true false false W args (.bool true) W' := by
  have hW' := hW
  obtain ⟨p, q, hA, hV, rfl, hfz, hnd⟩ := hW
  rw [hv] at hV
  have hg : gs = [] ∧ q = [] := by
    cases gs with
    | nil => exact ⟨rfl, hV⟩
    | cons g gs => exact hV.elim
  obtain ⟨rfl, rfl⟩ := hg
  have hlen := trodAll_len hA
  rw [Array.length_toList] at hlen
  obtain ⟨h1, h2, h3⟩ := hs ds hlen
  have hlt : ∀ x ∈ p, x.block < W.heap.size := fun x hx => by simpa using hW'.lt x (List.mem_append.2 (.inl hx))
  refine ⟨ds, [], p ++ [], [], p, [], hW', ?_, ?_, ?_, (Kp.below hk).frame _, fun h => by cases h⟩
  · rw [h1, hrt]
    exact trodAll_cons_mk (shut_bool hb _) trodAll_mk0
  · rw [h2]
    refine trodAll_stays hl (Kp.below hk) (fun t ht => ?_) hA hlt
    have := List.all_eq_true.1 hrd t ht
    simpa using this
  · rw [h3, hv]; rfl

end

section
variable {H : Type} {enc : TypeId × Value → H} {P : Program} {w : World} {base : Nat} {spare : Nat → Bool} {held : Bool}
theorem choose_list {α : Type} (p : Nat → α → Prop) : ∀ n : Nat, (∀ i, i < n → ∃ x, p i x) → ∃ l : List α, l.length = n ∧ ∀ i x, l[i]? = some x → p i x
  | 0, _ => ⟨[], rfl, by simp⟩
  | n + 1, h => by
    obtain ⟨l, hl, hp⟩ := choose_list p n (fun i hi => h i (by omega))
    obtain ⟨x, hx⟩ := h n (by omega)
    refine ⟨l ++ [x], by simp [hl], fun i y hy => ?_⟩
    rcases Nat.lt_or_ge i n with hi | hi
    · rw [List.getElem?_append_left (by omega)] at hy
      exact hp i y hy
    · have := (List.getElem?_eq_some_iff.1 hy).1
      simp only [List.length_append, List.length_cons, List.length_nil] at this
      obtain rfl : i = n := by omega
      rw [List.getElem?_append_right (by omega), hl] at hy
      simp at hy
      exact hy ▸ hx
end
end Go.Fw
namespace Go.Fw
open Go Go.ChangeShapes Go.WideShapes Go.ChangeAt Go.RowKit Go.Deep
set_option linter.unusedVariables false
section
variable {P : Program} {N : Nat} {l : List (Nat × Value)} {C : World → Prop} {d : Option Tmp} {T : TypeId} {pos : String} {af : Array Edge} {g : Option (Nat × Bool)}
theorem ex_rem {t ty : TypeId} {x y : Operand} {k : IntKind} {m n : Int} (hx : ev l x = some (.int k m)) (hy : ev l y = some (.int k n)) (h : n ≠ 0) : Ex P N l C ⟨d, .binOp .rem t x y ty, T, pos, af, g⟩ (.int k (m.tmod n)) := by
  intro a w hA _
  simp only [execOp, hA.ev hx, hA.ev hy, eqGuard_at_int, binOp_rem]
  simp [Op.intDiv, h]
theorem ex_quo {t ty : TypeId} {x y : Operand} {k : IntKind} {m n : Int} (hx : ev l x = some (.int k m)) (hy : ev l y = some (.int k n)) (h : n ≠ 0) : Ex P N l C ⟨d, .binOp .quo t x y ty, T, pos, af, g⟩ (.int k (k.wrap (m.tdiv n))) := by
  intro a w hA _
  simp only [execOp, hA.ev hx, hA.ev hy, eqGuard_at_int, binOp_quo]
  simp [Op.intDiv, h]
theorem ex_convert {s t : TypeId} {x : Operand} {k kd ks : IntKind} {m v : Int} [hs : TIn P s ks] [ht : TIn P t kd] (hx : ev l x = some (.int k m)) (hv : kd.wrap m = v) : Ex P N l C ⟨d, .convert s t x, T, pos, af, g⟩ (.int kd v) := by
  intro a w hA _
  subst hv
  simp only [execOp, hA.ev hx, convert, Sem.run_bind, run_underlying hs.eq, run_underlying ht.eq, Result.andThen_ok, Conv.intToInt, Sem.run_pure]
end
theorem Rd.take {w : World} {o : Option Addr} {xs : List Value} (h : Rd w o xs) (k : Nat) : Rd w o (xs.take k) := by
  refine ⟨fun hp => h.1 (by rw [List.length_take] at hp; omega), fun j u hj => h.2 j u ?_⟩
  have hjk : j < k := by
    have := (List.getElem?_eq_some_iff.1 hj).1
    rw [List.length_take] at this; omega
  rwa [List.getElem?_take_of_lt hjk] at hj
section
variable {H : Type} {enc : TypeId × Value → H} {P : Program} {w : World} {base : Nat} {spare : Nat → Bool} {held : Bool}
end
end Go.Fw
namespace Go.Fw
open Go Go.RowKit
set_option linter.unusedVariables false

def encB (b : Bool) : List Value := [.bool b]
abbrev Sd := Option Addr × Nat × Nat
def Sd.v (d : Sd) : Value := .slice d.1 d.2.1 d.2.2
def RdR {α : Type} (enc : α → List Value) (w : World) (ds : List Sd) (rows : List (List α)) : Prop :=
  ds.length = rows.length ∧ ∀ (i : Nat) (d : Sd) (r : List α), ds[i]? = some d → rows[i]? = some r → d.2.1 = r.length ∧ Rd w d.1 (flat enc r)
theorem RdR.at {α : Type} {enc : α → List Value} {w : World} {ds : List Sd} {rows : List (List α)} (h : RdR enc w ds rows) {i : Nat} {r : List α} (hr : rows[i]? = some r) :
    ∃ o c, ds[i]? = some (o, r.length, c) ∧ Rd w o (flat enc r) := by
  have hlt := (List.getElem?_eq_some_iff.1 hr).1
  obtain ⟨d, hd⟩ : ∃ d, ds[i]? = some d := ⟨_, List.getElem?_eq_getElem (by rw [h.1]; exact hlt)⟩
  obtain ⟨h1, h2⟩ := h.2 i d r hd hr
  obtain ⟨o, n, c⟩ := d
  dsimp only at h1 h2
  subst h1
  exact ⟨o, c, hd, h2⟩

def andK (k : IntKind) (m n : Int) : Int := k.wrap ((BitVec.ofInt k.bits m &&& BitVec.ofInt k.bits n).toNat)
def shrK (k : IntKind) (m n : Int) : Int := m.fdiv (2 ^ (min n.toNat k.bits))

theorem HS.moreM {w0 w : World} {M M' : Nat → Prop} {H : List It} (h : HS w0 M H w) (hM : ∀ b, M b → M' b) : HS w0 M' H w := by
  obtain ⟨hk, F, hF, ho⟩ := h
  exact ⟨⟨hk.os, hk.tape, hk.output, hk.size, fun b hb hn => hk.block b hb fun h => hn (hM b h)⟩, F, hF, fun b hb => (ho b hb).imp id (hM b)⟩
theorem HS.join {w0 w w' : World} {M : Nat → Prop} {H H' : List It} (h : HS w0 M H w) (h' : HS w noM H' w') : HS w0 M (H' ++ H) w' := by
  obtain ⟨Mc, h1, h2, h3⟩ := HS.frame (Hc := []) (Hf := H) h
  exact h3 w' H' (h'.moreM fun b hb => hb.elim)

def all (L : List It) : It where
  sat w F := Hp w L F
  loc := fun h he => h.loc he
  lt := fun h b hb => h.lt b hb
  ext := fun h he => h.ext he
theorem HS.open_ {w0 w : World} {M : Nat → Prop} {L H : List It} (h : HS w0 M (all L :: H) w) : HS w0 M (L ++ H) w := by
  obtain ⟨hk, F, ⟨F1, F2, hF, hd, h1, h2⟩, ho⟩ := h
  exact ⟨hk, _, Hp.mk_append hd h1 h2, fun b hb => ho b ((hF b).2 hb)⟩
theorem HS.shut {w0 w : World} {M : Nat → Prop} {L H : List It} (h : HS w0 M (L ++ H) w) : HS w0 M (all L :: H) w := by
  obtain ⟨hk, F, hF, ho⟩ := h
  obtain ⟨F1, F2, hG, hd, h1, h2⟩ := hF.append
  exact ⟨hk, F, ⟨F1, F2, hG, hd, h1, h2⟩, ho⟩
theorem HS.openAt {w0 w : World} {M : Nat → Prop} {L H : List It} {i : Nat} {x : It} (h : HS w0 M (all L :: H) w) (hi : L[i]? = some x) : HS w0 M (x :: all (L.eraseIdx i) :: H) w := by
  have h1 := h.open_.perm ((perm_pick0 i hi).append_right H)
  have h2 : HS w0 M (L.eraseIdx i ++ (x :: H)) w := h1.perm List.perm_middle.symm
  exact h2.shut.perm (.swap _ _ _)
theorem eraseIdx_set_perm {x : It} : ∀ {L : List It} {i : Nat}, i < L.length → (x :: L.eraseIdx i).Perm (L.set i x)
  | [], i, h => by simp at h
  | y :: L, 0, h => .refl _
  | y :: L, i + 1, h => (List.Perm.swap y x _).trans ((eraseIdx_set_perm (L := L) (i := i) (by simpa using h)).cons y)
theorem HS.shutAt {w0 w : World} {M : Nat → Prop} {L H : List It} {i : Nat} {x : It} (h : HS w0 M (x :: all (L.eraseIdx i) :: H) w) (hi : i < L.length) : HS w0 M (all (L.set i x) :: H) w := by
  have h1 : HS w0 M (all (L.eraseIdx i) :: x :: H) w := h.perm (.swap _ _ _)
  have h2 : HS w0 M (x :: (L.eraseIdx i ++ H)) w := h1.open_.perm List.perm_middle
  have h3 : HS w0 M (L.set i x ++ H) w := h2.perm ((eraseIdx_set_perm hi).append_right H)
  exact h3.shut
theorem HS.nil_all {w0 w : World} {M : Nat → Prop} {H : List It} (h : HS w0 M H w) : HS w0 M (all [] :: H) w := HS.shut (L := []) h

theorem HS.pushA {w0 w : World} {M : Nat → Prop} {L H : List It} {x : It} (h : HS w0 M (x :: all L :: H) w) : HS w0 M (all (L ++ [x]) :: H) w := by
  have h1 : HS w0 M (all L :: x :: H) w := h.perm (.swap _ _ _)
  have h2 : HS w0 M (L ++ [x] ++ H) w := by simpa using h1.open_
  exact h2.shut

def owns {α : Type} (T sz : Nat) (enc : α → List Value) (ds : List Sd) (rows : List (List α)) : List It := List.zipWith (fun (d : Sd) r => own T sz d.1 d.2.1 d.2.2 (flat enc r)) ds rows
theorem flat_set1 {α : Type} {enc : α → List Value} (henc : ∀ x, (enc x).length = 1) {l : List α} {i : Nat} (hi : i < l.length) (y : α) : Fw.put (flat enc l) i (enc y) = flat enc (l.set i y) := by
  have := flat_put henc (l := l) (i := i) (x := l[i]) (y := y) (off := 0) (vs := enc y) (List.getElem?_eq_getElem hi) (by
    unfold put
    rw [List.take_zero, List.drop_of_length_le (by rw [henc, henc]; exact Nat.le_refl _)]
    simp) (by rw [henc]; exact Nat.le_refl _)
  simpa using this
theorem flat_replicate {α : Type} {enc : α → List Value} {z : Value} {x : α} (h : enc x = [z]) : ∀ n, List.replicate n z = flat enc (List.replicate n x)
  | 0 => rfl
  | n + 1 => by
    rw [List.replicate_succ, List.replicate_succ, flat_replicate h n]
    simp [flat, h]
theorem made_flat {α : Type} {enc : α → List Value} {z : Value} {x : α} (h : enc x = [z]) (hz : z.cells = #[z]) (n : Nat) : (madeCells z.cells (n * 1)).toList.take (n * 1) = flat enc (List.replicate n x) := by
  rw [madeCells_scalar z hz, ← flat_replicate h n]
  simp

section
variable {P : Program} {N : Nat} {l : List (Nat × Value)} {C : World → Prop} {d : Option Tmp} {T : TypeId} {pos : String} {af : Array Edge} {g : Option (Nat × Bool)}
theorem op_make1 {α : Type} (enc : α → List Value) (x0 : α) {t e by_ : Nat} {z : Value} {zs : List Value} {x y : Operand} {kl kc : IntKind} {n : Nat} {m m' : Int} {w0 w : World} {M : Nat → Prop} {H : List It} [ht : TSl P t e] [hi : TIf P e z zs 1 by_]
    (hx : ev l x = some (.int kl m)) (hy : ev l y = some (.int kc m')) (hm : m = (n : Int)) (hm' : m' = (n : Int)) (hc : n ≤ maxLen) (hb : by_ * n ≤ 140737488355328) (he : enc x0 = [z]) (hz : z.cells = #[z]) (hH : HS w0 M H w) :
    Op1 P N l ⟨d, .makeSlice t x y, T, pos, af, g⟩ w (fun v w' => ∃ o, v = .slice o n n ∧ HS w0 M (own e 1 o n n (flat enc (List.replicate n x0)) :: H) w') := by
  subst hm; subst hm'
  have := op_makeSlice (P := P) (N := N) (l := l) (d := d) (T := T) (pos := pos) (af := af) (g := g) (t := t) (e := e) hx hy (Nat.le_refl n) hc hb hH
  rw [made_flat he hz] at this
  exact this
theorem ex_and {t ty : TypeId} {x y : Operand} {k : IntKind} {m n v : Int} (hx : ev l x = some (.int k m)) (hy : ev l y = some (.int k n)) (hv : andK k m n = v) : Ex P N l C ⟨d, .binOp .and t x y ty, T, pos, af, g⟩ (.int k v) := by
  intro a w hA _
  subst hv
  simp only [execOp, hA.ev hx, hA.ev hy, eqGuard_at_int, binOp_and]
  simp [Op.intBits, andK]
theorem ex_shr {t ty : TypeId} {x y : Operand} {k k2 : IntKind} {m n v : Int} (hx : ev l x = some (.int k m)) (hy : ev l y = some (.int k2 n)) (hn : 0 ≤ n) (hv : shrK k m n = v) : Ex P N l C ⟨d, .binOp .shr t x y ty, T, pos, af, g⟩ (.int k v) := by
  intro a w hA _
  subst hv
  simp only [execOp, hA.ev hx, hA.ev hy, eqGuard_at_int, binOp_shr]
  simp [Op.shift, shrK, show ¬ n < 0 by omega]
theorem ex_addK {t ty : TypeId} {x y : Operand} {k : IntKind} {m n v : Int} (hx : ev l x = some (.int k m)) (hy : ev l y = some (.int k n)) (h : k.wrap (m + n) = v) : Ex P N l C ⟨d, .binOp .add t x y ty, T, pos, af, g⟩ (.int k v) := by
  intro a w hA _
  subst h
  simp only [execOp, hA.ev hx, hA.ev hy, eqGuard_at_int, binOp_add]
  simp [Op.intArith]
theorem ex_subK {t ty : TypeId} {x y : Operand} {k : IntKind} {m n v : Int} (hx : ev l x = some (.int k m)) (hy : ev l y = some (.int k n)) (h : k.wrap (m - n) = v) : Ex P N l C ⟨d, .binOp .sub t x y ty, T, pos, af, g⟩ (.int k v) := by
  intro a w hA _
  subst h
  simp only [execOp, hA.ev hx, hA.ev hy, eqGuard_at_int, binOp_sub]
  simp [Op.intArith]
theorem ex_mulK {t ty : TypeId} {x y : Operand} {k : IntKind} {m n v : Int} (hx : ev l x = some (.int k m)) (hy : ev l y = some (.int k n)) (h : k.wrap (m * n) = v) : Ex P N l C ⟨d, .binOp .mul t x y ty, T, pos, af, g⟩ (.int k v) := by
  intro a w hA _
  subst h
  simp only [execOp, hA.ev hx, hA.ev hy, eqGuard_at_int, binOp_mul]
  simp [Op.intArith]
theorem run_eqlB {t : TypeId} [h : TBo P t] (m n : Bool) (w : World) : (Op.equal t (.bool m) (.bool n)).run P w = .ok (m == n) w := by
  exact run_equal_bool w t m n h.eq
theorem ex_eqlB {t ty : TypeId} {x y : Operand} {m n : Bool} [h : TBo P t] (hx : ev l x = some (.bool m)) (hy : ev l y = some (.bool n)) : Ex P N l C ⟨d, .binOp .eql t x y ty, T, pos, af, g⟩ (.bool (m == n)) := by
  intro a w hA _
  simp [execOp, hA.ev hx, hA.ev hy, eqGuard_at_bool, binOp, run_eqlB]
theorem ex_neqB {t ty : TypeId} {x y : Operand} {m n : Bool} [h : TBo P t] (hx : ev l x = some (.bool m)) (hy : ev l y = some (.bool n)) : Ex P N l C ⟨d, .binOp .neq t x y ty, T, pos, af, g⟩ (.bool (m != n)) := by
  intro a w hA _
  simp [execOp, hA.ev hx, hA.ev hy, eqGuard_at_bool, binOp, run_eqlB]
  cases m <;> cases n <;> rfl

theorem cl_w {w0 : World} {M : Nat → Prop} {H : List It} {b j : Nat} {v : Value} (h : w0.cell? (bat b j) = some v) (hM : ¬ M b) : Cl (HS w0 M H) (bat b j) v := fun w hH => by
  have hb : b < w0.heap.size := World.block_lt_of_cell? w0 (bat b j) h
  rw [World.cell?_of_block (w := w0) (hH.1.block b hb hM)]
  exact h
theorem ng_normal {Q : Exit → Act → World → Prop} {a : Act} {w : World} (h : Q .normal a w) : Exit.noGoto Q .normal a w := h
theorem ng_ret {Q : Exit → Act → World → Prop} {a : Act} {w : World} (h : Q .ret a w) : Exit.noGoto Q .ret a w := h
theorem op_set1 {α : Type} {enc : α → List Value} {y0 : α} {t by_ j Tb n cap : Nat} {o : Option Addr} {z v : Value} {zs : List Value} {x y : Operand} {li : List α} {w0 w : World} {M : Nat → Prop} {H H' : List It} [hi : TIf P t z zs 1 by_]
    (hx : ev l x = some (.pointer (some (sat o j)))) (hy : ev l y = some v) (he : enc y0 = [v]) (h1 : v.oneCell' = true) (henc : ∀ x, (enc x).length = 1) (hH : HS w0 M H w) (hr : Rp H (own Tb 1 o n cap (flat enc li)) (own Tb 1 o n cap (flat enc (li.set j y0))) H') (hj : j < li.length) :
    Op1 P N l ⟨d, .store t x y, T, pos, af, g⟩ w (fun _ w' => HS w0 M H' w') :=
  op_store_own1 (hi := hi) hx hy h1 hH hr (by rw [flat_length henc]; omega) (by rw [← he]; exact flat_set1 henc hj y0)
theorem op_copy {t e by_ n cap m nd cd cs k : Nat} {z : Value} {zs : List Value} {o od ox : Option Addr} {x y : Operand} {xs news : List Value} {ty : TypeId} {w0 w : World} {M : Nat → Prop} {H H' : List It} [ht : TSl P t e] [hi : TIf P e z zs 1 by_]
    (hx : ev l x = some (.slice od nd cd)) (hy : ev l y = some (.slice ox m cs)) (hH : HS w0 M H w) (hr : Rd w ox news) (hl : news.length = Nat.min m nd) (hod : 0 < news.length → od = subO o cap k 1 ∧ k < cap)
    (h1 : news.all (·.oneCell') = true) (hk : k + news.length ≤ xs.length) (hrp : Rp H (own e 1 o n cap xs) (own e 1 o n cap (put xs k news)) H') :
    Op1 P N l ⟨d, .call ⟨.builtin .copy, #[x, y], #[t, ty]⟩, T, pos, af, g⟩ w (fun v w' => v = .int .i64 (Nat.min m nd) ∧ HS w0 M H' w') := by
  intro a hA K Q hK
  obtain ⟨ti, h3, h4, h5, h6⟩ := hi.eq
  unfold Oper.wp
  rcases Nat.eq_zero_or_pos news.length with h0 | h0
  · have hn0 : Nat.min m nd = 0 := by omega
    obtain rfl : news = [] := List.length_eq_zero_iff.1 h0
    have hrun : (Builtin.copy_ #[t, ty] T #[.slice od nd cd, .slice ox m cs]).run P w = .ok (.int .i64 0) w := by
      have hl : ∀ (x : Addr), (loadCells x 0).run P w = .ok #[] w := fun x => by simpa using run_loadCells_list (P := P) w x [] (by simp)
      cases od <;> cases ox <;> simp [Builtin.copy_, run_underlying ht.eq, Builtin.lenOf, Builtin.firstCells, sizeOf, typeInfo, h3, h5, hn0, storeCells, hl, goInt]
    have hput : put xs k [] = xs := by simp [put]
    simp only [execOp, resolve, invoke, builtin, Sem.run_bind, Sem.run_pure, Result.andThen_ok, List.map_toArray, List.map_cons, List.map_nil, hA.ev hx, hA.ev hy, hrun, Oper.upon]
    refine hK _ _ ⟨by rw [hn0]; rfl, ?_⟩
    rw [hput] at hrp
    exact hH.conv hrp fun F hF => hF
  · obtain ⟨hod, hkc⟩ := hod h0
    obtain ⟨R, p, _⟩ := hrp.split
    obtain ⟨F, hF⟩ := hH.sat (p.symm.subset (List.mem_cons_self))
    rcases hF with ⟨rfl, rfl, rfl, rfl, _⟩ | ⟨b, spare, rfl, g2, g3, g4, g5, g6, g7⟩
    · simp at hk; omega
    have hod' : od = some ⟨b, k, none⟩ := by
      rw [hod]
      simp [subO, show cap ≠ k by omega, Addr.add]
      exact fun h => h.symm
    subst hod'
    obtain ⟨bx, offx, rfl⟩ := hr.1 h0
    have hload : (loadCells (⟨bx, offx, none⟩ : Addr) news.length).run P w = .ok news.toArray w := run_loadCells_list (P := P) w _ news (fun j v hj => by
      rw [add_eq_sat]; exact hr.2 j v hj)
    have hst := run_storeCells_at (P := P) b k e news 0 (xs ++ spare).toArray w g7 (by simp; omega) (fun x hx => List.all_eq_true.1 h1 x hx)
    simp only [Nat.add_zero] at hst
    have hput : put (xs ++ spare) k news = put xs k news ++ spare := by
      unfold put
      have e1 : k ≤ xs.length := by omega
      have e2 : k + news.length ≤ xs.length := by omega
      rw [List.take_append_of_le_length e1, List.drop_append_of_le_length e2]
      simp
    have hput' : (xs ++ spare).take k ++ news ++ (xs ++ spare).drop (k + news.length) = put xs k news ++ spare := hput
    have hrun : (Builtin.copy_ #[t, ty] T #[.slice (some ⟨b, k, none⟩) nd cd, .slice (some ⟨bx, offx, none⟩) m cs]).run P w = .ok (.int .i64 (Nat.min m nd)) (w.setRow b (put xs k news ++ spare).toArray) := by
      rw [hput'] at hst
      simp [Builtin.copy_, run_underlying ht.eq, Builtin.lenOf, Builtin.firstCells, sizeOf, typeInfo, h3, h5, ← hl, hload, hst, goInt]
    simp only [execOp, resolve, invoke, builtin, Sem.run_bind, Sem.run_pure, Result.andThen_ok, List.map_toArray, List.map_cons, List.map_nil, hA.ev hx, hA.ev hy, hrun, Oper.upon]
    refine hK _ _ ⟨rfl, hH.turn hrp fun F' hF' => ?_⟩
    rcases hF' with ⟨h0, _⟩ | ⟨b', spare', hb', q2, q3, q4, q5, q6, q7⟩
    · cases h0
    · obtain rfl : b = b' := by simpa using hb'
      have hsp : xs ++ spare = xs ++ spare' := by rw [g7] at q7; simpa using q7
      obtain rfl : spare = spare' := List.append_cancel_left hsp
      refine ⟨setRow_kp w b _ F' ((q2 b).2 rfl), F', .inr ⟨b, spare, rfl, q2, ?_, q4, q5, ?_, setRow_heap w b _ _ _ _ g7⟩, fun b hb => .inr hb⟩
      · rw [put_length (by omega)]; exact q3
      · rw [put_length (by omega)]; exact q6
end
theorem MEMT {α : Type _} {x : α} {l : List α} (h : x ∈ l := by repeat (first | exact List.Mem.head _ | apply List.Mem.tail)) : x ∈ l := h
theorem CATST {n : Nat} {vs xs : List Value} (h : Cats n vs xs := by repeat (first | exact Cats.nil | (apply Cats.c1; rfl) | apply Cats.c2 | apply Cats.c3 | apply Cats.c4)) : Cats n vs xs := h
theorem EXT {P : Program} {N : Nat} {l : List (Nat × Value)} {C : World → Prop} {o : Oper} {v : Value} (h : Ex P N l C o v := by (first | (apply ex_move; rfl) | (apply ex_assign; rfl) | (apply ex_eql; rfl; rfl) | (apply ex_eqlB; rfl; rfl) | (apply ex_neq; rfl; rfl) | (apply ex_neqB; rfl; rfl) | (apply ex_lss; rfl; rfl) | (apply ex_leq; rfl; rfl) | (apply ex_gtr; rfl; rfl) | (apply ex_geq; rfl; rfl) | (apply ex_len_slice; rfl) | (apply ex_fieldAddr_sat; rfl; rfl) | (apply ex_fieldAddr_bat; rfl; rfl) | (apply ex_nilCheck; rfl) | (apply ex_extract; rfl; rfl) | (apply ex_not; rfl) | (apply ex_pick_t; rfl; rfl) | (apply ex_pick_f; rfl; rfl) | (apply ex_succ; rfl; rfl; omega) | (apply ex_add; rfl; rfl; unfold i64ok; omega) | (apply ex_pred; rfl; rfl; omega) | (apply ex_sub; rfl; rfl; unfold i64ok; omega) | (apply ex_indexAddr_nat; rfl; rfl; omega; first | assumption | exact hH.own_sp MEMT) | (apply ex_indexAddr; rfl; rfl; omega; omega; first | assumption | exact hH.own_sp MEMT) | (apply ex_load; rfl; apply cl_cb; exact MEMT; rfl) | (apply ex_load_st; rfl; rotate_left; apply cls_cb_all; exact MEMT; rfl) | (apply ex_lookupI_ok; rfl; rfl; exact MEMT) | (apply ex_lookupI; rfl; rfl; exact MEMT) | (apply ex_makeFunc; rfl; rfl) | (apply ex_build_full; rfl; rfl; rfl; rfl; rfl; (repeat (first | (intro _ h; exact absurd h (List.not_mem_nil)) | (refine List.forall_mem_cons.2 ⟨one_cell_of _ _, ?_⟩)))))) : Ex P N l C o v := h
end Go.Fw
namespace Go.Fw
open Go Go.ChangeShapes Go.WideShapes Go.ChangeAt Go.RowKit Go.Deep
set_option linter.unusedVariables false
def Szd {H : Type} (P : Program) (t : TypeId) (d : DataW H) : Prop := (d.weights P t).all (· ≤ reachBytes) = true
section
variable {H : Type} {enc : TypeId × Value → H} {P : Program}
theorem szd_all {e : TypeId} : ∀ {l : List (DataW H)}, (DataW.weightsAll P e l).all (· ≤ reachBytes) = true → ∀ d ∈ l, Szd P e d
  | [], _, d, hd => by simp at hd
  | x :: r, h, d, hd => by
    simp only [DataW.weightsAll, List.all_append, Bool.and_eq_true] at h
    rcases List.mem_cons.1 hd with rfl | hd
    · exact h.1
    · exact szd_all h.2 d hd
theorem Szd.slice {t e : TypeId} {elems spare : List (DataW H)} (h : Szd P t (.slice elems spare)) (ht : P.underlying t = some (.slice e)) :
    (elems.length + spare.length) * P.bytesOf e ≤ reachBytes ∧ ∀ d, d ∈ elems → Szd P e d := by
  simp only [Szd, DataW.weights, ht, List.all_cons, List.all_append, Bool.and_eq_true, decide_eq_true_eq] at h
  exact ⟨h.1, szd_all h.2.1⟩
end

section
variable {H : Type} {enc : TypeId × Value → H} {P : Program} {w : World} {base : Nat} {held : Bool}
theorem add_sat (a : Addr) (h : a.spot = none) (k : Nat) : a.add k = sat (some a) k := by
  obtain ⟨b, off, spot⟩ := a
  obtain rfl : spot = none := h
  simp only [sat, blkO, offO, Addr.add]
  split <;> simp_all
end
end Go.Fw
