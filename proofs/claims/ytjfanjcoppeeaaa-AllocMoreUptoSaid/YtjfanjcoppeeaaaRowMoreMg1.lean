/-
  The frame for walks, fifth part: maps with int keys; cuts of slices; lists of one shape. It names no program. Conditions: none.
  The frame of a law's proof: from what the walk gives to the row. Conditions: none.
  More of the frame: whole numbers of other kinds; a part of what can be read. Conditions: none.
  More of the frame: slices of slices; many parts as one; copy; bits; bools. Conditions: none.
  The frame of a law's proof, where the size of what is handed in is asked; slices of slices, read. Conditions: none.
  More of the frame: a slice of one's own as a block in plain sight; append in place and into a new block; clear; parts that are there, whichever they be. Conditions: none.
  More of the frame: make of what has many cells; shift and or; pairs set in what is ours. Conditions: none.
  A region in which several operations that bring something of their own come up in any order. Conditions: none.
  More of the frame: pointers against nil. Conditions: none.
  More of the frame: what a row of trials does, named once. Each of these takes a goal, does one step by trial, and hands on the goal that is left. Conditions: none.
  A region whose operations come up in one of several orders: a plan, with ways. Conditions: none.
  Strings: their length, a byte, a part; as bytes and back. Conditions: none.
  A region of which some come last, told from further off. Conditions: none.
  What is made and never turned again: known by what is known of it. Conditions: none.
  The frame of a law's proof, where what is handed in is not great ('..UptoSaid'). Conditions: none.
  slices.Sort of ints that are ours. Conditions: none.
  A range over a function: its rounds, what is put off till the function's end. Conditions: none.
-/
import Derived.Test.YtjfanjcoppeeaaaRowMoreMg0
import Derived.WalkKit
import Derived.ProofKit
import Derived.OpenShut
import Derived.Deep.Slices
import Derived.Deep.Fields
import Derived.ChangeSame
import Derived.Carry
import Derived.Laws.CopyRow
import Derived.Laws.Small
import Derived.Scope
import Derived.SizedLaws
import Derived.Deep.Matrix
import Derived.Lib.Overlaps
import Derived.Laws.Cover3
import Derived.Laws.Pointers
import Derived.Lib.ConvBytes
import Derived.Laws.BytesString
import Derived.Laws.Strings
import Derived.Laws.Slices
import Derived.Laws.ResultCell
import Derived.JoinedCond
import Derived.RangeFuncWrites
import Derived.RangeFuncLeaves
import Derived.RangeFuncCalls
import Derived.RangeFuncBound
import Derived.OrdersIn
namespace Go.Fw
open Go Go.RowKit
set_option linter.unusedVariables false

/-! ## lists of one shape -/
def flat {α : Type} (enc : α → List Value) (l : List α) : List Value := l.flatMap enc
def encI (z : Int) : List Value := [.int .i64 z]
def encP (p : Int × Int) : List Value := [.int .i64 p.1, .int .i64 p.2]
theorem encI_len (z : Int) : (encI z).length = 1 := rfl
theorem HS.nil_flat {α : Type} (enc : α → List Value) {w0 w : World} {M : Nat → Prop} {H : List It} (h : HS w0 M H w) (T sz : Nat) : HS w0 M (own T sz none 0 0 (flat enc []) :: H) w := h.nil_own T sz
theorem flat_length {α : Type} {enc : α → List Value} {sz : Nat} (henc : ∀ x, (enc x).length = sz) (l : List α) : (flat enc l).length = l.length * sz := by
  induction l with
  | nil => simp [flat]
  | cons x l ih => simp only [flat, List.flatMap_cons, List.length_append, henc, List.length_cons, Nat.add_mul] at ih ⊢; omega
theorem flat_get {α : Type} {enc : α → List Value} {sz : Nat} (henc : ∀ x, (enc x).length = sz) : ∀ {l : List α} {i off : Nat} {x : α} {v : Value}, l[i]? = some x → (enc x)[off]? = some v → (flat enc l)[i * sz + off]? = some v
  | [], i, off, x, v, hi, hv => by simp at hi
  | y :: l, 0, off, x, v, hi, hv => by
    obtain rfl : y = x := by simpa using hi
    have : off < (enc y).length := (List.getElem?_eq_some_iff.1 hv).1
    simp [flat, List.getElem?_append_left this, hv]
  | y :: l, i + 1, off, x, v, hi, hv => by
    have ih := flat_get henc (l := l) (i := i) (by simpa using hi) hv
    simp only [flat, List.flatMap_cons] at ih ⊢
    rw [List.getElem?_append_right (by rw [henc, Nat.add_mul]; omega), henc, ← ih]
    congr 1
    rw [Nat.add_mul]; omega
/-- a whole element -/
theorem flat_all {α : Type} {enc : α → List Value} {sz : Nat} (henc : ∀ x, (enc x).length = sz) {l : List α} {i : Nat} {x : α} (hi : l[i]? = some x) : ∀ k v, (enc x)[k]? = some v → (flat enc l)[i * sz + k]? = some v :=
  fun k v hv => flat_get henc hi hv
theorem flat_append {α : Type} (enc : α → List Value) (l r : List α) : flat enc (l ++ r) = flat enc l ++ flat enc r := by simp [flat]
theorem flat_snoc {α : Type} (enc : α → List Value) (l : List α) (x : α) : flat enc (l ++ [x]) = flat enc l ++ enc x := by simp [flat]
theorem put_mid (A E B vs : List Value) (off : Nat) (h : off + vs.length ≤ E.length) : Fw.put (A ++ (E ++ B)) (A.length + off) vs = A ++ (Fw.put E off vs ++ B) := by
  unfold Fw.put
  have h1 : (A ++ (E ++ B)).take (A.length + off) = A ++ E.take off := by
    rw [List.take_append, List.take_of_length_le (by omega), show A.length + off - A.length = off by omega, List.take_append_of_le_length (by omega)]
  have h2 : (A ++ (E ++ B)).drop (A.length + off + vs.length) = E.drop (off + vs.length) ++ B := by
    rw [List.drop_append, List.drop_of_length_le (by omega), show A.length + off + vs.length - A.length = off + vs.length by omega, List.drop_append_of_le_length (by omega)]
    simp
  rw [h1, h2]
  simp [List.append_assoc]
theorem flat_put {α : Type} {enc : α → List Value} {sz : Nat} (henc : ∀ x, (enc x).length = sz) {l : List α} {i : Nat} {x y : α} {off : Nat} {vs : List Value} (hi : l[i]? = some x) (hy : Fw.put (enc x) off vs = enc y) (hle : off + vs.length ≤ sz) :
    Fw.put (flat enc l) (i * sz + off) vs = flat enc (l.set i y) := by
  have hlt : i < l.length := (List.getElem?_eq_some_iff.1 hi).1
  have hx : l[i] = x := (List.getElem?_eq_some_iff.1 hi).2
  have e : l = l.take i ++ x :: l.drop (i + 1) := by rw [← hx]; simp
  have e2 : l.set i y = l.take i ++ y :: l.drop (i + 1) := List.set_eq_take_append_cons_drop.trans (if_pos hlt)
  have hta : (flat enc (l.take i)).length = i * sz := by rw [flat_length henc, List.length_take, Nat.min_eq_left (by omega)]
  rw [e2]
  conv => lhs; rw [e]
  simp only [flat_append, show ∀ (z : α) (r : List α), flat enc (z :: r) = enc z ++ flat enc r from fun z r => by simp [flat]]
  rw [← hy, ← hta]
  exact put_mid _ _ _ _ _ (by rw [henc]; exact hle)
theorem flat_one_cell {α : Type} {enc : α → List Value} (h : ∀ x, (enc x).all (·.oneCell') = true) (l : List α) : (flat enc l).all (·.oneCell') = true := by
  simp only [flat, List.all_flatMap, List.all_eq_true]
  exact fun x _ => List.all_eq_true.1 (h x)

/-! ## cuts of slices -/
section
variable {P : Program} {N : Nat} {l : List (Nat × Value)} {C : World → Prop} {d : Option Tmp} {T : TypeId} {pos : String} {af : Array Edge} {g : Option (Nat × Bool)}

/-- s[k:]: the head of what is left -/
def subO (o : Option Addr) (c k sz : Nat) : Option Addr := if c = k then o else o.map (·.add (k * sz))
theorem Rd.sub {w : World} {o : Option Addr} {xs : List Value} {n c k sz : Nat} (h : Rd w o xs) (hl : xs.length = n * sz) (hkn : k ≤ n) (hnc : n ≤ c) : Rd w (subO o c k sz) (xs.drop (k * sz)) := by
  by_cases hck : c = k
  · obtain rfl : n = k := by omega
    have : xs.drop (n * sz) = [] := by rw [← hl]; simp
    rw [this]
    exact ⟨fun h => by simp at h, fun j u h => by simp at h⟩
  · refine ⟨fun hp => ?_, fun j u hj => ?_⟩
    · obtain ⟨b, off, rfl⟩ := h.1 (by simp at hp; omega)
      by_cases hz : k * sz = 0
      · exact ⟨b, off, by simp [subO, hck, Addr.add, hz]⟩
      · exact ⟨b, off + k * sz, by simp [subO, hck, Addr.add, hz]⟩
    · rw [List.getElem?_drop] at hj
      have hlt : 0 < xs.length := by have := (List.getElem?_eq_some_iff.1 hj).1; omega
      obtain ⟨b, off, rfl⟩ := h.1 hlt
      have := h.2 _ u hj
      rw [← this]
      congr 1
      simp only [subO, hck, if_false, Option.map_some, sat, blkO, offO]
      unfold Addr.add
      split <;> simp_all [Nat.add_assoc]
/-! ## maps with int keys -/
def mkE (e : Int × Value × Nat) : MapEntry := ⟨.int .i64 e.1, e.2.1, e.2.2⟩
structure EsOk (es : List (Int × Value × Nat)) (clock : Nat) : Prop where
  keys : (es.map (·.1)).Nodup
  borns : (es.map (·.2.2)).Nodup
  lt : ∀ e ∈ es, e.2.2 < clock
def mpO (b : Nat) (es : List (Int × Value × Nat)) (clock : Nat) : It := blk b (.map (es.map mkE).toArray clock)
/-- a map: its keys and values, in some order -/
def mp (b : Nat) (m : List (Int × Value)) : It where
  sat w F := ∃ es clock, es.map (fun e => (e.1, e.2.1)) = m ∧ EsOk es clock ∧ (mpO b es clock).sat w F
  loc := by
    rintro w w' F ⟨es, clock, h1, h2, h3⟩ he
    exact ⟨es, clock, h1, h2, (mpO b es clock).loc h3 he⟩
  lt := by
    rintro w F ⟨es, clock, h1, h2, h3⟩
    exact (mpO b es clock).lt h3
  ext := by
    rintro w F F' ⟨es, clock, h1, h2, h3⟩ he
    exact ⟨es, clock, h1, h2, (mpO b es clock).ext h3 he⟩

def mv (m : List (Int × Value)) (k : Int) : Option Value := (m.find? (fun e => e.1 == k)).map (·.2)
def mset (m : List (Int × Value)) (k : Int) (v : Value) : List (Int × Value) := if (mv m k).isSome then m.map (fun e => if e.1 == k then (k, v) else e) else m ++ [(k, v)]
def mdel (m : List (Int × Value)) (k : Int) : List (Int × Value) := m.filter (fun e => !(e.1 == k))

def fnd (k : Int) : List (Int × Value × Nat) → Nat → Option (Nat × Value)
  | [], _ => none
  | e :: es, i => if k == e.1 then some (i, e.2.1) else fnd k es (i + 1)
theorem findNow_int (kk : IntKind) (k : Int) : ∀ (es : List (Int × Value × Nat)) (i : Nat), Instr.findNow (.int kk) (.int .i64 k) (es.map mkE) i = some (fnd k es i)
  | [], i => rfl
  | e :: es, i => by
    simp only [List.map_cons, Instr.findNow, Instr.sameNow, mkE, if_true, fnd]
    cases h : (k == e.1) with
    | true => simp
    | false => simpa using findNow_int kk k es (i + 1)
theorem fnd_mv (k : Int) : ∀ (es : List (Int × Value × Nat)) (i : Nat), (fnd k es i).map (·.2) = mv (es.map (fun e => (e.1, e.2.1))) k
  | [], i => rfl
  | e :: es, i => by
    simp only [fnd, List.map_cons, mv, List.find?_cons]
    by_cases h : k = e.1
    · subst h; simp
    · have h1 : (k == e.1) = false := by simpa using h
      have h2 : (e.1 == k) = false := by simpa using fun h' => h h'.symm
      simp only [h1, h2, Bool.false_eq_true, if_false]
      exact fnd_mv k es (i + 1)
theorem fnd_some (k : Int) : ∀ (es : List (Int × Value × Nat)) (i j : Nat) (v : Value), fnd k es i = some (j, v) → i ≤ j ∧ ∃ born, es[j - i]? = some (k, v, born)
  | [], i, j, v, h => by simp [fnd] at h
  | e :: es, i, j, v, h => by
    simp only [fnd] at h
    by_cases hk : k = e.1
    · subst hk
      simp at h
      obtain ⟨rfl, rfl⟩ := h
      exact ⟨Nat.le_refl _, e.2.2, by simp⟩
    · have h1 : (k == e.1) = false := by simpa using hk
      simp only [h1, Bool.false_eq_true, if_false] at h
      obtain ⟨h2, born, h3⟩ := fnd_some k es (i + 1) j v h
      refine ⟨by omega, born, ?_⟩
      rw [show j - i = (j - (i + 1)) + 1 by omega]
      simpa using h3
theorem fnd_none (k : Int) : ∀ (es : List (Int × Value × Nat)) (i : Nat), fnd k es i = none → ∀ e ∈ es, e.1 ≠ k
  | [], i, h => by simp
  | e :: es, i, h => by
    simp only [fnd] at h
    by_cases hk : k = e.1
    · subst hk; simp at h
    · have h1 : (k == e.1) = false := by simpa using hk
      simp only [h1, Bool.false_eq_true, if_false] at h
      intro e' he'
      rcases List.mem_cons.1 he' with rfl | he'
      · exact fun h => hk h.symm
      · exact fnd_none k es (i + 1) h e' he'

theorem run_findKey {w : World} {kt : TypeId} {kk : IntKind} [hk : TIn P kt kk] (k : Int) (es : List (Int × Value × Nat)) : (Instr.findKey kt (.int .i64 k) (es.map mkE)).run P w = .ok (fnd k es 0) w := by
  simp [Instr.findKey, run_underlying hk.eq, findNow_int]
theorem run_checkKey {w : World} {kt : TypeId} {kk : IntKind} [hk : TIn P kt kk] (em : Bool) (k : Int) : (Instr.checkKey em 10000 kt (.int .i64 k)).run P w = .ok () w := by
  rw [show (10000 : Nat) = 9999 + 1 from rfl, Instr.checkKey, Sem.run_bind, run_underlying hk.eq]
  rfl
theorem run_getObj_map {w : World} {b : Nat} {es : Array MapEntry} {c : Nat} (h : w.heap[b]? = some (.map es c)) : (getObj b).run P w = .ok (.map es c) w := by
  simp [getObj, Sem.run, h]
theorem run_setObj_map {w : World} {b : Nat} {es : Array MapEntry} {c : Nat} (h : w.heap[b]? = some (.map es c)) (o : Obj) : (setObj b o).run P w = .ok () { w with heap := w.heap.setIfInBounds b o } := by
  simp [setObj, Sem.run, h]

theorem run_lookup {w : World} {t kt e sz by_ : Nat} {kk : IntKind} {z : Value} {zs : List Value} {b c : Nat} {es : List (Int × Value × Nat)} {k : Int} {ok : Bool} [ht : TMp P t kt e] [hk : TIn P kt kk] [hi : TIf P e z zs sz by_] (h : w.heap[b]? = some (.map (es.map mkE).toArray c)) :
    (Instr.lookup t (.map (some b)) (.int .i64 k) ok).run P w = .ok (if ok then .tuple #[((fnd k es 0).map (·.2)).getD z, .bool (fnd k es 0).isSome] else ((fnd k es 0).map (·.2)).getD z) w := by
  obtain ⟨ti, h3, h4, h5, h6⟩ := hi.eq
  simp only [Instr.lookup, Sem.run_bind, run_underlying ht.eq, Result.andThen_ok, run_getObj_map h, Sem.run_pure, run_checkKey, run_findKey]
  cases hf : fnd k es 0 with
  | none => cases ok <;> simp [zeroValue, typeInfo, h3, h4]
  | some p => cases ok <;> simp

theorem ex_lookup_ok {t kt e sz by_ b : Nat} {kk : IntKind} {z : Value} {zs : List Value} {x y : Operand} {m : List (Int × Value)} {k : Int} {w0 : World} {M : Nat → Prop} {H : List It} [ht : TMp P t kt e] [hk : TIn P kt kk] [hi : TIf P e z zs sz by_]
    (hx : ev l x = some (.map (some b))) (hy : ev l y = some (.int .i64 k)) (hm : mp b m ∈ H) : Ex P N l (HS w0 M H) ⟨d, .lookup t x y true, T, pos, af, g⟩ (.tuple #[(mv m k).getD z, .bool (mv m k).isSome]) := by
  intro a w hA hH
  obtain ⟨F, es, clock, rfl, h2, h3, h4⟩ := hH.sat hm
  simp only [execOp, hA.ev hx, hA.ev hy, Sem.run_bind, run_lookup (t := t) h4, if_true, Result.andThen_ok, Sem.run_pure]
  rw [fnd_mv, ← fnd_mv k es 0]
  simp
theorem ex_lookup {t kt e sz by_ b : Nat} {kk : IntKind} {z : Value} {zs : List Value} {x y : Operand} {m : List (Int × Value)} {k : Int} {w0 : World} {M : Nat → Prop} {H : List It} [ht : TMp P t kt e] [hk : TIn P kt kk] [hi : TIf P e z zs sz by_]
    (hx : ev l x = some (.map (some b))) (hy : ev l y = some (.int .i64 k)) (hm : mp b m ∈ H) : Ex P N l (HS w0 M H) ⟨d, .lookup t x y false, T, pos, af, g⟩ ((mv m k).getD z) := by
  intro a w hA hH
  obtain ⟨F, es, clock, rfl, h2, h3, h4⟩ := hH.sat hm
  simp only [execOp, hA.ev hx, hA.ev hy, Sem.run_bind, run_lookup (t := t) h4, Bool.false_eq_true, if_false, Result.andThen_ok, Sem.run_pure]
  rw [fnd_mv]

theorem setObj_kp {w : World} {b : Nat} {o : Obj} {F : Nat → Prop} (hb : F b) : Kp w F { w with heap := w.heap.setIfInBounds b o } := by
  refine ⟨rfl, rfl, rfl, by simp, fun i hi hn => ?_⟩
  have hib : b ≠ i := fun h => hn (h ▸ hb)
  simp [Array.getElem?_setIfInBounds, hib]
theorem setObj_at {w : World} {b : Nat} {o o' : Obj} (h : w.heap[b]? = some o') : ({ w with heap := w.heap.setIfInBounds b o } : World).heap[b]? = some o := by
  have := lt_of_heap h
  simp [Array.getElem?_setIfInBounds, this]

theorem mset_mem {es : List (Int × Value × Nat)} {k : Int} {v v0 : Value} {j born : Nat} (hok : (es.map (·.1)).Nodup) (hj : es[j]? = some (k, v0, born)) :
    (es.modify j (fun e => (k, v, e.2.2))).map (fun e => (e.1, e.2.1)) = (es.map (fun e => (e.1, e.2.1))).map (fun e => if e.1 == k then (k, v) else e) := by
  apply List.ext_getElem?
  intro i
  simp only [List.getElem?_map, List.getElem?_modify]
  by_cases hij : j = i
  · subst hij; simp [hj]
  · cases he : es[i]? with
    | none => simp [hij]
    | some e =>
      have : e.1 ≠ k := by
        intro hek
        have h1 : (es.map (·.1))[i]? = some k := by simp [he, hek]
        have h2 : (es.map (·.1))[j]? = some k := by simp [hj]
        have hi : i < (es.map (·.1)).length := (List.getElem?_eq_some_iff.1 h1).1
        exact hij ((List.getElem?_inj (List.getElem?_eq_some_iff.1 h2).1 hok).1 (h2.trans h1.symm))
      simp [hij, this]

theorem op_mapUpdate {t kt e b : Nat} {kk : IntKind} {x y z : Operand} {m : List (Int × Value)} {k : Int} {v : Value} {w0 w : World} {M : Nat → Prop} {H H' : List It} [ht : TMp P t kt e] [hk : TIn P kt kk]
    (hx : ev l x = some (.map (some b))) (hy : ev l y = some (.int .i64 k)) (hz : ev l z = some v) (hH : HS w0 M H w) (hr : Rp H (mp b m) (mp b (mset m k v)) H') :
    Op1 P N l ⟨d, .mapUpdate t x y z, T, pos, af, g⟩ w (fun _ w' => HS w0 M H' w') := by
  intro a hA K Q hK
  obtain ⟨R, p, _⟩ := hr.split
  obtain ⟨F, es, clock, rfl, hok, h3, h4⟩ := hH.sat (p.symm.subset (List.mem_cons_self))
  unfold Oper.wp
  simp only [execOp, hA.ev hx, hA.ev hy, hA.ev hz, Instr.mapUpdate, Sem.run_bind, run_underlying ht.eq, Result.andThen_ok, run_getObj_map h4, run_checkKey, run_findKey]
  cases hf : fnd k es 0 with
  | some q =>
    obtain ⟨j, v0⟩ := q
    obtain ⟨_, born, hj⟩ := fnd_some k es 0 j v0 hf
    simp only [Nat.sub_zero] at hj
    have hkey : (((es.map mkE).toArray[j]?).map (·.key)).getD (.int .i64 k) = .int .i64 k := by simp [hj, mkE]
    have hkts : (Instr.keyThatStays (.int .i64 k) (.int .i64 k)).run P w = .ok (.int .i64 k) w := by simp [Instr.keyThatStays, Instr.sameBits]
    have hmod : ((es.map mkE).toArray.modify j fun e => { e with key := .int .i64 k, val := v }) = ((es.modify j (fun e => (k, v, e.2.2))).map mkE).toArray := by
      apply Array.ext'
      simp only [Array.toList_modify]
      apply List.ext_getElem?
      intro i
      simp only [List.getElem?_map, List.getElem?_modify]
      by_cases hij : j = i
      · subst hij; simp [hj, mkE]
      · simp [hij]
    have hkey' : (Option.map (fun x : MapEntry => x.key) ((List.map mkE es).toArray)[j]?).getD (Value.int IntKind.i64 k) = Value.int IntKind.i64 k := hkey
    simp only [Sem.run_bind, hkey', hkts, Result.andThen_ok, run_setObj_map h4, Oper.upon, hmod, Sem.run_pure]
    refine hK undef _ (hH.turn hr fun F' hF' => ⟨setObj_kp ((by obtain ⟨_, _, _, _, h, _⟩ := hF'; exact (h b).2 rfl)), F', ⟨es.modify j (fun e => (k, v, e.2.2)), clock, ?_, ⟨?_, ?_, ?_⟩, by obtain ⟨_, _, _, _, h, _⟩ := hF'; exact h, setObj_at h4⟩, fun b hb => .inr hb⟩)
    · have hs : (mv (es.map (fun e => (e.1, e.2.1))) k).isSome = true := by rw [← fnd_mv k es 0, hf]; rfl
      rw [mset, if_pos hs]
      exact mset_mem hok.keys hj
    · have e1 : (es.modify j (fun e => (k, v, e.2.2))).map (·.1) = es.map (·.1) := by
        apply List.ext_getElem?
        intro i
        simp only [List.getElem?_map, List.getElem?_modify]
        by_cases hij : j = i
        · subst hij; simp [hj]
        · simp [hij]
      rw [e1]; exact hok.keys
    · have e1 : (es.modify j (fun e => (k, v, e.2.2))).map (·.2.2) = es.map (·.2.2) := by
        apply List.ext_getElem?
        intro i
        simp only [List.getElem?_map, List.getElem?_modify]
        by_cases hij : j = i
        · subst hij; simp [hj]
        · simp [hij]
      rw [e1]; exact hok.borns
    · intro e he
      obtain ⟨i, hi⟩ := List.getElem?_of_mem he
      simp only [List.getElem?_modify] at hi
      by_cases hij : j = i
      · subst hij
        simp [hj] at hi
        subst hi
        exact hok.lt (k, v0, born) (List.mem_of_getElem? hj)
      · simp [hij] at hi
        exact hok.lt _ (List.mem_of_getElem? hi)
  | none =>
    have hne := fnd_none k es 0 hf
    have hpush : ((es.map mkE).toArray.push { key := .int .i64 k, val := v, born := clock }) = ((es ++ [(k, v, clock)]).map mkE).toArray := by simp [mkE]
    simp only [run_setObj_map h4, Result.andThen_ok, Oper.upon, hpush, Sem.run_pure]
    refine hK undef _ (hH.turn hr fun F' hF' => ⟨setObj_kp ((by obtain ⟨_, _, _, _, h, _⟩ := hF'; exact (h b).2 rfl)), F', ⟨es ++ [(k, v, clock)], clock + 1, ?_, ⟨?_, ?_, ?_⟩, by obtain ⟨_, _, _, _, h, _⟩ := hF'; exact h, setObj_at h4⟩, fun b hb => .inr hb⟩)
    · have hs : ¬ (mv (es.map (fun e => (e.1, e.2.1))) k).isSome = true := by rw [← fnd_mv k es 0, hf]; simp
      rw [mset, if_neg hs]
      simp
    · rw [List.map_append, List.nodup_append]
      refine ⟨hok.keys, by simp, fun x hx y hy => ?_⟩
      obtain ⟨e, he, rfl⟩ := List.mem_map.1 hx
      simp at hy; subst hy
      exact hne e he
    · rw [List.map_append, List.nodup_append]
      refine ⟨hok.borns, by simp, fun x hx y hy => ?_⟩
      obtain ⟨e, he, rfl⟩ := List.mem_map.1 hx
      simp at hy; subst hy
      exact Nat.ne_of_lt (hok.lt e he)
    · intro e he
      rcases List.mem_append.1 he with he | he
      · have := hok.lt e he; omega
      · simp at he; subst he; exact Nat.lt_succ_self _

theorem eraseIdx_map' {α β : Type} (f : α → β) : ∀ (l : List α) (j : Nat), (l.map f).eraseIdx j = (l.eraseIdx j).map f
  | [], j => rfl
  | x :: l, 0 => rfl
  | x :: l, j + 1 => by simp [eraseIdx_map' f l j]
theorem eraseIdx_fnd {es : List (Int × Value × Nat)} {k : Int} {j born : Nat} {v : Value} (hok : (es.map (·.1)).Nodup) (hj : es[j]? = some (k, v, born)) : es.eraseIdx j = es.filter (fun e => !(e.1 == k)) := by
  induction es generalizing j with
  | nil => simp at hj
  | cons e es ih =>
    simp only [List.map_cons, List.nodup_cons] at hok
    cases j with
    | zero =>
      obtain rfl : e = (k, v, born) := by simpa using hj
      simp only [List.eraseIdx_cons_zero, List.filter_cons, BEq.rfl, Bool.not_true, Bool.false_eq_true, if_false]
      refine (List.filter_eq_self.2 fun e' he' => ?_).symm
      have : e'.1 ≠ k := fun h => hok.1 (h ▸ List.mem_map.2 ⟨e', he', rfl⟩)
      simpa using this
    | succ j =>
      have hj' : es[j]? = some (k, v, born) := by simpa using hj
      have : e.1 ≠ k := fun h => hok.1 (h ▸ List.mem_map.2 ⟨_, List.mem_of_getElem? hj', rfl⟩)
      have h1 : (e.1 == k) = false := by simpa using this
      simp only [List.eraseIdx_cons_succ, List.filter_cons, h1, Bool.not_false, if_true]
      rw [ih hok.2 hj']
theorem mdel_map (es : List (Int × Value × Nat)) (k : Int) : (es.filter (fun e => !(e.1 == k))).map (fun e => (e.1, e.2.1)) = mdel (es.map (fun e => (e.1, e.2.1))) k := by
  simp [mdel, List.filter_map, Function.comp_def]
theorem EsOk.filter {es : List (Int × Value × Nat)} {clock : Nat} (h : EsOk es clock) (p : Int × Value × Nat → Bool) : EsOk (es.filter p) clock :=
  ⟨h.keys.sublist ((List.filter_sublist).map _), h.borns.sublist ((List.filter_sublist).map _), fun e he => h.lt e (List.mem_filter.1 he).1⟩

/-- delete(m, k) -/
theorem op_delete {t kt e b : Nat} {kk : IntKind} {x y : Operand} {u : TypeId} {m : List (Int × Value)} {k : Int} {w0 w : World} {M : Nat → Prop} {H H' : List It} [ht : TMp P t kt e] [hk : TIn P kt kk]
    (hx : ev l x = some (.map (some b))) (hy : ev l y = some (.int .i64 k)) (hH : HS w0 M H w) (hr : Rp H (mp b m) (mp b (mdel m k)) H') :
    Op1 P N l ⟨d, .call ⟨.builtin .delete, #[x, y], #[t, u]⟩, T, pos, af, g⟩ w (fun v w' => v = .tuple #[] ∧ HS w0 M H' w') := by
  intro a hA K Q hK
  obtain ⟨R, p, _⟩ := hr.split
  obtain ⟨F, es, clock, rfl, hok, h3, h4⟩ := hH.sat (p.symm.subset (List.mem_cons_self))
  unfold Oper.wp
  simp only [execOp, resolve, invoke, builtin, List.map_toArray, List.map_cons, List.map_nil, hA.ev hx, hA.ev hy, Builtin.delete_, Sem.run_bind, Sem.run_pure, Result.andThen_ok, List.getElem?_toArray, List.getElem?_cons_zero, List.getElem?_cons_succ,
    run_underlying ht.eq, run_getObj_map h4, run_checkKey, run_findKey]
  cases hf : fnd k es 0 with
  | some q =>
    obtain ⟨j, v0⟩ := q
    obtain ⟨_, born, hj⟩ := fnd_some k es 0 j v0 hf
    simp only [Nat.sub_zero] at hj
    have hlt : j < es.length := (List.getElem?_eq_some_iff.1 hj).1
    have herase : (es.map mkE).toArray.eraseIdxIfInBounds j = ((es.filter (fun e => !(e.1 == k))).map mkE).toArray := by
      apply Array.ext'
      rw [← eraseIdx_fnd hok.keys hj]
      simp [Array.eraseIdxIfInBounds, hlt, eraseIdx_map']
    simp only [Sem.run_bind, run_setObj_map h4, Result.andThen_ok, herase, Sem.run_pure, Oper.upon]
    exact hK _ _ ⟨rfl, hH.turn hr fun F' hF' => ⟨setObj_kp ((by obtain ⟨_, _, _, _, h, _⟩ := hF'; exact (h b).2 rfl)), F', ⟨_, clock, mdel_map es k, hok.filter _, by obtain ⟨_, _, _, _, h, _⟩ := hF'; exact h, setObj_at h4⟩, fun b hb => .inr hb⟩⟩
  | none =>
    have hne := fnd_none k es 0 hf
    have hself : mdel (es.map (fun e => (e.1, e.2.1))) k = es.map (fun e => (e.1, e.2.1)) := by
      unfold mdel
      refine List.filter_eq_self.2 fun e he => ?_
      obtain ⟨e', he', rfl⟩ := List.mem_map.1 he
      simpa using hne e' he'
    simp only [Sem.run_bind, run_setObj_map h4, Result.andThen_ok, Sem.run_pure, Oper.upon]
    exact hK _ _ ⟨rfl, hH.turn hr fun F' hF' => ⟨setObj_kp ((by obtain ⟨_, _, _, _, h, _⟩ := hF'; exact (h b).2 rfl)), F', ⟨es, clock, hself.symm, hok, by obtain ⟨_, _, _, _, h, _⟩ := hF'; exact h, setObj_at h4⟩, fun b hb => .inr hb⟩⟩

theorem op_makeMap {t : Nat} {w0 w : World} {M : Nat → Prop} {H : List It} (hH : HS w0 M H w) :
    Op1 P N l ⟨d, .makeMap t none, T, pos, af, g⟩ w (fun v w' => ∃ b, v = .map (some b) ∧ HS w0 M (mp b [] :: H) w') := by
  intro a hA K Q hK
  unfold Oper.wp
  simp only [execOp, Instr.makeMap, Option.map_none, Sem.run_bind, Sem.run_pure, run_newObj, World.alloc_eq, Result.andThen_ok, Oper.upon]
  exact hK _ _ ⟨w.heap.size, rfl, hH.come (alloc_kp w _) (F' := fun x => x = w.heap.size) ⟨[], 0, rfl, ⟨by simp, by simp, by simp⟩, fun x => Iff.rfl, heap_alloc_new w _⟩ fun b hb => by omega⟩

theorem ex_makeFunc {fn : Fn} {first captured : Array Operand} {fs cs : List Value} (hf : evL l first.toList = some fs) (hc : evL l captured.toList = some cs) :
    Ex P N l C ⟨d, .makeFunc fn first captured, T, pos, af, g⟩ (.func fn fs.toArray cs.toArray) := by
  intro a w hA _
  have e1 : first.map a.eval = fs.toArray := by
    have := hA.evL hf
    apply Array.ext'
    simpa using this
  have e2 : captured.map a.eval = cs.toArray := by
    have := hA.evL hc
    apply Array.ext'
    simpa using this
  simp only [execOp, Instr.makeFunc, e1, e2, Sem.run_bind, Sem.run_pure, Result.andThen_ok]

/-! ## ranging over a map -/
/-- who goes through map b; seen: whom he met -/
def itr (r b clock : Nat) (seen : List Nat) : It := blk r (.mapIter (some b) clock seen.toArray clock)
theorem op_range {t kt e b clock : Nat} {es : List (Int × Value × Nat)} {x : Operand} {w0 w : World} {M : Nat → Prop} {H : List It} [ht : TMp P t kt e] (hx : ev l x = some (.map (some b))) (hH : HS w0 M H w) (hm : mpO b es clock ∈ H) :
    Op1 P N l ⟨d, .range t x, T, pos, af, g⟩ w (fun v w' => ∃ r, v = .pointer (some (bat r 0)) ∧ HS w0 M (itr r b clock [] :: H) w') := by
  intro a hA K Q hK
  obtain ⟨F, h3, h4⟩ := hH.sat hm
  unfold Oper.wp
  simp only [execOp, hA.ev hx, Instr.range, Sem.run_bind, run_underlying ht.eq, Result.andThen_ok, run_getObj_map h4, Sem.run_pure, run_newObj, World.alloc_eq, Oper.upon]
  exact hK _ _ ⟨w.heap.size, rfl, hH.come_blk _⟩
theorem run_getObj_iter {w : World} {r : Nat} {o : Option Nat} {s st : Nat} {seen : Array Nat} (h : w.heap[r]? = some (.mapIter o s seen st)) : (getObj r).run P w = .ok (.mapIter o s seen st) w := by
  simp [getObj, Sem.run, h]
theorem run_setObj_iter {w : World} {r : Nat} {o : Option Nat} {s st : Nat} {seen : Array Nat} (h : w.heap[r]? = some (.mapIter o s seen st)) (x : Obj) : (setObj r x).run P w = .ok () { w with heap := w.heap.setIfInBounds r x } := by
  simp [setObj, Sem.run, h]

theorem op_next {r b clock : Nat} {seen : List Nat} {es : List (Int × Value × Nat)} {x : Operand} {w0 w : World} {M : Nat → Prop} {H : List It}
    (hx : ev l x = some (.pointer (some (bat r 0)))) (hH : HS w0 M H w) (hi : itr r b clock seen ∈ H) (hm : mpO b es clock ∈ H) (hok : EsOk es clock) :
    Op1 P N l ⟨d, .next x false, T, pos, af, g⟩ w (fun v w' =>
      ((∀ e ∈ es, e.2.2 ∈ seen) ∧ v = .tuple #[.bool false] ∧ HS w0 M H w') ∨
      (∃ e ∈ es, e.2.2 ∉ seen ∧ v = .tuple #[.bool true, .int .i64 e.1, e.2.1] ∧ ∀ H', Rp H (itr r b clock seen) (itr r b clock (seen ++ [e.2.2])) H' → HS w0 M H' w')) := by
  intro a hA K Q hK
  obtain ⟨F, h3, h4⟩ := hH.sat hm
  obtain ⟨F2, h5, h6⟩ := hH.sat hi
  have hcheck : (!seen.toArray.isEmpty && !(es.map mkE).toArray.isEmpty && (es.map mkE).toArray.all (fun x => decide (x.born ≥ clock))) = false := by
    cases hes : es with
    | nil => simp
    | cons e es' =>
      have := hok.lt e (by simp [hes])
      simp [mkE]
      intro _ hle
      omega
  have hleft : ((es.map mkE).toArray.filter (fun e => !seen.toArray.contains e.born)) = ((es.filter (fun e => !seen.contains e.2.2)).map mkE).toArray := by
    apply Array.ext'
    simp [List.filter_map, Function.comp_def, mkE]
    rfl
  have hold : ((((es.filter (fun e => !seen.contains e.2.2)).map mkE).toArray).filter (fun x => decide (x.born < clock))) = ((es.filter (fun e => !seen.contains e.2.2)).map mkE).toArray := by
    rw [Array.filter_eq_self]
    intro x hx
    simp only [List.mem_toArray, List.mem_map] at hx
    obtain ⟨e, he, rfl⟩ := hx
    exact decide_eq_true (hok.lt e (List.mem_filter.1 he).1)
  have hnew : ((((es.filter (fun e => !seen.contains e.2.2)).map mkE).toArray).filter (fun x => decide (x.born ≥ clock))) = #[] := by
    rw [Array.filter_eq_empty_iff]
    intro x hx
    simp only [List.mem_toArray, List.mem_map] at hx
    obtain ⟨e, he, rfl⟩ := hx
    have := hok.lt e (List.mem_filter.1 he).1
    simp [mkE]; omega
  unfold Oper.wp
  simp only [execOp, hA.ev hx, bat, Instr.next, Sem.run_bind, run_getObj_iter h6, Result.andThen_ok, run_getObj_map h4, hcheck, Bool.false_eq_true, if_false, hleft, hold, hnew, Sem.run_pure, Array.append_empty]
  generalize hL : es.filter (fun e => !seen.contains e.2.2) = L
  have hLm : ∀ e, e ∈ L → e ∈ es ∧ e.2.2 ∉ seen := fun e he => by
    rw [← hL] at he
    have := List.mem_filter.1 he
    exact ⟨this.1, by simpa using this.2⟩
  cases L with
  | nil =>
    have hall : ∀ e ∈ es, e.2.2 ∈ seen := fun e he => by
      have := List.filter_eq_nil_iff.1 hL e he
      simpa using this
    simp only [List.map_nil, Array.map_empty, Array.isEmpty_empty, if_true, Array.append_empty]
    simp [Question.forced, run_choose]
    simp only [Oper.upon]
    exact hK _ _ (.inl ⟨hall, rfl, hH⟩)
  | cons e0 L' =>
    have hne : ((List.map mkE (e0 :: L')).toArray).isEmpty = false := by simp
    simp only [hne, Bool.false_eq_true, if_false]
    have hch : ∀ n : Nat, 0 < n → ∃ i w1, i < n ∧ (choose (.mapNext n)).run P w = .ok i w1 ∧ w1.heap = w.heap ∧ Kp w noM w1 := by
      intro n hn
      by_cases hf : n ≤ 1
      · refine ⟨0, w, hn, ?_, rfl, Kp.refl _ _⟩
        simp [run_choose, Question.forced, hf]
      · refine ⟨(Question.mapNext n).cut (w.tape w.drawn (.mapNext n)), w.drew, by simpa [Question.cut] using Nat.mod_lt _ hn, ?_, rfl, Kp.drew _ _⟩
        simp [run_choose, Question.forced, hf]
    obtain ⟨i, w1, hi1, hrun, hheap, hkp⟩ := hch (#[] ++ ((List.map mkE (e0 :: L')).toArray.map some)).size (by simp)
    simp only [hrun, Result.andThen_ok]
    have hi2 : i < (e0 :: L').length := by simpa using hi1
    have hget : (#[] ++ ((List.map mkE (e0 :: L')).toArray.map some))[i]? = some (some (mkE (e0 :: L')[i])) := by
      have : (List.map (some ∘ mkE) (e0 :: L'))[i]? = some (some (mkE (e0 :: L')[i])) := by rw [List.getElem?_map, List.getElem?_eq_getElem hi2]; rfl
      simpa using this
    simp only [hget]
    obtain ⟨he1, he2⟩ := hLm _ (List.getElem_mem hi2)
    have h6' : w1.heap[r]? = some (.mapIter (some b) clock seen.toArray clock) := by rw [hheap]; exact h6
    simp only [Sem.run_bind, run_setObj_iter h6', Result.andThen_ok, Sem.run_pure, Oper.upon]
    refine hK _ _ (.inr ⟨_, he1, he2, rfl, fun H' hrp => ?_⟩)
    refine (hH.keep hkp).turn hrp fun F' hF' => ⟨setObj_kp ((hF'.1 r).2 rfl), F', ⟨hF'.1, ?_⟩, fun b hb => .inr hb⟩
    have := setObj_at (o := .mapIter (some b) clock (seen.toArray.push (mkE (e0 :: L')[i]).born) clock) h6'
    simpa [mkE] using this

theorem ex_entry {r b clock : Nat} {seen : List Nat} {es : List (Int × Value × Nat)} {x : Operand} {e : Int × Value × Nat} {w0 : World} {M : Nat → Prop} {H : List It}
    (hx : ev l x = some (.pointer (some (bat r 0)))) (hi : itr r b clock (seen ++ [e.2.2]) ∈ H) (hm : mpO b es clock ∈ H) (hok : (es.map (·.2.2)).Nodup) (he : e ∈ es) :
    Ex P N l (HS w0 M H) ⟨d, .entry x, T, pos, af, g⟩ (.tuple #[.int .i64 e.1, e.2.1]) := by
  intro a w hA hH
  obtain ⟨F, h3, h4⟩ := hH.sat hm
  obtain ⟨F2, h5, h6⟩ := hH.sat hi
  have hf : (es.map mkE).toArray.find? (fun x => x.born == e.2.2) = some (mkE e) := by
    rw [List.find?_toArray, List.find?_map, Option.map_eq_some_iff]
    refine ⟨e, ?_, rfl⟩
    simp only [Function.comp_def, mkE]
    clear h4 hm h3
    induction es with
    | nil => simp at he
    | cons e' es ih =>
      simp only [List.map_cons, List.nodup_cons] at hok
      rw [List.find?_cons]
      rcases List.mem_cons.1 he with rfl | he'
      · simp
      · have hne : e'.2.2 ≠ e.2.2 := fun h => hok.1 (h ▸ List.mem_map.2 ⟨e, he', rfl⟩)
        have hb : (e'.2.2 == e.2.2) = false := by simpa using hne
        simp only [hb]
        exact ih hok.2 he'
  simp only [execOp, hA.ev hx, bat, Instr.entry, Sem.run_bind, run_getObj_iter h6, Result.andThen_ok]
  have hb : (seen ++ [e.2.2]).toArray.back? = some e.2.2 := by simp
  simp only [hb, Sem.run_bind, run_getObj_map h4, Result.andThen_ok]
  simp [hf, mkE]

/-! ## maps from ints to ints -/
def encM (m : List (Int × Int)) : List (Int × Value) := m.map fun p => (p.1, .int .i64 p.2)
def mpI (b : Nat) (m : List (Int × Int)) : It := mp b (encM m)
def lkI (m : List (Int × Int)) (k : Int) : Option Int := (m.find? (fun e => e.1 == k)).map (·.2)
def setI (m : List (Int × Int)) (k v : Int) : List (Int × Int) := if (lkI m k).isSome then m.map (fun e => if e.1 == k then (k, v) else e) else m ++ [(k, v)]
theorem mv_encM (m : List (Int × Int)) (k : Int) : mv (encM m) k = (lkI m k).map (.int .i64) := by
  simp [mv, encM, lkI, List.find?_map, Function.comp_def]
theorem mset_encM (m : List (Int × Int)) (k v : Int) : mset (encM m) k (.int .i64 v) = encM (setI m k v) := by
  unfold mset setI
  rw [mv_encM, Option.isSome_map]
  split
  · simp only [encM, List.map_map]
    apply List.map_congr_left
    intro e he
    simp only [Function.comp_def]
    split <;> rfl
  · simp [encM]
theorem getD_encM (m : List (Int × Int)) (k : Int) : (mv (encM m) k).getD (.int .i64 0) = .int .i64 ((lkI m k).getD 0) := by
  rw [mv_encM]; cases lkI m k <;> rfl
theorem ex_lookupI_ok {t kt e sz by_ b : Nat} {kk : IntKind} {zs : List Value} {x y : Operand} {m : List (Int × Int)} {k : Int} {w0 : World} {M : Nat → Prop} {H : List It} [ht : TMp P t kt e] [hk : TIn P kt kk] [hi : TIf P e (.int .i64 0) zs sz by_]
    (hx : ev l x = some (.map (some b))) (hy : ev l y = some (.int .i64 k)) (hm : mpI b m ∈ H) : Ex P N l (HS w0 M H) ⟨d, .lookup t x y true, T, pos, af, g⟩ (.tuple #[.int .i64 ((lkI m k).getD 0), .bool (lkI m k).isSome]) := by
  have := ex_lookup_ok (P := P) (N := N) (l := l) (d := d) (T := T) (pos := pos) (af := af) (g := g) (t := t) (w0 := w0) (M := M) hx hy hm
  rw [getD_encM, mv_encM, Option.isSome_map] at this
  exact this
theorem ex_lookupI {t kt e sz by_ b : Nat} {kk : IntKind} {zs : List Value} {x y : Operand} {m : List (Int × Int)} {k : Int} {w0 : World} {M : Nat → Prop} {H : List It} [ht : TMp P t kt e] [hk : TIn P kt kk] [hi : TIf P e (.int .i64 0) zs sz by_]
    (hx : ev l x = some (.map (some b))) (hy : ev l y = some (.int .i64 k)) (hm : mpI b m ∈ H) : Ex P N l (HS w0 M H) ⟨d, .lookup t x y false, T, pos, af, g⟩ (.int .i64 ((lkI m k).getD 0)) := by
  have := ex_lookup (P := P) (N := N) (l := l) (d := d) (T := T) (pos := pos) (af := af) (g := g) (t := t) (w0 := w0) (M := M) hx hy hm
  rw [getD_encM] at this
  exact this
theorem op_makeMapI {t : Nat} {w0 w : World} {M : Nat → Prop} {H : List It} (hH : HS w0 M H w) :
    Op1 P N l ⟨d, .makeMap t none, T, pos, af, g⟩ w (fun v w' => ∃ b, v = .map (some b) ∧ HS w0 M (mpI b [] :: H) w') := op_makeMap hH
theorem op_mapUpdateI {t kt e b : Nat} {kk : IntKind} {x y z : Operand} {m : List (Int × Int)} {k v : Int} {w0 w : World} {M : Nat → Prop} {H H' : List It} [ht : TMp P t kt e] [hk : TIn P kt kk]
    (hx : ev l x = some (.map (some b))) (hy : ev l y = some (.int .i64 k)) (hz : ev l z = some (.int .i64 v)) (hH : HS w0 M H w) (hr : Rp H (mpI b m) (mpI b (setI m k v)) H') :
    Op1 P N l ⟨d, .mapUpdate t x y z, T, pos, af, g⟩ w (fun _ w' => HS w0 M H' w') := by
  unfold mpI at hr
  rw [← mset_encM] at hr
  exact op_mapUpdate hx hy hz hH hr
theorem one_cell_of (a b : Nat) {z : Value} {zs : List Value} {by_ : Nat} [hi : TIf P a z zs 1 by_] : ∃ i, P.info? (a, b).1 = some i ∧ i.size = 1 :=
  let ⟨i, h1, _, h3, _⟩ := hi.eq
  ⟨i, h1, h3⟩

/-! ## a map with its entries in sight, from ints to ints -/
def encE (e : Int × Int × Nat) : Int × Value × Nat := (e.1, .int .i64 e.2.1, e.2.2)
structure ElOk (el : List (Int × Int × Nat)) (clock : Nat) : Prop where
  keys : (el.map (·.1)).Nodup
  borns : (el.map (·.2.2)).Nodup
  lt : ∀ e ∈ el, e.2.2 < clock
def mpE (b : Nat) (el : List (Int × Int × Nat)) (clock : Nat) : It := mpO b (el.map encE) clock
theorem ElOk.es {el : List (Int × Int × Nat)} {clock : Nat} (h : ElOk el clock) : EsOk (el.map encE) clock :=
  ⟨by simpa [encE, Function.comp_def] using h.keys, by simpa [encE, Function.comp_def] using h.borns, fun e he => by
    obtain ⟨e', he', rfl⟩ := List.mem_map.1 he
    exact h.lt e' he'⟩
end
end Go.Fw
namespace Go.Fw
open Go Go.ChangeShapes Go.WideShapes Go.ChangeAt Go.RowKit Go.Deep
set_option linter.unusedVariables false

theorem HS.pick {w0 w : World} {M : Nat → Prop} {H : List It} {it : It} (h : HS w0 M H w) (hm : it ∈ H) : HS w0 M [it] w :=
  let ⟨_, p⟩ := mem_split hm
  (h.perm p).head
/-- what a law does for its caller -/
def LawR (w0 : World) (v : Value) (w : World) : Prop := v = .bool true ∧ Kp w0 noM w
theorem Kp.below {w0 w : World} (h : Kp w0 noM w) : Below w0.heap.size w0 w := ⟨h.os, h.tape, h.output, h.size, fun k hk => h.block k hk id⟩
section
variable {H : Type} {enc : TypeId × Value → H} {P : Program}
theorem trodAll_stays (hl : laidOutB P = true) {W W' : World} (hb : Below W.heap.size W W') : ∀ {ts : List TypeId} {vs : List Value} {ds : List (DataW H)} {ps : List MemPlace},
    (∀ t ∈ ts, P.readableRec t = true ∧ t < P.types.size) → DataW.TrodAll enc P W 0 (fun _ => true) true ts vs ds ps → (∀ x ∈ ps, x.block < W.heap.size) →
    DataW.TrodAll enc P W' 0 (fun b => decide (b < W.heap.size)) true ts vs ds ps
  | [], vs, ds, ps, _, h, _ => by
    obtain ⟨rfl, rfl, rfl⟩ := trodAll_nil h
    exact trodAll_mk0
  | t :: ts, vs, ds, ps, hr, h, hlt => by
    obtain ⟨v, vs1, d, ds1, a, b, rfl, rfl, rfl, h1, h2⟩ := trodAll_cons h
    have hlt1 : ∀ x ∈ a, x.block < W.heap.size := fun x hx => hlt x (List.mem_append.2 (.inl hx))
    have hlt2 : ∀ x ∈ b, x.block < W.heap.size := fun x hx => hlt x (List.mem_append.2 (.inr hx))
    have ht := hr t (List.mem_cons_self)
    exact trodAll_cons_mk (Below.trod hl ht.1 ht.2 h1 hb hlt1) (trodAll_stays hl hb (fun t ht => hr t (List.mem_cons_of_mem _ ht)) h2 hlt2)
theorem trodAll_len {W : World} {base : Nat} {spare : Nat → Bool} {held : Bool} : ∀ {ts : List TypeId} {vs : List Value} {ds : List (DataW H)} {ps : List MemPlace},
    DataW.TrodAll enc P W base spare held ts vs ds ps → ds.length = ts.length
  | [], vs, ds, ps, h => by
    obtain ⟨rfl, rfl, rfl⟩ := trodAll_nil h
    rfl
  | t :: ts, vs, ds, ps, h => by
    obtain ⟨v, vs1, d, ds1, a, b, rfl, rfl, rfl, h1, h2⟩ := trodAll_cons h
    simp [trodAll_len h2]
theorem law_post {f : Func} {s : ChangeSpec} {W W' : World} {args : Array Value} {ds gs : List (DataW H)} {before : List MemPlace} {tb : TypeId}
    (hl : laidOutB P = true) (hrd : f.params.toList.all (fun t => P.readableRec t && decide (t < P.types.size)) = true) (hv : s.vars = [])
    (hs : ∀ ds : List (DataW H), ds.length = f.params.size → (s.fn H (ds ++ [])).results = [.lit (.bool true)] ∧ (s.fn H (ds ++ [])).args = ds ∧ (s.fn H (ds ++ [])).vars = [])
    (hrt : f.resultTypes = #[tb]) (hb : P.underlying tb = some .bool)
    (hW : DataW.Whole enc P f.params.toList s.vars false W args.toList ds gs before) (hk : Kp W noM W') :
    s.post enc P f false true false false W args (.bool true) W' := by
  have hW' := hW
  obtain ⟨p, q, hA, hV, rfl, hfz, hnd⟩ := hW
  rw [hv] at hV
  have hg : gs = [] ∧ q = [] := by
    cases gs with
    | nil => exact ⟨rfl, hV⟩
    | cons g gs => exact hV.elim
  obtain ⟨rfl, rfl⟩ := hg
  have hlen := trodAll_len hA
  rw [Array.length_toList] at hlen
  obtain ⟨h1, h2, h3⟩ := hs ds hlen
  have hlt : ∀ x ∈ p, x.block < W.heap.size := fun x hx => by simpa using hW'.lt x (List.mem_append.2 (.inl hx))
  refine ⟨ds, [], p ++ [], [], p, [], hW', ?_, ?_, ?_, (Kp.below hk).frame _, fun h => by cases h⟩
  · rw [h1, hrt]
    exact trodAll_cons_mk (shut_bool hb _) trodAll_mk0
  · rw [h2]
    refine trodAll_stays hl (Kp.below hk) (fun t ht => ?_) hA hlt
    have := List.all_eq_true.1 hrd t ht
    simpa using this
  · rw [h3, hv]; rfl

end

section
variable {H : Type} {enc : TypeId × Value → H} {P : Program} {w : World} {base : Nat} {spare : Nat → Bool} {held : Bool}
theorem choose_list {α : Type} (p : Nat → α → Prop) : ∀ n : Nat, (∀ i, i < n → ∃ x, p i x) → ∃ l : List α, l.length = n ∧ ∀ i x, l[i]? = some x → p i x
  | 0, _ => ⟨[], rfl, by simp⟩
  | n + 1, h => by
    obtain ⟨l, hl, hp⟩ := choose_list p n (fun i hi => h i (by omega))
    obtain ⟨x, hx⟩ := h n (by omega)
    refine ⟨l ++ [x], by simp [hl], fun i y hy => ?_⟩
    rcases Nat.lt_or_ge i n with hi | hi
    · rw [List.getElem?_append_left (by omega)] at hy
      exact hp i y hy
    · have := (List.getElem?_eq_some_iff.1 hy).1
      simp only [List.length_append, List.length_cons, List.length_nil] at this
      obtain rfl : i = n := by omega
      rw [List.getElem?_append_right (by omega), hl] at hy
      simp at hy
      exact hy ▸ hx
end
end Go.Fw
namespace Go.Fw
open Go Go.ChangeShapes Go.WideShapes Go.ChangeAt Go.RowKit Go.Deep
set_option linter.unusedVariables false
section
variable {P : Program} {N : Nat} {l : List (Nat × Value)} {C : World → Prop} {d : Option Tmp} {T : TypeId} {pos : String} {af : Array Edge} {g : Option (Nat × Bool)}
theorem ex_rem {t ty : TypeId} {x y : Operand} {k : IntKind} {m n : Int} (hx : ev l x = some (.int k m)) (hy : ev l y = some (.int k n)) (h : n ≠ 0) : Ex P N l C ⟨d, .binOp .rem t x y ty, T, pos, af, g⟩ (.int k (m.tmod n)) := by
  intro a w hA _
  simp only [execOp, hA.ev hx, hA.ev hy, eqGuard_at_int, binOp_rem]
  simp [Op.intDiv, h]
theorem ex_quo {t ty : TypeId} {x y : Operand} {k : IntKind} {m n : Int} (hx : ev l x = some (.int k m)) (hy : ev l y = some (.int k n)) (h : n ≠ 0) : Ex P N l C ⟨d, .binOp .quo t x y ty, T, pos, af, g⟩ (.int k (k.wrap (m.tdiv n))) := by
  intro a w hA _
  simp only [execOp, hA.ev hx, hA.ev hy, eqGuard_at_int, binOp_quo]
  simp [Op.intDiv, h]
theorem ex_convert {s t : TypeId} {x : Operand} {k kd ks : IntKind} {m v : Int} [hs : TIn P s ks] [ht : TIn P t kd] (hx : ev l x = some (.int k m)) (hv : kd.wrap m = v) : Ex P N l C ⟨d, .convert s t x, T, pos, af, g⟩ (.int kd v) := by
  intro a w hA _
  subst hv
  simp only [execOp, hA.ev hx, convert, Sem.run_bind, run_underlying hs.eq, run_underlying ht.eq, Result.andThen_ok, Conv.intToInt, Sem.run_pure]
end
theorem Rd.take {w : World} {o : Option Addr} {xs : List Value} (h : Rd w o xs) (k : Nat) : Rd w o (xs.take k) := by
  refine ⟨fun hp => h.1 (by rw [List.length_take] at hp; omega), fun j u hj => h.2 j u ?_⟩
  have hjk : j < k := by
    have := (List.getElem?_eq_some_iff.1 hj).1
    rw [List.length_take] at this; omega
  rwa [List.getElem?_take_of_lt hjk] at hj
section
variable {H : Type} {enc : TypeId × Value → H} {P : Program} {w : World} {base : Nat} {spare : Nat → Bool} {held : Bool}
end
end Go.Fw
namespace Go.Fw
open Go Go.RowKit
set_option linter.unusedVariables false

def encB (b : Bool) : List Value := [.bool b]
/-- a slice as a value: its head, its length, its room -/
abbrev Sd := Option Addr × Nat × Nat
def Sd.v (d : Sd) : Value := .slice d.1 d.2.1 d.2.2
def encS (d : Sd) : List Value := [.slice d.1 d.2.1 d.2.2]
/-- the slices of a slice, as they can be read -/
def RdR {α : Type} (enc : α → List Value) (w : World) (ds : List Sd) (rows : List (List α)) : Prop :=
  ds.length = rows.length ∧ ∀ (i : Nat) (d : Sd) (r : List α), ds[i]? = some d → rows[i]? = some r → d.2.1 = r.length ∧ Rd w d.1 (flat enc r)
theorem RdR.at {α : Type} {enc : α → List Value} {w : World} {ds : List Sd} {rows : List (List α)} (h : RdR enc w ds rows) {i : Nat} {r : List α} (hr : rows[i]? = some r) :
    ∃ o c, ds[i]? = some (o, r.length, c) ∧ Rd w o (flat enc r) := by
  have hlt := (List.getElem?_eq_some_iff.1 hr).1
  obtain ⟨d, hd⟩ : ∃ d, ds[i]? = some d := ⟨_, List.getElem?_eq_getElem (by rw [h.1]; exact hlt)⟩
  obtain ⟨h1, h2⟩ := h.2 i d r hd hr
  obtain ⟨o, n, c⟩ := d
  dsimp only at h1 h2
  subst h1
  exact ⟨o, c, hd, h2⟩

theorem HS.moreM {w0 w : World} {M M' : Nat → Prop} {H : List It} (h : HS w0 M H w) (hM : ∀ b, M b → M' b) : HS w0 M' H w := by
  obtain ⟨hk, F, hF, ho⟩ := h
  exact ⟨⟨hk.os, hk.tape, hk.output, hk.size, fun b hb hn => hk.block b hb fun h => hn (hM b h)⟩, F, hF, fun b hb => (ho b hb).imp id (hM b)⟩
/-- what a call makes that leaves all as it was -/
theorem HS.join {w0 w w' : World} {M : Nat → Prop} {H H' : List It} (h : HS w0 M H w) (h' : HS w noM H' w') : HS w0 M (H' ++ H) w' := by
  obtain ⟨Mc, h1, h2, h3⟩ := HS.frame (Hc := []) (Hf := H) h
  exact h3 w' H' (h'.moreM fun b hb => hb.elim)

/-! ## many parts as one -/
def all (L : List It) : It where
  sat w F := Hp w L F
  loc := fun h he => h.loc he
  lt := fun h b hb => h.lt b hb
  ext := fun h he => h.ext he
theorem HS.open_ {w0 w : World} {M : Nat → Prop} {L H : List It} (h : HS w0 M (all L :: H) w) : HS w0 M (L ++ H) w := by
  obtain ⟨hk, F, ⟨F1, F2, hF, hd, h1, h2⟩, ho⟩ := h
  exact ⟨hk, _, Hp.mk_append hd h1 h2, fun b hb => ho b ((hF b).2 hb)⟩
theorem HS.shut {w0 w : World} {M : Nat → Prop} {L H : List It} (h : HS w0 M (L ++ H) w) : HS w0 M (all L :: H) w := by
  obtain ⟨hk, F, hF, ho⟩ := h
  obtain ⟨F1, F2, hG, hd, h1, h2⟩ := hF.append
  exact ⟨hk, F, ⟨F1, F2, hG, hd, h1, h2⟩, ho⟩
theorem HS.openAt {w0 w : World} {M : Nat → Prop} {L H : List It} {i : Nat} {x : It} (h : HS w0 M (all L :: H) w) (hi : L[i]? = some x) : HS w0 M (x :: all (L.eraseIdx i) :: H) w := by
  have h1 := h.open_.perm ((perm_pick0 i hi).append_right H)
  have h2 : HS w0 M (L.eraseIdx i ++ (x :: H)) w := h1.perm List.perm_middle.symm
  exact h2.shut.perm (.swap _ _ _)
theorem eraseIdx_set_perm {x : It} : ∀ {L : List It} {i : Nat}, i < L.length → (x :: L.eraseIdx i).Perm (L.set i x)
  | [], i, h => by simp at h
  | y :: L, 0, h => .refl _
  | y :: L, i + 1, h => (List.Perm.swap y x _).trans ((eraseIdx_set_perm (L := L) (i := i) (by simpa using h)).cons y)
theorem HS.shutAt {w0 w : World} {M : Nat → Prop} {L H : List It} {i : Nat} {x : It} (h : HS w0 M (x :: all (L.eraseIdx i) :: H) w) (hi : i < L.length) : HS w0 M (all (L.set i x) :: H) w := by
  have h1 : HS w0 M (all (L.eraseIdx i) :: x :: H) w := h.perm (.swap _ _ _)
  have h2 : HS w0 M (x :: (L.eraseIdx i ++ H)) w := h1.open_.perm List.perm_middle
  have h3 : HS w0 M (L.set i x ++ H) w := h2.perm ((eraseIdx_set_perm hi).append_right H)
  exact h3.shut
theorem HS.nil_all {w0 w : World} {M : Nat → Prop} {H : List It} (h : HS w0 M H w) : HS w0 M (all [] :: H) w := HS.shut (L := []) h

theorem HS.pushA {w0 w : World} {M : Nat → Prop} {L H : List It} {x : It} (h : HS w0 M (x :: all L :: H) w) : HS w0 M (all (L ++ [x]) :: H) w := by
  have h1 : HS w0 M (all L :: x :: H) w := h.perm (.swap _ _ _)
  have h2 : HS w0 M (L ++ [x] ++ H) w := by simpa using h1.open_
  exact h2.shut

/-- slices of one's own, one beside the other -/
def owns {α : Type} (T sz : Nat) (enc : α → List Value) (ds : List Sd) (rows : List (List α)) : List It := List.zipWith (fun (d : Sd) r => own T sz d.1 d.2.1 d.2.2 (flat enc r)) ds rows
theorem owns_snoc {α : Type} {T sz : Nat} {enc : α → List Value} {ds : List Sd} {rows : List (List α)} (h : ds.length = rows.length) (d : Sd) (r : List α) : owns T sz enc (ds ++ [d]) (rows ++ [r]) = owns T sz enc ds rows ++ [own T sz d.1 d.2.1 d.2.2 (flat enc r)] := by
  simp [owns, List.zipWith_append h]
theorem HS.owns_nil {α : Type} (T sz : Nat) (enc : α → List Value) {w0 w : World} {M : Nat → Prop} : ∀ (n : Nat) {H : List It}, HS w0 M H w → HS w0 M (all (owns T sz enc (List.replicate n (none, 0, 0)) (List.replicate n [])) :: H) w
  | 0, H, h => h.nil_all
  | n + 1, H, h => by
    have h1 := (HS.owns_nil T sz enc n h).open_
    have h2 := (h1.nil_own T sz)
    exact HS.shut (L := owns T sz enc (List.replicate (n + 1) (none, 0, 0)) (List.replicate (n + 1) [])) h2
theorem flat_set1 {α : Type} {enc : α → List Value} (henc : ∀ x, (enc x).length = 1) {l : List α} {i : Nat} (hi : i < l.length) (y : α) : Fw.put (flat enc l) i (enc y) = flat enc (l.set i y) := by
  have := flat_put henc (l := l) (i := i) (x := l[i]) (y := y) (off := 0) (vs := enc y) (List.getElem?_eq_getElem hi) (by
    unfold put
    rw [List.take_zero, List.drop_of_length_le (by rw [henc, henc]; exact Nat.le_refl _)]
    simp) (by rw [henc]; exact Nat.le_refl _)
  simpa using this
theorem flat_replicate {α : Type} {enc : α → List Value} {z : Value} {x : α} (h : enc x = [z]) : ∀ n, List.replicate n z = flat enc (List.replicate n x)
  | 0 => rfl
  | n + 1 => by
    rw [List.replicate_succ, List.replicate_succ, flat_replicate h n]
    simp [flat, h]
theorem made_flat {α : Type} {enc : α → List Value} {z : Value} {x : α} (h : enc x = [z]) (hz : z.cells = #[z]) (n : Nat) : (madeCells z.cells (n * 1)).toList.take (n * 1) = flat enc (List.replicate n x) := by
  rw [madeCells_scalar z hz, ← flat_replicate h n]
  simp

section
variable {P : Program} {N : Nat} {l : List (Nat × Value)} {C : World → Prop} {d : Option Tmp} {T : TypeId} {pos : String} {af : Array Edge} {g : Option (Nat × Bool)}
/-- make([]T, n), of one cell each -/
theorem op_make1 {α : Type} (enc : α → List Value) (x0 : α) {t e by_ : Nat} {z : Value} {zs : List Value} {x y : Operand} {kl kc : IntKind} {n : Nat} {m m' : Int} {w0 w : World} {M : Nat → Prop} {H : List It} [ht : TSl P t e] [hi : TIf P e z zs 1 by_]
    (hx : ev l x = some (.int kl m)) (hy : ev l y = some (.int kc m')) (hm : m = (n : Int)) (hm' : m' = (n : Int)) (hc : n ≤ maxLen) (hb : by_ * n ≤ 140737488355328) (he : enc x0 = [z]) (hz : z.cells = #[z]) (hH : HS w0 M H w) :
    Op1 P N l ⟨d, .makeSlice t x y, T, pos, af, g⟩ w (fun v w' => ∃ o, v = .slice o n n ∧ HS w0 M (own e 1 o n n (flat enc (List.replicate n x0)) :: H) w') := by
  subst hm; subst hm'
  have := op_makeSlice (P := P) (N := N) (l := l) (d := d) (T := T) (pos := pos) (af := af) (g := g) (t := t) (e := e) hx hy (Nat.le_refl n) hc hb hH
  rw [made_flat he hz] at this
  exact this
theorem run_eqlB {t : TypeId} [h : TBo P t] (m n : Bool) (w : World) : (Op.equal t (.bool m) (.bool n)).run P w = .ok (m == n) w := by
  exact run_equal_bool w t m n h.eq
theorem ex_eqlB {t ty : TypeId} {x y : Operand} {m n : Bool} [h : TBo P t] (hx : ev l x = some (.bool m)) (hy : ev l y = some (.bool n)) : Ex P N l C ⟨d, .binOp .eql t x y ty, T, pos, af, g⟩ (.bool (m == n)) := by
  intro a w hA _
  simp [execOp, hA.ev hx, hA.ev hy, eqGuard_at_bool, binOp, run_eqlB]
theorem ex_neqB {t ty : TypeId} {x y : Operand} {m n : Bool} [h : TBo P t] (hx : ev l x = some (.bool m)) (hy : ev l y = some (.bool n)) : Ex P N l C ⟨d, .binOp .neq t x y ty, T, pos, af, g⟩ (.bool (m != n)) := by
  intro a w hA _
  simp [execOp, hA.ev hx, hA.ev hy, eqGuard_at_bool, binOp, run_eqlB]
  cases m <;> cases n <;> rfl

theorem cl_w {w0 : World} {M : Nat → Prop} {H : List It} {b j : Nat} {v : Value} (h : w0.cell? (bat b j) = some v) (hM : ¬ M b) : Cl (HS w0 M H) (bat b j) v := fun w hH => by
  have hb : b < w0.heap.size := World.block_lt_of_cell? w0 (bat b j) h
  rw [World.cell?_of_block (w := w0) (hH.1.block b hb hM)]
  exact h
theorem ng_normal {Q : Exit → Act → World → Prop} {a : Act} {w : World} (h : Q .normal a w) : Exit.noGoto Q .normal a w := h
theorem ng_ret {Q : Exit → Act → World → Prop} {a : Act} {w : World} (h : Q .ret a w) : Exit.noGoto Q .ret a w := h
/-- a store of one cell into an element of what is ours -/
theorem op_set1 {α : Type} {enc : α → List Value} {y0 : α} {t by_ j Tb n cap : Nat} {o : Option Addr} {z v : Value} {zs : List Value} {x y : Operand} {li : List α} {w0 w : World} {M : Nat → Prop} {H H' : List It} [hi : TIf P t z zs 1 by_]
    (hx : ev l x = some (.pointer (some (sat o j)))) (hy : ev l y = some v) (he : enc y0 = [v]) (h1 : v.oneCell' = true) (henc : ∀ x, (enc x).length = 1) (hH : HS w0 M H w) (hr : Rp H (own Tb 1 o n cap (flat enc li)) (own Tb 1 o n cap (flat enc (li.set j y0))) H') (hj : j < li.length) :
    Op1 P N l ⟨d, .store t x y, T, pos, af, g⟩ w (fun _ w' => HS w0 M H' w') :=
  op_store_own1 (hi := hi) hx hy h1 hH hr (by rw [flat_length henc]; omega) (by rw [← he]; exact flat_set1 henc hj y0)
end
/-- found by trial -/
theorem MEMT {α : Type _} {x : α} {l : List α} (h : x ∈ l := by repeat (first | exact List.Mem.head _ | apply List.Mem.tail)) : x ∈ l := h
theorem CATST {n : Nat} {vs xs : List Value} (h : Cats n vs xs := by repeat (first | exact Cats.nil | (apply Cats.c1; rfl) | apply Cats.c2 | apply Cats.c3 | apply Cats.c4)) : Cats n vs xs := h
/-- what an operation yields that turns nothing: found by trial -/
theorem EXT {P : Program} {N : Nat} {l : List (Nat × Value)} {C : World → Prop} {o : Oper} {v : Value} (h : Ex P N l C o v := by (first | (apply ex_move; rfl) | (apply ex_assign; rfl) | (apply ex_eql; rfl; rfl) | (apply ex_eqlB; rfl; rfl) | (apply ex_neq; rfl; rfl) | (apply ex_neqB; rfl; rfl) | (apply ex_lss; rfl; rfl) | (apply ex_leq; rfl; rfl) | (apply ex_gtr; rfl; rfl) | (apply ex_geq; rfl; rfl) | (apply ex_len_slice; rfl) | (apply ex_fieldAddr_sat; rfl; rfl) | (apply ex_fieldAddr_bat; rfl; rfl) | (apply ex_nilCheck; rfl) | (apply ex_extract; rfl; rfl) | (apply ex_not; rfl) | (apply ex_pick_t; rfl; rfl) | (apply ex_pick_f; rfl; rfl) | (apply ex_succ; rfl; rfl; omega) | (apply ex_add; rfl; rfl; unfold i64ok; omega) | (apply ex_pred; rfl; rfl; omega) | (apply ex_sub; rfl; rfl; unfold i64ok; omega) | (apply ex_indexAddr_nat; rfl; rfl; omega; first | assumption | exact hH.own_sp MEMT) | (apply ex_indexAddr; rfl; rfl; omega; omega; first | assumption | exact hH.own_sp MEMT) | (apply ex_load; rfl; apply cl_cb; exact MEMT; rfl) | (apply ex_load_st; rfl; rotate_left; apply cls_cb_all; exact MEMT; rfl) | (apply ex_lookupI_ok; rfl; rfl; exact MEMT) | (apply ex_lookupI; rfl; rfl; exact MEMT) | (apply ex_makeFunc; rfl; rfl) | (apply ex_build_full; rfl; rfl; rfl; rfl; rfl; (repeat (first | (intro _ h; exact absurd h (List.not_mem_nil)) | (refine List.forall_mem_cons.2 ⟨one_cell_of _ _, ?_⟩)))))) : Ex P N l C o v := h
end Go.Fw
namespace Go.Fw
open Go Go.ChangeShapes Go.WideShapes Go.ChangeAt Go.RowKit Go.Deep
set_option linter.unusedVariables false
/-- all parts are of a size that a machine can have -/
def Szd {H : Type} (P : Program) (t : TypeId) (d : DataW H) : Prop := (d.weights P t).all (· ≤ reachBytes) = true
section
variable {H : Type} {enc : TypeId × Value → H} {P : Program}
theorem szd_all {e : TypeId} : ∀ {l : List (DataW H)}, (DataW.weightsAll P e l).all (· ≤ reachBytes) = true → ∀ d ∈ l, Szd P e d
  | [], _, d, hd => by simp at hd
  | x :: r, h, d, hd => by
    simp only [DataW.weightsAll, List.all_append, Bool.and_eq_true] at h
    rcases List.mem_cons.1 hd with rfl | hd
    · exact h.1
    · exact szd_all h.2 d hd
theorem Szd.slice {t e : TypeId} {elems spare : List (DataW H)} (h : Szd P t (.slice elems spare)) (ht : P.underlying t = some (.slice e)) :
    (elems.length + spare.length) * P.bytesOf e ≤ reachBytes ∧ ∀ d, d ∈ elems → Szd P e d := by
  simp only [Szd, DataW.weights, ht, List.all_cons, List.all_append, Bool.and_eq_true, decide_eq_true_eq] at h
  exact ⟨h.1, szd_all h.2.1⟩
end

section
variable {H : Type} {enc : TypeId × Value → H} {P : Program} {w : World} {base : Nat} {held : Bool}
theorem add_sat (a : Addr) (h : a.spot = none) (k : Nat) : a.add k = sat (some a) k := by
  obtain ⟨b, off, spot⟩ := a
  obtain rfl : spot = none := h
  simp only [sat, blkO, offO, Addr.add]
  split <;> simp_all
end
end Go.Fw
namespace Go.Fw
open Go Go.RowKit
set_option linter.unusedVariables false

/-! ## a part with something open, a part with a fact -/
def exI {α : Type} (f : α → It) : It where
  sat w F := ∃ x, (f x).sat w F
  loc := fun ⟨x, h⟩ he => ⟨x, (f x).loc h he⟩
  lt := fun ⟨x, h⟩ b hb => (f x).lt h b hb
  ext := fun ⟨x, h⟩ he => ⟨x, (f x).ext h he⟩
def facI (p : Prop) (it : It) : It where
  sat w F := p ∧ it.sat w F
  loc := fun ⟨hp, h⟩ he => ⟨hp, it.loc h he⟩
  lt := fun ⟨_, h⟩ b hb => it.lt h b hb
  ext := fun ⟨hp, h⟩ he => ⟨hp, it.ext h he⟩
theorem HS.exI_open {α : Type} {f : α → It} {w0 w : World} {M : Nat → Prop} {H : List It} (h : HS w0 M (exI f :: H) w) : ∃ x, HS w0 M (f x :: H) w := by
  obtain ⟨hk, F, ⟨F1, F2, hF, hd, ⟨x, h1⟩, h2⟩, ho⟩ := h
  exact ⟨x, hk, F, ⟨F1, F2, hF, hd, h1, h2⟩, ho⟩
theorem HS.exI_shut {α : Type} {f : α → It} {w0 w : World} {M : Nat → Prop} {H : List It} (x : α) (h : HS w0 M (f x :: H) w) : HS w0 M (exI f :: H) w := by
  obtain ⟨hk, F, ⟨F1, F2, hF, hd, h1, h2⟩, ho⟩ := h
  exact ⟨hk, F, ⟨F1, F2, hF, hd, ⟨x, h1⟩, h2⟩, ho⟩
theorem HS.facI_open {p : Prop} {it : It} {w0 w : World} {M : Nat → Prop} {H : List It} (h : HS w0 M (facI p it :: H) w) : p ∧ HS w0 M (it :: H) w := by
  obtain ⟨hk, F, ⟨F1, F2, hF, hd, ⟨hp, h1⟩, h2⟩, ho⟩ := h
  exact ⟨hp, hk, F, ⟨F1, F2, hF, hd, h1, h2⟩, ho⟩
theorem HS.facI_shut {p : Prop} {it : It} {w0 w : World} {M : Nat → Prop} {H : List It} (hp : p) (h : HS w0 M (it :: H) w) : HS w0 M (facI p it :: H) w := by
  obtain ⟨hk, F, ⟨F1, F2, hF, hd, h1, h2⟩, ho⟩ := h
  exact ⟨hk, F, ⟨F1, F2, hF, hd, ⟨hp, h1⟩, h2⟩, ho⟩

/-! ## one's own slice as a block -/
theorem Rd.news {w : World} {a : Addr} {xs : List Value} (h : Rd w (some a) xs) : ∀ j u, xs[j]? = some u → w.cell? (a.add j) = some u := by
  intro j u hj
  obtain ⟨b, off, hb⟩ := h.1 (by have := (List.getElem?_eq_some_iff.1 hj).1; omega)
  obtain rfl : a = ⟨b, off, none⟩ := by simpa using hb
  rw [add_eq_sat]
  exact h.2 j u hj

section
variable {P : Program} {N : Nat} {l : List (Nat × Value)} {C : World → Prop} {d : Option Tmp} {T : TypeId} {pos : String} {af : Array Edge} {g : Option (Nat × Bool)}
theorem ex_eqlNil {t e ty : TypeId} {x y : Operand} {o : Option Addr} {n c : Nat} [ht : TSl P t e] (hx : ev l x = some (.slice o n c)) (hy : ev l y = some (.slice none 0 0)) : Ex P N l C ⟨d, .binOp .eql t x y ty, T, pos, af, g⟩ (.bool o.isNone) := by
  intro a w hA _
  simp [execOp, hA.ev hx, hA.ev hy, eqGuard_at_slice, binOp, run_equal_slice_nil w t e o n c ht.eq]
theorem ex_max {ats : Array TypeId} {x y : Operand} {k k' : IntKind} {m n : Int} (hx : ev l x = some (.int k m)) (hy : ev l y = some (.int k' n)) : Ex P N l C ⟨d, .call ⟨.builtin .max, #[x, y], ats⟩, T, pos, af, g⟩ (.int k (if n > m then n else m)) := by
  intro a w hA _
  simp [execOp, resolve, invoke, builtin, hA.ev hx, hA.ev hy, run_max_int2]

end
end Go.Fw
namespace Go.Fw
open Go Go.RowKit
set_option linter.unusedVariables false
section
variable {P : Program} {N : Nat} {l : List (Nat × Value)} {C : World → Prop} {d : Option Tmp} {T : TypeId} {pos : String} {af : Array Edge} {g : Option (Nat × Bool)}
/-- a struct literal with some of its fields, each of one cell -/
theorem ex_build_p {t sz by_ : Nat} {z : Value} {zs : List Value} {fl : List (Nat × Nat)} {ps : Array (Nat × Operand)} {vs : List Value} (cs : Array Value) [h : TSt P t fl] [hi : TIf P t z zs sz by_]
    (hv : evL l (ps.toList.map (·.2)) = some vs) (hsz : ∀ p ∈ fl, ∃ i, P.info? p.1 = some i ∧ i.size = 1) (hf : Instr.fill ((fl.map (fun p => (p.2, 1)))[·]?) zs.toArray ((ps.toList.map (·.1)).zip vs) = some cs) :
    Ex P N l C ⟨d, .build t ps, T, pos, af, g⟩ (.agg cs) := by
  have hrun : ∀ (fl : List (Nat × Nat)) (w : World), (∀ p ∈ fl, ∃ i, P.info? p.1 = some i ∧ i.size = 1) → (fl.mapM (fun p => do pure (p.2, ← sizeOf p.1)) : Sem (List (Nat × Nat))).run P w = .ok (fl.map (fun p => (p.2, 1))) w := by
    intro fl w
    induction fl with
    | nil => intro _; simp
    | cons p fl ih =>
      intro hp
      obtain ⟨i, hi1, hi2⟩ := hp p (by simp)
      have := ih fun q hq => hp q (by simp [hq])
      simp only [List.mapM_cons, Sem.run_bind, sizeOf, typeInfo, run_program, Result.andThen_ok, hi1, Sem.run_pure, hi2] at this ⊢
      rw [this]
      simp
  have hzc : z.cells = zs.toArray := by apply Array.ext'; simpa using hi.zc
  exact ex_build (szs := fl.map (fun p => (p.2, 1))) (fun w => hrun fl w hsz) hv (by rw [hzc]; exact hf)
end
end Go.Fw
namespace Go.Fw
open Go Go.RowKit
set_option linter.unusedVariables false
section
variable {P : Program} {ops : Array Oper} {S : World → Prop} {Q : Exit → Act → World → Prop} {K : Act → World → Prop} {k : Array Bool → Bool} {m : Nat}
end
theorem Op1.mono {P : Program} {N : Nat} {l : List (Nat × Value)} {o : Oper} {w : World} {R R' : Value → World → Prop} (h : Op1 P N l o w R) (hr : ∀ v w', R v w' → R' v w') : Op1 P N l o w R' :=
  fun a hA K Q hK => h a hA K Q fun v w' h' => hK v w' (hr v w' h')

/-! ## what comes, in whichever order -/
section
variable {P : Program} {N : Nat} {l : List (Nat × Value)} {Ds : List Deferred} {ops : Array Oper} {Q : Exit → Act → World → Prop} {K : Act → World → Prop} {w0 : World} {M : Nat → Prop} {H : List It}
end
section
variable {P : Program} {N : Nat} {l : List (Nat × Value)} {a : Act} {Ds : List Deferred} {w : World} {ops : Array Oper} {S : World → Prop} {Q : Exit → Act → World → Prop} {K : Act → World → Prop} {i : Nat} {π : List (Nat × Nat)}
end
theorem then_mono {K R : Act → World → Prop} {Q : Exit → Act → World → Prop} (k : ∀ a w, R a w → K a w) : ∀ e a w, Exit.then R Q e a w → Exit.then K Q e a w := by
  intro e a w h
  cases e with
  | normal => exact k _ _ h
  | _ => exact h
end Go.Fw
namespace Go.Fw
open Go Go.RowKit
set_option linter.unusedVariables false
section
variable {P : Program} {N : Nat} {l : List (Nat × Value)} {C : World → Prop} {d : Option Tmp} {T : TypeId} {pos : String} {af : Array Edge} {g : Option (Nat × Bool)}
theorem ex_eqlPn {t ty : TypeId} {x y : Operand} {p : Option Addr} [h : TPt P t] (hx : ev l x = some (.pointer p)) (hy : ev l y = some (.pointer none)) : Ex P N l C ⟨d, .binOp .eql t x y ty, T, pos, af, g⟩ (.bool p.isNone) := by
  intro a w hA _
  simp [execOp, hA.ev hx, hA.ev hy, eqGuard_at_pointer, run_eql_pointer_nil w t p h.eq]
theorem ex_neqPn {t ty : TypeId} {x y : Operand} {p : Option Addr} [h : TPt P t] (hx : ev l x = some (.pointer p)) (hy : ev l y = some (.pointer none)) : Ex P N l C ⟨d, .binOp .neq t x y ty, T, pos, af, g⟩ (.bool (!p.isNone)) := by
  intro a w hA _
  simp [execOp, hA.ev hx, hA.ev hy, eqGuard_at_pointer, run_neq_pointer_nil w t p h.eq]
theorem ex_eqlPt {t ty : TypeId} {x y : Operand} [h : TPt P t] (hx : ev l x = some (.pointer none)) (hy : ev l y = some (.pointer none)) : Ex P N l C ⟨d, .binOp .eql t x y ty, T, pos, af, g⟩ (.bool true) := ex_eqlPn (h := h) hx hy
theorem ex_eqlPf {t ty : TypeId} {x y : Operand} {p : Addr} [h : TPt P t] (hx : ev l x = some (.pointer (some p))) (hy : ev l y = some (.pointer none)) : Ex P N l C ⟨d, .binOp .eql t x y ty, T, pos, af, g⟩ (.bool false) := ex_eqlPn (h := h) hx hy
theorem ex_neqPf {t ty : TypeId} {x y : Operand} [h : TPt P t] (hx : ev l x = some (.pointer none)) (hy : ev l y = some (.pointer none)) : Ex P N l C ⟨d, .binOp .neq t x y ty, T, pos, af, g⟩ (.bool false) := ex_neqPn (h := h) hx hy
theorem ex_neqPt {t ty : TypeId} {x y : Operand} {p : Addr} [h : TPt P t] (hx : ev l x = some (.pointer (some p))) (hy : ev l y = some (.pointer none)) : Ex P N l C ⟨d, .binOp .neq t x y ty, T, pos, af, g⟩ (.bool true) := ex_neqPn (h := h) hx hy
end
theorem inB_mono {id : Nat} {Q Q' : Exit → Act → World → Prop} (h : ∀ e a w, Q e a w → Q' e a w) : ∀ e a w, Exit.inBlock id Q e a w → Exit.inBlock id Q' e a w := by
  intro e a w he
  cases e <;> simp only [Exit.inBlock] at he ⊢ <;> first | exact h _ _ _ he | (split at he <;> rename_i hc <;> simp only [hc] <;> exact h _ _ _ he)
/-- in a region ahead of a choice: both ways come to R; then the rest -/
theorem st_join {P : Program} {ops : Array Oper} {ls : List Oper} {a : Act} {w : World} {c2 : Code} {K : Act → World → Prop} {Q : Exit → Act → World → Prop} (R : Act → World → Prop)
    (h : wpList P ops (Exit.then (c2.wp P (Exit.then R Q)) (Exit.then R Q)) ls a w) (k : ∀ a w, R a w → K a w) : wpList P ops (Exit.then (c2.wp P (Exit.then K Q)) (Exit.then K Q)) ls a w := by
  induction ls generalizing a w with
  | nil => exact Code.wp_mono (then_mono k) (show c2.wp P (Exit.then R Q) a w from h)
  | cons o rest ih =>
    unfold wpList at h ⊢
    split
    · rename_i hw
      rw [if_pos hw] at h
      rcases h with h | ⟨h1, h2⟩
      · refine .inl (Oper.wp_mono (K := wpList P ops (Exit.then (c2.wp P (Exit.then R Q)) (Exit.then R Q)) rest) (fun a w h => ih h) ?_)
        unfold Oper.wp at *
        generalize (execOp a.eval o).run P w = r at *
        cases r with
        | ok n w' => cases n <;> simp only [Oper.upon] at h ⊢ <;> exact h
        | halt x w' => cases x <;> simp only [Oper.upon] at h ⊢ <;> exact h
      · exact .inr ⟨h1, by obtain ⟨a', w3, h3⟩ := h2; exact ⟨a', w3, h3⟩⟩
    · rename_i hw
      rw [if_neg hw] at h
      exact ih h
section
variable {w0 w : World} {M : Nat → Prop} {p q r : It}
end
/-- a loop in a block, whatever stands behind -/
theorem wp_lpk {P : Program} {a : Act} {w : World} {id : Nat} {Q0 : Exit → Act → World → Prop} {c : Code} {S : Type} (I : S → Act → World → Prop) (μ : S → Nat) (R : Act → World → Prop) (s : S) (h₀ : I s a w)
    (round : ∀ s a w, I s a w → c.wp P (Exit.then (fun a' w' => ∃ s', I s' a' w' ∧ μ s' < μ s) (Exit.inBlock id (Exit.then R Q0))) a w) (k : ∀ a w, R a w → Q0 .normal a w) : (Code.loop c).wp P (Exit.inBlock id Q0) a w :=
  Code.wp_mono (inB_mono (fun e a w he => by
    cases e with
    | normal => exact k _ _ he
    | _ => exact he)) (wp_lp I μ s h₀ round)
end Go.Fw
namespace Go.Fw
open Go Go.RowKit
set_option linter.unusedVariables false
/-- what is handed on, so that no trial takes it for its own -/
structure Wr (p : Prop) : Prop where
  out : p
/-- what an operation yields that turns nothing, with what is known of the world by hypotheses: found by trial -/
theorem EXT2 {P : Program} {N : Nat} {l : List (Nat × Value)} {C : World → Prop} {o : Oper} {v : Value} (h : Ex P N l C o v := by
  first
  | (apply ex_load; rfl; exact cl_w (by assumption) id)
  | (apply ex_load; rfl; exact cl_rd (by assumption) id (by assumption))
  | (apply ex_load; rfl; apply cl_own; exact MEMT; assumption)
  | (apply ex_load_st; rfl; rotate_left; exact cls_rd (by assumption) id (by assumption); rfl)
  | (apply ex_eqlPf; rfl; rfl)
  | (apply ex_eqlPt; rfl; rfl)
  | (apply ex_neqPt; rfl; rfl)
  | (apply ex_neqPf; rfl; rfl)
  | (apply ex_eqlNil; rfl; rfl)
  | (apply ex_max; rfl; rfl)
  | (apply ex_rem; rfl; rfl; first | decide | omega)
  | (apply ex_quo; rfl; rfl; first | decide | omega)) : Ex P N l C o v := h
/-- what stays -/
theorem STT {p : Prop} (h : p := by first | exact hH.drop_ | exact hH.pick MEMT | exact hH) : p := h
/-- a way that can't be -/
theorem FA {G : Prop} (h : G := by
  first
  | (exfalso; have h1 := of_decide_eq_true hg; omega)
  | (exfalso; have h1 := of_decide_eq_false hg; omega)
  | exact absurd hg (by decide)) : G := h
/-- a quiet operation -/
theorem QT {G G' : Prop} (k : G') (h : Wr G' → G := by
  intro k
  first
  | (apply st_ex hA hH rfl rfl (by decide); (first | exact EXT | exact EXT2); exact k.out)
  | (apply st_skip hA rfl rfl (by decide); exact k.out)
  | ((first | apply dr_ex hA rfl rfl rfl (by decide) | apply dr_exp hA rfl rfl rfl (by decide) | apply dr_ex3 hA hH rfl rfl rfl (by decide)); (first | exact EXT | exact EXT2); exact k.out)
  | ((first | apply dr_skip hA rfl rfl rfl (by decide) | apply dr_skip3 hA rfl rfl rfl (by decide)); exact k.out)) : G := h ⟨k⟩
/-- a guard's bool -/
theorem GT {G G1 G2 : Prop} (k1 : G1) (k2 : G2) (h : Wr G1 → Wr G2 → G := by
  intro k1 k2
  first
  | (apply st_exb hA hH rfl rfl (by decide) rfl (ex_move rfl); exact k1.out; exact k2.out)
  | (apply dr_exb hA rfl rfl rfl (by decide) rfl (ex_move rfl); exact k1.out; exact k2.out)) : G := h ⟨k1⟩ ⟨k2⟩
/-- one more step in the code -/
theorem CT {G G' : Prop} (k : G') (h : Wr G' → G := by
  intro k
  first
  | (apply wp_seq; exact k.out)
  | (apply wp_region_lit; exact k.out)
  | (apply st_nil; exact k.out)
  | (apply then_normal; exact k.out)
  | (apply wp_block; exact k.out)
  | (apply st_cond_t hA rfl; exact k.out)
  | (apply st_cond_f hA rfl; exact k.out)
  | (apply wp_ret; exact k.out)
  | (apply wp_skip; exact k.out)
  | (apply wp_exit; exact k.out)
  | (apply then_ret; exact k.out)
  | (apply then_exit; exact k.out)
  | (apply inB_normal; exact k.out)
  | (apply inB_ret; exact k.out)
  | (apply inB_eq; exact k.out)
  | (apply inB_ne rfl; exact k.out)
  | (apply dr_nil; exact k.out)
  | (apply dr_late; exact k.out)
  | (apply dr_nil2; exact k.out)
  | (apply wp_scope_straight; exact k.out)
  | (apply wp_label; exact k.out)
  | (apply ng_normal; exact k.out)
  | (apply ng_ret; exact k.out)) : G := h ⟨k⟩
/-- a choice -/
theorem DT {G G1 G2 : Prop} (k1 : G1) (k2 : G2) (h : Wr G1 → Wr G2 → G := by
  intro k1 k2
  first
  | (apply st_cond_d hA rfl; exact k1.out; exact k2.out)
  | (apply st_cond_nd hA rfl; exact k1.out; exact k2.out)
  | (apply st_cond hA rfl; exact k1.out; exact k2.out)) : G := h ⟨k1⟩ ⟨k2⟩
/-- a new block -/
theorem BT {G G' : Prop} (k : G') (h : Wr G' → G := by
  intro k
  apply st_op hA rfl rfl (by decide)
  (first | apply op_alloc | (apply op_box_agg; rfl) | (apply op_box1; rfl; rfl))
  exact hH
  exact k.out) : G := h ⟨k⟩
/-- a slice's literal -/
theorem LT {G G' : Prop} (k : G') (h : Wr G' → G := by
  intro k
  apply st_op hA rfl rfl (by decide)
  apply op_sliceLit
  rfl
  rfl
  exact CATST
  rfl
  rfl
  rfl
  exact hH
  exact k.out) : G := h ⟨k⟩
/-- append -/
theorem AT {G G' : Prop} (k : G') (h : Wr G' → G := by
  intro k
  apply st_op hA rfl rfl (by decide)
  apply op_append
  rfl
  rfl
  exact hH
  exact MEMT
  exact hH.own_rd (List.Mem.head _)
  rfl
  rfl
  decide
  rfl
  (unfold maxLen; omega)
  omega
  exact k.out) : G := h ⟨k⟩
/-- stores -/
theorem S0T {G G' : Prop} (k : G') (h : Wr G' → G := by
  intro k
  apply st_op0 hA rfl rfl
  (first | (apply op_store1; rfl; rfl; rfl; exact hH; (repeat constructor)) | (apply op_store_agg; rfl; rfl; exact hH; (repeat constructor); rfl; rfl; rfl))
  exact k.out) : G := h ⟨k⟩
/-- the same in a region that draws -/
theorem DSK {G G' : Prop} (k : G') (h : Wr G' → G := by
  intro k
  apply dr_opskip hA rfl rfl rfl (by decide) STT
  exact k.out) : G := h ⟨k⟩
theorem DLT {G G' : Prop} (k : G') (h : Wr G' → G := by
  intro k
  apply dr_op hA rfl rfl rfl (by decide)
  apply op_sliceLit
  rfl
  rfl
  exact CATST
  rfl
  rfl
  rfl
  exact hH
  exact k.out) : G := h ⟨k⟩
theorem DAT {G G' : Prop} (k : G') (h : Wr G' → G := by
  intro k
  apply dr_op hA rfl rfl rfl (by decide)
  apply op_append
  rfl
  rfl
  exact hH
  exact MEMT
  exact hH.own_rd (List.Mem.head _)
  rfl
  rfl
  decide
  rfl
  (unfold maxLen; omega)
  omega
  exact k.out) : G := h ⟨k⟩
end Go.Fw
namespace Go.Fw
open Go Go.RowKit
set_option linter.unusedVariables false
/-- a plan: one that may come first whatever else may come; the only one that may come; one of two -/
inductive Pl where
  | nil
  | q (i : Nat) (t : Pl)
  | one (i : Nat) (t : Pl)
  | two (i j : Nat) (t u : Pl)
def Pl.len : Pl → Nat
  | .nil => 0
  | .q _ t => t.len + 1
  | .one _ t => t.len + 1
  | .two _ _ t _ => t.len + 1
section
variable {P : Program} {ops : Array Oper} {S : World → Prop} {Q : Exit → Act → World → Prop} {K : Act → World → Prop}
end
section
variable {P : Program} {N : Nat} {l : List (Nat × Value)} {a : Act} {Ds : List Deferred} {w : World} {ops : Array Oper} {S : World → Prop} {Q : Exit → Act → World → Prop} {K : Act → World → Prop} {i j : Nat} {t u : Pl}
end
end Go.Fw
namespace Go.Fw
open Go Go.RowKit
set_option linter.unusedVariables false
def bts (s : ByteArray) : List Nat := s.data.toList.map (·.toNat)
theorem bts_len (s : ByteArray) : (bts s).length = s.size := by simp [bts]
section
variable {P : Program} {N : Nat} {l : List (Nat × Value)} {C : World → Prop} {d : Option Tmp} {T : TypeId} {pos : String} {af : Array Edge} {g : Option (Nat × Bool)}
theorem ex_len_string {t : TypeId} {x : Operand} {s : ByteArray} [ht : TSr P t] (hx : ev l x = some (.string s)) :
    Ex P N l C ⟨d, .call ⟨.builtin .len, #[x], #[t]⟩, T, pos, af, g⟩ (.int .i64 (bts s).length) := by
  intro a w hA _
  rw [bts_len]
  simp [execOp, resolve, invoke, builtin, Builtin.len_, hA.ev hx, run_underlying ht.eq, goInt]
theorem ex_eqlS {t ty : TypeId} {x y : Operand} {m n : ByteArray} [h : TSr P t] (hx : ev l x = some (.string m)) (hy : ev l y = some (.string n)) : Ex P N l C ⟨d, .binOp .eql t x y ty, T, pos, af, g⟩ (.bool (m.toList == n.toList)) := by
  intro a w hA _
  simp [execOp, hA.ev hx, hA.ev hy, eqGuard_at_string, binOp, Op.stringOp]
end
end Go.Fw
namespace Go.Fw
open Go Go.RowKit
set_option linter.unusedVariables false
def lateN (n : Nat) (ops : Array Oper) (π2 : List Nat) (listed : Array Bool) (i : Nat) : Bool :=
  π2.all fun j => beh ops listed i n j
def okM (n : Nat) (ops : Array Oper) (π2 : List Nat) : List (Nat × Nat) → Array Bool → Bool
  | [], listed => okL ops π2 listed
  | (i, 0) :: π, listed => decide (Region.ready .any ops listed = [i]) && okM n ops π2 π (listed.setIfInBounds i true)
  | (i, 1) :: π, listed => (Region.ready .any ops listed).contains i && Region.free .any ops listed i && lateN n ops π2 listed i && okM n ops π2 π (listed.setIfInBounds i true)
  | (i, _ + 2) :: π, listed => (Region.ready .any ops listed).contains i && Region.free .any ops listed i && okM n ops π2 π (listed.setIfInBounds i true)
theorem lateN_spec {n : Nat} {ops : Array Oper} {π2 : List Nat} {listed : Array Bool} {i : Nat} (h : lateN n ops π2 listed i = true) : ∀ j, (!π2.contains j) = false → Rch .any ops listed i j := by
  intro j hc
  have hm : j ∈ π2 := by simpa using hc
  exact beh_spec n j (List.all_eq_true.1 h j hm)
theorem wpAny_wkM {n : Nat} {P : Program} {ops : Array Oper} {S : World → Prop} {Q : Exit → Act → World → Prop} (hs : Region.noSelect ops = true) (π2 : List Nat) : ∀ (π : List (Nat × Nat)) (listed : Array Bool) (a : Act) (w : World),
    okM n ops π2 π listed = true → S w → wkD P ops S Q π2 π a w → wpAnyK P .any ops (NoPanic Q) S (fun j => !π2.contains j) (π.length + π2.length) listed a w
  | [], listed, a, w, hok, hS, h => by
    have := wk2_any (S := S) (F := fun j => !π2.contains j) π2 listed a w (fun i hi => by simpa using hi) hok h
    simpa using this
  | (i, 1) :: π, listed, a, w, hok, hS, h => by
    simp only [okM, Bool.and_eq_true] at hok
    obtain ⟨⟨⟨hr, hf⟩, hl⟩, hok'⟩ := hok
    obtain ⟨o, v, hi, hy, hk⟩ := h
    have := wpAny_wkM hs π2 π _ _ w hok' hS hk
    have e : ((i, 1) :: π).length + π2.length = (π.length + π2.length) + 1 := by simp; omega
    rw [e]
    exact wpAnyK.first hi (Region.noSelect_spec hs) (fun c a w h => h) _ listed a w (lateN_spec hl) (Region.free_spec hi hf) (by simpa using hr) hy hS this
  | (i, k + 2) :: π, listed, a, w, hok, hS, h => by
    simp only [okM, Bool.and_eq_true] at hok
    obtain ⟨⟨hr, hf⟩, hok'⟩ := hok
    obtain ⟨o, v, hi, hy, hk⟩ := h
    have := wpAny_wkM hs π2 π _ _ w hok' hS hk
    have e : ((i, k + 2) :: π).length + π2.length = (π.length + π2.length) + 1 := by simp; omega
    rw [e]
    exact wpAnyK.firstp hi (Region.noSelect_spec hs) (fun c a w h => h) _ listed a w (Region.free_spec hi hf) (by simpa using hr) hy this
  | (i, 0) :: π, listed, a, w, hok, hS, h => by
    simp only [okM, Bool.and_eq_true, decide_eq_true_eq] at hok
    have e : ((i, 0) :: π).length + π2.length = (π.length + π2.length) + 1 := by simp; omega
    rw [e]
    refine ⟨fun h0 => (by rw [hok.1] at h0; cases h0), fun j hj => ?_⟩
    rw [hok.1] at hj
    obtain rfl : j = i := by simpa using hj
    exact wpOp_mono (fun a' w' ⟨hS', h'⟩ => ⟨fun _ _ => hS', wpAny_wkM hs π2 π _ a' w' hok.2 hS' h'⟩) h
/-- some come last -/
theorem wp_draw3_HS (n : Nat) {P : Program} {id : Nat} {ops : List Oper} {Q : Exit → Act → World → Prop} {a : Act} {w0 w : World} {M : Nat → Prop} {H : List It} (π : List (Nat × Nat)) (π2 : List Nat) (hm : P.follows .mixedOrders = true)
    (hok : (Region.noSelect ops.toArray && Nat.beq (π.length + π2.length) ops.length && okM n ops.toArray π2 π (Array.replicate ops.length false)) = true) (hH : HS w0 M H w) (h : wkD P ops.toArray (HS w0 M H) Q π2 π a w.drew) : (Code.region id ops.toArray true).wp P Q a w := by
  simp only [Bool.and_eq_true] at hok
  obtain ⟨⟨hs, hl⟩, hok⟩ := hok
  have hl' : π.length + π2.length = ops.toArray.size := by simpa using Nat.eq_of_beq_eq_true hl
  have := wpAny_wkM hs π2 π (Array.replicate ops.length false) a w.drew hok hH.drew h
  rw [hl'] at this
  refine wp_region_noPanic (wp_region_any hm (wpAnyK.any (S := HS w0 M H) (F := fun j => !π2.contains j) _ _ _ _ ?_))
  simpa using this
/-- a struct that is handed back out of its cell, and one value more -/
theorem rt2c {P : Program} {N : Nat} {l : List (Nat × Value)} {a : Act} {w : World} {C : World → Prop} {fn : Func} {R : Value → World → Prop} {p u : Tmp} {ty sz by_ : Nat} {z : Value} {zs : List Value} {fl : List (Nat × Nat)} {q : Addr} {vs : List Value} {v2 : Value} {e : Exit} [h0 : TSt P ty fl] [hi : TIf P ty z zs sz by_] (he : e = .ret ∨ e = .normal) (hr : fn.results = #[.cell p ty, .tmp u]) (hA : Sl N l a)
    (hp : lk l p = some (.pointer (some q))) (hv2 : lk l u = some v2) (hl : vs.length = sz) (hC : C w) (hc : Cls C q vs) (h : R (.tuple #[.agg vs.toArray, v2]) w) : bodyPost P fn (fun e w' => ∃ v, e = .returned v ∧ R v w') e a w := by
  have hg : a.tmps.getD p undef = .pointer (some q) := by simp [Array.getD_eq_getD_getElem?, hA.get p _ hp]
  have hg2 : a.tmps.getD u undef = v2 := by simp [Array.getD_eq_getD_getElem?, hA.get u v2 hv2]
  obtain ⟨ti, h3, h4, h5, h6⟩ := hi.eq
  have hrun : (results fn a.tmps).run P w = .ok (.tuple #[.agg vs.toArray, v2]) w := by
    rw [results_cell_tmp hr, hg, hg2]
    simp [asAddr, loadVar, run_isAgg_st, sizeOf, typeInfo, h3, h5, ← hl, run_loadCells_list w q vs (hc w hC), Result.andThen]
  rcases he with rfl | rfl
  · exact bodyPost_ret hrun hA.defers ⟨_, rfl, h⟩
  · exact bodyPost_end hrun hA.defers ⟨_, rfl, h⟩
end Go.Fw
namespace Go.Fw
open Go Go.RowKit
set_option linter.unusedVariables false
/-- blocks of which so much is known, whatever stands elsewhere -/
def fzI (K : World → Prop) : It where
  sat w F := (∀ b, F b → b < w.heap.size) ∧ ∀ w' : World, (∀ b, F b → w'.heap[b]? = w.heap[b]?) → K w'
  loc := fun {w w' F} ⟨h1, h2⟩ he => ⟨fun b hb => by
    have h3 := he b hb
    rw [Array.getElem?_eq_getElem (h1 b hb)] at h3
    exact lt_of_heap h3, fun w2 h3 => h2 w2 fun b hb => (h3 b hb).trans (he b hb)⟩
  lt := fun ⟨h1, _⟩ b hb => h1 b hb
  ext := fun ⟨h1, h2⟩ he => ⟨fun b hb => h1 b ((he b).2 hb), fun w' h3 => h2 w' fun b hb => h3 b ((he b).1 hb)⟩
section
variable {w0 w w' : World} {M : Nat → Prop} {H L : List It} {K K1 K2 : World → Prop}
theorem fz_sat {F : Nat → Prop} (h : (fzI K).sat w F) : K w := h.2 w fun _ _ => rfl
theorem HS.fz (h : HS w0 M H w) (hm : fzI K ∈ H) : K w :=
  let ⟨_, hF⟩ := h.sat hm
  fz_sat hF
end
end Go.Fw
namespace Go.Fw
open Go Go.ChangeShapes Go.WideShapes Go.ChangeAt Go.RowKit
set_option linter.unusedVariables false
section
variable {H : Type} {enc : TypeId × Value → H}
theorem law_lifted_upto {C : Checked} {os : Os} {f : FuncId} {fn : Func} {s : ChangeSpec} {k : (H : Type) → List (DataW H) → Bool} {F : Stop.Interp} {conds : List PathCond} {tb : TypeId}
    (own : ownKnob C.prog.godebug = none) (started : os.Started) (noInit : C.prog.inits.idxOf? f = none) (hfn : C.prog.funcs[f]? = some fn)
    (witness : ∃ (w : World) (tape : Tape) (i : Input), w.os = os ∧ (w.forCall tape i).Shaped C.prog ∧ i.vars = [] ∧ Input.okWide C.prog (w.forCall tape i) .any w.heap.size f i ∧
      ({ OpenSpec.ofChange s with cond := some k } : OpenSpec).pre6 enc C.prog fn conds false (w.forCall tape i).memory i.args ∧ ({} : Assume).holds C.prog (lone (Frame.enter C.prog f i.args .normal) [] (w.forCall tape i)))
    (hl : laidOutB C.prog = true) (hrd : fn.params.toList.all (fun t => C.prog.readableRec t && decide (t < C.prog.types.size)) = true) (hv : s.vars = [])
    (hs : ∀ ds : List (DataW H), ds.length = fn.params.size → (s.fn H (ds ++ [])).results = [.lit (.bool true)] ∧ (s.fn H (ds ++ [])).args = ds ∧ (s.fn H (ds ++ [])).vars = [])
    (hrt : fn.resultTypes = #[tb]) (hb : C.prog.underlying tb = some .bool)
    (walk : ∀ (W : World) (base : Nat) (args : Array Value) (ds : List (DataW H)) (p : List MemPlace),
      (∀ (j : Nat) t v, fn.params[j]? = some t → args[j]? = some v → Value.okWide C.prog W .any base t v) →
      DataW.TrodAll enc C.prog W 0 (fun _ => true) true fn.params.toList args.toList ds p → (∃ gs, k H (ds ++ gs) = true) → Ret C.prog f args W (LawR W)) :
    ReturnsInHanded {} C os f .any (({ OpenSpec.ofChange s with cond := some k } : OpenSpec).pre6 enc C.prog fn conds false) ((({ OpenSpec.ofChange s with cond := some k } : OpenSpec).at F).post enc C.prog fn false true false false) := by
  refine returnsInHanded_of_cond (s := { OpenSpec.ofChange s with cond := some k }) (k := k) rfl own started noInit hfn witness ?_
  intro W base args ds gs before hval hW _ hk _
  have hA := hW
  obtain ⟨p, q, hA, _⟩ := hA
  refine Calls.mono (walk W base args ds p hval hA ⟨gs, hk⟩) ?_
  rintro e W' ⟨v, rfl, rfl, hk⟩
  exact ⟨_, rfl, law_post hl hrd hv hs hrt hb hW hk⟩
end
end Go.Fw
namespace Go.Proofs.Ytjfanjcoppeeaaa
open Go Go.Fw
set_option linter.unusedVariables false
def srt (l : List Int) : List Int := l.mergeSort fun x y => decide (x ≤ y)
theorem flatI_map : ∀ (l : List Int), flat Fw.encI l = l.map (Value.int .i64)
  | [] => rfl
  | x :: l => by
    show Fw.encI x ++ flat Fw.encI l = _
    rw [flatI_map l]
    rfl
theorem putCells_row (l ys : List Int) (spare : List Value) (h : ys.length = l.length) : Go.Sort.putCells (Value.int .i64) 0 ys.toArray (flat Fw.encI l ++ spare).toArray = (flat Fw.encI ys ++ spare).toArray := by
  apply Array.ext_getElem?
  intro k
  unfold Go.Sort.putCells
  rw [Array.getElem?_mapIdx]
  simp only [flatI_map, List.getElem?_toArray, List.size_toArray, List.getElem?_append, List.length_map]
  by_cases hk : k < ys.length
  · have hk2 : k < l.length := by omega
    simp [hk, hk2]
  · have hk2 : ¬ k < l.length := by omega
    simp [hk, hk2, h]
theorem sort_spec (w0 w : World) (M : Nat → Prop) (H : List It) (o : Option Addr) (c : Nat) (l : List Int) (hH : HS w0 M H w) (hm : own 3 1 o l.length c (flat Fw.encI l) ∈ H) (hsz : l.length < 4611686018427387904) :
    Ret Try.prog 19 #[.slice o l.length c] w (fun v w' => v = .tuple #[] ∧ ∀ H', Rp H (own 3 1 o l.length c (flat Fw.encI l)) (own 3 1 o l.length c (flat Fw.encI (srt l))) H' → HS w0 M H' w') := by
  obtain ⟨F, hF⟩ := hH.sat hm
  rcases hF with ⟨rfl, h0, rfl, hx, _⟩ | ⟨b, spare, rfl, g2, g3, g4, g5, g6, g7⟩
  · obtain rfl : l = [] := List.length_eq_zero_iff.1 h0
    refine Calls.mono (Try.slices_Sort_int_none none 0 w) ?_
    rintro e w' ⟨rfl, rfl⟩
    refine ⟨_, rfl, rfl, fun H' hr => hH.conv hr fun F hF => ?_⟩
    have : srt [] = [] := by simp [srt]
    rw [this]
    exact hF
  · have hlen : (srt l).length = l.length := List.length_mergeSort l
    have hHold : Go.Sort.Holds (Value.int .i64) w b 0 l.toArray := by
      intro j hj
      have hj : j < l.length := by simpa using hj
      rw [flatI_map] at g7
      constructor
      · simp only [World.cell?, g7]
        simp [hj, List.getElem?_append]
      · simp [World.frozen?, g7]
    refine Calls.mono (Try.slices_Sort_int b 0 c l w hHold (lt_of_heap g7) hsz) ?_
    rintro e w' ⟨rfl, n, os, rfl⟩
    refine ⟨_, rfl, rfl, fun H' hr => hH.turn hr fun F' hF' => ?_⟩
    rcases hF' with ⟨h0, _⟩ | ⟨b', spare', hb', q2, q3, q4, q5, q6, q7⟩
    · cases h0
    · obtain rfl : b = b' := by simpa using hb'
      have hbs := lt_of_heap q7
      refine ⟨⟨rfl, rfl, rfl, ?_, fun i hi hn => ?_⟩, F', .inr ⟨b, spare', rfl, q2, ?_, q4, q5, ?_, ?_⟩, fun b hb => .inr hb⟩
      · simp [Go.Sort.grow, Go.Sort.putRow, Go.Sort.mapBlock, Go.Sort.ahead]
      · have hib : b ≠ i := fun h => hn (h ▸ (q2 b).2 rfl)
        simp [Go.Sort.grow, Go.Sort.putRow, Go.Sort.mapBlock, Go.Sort.ahead, Array.getElem?_append, hi]
        rw [Array.getElem_modify, if_neg hib]
      · rw [flat_length Fw.encI_len, hlen, Nat.mul_one]
      · rw [flat_length Fw.encI_len, hlen]
        rw [flat_length Fw.encI_len] at q6
        exact q6
      · have e := putCells_row l (srt l) spare' hlen
        have q8 : w.heap[b]? = some (.cells (flat Fw.encI l ++ spare').toArray 3 (0, 0)) := q7
        show (Array.modify _ _ _ ++ os)[b]? = _
        rw [Array.getElem?_append, if_pos (by simpa [Go.Sort.ahead] using hbs), Array.getElem?_modify, if_pos rfl]
        show Option.map _ w.heap[b]? = _
        rw [q8]
        show some (Go.Sort.onCells _ _) = _
        unfold Go.Sort.onCells
        dsimp only
        exact congrArg (fun x => some (Obj.cells x 3 (0, 0))) e
end Go.Proofs.Ytjfanjcoppeeaaa
namespace Go.Fw
open Go Go.RowKit
set_option linter.unusedVariables false
/-- ended normally, in such a state -/
def Nml (K : Act → World → Prop) : Exit → Act → World → Prop
  | .normal, a, w => K a w
  | _, _, _ => False
theorem Nml.noOut {K : Act → World → Prop} : ¬ LetsOut (Nml K) := fun ⟨_, _, h⟩ => h
def noDefer (ops : Array Oper) : Bool := ops.toList.all fun o => match o.op with
  | .defer _ => false
  | _ => true
theorem noDefer_at {ops : Array Oper} (h : noDefer ops = true) {i : Nat} {o : Oper} (hi : ops[i]? = some o) (c : Call) : o.op ≠ .defer c := fun e => by
  have h1 := List.all_eq_true.1 h o (by
    have := List.mem_of_getElem? (l := ops.toList) (i := i) (a := o) (by simpa using hi)
    exact this)
  rw [e] at h1
  cases h1
section
variable {P : Program} {a : Act} {w : World} {Q Q' : Exit → Act → World → Prop} {K K' : Act → World → Prop} {l n : Nat}
theorem op_lift {o : Oper} (hd : ∀ c, o.op ≠ .defer c) (h : o.wp P a w K Q) (hK : ∀ a w, K a w → K' a w) (hQ : ∀ e a w, Q e a w → Q' e a w) : o.wpIn (Fence.wide.inRound l) n P a w K' Q' := by
  refine ⟨fun _ _ => trivial, ?_⟩
  rw [show (Fence.wide.inRound l).round = some l from rfl, Oper.semAt_some l _ _ hd]
  unfold Oper.wp at h
  generalize (execOp a.eval o).run P w = r at h ⊢
  cases r with
  | ok v w' =>
    cases v with
    | value v => exact hK _ _ h
    | skip => exact hK _ _ h
    | defer d => exact hK _ _ h
    | enter f args =>
      refine ⟨(fun h => by cases h), CallsIn.inRound l (callsIn_wide.2 (Calls.mono h fun e w' he => ?_))⟩
      cases e with
      | returned v => exact hK _ _ he
      | panicked ch => exact hQ _ _ _ he
      | outgrown => exact he.imp fun a => Exists.imp fun w => hQ _ _ _
    | row row args =>
      refine ⟨(fun h => by cases h), fun c cs _ => ?_⟩
      obtain ⟨v, w', hv, hs⟩ := h c cs
      exact ⟨v, w', hK _ _ hv, stepsIn_wide.2 hs⟩
    | _ => exact (h : False).elim
  | halt s w' =>
    cases s with
    | panic v => exact hQ _ _ _ h
    | _ => exact (h : False).elim
theorem ops_lift {ops : Array Oper} (hd : noDefer ops = true) (hO : ¬ LetsOut Q) (hQ : ∀ e a w, Q e a w → Q' e a w) : ∀ (order : List Nat) (a : Act) (w : World), wpOps P ops Q order a w → wpOpsIn (Fence.wide.inRound l) n P ops Q' order a w
  | [], a, w, h => hQ _ _ _ h
  | i :: rest, a, w, h => by
    unfold wpOps at h
    unfold wpOpsIn
    cases hi : ops[i]? with
    | none => rw [hi] at h; exact ops_lift hd hO hQ rest a w h
    | some o =>
      rw [hi] at h
      dsimp only at h ⊢
      split
      · rename_i hw
        rw [if_pos hw] at h
        rcases h with h | ⟨_, h⟩
        · exact op_lift (noDefer_at hd hi) h (fun a w h => ops_lift hd hO hQ rest a w h) hQ
        · exact absurd h hO
      · rename_i hw
        rw [if_neg hw] at h
        exact ⟨fun _ _ => trivial, ops_lift hd hO hQ rest _ w h⟩
theorem rd_region {id : Nat} {ops : Array Oper} (hd : noDefer ops = true) (h : wpList P ops (Nml fun a w => Q .normal a w) ops.toList a w) : (Code.region id ops false).wpIn (Fence.wide.inRound l) n P Q a w := by
  refine wpIn_region (ops_lift hd Nml.noOut (fun e a w he => ?_) _ _ _ (by rw [List.range_eq_range', ← Array.length_toList, wpOps_eq_wpList ops.toList 0 (by simp)]; exact h))
  cases e <;> first | exact he | exact (he : False).elim
theorem rd_draw {id : Nat} {ops : List Oper} {w0 : World} {M : Nat → Prop} {H : List It} (π : List (Nat × Nat)) (hm : P.follows .mixedOrders = true) (hd : noDefer ops.toArray = true)
    (hok : (Region.noSelect ops.toArray && Nat.beq (π.length + ([] : List Nat).length) ops.length && okD ops.toArray [] π (Array.replicate ops.length false)) = true) (hH : HS w0 M H w)
    (h : wkD P ops.toArray (HS w0 M H) (Nml fun a w => Q .normal a w) [] π a w.drew) : (Code.region id ops.toArray true).wpIn (Fence.wide.inRound l) n P Q a w := by
  simp only [Bool.and_eq_true] at hok
  obtain ⟨⟨hs, hl⟩, hok⟩ := hok
  have hl' : π.length + ([] : List Nat).length = ops.toArray.size := by simpa using Nat.eq_of_beq_eq_true hl
  have := wpAny_wkD hs [] π (Array.replicate ops.length false) a w.drew hok hH.drew h
  rw [hl'] at this
  have h2 := wpAnyK.any (S := HS w0 M H) (F := fun j => !([] : List Nat).contains j) _ _ _ _ this
  refine wpIn_region_draw fun t => ?_
  simp only [Region.schedule, hm, Bool.true_or, if_true]
  refine ops_lift hd (Q := NoPanic (Nml fun a w => Q .normal a w)) (fun ⟨_, _, h⟩ => h) (fun e a w he => ?_) _ _ _ (wpAny_sound ops.toArray.size t _ a _ (by simpa using h2))
  cases e <;> first | exact he | exact (he : False).elim
end

/-! ## a function with a range over a function -/
def dmk (D : Nat) : Deferred := { target := .collected D, args := #[] }
def dfi (D : Nat) : It := blk D (.deferred (some []))
theorem HS.put {w0 w : World} {M : Nat → Prop} {H : List It} {b : Nat} {o o' : Obj} (h : HS w0 M (blk b o :: H) w) : HS w0 M (blk b o' :: H) (w.putObj b o') := by
  refine h.turn .here fun F ⟨h1, h2⟩ => ⟨⟨rfl, rfl, rfl, by simp [World.putObj], fun i hi hn => ?_⟩, F, ⟨h1, World.putObj_heap_same (lt_of_heap h2)⟩, fun b hb => .inr hb⟩
  exact World.putObj_heap_other fun e => hn (e ▸ (h1 b).2 rfl)
theorem HS.blk_at {w0 w : World} {M : Nat → Prop} {H : List It} {b : Nat} {o : Obj} (h : HS w0 M H w) (hm : blk b o ∈ H) : w.heap[b]? = some o := by
  obtain ⟨F, _, h2⟩ := h.sat hm
  exact h2
section
variable {P : Program} {N : Nat} {w : World}
theorem enterM {k : FuncId} {fn : Func} {c : Code} {args : List Value} {R : Value → World → Prop} (hf : P.funcs[k]? = some fn) (hb : fn.body = some c) (hn : fn.ntmps = N) (hle0 : Nat.ble args.length N = true)
    (h : ∀ a, Sl N (sl0 0 args) a → c.wp P (bodyPostM Fence.wide 4 P fn fun e w' => ∃ v, e = .returned v ∧ R v w') a w) : Ret P k args.toArray w R := by
  have hle := Nat.le_of_ble_eq_true hle0
  refine callsIn_wide.1 (callsIn_of_wp_marks (F := Fence.wide) (n := 4) hf hb trivial (wpIn_wide.2 (h _ ⟨⟨?_, fun i v hi => ?_⟩, rfl⟩)))
  · simp [hn]; omega
  · obtain ⟨_, h2⟩ := lk_sl0 args 0 i v hi
    have hlt : i < args.length := (List.getElem?_eq_some_iff.1 h2).1
    rw [Array.getElem?_append_left (by simpa using hlt)]
    simpa using h2
theorem leave_marks {n : Nat} {fn : Func} {tmps : Array Value} {R : Ending → World → Prop} {w0 : World} {M : Nat → Prop} {H : List It} : ∀ (L : List Nat) (w : World), HS w0 M (L.map dfi ++ H) w →
    (∀ w', HS w0 M H w' → ∃ v, (results fn tmps).run P w' = .ok v w' ∧ R (.returned v) w') → LeavesInM Fence.wide n P fn tmps R (L.map dmk) .returning w
  | [], w, hH, h => h w hH
  | D :: L, w, hH, h => by
    have hD := hH.blk_at (.head _)
    exact ⟨(fun h => by cases h), .inl ⟨D, w.putObj D (.deferred none), rfl, run_takeDeferred hD, leave_marks L _ (HS.put (o' := .deferred none) hH).tail h⟩⟩
theorem rt1M {fn : Func} {R : Value → World → Prop} {l : List (Nat × Value)} {a : Act} {t : Tmp} {v : Value} {e : Exit} {L : List Nat} {w0 : World} {M : Nat → Prop} {H : List It} (he : e = .ret ∨ e = .normal) (hr : fn.results = #[.tmp t]) (hA : Sl N l a (L.map dmk)) (hv : lk l t = some v)
    (hH : HS w0 M (all (L.map dfi) :: H) w) (h : ∀ w, HS w0 M H w → R v w) :
    bodyPostM Fence.wide 4 P fn (fun e w' => ∃ v, e = .returned v ∧ R v w') e a w := by
  have hg : a.tmps.getD t undef = v := by simp [Array.getD_eq_getD_getElem?, hA.get t v hv]
  have key : LeavesInM Fence.wide 4 P fn a.tmps (fun e w' => ∃ v, e = .returned v ∧ R v w') a.defers .returning w := by
    rw [hA.defers]
    exact leave_marks L w hH.open_ fun w' h' => ⟨v, by rw [results_tmp hr, hg], v, rfl, h w' h'⟩
  rcases he with rfl | rfl
  · exact key
  · exact key
/-- the rounds go down from n -/
theorem wp_range {g : Operand} {ps : Array Tmp} {assign body : Code} {Q : Exit → Act → World → Prop} {a : Act} {l0 : List (Nat × Value)} {Ds : List Deferred} {w0 : World} {gf : Nat} {lb : Array Value} [hfn : FnB P gf] (its : Nat → List It) (encs : Nat → Array Value) (n : Nat)
    (hA : Sl N l0 a Ds) (hg : ev l0 g = some (.func (.func gf) #[] lb)) (hps : ∀ i, (encs i).size = ps.size) (hH : HS w0 noM (its n) w)
    (hiter : ∀ (l : Nat) (X Y : It) (W : World), (∀ i W1, i < n → HS w0 noM (X :: Y :: its (i + 1)) W1 → YieldAt Fence.wide 2 P l (encs i) W1 (fun e W' => e = .returned (.bool true) ∧ HS w0 noM (X :: Y :: its i) W')) →
      HS w0 noM (X :: Y :: its n) W → CallsIn Fence.wide 3 P gf (#[.func (.yield l) #[] #[]] ++ lb) W (fun e W' => (∃ v, e = .returned v) ∧ HS w0 noM (X :: Y :: its 0) W'))
    (hbody : ∀ (l : Nat) (X Y : It) (i : Nat) (W : World), i < n → HS w0 noM (X :: Y :: its (i + 1)) W →
      assign.wpIn (Fence.wide.inRound l) 2 P (Nml fun a1 W1 => ∃ H1, HS w0 noM (X :: H1) W1 ∧ ∀ X' W2, HS w0 noM (X' :: H1) W2 → body.wpIn (Fence.wide.inRound l) 2 P (Nml fun _ W3 => HS w0 noM (X' :: Y :: its i) W3) a1 W2)
        { tmps := (ps.zip (encs i)).foldl (fun t (p, v) => t.setIfInBounds p v) a.tmps, defers := [] } W)
    (hdone : ∀ (D : Nat) (a' : Act) (W : World), Sl N l0 a' (dmk D :: Ds) → HS w0 noM (dfi D :: its 0) W → Q .normal a' W) :
    (Code.rangeFunc g ps assign body).wp P Q a w := by
  refine (wpIn_wide (n := 4)).1 (wpIn_rangeFunc ?_)
  intro fn hfn'
  obtain ⟨rec, hrec⟩ : ∃ rec : LoopState → Loop, rec = fun st => { state := st, pending := none, fn, tmps := a.tmps, params := ps, assign, body, defers := w.heap.size } := ⟨_, rfl⟩
  have h1 : HS w0 noM (blk (w.heap.size + 1) (.loop (rec .ready)) :: dfi w.heap.size :: its n) ((w.alloc (.deferred (some []))).alloc (.loop (rec .ready))) := by
    have := (hH.come_blk (.deferred (some []))).come_blk (.loop (rec .ready))
    rwa [World.size_alloc] at this
  obtain ⟨W1, hW1⟩ : ∃ W1, (w.alloc (.deferred (some []))).alloc (.loop (rec .ready)) = W1 := ⟨_, rfl⟩
  rw [hW1] at h1
  have eg : ∀ args w, (callFunc gf args).run P w = .ok (.enter gf args) w := by
    obtain ⟨fn, e1, e2, e3⟩ := hfn.eq
    intro args w
    have e2' : fn.body.isNone = false := by cases hb : fn.body <;> simp_all
    simp only [callFunc, Sem.run_bind, run_program, Result.andThen_ok, e1, e3, e2', Bool.false_eq_true, if_false]
    rfl
  refine ⟨w.heap.size + 1, [dmk w.heap.size], W1, { target := .fn (.func gf) lb, args := #[.func (.yield (w.heap.size + 1)) #[] #[]] }, W1, gf,
    #[.func (.yield (w.heap.size + 1)) #[] #[]] ++ lb, W1, ?_, ?_, fun _ _ => trivial, ?_, (fun h => by cases h), ?_⟩
  · rw [← hW1, hrec]; exact run_enterLoop_outer _ _ _ _ _
  · simp only [resolve, rangeCall, hA.ev hg]
    simp [go_sem]
  · simp [invoke, go_sem, eg]
  · refine (hiter (w.heap.size + 1) (blk (w.heap.size + 1) (.loop (rec .ready))) (dfi w.heap.size) W1 (fun i W hi hW => ?_) h1).mono ?_
    · have hl := hW.blk_at (.head _)
      have hy := run_yield (P := P) (args := encs i) hl (by rw [hrec]; exact hps i)
      rw [hrec] at hy
      refine ⟨fn, _, assign, body, hy, roundIn_of_wpIn hfn' (wpIn_mono (hbody _ _ _ i W hi hW) fun e a1 W2 he => ?_)⟩
      cases e with
      | normal =>
        obtain ⟨H1, h2, h3⟩ := he
        have hl2 := h2.blk_at (.head _)
        refine ⟨_, run_beginRound hl2 (by rw [hrec]), ?_⟩
        refine wpIn_mono (h3 (blk (w.heap.size + 1) (.loop { rec .ready with state := .busy })) _ h2.put) fun e a3 W4 he4 => ?_
        cases e with
        | normal =>
          have hl4 := HS.blk_at (he4 : HS w0 noM _ W4) (.head _)
          have h5 := HS.put (o' := .loop (rec .ready)) (he4 : HS w0 noM _ W4)
          refine ⟨_, _, run_endRound (P := P) none hl4, rfl, ?_⟩
          rw [hrec] at h5 ⊢
          exact h5
        | _ => exact (he4 : False).elim
      | _ => exact (he : False).elim
    · rintro e W2 ⟨⟨v, rfl⟩, h2⟩
      have hl := h2.blk_at (.head _)
      refine ⟨none, _, by have := run_endLoop (P := P) hl (by rw [hrec]; simp); rw [hrec] at this; exact this, ?_⟩
      refine hdone w.heap.size _ _ ⟨⟨hA.size, hA.get⟩, ?_⟩ (HS.put h2).tail
      show [dmk w.heap.size] ++ a.defers = _
      rw [hA.defers]
      rfl
end
/-! ## the function that is ranged over: it calls back -/
section
variable {P : Program} {N : Nat} {l : List (Nat × Value)} {a : Act} {Ds : List Deferred} {w : World} {ops : Array Oper} {rest : List Oper} {Q : Exit → Act → World → Prop} {d : Nat} {T : TypeId} {pos : String} {af : Array Edge}
theorem in_region {id : Nat} (h : wpListIn Fence.wide 3 P ops Q ops.toList a w) : (Code.region id ops false).wp P Q a w := (wpIn_wide (n := 3)).1 (wpIn_region_list h)
theorem in_nil (h : Q .normal a w) : wpListIn Fence.wide 3 P ops Q [] a w := h
theorem in_ex {C : World → Prop} {o : Oper} {v : Value} (hA : Sl N l a Ds) (hC : C w) (hg : gd ops l o.guard = some true) (hd : o.dst = some d) (hdN : d < N)
    (h : Ex P N l C o v) (k : ∀ a', Sl N ((d, v) :: l) a' Ds → wpListIn Fence.wide 3 P ops Q rest a' w) : wpListIn Fence.wide 3 P ops Q (o :: rest) a w := by
  unfold wpListIn
  rw [if_pos (hA.gd hg)]
  refine ⟨fun _ _ => trivial, ?_⟩
  rw [show Fence.wide.round = none from rfl, Oper.semAt_none, h a w hA.toSl0 hC]
  show wpListIn _ _ _ _ _ _ (a.put o.dst v) w
  rw [hd]
  exact k _ (hA.put hdN v)
theorem in_yield {f : Operand} {args : Array Operand} {ats : Array TypeId} {vs : List Value} {lp : Nat} {R : Value → World → Prop} (hA : Sl N l a Ds) (hdN : d < N) (hf : ev l f = some (.func (.yield lp) #[] #[])) (hv : evL l args.toList = some vs)
    (h : YieldAt Fence.wide 2 P lp vs.toArray w (fun e w' => ∃ v, e = .returned v ∧ R v w'))
    (k : ∀ v w', R v w' → ∀ a', Sl N ((d, v) :: l) a' Ds → wpListIn Fence.wide 3 P ops Q rest a' w') : wpListIn Fence.wide 3 P ops Q (⟨some d, .call ⟨.value f, args, ats⟩, T, pos, af, none⟩ :: rest) a w := by
  have hvs : args.map a.eval = vs.toArray := by
    have := hA.evL hv
    apply Array.ext'
    simpa using this
  obtain ⟨fn, tmps, assign, body, hy, hr⟩ := h
  unfold wpListIn
  rw [if_pos (hA.gd rfl)]
  refine ⟨fun _ _ => trivial, ?_⟩
  rw [show Fence.wide.round = none from rfl, Oper.semAt_none]
  simp only [execOp, resolve, hvs, hA.ev hf, Deferred.ofValue, Sem.run_bind, Sem.run_pure, Result.andThen_ok, invoke, Array.empty_append, hy, Oper.uponIn_round]
  refine ⟨(fun h => by cases h), hr.mono ?_⟩
  rintro e w' ⟨v, rfl, hR⟩
  exact k v w' hR _ (hA.put hdN v)
end
end Go.Fw
