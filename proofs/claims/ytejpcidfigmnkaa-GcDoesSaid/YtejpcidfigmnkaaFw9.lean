/-
  The frame of a law's proof, where the size of what is handed in is asked; slices of slices, read. Conditions: none.
-/
import Derived.Test.YtejpcidfigmnkaaFw8
import Derived.SizedLaws
import Derived.Deep.Matrix
namespace Go.Fw
open Go Go.ChangeShapes Go.WideShapes Go.ChangeAt Go.RowKit Go.Deep
set_option linter.unusedVariables false
/-- all parts are of a size that a machine can have -/
def Szd {H : Type} (P : Program) (t : TypeId) (d : DataW H) : Prop := (d.weights P t).all (· ≤ reachBytes) = true
section
variable {H : Type} {enc : TypeId × Value → H} {P : Program}
theorem szd_all {e : TypeId} : ∀ {l : List (DataW H)}, (DataW.weightsAll P e l).all (· ≤ reachBytes) = true → ∀ d ∈ l, Szd P e d
  | [], _, d, hd => by simp at hd
  | x :: r, h, d, hd => by
    simp only [DataW.weightsAll, List.all_append, Bool.and_eq_true] at h
    rcases List.mem_cons.1 hd with rfl | hd
    · exact h.1
    · exact szd_all h.2 d hd
theorem Szd.slice {t e : TypeId} {elems spare : List (DataW H)} (h : Szd P t (.slice elems spare)) (ht : P.underlying t = some (.slice e)) :
    (elems.length + spare.length) * P.bytesOf e ≤ reachBytes ∧ ∀ d, d ∈ elems → Szd P e d := by
  simp only [Szd, DataW.weights, ht, List.all_cons, List.all_append, Bool.and_eq_true, decide_eq_true_eq] at h
  exact ⟨h.1, szd_all h.2.1⟩
theorem szd_each {ts : List TypeId} : ∀ {ts : List TypeId} {l : List (DataW H)}, (DataW.weightsEach P ts l).all (· ≤ reachBytes) = true → ∀ (j : Nat) t d, ts[j]? = some t → l[j]? = some d → Szd P t d
  | [], l, _, j, t, d, ht, _ => by simp at ht
  | _ :: _, [], _, j, t, d, _, hd => by simp at hd
  | t0 :: ts, d0 :: l, h, 0, t, d, ht, hd => by
    simp only [DataW.weightsEach, List.all_append, Bool.and_eq_true] at h
    obtain rfl : t0 = t := by simpa using ht
    obtain rfl : d0 = d := by simpa using hd
    exact h.1
  | t0 :: ts, d0 :: l, h, j + 1, t, d, ht, hd => by
    simp only [DataW.weightsEach, List.all_append, Bool.and_eq_true] at h
    exact szd_each (ts := []) h.2 j t d (by simpa using ht) (by simpa using hd)

theorem law_lifted_sized {C : Checked} {os : Os} {f : FuncId} {fn : Func} {s : ChangeSpec} {conds : List PathCond} {tb : TypeId}
    (own : ownKnob C.prog.godebug = none) (started : os.Started) (noInit : C.prog.inits.idxOf? f = none) (hfn : C.prog.funcs[f]? = some fn)
    (witness : ∃ (w : World) (tape : Tape) (i : Input), w.os = os ∧ (w.forCall tape i).Shaped C.prog ∧ i.vars = [] ∧ Input.okWide C.prog (w.forCall tape i) .any w.heap.size f i ∧
      s.pre6 enc C.prog fn conds false (w.forCall tape i).memory i.args ∧ ({} : Assume).holds C.prog (lone (Frame.enter C.prog f i.args .normal) [] (w.forCall tape i)))
    (hl : laidOutB C.prog = true) (hrd : fn.params.toList.all (fun t => C.prog.readableRec t && decide (t < C.prog.types.size)) = true) (hv : s.vars = [])
    (hs : ∀ ds : List (DataW H), ds.length = fn.params.size → (s.fn H (ds ++ [])).results = [.lit (.bool true)] ∧ (s.fn H (ds ++ [])).args = ds ∧ (s.fn H (ds ++ [])).vars = [])
    (hrt : fn.resultTypes = #[tb]) (hb : C.prog.underlying tb = some .bool)
    (walk : ∀ (W : World) (base : Nat) (args : Array Value) (ds : List (DataW H)) (p : List MemPlace),
      (∀ (j : Nat) t v, fn.params[j]? = some t → args[j]? = some v → Value.okWide C.prog W .any base t v) →
      DataW.TrodAll enc C.prog W 0 (fun _ => true) true fn.params.toList args.toList ds p → (∀ (j : Nat) t d, fn.params.toList[j]? = some t → ds[j]? = some d → Szd C.prog t d) → Ret C.prog f args W (LawR W)) :
    ReturnsInHanded {} C os f .any (s.pre6 enc C.prog fn conds false) (s.post enc C.prog fn false true false false) := by
  refine returnsInHanded_of_change_sized own started noInit hfn witness ?_
  intro W base args ds gs before hval hW _ hsz _
  have hA := hW
  obtain ⟨p, q, hA, hq⟩ := hA
  refine Calls.mono (walk W base args ds p hval hA fun j t d ht hd => ?_) ?_
  · have htl := (List.getElem?_eq_some_iff.1 ht).1
    have hdl := (List.getElem?_eq_some_iff.1 hd).1
    exact szd_each (ts := []) hsz j t d (by rw [List.getElem?_append_left htl]; exact ht) (by rw [List.getElem?_append_left hdl]; exact hd)
  · rintro e W' ⟨v, rfl, rfl, hk⟩
    exact ⟨_, rfl, law_post hl hrd hv hs hrt hb hW hk⟩
end

section
variable {H : Type} {enc : TypeId × Value → H} {P : Program} {w : World} {base : Nat} {held : Bool}
theorem add_sat (a : Addr) (h : a.spot = none) (k : Nat) : a.add k = sat (some a) k := by
  obtain ⟨b, off, spot⟩ := a
  obtain rfl : spot = none := h
  simp only [sat, blkO, offO, Addr.add]
  split <;> simp_all
/-- a slice of slices of ints, read -/
theorem open_lists {t e q : TypeId} {v : Value} {d : DataW H} {p : List MemPlace} {r : Reach} {b0 : Nat} (ht : P.underlying t = some (.slice e)) (he : P.underlying e = some (.slice q)) (hq : P.underlying q = some (.int .i64))
    (ce : P.cellsOf e = 1) (cq : P.cellsOf q = 1) (be : P.bytesOf e = 24) (bq : P.bytesOf q = 8) (hv : Value.okWide P w r b0 t v) (h : DataW.Trod enc P w base (fun _ => true) held t v d p) (hz : Szd P t d) :
    ∃ (o : Option Addr) (c : Nat) (ds : List Sd) (next : List (List Int)), v = .slice o next.length c ∧ Rd w o (flat encS ds) ∧ RdR encI w ds next ∧ next.length ≤ c ∧ next.length ≤ 140737488355328 ∧ ∀ l ∈ next, l.length ≤ 140737488355328 := by
  obtain ⟨a0, len0, cap0, rfl⟩ := okWide_slice ht hv
  obtain ⟨fuel, hf⟩ := h
  rcases open_int_rows ht he hq ce cq hf with ⟨hcs, hx⟩ | ⟨a, len, cap, A, L, C, Z, hcs, hb, hl, hm, hx, hrow⟩
  · simp [Value.cells] at hcs
    obtain ⟨rfl, rfl, rfl⟩ := hcs
    exact ⟨none, 0, [], [], rfl, ⟨fun h => absurd h (by simp [flat]), fun j u hj => by simp [flat] at hj⟩, ⟨rfl, fun i d r hd => by simp at hd⟩, Nat.le_refl _, Nat.zero_le _, fun l hl => by simp at hl⟩
  · simp [Value.cells] at hcs
    obtain ⟨rfl, rfl, rfl⟩ := hcs
    simp only [Prod.mk.injEq] at hx
    obtain ⟨rfl, _⟩ := hx
    obtain ⟨hz1, hz2⟩ := hz.slice ht
    have hrb : reachBytes = 140737488351232 := rfl
    rw [be] at hz1
    simp only [List.length_map, List.length_range] at hz1
    have hcell : ∀ i, i < len0 → w.cell? (a.add i) = some (.slice (A i) (L i) (C i)) := fun i hi => (hrow i (by omega)).1
    refine ⟨some a, cap0, (List.range len0).map fun i => (A i, L i, C i), (List.range len0).map fun i => (Z i).take (L i), by simp, ?_, ⟨by simp, fun i d r hd hr => ?_⟩, by simpa using hl, by simp; omega, fun l hlm => ?_⟩
    · by_cases h0 : len0 = 0
      · subst h0
        exact ⟨fun h => absurd h (by simp [flat]), fun j u hj => by simp [flat] at hj⟩
      have hspot : a.spot = none := by simpa [Addr.add] using World.cell?_spot (hcell 0 (by omega))
      refine ⟨fun _ => ⟨a.block, a.off, by rw [← hspot]⟩, fun j u hj => ?_⟩
      have hjl := (List.getElem?_eq_some_iff.1 hj).1
      rw [flat_length encS_len] at hjl
      simp only [List.length_map, List.length_range, Nat.mul_one] at hjl
      have hd : ((List.range len0).map fun i => ((A i, L i, C i) : Sd))[j]? = some (A j, L j, C j) := by simp [hjl]
      have h1 := flatS_get hd
      rw [Nat.mul_one] at h1
      rw [h1] at hj
      obtain rfl := Option.some.inj hj
      rw [← add_sat a hspot]
      exact hcell j hjl
    · have hil : i < len0 := by
        have := (List.getElem?_eq_some_iff.1 hd).1
        simpa using this
      have hd' : (A i, L i, C i) = d := by simpa [hil] using hd
      have hr' : (Z i).take (L i) = r := by simpa [hil] using hr
      subst hd'
      subst hr'
      obtain ⟨h1, h2, h3, h4, h5, h6, h7⟩ := hrow i (by omega)
      refine ⟨by simp [h4]; omega, ?_⟩
      by_cases h0 : L i = 0
      · rw [h0]
        exact ⟨fun h => absurd h (by simp [flat]), fun j u hj => by simp [flat] at hj⟩
      cases hA : A i with
      | none => have := h6 hA; omega
      | some a' =>
        obtain ⟨h8, h9⟩ := h7 a' hA
        have hspot : a'.spot = none := by simpa [Addr.add] using World.cell?_spot (h9 0 (by omega))
        refine ⟨fun _ => ⟨a'.block, a'.off, by rw [← hspot]⟩, fun j u hj => ?_⟩
        have hjl := (List.getElem?_eq_some_iff.1 hj).1
        rw [flat_length encI_len] at hjl
        simp only [List.length_take, Nat.mul_one] at hjl
        have hd : ((Z i).take (L i))[j]? = some ((Z i).getD j 0) := by
          rw [List.getElem?_take_of_lt (by omega)]
          simp [List.getD, List.getElem?_eq_getElem (show j < (Z i).length by omega)]
        have hx := flatI_get hd
        rw [Nat.mul_one] at hx
        rw [hx] at hj
        obtain rfl := Option.some.inj hj
        rw [← add_sat a' hspot]
        exact h9 j (by omega)
    · obtain ⟨i, hi, rfl⟩ := List.mem_map.1 hlm
      have hil := List.mem_range.1 hi
      obtain ⟨h1, h2, h3, h4, h5, h6, h7⟩ := hrow i (by omega)
      have hs := hz2 (intRow .i64 (A i) (L i) (Z i)) (List.mem_map.2 ⟨i, hi, rfl⟩)
      rw [List.length_take]
      cases hA : A i with
      | none => have := h6 hA; omega
      | some a' =>
        rw [hA] at hs
        have hs2 := (Szd.slice (e := q) hs he).1
        rw [bq] at hs2
        simp [lits, h4] at hs2
        omega
end
end Go.Fw
