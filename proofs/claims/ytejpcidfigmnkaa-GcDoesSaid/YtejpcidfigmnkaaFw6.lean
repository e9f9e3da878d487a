/-
  The frame of a law's proof: from what the walk gives to the row. Conditions: none.
-/
import Derived.Test.YtejpcidfigmnkaaFw5
import Derived.WalkKit
import Derived.ProofKit
import Derived.OpenShut
import Derived.Deep.Slices
import Derived.Deep.Fields
import Derived.ChangeSame
import Derived.Carry
namespace Go.Fw
open Go Go.ChangeShapes Go.WideShapes Go.ChangeAt Go.RowKit Go.Deep
set_option linter.unusedVariables false

theorem HS.pick {w0 w : World} {M : Nat → Prop} {H : List It} {it : It} (h : HS w0 M H w) (hm : it ∈ H) : HS w0 M [it] w :=
  let ⟨_, p⟩ := mem_split hm
  (h.perm p).head
/-- what a law does for its caller -/
def LawR (w0 : World) (v : Value) (w : World) : Prop := v = .bool true ∧ Kp w0 noM w
theorem Kp.below {w0 w : World} (h : Kp w0 noM w) : Below w0.heap.size w0 w := ⟨h.os, h.tape, h.output, h.size, fun k hk => h.block k hk id⟩
section
variable {H : Type} {enc : TypeId × Value → H} {P : Program}
theorem trodAll_stays (hl : laidOutB P = true) {W W' : World} (hb : Below W.heap.size W W') : ∀ {ts : List TypeId} {vs : List Value} {ds : List (DataW H)} {ps : List MemPlace},
    (∀ t ∈ ts, P.readableRec t = true ∧ t < P.types.size) → DataW.TrodAll enc P W 0 (fun _ => true) true ts vs ds ps → (∀ x ∈ ps, x.block < W.heap.size) →
    DataW.TrodAll enc P W' 0 (fun b => decide (b < W.heap.size)) true ts vs ds ps
  | [], vs, ds, ps, _, h, _ => by
    obtain ⟨rfl, rfl, rfl⟩ := trodAll_nil h
    exact trodAll_mk0
  | t :: ts, vs, ds, ps, hr, h, hlt => by
    obtain ⟨v, vs1, d, ds1, a, b, rfl, rfl, rfl, h1, h2⟩ := trodAll_cons h
    have hlt1 : ∀ x ∈ a, x.block < W.heap.size := fun x hx => hlt x (List.mem_append.2 (.inl hx))
    have hlt2 : ∀ x ∈ b, x.block < W.heap.size := fun x hx => hlt x (List.mem_append.2 (.inr hx))
    have ht := hr t (List.mem_cons_self)
    exact trodAll_cons_mk (Below.trod hl ht.1 ht.2 h1 hb hlt1) (trodAll_stays hl hb (fun t ht => hr t (List.mem_cons_of_mem _ ht)) h2 hlt2)
theorem trodAll_len {W : World} {base : Nat} {spare : Nat → Bool} {held : Bool} : ∀ {ts : List TypeId} {vs : List Value} {ds : List (DataW H)} {ps : List MemPlace},
    DataW.TrodAll enc P W base spare held ts vs ds ps → ds.length = ts.length
  | [], vs, ds, ps, h => by
    obtain ⟨rfl, rfl, rfl⟩ := trodAll_nil h
    rfl
  | t :: ts, vs, ds, ps, h => by
    obtain ⟨v, vs1, d, ds1, a, b, rfl, rfl, rfl, h1, h2⟩ := trodAll_cons h
    simp [trodAll_len h2]
theorem law_post {f : Func} {s : ChangeSpec} {W W' : World} {args : Array Value} {ds gs : List (DataW H)} {before : List MemPlace} {tb : TypeId}
    (hl : laidOutB P = true) (hrd : f.params.toList.all (fun t => P.readableRec t && decide (t < P.types.size)) = true) (hv : s.vars = [])
    (hs : ∀ ds : List (DataW H), ds.length = f.params.size → (s.fn H (ds ++ [])).results = [.lit (.bool true)] ∧ (s.fn H (ds ++ [])).args = ds ∧ (s.fn H (ds ++ [])).vars = [])
    (hrt : f.resultTypes = #[tb]) (hb : P.underlying tb = some .bool)
    (hW : DataW.Whole enc P f.params.toList s.vars false W args.toList ds gs before) (hk : Kp W noM W') :
    s.post enc P f false true false false W args (.bool true) W' := by
  have hW' := hW
  obtain ⟨p, q, hA, hV, rfl, hfz, hnd⟩ := hW
  rw [hv] at hV
  have hg : gs = [] ∧ q = [] := by
    cases gs with
    | nil => exact ⟨rfl, hV⟩
    | cons g gs => exact hV.elim
  obtain ⟨rfl, rfl⟩ := hg
  have hlen := trodAll_len hA
  rw [Array.length_toList] at hlen
  obtain ⟨h1, h2, h3⟩ := hs ds hlen
  have hlt : ∀ x ∈ p, x.block < W.heap.size := fun x hx => by simpa using hW'.lt x (List.mem_append.2 (.inl hx))
  refine ⟨ds, [], p ++ [], [], p, [], hW', ?_, ?_, ?_, (Kp.below hk).frame _, fun h => by cases h⟩
  · rw [h1, hrt]
    exact trodAll_cons_mk (shut_bool hb _) trodAll_mk0
  · rw [h2]
    refine trodAll_stays hl (Kp.below hk) (fun t ht => ?_) hA hlt
    have := List.all_eq_true.1 hrd t ht
    simpa using this
  · rw [h3, hv]; rfl

theorem law_lifted {C : Checked} {os : Os} {f : FuncId} {fn : Func} {s : ChangeSpec} {conds : List PathCond} {tb : TypeId}
    (own : ownKnob C.prog.godebug = none) (started : os.Started) (noInit : C.prog.inits.idxOf? f = none) (hfn : C.prog.funcs[f]? = some fn)
    (witness : ∃ (w : World) (tape : Tape) (i : Input), w.os = os ∧ (w.forCall tape i).Shaped C.prog ∧ i.vars = [] ∧ Input.okWide C.prog (w.forCall tape i) .any w.heap.size f i ∧
      s.pre6 enc C.prog fn conds false (w.forCall tape i).memory i.args ∧ ({} : Assume).holds C.prog (lone (Frame.enter C.prog f i.args .normal) [] (w.forCall tape i)))
    (hl : laidOutB C.prog = true) (hrd : fn.params.toList.all (fun t => C.prog.readableRec t && decide (t < C.prog.types.size)) = true) (hv : s.vars = [])
    (hs : ∀ ds : List (DataW H), ds.length = fn.params.size → (s.fn H (ds ++ [])).results = [.lit (.bool true)] ∧ (s.fn H (ds ++ [])).args = ds ∧ (s.fn H (ds ++ [])).vars = [])
    (hrt : fn.resultTypes = #[tb]) (hb : C.prog.underlying tb = some .bool)
    (walk : ∀ (W : World) (base : Nat) (args : Array Value) (ds : List (DataW H)) (p : List MemPlace),
      (∀ (j : Nat) t v, fn.params[j]? = some t → args[j]? = some v → Value.okWide C.prog W .any base t v) →
      DataW.TrodAll enc C.prog W 0 (fun _ => true) true fn.params.toList args.toList ds p → Ret C.prog f args W (LawR W)) :
    ReturnsInHanded {} C os f .any (s.pre6 enc C.prog fn conds false) (s.post enc C.prog fn false true false false) := by
  refine returnsInHanded_of_change own started noInit hfn witness ?_
  intro W base args ds gs before hval hW _ _
  have hA := hW
  obtain ⟨p, q, hA, _⟩ := hA
  refine Calls.mono (walk W base args ds p hval hA) ?_
  rintro e W' ⟨v, rfl, rfl, hk⟩
  exact ⟨_, rfl, law_post hl hrd hv hs hrt hb hW hk⟩
end

section
variable {H : Type} {enc : TypeId × Value → H} {P : Program} {w : World} {base : Nat} {spare : Nat → Bool} {held : Bool}
/-- a slice of structs of one-cell fields, opened at each index -/
theorem open_rows {t e : TypeId} {fs : Array Field} {fuel : Nat} {cs : List Value} {x : DataW H × List MemPlace} (ht : P.underlying t = some (.slice e)) (he : P.underlying e = some (.struct fs))
    (hone : oneCellFields P fs = true) (hC : P.cellsOf e = fs.size) (h : DataW.trod enc P w base spare held fuel t cs = some x) :
    cs = [.slice none 0 0] ∨
    ∃ (a : Addr) (len cap : Nat), cs = [.slice (some a) len cap] ∧ len ≤ maxLen ∧
      ∀ i, i < len → ∀ (j : Nat) (f : Field), fs[j]? = some f → ∃ (v : Value) (y : DataW H × List MemPlace) (n : Nat), w.cell? (a.add (i * fs.size + j)) = some v ∧ DataW.trod enc P w base spare held n f.type [v] = some y := by
  rcases open_slice ht h with h0 | ⟨a, len, cap, m, n, D, Pl, hcs, hb, hl, hm, hmm, hx, hi⟩
  · exact .inl h0.1
  · refine .inr ⟨a, len, cap, hcs, Nat.le_trans hl hm, fun i him j f hj => ?_⟩
    have hlm : len ≤ m := by rw [hmm]; split <;> omega
    obtain ⟨cs', hc, ht'⟩ := hi i (by omega)
    rw [hC] at hc
    obtain ⟨ys, n', hn', hy, hlen, hyl, hf⟩ := DataW.trod_struct he ht'
    obtain ⟨_, hcl, hat⟩ := World.cells?_some hc
    obtain ⟨ho, hk⟩ := hone_of hone j f hj
    have hjl : j < fs.size := (Array.getElem?_eq_some_iff.1 hj).1
    have hcell := hat j hjl
    have hv : cs'[j]? = some (cs'[j]'(by omega)) := List.getElem?_eq_getElem (by omega)
    have h1 := hf j f hj
    rw [ho, hk] at h1
    have hone' : (cs'.drop j).take 1 = [cs'[j]'(by omega)] := by
      rw [List.drop_eq_getElem_cons (by omega)]
      rfl
    rw [hone'] at h1
    have hys : ys[j]? = some (ys[j]'(by omega)) := List.getElem?_eq_getElem (by omega)
    refine ⟨_, _, n', ?_, h1.trans hys⟩
    rw [← Go.Deep.add_add, hcell, hv]
theorem choose_list {α : Type} (p : Nat → α → Prop) : ∀ n : Nat, (∀ i, i < n → ∃ x, p i x) → ∃ l : List α, l.length = n ∧ ∀ i x, l[i]? = some x → p i x
  | 0, _ => ⟨[], rfl, by simp⟩
  | n + 1, h => by
    obtain ⟨l, hl, hp⟩ := choose_list p n (fun i hi => h i (by omega))
    obtain ⟨x, hx⟩ := h n (by omega)
    refine ⟨l ++ [x], by simp [hl], fun i y hy => ?_⟩
    rcases Nat.lt_or_ge i n with hi | hi
    · rw [List.getElem?_append_left (by omega)] at hy
      exact hp i y hy
    · have := (List.getElem?_eq_some_iff.1 hy).1
      simp only [List.length_append, List.length_cons, List.length_nil] at this
      obtain rfl : i = n := by omega
      rw [List.getElem?_append_right (by omega), hl] at hy
      simp at hy
      exact hy ▸ hx
/-- a slice of pairs of ints, read -/
theorem open_pairs {t e : TypeId} {f0 f1 : Field} {v : Value} {d : DataW H} {p : List MemPlace} {r : Reach} {b0 : Nat} (ht : P.underlying t = some (.slice e)) (he : P.underlying e = some (.struct #[f0, f1]))
    (hone : oneCellFields P #[f0, f1] = true) (hC : P.cellsOf e = 2) (h0 : P.underlying f0.type = some (.int .i64)) (h1 : P.underlying f1.type = some (.int .i64))
    (hv : Value.okWide P w r b0 t v) (h : DataW.Trod enc P w base spare held t v d p) :
    ∃ (o : Option Addr) (c : Nat) (l : List (Int × Int)), v = .slice o l.length c ∧ Rd w o (flat encP l) ∧ l.length ≤ 9223372036854775807 := by
  obtain ⟨a0, len0, cap0, rfl⟩ := okWide_slice ht hv
  obtain ⟨fuel, hf⟩ := h
  rcases open_rows ht he hone hC hf with hcs | ⟨a, len, cap, hcs, hl, hi⟩
  · simp [Value.cells] at hcs
    obtain ⟨rfl, rfl, rfl⟩ := hcs
    exact ⟨none, 0, [], rfl, ⟨fun h => absurd h (by simp [flat]), fun j u hj => by simp [flat] at hj⟩, by simp⟩
  · simp [Value.cells] at hcs
    obtain ⟨rfl, rfl, rfl⟩ := hcs
    obtain ⟨l, hll, hp⟩ := choose_list (fun i (x : Int × Int) => w.cell? (a.add (i * 2)) = some (.int .i64 x.1) ∧ w.cell? (a.add (i * 2 + 1)) = some (.int .i64 x.2)) len0 (fun i hil => by
      obtain ⟨v0, y0, n0, hc0, hy0⟩ := hi i hil 0 f0 rfl
      obtain ⟨v1, y1, n1, hc1, hy1⟩ := hi i hil 1 f1 rfl
      obtain ⟨z0, e0, _⟩ := DataW.trod_int h0 hy0
      obtain ⟨z1, e1, _⟩ := DataW.trod_int h1 hy1
      obtain rfl : v0 = .int .i64 z0 := by simpa using e0
      obtain rfl : v1 = .int .i64 z1 := by simpa using e1
      exact ⟨(z0, z1), hc0, hc1⟩)
    subst hll
    refine ⟨some a, cap0, l, rfl, ?_, by unfold maxLen at hl; omega⟩
    cases l with
    | nil => exact ⟨fun h => absurd h (by simp [flat]), fun j u hj => by simp [flat] at hj⟩
    | cons x0 l0 =>
      obtain ⟨b, off, spot⟩ := a
      have hspot : spot = none := by simpa [Addr.add] using World.cell?_spot (hp 0 x0 rfl).1
      subst hspot
      refine ⟨fun _ => ⟨b, off, rfl⟩, fun j u hj => ?_⟩
      have hjl := (List.getElem?_eq_some_iff.1 hj).1
      rw [flat_length encP_len] at hjl
      have hadd : ∀ k, (⟨b, off, none⟩ : Addr).add k = sat (some ⟨b, off, none⟩) k := fun k => by
        simp only [sat, blkO, offO, Addr.add]
        split <;> simp_all
      obtain ⟨x, hx⟩ : ∃ x, (x0 :: l0)[j / 2]? = some x := ⟨_, List.getElem?_eq_getElem (by omega)⟩
      have hp2 := hp _ _ hx
      rw [hadd, hadd] at hp2
      rcases Nat.mod_two_eq_zero_or_one j with hm | hm
      · have ej : j = j / 2 * 2 + 0 := by omega
        have := flat_get encP_len (off := 0) hx (rfl : (encP x)[0]? = some (.int .i64 x.1))
        rw [ej] at hj ⊢
        rw [this] at hj
        obtain rfl := Option.some.inj hj
        exact hp2.1
      · have ej : j = j / 2 * 2 + 1 := by omega
        have := flat_get encP_len (off := 1) hx (rfl : (encP x)[1]? = some (.int .i64 x.2))
        rw [ej] at hj ⊢
        rw [this] at hj
        obtain rfl := Option.some.inj hj
        exact hp2.2
end
end Go.Fw
