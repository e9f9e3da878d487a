/-
  The frame for walks, second part: operations on memory. It names no program. Conditions: none.
-/
import Derived.Test.YtejpcidfigmnkaaFw
import Derived.Laws.AppendOwnNone
namespace Go.Fw
open Go Go.RowKit
set_option linter.unusedVariables false

/-! ## loads -/
/-- in every world of the class the cell holds v -/
def Cl (C : World → Prop) (p : Addr) (v : Value) : Prop := ∀ w, C w → w.cell? p = some v
/-- a row of cells from p on -/
def Cls (C : World → Prop) (p : Addr) (vs : List Value) : Prop := ∀ w, C w → ∀ i v, vs[i]? = some v → w.cell? (p.add i) = some v

theorem cl_of {C : World → Prop} {p : Addr} {v : Value} (h : ∀ w, C w → w.cell? p = some v) : Cl C p v := h
theorem HS.kp {w0 w : World} {M : Nat → Prop} {H : List It} (h : HS w0 M H w) : Kp w0 M w := h.1
theorem cl_cb {w0 : World} {M : Nat → Prop} {H : List It} {b j T : Nat} {cs : List Value} {v : Value} (hm : cb b T cs ∈ H) (hv0 : nth cs j = some v) : Cl (HS w0 M H) (bat b j) v := by
  intro w hH
  have hv := hv0
  rw [nth_eq] at hv
  obtain ⟨F, h1, h2⟩ := hH.sat hm
  rw [bat, cell_of_cells h2]
  simpa using hv
theorem HS.cell {w0 w : World} {M : Nat → Prop} {H : List It} {b j T : Nat} {cs : List Value} {v : Value} (h : HS w0 M H w) (hm : cb b T cs ∈ H) (hv : nth cs j = some v) : w.cell? (bat b j) = some v := cl_cb hm hv w h
theorem cl_own {w0 : World} {M : Nat → Prop} {H : List It} {T sz n cap j : Nat} {o : Option Addr} {xs : List Value} {v : Value} (hm : own T sz o n cap xs ∈ H) (hv : xs[j]? = some v) : Cl (HS w0 M H) (sat o j) v :=
  fun w hH => (hH.own_rd hm).2 j v hv
theorem cl_rd {w0 : World} {M : Nat → Prop} {H : List It} {j : Nat} {o : Option Addr} {xs : List Value} {v : Value} (hr : Rd w0 o xs) (hM : ¬ M (blkO o)) (hv : xs[j]? = some v) : Cl (HS w0 M H) (sat o j) v :=
  fun w hH => (hH.rd hr hM).2 j v hv
theorem cls_cb {w0 : World} {M : Nat → Prop} {H : List It} {b j T : Nat} {cs vs : List Value} (hm : cb b T cs ∈ H) (hv : ∀ i v, vs[i]? = some v → cs[j + i]? = some v) : Cls (HS w0 M H) (bat b j) vs := by
  intro w hH i v hi
  rw [bat_add]
  exact cl_cb hm (by rw [nth_eq]; exact hv i v hi) w hH
theorem cls_cb_all {w0 : World} {M : Nat → Prop} {H : List It} {b T : Nat} {cs : List Value} (hm : cb b T cs ∈ H) : Cls (HS w0 M H) (bat b 0) cs :=
  cls_cb hm fun i v h => by simpa using h
theorem cls_own {w0 : World} {M : Nat → Prop} {H : List It} {T sz n cap j : Nat} {o : Option Addr} {xs vs : List Value} (hm : own T sz o n cap xs ∈ H) (hv : ∀ i v, vs[i]? = some v → xs[j + i]? = some v) : Cls (HS w0 M H) (sat o j) vs := by
  intro w hH i v hi
  rw [sat_add]
  exact cl_own hm (hv i v hi) w hH
theorem cls_rd {w0 : World} {M : Nat → Prop} {H : List It} {j : Nat} {o : Option Addr} {xs vs : List Value} (hr : Rd w0 o xs) (hM : ¬ M (blkO o)) (hv : ∀ i v, vs[i]? = some v → xs[j + i]? = some v) : Cls (HS w0 M H) (sat o j) vs := by
  intro w hH i v hi
  rw [sat_add]
  exact cl_rd hr hM (hv i v hi) w hH

section
variable {P : Program} {N : Nat} {l : List (Nat × Value)} {C : World → Prop} {d : Option Tmp} {T : TypeId} {pos : String} {af : Array Edge} {g : Option (Nat × Bool)}

theorem run_isAgg_sc {t : TypeId} [h : TSc P t] (w : World) : (isAgg t).run P w = .ok false w := by
  obtain ⟨d, h1, h2⟩ := h.eq
  cases d <;> simp_all [isAgg, run_underlying h1]
theorem run_isAgg_st {t : TypeId} {fl : List (Nat × Nat)} [h : TSt P t fl] (w : World) : (isAgg t).run P w = .ok true w := by
  obtain ⟨d, h1, h2⟩ := h.eq
  simp [isAgg, run_underlying h1]
theorem ex_load {t : TypeId} {x : Operand} {p : Addr} {v : Value} [h : TSc P t] (hx : ev l x = some (.pointer (some p))) (hc : Cl C p v) : Ex P N l C ⟨d, .load t x, T, pos, af, g⟩ v := by
  intro a w hA hC
  simp [execOp, hA.ev hx, Instr.loadAt, Instr.sureAddr, loadVar, run_isAgg_sc, hc w hC]
theorem ex_load_st {t sz by_ : Nat} {z : Value} {zs : List Value} {fl : List (Nat × Nat)} {x : Operand} {p : Addr} {vs : List Value} [h : TSt P t fl] [hi : TIf P t z zs sz by_] (hx : ev l x = some (.pointer (some p))) (hl : vs.length = sz) (hc : Cls C p vs) :
    Ex P N l C ⟨d, .load t x, T, pos, af, g⟩ (.agg vs.toArray) := by
  intro a w hA hC
  obtain ⟨ti, h3, h4, h5, h6⟩ := hi.eq
  simp [execOp, hA.ev hx, Instr.loadAt, Instr.sureAddr, loadVar, run_isAgg_st, sizeOf, typeInfo, h3, h5, ← hl, run_loadCells_list w p vs (hc w hC)]

/-! ## stores -/
def put (cs : List Value) (j : Nat) (vs : List Value) : List Value := cs.take j ++ vs ++ cs.drop (j + vs.length)
theorem put_length {cs vs : List Value} {j : Nat} (h : j + vs.length ≤ cs.length) : (put cs j vs).length = cs.length := by
  simp only [put, List.length_append, List.length_take, List.length_drop]; omega

theorem setRow_kp (w : World) (b : Nat) (cs : Array Value) (F : Nat → Prop) (hb : F b) : Kp w F (w.setRow b cs) := by
  refine ⟨rfl, rfl, rfl, by simp, fun i hi hn => ?_⟩
  have hib : b ≠ i := fun h => hn (h ▸ hb)
  simp [World.setRow, Array.getElem?_modify, hib]

theorem run_storeVar_row {w : World} {t z zs sz by_ T : _} {b j : Nat} {cs vs : List Value} {v : Value} [hi : TIf P t z zs sz by_] (hv : v.cells.toList = vs) (hl : vs.length = sz) (h1 : vs.all (·.oneCell') = true)
    (hb : w.heap[b]? = some (.cells cs.toArray T (0, 0))) (hj : j + sz ≤ cs.length) : (storeVar t ⟨b, j, none⟩ v).run P w = .ok () (w.setRow b (put cs j vs).toArray) := by
  obtain ⟨ti, h3, h4, h5, h6⟩ := hi.eq
  have hs : v.cells.size = sz := by rw [← hl, ← hv]; simp
  have hh := run_storeCells_at (P := P) b j T vs 0 cs.toArray w hb (by simp; omega) (fun x hx => List.all_eq_true.1 h1 x hx)
  simp only [Nat.add_zero] at hh
  simp only [storeVar, Sem.run_bind, sizeOf, typeInfo, run_program, Result.andThen_ok, h3, Sem.run_pure, h5, hs, ne_eq, not_true_eq_false, if_false, hv, hh]
  rfl

theorem op_store_cb {t sz by_ b j Tb : Nat} {z v : Value} {zs : List Value} {x y : Operand} {cs cs' vs : List Value} {w0 w : World} {M : Nat → Prop} {H H' : List It} [hi : TIf P t z zs sz by_]
    (hx : ev l x = some (.pointer (some (bat b j)))) (hy : ev l y = some v) (hH : HS w0 M H w) (hr : Rp H (cb b Tb cs) (cb b Tb cs') H')
    (hv : v.cells.toList = vs) (hl : vs.length = sz) (h1 : vs.all (·.oneCell') = true) (hj : j + sz ≤ cs.length) (hp : put cs j vs = cs') :
    Op1 P N l ⟨d, .store t x y, T, pos, af, g⟩ w (fun _ w' => HS w0 M H' w') := by
  intro a hA K Q hK
  subst hp
  obtain ⟨R, p, _⟩ := hr.split
  obtain ⟨F, hF1, hF2⟩ := hH.sat (p.symm.subset (List.mem_cons_self))
  have hrun := run_storeVar_row (P := P) (t := t) hv hl h1 hF2 hj
  unfold Oper.wp
  simp only [execOp, hA.ev hx, hA.ev hy, Instr.storeAt, Instr.sureAddr, bat, Sem.run_bind, Sem.run_pure, Result.andThen_ok, hrun, Oper.upon]
  refine hK undef _ (hH.turn hr fun F' hF' => ⟨setRow_kp w b _ F' ((hF'.1 b).2 rfl), F', ⟨hF'.1, setRow_heap w b _ _ _ _ hF2⟩, fun b hb => .inr hb⟩)

theorem op_store_own {t sz by_ j Tb szb n cap : Nat} {o : Option Addr} {z v : Value} {zs : List Value} {x y : Operand} {xs xs' vs : List Value} {w0 w : World} {M : Nat → Prop} {H H' : List It} [hi : TIf P t z zs sz by_]
    (hx : ev l x = some (.pointer (some (sat o j)))) (hy : ev l y = some v) (hH : HS w0 M H w) (hr : Rp H (own Tb szb o n cap xs) (own Tb szb o n cap xs') H')
    (hv : v.cells.toList = vs) (hl : vs.length = sz) (h1 : vs.all (·.oneCell') = true) (hsz : 0 < sz) (hj : j + sz ≤ xs.length) (hp : put xs j vs = xs') :
    Op1 P N l ⟨d, .store t x y, T, pos, af, g⟩ w (fun _ w' => HS w0 M H' w') := by
  intro a hA K Q hK
  subst hp
  obtain ⟨R, p, _⟩ := hr.split
  obtain ⟨F, hF⟩ := hH.sat (p.symm.subset (List.mem_cons_self))
  have hF0 := hF
  rcases hF with ⟨rfl, rfl, rfl, rfl, _⟩ | ⟨b, spare, rfl, h2, h3, h4, h5, h6, h7⟩
  · simp at hj; omega
  have hrun := run_storeVar_row (P := P) (t := t) (w := w) (j := j) hv hl h1 h7 (by simp; omega)
  have hput : put (xs ++ spare) j vs = put xs j vs ++ spare := by
    unfold put
    have e1 : j ≤ xs.length := by omega
    have e2 : j + vs.length ≤ xs.length := by omega
    rw [List.take_append_of_le_length e1, List.drop_append_of_le_length e2]
    simp
  rw [hput] at hrun
  unfold Oper.wp
  have e : sat (some ⟨b, 0, none⟩) j = ⟨b, j, none⟩ := by simp [sat, blkO, offO]
  simp only [execOp, hA.ev hx, hA.ev hy, Instr.storeAt, Instr.sureAddr, e, Sem.run_bind, Sem.run_pure, Result.andThen_ok, hrun, Oper.upon]
  refine hK undef _ (hH.turn hr fun F' hF' => ?_)
  rcases hF' with ⟨h0, _⟩ | ⟨b', spare', hb', g2, g3, g4, g5, g6, g7⟩
  · cases h0
  · obtain rfl : b = b' := by simpa using hb'
    have hsp : xs ++ spare = xs ++ spare' := by rw [h7] at g7; simpa using g7
    obtain rfl : spare = spare' := List.append_cancel_left hsp
    refine ⟨setRow_kp w b _ F' ((g2 b).2 rfl), F', .inr ⟨b, spare, rfl, g2, ?_, g4, g5, ?_, setRow_heap w b _ _ _ _ h7⟩, fun b hb => .inr hb⟩
    · rw [put_length (by omega)]; exact g3
    · rw [put_length (by omega)]; exact g6

/-! ## new blocks -/
theorem alloc_kp (w : World) (o : Obj) : Kp w noM (w.alloc o) :=
  ⟨rfl, rfl, rfl, by simp, fun b hb _ => heap_alloc_old w o hb⟩
theorem HS.come_blk {w0 w : World} {M : Nat → Prop} {H : List It} (h : HS w0 M H w) (o : Obj) : HS w0 M (blk w.heap.size o :: H) (w.alloc o) :=
  h.come (alloc_kp w o) (F' := fun x => x = w.heap.size) ⟨fun x => Iff.rfl, heap_alloc_new w o⟩ fun b hb => by omega
theorem HS.come_cb {w0 w : World} {M : Nat → Prop} {H : List It} (h : HS w0 M H w) (T : TypeId) (cs : Array Value) : HS w0 M (cb w.heap.size T cs.toList :: H) (w.alloc (.cells cs T)) := by
  have := h.come_blk (.cells cs T)
  unfold cb
  simpa using this
theorem HS.come_own {w0 w : World} {M : Nat → Prop} {H : List It} (h : HS w0 M H w) (T sz n cap : Nat) (xs spare : List Value) (h1 : xs.length = n * sz) (h2 : n ≤ cap) (h3 : cap ≤ maxLen) (h4 : xs.length + spare.length = cap * sz) :
    HS w0 M (own T sz (some ⟨w.heap.size, 0, none⟩) n cap xs :: H) (w.alloc (.cells (xs ++ spare).toArray T)) :=
  h.come (alloc_kp w _) (F' := fun x => x = w.heap.size) (.inr ⟨_, spare, rfl, fun x => Iff.rfl, h1, h2, h3, h4, heap_alloc_new w _⟩) fun b hb => by omega

theorem op_alloc {t sz by_ : Nat} {z : Value} {zs : List Value} {w0 w : World} {M : Nat → Prop} {H : List It} [hi : TIf P t z zs sz by_] (hH : HS w0 M H w) :
    Op1 P N l ⟨d, .alloc t, T, pos, af, g⟩ w (fun v w' => ∃ b, v = .pointer (some (bat b 0)) ∧ HS w0 M (cb b t zs :: H) w') := by
  intro a hA K Q hK
  obtain ⟨ti, h3, h4, h5, h6⟩ := hi.eq
  unfold Oper.wp
  simp only [execOp, Instr.alloc, zeroValue, typeInfo, Sem.run_bind, run_program, Result.andThen_ok, h3, h4, Sem.run_pure, newVar, newRow, run_newObj, World.alloc_eq, Oper.upon]
  exact hK _ _ ⟨w.heap.size, rfl, by rw [← hi.zc]; exact hH.come_cb t z.cells⟩
theorem op_box {t : Nat} {x : Operand} {v : Value} {w0 w : World} {M : Nat → Prop} {H : List It} (hx : ev l x = some v) (hH : HS w0 M H w) :
    Op1 P N l ⟨d, .box t x, T, pos, af, g⟩ w (fun v' w' => ∃ b, v' = .pointer (some (bat b 0)) ∧ HS w0 M (cb b t v.cells.toList :: H) w') := by
  intro a hA K Q hK
  unfold Oper.wp
  simp only [execOp, hA.ev hx, Instr.box, newVar, newRow, Sem.run_bind, Sem.run_pure, run_newObj, World.alloc_eq, Result.andThen_ok, Oper.upon]
  exact hK _ _ ⟨w.heap.size, rfl, hH.come_cb t v.cells⟩
theorem op_box_agg {t : Nat} {x : Operand} {vs : List Value} {w0 w : World} {M : Nat → Prop} {H : List It} (hx : ev l x = some (.agg vs.toArray)) (hH : HS w0 M H w) :
    Op1 P N l ⟨d, .box t x, T, pos, af, g⟩ w (fun v' w' => ∃ b, v' = .pointer (some (bat b 0)) ∧ HS w0 M (cb b t vs :: H) w') := by
  have := op_box (P := P) (N := N) (l := l) (d := d) (T := T) (pos := pos) (af := af) (g := g) (t := t) hx hH
  simpa [Value.cells] using this
theorem one_cells {v : Value} (h1 : v.oneCell' = true) : v.cells = #[v] := by cases v <;> first | rfl | simp [Value.oneCell'] at h1
theorem op_box1 {t : Nat} {x : Operand} {v : Value} {w0 w : World} {M : Nat → Prop} {H : List It} (hx : ev l x = some v) (h1 : v.oneCell' = true) (hH : HS w0 M H w) :
    Op1 P N l ⟨d, .box t x, T, pos, af, g⟩ w (fun v' w' => ∃ b, v' = .pointer (some (bat b 0)) ∧ HS w0 M (cb b t [v] :: H) w') := by
  have := op_box (P := P) (N := N) (l := l) (d := d) (T := T) (pos := pos) (af := af) (g := g) (t := t) hx hH
  simpa [one_cells h1] using this

/-- a store into a variable of one cell -/
theorem op_store1 {t by_ b Tb : Nat} {z v u : Value} {zs : List Value} {x y : Operand} {w0 w : World} {M : Nat → Prop} {H H' : List It} [hi : TIf P t z zs 1 by_]
    (hx : ev l x = some (.pointer (some (bat b 0)))) (hy : ev l y = some v) (h1 : v.oneCell' = true) (hH : HS w0 M H w) (hr : Rp H (cb b Tb [u]) (cb b Tb [v]) H') :
    Op1 P N l ⟨d, .store t x y, T, pos, af, g⟩ w (fun _ w' => HS w0 M H' w') :=
  op_store_cb (hi := hi) hx hy hH hr (vs := [v]) (by rw [one_cells h1]) rfl (by simp [h1]) (Nat.le_refl _) rfl
/-- a store of a whole struct into its variable -/
theorem op_store_agg {t sz by_ b Tb : Nat} {z : Value} {zs cs vs : List Value} {x y : Operand} {w0 w : World} {M : Nat → Prop} {H H' : List It} [hi : TIf P t z zs sz by_]
    (hx : ev l x = some (.pointer (some (bat b 0)))) (hy : ev l y = some (.agg vs.toArray)) (hH : HS w0 M H w) (hr : Rp H (cb b Tb cs) (cb b Tb vs) H') (hl : vs.length = sz) (hl2 : cs.length = sz) (h1 : vs.all (·.oneCell') = true) :
    Op1 P N l ⟨d, .store t x y, T, pos, af, g⟩ w (fun _ w' => HS w0 M H' w') :=
  op_store_cb (hi := hi) hx hy hH hr (vs := vs) (by simp [Value.cells]) hl h1 (by omega) (by
    unfold put
    rw [List.drop_of_length_le (by omega)]
    simp)
/-- a store of one cell into a block -/
theorem op_store_fld {t by_ b j Tb : Nat} {z v : Value} {zs cs cs' : List Value} {x y : Operand} {w0 w : World} {M : Nat → Prop} {H H' : List It} [hi : TIf P t z zs 1 by_]
    (hx : ev l x = some (.pointer (some (bat b j)))) (hy : ev l y = some v) (h1 : v.oneCell' = true) (hH : HS w0 M H w) (hr : Rp H (cb b Tb cs) (cb b Tb cs') H') (hj : Nat.blt j cs.length = true) (hp : cs.set j v = cs') :
    Op1 P N l ⟨d, .store t x y, T, pos, af, g⟩ w (fun _ w' => HS w0 M H' w') := by
  have hj' : j < cs.length := by simpa using hj
  refine op_store_cb (hi := hi) hx hy hH hr (vs := [v]) (by rw [one_cells h1]) rfl (by simp [h1]) (by omega) ?_
  rw [← hp, List.set_eq_take_append_cons_drop, if_pos hj']
  simp [put]
/-- a store of one cell into a slice of one's own -/
theorem op_store_own1 {t by_ j Tb szb n cap : Nat} {o : Option Addr} {z v : Value} {zs : List Value} {x y : Operand} {xs xs' : List Value} {w0 w : World} {M : Nat → Prop} {H H' : List It} [hi : TIf P t z zs 1 by_]
    (hx : ev l x = some (.pointer (some (sat o j)))) (hy : ev l y = some v) (h1 : v.oneCell' = true) (hH : HS w0 M H w) (hr : Rp H (own Tb szb o n cap xs) (own Tb szb o n cap xs') H') (hj : j < xs.length) (hp : put xs j [v] = xs') :
    Op1 P N l ⟨d, .store t x y, T, pos, af, g⟩ w (fun _ w' => HS w0 M H' w') :=
  op_store_own (hi := hi) hx hy hH hr (vs := [v]) (by rw [one_cells h1]) rfl (by simp [h1]) (by omega) (by omega) hp

/-! ## literals -/
theorem ex_build {t sz by_ : Nat} {z : Value} {zs : List Value} {fl : List (Nat × Nat)} {szs : List (Nat × Nat)} {ps : Array (Nat × Operand)} {vs : List Value} {cs : Array Value} [h : TSt P t fl] [hi : TIf P t z zs sz by_]
    (hsz : ∀ w, (fl.mapM (fun p => do pure (p.2, ← sizeOf p.1)) : Sem (List (Nat × Nat))).run P w = .ok szs w)
    (hv : evL l (ps.toList.map (·.2)) = some vs) (hf : Instr.fill (szs[·]?) z.cells ((ps.toList.map (·.1)).zip vs) = some cs) :
    Ex P N l C ⟨d, .build t ps, T, pos, af, g⟩ (.agg cs) := by
  intro a w hA hC
  obtain ⟨fs, h1, h2⟩ := h.eq
  obtain ⟨ti, h3, h4, h5, h6⟩ := hi.eq
  have hvs := hA.evL hv
  have hps : (ps.map (fun p => (p.1, a.eval p.2))).toList = (ps.toList.map (·.1)).zip vs := by
    rw [← hvs, List.map_map]
    simp [List.zip_map', Function.comp_def]
  have hm : (fs.mapM (fun f => do pure (f.offset, ← sizeOf f.type)) : Sem (Array (Nat × Nat))).run P w = .ok szs.toArray w := by
    have e := hsz w
    rw [← h2, List.mapM_map] at e
    rw [Array.mapM_eq_mapM_toList]
    simp [Function.comp_def] at e
    simp [e]
  simp only [execOp, Instr.build, zeroValue, typeInfo, Sem.run_bind, run_program, Result.andThen_ok, h3, h4, Sem.run_pure, run_underlying h1, hm]
  have hps' : (Array.map (fun x : Nat × Operand => match x with | (i, x) => (i, a.eval x)) ps).toList = (ps.toList.map (·.1)).zip vs := hps
  rw [hps']
  have hf' : Instr.fill (fun x => szs.toArray[x]?) z.cells ((ps.toList.map (·.1)).zip vs) = some cs := by simpa using hf
  rw [hf']
  rfl

theorem fill_full : ∀ (vs pre zs : List Value) (szs : List (Nat × Nat)) (hz : zs.length = vs.length) (h1 : vs.all (·.oneCell') = true)
    (hs : ∀ i, i < vs.length → szs[pre.length + i]? = some (pre.length + i, 1)),
    Instr.fill (szs[·]?) (pre ++ zs).toArray ((List.range' pre.length vs.length).zip vs) = some (pre ++ vs).toArray
  | [], pre, zs, szs, hz, h1, hs => by
    obtain rfl : zs = [] := by simpa using hz
    simp [Instr.fill]
  | v :: vs, pre, [], szs, hz, h1, hs => by simp at hz
  | v :: vs, pre, z :: zs, szs, hz, h1, hs => by
    simp only [List.all_cons, Bool.and_eq_true] at h1
    have h0 := hs 0 (by simp)
    simp only [Nat.add_zero] at h0
    have ih := fill_full vs (pre ++ [v]) zs szs (by simpa using hz) h1.2 fun i hi => by
      have := hs (i + 1) (by simp; omega)
      simp only [List.length_append, List.length_cons, List.length_nil]
      rw [show pre.length + (0 + 1) + i = pre.length + (i + 1) by omega]
      exact this
    simp only [List.length_cons, List.range'_succ, List.zip_cons_cons, Instr.fill, h0, one_cells h1.1]
    have hset : (#[v].zipIdx.foldl (fun cs (p : Value × Nat) => cs.setIfInBounds (pre.length + p.2) p.1) (pre ++ z :: zs).toArray) = (pre ++ [v] ++ zs).toArray := by
      apply Array.ext'
      simp [List.set_append]
    have hset' : (#[v].zipIdx.foldl (fun cs x => match x with | (c, j) => cs.setIfInBounds (pre.length + j) c) (pre ++ z :: zs).toArray) = (pre ++ [v] ++ zs).toArray := hset
    rw [hset']
    simp only [List.length_append, List.length_cons, List.length_nil] at ih
    simpa using ih

/-- a struct literal with all its fields, each of one cell -/
theorem ex_build_full {t sz by_ : Nat} {z : Value} {zs : List Value} {fl : List (Nat × Nat)} {ps : Array (Nat × Operand)} {vs : List Value} [h : TSt P t fl] [hi : TIf P t z zs sz by_]
    (hv : evL l (ps.toList.map (·.2)) = some vs) (hk : ps.toList.map (·.1) = List.range' 0 sz) (hfl : fl.map (·.2) = List.range' 0 sz) (h1 : vs.all (·.oneCell') = true) (hz : zs.length = sz)
    (hsz : ∀ p ∈ fl, ∃ i, P.info? p.1 = some i ∧ i.size = 1) :
    Ex P N l C ⟨d, .build t ps, T, pos, af, g⟩ (.agg vs.toArray) := by
  have hlen : vs.length = sz := by
    have e1 : vs.length = ps.toList.length := by
      have : ∀ (xs : List Operand) (vs : List Value), evL l xs = some vs → vs.length = xs.length := by
        intro xs
        induction xs with
        | nil => intro vs h; simp [evL] at h; simp [← h]
        | cons x xs ih =>
          intro vs h
          simp only [evL] at h
          split at h
          · rename_i v vs' _ h2
            obtain rfl : v :: vs' = vs := by simpa using h
            simp [ih vs' h2]
          · cases h
      simpa using this _ _ hv
    have := congrArg List.length hk
    simp at this
    simp [e1, this]
  have hrun : ∀ (fl : List (Nat × Nat)) (w : World), (∀ p ∈ fl, ∃ i, P.info? p.1 = some i ∧ i.size = 1) → (fl.mapM (fun p => do pure (p.2, ← sizeOf p.1)) : Sem (List (Nat × Nat))).run P w = .ok (fl.map (fun p => (p.2, 1))) w := by
    intro fl w
    induction fl with
    | nil => intro _; simp
    | cons p fl ih =>
      intro hp
      obtain ⟨i, hi1, hi2⟩ := hp p (by simp)
      have := ih fun q hq => hp q (by simp [hq])
      simp only [List.mapM_cons, Sem.run_bind, sizeOf, typeInfo, run_program, Result.andThen_ok, hi1, Sem.run_pure, hi2] at this ⊢
      rw [this]
      simp
  refine ex_build (szs := fl.map (fun p => (p.2, 1))) (fun w => hrun fl w hsz) hv ?_
  have hzc : z.cells = zs.toArray := by apply Array.ext'; simpa using hi.zc
  have hff := fill_full vs [] zs (fl.map (fun p => (p.2, 1))) (by omega) h1 fun i hi' => by
    have : (fl.map (·.2))[i]? = some i := by rw [hfl]; exact List.getElem?_eq_some_iff.2 ⟨by rw [List.length_range']; omega, by rw [List.getElem_range']; omega⟩
    simp only [List.length_nil, Nat.zero_add, List.getElem?_map] at this ⊢
    obtain ⟨q, h1, h2⟩ := Option.map_eq_some_iff.1 this
    simp [h1, h2]
  rw [hk, hzc, ← hlen]
  simpa using hff
end
end Go.Fw
