/-
  More of the frame: a slice of one's own as a block in plain sight; append in place and into a new block; clear; parts that are there, whichever they be. Conditions: none.
  More of the frame: make of what has many cells; shift and or; pairs set in what is ours. Conditions: none.
  A region in which several operations that bring something of their own come up in any order. Conditions: none.
  More of the frame: pointers against nil. Conditions: none.
  More of the frame: what a row of trials does, named once. Each of these takes a goal, does one step by trial, and hands on the goal that is left. Conditions: none.
  Walks over what Go's library gives the heap: slices.Clone, IndexFunc, Delete, BinarySearchFunc, Insert. Conditions: none.
  Walks over what Go's library gives the heap, second part: slices.BinarySearchFunc, Insert. Conditions: none.
-/
import Derived.Test.YtdfhajdejlhamaaRowCyclesMg3
import Derived.Lib.Overlaps
import Derived.Laws.Cover3
import Derived.Laws.Pointers
import Derived.Test.YtdfhajdejlhamaaRows
namespace Go.Fw
open Go Go.RowKit
set_option linter.unusedVariables false

/-! ## a part with something open, a part with a fact -/
def exI {α : Type} (f : α → It) : It where
  sat w F := ∃ x, (f x).sat w F
  loc := fun ⟨x, h⟩ he => ⟨x, (f x).loc h he⟩
  lt := fun ⟨x, h⟩ b hb => (f x).lt h b hb
  ext := fun ⟨x, h⟩ he => ⟨x, (f x).ext h he⟩
def facI (p : Prop) (it : It) : It where
  sat w F := p ∧ it.sat w F
  loc := fun ⟨hp, h⟩ he => ⟨hp, it.loc h he⟩
  lt := fun ⟨_, h⟩ b hb => it.lt h b hb
  ext := fun ⟨hp, h⟩ he => ⟨hp, it.ext h he⟩
theorem HS.exI_open {α : Type} {f : α → It} {w0 w : World} {M : Nat → Prop} {H : List It} (h : HS w0 M (exI f :: H) w) : ∃ x, HS w0 M (f x :: H) w := by
  obtain ⟨hk, F, ⟨F1, F2, hF, hd, ⟨x, h1⟩, h2⟩, ho⟩ := h
  exact ⟨x, hk, F, ⟨F1, F2, hF, hd, h1, h2⟩, ho⟩
theorem HS.exI_shut {α : Type} {f : α → It} {w0 w : World} {M : Nat → Prop} {H : List It} (x : α) (h : HS w0 M (f x :: H) w) : HS w0 M (exI f :: H) w := by
  obtain ⟨hk, F, ⟨F1, F2, hF, hd, h1, h2⟩, ho⟩ := h
  exact ⟨hk, F, ⟨F1, F2, hF, hd, ⟨x, h1⟩, h2⟩, ho⟩
theorem HS.facI_open {p : Prop} {it : It} {w0 w : World} {M : Nat → Prop} {H : List It} (h : HS w0 M (facI p it :: H) w) : p ∧ HS w0 M (it :: H) w := by
  obtain ⟨hk, F, ⟨F1, F2, hF, hd, ⟨hp, h1⟩, h2⟩, ho⟩ := h
  exact ⟨hp, hk, F, ⟨F1, F2, hF, hd, h1, h2⟩, ho⟩
theorem HS.facI_shut {p : Prop} {it : It} {w0 w : World} {M : Nat → Prop} {H : List It} (hp : p) (h : HS w0 M (it :: H) w) : HS w0 M (facI p it :: H) w := by
  obtain ⟨hk, F, ⟨F1, F2, hF, hd, h1, h2⟩, ho⟩ := h
  exact ⟨hk, F, ⟨F1, F2, hF, hd, ⟨hp, h1⟩, h2⟩, ho⟩

/-! ## one's own slice as a block -/
theorem HS.own_block {w0 w : World} {M : Nat → Prop} {H : List It} {T sz n cap : Nat} {o : Option Addr} {xs : List Value} (h : HS w0 M (own T sz o n cap xs :: H) w) (hc : 0 < cap) :
    ∃ b spare, o = some (bat b 0) ∧ n ≤ cap ∧ cap ≤ maxLen ∧ xs.length = n * sz ∧ xs.length + spare.length = cap * sz ∧ HS w0 M (cb b T (xs ++ spare) :: H) w := by
  obtain ⟨F0, hF0⟩ := h.sat (List.mem_cons_self ..)
  rcases hF0 with ⟨_, _, rfl, _⟩ | ⟨b, spare, rfl, g2, g3, g4, g5, g6, g7⟩
  · omega
  refine ⟨b, spare, rfl, g4, g5, g3, g6, h.conv Rp.here fun F hF => ?_⟩
  rcases hF with ⟨h0, _⟩ | ⟨b', spare', hb', q2, q3, q4, q5, q6, q7⟩
  · cases h0
  · obtain rfl : b = b' := by simpa using hb'
    exact ⟨q2, g7⟩
theorem HS.block_own {w0 w : World} {M : Nat → Prop} {H : List It} {T sz n cap b : Nat} {xs spare : List Value} (h : HS w0 M (cb b T (xs ++ spare) :: H) w) (h1 : xs.length = n * sz) (h2 : n ≤ cap) (h3 : cap ≤ maxLen) (h4 : xs.length + spare.length = cap * sz) :
    HS w0 M (own T sz (some (bat b 0)) n cap xs :: H) w :=
  h.conv Rp.here fun F ⟨q1, q2⟩ => .inr ⟨b, spare, rfl, q1, h1, h2, h3, h4, q2⟩
theorem subO_bat (b k c i sz : Nat) : subO (some (bat b k)) c i sz = some (bat b (if c = i then k else k + i * sz)) := by
  unfold subO bat
  split
  · rfl
  · simp [Addr.add]
theorem put_seg {A B C V : List Value} {k : Nat} (hk : k = A.length) (h : B.length = V.length) : put (A ++ (B ++ C)) k V = A ++ (V ++ C) := by
  subst hk
  unfold put
  rw [List.take_append_of_le_length (Nat.le_refl _), List.take_length, ← h, ← List.append_assoc A B C, show A.length + B.length = (A ++ B).length by simp, List.drop_append_of_le_length (Nat.le_refl _), List.drop_length]
  simp
/-- a piece is taken out, what stands behind it moves up, and what is left behind is written over -/
theorem del_cells {A x B zz spare : List Value} (hz : zz.length = x.length) : put (put (A ++ (x ++ (B ++ spare))) A.length B) (A.length + B.length) zz = (A ++ B) ++ (zz ++ spare) := by
  have e1 : A ++ (x ++ (B ++ spare)) = A ++ ((x ++ B).take B.length ++ ((x ++ B).drop B.length ++ spare)) := by
    rw [← List.append_assoc ((x ++ B).take _), List.take_append_drop, List.append_assoc]
  rw [e1, put_seg rfl (by simp), ← List.append_assoc A B, put_seg (by simp) (by simp [hz])]
theorem mid_take {A x B R : List Value} : ((A ++ (x ++ (B ++ R))).drop (A.length + x.length)).take B.length = B := by
  rw [← List.append_assoc, show A.length + x.length = (A ++ x).length by simp, List.drop_append_of_le_length (Nat.le_refl _), List.drop_length]
  simp
/-- a piece is put in, what stood there moves down -/
theorem ins_cells {A v B sp1 sp2 : List Value} (hv : v.length = sp1.length) : put (put (A ++ (B ++ (sp1 ++ sp2))) (A.length + v.length) B) A.length v = (A ++ (v ++ B)) ++ sp2 := by
  have e1 : A ++ (B ++ (sp1 ++ sp2)) = (A ++ (B ++ sp1).take v.length) ++ ((B ++ sp1).drop v.length ++ sp2) := by
    rw [List.append_assoc, ← List.append_assoc ((B ++ sp1).take _), List.take_append_drop, List.append_assoc]
  rw [e1, put_seg (by simp; omega) (by simp; omega), List.append_assoc A, put_seg rfl (by simp; omega)]
  simp
theorem bat_sat (b k j : Nat) : sat (some (bat b k)) j = bat b (k + j) := rfl
/-- what a block holds can be read from each of its places -/
theorem HS.cb_rd {w0 w : World} {M : Nat → Prop} {H : List It} {b T : Nat} {cs : List Value} (h : HS w0 M H w) (hm : cb b T cs ∈ H) (k : Nat) : Rd w (some (bat b k)) (cs.drop k) := by
  obtain ⟨F, hF⟩ := h.sat hm
  refine ⟨fun _ => ⟨b, k, rfl⟩, fun j u hj => ?_⟩
  rw [bat_sat]
  rw [List.getElem?_drop] at hj
  have := cell_of_cells hF.2 (k + j)
  unfold bat
  rw [this]
  simpa using hj

theorem HS.cb_news {w0 w : World} {M : Nat → Prop} {H : List It} {b T k m : Nat} {cs : List Value} (h : HS w0 M H w) (hm : cb b T cs ∈ H) : ∀ j u, ((cs.drop k).take m)[j]? = some u → w.cell? ((bat b k).add j) = some u := by
  intro j u hj
  have hjl := (List.getElem?_eq_some_iff.1 hj).1
  rw [List.length_take] at hjl
  rw [List.getElem?_take_of_lt (by omega)] at hj
  rw [bat_add]
  exact (h.cb_rd hm k).2 j u hj
theorem Rd.news {w : World} {a : Addr} {xs : List Value} (h : Rd w (some a) xs) : ∀ j u, xs[j]? = some u → w.cell? (a.add j) = some u := by
  intro j u hj
  obtain ⟨b, off, hb⟩ := h.1 (by have := (List.getElem?_eq_some_iff.1 hj).1; omega)
  obtain rfl : a = ⟨b, off, none⟩ := by simpa using hb
  rw [add_eq_sat]
  exact h.2 j u hj

section
variable {P : Program} {N : Nat} {l : List (Nat × Value)} {C : World → Prop} {d : Option Tmp} {T : TypeId} {pos : String} {af : Array Edge} {g : Option (Nat × Bool)}
theorem ex_slice_lo_b {t e sz by_ k n c b k0 q : Nat} {z : Value} {zs : List Value} {x y : Operand} {kd : IntKind} {m : Int} [ht : TSl P t e] [hi : TIf P e z zs sz by_]
    (hx : ev l x = some (.slice (some (bat b k0)) n c)) (hy : ev l y = some (.int kd m)) (hk : m = (k : Int)) (hkn : k ≤ n) (hq : (if c = k then k0 else k0 + k * sz) = q) : Ex P N l C ⟨d, .slice t x (some y) none none, T, pos, af, g⟩ (.slice (some (bat b q)) (n - k) (c - k)) := by
  have := ex_slice_lo (P := P) (N := N) (l := l) (C := C) (d := d) (T := T) (pos := pos) (af := af) (g := g) (ht := ht) (hi := hi) hx hy hk hkn
  rw [subO_bat, hq] at this
  exact this
theorem ex_slice_lh {t e sz by_ i j n c : Nat} {z : Value} {zs : List Value} {x y y2 : Operand} {o : Option Addr} {kd kd2 : IntKind} {m m2 : Int} [ht : TSl P t e] [hi : TIf P e z zs sz by_]
    (hx : ev l x = some (.slice o n c)) (hy : ev l y = some (.int kd m)) (hy2 : ev l y2 = some (.int kd2 m2)) (hk : m = (i : Int)) (hk2 : m2 = (j : Int)) (hij : i ≤ j) (hjc : j ≤ c) :
    Ex P N l C ⟨d, .slice t x (some y) (some y2) none, T, pos, af, g⟩ (.slice (subO o c i sz) (j - i) (c - i)) := by
  intro a w hA _
  subst hk; subst hk2
  obtain ⟨ti, h3, h4, h5, h6⟩ := hi.eq
  have h1 : (j : Int) ≤ (c : Int) := by omega
  have h2 : (i : Int) ≤ (j : Int) := by omega
  simp only [execOp, hA.ev hx, Instr.sliceAt, Sem.run_bind, run_underlying ht.eq, Result.andThen_ok, Instr.slice, Instr.sliceBounds, Option.map_some, Option.map_none, Sem.run_pure, hA.ev hy, hA.ev hy2, Instr.sliceBound, asIntOf]
  simp [h1, h2, hij, hjc, sizeOf, typeInfo, h3, h5, subO]
theorem ex_slice_lh_b {t e sz by_ i j n c b k0 q : Nat} {z : Value} {zs : List Value} {x y y2 : Operand} {kd kd2 : IntKind} {m m2 : Int} [ht : TSl P t e] [hi : TIf P e z zs sz by_]
    (hx : ev l x = some (.slice (some (bat b k0)) n c)) (hy : ev l y = some (.int kd m)) (hy2 : ev l y2 = some (.int kd2 m2)) (hk : m = (i : Int)) (hk2 : m2 = (j : Int)) (hij : i ≤ j) (hjc : j ≤ c) (hq : (if c = i then k0 else k0 + i * sz) = q) :
    Ex P N l C ⟨d, .slice t x (some y) (some y2) none, T, pos, af, g⟩ (.slice (some (bat b q)) (j - i) (c - i)) := by
  have := ex_slice_lh (P := P) (N := N) (l := l) (C := C) (d := d) (T := T) (pos := pos) (af := af) (g := g) (ht := ht) (hi := hi) hx hy hy2 hk hk2 hij hjc
  rw [subO_bat, hq] at this
  exact this
theorem ex_slice_3 {t e sz by_ i j k n c : Nat} {z : Value} {zs : List Value} {x y y2 y3 : Operand} {o : Option Addr} {kd kd2 kd3 : IntKind} {m m2 m3 : Int} [ht : TSl P t e] [hi : TIf P e z zs sz by_]
    (hx : ev l x = some (.slice o n c)) (hy : ev l y = some (.int kd m)) (hy2 : ev l y2 = some (.int kd2 m2)) (hy3 : ev l y3 = some (.int kd3 m3)) (hk : m = (i : Int)) (hk2 : m2 = (j : Int)) (hk3 : m3 = (k : Int)) (hij : i ≤ j) (hjk : j ≤ k) (hkc : k ≤ c) :
    Ex P N l C ⟨d, .slice t x (some y) (some y2) (some y3), T, pos, af, g⟩ (.slice (subO o k i sz) (j - i) (k - i)) := by
  intro a w hA _
  subst hk; subst hk2; subst hk3
  obtain ⟨ti, h3, h4, h5, h6⟩ := hi.eq
  have h0 : (k : Int) ≤ (c : Int) := by omega
  have h1 : (j : Int) ≤ (k : Int) := by omega
  have h2 : (i : Int) ≤ (j : Int) := by omega
  simp only [execOp, hA.ev hx, Instr.sliceAt, Sem.run_bind, run_underlying ht.eq, Result.andThen_ok, Instr.slice, Instr.sliceBounds, Option.map_some, Option.map_none, Sem.run_pure, hA.ev hy, hA.ev hy2, hA.ev hy3, Instr.sliceBound, asIntOf]
  simp [h0, h1, h2, hij, hjk, hkc, sizeOf, typeInfo, h3, h5, subO]
theorem ex_eqlNil {t e ty : TypeId} {x y : Operand} {o : Option Addr} {n c : Nat} [ht : TSl P t e] (hx : ev l x = some (.slice o n c)) (hy : ev l y = some (.slice none 0 0)) : Ex P N l C ⟨d, .binOp .eql t x y ty, T, pos, af, g⟩ (.bool o.isNone) := by
  intro a w hA _
  simp [execOp, hA.ev hx, hA.ev hy, eqGuard_at_slice, binOp, run_equal_slice_nil w t e o n c ht.eq]
theorem ex_max {ats : Array TypeId} {x y : Operand} {k k' : IntKind} {m n : Int} (hx : ev l x = some (.int k m)) (hy : ev l y = some (.int k' n)) : Ex P N l C ⟨d, .call ⟨.builtin .max, #[x, y], ats⟩, T, pos, af, g⟩ (.int k (if n > m then n else m)) := by
  intro a w hA _
  simp [execOp, resolve, invoke, builtin, hA.ev hx, hA.ev hy, run_max_int2]

/-- append in place -/
theorem op_append_in {t e sz by_ n cap m c b : Nat} {z : Value} {zs : List Value} {ad : Addr} {x y : Operand} {cells news : List Value} {w0 w : World} {M : Nat → Prop} {H H' : List It} [ht : TSl P t e] [hi : TIf P e z zs sz by_]
    (hx : ev l x = some (.slice (some (bat b 0)) n cap)) (hy : ev l y = some (.slice (some ad) m c)) (hH : HS w0 M H w) (hnews : ∀ j u, news[j]? = some u → w.cell? (ad.add j) = some u) (hl : news.length = m * sz)
    (h1 : news.all (·.oneCell') = true) (hroom : n + m ≤ cap) (hfit : n * sz + news.length ≤ cells.length) (hr : Rp H (cb b e cells) (cb b e (put cells (n * sz) news)) H') :
    Op1 P N l ⟨d, .call ⟨.builtin .append, #[x, y], #[t, t]⟩, T, pos, af, g⟩ w (fun v w' => v = .slice (some (bat b 0)) (n + m) cap ∧ HS w0 M H' w') := by
  intro a hA K Q hK
  obtain ⟨ti, h3, h4, h5, h6⟩ := hi.eq
  obtain ⟨R, p, _⟩ := hr.split
  obtain ⟨F, hF1, hF2⟩ := hH.sat (p.symm.subset (List.mem_cons_self))
  have hrun := run_append_room (P := P) w t T e ti ht.eq h3 b n cap cells.toArray hF2 ad m c news (by rw [h5]; exact hl) hnews (fun u hu => List.all_eq_true.1 h1 u hu) hroom (by rw [h5]; simpa using hfit)
  rw [h5] at hrun
  unfold Oper.wp
  simp only [execOp, resolve, invoke, builtin, Sem.run_bind, Sem.run_pure, Result.andThen_ok, List.map_toArray, List.map_cons, List.map_nil, hA.ev hx, hA.ev hy, Oper.upon]
  have e0 : (some (bat b 0) : Option Addr) = some ⟨b, 0, none⟩ := rfl
  rw [e0, hrun]
  exact hK _ _ ⟨rfl, hH.turn hr fun F' hF' => ⟨setRow_kp w b _ F' ((hF'.1 b).2 rfl), F', ⟨hF'.1, setRow_heap w b _ _ _ _ hF2⟩, fun b hb => .inr hb⟩⟩

/-- append into a new block: what was there stays -/
theorem op_append_new {t e sz by_ n cap m c : Nat} {z : Value} {zs : List Value} {a0 ad : Addr} {x y : Operand} {xs news : List Value} {w0 w : World} {M : Nat → Prop} {H : List It} [ht : TSl P t e] [hi : TIf P e z zs sz by_]
    (hx : ev l x = some (.slice (some a0) n cap)) (hy : ev l y = some (.slice (some ad) m c)) (hH : HS w0 M H w) (holds : ∀ j u, xs[j]? = some u → w.cell? (a0.add j) = some u) (hlo : xs.length = n * sz)
    (hnews : ∀ j u, news[j]? = some u → w.cell? (ad.add j) = some u) (hl : news.length = m * sz) (hzs0 : zs.length = sz) (hgrow : cap < n + m) (h63 : n + m ≤ maxLen) (hby : (n + m) * by_ ≤ 140737488355328) (hnc : n ≤ cap) :
    Op1 P N l ⟨d, .call ⟨.builtin .append, #[x, y], #[t, t]⟩, T, pos, af, g⟩ w (fun v w' => ∃ o' cap', v = .slice o' (n + m) cap' ∧ HS w0 M (own e sz o' (n + m) cap' (xs ++ news) :: H) w') := by
  intro a hA K Q hK
  obtain ⟨ti, h3, h4, h5, h6⟩ := hi.eq
  have hzs : z.cells.size = sz := by rw [← hzs0, ← hi.zc]; simp
  subst h5; subst h6
  have hm63 : n + m ≤ 9223372036854775807 := by simp only [maxLen] at h63; omega
  have hrun := run_append_grow (P := P) w t T e ti z ht.eq h3 h4 a0 n cap xs hlo holds ad m c news hl hnews hgrow (by omega) (growslice_fits (by omega) hby)
  have hge := grownCap_ge w (n + m) cap e
  have hcm : grownCap w (n + m) cap e ≤ maxLen := grownCap_le_maxLen w (n + m) cap e h63
  unfold Oper.wp
  simp only [execOp, resolve, invoke, builtin, Sem.run_bind, Sem.run_pure, Result.andThen_ok, List.map_toArray, List.map_cons, List.map_nil, hA.ev hx, hA.ev hy, hrun, Oper.upon]
  have hc := hH.drew.come_own e ti.size (n + m) (grownCap w (n + m) cap e) (xs ++ news) (Builtin.zeroCells z.cells (grownCap w (n + m) cap e - (n + m))).toList (by rw [List.length_append, hlo, hl, Nat.add_mul]) hge hcm (by
    rw [List.length_append, hlo, hl, ← Nat.add_mul, Array.length_toList, size_zeroCells, hzs, ← Nat.add_mul]
    congr 1
    omega)
  refine hK _ _ ⟨_, _, rfl, ?_⟩
  have e1 : (xs ++ news ++ (Builtin.zeroCells z.cells (grownCap w (n + m) cap e - (n + m))).toList).toArray = xs.toArray ++ news.toArray ++ Builtin.zeroCells z.cells (grownCap w (n + m) cap e - (n + m)) := by
    apply Array.ext'
    simp
  rw [e1] at hc
  exact hc

/-- append(s, make([]T, k)...) into a new block -/
theorem op_append_mk {t tn e sz by_ n cap k : Nat} {kd : IntKind} {z : Value} {zs : List Value} {a0 : Addr} {x y : Operand} {xs : List Value} {mk : Int} {w0 w : World} {M : Nat → Prop} {H : List It} [ht : TSl P t e] [hi : TIf P e z zs sz by_] [hn : TIn P tn kd]
    (hx : ev l x = some (.slice (some a0) n cap)) (hy : ev l y = some (.int .i64 mk)) (hmk : mk = (k : Int)) (hH : HS w0 M H w) (holds : ∀ j u, xs[j]? = some u → w.cell? (a0.add j) = some u) (hlo : xs.length = n * sz)
    (hzs0 : zs.length = sz) (hsz : 0 < sz) (hgrow : cap < n + k) (h63 : n + k ≤ maxLen) (hby : (n + k) * by_ ≤ 140737488355328) (hnc : n ≤ cap) :
    Op1 P N l ⟨d, .call ⟨.builtin .append, #[x, y], #[t, tn]⟩, T, pos, af, g⟩ w (fun v w' => ∃ o' cap' rest, v = .slice o' (n + k) cap' ∧ rest.length = k * sz ∧ HS w0 M (own e sz o' (n + k) cap' (xs ++ rest) :: H) w') := by
  intro a hA K Q hK
  subst hmk
  obtain ⟨ti, h3, h4, h5, h6⟩ := hi.eq
  have hzs : z.cells.size = sz := by rw [← hzs0, ← hi.zc]; simp
  subst h5; subst h6
  have hm63 : n + k ≤ 9223372036854775807 := by simp only [maxLen] at h63; omega
  have hge := grownCap_ge w (n + k) cap e
  have hcm : grownCap w (n + k) cap e ≤ maxLen := grownCap_le_maxLen w (n + k) cap e h63
  have hfit : Builtin.nextslicecap (n + k) cap * ti.bytes ≤ 281474976710656 := growslice_fits (by omega) hby
  have hwk : IntKind.i64.wrap (k : Int) = k := wrap_i64 ⟨by omega, by omega⟩
  have hk0 : ¬ (k * ti.size = 0) := by
    have : 0 < k := by omega
    exact Nat.ne_of_gt (Nat.mul_pos this hsz)
  have hkb : ¬ (281474976710656 < (k : Int) * (ti.bytes : Int)) := by
    have h1 : k * ti.bytes ≤ (n + k) * ti.bytes := Nat.mul_le_mul_right _ (by omega)
    rw [← Int.natCast_mul]
    omega
  have hng : ¬ (n + k ≤ cap) := by omega
  have h63' : ¬ (9223372036854775807 < ((n : Int) + (k : Int))) := by omega
  have h48' : ¬ (281474976710656 < Builtin.nextslicecap (n + k) cap * ti.bytes) := by omega
  have hfo := run_firstCells_some (P := P) w.drew ti.size n a0 n cap xs hlo (by simpa using holds)
  have hrun : (Builtin.append_ #[t, tn] T #[.slice (some a0) n cap, .int .i64 (k : Int)]).run P w =
      .ok (.slice (some ⟨w.heap.size, 0, none⟩) (n + k) (grownCap w (n + k) cap e)) (w.drew.alloc (.cells (xs.toArray ++ Builtin.zeroCells z.cells k ++ Builtin.zeroCells z.cells (grownCap w (n + k) cap e - (n + k))) e)) := by
    simp [Builtin.append_, run_underlying ht.eq, run_underlying hn.eq, sizeOf, typeInfo, zeroValue, h3, h4, asInt, asIntOf, hwk, hkb, hk0, hng, h63', h48', Question.forced, hfo, newRow, grownCap, show ¬ ((k : Int) < 0) by omega]
  unfold Oper.wp
  simp only [execOp, resolve, invoke, builtin, Sem.run_bind, Sem.run_pure, Result.andThen_ok, List.map_toArray, List.map_cons, List.map_nil, hA.ev hx, hA.ev hy, hrun, Oper.upon]
  have hc := hH.drew.come_own e ti.size (n + k) (grownCap w (n + k) cap e) (xs ++ (Builtin.zeroCells z.cells k).toList) (Builtin.zeroCells z.cells (grownCap w (n + k) cap e - (n + k))).toList (by rw [List.length_append, hlo, Array.length_toList, size_zeroCells, hzs, Nat.add_mul]) hge hcm (by
    rw [List.length_append, hlo, Array.length_toList, size_zeroCells, hzs, ← Nat.add_mul, Array.length_toList, size_zeroCells, hzs, ← Nat.add_mul]
    congr 1
    omega)
  refine hK _ _ ⟨_, _, (Builtin.zeroCells z.cells k).toList, rfl, by rw [Array.length_toList, size_zeroCells, hzs], ?_⟩
  have e1 : (xs ++ (Builtin.zeroCells z.cells k).toList ++ (Builtin.zeroCells z.cells (grownCap w (n + k) cap e - (n + k))).toList).toArray = xs.toArray ++ Builtin.zeroCells z.cells k ++ Builtin.zeroCells z.cells (grownCap w (n + k) cap e - (n + k)) := by
    apply Array.ext'
    simp
  rw [e1] at hc
  exact hc

/-- copy into a block -/
theorem op_copy_cb {t e sz by_ m nd cd cs k b : Nat} {z : Value} {zs : List Value} {ad : Addr} {x y : Operand} {cells news : List Value} {ty : TypeId} {w0 w : World} {M : Nat → Prop} {H H' : List It} [ht : TSl P t e] [hi : TIf P e z zs sz by_]
    (hx : ev l x = some (.slice (some (bat b k)) nd cd)) (hy : ev l y = some (.slice (some ad) m cs)) (hH : HS w0 M H w) (hnews : ∀ j u, news[j]? = some u → w.cell? (ad.add j) = some u) (hl : news.length = Nat.min m nd * sz)
    (h1 : news.all (·.oneCell') = true) (hk : k + news.length ≤ cells.length) (hr : Rp H (cb b e cells) (cb b e (put cells k news)) H') :
    Op1 P N l ⟨d, .call ⟨.builtin .copy, #[x, y], #[t, ty]⟩, T, pos, af, g⟩ w (fun v w' => v = .int .i64 (Nat.min m nd) ∧ HS w0 M H' w') := by
  intro a hA K Q hK
  obtain ⟨ti, h3, h4, h5, h6⟩ := hi.eq
  obtain ⟨R, p, _⟩ := hr.split
  obtain ⟨F, hF1, hF2⟩ := hH.sat (p.symm.subset (List.mem_cons_self))
  have hload : (loadCells ad news.length).run P w = .ok news.toArray w := run_loadCells_list (P := P) w ad news hnews
  have hst := run_storeCells_at (P := P) b k e news 0 cells.toArray w hF2 (by simpa using hk) (fun x hx => List.all_eq_true.1 h1 x hx)
  simp only [Nat.add_zero] at hst
  have hrun : (Builtin.copy_ #[t, ty] T #[.slice (some ⟨b, k, none⟩) nd cd, .slice (some ad) m cs]).run P w = .ok (.int .i64 (Nat.min m nd)) (w.setRow b (put cells k news).toArray) := by
    simp [Builtin.copy_, run_underlying ht.eq, Builtin.lenOf, Builtin.firstCells, sizeOf, typeInfo, h3, h5, ← hl, hload, hst, goInt, put]
  unfold Oper.wp
  have e0 : (some (bat b k) : Option Addr) = some ⟨b, k, none⟩ := rfl
  simp only [execOp, resolve, invoke, builtin, Sem.run_bind, Sem.run_pure, Result.andThen_ok, List.map_toArray, List.map_cons, List.map_nil, hA.ev hx, hA.ev hy, e0, hrun, Oper.upon]
  exact hK _ _ ⟨rfl, hH.turn hr fun F' hF' => ⟨setRow_kp w b _ F' ((hF'.1 b).2 rfl), F', ⟨hF'.1, setRow_heap w b _ _ _ _ hF2⟩, fun b hb => .inr hb⟩⟩

/-- clear a part of a block -/
theorem op_clear_cb {t e sz by_ n c k b : Nat} {z : Value} {zs : List Value} {x : Operand} {cells : List Value} {w0 w : World} {M : Nat → Prop} {H : List It} [ht : TSl P t e] [hi : TIf P e z zs sz by_]
    (hx : ev l x = some (.slice (some (bat b k)) n c)) (hn : 0 < n) (hH : HS w0 M (cb b e cells :: H) w) (hzs0 : zs.length = sz) (h1 : zs.all (·.oneCell') = true) (hk : k + n * sz ≤ cells.length) :
    Op1 P N l ⟨d, .call ⟨.builtin .clear, #[x], #[t]⟩, T, pos, af, g⟩ w (fun v w' => ∃ zz : List Value, zz.length = n * sz ∧ HS w0 M (cb b e (put cells k zz) :: H) w') := by
  intro a hA K Q hK
  obtain ⟨ti, h3, h4, h5, h6⟩ := hi.eq
  have hzs : z.cells.size = sz := by rw [← hzs0, ← hi.zc]; simp
  obtain ⟨F, hF1, hF2⟩ := hH.sat (List.mem_cons_self)
  have hlen : (Builtin.zeroCells z.cells n).toList.length = n * sz := by rw [Array.length_toList, size_zeroCells, hzs]
  have hone : ∀ v ∈ (Builtin.zeroCells z.cells n).toList, v.oneCell' = true := by
    intro v hv
    simp only [Builtin.zeroCells, Array.toList_map, Array.toList_range, List.mem_map, List.mem_range] at hv
    obtain ⟨i, hi', rfl⟩ := hv
    have hpos : 0 < z.cells.size := by
      rcases Nat.eq_zero_or_pos z.cells.size with h0 | h0
      · rw [h0] at hi'; omega
      · exact h0
    have hlt : i % z.cells.size < z.cells.size := Nat.mod_lt _ hpos
    rw [getElem!_pos z.cells _ hlt]
    refine List.all_eq_true.1 h1 _ ?_
    rw [← hi.zc]
    exact Array.getElem_mem_toList hlt
  have hst := run_storeCells_at (P := P) b k e (Builtin.zeroCells z.cells n).toList 0 cells.toArray w hF2 (by rw [hlen]; simpa using hk) hone
  simp only [Nat.add_zero] at hst
  obtain ⟨n', rfl⟩ : ∃ n', n = n' + 1 := ⟨n - 1, by omega⟩
  have hrun : (Builtin.clear_ #[t] T #[.slice (some ⟨b, k, none⟩) (n' + 1) c]).run P w = .ok (.tuple #[]) (w.setRow b (put cells k (Builtin.zeroCells z.cells (n' + 1)).toList).toArray) := by
    simp [Builtin.clear_, run_underlying ht.eq, zeroValue, typeInfo, h3, h4, hst, put]
  unfold Oper.wp
  have e0 : (some (bat b k) : Option Addr) = some ⟨b, k, none⟩ := rfl
  simp only [execOp, resolve, invoke, builtin, Sem.run_bind, Sem.run_pure, Result.andThen_ok, List.map_toArray, List.map_cons, List.map_nil, hA.ev hx, e0, hrun, Oper.upon]
  exact hK _ _ ⟨_, hlen, hH.turn Rp.here fun F' hF' => ⟨setRow_kp w b _ F' ((hF'.1 b).2 rfl), F', ⟨hF'.1, setRow_heap w b _ _ _ _ hF2⟩, fun b hb => .inr hb⟩⟩
theorem HS.cb_ne {w0 w : World} {M : Nat → Prop} {H : List It} {b1 b2 T1 T2 : Nat} {c1 c2 : List Value} (h : HS w0 M (cb b1 T1 c1 :: cb b2 T2 c2 :: H) w) : b1 ≠ b2 := by
  obtain ⟨hk, F, ⟨F1, F2, hF, hd, h1, ⟨F3, F4, hG, hd', h3, h4⟩⟩, ho⟩ := h
  rintro rfl
  exact hd b1 ((h1.1 b1).2 rfl) ((hG b1).2 (.inl ((h3.1 b1).2 rfl)))
/-- two slices in two blocks -/
theorem op_overlaps {f : FuncId} {fn : Func} {t tR e sz by_ b1 k1 la ca b2 k2 lb cb_ T1 T2 : Nat} {z : Value} {zs : List Value} {x y : Operand} {c1 c2 : List Value} {ats : Array TypeId} {w0 w : World} {M : Nat → Prop} {H : List It} [ht : TSl P t e] [hi : TIf P e z zs sz by_]
    (hf : P.funcs[f]? = some fn) (hname : (fn.name == "runtime.NumGoroutine") = false) (hb : fn.body.isNone = true) (hn : Extern.findNext fn = none) (he : Extern.find fn = some (Extern.SlicesOverlaps.overlaps #[t, t] #[tR]))
    (hx : ev l x = some (.slice (some (bat b1 k1)) la ca)) (hy : ev l y = some (.slice (some (bat b2 k2)) lb cb_)) (hH : HS w0 M H w) (h1 : cb b1 T1 c1 ∈ H) (h2 : cb b2 T2 c2 ∈ H) (hne : b1 ≠ b2) (hc2 : c2.length ≠ 0) :
    Op1 P N l ⟨d, .call ⟨.value (.func f), #[x, y], ats⟩, T, pos, af, g⟩ w (fun v w' => v = .bool false ∧ w' = w) := by
  intro a hA K Q hK
  obtain ⟨ti, h3, h4, h5, h6⟩ := hi.eq
  obtain ⟨F1, q1, q2⟩ := hH.sat h1
  obtain ⟨F2, q3, q4⟩ := hH.sat h2
  have hz : ∀ w, (Go.sizeOf e).run P w = .ok sz w := fun w => by simp [sizeOf, typeInfo, h3, h5]
  have hov := Go.Lib.run_overlaps_apart (P := P) w t tR e ht.eq sz hz (bat b1 k1) (bat b2 k2) la ca lb cb_ hne T1 T2 c1.length c2.length (by simp [World.shape?, bat, q2]) (by simp [World.shape?, bat, q4]) hc2 (by simp [World.frozen?, bat, q2]) (by simp [World.frozen?, bat, q2])
  have hcall : (callFunc f #[.slice (some (bat b1 k1)) la ca, .slice (some (bat b2 k2)) lb cb_]).run P w = .ok (.value (.bool false)) w := by
    rw [run_callFunc_extern hf hname hb hn he, hov]
    rfl
  have hfe : a.eval (.func f) = .func (.func f) #[] #[] := rfl
  unfold Oper.wp
  simp only [execOp, resolve, hfe, Deferred.ofValue, Sem.run_bind, Sem.run_pure, Result.andThen_ok, List.map_toArray, List.map_cons, List.map_nil, hA.ev hx, hA.ev hy, invoke, Array.append_empty, Array.empty_append, hcall, Oper.upon]
  exact hK _ _ ⟨rfl, rfl⟩
end
end Go.Fw
namespace Go.Fw
open Go Go.RowKit
set_option linter.unusedVariables false
def shlK (k : IntKind) (m n : Int) : Int := k.wrap (m * 2 ^ (min n.toNat k.bits))
def orK (k : IntKind) (m n : Int) : Int := k.wrap ((BitVec.ofInt k.bits m ||| BitVec.ofInt k.bits n).toNat)
theorem made_flatN {α : Type} {enc : α → List Value} {z : Value} {zs : List Value} {x : α} {sz : Nat} (henc : ∀ x, (enc x).length = sz) (hz : z.cells.toList = zs) (he : enc x = zs) (hsz : 0 < sz) (n : Nat) : (madeCells z.cells (n * sz)).toList.take (n * sz) = flat enc (List.replicate n x) := by
  have hs : z.cells.size = sz := by rw [← henc x, he, ← hz]; simp
  rw [List.take_of_length_le (by simp [size_madeCells])]
  apply List.ext_getElem?
  intro i
  by_cases hi : i < n * sz
  · have hm : i % sz < sz := Nat.mod_lt _ hsz
    have hd : i / sz < n := by
      rw [Nat.div_lt_iff_lt_mul hsz]
      exact hi
    obtain ⟨v, hv⟩ : ∃ v, (enc x)[i % sz]? = some v := ⟨_, List.getElem?_eq_getElem (by rw [henc]; exact hm)⟩
    have h1 := flat_get henc (l := List.replicate n x) (i := i / sz) (off := i % sz) (x := x) (by simp [hd]) hv
    rw [show i / sz * sz + i % sz = i by rw [Nat.mul_comm]; exact Nat.div_add_mod i sz] at h1
    rw [h1]
    rw [he, ← hz] at hv
    have h2 : i % z.cells.size < z.cells.size := by rw [hs]; exact hm
    have h3 : z.cells[i % sz]? = some v := by simpa using hv
    simp only [madeCells, Array.toList_map, Array.toList_range]
    rw [List.getElem?_map, List.getElem?_range hi, Option.map_some, hs]
    rw [getElem!_def, h3]
  · have h1 : (flat enc (List.replicate n x)).length = n * sz := by rw [flat_length henc, List.length_replicate]
    rw [List.getElem?_eq_none (by rw [Array.length_toList, size_madeCells]; omega), List.getElem?_eq_none (by omega)]
section
variable {P : Program} {N : Nat} {l : List (Nat × Value)} {C : World → Prop} {d : Option Tmp} {T : TypeId} {pos : String} {af : Array Edge} {g : Option (Nat × Bool)}
/-- make([]T, n) -/
theorem op_make {α : Type} (enc : α → List Value) (x0 : α) {t e sz by_ : Nat} {z : Value} {zs : List Value} {x y : Operand} {kl kc : IntKind} {n : Nat} {m m' : Int} {w0 w : World} {M : Nat → Prop} {H : List It} [ht : TSl P t e] [hi : TIf P e z zs sz by_]
    (hx : ev l x = some (.int kl m)) (hy : ev l y = some (.int kc m')) (hm : m = (n : Int)) (hm' : m' = (n : Int)) (hc : n ≤ maxLen) (hb : by_ * n ≤ 140737488355328) (henc : ∀ x, (enc x).length = sz) (he : enc x0 = zs) (hsz : 0 < sz) (hH : HS w0 M H w) :
    Op1 P N l ⟨d, .makeSlice t x y, T, pos, af, g⟩ w (fun v w' => ∃ o, v = .slice o n n ∧ HS w0 M (own e sz o n n (flat enc (List.replicate n x0)) :: H) w') := by
  subst hm; subst hm'
  have := op_makeSlice (P := P) (N := N) (l := l) (d := d) (T := T) (pos := pos) (af := af) (g := g) (t := t) (e := e) hx hy (Nat.le_refl n) hc hb hH
  rw [made_flatN henc hi.zc he hsz] at this
  exact this
theorem ex_shl {t ty : TypeId} {x y : Operand} {k k2 : IntKind} {m n v : Int} (hx : ev l x = some (.int k m)) (hy : ev l y = some (.int k2 n)) (hn : 0 ≤ n) (hv : shlK k m n = v) : Ex P N l C ⟨d, .binOp .shl t x y ty, T, pos, af, g⟩ (.int k v) := by
  intro a w hA _
  subst hv
  simp only [execOp, hA.ev hx, hA.ev hy, eqGuard_at_int, binOp_shl]
  simp [Op.shift, shlK, show ¬ n < 0 by omega]
theorem ex_or {t ty : TypeId} {x y : Operand} {k : IntKind} {m n v : Int} (hx : ev l x = some (.int k m)) (hy : ev l y = some (.int k n)) (hv : orK k m n = v) : Ex P N l C ⟨d, .binOp .or t x y ty, T, pos, af, g⟩ (.int k v) := by
  intro a w hA _
  subst hv
  simp only [execOp, hA.ev hx, hA.ev hy, eqGuard_at_int, binOp_or]
  simp [Op.intBits, orK]
/-- a struct literal with some of its fields, each of one cell -/
theorem ex_build_p {t sz by_ : Nat} {z : Value} {zs : List Value} {fl : List (Nat × Nat)} {ps : Array (Nat × Operand)} {vs : List Value} (cs : Array Value) [h : TSt P t fl] [hi : TIf P t z zs sz by_]
    (hv : evL l (ps.toList.map (·.2)) = some vs) (hsz : ∀ p ∈ fl, ∃ i, P.info? p.1 = some i ∧ i.size = 1) (hf : Instr.fill ((fl.map (fun p => (p.2, 1)))[·]?) zs.toArray ((ps.toList.map (·.1)).zip vs) = some cs) :
    Ex P N l C ⟨d, .build t ps, T, pos, af, g⟩ (.agg cs) := by
  have hrun : ∀ (fl : List (Nat × Nat)) (w : World), (∀ p ∈ fl, ∃ i, P.info? p.1 = some i ∧ i.size = 1) → (fl.mapM (fun p => do pure (p.2, ← sizeOf p.1)) : Sem (List (Nat × Nat))).run P w = .ok (fl.map (fun p => (p.2, 1))) w := by
    intro fl w
    induction fl with
    | nil => intro _; simp
    | cons p fl ih =>
      intro hp
      obtain ⟨i, hi1, hi2⟩ := hp p (by simp)
      have := ih fun q hq => hp q (by simp [hq])
      simp only [List.mapM_cons, Sem.run_bind, sizeOf, typeInfo, run_program, Result.andThen_ok, hi1, Sem.run_pure, hi2] at this ⊢
      rw [this]
      simp
  have hzc : z.cells = zs.toArray := by apply Array.ext'; simpa using hi.zc
  exact ex_build (szs := fl.map (fun p => (p.2, 1))) (fun w => hrun fl w hsz) hv (by rw [hzc]; exact hf)
/-- a pair is set -/
theorem op_setP {m r : Int} {t by_ i Tb n cap : Nat} {o : Option Addr} {z : Value} {zs : List Value} {x y : Operand} {li : List (Int × Int)} {w0 w : World} {M : Nat → Prop} {H H' : List It} [hi : TIf P t z zs 2 by_]
    (hx : ev l x = some (.pointer (some (sat o (i * 2))))) (hy : ev l y = some (.agg #[.int .i64 m, .int .i64 r])) (hH : HS w0 M H w) (hr : Rp H (own Tb 2 o n cap (flat encP li)) (own Tb 2 o n cap (flat encP (li.set i (m, r)))) H') (hj : i < li.length) :
    Op1 P N l ⟨d, .store t x y, T, pos, af, g⟩ w (fun _ w' => HS w0 M H' w') :=
  op_store_own (hi := hi) hx hy hH hr (vs := [.int .i64 m, .int .i64 r]) rfl rfl rfl (by omega) (by rw [flat_length encP_len]; omega) (by
    have := flat_put encP_len (l := li) (i := i) (x := li[i]) (y := (m, r)) (off := 0) (vs := encP (m, r)) (List.getElem?_eq_getElem hj) (by simp [put, encP]) (by simp [encP])
    rw [Nat.add_zero] at this
    exact this)
theorem op_setP0 {m a r : Int} {t by_ i Tb n cap : Nat} {o : Option Addr} {z : Value} {zs : List Value} {x y : Operand} {li : List (Int × Int)} {w0 w : World} {M : Nat → Prop} {H H' : List It} [hi : TIf P t z zs 1 by_]
    (hx : ev l x = some (.pointer (some (sat o (i * 2 + 0))))) (hy : ev l y = some (.int .i64 m)) (hH : HS w0 M H w) (hj : li[i]? = some (a, r)) (hr : Rp H (own Tb 2 o n cap (flat encP li)) (own Tb 2 o n cap (flat encP (li.set i (m, r)))) H') :
    Op1 P N l ⟨d, .store t x y, T, pos, af, g⟩ w (fun _ w' => HS w0 M H' w') :=
  have hlt := (List.getElem?_eq_some_iff.1 hj).1
  op_store_own1 (hi := hi) hx hy rfl hH hr (by rw [flat_length encP_len]; omega) (flat_put encP_len (off := 0) (vs := [.int .i64 m]) hj rfl (by simp))
theorem op_setP1 {m a r : Int} {t by_ i Tb n cap : Nat} {o : Option Addr} {z : Value} {zs : List Value} {x y : Operand} {li : List (Int × Int)} {w0 w : World} {M : Nat → Prop} {H H' : List It} [hi : TIf P t z zs 1 by_]
    (hx : ev l x = some (.pointer (some (sat o (i * 2 + 1))))) (hy : ev l y = some (.int .i64 m)) (hH : HS w0 M H w) (hj : li[i]? = some (a, r)) (hr : Rp H (own Tb 2 o n cap (flat encP li)) (own Tb 2 o n cap (flat encP (li.set i (a, m)))) H') :
    Op1 P N l ⟨d, .store t x y, T, pos, af, g⟩ w (fun _ w' => HS w0 M H' w') :=
  have hlt := (List.getElem?_eq_some_iff.1 hj).1
  op_store_own1 (hi := hi) hx hy rfl hH hr (by rw [flat_length encP_len]; omega) (flat_put encP_len (off := 1) (vs := [.int .i64 m]) hj rfl (by simp))
end
end Go.Fw
namespace Go.Fw
open Go Go.RowKit
set_option linter.unusedVariables false
/-- a first part, where nothing comes last -/
def okE (ops : Array Oper) (k : Array Bool → Bool) : List (Nat × Nat) → Array Bool → Bool
  | [], listed => k listed
  | (i, 0) :: π, listed => decide (Region.ready .any ops listed = [i]) && okE ops k π (listed.setIfInBounds i true)
  | (i, _ + 1) :: π, listed => (Region.ready .any ops listed).contains i && Region.free .any ops listed i && okE ops k π (listed.setIfInBounds i true)
/-- whichever order they come in -/
def okG (ops : Array Oper) (k : Array Bool → Bool) : Nat → List Nat → Array Bool → Bool
  | 0, _, listed => k listed
  | n + 1, G, listed => decide (Region.ready .any ops listed = G) && G.all fun i => okG ops k n (G.erase i) (listed.setIfInBounds i true)
def wkE (P : Program) (ops : Array Oper) (S : World → Prop) (Q : Exit → Act → World → Prop) (K : Act → World → Prop) : List (Nat × Nat) → Act → World → Prop
  | [], a, w => K a w
  | (i, 0) :: π, a, w => wpOp P ops (NoPanic Q) i (fun a' w' => S w' ∧ wkE P ops S Q K π a' w') a w
  | (i, _ + 1) :: π, a, w => ∃ o v, ops[i]? = some o ∧ YieldsIf P ops S o v a ∧ wkE P ops S Q K π (a.put o.dst v) w
def wkO (P : Program) (ops : Array Oper) (S : World → Prop) (Q : Exit → Act → World → Prop) (K : Act → World → Prop) : Nat → List Nat → Act → World → Prop
  | 0, _, a, w => K a w
  | n + 1, G, a, w => ∀ i ∈ G, wpOp P ops (NoPanic Q) i (fun a' w' => S w' ∧ wkO P ops S Q K n (G.erase i) a' w') a w
section
variable {P : Program} {ops : Array Oper} {S : World → Prop} {Q : Exit → Act → World → Prop} {K : Act → World → Prop} {k : Array Bool → Bool} {m : Nat}
theorem wkO_any (hk : ∀ listed a w, k listed = true → S w → K a w → wpAnyK P .any ops (NoPanic Q) S (fun _ => true) m listed a w) : ∀ (n : Nat) (G : List Nat) (listed : Array Bool) (a : Act) (w : World), G.length = n →
    okG ops k n G listed = true → S w → wkO P ops S Q K n G a w → wpAnyK P .any ops (NoPanic Q) S (fun _ => true) (n + m) listed a w
  | 0, G, listed, a, w, hl, hok, hS, h => by rw [Nat.zero_add]; exact hk listed a w hok hS h
  | n + 1, G, listed, a, w, hl, hok, hS, h => by
    simp only [okG, Bool.and_eq_true, decide_eq_true_eq] at hok
    rw [show n + 1 + m = (n + m) + 1 by omega]
    refine ⟨fun h0 => (by rw [hok.1] at h0; rw [h0] at hl; cases hl), fun j hj => ?_⟩
    rw [hok.1] at hj
    exact wpOp_mono (fun a' w' ⟨hS', h'⟩ => ⟨fun _ _ => hS', wkO_any hk n _ _ a' w' (by rw [List.length_erase_of_mem hj]; omega) (List.all_eq_true.1 hok.2 j hj) hS' h'⟩) (h j hj)
theorem wkE_any (hs : Region.noSelect ops = true) (hk : ∀ listed a w, k listed = true → S w → K a w → wpAnyK P .any ops (NoPanic Q) S (fun _ => true) m listed a w) : ∀ (π : List (Nat × Nat)) (listed : Array Bool) (a : Act) (w : World),
    okE ops k π listed = true → S w → wkE P ops S Q K π a w → wpAnyK P .any ops (NoPanic Q) S (fun _ => true) (π.length + m) listed a w
  | [], listed, a, w, hok, hS, h => by rw [List.length_nil, Nat.zero_add]; exact hk listed a w hok hS h
  | (i, 0) :: π, listed, a, w, hok, hS, h => by
    simp only [okE, Bool.and_eq_true, decide_eq_true_eq] at hok
    rw [show ((i, 0) :: π).length + m = (π.length + m) + 1 by simp; omega]
    refine ⟨fun h0 => (by rw [hok.1] at h0; cases h0), fun j hj => ?_⟩
    rw [hok.1] at hj
    obtain rfl : j = i := by simpa using hj
    exact wpOp_mono (fun a' w' ⟨hS', h'⟩ => ⟨fun _ _ => hS', wkE_any hs hk π _ a' w' hok.2 hS' h'⟩) h
  | (i, q + 1) :: π, listed, a, w, hok, hS, h => by
    simp only [okE, Bool.and_eq_true] at hok
    obtain ⟨⟨hr, hf⟩, hok'⟩ := hok
    obtain ⟨o, v, hi, hy, hkk⟩ := h
    have := wkE_any hs hk π _ _ w hok' hS hkk
    rw [show ((i, q + 1) :: π).length + m = (π.length + m) + 1 by simp; omega]
    exact wpAnyK.first hi (Region.noSelect_spec hs) (fun c a w h => h) _ listed a w (fun j hF => by cases hF) (Region.free_spec hi hf) (by simpa using hr) hy hS this
end
/-- a region that draws: a first part, some in any order, a second part -/
theorem wp_drawG {P : Program} {id : Nat} {ops : List Oper} {Q : Exit → Act → World → Prop} {a : Act} {w0 w : World} {M : Nat → Prop} {H : List It} (π : List (Nat × Nat)) (G : List Nat) (π1 : List (Nat × Nat)) (hm : P.follows .mixedOrders = true)
    (hok : (Region.noSelect ops.toArray && Nat.beq (π.length + (G.length + π1.length)) ops.length && okE ops.toArray (okG ops.toArray (okD ops.toArray [] π1) G.length G) π (Array.replicate ops.length false)) = true) (hH : HS w0 M H w)
    (h : wkE P ops.toArray (HS w0 M H) Q (fun a' w' => wkO P ops.toArray (HS w0 M H) Q (fun a2 w2 => wkD P ops.toArray (HS w0 M H) Q [] π1 a2 w2) G.length G a' w') π a w.drew) : (Code.region id ops.toArray true).wp P Q a w := by
  simp only [Bool.and_eq_true] at hok
  obtain ⟨⟨hs, hl⟩, hok⟩ := hok
  have hl' : π.length + (G.length + π1.length) = ops.toArray.size := by simpa using Nat.eq_of_beq_eq_true hl
  have k2 : ∀ (π : List (Nat × Nat)) listed a w, okD ops.toArray [] π listed = true → HS w0 M H w → wkD P ops.toArray (HS w0 M H) Q [] π a w → wpAnyK P .any ops.toArray (NoPanic Q) (HS w0 M H) (fun _ => true) π.length listed a w := fun π listed a w h1 h2 h3 => wpAny_wkD hs [] π listed a w h1 h2 h3
  have k3 := fun (n : Nat) (G : List Nat) listed a w hg h1 h2 h3 => wkO_any (P := P) (Q := Q) (k2 π1) n G listed a w hg h1 h2 h3
  have := wkE_any (P := P) (Q := Q) hs (fun listed a w h1 h2 h3 => k3 G.length G listed a w rfl h1 h2 h3) π _ a w.drew hok hH.drew h
  rw [hl'] at this
  refine wp_region_noPanic (wp_region_any hm (wpAnyK.any (S := HS w0 M H) (F := fun _ => true) _ _ _ _ ?_))
  simpa using this

theorem Op1.mono {P : Program} {N : Nat} {l : List (Nat × Value)} {o : Oper} {w : World} {R R' : Value → World → Prop} (h : Op1 P N l o w R) (hr : ∀ v w', R v w' → R' v w') : Op1 P N l o w R' :=
  fun a hA K Q hK => h a hA K Q fun v w' h' => hK v w' (hr v w' h')

/-! ## what comes, in whichever order -/
structure Ent where
  i : Nat
  d : Nat
  R : Value → It → Prop
structure Dn where
  e : Ent
  v : Value
  it : It
theorem lk_append (l r : List (Nat × Value)) (i : Nat) : lk (l ++ r) i = match lk l i with | some v => some v | none => lk r i := by
  induction l with
  | nil => rfl
  | cons x l ih =>
    obtain ⟨j, v⟩ := x
    simp only [List.cons_append, lk]
    cases Nat.beq j i with
    | true => rfl
    | false => simpa using ih
theorem lk_perm {l r : List (Nat × Value)} (p : l.Perm r) (i : Nat) (hn : (l.map (·.1)).Nodup) : lk l i = lk r i := by
  induction p with
  | nil => rfl
  | cons x p ih =>
    obtain ⟨j, v⟩ := x
    simp only [lk, ih (List.nodup_cons.1 hn).2]
  | swap x y l =>
    obtain ⟨j, v⟩ := x
    obtain ⟨k, u⟩ := y
    have hne : k ≠ j := by
      simp only [List.map_cons, List.nodup_cons, List.mem_cons] at hn
      exact fun h => hn.1 (.inl h)
    simp only [lk]
    cases hj : Nat.beq j i with
    | false => cases Nat.beq k i <;> rfl
    | true =>
      cases hk : Nat.beq k i with
      | false => rfl
      | true => exact absurd ((Nat.eq_of_beq_eq_true hk).trans (Nat.eq_of_beq_eq_true hj).symm) hne
  | trans p1 p2 ih1 ih2 => exact (ih1 hn).trans (ih2 ((p1.map _).nodup_iff.1 hn))
theorem perm_lift {E : List Ent} : ∀ {D : List Dn}, (D.map (·.e)).Perm E → ∃ D', D.Perm D' ∧ D'.map (·.e) = E := by
  induction E with
  | nil =>
    intro D h
    have : D = [] := by simpa using h.length_eq
    exact ⟨[], by rw [this], rfl⟩
  | cons g E ih =>
    intro D h
    obtain ⟨x, hx, he⟩ := List.mem_map.1 (h.symm.subset (List.mem_cons_self ..))
    obtain ⟨A, B, rfl⟩ := List.append_of_mem hx
    have h2 : ((A ++ B).map (·.e)).Perm E := by
      have h3 : ((A ++ x :: B).map (·.e)).Perm (x.e :: (A ++ B).map (·.e)) := List.Perm.map Dn.e (List.perm_middle)
      rw [he] at h3
      exact (List.perm_cons g).1 (h3.symm.trans h)
    obtain ⟨D', p, e⟩ := ih h2
    exact ⟨x :: D', List.perm_middle.trans (p.cons x), by rw [List.map_cons, e, he]⟩
section
variable {P : Program} {N : Nat} {l : List (Nat × Value)} {ops : Array Oper} {Q : Exit → Act → World → Prop} {K : Act → World → Prop} {w0 : World} {M : Nat → Prop} {H : List It}
def EntOk (P : Program) (N : Nat) (l : List (Nat × Value)) (ops : Array Oper) (w0 : World) (M : Nat → Prop) (H : List It) (e : Ent) : Prop :=
  lk l e.d = none ∧ e.d < N ∧ ∃ o : Oper, ops[e.i]? = some o ∧ gd ops l o.guard = some true ∧ o.dst = some e.d ∧ ∀ He w, HS w0 M (He ++ H) w → Op1 P N l o w (fun v w' => ∃ it, e.R v it ∧ HS w0 M (it :: (He ++ H)) w')
theorem wkO_come {E : List Ent} (hE : ∀ e ∈ E, EntOk P N l ops w0 M H e) (hd : (E.map (·.d)).Nodup) (hi : (E.map (·.i)).Nodup)
    (hK : ∀ (D : List Dn) a w, D.map (·.e) = E → (∀ x ∈ D, x.e.R x.v x.it) → HS w0 M (D.map (·.it) ++ H) w → Sl N (D.map (fun x => (x.e.d, x.v)) ++ l) a → K a w) :
    ∀ (n : Nat) (R : List Ent) (D : List Dn) (a : Act) (w : World), R.length = n → (D.map (·.e) ++ R).Perm E → (∀ x ∈ D, x.e.R x.v x.it) → HS w0 M (D.map (·.it) ++ H) w → Sl N (D.map (fun x => (x.e.d, x.v)) ++ l) a →
      wkO P ops (HS w0 M H) Q K n (R.map (·.i)) a w := by
  intro n
  induction n with
  | zero =>
    intro R D a w hn p hR hH hA
    obtain rfl : R = [] := List.length_eq_zero_iff.1 hn
    rw [List.append_nil] at p
    obtain ⟨D', p1, e⟩ := perm_lift p
    refine hK D' a w e (fun x hx => hR x (p1.symm.subset hx)) (hH.perm ((p1.map _).append_right _)) ?_
    have hnd : ((D.map (fun x => (x.e.d, x.v))).map (·.1)).Nodup := by
      rw [List.map_map]
      have h1 := (p.map (·.d)).nodup_iff.2 hd
      rw [List.map_map] at h1
      exact h1
    refine ⟨hA.defers, hA.size, fun i v h => hA.get i v ?_⟩
    rw [lk_append] at h ⊢
    rw [lk_perm (p1.map (fun x : Dn => (x.e.d, x.v))) i hnd]
    exact h
  | succ n ih =>
    intro R D a w hn p hR hH hA
    intro i hiR
    obtain ⟨e, he, rfl⟩ := List.mem_map.1 hiR
    obtain ⟨A, B, rfl⟩ := List.append_of_mem he
    have heE : e ∈ E := p.subset (List.mem_append_right _ he)
    obtain ⟨h5, h4, o, h1, h2, h3, h6⟩ := hE e heE
    have hnR : ((A ++ e :: B).map (·.i)).Nodup := by
      have h7 := (p.map (·.i)).nodup_iff.2 hi
      rw [List.map_append] at h7
      exact (List.nodup_append.1 h7).2.1
    have her : ((A ++ e :: B).map (·.i)).erase e.i = (A ++ B).map (·.i) := by
      rw [List.map_append, List.map_cons]
      have hnA : e.i ∉ A.map (·.i) := by
        rw [List.map_append, List.map_cons] at hnR
        intro hc
        exact (List.nodup_append.1 hnR).2.2 _ hc _ (List.mem_cons_self ..) rfl
      rw [List.erase_append_right _ hnA, List.erase_cons_head, List.map_append]
    rw [her]
    have hnd : ∀ x ∈ D, x.e.d ≠ e.d := by
      intro x hx hc
      have h7 := (p.map (·.d)).nodup_iff.2 hd
      rw [List.map_append] at h7
      exact (List.nodup_append.1 h7).2.2 _ (List.mem_map.2 ⟨x.e, List.mem_map.2 ⟨x, hx, rfl⟩, rfl⟩) _ (List.mem_map.2 ⟨e, he, rfl⟩) hc
    have hfree : ∀ x ∈ D, lk l x.e.d = none := by
      intro x hx
      exact (hE x.e (p.subset (List.mem_append_left _ (List.mem_map.2 ⟨x, hx, rfl⟩)))).1
    have hAl : Sl N l a := by
      refine ⟨hA.defers, hA.size, fun j v h => hA.get j v ?_⟩
      rw [lk_append]
      have : lk (D.map (fun x => (x.e.d, x.v))) j = none := by
        clear hA hH p hR ih hnd
        induction D with
        | nil => rfl
        | cons x D ihD =>
          have hx := hfree x (List.mem_cons_self ..)
          simp only [List.map_cons, lk]
          cases hj : Nat.beq x.e.d j with
          | false => simpa using ihD (fun y hy => hfree y (List.mem_cons_of_mem _ hy))
          | true =>
            have := Nat.eq_of_beq_eq_true hj
            rw [this, h] at hx
            cases hx
      rw [this]
      exact h
    unfold wpOp
    simp only [h1, hAl.gd h2, if_true]
    refine .inl (h6 _ w hH a hAl _ _ fun v w' ⟨it, hr, hw⟩ => ⟨?_, ?_⟩)
    · exact (HS.right (H1 := it :: D.map Dn.it) hw)
    · rw [h3]
      refine ih (A ++ B) (⟨e, v, it⟩ :: D) _ w' ?_ ?_ ?_ hw ?_
      · simp only [List.length_append, List.length_cons] at hn ⊢; omega
      · refine List.Perm.trans ?_ p
        show (e :: (D.map (·.e) ++ (A ++ B))).Perm _
        rw [← List.append_assoc, ← List.append_assoc]
        exact (List.perm_middle (l₁ := D.map (·.e) ++ A) (l₂ := B)).symm
      · intro x hx
        rcases List.mem_cons.1 hx with rfl | hx
        · exact hr
        · exact hR x hx
      · exact hA.put h4 v
/-- three of them -/
theorem wkO_three {e1 e2 e3 : Ent} {a : Act} {w : World} (hA : Sl N l a) (hH : HS w0 M H w) (h1 : EntOk P N l ops w0 M H e1) (h2 : EntOk P N l ops w0 M H e2) (h3 : EntOk P N l ops w0 M H e3)
    (hd : [e1.d, e2.d, e3.d].Nodup) (hi : [e1.i, e2.i, e3.i].Nodup)
    (hK : ∀ v1 it1 v2 it2 v3 it3 w' a', e1.R v1 it1 → e2.R v2 it2 → e3.R v3 it3 → HS w0 M (it1 :: it2 :: it3 :: H) w' → Sl N ((e1.d, v1) :: (e2.d, v2) :: (e3.d, v3) :: l) a' → K a' w') :
    wkO P ops (HS w0 M H) Q K 3 [e1.i, e2.i, e3.i] a w := by
  refine wkO_come (E := [e1, e2, e3]) (fun e he => ?_) hd hi (fun D a' w' hD hR hH' hA' => ?_) 3 [e1, e2, e3] [] a w rfl (.refl _) (fun x hx => absurd hx (List.not_mem_nil)) hH hA
  · simp only [List.mem_cons, List.not_mem_nil, or_false] at he
    rcases he with rfl | rfl | rfl
    · exact h1
    · exact h2
    · exact h3
  · obtain ⟨x1, D, rfl⟩ : ∃ x D', D = x :: D' := by cases D with | nil => cases hD | cons x D => exact ⟨x, D, rfl⟩
    obtain ⟨x2, D, rfl⟩ : ∃ x D', D = x :: D' := by cases D with | nil => cases hD | cons x D => exact ⟨x, D, rfl⟩
    obtain ⟨x3, D, rfl⟩ : ∃ x D', D = x :: D' := by cases D with | nil => cases hD | cons x D => exact ⟨x, D, rfl⟩
    obtain rfl : D = [] := by cases D with | nil => rfl | cons x D => cases hD
    injection hD with g1 hD
    injection hD with g2 hD
    injection hD with g3 hD
    subst g1; subst g2; subst g3
    exact hK _ _ _ _ _ _ w' a' (hR _ (.head _)) (hR _ (.tail _ (.head _))) (hR _ (.tail _ (.tail _ (.head _)))) hH' hA'
/-- two of them -/
theorem wkO_two {e1 e2 : Ent} {a : Act} {w : World} (hA : Sl N l a) (hH : HS w0 M H w) (h1 : EntOk P N l ops w0 M H e1) (h2 : EntOk P N l ops w0 M H e2)
    (hd : [e1.d, e2.d].Nodup) (hi : [e1.i, e2.i].Nodup)
    (hK : ∀ v1 it1 v2 it2 w' a', e1.R v1 it1 → e2.R v2 it2 → HS w0 M (it1 :: it2 :: H) w' → Sl N ((e1.d, v1) :: (e2.d, v2) :: l) a' → K a' w') :
    wkO P ops (HS w0 M H) Q K 2 [e1.i, e2.i] a w := by
  refine wkO_come (E := [e1, e2]) (fun e he => ?_) hd hi (fun D a' w' hD hR hH' hA' => ?_) 2 [e1, e2] [] a w rfl (.refl _) (fun x hx => absurd hx (List.not_mem_nil)) hH hA
  · simp only [List.mem_cons, List.not_mem_nil, or_false] at he
    rcases he with rfl | rfl
    · exact h1
    · exact h2
  · obtain ⟨x1, D, rfl⟩ : ∃ x D', D = x :: D' := by cases D with | nil => cases hD | cons x D => exact ⟨x, D, rfl⟩
    obtain ⟨x2, D, rfl⟩ : ∃ x D', D = x :: D' := by cases D with | nil => cases hD | cons x D => exact ⟨x, D, rfl⟩
    obtain rfl : D = [] := by cases D with | nil => rfl | cons x D => cases hD
    injection hD with g1 hD
    injection hD with g2 hD
    subst g1; subst g2
    exact hK _ _ _ _ w' a' (hR _ (.head _)) (hR _ (.tail _ (.head _))) hH' hA'
end
section
variable {P : Program} {N : Nat} {l : List (Nat × Value)} {a : Act} {w : World} {ops : Array Oper} {S : World → Prop} {Q : Exit → Act → World → Prop} {K : Act → World → Prop} {i : Nat} {π : List (Nat × Nat)}
theorem de_nil (h : K a w) : wkE P ops S Q K [] a w := h
theorem de_ex {k : Nat} {o : Oper} {d : Nat} {v : Value} (hA : Sl N l a) (hi : ops[i]? = some o) (hg : gd ops l o.guard = some true) (hd : o.dst = some d) (hdN : d < N)
    (h : Ex P N l S o v) (k' : ∀ a', Sl N ((d, v) :: l) a' → wkE P ops S Q K π a' w) : wkE P ops S Q K ((i, k + 1) :: π) a w := by
  refine ⟨o, v, hi, .inl ⟨hA.gd hg, fun w' hS => h a w' hA hS⟩, ?_⟩
  rw [hd]
  exact k' _ (hA.put hdN v)
theorem de_op {o : Oper} {d : Nat} {R : Value → World → Prop} (hA : Sl N l a) (hi : ops[i]? = some o) (hg : gd ops l o.guard = some true) (hd : o.dst = some d) (hdN : d < N)
    (h : Op1 P N l o w R) (k : ∀ v w', R v w' → S w' ∧ ∀ a', Sl N ((d, v) :: l) a' → wkE P ops S Q K π a' w') : wkE P ops S Q K ((i, 0) :: π) a w := by
  unfold wkE wpOp
  simp only [hi, hA.gd hg, if_true]
  refine .inl (h a hA _ _ fun v w' hR => ?_)
  rw [hd]
  exact ⟨(k v w' hR).1, (k v w' hR).2 _ (hA.put hdN v)⟩
end
/-- two steps, behind which R holds; then the rest -/
theorem wp_join2 {P : Program} {c1 c2 c3 : Code} {Q : Exit → Act → World → Prop} {a : Act} {w : World} (R : Act → World → Prop) (h : c1.wp P (Exit.then (c2.wp P (Exit.then R Q)) Q) a w) (k : ∀ a w, R a w → c3.wp P Q a w) :
    c1.wp P (Exit.then ((Code.seq c2 c3).wp P Q) Q) a w := by
  refine Code.wp_mono (fun e a w he => ?_) h
  cases e with
  | normal =>
    refine wp_seq (Code.wp_mono (fun e' a' w' he' => ?_) (show c2.wp P (Exit.then R Q) a w from he))
    cases e' with
    | normal => exact k _ _ he'
    | _ => exact he'
  | _ => exact he
/-- one step, behind which R holds; then the rest -/
theorem wp_join1 {P : Program} {c1 c2 : Code} {Q : Exit → Act → World → Prop} {a : Act} {w : World} (R : Act → World → Prop) (h : c1.wp P (Exit.then R Q) a w) (k : ∀ a w, R a w → c2.wp P Q a w) :
    (Code.seq c1 c2).wp P Q a w := by
  refine wp_seq (Code.wp_mono (fun e' a' w' he' => ?_) h)
  cases e' with
  | normal => exact k _ _ he'
  | _ => exact he'
theorem then_mono {K R : Act → World → Prop} {Q : Exit → Act → World → Prop} (k : ∀ a w, R a w → K a w) : ∀ e a w, Exit.then R Q e a w → Exit.then K Q e a w := by
  intro e a w h
  cases e with
  | normal => exact k _ _ h
  | _ => exact h
/-- two steps, behind which R holds (the other nesting) -/
theorem wp_join3 {P : Program} {c1 c2 : Code} {K : Act → World → Prop} {Q : Exit → Act → World → Prop} {a : Act} {w : World} (R : Act → World → Prop) (h : c1.wp P (Exit.then (c2.wp P (Exit.then R Q)) (Exit.then R Q)) a w) (k : ∀ a w, R a w → K a w) :
    c1.wp P (Exit.then (c2.wp P (Exit.then K Q)) (Exit.then K Q)) a w := by
  refine Code.wp_mono (fun e a w he => ?_) h
  cases e with
  | normal => exact Code.wp_mono (then_mono k) (show c2.wp P (Exit.then R Q) a w from he)
  | _ => exact he
end Go.Fw
namespace Go.Fw
open Go Go.RowKit
set_option linter.unusedVariables false
section
variable {P : Program} {N : Nat} {l : List (Nat × Value)} {C : World → Prop} {d : Option Tmp} {T : TypeId} {pos : String} {af : Array Edge} {g : Option (Nat × Bool)}
theorem ex_eqlPn {t ty : TypeId} {x y : Operand} {p : Option Addr} [h : TPt P t] (hx : ev l x = some (.pointer p)) (hy : ev l y = some (.pointer none)) : Ex P N l C ⟨d, .binOp .eql t x y ty, T, pos, af, g⟩ (.bool p.isNone) := by
  intro a w hA _
  simp [execOp, hA.ev hx, hA.ev hy, eqGuard_at_pointer, run_eql_pointer_nil w t p h.eq]
theorem ex_neqPn {t ty : TypeId} {x y : Operand} {p : Option Addr} [h : TPt P t] (hx : ev l x = some (.pointer p)) (hy : ev l y = some (.pointer none)) : Ex P N l C ⟨d, .binOp .neq t x y ty, T, pos, af, g⟩ (.bool (!p.isNone)) := by
  intro a w hA _
  simp [execOp, hA.ev hx, hA.ev hy, eqGuard_at_pointer, run_neq_pointer_nil w t p h.eq]
theorem ex_eqlPt {t ty : TypeId} {x y : Operand} [h : TPt P t] (hx : ev l x = some (.pointer none)) (hy : ev l y = some (.pointer none)) : Ex P N l C ⟨d, .binOp .eql t x y ty, T, pos, af, g⟩ (.bool true) := ex_eqlPn (h := h) hx hy
theorem ex_eqlPf {t ty : TypeId} {x y : Operand} {p : Addr} [h : TPt P t] (hx : ev l x = some (.pointer (some p))) (hy : ev l y = some (.pointer none)) : Ex P N l C ⟨d, .binOp .eql t x y ty, T, pos, af, g⟩ (.bool false) := ex_eqlPn (h := h) hx hy
theorem ex_neqPf {t ty : TypeId} {x y : Operand} [h : TPt P t] (hx : ev l x = some (.pointer none)) (hy : ev l y = some (.pointer none)) : Ex P N l C ⟨d, .binOp .neq t x y ty, T, pos, af, g⟩ (.bool false) := ex_neqPn (h := h) hx hy
theorem ex_neqPt {t ty : TypeId} {x y : Operand} {p : Addr} [h : TPt P t] (hx : ev l x = some (.pointer (some p))) (hy : ev l y = some (.pointer none)) : Ex P N l C ⟨d, .binOp .neq t x y ty, T, pos, af, g⟩ (.bool true) := ex_neqPn (h := h) hx hy
end
theorem inB_mono {id : Nat} {Q Q' : Exit → Act → World → Prop} (h : ∀ e a w, Q e a w → Q' e a w) : ∀ e a w, Exit.inBlock id Q e a w → Exit.inBlock id Q' e a w := by
  intro e a w he
  cases e <;> simp only [Exit.inBlock] at he ⊢ <;> first | exact h _ _ _ he | (split at he <;> rename_i hc <;> simp only [hc] <;> exact h _ _ _ he)
/-- a loop in a block, behind which R holds; then the rest -/
theorem wp_lpj {P : Program} {a : Act} {w : World} {id : Nat} {K : Act → World → Prop} {Q : Exit → Act → World → Prop} {c : Code} {S : Type} (I : S → Act → World → Prop) (μ : S → Nat) (R : Act → World → Prop) (s : S) (h₀ : I s a w)
    (round : ∀ s a w, I s a w → c.wp P (Exit.then (fun a' w' => ∃ s', I s' a' w' ∧ μ s' < μ s) (Exit.inBlock id (Exit.then R Q))) a w) (k : ∀ a w, R a w → K a w) : (Code.loop c).wp P (Exit.inBlock id (Exit.then K Q)) a w :=
  Code.wp_mono (inB_mono (then_mono k)) (wp_lp I μ s h₀ round)
/-- in a region ahead of a choice: both ways come to R; then the rest -/
theorem st_join {P : Program} {ops : Array Oper} {ls : List Oper} {a : Act} {w : World} {c2 : Code} {K : Act → World → Prop} {Q : Exit → Act → World → Prop} (R : Act → World → Prop)
    (h : wpList P ops (Exit.then (c2.wp P (Exit.then R Q)) (Exit.then R Q)) ls a w) (k : ∀ a w, R a w → K a w) : wpList P ops (Exit.then (c2.wp P (Exit.then K Q)) (Exit.then K Q)) ls a w := by
  induction ls generalizing a w with
  | nil => exact Code.wp_mono (then_mono k) (show c2.wp P (Exit.then R Q) a w from h)
  | cons o rest ih =>
    unfold wpList at h ⊢
    split
    · rename_i hw
      rw [if_pos hw] at h
      rcases h with h | ⟨h1, h2⟩
      · refine .inl (Oper.wp_mono (K := wpList P ops (Exit.then (c2.wp P (Exit.then R Q)) (Exit.then R Q)) rest) (fun a w h => ih h) ?_)
        unfold Oper.wp at *
        generalize (execOp a.eval o).run P w = r at *
        cases r with
        | ok n w' => cases n <;> simp only [Oper.upon] at h ⊢ <;> exact h
        | halt x w' => cases x <;> simp only [Oper.upon] at h ⊢ <;> exact h
      · exact .inr ⟨h1, by obtain ⟨a', w3, h3⟩ := h2; exact ⟨a', w3, h3⟩⟩
    · rename_i hw
      rw [if_neg hw] at h
      exact ih h
theorem HS.all_out {w0 w : World} {M : Nat → Prop} {A B H : List It} {x : It} (h : HS w0 M (all (A ++ x :: B) :: H) w) : HS w0 M (x :: all (A ++ B) :: H) w := by
  have h1 : HS w0 M ((A ++ x :: B) ++ H) w := h.open_
  have h2 : HS w0 M ((A ++ B) ++ x :: H) w := h1.perm (by
    have e1 : (A ++ x :: B ++ H).Perm (x :: (A ++ B) ++ H) := (List.perm_middle).append_right H
    have e2 : (x :: (A ++ B) ++ H).Perm ((A ++ B) ++ x :: H) := (List.perm_middle (l₁ := A ++ B)).symm
    exact e1.trans e2)
  exact h2.shut.perm (.swap _ _ _)
theorem HS.all_in {w0 w : World} {M : Nat → Prop} {A B H : List It} {x : It} (h : HS w0 M (x :: all (A ++ B) :: H) w) : HS w0 M (all (A ++ x :: B) :: H) w := by
  have h1 : HS w0 M (all (A ++ B) :: x :: H) w := h.perm (.swap _ _ _)
  have h2 : HS w0 M ((A ++ B) ++ x :: H) w := h1.open_
  refine HS.shut (h2.perm ?_)
  have e1 : ((A ++ B) ++ x :: H).Perm (x :: (A ++ B) ++ H) := List.perm_middle (l₁ := A ++ B)
  have e2 : (x :: (A ++ B) ++ H).Perm (A ++ x :: B ++ H) := (List.perm_middle.symm).append_right H
  exact e1.trans e2
theorem owns_split {α : Type} {T sz : Nat} {enc : α → List Value} {d1 d2 : List Sd} {r1 r2 : List (List α)} (h : d1.length = r1.length) : owns T sz enc (d1 ++ d2) (r1 ++ r2) = owns T sz enc d1 r1 ++ owns T sz enc d2 r2 := by
  simp [owns, List.zipWith_append h]
theorem owns_cons {α : Type} {T sz : Nat} {enc : α → List Value} (d : Sd) (ds : List Sd) (r : List α) (rs : List (List α)) : owns T sz enc (d :: ds) (r :: rs) = own T sz d.1 d.2.1 d.2.2 (flat enc r) :: owns T sz enc ds rs := rfl
theorem split_at {α : Type} {L : List α} {i : Nat} {o : α} (h : L[i]? = some o) : L = L.take i ++ o :: L.drop (i + 1) ∧ (L.take i).length = i := by
  obtain ⟨hi, he⟩ := List.getElem?_eq_some_iff.1 h
  exact ⟨by rw [← he, ← List.drop_eq_getElem_cons hi, List.take_append_drop], by rw [List.length_take]; omega⟩
section
variable {w0 w : World} {M : Nat → Prop} {p q r : It}
theorem HS.p3a (h : HS w0 M [p, q, r] w) : HS w0 M [r, p, q] w := h.perm (by (repeat (first | exact List.Perm.nil | refine perm_pick 0 rfl ?_ | refine perm_pick 1 rfl ?_ | refine perm_pick 2 rfl ?_ | refine perm_pick 3 rfl ?_ | refine perm_pick 4 rfl ?_ | refine perm_pick 5 rfl ?_ | refine perm_pick 6 rfl ?_ | refine perm_pick 7 rfl ?_ | refine perm_pick 8 rfl ?_ | refine perm_pick 9 rfl ?_ | refine perm_pick 10 rfl ?_ | refine perm_pick 11 rfl ?_)))
theorem HS.p3b (h : HS w0 M [p, q, r] w) : HS w0 M [q, p] w := (h.perm (H' := [r, q, p]) (by (repeat (first | exact List.Perm.nil | refine perm_pick 0 rfl ?_ | refine perm_pick 1 rfl ?_ | refine perm_pick 2 rfl ?_ | refine perm_pick 3 rfl ?_ | refine perm_pick 4 rfl ?_ | refine perm_pick 5 rfl ?_ | refine perm_pick 6 rfl ?_ | refine perm_pick 7 rfl ?_ | refine perm_pick 8 rfl ?_ | refine perm_pick 9 rfl ?_ | refine perm_pick 10 rfl ?_ | refine perm_pick 11 rfl ?_)))).tail
theorem HS.p3c (h : HS w0 M [p, q, r] w) : HS w0 M [p, r] w := (h.perm (H' := [q, p, r]) (by (repeat (first | exact List.Perm.nil | refine perm_pick 0 rfl ?_ | refine perm_pick 1 rfl ?_ | refine perm_pick 2 rfl ?_ | refine perm_pick 3 rfl ?_ | refine perm_pick 4 rfl ?_ | refine perm_pick 5 rfl ?_ | refine perm_pick 6 rfl ?_ | refine perm_pick 7 rfl ?_ | refine perm_pick 8 rfl ?_ | refine perm_pick 9 rfl ?_ | refine perm_pick 10 rfl ?_ | refine perm_pick 11 rfl ?_)))).tail
end
/-- a loop in a block, whatever stands behind -/
theorem wp_lpk {P : Program} {a : Act} {w : World} {id : Nat} {Q0 : Exit → Act → World → Prop} {c : Code} {S : Type} (I : S → Act → World → Prop) (μ : S → Nat) (R : Act → World → Prop) (s : S) (h₀ : I s a w)
    (round : ∀ s a w, I s a w → c.wp P (Exit.then (fun a' w' => ∃ s', I s' a' w' ∧ μ s' < μ s) (Exit.inBlock id (Exit.then R Q0))) a w) (k : ∀ a w, R a w → Q0 .normal a w) : (Code.loop c).wp P (Exit.inBlock id Q0) a w :=
  Code.wp_mono (inB_mono (fun e a w he => by
    cases e with
    | normal => exact k _ _ he
    | _ => exact he)) (wp_lp I μ s h₀ round)
end Go.Fw
namespace Go.Fw
open Go Go.RowKit
set_option linter.unusedVariables false
/-- what is handed on, so that no trial takes it for its own -/
structure Wr (p : Prop) : Prop where
  out : p
/-- what an operation yields that turns nothing, with what is known of the world by hypotheses: found by trial -/
theorem EXT2 {P : Program} {N : Nat} {l : List (Nat × Value)} {C : World → Prop} {o : Oper} {v : Value} (h : Ex P N l C o v := by
  first
  | (apply ex_load; rfl; exact cl_w (by assumption) id)
  | (apply ex_load; rfl; exact cl_rd (by assumption) id (by assumption))
  | (apply ex_load; rfl; apply cl_own; exact MEMT; assumption)
  | (apply ex_load_st; rfl; rotate_left; exact cls_rd (by assumption) id (by assumption); rfl)
  | (apply ex_eqlPf; rfl; rfl)
  | (apply ex_eqlPt; rfl; rfl)
  | (apply ex_neqPt; rfl; rfl)
  | (apply ex_neqPf; rfl; rfl)
  | (apply ex_eqlNil; rfl; rfl)
  | (apply ex_max; rfl; rfl)
  | (apply ex_rem; rfl; rfl; first | decide | omega)
  | (apply ex_quo; rfl; rfl; first | decide | omega)) : Ex P N l C o v := h
/-- what stays -/
theorem STT {p : Prop} (h : p := by first | exact hH.drop_ | exact hH.pick MEMT | exact hH) : p := h
/-- a way that can't be -/
theorem FA {G : Prop} (h : G := by
  first
  | (exfalso; have h1 := of_decide_eq_true hg; omega)
  | (exfalso; have h1 := of_decide_eq_false hg; omega)
  | exact absurd hg (by decide)) : G := h
/-- a quiet operation -/
theorem QT {G G' : Prop} (k : G') (h : Wr G' → G := by
  intro k
  first
  | (apply st_ex hA hH rfl rfl (by decide); (first | exact EXT | exact EXT2); exact k.out)
  | (apply st_skip hA rfl rfl (by decide); exact k.out)
  | ((first | apply dr_ex hA rfl rfl rfl (by decide) | apply dr_exp hA rfl rfl rfl (by decide) | apply dr_ex3 hA hH rfl rfl rfl (by decide)); (first | exact EXT | exact EXT2); exact k.out)
  | ((first | apply dr_skip hA rfl rfl rfl (by decide) | apply dr_skip3 hA rfl rfl rfl (by decide)); exact k.out)) : G := h ⟨k⟩
/-- a quiet operation -/
theorem QT0 {G G' : Prop} (k : G') (h : Wr G' → G := by
  intro k
  first
  | (apply st_ex hA hH rfl rfl (by decide); exact EXT; exact k.out)
  | (apply st_skip hA rfl rfl (by decide); exact k.out)
  | ((first | apply dr_ex hA rfl rfl rfl (by decide) | apply dr_exp hA rfl rfl rfl (by decide) | apply dr_ex3 hA hH rfl rfl rfl (by decide)); exact EXT; exact k.out)
  | ((first | apply dr_skip hA rfl rfl rfl (by decide) | apply dr_skip3 hA rfl rfl rfl (by decide)); exact k.out)) : G := h ⟨k⟩
/-- a guard's bool -/
theorem GT {G G1 G2 : Prop} (k1 : G1) (k2 : G2) (h : Wr G1 → Wr G2 → G := by
  intro k1 k2
  first
  | (apply st_exb hA hH rfl rfl (by decide) rfl (ex_move rfl); exact k1.out; exact k2.out)
  | (apply dr_exb hA rfl rfl rfl (by decide) rfl (ex_move rfl); exact k1.out; exact k2.out)) : G := h ⟨k1⟩ ⟨k2⟩
/-- one more step in the code -/
theorem CT {G G' : Prop} (k : G') (h : Wr G' → G := by
  intro k
  first
  | (apply wp_seq; exact k.out)
  | (apply wp_region_lit; exact k.out)
  | (apply st_nil; exact k.out)
  | (apply then_normal; exact k.out)
  | (apply wp_block; exact k.out)
  | (apply st_cond_t hA rfl; exact k.out)
  | (apply st_cond_f hA rfl; exact k.out)
  | (apply wp_ret; exact k.out)
  | (apply wp_skip; exact k.out)
  | (apply wp_exit; exact k.out)
  | (apply then_ret; exact k.out)
  | (apply then_exit; exact k.out)
  | (apply inB_normal; exact k.out)
  | (apply inB_ret; exact k.out)
  | (apply inB_eq; exact k.out)
  | (apply inB_ne rfl; exact k.out)
  | (apply dr_nil; exact k.out)
  | (apply dr_late; exact k.out)
  | (apply dr_nil2; exact k.out)
  | (apply wp_scope_straight; exact k.out)
  | (apply wp_label; exact k.out)
  | (apply ng_normal; exact k.out)
  | (apply ng_ret; exact k.out)) : G := h ⟨k⟩
/-- a choice -/
theorem DT {G G1 G2 : Prop} (k1 : G1) (k2 : G2) (h : Wr G1 → Wr G2 → G := by
  intro k1 k2
  first
  | (apply st_cond_d hA rfl; exact k1.out; exact k2.out)
  | (apply st_cond_nd hA rfl; exact k1.out; exact k2.out)
  | (apply st_cond hA rfl; exact k1.out; exact k2.out)) : G := h ⟨k1⟩ ⟨k2⟩
/-- a new block -/
theorem BT {G G' : Prop} (k : G') (h : Wr G' → G := by
  intro k
  apply st_op hA rfl rfl (by decide)
  (first | apply op_alloc | (apply op_box_agg; rfl) | (apply op_box1; rfl; rfl))
  exact hH
  exact k.out) : G := h ⟨k⟩
/-- a slice's literal -/
theorem LT {G G' : Prop} (k : G') (h : Wr G' → G := by
  intro k
  apply st_op hA rfl rfl (by decide)
  apply op_sliceLit
  rfl
  rfl
  exact CATST
  rfl
  rfl
  rfl
  exact hH
  exact k.out) : G := h ⟨k⟩
/-- append -/
theorem AT {G G' : Prop} (k : G') (h : Wr G' → G := by
  intro k
  apply st_op hA rfl rfl (by decide)
  apply op_append
  rfl
  rfl
  exact hH
  exact MEMT
  exact hH.own_rd (List.Mem.head _)
  rfl
  rfl
  decide
  rfl
  (unfold maxLen; omega)
  omega
  exact k.out) : G := h ⟨k⟩
/-- stores -/
theorem S0T {G G' : Prop} (k : G') (h : Wr G' → G := by
  intro k
  apply st_op0 hA rfl rfl
  (first | (apply op_store1; rfl; rfl; rfl; exact hH; (repeat constructor)) | (apply op_store_agg; rfl; rfl; exact hH; (repeat constructor); rfl; rfl; rfl))
  exact k.out) : G := h ⟨k⟩
/-- the same in a region that draws -/
theorem DSK {G G' : Prop} (k : G') (h : Wr G' → G := by
  intro k
  apply dr_opskip hA rfl rfl rfl (by decide) STT
  exact k.out) : G := h ⟨k⟩
theorem DLT {G G' : Prop} (k : G') (h : Wr G' → G := by
  intro k
  apply dr_op hA rfl rfl rfl (by decide)
  apply op_sliceLit
  rfl
  rfl
  exact CATST
  rfl
  rfl
  rfl
  exact hH
  exact k.out) : G := h ⟨k⟩
theorem DAT {G G' : Prop} (k : G') (h : Wr G' → G := by
  intro k
  apply dr_op hA rfl rfl rfl (by decide)
  apply op_append
  rfl
  rfl
  exact hH
  exact MEMT
  exact hH.own_rd (List.Mem.head _)
  rfl
  rfl
  decide
  rfl
  (unfold maxLen; omega)
  omega
  exact k.out) : G := h ⟨k⟩
end Go.Fw
namespace Go.Proofs.Ytdfhajdejlhamaa
open Go Go.Fw
set_option linter.unusedVariables false
theorem encP0 {fr : List (Int × Int)} {i : Nat} {a n : Int} (h : fr[i]? = some (a, n)) : (flat encP fr)[i * 2 + 0]? = some (.int .i64 a) := flat_get encP_len (off := 0) h rfl
theorem encP1 {fr : List (Int × Int)} {i : Nat} {a n : Int} (h : fr[i]? = some (a, n)) : (flat encP fr)[i * 2 + 1]? = some (.int .i64 n) := flat_get encP_len (off := 1) h rfl
theorem encPa {fr : List (Int × Int)} {i : Nat} {a n : Int} (h : fr[i]? = some (a, n)) : ∀ k v, ([.int .i64 a, .int .i64 n] : List Value)[k]? = some v → (flat encP fr)[i * 2 + k]? = some v := flat_all encP_len h
/-- the first run with more than so many cells -/
def FirstFit (fr : List (Int × Int)) (size : Int) (z : Int) : Prop :=
  (z = -1 ∧ ∀ r ∈ fr, ¬ size < r.2) ∨ ∃ (i : Nat) (r : Int × Int), z = i ∧ fr[i]? = some r ∧ size < r.2 ∧ ∀ k r', k < i → fr[k]? = some r' → ¬ size < r'.2
theorem own_nil0 (T sz : Nat) (o : Option Addr) (n c : Nat) {xs : List Value} (h : xs = []) : own T sz o n c [] = own T sz o n c xs := by rw [h]
set_option maxRecDepth 10000 attribute [local irreducible] Code.wp wpList Calls Ex Op1 sat bat blk cb own Go.Fw.mp Go.Fw.mpO Go.Fw.mpI Go.Fw.mpE Go.Fw.itr HS Rd Ret wkD Hp Cl Cls Exit.then Exit.inBlock Exit.noGoto bodyPost Go.Fw.flat wk2 Go.Fw.all Go.Fw.owns wpOp

theorem fits1_spec (w0 : World) (b : Nat) (a n size : Int) (hcz : w0.cell? (bat b 0) = some (.int .i64 size)) :
    Ret Try.prog 89 #[.agg #[.int .i64 a, .int .i64 n], .pointer (some (bat b 0))] w0 (fun v w => v = .bool (decide (size < n)) ∧ Kp w0 noM w) := by
  have hH : HS w0 noM [] w0 := HS.init w0 noM
  (refine enter (N := 8) Try.func89 rfl Try.ntmps89 rfl ?_; intro a hA; dsimp only [sl0, Nat.reduceAdd] at hA)
  repeat' (first | (first | (refine GT ?_ ?_ <;> intro hg <;> clear hA a <;> intro a hA <;> (first | exact FA | replace hg := of_decide_eq_true hg | replace hg := of_decide_eq_false hg | skip)) | ((first | apply st_ex hA hH rfl rfl (by decide) | apply dr_ex hA rfl rfl rfl (by decide) | apply dr_exp hA rfl rfl rfl (by decide) | apply dr_ex3 hA hH rfl rfl rfl (by decide)); (first | (apply ex_load; rfl; exact cl_w hcz id)); clear hA a; intro a hA) | (refine QT0 ?_; clear hA a; intro a hA) | (first | (refine BT ?_; clear hA hH; rintro _ w ⟨bN, rfl, hH⟩ a hA) | (refine LT ?_; clear hA hH; rintro _ w ⟨oN, rfl, hH⟩ a hA) | (refine AT ?_; clear hA; rintro _ w ⟨oN, cN, rfl, hH2⟩ a hA; clear hH; have hH := (hH2 _ (by (repeat constructor))).tail; clear hH2) | (refine S0T ?_; clear hH; rintro _ w hH) )) | ((first | refine CT ?_ | (refine DT ?_ ?_ <;> intro hc <;> try (exfalso; omega))) <;> repeat' refine CT ?_) | (first | (refine DSK ?_; clear hA a; intro a hA) | (first | (refine DLT ?_; clear hA hH; rintro _ w ⟨oN, rfl, hH⟩; refine ⟨STT, ?_⟩; intro a hA) | (refine DAT ?_; clear hA; rintro _ w ⟨oN, cN, rfl, hH2⟩; clear hH; have hH := (hH2 _ (by (repeat constructor))).tail; clear hH2; refine ⟨STT, ?_⟩; intro a hA))) )
  exact rt1 (.inl rfl) rfl hA rfl ⟨rfl, hH.kp⟩

theorem index_spec (w0 : World) (b : Nat) (o : Option Addr) (c : Nat) (fr : List (Int × Int)) (size : Int) (hcz : w0.cell? (bat b 0) = some (.int .i64 size)) (hr : Rd w0 o (flat encP fr)) (hl : fr.length ≤ 1048576) :
    Ret Try.prog 88 #[.slice o fr.length c, .func (.func 89) #[] #[.pointer (some (bat b 0))]] w0
      (fun v w => (∃ z, v = .int .i64 z ∧ FirstFit fr size z) ∧ Kp w0 noM w) := by
  have hH : HS w0 noM [] w0 := HS.init w0 noM
  have hsp : Sp o fr.length := hr.sp (sz := 2) (flat_length encP_len fr) (by omega)
  (refine enter (N := 19) Try.func88 rfl Try.ntmps88 rfl ?_; intro a hA; dsimp only [sl0, Nat.reduceAdd] at hA)
  repeat' (first | (first | (refine GT ?_ ?_ <;> intro hg <;> clear hA a <;> intro a hA <;> (first | exact FA | replace hg := of_decide_eq_true hg | replace hg := of_decide_eq_false hg | skip)) | (refine QT0 ?_; clear hA a; intro a hA) | (first | (refine BT ?_; clear hA hH; rintro _ w ⟨bN, rfl, hH⟩ a hA) | (refine LT ?_; clear hA hH; rintro _ w ⟨oN, rfl, hH⟩ a hA) | (refine AT ?_; clear hA; rintro _ w ⟨oN, cN, rfl, hH2⟩ a hA; clear hH; have hH := (hH2 _ (by (repeat constructor))).tail; clear hH2) | (refine S0T ?_; clear hH; rintro _ w hH) )) | ((first | refine CT ?_ | (refine DT ?_ ?_ <;> intro hc <;> try (exfalso; omega))) <;> repeat' refine CT ?_) | (first | (refine DSK ?_; clear hA a; intro a hA) | (first | (refine DLT ?_; clear hA hH; rintro _ w ⟨oN, rfl, hH⟩; refine ⟨STT, ?_⟩; intro a hA) | (refine DAT ?_; clear hA; rintro _ w ⟨oN, cN, rfl, hH2⟩; clear hH; have hH := (hH2 _ (by (repeat constructor))).tail; clear hH2; refine ⟨STT, ?_⟩; intro a hA))) )
  refine wp_lp (S := Nat) (fun i a w => (i ≤ fr.length ∧ ∀ k r', k < i → fr[k]? = some r' → ¬ size < r'.2) ∧ HS w0 noM [] w ∧ Sl 19 [(0, .slice o fr.length c), (1, .func (.func 89) #[] #[.pointer (some (bat b 0))]), (7, .int .i64 fr.length), (8, .int .i64 i)] a)
    (fun i => fr.length - i) 0 ⟨⟨Nat.zero_le _, fun k x hk => absurd hk (Nat.not_lt_zero _)⟩, hH, (hA.sub (by (repeat (first | exact trivial | refine ⟨rfl, ?_⟩))))⟩ ?_
  clear hA hH
  rintro i a w ⟨⟨hi, hik⟩, hH, hA⟩
  by_cases hlt : i < fr.length
  · obtain ⟨⟨ra, rn⟩, hx⟩ : ∃ x, fr[i]? = some x := ⟨_, List.getElem?_eq_getElem hlt⟩
    repeat' (first | (first | (refine GT ?_ ?_ <;> intro hg <;> clear hA a <;> intro a hA <;> (first | exact FA | replace hg := of_decide_eq_true hg | replace hg := of_decide_eq_false hg | skip)) | ((first | apply st_ex hA hH rfl rfl (by decide) | apply dr_ex hA rfl rfl rfl (by decide) | apply dr_exp hA rfl rfl rfl (by decide) | apply dr_ex3 hA hH rfl rfl rfl (by decide)); (first | (apply ex_load_st (vs := [.int .i64 ra, .int .i64 rn]); rfl; rfl; exact cls_rd hr id (encPa hx))); clear hA a; intro a hA) | (refine QT0 ?_; clear hA a; intro a hA) | (first | (refine BT ?_; clear hA hH; rintro _ w ⟨bN, rfl, hH⟩ a hA) | (refine LT ?_; clear hA hH; rintro _ w ⟨oN, rfl, hH⟩ a hA) | (refine AT ?_; clear hA; rintro _ w ⟨oN, cN, rfl, hH2⟩ a hA; clear hH; have hH := (hH2 _ (by (repeat constructor))).tail; clear hH2) | (refine S0T ?_; clear hH; rintro _ w hH) )) | ((first | refine CT ?_ | (refine DT ?_ ?_ <;> intro hc <;> try (exfalso; omega))) <;> repeat' refine CT ?_) | (first | (refine DSK ?_; clear hA a; intro a hA) | (first | (refine DLT ?_; clear hA hH; rintro _ w ⟨oN, rfl, hH⟩; refine ⟨STT, ?_⟩; intro a hA) | (refine DAT ?_; clear hA; rintro _ w ⟨oN, cN, rfl, hH2⟩; clear hH; have hH := (hH2 _ (by (repeat constructor))).tail; clear hH2; refine ⟨STT, ?_⟩; intro a hA))) )
    (refine st_op hA rfl rfl (by decide) (op_call rfl rfl rfl (fits1_spec _ b ra rn size (hH.cellw hcz id))) ?_; clear hA; rintro _ w ⟨rfl, hk⟩ a hA)
    replace hH := hH.keep hk
    repeat' (first | (first | (refine GT ?_ ?_ <;> intro hg <;> clear hA a <;> intro a hA <;> (first | exact FA | replace hg := of_decide_eq_true hg | replace hg := of_decide_eq_false hg | skip)) | (refine QT0 ?_; clear hA a; intro a hA) | (first | (refine BT ?_; clear hA hH; rintro _ w ⟨bN, rfl, hH⟩ a hA) | (refine LT ?_; clear hA hH; rintro _ w ⟨oN, rfl, hH⟩ a hA) | (refine AT ?_; clear hA; rintro _ w ⟨oN, cN, rfl, hH2⟩ a hA; clear hH; have hH := (hH2 _ (by (repeat constructor))).tail; clear hH2) | (refine S0T ?_; clear hH; rintro _ w hH) )) | ((first | refine CT ?_ | (refine DT ?_ ?_ <;> intro hc <;> try (exfalso; omega))) <;> repeat' refine CT ?_) | (first | (refine DSK ?_; clear hA a; intro a hA) | (first | (refine DLT ?_; clear hA hH; rintro _ w ⟨oN, rfl, hH⟩; refine ⟨STT, ?_⟩; intro a hA) | (refine DAT ?_; clear hA; rintro _ w ⟨oN, cN, rfl, hH2⟩; clear hH; have hH := (hH2 _ (by (repeat constructor))).tail; clear hH2; refine ⟨STT, ?_⟩; intro a hA))) )
    · exact rt1 (.inl rfl) rfl hA rfl ⟨⟨_, rfl, .inr ⟨i, _, rfl, hx, by assumption, hik⟩⟩, hH.kp⟩
    · refine ⟨i + 1, ⟨⟨hlt, fun k y hk hy => ?_⟩, hH, (hA.sub (by (repeat (first | exact trivial | refine ⟨rfl, ?_⟩))))⟩, by omega⟩
      rcases Nat.lt_or_ge k i with h | h
      · exact hik k y h hy
      · obtain rfl : k = i := by omega
        rw [hx] at hy
        obtain rfl := Option.some.inj hy
        assumption
  repeat' (first | (first | (refine GT ?_ ?_ <;> intro hg <;> clear hA a <;> intro a hA <;> (first | exact FA | replace hg := of_decide_eq_true hg | replace hg := of_decide_eq_false hg | skip)) | (refine QT0 ?_; clear hA a; intro a hA) | (first | (refine BT ?_; clear hA hH; rintro _ w ⟨bN, rfl, hH⟩ a hA) | (refine LT ?_; clear hA hH; rintro _ w ⟨oN, rfl, hH⟩ a hA) | (refine AT ?_; clear hA; rintro _ w ⟨oN, cN, rfl, hH2⟩ a hA; clear hH; have hH := (hH2 _ (by (repeat constructor))).tail; clear hH2) | (refine S0T ?_; clear hH; rintro _ w hH) )) | ((first | refine CT ?_ | (refine DT ?_ ?_ <;> intro hc <;> try (exfalso; omega))) <;> repeat' refine CT ?_) | (first | (refine DSK ?_; clear hA a; intro a hA) | (first | (refine DLT ?_; clear hA hH; rintro _ w ⟨oN, rfl, hH⟩; refine ⟨STT, ?_⟩; intro a hA) | (refine DAT ?_; clear hA; rintro _ w ⟨oN, cN, rfl, hH2⟩; clear hH; have hH := (hH2 _ (by (repeat constructor))).tail; clear hH2; refine ⟨STT, ?_⟩; intro a hA))) )
  refine rt1 (.inl rfl) rfl hA rfl ⟨⟨_, rfl, .inl ⟨rfl, fun r hr => ?_⟩⟩, hH.kp⟩
  obtain ⟨k, hk⟩ := List.getElem?_of_mem hr
  have := (List.getElem?_eq_some_iff.1 hk).1
  exact hik k r (by omega) hk

/-- slices.Delete of one run -/
theorem delete_spec (w0 : World) (M : Nat → Prop) (o : Option Addr) (c i : Nat) (fr : List (Int × Int)) (hH : HS w0 M [own 104 2 o fr.length c (flat encP fr)] w0) (hi : i < fr.length) (hl : fr.length ≤ 1048576) :
    Ret Try.prog 90 #[.slice o fr.length c, .int .i64 i, .int .i64 ((i + 1 : Nat) : Int)] w0
      (fun v w => ∃ o' c', v = .slice o' (fr.length - 1) c' ∧ HS w0 M [own 104 2 o' (fr.length - 1) c' (flat encP (fr.eraseIdx i))] w) := by
  have hle := hH.own_le (o := o) (by exact MEMT)
  obtain ⟨b, spare, rfl, h1, h2, h3, h4, hH⟩ := hH.own_block (by omega)
  (refine enter (N := 33) Try.func90 rfl Try.ntmps90 rfl ?_; intro a hA; dsimp only [sl0, Nat.reduceAdd] at hA)
  repeat' (first | (first | (refine GT ?_ ?_ <;> intro hg <;> clear hA a <;> intro a hA <;> (first | exact FA | replace hg := of_decide_eq_true hg | replace hg := of_decide_eq_false hg | skip)) | ((first | apply st_ex hA hH rfl rfl (by decide) | apply dr_ex hA rfl rfl rfl (by decide) | apply dr_exp hA rfl rfl rfl (by decide) | apply dr_ex3 hA hH rfl rfl rfl (by decide)); (first | (apply ex_slice_3 (i := i) (j := i + 1) (k := fr.length); rfl; rfl; rfl; rfl; rfl; rfl; rfl; omega; omega; omega)); clear hA a; intro a hA) | (refine QT0 ?_; clear hA a; intro a hA) | (first | (refine BT ?_; clear hA hH; rintro _ w ⟨bN, rfl, hH⟩ a hA) | (refine LT ?_; clear hA hH; rintro _ w ⟨oN, rfl, hH⟩ a hA) | (refine AT ?_; clear hA; rintro _ w ⟨oN, cN, rfl, hH2⟩ a hA; clear hH; have hH := (hH2 _ (by (repeat constructor))).tail; clear hH2) | (refine S0T ?_; clear hH; rintro _ w hH) )) | ((first | refine CT ?_ | (refine DT ?_ ?_ <;> intro hc <;> try (exfalso; omega))) <;> repeat' refine CT ?_) | (first | (refine DSK ?_; clear hA a; intro a hA) | (first | (refine DLT ?_; clear hA hH; rintro _ w ⟨oN, rfl, hH⟩; refine ⟨STT, ?_⟩; intro a hA) | (refine DAT ?_; clear hA; rintro _ w ⟨oN, cN, rfl, hH2⟩; clear hH; have hH := (hH2 _ (by (repeat constructor))).tail; clear hH2; refine ⟨STT, ?_⟩; intro a hA))) )
  have hn1 : fr.length - 1 + 1 = fr.length := by omega
  have hA_ : (flat encP (fr.take i)).length = i * 2 := by rw [flat_length encP_len, List.length_take]; omega
  have hB_ : (flat encP (fr.drop (i + 1))).length = (fr.length - (i + 1)) * 2 := by rw [flat_length encP_len, List.length_drop]
  obtain ⟨x, hx⟩ : ∃ x, fr[i]? = some x := ⟨_, List.getElem?_eq_getElem hi⟩
  have hsplit : flat encP fr ++ spare = flat encP (fr.take i) ++ (encP x ++ (flat encP (fr.drop (i + 1)) ++ spare)) := by
    conv => lhs; rw [← List.take_append_drop i fr, List.drop_eq_getElem_cons hi, (List.getElem?_eq_some_iff.1 hx).2]
    rw [flat_append, show flat encP (x :: fr.drop (i + 1)) = encP x ++ flat encP (fr.drop (i + 1)) by simp [flat]]
    simp
  have hlen : (flat encP fr ++ spare).length = c * 2 := by rw [List.length_append]; exact h4
  obtain ⟨q, hq, hqn⟩ : ∃ q, (if c = i + 1 then 0 else 0 + (i + 1) * 2) = q ∧ (i + 1 < fr.length → q = (i + 1) * 2) := ⟨_, rfl, fun h => by rw [if_neg (by omega), Nat.zero_add]⟩
  have hnews : ∀ j u, (flat encP (fr.drop (i + 1)))[j]? = some u → w0.cell? ((bat b q).add j) = some u := by
    intro j u hj
    have hjl := (List.getElem?_eq_some_iff.1 hj).1
    have hq2 := hqn (by omega)
    have h5 := hH.cb_news (b := b) (k := q) (m := (flat encP (fr.drop (i + 1))).length) (List.mem_cons_self ..) j u
    have e5 : ((flat encP fr ++ spare).drop q).take (flat encP (fr.drop (i + 1))).length = flat encP (fr.drop (i + 1)) := by
      rw [hsplit, show q = (flat encP (fr.take i)).length + (encP x).length by rw [hA_, encP_len]; omega]
      exact mid_take
    rw [e5] at h5
    exact h5 hj
  have h1n : (flat encP (fr.drop (i + 1))).all (·.oneCell') = true := flat_one_cell (fun _ => rfl) _
  have hfit : i * 2 + (flat encP (fr.drop (i + 1))).length ≤ (flat encP fr ++ spare).length := by rw [hB_, hlen]; omega
  have hroom : i + (fr.length - (i + 1)) ≤ c := by omega
  have hw : HS w0 M [] w0 := hH.drop_
  (refine wp_draw_HS [(0, 2), (1, 2), (2, 2), (3, 2), (4, 2), (5, 2), (6, 0), (7, 2)] mixed (by decide +kernel) hH.drop_ ?_; replace hH := hH.drew)
  have hnews' : ∀ j u, (flat encP (fr.drop (i + 1)))[j]? = some u → w0.drew.cell? ((bat b q).add j) = some u := hnews
  repeat' (first | (first | (refine GT ?_ ?_ <;> intro hg <;> clear hA a <;> intro a hA <;> (first | exact FA | replace hg := of_decide_eq_true hg | replace hg := of_decide_eq_false hg | skip)) | ((first | apply st_ex hA hH rfl rfl (by decide) | apply dr_ex hA rfl rfl rfl (by decide) | apply dr_exp hA rfl rfl rfl (by decide) | apply dr_ex3 hA hH rfl rfl rfl (by decide)); (first | (apply ex_slice_hi (k := i); rfl; rfl; rfl; omega) | (apply ex_slice_lo_b (k := i + 1) (q := q); rfl; rfl; rfl; omega; exact hq)); clear hA a; intro a hA) | (refine QT0 ?_; clear hA a; intro a hA) | (first | (refine BT ?_; clear hA hH; rintro _ w ⟨bN, rfl, hH⟩ a hA) | (refine LT ?_; clear hA hH; rintro _ w ⟨oN, rfl, hH⟩ a hA) | (refine AT ?_; clear hA; rintro _ w ⟨oN, cN, rfl, hH2⟩ a hA; clear hH; have hH := (hH2 _ (by (repeat constructor))).tail; clear hH2) | (refine S0T ?_; clear hH; rintro _ w hH) )) | ((first | refine CT ?_ | (refine DT ?_ ?_ <;> intro hc <;> try (exfalso; omega))) <;> repeat' refine CT ?_) | (first | (refine DSK ?_; clear hA a; intro a hA) | (first | (refine DLT ?_; clear hA hH; rintro _ w ⟨oN, rfl, hH⟩; refine ⟨STT, ?_⟩; intro a hA) | (refine DAT ?_; clear hA; rintro _ w ⟨oN, cN, rfl, hH2⟩; clear hH; have hH := (hH2 _ (by (repeat constructor))).tail; clear hH2; refine ⟨STT, ?_⟩; intro a hA))) | (apply dr_op hA rfl rfl rfl (by decide); apply op_append_in; rfl; rfl; exact hH; exact hnews'; exact hB_; exact h1n; exact hroom; exact hfit; (repeat constructor); clear hA hH; rintro _ w ⟨rfl, hH⟩; refine ⟨STT, ?_⟩; intro a hA))
  have en : i + (fr.length - (i + 1)) = fr.length - 1 := by omega
  rw [en] at hA
  have hq2 : (if c = fr.length - 1 then 0 else 0 + (fr.length - 1) * 2) = (fr.length - 1) * 2 := by rw [if_neg (by omega), Nat.zero_add]
  have hpl : (put (flat encP fr ++ spare) (i * 2) (flat encP (fr.drop (i + 1)))).length = c * 2 := by rw [put_length hfit, hlen]
  have hfit2 : (fr.length - 1) * 2 + (fr.length - (fr.length - 1)) * 2 ≤ (put (flat encP fr ++ spare) (i * 2) (flat encP (fr.drop (i + 1)))).length := by rw [hpl]; omega
  repeat' (first | (first | (refine GT ?_ ?_ <;> intro hg <;> clear hA a <;> intro a hA <;> (first | exact FA | replace hg := of_decide_eq_true hg | replace hg := of_decide_eq_false hg | skip)) | ((first | apply st_ex hA hH rfl rfl (by decide) | apply dr_ex hA rfl rfl rfl (by decide) | apply dr_exp hA rfl rfl rfl (by decide) | apply dr_ex3 hA hH rfl rfl rfl (by decide)); (first | (apply ex_slice_lh_b (i := fr.length - 1) (j := fr.length); rfl; rfl; rfl; rfl; rfl; omega; omega; exact hq2)); clear hA a; intro a hA) | (refine QT0 ?_; clear hA a; intro a hA) | (first | (refine BT ?_; clear hA hH; rintro _ w ⟨bN, rfl, hH⟩ a hA) | (refine LT ?_; clear hA hH; rintro _ w ⟨oN, rfl, hH⟩ a hA) | (refine AT ?_; clear hA; rintro _ w ⟨oN, cN, rfl, hH2⟩ a hA; clear hH; have hH := (hH2 _ (by (repeat constructor))).tail; clear hH2) | (refine S0T ?_; clear hH; rintro _ w hH) | (apply st_op0 hA rfl rfl; apply op_clear_cb; rfl; omega; exact hH; rfl; rfl; exact hfit2; clear hH; rintro _ w ⟨zz, hzz, hH⟩))) | ((first | refine CT ?_ | (refine DT ?_ ?_ <;> intro hc <;> try (exfalso; omega))) <;> repeat' refine CT ?_) | (first | (refine DSK ?_; clear hA a; intro a hA) | (first | (refine DLT ?_; clear hA hH; rintro _ w ⟨oN, rfl, hH⟩; refine ⟨STT, ?_⟩; intro a hA) | (refine DAT ?_; clear hA; rintro _ w ⟨oN, cN, rfl, hH2⟩; clear hH; have hH := (hH2 _ (by (repeat constructor))).tail; clear hH2; refine ⟨STT, ?_⟩; intro a hA))) )
  have hzz2 : zz.length = (encP x).length := by rw [hzz, encP_len]; omega
  have e6 : put (put (flat encP fr ++ spare) (i * 2) (flat encP (fr.drop (i + 1)))) ((fr.length - 1) * 2) zz = flat encP (fr.eraseIdx i) ++ (zz ++ spare) := by
    rw [hsplit, List.eraseIdx_eq_take_drop_succ, flat_append, ← del_cells hzz2, hA_, hB_]
    congr 1
    omega
  rw [e6] at hH
  have hel : (flat encP (fr.eraseIdx i)).length = (fr.length - 1) * 2 := by rw [flat_length encP_len, List.length_eraseIdx_of_lt hi]
  refine rt1 (.inl rfl) rfl hA rfl ⟨_, _, rfl, hH.block_own hel (by omega) h2 ?_⟩
  rw [hel, List.length_append, hzz]
  rw [List.length_append] at hlen
  omega
end Go.Proofs.Ytdfhajdejlhamaa
namespace Go.Proofs.Ytdfhajdejlhamaa
open Go Go.Fw
set_option linter.unusedVariables false
/-- rising runs, within a heap -/
def Rising (fr : List (Int × Int)) : Prop := (∀ r ∈ fr, 0 ≤ r.1 ∧ r.1 ≤ 65536) ∧ ∀ (k k' : Nat) (r r' : Int × Int), k < k' → fr[k]? = some r → fr[k']? = some r' → r.1 < r'.1
/-- where a run would stand -/
def Pos (fr : List (Int × Int)) (t : Int) (i : Nat) : Prop := i ≤ fr.length ∧ (∀ (k : Nat) (r : Int × Int), k < i → fr[k]? = some r → r.1 < t) ∧ ∀ (k : Nat) (r : Int × Int), i ≤ k → fr[k]? = some r → t ≤ r.1
theorem u64_i {m : Int} (h0 : 0 ≤ m) (h : m < 18446744073709551616) : IntKind.u64.wrap m = m := by
  have e : IntKind.u64.wrap m = m % (2 ^ 64 : Int) := rfl
  rw [e]; omega
theorem shr1 (n : Nat) : shrK .u64 (n : Int) 1 = ((n / 2 : Nat) : Int) := by
  have e : shrK .u64 (n : Int) 1 = (n : Int).fdiv 2 := rfl
  rw [e, Int.fdiv_eq_ediv_of_nonneg _ (by decide)]
  omega
set_option maxRecDepth 10000 attribute [local irreducible] Code.wp wpList Calls Ex Op1 sat bat blk cb own Go.Fw.mp Go.Fw.mpO Go.Fw.mpI Go.Fw.mpE Go.Fw.itr HS Rd Ret wkD Hp Cl Cls Exit.then Exit.inBlock Exit.noGoto bodyPost Go.Fw.flat wk2 Go.Fw.all Go.Fw.owns wpOp
attribute [local irreducible] shrK

theorem cmp_spec (w0 : World) (a n t : Int) (h : -100000 ≤ a ∧ a ≤ 100000) (h' : -100000 ≤ t ∧ t ≤ 100000) :
    Ret Try.prog 96 #[.agg #[.int .i64 a, .int .i64 n], .int .i64 t] w0 (fun v w => v = .int .i64 (a - t) ∧ Kp w0 noM w) := by
  have hH : HS w0 noM [] w0 := HS.init w0 noM
  (refine enter (N := 9) Try.func96 rfl Try.ntmps96 rfl ?_; intro a hA; dsimp only [sl0, Nat.reduceAdd] at hA)
  repeat' (first | (first | (refine GT ?_ ?_ <;> intro hg <;> clear hA a <;> intro a hA <;> (first | exact FA | replace hg := of_decide_eq_true hg | replace hg := of_decide_eq_false hg | skip)) | (refine QT0 ?_; clear hA a; intro a hA) | (first | (refine BT ?_; clear hA hH; rintro _ w ⟨bN, rfl, hH⟩ a hA) | (refine LT ?_; clear hA hH; rintro _ w ⟨oN, rfl, hH⟩ a hA) | (refine AT ?_; clear hA; rintro _ w ⟨oN, cN, rfl, hH2⟩ a hA; clear hH; have hH := (hH2 _ (by (repeat constructor))).tail; clear hH2) | (refine S0T ?_; clear hH; rintro _ w hH) )) | ((first | refine CT ?_ | (refine DT ?_ ?_ <;> intro hc <;> try (exfalso; omega))) <;> repeat' refine CT ?_) | (first | (refine DSK ?_; clear hA a; intro a hA) | (first | (refine DLT ?_; clear hA hH; rintro _ w ⟨oN, rfl, hH⟩; refine ⟨STT, ?_⟩; intro a hA) | (refine DAT ?_; clear hA; rintro _ w ⟨oN, cN, rfl, hH2⟩; clear hH; have hH := (hH2 _ (by (repeat constructor))).tail; clear hH2; refine ⟨STT, ?_⟩; intro a hA))) )
  exact rt1 (.inl rfl) rfl hA rfl ⟨rfl, hH.kp⟩

theorem search_spec (w0 : World) (o : Option Addr) (c : Nat) (fr : List (Int × Int)) (t : Int) (hr : Rd w0 o (flat encP fr)) (hl : fr.length ≤ 1048576) (hs : Rising fr) (ht : -1 ≤ t ∧ t ≤ 65536) :
    Ret Try.prog 95 #[.slice o fr.length c, .int .i64 t, .func (.func 96) #[] #[]] w0
      (fun v w => (∃ (i : Nat) (b : Bool), v = .tuple #[.int .i64 i, .bool b] ∧ Pos fr t i) ∧ Kp w0 noM w) := by
  have hH : HS w0 noM [] w0 := HS.init w0 noM
  have hsp : Sp o fr.length := hr.sp (sz := 2) (flat_length encP_len fr) (by omega)
  (refine enter (N := 49) Try.func95 rfl Try.ntmps95 rfl ?_; intro a hA; dsimp only [sl0, Nat.reduceAdd] at hA)
  repeat' (first | (first | (refine GT ?_ ?_ <;> intro hg <;> clear hA a <;> intro a hA <;> (first | exact FA | replace hg := of_decide_eq_true hg | replace hg := of_decide_eq_false hg | skip)) | (refine QT0 ?_; clear hA a; intro a hA) | (first | (refine BT ?_; clear hA hH; rintro _ w ⟨bN, rfl, hH⟩ a hA) | (refine LT ?_; clear hA hH; rintro _ w ⟨oN, rfl, hH⟩ a hA) | (refine AT ?_; clear hA; rintro _ w ⟨oN, cN, rfl, hH2⟩ a hA; clear hH; have hH := (hH2 _ (by (repeat constructor))).tail; clear hH2) | (refine S0T ?_; clear hH; rintro _ w hH) )) | ((first | refine CT ?_ | (refine DT ?_ ?_ <;> intro hc <;> try (exfalso; omega))) <;> repeat' refine CT ?_) | (first | (refine DSK ?_; clear hA a; intro a hA) | (first | (refine DLT ?_; clear hA hH; rintro _ w ⟨oN, rfl, hH⟩; refine ⟨STT, ?_⟩; intro a hA) | (refine DAT ?_; clear hA; rintro _ w ⟨oN, cN, rfl, hH2⟩; clear hH; have hH := (hH2 _ (by (repeat constructor))).tail; clear hH2; refine ⟨STT, ?_⟩; intro a hA))) )
  refine wp_lp (S := Nat × Nat) (fun s a w => (s.1 ≤ s.2 ∧ s.2 ≤ fr.length ∧ (∀ (k : Nat) (r : Int × Int), k < s.1 → fr[k]? = some r → r.1 < t) ∧ ∀ (k : Nat) (r : Int × Int), s.2 ≤ k → fr[k]? = some r → t ≤ r.1) ∧ HS w0 noM [] w ∧
      Sl 49 [(0, .slice o fr.length c), (1, .int .i64 t), (2, .func (.func 96) #[] #[]), (8, .int .i64 fr.length), (9, .int .i64 s.1), (10, .int .i64 s.2)] a)
    (fun s => s.2 - s.1) (0, fr.length) ⟨⟨Nat.zero_le _, Nat.le_refl _, fun k r h => absurd h (Nat.not_lt_zero _), fun k r h hk => by have := (List.getElem?_eq_some_iff.1 hk).1; dsimp only at h; omega⟩, hH, (hA.sub (by (repeat (first | exact trivial | refine ⟨rfl, ?_⟩))))⟩ ?_
  clear hA hH
  rintro ⟨i, j⟩ a w ⟨⟨h1, h2, h3, h4⟩, hH, hA⟩
  dsimp only at h1 h2 h3 h4 hH hA
  by_cases hlt : i < j
  · obtain ⟨m, hm⟩ : ∃ m, (i + j) / 2 = m := ⟨_, rfl⟩
    have hmi : i ≤ m ∧ m < j := by omega
    obtain ⟨⟨ra, rn⟩, hx⟩ : ∃ x, fr[m]? = some x := ⟨_, List.getElem?_eq_getElem (by omega)⟩
    have hb := hs.1 _ (List.mem_of_getElem? hx)
    have hc1 : IntKind.u64.wrap ((i : Int) + j) = ((i + j : Nat) : Int) := by rw [u64_i (by omega) (by omega)]; omega
    have hc2 : shrK .u64 ((i + j : Nat) : Int) 1 = (m : Int) := by rw [shr1, hm]
    have hc3 : IntKind.i64.wrap (m : Int) = m := wrap_i64 ⟨by omega, by omega⟩
    repeat' (first | (first | (refine GT ?_ ?_ <;> intro hg <;> clear hA a <;> intro a hA <;> (first | exact FA | replace hg := of_decide_eq_true hg | replace hg := of_decide_eq_false hg | skip)) | ((first | apply st_ex hA hH rfl rfl (by decide) | apply dr_ex hA rfl rfl rfl (by decide) | apply dr_exp hA rfl rfl rfl (by decide) | apply dr_ex3 hA hH rfl rfl rfl (by decide)); (first | (apply ex_convert (v := ((i + j : Nat) : Int)); rfl; exact hc1) | (apply ex_convert (v := (m : Int)); rfl; exact hc3) | (apply ex_shr (v := (m : Int)); rfl; rfl; decide; exact hc2) | (apply ex_load_st (vs := [.int .i64 ra, .int .i64 rn]); rfl; rfl; exact cls_rd hr id (encPa hx))); clear hA a; intro a hA) | (refine QT0 ?_; clear hA a; intro a hA) | (first | (refine BT ?_; clear hA hH; rintro _ w ⟨bN, rfl, hH⟩ a hA) | (refine LT ?_; clear hA hH; rintro _ w ⟨oN, rfl, hH⟩ a hA) | (refine AT ?_; clear hA; rintro _ w ⟨oN, cN, rfl, hH2⟩ a hA; clear hH; have hH := (hH2 _ (by (repeat constructor))).tail; clear hH2) | (refine S0T ?_; clear hH; rintro _ w hH) )) | ((first | refine CT ?_ | (refine DT ?_ ?_ <;> intro hc <;> try (exfalso; omega))) <;> repeat' refine CT ?_) | (first | (refine DSK ?_; clear hA a; intro a hA) | (first | (refine DLT ?_; clear hA hH; rintro _ w ⟨oN, rfl, hH⟩; refine ⟨STT, ?_⟩; intro a hA) | (refine DAT ?_; clear hA; rintro _ w ⟨oN, cN, rfl, hH2⟩; clear hH; have hH := (hH2 _ (by (repeat constructor))).tail; clear hH2; refine ⟨STT, ?_⟩; intro a hA))) )
    (refine st_op hA rfl rfl (by decide) (op_call rfl rfl rfl (cmp_spec _ ra rn t (by dsimp only at hb; omega) (by omega))) ?_; clear hA; rintro _ w ⟨rfl, hk⟩ a hA)
    replace hH := hH.keep hk
    repeat' (first | (first | (refine GT ?_ ?_ <;> intro hg <;> clear hA a <;> intro a hA <;> (first | exact FA | replace hg := of_decide_eq_true hg | replace hg := of_decide_eq_false hg | skip)) | (refine QT0 ?_; clear hA a; intro a hA) | (first | (refine BT ?_; clear hA hH; rintro _ w ⟨bN, rfl, hH⟩ a hA) | (refine LT ?_; clear hA hH; rintro _ w ⟨oN, rfl, hH⟩ a hA) | (refine AT ?_; clear hA; rintro _ w ⟨oN, cN, rfl, hH2⟩ a hA; clear hH; have hH := (hH2 _ (by (repeat constructor))).tail; clear hH2) | (refine S0T ?_; clear hH; rintro _ w hH) )) | ((first | refine CT ?_ | (refine DT ?_ ?_ <;> intro hc <;> try (exfalso; omega))) <;> repeat' refine CT ?_) | (first | (refine DSK ?_; clear hA a; intro a hA) | (first | (refine DLT ?_; clear hA hH; rintro _ w ⟨oN, rfl, hH⟩; refine ⟨STT, ?_⟩; intro a hA) | (refine DAT ?_; clear hA; rintro _ w ⟨oN, cN, rfl, hH2⟩; clear hH; have hH := (hH2 _ (by (repeat constructor))).tail; clear hH2; refine ⟨STT, ?_⟩; intro a hA))) )
    · refine ⟨(m + 1, j), ⟨⟨by show m + 1 ≤ j; omega, h2, fun k r hk' hkr => ?_, h4⟩, hH, (hA.sub (by (repeat (first | exact trivial | refine ⟨rfl, ?_⟩))))⟩, by show j - (m + 1) < j - i; omega⟩
      rcases Nat.lt_or_ge k m with h | h
      · have := hs.2 k m r _ h hkr hx
        dsimp only at this
        omega
      · obtain rfl : k = m := by have : k < m + 1 := hk'; omega
        rw [hx] at hkr
        obtain rfl := Option.some.inj hkr
        dsimp only
        omega
    · refine ⟨(i, m), ⟨⟨hmi.1, by show m ≤ fr.length; omega, h3, fun k r hk' hkr => ?_⟩, hH, (hA.sub (by (repeat (first | exact trivial | refine ⟨rfl, ?_⟩))))⟩, by show m - i < j - i; omega⟩
      rcases Nat.lt_or_ge m k with h | h
      · have := hs.2 m k _ r h hx hkr
        dsimp only at this
        omega
      · obtain rfl : k = m := by have : m ≤ k := hk'; omega
        rw [hx] at hkr
        obtain rfl := Option.some.inj hkr
        dsimp only
        omega
  obtain rfl : i = j := by omega
  by_cases hil : i < fr.length
  · obtain ⟨⟨ra, rn⟩, hx⟩ : ∃ x, fr[i]? = some x := ⟨_, List.getElem?_eq_getElem hil⟩
    have hb := hs.1 _ (List.mem_of_getElem? hx)
    repeat' (first | (first | (refine GT ?_ ?_ <;> intro hg <;> clear hA a <;> intro a hA <;> (first | exact FA | replace hg := of_decide_eq_true hg | replace hg := of_decide_eq_false hg | skip)) | ((first | apply st_ex hA hH rfl rfl (by decide) | apply dr_ex hA rfl rfl rfl (by decide) | apply dr_exp hA rfl rfl rfl (by decide) | apply dr_ex3 hA hH rfl rfl rfl (by decide)); (first | (apply ex_load_st (vs := [.int .i64 ra, .int .i64 rn]); rfl; rfl; exact cls_rd hr id (encPa hx))); clear hA a; intro a hA) | (refine QT0 ?_; clear hA a; intro a hA) | (first | (refine BT ?_; clear hA hH; rintro _ w ⟨bN, rfl, hH⟩ a hA) | (refine LT ?_; clear hA hH; rintro _ w ⟨oN, rfl, hH⟩ a hA) | (refine AT ?_; clear hA; rintro _ w ⟨oN, cN, rfl, hH2⟩ a hA; clear hH; have hH := (hH2 _ (by (repeat constructor))).tail; clear hH2) | (refine S0T ?_; clear hH; rintro _ w hH) )) | ((first | refine CT ?_ | (refine DT ?_ ?_ <;> intro hc <;> try (exfalso; omega))) <;> repeat' refine CT ?_) | (first | (refine DSK ?_; clear hA a; intro a hA) | (first | (refine DLT ?_; clear hA hH; rintro _ w ⟨oN, rfl, hH⟩; refine ⟨STT, ?_⟩; intro a hA) | (refine DAT ?_; clear hA; rintro _ w ⟨oN, cN, rfl, hH2⟩; clear hH; have hH := (hH2 _ (by (repeat constructor))).tail; clear hH2; refine ⟨STT, ?_⟩; intro a hA))) )
    (refine st_op hA rfl rfl (by decide) (op_call rfl rfl rfl (cmp_spec _ ra rn t (by dsimp only at hb; omega) (by omega))) ?_; clear hA; rintro _ w ⟨rfl, hk⟩ a hA)
    replace hH := hH.keep hk
    repeat' (first | (first | (refine GT ?_ ?_ <;> intro hg <;> clear hA a <;> intro a hA <;> (first | exact FA | replace hg := of_decide_eq_true hg | replace hg := of_decide_eq_false hg | skip)) | (refine QT0 ?_; clear hA a; intro a hA) | (first | (refine BT ?_; clear hA hH; rintro _ w ⟨bN, rfl, hH⟩ a hA) | (refine LT ?_; clear hA hH; rintro _ w ⟨oN, rfl, hH⟩ a hA) | (refine AT ?_; clear hA; rintro _ w ⟨oN, cN, rfl, hH2⟩ a hA; clear hH; have hH := (hH2 _ (by (repeat constructor))).tail; clear hH2) | (refine S0T ?_; clear hH; rintro _ w hH) )) | ((first | refine CT ?_ | (refine DT ?_ ?_ <;> intro hc <;> try (exfalso; omega))) <;> repeat' refine CT ?_) | (first | (refine DSK ?_; clear hA a; intro a hA) | (first | (refine DLT ?_; clear hA hH; rintro _ w ⟨oN, rfl, hH⟩; refine ⟨STT, ?_⟩; intro a hA) | (refine DAT ?_; clear hA; rintro _ w ⟨oN, cN, rfl, hH2⟩; clear hH; have hH := (hH2 _ (by (repeat constructor))).tail; clear hH2; refine ⟨STT, ?_⟩; intro a hA))) )
    exact rt2 (.inl rfl) rfl hA rfl rfl ⟨⟨i, _, rfl, h2, h3, h4⟩, hH.kp⟩
  · repeat' (first | (first | (refine GT ?_ ?_ <;> intro hg <;> clear hA a <;> intro a hA <;> (first | exact FA | replace hg := of_decide_eq_true hg | replace hg := of_decide_eq_false hg | skip)) | (refine QT0 ?_; clear hA a; intro a hA) | (first | (refine BT ?_; clear hA hH; rintro _ w ⟨bN, rfl, hH⟩ a hA) | (refine LT ?_; clear hA hH; rintro _ w ⟨oN, rfl, hH⟩ a hA) | (refine AT ?_; clear hA; rintro _ w ⟨oN, cN, rfl, hH2⟩ a hA; clear hH; have hH := (hH2 _ (by (repeat constructor))).tail; clear hH2) | (refine S0T ?_; clear hH; rintro _ w hH) )) | ((first | refine CT ?_ | (refine DT ?_ ?_ <;> intro hc <;> try (exfalso; omega))) <;> repeat' refine CT ?_) | (first | (refine DSK ?_; clear hA a; intro a hA) | (first | (refine DLT ?_; clear hA hH; rintro _ w ⟨oN, rfl, hH⟩; refine ⟨STT, ?_⟩; intro a hA) | (refine DAT ?_; clear hA; rintro _ w ⟨oN, cN, rfl, hH2⟩; clear hH; have hH := (hH2 _ (by (repeat constructor))).tail; clear hH2; refine ⟨STT, ?_⟩; intro a hA))) )
    exact rt2 (.inl rfl) rfl hA rfl rfl ⟨⟨i, _, rfl, h2, h3, h4⟩, hH.kp⟩
end Go.Proofs.Ytdfhajdejlhamaa
