/-
  More of the frame: a slice of one's own as a block in plain sight; append in place and into a new block; clear; parts that are there, whichever they be. Conditions: none.
-/
import Derived.Test.YtejpcidfigmnkaaFw9
import Derived.Lib.Overlaps
import Derived.Laws.Cover3
namespace Go.Fw
open Go Go.RowKit
set_option linter.unusedVariables false

/-! ## a part with something open, a part with a fact -/
def exI {α : Type} (f : α → It) : It where
  sat w F := ∃ x, (f x).sat w F
  loc := fun ⟨x, h⟩ he => ⟨x, (f x).loc h he⟩
  lt := fun ⟨x, h⟩ b hb => (f x).lt h b hb
  ext := fun ⟨x, h⟩ he => ⟨x, (f x).ext h he⟩
def facI (p : Prop) (it : It) : It where
  sat w F := p ∧ it.sat w F
  loc := fun ⟨hp, h⟩ he => ⟨hp, it.loc h he⟩
  lt := fun ⟨_, h⟩ b hb => it.lt h b hb
  ext := fun ⟨hp, h⟩ he => ⟨hp, it.ext h he⟩
theorem HS.exI_open {α : Type} {f : α → It} {w0 w : World} {M : Nat → Prop} {H : List It} (h : HS w0 M (exI f :: H) w) : ∃ x, HS w0 M (f x :: H) w := by
  obtain ⟨hk, F, ⟨F1, F2, hF, hd, ⟨x, h1⟩, h2⟩, ho⟩ := h
  exact ⟨x, hk, F, ⟨F1, F2, hF, hd, h1, h2⟩, ho⟩
theorem HS.exI_shut {α : Type} {f : α → It} {w0 w : World} {M : Nat → Prop} {H : List It} (x : α) (h : HS w0 M (f x :: H) w) : HS w0 M (exI f :: H) w := by
  obtain ⟨hk, F, ⟨F1, F2, hF, hd, h1, h2⟩, ho⟩ := h
  exact ⟨hk, F, ⟨F1, F2, hF, hd, ⟨x, h1⟩, h2⟩, ho⟩
theorem HS.facI_open {p : Prop} {it : It} {w0 w : World} {M : Nat → Prop} {H : List It} (h : HS w0 M (facI p it :: H) w) : p ∧ HS w0 M (it :: H) w := by
  obtain ⟨hk, F, ⟨F1, F2, hF, hd, ⟨hp, h1⟩, h2⟩, ho⟩ := h
  exact ⟨hp, hk, F, ⟨F1, F2, hF, hd, h1, h2⟩, ho⟩
theorem HS.facI_shut {p : Prop} {it : It} {w0 w : World} {M : Nat → Prop} {H : List It} (hp : p) (h : HS w0 M (it :: H) w) : HS w0 M (facI p it :: H) w := by
  obtain ⟨hk, F, ⟨F1, F2, hF, hd, h1, h2⟩, ho⟩ := h
  exact ⟨hk, F, ⟨F1, F2, hF, hd, ⟨hp, h1⟩, h2⟩, ho⟩

/-! ## one's own slice as a block -/
theorem HS.own_block {w0 w : World} {M : Nat → Prop} {H : List It} {T sz n cap : Nat} {o : Option Addr} {xs : List Value} (h : HS w0 M (own T sz o n cap xs :: H) w) (hc : 0 < cap) :
    ∃ b spare, o = some (bat b 0) ∧ n ≤ cap ∧ cap ≤ maxLen ∧ xs.length = n * sz ∧ xs.length + spare.length = cap * sz ∧ HS w0 M (cb b T (xs ++ spare) :: H) w := by
  obtain ⟨F0, hF0⟩ := h.sat (List.mem_cons_self ..)
  rcases hF0 with ⟨_, _, rfl, _⟩ | ⟨b, spare, rfl, g2, g3, g4, g5, g6, g7⟩
  · omega
  refine ⟨b, spare, rfl, g4, g5, g3, g6, h.conv Rp.here fun F hF => ?_⟩
  rcases hF with ⟨h0, _⟩ | ⟨b', spare', hb', q2, q3, q4, q5, q6, q7⟩
  · cases h0
  · obtain rfl : b = b' := by simpa using hb'
    exact ⟨q2, g7⟩
theorem HS.block_own {w0 w : World} {M : Nat → Prop} {H : List It} {T sz n cap b : Nat} {xs spare : List Value} (h : HS w0 M (cb b T (xs ++ spare) :: H) w) (h1 : xs.length = n * sz) (h2 : n ≤ cap) (h3 : cap ≤ maxLen) (h4 : xs.length + spare.length = cap * sz) :
    HS w0 M (own T sz (some (bat b 0)) n cap xs :: H) w :=
  h.conv Rp.here fun F ⟨q1, q2⟩ => .inr ⟨b, spare, rfl, q1, h1, h2, h3, h4, q2⟩
theorem subO_bat (b k c i sz : Nat) : subO (some (bat b k)) c i sz = some (bat b (if c = i then k else k + i * sz)) := by
  unfold subO bat
  split
  · rfl
  · simp [Addr.add]
theorem put_seg {A B C V : List Value} {k : Nat} (hk : k = A.length) (h : B.length = V.length) : put (A ++ (B ++ C)) k V = A ++ (V ++ C) := by
  subst hk
  unfold put
  rw [List.take_append_of_le_length (Nat.le_refl _), List.take_length, ← h, ← List.append_assoc A B C, show A.length + B.length = (A ++ B).length by simp, List.drop_append_of_le_length (Nat.le_refl _), List.drop_length]
  simp
/-- a piece is taken out, what stands behind it moves up, and what is left behind is written over -/
theorem del_cells {A x B zz spare : List Value} (hz : zz.length = x.length) : put (put (A ++ (x ++ (B ++ spare))) A.length B) (A.length + B.length) zz = (A ++ B) ++ (zz ++ spare) := by
  have e1 : A ++ (x ++ (B ++ spare)) = A ++ ((x ++ B).take B.length ++ ((x ++ B).drop B.length ++ spare)) := by
    rw [← List.append_assoc ((x ++ B).take _), List.take_append_drop, List.append_assoc]
  rw [e1, put_seg rfl (by simp), ← List.append_assoc A B, put_seg (by simp) (by simp [hz])]
theorem mid_take {A x B R : List Value} : ((A ++ (x ++ (B ++ R))).drop (A.length + x.length)).take B.length = B := by
  rw [← List.append_assoc, show A.length + x.length = (A ++ x).length by simp, List.drop_append_of_le_length (Nat.le_refl _), List.drop_length]
  simp
/-- a piece is put in, what stood there moves down -/
theorem ins_cells {A v B sp1 sp2 : List Value} (hv : v.length = sp1.length) : put (put (A ++ (B ++ (sp1 ++ sp2))) (A.length + v.length) B) A.length v = (A ++ (v ++ B)) ++ sp2 := by
  have e1 : A ++ (B ++ (sp1 ++ sp2)) = (A ++ (B ++ sp1).take v.length) ++ ((B ++ sp1).drop v.length ++ sp2) := by
    rw [List.append_assoc, ← List.append_assoc ((B ++ sp1).take _), List.take_append_drop, List.append_assoc]
  rw [e1, put_seg (by simp; omega) (by simp; omega), List.append_assoc A, put_seg rfl (by simp; omega)]
  simp
theorem bat_sat (b k j : Nat) : sat (some (bat b k)) j = bat b (k + j) := rfl
/-- what a block holds can be read from each of its places -/
theorem HS.cb_rd {w0 w : World} {M : Nat → Prop} {H : List It} {b T : Nat} {cs : List Value} (h : HS w0 M H w) (hm : cb b T cs ∈ H) (k : Nat) : Rd w (some (bat b k)) (cs.drop k) := by
  obtain ⟨F, hF⟩ := h.sat hm
  refine ⟨fun _ => ⟨b, k, rfl⟩, fun j u hj => ?_⟩
  rw [bat_sat]
  rw [List.getElem?_drop] at hj
  have := cell_of_cells hF.2 (k + j)
  unfold bat
  rw [this]
  simpa using hj

theorem HS.cb_news {w0 w : World} {M : Nat → Prop} {H : List It} {b T k m : Nat} {cs : List Value} (h : HS w0 M H w) (hm : cb b T cs ∈ H) : ∀ j u, ((cs.drop k).take m)[j]? = some u → w.cell? ((bat b k).add j) = some u := by
  intro j u hj
  have hjl := (List.getElem?_eq_some_iff.1 hj).1
  rw [List.length_take] at hjl
  rw [List.getElem?_take_of_lt (by omega)] at hj
  rw [bat_add]
  exact (h.cb_rd hm k).2 j u hj
theorem Rd.news {w : World} {a : Addr} {xs : List Value} (h : Rd w (some a) xs) : ∀ j u, xs[j]? = some u → w.cell? (a.add j) = some u := by
  intro j u hj
  obtain ⟨b, off, hb⟩ := h.1 (by have := (List.getElem?_eq_some_iff.1 hj).1; omega)
  obtain rfl : a = ⟨b, off, none⟩ := by simpa using hb
  rw [add_eq_sat]
  exact h.2 j u hj

section
variable {P : Program} {N : Nat} {l : List (Nat × Value)} {C : World → Prop} {d : Option Tmp} {T : TypeId} {pos : String} {af : Array Edge} {g : Option (Nat × Bool)}
theorem ex_slice_lo_b {t e sz by_ k n c b k0 q : Nat} {z : Value} {zs : List Value} {x y : Operand} {kd : IntKind} {m : Int} [ht : TSl P t e] [hi : TIf P e z zs sz by_]
    (hx : ev l x = some (.slice (some (bat b k0)) n c)) (hy : ev l y = some (.int kd m)) (hk : m = (k : Int)) (hkn : k ≤ n) (hq : (if c = k then k0 else k0 + k * sz) = q) : Ex P N l C ⟨d, .slice t x (some y) none none, T, pos, af, g⟩ (.slice (some (bat b q)) (n - k) (c - k)) := by
  have := ex_slice_lo (P := P) (N := N) (l := l) (C := C) (d := d) (T := T) (pos := pos) (af := af) (g := g) (ht := ht) (hi := hi) hx hy hk hkn
  rw [subO_bat, hq] at this
  exact this
theorem ex_slice_lh {t e sz by_ i j n c : Nat} {z : Value} {zs : List Value} {x y y2 : Operand} {o : Option Addr} {kd kd2 : IntKind} {m m2 : Int} [ht : TSl P t e] [hi : TIf P e z zs sz by_]
    (hx : ev l x = some (.slice o n c)) (hy : ev l y = some (.int kd m)) (hy2 : ev l y2 = some (.int kd2 m2)) (hk : m = (i : Int)) (hk2 : m2 = (j : Int)) (hij : i ≤ j) (hjc : j ≤ c) :
    Ex P N l C ⟨d, .slice t x (some y) (some y2) none, T, pos, af, g⟩ (.slice (subO o c i sz) (j - i) (c - i)) := by
  intro a w hA _
  subst hk; subst hk2
  obtain ⟨ti, h3, h4, h5, h6⟩ := hi.eq
  have h1 : (j : Int) ≤ (c : Int) := by omega
  have h2 : (i : Int) ≤ (j : Int) := by omega
  simp only [execOp, hA.ev hx, Instr.sliceAt, Sem.run_bind, run_underlying ht.eq, Result.andThen_ok, Instr.slice, Instr.sliceBounds, Option.map_some, Option.map_none, Sem.run_pure, hA.ev hy, hA.ev hy2, Instr.sliceBound, asIntOf]
  simp [h1, h2, hij, hjc, sizeOf, typeInfo, h3, h5, subO]
theorem ex_slice_lh_b {t e sz by_ i j n c b k0 q : Nat} {z : Value} {zs : List Value} {x y y2 : Operand} {kd kd2 : IntKind} {m m2 : Int} [ht : TSl P t e] [hi : TIf P e z zs sz by_]
    (hx : ev l x = some (.slice (some (bat b k0)) n c)) (hy : ev l y = some (.int kd m)) (hy2 : ev l y2 = some (.int kd2 m2)) (hk : m = (i : Int)) (hk2 : m2 = (j : Int)) (hij : i ≤ j) (hjc : j ≤ c) (hq : (if c = i then k0 else k0 + i * sz) = q) :
    Ex P N l C ⟨d, .slice t x (some y) (some y2) none, T, pos, af, g⟩ (.slice (some (bat b q)) (j - i) (c - i)) := by
  have := ex_slice_lh (P := P) (N := N) (l := l) (C := C) (d := d) (T := T) (pos := pos) (af := af) (g := g) (ht := ht) (hi := hi) hx hy hy2 hk hk2 hij hjc
  rw [subO_bat, hq] at this
  exact this
theorem ex_slice_3 {t e sz by_ i j k n c : Nat} {z : Value} {zs : List Value} {x y y2 y3 : Operand} {o : Option Addr} {kd kd2 kd3 : IntKind} {m m2 m3 : Int} [ht : TSl P t e] [hi : TIf P e z zs sz by_]
    (hx : ev l x = some (.slice o n c)) (hy : ev l y = some (.int kd m)) (hy2 : ev l y2 = some (.int kd2 m2)) (hy3 : ev l y3 = some (.int kd3 m3)) (hk : m = (i : Int)) (hk2 : m2 = (j : Int)) (hk3 : m3 = (k : Int)) (hij : i ≤ j) (hjk : j ≤ k) (hkc : k ≤ c) :
    Ex P N l C ⟨d, .slice t x (some y) (some y2) (some y3), T, pos, af, g⟩ (.slice (subO o k i sz) (j - i) (k - i)) := by
  intro a w hA _
  subst hk; subst hk2; subst hk3
  obtain ⟨ti, h3, h4, h5, h6⟩ := hi.eq
  have h0 : (k : Int) ≤ (c : Int) := by omega
  have h1 : (j : Int) ≤ (k : Int) := by omega
  have h2 : (i : Int) ≤ (j : Int) := by omega
  simp only [execOp, hA.ev hx, Instr.sliceAt, Sem.run_bind, run_underlying ht.eq, Result.andThen_ok, Instr.slice, Instr.sliceBounds, Option.map_some, Option.map_none, Sem.run_pure, hA.ev hy, hA.ev hy2, hA.ev hy3, Instr.sliceBound, asIntOf]
  simp [h0, h1, h2, hij, hjk, hkc, sizeOf, typeInfo, h3, h5, subO]
theorem ex_eqlNil {t e ty : TypeId} {x y : Operand} {o : Option Addr} {n c : Nat} [ht : TSl P t e] (hx : ev l x = some (.slice o n c)) (hy : ev l y = some (.slice none 0 0)) : Ex P N l C ⟨d, .binOp .eql t x y ty, T, pos, af, g⟩ (.bool o.isNone) := by
  intro a w hA _
  simp [execOp, hA.ev hx, hA.ev hy, eqGuard_at_slice, binOp, run_equal_slice_nil w t e o n c ht.eq]
theorem ex_max {ats : Array TypeId} {x y : Operand} {k k' : IntKind} {m n : Int} (hx : ev l x = some (.int k m)) (hy : ev l y = some (.int k' n)) : Ex P N l C ⟨d, .call ⟨.builtin .max, #[x, y], ats⟩, T, pos, af, g⟩ (.int k (if n > m then n else m)) := by
  intro a w hA _
  simp [execOp, resolve, invoke, builtin, hA.ev hx, hA.ev hy, run_max_int2]

/-- append in place -/
theorem op_append_in {t e sz by_ n cap m c b : Nat} {z : Value} {zs : List Value} {ad : Addr} {x y : Operand} {cells news : List Value} {w0 w : World} {M : Nat → Prop} {H H' : List It} [ht : TSl P t e] [hi : TIf P e z zs sz by_]
    (hx : ev l x = some (.slice (some (bat b 0)) n cap)) (hy : ev l y = some (.slice (some ad) m c)) (hH : HS w0 M H w) (hnews : ∀ j u, news[j]? = some u → w.cell? (ad.add j) = some u) (hl : news.length = m * sz)
    (h1 : news.all (·.oneCell') = true) (hroom : n + m ≤ cap) (hfit : n * sz + news.length ≤ cells.length) (hr : Rp H (cb b e cells) (cb b e (put cells (n * sz) news)) H') :
    Op1 P N l ⟨d, .call ⟨.builtin .append, #[x, y], #[t, t]⟩, T, pos, af, g⟩ w (fun v w' => v = .slice (some (bat b 0)) (n + m) cap ∧ HS w0 M H' w') := by
  intro a hA K Q hK
  obtain ⟨ti, h3, h4, h5, h6⟩ := hi.eq
  obtain ⟨R, p, _⟩ := hr.split
  obtain ⟨F, hF1, hF2⟩ := hH.sat (p.symm.subset (List.mem_cons_self))
  have hrun := run_append_room (P := P) w t T e ti ht.eq h3 b n cap cells.toArray hF2 ad m c news (by rw [h5]; exact hl) hnews (fun u hu => List.all_eq_true.1 h1 u hu) hroom (by rw [h5]; simpa using hfit)
  rw [h5] at hrun
  unfold Oper.wp
  simp only [execOp, resolve, invoke, builtin, Sem.run_bind, Sem.run_pure, Result.andThen_ok, List.map_toArray, List.map_cons, List.map_nil, hA.ev hx, hA.ev hy, Oper.upon]
  have e0 : (some (bat b 0) : Option Addr) = some ⟨b, 0, none⟩ := rfl
  rw [e0, hrun]
  exact hK _ _ ⟨rfl, hH.turn hr fun F' hF' => ⟨setRow_kp w b _ F' ((hF'.1 b).2 rfl), F', ⟨hF'.1, setRow_heap w b _ _ _ _ hF2⟩, fun b hb => .inr hb⟩⟩

/-- append into a new block: what was there stays -/
theorem op_append_new {t e sz by_ n cap m c : Nat} {z : Value} {zs : List Value} {a0 ad : Addr} {x y : Operand} {xs news : List Value} {w0 w : World} {M : Nat → Prop} {H : List It} [ht : TSl P t e] [hi : TIf P e z zs sz by_]
    (hx : ev l x = some (.slice (some a0) n cap)) (hy : ev l y = some (.slice (some ad) m c)) (hH : HS w0 M H w) (holds : ∀ j u, xs[j]? = some u → w.cell? (a0.add j) = some u) (hlo : xs.length = n * sz)
    (hnews : ∀ j u, news[j]? = some u → w.cell? (ad.add j) = some u) (hl : news.length = m * sz) (hzs0 : zs.length = sz) (hgrow : cap < n + m) (h63 : n + m ≤ maxLen) (hby : (n + m) * by_ ≤ 140737488355328) (hnc : n ≤ cap) :
    Op1 P N l ⟨d, .call ⟨.builtin .append, #[x, y], #[t, t]⟩, T, pos, af, g⟩ w (fun v w' => ∃ o' cap', v = .slice o' (n + m) cap' ∧ HS w0 M (own e sz o' (n + m) cap' (xs ++ news) :: H) w') := by
  intro a hA K Q hK
  obtain ⟨ti, h3, h4, h5, h6⟩ := hi.eq
  have hzs : z.cells.size = sz := by rw [← hzs0, ← hi.zc]; simp
  subst h5; subst h6
  have hm63 : n + m ≤ 9223372036854775807 := by simp only [maxLen] at h63; omega
  have hrun := run_append_grow (P := P) w t T e ti z ht.eq h3 h4 a0 n cap xs hlo holds ad m c news hl hnews hgrow (by omega) (growslice_fits (by omega) hby)
  have hge := grownCap_ge w (n + m) cap e
  have hcm : grownCap w (n + m) cap e ≤ maxLen := grownCap_le_maxLen w (n + m) cap e h63
  unfold Oper.wp
  simp only [execOp, resolve, invoke, builtin, Sem.run_bind, Sem.run_pure, Result.andThen_ok, List.map_toArray, List.map_cons, List.map_nil, hA.ev hx, hA.ev hy, hrun, Oper.upon]
  have hc := hH.drew.come_own e ti.size (n + m) (grownCap w (n + m) cap e) (xs ++ news) (Builtin.zeroCells z.cells (grownCap w (n + m) cap e - (n + m))).toList (by rw [List.length_append, hlo, hl, Nat.add_mul]) hge hcm (by
    rw [List.length_append, hlo, hl, ← Nat.add_mul, Array.length_toList, size_zeroCells, hzs, ← Nat.add_mul]
    congr 1
    omega)
  refine hK _ _ ⟨_, _, rfl, ?_⟩
  have e1 : (xs ++ news ++ (Builtin.zeroCells z.cells (grownCap w (n + m) cap e - (n + m))).toList).toArray = xs.toArray ++ news.toArray ++ Builtin.zeroCells z.cells (grownCap w (n + m) cap e - (n + m)) := by
    apply Array.ext'
    simp
  rw [e1] at hc
  exact hc

/-- append(s, make([]T, k)...) into a new block -/
theorem op_append_mk {t tn e sz by_ n cap k : Nat} {kd : IntKind} {z : Value} {zs : List Value} {a0 : Addr} {x y : Operand} {xs : List Value} {mk : Int} {w0 w : World} {M : Nat → Prop} {H : List It} [ht : TSl P t e] [hi : TIf P e z zs sz by_] [hn : TIn P tn kd]
    (hx : ev l x = some (.slice (some a0) n cap)) (hy : ev l y = some (.int .i64 mk)) (hmk : mk = (k : Int)) (hH : HS w0 M H w) (holds : ∀ j u, xs[j]? = some u → w.cell? (a0.add j) = some u) (hlo : xs.length = n * sz)
    (hzs0 : zs.length = sz) (hsz : 0 < sz) (hgrow : cap < n + k) (h63 : n + k ≤ maxLen) (hby : (n + k) * by_ ≤ 140737488355328) (hnc : n ≤ cap) :
    Op1 P N l ⟨d, .call ⟨.builtin .append, #[x, y], #[t, tn]⟩, T, pos, af, g⟩ w (fun v w' => ∃ o' cap' rest, v = .slice o' (n + k) cap' ∧ rest.length = k * sz ∧ HS w0 M (own e sz o' (n + k) cap' (xs ++ rest) :: H) w') := by
  intro a hA K Q hK
  subst hmk
  obtain ⟨ti, h3, h4, h5, h6⟩ := hi.eq
  have hzs : z.cells.size = sz := by rw [← hzs0, ← hi.zc]; simp
  subst h5; subst h6
  have hm63 : n + k ≤ 9223372036854775807 := by simp only [maxLen] at h63; omega
  have hge := grownCap_ge w (n + k) cap e
  have hcm : grownCap w (n + k) cap e ≤ maxLen := grownCap_le_maxLen w (n + k) cap e h63
  have hfit : Builtin.nextslicecap (n + k) cap * ti.bytes ≤ 281474976710656 := growslice_fits (by omega) hby
  have hwk : IntKind.i64.wrap (k : Int) = k := wrap_i64 ⟨by omega, by omega⟩
  have hk0 : ¬ (k * ti.size = 0) := by
    have : 0 < k := by omega
    exact Nat.ne_of_gt (Nat.mul_pos this hsz)
  have hkb : ¬ (281474976710656 < (k : Int) * (ti.bytes : Int)) := by
    have h1 : k * ti.bytes ≤ (n + k) * ti.bytes := Nat.mul_le_mul_right _ (by omega)
    rw [← Int.natCast_mul]
    omega
  have hng : ¬ (n + k ≤ cap) := by omega
  have h63' : ¬ (9223372036854775807 < ((n : Int) + (k : Int))) := by omega
  have h48' : ¬ (281474976710656 < Builtin.nextslicecap (n + k) cap * ti.bytes) := by omega
  have hfo := run_firstCells_some (P := P) w.drew ti.size n a0 n cap xs hlo (by simpa using holds)
  have hrun : (Builtin.append_ #[t, tn] T #[.slice (some a0) n cap, .int .i64 (k : Int)]).run P w =
      .ok (.slice (some ⟨w.heap.size, 0, none⟩) (n + k) (grownCap w (n + k) cap e)) (w.drew.alloc (.cells (xs.toArray ++ Builtin.zeroCells z.cells k ++ Builtin.zeroCells z.cells (grownCap w (n + k) cap e - (n + k))) e)) := by
    simp [Builtin.append_, run_underlying ht.eq, run_underlying hn.eq, sizeOf, typeInfo, zeroValue, h3, h4, asInt, asIntOf, hwk, hkb, hk0, hng, h63', h48', Question.forced, hfo, newRow, grownCap, show ¬ ((k : Int) < 0) by omega]
  unfold Oper.wp
  simp only [execOp, resolve, invoke, builtin, Sem.run_bind, Sem.run_pure, Result.andThen_ok, List.map_toArray, List.map_cons, List.map_nil, hA.ev hx, hA.ev hy, hrun, Oper.upon]
  have hc := hH.drew.come_own e ti.size (n + k) (grownCap w (n + k) cap e) (xs ++ (Builtin.zeroCells z.cells k).toList) (Builtin.zeroCells z.cells (grownCap w (n + k) cap e - (n + k))).toList (by rw [List.length_append, hlo, Array.length_toList, size_zeroCells, hzs, Nat.add_mul]) hge hcm (by
    rw [List.length_append, hlo, Array.length_toList, size_zeroCells, hzs, ← Nat.add_mul, Array.length_toList, size_zeroCells, hzs, ← Nat.add_mul]
    congr 1
    omega)
  refine hK _ _ ⟨_, _, (Builtin.zeroCells z.cells k).toList, rfl, by rw [Array.length_toList, size_zeroCells, hzs], ?_⟩
  have e1 : (xs ++ (Builtin.zeroCells z.cells k).toList ++ (Builtin.zeroCells z.cells (grownCap w (n + k) cap e - (n + k))).toList).toArray = xs.toArray ++ Builtin.zeroCells z.cells k ++ Builtin.zeroCells z.cells (grownCap w (n + k) cap e - (n + k)) := by
    apply Array.ext'
    simp
  rw [e1] at hc
  exact hc

/-- copy into a block -/
theorem op_copy_cb {t e sz by_ m nd cd cs k b : Nat} {z : Value} {zs : List Value} {ad : Addr} {x y : Operand} {cells news : List Value} {ty : TypeId} {w0 w : World} {M : Nat → Prop} {H H' : List It} [ht : TSl P t e] [hi : TIf P e z zs sz by_]
    (hx : ev l x = some (.slice (some (bat b k)) nd cd)) (hy : ev l y = some (.slice (some ad) m cs)) (hH : HS w0 M H w) (hnews : ∀ j u, news[j]? = some u → w.cell? (ad.add j) = some u) (hl : news.length = Nat.min m nd * sz)
    (h1 : news.all (·.oneCell') = true) (hk : k + news.length ≤ cells.length) (hr : Rp H (cb b e cells) (cb b e (put cells k news)) H') :
    Op1 P N l ⟨d, .call ⟨.builtin .copy, #[x, y], #[t, ty]⟩, T, pos, af, g⟩ w (fun v w' => v = .int .i64 (Nat.min m nd) ∧ HS w0 M H' w') := by
  intro a hA K Q hK
  obtain ⟨ti, h3, h4, h5, h6⟩ := hi.eq
  obtain ⟨R, p, _⟩ := hr.split
  obtain ⟨F, hF1, hF2⟩ := hH.sat (p.symm.subset (List.mem_cons_self))
  have hload : (loadCells ad news.length).run P w = .ok news.toArray w := run_loadCells_list (P := P) w ad news hnews
  have hst := run_storeCells_at (P := P) b k e news 0 cells.toArray w hF2 (by simpa using hk) (fun x hx => List.all_eq_true.1 h1 x hx)
  simp only [Nat.add_zero] at hst
  have hrun : (Builtin.copy_ #[t, ty] T #[.slice (some ⟨b, k, none⟩) nd cd, .slice (some ad) m cs]).run P w = .ok (.int .i64 (Nat.min m nd)) (w.setRow b (put cells k news).toArray) := by
    simp [Builtin.copy_, run_underlying ht.eq, Builtin.lenOf, Builtin.firstCells, sizeOf, typeInfo, h3, h5, ← hl, hload, hst, goInt, put]
  unfold Oper.wp
  have e0 : (some (bat b k) : Option Addr) = some ⟨b, k, none⟩ := rfl
  simp only [execOp, resolve, invoke, builtin, Sem.run_bind, Sem.run_pure, Result.andThen_ok, List.map_toArray, List.map_cons, List.map_nil, hA.ev hx, hA.ev hy, e0, hrun, Oper.upon]
  exact hK _ _ ⟨rfl, hH.turn hr fun F' hF' => ⟨setRow_kp w b _ F' ((hF'.1 b).2 rfl), F', ⟨hF'.1, setRow_heap w b _ _ _ _ hF2⟩, fun b hb => .inr hb⟩⟩

/-- clear a part of a block -/
theorem op_clear_cb {t e sz by_ n c k b : Nat} {z : Value} {zs : List Value} {x : Operand} {cells : List Value} {w0 w : World} {M : Nat → Prop} {H : List It} [ht : TSl P t e] [hi : TIf P e z zs sz by_]
    (hx : ev l x = some (.slice (some (bat b k)) n c)) (hn : 0 < n) (hH : HS w0 M (cb b e cells :: H) w) (hzs0 : zs.length = sz) (h1 : zs.all (·.oneCell') = true) (hk : k + n * sz ≤ cells.length) :
    Op1 P N l ⟨d, .call ⟨.builtin .clear, #[x], #[t]⟩, T, pos, af, g⟩ w (fun v w' => ∃ zz : List Value, zz.length = n * sz ∧ HS w0 M (cb b e (put cells k zz) :: H) w') := by
  intro a hA K Q hK
  obtain ⟨ti, h3, h4, h5, h6⟩ := hi.eq
  have hzs : z.cells.size = sz := by rw [← hzs0, ← hi.zc]; simp
  obtain ⟨F, hF1, hF2⟩ := hH.sat (List.mem_cons_self)
  have hlen : (Builtin.zeroCells z.cells n).toList.length = n * sz := by rw [Array.length_toList, size_zeroCells, hzs]
  have hone : ∀ v ∈ (Builtin.zeroCells z.cells n).toList, v.oneCell' = true := by
    intro v hv
    simp only [Builtin.zeroCells, Array.toList_map, Array.toList_range, List.mem_map, List.mem_range] at hv
    obtain ⟨i, hi', rfl⟩ := hv
    have hpos : 0 < z.cells.size := by
      rcases Nat.eq_zero_or_pos z.cells.size with h0 | h0
      · rw [h0] at hi'; omega
      · exact h0
    have hlt : i % z.cells.size < z.cells.size := Nat.mod_lt _ hpos
    rw [getElem!_pos z.cells _ hlt]
    refine List.all_eq_true.1 h1 _ ?_
    rw [← hi.zc]
    exact Array.getElem_mem_toList hlt
  have hst := run_storeCells_at (P := P) b k e (Builtin.zeroCells z.cells n).toList 0 cells.toArray w hF2 (by rw [hlen]; simpa using hk) hone
  simp only [Nat.add_zero] at hst
  obtain ⟨n', rfl⟩ : ∃ n', n = n' + 1 := ⟨n - 1, by omega⟩
  have hrun : (Builtin.clear_ #[t] T #[.slice (some ⟨b, k, none⟩) (n' + 1) c]).run P w = .ok (.tuple #[]) (w.setRow b (put cells k (Builtin.zeroCells z.cells (n' + 1)).toList).toArray) := by
    simp [Builtin.clear_, run_underlying ht.eq, zeroValue, typeInfo, h3, h4, hst, put]
  unfold Oper.wp
  have e0 : (some (bat b k) : Option Addr) = some ⟨b, k, none⟩ := rfl
  simp only [execOp, resolve, invoke, builtin, Sem.run_bind, Sem.run_pure, Result.andThen_ok, List.map_toArray, List.map_cons, List.map_nil, hA.ev hx, e0, hrun, Oper.upon]
  exact hK _ _ ⟨_, hlen, hH.turn Rp.here fun F' hF' => ⟨setRow_kp w b _ F' ((hF'.1 b).2 rfl), F', ⟨hF'.1, setRow_heap w b _ _ _ _ hF2⟩, fun b hb => .inr hb⟩⟩
theorem HS.cb_ne {w0 w : World} {M : Nat → Prop} {H : List It} {b1 b2 T1 T2 : Nat} {c1 c2 : List Value} (h : HS w0 M (cb b1 T1 c1 :: cb b2 T2 c2 :: H) w) : b1 ≠ b2 := by
  obtain ⟨hk, F, ⟨F1, F2, hF, hd, h1, ⟨F3, F4, hG, hd', h3, h4⟩⟩, ho⟩ := h
  rintro rfl
  exact hd b1 ((h1.1 b1).2 rfl) ((hG b1).2 (.inl ((h3.1 b1).2 rfl)))
/-- two slices in two blocks -/
theorem op_overlaps {f : FuncId} {fn : Func} {t tR e sz by_ b1 k1 la ca b2 k2 lb cb_ T1 T2 : Nat} {z : Value} {zs : List Value} {x y : Operand} {c1 c2 : List Value} {ats : Array TypeId} {w0 w : World} {M : Nat → Prop} {H : List It} [ht : TSl P t e] [hi : TIf P e z zs sz by_]
    (hf : P.funcs[f]? = some fn) (hname : (fn.name == "runtime.NumGoroutine") = false) (hb : fn.body.isNone = true) (hn : Extern.findNext fn = none) (he : Extern.find fn = some (Extern.SlicesOverlaps.overlaps #[t, t] #[tR]))
    (hx : ev l x = some (.slice (some (bat b1 k1)) la ca)) (hy : ev l y = some (.slice (some (bat b2 k2)) lb cb_)) (hH : HS w0 M H w) (h1 : cb b1 T1 c1 ∈ H) (h2 : cb b2 T2 c2 ∈ H) (hne : b1 ≠ b2) (hc2 : c2.length ≠ 0) :
    Op1 P N l ⟨d, .call ⟨.value (.func f), #[x, y], ats⟩, T, pos, af, g⟩ w (fun v w' => v = .bool false ∧ w' = w) := by
  intro a hA K Q hK
  obtain ⟨ti, h3, h4, h5, h6⟩ := hi.eq
  obtain ⟨F1, q1, q2⟩ := hH.sat h1
  obtain ⟨F2, q3, q4⟩ := hH.sat h2
  have hz : ∀ w, (Go.sizeOf e).run P w = .ok sz w := fun w => by simp [sizeOf, typeInfo, h3, h5]
  have hov := Go.Lib.run_overlaps_apart (P := P) w t tR e ht.eq sz hz (bat b1 k1) (bat b2 k2) la ca lb cb_ hne T1 T2 c1.length c2.length (by simp [World.shape?, bat, q2]) (by simp [World.shape?, bat, q4]) hc2 (by simp [World.frozen?, bat, q2]) (by simp [World.frozen?, bat, q2])
  have hcall : (callFunc f #[.slice (some (bat b1 k1)) la ca, .slice (some (bat b2 k2)) lb cb_]).run P w = .ok (.value (.bool false)) w := by
    rw [run_callFunc_extern hf hname hb hn he, hov]
    rfl
  have hfe : a.eval (.func f) = .func (.func f) #[] #[] := rfl
  unfold Oper.wp
  simp only [execOp, resolve, hfe, Deferred.ofValue, Sem.run_bind, Sem.run_pure, Result.andThen_ok, List.map_toArray, List.map_cons, List.map_nil, hA.ev hx, hA.ev hy, invoke, Array.append_empty, Array.empty_append, hcall, Oper.upon]
  exact hK _ _ ⟨rfl, rfl⟩
end
end Go.Fw
