/-
  More of the frame: a slice of one's own as a block in plain sight; append in place and into a new block; clear; parts that are there, whichever they be. Conditions: none.
  More of the frame: make of what has many cells; shift and or; pairs set in what is ours. Conditions: none.
  A region in which several operations that bring something of their own come up in any order. Conditions: none.
  More of the frame: pointers against nil. Conditions: none.
  More of the frame: what a row of trials does, named once. Each of these takes a goal, does one step by trial, and hands on the goal that is left. Conditions: none.
  A region whose operations come up in one of several orders: a plan, with ways. Conditions: none.
  Strings: their length, a byte, a part; as bytes and back. Conditions: none.
  A region of which some come last, told from further off. Conditions: none.
  What is made and never turned again: known by what is known of it. Conditions: none.
  The frame of a law's proof, where what is handed in is not great ('..UptoSaid'). Conditions: none.
  A range over a function: its rounds, what is put off till the function's end. Conditions: none.
-/
import Derived.Test.YtenlcdokaadobaaGreatDoorRowFuelMg2
import Derived.Lib.Overlaps
import Derived.Laws.Cover3
import Derived.Laws.Pointers
import Derived.Lib.ConvBytes
import Derived.Laws.BytesString
import Derived.Laws.Strings
import Derived.Laws.Slices
import Derived.Laws.ResultCell
import Derived.JoinedCond
import Derived.RangeFuncWrites
import Derived.RangeFuncLeaves
import Derived.RangeFuncCalls
import Derived.RangeFuncBound
import Derived.OrdersIn
namespace Go.Fw
open Go Go.RowKit
set_option linter.unusedVariables false

def exI {α : Type} (f : α → It) : It where
  sat w F := ∃ x, (f x).sat w F
  loc := fun ⟨x, h⟩ he => ⟨x, (f x).loc h he⟩
  lt := fun ⟨x, h⟩ b hb => (f x).lt h b hb
  ext := fun ⟨x, h⟩ he => ⟨x, (f x).ext h he⟩
def facI (p : Prop) (it : It) : It where
  sat w F := p ∧ it.sat w F
  loc := fun ⟨hp, h⟩ he => ⟨hp, it.loc h he⟩
  lt := fun ⟨_, h⟩ b hb => it.lt h b hb
  ext := fun ⟨hp, h⟩ he => ⟨hp, it.ext h he⟩
theorem HS.exI_open {α : Type} {f : α → It} {w0 w : World} {M : Nat → Prop} {H : List It} (h : HS w0 M (exI f :: H) w) : ∃ x, HS w0 M (f x :: H) w := by
  obtain ⟨hk, F, ⟨F1, F2, hF, hd, ⟨x, h1⟩, h2⟩, ho⟩ := h
  exact ⟨x, hk, F, ⟨F1, F2, hF, hd, h1, h2⟩, ho⟩
theorem HS.exI_shut {α : Type} {f : α → It} {w0 w : World} {M : Nat → Prop} {H : List It} (x : α) (h : HS w0 M (f x :: H) w) : HS w0 M (exI f :: H) w := by
  obtain ⟨hk, F, ⟨F1, F2, hF, hd, h1, h2⟩, ho⟩ := h
  exact ⟨hk, F, ⟨F1, F2, hF, hd, ⟨x, h1⟩, h2⟩, ho⟩
theorem HS.facI_open {p : Prop} {it : It} {w0 w : World} {M : Nat → Prop} {H : List It} (h : HS w0 M (facI p it :: H) w) : p ∧ HS w0 M (it :: H) w := by
  obtain ⟨hk, F, ⟨F1, F2, hF, hd, ⟨hp, h1⟩, h2⟩, ho⟩ := h
  exact ⟨hp, hk, F, ⟨F1, F2, hF, hd, h1, h2⟩, ho⟩
theorem HS.facI_shut {p : Prop} {it : It} {w0 w : World} {M : Nat → Prop} {H : List It} (hp : p) (h : HS w0 M (it :: H) w) : HS w0 M (facI p it :: H) w := by
  obtain ⟨hk, F, ⟨F1, F2, hF, hd, h1, h2⟩, ho⟩ := h
  exact ⟨hk, F, ⟨F1, F2, hF, hd, ⟨hp, h1⟩, h2⟩, ho⟩

theorem HS.own_block {w0 w : World} {M : Nat → Prop} {H : List It} {T sz n cap : Nat} {o : Option Addr} {xs : List Value} (h : HS w0 M (own T sz o n cap xs :: H) w) (hc : 0 < cap) :
    ∃ b spare, o = some (bat b 0) ∧ n ≤ cap ∧ cap ≤ maxLen ∧ xs.length = n * sz ∧ xs.length + spare.length = cap * sz ∧ HS w0 M (cb b T (xs ++ spare) :: H) w := by
  obtain ⟨F0, hF0⟩ := h.sat (List.mem_cons_self ..)
  rcases hF0 with ⟨_, _, rfl, _⟩ | ⟨b, spare, rfl, g2, g3, g4, g5, g6, g7⟩
  · omega
  refine ⟨b, spare, rfl, g4, g5, g3, g6, h.conv Rp.here fun F hF => ?_⟩
  rcases hF with ⟨h0, _⟩ | ⟨b', spare', hb', q2, q3, q4, q5, q6, q7⟩
  · cases h0
  · obtain rfl : b = b' := by simpa using hb'
    exact ⟨q2, g7⟩
theorem HS.block_own {w0 w : World} {M : Nat → Prop} {H : List It} {T sz n cap b : Nat} {xs spare : List Value} (h : HS w0 M (cb b T (xs ++ spare) :: H) w) (h1 : xs.length = n * sz) (h2 : n ≤ cap) (h3 : cap ≤ maxLen) (h4 : xs.length + spare.length = cap * sz) :
    HS w0 M (own T sz (some (bat b 0)) n cap xs :: H) w :=
  h.conv Rp.here fun F ⟨q1, q2⟩ => .inr ⟨b, spare, rfl, q1, h1, h2, h3, h4, q2⟩
theorem subO_bat (b k c i sz : Nat) : subO (some (bat b k)) c i sz = some (bat b (if c = i then k else k + i * sz)) := by
  unfold subO bat
  split
  · rfl
  · simp [Addr.add]
theorem put_seg {A B C V : List Value} {k : Nat} (hk : k = A.length) (h : B.length = V.length) : put (A ++ (B ++ C)) k V = A ++ (V ++ C) := by
  subst hk
  unfold put
  rw [List.take_append_of_le_length (Nat.le_refl _), List.take_length, ← h, ← List.append_assoc A B C, show A.length + B.length = (A ++ B).length by simp, List.drop_append_of_le_length (Nat.le_refl _), List.drop_length]
  simp
theorem mid_take {A x B R : List Value} : ((A ++ (x ++ (B ++ R))).drop (A.length + x.length)).take B.length = B := by
  rw [← List.append_assoc, show A.length + x.length = (A ++ x).length by simp, List.drop_append_of_le_length (Nat.le_refl _), List.drop_length]
  simp
theorem ins_cells {A v B sp1 sp2 : List Value} (hv : v.length = sp1.length) : put (put (A ++ (B ++ (sp1 ++ sp2))) (A.length + v.length) B) A.length v = (A ++ (v ++ B)) ++ sp2 := by
  have e1 : A ++ (B ++ (sp1 ++ sp2)) = (A ++ (B ++ sp1).take v.length) ++ ((B ++ sp1).drop v.length ++ sp2) := by
    rw [List.append_assoc, ← List.append_assoc ((B ++ sp1).take _), List.take_append_drop, List.append_assoc]
  rw [e1, put_seg (by simp; omega) (by simp; omega), List.append_assoc A, put_seg rfl (by simp; omega)]
  simp
theorem bat_sat (b k j : Nat) : sat (some (bat b k)) j = bat b (k + j) := rfl
theorem HS.cb_rd {w0 w : World} {M : Nat → Prop} {H : List It} {b T : Nat} {cs : List Value} (h : HS w0 M H w) (hm : cb b T cs ∈ H) (k : Nat) : Rd w (some (bat b k)) (cs.drop k) := by
  obtain ⟨F, hF⟩ := h.sat hm
  refine ⟨fun _ => ⟨b, k, rfl⟩, fun j u hj => ?_⟩
  rw [bat_sat]
  rw [List.getElem?_drop] at hj
  have := cell_of_cells hF.2 (k + j)
  unfold bat
  rw [this]
  simpa using hj

theorem HS.cb_news {w0 w : World} {M : Nat → Prop} {H : List It} {b T k m : Nat} {cs : List Value} (h : HS w0 M H w) (hm : cb b T cs ∈ H) : ∀ j u, ((cs.drop k).take m)[j]? = some u → w.cell? ((bat b k).add j) = some u := by
  intro j u hj
  have hjl := (List.getElem?_eq_some_iff.1 hj).1
  rw [List.length_take] at hjl
  rw [List.getElem?_take_of_lt (by omega)] at hj
  rw [bat_add]
  exact (h.cb_rd hm k).2 j u hj
theorem Rd.news {w : World} {a : Addr} {xs : List Value} (h : Rd w (some a) xs) : ∀ j u, xs[j]? = some u → w.cell? (a.add j) = some u := by
  intro j u hj
  obtain ⟨b, off, hb⟩ := h.1 (by have := (List.getElem?_eq_some_iff.1 hj).1; omega)
  obtain rfl : a = ⟨b, off, none⟩ := by simpa using hb
  rw [add_eq_sat]
  exact h.2 j u hj

section
variable {P : Program} {N : Nat} {l : List (Nat × Value)} {C : World → Prop} {d : Option Tmp} {T : TypeId} {pos : String} {af : Array Edge} {g : Option (Nat × Bool)}
theorem ex_slice_lo_b {t e sz by_ k n c b k0 q : Nat} {z : Value} {zs : List Value} {x y : Operand} {kd : IntKind} {m : Int} [ht : TSl P t e] [hi : TIf P e z zs sz by_]
    (hx : ev l x = some (.slice (some (bat b k0)) n c)) (hy : ev l y = some (.int kd m)) (hk : m = (k : Int)) (hkn : k ≤ n) (hq : (if c = k then k0 else k0 + k * sz) = q) : Ex P N l C ⟨d, .slice t x (some y) none none, T, pos, af, g⟩ (.slice (some (bat b q)) (n - k) (c - k)) := by
  have := ex_slice_lo (P := P) (N := N) (l := l) (C := C) (d := d) (T := T) (pos := pos) (af := af) (g := g) (ht := ht) (hi := hi) hx hy hk hkn
  rw [subO_bat, hq] at this
  exact this
theorem ex_eqlNil {t e ty : TypeId} {x y : Operand} {o : Option Addr} {n c : Nat} [ht : TSl P t e] (hx : ev l x = some (.slice o n c)) (hy : ev l y = some (.slice none 0 0)) : Ex P N l C ⟨d, .binOp .eql t x y ty, T, pos, af, g⟩ (.bool o.isNone) := by
  intro a w hA _
  simp [execOp, hA.ev hx, hA.ev hy, eqGuard_at_slice, binOp, run_equal_slice_nil w t e o n c ht.eq]
theorem ex_max {ats : Array TypeId} {x y : Operand} {k k' : IntKind} {m n : Int} (hx : ev l x = some (.int k m)) (hy : ev l y = some (.int k' n)) : Ex P N l C ⟨d, .call ⟨.builtin .max, #[x, y], ats⟩, T, pos, af, g⟩ (.int k (if n > m then n else m)) := by
  intro a w hA _
  simp [execOp, resolve, invoke, builtin, hA.ev hx, hA.ev hy, run_max_int2]

theorem op_append_mk {t tn e sz by_ n cap k : Nat} {kd : IntKind} {z : Value} {zs : List Value} {a0 : Addr} {x y : Operand} {xs : List Value} {mk : Int} {w0 w : World} {M : Nat → Prop} {H : List It} [ht : TSl P t e] [hi : TIf P e z zs sz by_] [hn : TIn P tn kd]
    (hx : ev l x = some (.slice (some a0) n cap)) (hy : ev l y = some (.int .i64 mk)) (hmk : mk = (k : Int)) (hH : HS w0 M H w) (holds : ∀ j u, xs[j]? = some u → w.cell? (a0.add j) = some u) (hlo : xs.length = n * sz)
    (hzs0 : zs.length = sz) (hsz : 0 < sz) (hgrow : cap < n + k) (h63 : n + k ≤ maxLen) (hby : (n + k) * by_ ≤ 140737488355328) (hnc : n ≤ cap) :
    Op1 P N l ⟨d, .call ⟨.builtin .append, #[x, y], #[t, tn]⟩, T, pos, af, g⟩ w (fun v w' => ∃ o' cap' rest, v = .slice o' (n + k) cap' ∧ rest.length = k * sz ∧ HS w0 M (own e sz o' (n + k) cap' (xs ++ rest) :: H) w') := by
  intro a hA K Q hK
  subst hmk
  obtain ⟨ti, h3, h4, h5, h6⟩ := hi.eq
  have hzs : z.cells.size = sz := by rw [← hzs0, ← hi.zc]; simp
  subst h5; subst h6
  have hm63 : n + k ≤ 9223372036854775807 := by simp only [maxLen] at h63; omega
  have hge := grownCap_ge w (n + k) cap e
  have hcm : grownCap w (n + k) cap e ≤ maxLen := grownCap_le_maxLen w (n + k) cap e h63
  have hfit : Builtin.nextslicecap (n + k) cap * ti.bytes ≤ 281474976710656 := growslice_fits (by omega) hby
  have hwk : IntKind.i64.wrap (k : Int) = k := wrap_i64 ⟨by omega, by omega⟩
  have hk0 : ¬ (k * ti.size = 0) := by
    have : 0 < k := by omega
    exact Nat.ne_of_gt (Nat.mul_pos this hsz)
  have hkb : ¬ (281474976710656 < (k : Int) * (ti.bytes : Int)) := by
    have h1 : k * ti.bytes ≤ (n + k) * ti.bytes := Nat.mul_le_mul_right _ (by omega)
    rw [← Int.natCast_mul]
    omega
  have hng : ¬ (n + k ≤ cap) := by omega
  have h63' : ¬ (9223372036854775807 < ((n : Int) + (k : Int))) := by omega
  have h48' : ¬ (281474976710656 < Builtin.nextslicecap (n + k) cap * ti.bytes) := by omega
  have hfo := run_firstCells_some (P := P) w.drew ti.size n a0 n cap xs hlo (by simpa using holds)
  have hrun : (Builtin.append_ #[t, tn] T #[.slice (some a0) n cap, .int .i64 (k : Int)]).run P w =
      .ok (.slice (some ⟨w.heap.size, 0, none⟩) (n + k) (grownCap w (n + k) cap e)) (w.drew.alloc (.cells (xs.toArray ++ Builtin.zeroCells z.cells k ++ Builtin.zeroCells z.cells (grownCap w (n + k) cap e - (n + k))) e)) := by
    simp [Builtin.append_, run_underlying ht.eq, run_underlying hn.eq, sizeOf, typeInfo, zeroValue, h3, h4, asInt, asIntOf, hwk, hkb, hk0, hng, h63', h48', Question.forced, hfo, newRow, grownCap, show ¬ ((k : Int) < 0) by omega]
  unfold Oper.wp
  simp only [execOp, resolve, invoke, builtin, Sem.run_bind, Sem.run_pure, Result.andThen_ok, List.map_toArray, List.map_cons, List.map_nil, hA.ev hx, hA.ev hy, hrun, Oper.upon]
  have hc := hH.drew.come_own e ti.size (n + k) (grownCap w (n + k) cap e) (xs ++ (Builtin.zeroCells z.cells k).toList) (Builtin.zeroCells z.cells (grownCap w (n + k) cap e - (n + k))).toList (by rw [List.length_append, hlo, Array.length_toList, size_zeroCells, hzs, Nat.add_mul]) hge hcm (by
    rw [List.length_append, hlo, Array.length_toList, size_zeroCells, hzs, ← Nat.add_mul, Array.length_toList, size_zeroCells, hzs, ← Nat.add_mul]
    congr 1
    omega)
  refine hK _ _ ⟨_, _, (Builtin.zeroCells z.cells k).toList, rfl, by rw [Array.length_toList, size_zeroCells, hzs], ?_⟩
  have e1 : (xs ++ (Builtin.zeroCells z.cells k).toList ++ (Builtin.zeroCells z.cells (grownCap w (n + k) cap e - (n + k))).toList).toArray = xs.toArray ++ Builtin.zeroCells z.cells k ++ Builtin.zeroCells z.cells (grownCap w (n + k) cap e - (n + k)) := by
    apply Array.ext'
    simp
  rw [e1] at hc
  exact hc

theorem op_copy_cb {t e sz by_ m nd cd cs k b : Nat} {z : Value} {zs : List Value} {ad : Addr} {x y : Operand} {cells news : List Value} {ty : TypeId} {w0 w : World} {M : Nat → Prop} {H H' : List It} [ht : TSl P t e] [hi : TIf P e z zs sz by_]
    (hx : ev l x = some (.slice (some (bat b k)) nd cd)) (hy : ev l y = some (.slice (some ad) m cs)) (hH : HS w0 M H w) (hnews : ∀ j u, news[j]? = some u → w.cell? (ad.add j) = some u) (hl : news.length = Nat.min m nd * sz)
    (h1 : news.all (·.oneCell') = true) (hk : k + news.length ≤ cells.length) (hr : Rp H (cb b e cells) (cb b e (put cells k news)) H') :
    Op1 P N l ⟨d, .call ⟨.builtin .copy, #[x, y], #[t, ty]⟩, T, pos, af, g⟩ w (fun v w' => v = .int .i64 (Nat.min m nd) ∧ HS w0 M H' w') := by
  intro a hA K Q hK
  obtain ⟨ti, h3, h4, h5, h6⟩ := hi.eq
  obtain ⟨R, p, _⟩ := hr.split
  obtain ⟨F, hF1, hF2⟩ := hH.sat (p.symm.subset (List.mem_cons_self))
  have hload : (loadCells ad news.length).run P w = .ok news.toArray w := run_loadCells_list (P := P) w ad news hnews
  have hst := run_storeCells_at (P := P) b k e news 0 cells.toArray w hF2 (by simpa using hk) (fun x hx => List.all_eq_true.1 h1 x hx)
  simp only [Nat.add_zero] at hst
  have hrun : (Builtin.copy_ #[t, ty] T #[.slice (some ⟨b, k, none⟩) nd cd, .slice (some ad) m cs]).run P w = .ok (.int .i64 (Nat.min m nd)) (w.setRow b (put cells k news).toArray) := by
    simp [Builtin.copy_, run_underlying ht.eq, Builtin.lenOf, Builtin.firstCells, sizeOf, typeInfo, h3, h5, ← hl, hload, hst, goInt, put]
  unfold Oper.wp
  have e0 : (some (bat b k) : Option Addr) = some ⟨b, k, none⟩ := rfl
  simp only [execOp, resolve, invoke, builtin, Sem.run_bind, Sem.run_pure, Result.andThen_ok, List.map_toArray, List.map_cons, List.map_nil, hA.ev hx, hA.ev hy, e0, hrun, Oper.upon]
  exact hK _ _ ⟨rfl, hH.turn hr fun F' hF' => ⟨setRow_kp w b _ F' ((hF'.1 b).2 rfl), F', ⟨hF'.1, setRow_heap w b _ _ _ _ hF2⟩, fun b hb => .inr hb⟩⟩

theorem HS.cb_ne {w0 w : World} {M : Nat → Prop} {H : List It} {b1 b2 T1 T2 : Nat} {c1 c2 : List Value} (h : HS w0 M (cb b1 T1 c1 :: cb b2 T2 c2 :: H) w) : b1 ≠ b2 := by
  obtain ⟨hk, F, ⟨F1, F2, hF, hd, h1, ⟨F3, F4, hG, hd', h3, h4⟩⟩, ho⟩ := h
  rintro rfl
  exact hd b1 ((h1.1 b1).2 rfl) ((hG b1).2 (.inl ((h3.1 b1).2 rfl)))
theorem op_overlaps {f : FuncId} {fn : Func} {t tR e sz by_ b1 k1 la ca b2 k2 lb cb_ T1 T2 : Nat} {z : Value} {zs : List Value} {x y : Operand} {c1 c2 : List Value} {ats : Array TypeId} {w0 w : World} {M : Nat → Prop} {H : List It} [ht : TSl P t e] [hi : TIf P e z zs sz by_]
    (hf : P.funcs[f]? = some fn) (hname : (fn.name == "runtime.NumGoroutine") = false) (hb : fn.body.isNone = true) (hn : Extern.findNext fn = none) (he : Extern.find fn = some (Extern.SlicesOverlaps.overlaps #[t, t] #[tR]))
    (hx : ev l x = some (.slice (some (bat b1 k1)) la ca)) (hy : ev l y = some (.slice (some (bat b2 k2)) lb cb_)) (hH : HS w0 M H w) (h1 : cb b1 T1 c1 ∈ H) (h2 : cb b2 T2 c2 ∈ H) (hne : b1 ≠ b2) (hc2 : c2.length ≠ 0) :
    Op1 P N l ⟨d, .call ⟨.value (.func f), #[x, y], ats⟩, T, pos, af, g⟩ w (fun v w' => v = .bool false ∧ w' = w) := by
  intro a hA K Q hK
  obtain ⟨ti, h3, h4, h5, h6⟩ := hi.eq
  obtain ⟨F1, q1, q2⟩ := hH.sat h1
  obtain ⟨F2, q3, q4⟩ := hH.sat h2
  have hz : ∀ w, (Go.sizeOf e).run P w = .ok sz w := fun w => by simp [sizeOf, typeInfo, h3, h5]
  have hov := Go.Lib.run_overlaps_apart (P := P) w t tR e ht.eq sz hz (bat b1 k1) (bat b2 k2) la ca lb cb_ hne T1 T2 c1.length c2.length (by simp [World.shape?, bat, q2]) (by simp [World.shape?, bat, q4]) hc2 (by simp [World.frozen?, bat, q2]) (by simp [World.frozen?, bat, q2])
  have hcall : (callFunc f #[.slice (some (bat b1 k1)) la ca, .slice (some (bat b2 k2)) lb cb_]).run P w = .ok (.value (.bool false)) w := by
    rw [run_callFunc_extern hf hname hb hn he, hov]
    rfl
  have hfe : a.eval (.func f) = .func (.func f) #[] #[] := rfl
  unfold Oper.wp
  simp only [execOp, resolve, hfe, Deferred.ofValue, Sem.run_bind, Sem.run_pure, Result.andThen_ok, List.map_toArray, List.map_cons, List.map_nil, hA.ev hx, hA.ev hy, invoke, Array.append_empty, Array.empty_append, hcall, Oper.upon]
  exact hK _ _ ⟨rfl, rfl⟩
end
end Go.Fw
namespace Go.Fw
open Go Go.RowKit
set_option linter.unusedVariables false
def shlK (k : IntKind) (m n : Int) : Int := k.wrap (m * 2 ^ (min n.toNat k.bits))
theorem made_flatN {α : Type} {enc : α → List Value} {z : Value} {zs : List Value} {x : α} {sz : Nat} (henc : ∀ x, (enc x).length = sz) (hz : z.cells.toList = zs) (he : enc x = zs) (hsz : 0 < sz) (n : Nat) : (madeCells z.cells (n * sz)).toList.take (n * sz) = flat enc (List.replicate n x) := by
  have hs : z.cells.size = sz := by rw [← henc x, he, ← hz]; simp
  rw [List.take_of_length_le (by simp [size_madeCells])]
  apply List.ext_getElem?
  intro i
  by_cases hi : i < n * sz
  · have hm : i % sz < sz := Nat.mod_lt _ hsz
    have hd : i / sz < n := by
      rw [Nat.div_lt_iff_lt_mul hsz]
      exact hi
    obtain ⟨v, hv⟩ : ∃ v, (enc x)[i % sz]? = some v := ⟨_, List.getElem?_eq_getElem (by rw [henc]; exact hm)⟩
    have h1 := flat_get henc (l := List.replicate n x) (i := i / sz) (off := i % sz) (x := x) (by simp [hd]) hv
    rw [show i / sz * sz + i % sz = i by rw [Nat.mul_comm]; exact Nat.div_add_mod i sz] at h1
    rw [h1]
    rw [he, ← hz] at hv
    have h2 : i % z.cells.size < z.cells.size := by rw [hs]; exact hm
    have h3 : z.cells[i % sz]? = some v := by simpa using hv
    simp only [madeCells, Array.toList_map, Array.toList_range]
    rw [List.getElem?_map, List.getElem?_range hi, Option.map_some, hs]
    rw [getElem!_def, h3]
  · have h1 : (flat enc (List.replicate n x)).length = n * sz := by rw [flat_length henc, List.length_replicate]
    rw [List.getElem?_eq_none (by rw [Array.length_toList, size_madeCells]; omega), List.getElem?_eq_none (by omega)]
section
variable {P : Program} {N : Nat} {l : List (Nat × Value)} {C : World → Prop} {d : Option Tmp} {T : TypeId} {pos : String} {af : Array Edge} {g : Option (Nat × Bool)}
theorem op_make {α : Type} (enc : α → List Value) (x0 : α) {t e sz by_ : Nat} {z : Value} {zs : List Value} {x y : Operand} {kl kc : IntKind} {n : Nat} {m m' : Int} {w0 w : World} {M : Nat → Prop} {H : List It} [ht : TSl P t e] [hi : TIf P e z zs sz by_]
    (hx : ev l x = some (.int kl m)) (hy : ev l y = some (.int kc m')) (hm : m = (n : Int)) (hm' : m' = (n : Int)) (hc : n ≤ maxLen) (hb : by_ * n ≤ 140737488355328) (henc : ∀ x, (enc x).length = sz) (he : enc x0 = zs) (hsz : 0 < sz) (hH : HS w0 M H w) :
    Op1 P N l ⟨d, .makeSlice t x y, T, pos, af, g⟩ w (fun v w' => ∃ o, v = .slice o n n ∧ HS w0 M (own e sz o n n (flat enc (List.replicate n x0)) :: H) w') := by
  subst hm; subst hm'
  have := op_makeSlice (P := P) (N := N) (l := l) (d := d) (T := T) (pos := pos) (af := af) (g := g) (t := t) (e := e) hx hy (Nat.le_refl n) hc hb hH
  rw [made_flatN henc hi.zc he hsz] at this
  exact this
theorem ex_shl {t ty : TypeId} {x y : Operand} {k k2 : IntKind} {m n v : Int} (hx : ev l x = some (.int k m)) (hy : ev l y = some (.int k2 n)) (hn : 0 ≤ n) (hv : shlK k m n = v) : Ex P N l C ⟨d, .binOp .shl t x y ty, T, pos, af, g⟩ (.int k v) := by
  intro a w hA _
  subst hv
  simp only [execOp, hA.ev hx, hA.ev hy, eqGuard_at_int, binOp_shl]
  simp [Op.shift, shlK, show ¬ n < 0 by omega]
theorem ex_build_p {t sz by_ : Nat} {z : Value} {zs : List Value} {fl : List (Nat × Nat)} {ps : Array (Nat × Operand)} {vs : List Value} (cs : Array Value) [h : TSt P t fl] [hi : TIf P t z zs sz by_]
    (hv : evL l (ps.toList.map (·.2)) = some vs) (hsz : ∀ p ∈ fl, ∃ i, P.info? p.1 = some i ∧ i.size = 1) (hf : Instr.fill ((fl.map (fun p => (p.2, 1)))[·]?) zs.toArray ((ps.toList.map (·.1)).zip vs) = some cs) :
    Ex P N l C ⟨d, .build t ps, T, pos, af, g⟩ (.agg cs) := by
  have hrun : ∀ (fl : List (Nat × Nat)) (w : World), (∀ p ∈ fl, ∃ i, P.info? p.1 = some i ∧ i.size = 1) → (fl.mapM (fun p => do pure (p.2, ← sizeOf p.1)) : Sem (List (Nat × Nat))).run P w = .ok (fl.map (fun p => (p.2, 1))) w := by
    intro fl w
    induction fl with
    | nil => intro _; simp
    | cons p fl ih =>
      intro hp
      obtain ⟨i, hi1, hi2⟩ := hp p (by simp)
      have := ih fun q hq => hp q (by simp [hq])
      simp only [List.mapM_cons, Sem.run_bind, sizeOf, typeInfo, run_program, Result.andThen_ok, hi1, Sem.run_pure, hi2] at this ⊢
      rw [this]
      simp
  have hzc : z.cells = zs.toArray := by apply Array.ext'; simpa using hi.zc
  exact ex_build (szs := fl.map (fun p => (p.2, 1))) (fun w => hrun fl w hsz) hv (by rw [hzc]; exact hf)
end
end Go.Fw
namespace Go.Fw
open Go Go.RowKit
set_option linter.unusedVariables false
section
variable {P : Program} {ops : Array Oper} {S : World → Prop} {Q : Exit → Act → World → Prop} {K : Act → World → Prop} {k : Array Bool → Bool} {m : Nat}
end
theorem Op1.mono {P : Program} {N : Nat} {l : List (Nat × Value)} {o : Oper} {w : World} {R R' : Value → World → Prop} (h : Op1 P N l o w R) (hr : ∀ v w', R v w' → R' v w') : Op1 P N l o w R' :=
  fun a hA K Q hK => h a hA K Q fun v w' h' => hK v w' (hr v w' h')

section
variable {P : Program} {N : Nat} {l : List (Nat × Value)} {Ds : List Deferred} {ops : Array Oper} {Q : Exit → Act → World → Prop} {K : Act → World → Prop} {w0 : World} {M : Nat → Prop} {H : List It}
end
section
variable {P : Program} {N : Nat} {l : List (Nat × Value)} {a : Act} {Ds : List Deferred} {w : World} {ops : Array Oper} {S : World → Prop} {Q : Exit → Act → World → Prop} {K : Act → World → Prop} {i : Nat} {π : List (Nat × Nat)}
end
theorem then_mono {K R : Act → World → Prop} {Q : Exit → Act → World → Prop} (k : ∀ a w, R a w → K a w) : ∀ e a w, Exit.then R Q e a w → Exit.then K Q e a w := by
  intro e a w h
  cases e with
  | normal => exact k _ _ h
  | _ => exact h
end Go.Fw
namespace Go.Fw
open Go Go.RowKit
set_option linter.unusedVariables false
section
variable {P : Program} {N : Nat} {l : List (Nat × Value)} {C : World → Prop} {d : Option Tmp} {T : TypeId} {pos : String} {af : Array Edge} {g : Option (Nat × Bool)}
theorem ex_eqlPn {t ty : TypeId} {x y : Operand} {p : Option Addr} [h : TPt P t] (hx : ev l x = some (.pointer p)) (hy : ev l y = some (.pointer none)) : Ex P N l C ⟨d, .binOp .eql t x y ty, T, pos, af, g⟩ (.bool p.isNone) := by
  intro a w hA _
  simp [execOp, hA.ev hx, hA.ev hy, eqGuard_at_pointer, run_eql_pointer_nil w t p h.eq]
theorem ex_neqPn {t ty : TypeId} {x y : Operand} {p : Option Addr} [h : TPt P t] (hx : ev l x = some (.pointer p)) (hy : ev l y = some (.pointer none)) : Ex P N l C ⟨d, .binOp .neq t x y ty, T, pos, af, g⟩ (.bool (!p.isNone)) := by
  intro a w hA _
  simp [execOp, hA.ev hx, hA.ev hy, eqGuard_at_pointer, run_neq_pointer_nil w t p h.eq]
theorem ex_eqlPt {t ty : TypeId} {x y : Operand} [h : TPt P t] (hx : ev l x = some (.pointer none)) (hy : ev l y = some (.pointer none)) : Ex P N l C ⟨d, .binOp .eql t x y ty, T, pos, af, g⟩ (.bool true) := ex_eqlPn (h := h) hx hy
theorem ex_eqlPf {t ty : TypeId} {x y : Operand} {p : Addr} [h : TPt P t] (hx : ev l x = some (.pointer (some p))) (hy : ev l y = some (.pointer none)) : Ex P N l C ⟨d, .binOp .eql t x y ty, T, pos, af, g⟩ (.bool false) := ex_eqlPn (h := h) hx hy
theorem ex_neqPf {t ty : TypeId} {x y : Operand} [h : TPt P t] (hx : ev l x = some (.pointer none)) (hy : ev l y = some (.pointer none)) : Ex P N l C ⟨d, .binOp .neq t x y ty, T, pos, af, g⟩ (.bool false) := ex_neqPn (h := h) hx hy
theorem ex_neqPt {t ty : TypeId} {x y : Operand} {p : Addr} [h : TPt P t] (hx : ev l x = some (.pointer (some p))) (hy : ev l y = some (.pointer none)) : Ex P N l C ⟨d, .binOp .neq t x y ty, T, pos, af, g⟩ (.bool true) := ex_neqPn (h := h) hx hy
end
theorem inB_mono {id : Nat} {Q Q' : Exit → Act → World → Prop} (h : ∀ e a w, Q e a w → Q' e a w) : ∀ e a w, Exit.inBlock id Q e a w → Exit.inBlock id Q' e a w := by
  intro e a w he
  cases e <;> simp only [Exit.inBlock] at he ⊢ <;> first | exact h _ _ _ he | (split at he <;> rename_i hc <;> simp only [hc] <;> exact h _ _ _ he)
theorem st_join {P : Program} {ops : Array Oper} {ls : List Oper} {a : Act} {w : World} {c2 : Code} {K : Act → World → Prop} {Q : Exit → Act → World → Prop} (R : Act → World → Prop)
    (h : wpList P ops (Exit.then (c2.wp P (Exit.then R Q)) (Exit.then R Q)) ls a w) (k : ∀ a w, R a w → K a w) : wpList P ops (Exit.then (c2.wp P (Exit.then K Q)) (Exit.then K Q)) ls a w := by
  induction ls generalizing a w with
  | nil => exact Code.wp_mono (then_mono k) (show c2.wp P (Exit.then R Q) a w from h)
  | cons o rest ih =>
    unfold wpList at h ⊢
    split
    · rename_i hw
      rw [if_pos hw] at h
      rcases h with h | ⟨h1, h2⟩
      · refine .inl (Oper.wp_mono (K := wpList P ops (Exit.then (c2.wp P (Exit.then R Q)) (Exit.then R Q)) rest) (fun a w h => ih h) ?_)
        unfold Oper.wp at *
        generalize (execOp a.eval o).run P w = r at *
        cases r with
        | ok n w' => cases n <;> simp only [Oper.upon] at h ⊢ <;> exact h
        | halt x w' => cases x <;> simp only [Oper.upon] at h ⊢ <;> exact h
      · exact .inr ⟨h1, by obtain ⟨a', w3, h3⟩ := h2; exact ⟨a', w3, h3⟩⟩
    · rename_i hw
      rw [if_neg hw] at h
      exact ih h
theorem HS.all_out {w0 w : World} {M : Nat → Prop} {A B H : List It} {x : It} (h : HS w0 M (all (A ++ x :: B) :: H) w) : HS w0 M (x :: all (A ++ B) :: H) w := by
  have h1 : HS w0 M ((A ++ x :: B) ++ H) w := h.open_
  have h2 : HS w0 M ((A ++ B) ++ x :: H) w := h1.perm (by
    have e1 : (A ++ x :: B ++ H).Perm (x :: (A ++ B) ++ H) := (List.perm_middle).append_right H
    have e2 : (x :: (A ++ B) ++ H).Perm ((A ++ B) ++ x :: H) := (List.perm_middle (l₁ := A ++ B)).symm
    exact e1.trans e2)
  exact h2.shut.perm (.swap _ _ _)
theorem HS.all_in {w0 w : World} {M : Nat → Prop} {A B H : List It} {x : It} (h : HS w0 M (x :: all (A ++ B) :: H) w) : HS w0 M (all (A ++ x :: B) :: H) w := by
  have h1 : HS w0 M (all (A ++ B) :: x :: H) w := h.perm (.swap _ _ _)
  have h2 : HS w0 M ((A ++ B) ++ x :: H) w := h1.open_
  refine HS.shut (h2.perm ?_)
  have e1 : ((A ++ B) ++ x :: H).Perm (x :: (A ++ B) ++ H) := List.perm_middle (l₁ := A ++ B)
  have e2 : (x :: (A ++ B) ++ H).Perm (A ++ x :: B ++ H) := (List.perm_middle.symm).append_right H
  exact e1.trans e2
section
variable {w0 w : World} {M : Nat → Prop} {p q r : It}
end
theorem wp_lpk {P : Program} {a : Act} {w : World} {id : Nat} {Q0 : Exit → Act → World → Prop} {c : Code} {S : Type} (I : S → Act → World → Prop) (μ : S → Nat) (R : Act → World → Prop) (s : S) (h₀ : I s a w)
    (round : ∀ s a w, I s a w → c.wp P (Exit.then (fun a' w' => ∃ s', I s' a' w' ∧ μ s' < μ s) (Exit.inBlock id (Exit.then R Q0))) a w) (k : ∀ a w, R a w → Q0 .normal a w) : (Code.loop c).wp P (Exit.inBlock id Q0) a w :=
  Code.wp_mono (inB_mono (fun e a w he => by
    cases e with
    | normal => exact k _ _ he
    | _ => exact he)) (wp_lp I μ s h₀ round)
end Go.Fw
namespace Go.Fw
open Go Go.RowKit
set_option linter.unusedVariables false
structure Wr (p : Prop) : Prop where
  out : p
theorem EXT2 {P : Program} {N : Nat} {l : List (Nat × Value)} {C : World → Prop} {o : Oper} {v : Value} (h : Ex P N l C o v := by
  first
  | (apply ex_load; rfl; exact cl_w (by assumption) id)
  | (apply ex_load; rfl; exact cl_rd (by assumption) id (by assumption))
  | (apply ex_load; rfl; apply cl_own; exact MEMT; assumption)
  | (apply ex_load_st; rfl; rotate_left; exact cls_rd (by assumption) id (by assumption); rfl)
  | (apply ex_eqlPf; rfl; rfl)
  | (apply ex_eqlPt; rfl; rfl)
  | (apply ex_neqPt; rfl; rfl)
  | (apply ex_neqPf; rfl; rfl)
  | (apply ex_eqlNil; rfl; rfl)
  | (apply ex_max; rfl; rfl)
  | (apply ex_rem; rfl; rfl; first | decide | omega)
  | (apply ex_quo; rfl; rfl; first | decide | omega)) : Ex P N l C o v := h
theorem STT {p : Prop} (h : p := by first | exact hH.drop_ | exact hH.pick MEMT | exact hH) : p := h
theorem FA {G : Prop} (h : G := by
  first
  | (exfalso; have h1 := of_decide_eq_true hg; omega)
  | (exfalso; have h1 := of_decide_eq_false hg; omega)
  | exact absurd hg (by decide)) : G := h
theorem QT {G G' : Prop} (k : G') (h : Wr G' → G := by
  intro k
  first
  | (apply st_ex hA hH rfl rfl (by decide); (first | exact EXT | exact EXT2); exact k.out)
  | (apply st_skip hA rfl rfl (by decide); exact k.out)
  | ((first | apply dr_ex hA rfl rfl rfl (by decide) | apply dr_exp hA rfl rfl rfl (by decide) | apply dr_ex3 hA hH rfl rfl rfl (by decide)); (first | exact EXT | exact EXT2); exact k.out)
  | ((first | apply dr_skip hA rfl rfl rfl (by decide) | apply dr_skip3 hA rfl rfl rfl (by decide)); exact k.out)) : G := h ⟨k⟩
theorem GT {G G1 G2 : Prop} (k1 : G1) (k2 : G2) (h : Wr G1 → Wr G2 → G := by
  intro k1 k2
  first
  | (apply st_exb hA hH rfl rfl (by decide) rfl (ex_move rfl); exact k1.out; exact k2.out)
  | (apply dr_exb hA rfl rfl rfl (by decide) rfl (ex_move rfl); exact k1.out; exact k2.out)) : G := h ⟨k1⟩ ⟨k2⟩
theorem CT {G G' : Prop} (k : G') (h : Wr G' → G := by
  intro k
  first
  | (apply wp_seq; exact k.out)
  | (apply wp_region_lit; exact k.out)
  | (apply st_nil; exact k.out)
  | (apply then_normal; exact k.out)
  | (apply wp_block; exact k.out)
  | (apply st_cond_t hA rfl; exact k.out)
  | (apply st_cond_f hA rfl; exact k.out)
  | (apply wp_ret; exact k.out)
  | (apply wp_skip; exact k.out)
  | (apply wp_exit; exact k.out)
  | (apply then_ret; exact k.out)
  | (apply then_exit; exact k.out)
  | (apply inB_normal; exact k.out)
  | (apply inB_ret; exact k.out)
  | (apply inB_eq; exact k.out)
  | (apply inB_ne rfl; exact k.out)
  | (apply dr_nil; exact k.out)
  | (apply dr_late; exact k.out)
  | (apply dr_nil2; exact k.out)
  | (apply wp_scope_straight; exact k.out)
  | (apply wp_label; exact k.out)
  | (apply ng_normal; exact k.out)
  | (apply ng_ret; exact k.out)) : G := h ⟨k⟩
theorem DT {G G1 G2 : Prop} (k1 : G1) (k2 : G2) (h : Wr G1 → Wr G2 → G := by
  intro k1 k2
  first
  | (apply st_cond_d hA rfl; exact k1.out; exact k2.out)
  | (apply st_cond_nd hA rfl; exact k1.out; exact k2.out)
  | (apply st_cond hA rfl; exact k1.out; exact k2.out)) : G := h ⟨k1⟩ ⟨k2⟩
theorem BT {G G' : Prop} (k : G') (h : Wr G' → G := by
  intro k
  apply st_op hA rfl rfl (by decide)
  (first | apply op_alloc | (apply op_box_agg; rfl) | (apply op_box1; rfl; rfl))
  exact hH
  exact k.out) : G := h ⟨k⟩
theorem LT {G G' : Prop} (k : G') (h : Wr G' → G := by
  intro k
  apply st_op hA rfl rfl (by decide)
  apply op_sliceLit
  rfl
  rfl
  exact CATST
  rfl
  rfl
  rfl
  exact hH
  exact k.out) : G := h ⟨k⟩
theorem AT {G G' : Prop} (k : G') (h : Wr G' → G := by
  intro k
  apply st_op hA rfl rfl (by decide)
  apply op_append
  rfl
  rfl
  exact hH
  exact MEMT
  exact hH.own_rd (List.Mem.head _)
  rfl
  rfl
  decide
  rfl
  (unfold maxLen; omega)
  omega
  exact k.out) : G := h ⟨k⟩
theorem S0T {G G' : Prop} (k : G') (h : Wr G' → G := by
  intro k
  apply st_op0 hA rfl rfl
  (first | (apply op_store1; rfl; rfl; rfl; exact hH; (repeat constructor)) | (apply op_store_agg; rfl; rfl; exact hH; (repeat constructor); rfl; rfl; rfl))
  exact k.out) : G := h ⟨k⟩
theorem DLT {G G' : Prop} (k : G') (h : Wr G' → G := by
  intro k
  apply dr_op hA rfl rfl rfl (by decide)
  apply op_sliceLit
  rfl
  rfl
  exact CATST
  rfl
  rfl
  rfl
  exact hH
  exact k.out) : G := h ⟨k⟩
end Go.Fw
namespace Go.Fw
open Go Go.RowKit
set_option linter.unusedVariables false
inductive Pl where
  | nil
  | q (i : Nat) (t : Pl)
  | one (i : Nat) (t : Pl)
  | two (i j : Nat) (t u : Pl)
def Pl.len : Pl → Nat
  | .nil => 0
  | .q _ t => t.len + 1
  | .one _ t => t.len + 1
  | .two _ _ t _ => t.len + 1
def qs : List Nat → Pl → Pl
  | [], t => t
  | i :: l, t => .q i (qs l t)
def okT (ops : Array Oper) : Pl → Array Bool → Bool
  | .nil, listed => decide (Region.ready .any ops listed = [])
  | .q i t, listed => (Region.ready .any ops listed).contains i && Region.free .any ops listed i && okT ops t (listed.setIfInBounds i true)
  | .one i t, listed => decide (Region.ready .any ops listed = [i]) && okT ops t (listed.setIfInBounds i true)
  | .two i j t u, listed => Nat.beq t.len u.len && decide (Region.ready .any ops listed = [i, j]) && okT ops t (listed.setIfInBounds i true) && okT ops u (listed.setIfInBounds j true)
def wkT (P : Program) (ops : Array Oper) (S : World → Prop) (Q : Exit → Act → World → Prop) (K : Act → World → Prop) : Pl → Act → World → Prop
  | .nil, a, w => K a w
  | .q i t, a, w => ∃ o v, ops[i]? = some o ∧ YieldsIf P ops S o v a ∧ wkT P ops S Q K t (a.put o.dst v) w
  | .one i t, a, w => wpOp P ops (NoPanic Q) i (fun a' w' => S w' ∧ wkT P ops S Q K t a' w') a w
  | .two i j t u, a, w => wpOp P ops (NoPanic Q) i (fun a' w' => S w' ∧ wkT P ops S Q K t a' w') a w ∧ wpOp P ops (NoPanic Q) j (fun a' w' => S w' ∧ wkT P ops S Q K u a' w') a w
section
variable {P : Program} {ops : Array Oper} {S : World → Prop} {Q : Exit → Act → World → Prop} {K : Act → World → Prop}
theorem wkT_any (hs : Region.noSelect ops = true) (hK : ∀ a w, K a w → Q .normal a w) : ∀ (t : Pl) (listed : Array Bool) (a : Act) (w : World),
    okT ops t listed = true → S w → wkT P ops S Q K t a w → wpAnyK P .any ops (NoPanic Q) S (fun _ => true) t.len listed a w
  | .nil, listed, a, w, hok, hS, h => ⟨of_decide_eq_true hok, hK a w h⟩
  | .q i t, listed, a, w, hok, hS, h => by
    simp only [okT, Bool.and_eq_true] at hok
    obtain ⟨⟨hr, hf⟩, hok'⟩ := hok
    obtain ⟨o, v, hi, hy, hk⟩ := h
    exact wpAnyK.first hi (Region.noSelect_spec hs) (fun c a w h => h) _ listed a w (fun j hF => by cases hF) (Region.free_spec hi hf) (by simpa using hr) hy hS (wkT_any hs hK t _ _ w hok' hS hk)
  | .one i t, listed, a, w, hok, hS, h => by
    simp only [okT, Bool.and_eq_true, decide_eq_true_eq] at hok
    refine ⟨fun h0 => (by rw [hok.1] at h0; cases h0), fun j hj => ?_⟩
    rw [hok.1] at hj
    obtain rfl : j = i := by simpa using hj
    exact wpOp_mono (fun a' w' ⟨hS', h'⟩ => ⟨fun _ _ => hS', wkT_any hs hK t _ a' w' hok.2 hS' h'⟩) h
  | .two i k t u, listed, a, w, hok, hS, h => by
    simp only [okT, Bool.and_eq_true, decide_eq_true_eq] at hok
    obtain ⟨⟨⟨hl, hr⟩, ht⟩, hu⟩ := hok
    have hl := Nat.eq_of_beq_eq_true hl
    refine ⟨fun h0 => (by rw [hr] at h0; cases h0), fun j hj => ?_⟩
    rw [hr] at hj
    rcases (by simpa using hj : j = i ∨ j = k) with rfl | rfl
    · exact wpOp_mono (fun a' w' ⟨hS', h'⟩ => ⟨fun _ _ => hS', wkT_any hs hK t _ a' w' ht hS' h'⟩) h.1
    · exact wpOp_mono (fun a' w' ⟨hS', h'⟩ => ⟨fun _ _ => hS', by rw [hl]; exact wkT_any hs hK u _ a' w' hu hS' h'⟩) h.2
end
theorem wp_drawT {P : Program} {id : Nat} {ops : List Oper} {Q : Exit → Act → World → Prop} {a : Act} {w0 w : World} {M : Nat → Prop} {H : List It} (t : Pl) (R : Act → World → Prop) (hm : P.follows .mixedOrders = true)
    (hok : (Region.noSelect ops.toArray && Nat.beq t.len ops.length && okT ops.toArray t (Array.replicate ops.length false)) = true) (hH : HS w0 M H w)
    (h : wkT P ops.toArray (HS w0 M H) Q R t a w.drew) (k : ∀ a w, R a w → Q .normal a w) : (Code.region id ops.toArray true).wp P Q a w := by
  simp only [Bool.and_eq_true] at hok
  obtain ⟨⟨hs, hl⟩, hok⟩ := hok
  have hl' : t.len = ops.toArray.size := by simpa using Nat.eq_of_beq_eq_true hl
  have := wkT_any (P := P) (Q := Q) hs k t _ a w.drew hok hH.drew h
  rw [hl'] at this
  refine wp_region_noPanic (wp_region_any hm (wpAnyK.any (S := HS w0 M H) (F := fun _ => true) _ _ _ _ ?_))
  simpa using this
section
variable {P : Program} {N : Nat} {l : List (Nat × Value)} {a : Act} {Ds : List Deferred} {w : World} {ops : Array Oper} {S : World → Prop} {Q : Exit → Act → World → Prop} {K : Act → World → Prop} {i j : Nat} {t u : Pl}
theorem dt_nil (h : K a w) : wkT P ops S Q K .nil a w := h
theorem dt_ex {o : Oper} {d : Nat} {v : Value} (hA : Sl N l a Ds) (hi : ops[i]? = some o) (hg : gd ops l o.guard = some true) (hd : o.dst = some d) (hdN : d < N)
    (h : Ex P N l S o v) (k' : ∀ a', Sl N ((d, v) :: l) a' Ds → wkT P ops S Q K t a' w) : wkT P ops S Q K (.q i t) a w := by
  refine ⟨o, v, hi, .inl ⟨hA.gd hg, fun w' hS => h a w' hA.toSl0 hS⟩, ?_⟩
  rw [hd]
  exact k' _ (hA.put hdN v)
theorem dt_op {o : Oper} {d : Nat} {R : Value → World → Prop} (hA : Sl N l a Ds) (hi : ops[i]? = some o) (hg : gd ops l o.guard = some true) (hd : o.dst = some d) (hdN : d < N)
    (h : Op1 P N l o w R) (k : ∀ v w', R v w' → S w' ∧ ∀ a', Sl N ((d, v) :: l) a' Ds → wkT P ops S Q K t a' w') : wkT P ops S Q K (.one i t) a w := by
  unfold wkT wpOp
  simp only [hi, hA.gd hg, if_true]
  refine .inl (h a hA.toSl0 _ _ fun v w' hR => ?_)
  rw [hd]
  exact ⟨(k v w' hR).1, (k v w' hR).2 _ (hA.put hdN v)⟩
theorem dt_op0 {o : Oper} {R : Value → World → Prop} (hA : Sl N l a Ds) (hi : ops[i]? = some o) (hg : gd ops l o.guard = some true) (hd : o.dst = none)
    (h : Op1 P N l o w R) (k : ∀ v w', R v w' → S w' ∧ wkT P ops S Q K t a w') : wkT P ops S Q K (.one i t) a w := by
  unfold wkT wpOp
  simp only [hi, hA.gd hg, if_true]
  refine .inl (h a hA.toSl0 _ _ fun v w' hR => ?_)
  rw [hd]
  exact k v w' hR
theorem dt_two (h1 : wkT P ops S Q K (.one i t) a w) (h2 : wkT P ops S Q K (.one j u) a w) : wkT P ops S Q K (.two i j t u) a w := ⟨h1, h2⟩
end
end Go.Fw
namespace Go.Fw
open Go Go.RowKit
set_option linter.unusedVariables false
def bts (s : ByteArray) : List Nat := s.data.toList.map (·.toNat)
theorem bts_len (s : ByteArray) : (bts s).length = s.size := by simp [bts]
theorem bts_lt (s : ByteArray) : ∀ b ∈ bts s, b < 256 := fun b hb => by
  obtain ⟨x, _, rfl⟩ := List.mem_map.1 hb
  exact x.toNat_lt
def ofB (ns : List Nat) : ByteArray := ⟨(ns.map UInt8.ofNat).toArray⟩
def encY (n : Nat) : List Value := [.int .u8 (n : Int)]
theorem encY_len (n : Nat) : (encY n).length = 1 := rfl
section
variable {P : Program} {N : Nat} {l : List (Nat × Value)} {C : World → Prop} {d : Option Tmp} {T : TypeId} {pos : String} {af : Array Edge} {g : Option (Nat × Bool)}
theorem ex_len_string {t : TypeId} {x : Operand} {s : ByteArray} [ht : TSr P t] (hx : ev l x = some (.string s)) :
    Ex P N l C ⟨d, .call ⟨.builtin .len, #[x], #[t]⟩, T, pos, af, g⟩ (.int .i64 (bts s).length) := by
  intro a w hA _
  rw [bts_len]
  simp [execOp, resolve, invoke, builtin, Builtin.len_, hA.ev hx, run_underlying ht.eq, goInt]
theorem ex_index_string {t : TypeId} {x y : Operand} {s : ByteArray} {k : IntKind} {i : Int} {j b : Nat} [ht : TSr P t] (hx : ev l x = some (.string s)) (hy : ev l y = some (.int k i)) (hi : i = (j : Int)) (hb : (bts s)[j]? = some b) :
    Ex P N l C ⟨d, .index t x y, T, pos, af, g⟩ (.int .u8 (b : Int)) := by
  intro a w hA _
  subst hi
  obtain ⟨hj, he⟩ := List.getElem?_eq_some_iff.1 hb
  rw [bts_len] at hj
  simp only [execOp, hA.ev hx, hA.ev hy, Sem.run_bind]
  rw [run_index_string w t s k j ht.eq, dif_pos ⟨by omega, by omega⟩]
  subst he
  simp [bts]
  rfl
theorem ex_neqS {t ty : TypeId} {x y : Operand} {m n : ByteArray} [h : TSr P t] (hx : ev l x = some (.string m)) (hy : ev l y = some (.string n)) : Ex P N l C ⟨d, .binOp .neq t x y ty, T, pos, af, g⟩ (.bool (!(m.toList == n.toList))) := by
  intro a w hA _
  simp [execOp, hA.ev hx, hA.ev hy, eqGuard_at_string, binOp, Op.stringOp]
theorem ex_eqlS {t ty : TypeId} {x y : Operand} {m n : ByteArray} [h : TSr P t] (hx : ev l x = some (.string m)) (hy : ev l y = some (.string n)) : Ex P N l C ⟨d, .binOp .eql t x y ty, T, pos, af, g⟩ (.bool (m.toList == n.toList)) := by
  intro a w hA _
  simp [execOp, hA.ev hx, hA.ev hy, eqGuard_at_string, binOp, Op.stringOp]
theorem push_ofB (l : List Nat) : ∀ (s : ByteArray), ((l.map fun (b : Nat) => (b : Int)).foldl (fun r n => r.push (UInt8.ofNat n.toNat)) s) = ⟨s.data ++ (l.map UInt8.ofNat).toArray⟩ := by
  induction l with
  | nil => intro s; simp
  | cons b l ih =>
    intro s
    rw [List.map_cons, List.foldl_cons, ih]
    simp [ByteArray.push]
theorem flatY (l : List Nat) : flat encY l = (l.map fun (b : Nat) => (b : Int)).map (Value.int .u8) := by
  induction l with
  | nil => rfl
  | cons b l ih =>
    show encY b ++ flat encY l = _
    rw [ih]
    rfl
theorem ex_ofBytes {src e dst : TypeId} {x : Operand} {o : Option Addr} {n c : Nat} {l' : List Nat} [hs : TSl P src e] [he : TIn P e .u8] [hd : TSr P dst] (hx : ev l x = some (.slice o n c)) (hn : l'.length = n) (hr : ∀ w, C w → Rd w o (flat encY l')) :
    Ex P N l C ⟨d, .convert src dst x, T, pos, af, g⟩ (.string (ofB l')) := by
  intro a w hA hC
  subst hn
  simp only [execOp, hA.ev hx, Sem.run_bind]
  rw [run_convert_bytes_string w src dst e o _ c hs.eq he.eq hd.eq]
  have h := hr w hC
  have hfl : (flat encY l').length = l'.length := by rw [flatY]; simp
  cases o with
  | none =>
    have : l' = [] := by
      cases l' with
      | nil => rfl
      | cons b l' =>
        obtain ⟨_, _, h2⟩ := h.1 (by rw [hfl]; simp)
        cases h2
    subst this
    simp [Conv.bytesToString, ofB]
    rfl
  | some a0 =>
    by_cases h0 : l' = []
    · subst h0
      have hl := run_loadCells_list (P := P) (w := w) a0 [] (fun j v hj => by simp at hj)
      rw [run_bytesToString w a0 _ c [] (by simpa using hl)]
      rfl
    · obtain ⟨b, off, h2⟩ := h.1 (by rw [hfl]; exact List.length_pos_iff.2 h0)
      obtain rfl : a0 = ⟨b, off, none⟩ := by simpa using h2
      have hl := run_loadCells_list (P := P) (w := w) ⟨b, off, none⟩ (flat encY l') (fun j v hj => by
        have := h.2 j v hj
        have e : (⟨b, off, none⟩ : Addr).add j = sat (some ⟨b, off, none⟩) j := by
          unfold Addr.add sat blkO offO
          split <;> simp_all
        rw [e]
        exact this)
      rw [hfl, flatY] at hl
      rw [run_bytesToString w ⟨b, off, none⟩ _ c _ hl, push_ofB]
      simp [ofB]
theorem bytes_kp (w : World) (e : TypeId) (s : ByteArray) : Kp w noM (Lib.bytesWorld w e s) where
  os := by unfold Lib.bytesWorld World.freeze; split <;> rfl
  tape := by unfold Lib.bytesWorld World.freeze; split <;> rfl
  output := by unfold Lib.bytesWorld World.freeze; split <;> rfl
  size := by rw [Lib.bytesWorld_size]; omega
  block := fun b hb _ => Lib.bytesWorld_at_old w e s b hb
def byI (b : Nat) (s : ByteArray) : It := exI fun (o : Obj) => facI (∀ w : World, w.heap[b]? = some o → Rd w (some (bat b 0)) (flat encY (bts s))) (blk b o)
theorem by_rd {w0 w : World} {M : Nat → Prop} {H : List It} {b : Nat} {s : ByteArray} (hH : HS w0 M H w) (hm : byI b s ∈ H) : Rd w (some (bat b 0)) (flat encY (bts s)) := by
  obtain ⟨o, h1⟩ := (hH.pick hm).exI_open
  obtain ⟨h2, h3⟩ := h1.facI_open
  obtain ⟨F, h4, h5⟩ := h3.sat (List.mem_cons_self ..)
  exact h2 w h5
theorem op_toBytes {src e dst : TypeId} {x : Operand} {s : ByteArray} {w0 w : World} {M : Nat → Prop} {H : List It} [hs : TSr P src] [hd : TSl P dst e] [he : TIn P e .u8] (hx : ev l x = some (.string s)) (hH : HS w0 M H w) :
    Op1 P N l ⟨d, .convert src dst x, T, pos, af, g⟩ w (fun v w' => ∃ b c, v = .slice (some (bat b 0)) (bts s).length c ∧ HS w0 M (byI b s :: H) w') := by
  intro a hA K Q hK
  unfold Oper.wp
  simp only [execOp, hA.ev hx, Sem.run_bind]
  rw [Lib.run_convert_string_bytes w src dst e s hs.eq hd.eq he.eq]
  simp only [Result.andThen_ok, Sem.run_pure, Oper.upon]
  refine hK _ _ ⟨w.heap.size, _, by rw [bts_len]; rfl, HS.exI_shut _ (HS.facI_shut (fun w' hw' => ?_) (hH.come (it := blk w.heap.size _) (bytes_kp w e s) (F' := fun x => x = w.heap.size) ⟨fun x => Iff.rfl, Lib.bytesWorld_at_new w e s⟩ fun b hb => by omega))⟩
  refine ⟨fun _ => ⟨_, _, rfl⟩, fun j u hj => ?_⟩
  rw [flatY] at hj
  have hjl := (List.getElem?_eq_some_iff.1 hj).1
  simp [bts] at hjl
  have h1 := Lib.bytesWorld_cell w e s j hjl
  have e2 : sat (some (bat w.heap.size 0)) j = ⟨w.heap.size, j, none⟩ := by simp [sat, blkO, offO, bat]
  have e3 : w'.cell? ⟨w.heap.size, j, none⟩ = (Lib.bytesWorld w e s).cell? ⟨w.heap.size, j, none⟩ := World.cell?_of_block (hw'.trans (Lib.bytesWorld_at_new w e s).symm)
  rw [e2, e3, h1, ← hj]
  simp [bts, List.getD, hjl]
theorem ex_min {ats : Array TypeId} {x y : Operand} {k k' : IntKind} {m n : Int} (hx : ev l x = some (.int k m)) (hy : ev l y = some (.int k' n)) : Ex P N l C ⟨d, .call ⟨.builtin .min, #[x, y], ats⟩, T, pos, af, g⟩ (.int k (if n < m then n else m)) := by
  intro a w hA _
  simp [execOp, resolve, invoke, builtin, hA.ev hx, hA.ev hy, run_min_int2]
end
end Go.Fw
namespace Go.Fw
open Go Go.RowKit
set_option linter.unusedVariables false
def lateN (n : Nat) (ops : Array Oper) (π2 : List Nat) (listed : Array Bool) (i : Nat) : Bool :=
  π2.all fun j => beh ops listed i n j
def okM (n : Nat) (ops : Array Oper) (π2 : List Nat) : List (Nat × Nat) → Array Bool → Bool
  | [], listed => okL ops π2 listed
  | (i, 0) :: π, listed => decide (Region.ready .any ops listed = [i]) && okM n ops π2 π (listed.setIfInBounds i true)
  | (i, 1) :: π, listed => (Region.ready .any ops listed).contains i && Region.free .any ops listed i && lateN n ops π2 listed i && okM n ops π2 π (listed.setIfInBounds i true)
  | (i, _ + 2) :: π, listed => (Region.ready .any ops listed).contains i && Region.free .any ops listed i && okM n ops π2 π (listed.setIfInBounds i true)
theorem lateN_spec {n : Nat} {ops : Array Oper} {π2 : List Nat} {listed : Array Bool} {i : Nat} (h : lateN n ops π2 listed i = true) : ∀ j, (!π2.contains j) = false → Rch .any ops listed i j := by
  intro j hc
  have hm : j ∈ π2 := by simpa using hc
  exact beh_spec n j (List.all_eq_true.1 h j hm)
theorem wpAny_wkM {n : Nat} {P : Program} {ops : Array Oper} {S : World → Prop} {Q : Exit → Act → World → Prop} (hs : Region.noSelect ops = true) (π2 : List Nat) : ∀ (π : List (Nat × Nat)) (listed : Array Bool) (a : Act) (w : World),
    okM n ops π2 π listed = true → S w → wkD P ops S Q π2 π a w → wpAnyK P .any ops (NoPanic Q) S (fun j => !π2.contains j) (π.length + π2.length) listed a w
  | [], listed, a, w, hok, hS, h => by
    have := wk2_any (S := S) (F := fun j => !π2.contains j) π2 listed a w (fun i hi => by simpa using hi) hok h
    simpa using this
  | (i, 1) :: π, listed, a, w, hok, hS, h => by
    simp only [okM, Bool.and_eq_true] at hok
    obtain ⟨⟨⟨hr, hf⟩, hl⟩, hok'⟩ := hok
    obtain ⟨o, v, hi, hy, hk⟩ := h
    have := wpAny_wkM hs π2 π _ _ w hok' hS hk
    have e : ((i, 1) :: π).length + π2.length = (π.length + π2.length) + 1 := by simp; omega
    rw [e]
    exact wpAnyK.first hi (Region.noSelect_spec hs) (fun c a w h => h) _ listed a w (lateN_spec hl) (Region.free_spec hi hf) (by simpa using hr) hy hS this
  | (i, k + 2) :: π, listed, a, w, hok, hS, h => by
    simp only [okM, Bool.and_eq_true] at hok
    obtain ⟨⟨hr, hf⟩, hok'⟩ := hok
    obtain ⟨o, v, hi, hy, hk⟩ := h
    have := wpAny_wkM hs π2 π _ _ w hok' hS hk
    have e : ((i, k + 2) :: π).length + π2.length = (π.length + π2.length) + 1 := by simp; omega
    rw [e]
    exact wpAnyK.firstp hi (Region.noSelect_spec hs) (fun c a w h => h) _ listed a w (Region.free_spec hi hf) (by simpa using hr) hy this
  | (i, 0) :: π, listed, a, w, hok, hS, h => by
    simp only [okM, Bool.and_eq_true, decide_eq_true_eq] at hok
    have e : ((i, 0) :: π).length + π2.length = (π.length + π2.length) + 1 := by simp; omega
    rw [e]
    refine ⟨fun h0 => (by rw [hok.1] at h0; cases h0), fun j hj => ?_⟩
    rw [hok.1] at hj
    obtain rfl : j = i := by simpa using hj
    exact wpOp_mono (fun a' w' ⟨hS', h'⟩ => ⟨fun _ _ => hS', wpAny_wkM hs π2 π _ a' w' hok.2 hS' h'⟩) h
theorem wp_draw3_HS (n : Nat) {P : Program} {id : Nat} {ops : List Oper} {Q : Exit → Act → World → Prop} {a : Act} {w0 w : World} {M : Nat → Prop} {H : List It} (π : List (Nat × Nat)) (π2 : List Nat) (hm : P.follows .mixedOrders = true)
    (hok : (Region.noSelect ops.toArray && Nat.beq (π.length + π2.length) ops.length && okM n ops.toArray π2 π (Array.replicate ops.length false)) = true) (hH : HS w0 M H w) (h : wkD P ops.toArray (HS w0 M H) Q π2 π a w.drew) : (Code.region id ops.toArray true).wp P Q a w := by
  simp only [Bool.and_eq_true] at hok
  obtain ⟨⟨hs, hl⟩, hok⟩ := hok
  have hl' : π.length + π2.length = ops.toArray.size := by simpa using Nat.eq_of_beq_eq_true hl
  have := wpAny_wkM hs π2 π (Array.replicate ops.length false) a w.drew hok hH.drew h
  rw [hl'] at this
  refine wp_region_noPanic (wp_region_any hm (wpAnyK.any (S := HS w0 M H) (F := fun j => !π2.contains j) _ _ _ _ ?_))
  simpa using this
theorem rt2c {P : Program} {N : Nat} {l : List (Nat × Value)} {a : Act} {w : World} {C : World → Prop} {fn : Func} {R : Value → World → Prop} {p u : Tmp} {ty sz by_ : Nat} {z : Value} {zs : List Value} {fl : List (Nat × Nat)} {q : Addr} {vs : List Value} {v2 : Value} {e : Exit} [h0 : TSt P ty fl] [hi : TIf P ty z zs sz by_] (he : e = .ret ∨ e = .normal) (hr : fn.results = #[.cell p ty, .tmp u]) (hA : Sl N l a)
    (hp : lk l p = some (.pointer (some q))) (hv2 : lk l u = some v2) (hl : vs.length = sz) (hC : C w) (hc : Cls C q vs) (h : R (.tuple #[.agg vs.toArray, v2]) w) : bodyPost P fn (fun e w' => ∃ v, e = .returned v ∧ R v w') e a w := by
  have hg : a.tmps.getD p undef = .pointer (some q) := by simp [Array.getD_eq_getD_getElem?, hA.get p _ hp]
  have hg2 : a.tmps.getD u undef = v2 := by simp [Array.getD_eq_getD_getElem?, hA.get u v2 hv2]
  obtain ⟨ti, h3, h4, h5, h6⟩ := hi.eq
  have hrun : (results fn a.tmps).run P w = .ok (.tuple #[.agg vs.toArray, v2]) w := by
    rw [results_cell_tmp hr, hg, hg2]
    simp [asAddr, loadVar, run_isAgg_st, sizeOf, typeInfo, h3, h5, ← hl, run_loadCells_list w q vs (hc w hC), Result.andThen]
  rcases he with rfl | rfl
  · exact bodyPost_ret hrun hA.defers ⟨_, rfl, h⟩
  · exact bodyPost_end hrun hA.defers ⟨_, rfl, h⟩
end Go.Fw
namespace Go.Fw
open Go Go.RowKit
set_option linter.unusedVariables false
def fzI (K : World → Prop) : It where
  sat w F := (∀ b, F b → b < w.heap.size) ∧ ∀ w' : World, (∀ b, F b → w'.heap[b]? = w.heap[b]?) → K w'
  loc := fun {w w' F} ⟨h1, h2⟩ he => ⟨fun b hb => by
    have h3 := he b hb
    rw [Array.getElem?_eq_getElem (h1 b hb)] at h3
    exact lt_of_heap h3, fun w2 h3 => h2 w2 fun b hb => (h3 b hb).trans (he b hb)⟩
  lt := fun ⟨h1, _⟩ b hb => h1 b hb
  ext := fun ⟨h1, h2⟩ he => ⟨fun b hb => h1 b ((he b).2 hb), fun w' h3 => h2 w' fun b hb => h3 b ((he b).1 hb)⟩
section
variable {w0 w w' : World} {M : Nat → Prop} {H L : List It} {K K1 K2 : World → Prop}
theorem fz_sat {F : Nat → Prop} (h : (fzI K).sat w F) : K w := h.2 w fun _ _ => rfl
theorem HS.fz (h : HS w0 M H w) (hm : fzI K ∈ H) : K w :=
  let ⟨_, hF⟩ := h.sat hm
  fz_sat hF
end
end Go.Fw
namespace Go.Fw
open Go Go.ChangeShapes Go.WideShapes Go.ChangeAt Go.RowKit
set_option linter.unusedVariables false
section
variable {H : Type} {enc : TypeId × Value → H}
end
end Go.Fw
namespace Go.Fw
open Go Go.RowKit
set_option linter.unusedVariables false
section
variable {P : Program} {a : Act} {w : World} {Q Q' : Exit → Act → World → Prop} {K K' : Act → World → Prop} {l n : Nat}
end

theorem HS.put {w0 w : World} {M : Nat → Prop} {H : List It} {b : Nat} {o o' : Obj} (h : HS w0 M (blk b o :: H) w) : HS w0 M (blk b o' :: H) (w.putObj b o') := by
  refine h.turn .here fun F ⟨h1, h2⟩ => ⟨⟨rfl, rfl, rfl, by simp [World.putObj], fun i hi hn => ?_⟩, F, ⟨h1, World.putObj_heap_same (lt_of_heap h2)⟩, fun b hb => .inr hb⟩
  exact World.putObj_heap_other fun e => hn (e ▸ (h1 b).2 rfl)
theorem HS.blk_at {w0 w : World} {M : Nat → Prop} {H : List It} {b : Nat} {o : Obj} (h : HS w0 M H w) (hm : blk b o ∈ H) : w.heap[b]? = some o := by
  obtain ⟨F, _, h2⟩ := h.sat hm
  exact h2
section
variable {P : Program} {N : Nat} {w : World}
end
section
variable {P : Program} {N : Nat} {l : List (Nat × Value)} {a : Act} {Ds : List Deferred} {w : World} {ops : Array Oper} {rest : List Oper} {Q : Exit → Act → World → Prop} {d : Nat} {T : TypeId} {pos : String} {af : Array Edge}
end
end Go.Fw
