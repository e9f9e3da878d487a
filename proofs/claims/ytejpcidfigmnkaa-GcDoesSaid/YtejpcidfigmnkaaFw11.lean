/-
  More of the frame: make of what has many cells; shift and or; pairs set in what is ours. Conditions: none.
-/
import Derived.Test.YtejpcidfigmnkaaFw10
namespace Go.Fw
open Go Go.RowKit
set_option linter.unusedVariables false
def shlK (k : IntKind) (m n : Int) : Int := k.wrap (m * 2 ^ (min n.toNat k.bits))
def orK (k : IntKind) (m n : Int) : Int := k.wrap ((BitVec.ofInt k.bits m ||| BitVec.ofInt k.bits n).toNat)
theorem made_flatN {α : Type} {enc : α → List Value} {z : Value} {zs : List Value} {x : α} {sz : Nat} (henc : ∀ x, (enc x).length = sz) (hz : z.cells.toList = zs) (he : enc x = zs) (hsz : 0 < sz) (n : Nat) : (madeCells z.cells (n * sz)).toList.take (n * sz) = flat enc (List.replicate n x) := by
  have hs : z.cells.size = sz := by rw [← henc x, he, ← hz]; simp
  rw [List.take_of_length_le (by simp [size_madeCells])]
  apply List.ext_getElem?
  intro i
  by_cases hi : i < n * sz
  · have hm : i % sz < sz := Nat.mod_lt _ hsz
    have hd : i / sz < n := by
      rw [Nat.div_lt_iff_lt_mul hsz]
      exact hi
    obtain ⟨v, hv⟩ : ∃ v, (enc x)[i % sz]? = some v := ⟨_, List.getElem?_eq_getElem (by rw [henc]; exact hm)⟩
    have h1 := flat_get henc (l := List.replicate n x) (i := i / sz) (off := i % sz) (x := x) (by simp [hd]) hv
    rw [show i / sz * sz + i % sz = i by rw [Nat.mul_comm]; exact Nat.div_add_mod i sz] at h1
    rw [h1]
    rw [he, ← hz] at hv
    have h2 : i % z.cells.size < z.cells.size := by rw [hs]; exact hm
    have h3 : z.cells[i % sz]? = some v := by simpa using hv
    simp only [madeCells, Array.toList_map, Array.toList_range]
    rw [List.getElem?_map, List.getElem?_range hi, Option.map_some, hs]
    rw [getElem!_def, h3]
  · have h1 : (flat enc (List.replicate n x)).length = n * sz := by rw [flat_length henc, List.length_replicate]
    rw [List.getElem?_eq_none (by rw [Array.length_toList, size_madeCells]; omega), List.getElem?_eq_none (by omega)]
section
variable {P : Program} {N : Nat} {l : List (Nat × Value)} {C : World → Prop} {d : Option Tmp} {T : TypeId} {pos : String} {af : Array Edge} {g : Option (Nat × Bool)}
/-- make([]T, n) -/
theorem op_make {α : Type} (enc : α → List Value) (x0 : α) {t e sz by_ : Nat} {z : Value} {zs : List Value} {x y : Operand} {kl kc : IntKind} {n : Nat} {m m' : Int} {w0 w : World} {M : Nat → Prop} {H : List It} [ht : TSl P t e] [hi : TIf P e z zs sz by_]
    (hx : ev l x = some (.int kl m)) (hy : ev l y = some (.int kc m')) (hm : m = (n : Int)) (hm' : m' = (n : Int)) (hc : n ≤ maxLen) (hb : by_ * n ≤ 140737488355328) (henc : ∀ x, (enc x).length = sz) (he : enc x0 = zs) (hsz : 0 < sz) (hH : HS w0 M H w) :
    Op1 P N l ⟨d, .makeSlice t x y, T, pos, af, g⟩ w (fun v w' => ∃ o, v = .slice o n n ∧ HS w0 M (own e sz o n n (flat enc (List.replicate n x0)) :: H) w') := by
  subst hm; subst hm'
  have := op_makeSlice (P := P) (N := N) (l := l) (d := d) (T := T) (pos := pos) (af := af) (g := g) (t := t) (e := e) hx hy (Nat.le_refl n) hc hb hH
  rw [made_flatN henc hi.zc he hsz] at this
  exact this
theorem ex_shl {t ty : TypeId} {x y : Operand} {k k2 : IntKind} {m n v : Int} (hx : ev l x = some (.int k m)) (hy : ev l y = some (.int k2 n)) (hn : 0 ≤ n) (hv : shlK k m n = v) : Ex P N l C ⟨d, .binOp .shl t x y ty, T, pos, af, g⟩ (.int k v) := by
  intro a w hA _
  subst hv
  simp only [execOp, hA.ev hx, hA.ev hy, eqGuard_at_int, binOp_shl]
  simp [Op.shift, shlK, show ¬ n < 0 by omega]
theorem ex_or {t ty : TypeId} {x y : Operand} {k : IntKind} {m n v : Int} (hx : ev l x = some (.int k m)) (hy : ev l y = some (.int k n)) (hv : orK k m n = v) : Ex P N l C ⟨d, .binOp .or t x y ty, T, pos, af, g⟩ (.int k v) := by
  intro a w hA _
  subst hv
  simp only [execOp, hA.ev hx, hA.ev hy, eqGuard_at_int, binOp_or]
  simp [Op.intBits, orK]
/-- a struct literal with some of its fields, each of one cell -/
theorem ex_build_p {t sz by_ : Nat} {z : Value} {zs : List Value} {fl : List (Nat × Nat)} {ps : Array (Nat × Operand)} {vs : List Value} (cs : Array Value) [h : TSt P t fl] [hi : TIf P t z zs sz by_]
    (hv : evL l (ps.toList.map (·.2)) = some vs) (hsz : ∀ p ∈ fl, ∃ i, P.info? p.1 = some i ∧ i.size = 1) (hf : Instr.fill ((fl.map (fun p => (p.2, 1)))[·]?) zs.toArray ((ps.toList.map (·.1)).zip vs) = some cs) :
    Ex P N l C ⟨d, .build t ps, T, pos, af, g⟩ (.agg cs) := by
  have hrun : ∀ (fl : List (Nat × Nat)) (w : World), (∀ p ∈ fl, ∃ i, P.info? p.1 = some i ∧ i.size = 1) → (fl.mapM (fun p => do pure (p.2, ← sizeOf p.1)) : Sem (List (Nat × Nat))).run P w = .ok (fl.map (fun p => (p.2, 1))) w := by
    intro fl w
    induction fl with
    | nil => intro _; simp
    | cons p fl ih =>
      intro hp
      obtain ⟨i, hi1, hi2⟩ := hp p (by simp)
      have := ih fun q hq => hp q (by simp [hq])
      simp only [List.mapM_cons, Sem.run_bind, sizeOf, typeInfo, run_program, Result.andThen_ok, hi1, Sem.run_pure, hi2] at this ⊢
      rw [this]
      simp
  have hzc : z.cells = zs.toArray := by apply Array.ext'; simpa using hi.zc
  exact ex_build (szs := fl.map (fun p => (p.2, 1))) (fun w => hrun fl w hsz) hv (by rw [hzc]; exact hf)
/-- a pair is set -/
theorem op_setP {m r : Int} {t by_ i Tb n cap : Nat} {o : Option Addr} {z : Value} {zs : List Value} {x y : Operand} {li : List (Int × Int)} {w0 w : World} {M : Nat → Prop} {H H' : List It} [hi : TIf P t z zs 2 by_]
    (hx : ev l x = some (.pointer (some (sat o (i * 2))))) (hy : ev l y = some (.agg #[.int .i64 m, .int .i64 r])) (hH : HS w0 M H w) (hr : Rp H (own Tb 2 o n cap (flat encP li)) (own Tb 2 o n cap (flat encP (li.set i (m, r)))) H') (hj : i < li.length) :
    Op1 P N l ⟨d, .store t x y, T, pos, af, g⟩ w (fun _ w' => HS w0 M H' w') :=
  op_store_own (hi := hi) hx hy hH hr (vs := [.int .i64 m, .int .i64 r]) rfl rfl rfl (by omega) (by rw [flat_length encP_len]; omega) (by
    have := flat_put encP_len (l := li) (i := i) (x := li[i]) (y := (m, r)) (off := 0) (vs := encP (m, r)) (List.getElem?_eq_getElem hj) (by simp [put, encP]) (by simp [encP])
    rw [Nat.add_zero] at this
    exact this)
theorem op_setP0 {m a r : Int} {t by_ i Tb n cap : Nat} {o : Option Addr} {z : Value} {zs : List Value} {x y : Operand} {li : List (Int × Int)} {w0 w : World} {M : Nat → Prop} {H H' : List It} [hi : TIf P t z zs 1 by_]
    (hx : ev l x = some (.pointer (some (sat o (i * 2 + 0))))) (hy : ev l y = some (.int .i64 m)) (hH : HS w0 M H w) (hj : li[i]? = some (a, r)) (hr : Rp H (own Tb 2 o n cap (flat encP li)) (own Tb 2 o n cap (flat encP (li.set i (m, r)))) H') :
    Op1 P N l ⟨d, .store t x y, T, pos, af, g⟩ w (fun _ w' => HS w0 M H' w') :=
  have hlt := (List.getElem?_eq_some_iff.1 hj).1
  op_store_own1 (hi := hi) hx hy rfl hH hr (by rw [flat_length encP_len]; omega) (flat_put encP_len (off := 0) (vs := [.int .i64 m]) hj rfl (by simp))
theorem op_setP1 {m a r : Int} {t by_ i Tb n cap : Nat} {o : Option Addr} {z : Value} {zs : List Value} {x y : Operand} {li : List (Int × Int)} {w0 w : World} {M : Nat → Prop} {H H' : List It} [hi : TIf P t z zs 1 by_]
    (hx : ev l x = some (.pointer (some (sat o (i * 2 + 1))))) (hy : ev l y = some (.int .i64 m)) (hH : HS w0 M H w) (hj : li[i]? = some (a, r)) (hr : Rp H (own Tb 2 o n cap (flat encP li)) (own Tb 2 o n cap (flat encP (li.set i (a, m)))) H') :
    Op1 P N l ⟨d, .store t x y, T, pos, af, g⟩ w (fun _ w' => HS w0 M H' w') :=
  have hlt := (List.getElem?_eq_some_iff.1 hj).1
  op_store_own1 (hi := hi) hx hy rfl hH hr (by rw [flat_length encP_len]; omega) (flat_put encP_len (off := 1) (vs := [.int .i64 m]) hj rfl (by simp))
end
end Go.Fw
