/-
  More of the frame: slices of slices; many parts as one; copy; bits; bools. Conditions: none.
-/
import Derived.Test.YtejpcidfigmnkaaFw7
import Derived.Laws.CopyRow
import Derived.Laws.Small
import Derived.Scope
namespace Go.Fw
open Go Go.RowKit
set_option linter.unusedVariables false

def encB (b : Bool) : List Value := [.bool b]
theorem encB_len (b : Bool) : (encB b).length = 1 := rfl
/-- a slice as a value: its head, its length, its room -/
abbrev Sd := Option Addr × Nat × Nat
def Sd.v (d : Sd) : Value := .slice d.1 d.2.1 d.2.2
def encS (d : Sd) : List Value := [.slice d.1 d.2.1 d.2.2]
theorem encS_len (d : Sd) : (encS d).length = 1 := rfl
/-- the slices of a slice, as they can be read -/
def RdR {α : Type} (enc : α → List Value) (w : World) (ds : List Sd) (rows : List (List α)) : Prop :=
  ds.length = rows.length ∧ ∀ (i : Nat) (d : Sd) (r : List α), ds[i]? = some d → rows[i]? = some r → d.2.1 = r.length ∧ Rd w d.1 (flat enc r)
theorem HS.rdR {α : Type} {enc : α → List Value} {w0 w : World} {M : Nat → Prop} {H : List It} {ds : List Sd} {rows : List (List α)} (h : HS w0 M H w) (hr : RdR enc w0 ds rows) (hM : M = noM) : RdR enc w ds rows := by
  subst hM
  exact ⟨hr.1, fun i d r hd hrw => ⟨(hr.2 i d r hd hrw).1, h.rd (hr.2 i d r hd hrw).2 id⟩⟩
theorem RdR.at {α : Type} {enc : α → List Value} {w : World} {ds : List Sd} {rows : List (List α)} (h : RdR enc w ds rows) {i : Nat} {r : List α} (hr : rows[i]? = some r) :
    ∃ o c, ds[i]? = some (o, r.length, c) ∧ Rd w o (flat enc r) := by
  have hlt := (List.getElem?_eq_some_iff.1 hr).1
  obtain ⟨d, hd⟩ : ∃ d, ds[i]? = some d := ⟨_, List.getElem?_eq_getElem (by rw [h.1]; exact hlt)⟩
  obtain ⟨h1, h2⟩ := h.2 i d r hd hr
  obtain ⟨o, n, c⟩ := d
  dsimp only at h1 h2
  subst h1
  exact ⟨o, c, hd, h2⟩

theorem flatS_get {ds : List Sd} {i n c : Nat} {o : Option Addr} (h : ds[i]? = some (o, n, c)) : (flat encS ds)[i * 1]? = some (.slice o n c) := flat_get0 encS_len h rfl
theorem flatI_get {li : List Int} {i : Nat} {z : Int} (h : li[i]? = some z) : (flat encI li)[i * 1]? = some (.int .i64 z) := flat_get0 encI_len h rfl
theorem flatB_get {li : List Bool} {i : Nat} {z : Bool} (h : li[i]? = some z) : (flat encB li)[i * 1]? = some (.bool z) := flat_get0 encB_len h rfl
def andK (k : IntKind) (m n : Int) : Int := k.wrap ((BitVec.ofInt k.bits m &&& BitVec.ofInt k.bits n).toNat)
def shrK (k : IntKind) (m n : Int) : Int := m.fdiv (2 ^ (min n.toNat k.bits))

theorem HS.moreM {w0 w : World} {M M' : Nat → Prop} {H : List It} (h : HS w0 M H w) (hM : ∀ b, M b → M' b) : HS w0 M' H w := by
  obtain ⟨hk, F, hF, ho⟩ := h
  exact ⟨⟨hk.os, hk.tape, hk.output, hk.size, fun b hb hn => hk.block b hb fun h => hn (hM b h)⟩, F, hF, fun b hb => (ho b hb).imp id (hM b)⟩
/-- what a call makes that leaves all as it was -/
theorem HS.join {w0 w w' : World} {M : Nat → Prop} {H H' : List It} (h : HS w0 M H w) (h' : HS w noM H' w') : HS w0 M (H' ++ H) w' := by
  obtain ⟨Mc, h1, h2, h3⟩ := HS.frame (Hc := []) (Hf := H) h
  exact h3 w' H' (h'.moreM fun b hb => hb.elim)

/-! ## many parts as one -/
def all (L : List It) : It where
  sat w F := Hp w L F
  loc := fun h he => h.loc he
  lt := fun h b hb => h.lt b hb
  ext := fun h he => h.ext he
theorem HS.open_ {w0 w : World} {M : Nat → Prop} {L H : List It} (h : HS w0 M (all L :: H) w) : HS w0 M (L ++ H) w := by
  obtain ⟨hk, F, ⟨F1, F2, hF, hd, h1, h2⟩, ho⟩ := h
  exact ⟨hk, _, Hp.mk_append hd h1 h2, fun b hb => ho b ((hF b).2 hb)⟩
theorem HS.shut {w0 w : World} {M : Nat → Prop} {L H : List It} (h : HS w0 M (L ++ H) w) : HS w0 M (all L :: H) w := by
  obtain ⟨hk, F, hF, ho⟩ := h
  obtain ⟨F1, F2, hG, hd, h1, h2⟩ := hF.append
  exact ⟨hk, F, ⟨F1, F2, hG, hd, h1, h2⟩, ho⟩
theorem HS.openAt {w0 w : World} {M : Nat → Prop} {L H : List It} {i : Nat} {x : It} (h : HS w0 M (all L :: H) w) (hi : L[i]? = some x) : HS w0 M (x :: all (L.eraseIdx i) :: H) w := by
  have h1 := h.open_.perm ((perm_pick0 i hi).append_right H)
  have h2 : HS w0 M (L.eraseIdx i ++ (x :: H)) w := h1.perm List.perm_middle.symm
  exact h2.shut.perm (.swap _ _ _)
theorem eraseIdx_set_perm {x : It} : ∀ {L : List It} {i : Nat}, i < L.length → (x :: L.eraseIdx i).Perm (L.set i x)
  | [], i, h => by simp at h
  | y :: L, 0, h => .refl _
  | y :: L, i + 1, h => (List.Perm.swap y x _).trans ((eraseIdx_set_perm (L := L) (i := i) (by simpa using h)).cons y)
theorem HS.shutAt {w0 w : World} {M : Nat → Prop} {L H : List It} {i : Nat} {x : It} (h : HS w0 M (x :: all (L.eraseIdx i) :: H) w) (hi : i < L.length) : HS w0 M (all (L.set i x) :: H) w := by
  have h1 : HS w0 M (all (L.eraseIdx i) :: x :: H) w := h.perm (.swap _ _ _)
  have h2 : HS w0 M (x :: (L.eraseIdx i ++ H)) w := h1.open_.perm List.perm_middle
  have h3 : HS w0 M (L.set i x ++ H) w := h2.perm ((eraseIdx_set_perm hi).append_right H)
  exact h3.shut
theorem HS.in_all {w0 w : World} {M : Nat → Prop} {L H : List It} {x : It} (h : HS w0 M H w) (hm : all L ∈ H) (hx : x ∈ L) : ∃ F, x.sat w F := by
  obtain ⟨R, p⟩ := mem_split hm
  exact ((h.perm p).open_).sat (List.mem_append_left _ hx)
theorem HS.nil_all {w0 w : World} {M : Nat → Prop} {H : List It} (h : HS w0 M H w) : HS w0 M (all [] :: H) w := HS.shut (L := []) h

theorem HS.pushA {w0 w : World} {M : Nat → Prop} {L H : List It} {x : It} (h : HS w0 M (x :: all L :: H) w) : HS w0 M (all (L ++ [x]) :: H) w := by
  have h1 : HS w0 M (all L :: x :: H) w := h.perm (.swap _ _ _)
  have h2 : HS w0 M (L ++ [x] ++ H) w := by simpa using h1.open_
  exact h2.shut

/-- slices of one's own, one beside the other -/
def owns {α : Type} (T sz : Nat) (enc : α → List Value) (ds : List Sd) (rows : List (List α)) : List It := List.zipWith (fun (d : Sd) r => own T sz d.1 d.2.1 d.2.2 (flat enc r)) ds rows
theorem owns_at {α : Type} {T sz : Nat} {enc : α → List Value} {ds : List Sd} {rows : List (List α)} {i : Nat} {d : Sd} {r : List α} (hd : ds[i]? = some d) (hr : rows[i]? = some r) : (owns T sz enc ds rows)[i]? = some (own T sz d.1 d.2.1 d.2.2 (flat enc r)) := by
  simp [owns, List.getElem?_zipWith, hd, hr]
theorem owns_set {α : Type} {T sz : Nat} {enc : α → List Value} : ∀ {ds : List Sd} {rows : List (List α)} {i : Nat} {d : Sd} {r : List α}, (owns T sz enc (ds.set i d) (rows.set i r)) = (owns T sz enc ds rows).set i (own T sz d.1 d.2.1 d.2.2 (flat enc r))
  | [], rows, i, d, r => by simp [owns]
  | e :: ds, [], i, d, r => by cases i <;> simp [owns]
  | e :: ds, s :: rows, 0, d, r => by simp [owns]
  | e :: ds, s :: rows, i + 1, d, r => by
    have := owns_set (T := T) (sz := sz) (enc := enc) (ds := ds) (rows := rows) (i := i) (d := d) (r := r)
    simp only [owns] at this
    simp [owns, this]
theorem owns_snoc {α : Type} {T sz : Nat} {enc : α → List Value} {ds : List Sd} {rows : List (List α)} (h : ds.length = rows.length) (d : Sd) (r : List α) : owns T sz enc (ds ++ [d]) (rows ++ [r]) = owns T sz enc ds rows ++ [own T sz d.1 d.2.1 d.2.2 (flat enc r)] := by
  simp [owns, List.zipWith_append h]
theorem owns_length {α : Type} {T sz : Nat} {enc : α → List Value} {ds : List Sd} {rows : List (List α)} (h : ds.length = rows.length) : (owns T sz enc ds rows).length = rows.length := by simp [owns, h]
theorem HS.owns_nil {α : Type} (T sz : Nat) (enc : α → List Value) {w0 w : World} {M : Nat → Prop} : ∀ (n : Nat) {H : List It}, HS w0 M H w → HS w0 M (all (owns T sz enc (List.replicate n (none, 0, 0)) (List.replicate n [])) :: H) w
  | 0, H, h => h.nil_all
  | n + 1, H, h => by
    have h1 := (HS.owns_nil T sz enc n h).open_
    have h2 := (h1.nil_own T sz)
    exact HS.shut (L := owns T sz enc (List.replicate (n + 1) (none, 0, 0)) (List.replicate (n + 1) [])) h2
/-- what is one's own can be read -/
theorem HS.owns_rd {α : Type} {T sz : Nat} {enc : α → List Value} {ds : List Sd} {rows : List (List α)} {w0 w : World} {M : Nat → Prop} {H : List It} (h : HS w0 M H w) (hm : all (owns T sz enc ds rows) ∈ H) {i : Nat} {d : Sd} {r : List α} (hd : ds[i]? = some d) (hr : rows[i]? = some r) :
    Rd w d.1 (flat enc r) ∧ (flat enc r).length = d.2.1 * sz := by
  obtain ⟨F, hF⟩ := h.in_all hm (List.mem_of_getElem? (owns_at (T := T) (sz := sz) (enc := enc) hd hr))
  exact ⟨Fw.own_rd hF, Fw.own_len hF⟩
theorem HS.owns_rdR {α : Type} {T sz : Nat} {enc : α → List Value} {ds : List Sd} {rows : List (List α)} {w0 w : World} {M : Nat → Prop} {H : List It} (h : HS w0 M H w) (hm : all (owns T sz enc ds rows) ∈ H) (hl : ds.length = rows.length) (henc : ∀ x, (enc x).length = sz) (hsz : 0 < sz) : RdR enc w ds rows := by
  refine ⟨hl, fun i d r hd hr => ?_⟩
  obtain ⟨h1, h2⟩ := h.owns_rd hm hd hr
  refine ⟨?_, h1⟩
  rw [flat_length henc] at h2
  exact (Nat.eq_of_mul_eq_mul_right hsz h2).symm
theorem flat_set1 {α : Type} {enc : α → List Value} (henc : ∀ x, (enc x).length = 1) {l : List α} {i : Nat} (hi : i < l.length) (y : α) : Fw.put (flat enc l) i (enc y) = flat enc (l.set i y) := by
  have := flat_put henc (l := l) (i := i) (x := l[i]) (y := y) (off := 0) (vs := enc y) (List.getElem?_eq_getElem hi) (by
    unfold put
    rw [List.take_zero, List.drop_of_length_le (by rw [henc, henc]; exact Nat.le_refl _)]
    simp) (by rw [henc]; exact Nat.le_refl _)
  simpa using this
theorem flat_replicate {α : Type} {enc : α → List Value} {z : Value} {x : α} (h : enc x = [z]) : ∀ n, List.replicate n z = flat enc (List.replicate n x)
  | 0 => rfl
  | n + 1 => by
    rw [List.replicate_succ, List.replicate_succ, flat_replicate h n]
    simp [flat, h]
theorem made_flat {α : Type} {enc : α → List Value} {z : Value} {x : α} (h : enc x = [z]) (hz : z.cells = #[z]) (n : Nat) : (madeCells z.cells (n * 1)).toList.take (n * 1) = flat enc (List.replicate n x) := by
  rw [madeCells_scalar z hz, ← flat_replicate h n]
  simp

section
variable {P : Program} {N : Nat} {l : List (Nat × Value)} {C : World → Prop} {d : Option Tmp} {T : TypeId} {pos : String} {af : Array Edge} {g : Option (Nat × Bool)}
/-- make([]T, n), of one cell each -/
theorem op_make1 {α : Type} (enc : α → List Value) (x0 : α) {t e by_ : Nat} {z : Value} {zs : List Value} {x y : Operand} {kl kc : IntKind} {n : Nat} {m m' : Int} {w0 w : World} {M : Nat → Prop} {H : List It} [ht : TSl P t e] [hi : TIf P e z zs 1 by_]
    (hx : ev l x = some (.int kl m)) (hy : ev l y = some (.int kc m')) (hm : m = (n : Int)) (hm' : m' = (n : Int)) (hc : n ≤ maxLen) (hb : by_ * n ≤ 140737488355328) (he : enc x0 = [z]) (hz : z.cells = #[z]) (hH : HS w0 M H w) :
    Op1 P N l ⟨d, .makeSlice t x y, T, pos, af, g⟩ w (fun v w' => ∃ o, v = .slice o n n ∧ HS w0 M (own e 1 o n n (flat enc (List.replicate n x0)) :: H) w') := by
  subst hm; subst hm'
  have := op_makeSlice (P := P) (N := N) (l := l) (d := d) (T := T) (pos := pos) (af := af) (g := g) (t := t) (e := e) hx hy (Nat.le_refl n) hc hb hH
  rw [made_flat he hz] at this
  exact this
theorem ex_and {t ty : TypeId} {x y : Operand} {k : IntKind} {m n v : Int} (hx : ev l x = some (.int k m)) (hy : ev l y = some (.int k n)) (hv : andK k m n = v) : Ex P N l C ⟨d, .binOp .and t x y ty, T, pos, af, g⟩ (.int k v) := by
  intro a w hA _
  subst hv
  simp only [execOp, hA.ev hx, hA.ev hy, eqGuard_at_int, binOp_and]
  simp [Op.intBits, andK]
theorem ex_shr {t ty : TypeId} {x y : Operand} {k k2 : IntKind} {m n v : Int} (hx : ev l x = some (.int k m)) (hy : ev l y = some (.int k2 n)) (hn : 0 ≤ n) (hv : shrK k m n = v) : Ex P N l C ⟨d, .binOp .shr t x y ty, T, pos, af, g⟩ (.int k v) := by
  intro a w hA _
  subst hv
  simp only [execOp, hA.ev hx, hA.ev hy, eqGuard_at_int, binOp_shr]
  simp [Op.shift, shrK, show ¬ n < 0 by omega]
theorem ex_addK {t ty : TypeId} {x y : Operand} {k : IntKind} {m n v : Int} (hx : ev l x = some (.int k m)) (hy : ev l y = some (.int k n)) (h : k.wrap (m + n) = v) : Ex P N l C ⟨d, .binOp .add t x y ty, T, pos, af, g⟩ (.int k v) := by
  intro a w hA _
  subst h
  simp only [execOp, hA.ev hx, hA.ev hy, eqGuard_at_int, binOp_add]
  simp [Op.intArith]
theorem ex_subK {t ty : TypeId} {x y : Operand} {k : IntKind} {m n v : Int} (hx : ev l x = some (.int k m)) (hy : ev l y = some (.int k n)) (h : k.wrap (m - n) = v) : Ex P N l C ⟨d, .binOp .sub t x y ty, T, pos, af, g⟩ (.int k v) := by
  intro a w hA _
  subst h
  simp only [execOp, hA.ev hx, hA.ev hy, eqGuard_at_int, binOp_sub]
  simp [Op.intArith]
theorem ex_mulK {t ty : TypeId} {x y : Operand} {k : IntKind} {m n v : Int} (hx : ev l x = some (.int k m)) (hy : ev l y = some (.int k n)) (h : k.wrap (m * n) = v) : Ex P N l C ⟨d, .binOp .mul t x y ty, T, pos, af, g⟩ (.int k v) := by
  intro a w hA _
  subst h
  simp only [execOp, hA.ev hx, hA.ev hy, eqGuard_at_int, binOp_mul]
  simp [Op.intArith]
theorem run_eqlB {t : TypeId} [h : TBo P t] (m n : Bool) (w : World) : (Op.equal t (.bool m) (.bool n)).run P w = .ok (m == n) w := by
  exact run_equal_bool w t m n h.eq
theorem ex_eqlB {t ty : TypeId} {x y : Operand} {m n : Bool} [h : TBo P t] (hx : ev l x = some (.bool m)) (hy : ev l y = some (.bool n)) : Ex P N l C ⟨d, .binOp .eql t x y ty, T, pos, af, g⟩ (.bool (m == n)) := by
  intro a w hA _
  simp [execOp, hA.ev hx, hA.ev hy, eqGuard_at_bool, binOp, run_eqlB]
theorem ex_neqB {t ty : TypeId} {x y : Operand} {m n : Bool} [h : TBo P t] (hx : ev l x = some (.bool m)) (hy : ev l y = some (.bool n)) : Ex P N l C ⟨d, .binOp .neq t x y ty, T, pos, af, g⟩ (.bool (m != n)) := by
  intro a w hA _
  simp [execOp, hA.ev hx, hA.ev hy, eqGuard_at_bool, binOp, run_eqlB]
  cases m <;> cases n <;> rfl

theorem cl_w {w0 : World} {M : Nat → Prop} {H : List It} {b j : Nat} {v : Value} (h : w0.cell? (bat b j) = some v) (hM : ¬ M b) : Cl (HS w0 M H) (bat b j) v := fun w hH => by
  have hb : b < w0.heap.size := World.block_lt_of_cell? w0 (bat b j) h
  rw [World.cell?_of_block (w := w0) (hH.1.block b hb hM)]
  exact h
theorem HS.cellw {w0 w : World} {M : Nat → Prop} {H : List It} {b j : Nat} {v : Value} (hH : HS w0 M H w) (h : w0.cell? (bat b j) = some v) (hM : ¬ M b) : w.cell? (bat b j) = some v := cl_w h hM w hH
theorem ng_normal {Q : Exit → Act → World → Prop} {a : Act} {w : World} (h : Q .normal a w) : Exit.noGoto Q .normal a w := h
theorem ng_ret {Q : Exit → Act → World → Prop} {a : Act} {w : World} (h : Q .ret a w) : Exit.noGoto Q .ret a w := h
/-- a store of one cell into an element of what is ours -/
theorem op_set1 {α : Type} {enc : α → List Value} {y0 : α} {t by_ j Tb n cap : Nat} {o : Option Addr} {z v : Value} {zs : List Value} {x y : Operand} {li : List α} {w0 w : World} {M : Nat → Prop} {H H' : List It} [hi : TIf P t z zs 1 by_]
    (hx : ev l x = some (.pointer (some (sat o j)))) (hy : ev l y = some v) (he : enc y0 = [v]) (h1 : v.oneCell' = true) (henc : ∀ x, (enc x).length = 1) (hH : HS w0 M H w) (hr : Rp H (own Tb 1 o n cap (flat enc li)) (own Tb 1 o n cap (flat enc (li.set j y0))) H') (hj : j < li.length) :
    Op1 P N l ⟨d, .store t x y, T, pos, af, g⟩ w (fun _ w' => HS w0 M H' w') :=
  op_store_own1 (hi := hi) hx hy h1 hH hr (by rw [flat_length henc]; omega) (by rw [← he]; exact flat_set1 henc hj y0)
theorem op_setI {m : Int} {t by_ j Tb n cap : Nat} {o : Option Addr} {z : Value} {zs : List Value} {x y : Operand} {li : List Int} {w0 w : World} {M : Nat → Prop} {H H' : List It} [hi : TIf P t z zs 1 by_]
    (hx : ev l x = some (.pointer (some (sat o j)))) (hy : ev l y = some (.int .i64 m)) (hH : HS w0 M H w) (hr : Rp H (own Tb 1 o n cap (flat encI li)) (own Tb 1 o n cap (flat encI (li.set j m))) H') (hj : j < li.length) :
    Op1 P N l ⟨d, .store t x y, T, pos, af, g⟩ w (fun _ w' => HS w0 M H' w') := op_set1 (hi := hi) (y0 := m) hx hy rfl rfl encI_len hH hr hj
theorem op_setB {m : Bool} {t by_ j Tb n cap : Nat} {o : Option Addr} {z : Value} {zs : List Value} {x y : Operand} {li : List Bool} {w0 w : World} {M : Nat → Prop} {H H' : List It} [hi : TIf P t z zs 1 by_]
    (hx : ev l x = some (.pointer (some (sat o j)))) (hy : ev l y = some (.bool m)) (hH : HS w0 M H w) (hr : Rp H (own Tb 1 o n cap (flat encB li)) (own Tb 1 o n cap (flat encB (li.set j m))) H') (hj : j < li.length) :
    Op1 P N l ⟨d, .store t x y, T, pos, af, g⟩ w (fun _ w' => HS w0 M H' w') := op_set1 (hi := hi) (y0 := m) hx hy rfl rfl encB_len hH hr hj
theorem op_setS {o1 : Option Addr} {n1 c1 : Nat} {t by_ j Tb n cap : Nat} {o : Option Addr} {z : Value} {zs : List Value} {x y : Operand} {li : List Sd} {w0 w : World} {M : Nat → Prop} {H H' : List It} [hi : TIf P t z zs 1 by_]
    (hx : ev l x = some (.pointer (some (sat o j)))) (hy : ev l y = some (.slice o1 n1 c1)) (hH : HS w0 M H w) (hr : Rp H (own Tb 1 o n cap (flat encS li)) (own Tb 1 o n cap (flat encS (li.set j (o1, n1, c1)))) H') (hj : j < li.length) :
    Op1 P N l ⟨d, .store t x y, T, pos, af, g⟩ w (fun _ w' => HS w0 M H' w') := op_set1 (hi := hi) (y0 := (o1, n1, c1)) hx hy rfl rfl encS_len hH hr hj

/-- copy into a part of what is ours, of one cell each -/
theorem op_copy {t e by_ n cap m nd cd cs k : Nat} {z : Value} {zs : List Value} {o od ox : Option Addr} {x y : Operand} {xs news : List Value} {ty : TypeId} {w0 w : World} {M : Nat → Prop} {H H' : List It} [ht : TSl P t e] [hi : TIf P e z zs 1 by_]
    (hx : ev l x = some (.slice od nd cd)) (hy : ev l y = some (.slice ox m cs)) (hH : HS w0 M H w) (hr : Rd w ox news) (hl : news.length = Nat.min m nd) (hod : 0 < news.length → od = subO o cap k 1 ∧ k < cap)
    (h1 : news.all (·.oneCell') = true) (hk : k + news.length ≤ xs.length) (hrp : Rp H (own e 1 o n cap xs) (own e 1 o n cap (put xs k news)) H') :
    Op1 P N l ⟨d, .call ⟨.builtin .copy, #[x, y], #[t, ty]⟩, T, pos, af, g⟩ w (fun v w' => v = .int .i64 (Nat.min m nd) ∧ HS w0 M H' w') := by
  intro a hA K Q hK
  obtain ⟨ti, h3, h4, h5, h6⟩ := hi.eq
  unfold Oper.wp
  rcases Nat.eq_zero_or_pos news.length with h0 | h0
  · have hn0 : Nat.min m nd = 0 := by omega
    obtain rfl : news = [] := List.length_eq_zero_iff.1 h0
    have hrun : (Builtin.copy_ #[t, ty] T #[.slice od nd cd, .slice ox m cs]).run P w = .ok (.int .i64 0) w := by
      have hl : ∀ (x : Addr), (loadCells x 0).run P w = .ok #[] w := fun x => by simpa using run_loadCells_list (P := P) w x [] (by simp)
      cases od <;> cases ox <;> simp [Builtin.copy_, run_underlying ht.eq, Builtin.lenOf, Builtin.firstCells, sizeOf, typeInfo, h3, h5, hn0, storeCells, hl, goInt]
    have hput : put xs k [] = xs := by simp [put]
    simp only [execOp, resolve, invoke, builtin, Sem.run_bind, Sem.run_pure, Result.andThen_ok, List.map_toArray, List.map_cons, List.map_nil, hA.ev hx, hA.ev hy, hrun, Oper.upon]
    refine hK _ _ ⟨by rw [hn0]; rfl, ?_⟩
    rw [hput] at hrp
    exact hH.conv hrp fun F hF => hF
  · obtain ⟨hod, hkc⟩ := hod h0
    obtain ⟨R, p, _⟩ := hrp.split
    obtain ⟨F, hF⟩ := hH.sat (p.symm.subset (List.mem_cons_self))
    rcases hF with ⟨rfl, rfl, rfl, rfl, _⟩ | ⟨b, spare, rfl, g2, g3, g4, g5, g6, g7⟩
    · simp at hk; omega
    have hod' : od = some ⟨b, k, none⟩ := by
      rw [hod]
      simp [subO, show cap ≠ k by omega, Addr.add]
      exact fun h => h.symm
    subst hod'
    obtain ⟨bx, offx, rfl⟩ := hr.1 h0
    have hload : (loadCells (⟨bx, offx, none⟩ : Addr) news.length).run P w = .ok news.toArray w := run_loadCells_list (P := P) w _ news (fun j v hj => by
      rw [add_eq_sat]; exact hr.2 j v hj)
    have hst := run_storeCells_at (P := P) b k e news 0 (xs ++ spare).toArray w g7 (by simp; omega) (fun x hx => List.all_eq_true.1 h1 x hx)
    simp only [Nat.add_zero] at hst
    have hput : put (xs ++ spare) k news = put xs k news ++ spare := by
      unfold put
      have e1 : k ≤ xs.length := by omega
      have e2 : k + news.length ≤ xs.length := by omega
      rw [List.take_append_of_le_length e1, List.drop_append_of_le_length e2]
      simp
    have hput' : (xs ++ spare).take k ++ news ++ (xs ++ spare).drop (k + news.length) = put xs k news ++ spare := hput
    have hrun : (Builtin.copy_ #[t, ty] T #[.slice (some ⟨b, k, none⟩) nd cd, .slice (some ⟨bx, offx, none⟩) m cs]).run P w = .ok (.int .i64 (Nat.min m nd)) (w.setRow b (put xs k news ++ spare).toArray) := by
      rw [hput'] at hst
      simp [Builtin.copy_, run_underlying ht.eq, Builtin.lenOf, Builtin.firstCells, sizeOf, typeInfo, h3, h5, ← hl, hload, hst, goInt]
    simp only [execOp, resolve, invoke, builtin, Sem.run_bind, Sem.run_pure, Result.andThen_ok, List.map_toArray, List.map_cons, List.map_nil, hA.ev hx, hA.ev hy, hrun, Oper.upon]
    refine hK _ _ ⟨rfl, hH.turn hrp fun F' hF' => ?_⟩
    rcases hF' with ⟨h0, _⟩ | ⟨b', spare', hb', q2, q3, q4, q5, q6, q7⟩
    · cases h0
    · obtain rfl : b = b' := by simpa using hb'
      have hsp : xs ++ spare = xs ++ spare' := by rw [g7] at q7; simpa using q7
      obtain rfl : spare = spare' := List.append_cancel_left hsp
      refine ⟨setRow_kp w b _ F' ((q2 b).2 rfl), F', .inr ⟨b, spare, rfl, q2, ?_, q4, q5, ?_, setRow_heap w b _ _ _ _ g7⟩, fun b hb => .inr hb⟩
      · rw [put_length (by omega)]; exact q3
      · rw [put_length (by omega)]; exact q6
end
/-- found by trial -/
theorem MEMT {α : Type _} {x : α} {l : List α} (h : x ∈ l := by repeat (first | exact List.Mem.head _ | apply List.Mem.tail)) : x ∈ l := h
theorem CATST {n : Nat} {vs xs : List Value} (h : Cats n vs xs := by repeat (first | exact Cats.nil | (apply Cats.c1; rfl) | apply Cats.c2 | apply Cats.c3 | apply Cats.c4)) : Cats n vs xs := h
/-- what an operation yields that turns nothing: found by trial -/
theorem EXT {P : Program} {N : Nat} {l : List (Nat × Value)} {C : World → Prop} {o : Oper} {v : Value} (h : Ex P N l C o v := by (first | (apply ex_move; rfl) | (apply ex_assign; rfl) | (apply ex_eql; rfl; rfl) | (apply ex_eqlB; rfl; rfl) | (apply ex_neq; rfl; rfl) | (apply ex_neqB; rfl; rfl) | (apply ex_lss; rfl; rfl) | (apply ex_leq; rfl; rfl) | (apply ex_gtr; rfl; rfl) | (apply ex_geq; rfl; rfl) | (apply ex_len_slice; rfl) | (apply ex_fieldAddr_sat; rfl; rfl) | (apply ex_fieldAddr_bat; rfl; rfl) | (apply ex_nilCheck; rfl) | (apply ex_extract; rfl; rfl) | (apply ex_not; rfl) | (apply ex_pick_t; rfl; rfl) | (apply ex_pick_f; rfl; rfl) | (apply ex_succ; rfl; rfl; omega) | (apply ex_add; rfl; rfl; unfold i64ok; omega) | (apply ex_pred; rfl; rfl; omega) | (apply ex_sub; rfl; rfl; unfold i64ok; omega) | (apply ex_indexAddr_nat; rfl; rfl; omega; first | assumption | exact hH.own_sp MEMT) | (apply ex_indexAddr; rfl; rfl; omega; omega; first | assumption | exact hH.own_sp MEMT) | (apply ex_load; rfl; apply cl_cb; exact MEMT; rfl) | (apply ex_load_st; rfl; rotate_left; apply cls_cb_all; exact MEMT; rfl) | (apply ex_lookupI_ok; rfl; rfl; exact MEMT) | (apply ex_lookupI; rfl; rfl; exact MEMT) | (apply ex_makeFunc; rfl; rfl) | (apply ex_build_full; rfl; rfl; rfl; rfl; rfl; (repeat (first | (intro _ h; exact absurd h (List.not_mem_nil)) | (refine List.forall_mem_cons.2 ⟨one_cell_of _ _, ?_⟩)))))) : Ex P N l C o v := h
end Go.Fw
