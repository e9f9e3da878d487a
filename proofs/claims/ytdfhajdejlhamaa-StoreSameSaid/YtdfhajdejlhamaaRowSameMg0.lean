/-
  A heap as a row of objects, and the free runs between them (plain law). Conditions: none.
  What a heap's memory says of its objects (plain law). Conditions: none.
  What a heap's memory says when an object comes, goes, or a field is set (plain law). Conditions: none.
  What the laws of room and of fit ask (plain law). Conditions: none.
  A collector's state, and what its calls do (plain law). Conditions: none.
  What a collector's calls keep, and what they do to colours (plain law). Conditions: none.
  What a collector keeps, how many steps it takes (plain law). Conditions: none.
  A field is written: what it does to what is kept (plain law). Conditions: none.
  What a collector frees, and what it never frees (plain law). Conditions: none.
  A store as a plain state: a collector, and how many cycles have ended. Conditions: none.
  Texts in words, read back (plain law). Conditions: none.
  A small frame for walks: what the slots of a frame hold, as a list of pairs; what memory holds, as a list of parts that lie apart; one rule an operation.
  It names no program. Conditions: none.
-/
import Derived.WalkKit
import Derived.OrdersHeld
import Derived.Maps.AppendAt
namespace Go.Proofs.Ytdfhajdejlhamaa
set_option linter.unusedVariables false
structure Ob where
  a : Nat
  kind : Nat
  fs : List Int
def Ob.fin (o : Ob) : Nat := o.a + 1 + o.fs.length
/-- from p on the objects lie one behind the other, within N cells -/
def Lay (N : Nat) : Nat → List Ob → Prop
  | p, [] => p ≤ N
  | p, o :: L => p ≤ o.a ∧ Lay N o.fin L
def gap1 (p e : Nat) : List (Int × Int) := if p < e then [((p : Int), ((e - p : Nat) : Int))] else []
/-- the free runs -/
def gaps (N : Nat) : Nat → List Ob → List (Int × Int)
  | p, [] => gap1 p N
  | p, o :: L => gap1 p o.a ++ gaps N o.fin L
theorem gaps_cons (N p : Nat) (o : Ob) (L : List Ob) : gaps N p (o :: L) = gap1 p o.a ++ gaps N o.fin L := rfl
theorem gap1_pos {p e : Nat} (h : p < e) : gap1 p e = [((p : Int), ((e - p : Nat) : Int))] := if_pos h
theorem gap1_nil {p e : Nat} (h : ¬ p < e) : gap1 p e = [] := if_neg h
/-- the first that is great enough -/
def ff (size : Nat) : List (Int × Int) → Option Nat
  | [] => none
  | r :: l => if (size : Int) < r.2 then some 0 else (ff size l).map (· + 1)
/-- an object more, at the least place -/
def insA (N size : Nat) (new : Nat → Ob) : Nat → List Ob → Option (Nat × List Ob)
  | p, [] => if size < N - p then some (p, [new p]) else none
  | p, o :: L => if size < o.a - p then some (p, new p :: o :: L) else (insA N size new o.fin L).map fun r => (r.1, o :: r.2)
/-- a run is cut -/
def cutR (fr : List (Int × Int)) (i : Nat) (at_ n size : Nat) : List (Int × Int) :=
  if n = size + 1 then fr.eraseIdx i else fr.set i ((at_ + size + 1 : Nat), ((n - (size + 1) : Nat) : Int))
section
variable {N : Nat}
theorem Lay.le : ∀ {L : List Ob} {p : Nat}, Lay N p L → p ≤ N
  | [], _, h => h
  | o :: L, p, h => by
    have h1 := h.1
    have h2 := Lay.le h.2
    unfold Ob.fin at h2
    omega
theorem Lay.mono : ∀ {L : List Ob} {p q : Nat}, Lay N p L → q ≤ p → Lay N q L
  | [], _, _, h, hq => Nat.le_trans hq h
  | o :: L, p, q, h, hq => ⟨Nat.le_trans hq h.1, h.2⟩
theorem Lay.append : ∀ {A B : List Ob} {p : Nat}, Lay N p (A ++ B) ↔ ∃ q, Lay q p A ∧ Lay N q B ∧ ∀ q', Lay q' p A → q ≤ q'
  | [], B, p => ⟨fun h => ⟨p, Nat.le_refl _, h, fun q' h => h⟩, fun ⟨q, h1, h2, _⟩ => h2.mono h1⟩
  | a :: A, B, p => by
    constructor
    · intro h
      obtain ⟨q, h1, h2, h3⟩ := Lay.append.1 h.2
      exact ⟨q, ⟨h.1, h1⟩, h2, fun q' h' => h3 q' h'.2⟩
    · rintro ⟨q, h1, h2, h3⟩
      exact ⟨h1.1, Lay.append.2 ⟨q, h1.2, h2, fun q' h' => h3 q' ⟨h1.1, h'⟩⟩⟩
/-- where the objects end -/
def endA : Nat → List Ob → Nat
  | p, [] => p
  | _, o :: L => endA o.fin L
/-- the free runs ahead of objects -/
def gin : Nat → List Ob → List (Int × Int)
  | _, [] => []
  | p, o :: L => gap1 p o.a ++ gin o.fin L
def nxt (N : Nat) : List Ob → Nat
  | [] => N
  | o :: _ => o.a
def gtl (N : Nat) : List Ob → List (Int × Int)
  | [] => []
  | o :: L => gaps N o.fin L
theorem gaps_head (p : Nat) (L : List Ob) : gaps N p L = gap1 p (nxt N L) ++ gtl N L := by
  cases L <;> simp [gaps, nxt, gtl]
theorem gaps_append : ∀ (A B : List Ob) (p : Nat), gaps N p (A ++ B) = gin p A ++ gaps N (endA p A) B
  | [], B, p => by simp [gin, endA]
  | a :: A, B, p => by simp [gaps, gin, endA, gaps_append A B]
theorem Lay.split : ∀ {A B : List Ob} {p : Nat}, Lay N p (A ++ B) → Lay (endA p A) p A ∧ Lay N (endA p A) B
  | [], B, p, h => ⟨Nat.le_refl _, h⟩
  | a :: A, B, p, h => by
    obtain ⟨h1, h2⟩ := Lay.split h.2
    exact ⟨⟨h.1, h1⟩, h2⟩
theorem Lay.join : ∀ {A B : List Ob} {p : Nat}, Lay (endA p A) p A → Lay N (endA p A) B → Lay N p (A ++ B)
  | [], B, p, _, h => h
  | a :: A, B, p, h, h' => ⟨h.1, Lay.join h.2 h'⟩
theorem nxt_le {L : List Ob} {p : Nat} (h : Lay N p L) : p ≤ nxt N L ∧ nxt N L ≤ N := by
  cases L with
  | nil => exact ⟨h, Nat.le_refl _⟩
  | cons o L =>
    refine ⟨h.1, ?_⟩
    have := h.2.le
    unfold Ob.fin at this
    show o.a ≤ N
    omega
/-- what lies in the runs: they rise, and have cells -/
theorem gaps_mem : ∀ {L : List Ob} {p : Nat}, Lay N p L → ∀ r ∈ gaps N p L, (p : Int) ≤ r.1 ∧ 0 < r.2 ∧ r.1 + r.2 ≤ N
  | [], p, h, r, hr => by
    unfold gaps gap1 at hr
    split at hr
    · obtain rfl : r = ((p : Int), ((N - p : Nat) : Int)) := by simpa using hr
      exact ⟨Int.le_refl _, by dsimp only; omega, by dsimp only; omega⟩
    · simp at hr
  | o :: L, p, h, r, hr => by
    have h2 := h.2.le
    unfold gaps at hr
    rcases List.mem_append.1 hr with hr | hr
    · unfold gap1 at hr
      split at hr
      · obtain rfl : r = ((p : Int), ((o.a - p : Nat) : Int)) := by simpa using hr
        unfold Ob.fin at h2
        exact ⟨Int.le_refl _, by dsimp only; omega, by dsimp only; omega⟩
      · simp at hr
    · have h3 := gaps_mem h.2 r hr
      have h1 := h.1
      unfold Ob.fin at h3
      exact ⟨by omega, h3.2⟩
theorem gin_mem : ∀ {A : List Ob} {p : Nat}, Lay (endA p A) p A → ∀ r ∈ gin p A, (p : Int) ≤ r.1 ∧ 0 < r.2 ∧ r.1 + r.2 < endA p A
  | [], p, h, r, hr => by simp [gin] at hr
  | o :: L, p, h, r, hr => by
    have h2 := h.2.le
    have h1 := h.1
    unfold gin at hr
    show (p : Int) ≤ r.1 ∧ 0 < r.2 ∧ r.1 + r.2 < endA o.fin L
    rcases List.mem_append.1 hr with hr | hr
    · unfold gap1 at hr
      split at hr
      · obtain rfl : r = ((p : Int), ((o.a - p : Nat) : Int)) := by simpa using hr
        have h3 : endA p (o :: L) = endA o.fin L := rfl
        rw [h3] at h2
        unfold Ob.fin at h2 ⊢
        exact ⟨Int.le_refl _, by dsimp only; omega, by dsimp only; omega⟩
      · simp at hr
    · have h3 := gin_mem h.2 r hr
      unfold Ob.fin at h3 ⊢
      exact ⟨by omega, h3.2⟩
/-- an object finds room, or there is none -/
theorem alloc_law {size : Nat} {new : Nat → Ob} (hnew : ∀ p, (new p).a = p ∧ (new p).fs.length = size) : ∀ {L : List Ob} {p : Nat}, Lay N p L →
    (ff size (gaps N p L) = none ∧ insA N size new p L = none) ∨
    ∃ (i at_ n : Nat) (A B : List Ob), ff size (gaps N p L) = some i ∧ (gaps N p L)[i]? = some ((at_ : Int), (n : Int)) ∧ size < n ∧ L = A ++ B ∧ insA N size new p L = some (at_, A ++ new at_ :: B) ∧
      gaps N p (A ++ new at_ :: B) = cutR (gaps N p L) i at_ n size ∧ Lay N p (A ++ new at_ :: B) ∧ at_ = endA p A ∧ at_ + 1 + size ≤ nxt N B := by
  intro L
  induction L with
  | nil =>
    intro p h
    have h' : p ≤ N := h
    by_cases hf : size < N - p
    · right
      have hg : gaps N p [] = [((p : Int), ((N - p : Nat) : Int))] := gap1_pos (by omega)
      refine ⟨0, p, N - p, [], [], by rw [hg]; simp [ff]; omega, by rw [hg]; rfl, hf, rfl, by simp [insA, hf], ?_, ?_, rfl, by show p + 1 + size ≤ N; omega⟩
      · rw [hg]
        show gaps N p [new p] = _
        simp only [gaps, (hnew p).1, Ob.fin, (hnew p).2, gap1_nil (show ¬ p < p by omega), List.nil_append, cutR]
        split
        · rw [gap1_nil (by omega)]; rfl
        · rw [gap1_pos (by omega)]
          simp only [List.set_cons_zero]
          congr 2
          · congr 1; omega
          · congr 1; omega
      · refine ⟨by rw [(hnew p).1]; exact Nat.le_refl _, ?_⟩
        show Ob.fin (new p) ≤ N
        unfold Ob.fin
        rw [(hnew p).1, (hnew p).2]
        omega
    · left
      refine ⟨?_, by simp [insA, hf]⟩
      unfold gaps gap1
      split
      · simp [ff]; omega
      · rfl
  | cons o L ih =>
    intro p h
    by_cases hf : size < o.a - p
    · right
      have hg : gaps N p (o :: L) = ((p : Int), ((o.a - p : Nat) : Int)) :: gaps N o.fin L := by rw [gaps_cons, gap1_pos (by omega)]; rfl
      refine ⟨0, p, o.a - p, [], o :: L, by rw [hg]; simp [ff]; omega, by rw [hg]; rfl, hf, rfl, by simp [insA, hf], ?_, ?_, rfl, by show p + 1 + size ≤ o.a; omega⟩
      · rw [hg]
        show gaps N p (new p :: o :: L) = _
        have e1 : (new p).fin = p + 1 + size := by unfold Ob.fin; rw [(hnew p).1, (hnew p).2]
        have e2 : gaps N p (new p :: o :: L) = gap1 p (new p).a ++ (gap1 (new p).fin o.a ++ gaps N o.fin L) := rfl
        rw [e2, e1, (hnew p).1, gap1_nil (show ¬ p < p by omega), List.nil_append]
        unfold cutR
        split
        · rw [gap1_nil (by omega)]; rfl
        · rw [gap1_pos (by omega)]
          simp only [List.set_cons_zero, List.cons_append, List.nil_append]
          congr 2
          · congr 1; omega
          · congr 1; omega
      · refine ⟨by rw [(hnew p).1]; exact Nat.le_refl _, ?_, h.2⟩
        unfold Ob.fin
        rw [(hnew p).1, (hnew p).2]
        omega
    · have hins : insA N size new p (o :: L) = (insA N size new o.fin L).map fun r => (r.1, o :: r.2) := by simp [insA, hf]
      rcases ih h.2 with ⟨h1, h2⟩ | ⟨i, at_, n, A, B, h1, h2, h3, h4, h5, h6, h7, h8, h9⟩
      · left
        refine ⟨?_, by rw [hins, h2]; rfl⟩
        unfold gaps gap1
        split
        · simp only [List.cons_append, List.nil_append, ff, h1, Option.map_none]
          rw [if_neg (by omega)]
        · simpa using h1
      · right
        have hgo : gaps N p ((o :: A) ++ new at_ :: B) = gap1 p o.a ++ gaps N o.fin (A ++ new at_ :: B) := rfl
        have hlay : Lay N p ((o :: A) ++ new at_ :: B) := ⟨h.1, h7⟩
        by_cases hp : p < o.a
        · have hg : gaps N p (o :: L) = ((p : Int), ((o.a - p : Nat) : Int)) :: gaps N o.fin L := by rw [gaps_cons, gap1_pos hp]; rfl
          refine ⟨i + 1, at_, n, o :: A, B, ?_, by rw [hg]; simpa using h2, h3, by rw [h4]; rfl, by rw [hins, h5]; rfl, ?_, hlay, h8, h9⟩
          · rw [hg]
            simp only [ff, h1, Option.map_some]
            rw [if_neg (by omega)]
          · rw [hgo, gap1_pos hp, h6, hg]
            unfold cutR
            split <;> simp
        · have hg : gaps N p (o :: L) = gaps N o.fin L := by rw [gaps_cons, gap1_nil hp]; rfl
          refine ⟨i, at_, n, o :: A, B, by rw [hg]; exact h1, by rw [hg]; exact h2, h3, by rw [h4]; rfl, by rw [hins, h5]; rfl, ?_, hlay, h8, h9⟩
          rw [hgo, gap1_nil hp, h6, hg]
          rfl
/-- one that goes: its run, with what is free on either side -/
theorem free_law {A B : List Ob} {o : Ob} {p : Nat} (h : Lay N p (A ++ o :: B)) :
    gaps N p (A ++ o :: B) = (gin p A ++ gap1 (endA p A) o.a) ++ (gap1 o.fin (nxt N B) ++ gtl N B) ∧
    gaps N p (A ++ B) = gin p A ++ (((endA p A : Nat) : Int), ((nxt N B - endA p A : Nat) : Int)) :: gtl N B ∧ Lay N p (A ++ B) ∧ endA p A ≤ o.a ∧ o.fin ≤ nxt N B ∧ nxt N B ≤ N := by
  obtain ⟨h1, h2⟩ := h.split
  have h3 := nxt_le h2.2
  have hlt : endA p A < nxt N B := by
    have := h2.1
    have := h3.1
    unfold Ob.fin at this
    omega
  refine ⟨?_, ?_, Lay.join h1 (h2.2.mono (by have := h2.1; unfold Ob.fin; omega)), h2.1, h3.1, h3.2⟩
  · rw [gaps_append]
    show gin p A ++ (gap1 (endA p A) o.a ++ gaps N o.fin B) = _
    rw [gaps_head (N := N) o.fin B, List.append_assoc]
  · rw [gaps_append, gaps_head, gap1_pos hlt]
    rfl
end
end Go.Proofs.Ytdfhajdejlhamaa
namespace Go.Proofs.Ytdfhajdejlhamaa
set_option linter.unusedVariables false
def findA (L : List Ob) (i : Nat) : Option Ob := L.find? fun o => o.a == i
def hdA (L : List Ob) (i : Nat) : Int × Int := match findA L i with
  | some o => ((o.kind : Int), (o.fs.length : Int))
  | none => (0, 0)
structure Rep (N : Nat) (L : List Ob) (cs : List Int) (hs : List (Int × Int)) : Prop where
  n2 : 2 ≤ N ∧ N ≤ 65536
  cl : cs.length = N
  hl : hs.length = N
  lay : Lay N 1 L
  hd : ∀ i, i < N → hs[i]? = some (hdA L i)
  fd : ∀ o ∈ L, ∀ (j : Nat) (x : Int), o.fs[j]? = some x → cs[o.a + 1 + j]? = some x
  kd : ∀ o ∈ L, 1 ≤ o.kind ∧ o.fs.length ≤ 4096
/-- is an object there? -/
def isA (L : List Ob) (z : Int) : Bool := L.any fun o => decide ((o.a : Int) = z)
section
variable {N : Nat} {L : List Ob} {cs : List Int} {hs : List (Int × Int)}
theorem Lay.mem : ∀ {L : List Ob} {p : Nat}, Lay N p L → ∀ o ∈ L, p ≤ o.a ∧ o.fin ≤ N
  | o :: L, p, h, x, hx => by
    rcases List.mem_cons.1 hx with rfl | hx
    · exact ⟨h.1, h.2.le⟩
    · have := Lay.mem h.2 x hx
      have h1 := h.1
      unfold Ob.fin at this ⊢
      exact ⟨by omega, this.2⟩
theorem Lay.inj : ∀ {L : List Ob} {p : Nat}, Lay N p L → ∀ o ∈ L, ∀ o' ∈ L, o.a = o'.a → o = o'
  | x :: L, p, h, o, ho, o', ho', he => by
    rcases List.mem_cons.1 ho with h1 | h1
    · rcases List.mem_cons.1 ho' with h2 | h2
      · rw [h1, h2]
      · have := (h.2.mem o' h2).1
        rw [h1] at he
        unfold Ob.fin at this
        omega
    · rcases List.mem_cons.1 ho' with h2 | h2
      · have := (h.2.mem o h1).1
        rw [h2] at he
        unfold Ob.fin at this
        omega
      · exact Lay.inj h.2 o h1 o' h2 he
theorem findA_some {i : Nat} {o : Ob} (h : findA L i = some o) : o ∈ L ∧ o.a = i := by
  refine ⟨List.mem_of_find?_eq_some h, ?_⟩
  have := List.find?_some h
  simpa using this
theorem findA_mem {p : Nat} (hl : Lay N p L) {o : Ob} (h : o ∈ L) : findA L o.a = some o := by
  cases hf : findA L o.a with
  | none =>
    have := List.find?_eq_none.1 hf o h
    simp at this
  | some o' =>
    obtain ⟨h1, h2⟩ := findA_some hf
    rw [hl.inj o' h1 o h h2]
theorem isA_iff {z : Int} : isA L z = true ↔ ∃ o ∈ L, (o.a : Int) = z := by simp [isA]
theorem isA_find {i : Nat} : isA L (i : Int) = (findA L i).isSome := by
  cases hf : findA L i with
  | none =>
    rw [Option.isSome_none]
    cases h : isA L (i : Int) with
    | false => rfl
    | true =>
      obtain ⟨o, ho, he⟩ := isA_iff.1 h
      have := List.find?_eq_none.1 hf o ho
      simp at this
      omega
  | some o =>
    obtain ⟨h1, h2⟩ := findA_some hf
    rw [Option.isSome_some]
    exact isA_iff.2 ⟨o, h1, by omega⟩
theorem Rep.is_ (h : Rep N L cs hs) {i : Nat} (hi : i < N) : isA L (i : Int) = decide (0 < (hdA L i).1) := by
  rw [isA_find]
  unfold hdA
  cases hf : findA L i with
  | none => rfl
  | some o =>
    have := (h.kd o (findA_some hf).1).1
    rw [Option.isSome_some, eq_comm, decide_eq_true_iff]
    dsimp only
    omega
theorem Rep.out (h : Rep N L cs hs) {z : Int} (hz : z ≤ 0 ∨ (N : Int) ≤ z) : isA L z = false := by
  cases hi : isA L z with
  | false => rfl
  | true =>
    obtain ⟨o, ho, he⟩ := isA_iff.1 hi
    have := h.lay.mem o ho
    unfold Ob.fin at this
    omega
/-- the object at an address -/
def objA (L : List Ob) (z : Int) : Option Ob := L.find? fun o => decide ((o.a : Int) = z)
theorem objA_some {z : Int} {o : Ob} (h : objA L z = some o) : o ∈ L ∧ (o.a : Int) = z := by
  refine ⟨List.mem_of_find?_eq_some h, ?_⟩
  have := List.find?_some h
  simpa using this
theorem objA_none {z : Int} (h : objA L z = none) : isA L z = false := by
  cases hi : isA L z with
  | false => rfl
  | true =>
    obtain ⟨o, ho, he⟩ := isA_iff.1 hi
    have := List.find?_eq_none.1 h o ho
    simp [he] at this
theorem objA_is {z : Int} {o : Ob} (h : objA L z = some o) : isA L z = true := isA_iff.2 ⟨o, (objA_some h).1, (objA_some h).2⟩
theorem objA_mem {p : Nat} (hl : Lay N p L) {o : Ob} (h : o ∈ L) : objA L (o.a : Int) = some o := by
  cases hf : objA L (o.a : Int) with
  | none =>
    have := List.find?_eq_none.1 hf o h
    simp at this
  | some o' =>
    obtain ⟨h1, h2⟩ := objA_some hf
    rw [hl.inj o' h1 o h (by omega)]
def getA (L : List Ob) (z i : Int) : Int × Int := match objA L z with
  | none => (0, 7)
  | some o => if 0 ≤ i ∧ i < (o.fs.length : Int) then (o.fs.getD i.toNat 0, 0) else (0, 2)
/-- the next object's address -/
def nextA (L : List Ob) (z : Int) : Int := match L.find? fun o => decide (z ≤ (o.a : Int)) with
  | some o => o.a
  | none => 0
theorem next_first : ∀ {L : List Ob} {p : Nat}, Lay N p L → ∀ {z : Int} {o o' : Ob}, (L.find? fun o => decide (z ≤ (o.a : Int))) = some o → o' ∈ L → z ≤ (o'.a : Int) → o.a ≤ o'.a
  | x :: L, p, h, z, o, o', hf, ho', hz => by
    rw [List.find?_cons] at hf
    split at hf
    · obtain rfl := Option.some.inj hf
      rcases List.mem_cons.1 ho' with rfl | ho'
      · exact Nat.le_refl _
      · have := (h.2.mem o' ho').1
        unfold Ob.fin at this
        omega
    · rename_i hx
      rcases List.mem_cons.1 ho' with rfl | ho'
      · simp at hx
        omega
      · exact next_first h.2 hf ho' hz
theorem next_at {p : Nat} (hl : Lay N p L) {z : Int} {i : Nat} (hzi : z ≤ i) (hi : isA L (i : Int) = true) (hno : ∀ k : Nat, z ≤ k → k < i → isA L (k : Int) = false) : nextA L z = i := by
  obtain ⟨o', ho', he⟩ := isA_iff.1 hi
  unfold nextA
  cases hf : L.find? fun o => decide (z ≤ (o.a : Int)) with
  | none =>
    have := List.find?_eq_none.1 hf o' ho'
    simp at this
    omega
  | some o =>
    have h1 := next_first hl hf ho' (by omega)
    have h2 := List.mem_of_find?_eq_some hf
    have h3 := List.find?_some hf
    simp only [decide_eq_true_eq] at h3
    dsimp only
    rcases Nat.lt_or_ge o.a i with h | h
    · have := hno o.a h3 h
      rw [isA_iff.2 ⟨o, h2, rfl⟩] at this
      cases this
    · omega
theorem next_none {z : Int} (hno : ∀ o ∈ L, ¬ z ≤ (o.a : Int)) : nextA L z = 0 := by
  unfold nextA
  have : (L.find? fun o => decide (z ≤ (o.a : Int))) = none := List.find?_eq_none.2 fun o ho => by simpa using hno o ho
  rw [this]
def roomA (fr : List (Int × Int)) : Int := (fr.map (·.2)).sum
theorem gap1_sum (p e : Nat) (h : p ≤ e) : roomA (gap1 p e) = ((e - p : Nat) : Int) := by
  unfold roomA gap1
  split
  · simp
  · simp; omega
def usedA : List Ob → Nat
  | [] => 0
  | o :: L => o.fs.length + 1 + usedA L
theorem room_used : ∀ {L : List Ob} {p : Nat}, Lay N p L → roomA (gaps N p L) + usedA L = N - p
  | [], p, h => by
    have h' : p ≤ N := h
    show roomA (gap1 p N) + (0 : Nat) = _
    rw [gap1_sum p N h']
    omega
  | o :: L, p, h => by
    have h1 := h.1
    have h2 := room_used h.2
    rw [gaps_cons]
    have e : roomA (gap1 p o.a ++ gaps N o.fin L) = roomA (gap1 p o.a) + roomA (gaps N o.fin L) := by simp [roomA]
    rw [e, gap1_sum _ _ h1]
    show _ + ((o.fs.length + 1 + usedA L : Nat) : Int) = _
    unfold Ob.fin at h2 ⊢
    omega
theorem roomA_append (a b : List (Int × Int)) : roomA (a ++ b) = roomA a + roomA b := by simp [roomA]
theorem roomA_snoc (l : List (Int × Int)) (r : Int × Int) : roomA (l ++ [r]) = roomA l + r.2 := by simp [roomA]
theorem room_part {l : List (Int × Int)} (h : ∀ r ∈ l, 0 < r.2) : ∀ k, 0 ≤ roomA (l.take k) ∧ roomA (l.take k) ≤ roomA l := by
  have pos : ∀ l : List (Int × Int), (∀ r ∈ l, 0 < r.2) → 0 ≤ roomA l := by
    intro l
    induction l with
    | nil => intro _; exact Int.le_refl _
    | cons x r ih =>
      intro h
      have h1 := ih (fun y hy => h y (List.mem_cons_of_mem _ hy))
      have h2 := h x (List.mem_cons_self ..)
      have : roomA (x :: r) = x.2 + roomA r := by simp [roomA]
      omega
  intro k
  have e : roomA l = roomA (l.take k) + roomA (l.drop k) := by
    rw [← roomA_append, List.take_append_drop]
  have h1 := pos (l.take k) (fun r hr => h r (List.mem_of_mem_take hr))
  have h2 := pos (l.drop k) (fun r hr => h r (List.mem_of_mem_drop hr))
  omega
end
end Go.Proofs.Ytdfhajdejlhamaa
namespace Go.Proofs.Ytdfhajdejlhamaa
set_option linter.unusedVariables false
section
variable {N : Nat} {L A B : List Ob} {cs cs' : List Int} {hs : List (Int × Int)}
theorem mapid {α : Type} (f : α → α) : ∀ {l : List α}, (∀ x ∈ l, f x = x) → l.map f = l
  | [], _ => rfl
  | x :: l, h => by rw [List.map_cons, h x (List.mem_cons_self ..), mapid f fun y hy => h y (List.mem_cons_of_mem _ hy)]
theorem lay_sides {p : Nat} {o : Ob} (h : Lay N p (A ++ o :: B)) : (∀ x ∈ A, x.fin ≤ o.a) ∧ (∀ x ∈ B, o.fin ≤ x.a) ∧ o.fin ≤ N := by
  obtain ⟨h1, h2⟩ := h.split
  refine ⟨fun x hx => ?_, fun x hx => (h2.2.mem x hx).1, h2.2.le⟩
  have := (h1.mem x hx).2
  have := h2.1
  omega
theorem findA_skip {o : Ob} {i : Nat} (hi : i ≠ o.a) : findA (A ++ o :: B) i = findA (A ++ B) i := by
  unfold findA
  rw [List.find?_append, List.find?_append, List.find?_cons_of_neg (by simp; omega)]
theorem hdA_skip {o : Ob} {i : Nat} (hi : i ≠ o.a) : hdA (A ++ o :: B) i = hdA (A ++ B) i := by
  unfold hdA
  rw [findA_skip hi]
theorem hdA_gone {p : Nat} {o : Ob} (h : Lay N p (A ++ o :: B)) : hdA (A ++ B) o.a = (0, 0) := by
  obtain ⟨h1, h2, h3⟩ := lay_sides h
  unfold hdA
  cases hf : findA (A ++ B) o.a with
  | none => rfl
  | some x =>
    obtain ⟨hx, he⟩ := findA_some hf
    rcases List.mem_append.1 hx with hx | hx
    · have := h1 x hx
      unfold Ob.fin at this
      omega
    · have := h2 x hx
      unfold Ob.fin at this
      omega
theorem hdA_at {p : Nat} {o : Ob} (h : Lay N p L) (ho : o ∈ L) : hdA L o.a = ((o.kind : Int), (o.fs.length : Int)) := by
  unfold hdA
  rw [findA_mem h ho]
/-- an object goes -/
theorem rep_free {o : Ob} (h : Rep N (A ++ o :: B) cs hs) : Rep N (A ++ B) cs (hs.set o.a (0, 0)) where
  n2 := h.n2
  cl := h.cl
  hl := by rw [List.length_set]; exact h.hl
  lay := (free_law h.lay).2.2.1
  hd := fun i hi => by
    rw [List.getElem?_set]
    split
    · rename_i he
      subst he
      rw [if_pos (by rw [h.hl]; exact hi), hdA_gone h.lay]
    · rename_i he
      rw [h.hd i hi, hdA_skip (by omega)]
  fd := fun x hx => h.fd x (by rcases List.mem_append.1 hx with hx | hx <;> simp [hx])
  kd := fun x hx => h.kd x (by rcases List.mem_append.1 hx with hx | hx <;> simp [hx])
/-- an object comes -/
theorem rep_alloc {o : Ob} (h : Rep N (A ++ B) cs hs) (hl : Lay N 1 (A ++ o :: B)) (hk : 1 ≤ o.kind ∧ o.fs.length ≤ 4096) (hc : cs'.length = N) (hc1 : ∀ (j : Nat) (x : Int), o.fs[j]? = some x → cs'[o.a + 1 + j]? = some x)
    (hc2 : ∀ i, ¬ (o.a + 1 ≤ i ∧ i < o.fin) → cs'[i]? = cs[i]?) : Rep N (A ++ o :: B) cs' (hs.set o.a ((o.kind : Int), (o.fs.length : Int))) where
  n2 := h.n2
  cl := hc
  hl := by rw [List.length_set]; exact h.hl
  lay := hl
  hd := fun i hi => by
    rw [List.getElem?_set]
    split
    · rename_i he
      subst he
      rw [if_pos (by rw [h.hl]; exact hi), hdA_at hl (List.mem_append_right _ (List.mem_cons_self ..))]
    · rename_i he
      rw [h.hd i hi, hdA_skip (by omega)]
  fd := fun x hx j y hy => by
    obtain ⟨s1, s2, s3⟩ := lay_sides hl
    have hjl := (List.getElem?_eq_some_iff.1 hy).1
    rcases List.mem_append.1 hx with hx | hx
    · have h1 := s1 x hx
      rw [hc2 _ (by unfold Ob.fin at h1 ⊢; omega)]
      exact h.fd x (List.mem_append_left _ hx) j y hy
    · rcases List.mem_cons.1 hx with rfl | hx
      · exact hc1 j y hy
      · have h1 := s2 x hx
        rw [hc2 _ (by unfold Ob.fin at h1 ⊢; omega)]
        exact h.fd x (List.mem_append_right _ hx) j y hy
  kd := fun x hx => by
    rcases List.mem_append.1 hx with hx | hx
    · exact h.kd x (List.mem_append_left _ hx)
    · rcases List.mem_cons.1 hx with rfl | hx
      · exact hk
      · exact h.kd x (List.mem_append_right _ hx)
/-- objects turned, each where it was, of the same size -/
def setL (L : List Ob) (z : Int) (j : Nat) (x : Int) : List Ob := L.map fun o => if (o.a : Int) = z then { o with fs := o.fs.set j x } else o
structure Alike (f : Ob → Ob) : Prop where
  a : ∀ o, (f o).a = o.a
  k : ∀ o, (f o).kind = o.kind
  l : ∀ o, (f o).fs.length = o.fs.length
theorem alike_set (z : Int) (j : Nat) (x : Int) : Alike (fun o => if (o.a : Int) = z then { o with fs := o.fs.set j x } else o) :=
  ⟨fun o => by split <;> rfl, fun o => by split <;> rfl, fun o => by split <;> simp⟩
theorem Alike.fin {f : Ob → Ob} (h : Alike f) (o : Ob) : (f o).fin = o.fin := by unfold Ob.fin; rw [h.a, h.l]
theorem Alike.lay {f : Ob → Ob} (h : Alike f) : ∀ {L : List Ob} {p : Nat}, Lay N p (L.map f) ↔ Lay N p L
  | [], p => Iff.rfl
  | o :: L, p => by
    show (p ≤ (f o).a ∧ Lay N (f o).fin (L.map f)) ↔ (p ≤ o.a ∧ Lay N o.fin L)
    rw [h.a, h.fin, Alike.lay h]
theorem Alike.gaps {f : Ob → Ob} (h : Alike f) : ∀ (L : List Ob) (p : Nat), gaps N p (L.map f) = gaps N p L
  | [], p => rfl
  | o :: L, p => by
    rw [List.map_cons, gaps_cons, gaps_cons, h.a, h.fin, Alike.gaps h]
theorem Alike.hd {f : Ob → Ob} (h : Alike f) (L : List Ob) (i : Nat) : hdA (L.map f) i = hdA L i := by
  unfold hdA findA
  rw [List.find?_map]
  have e : ((fun o : Ob => o.a == i) ∘ f) = fun o => o.a == i := by funext o; simp [h.a]
  rw [e]
  cases L.find? (fun o => o.a == i) with
  | none => rfl
  | some o => simp only [Option.map_some]; rw [h.k, h.l]
theorem rep_set {o : Ob} {j : Nat} {x : Int} (h : Rep N L cs hs) (ho : o ∈ L) (hj : j < o.fs.length) : Rep N (setL L o.a j x) (cs.set (o.a + 1 + j) x) hs where
  n2 := h.n2
  cl := by rw [List.length_set]; exact h.cl
  hl := h.hl
  lay := (alike_set _ _ _).lay.2 h.lay
  hd := fun i hi => by
    rw [h.hd i hi]
    exact congrArg some ((alike_set _ _ _).hd L i).symm
  fd := fun y hy k v hv => by
    obtain ⟨y0, hy0, rfl⟩ := List.mem_map.1 hy
    have hoN := h.lay.mem o ho
    by_cases he : (y0.a : Int) = (o.a : Int)
    · obtain rfl : y0 = o := h.lay.inj y0 hy0 o ho (by omega)
      rw [if_pos rfl] at hv ⊢
      show (cs.set (y0.a + 1 + j) x)[y0.a + 1 + k]? = some v
      rw [List.getElem?_set]
      change (y0.fs.set j x)[k]? = some v at hv
      rw [List.getElem?_set] at hv
      by_cases hk : j = k
      · rw [if_pos hk, if_pos hj] at hv
        rw [if_pos (by omega), if_pos (by rw [h.cl]; unfold Ob.fin at hoN; omega), hv]
      · rw [if_neg hk] at hv
        rw [if_neg (by omega)]
        exact h.fd y0 hy0 k v hv
    · rw [if_neg he] at hv ⊢
      have hkl := (List.getElem?_eq_some_iff.1 hv).1
      have hne : ¬ (o.a + 1 + j = y0.a + 1 + k) := by
        intro hc
        obtain ⟨C, D, hCD⟩ := List.append_of_mem ho
        have hl := h.lay
        rw [hCD] at hy0 hl
        obtain ⟨s1, s2, s3⟩ := lay_sides hl
        rcases List.mem_append.1 hy0 with h1 | h1
        · have := s1 y0 h1
          unfold Ob.fin at this
          omega
        · rcases List.mem_cons.1 h1 with h1 | h1
          · subst h1; exact he rfl
          · have := s2 y0 h1
            unfold Ob.fin at this
            omega
      rw [List.getElem?_set, if_neg hne]
      exact h.fd y0 hy0 k v hv
  kd := fun y hy => by
    obtain ⟨y0, hy0, rfl⟩ := List.mem_map.1 hy
    rw [(alike_set _ _ _).k, (alike_set _ _ _).l]
    exact h.kd y0 hy0
theorem gaps_mid (A B : List Ob) {o o' : Ob} (ha : o.a = o'.a) (hl : o.fs.length = o'.fs.length) (p : Nat) : gaps N p (A ++ o :: B) = gaps N p (A ++ o' :: B) := by
  have hf : o.fin = o'.fin := by unfold Ob.fin; rw [ha, hl]
  rw [gaps_append, gaps_append, gaps_cons, gaps_cons, ha, hf]
theorem lay_mid {A B : List Ob} {o o' : Ob} (ha : o.a = o'.a) (hl : o.fs.length = o'.fs.length) {p : Nat} (h : Lay N p (A ++ o :: B)) : Lay N p (A ++ o' :: B) := by
  have hf : o.fin = o'.fin := by unfold Ob.fin; rw [ha, hl]
  obtain ⟨h1, h2⟩ := h.split
  exact Lay.join h1 ⟨by rw [← ha]; exact h2.1, by rw [← hf]; exact h2.2⟩
theorem setL_mid {p : Nat} {o : Ob} (h : Lay N p (A ++ o :: B)) (j : Nat) (x : Int) : setL (A ++ o :: B) o.a j x = A ++ { o with fs := o.fs.set j x } :: B := by
  obtain ⟨s1, s2, s3⟩ := lay_sides h
  unfold setL
  rw [List.map_append, List.map_cons, if_pos rfl]
  congr 1
  · refine mapid _ fun y hy => ?_
    have := s1 y hy
    unfold Ob.fin at this
    rw [if_neg (by omega)]
  · congr 1
    refine mapid _ fun y hy => ?_
    have := s2 y hy
    unfold Ob.fin at this
    rw [if_neg (by omega)]
theorem gaps_set (p : Nat) (z : Int) (j : Nat) (x : Int) : gaps N p (setL L z j x) = gaps N p L := (alike_set z j x).gaps L p
/-- what Set does -/
def setA (L : List Ob) (z i x : Int) : Int × List Ob := match objA L z with
  | none => (7, L)
  | some o => if 0 ≤ i ∧ i < (o.fs.length : Int) then (0, setL L z i.toNat x) else (2, L)
/-- what Alloc does -/
def newO (kind size : Nat) (p : Nat) : Ob := ⟨p, kind, List.replicate size 1⟩
def allocA (N : Nat) (L : List Ob) (kind size : Int) : Int × Int × List Ob :=
  if kind < 1 ∨ 6 < kind then (0, 8, L) else if size < 0 ∨ 4096 < size then (0, 2, L) else
  match insA N size.toNat (newO kind.toNat size.toNat) 1 L with
  | none => (0, 6, L)
  | some (p, L') => ((p : Int), 0, L')
/-- what Free does -/
def freeA (L : List Ob) (z : Int) : Int × List Ob := match objA L z with
  | none => (7, L)
  | some o => (0, L.filter fun o => !decide ((o.a : Int) = z))
theorem filter_free {p : Nat} {o : Ob} (h : Lay N p (A ++ o :: B)) : ((A ++ o :: B).filter fun x => !decide ((x.a : Int) = (o.a : Int))) = A ++ B := by
  obtain ⟨s1, s2, s3⟩ := lay_sides h
  rw [List.filter_append, List.filter_cons_of_neg (by simp), List.filter_eq_self.2, List.filter_eq_self.2]
  · intro x hx
    have := s2 x hx
    unfold Ob.fin at this
    simp
    omega
  · intro x hx
    have := s1 x hx
    unfold Ob.fin at this
    simp
    omega
theorem gtl_mem {p : Nat} {o : Ob} (h : Lay N p (A ++ o :: B)) : ∀ r ∈ gtl N B, ((nxt N B : Nat) : Int) < r.1 := by
  intro r hr
  obtain ⟨h1, h2⟩ := h.split
  cases B with
  | nil => exact absurd hr (List.not_mem_nil)
  | cons b B =>
    have := (gaps_mem h2.2.2 r hr).1
    unfold Ob.fin at this
    show (b.a : Int) < r.1
    omega
theorem left_mem {p : Nat} {o : Ob} (h : Lay N p (A ++ o :: B)) : ∀ r ∈ gin p A ++ gap1 (endA p A) o.a, r.1 < (o.a : Int) := by
  intro r hr
  obtain ⟨h1, h2⟩ := h.split
  rcases List.mem_append.1 hr with hr | hr
  · have h3 := gin_mem h1 r hr
    have := h2.1
    omega
  · unfold gap1 at hr
    split at hr
    · obtain rfl := List.mem_singleton.1 hr
      dsimp only
      omega
    · exact absurd hr (List.not_mem_nil)
theorem right_mem {p : Nat} {o : Ob} (h : Lay N p (A ++ o :: B)) : ∀ r ∈ gap1 o.fin (nxt N B) ++ gtl N B, (o.fin : Int) ≤ r.1 := by
  intro r hr
  have h4 := (free_law h).2.2.2.2.1
  rcases List.mem_append.1 hr with hr | hr
  · unfold gap1 at hr
    split at hr
    · obtain rfl := List.mem_singleton.1 hr
      exact Int.le_refl _
    · exact absurd hr (List.not_mem_nil)
  · have := gtl_mem h r hr
    omega
theorem gaps_pair : ∀ {L : List Ob} {p : Nat}, Lay N p L → (gaps N p L).Pairwise (fun r r' => r.1 < r'.1)
  | [], p, h => by
    unfold gaps gap1
    split
    · exact List.pairwise_singleton ..
    · exact .nil
  | o :: L, p, h => by
    rw [gaps_cons]
    refine List.pairwise_append.2 ⟨?_, gaps_pair h.2, ?_⟩
    · unfold gap1
      split
      · exact List.pairwise_singleton ..
      · exact .nil
    · intro r hr r' hr'
      have h1 := (gaps_mem h.2 r' hr').1
      have h2 := h.1
      unfold Ob.fin at h1
      unfold gap1 at hr
      split at hr
      · obtain rfl := List.mem_singleton.1 hr
        dsimp only
        omega
      · exact absurd hr (List.not_mem_nil)
end
end Go.Proofs.Ytdfhajdejlhamaa
namespace Go.Proofs.Ytdfhajdejlhamaa
set_option linter.unusedVariables false
/-- where the first one is -/
def hd0 : List Ob → Int
  | [] => 0
  | o :: _ => o.a
section
variable {N : Nat} {L A B : List Ob}
end
end Go.Proofs.Ytdfhajdejlhamaa
namespace Go.Proofs.Ytdfhajdejlhamaa
set_option linter.unusedVariables false
/-- a word, as the machine has it -/
def U (x : Int) : Prop := 0 ≤ x ∧ x < 18446744073709551616
def numW (x : Int) : Bool := decide (x % 2 = 1)
def addrW (x : Int) : Int := if x % 2 = 1 ∨ 2147483647 < x / 2 then 0 else x / 2
def addrN (x : Int) : Nat := (addrW x).toNat
theorem addr_nonneg {x : Int} (h : U x) : 0 ≤ addrW x := by
  unfold addrW
  split
  · exact Int.le_refl _
  · have := h.1; omega
theorem addrN_eq {x : Int} (h : U x) : (addrN x : Int) = addrW x := Int.toNat_of_nonneg (addr_nonneg h)
structure GS where
  ph : Nat
  L : List Ob
  cl : List Nat
  gr : List Nat
  pl : Nat
/-- is an object there? -/
def isO (L : List Ob) (a : Nat) : Prop := ∃ o ∈ L, o.a = a
def col (s : GS) (a : Nat) : Nat := s.cl.getD a 0
def whiteG (s : GS) (a : Nat) : Bool := isA s.L (a : Int) && (col s a == 0)
/-- where an address stands among falling ones -/
def insF (gr : List Nat) (t : Nat) : List Nat := gr.filter (fun a => decide (t < a)) ++ t :: gr.filter (fun a => !decide (t < a))
def shadeG (s : GS) (x : Int) : GS := if numW x = true ∨ whiteG s (addrN x) = false then s else { s with cl := s.cl.set (addrN x) 1, gr := insF s.gr (addrN x) }
def fsA (L : List Ob) (a : Nat) : List Int := match findA L a with
  | some o => o.fs
  | none => []
def kdA (L : List Ob) (a : Nat) : Nat := match findA L a with
  | some o => o.kind
  | none => 0
def blackG (s : GS) (a : Nat) : GS := { s with cl := s.cl.set a 2, gr := s.gr.dropLast }
def markG (s : GS) (a : Nat) : GS := if kdA s.L a = 1 then blackG s a else (fsA s.L a).foldl shadeG (blackG s a)
def delA (L : List Ob) (a : Nat) : List Ob := L.filter fun o => !decide ((o.a : Int) = (a : Int))
def sweepG (s : GS) (a : Nat) : GS := { s with L := if col s a = 0 then delA s.L a else s.L, cl := s.cl.set a 0, pl := a + 1 }
def stepG (s : GS) : Bool × GS :=
  if s.ph = 1 then match s.gr.getLast? with
    | some a => (false, markG s a)
    | none => (false, { s with ph := 2, pl := 0 })
  else if s.ph = 2 then (if nextA s.L s.pl = 0 then (true, { s with ph := 0 }) else (false, sweepG s (nextA s.L s.pl).toNat))
  else (false, s)
def beginG (s : GS) (roots : List Int) : Int × GS := if s.ph = 0 then (0, roots.foldl shadeG { s with ph := 1 }) else (9, s)
def allocG (N : Nat) (s : GS) (k z : Int) : Int × Int × GS :=
  let r := allocA N s.L k z
  if r.2.1 = 0 then (r.1, 0, { s with L := r.2.2, cl := if s.ph = 1 ∨ s.ph = 2 ∧ (s.pl : Int) ≤ r.1 then s.cl.set r.1.toNat 2 else s.cl }) else (0, r.2.1, s)
def writeG (s : GS) (z i x : Int) : Int × GS :=
  if (getA s.L z i).2 = 0 then
    let s1 := if s.ph = 1 ∧ kdA s.L z.toNat ≠ 1 then shadeG s (getA s.L z i).1 else s
    (0, { s1 with L := (setA s.L z i x).2 })
  else ((getA s.L z i).2, s)
theorem isO_iff {L : List Ob} {a : Nat} : isA L (a : Int) = true ↔ isO L a := by
  rw [isA_iff]
  exact ⟨fun ⟨o, h1, h2⟩ => ⟨o, h1, by omega⟩, fun ⟨o, h1, h2⟩ => ⟨o, h1, by omega⟩⟩
instance {L : List Ob} {a : Nat} : Decidable (isO L a) := decidable_of_iff (isA L (a : Int) = true) isO_iff
/-- what holds of a collector -/
structure GOk (N : Nat) (s : GS) : Prop where
  n2 : 2 ≤ N ∧ N ≤ 65536
  lay : Lay N 1 s.L
  kd : ∀ o ∈ s.L, 1 ≤ o.kind ∧ o.fs.length ≤ 4096
  us : ∀ o ∈ s.L, ∀ x ∈ o.fs, U x
  ph : s.ph ≤ 2
  cll : s.cl.length = N
  c3 : ∀ a, col s a ≤ 2
  grs : s.gr.Pairwise (· > ·)
  grm : ∀ a, a ∈ s.gr ↔ col s a = 1
  obj : ∀ a, col s a ≠ 0 → isO s.L a
  idle : s.ph = 0 → ∀ a, col s a = 0
  swp : s.ph = 2 → s.gr = [] ∧ s.pl ≤ N ∧ ∀ a, a < s.pl → col s a = 0
section
variable {N : Nat} {s : GS} {L : List Ob}
theorem whiteG_iff {a : Nat} : whiteG s a = true ↔ isO s.L a ∧ col s a = 0 := by
  unfold whiteG
  rw [Bool.and_eq_true, isO_iff, beq_iff_eq]
theorem col_set {cl : List Nat} {a b c : Nat} (h : a < cl.length) : (cl.set a c).getD b 0 = if a = b then c else cl.getD b 0 := by
  by_cases hab : a = b
  · subst hab
    rw [if_pos rfl]
    simp [List.getD_eq_getElem?_getD, List.getElem?_set_self h]
  · rw [if_neg hab]
    simp [List.getD_eq_getElem?_getD, List.getElem?_set_ne hab]
theorem isO_lt {p a : Nat} (h : Lay N p L) (ho : isO L a) : p ≤ a ∧ a < N := by
  obtain ⟨o, h1, rfl⟩ := ho
  have := h.mem o h1
  unfold Ob.fin at this
  omega
theorem GOk.lt (h : GOk N s) {a : Nat} (ho : isO s.L a) : 1 ≤ a ∧ a < N := isO_lt h.lay ho
theorem insF_mem {gr : List Nat} {t a : Nat} : a ∈ insF gr t ↔ a = t ∨ a ∈ gr := by
  unfold insF
  simp only [List.mem_append, List.mem_cons, List.mem_filter, decide_eq_true_eq, Bool.not_eq_true', decide_eq_false_iff_not]
  constructor
  · rintro (⟨h, _⟩ | rfl | ⟨h, _⟩)
    · exact .inr h
    · exact .inl rfl
    · exact .inr h
  · rintro (rfl | h)
    · exact .inr (.inl rfl)
    · by_cases ht : t < a
      · exact .inl ⟨h, ht⟩
      · exact .inr (.inr ⟨h, ht⟩)
theorem insF_sorted {gr : List Nat} {t : Nat} (h : gr.Pairwise (· > ·)) (ht : t ∉ gr) : (insF gr t).Pairwise (· > ·) := by
  unfold insF
  rw [List.pairwise_append, List.pairwise_cons]
  refine ⟨h.filter _, ⟨fun a ha => ?_, h.filter _⟩, fun a ha b hb => ?_⟩
  · simp only [List.mem_filter, Bool.not_eq_true', decide_eq_false_iff_not] at ha
    have : a ≠ t := fun he => ht (he ▸ ha.1)
    have := ha.2
    show t > a
    omega
  · simp only [List.mem_filter, decide_eq_true_eq] at ha
    rcases List.mem_cons.1 hb with rfl | hb
    · exact ha.2
    · simp only [List.mem_filter, Bool.not_eq_true', decide_eq_false_iff_not] at hb
      show a > b
      have := ha.2
      have := hb.2
      omega
theorem insF_len {gr : List Nat} {t : Nat} : (insF gr t).length = gr.length + 1 := by
  unfold insF
  induction gr with
  | nil => rfl
  | cons a gr ih =>
    rw [List.length_append, List.length_cons] at ih ⊢
    by_cases h : t < a
    · rw [List.filter_cons_of_pos (by simpa using h), List.filter_cons_of_neg (by simpa using h), List.length_cons, List.length_cons]
      omega
    · rw [List.filter_cons_of_neg (by simpa using h), List.filter_cons_of_pos (by simpa using h), List.length_cons, List.length_cons]
      omega
/-- shading: what it does to colours -/
theorem shade_L (s : GS) (x : Int) : (shadeG s x).L = s.L ∧ (shadeG s x).ph = s.ph ∧ (shadeG s x).pl = s.pl ∧ (shadeG s x).cl.length = s.cl.length := by
  unfold shadeG
  split
  · exact ⟨rfl, rfl, rfl, rfl⟩
  · exact ⟨rfl, rfl, rfl, List.length_set⟩
theorem shade_col (h : GOk N s) (x : Int) (a : Nat) : col (shadeG s x) a = if numW x = false ∧ addrN x = a ∧ isO s.L a ∧ col s a = 0 then 1 else col s a := by
  unfold shadeG
  split
  · rename_i hc
    rw [if_neg]
    rintro ⟨h1, rfl, h2, h3⟩
    rcases hc with hc | hc
    · rw [h1] at hc; cases hc
    · rw [whiteG_iff.2 ⟨h2, h3⟩] at hc; cases hc
  · rename_i hc
    obtain ⟨h1, h2⟩ : numW x = false ∧ whiteG s (addrN x) = true := by
      cases hn : numW x <;> cases hw : whiteG s (addrN x) <;> simp_all
    rw [whiteG_iff] at h2
    have hl := h.lt h2.1
    show (s.cl.set (addrN x) 1).getD a 0 = _
    rw [col_set (by rw [h.cll]; exact hl.2)]
    by_cases ha : addrN x = a
    · subst ha
      rw [if_pos rfl, if_pos ⟨h1, rfl, h2⟩]
    · rw [if_neg ha, if_neg (fun h => ha h.2.1)]
      rfl
theorem shade_gr (h : GOk N s) (hp : s.ph = 1) (x : Int) : GOk N (shadeG s x) := by
  obtain ⟨e1, e2, e3, e4⟩ := shade_L s x
  have hcol := shade_col h x
  by_cases hc : numW x = true ∨ whiteG s (addrN x) = false
  · have : shadeG s x = s := if_pos hc
    rw [this]; exact h
  obtain ⟨h1, h2⟩ : numW x = false ∧ whiteG s (addrN x) = true := by
    cases hn : numW x <;> cases hw : whiteG s (addrN x) <;> simp_all
  rw [whiteG_iff] at h2
  have hgr : (shadeG s x).gr = insF s.gr (addrN x) := by unfold shadeG; rw [if_neg hc]
  have hnot : addrN x ∉ s.gr := fun hm => by have := (h.grm _).1 hm; omega
  refine ⟨h.n2, by rw [e1]; exact h.lay, by rw [e1]; exact h.kd, by rw [e1]; exact h.us, by rw [e2]; exact h.ph, by rw [e4]; exact h.cll, fun a => ?_, by rw [hgr]; exact insF_sorted h.grs hnot, fun a => ?_, fun a ha => ?_, fun h0 => ?_, fun h0 => ?_⟩
  · rw [hcol]; split
    · omega
    · exact h.c3 a
  · rw [hgr, insF_mem, hcol]
    constructor
    · rintro (rfl | hm)
      · rw [if_pos ⟨h1, rfl, h2⟩]
      · have := (h.grm a).1 hm
        rw [if_neg (by rintro ⟨_, _, _, h0⟩; omega)]
        exact this
    · split
      · rename_i hh; intro _; exact .inl hh.2.1.symm
      · intro hm; exact .inr ((h.grm a).2 hm)
  · rw [e1]
    rw [hcol] at ha
    split at ha
    · rename_i hh; exact hh.2.2.1
    · exact h.obj a ha
  · rw [e2] at h0; omega
  · rw [e2] at h0; omega
theorem shades_ok (hp : s.ph = 1) (h : GOk N s) : ∀ (xs : List Int), GOk N (xs.foldl shadeG s) ∧ (xs.foldl shadeG s).L = s.L ∧ (xs.foldl shadeG s).ph = 1 ∧ (xs.foldl shadeG s).pl = s.pl ∧
    (∀ a, (col s a ≠ 0 → col (xs.foldl shadeG s) a = col s a) ∧ (col (xs.foldl shadeG s) a ≠ 0 → col s a ≠ 0 ∨ (col (xs.foldl shadeG s) a = 1 ∧ isO s.L a ∧ ∃ x ∈ xs, numW x = false ∧ addrN x = a)) ∧
      (isO s.L a → (∃ x ∈ xs, numW x = false ∧ addrN x = a) → col (xs.foldl shadeG s) a ≠ 0)) := by
  intro xs
  induction xs generalizing s with
  | nil => exact ⟨h, rfl, hp, rfl, fun a => ⟨fun _ => rfl, fun h => .inl h, fun _ ⟨x, hx, _⟩ => absurd hx (List.not_mem_nil)⟩⟩
  | cons x xs ih =>
    obtain ⟨e1, e2, e3, e4⟩ := shade_L s x
    have hcol := shade_col h x
    obtain ⟨g1, g2, g3, g4, g5⟩ := ih (s := shadeG s x) (by rw [e2]; exact hp) (shade_gr h hp x)
    rw [List.foldl_cons]
    refine ⟨g1, g2.trans e1, g3, g4.trans e3, fun a => ?_⟩
    obtain ⟨k1, k2, k3⟩ := g5 a
    rw [hcol] at k1 k2
    rw [e1] at k2 k3
    refine ⟨fun ha => ?_, fun ha => ?_, fun hO hx => ?_⟩
    · rw [if_neg (fun hh => ha hh.2.2.2)] at k1
      exact k1 ha
    · rcases k2 ha with h1 | ⟨h1, h2, y, hy, h3⟩
      · by_cases hh : numW x = false ∧ addrN x = a ∧ isO s.L a ∧ col s a = 0
        · rw [if_pos hh] at k1
          exact .inr ⟨k1 (by decide), hh.2.2.1, x, List.mem_cons_self .., hh.1, hh.2.1⟩
        · rw [if_neg hh] at h1
          exact .inl h1
      · exact .inr ⟨h1, h2, y, List.mem_cons_of_mem _ hy, h3⟩
    · obtain ⟨y, hy, h1, h2⟩ := hx
      rcases List.mem_cons.1 hy with rfl | hy
      · by_cases h0 : col s a = 0
        · rw [if_pos ⟨h1, h2, hO, h0⟩] at k1
          rw [k1 (by decide)]
          decide
        · rw [if_neg (fun hh => h0 hh.2.2.2)] at k1
          rw [k1 h0]
          exact h0
      · exact k3 hO ⟨y, hy, h1, h2⟩
end
end Go.Proofs.Ytdfhajdejlhamaa
namespace Go.Proofs.Ytdfhajdejlhamaa
set_option linter.unusedVariables false
/-- one object reaches another one directly -/
def E (L : List Ob) (a b : Nat) : Prop := isO L b ∧ ∃ o ∈ L, o.a = a ∧ o.kind ≠ 1 ∧ ∃ x ∈ o.fs, numW x = false ∧ addrN x = b
section
variable {N : Nat} {s : GS} {L : List Ob}
theorem fsA_at {p : Nat} (hl : Lay N p L) {o : Ob} (ho : o ∈ L) : fsA L o.a = o.fs ∧ kdA L o.a = o.kind := by
  unfold fsA kdA
  rw [findA_mem hl ho]
  exact ⟨rfl, rfl⟩
theorem E_at {p : Nat} (hl : Lay N p L) {o : Ob} (ho : o ∈ L) {b : Nat} : E L o.a b ↔ isO L b ∧ o.kind ≠ 1 ∧ ∃ x ∈ o.fs, numW x = false ∧ addrN x = b := by
  constructor
  · rintro ⟨h1, o', h2, h3, h4⟩
    obtain rfl := hl.inj o' h2 o ho h3
    exact ⟨h1, h4⟩
  · rintro ⟨h1, h2⟩
    exact ⟨h1, o, ho, rfl, h2⟩
theorem black_ok (h : GOk N s) (hp : s.ph = 1) {a : Nat} (hl : s.gr.getLast? = some a) : GOk N (blackG s a) ∧ col s a = 1 ∧ ∀ b, col (blackG s a) b = if a = b then 2 else col s b := by
  obtain ⟨g, hg⟩ := List.getLast?_eq_some_iff.1 hl
  have ha : a ∈ s.gr := by rw [hg]; simp
  have hc := (h.grm a).1 ha
  have hlt := h.lt (h.obj a (by omega))
  have hcol : ∀ b, col (blackG s a) b = if a = b then 2 else col s b := fun b => col_set (by rw [h.cll]; exact hlt.2)
  have hgr : (blackG s a).gr = g := by show s.gr.dropLast = g; rw [hg]; simp
  have hs := h.grs
  rw [hg, List.pairwise_append] at hs
  refine ⟨⟨h.n2, h.lay, h.kd, h.us, h.ph, by show (s.cl.set a 2).length = N; rw [List.length_set]; exact h.cll, fun b => ?_, by rw [hgr]; exact hs.1, fun b => ?_, fun b hb => ?_, fun h0 => ?_, fun h0 => ?_⟩, hc, hcol⟩
  · rw [hcol]; split
    · omega
    · exact h.c3 b
  · rw [hgr, hcol]
    constructor
    · intro hb
      have h1 := hs.2.2 b hb a (by simp)
      rw [if_neg (by show ¬ a = b; intro he; subst he; exact Nat.lt_irrefl _ h1)]
      exact (h.grm b).1 (by rw [hg]; simp [hb])
    · intro hb
      split at hb
      · omega
      · rename_i hne
        have := (h.grm b).2 hb
        rw [hg] at this
        rcases List.mem_append.1 this with h1 | h1
        · exact h1
        · exact absurd (List.mem_singleton.1 h1).symm hne
  · rw [hcol] at hb
    split at hb
    · rename_i he; subst he; exact h.obj a (by omega)
    · exact h.obj b hb
  · have : s.ph = 0 := h0
    omega
  · have : s.ph = 2 := h0
    omega
theorem mark_ok (h : GOk N s) (hp : s.ph = 1) {a : Nat} (hl : s.gr.getLast? = some a) : GOk N (markG s a) ∧ (markG s a).L = s.L ∧ (markG s a).ph = 1 ∧ (markG s a).pl = s.pl ∧ col s a = 1 ∧ col (markG s a) a = 2 ∧
    ∀ b, b ≠ a → (col s b ≠ 0 → col (markG s a) b = col s b) ∧ (col (markG s a) b ≠ 0 → col s b ≠ 0 ∨ (col (markG s a) b = 1 ∧ E s.L a b)) ∧ (E s.L a b → col (markG s a) b ≠ 0) := by
  obtain ⟨h1, h2, h3⟩ := black_ok h hp hl
  obtain ⟨o, ho, rfl⟩ := h.obj a (by omega)
  obtain ⟨e1, e2⟩ := fsA_at h.lay ho
  unfold markG
  rw [e1, e2]
  by_cases hk : o.kind = 1
  · rw [if_pos hk]
    refine ⟨h1, rfl, hp, rfl, h2, by rw [h3, if_pos rfl], fun b hb => ⟨fun _ => by rw [h3, if_neg (Ne.symm hb)], fun hc => ?_, fun hE => ?_⟩⟩
    · rw [h3, if_neg (Ne.symm hb)] at hc; exact .inl hc
    · exact absurd hk ((E_at h.lay ho).1 hE).2.1
  · rw [if_neg hk]
    obtain ⟨g1, g2, g3, g4, g5⟩ := shades_ok (s := blackG s o.a) hp h1 o.fs
    refine ⟨g1, g2, g3, g4, h2, ?_, fun b hb => ?_⟩
    · rw [(g5 o.a).1 (by rw [h3, if_pos rfl]; decide), h3, if_pos rfl]
    · obtain ⟨k1, k2, k3⟩ := g5 b
      rw [h3, if_neg (Ne.symm hb)] at k1 k2
      refine ⟨k1, fun hc => ?_, fun hE => ?_⟩
      · rcases k2 hc with h4 | ⟨h4, h5, h6⟩
        · exact .inl h4
        · exact .inr ⟨h4, (E_at h.lay ho).2 ⟨h5, hk, h6⟩⟩
      · obtain ⟨h5, _, h6⟩ := (E_at h.lay ho).1 hE
        exact k3 h5 h6
theorem nextA_spec {p : Nat} (hl : Lay N p L) (z : Int) : (nextA L z = 0 ∧ ∀ o ∈ L, ¬ z ≤ (o.a : Int)) ∨ ∃ o ∈ L, nextA L z = o.a ∧ z ≤ (o.a : Int) ∧ ∀ o' ∈ L, z ≤ (o'.a : Int) → o.a ≤ o'.a := by
  unfold nextA
  cases hf : L.find? fun o => decide (z ≤ (o.a : Int)) with
  | none =>
    left
    refine ⟨rfl, fun o ho => ?_⟩
    have := List.find?_eq_none.1 hf o ho
    simpa using this
  | some o =>
    right
    have h1 := List.find?_some hf
    exact ⟨o, List.mem_of_find?_eq_some hf, rfl, by simpa using h1, fun o' ho' hz => next_first hl hf ho' hz⟩
theorem delA_mem {a : Nat} {o : Ob} : o ∈ delA L a ↔ o ∈ L ∧ o.a ≠ a := by
  unfold delA
  rw [List.mem_filter]
  simp
  omega
theorem delA_lay {a : Nat} : ∀ {L : List Ob} {p : Nat}, Lay N p L → Lay N p (delA L a)
  | [], p, h => h
  | o :: L, p, h => by
    have ih := delA_lay (a := a) h.2
    unfold delA at ih ⊢
    by_cases hc : (o.a : Int) = (a : Int)
    · rw [List.filter_cons_of_neg (by simpa using hc)]
      refine ih.mono ?_
      have := h.1
      unfold Ob.fin
      omega
    · rw [List.filter_cons_of_pos (by simpa using hc)]
      exact ⟨h.1, ih⟩
theorem sweep_ok (h : GOk N s) (hp : s.ph = 2) {o : Ob} (ho : o ∈ s.L) (hz : s.pl ≤ o.a) (hfirst : ∀ o' ∈ s.L, s.pl ≤ o'.a → o.a ≤ o'.a) :
    GOk N (sweepG s o.a) ∧ (sweepG s o.a).ph = 2 ∧ (∀ b, col (sweepG s o.a) b = if o.a = b then 0 else col s b) ∧ (∀ x ∈ (sweepG s o.a).L, x ∈ s.L ∧ (x.a = o.a → col s o.a ≠ 0)) ∧ (∀ x ∈ s.L, (x.a = o.a → col s o.a ≠ 0) → x ∈ (sweepG s o.a).L) := by
  have hlt := h.lt ⟨o, ho, rfl⟩
  have hcol : ∀ b, col (sweepG s o.a) b = if o.a = b then 0 else col s b := fun b => col_set (by rw [h.cll]; exact hlt.2)
  have hL : ∀ x, x ∈ (sweepG s o.a).L ↔ x ∈ s.L ∧ (x.a = o.a → col s o.a ≠ 0) := fun x => by
    show x ∈ (if col s o.a = 0 then delA s.L o.a else s.L) ↔ _
    split
    · rename_i hc
      rw [delA_mem]
      exact ⟨fun ⟨h1, h2⟩ => ⟨h1, fun h3 => absurd h3 h2⟩, fun ⟨h1, h2⟩ => ⟨h1, fun h3 => h2 h3 hc⟩⟩
    · rename_i hc
      exact ⟨fun h1 => ⟨h1, fun _ => hc⟩, fun h1 => h1.1⟩
  have hlay : Lay N 1 (sweepG s o.a).L := by
    show Lay N 1 (if col s o.a = 0 then delA s.L o.a else s.L)
    split
    · exact delA_lay h.lay
    · exact h.lay
  obtain ⟨hs1, hs2, hs3⟩ := h.swp hp
  refine ⟨⟨h.n2, hlay, fun x hx => h.kd x ((hL x).1 hx).1, fun x hx => h.us x ((hL x).1 hx).1, h.ph, by show (s.cl.set o.a 0).length = N; rw [List.length_set]; exact h.cll, fun b => ?_, h.grs, fun b => ?_, fun b hb => ?_, fun h0 => ?_, fun _ => ⟨hs1, hlt.2, fun b hb => ?_⟩⟩, hp, hcol, fun x hx => (hL x).1 hx, fun x hx hc => (hL x).2 ⟨hx, hc⟩⟩
  · rw [hcol]; split
    · omega
    · exact h.c3 b
  · show b ∈ s.gr ↔ _
    rw [hs1, hcol]
    constructor
    · intro hb; exact absurd hb (List.not_mem_nil)
    · split
      · omega
      · intro hc
        have := (h.grm b).2 hc
        rw [hs1] at this
        exact this
  · rw [hcol] at hb
    split at hb
    · exact absurd rfl hb
    · rename_i hne
      obtain ⟨x, hx, hxa⟩ := h.obj b hb
      exact ⟨x, (hL x).2 ⟨hx, fun he => absurd (he ▸ hxa) hne⟩, hxa⟩
  · have : s.ph = 0 := h0
    omega
  · rw [hcol]
    split
    · rfl
    · rename_i hne
      have hb' : b < o.a + 1 := hb
      by_cases hbp : b < s.pl
      · exact hs3 b hbp
      · by_cases hc : col s b = 0
        · exact hc
        · obtain ⟨x, hx, hxa⟩ := h.obj b hc
          have := hfirst x hx (by omega)
          omega
theorem idle_ok (h : GOk N s) (hp : s.ph = 2) (hno : ∀ o ∈ s.L, ¬ s.pl ≤ o.a) : GOk N { s with ph := 0 } := by
  obtain ⟨hs1, hs2, hs3⟩ := h.swp hp
  refine ⟨h.n2, h.lay, h.kd, h.us, Nat.zero_le _, h.cll, h.c3, h.grs, h.grm, h.obj, fun _ a => ?_, fun h0 => by cases h0⟩
  show col s a = 0
  by_cases hc : col s a = 0
  · exact hc
  · obtain ⟨x, hx, hxa⟩ := h.obj a hc
    have := hno x hx
    exact hs3 a (by omega)
theorem turn_ok (h : GOk N s) (hp : s.ph = 1) (hg : s.gr = []) : GOk N { s with ph := 2, pl := 0 } :=
  ⟨h.n2, h.lay, h.kd, h.us, Nat.le_refl _, h.cll, h.c3, h.grs, h.grm, h.obj, fun h0 => (by cases h0), fun _ => ⟨hg, Nat.zero_le _, fun a ha => absurd ha (Nat.not_lt_zero _)⟩⟩
theorem begin_pre (h : GOk N s) (hp : s.ph = 0) : GOk N { s with ph := 1 } :=
  ⟨h.n2, h.lay, h.kd, h.us, by show 1 ≤ 2; omega, h.cll, h.c3, h.grs, h.grm, h.obj, fun h0 => (by cases h0), fun h0 => by cases h0⟩
/-- the ways of a step -/
theorem step_cases (h : GOk N s) : (s.ph = 0 ∧ stepG s = (false, s)) ∨ (s.ph = 1 ∧ ∃ a, s.gr.getLast? = some a ∧ stepG s = (false, markG s a)) ∨ (s.ph = 1 ∧ s.gr = [] ∧ stepG s = (false, { s with ph := 2, pl := 0 })) ∨
    (s.ph = 2 ∧ (∀ o ∈ s.L, ¬ s.pl ≤ o.a) ∧ nextA s.L s.pl = 0 ∧ stepG s = (true, { s with ph := 0 })) ∨ (s.ph = 2 ∧ ∃ o ∈ s.L, nextA s.L s.pl = o.a ∧ s.pl ≤ o.a ∧ (∀ o' ∈ s.L, s.pl ≤ o'.a → o.a ≤ o'.a) ∧ stepG s = (false, sweepG s o.a)) := by
  have hp := h.ph
  rcases (by omega : s.ph = 0 ∨ s.ph = 1 ∨ s.ph = 2) with h0 | h0 | h0
  · left
    refine ⟨h0, ?_⟩
    unfold stepG
    rw [if_neg (by omega), if_neg (by omega)]
  · right
    cases hg : s.gr.getLast? with
    | none =>
      right; left
      have : s.gr = [] := List.getLast?_eq_none_iff.1 hg
      refine ⟨h0, this, ?_⟩
      unfold stepG
      rw [if_pos h0, hg]
    | some a =>
      left
      refine ⟨h0, a, rfl, ?_⟩
      unfold stepG
      rw [if_pos h0, hg]
  · right; right; right
    rcases nextA_spec h.lay (s.pl : Int) with ⟨h1, h2⟩ | ⟨o, ho, h1, h2, h3⟩
    · left
      refine ⟨h0, fun o ho hc => h2 o ho (by omega), h1, ?_⟩
      unfold stepG
      rw [if_neg (by omega), if_pos h0, if_pos h1]
    · right
      have hlt := h.lt ⟨o, ho, rfl⟩
      refine ⟨h0, o, ho, h1, by omega, fun o' ho' hz => h3 o' ho' (by omega), ?_⟩
      unfold stepG
      rw [if_neg (by omega), if_pos h0, if_neg (by omega), h1, Int.toNat_natCast]
theorem step_ok (h : GOk N s) : GOk N (stepG s).2 := by
  rcases step_cases h with ⟨h0, e⟩ | ⟨h0, a, ha, e⟩ | ⟨h0, hg, e⟩ | ⟨h0, hno, h1, e⟩ | ⟨h0, o, ho, h1, h2, h3, e⟩ <;> rw [e]
  · exact h
  · exact (mark_ok h h0 ha).1
  · exact turn_ok h h0 hg
  · exact idle_ok h h0 hno
  · exact (sweep_ok h h0 ho h2 h3).1
theorem begin_ok (h : GOk N s) (roots : List Int) : GOk N (beginG s roots).2 := by
  unfold beginG
  split
  · rename_i h0
    exact (shades_ok (s := { s with ph := 1 }) rfl (begin_pre h h0) roots).1
  · exact h
theorem alloc_two (h : Lay N 1 L) (k z : Int) : (∃ e, e ≠ 0 ∧ allocA N L k z = (0, e, L)) ∨ ∃ (A B : List Ob) (kd sz : Nat), k = kd ∧ z = sz ∧ 1 ≤ kd ∧ kd ≤ 6 ∧ sz ≤ 4096 ∧ L = A ++ B ∧ allocA N L k z = (((endA 1 A : Nat) : Int), 0, A ++ newO kd sz (endA 1 A) :: B) ∧ Lay N 1 (A ++ newO kd sz (endA 1 A) :: B) := by
  unfold allocA
  split
  · exact .inl ⟨8, by decide, rfl⟩
  · split
    · exact .inl ⟨2, by decide, rfl⟩
    · have hl : ∀ p, (newO k.toNat z.toNat p).a = p ∧ (newO k.toNat z.toNat p).fs.length = z.toNat := fun p => ⟨rfl, List.length_replicate⟩
      rcases alloc_law hl h with ⟨h1, h2⟩ | ⟨i, at_, n, A, B, h1, h2, h3, h4, h5, h6, h7, h8, h9⟩
      · rw [h2]
        exact .inl ⟨6, by decide, rfl⟩
      · rw [h5]
        subst h8
        exact .inr ⟨A, B, k.toNat, z.toNat, by omega, by omega, by omega, by omega, by omega, h4, rfl, h7⟩
/-- laying an object: it fails, or there is one more, with its colour -/
theorem alloc_ok (h : GOk N s) (k z : Int) : (∃ e, e ≠ 0 ∧ allocG N s k z = (0, e, s)) ∨
    ∃ (s' : GS) (o : Ob), allocG N s k z = ((o.a : Int), 0, s') ∧ GOk N s' ∧ s'.ph = s.ph ∧ s'.pl = s.pl ∧ s'.gr = s.gr ∧ (o.kind : Int) = k ∧ (∀ x ∈ o.fs, x = 1) ∧ ¬ isO s.L o.a ∧ col s o.a = 0 ∧ (∀ x, x ∈ s'.L ↔ x = o ∨ x ∈ s.L) ∧
      (∀ b, b ≠ o.a → col s' b = col s b) ∧ col s' o.a = (if s.ph = 1 ∨ s.ph = 2 ∧ s.pl ≤ o.a then 2 else 0) := by
  unfold allocG
  rcases alloc_two h.lay k z with ⟨e, he, h1⟩ | ⟨A, B, kd, sz, rfl, rfl, hk1, hk2, hsz, hL, h1, h2⟩
  · left
    refine ⟨e, he, ?_⟩
    rw [h1]
    dsimp only
    rw [if_neg he]
  · right
    rw [h1]
    dsimp only
    rw [if_pos rfl]
    have hm := h2.mem (newO kd sz (endA 1 A)) (List.mem_append_right _ (List.mem_cons_self ..))
    have ha : (newO kd sz (endA 1 A)).a = endA 1 A := rfl
    have hk : (newO kd sz (endA 1 A)).kind = kd := rfl
    have hf : (newO kd sz (endA 1 A)).fs = List.replicate sz 1 := rfl
    have hsd := lay_sides h2
    generalize newO kd sz (endA 1 A) = o at *
    unfold Ob.fin at hm
    rw [← ha]
    have hno : ¬ isO s.L o.a := by
      rintro ⟨x, hx, hxa⟩
      rw [hL] at hx
      rcases List.mem_append.1 hx with hx | hx
      · have := hsd.1 x hx
        unfold Ob.fin at this
        omega
      · have := hsd.2.1 x hx
        unfold Ob.fin at this
        omega
    have hc0 : col s o.a = 0 := by
      by_cases hc : col s o.a = 0
      · exact hc
      · exact absurd (h.obj _ hc) hno
    have hLm : ∀ x, x ∈ A ++ o :: B ↔ x = o ∨ x ∈ s.L := fun x => by
      rw [hL]
      simp only [List.mem_append, List.mem_cons]
      constructor
      · rintro (h | h | h)
        · exact .inr (.inl h)
        · exact .inl h
        · exact .inr (.inr h)
      · rintro (h | h | h)
        · exact .inr (.inl h)
        · exact .inl h
        · exact .inr (.inr h)
    rw [Int.toNat_natCast]
    have hcol : ∀ b, col { s with L := A ++ o :: B, cl := if s.ph = 1 ∨ s.ph = 2 ∧ (s.pl : Int) ≤ (o.a : Int) then s.cl.set o.a 2 else s.cl } b = if o.a = b ∧ (s.ph = 1 ∨ s.ph = 2 ∧ s.pl ≤ o.a) then 2 else col s b := fun b => by
      by_cases hc : s.ph = 1 ∨ s.ph = 2 ∧ s.pl ≤ o.a
      · show (if s.ph = 1 ∨ s.ph = 2 ∧ (s.pl : Int) ≤ (o.a : Int) then s.cl.set o.a 2 else s.cl).getD b 0 = _
        rw [if_pos (by omega), col_set (by rw [h.cll]; omega)]
        by_cases hb : o.a = b
        · rw [if_pos hb, if_pos ⟨hb, hc⟩]
        · rw [if_neg hb, if_neg (fun h => hb h.1)]; rfl
      · show (if s.ph = 1 ∨ s.ph = 2 ∧ (s.pl : Int) ≤ (o.a : Int) then s.cl.set o.a 2 else s.cl).getD b 0 = _
        rw [if_neg (by omega), if_neg (fun h => hc h.2)]; rfl
    refine ⟨_, o, rfl, ⟨h.n2, h2, fun x hx => ?_, fun x hx y hy => ?_, h.ph, ?_, fun b => ?_, h.grs, fun b => ?_, fun b hb => ?_, fun h0 b => ?_, fun h0 => ?_⟩, rfl, rfl, rfl, by omega, fun x hx => ?_, hno, hc0, hLm, fun b hb => ?_, ?_⟩
    · rcases (hLm x).1 hx with rfl | hx
      · rw [hk, hf, List.length_replicate]; omega
      · exact h.kd x hx
    · rcases (hLm x).1 hx with rfl | hx
      · rw [hf] at hy
        rw [(List.mem_replicate.1 hy).2]
        exact ⟨by decide, by decide⟩
      · exact h.us x hx y hy
    · show (if s.ph = 1 ∨ s.ph = 2 ∧ (s.pl : Int) ≤ (o.a : Int) then s.cl.set o.a 2 else s.cl).length = N
      split
      · rw [List.length_set]; exact h.cll
      · exact h.cll
    · rw [hcol]; split
      · omega
      · exact h.c3 b
    · rw [hcol]
      show b ∈ s.gr ↔ _
      by_cases hb : o.a = b ∧ (s.ph = 1 ∨ s.ph = 2 ∧ s.pl ≤ o.a)
      · rw [if_pos hb]
        constructor
        · intro hg
          have := (h.grm b).1 hg
          rw [← hb.1] at this
          omega
        · intro hc; omega
      · rw [if_neg hb]
        exact h.grm b
    · rw [hcol] at hb
      split at hb
      · rename_i hh
        exact ⟨o, (hLm o).2 (.inl rfl), hh.1⟩
      · obtain ⟨x, hx, hxa⟩ := h.obj b hb
        exact ⟨x, (hLm x).2 (.inr hx), hxa⟩
    · rw [hcol, if_neg (by have : s.ph = 0 := h0; omega)]
      exact h.idle h0 b
    · obtain ⟨hs1, hs2, hs3⟩ := h.swp h0
      refine ⟨hs1, hs2, fun b hb => ?_⟩
      have hb' : b < s.pl := hb
      rw [hcol, if_neg (by have : s.ph = 2 := h0; omega)]
      exact hs3 b hb'
    · rw [hf] at hx
      exact (List.mem_replicate.1 hx).2
    · rw [hcol, if_neg (fun hh => hb hh.1.symm)]
    · rw [hcol, hc0]
      by_cases hc : s.ph = 1 ∨ s.ph = 2 ∧ s.pl ≤ o.a
      · rw [if_pos ⟨rfl, hc⟩, if_pos hc]
      · rw [if_neg (fun hh => hc hh.2), if_neg hc]
end
end Go.Proofs.Ytdfhajdejlhamaa
namespace Go.Proofs.Ytdfhajdejlhamaa
set_option linter.unusedVariables false
/-- white, behind something grey -/
inductive GP (s : GS) : Nat → Prop
  | grey {a : Nat} : col s a = 1 → GP s a
  | via {a b : Nat} : GP s a → E s.L a b → col s b = 0 → GP s b
/-- what won't be freed -/
def Pt (s : GS) (a : Nat) : Prop := isO s.L a ∧ (s.ph = 0 ∨ (s.ph = 1 ∧ (col s a = 2 ∨ GP s a)) ∨ (s.ph = 2 ∧ (a < s.pl ∨ col s a = 2)))
def kindO (L : List Ob) (a k : Nat) : Prop := ∃ o ∈ L, o.a = a ∧ o.kind = k
/-- how many steps there may be, yet -/
def nb (N : Nat) (s : GS) : Nat := (List.range N).countP fun a => !decide (col s a = 2)
def mu (N : Nat) (s : GS) : Nat := if s.ph = 1 then nb N s + N + 2 else if s.ph = 2 then N + 1 - s.pl else 0
inductive Steps : GS → Nat → GS → Prop
  | done {s : GS} : s.ph = 0 → Steps s 0 s
  | more {s s' : GS} {n : Nat} : s.ph ≠ 0 → Steps (stepG s).2 n s' → Steps s (n + 1) s'
section
variable {N : Nat} {s : GS} {L : List Ob}
theorem Steps.det {s s1 s2 : GS} {n1 n2 : Nat} (h1 : Steps s n1 s1) (h2 : Steps s n2 s2) : n1 = n2 ∧ s1 = s2 := by
  induction h1 generalizing n2 s2 with
  | done h =>
    cases h2 with
    | done _ => exact ⟨rfl, rfl⟩
    | more h' _ => exact absurd h h'
  | more h _ ih =>
    cases h2 with
    | done h' => exact absurd h' h
    | more _ h' =>
      obtain ⟨e1, e2⟩ := ih h'
      exact ⟨by rw [e1], e2⟩
theorem Steps.inv {P : GS → Prop} (hP : ∀ s, P s → s.ph ≠ 0 → P (stepG s).2) {s s' : GS} {n : Nat} (h : Steps s n s') (h0 : P s) : P s' := by
  induction h with
  | done _ => exact h0
  | more hp _ ih => exact ih (hP _ h0 hp)
theorem countP_le2 {α : Type} {p q : α → Bool} : ∀ {l : List α}, (∀ x ∈ l, p x = true → q x = true) → l.countP p ≤ l.countP q
  | [], _ => Nat.le_refl _
  | x :: l, h => by
    have ih := countP_le2 (l := l) fun y hy => h y (List.mem_cons_of_mem _ hy)
    have hx := h x (List.mem_cons_self ..)
    rw [List.countP_cons, List.countP_cons]
    cases hp : p x with
    | false => simp; omega
    | true => rw [hx hp]; simp; omega
theorem countP_lt2 {α : Type} {p q : α → Bool} : ∀ {l : List α}, (∀ x ∈ l, p x = true → q x = true) → (∃ x ∈ l, q x = true ∧ p x = false) → l.countP p < l.countP q
  | [], _, ⟨x, hx, _⟩ => absurd hx (List.not_mem_nil)
  | y :: l, h, ⟨x, hx, h1, h2⟩ => by
    have hle := countP_le2 (l := l) fun z hz => h z (List.mem_cons_of_mem _ hz)
    have hy := h y (List.mem_cons_self ..)
    rw [List.countP_cons, List.countP_cons]
    rcases List.mem_cons.1 hx with rfl | hx
    · rw [h1, h2]; simp; omega
    · have := countP_lt2 (l := l) (fun z hz => h z (List.mem_cons_of_mem _ hz)) ⟨x, hx, h1, h2⟩
      cases hp : p y with
      | false => simp; omega
      | true => rw [hy hp]; simp; omega
theorem step_mu (h : GOk N s) (hp : s.ph ≠ 0) : mu N (stepG s).2 < mu N s := by
  have hn := h.n2
  rcases step_cases h with ⟨h0, e⟩ | ⟨h0, a, ha, e⟩ | ⟨h0, hg, e⟩ | ⟨h0, hno, h1, e⟩ | ⟨h0, o, ho, h1, h2, h3, e⟩ <;> rw [e]
  · exact absurd h0 hp
  · obtain ⟨g1, g2, g3, g4, g5, g6, g7⟩ := mark_ok h h0 ha
    have hlt := h.lt (h.obj a (by omega))
    show mu N (markG s a) < mu N s
    unfold mu
    rw [if_pos g3, if_pos h0]
    have : nb N (markG s a) < nb N s := by
      refine countP_lt2 (fun b _ hb => ?_) ⟨a, List.mem_range.2 hlt.2, by simp [g5], by simp [g6]⟩
      simp only [Bool.not_eq_true', decide_eq_false_iff_not] at hb ⊢
      intro hc
      by_cases hba : b = a
      · subst hba; omega
      · rw [(g7 b hba).1 (by omega)] at hb
        exact hb hc
    omega
  · unfold mu
    rw [if_pos h0]
    show (if (2 : Nat) = 1 then _ else if (2 : Nat) = 2 then N + 1 - 0 else 0) < _
    rw [if_neg (by decide), if_pos rfl]
    omega
  · obtain ⟨hs1, hs2, hs3⟩ := h.swp h0
    have e1 : mu N s = N + 1 - s.pl := by unfold mu; rw [if_neg (by omega), if_pos h0]
    have e2 : mu N { s with ph := 0 } = 0 := rfl
    show mu N { s with ph := 0 } < _
    omega
  · have hlt := h.lt ⟨o, ho, rfl⟩
    have hp2 : (sweepG s o.a).ph = 2 := h0
    have e1 : mu N s = N + 1 - s.pl := by unfold mu; rw [if_neg (by omega), if_pos h0]
    have e2 : mu N (sweepG s o.a) = N + 1 - (o.a + 1) := by unfold mu; rw [if_neg (by omega), if_pos hp2]; rfl
    show mu N (sweepG s o.a) < _
    omega
theorem GP_col {a : Nat} (h : GP s a) : col s a ≤ 1 := by
  cases h with
  | grey h => omega
  | via _ _ h => omega
theorem GP_some {a : Nat} (h : GP s a) : ∃ g, col s g = 1 := by
  induction h with
  | grey h => exact ⟨_, h⟩
  | via _ _ _ ih => exact ih
theorem GP_shade (h : GOk N s) (x : Int) {a : Nat} (hg : GP s a) : GP (shadeG s x) a := by
  have hcol := shade_col h x
  have hL := (shade_L s x).1
  induction hg with
  | grey hc => exact .grey (by rw [hcol, if_neg (by rintro ⟨_, _, _, h0⟩; omega)]; exact hc)
  | @via a b _ hE hc ih =>
    by_cases hh : numW x = false ∧ addrN x = b ∧ isO s.L b ∧ col s b = 0
    · exact .grey (by rw [hcol, if_pos hh])
    · exact .via ih (by rw [hL]; exact hE) (by rw [hcol, if_neg hh]; exact hc)
theorem GP_mark (h : GOk N s) (hp : s.ph = 1) {g : Nat} (hl : s.gr.getLast? = some g) {a : Nat} (hg : GP s a) : col (markG s g) a = 2 ∨ GP (markG s g) a := by
  obtain ⟨g1, g2, g3, g4, g5, g6, g7⟩ := mark_ok h hp hl
  induction hg with
  | @grey a hc =>
    by_cases hag : a = g
    · subst hag; exact .inl g6
    · exact .inr (.grey (by rw [(g7 a hag).1 (by omega)]; exact hc))
  | @via a b hga hE hc ih =>
    have hbg : b ≠ g := fun he => by subst he; omega
    obtain ⟨k1, k2, k3⟩ := g7 b hbg
    by_cases hb : col (markG s g) b = 0
    · rcases ih with h1 | h1
      · have : a = g := by
          by_cases hag : a = g
          · exact hag
          · obtain ⟨j1, j2, j3⟩ := g7 a hag
            have hle := GP_col hga
            by_cases h0 : col s a = 0
            · rcases j2 (by omega) with h4 | ⟨h4, _⟩ <;> omega
            · have := j1 h0; omega
        subst this
        exact absurd hb (k3 hE)
      · exact .inr (.via h1 (by rw [g2]; exact hE) hb)
    · rcases k2 hb with h1 | ⟨h1, _⟩
      · exact absurd hc h1
      · exact .inr (.grey h1)
theorem no_grey (h : GOk N s) (hg : s.gr = []) (a : Nat) : col s a ≠ 1 := fun hc => by
  have := (h.grm a).2 hc
  rw [hg] at this
  exact absurd this (List.not_mem_nil)
theorem Pt_step (h : GOk N s) {a k : Nat} (hP : Pt s a) (hk : kindO s.L a k) : Pt (stepG s).2 a ∧ kindO (stepG s).2.L a k := by
  obtain ⟨hO, hP⟩ := hP
  rcases step_cases h with ⟨h0, e⟩ | ⟨h0, g, ha, e⟩ | ⟨h0, hg, e⟩ | ⟨h0, hno, h1, e⟩ | ⟨h0, o, ho, h1, h2, h3, e⟩ <;> rw [e]
  · exact ⟨⟨hO, hP⟩, hk⟩
  · obtain ⟨g1, g2, g3, g4, g5, g6, g7⟩ := mark_ok h h0 ha
    refine ⟨⟨by rw [g2]; exact hO, .inr (.inl ⟨g3, ?_⟩)⟩, by rw [g2]; exact hk⟩
    rcases hP with hP | ⟨_, hP | hP⟩ | ⟨hP, _⟩
    · omega
    · left
      by_cases hag : a = g
      · subst hag; exact g6
      · rw [(g7 a hag).1 (by omega)]; exact hP
    · exact GP_mark h h0 ha hP
    · omega
  · refine ⟨⟨hO, .inr (.inr ⟨rfl, .inr ?_⟩)⟩, hk⟩
    rcases hP with hP | ⟨_, hP | hP⟩ | ⟨hP, _⟩
    · omega
    · exact hP
    · obtain ⟨x, hx⟩ := GP_some hP
      exact absurd hx (no_grey h hg x)
    · omega
  · exact ⟨⟨hO, .inl rfl⟩, hk⟩
  · obtain ⟨g1, g2, g3, g4, g5⟩ := sweep_ok h h0 ho h2 h3
    have hP' : a < s.pl ∨ col s a = 2 := by
      rcases hP with hP | ⟨hP, _⟩ | ⟨_, hP⟩
      · omega
      · omega
      · exact hP
    have keep : ∀ x ∈ s.L, x.a = a → x ∈ (sweepG s o.a).L := fun x hx hxa => g5 x hx fun he => by
      rcases hP' with hp | hp
      · omega
      · rw [← he, hxa]; omega
    refine ⟨⟨?_, .inr (.inr ⟨g2, ?_⟩)⟩, ?_⟩
    · obtain ⟨x, hx, hxa⟩ := hO
      exact ⟨x, keep x hx hxa, hxa⟩
    · show a < o.a + 1 ∨ _
      rcases hP' with hp | hp
      · exact .inl (by omega)
      · by_cases hao : o.a = a
        · exact .inl (by omega)
        · right
          rw [g3, if_neg hao]
          exact hp
    · obtain ⟨x, hx, hxa, hxk⟩ := hk
      exact ⟨x, keep x hx hxa, hxa, hxk⟩
/-- behind an object that is laid -/
theorem GP_more {s s' : GS} {o : Ob} (hLm : ∀ x, x ∈ s'.L ↔ x = o ∨ x ∈ s.L) (hno : ¬ isO s.L o.a) (hcol : ∀ b, b ≠ o.a → col s' b = col s b) (hc0 : col s o.a = 0) {a : Nat} (hg : GP s a) : GP s' a := by
  induction hg with
  | @grey a hc => exact .grey (by rw [hcol a (fun he => by subst he; omega)]; exact hc)
  | @via a b _ hE hc ih =>
    obtain ⟨h1, x, hx, hxa, h2⟩ := hE
    have hb : b ≠ o.a := fun he => by subst he; exact hno h1
    obtain ⟨y, hy, hya⟩ := h1
    exact .via ih ⟨⟨y, (hLm y).2 (.inr hy), hya⟩, x, (hLm x).2 (.inr hx), hxa, h2⟩ (by rw [hcol b hb]; exact hc)
theorem Pt_alloc (h : GOk N s) (kk z : Int) {a k : Nat} (hP : Pt s a) (hk : kindO s.L a k) : Pt (allocG N s kk z).2.2 a ∧ kindO (allocG N s kk z).2.2.L a k := by
  obtain ⟨hO, hP⟩ := hP
  rcases alloc_ok h kk z with ⟨e, he, h1⟩ | ⟨s', o, h1, h2, h3, h4, h5, h6, h7, h8, h9, h10, h11, h12⟩ <;> rw [h1]
  · exact ⟨⟨hO, hP⟩, hk⟩
  · have hao : a ≠ o.a := fun he => by subst he; exact h8 hO
    refine ⟨⟨?_, ?_⟩, ?_⟩
    · obtain ⟨x, hx, hxa⟩ := hO
      exact ⟨x, (h10 x).2 (.inr hx), hxa⟩
    · show s'.ph = 0 ∨ (s'.ph = 1 ∧ (col s' a = 2 ∨ GP s' a)) ∨ (s'.ph = 2 ∧ (a < s'.pl ∨ col s' a = 2))
      rw [h3, h4, h11 a hao]
      rcases hP with hP | ⟨hp, hP | hP⟩ | hP
      · exact .inl hP
      · exact .inr (.inl ⟨hp, .inl hP⟩)
      · exact .inr (.inl ⟨hp, .inr (GP_more h10 h8 h11 h9 hP)⟩)
      · exact .inr (.inr hP)
    · obtain ⟨x, hx, hxa, hxk⟩ := hk
      exact ⟨x, (h10 x).2 (.inr hx), hxa, hxk⟩
/-- what is laid won't be freed in this cycle -/
theorem Pt_new (h : GOk N s) {kk z : Int} {at_ : Int} {s' : GS} (hal : allocG N s kk z = (at_, 0, s')) : Pt s' at_.toNat ∧ kindO s'.L at_.toNat kk.toNat := by
  rcases alloc_ok h kk z with ⟨e, he, h1⟩ | ⟨s2, o, h1, h2, h3, h4, h5, h6, h7, h8, h9, h10, h11, h12⟩ <;> rw [h1] at hal
  · simp only [Prod.mk.injEq] at hal
    exact absurd hal.2.1 he
  · simp only [Prod.mk.injEq] at hal
    obtain ⟨rfl, -, rfl⟩ := hal
    rw [Int.toNat_natCast]
    have hm := (h10 o).2 (.inl rfl)
    refine ⟨⟨⟨o, hm, rfl⟩, ?_⟩, ⟨o, hm, rfl, by omega⟩⟩
    have hp := h.ph
    rw [h3, h4, h12]
    rcases (by omega : s.ph = 0 ∨ s.ph = 1 ∨ s.ph = 2) with h0 | h0 | h0
    · exact .inl h0
    · exact .inr (.inl ⟨h0, .inl (by rw [if_pos (.inl h0)])⟩)
    · refine .inr (.inr ⟨h0, ?_⟩)
      by_cases hc : s.pl ≤ o.a
      · exact .inr (by rw [if_pos (.inr ⟨h0, hc⟩)])
      · exact .inl (by omega)
end
end Go.Proofs.Ytdfhajdejlhamaa
namespace Go.Proofs.Ytdfhajdejlhamaa
set_option linter.unusedVariables false
section
variable {N : Nat} {s : GS} {L : List Ob}
theorem get_cases (hl : Lay N 1 L) (z i : Int) (x : Int) : (∃ e, e ≠ 0 ∧ getA L z i = (0, e) ∧ setA L z i x = (e, L)) ∨ ∃ (o : Ob) (j : Nat) (y : Int), o ∈ L ∧ z = (o.a : Int) ∧ i = (j : Int) ∧ o.fs[j]? = some y ∧ getA L z i = (y, 0) ∧ setA L z i x = (0, setL L o.a j x) := by
  unfold getA setA
  cases ho : objA L z with
  | none => exact .inl ⟨7, by decide, rfl, rfl⟩
  | some o =>
    obtain ⟨h1, h2⟩ := objA_some ho
    dsimp only
    by_cases hir : 0 ≤ i ∧ i < (o.fs.length : Int)
    · rw [if_pos hir, if_pos hir]
      obtain ⟨j, rfl⟩ : ∃ j : Nat, i = j := ⟨i.toNat, by omega⟩
      obtain ⟨y, hy⟩ : ∃ y, o.fs[j]? = some y := ⟨_, List.getElem?_eq_getElem (by omega)⟩
      right
      refine ⟨o, j, y, h1, h2.symm, rfl, hy, ?_, ?_⟩
      · rw [Int.toNat_natCast, List.getD_eq_getElem?_getD, hy]; rfl
      · rw [Int.toNat_natCast, ← h2]
    · rw [if_neg hir, if_neg hir]
      exact .inl ⟨2, by decide, rfl, rfl⟩
theorem setL_mem {z : Int} {j : Nat} {v : Int} {x : Ob} : x ∈ setL L z j v ↔ ∃ y ∈ L, x = if (y.a : Int) = z then { y with fs := y.fs.set j v } else y := by
  unfold setL
  rw [List.mem_map]
  exact ⟨fun ⟨y, h1, h2⟩ => ⟨y, h1, h2.symm⟩, fun ⟨y, h1, h2⟩ => ⟨y, h1, h2.symm⟩⟩
theorem setL_a {z : Int} {j : Nat} {v : Int} (y : Ob) : (if (y.a : Int) = z then { y with fs := y.fs.set j v } else y).a = y.a ∧ (if (y.a : Int) = z then { y with fs := y.fs.set j v } else y).kind = y.kind ∧ (if (y.a : Int) = z then { y with fs := y.fs.set j v } else y).fs.length = y.fs.length := by
  split <;> simp
theorem isO_set {z : Int} {j : Nat} {v : Int} {a : Nat} : isO (setL L z j v) a ↔ isO L a := by
  constructor
  · rintro ⟨x, hx, hxa⟩
    obtain ⟨y, hy, rfl⟩ := setL_mem.1 hx
    exact ⟨y, hy, by rw [← hxa]; exact (setL_a y).1.symm⟩
  · rintro ⟨y, hy, hya⟩
    exact ⟨_, setL_mem.2 ⟨y, hy, rfl⟩, by rw [(setL_a y).1]; exact hya⟩
theorem kindO_set {z : Int} {j : Nat} {v : Int} {a k : Nat} (h : kindO L a k) : kindO (setL L z j v) a k := by
  obtain ⟨y, hy, hya, hyk⟩ := h
  exact ⟨_, setL_mem.2 ⟨y, hy, rfl⟩, by rw [(setL_a y).1]; exact hya, by rw [(setL_a y).2.1]; exact hyk⟩
theorem E_set_old (hl : Lay N 1 L) {o : Ob} (ho : o ∈ L) {j : Nat} {v y : Int} (hy : o.fs[j]? = some y) {a b : Nat} (h : E L a b) : E (setL L o.a j v) a b ∨ (a = o.a ∧ o.kind ≠ 1 ∧ numW y = false ∧ addrN y = b) := by
  obtain ⟨h1, p, hp, hpa, hpk, x, hx, hxn, hxb⟩ := h
  by_cases hpo : p.a = o.a
  · obtain rfl := hl.inj p hp o ho hpo
    obtain ⟨k, hk⟩ := List.getElem?_of_mem hx
    by_cases hkj : k = j
    · subst hkj
      rw [hy] at hk
      obtain rfl := Option.some.inj hk
      exact .inr ⟨hpa.symm, hpk, hxn, hxb⟩
    · left
      refine ⟨isO_set.2 h1, _, setL_mem.2 ⟨p, hp, rfl⟩, by rw [(setL_a p).1]; exact hpa, by rw [(setL_a p).2.1]; exact hpk, x, ?_, hxn, hxb⟩
      rw [if_pos rfl]
      refine List.mem_of_getElem? (i := k) ?_
      show (p.fs.set j v)[k]? = some x
      rw [List.getElem?_set_ne (by omega), hk]
  · left
    refine ⟨isO_set.2 h1, p, setL_mem.2 ⟨p, hp, by rw [if_neg (by omega)]⟩, hpa, hpk, x, hx, hxn, hxb⟩
/-- a write: it fails, or there is what was shaded, and the field -/
theorem write_cases (h : GOk N s) (z i x : Int) : (∃ e, e ≠ 0 ∧ writeG s z i x = (e, s)) ∨ ∃ (o : Ob) (j : Nat) (y : Int) (s1 : GS), o ∈ s.L ∧ z = (o.a : Int) ∧ i = (j : Int) ∧ o.fs[j]? = some y ∧
    s1 = (if s.ph = 1 ∧ o.kind ≠ 1 then shadeG s y else s) ∧ writeG s z i x = (0, { s1 with L := setL s.L o.a j x }) := by
  unfold writeG
  rcases get_cases h.lay z i x with ⟨e, he, h1, h2⟩ | ⟨o, j, y, ho, rfl, rfl, hy, h1, h2⟩
  · left
    rw [h1]
    dsimp only
    rw [if_neg he]
    exact ⟨e, he, rfl⟩
  · right
    rw [h1, h2]
    dsimp only
    rw [if_pos rfl, Int.toNat_natCast, (fsA_at h.lay ho).2]
    exact ⟨o, j, y, _, ho, rfl, rfl, hy, rfl, rfl⟩
theorem shaded_ok (h : GOk N s) {o : Ob} {y : Int} {s1 : GS} (h1 : s1 = (if s.ph = 1 ∧ o.kind ≠ 1 then shadeG s y else s)) : GOk N s1 ∧ s1.L = s.L ∧ s1.ph = s.ph ∧ s1.pl = s.pl := by
  subst h1
  split
  · rename_i hc
    obtain ⟨e1, e2, e3, e4⟩ := shade_L s y
    exact ⟨shade_gr h hc.1 y, e1, e2, e3⟩
  · exact ⟨h, rfl, rfl, rfl⟩
theorem set_ok {s1 : GS} (h : GOk N s1) {z : Int} {j : Nat} {x : Int} (hU : U x) : GOk N { s1 with L := setL s1.L z j x } where
  n2 := h.n2
  lay := (alike_set z j x).lay.2 h.lay
  kd := fun o ho => by
    obtain ⟨y, hy, rfl⟩ := setL_mem.1 ho
    rw [(setL_a y).2.1, (setL_a y).2.2]
    exact h.kd y hy
  us := fun o ho u hu => by
    obtain ⟨y, hy, rfl⟩ := setL_mem.1 ho
    split at hu
    · rcases List.mem_or_eq_of_mem_set hu with h3 | h3
      · exact h.us y hy u h3
      · subst h3; exact hU
    · exact h.us y hy u hu
  ph := h.ph
  cll := h.cll
  c3 := h.c3
  grs := h.grs
  grm := h.grm
  obj := fun a ha => isO_set.2 (h.obj a ha)
  idle := h.idle
  swp := h.swp
theorem write_ok (h : GOk N s) (z i : Int) {x : Int} (hU : U x) : GOk N (writeG s z i x).2 ∧ (writeG s z i x).2.ph = s.ph ∧ (writeG s z i x).2.pl = s.pl := by
  rcases write_cases h z i x with ⟨e, he, h1⟩ | ⟨o, j, y, s1, ho, rfl, rfl, hy, h1, h2⟩
  · rw [h1]; exact ⟨h, rfl, rfl⟩
  · rw [h2]
    obtain ⟨k1, k2, k3, k4⟩ := shaded_ok h h1
    rw [← k2]
    exact ⟨set_ok k1 hU, k3, k4⟩
theorem GP_set (h : GOk N s) {o : Ob} {j : Nat} {y x : Int} {s1 : GS} (ho : o ∈ s.L) (hy : o.fs[j]? = some y) (h1 : s1 = (if s.ph = 1 ∧ o.kind ≠ 1 then shadeG s y else s)) (h0 : s.ph = 1) {a : Nat} (hP : GP s1 a) : GP { s1 with L := setL s.L o.a j x } a := by
  obtain ⟨k1, k2, k3, k4⟩ := shaded_ok h h1
  induction hP with
  | grey hc => exact .grey hc
  | @via a b _ hE hc ih =>
    rw [k2] at hE
    rcases E_set_old (v := x) h.lay ho hy hE with hE' | ⟨e1, e2, e3, e4⟩
    · exact .via ih hE' hc
    · exfalso
      subst h1
      rw [if_pos ⟨h0, e2⟩, shade_col h] at hc
      split at hc
      · cases hc
      · rename_i hh
        exact hh ⟨e3, e4, hE.1, hc⟩
theorem Pt_write (h : GOk N s) (z i x : Int) {a k : Nat} (hP : Pt s a) (hk : kindO s.L a k) : Pt (writeG s z i x).2 a ∧ kindO (writeG s z i x).2.L a k := by
  rcases write_cases h z i x with ⟨e, he, h1⟩ | ⟨o, j, y, s1, ho, rfl, rfl, hy, h1, h2⟩
  · rw [h1]; exact ⟨hP, hk⟩
  · rw [h2]
    obtain ⟨k1, k2, k3, k4⟩ := shaded_ok h h1
    refine ⟨⟨isO_set.2 hP.1, ?_⟩, kindO_set hk⟩
    show s1.ph = 0 ∨ (s1.ph = 1 ∧ (col s1 a = 2 ∨ GP { s1 with L := setL s.L o.a j x } a)) ∨ (s1.ph = 2 ∧ (a < s1.pl ∨ col s1 a = 2))
    rcases hP.2 with h0 | ⟨h0, hP⟩ | ⟨h0, hP⟩
    · exact .inl (k3.trans h0)
    · right; left
      refine ⟨k3.trans h0, ?_⟩
      rcases hP with hP | hP
      · left
        subst h1
        split
        · rw [shade_col h, if_neg (by rintro ⟨_, _, _, h0⟩; omega)]; exact hP
        · exact hP
      · right
        have hP1 : GP s1 a := by
          subst h1
          split
          · exact GP_shade h y hP
          · exact hP
        exact GP_set h ho hy h1 h0 hP1
    · right; right
      refine ⟨k3.trans h0, ?_⟩
      rw [k4]
      rw [if_neg (by omega)] at h1
      subst h1
      exact hP
end
end Go.Proofs.Ytdfhajdejlhamaa
namespace Go.Proofs.Ytdfhajdejlhamaa
set_option linter.unusedVariables false
/-- what words reach -/
inductive Rc (L : List Ob) (roots : List Int) : Nat → Prop
  | root {x : Int} : x ∈ roots → numW x = false → isO L (addrN x) → Rc L roots (addrN x)
  | step {a b : Nat} : Rc L roots a → E L a b → Rc L roots b
structure Fr (s : GS) (S : Nat → Prop) : Prop where
  cols : ∀ a, col s a ≠ 0 → S a
  swp : s.ph = 2 → ∀ a, isO s.L a → a < s.pl → S a
  idl : s.ph = 0 → ∀ a, isO s.L a → S a
  cls : ∀ a b, S a → E s.L a b → S b
section
variable {N : Nat} {s : GS} {L : List Ob}
theorem begin_facts (h : GOk N s) (hp : s.ph = 0) (roots : List Int) : ∃ s', beginG s roots = (0, s') ∧ GOk N s' ∧ s'.ph = 1 ∧ s'.L = s.L ∧ s'.pl = s.pl ∧ (∀ a, col s' a = 0 ∨ (col s' a = 1 ∧ isO s.L a ∧ ∃ x ∈ roots, numW x = false ∧ addrN x = a)) ∧
    ∀ a, isO s.L a → (∃ x ∈ roots, numW x = false ∧ addrN x = a) → col s' a = 1 := by
  obtain ⟨g1, g2, g3, g4, g5⟩ := shades_ok (s := { s with ph := 1 }) rfl (begin_pre h hp) roots
  have h0 : ∀ a, col { s with ph := 1 } a = 0 := h.idle hp
  refine ⟨_, by unfold beginG; rw [if_pos hp], g1, g3, g2, g4, fun a => ?_, fun a hO hx => ?_⟩
  · by_cases hc : col (roots.foldl shadeG { s with ph := 1 }) a = 0
    · exact .inl hc
    · rcases (g5 a).2.1 hc with h1 | h1
      · exact absurd (h0 a) h1
      · exact .inr h1
  · have hc := (g5 a).2.2 hO hx
    rcases (g5 a).2.1 hc with h1 | h1
    · exact absurd (h0 a) h1
    · exact h1.1
theorem Pt_begin (h : GOk N s) (hp : s.ph = 0) (roots : List Int) {a k : Nat} (hr : Rc s.L roots a) (hk : kindO s.L a k) : Pt (beginG s roots).2 a ∧ kindO (beginG s roots).2.L a k := by
  obtain ⟨s', e, g1, g2, g3, g4, g5, g6⟩ := begin_facts h hp roots
  rw [e]
  have hG : GP s' a := by
    clear hk
    induction hr with
    | @root x hx hn hO => exact .grey (g6 _ hO ⟨x, hx, hn, rfl⟩)
    | @step a b _ hE ih =>
      rcases g5 b with h0 | h0
      · exact .via ih (by rw [g3]; exact hE) h0
      · exact .grey h0.1
  have hO : isO s.L a := by obtain ⟨o, h1, h2, _⟩ := hk; exact ⟨o, h1, h2⟩
  exact ⟨⟨by show isO s'.L a; rw [g3]; exact hO, .inr (.inl ⟨g2, .inr hG⟩)⟩, by show kindO s'.L a k; rw [g3]; exact hk⟩
theorem Fr_begin (h : GOk N s) (hp : s.ph = 0) {roots : List Int} {S : Nat → Prop} (h1 : ∀ x ∈ roots, numW x = false → isO s.L (addrN x) → S (addrN x)) (h2 : ∀ a b, S a → E s.L a b → S b) : Fr (beginG s roots).2 S := by
  obtain ⟨s', e, g1, g2, g3, g4, g5, g6⟩ := begin_facts h hp roots
  rw [e]
  refine ⟨fun a ha => ?_, fun h0 => ?_, fun h0 => ?_, fun a b ha hE => h2 a b ha (by rw [← g3]; exact hE)⟩
  · rcases g5 a with h0 | ⟨h0, h3, x, hx, hn, rfl⟩
    · exact absurd h0 ha
    · exact h1 x hx hn h3
  · have : s'.ph = 2 := h0
    omega
  · have : s'.ph = 0 := h0
    omega
theorem Fr_step (h : GOk N s) {S : Nat → Prop} (hF : Fr s S) : Fr (stepG s).2 S := by
  rcases step_cases h with ⟨h0, e⟩ | ⟨h0, g, ha, e⟩ | ⟨h0, hg, e⟩ | ⟨h0, hno, h1, e⟩ | ⟨h0, o, ho, h1, h2, h3, e⟩ <;> rw [e]
  · exact hF
  · obtain ⟨g1, g2, g3, g4, g5, g6, g7⟩ := mark_ok h h0 ha
    refine ⟨fun a hc => ?_, fun hp => ?_, fun hp => ?_, fun a b hS hE => hF.cls a b hS (by rw [← g2]; exact hE)⟩
    · by_cases hag : a = g
      · subst hag; exact hF.cols a (by omega)
      · rcases (g7 a hag).2.1 hc with h4 | ⟨h4, h5⟩
        · exact hF.cols a h4
        · exact hF.cls g a (hF.cols g (by omega)) h5
    · have : (markG s g).ph = 2 := hp
      omega
    · have : (markG s g).ph = 0 := hp
      omega
  · exact ⟨hF.cols, fun _ a _ hl => absurd hl (Nat.not_lt_zero _), fun hp => (by cases hp), hF.cls⟩
  · exact ⟨hF.cols, fun hp => (by cases hp), fun _ a hO => hF.swp h0 a hO (by obtain ⟨x, hx, hxa⟩ := hO; have := hno x hx; omega), hF.cls⟩
  · obtain ⟨g1, g2, g3, g4, g5⟩ := sweep_ok h h0 ho h2 h3
    refine ⟨fun a hc => ?_, fun _ a hO hl => ?_, fun hp => ?_, fun a b hS hE => hF.cls a b hS ?_⟩
    · rw [g3] at hc
      split at hc
      · exact absurd rfl hc
      · exact hF.cols a hc
    · obtain ⟨x, hx, hxa⟩ := hO
      obtain ⟨k1, k2⟩ := g4 x hx
      have hl' : a < o.a + 1 := hl
      by_cases hp : a < s.pl
      · exact hF.swp h0 a ⟨x, k1, hxa⟩ hp
      · have := h3 x k1 (by omega)
        have hao : x.a = o.a := by omega
        exact hF.cols a (by rw [← hxa, hao]; exact k2 hao)
    · have : (sweepG s o.a).ph = 0 := hp
      omega
    · obtain ⟨⟨y, hy, hyb⟩, x, hx, hxa, h4⟩ := hE
      exact ⟨⟨y, (g4 y hy).1, hyb⟩, x, (g4 x hx).1, hxa, h4⟩
/-! ## what a program holds -/
end
end Go.Proofs.Ytdfhajdejlhamaa
namespace Go.Proofs.Ytdfhajdejlhamaa
set_option linter.unusedVariables false
/-- a cycle's end -/
def finG : Nat → GS → GS
  | 0, s => s
  | k + 1, s => if s.ph = 0 then s else finG k (stepG s).2
structure SS where
  s : GS
  cy : Nat
def endS (N : Nat) (g : SS) : SS := if g.s.ph = 0 then g else ⟨finG (2 * N + 2) g.s, g.cy + 1⟩
def tryS (r : Int × Int × GS) (cy : Nat) : Int × Int × SS := (if r.2.1 = 0 then 2 * r.1 else 0, r.2.1, ⟨r.2.2, cy⟩)
def begS (g : SS) (roots : List Int) : SS := ⟨(beginG g.s roots).2, g.cy⟩
def allocS (N : Nat) (g : SS) (k z : Int) (roots : List Int) : Int × Int × SS :=
  if (allocG N g.s k z).2.1 ≠ 6 then tryS (allocG N g.s k z) g.cy else
  if (allocG N (endS N g).s k z).2.1 ≠ 6 then tryS (allocG N (endS N g).s k z) (endS N g).cy else
  tryS (allocG N (endS N (begS (endS N g) roots)).s k z) (endS N (begS (endS N g) roots)).cy
def pickS (g : SS) (roots : List Int) : SS := if g.s.ph = 0 then begS g roots else ⟨(stepG g.s).2, if (stepG g.s).1 = true then g.cy + 1 else g.cy⟩
def writeS (g : SS) (z i x : Int) : Int × SS := ((writeG g.s z i x).1, ⟨(writeG g.s z i x).2, g.cy⟩)
section
variable {N : Nat} {s : GS} {g : SS}
theorem mu_two (N : Nat) (s : GS) : mu N s ≤ 2 * N + 2 := by
  have h1 : nb N s ≤ N := by
    have := List.countP_le_length (p := fun a => !decide (col s a = 2)) (l := List.range N)
    rw [List.length_range] at this
    exact this
  unfold mu
  split
  · omega
  · split <;> omega
theorem mu_zero (h : GOk N s) (hm : mu N s = 0) : s.ph = 0 := by
  have hp := h.ph
  have h2 : s.ph = 2 → s.pl ≤ N := fun h2 => by
    have := (h.swp h2).2.1
    omega
  unfold mu at hm
  split at hm
  · omega
  · split at hm
    · have := h2 (by assumption); omega
    · omega
theorem fin_steps : ∀ (k : Nat) {s : GS}, GOk N s → mu N s ≤ k → ∃ n, Steps s n (finG k s)
  | 0, s, h, hk => ⟨0, .done (mu_zero h (by omega))⟩
  | k + 1, s, h, hk => by
    unfold finG
    split
    · exact ⟨0, .done (by assumption)⟩
    · rename_i hp
      have := step_mu h hp
      obtain ⟨n, hn⟩ := fin_steps k (step_ok h) (by omega)
      exact ⟨n + 1, .more hp hn⟩
theorem fin_all (h : GOk N s) : ∃ n, Steps s n (finG (2 * N + 2) s) := fin_steps _ h (mu_two N s)
theorem Steps.same {s1 : GS} {n : Nat} (h : GOk N s) (h1 : Steps s n s1) : s1 = finG (2 * N + 2) s := by
  obtain ⟨m, h2⟩ := fin_all h
  exact (h1.det h2).2
theorem end_inv {P : GS → Prop} (h : GOk N g.s) (h0 : P g.s) (hP : ∀ s, GOk N s → P s → P (stepG s).2) : P (endS N g).s := by
  unfold endS
  split
  · exact h0
  · obtain ⟨n, hn⟩ := fin_all h
    exact (hn.inv (P := fun t => GOk N t ∧ P t) (fun t ⟨h1, h2⟩ _ => ⟨step_ok h1, hP t h1 h2⟩) ⟨h, h0⟩).2
theorem end_ok (h : GOk N g.s) : GOk N (endS N g).s := end_inv h h fun t h1 _ => step_ok h1
theorem begS_ok (h : GOk N g.s) (roots : List Int) : GOk N (begS g roots).s := begin_ok h roots
theorem alloc_err (h : GOk N s) {k z : Int} (he : (allocG N s k z).2.1 ≠ 0) : (allocG N s k z).2.2 = s ∧ (allocG N s k z).1 = 0 := by
  rcases alloc_ok h k z with ⟨e, h1, h2⟩ | ⟨s', o, h1, _⟩
  · rw [h2]; exact ⟨rfl, rfl⟩
  · rw [h1] at he; exact absurd rfl he
/-- what holds at each trial holds of the whole -/
theorem allocS_inv {P : GS → Prop} (h : GOk N g.s) (h0 : P g.s) (hst : ∀ s, GOk N s → P s → P (stepG s).2) (roots : List Int) (hb : ∀ s, GOk N s → P s → P (beginG s roots).2) (k z : Int) :
    ∃ g2 : SS, GOk N g2.s ∧ P g2.s ∧ allocS N g k z roots = tryS (allocG N g2.s k z) g2.cy := by
  unfold allocS
  split
  · exact ⟨g, h, h0, rfl⟩
  split
  · exact ⟨_, end_ok h, end_inv h h0 hst, rfl⟩
  · exact ⟨_, end_ok (begS_ok (end_ok h) roots), end_inv (begS_ok (end_ok h) roots) (hb _ (end_ok h) (end_inv h h0 hst)) hst, rfl⟩
theorem pickS_inv {P : GS → Prop} (h : GOk N g.s) (h0 : P g.s) (hst : ∀ s, GOk N s → P s → P (stepG s).2) (roots : List Int) (hb : ∀ s, GOk N s → P s → P (beginG s roots).2) : GOk N (pickS g roots).s ∧ P (pickS g roots).s := by
  unfold pickS
  split
  · exact ⟨begS_ok h roots, hb _ h h0⟩
  · exact ⟨step_ok h, hst _ h h0⟩
theorem allocS_ok (h : GOk N g.s) (k z : Int) (roots : List Int) : GOk N (allocS N g k z roots).2.2.s := by
  obtain ⟨g2, h1, -, h2⟩ := allocS_inv (P := fun _ => True) h trivial (fun _ _ _ => trivial) roots (fun _ _ _ => trivial) k z
  rw [h2]
  show GOk N (allocG N g2.s k z).2.2
  rcases alloc_ok h1 k z with ⟨e, h3, h4⟩ | ⟨s', o, h3, h4, _⟩
  · rw [h4]; exact h1
  · rw [h3]; exact h4
theorem pickS_ok (h : GOk N g.s) (roots : List Int) : GOk N (pickS g roots).s := (pickS_inv (P := fun _ => True) h trivial (fun _ _ _ => trivial) roots (fun _ _ _ => trivial)).1
end
end Go.Proofs.Ytdfhajdejlhamaa
namespace Go.Proofs.Ytdfhajdejlhamaa
set_option linter.unusedVariables false
/-- bytes as one number, the first one least -/
def chunk : List Nat → Nat
  | [] => 0
  | b :: l => b + 256 * chunk l
theorem chunk_snoc (l : List Nat) (b : Nat) : chunk (l ++ [b]) = chunk l + b * 256 ^ l.length := by
  induction l with
  | nil => simp [chunk]
  | cons a l ih =>
    rw [List.cons_append, chunk, chunk, ih, List.length_cons, Nat.pow_succ, Nat.mul_add, ← Nat.add_assoc]
    congr 1
    rw [Nat.mul_comm (256 ^ l.length) 256, ← Nat.mul_assoc, ← Nat.mul_assoc, Nat.mul_comm b 256]
theorem chunk_lt : ∀ {l : List Nat}, (∀ b ∈ l, b < 256) → chunk l < 256 ^ l.length
  | [], _ => by simp [chunk]
  | b :: l, h => by
    have h1 := chunk_lt (l := l) fun x hx => h x (List.mem_cons_of_mem _ hx)
    have h2 := h b (List.mem_cons_self ..)
    rw [chunk, List.length_cons, Nat.pow_succ]
    omega
theorem chunk_at : ∀ {l : List Nat} {k b : Nat}, (∀ b ∈ l, b < 256) → l[k]? = some b → chunk l / 256 ^ k % 256 = b
  | [], k, b, _, h => by simp at h
  | a :: l, 0, b, hl, h => by
    have h2 := hl a (List.mem_cons_self ..)
    obtain rfl : a = b := by simpa using h
    rw [chunk, Nat.pow_zero, Nat.div_one]
    omega
  | a :: l, k + 1, b, hl, h => by
    have h2 := hl a (List.mem_cons_self ..)
    have ih := chunk_at (l := l) (k := k) (b := b) (fun x hx => hl x (List.mem_cons_of_mem _ hx)) (by simpa using h)
    rw [chunk, Nat.pow_succ, Nat.mul_comm (256 ^ k) 256, ← Nat.div_div_eq_div_mul]
    rw [show (a + 256 * chunk l) / 256 = chunk l by omega]
    exact ih
/-- how many words hold so many bytes -/
def nW (n : Nat) : Nat := (n + 7) / 8
/-- the bytes of a word -/
def part (t : List Nat) (j : Nat) : List Nat := (t.drop (8 * j)).take 8
def wrd (t : List Nat) (j : Nat) : Int := (chunk (part t j) : Nat)
/-- a text's fields -/
def txt (t : List Nat) : List Int := (2 * (t.length : Int) + 1) :: (List.range (nW t.length)).map (wrd t)
theorem part_lt {t : List Nat} (h : ∀ b ∈ t, b < 256) (j : Nat) : ∀ b ∈ part t j, b < 256 := fun b hb => h b (List.mem_of_mem_drop (List.mem_of_mem_take hb))
theorem part_len (t : List Nat) (j : Nat) : (part t j).length ≤ 8 := by unfold part; rw [List.length_take]; omega
theorem wrd_U {t : List Nat} (h : ∀ b ∈ t, b < 256) (j : Nat) : 0 ≤ wrd t j ∧ wrd t j < 18446744073709551616 := by
  have h1 := chunk_lt (part_lt h j)
  have h2 := part_len t j
  have h3 : 256 ^ (part t j).length ≤ 256 ^ 8 := Nat.pow_le_pow_right (by decide) h2
  unfold wrd
  have : (256 : Nat) ^ 8 = 18446744073709551616 := by decide
  omega
theorem txt_len (t : List Nat) : (txt t).length = 1 + nW t.length := by unfold txt; simp; omega
/-- a text's byte, read back -/
theorem wrd_at {t : List Nat} (h : ∀ b ∈ t, b < 256) {i b : Nat} (hb : t[i]? = some b) : wrd t (i / 8) / 256 ^ (i % 8) % 256 = (b : Int) := by
  have h1 := chunk_at (part_lt h (i / 8)) (k := i % 8) (b := b) (by
    unfold part
    rw [List.getElem?_take_of_lt (by omega), List.getElem?_drop]
    rw [show 8 * (i / 8) + i % 8 = i by omega]
    exact hb)
  unfold wrd
  have : ((chunk (part t (i / 8)) / 256 ^ (i % 8) % 256 : Nat) : Int) = (chunk (part t (i / 8)) : Int) / 256 ^ (i % 8) % 256 := by
    rw [Int.natCast_emod, Int.natCast_ediv, Int.natCast_pow]
    rfl
  rw [← this, h1]
theorem txt_at {t : List Nat} {j : Nat} (h : j < nW t.length) : (txt t)[1 + j]? = some (wrd t j) := by
  unfold txt
  rw [Nat.add_comm, List.getElem?_cons_succ, List.getElem?_map, List.getElem?_range h]
  rfl
end Go.Proofs.Ytdfhajdejlhamaa
namespace Go.Fw
open Go Go.RowKit
set_option linter.unusedVariables false

/-! ## slots -/
def lk : List (Nat × Value) → Nat → Option Value
  | [], _ => none
  | (i, v) :: l, j => cond (Nat.beq i j) (some v) (lk l j)

def nth {α : Type} : List α → Nat → Option α
  | [], _ => none
  | x :: _, 0 => some x
  | _ :: l, i + 1 => nth l i
theorem nth_eq {α : Type} : ∀ (l : List α) (i : Nat), nth l i = l[i]?
  | [], i => by simp [nth]
  | x :: l, 0 => rfl
  | x :: l, i + 1 => by simpa [nth] using nth_eq l i

def ev (l : List (Nat × Value)) : Operand → Option Value
  | .tmp t => lk l t
  | .const v => some v
  | .global g => some (.pointer (some ⟨g, 0, none⟩))
  | .func f => some (.func (.func f) #[] #[])

def evL (l : List (Nat × Value)) : List Operand → Option (List Value)
  | [] => some []
  | x :: xs => match ev l x, evL l xs with
    | some v, some vs => some (v :: vs)
    | _, _ => none

structure Sl (N : Nat) (l : List (Nat × Value)) (a : Act) : Prop where
  defers : a.defers = []
  size : a.tmps.size = N
  get : ∀ i v, lk l i = some v → a.tmps[i]? = some v

theorem Sl.ev {N : Nat} {l : List (Nat × Value)} {a : Act} (h : Sl N l a) {x : Operand} {v : Value} (hx : ev l x = some v) : a.eval x = v := by
  cases x with
  | tmp t =>
    have := h.get t v hx
    simp [Act.eval, this, Array.getD_eq_getD_getElem?]
  | const c => simpa [Fw.ev, Act.eval] using hx
  | global g => simpa [Fw.ev, Act.eval] using hx
  | func f => simpa [Fw.ev, Act.eval] using hx

theorem Sl.evL {N : Nat} {l : List (Nat × Value)} {a : Act} (h : Sl N l a) : ∀ {xs : List Operand} {vs : List Value}, evL l xs = some vs → xs.map a.eval = vs
  | [], vs, hx => by simpa [Fw.evL] using hx
  | x :: xs, vs, hx => by
    simp only [Fw.evL] at hx
    split at hx
    · rename_i v vs' h1 h2
      obtain rfl : v :: vs' = vs := by simpa using hx
      simp [h.ev h1, h.evL h2]
    · cases hx

theorem Sl.put {N : Nat} {l : List (Nat × Value)} {a : Act} (h : Sl N l a) {d : Nat} (hd : d < N) (v : Value) : Sl N ((d, v) :: l) (a.put (some d) v) := by
  refine ⟨h.defers, by simp [Act.put, h.size], fun i u hi => ?_⟩
  simp only [lk] at hi
  simp only [Act.put]
  by_cases hdi : d = i
  · subst hdi
    simp at hi
    subst hi
    simp [h.size, hd]
  · have hb : Nat.beq d i = false := by
      cases hb : Nat.beq d i with
      | false => rfl
      | true => exact absurd (Nat.eq_of_beq_eq_true hb) hdi
    simp only [hb, cond_false] at hi
    rw [Array.getElem?_setIfInBounds_ne hdi]
    exact h.get i u hi

/-- each pair of the second list is found in the first -/
def Subs (l : List (Nat × Value)) : List (Nat × Value) → Prop
  | [] => True
  | (i, v) :: r => lk l i = some v ∧ Subs l r

theorem Subs.get {l : List (Nat × Value)} : ∀ {r : List (Nat × Value)}, Subs l r → ∀ i v, lk r i = some v → lk l i = some v
  | [], _, i, v, h => by simp [lk] at h
  | (j, u) :: r, hs, i, v, h => by
    simp only [lk] at h
    by_cases hji : j = i
    · subst hji
      simp at h
      subst h
      exact hs.1
    · have hb : Nat.beq j i = false := by
        cases hb : Nat.beq j i with
        | false => rfl
        | true => exact absurd (Nat.eq_of_beq_eq_true hb) hji
      simp only [hb, cond_false] at h
      exact hs.2.get i v h

theorem Sl.sub {N : Nat} {l r : List (Nat × Value)} {a : Act} (h : Sl N l a) (hs : Subs l r) : Sl N r a :=
  ⟨h.defers, h.size, fun i v hi => h.get i v (hs.get i v hi)⟩

/-! ## guards -/
def gd (ops : Array Oper) (l : List (Nat × Value)) : Option (Nat × Bool) → Option Bool
  | none => some true
  | some (j, want) => match (ops[j]?).bind (·.dst) with
    | none => some false
    | some d => match lk l d with
      | some (.bool b) => some (b == want)
      | some (.tuple _) => some false
      | _ => none

theorem Sl.gd {N : Nat} {l : List (Nat × Value)} {a : Act} (h : Sl N l a) {ops : Array Oper} {o : Oper} {b : Bool} (hg : gd ops l o.guard = some b) :
    Region.wanted o (yielded ops a.tmps) = b := by
  unfold Region.wanted
  unfold Fw.gd at hg
  cases hgo : o.guard with
  | none => rw [hgo] at hg; simpa using hg
  | some p =>
    obtain ⟨j, want⟩ := p
    rw [hgo] at hg
    simp only at hg ⊢
    unfold yielded
    cases hd : (ops[j]?).bind (·.dst) with
    | none => rw [hd] at hg; simp at hg; subst hg; simp
    | some d =>
      rw [hd] at hg
      simp only at hg
      simp only [Option.bind_some]
      cases hl : lk l d with
      | none => rw [hl] at hg; simp at hg
      | some v =>
        rw [hl] at hg
        rw [h.get d v hl]
        cases v <;> simp at hg ⊢ <;> first | exact hg | (subst hg; rfl)

/-- is the slot d looked at by a guard? -/
def isG (ops : Array Oper) (d : Nat) : Bool :=
  ops.toList.any fun o => match o.guard with
    | none => false
    | some (j, _) => match (ops[j]?).bind (·.dst) with
      | some e => Nat.beq d e
      | none => false

/-! ## one operation -/
section
variable {P : Program} {N : Nat} {l : List (Nat × Value)} {a : Act} {w : World} {ops : Array Oper} {rest : List Oper} {Q : Exit → Act → World → Prop}

/-- whatever world of the class: the operation yields v and leaves the world alone -/
def Ex (P : Program) (N : Nat) (l : List (Nat × Value)) (C : World → Prop) (o : Oper) (v : Value) : Prop :=
  ∀ a w, Sl N l a → C w → (execOp a.eval o).run P w = .ok (.value v) w

/-- the operation is carried out, and what becomes of it is R -/
def Op1 (P : Program) (N : Nat) (l : List (Nat × Value)) (o : Oper) (w : World) (R : Value → World → Prop) : Prop :=
  ∀ a, Sl N l a → ∀ (K : Act → World → Prop) (Q : Exit → Act → World → Prop), (∀ v w', R v w' → K (a.put o.dst v) w') → o.wp P a w K Q

theorem Ex.op1 {C : World → Prop} {o : Oper} {v : Value} (h : Ex P N l C o v) (hC : C w) : Op1 P N l o w (fun v' w' => v' = v ∧ w' = w) := by
  intro a hA K Q hK
  unfold Oper.wp
  rw [h a w hA hC]
  exact hK v w ⟨rfl, rfl⟩

theorem st_op {o : Oper} {d : Nat} {R : Value → World → Prop} (hA : Sl N l a) (hg : gd ops l o.guard = some true) (hd : o.dst = some d) (hdN : d < N)
    (h : Op1 P N l o w R) (k : ∀ v w', R v w' → ∀ a', Sl N ((d, v) :: l) a' → wpList P ops Q rest a' w') : wpList P ops Q (o :: rest) a w := by
  unfold wpList
  rw [if_pos (hA.gd hg)]
  refine .inl (h a hA _ _ fun v w' hR => ?_)
  rw [hd]
  exact k v w' hR _ (hA.put hdN v)

theorem st_op0 {o : Oper} {R : Value → World → Prop} (hA : Sl N l a) (hg : gd ops l o.guard = some true) (hd : o.dst = none)
    (h : Op1 P N l o w R) (k : ∀ v w', R v w' → wpList P ops Q rest a w') : wpList P ops Q (o :: rest) a w := by
  unfold wpList
  rw [if_pos (hA.gd hg)]
  refine .inl (h a hA _ _ fun v w' hR => ?_)
  rw [hd]
  exact k v w' hR

theorem st_ex {C : World → Prop} {o : Oper} {d : Nat} {v : Value} (hA : Sl N l a) (hC : C w) (hg : gd ops l o.guard = some true) (hd : o.dst = some d) (hdN : d < N)
    (h : Ex P N l C o v) (k : ∀ a', Sl N ((d, v) :: l) a' → wpList P ops Q rest a' w) : wpList P ops Q (o :: rest) a w :=
  st_op hA hg hd hdN (h.op1 hC) fun v' w' ⟨hv, hw⟩ a' hA' => by subst hv; subst hw; exact k a' hA'

/-- a value that a guard looks at: both cases -/
theorem st_exb {C : World → Prop} {o : Oper} {d : Nat} {b : Bool} (hA : Sl N l a) (hC : C w) (hg : gd ops l o.guard = some true) (hd : o.dst = some d) (hdN : d < N) (hG : isG ops d = true)
    (h : Ex P N l C o (.bool b)) (kt : b = true → ∀ a', Sl N ((d, .bool true) :: l) a' → wpList P ops Q rest a' w)
    (kf : b = false → ∀ a', Sl N ((d, .bool false) :: l) a' → wpList P ops Q rest a' w) : wpList P ops Q (o :: rest) a w :=
  st_ex hA hC hg hd hdN h fun a' hA' => by
    cases hb : b with
    | true => exact kt hb a' (hb ▸ hA')
    | false => exact kf hb a' (hb ▸ hA')

theorem st_skip {o : Oper} {d : Nat} (hA : Sl N l a) (hg : gd ops l o.guard = some false) (hd : o.dst = some d) (hdN : d < N)
    (k : ∀ a', Sl N ((d, undef) :: l) a' → wpList P ops Q rest a' w) : wpList P ops Q (o :: rest) a w := by
  unfold wpList
  rw [if_neg (by rw [hA.gd hg]; simp), hd]
  exact k _ (hA.put hdN _)

end

/-! ## what is known of types -/
class TSc (P : Program) (t : TypeId) : Prop where
  eq : ∃ d, P.underlying t = some d ∧ (match d with | .struct _ | .array _ _ => true | _ => false) = false
class TIn (P : Program) (t : TypeId) (k : outParam IntKind) : Prop where
  eq : P.underlying t = some (.int k)
class TBo (P : Program) (t : TypeId) : Prop where
  eq : P.underlying t = some .bool
class TSr (P : Program) (t : TypeId) : Prop where
  eq : P.underlying t = some .string
class TSl (P : Program) (t : TypeId) (e : outParam TypeId) : Prop where
  eq : P.underlying t = some (.slice e)
class TMp (P : Program) (t : TypeId) (k e : outParam TypeId) : Prop where
  eq : P.underlying t = some (.map k e)
class TPt (P : Program) (t : TypeId) : Prop where
  eq : P.underlying t = some (.pointer (P.pointee t))
/-- zero, its cells, cells, bytes -/
class TIf (P : Program) (t : TypeId) (z : outParam Value) (zs : outParam (List Value)) (sz by_ : outParam Nat) : Prop where
  eq : ∃ i, P.info? t = some i ∧ i.zero = some z ∧ i.size = sz ∧ i.bytes = by_
  zc : z.cells.toList = zs
/-- a struct: its fields' types and places -/
class TSt (P : Program) (t : TypeId) (l : outParam (List (Nat × Nat))) : Prop where
  eq : ∃ fs, P.underlying t = some (.struct fs) ∧ fs.toList.map (fun f => (f.type, f.offset)) = l
  pos : ∀ p ∈ l, ∃ i, P.info? p.1 = some i ∧ i.size ≠ 0

/-! ## places -/
def blkO : Option Addr → Nat
  | some a => a.block
  | none => 0
def offO : Option Addr → Nat
  | some a => a.off
  | none => 0
/-- the place that lies j cells behind a slice's head -/
def sat (o : Option Addr) (j : Nat) : Addr := ⟨blkO o, offO o + j, none⟩
/-- cell j of block b -/
def bat (b j : Nat) : Addr := ⟨b, j, none⟩
/-- a slice's head is a plain place, where there is something behind it -/
def Sp (o : Option Addr) (n : Nat) : Prop := 0 < n → ∃ b off, o = some ⟨b, off, none⟩

theorem sat_add (o : Option Addr) (j n : Nat) : (sat o j).add n = sat o (j + n) := by
  unfold Addr.add sat; split <;> simp_all [Nat.add_assoc]
theorem bat_add (b j n : Nat) : (bat b j).add n = bat b (j + n) := by
  unfold Addr.add bat; split <;> simp_all
theorem sp_add {o : Option Addr} {n : Nat} (h : Sp o n) (hn : 0 < n) (j : Nat) : ∃ a, o = some a ∧ a.add j = sat o j := by
  obtain ⟨b, off, rfl⟩ := h hn
  refine ⟨_, rfl, ?_⟩
  unfold Addr.add sat blkO offO
  split <;> simp_all

/-! ## pure operations -/
section
variable {P : Program} {N : Nat} {l : List (Nat × Value)} {C : World → Prop} {d : Option Tmp} {T : TypeId} {pos : String} {af : Array Edge} {g : Option (Nat × Bool)}

theorem ex_move {x : Operand} {v : Value} (hx : ev l x = some v) : Ex P N l C ⟨d, .move x, T, pos, af, g⟩ v := by
  intro a w hA _
  simp [execOp, hA.ev hx]
theorem ex_assign {x : Operand} {v : Value} (hx : ev l x = some v) : Ex P N l C ⟨d, .assign x, T, pos, af, g⟩ v := by
  intro a w hA _
  simp [execOp, hA.ev hx]
theorem ex_pick_t {c x y : Operand} {v : Value} (hc : ev l c = some (.bool true)) (hx : ev l x = some v) : Ex P N l C ⟨d, .pick c x y, T, pos, af, g⟩ v := by
  intro a w hA _
  simp [execOp, hA.ev hc, hA.ev hx, asBool]
theorem ex_pick_f {c x y : Operand} {v : Value} (hc : ev l c = some (.bool false)) (hy : ev l y = some v) : Ex P N l C ⟨d, .pick c x y, T, pos, af, g⟩ v := by
  intro a w hA _
  simp [execOp, hA.ev hc, hA.ev hy, asBool]
theorem ex_extract {x : Operand} {i : Nat} {vs : List Value} {v : Value} (hx : ev l x = some (.tuple vs.toArray)) (hv : nth vs i = some v) : Ex P N l C ⟨d, .extract x i, T, pos, af, g⟩ v := by
  intro a w hA _
  rw [nth_eq] at hv
  simp [execOp, hA.ev hx, Instr.extract, hv]
theorem ex_not {t : TypeId} {x : Operand} {b : Bool} (hx : ev l x = some (.bool b)) : Ex P N l C ⟨d, .unOp .not t x, T, pos, af, g⟩ (.bool (!b)) := by
  intro a w hA _
  simp [execOp, hA.ev hx, Op.unary]
theorem ex_nilCheck {x : Operand} {p : Addr} (hx : ev l x = some (.pointer (some p))) : Ex P N l C ⟨d, .nilCheck x, T, pos, af, g⟩ (.pointer (some p)) := by
  intro a w hA _
  simp [execOp, hA.ev hx]
theorem ex_fieldAddr_sat {s : TypeId} {x : Operand} {i j ft off : Nat} {o : Option Addr} {fl : List (Nat × Nat)} [h : TSt P s fl] (hx : ev l x = some (.pointer (some (sat o j)))) (hf0 : nth fl i = some (ft, off)) :
    Ex P N l C ⟨d, .fieldAddr s x i, T, pos, af, g⟩ (.pointer (some (sat o (j + off)))) := by
  intro a w hA _
  have hf := hf0
  rw [nth_eq] at hf
  obtain ⟨fs, h1, h2⟩ := h.eq
  obtain ⟨ti, h3, h4⟩ := h.pos _ (List.mem_of_getElem? hf)
  have hl : fs.toList[i]?.map (fun f => (f.type, f.offset)) = some (ft, off) := by rw [← List.getElem?_map, h2, hf]
  obtain ⟨f, hfi, hfe⟩ := Option.map_eq_some_iff.1 hl
  have hfi' : fs[i]? = some f := by simpa using hfi
  simp only [Prod.mk.injEq] at hfe
  obtain ⟨rfl, rfl⟩ := hfe
  simp [execOp, hA.ev hx, Instr.fieldAt, run_underlying h1, hfi', Instr.sureAddr, fieldPlace, sizeOf, typeInfo, h3, h4, sat_add]
theorem ex_fieldAddr_bat {s : TypeId} {x : Operand} {i j ft off : Nat} {b : Nat} {fl : List (Nat × Nat)} [h : TSt P s fl] (hx : ev l x = some (.pointer (some (bat b j)))) (hf0 : nth fl i = some (ft, off)) :
    Ex P N l C ⟨d, .fieldAddr s x i, T, pos, af, g⟩ (.pointer (some (bat b (j + off)))) := by
  intro a w hA _
  have hf := hf0
  rw [nth_eq] at hf
  obtain ⟨fs, h1, h2⟩ := h.eq
  obtain ⟨ti, h3, h4⟩ := h.pos _ (List.mem_of_getElem? hf)
  have hl : fs.toList[i]?.map (fun f => (f.type, f.offset)) = some (ft, off) := by rw [← List.getElem?_map, h2, hf]
  obtain ⟨f, hfi, hfe⟩ := Option.map_eq_some_iff.1 hl
  have hfi' : fs[i]? = some f := by simpa using hfi
  simp only [Prod.mk.injEq] at hfe
  obtain ⟨rfl, rfl⟩ := hfe
  simp [execOp, hA.ev hx, Instr.fieldAt, run_underlying h1, hfi', Instr.sureAddr, fieldPlace, sizeOf, typeInfo, h3, h4, bat_add]
theorem ex_indexAddr {t e : TypeId} {x ix : Operand} {o : Option Addr} {n c sz by_ : Nat} {z : Value} {zs : List Value} {k : IntKind} {m : Int} [ht : TSl P t e] [hi : TIf P e z zs sz by_] (hx : ev l x = some (.slice o n c)) (hix : ev l ix = some (.int k m))
    (h0 : 0 ≤ m) (h1 : m < n) (hs : Sp o n) : Ex P N l C ⟨d, .indexAddr t x ix, T, pos, af, g⟩ (.pointer (some (sat o (m.toNat * sz)))) := by
  intro a w hA _
  obtain ⟨ti, h3, h4, h5, h6⟩ := hi.eq
  obtain ⟨p, rfl, hp⟩ := sp_add hs (by omega) (m.toNat * sz)
  simp [execOp, hA.ev hx, hA.ev hix, Instr.indexAt, asIntOf, run_underlying ht.eq, sizeOf, typeInfo, h3, h5, h0, h1, hp]
theorem ex_indexAddr_nat {t e : TypeId} {x ix : Operand} {o : Option Addr} {n c sz by_ i : Nat} {z : Value} {zs : List Value} {k : IntKind} [ht : TSl P t e] [hi : TIf P e z zs sz by_] (hx : ev l x = some (.slice o n c)) (hix : ev l ix = some (.int k (i : Int)))
    (h1 : i < n) (hs : Sp o n) : Ex P N l C ⟨d, .indexAddr t x ix, T, pos, af, g⟩ (.pointer (some (sat o (i * sz)))) := by
  have := ex_indexAddr (P := P) (N := N) (l := l) (C := C) (d := d) (T := T) (pos := pos) (af := af) (g := g) (t := t) hx hix (by omega) (by omega) hs
  simpa using this
theorem ex_len_slice {t e : TypeId} {x : Operand} {o : Option Addr} {n c : Nat} [ht : TSl P t e] (hx : ev l x = some (.slice o n c)) :
    Ex P N l C ⟨d, .call ⟨.builtin .len, #[x], #[t]⟩, T, pos, af, g⟩ (.int .i64 n) := by
  intro a w hA _
  simp [execOp, resolve, invoke, builtin, Builtin.len_, hA.ev hx, run_underlying ht.eq, goInt]
theorem ex_cap_slice {t e : TypeId} {x : Operand} {o : Option Addr} {n c : Nat} [ht : TSl P t e] (hx : ev l x = some (.slice o n c)) :
    Ex P N l C ⟨d, .call ⟨.builtin .cap, #[x], #[t]⟩, T, pos, af, g⟩ (.int .i64 c) := by
  intro a w hA _
  simp [execOp, resolve, invoke, builtin, Builtin.cap_, hA.ev hx, run_underlying ht.eq, goInt]

theorem ex_eql {t ty : TypeId} {x y : Operand} {k : IntKind} {m n : Int} (hx : ev l x = some (.int k m)) (hy : ev l y = some (.int k n)) : Ex P N l C ⟨d, .binOp .eql t x y ty, T, pos, af, g⟩ (.bool (decide (m = n))) := by
  intro a w hA _
  simp only [execOp, hA.ev hx, hA.ev hy, eqGuard_at_int, binOp_eql]
  simp
  rfl
theorem ex_neq {t ty : TypeId} {x y : Operand} {k : IntKind} {m n : Int} (hx : ev l x = some (.int k m)) (hy : ev l y = some (.int k n)) : Ex P N l C ⟨d, .binOp .neq t x y ty, T, pos, af, g⟩ (.bool (decide (m ≠ n))) := by
  intro a w hA _
  simp only [execOp, hA.ev hx, hA.ev hy, eqGuard_at_int, binOp_neq]
  simp [bne]
  rfl
theorem ex_lss {t ty : TypeId} {x y : Operand} {k : IntKind} {m n : Int} (hx : ev l x = some (.int k m)) (hy : ev l y = some (.int k n)) : Ex P N l C ⟨d, .binOp .lss t x y ty, T, pos, af, g⟩ (.bool (decide (m < n))) := by
  intro a w hA _
  simp only [execOp, hA.ev hx, hA.ev hy, eqGuard_at_int, binOp_lss]
  simp
theorem ex_leq {t ty : TypeId} {x y : Operand} {k : IntKind} {m n : Int} (hx : ev l x = some (.int k m)) (hy : ev l y = some (.int k n)) : Ex P N l C ⟨d, .binOp .leq t x y ty, T, pos, af, g⟩ (.bool (decide (m ≤ n))) := by
  intro a w hA _
  simp only [execOp, hA.ev hx, hA.ev hy, eqGuard_at_int, binOp_leq]
  simp
theorem ex_gtr {t ty : TypeId} {x y : Operand} {k : IntKind} {m n : Int} (hx : ev l x = some (.int k m)) (hy : ev l y = some (.int k n)) : Ex P N l C ⟨d, .binOp .gtr t x y ty, T, pos, af, g⟩ (.bool (decide (n < m))) := by
  intro a w hA _
  simp only [execOp, hA.ev hx, hA.ev hy, eqGuard_at_int, binOp_gtr]
  simp
theorem ex_geq {t ty : TypeId} {x y : Operand} {k : IntKind} {m n : Int} (hx : ev l x = some (.int k m)) (hy : ev l y = some (.int k n)) : Ex P N l C ⟨d, .binOp .geq t x y ty, T, pos, af, g⟩ (.bool (decide (n ≤ m))) := by
  intro a w hA _
  simp only [execOp, hA.ev hx, hA.ev hy, eqGuard_at_int, binOp_geq]
  simp
/-- an int that fits -/
def i64ok (n : Int) : Prop := -9223372036854775808 ≤ n ∧ n ≤ 9223372036854775807
theorem wrap_i64 {n : Int} (h : i64ok n) : IntKind.i64.wrap n = n := IntWalk.i64_in n ⟨by have := h.1; omega, by have := h.2; omega⟩
theorem ex_add {t ty : TypeId} {x y : Operand} {m n : Int} (hx : ev l x = some (.int .i64 m)) (hy : ev l y = some (.int .i64 n)) (h : i64ok (m + n)) : Ex P N l C ⟨d, .binOp .add t x y ty, T, pos, af, g⟩ (.int .i64 (m + n)) := by
  intro a w hA _
  simp only [execOp, hA.ev hx, hA.ev hy, eqGuard_at_int, binOp_add]
  simp [Op.intArith, wrap_i64 h]
theorem ex_sub {t ty : TypeId} {x y : Operand} {m n : Int} (hx : ev l x = some (.int .i64 m)) (hy : ev l y = some (.int .i64 n)) (h : i64ok (m - n)) : Ex P N l C ⟨d, .binOp .sub t x y ty, T, pos, af, g⟩ (.int .i64 (m - n)) := by
  intro a w hA _
  simp only [execOp, hA.ev hx, hA.ev hy, eqGuard_at_int, binOp_sub]
  simp [Op.intArith, wrap_i64 h]
/-- k + 1 - 1, of a number that counts -/
theorem ex_pred {t ty : TypeId} {x y : Operand} {k : Nat} (hx : ev l x = some (.int .i64 ((k + 1 : Nat) : Int))) (hy : ev l y = some (.int .i64 1)) (h : k ≤ 9223372036854775807) : Ex P N l C ⟨d, .binOp .sub t x y ty, T, pos, af, g⟩ (.int .i64 (k : Int)) := by
  have e : ((k + 1 : Nat) : Int) - 1 = (k : Int) := by omega
  have := ex_sub (P := P) (N := N) (l := l) (C := C) (d := d) (T := T) (pos := pos) (af := af) (g := g) (t := t) (ty := ty) hx hy (by unfold i64ok; omega)
  rwa [e] at this
theorem ex_succ {t ty : TypeId} {x y : Operand} {k : Nat} (hx : ev l x = some (.int .i64 (k : Int))) (hy : ev l y = some (.int .i64 1)) (h : k < 9223372036854775807) : Ex P N l C ⟨d, .binOp .add t x y ty, T, pos, af, g⟩ (.int .i64 ((k + 1 : Nat) : Int)) := by
  have e : ((k + 1 : Nat) : Int) = (k : Int) + 1 := by omega
  have := ex_add (P := P) (N := N) (l := l) (C := C) (d := d) (T := T) (pos := pos) (af := af) (g := g) (t := t) (ty := ty) hx hy (by unfold i64ok; omega)
  rwa [← e] at this
theorem ex_mul {t ty : TypeId} {x y : Operand} {m n : Int} (hx : ev l x = some (.int .i64 m)) (hy : ev l y = some (.int .i64 n)) (h : i64ok (m * n)) : Ex P N l C ⟨d, .binOp .mul t x y ty, T, pos, af, g⟩ (.int .i64 (m * n)) := by
  intro a w hA _
  simp only [execOp, hA.ev hx, hA.ev hy, eqGuard_at_int, binOp_mul]
  simp [Op.intArith, wrap_i64 h]
end

/-! ## memory: parts that lie apart -/
/-- a part of memory, with the blocks that it takes -/
structure It where
  sat : World → (Nat → Prop) → Prop
  loc : ∀ {w w' : World} {F : Nat → Prop}, sat w F → (∀ b, F b → w'.heap[b]? = w.heap[b]?) → sat w' F
  lt : ∀ {w : World} {F : Nat → Prop}, sat w F → ∀ b, F b → b < w.heap.size
  ext : ∀ {w : World} {F F' : Nat → Prop}, sat w F → (∀ b, F b ↔ F' b) → sat w F'

def Hp (w : World) : List It → (Nat → Prop) → Prop
  | [], F => ∀ b, ¬ F b
  | it :: H, F => ∃ F1 F2 : Nat → Prop, (∀ b, F b ↔ F1 b ∨ F2 b) ∧ (∀ b, F1 b → ¬ F2 b) ∧ it.sat w F1 ∧ Hp w H F2

/-- what there was is as it was, but for the blocks of M -/
structure Kp (w0 : World) (M : Nat → Prop) (w : World) : Prop where
  os : w.os = w0.os
  tape : w.tape = w0.tape
  output : w.output = w0.output
  size : w0.heap.size ≤ w.heap.size
  block : ∀ b, b < w0.heap.size → ¬ M b → w.heap[b]? = w0.heap[b]?

def HS (w0 : World) (M : Nat → Prop) (H : List It) (w : World) : Prop :=
  Kp w0 M w ∧ ∃ F, Hp w H F ∧ ∀ b, F b → w0.heap.size ≤ b ∨ M b

def noM : Nat → Prop := fun _ => False

theorem lt_of_heap {w : World} {b : Nat} {o : Obj} (h : w.heap[b]? = some o) : b < w.heap.size := by
  rcases Nat.lt_or_ge b w.heap.size with h' | h'
  · exact h'
  · rw [Array.getElem?_eq_none h'] at h; cases h

theorem Hp.lt {w : World} : ∀ {H : List It} {F : Nat → Prop}, Hp w H F → ∀ b, F b → b < w.heap.size
  | [], F, h, b, hb => absurd hb (h b)
  | it :: H, F, ⟨F1, F2, hF, hd, h1, h2⟩, b, hb => by
    rcases (hF b).1 hb with hb | hb
    · exact it.lt h1 b hb
    · exact Hp.lt h2 b hb
theorem Hp.ext {w : World} : ∀ {H : List It} {F F' : Nat → Prop}, Hp w H F → (∀ b, F b ↔ F' b) → Hp w H F'
  | [], F, F', h, he => fun b hb => h b ((he b).2 hb)
  | it :: H, F, F', ⟨F1, F2, hF, hd, h1, h2⟩, he => ⟨F1, F2, fun b => (he b).symm.trans (hF b), hd, h1, h2⟩
theorem Hp.loc {w w' : World} : ∀ {H : List It} {F : Nat → Prop}, Hp w H F → (∀ b, F b → w'.heap[b]? = w.heap[b]?) → Hp w' H F
  | [], F, h, he => h
  | it :: H, F, ⟨F1, F2, hF, hd, h1, h2⟩, he => ⟨F1, F2, hF, hd, it.loc h1 fun b hb => he b ((hF b).2 (.inl hb)), Hp.loc h2 fun b hb => he b ((hF b).2 (.inr hb))⟩
theorem Hp.append {w : World} : ∀ {H1 H2 : List It} {F : Nat → Prop}, Hp w (H1 ++ H2) F → ∃ F1 F2 : Nat → Prop, (∀ b, F b ↔ F1 b ∨ F2 b) ∧ (∀ b, F1 b → ¬ F2 b) ∧ Hp w H1 F1 ∧ Hp w H2 F2
  | [], H2, F, h => ⟨fun _ => False, F, fun b => by simp, fun b hb => hb.elim, fun b hb => hb, h⟩
  | it :: H1, H2, F, ⟨G1, G2, hG, hd, h1, h2⟩ => by
    obtain ⟨F1, F2, hF, hd', h3, h4⟩ := Hp.append (H1 := H1) h2
    refine ⟨fun b => G1 b ∨ F1 b, F2, fun b => by rw [hG b, hF b, or_assoc], fun b hb hb2 => ?_, ⟨G1, F1, fun b => Iff.rfl, fun b hb hb1 => hd b hb ((hF b).2 (.inl hb1)), h1, h3⟩, h4⟩
    rcases hb with hb | hb
    · exact hd b hb ((hF b).2 (.inr hb2))
    · exact hd' b hb hb2
theorem Hp.mk_append {w : World} : ∀ {H1 H2 : List It} {F1 F2 : Nat → Prop}, (∀ b, F1 b → ¬ F2 b) → Hp w H1 F1 → Hp w H2 F2 → Hp w (H1 ++ H2) fun b => F1 b ∨ F2 b
  | [], H2, F1, F2, hd, h1, h2 => h2.ext fun b => ⟨.inr, fun h => h.elim (fun h => absurd h (h1 b)) id⟩
  | it :: H1, H2, F1, F2, hd, ⟨G1, G2, hG, hd', h3, h4⟩, h2 => by
    refine ⟨G1, fun b => G2 b ∨ F2 b, fun b => by show F1 b ∨ F2 b ↔ _; rw [hG b]; exact or_assoc, fun b hb hb2 => ?_, h3, Hp.mk_append (fun b hb => hd b ((hG b).2 (.inr hb))) h4 h2⟩
    rcases hb2 with hb2 | hb2
    · exact hd' b hb hb2
    · exact hd b ((hG b).2 (.inl hb)) hb2
theorem Hp.perm {w : World} {H H' : List It} (p : H.Perm H') : ∀ {F : Nat → Prop}, Hp w H F → Hp w H' F := by
  induction p with
  | nil => exact fun h => h
  | cons x _ ih => exact fun ⟨F1, F2, hF, hd, h1, h2⟩ => ⟨F1, F2, hF, hd, h1, ih h2⟩
  | swap x y l =>
    rintro F ⟨F1, F2, hF, hd, h1, F3, F4, hG, hd', h3, h4⟩
    refine ⟨F3, fun b => F1 b ∨ F4 b, fun b => ?_, fun b hb hb2 => ?_, h3, F1, F4, fun b => Iff.rfl, fun b hb hb4 => hd b hb ((hG b).2 (.inr hb4)), h1, h4⟩
    · rw [hF b, hG b, or_left_comm]
    · rcases hb2 with hb2 | hb2
      · exact hd b hb2 ((hG b).2 (.inl hb))
      · exact hd' b hb hb2
  | trans _ _ ih1 ih2 => exact fun h => ih2 (ih1 h)

theorem Kp.refl (w : World) (M : Nat → Prop) : Kp w M w := ⟨rfl, rfl, rfl, Nat.le_refl _, fun _ _ _ => rfl⟩
theorem HS.init (w : World) (M : Nat → Prop) : HS w M [] w := ⟨Kp.refl w M, fun _ => False, fun b hb => hb, fun b hb => hb.elim⟩
theorem HS.perm {w0 w : World} {M : Nat → Prop} {H H' : List It} (h : HS w0 M H w) (p : H.Perm H') : HS w0 M H' w :=
  let ⟨hk, F, hF, ho⟩ := h
  ⟨hk, F, hF.perm p, ho⟩
theorem HS.tail {w0 w : World} {M : Nat → Prop} {it : It} {H : List It} (h : HS w0 M (it :: H) w) : HS w0 M H w :=
  let ⟨hk, F, ⟨F1, F2, hF, hd, h1, h2⟩, ho⟩ := h
  ⟨hk, F2, h2, fun b hb => ho b ((hF b).2 (.inr hb))⟩
theorem HS.right {w0 w : World} {M : Nat → Prop} {H1 H2 : List It} (h : HS w0 M (H1 ++ H2) w) : HS w0 M H2 w :=
  let ⟨hk, F, hF, ho⟩ := h
  let ⟨F1, F2, hG, hd, h1, h2⟩ := hF.append
  ⟨hk, F2, h2, fun b hb => ho b ((hG b).2 (.inr hb))⟩
theorem perm_pick0 {x : It} : ∀ {H : List It} (i : Nat), H[i]? = some x → H.Perm (x :: H.eraseIdx i)
  | [], i, h => by simp at h
  | y :: H, 0, h => by
    obtain rfl : y = x := by simpa using h
    exact .refl _
  | y :: H, i + 1, h => ((perm_pick0 (H := H) i (by simpa using h)).cons y).trans (.swap _ _ _)
theorem perm_pick {H R : List It} {x : It} (i : Nat) (h : H[i]? = some x) (p : (H.eraseIdx i).Perm R) : H.Perm (x :: R) := (perm_pick0 i h).trans (p.cons x)
theorem HS.drop_ {w0 w : World} {M : Nat → Prop} {H : List It} (h : HS w0 M H w) : HS w0 M [] w := ⟨h.1, fun _ => False, fun b hb => hb, fun b hb => hb.elim⟩
theorem HS.head {w0 w : World} {M : Nat → Prop} {it : It} {H : List It} (h : HS w0 M (it :: H) w) : HS w0 M [it] w :=
  let ⟨hk, F, ⟨F1, F2, hF, hd, h1, h2⟩, ho⟩ := h
  ⟨hk, F1, ⟨F1, fun _ => False, fun b => by simp, fun b _ h => h, h1, fun b h => h⟩, fun b hb => ho b ((hF b).2 (.inl hb))⟩
theorem HS.left {w0 w : World} {M : Nat → Prop} {H1 H2 : List It} (h : HS w0 M (H1 ++ H2) w) : HS w0 M H1 w :=
  let ⟨hk, F, hF, ho⟩ := h
  let ⟨F1, F2, hG, hd, h1, h2⟩ := hF.append
  ⟨hk, F1, h1, fun b hb => ho b ((hG b).2 (.inl hb))⟩

theorem Kp.trans {w0 w w' : World} {M M' : Nat → Prop} (h : Kp w0 M w) (h' : Kp w M' w') (hM : ∀ b, M' b → w0.heap.size ≤ b ∨ M b) : Kp w0 M w' :=
  ⟨h'.os.trans h.os, h'.tape.trans h.tape, h'.output.trans h.output, Nat.le_trans h.size h'.size, fun b hb hn => by
    rw [h'.block b (by have := h.size; omega) (fun hm => ?_)]
    · exact h.block b hb hn
    · rcases hM b hm with h1 | h1
      · omega
      · exact hn h1⟩

/-- the frame: what a call does to some parts, the others standing by -/
theorem HS.frame {w0 w : World} {M : Nat → Prop} {Hc Hf : List It} (h : HS w0 M (Hc ++ Hf) w) :
    ∃ Mc : Nat → Prop, HS w Mc Hc w ∧ (∀ b, Mc b → b < w.heap.size ∧ (w0.heap.size ≤ b ∨ M b)) ∧ ∀ w' Hc', HS w Mc Hc' w' → HS w0 M (Hc' ++ Hf) w' := by
  obtain ⟨hk, F, hF, ho⟩ := h
  obtain ⟨F1, F2, hG, hd, h1, h2⟩ := hF.append
  refine ⟨F1, ⟨Kp.refl _ _, F1, h1, fun b hb => .inr hb⟩, fun b hb => ⟨h1.lt b hb, ho b ((hG b).2 (.inl hb))⟩, ?_⟩
  rintro w' Hc' ⟨hk', F', hF', ho'⟩
  have h2' : Hp w' Hf F2 := h2.loc fun b hb => hk'.block b (h2.lt b hb) fun hb1 => hd b hb1 hb
  refine ⟨hk.trans hk' fun b hb => ho b ((hG b).2 (.inl hb)), _, Hp.mk_append (fun b hb hb2 => ?_) hF' h2', fun b hb => ?_⟩
  · rcases ho' b hb with h | h
    · have := h2.lt b hb2; omega
    · exact hd b h hb2
  · rcases hb with hb | hb
    · rcases ho' b hb with h | h
      · exact .inl (Nat.le_trans hk.size h)
      · exact ho b ((hG b).2 (.inl h))
    · exact ho b ((hG b).2 (.inr hb))

/-- in the second list one part of the first stands for another -/
inductive Rp : List It → It → It → List It → Prop
  | here {it it' : It} {R : List It} : Rp (it :: R) it it' (it' :: R)
  | there {a it it' : It} {R R' : List It} : Rp R it it' R' → Rp (a :: R) it it' (a :: R')
theorem Rp.split {H H' : List It} {it it' : It} (h : Rp H it it' H') : ∃ R, H.Perm (it :: R) ∧ H'.Perm (it' :: R) := by
  induction h with
  | here => exact ⟨_, .refl _, .refl _⟩
  | there _ ih =>
    obtain ⟨R, h1, h2⟩ := ih
    exact ⟨_, (h1.cons _).trans (.swap _ _ _), (h2.cons _).trans (.swap _ _ _)⟩
theorem mem_split {H : List It} {it : It} (h : it ∈ H) : ∃ R, H.Perm (it :: R) := by
  obtain ⟨a, b, rfl⟩ := List.append_of_mem h
  exact ⟨a ++ b, List.perm_middle⟩

/-- one part turns: the world is the same outside its blocks, and new ones -/
theorem HS.turn {w0 w w' : World} {M : Nat → Prop} {H H' : List It} {it it' : It} (h : HS w0 M H w) (hr : Rp H it it' H')
    (ht : ∀ F, it.sat w F → Kp w F w' ∧ ∃ F', it'.sat w' F' ∧ ∀ b, F' b → w.heap.size ≤ b ∨ F b) : HS w0 M H' w' := by
  obtain ⟨R, p, p'⟩ := hr.split
  obtain ⟨hk, F, ⟨F1, F2, hF, hd, h1, h2⟩, ho⟩ := h.perm p
  obtain ⟨hk', F', h1', ho'⟩ := ht F1 h1
  have h2' : Hp w' R F2 := h2.loc fun b hb => hk'.block b (h2.lt b hb) fun hb1 => hd b hb1 hb
  refine HS.perm (H := it' :: R) ⟨hk.trans hk' fun b hb => ho b ((hF b).2 (.inl hb)), fun b => F' b ∨ F2 b, ⟨F', F2, fun b => Iff.rfl, fun b hb hb2 => ?_, h1', h2'⟩, fun b hb => ?_⟩ p'.symm
  · rcases ho' b hb with h | h
    · have := h2.lt b hb2; omega
    · exact hd b h hb2
  · rcases hb with hb | hb
    · rcases ho' b hb with h | h
      · exact .inl (Nat.le_trans hk.size h)
      · exact ho b ((hF b).2 (.inl h))
    · exact ho b ((hF b).2 (.inr hb))
/-- a part comes, in new blocks -/
theorem HS.come {w0 w w' : World} {M : Nat → Prop} {H : List It} {it : It} (h : HS w0 M H w) (hk' : Kp w noM w') {F' : Nat → Prop} (h1 : it.sat w' F') (hn : ∀ b, F' b → w.heap.size ≤ b) : HS w0 M (it :: H) w' := by
  obtain ⟨hk, F, hF, ho⟩ := h
  have hF' : Hp w' H F := hF.loc fun b hb => hk'.block b (hF.lt b hb) id
  refine ⟨hk.trans hk' fun b hb => hb.elim, fun b => F' b ∨ F b, ⟨F', F, fun b => Iff.rfl, fun b hb hb2 => ?_, h1, hF'⟩, fun b hb => ?_⟩
  · have := hn b hb; have := hF.lt b hb2; omega
  · rcases hb with hb | hb
    · exact .inl (Nat.le_trans hk.size (hn b hb))
    · exact ho b hb
theorem HS.keep {w0 w w' : World} {M : Nat → Prop} {H : List It} (h : HS w0 M H w) (hk' : Kp w noM w') : HS w0 M H w' := by
  obtain ⟨hk, F, hF, ho⟩ := h
  exact ⟨hk.trans hk' fun b hb => hb.elim, F, hF.loc fun b hb => hk'.block b (hF.lt b hb) id, ho⟩
theorem HS.sat {w0 w : World} {M : Nat → Prop} {H : List It} {it : It} (h : HS w0 M H w) (hm : it ∈ H) : ∃ F, it.sat w F := by
  obtain ⟨R, p⟩ := mem_split hm
  obtain ⟨hk, F, ⟨F1, F2, hF, hd, h1, h2⟩, ho⟩ := h.perm p
  exact ⟨F1, h1⟩
/-- one part for another, the world the same -/
theorem HS.conv {w0 w : World} {M : Nat → Prop} {H H' : List It} {it it' : It} (h : HS w0 M H w) (hr : Rp H it it' H') (ht : ∀ F, it.sat w F → it'.sat w F) : HS w0 M H' w :=
  h.turn hr fun F hF => ⟨Kp.refl _ _, F, ht F hF, fun b hb => .inr hb⟩

theorem Kp.drew (w : World) (M : Nat → Prop) : Kp w M w.drew := ⟨rfl, rfl, rfl, Nat.le_refl _, fun _ _ _ => rfl⟩
theorem HS.drew {w0 w : World} {M : Nat → Prop} {H : List It} (h : HS w0 M H w) : HS w0 M H w.drew := h.keep (Kp.drew w _)

/-! ## the parts: a block; a slice of one's own -/
def blk (b : Nat) (o : Obj) : It where
  sat w F := (∀ x, F x ↔ x = b) ∧ w.heap[b]? = some o
  loc := fun ⟨h1, h2⟩ he => ⟨h1, (he _ ((h1 _).2 rfl)).trans h2⟩
  lt := fun ⟨h1, h2⟩ b hb => by obtain rfl := (h1 b).1 hb; exact lt_of_heap h2
  ext := fun ⟨h1, h2⟩ he => ⟨fun x => (he x).symm.trans (h1 x), h2⟩
/-- a row of cells -/
def cb (b : Nat) (T : TypeId) (cs : List Value) : It := blk b (.cells cs.toArray T (0, 0))
/-- a slice of elements of sz cells: it is nil, or the head of a row, which nobody else holds -/
def own (T : TypeId) (sz : Nat) (o : Option Addr) (n cap : Nat) (xs : List Value) : It where
  sat w F := (o = none ∧ n = 0 ∧ cap = 0 ∧ xs = [] ∧ ∀ b, ¬ F b) ∨
    ∃ b spare, o = some ⟨b, 0, none⟩ ∧ (∀ x, F x ↔ x = b) ∧ xs.length = n * sz ∧ n ≤ cap ∧ cap ≤ maxLen ∧ xs.length + spare.length = cap * sz ∧ w.heap[b]? = some (.cells (xs ++ spare).toArray T (0, 0))
  loc := fun h he => by
    rcases h with h | ⟨b, spare, h1, h2, h3, h4, h5, h6, h7⟩
    · exact .inl h
    · exact .inr ⟨b, spare, h1, h2, h3, h4, h5, h6, (he _ ((h2 _).2 rfl)).trans h7⟩
  lt := fun h b hb => by
    rcases h with ⟨_, _, _, _, h⟩ | ⟨b', spare, h1, h2, h3, h4, h5, h6, h7⟩
    · exact absurd hb (h b)
    · obtain rfl := (h2 b).1 hb
      exact lt_of_heap h7
  ext := fun h he => by
    rcases h with ⟨h1, h2, h3, h4, h⟩ | ⟨b', spare, h1, h2, h3, h4, h5, h6, h7⟩
    · exact .inl ⟨h1, h2, h3, h4, fun b hb => h b ((he b).2 hb)⟩
    · exact .inr ⟨b', spare, h1, fun x => (he x).symm.trans (h2 x), h3, h4, h5, h6, h7⟩

/-- the cells that a slice's head leads to -/
def Rd (w : World) (o : Option Addr) (xs : List Value) : Prop :=
  (0 < xs.length → ∃ b off, o = some ⟨b, off, none⟩) ∧ ∀ j u, xs[j]? = some u → w.cell? (sat o j) = some u

theorem cell_of_cells {w : World} {b : Nat} {cs : Array Value} {T : TypeId} {fz : Nat × Nat} (h : w.heap[b]? = some (.cells cs T fz)) (j : Nat) : w.cell? ⟨b, j, none⟩ = cs[j]? := cell_of_row w b j cs T fz h

theorem own_len {w : World} {F : Nat → Prop} {T sz : Nat} {o : Option Addr} {n cap : Nat} {xs : List Value} (h : (own T sz o n cap xs).sat w F) : xs.length = n * sz := by
  rcases h with ⟨_, rfl, _, rfl, _⟩ | ⟨b, spare, h1, h2, h3, h4, h5, h6, h7⟩
  · simp
  · exact h3
theorem own_rd {w : World} {F : Nat → Prop} {T sz : Nat} {o : Option Addr} {n cap : Nat} {xs : List Value} (h : (own T sz o n cap xs).sat w F) : Rd w o xs := by
  rcases h with ⟨rfl, rfl, rfl, rfl, _⟩ | ⟨b, spare, rfl, h2, h3, h4, h5, h6, h7⟩
  · exact ⟨fun h => by simp at h, fun j u h => by simp at h⟩
  · refine ⟨fun _ => ⟨b, 0, rfl⟩, fun j u hj => ?_⟩
    have hlt : j < xs.length := (List.getElem?_eq_some_iff.1 hj).1
    unfold sat blkO offO
    rw [Nat.zero_add, cell_of_cells h7]
    simp [List.getElem?_append_left hlt, hj]
theorem own_sp {w : World} {F : Nat → Prop} {T sz : Nat} {o : Option Addr} {n cap : Nat} {xs : List Value} (h : (own T sz o n cap xs).sat w F) : Sp o n := by
  rcases h with ⟨rfl, rfl, rfl, rfl, _⟩ | ⟨b, spare, rfl, h2, h3, h4, h5, h6, h7⟩
  · exact fun h => by omega
  · exact fun _ => ⟨b, 0, rfl⟩
theorem Rd.sp {w : World} {o : Option Addr} {xs : List Value} {n sz : Nat} (h : Rd w o xs) (hl : xs.length = n * sz) (hs : 0 < sz) : Sp o n :=
  fun hn => h.1 (by rw [hl]; exact Nat.mul_pos hn hs)
theorem HS.own_rd {w0 w : World} {M : Nat → Prop} {H : List It} {T sz : Nat} {o : Option Addr} {n cap : Nat} {xs : List Value} (h : HS w0 M H w) (hm : own T sz o n cap xs ∈ H) : Rd w o xs :=
  let ⟨_, hF⟩ := h.sat hm
  Fw.own_rd hF
theorem HS.own_sp {w0 w : World} {M : Nat → Prop} {H : List It} {T sz : Nat} {o : Option Addr} {n cap : Nat} {xs : List Value} (h : HS w0 M H w) (hm : own T sz o n cap xs ∈ H) : Sp o n :=
  let ⟨_, hF⟩ := h.sat hm
  Fw.own_sp hF
theorem HS.own_len {w0 w : World} {M : Nat → Prop} {H : List It} {T sz : Nat} {o : Option Addr} {n cap : Nat} {xs : List Value} (h : HS w0 M H w) (hm : own T sz o n cap xs ∈ H) : xs.length = n * sz :=
  let ⟨_, hF⟩ := h.sat hm
  Fw.own_len hF
theorem HS.own_le {w0 w : World} {M : Nat → Prop} {H : List It} {T sz : Nat} {o : Option Addr} {n cap : Nat} {xs : List Value} (h : HS w0 M H w) (hm : own T sz o n cap xs ∈ H) : n ≤ cap ∧ cap ≤ maxLen := by
  obtain ⟨_, hF⟩ := h.sat hm
  rcases hF with ⟨rfl, rfl, rfl, rfl, _⟩ | ⟨b, spare, rfl, h2, h3, h4, h5, h6, h7⟩
  · exact ⟨Nat.le_refl _, Nat.zero_le _⟩
  · exact ⟨h4, h5⟩
theorem Rd.lt {w : World} {o : Option Addr} {xs : List Value} (h : Rd w o xs) (hn : 0 < xs.length) : blkO o < w.heap.size := by
  have := h.2 0 _ (List.getElem?_eq_getElem hn)
  exact World.block_lt_of_cell? w _ this
theorem HS.rd {w0 w : World} {M : Nat → Prop} {H : List It} {o : Option Addr} {xs : List Value} (h : HS w0 M H w) (hr : Rd w0 o xs) (hM : ¬ M (blkO o)) : Rd w o xs := by
  refine ⟨hr.1, fun j u hj => ?_⟩
  rw [World.cell?_of_block (w := w0) (h.1.block _ (World.block_lt_of_cell? w0 _ (hr.2 j u hj)) hM)]
  exact hr.2 j u hj
end Go.Fw
