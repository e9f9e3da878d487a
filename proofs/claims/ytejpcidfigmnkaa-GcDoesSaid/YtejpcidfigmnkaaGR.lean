/-
  The walks over what the document's collector and the laws look up: in, has, Reaches, Closure. Conditions: none.
-/
import Derived.Test.YtejpcidfigmnkaaGS
import Derived.Test.YtejpcidfigmnkaaFw15
namespace Go.Proofs.Ytejpcidfigmnkaa
open Go Go.Fw
set_option linter.unusedVariables false
def inL (l : List Nat) (z : Int) : Bool := l.any fun a => decide ((a : Int) = z)
theorem inL_at {l : List Nat} {z : Int} {i a : Nat} (h : l[i]? = some a) (ha : (a : Int) = z) : inL l z = true := List.any_eq_true.2 ⟨a, List.mem_of_getElem? h, decide_eq_true ha⟩
theorem inL_no {l : List Nat} {z : Int} (h : ∀ (k a : Nat), l[k]? = some a → (a : Int) ≠ z) : inL l z = false := by
  cases hc : inL l z with
  | false => rfl
  | true =>
    obtain ⟨a, h1, h2⟩ := List.any_eq_true.1 hc
    obtain ⟨k, hk⟩ := List.getElem?_of_mem h1
    exact absurd (of_decide_eq_true h2) (h k a hk)
theorem inL_nat {l : List Nat} {a : Nat} : inL l (a : Int) = true ↔ a ∈ l := by
  unfold inL
  rw [List.any_eq_true]
  constructor
  · rintro ⟨b, h1, h2⟩
    have := of_decide_eq_true h2
    obtain rfl : b = a := by omega
    exact h1
  · exact fun h => ⟨a, h, decide_eq_true rfl⟩
/-- the address of the object that a word reaches -/
def reachA (L : List Ob) (x : Int) : Nat := if numW x = false ∧ isO L (addrN x) then addrN x else 0
theorem find_neg {L : List Ob} {z : Int} : findI L z < 0 ↔ isA L z = false := by
  rcases findI_obj L z with ⟨h1, h2⟩ | ⟨i, o, h1, h2, h3⟩
  · rw [h2, objA_none h1]; simp
  · rw [h2, objA_is h1]
    constructor
    · intro h; omega
    · intro h; cases h
theorem nodup_len : ∀ {N : Nat} {l : List Nat}, l.Nodup → (∀ a ∈ l, a < N) → l.length ≤ N
  | 0, l, _, hb => by
    cases l with
    | nil => exact Nat.le_refl _
    | cons a l => exact absurd (hb a (List.mem_cons_self ..)) (Nat.not_lt_zero _)
  | N + 1, l, hn, hb => by
    have h1 : (l.erase N).length ≤ N := nodup_len (hn.erase N) fun a ha => by
      have h2 := hb a (List.mem_of_mem_erase ha)
      have h3 : a ≠ N := fun he => by subst he; exact hn.not_mem_erase ha
      omega
    have h4 := List.length_erase (a := N) (l := l)
    split at h4 <;> omega
/-- a list of addresses that grows: no twins, all reached -/
structure Cl0 (L : List Ob) (roots : List Int) (out : List Nat) : Prop where
  nd : out.Nodup
  rc : ∀ a ∈ out, Rc L roots a
  ob : ∀ a ∈ out, isO L a
def addO (out : List Nat) (a : Nat) : List Nat := if 0 < a ∧ a ∉ out then out ++ [a] else out
theorem addO_mem {out : List Nat} {a b : Nat} (h : b ∈ out) : b ∈ addO out a := by
  unfold addO; split
  · exact List.mem_append_left _ h
  · exact h
theorem addO_self {out : List Nat} {a : Nat} (h : 0 < a) : a ∈ addO out a := by
  unfold addO
  by_cases hm : a ∈ out
  · rw [if_neg (fun h => h.2 hm)]; exact hm
  · rw [if_pos ⟨h, hm⟩]; simp
theorem addO_get {out : List Nat} {a i b : Nat} (h : out[i]? = some b) : (addO out a)[i]? = some b := by
  unfold addO; split
  · rw [List.getElem?_append_left (List.getElem?_eq_some_iff.1 h).1]; exact h
  · exact h
theorem addO_len {out : List Nat} {a : Nat} : out.length ≤ (addO out a).length := by
  unfold addO; split <;> simp
theorem Cl0.add {L : List Ob} {roots : List Int} {out : List Nat} (h : Cl0 L roots out) {a : Nat} (h1 : 0 < a → Rc L roots a ∧ isO L a) : Cl0 L roots (addO out a) := by
  unfold addO
  split
  · rename_i hc
    obtain ⟨k1, k2⟩ := h1 hc.1
    refine ⟨List.nodup_append.2 ⟨h.nd, List.nodup_cons.2 ⟨List.not_mem_nil, List.nodup_nil⟩, fun x hx y hy => ?_⟩, fun b hb => ?_, fun b hb => ?_⟩
    · rw [List.mem_singleton.1 hy]
      exact fun he => hc.2 (he ▸ hx)
    · rcases List.mem_append.1 hb with hb | hb
      · exact h.rc b hb
      · rw [List.mem_singleton.1 hb]; exact k1
    · rcases List.mem_append.1 hb with hb | hb
      · exact h.ob b hb
      · rw [List.mem_singleton.1 hb]; exact k2
  · exact h
theorem Cl0.len {N : Nat} {L : List Ob} {roots : List Int} {out : List Nat} (h : Cl0 L roots out) (hl : Lay N 1 L) : out.length ≤ N := nodup_len h.nd fun a ha => (isO_lt hl (h.ob a ha)).2
theorem reach_rc {N : Nat} {L : List Ob} (hl : Lay N 1 L) {roots : List Int} {x : Int} (hx : x ∈ roots) (h : 0 < reachA L x) : Rc L roots (reachA L x) ∧ isO L (reachA L x) := by
  unfold reachA at h ⊢
  split
  · rename_i hc
    exact ⟨.root hx hc.1 hc.2, hc.2⟩
  · rename_i hc
    rw [if_neg hc] at h
    omega
theorem reach_rc2 {N : Nat} {L : List Ob} (hl : Lay N 1 L) {roots : List Int} {o : Ob} (ho : o ∈ L) (hk : o.kind ≠ 1) {x : Int} (hx : x ∈ o.fs) (hr : Rc L roots o.a) (h : 0 < reachA L x) : Rc L roots (reachA L x) ∧ isO L (reachA L x) := by
  unfold reachA at h ⊢
  split
  · rename_i hc
    exact ⟨.step hr ⟨hc.2, o, ho, rfl, hk, x, hx, hc.1, rfl⟩, hc.2⟩
  · rename_i hc
    rw [if_neg hc] at h
    omega
/-- so far: what the first i reach is in -/
structure Cw (L : List Ob) (roots : List Int) (i : Nat) (out : List Nat) : Prop where
  c0 : Cl0 L roots out
  rt : ∀ x ∈ roots, numW x = false → isO L (addrN x) → addrN x ∈ out
  done : ∀ (p a : Nat), p < i → out[p]? = some a → ∀ b, E L a b → b ∈ out
theorem reach_in {L : List Ob} {x : Int} {out : List Nat} (h1 : numW x = false) (h2 : isO L (addrN x)) (h : 1 ≤ addrN x) : addrN x ∈ addO out (reachA L x) := by
  unfold reachA
  rw [if_pos ⟨h1, h2⟩]
  exact addO_self h
theorem Cw.add {L : List Ob} {roots : List Int} {i : Nat} {out : List Nat} (h : Cw L roots i out) (hi : i ≤ out.length) {a : Nat} (h1 : 0 < a → Rc L roots a ∧ isO L a) : Cw L roots i (addO out a) := by
  refine ⟨h.c0.add h1, fun x h2 h3 h4 => addO_mem (h.rt x h2 h3 h4), fun p b hp hb c hE => addO_mem (h.done p b hp ?_ c hE)⟩
  obtain ⟨y, hy⟩ : ∃ y, out[p]? = some y := ⟨_, List.getElem?_eq_getElem (by omega)⟩
  rw [addO_get hy] at hb
  rw [hy, hb]
theorem Cw.next {N : Nat} {L : List Ob} (hl : Lay N 1 L) {roots : List Int} {i : Nat} {out : List Nat} (h : Cw L roots i out) {o : Ob} (ho : o ∈ L) (hi : out[i]? = some o.a) (hf : o.kind ≠ 1 → ∀ x ∈ o.fs, numW x = false → isO L (addrN x) → addrN x ∈ out) : Cw L roots (i + 1) out := by
  refine ⟨h.c0, h.rt, fun p a hp ha b hE => ?_⟩
  by_cases hpi : p < i
  · exact h.done p a hpi ha b hE
  · obtain rfl : p = i := by omega
    rw [hi] at ha
    obtain rfl := Option.some.inj ha
    obtain ⟨h1, q, hq, hqa, hqk, x, hx, hn, rfl⟩ := hE
    have e1 := objA_mem hl hq
    have e2 := objA_mem hl ho
    rw [hqa, e2] at e1
    obtain rfl := Option.some.inj e1
    exact hf hqk x hx hn h1
/-- all that words reach -/
structure Clo (L : List Ob) (roots : List Int) (out : List Nat) : Prop where
  c0 : Cl0 L roots out
  rt : ∀ x ∈ roots, numW x = false → isO L (addrN x) → addrN x ∈ out
  cls : ∀ a b, a ∈ out → E L a b → b ∈ out
theorem snocN (out : List Nat) (r : Nat) : flat encN out ++ [.int .i64 (r : Int)] = flat encN (out ++ [r]) := (flat_snoc encN out r).symm
theorem nil_flat : ([] : List Value) = flat encN [] := rfl
set_option maxRecDepth 10000 attribute [local irreducible] Code.wp wpList Calls Ex Op1 sat bat blk cb own Go.Fw.mp Go.Fw.mpO Go.Fw.mpI Go.Fw.mpE Go.Fw.itr HS Rd Ret wkD Hp Cl Cls Exit.then Exit.inBlock Exit.noGoto bodyPost Go.Fw.flat wk2 Go.Fw.all Go.Fw.owns wpOp
attribute [local irreducible] hdA gaps isA nextA allocA freeA sizeA kindA setA getA whiteZ numW addrW shadeG gcI hpI stepG beginG writeG allocG mu rfI inL findI objA reachA addO

theorem in_spec (w0 : World) (o : Option Addr) (c : Nat) (l : List Nat) (z : Int) (hr : Rd w0 o (flat encN l)) (hl : l.length ≤ 9223372036854775806) : Ret Try.prog 54 #[.slice o l.length c, .int .i64 z] w0 (fun v w => v = .bool (inL l z) ∧ Kp w0 noM w) := by
  have hH : HS w0 noM [] w0 := HS.init w0 noM
  have hsp : Sp o l.length := hr.sp (sz := 1) (flat_length encN_len l) (by omega)
  (refine enter (N := 18) Try.func54 rfl Try.ntmps54 rfl ?_; intro a hA; dsimp only [sl0, Nat.reduceAdd] at hA)
  repeat' (first | (first | (refine GT ?_ ?_ <;> intro hg <;> clear hA a <;> intro a hA <;> (first | exact FA | replace hg := of_decide_eq_true hg | replace hg := of_decide_eq_false hg | skip)) | (refine QT ?_; clear hA a; intro a hA) | (first | (refine BT ?_; clear hA hH; rintro _ w ⟨bN, rfl, hH⟩ a hA) | (refine LT ?_; clear hA hH; rintro _ w ⟨oN, rfl, hH⟩ a hA) | (refine AT ?_; clear hA; rintro _ w ⟨oN, cN, rfl, hH2⟩ a hA; clear hH; have hH := (hH2 _ (by (repeat constructor))).tail; clear hH2) | (refine S0T ?_; clear hH; rintro _ w hH) )) | ((first | refine CT ?_ | (refine DT ?_ ?_ <;> intro hc <;> try (exfalso; omega))) <;> repeat' refine CT ?_) | (first | (refine DSK ?_; clear hA a; intro a hA) | (first | (refine DLT ?_; clear hA hH; rintro _ w ⟨oN, rfl, hH⟩; refine ⟨STT, ?_⟩; intro a hA) | (refine DAT ?_; clear hA; rintro _ w ⟨oN, cN, rfl, hH2⟩; clear hH; have hH := (hH2 _ (by (repeat constructor))).tail; clear hH2; refine ⟨STT, ?_⟩; intro a hA))) )
  refine wp_lpj (S := Nat) (fun i a w => (i ≤ l.length ∧ ∀ (k x : Nat), k < i → l[k]? = some x → (x : Int) ≠ z) ∧ HS w0 noM [] w ∧ Sl 18 [(0, .slice o l.length c), (1, .int .i64 z), (5, .int .i64 i)] a) (fun i => l.length - i)
    (fun a w => inL l z = false ∧ HS w0 noM [] w ∧ Sl 18 [] a) 0 ⟨⟨Nat.zero_le _, fun k x hk => by omega⟩, hH, (hA.sub (by (repeat (first | exact trivial | refine ⟨rfl, ?_⟩))))⟩ ?_ ?_
  · clear hA hH
    rintro i a w ⟨⟨hi, hno⟩, hH, hA⟩
    by_cases hlt : i < l.length
    · obtain ⟨x, hx⟩ : ∃ x, l[i]? = some x := ⟨_, List.getElem?_eq_getElem hlt⟩
      have hcx := encN_at hx
      repeat' (first | (first | (refine GT ?_ ?_ <;> intro hg <;> clear hA a <;> intro a hA <;> (first | exact FA | replace hg := of_decide_eq_true hg | replace hg := of_decide_eq_false hg | skip)) | (refine QT ?_; clear hA a; intro a hA) | (first | (refine BT ?_; clear hA hH; rintro _ w ⟨bN, rfl, hH⟩ a hA) | (refine LT ?_; clear hA hH; rintro _ w ⟨oN, rfl, hH⟩ a hA) | (refine AT ?_; clear hA; rintro _ w ⟨oN, cN, rfl, hH2⟩ a hA; clear hH; have hH := (hH2 _ (by (repeat constructor))).tail; clear hH2) | (refine S0T ?_; clear hH; rintro _ w hH) )) | ((first | refine CT ?_ | (refine DT ?_ ?_ <;> intro hc <;> try (exfalso; omega))) <;> repeat' refine CT ?_) | (first | (refine DSK ?_; clear hA a; intro a hA) | (first | (refine DLT ?_; clear hA hH; rintro _ w ⟨oN, rfl, hH⟩; refine ⟨STT, ?_⟩; intro a hA) | (refine DAT ?_; clear hA; rintro _ w ⟨oN, cN, rfl, hH2⟩; clear hH; have hH := (hH2 _ (by (repeat constructor))).tail; clear hH2; refine ⟨STT, ?_⟩; intro a hA))) )
      · exact rt1 (.inl rfl) rfl hA rfl ⟨by rw [inL_at hx (by assumption)], hH.kp⟩
      · refine ⟨i + 1, ⟨⟨hlt, fun k y hk hy => ?_⟩, hH, (hA.sub (by (repeat (first | exact trivial | refine ⟨rfl, ?_⟩))))⟩, by omega⟩
        rcases Nat.lt_or_ge k i with h | h
        · exact hno k y h hy
        · obtain rfl : k = i := by omega
          rw [hx] at hy
          obtain rfl := Option.some.inj hy
          assumption
    · repeat' (first | (first | (refine GT ?_ ?_ <;> intro hg <;> clear hA a <;> intro a hA <;> (first | exact FA | replace hg := of_decide_eq_true hg | replace hg := of_decide_eq_false hg | skip)) | (refine QT ?_; clear hA a; intro a hA) | (first | (refine BT ?_; clear hA hH; rintro _ w ⟨bN, rfl, hH⟩ a hA) | (refine LT ?_; clear hA hH; rintro _ w ⟨oN, rfl, hH⟩ a hA) | (refine AT ?_; clear hA; rintro _ w ⟨oN, cN, rfl, hH2⟩ a hA; clear hH; have hH := (hH2 _ (by (repeat constructor))).tail; clear hH2) | (refine S0T ?_; clear hH; rintro _ w hH) )) | ((first | refine CT ?_ | (refine DT ?_ ?_ <;> intro hc <;> try (exfalso; omega))) <;> repeat' refine CT ?_) | (first | (refine DSK ?_; clear hA a; intro a hA) | (first | (refine DLT ?_; clear hA hH; rintro _ w ⟨oN, rfl, hH⟩; refine ⟨STT, ?_⟩; intro a hA) | (refine DAT ?_; clear hA; rintro _ w ⟨oN, cN, rfl, hH2⟩; clear hH; have hH := (hH2 _ (by (repeat constructor))).tail; clear hH2; refine ⟨STT, ?_⟩; intro a hA))) )
      exact ⟨inL_no fun k x hk => hno k x (by have := (List.getElem?_eq_some_iff.1 hk).1; omega) hk, hH, (hA.sub (by (repeat (first | exact trivial | refine ⟨rfl, ?_⟩))))⟩
  · clear hA hH
    rintro a w ⟨hno, hH, hA⟩
    repeat' (first | (first | (refine GT ?_ ?_ <;> intro hg <;> clear hA a <;> intro a hA <;> (first | exact FA | replace hg := of_decide_eq_true hg | replace hg := of_decide_eq_false hg | skip)) | (refine QT ?_; clear hA a; intro a hA) | (first | (refine BT ?_; clear hA hH; rintro _ w ⟨bN, rfl, hH⟩ a hA) | (refine LT ?_; clear hA hH; rintro _ w ⟨oN, rfl, hH⟩ a hA) | (refine AT ?_; clear hA; rintro _ w ⟨oN, cN, rfl, hH2⟩ a hA; clear hH; have hH := (hH2 _ (by (repeat constructor))).tail; clear hH2) | (refine S0T ?_; clear hH; rintro _ w hH) )) | ((first | refine CT ?_ | (refine DT ?_ ?_ <;> intro hc <;> try (exfalso; omega))) <;> repeat' refine CT ?_) | (first | (refine DSK ?_; clear hA a; intro a hA) | (first | (refine DLT ?_; clear hA hH; rintro _ w ⟨oN, rfl, hH⟩; refine ⟨STT, ?_⟩; intro a hA) | (refine DAT ?_; clear hA; rintro _ w ⟨oN, cN, rfl, hH2⟩; clear hH; have hH := (hH2 _ (by (repeat constructor))).tail; clear hH2; refine ⟨STT, ?_⟩; intro a hA))) )
    exact rt1 (.inl rfl) rfl hA rfl ⟨by rw [hno], hH.kp⟩

theorem has_spec (w0 : World) (o : Option Addr) (c : Nat) (l : List Nat) (z : Int) (hr : Rd w0 o (flat encN l)) (hl : l.length ≤ 9223372036854775806) : Ret Try.prog 30 #[.slice o l.length c, .int .i64 z] w0 (fun v w => v = .bool (inL l z) ∧ Kp w0 noM w) := by
  have hH : HS w0 noM [] w0 := HS.init w0 noM
  have hsp : Sp o l.length := hr.sp (sz := 1) (flat_length encN_len l) (by omega)
  (refine enter (N := 18) Try.func30 rfl Try.ntmps30 rfl ?_; intro a hA; dsimp only [sl0, Nat.reduceAdd] at hA)
  repeat' (first | (first | (refine GT ?_ ?_ <;> intro hg <;> clear hA a <;> intro a hA <;> (first | exact FA | replace hg := of_decide_eq_true hg | replace hg := of_decide_eq_false hg | skip)) | (refine QT ?_; clear hA a; intro a hA) | (first | (refine BT ?_; clear hA hH; rintro _ w ⟨bN, rfl, hH⟩ a hA) | (refine LT ?_; clear hA hH; rintro _ w ⟨oN, rfl, hH⟩ a hA) | (refine AT ?_; clear hA; rintro _ w ⟨oN, cN, rfl, hH2⟩ a hA; clear hH; have hH := (hH2 _ (by (repeat constructor))).tail; clear hH2) | (refine S0T ?_; clear hH; rintro _ w hH) )) | ((first | refine CT ?_ | (refine DT ?_ ?_ <;> intro hc <;> try (exfalso; omega))) <;> repeat' refine CT ?_) | (first | (refine DSK ?_; clear hA a; intro a hA) | (first | (refine DLT ?_; clear hA hH; rintro _ w ⟨oN, rfl, hH⟩; refine ⟨STT, ?_⟩; intro a hA) | (refine DAT ?_; clear hA; rintro _ w ⟨oN, cN, rfl, hH2⟩; clear hH; have hH := (hH2 _ (by (repeat constructor))).tail; clear hH2; refine ⟨STT, ?_⟩; intro a hA))) )
  refine wp_lpj (S := Nat) (fun i a w => (i ≤ l.length ∧ ∀ (k x : Nat), k < i → l[k]? = some x → (x : Int) ≠ z) ∧ HS w0 noM [] w ∧ Sl 18 [(0, .slice o l.length c), (1, .int .i64 z), (7, .int .i64 l.length), (8, .int .i64 i)] a) (fun i => l.length - i)
    (fun a w => inL l z = false ∧ HS w0 noM [] w ∧ Sl 18 [] a) 0 ⟨⟨Nat.zero_le _, fun k x hk => by omega⟩, hH, (hA.sub (by (repeat (first | exact trivial | refine ⟨rfl, ?_⟩))))⟩ ?_ ?_
  · clear hA hH
    rintro i a w ⟨⟨hi, hno⟩, hH, hA⟩
    by_cases hlt : i < l.length
    · obtain ⟨x, hx⟩ : ∃ x, l[i]? = some x := ⟨_, List.getElem?_eq_getElem hlt⟩
      have hcx := encN_at hx
      repeat' (first | (first | (refine GT ?_ ?_ <;> intro hg <;> clear hA a <;> intro a hA <;> (first | exact FA | replace hg := of_decide_eq_true hg | replace hg := of_decide_eq_false hg | skip)) | (refine QT ?_; clear hA a; intro a hA) | (first | (refine BT ?_; clear hA hH; rintro _ w ⟨bN, rfl, hH⟩ a hA) | (refine LT ?_; clear hA hH; rintro _ w ⟨oN, rfl, hH⟩ a hA) | (refine AT ?_; clear hA; rintro _ w ⟨oN, cN, rfl, hH2⟩ a hA; clear hH; have hH := (hH2 _ (by (repeat constructor))).tail; clear hH2) | (refine S0T ?_; clear hH; rintro _ w hH) )) | ((first | refine CT ?_ | (refine DT ?_ ?_ <;> intro hc <;> try (exfalso; omega))) <;> repeat' refine CT ?_) | (first | (refine DSK ?_; clear hA a; intro a hA) | (first | (refine DLT ?_; clear hA hH; rintro _ w ⟨oN, rfl, hH⟩; refine ⟨STT, ?_⟩; intro a hA) | (refine DAT ?_; clear hA; rintro _ w ⟨oN, cN, rfl, hH2⟩; clear hH; have hH := (hH2 _ (by (repeat constructor))).tail; clear hH2; refine ⟨STT, ?_⟩; intro a hA))) )
      · exact rt1 (.inl rfl) rfl hA rfl ⟨by rw [inL_at hx (by assumption)], hH.kp⟩
      · refine ⟨i + 1, ⟨⟨hlt, fun k y hk hy => ?_⟩, hH, (hA.sub (by (repeat (first | exact trivial | refine ⟨rfl, ?_⟩))))⟩, by omega⟩
        rcases Nat.lt_or_ge k i with h | h
        · exact hno k y h hy
        · obtain rfl : k = i := by omega
          rw [hx] at hy
          obtain rfl := Option.some.inj hy
          assumption
    · repeat' (first | (first | (refine GT ?_ ?_ <;> intro hg <;> clear hA a <;> intro a hA <;> (first | exact FA | replace hg := of_decide_eq_true hg | replace hg := of_decide_eq_false hg | skip)) | (refine QT ?_; clear hA a; intro a hA) | (first | (refine BT ?_; clear hA hH; rintro _ w ⟨bN, rfl, hH⟩ a hA) | (refine LT ?_; clear hA hH; rintro _ w ⟨oN, rfl, hH⟩ a hA) | (refine AT ?_; clear hA; rintro _ w ⟨oN, cN, rfl, hH2⟩ a hA; clear hH; have hH := (hH2 _ (by (repeat constructor))).tail; clear hH2) | (refine S0T ?_; clear hH; rintro _ w hH) )) | ((first | refine CT ?_ | (refine DT ?_ ?_ <;> intro hc <;> try (exfalso; omega))) <;> repeat' refine CT ?_) | (first | (refine DSK ?_; clear hA a; intro a hA) | (first | (refine DLT ?_; clear hA hH; rintro _ w ⟨oN, rfl, hH⟩; refine ⟨STT, ?_⟩; intro a hA) | (refine DAT ?_; clear hA; rintro _ w ⟨oN, cN, rfl, hH2⟩; clear hH; have hH := (hH2 _ (by (repeat constructor))).tail; clear hH2; refine ⟨STT, ?_⟩; intro a hA))) )
      exact ⟨inL_no fun k x hk => hno k x (by have := (List.getElem?_eq_some_iff.1 hk).1; omega) hk, hH, (hA.sub (by (repeat (first | exact trivial | refine ⟨rfl, ?_⟩))))⟩
  · clear hA hH
    rintro a w ⟨hno, hH, hA⟩
    repeat' (first | (first | (refine GT ?_ ?_ <;> intro hg <;> clear hA a <;> intro a hA <;> (first | exact FA | replace hg := of_decide_eq_true hg | replace hg := of_decide_eq_false hg | skip)) | (refine QT ?_; clear hA a; intro a hA) | (first | (refine BT ?_; clear hA hH; rintro _ w ⟨bN, rfl, hH⟩ a hA) | (refine LT ?_; clear hA hH; rintro _ w ⟨oN, rfl, hH⟩ a hA) | (refine AT ?_; clear hA; rintro _ w ⟨oN, cN, rfl, hH2⟩ a hA; clear hH; have hH := (hH2 _ (by (repeat constructor))).tail; clear hH2) | (refine S0T ?_; clear hH; rintro _ w hH) )) | ((first | refine CT ?_ | (refine DT ?_ ?_ <;> intro hc <;> try (exfalso; omega))) <;> repeat' refine CT ?_) | (first | (refine DSK ?_; clear hA a; intro a hA) | (first | (refine DLT ?_; clear hA hH; rintro _ w ⟨oN, rfl, hH⟩; refine ⟨STT, ?_⟩; intro a hA) | (refine DAT ?_; clear hA; rintro _ w ⟨oN, cN, rfl, hH2⟩; clear hH; have hH := (hH2 _ (by (repeat constructor))).tail; clear hH2; refine ⟨STT, ?_⟩; intro a hA))) )
    exact rt1 (.inl rfl) rfl hA rfl ⟨by rw [hno], hH.kp⟩

theorem reaches_spec (w0 : World) (b N : Nat) (L : List Ob) (x : Int) (hU : U x) (hL : L.length ≤ 65536) (hR : RfR w0 b N L) : Ret Try.prog 55 #[.pointer (some (bat b 0)), .int .u64 x] w0 (fun v w => v = .int .i64 (reachA L x : Nat) ∧ Kp w0 noM w) := by
  have hH : HS w0 noM [] w0 := HS.init w0 noM
  have haN := addrN_eq hU
  (refine enter (N := 16) Try.func55 rfl Try.ntmps55 rfl ?_; intro a hA; dsimp only [sl0, Nat.reduceAdd] at hA)
  repeat' (first | (first | (refine GT ?_ ?_ <;> intro hg <;> clear hA a <;> intro a hA <;> (first | exact FA | replace hg := of_decide_eq_true hg | replace hg := of_decide_eq_false hg | skip)) | (refine QT ?_; clear hA a; intro a hA) | (first | (refine BT ?_; clear hA hH; rintro _ w ⟨bN, rfl, hH⟩ a hA) | (refine LT ?_; clear hA hH; rintro _ w ⟨oN, rfl, hH⟩ a hA) | (refine AT ?_; clear hA; rintro _ w ⟨oN, cN, rfl, hH2⟩ a hA; clear hH; have hH := (hH2 _ (by (repeat constructor))).tail; clear hH2) | (refine S0T ?_; clear hH; rintro _ w hH) )) | ((first | refine CT ?_ | (refine DT ?_ ?_ <;> intro hc <;> try (exfalso; omega))) <;> repeat' refine CT ?_) | (first | (refine DSK ?_; clear hA a; intro a hA) | (first | (refine DLT ?_; clear hA hH; rintro _ w ⟨oN, rfl, hH⟩; refine ⟨STT, ?_⟩; intro a hA) | (refine DAT ?_; clear hA; rintro _ w ⟨oN, cN, rfl, hH2⟩; clear hH; have hH := (hH2 _ (by (repeat constructor))).tail; clear hH2; refine ⟨STT, ?_⟩; intro a hA))) )
  (refine st_op hA rfl rfl (by decide) (op_call rfl rfl rfl (risnum_spec _ x hU)) ?_; clear hA; rintro _ w ⟨rfl, hk⟩ a hA; replace hH := hH.keep hk; clear hk)
  cases hn : numW x with
  | true =>
    rw [hn] at hA
    repeat' (first | (first | (refine GT ?_ ?_ <;> intro hg <;> clear hA a <;> intro a hA <;> (first | exact FA | replace hg := of_decide_eq_true hg | replace hg := of_decide_eq_false hg | skip)) | (refine QT ?_; clear hA a; intro a hA) | (first | (refine BT ?_; clear hA hH; rintro _ w ⟨bN, rfl, hH⟩ a hA) | (refine LT ?_; clear hA hH; rintro _ w ⟨oN, rfl, hH⟩ a hA) | (refine AT ?_; clear hA; rintro _ w ⟨oN, cN, rfl, hH2⟩ a hA; clear hH; have hH := (hH2 _ (by (repeat constructor))).tail; clear hH2) | (refine S0T ?_; clear hH; rintro _ w hH) )) | ((first | refine CT ?_ | (refine DT ?_ ?_ <;> intro hc <;> try (exfalso; omega))) <;> repeat' refine CT ?_) | (first | (refine DSK ?_; clear hA a; intro a hA) | (first | (refine DLT ?_; clear hA hH; rintro _ w ⟨oN, rfl, hH⟩; refine ⟨STT, ?_⟩; intro a hA) | (refine DAT ?_; clear hA; rintro _ w ⟨oN, cN, rfl, hH2⟩; clear hH; have hH := (hH2 _ (by (repeat constructor))).tail; clear hH2; refine ⟨STT, ?_⟩; intro a hA))) )
    exact rt1 (.inl rfl) rfl hA rfl ⟨by unfold reachA; rw [if_neg (by rw [hn]; simp)]; rfl, hH.kp⟩
  | false =>
    rw [hn] at hA
    repeat' (first | (first | (refine GT ?_ ?_ <;> intro hg <;> clear hA a <;> intro a hA <;> (first | exact FA | replace hg := of_decide_eq_true hg | replace hg := of_decide_eq_false hg | skip)) | (refine QT ?_; clear hA a; intro a hA) | (first | (refine BT ?_; clear hA hH; rintro _ w ⟨bN, rfl, hH⟩ a hA) | (refine LT ?_; clear hA hH; rintro _ w ⟨oN, rfl, hH⟩ a hA) | (refine AT ?_; clear hA; rintro _ w ⟨oN, cN, rfl, hH2⟩ a hA; clear hH; have hH := (hH2 _ (by (repeat constructor))).tail; clear hH2) | (refine S0T ?_; clear hH; rintro _ w hH) )) | ((first | refine CT ?_ | (refine DT ?_ ?_ <;> intro hc <;> try (exfalso; omega))) <;> repeat' refine CT ?_) | (first | (refine DSK ?_; clear hA a; intro a hA) | (first | (refine DLT ?_; clear hA hH; rintro _ w ⟨oN, rfl, hH⟩; refine ⟨STT, ?_⟩; intro a hA) | (refine DAT ?_; clear hA; rintro _ w ⟨oN, cN, rfl, hH2⟩; clear hH; have hH := (hH2 _ (by (repeat constructor))).tail; clear hH2; refine ⟨STT, ?_⟩; intro a hA))) )
    (refine st_op hA rfl rfl (by decide) (op_call rfl rfl rfl (raddr_spec _ x hU)) ?_; clear hA; rintro _ w ⟨rfl, hk⟩ a hA; replace hH := hH.keep hk; clear hk)
    repeat' (first | (first | (refine GT ?_ ?_ <;> intro hg <;> clear hA a <;> intro a hA <;> (first | exact FA | replace hg := of_decide_eq_true hg | replace hg := of_decide_eq_false hg | skip)) | (refine QT ?_; clear hA a; intro a hA) | (first | (refine BT ?_; clear hA hH; rintro _ w ⟨bN, rfl, hH⟩ a hA) | (refine LT ?_; clear hA hH; rintro _ w ⟨oN, rfl, hH⟩ a hA) | (refine AT ?_; clear hA; rintro _ w ⟨oN, cN, rfl, hH2⟩ a hA; clear hH; have hH := (hH2 _ (by (repeat constructor))).tail; clear hH2) | (refine S0T ?_; clear hH; rintro _ w hH) )) | ((first | refine CT ?_ | (refine DT ?_ ?_ <;> intro hc <;> try (exfalso; omega))) <;> repeat' refine CT ?_) | (first | (refine DSK ?_; clear hA a; intro a hA) | (first | (refine DLT ?_; clear hA hH; rintro _ w ⟨oN, rfl, hH⟩; refine ⟨STT, ?_⟩; intro a hA) | (refine DAT ?_; clear hA; rintro _ w ⟨oN, cN, rfl, hH2⟩; clear hH; have hH := (hH2 _ (by (repeat constructor))).tail; clear hH2; refine ⟨STT, ?_⟩; intro a hA))) )
    (refine st_op hA rfl rfl (by decide) (op_call rfl rfl rfl (rfind_spec _ b N L (addrW x) hL (hR.keep hH.kp))) ?_; clear hA; rintro _ w ⟨rfl, hk⟩ a hA; replace hH := hH.keep hk; clear hk)
    have hf := find_neg (L := L) (z := addrW x)
    by_cases hO : isO L (addrN x)
    · have hi : isA L (addrW x) = true := by rw [← haN]; exact isO_iff.2 hO
      have hge : ¬ findI L (addrW x) < 0 := fun h => by rw [hf.1 h] at hi; cases hi
      repeat' (first | (first | (refine GT ?_ ?_ <;> intro hg <;> clear hA a <;> intro a hA <;> (first | exact FA | replace hg := of_decide_eq_true hg | replace hg := of_decide_eq_false hg | skip)) | (refine QT ?_; clear hA a; intro a hA) | (first | (refine BT ?_; clear hA hH; rintro _ w ⟨bN, rfl, hH⟩ a hA) | (refine LT ?_; clear hA hH; rintro _ w ⟨oN, rfl, hH⟩ a hA) | (refine AT ?_; clear hA; rintro _ w ⟨oN, cN, rfl, hH2⟩ a hA; clear hH; have hH := (hH2 _ (by (repeat constructor))).tail; clear hH2) | (refine S0T ?_; clear hH; rintro _ w hH) )) | ((first | refine CT ?_ | (refine DT ?_ ?_ <;> intro hc <;> try (exfalso; omega))) <;> repeat' refine CT ?_) | (first | (refine DSK ?_; clear hA a; intro a hA) | (first | (refine DLT ?_; clear hA hH; rintro _ w ⟨oN, rfl, hH⟩; refine ⟨STT, ?_⟩; intro a hA) | (refine DAT ?_; clear hA; rintro _ w ⟨oN, cN, rfl, hH2⟩; clear hH; have hH := (hH2 _ (by (repeat constructor))).tail; clear hH2; refine ⟨STT, ?_⟩; intro a hA))) )
      (refine st_op hA rfl rfl (by decide) (op_call rfl rfl rfl (raddr_spec _ x hU)) ?_; clear hA; rintro _ w ⟨rfl, hk⟩ a hA; replace hH := hH.keep hk; clear hk)
      repeat' (first | (first | (refine GT ?_ ?_ <;> intro hg <;> clear hA a <;> intro a hA <;> (first | exact FA | replace hg := of_decide_eq_true hg | replace hg := of_decide_eq_false hg | skip)) | (refine QT ?_; clear hA a; intro a hA) | (first | (refine BT ?_; clear hA hH; rintro _ w ⟨bN, rfl, hH⟩ a hA) | (refine LT ?_; clear hA hH; rintro _ w ⟨oN, rfl, hH⟩ a hA) | (refine AT ?_; clear hA; rintro _ w ⟨oN, cN, rfl, hH2⟩ a hA; clear hH; have hH := (hH2 _ (by (repeat constructor))).tail; clear hH2) | (refine S0T ?_; clear hH; rintro _ w hH) )) | ((first | refine CT ?_ | (refine DT ?_ ?_ <;> intro hc <;> try (exfalso; omega))) <;> repeat' refine CT ?_) | (first | (refine DSK ?_; clear hA a; intro a hA) | (first | (refine DLT ?_; clear hA hH; rintro _ w ⟨oN, rfl, hH⟩; refine ⟨STT, ?_⟩; intro a hA) | (refine DAT ?_; clear hA; rintro _ w ⟨oN, cN, rfl, hH2⟩; clear hH; have hH := (hH2 _ (by (repeat constructor))).tail; clear hH2; refine ⟨STT, ?_⟩; intro a hA))) )
      exact rt1 (.inl rfl) rfl hA rfl ⟨by unfold reachA; rw [if_pos ⟨hn, hO⟩, haN], hH.kp⟩
    · have hi : isA L (addrW x) = false := by
        cases hc : isA L (addrW x) with
        | false => rfl
        | true => rw [← haN] at hc; exact absurd (isO_iff.1 hc) hO
      have hlt : findI L (addrW x) < 0 := hf.2 hi
      repeat' (first | (first | (refine GT ?_ ?_ <;> intro hg <;> clear hA a <;> intro a hA <;> (first | exact FA | replace hg := of_decide_eq_true hg | replace hg := of_decide_eq_false hg | skip)) | (refine QT ?_; clear hA a; intro a hA) | (first | (refine BT ?_; clear hA hH; rintro _ w ⟨bN, rfl, hH⟩ a hA) | (refine LT ?_; clear hA hH; rintro _ w ⟨oN, rfl, hH⟩ a hA) | (refine AT ?_; clear hA; rintro _ w ⟨oN, cN, rfl, hH2⟩ a hA; clear hH; have hH := (hH2 _ (by (repeat constructor))).tail; clear hH2) | (refine S0T ?_; clear hH; rintro _ w hH) )) | ((first | refine CT ?_ | (refine DT ?_ ?_ <;> intro hc <;> try (exfalso; omega))) <;> repeat' refine CT ?_) | (first | (refine DSK ?_; clear hA a; intro a hA) | (first | (refine DLT ?_; clear hA hH; rintro _ w ⟨oN, rfl, hH⟩; refine ⟨STT, ?_⟩; intro a hA) | (refine DAT ?_; clear hA; rintro _ w ⟨oN, cN, rfl, hH2⟩; clear hH; have hH := (hH2 _ (by (repeat constructor))).tail; clear hH2; refine ⟨STT, ?_⟩; intro a hA))) )
      exact rt1 (.inl rfl) rfl hA rfl ⟨by unfold reachA; rw [if_neg (fun h => hO h.2)]; rfl, hH.kp⟩
theorem find_is {N : Nat} {L : List Ob} (hl : Lay N 1 L) {a : Nat} (h : isO L a) : ∃ (j : Nat) (o : Ob), findI L a = j ∧ L[j]? = some o ∧ o.a = a ∧ o ∈ L := by
  obtain ⟨o, ho, rfl⟩ := h
  have e := objA_mem hl ho
  rcases findI_obj L (o.a : Int) with ⟨h1, _⟩ | ⟨i, o', h1, h2, h3⟩
  · rw [e] at h1; cases h1
  · rw [e] at h1
    obtain rfl := Option.some.inj h1
    exact ⟨i, o, h2, h3, rfl, ho⟩

set_option maxHeartbeats 4000000 in
theorem Closure_spec (w0 : World) (b N : Nat) (L : List Ob) (oR : Option Addr) (cR : Nat) (roots : List Int) (hok : Ok N L) (hWO : WO L) (hR : RfR w0 b N L) (hrR : Rd w0 oR (flat encW roots)) (hUR : ∀ x ∈ roots, U x) (hlR : roots.length ≤ 1000) :
    Ret Try.prog 27 #[.pointer (some (bat b 0)), .slice oR roots.length cR] w0 (fun v w => ∃ (o : Option Addr) (c : Nat) (out : List Nat), Clo L roots out ∧ v = .slice o out.length c ∧ HS w0 noM [own 3 1 o out.length c (flat encN out)] w) := by
  have hH : HS w0 noM [] w0 := HS.init w0 noM
  have hspR : Sp oR roots.length := hrR.sp (sz := 1) (flat_length encW_len roots) (by omega)
  have hl := hok.lay
  have hL := hok.len
  have hn2 := hok.n2
  obtain ⟨q, hq⟩ := id hR
  have hspq := hq.sp
  have hq1 := hq.c1
  have hqO := hq.rO
  have pos : ∀ x : Int, isO L (addrN x) → 1 ≤ addrN x := fun x h => (isO_lt hl h).1
  (refine enter (N := 87) Try.func27 rfl Try.ntmps27 rfl ?_; intro a hA; dsimp only [sl0, Nat.reduceAdd] at hA)
  repeat' (first | (first | (refine GT ?_ ?_ <;> intro hg <;> clear hA a <;> intro a hA <;> (first | exact FA | replace hg := of_decide_eq_true hg | replace hg := of_decide_eq_false hg | skip)) | (refine QT ?_; clear hA a; intro a hA) | (first | (refine BT ?_; clear hA hH; rintro _ w ⟨bN, rfl, hH⟩ a hA) | (refine LT ?_; clear hA hH; rintro _ w ⟨oN, rfl, hH⟩ a hA) | (refine AT ?_; clear hA; rintro _ w ⟨oN, cN, rfl, hH2⟩ a hA; clear hH; have hH := (hH2 _ (by (repeat constructor))).tail; clear hH2) | (refine S0T ?_; clear hH; rintro _ w hH) )) | ((first | refine CT ?_ | (refine DT ?_ ?_ <;> intro hc <;> try (exfalso; omega))) <;> repeat' refine CT ?_) | (first | (refine DSK ?_; clear hA a; intro a hA) | (first | (refine DLT ?_; clear hA hH; rintro _ w ⟨oN, rfl, hH⟩; refine ⟨STT, ?_⟩; intro a hA) | (refine DAT ?_; clear hA; rintro _ w ⟨oN, cN, rfl, hH2⟩; clear hH; have hH := (hH2 _ (by (repeat constructor))).tail; clear hH2; refine ⟨STT, ?_⟩; intro a hA))) )
  rw [nil_flat] at hH
  refine wp_lpj (S := Nat × List Nat × Option Addr × Nat) (fun s a w => (s.1 ≤ roots.length ∧ Cl0 L roots s.2.1 ∧ ∀ (k : Nat) (x : Int), k < s.1 → roots[k]? = some x → numW x = false → isO L (addrN x) → addrN x ∈ s.2.1) ∧ HS w0 noM [own 3 1 s.2.2.1 s.2.1.length s.2.2.2 (flat encN s.2.1)] w ∧ Sl 87 [(0, .pointer (some (bat b 0))), (1, .slice oR roots.length cR), (5, .slice s.2.2.1 s.2.1.length s.2.2.2), (6, .int .i64 s.1)] a) (fun s => roots.length - s.1)
    (fun a w => ∃ (out : List Nat) (o : Option Addr) (c : Nat), Cw L roots 0 out ∧ HS w0 noM [own 3 1 o out.length c (flat encN out)] w ∧ Sl 87 [(0, .pointer (some (bat b 0))), (5, .slice o out.length c)] a) (0, [], oN, 0) ⟨⟨Nat.zero_le _, ⟨List.nodup_nil, fun a ha => absurd ha (List.not_mem_nil), fun a ha => absurd ha (List.not_mem_nil)⟩, fun k x hk => absurd hk (Nat.not_lt_zero _)⟩, hH, (hA.sub (by (repeat (first | exact trivial | refine ⟨rfl, ?_⟩))))⟩ ?_ ?_
  · clear hA hH
    rintro ⟨i, out, o, c⟩ a w ⟨⟨hi, hC, hrt⟩, hH, hA⟩
    dsimp only at hi hC hrt hH hA
    by_cases hlt : i < roots.length
    rotate_left
    · repeat' (first | (first | (refine GT ?_ ?_ <;> intro hg <;> clear hA a <;> intro a hA <;> (first | exact FA | replace hg := of_decide_eq_true hg | replace hg := of_decide_eq_false hg | skip)) | (refine QT ?_; clear hA a; intro a hA) | (first | (refine BT ?_; clear hA hH; rintro _ w ⟨bN, rfl, hH⟩ a hA) | (refine LT ?_; clear hA hH; rintro _ w ⟨oN, rfl, hH⟩ a hA) | (refine AT ?_; clear hA; rintro _ w ⟨oN, cN, rfl, hH2⟩ a hA; clear hH; have hH := (hH2 _ (by (repeat constructor))).tail; clear hH2) | (refine S0T ?_; clear hH; rintro _ w hH) )) | ((first | refine CT ?_ | (refine DT ?_ ?_ <;> intro hc <;> try (exfalso; omega))) <;> repeat' refine CT ?_) | (first | (refine DSK ?_; clear hA a; intro a hA) | (first | (refine DLT ?_; clear hA hH; rintro _ w ⟨oN, rfl, hH⟩; refine ⟨STT, ?_⟩; intro a hA) | (refine DAT ?_; clear hA; rintro _ w ⟨oN, cN, rfl, hH2⟩; clear hH; have hH := (hH2 _ (by (repeat constructor))).tail; clear hH2; refine ⟨STT, ?_⟩; intro a hA))) )
      exact ⟨out, o, c, ⟨hC, fun x hx h1 h2 => by obtain ⟨k, hk⟩ := List.getElem?_of_mem hx; exact hrt k x (by have := (List.getElem?_eq_some_iff.1 hk).1; omega) hk h1 h2, fun p a hp => absurd hp (Nat.not_lt_zero _)⟩, hH, (hA.sub (by (repeat (first | exact trivial | refine ⟨rfl, ?_⟩))))⟩
    obtain ⟨x, hx⟩ : ∃ x, roots[i]? = some x := ⟨_, List.getElem?_eq_getElem hlt⟩
    have hxm := List.mem_of_getElem? hx
    have hcx : (flat encW roots)[i * 1]? = some (.int .u64 x) := flat_get0 encW_len hx rfl
    have hCn := hC.add (reach_rc hl hxm)
    have hrt2 : ∀ (k : Nat) (y : Int), k < i + 1 → roots[k]? = some y → numW y = false → isO L (addrN y) → addrN y ∈ addO out (reachA L x) := fun k y hk hy h1 h2 => by
      rcases Nat.lt_or_ge k i with h | h
      · exact addO_mem (hrt k y h hy h1 h2)
      · obtain rfl : k = i := by omega
        rw [hx] at hy
        obtain rfl := Option.some.inj hy
        exact reach_in h1 h2 (pos _ h2)
    have hle := hC.len hl
    repeat' (first | (first | (refine GT ?_ ?_ <;> intro hg <;> clear hA a <;> intro a hA <;> (first | exact FA | replace hg := of_decide_eq_true hg | replace hg := of_decide_eq_false hg | skip)) | (refine QT ?_; clear hA a; intro a hA) | (first | (refine BT ?_; clear hA hH; rintro _ w ⟨bN, rfl, hH⟩ a hA) | (refine LT ?_; clear hA hH; rintro _ w ⟨oN, rfl, hH⟩ a hA) | (refine AT ?_; clear hA; rintro _ w ⟨oN, cN, rfl, hH2⟩ a hA; clear hH; have hH := (hH2 _ (by (repeat constructor))).tail; clear hH2) | (refine S0T ?_; clear hH; rintro _ w hH) )) | ((first | refine CT ?_ | (refine DT ?_ ?_ <;> intro hc <;> try (exfalso; omega))) <;> repeat' refine CT ?_) | (first | (refine DSK ?_; clear hA a; intro a hA) | (first | (refine DLT ?_; clear hA hH; rintro _ w ⟨oN, rfl, hH⟩; refine ⟨STT, ?_⟩; intro a hA) | (refine DAT ?_; clear hA; rintro _ w ⟨oN, cN, rfl, hH2⟩; clear hH; have hH := (hH2 _ (by (repeat constructor))).tail; clear hH2; refine ⟨STT, ?_⟩; intro a hA))) )
    (refine st_op hA rfl rfl (by decide) (op_call rfl rfl rfl (reaches_spec _ b N L x (hUR x hxm) hL (hR.keep hH.kp))) ?_; clear hA; rintro _ w ⟨rfl, hk⟩ a hA; replace hH := hH.keep hk; clear hk)
    have hrdO := hH.own_rd (o := o) (xs := flat encN out) (by exact MEMT)
    have hxx : addO out (reachA L x) = if 0 < reachA L x ∧ reachA L x ∉ out then out ++ [reachA L x] else out := by unfold addO; rfl
    generalize hrx : reachA L x = r at *
    by_cases hpos : 0 < r
    · by_cases hm : r ∈ out
      · rw [if_neg (fun h => h.2 hm)] at hxx
        rw [hxx] at hCn hrt2
        have hin := inL_nat.2 hm
        repeat' (first | (first | (refine GT ?_ ?_ <;> intro hg <;> clear hA a <;> intro a hA <;> (first | exact FA | replace hg := of_decide_eq_true hg | replace hg := of_decide_eq_false hg | skip)) | (refine QT ?_; clear hA a; intro a hA) | (first | (refine BT ?_; clear hA hH; rintro _ w ⟨bN, rfl, hH⟩ a hA) | (refine LT ?_; clear hA hH; rintro _ w ⟨oN, rfl, hH⟩ a hA) | (refine AT ?_; clear hA; rintro _ w ⟨oN, cN, rfl, hH2⟩ a hA; clear hH; have hH := (hH2 _ (by (repeat constructor))).tail; clear hH2) | (refine S0T ?_; clear hH; rintro _ w hH) | ((refine st_op hA rfl rfl (by decide) (op_call rfl rfl rfl (in_spec _ o c out r (hH.own_rd (by exact MEMT)) (by omega))) ?_; clear hA; rintro _ w ⟨rfl, hk⟩ a hA; replace hH := hH.keep hk; clear hk); rw [hin] at hA))) | ((first | refine CT ?_ | (refine DT ?_ ?_ <;> intro hc <;> try (exfalso; omega))) <;> repeat' refine CT ?_) | (first | (refine DSK ?_; clear hA a; intro a hA) | (first | (refine DLT ?_; clear hA hH; rintro _ w ⟨oN, rfl, hH⟩; refine ⟨STT, ?_⟩; intro a hA) | (refine DAT ?_; clear hA; rintro _ w ⟨oN, cN, rfl, hH2⟩; clear hH; have hH := (hH2 _ (by (repeat constructor))).tail; clear hH2; refine ⟨STT, ?_⟩; intro a hA))) )
        exact ⟨(i + 1, out, o, c), ⟨⟨hlt, hCn, hrt2⟩, hH, (hA.sub (by (repeat (first | exact trivial | refine ⟨rfl, ?_⟩))))⟩, by show roots.length - (i + 1) < roots.length - i; omega⟩
      · rw [if_pos ⟨hpos, hm⟩] at hxx
        rw [hxx] at hCn hrt2
        have hin : inL out (r : Int) = false := by
          cases hc : inL out (r : Int) with
          | false => rfl
          | true => exact absurd (inL_nat.1 hc) hm
        have hl1 : out.length + 1 = (out ++ [r]).length := by rw [List.length_append]; rfl
        repeat' (first | (first | (refine GT ?_ ?_ <;> intro hg <;> clear hA a <;> intro a hA <;> (first | exact FA | replace hg := of_decide_eq_true hg | replace hg := of_decide_eq_false hg | skip)) | (refine QT ?_; clear hA a; intro a hA) | (first | (refine BT ?_; clear hA hH; rintro _ w ⟨bN, rfl, hH⟩ a hA) | (refine LT ?_; clear hA hH; rintro _ w ⟨oN, rfl, hH⟩ a hA) | (refine AT ?_; clear hA; rintro _ w ⟨oN, cN, rfl, hH2⟩ a hA; clear hH; have hH := (hH2 _ (by (repeat constructor))).tail; clear hH2) | (refine S0T ?_; clear hH; rintro _ w hH) | ((refine st_op hA rfl rfl (by decide) (op_call rfl rfl rfl (in_spec _ o c out r (hH.own_rd (by exact MEMT)) (by omega))) ?_; clear hA; rintro _ w ⟨rfl, hk⟩ a hA; replace hH := hH.keep hk; clear hk); rw [hin] at hA))) | ((first | refine CT ?_ | (refine DT ?_ ?_ <;> intro hc <;> try (exfalso; omega))) <;> repeat' refine CT ?_) | (first | (refine DSK ?_; clear hA a; intro a hA) | (first | (refine DLT ?_; clear hA hH; rintro _ w ⟨oN, rfl, hH⟩; refine ⟨STT, ?_⟩; intro a hA) | (refine DAT ?_; clear hA; rintro _ w ⟨oN, cN, rfl, hH2⟩; clear hH; have hH := (hH2 _ (by (repeat constructor))).tail; clear hH2; refine ⟨STT, ?_⟩; intro a hA))) )
        rw [snocN, hl1] at hH
        rw [hl1] at hA
        exact ⟨(i + 1, out ++ [r], oN, cN), ⟨⟨hlt, hCn, hrt2⟩, hH, (hA.sub (by (repeat (first | exact trivial | refine ⟨rfl, ?_⟩))))⟩, by show roots.length - (i + 1) < roots.length - i; omega⟩
    · rw [if_neg (fun h => hpos h.1)] at hxx
      rw [hxx] at hCn hrt2
      repeat' (first | (first | (refine GT ?_ ?_ <;> intro hg <;> clear hA a <;> intro a hA <;> (first | exact FA | replace hg := of_decide_eq_true hg | replace hg := of_decide_eq_false hg | skip)) | (refine QT ?_; clear hA a; intro a hA) | (first | (refine BT ?_; clear hA hH; rintro _ w ⟨bN, rfl, hH⟩ a hA) | (refine LT ?_; clear hA hH; rintro _ w ⟨oN, rfl, hH⟩ a hA) | (refine AT ?_; clear hA; rintro _ w ⟨oN, cN, rfl, hH2⟩ a hA; clear hH; have hH := (hH2 _ (by (repeat constructor))).tail; clear hH2) | (refine S0T ?_; clear hH; rintro _ w hH) )) | ((first | refine CT ?_ | (refine DT ?_ ?_ <;> intro hc <;> try (exfalso; omega))) <;> repeat' refine CT ?_) | (first | (refine DSK ?_; clear hA a; intro a hA) | (first | (refine DLT ?_; clear hA hH; rintro _ w ⟨oN, rfl, hH⟩; refine ⟨STT, ?_⟩; intro a hA) | (refine DAT ?_; clear hA; rintro _ w ⟨oN, cN, rfl, hH2⟩; clear hH; have hH := (hH2 _ (by (repeat constructor))).tail; clear hH2; refine ⟨STT, ?_⟩; intro a hA))) )
      exact ⟨(i + 1, out, o, c), ⟨⟨hlt, hCn, hrt2⟩, hH, (hA.sub (by (repeat (first | exact trivial | refine ⟨rfl, ?_⟩))))⟩, by show roots.length - (i + 1) < roots.length - i; omega⟩
  clear hA hH
  rintro a w ⟨out, o, c, hC, hH, hA⟩
  repeat' (first | (first | (refine GT ?_ ?_ <;> intro hg <;> clear hA a <;> intro a hA <;> (first | exact FA | replace hg := of_decide_eq_true hg | replace hg := of_decide_eq_false hg | skip)) | (refine QT ?_; clear hA a; intro a hA) | (first | (refine BT ?_; clear hA hH; rintro _ w ⟨bN, rfl, hH⟩ a hA) | (refine LT ?_; clear hA hH; rintro _ w ⟨oN, rfl, hH⟩ a hA) | (refine AT ?_; clear hA; rintro _ w ⟨oN, cN, rfl, hH2⟩ a hA; clear hH; have hH := (hH2 _ (by (repeat constructor))).tail; clear hH2) | (refine S0T ?_; clear hH; rintro _ w hH) )) | ((first | refine CT ?_ | (refine DT ?_ ?_ <;> intro hc <;> try (exfalso; omega))) <;> repeat' refine CT ?_) | (first | (refine DSK ?_; clear hA a; intro a hA) | (first | (refine DLT ?_; clear hA hH; rintro _ w ⟨oN, rfl, hH⟩; refine ⟨STT, ?_⟩; intro a hA) | (refine DAT ?_; clear hA; rintro _ w ⟨oN, cN, rfl, hH2⟩; clear hH; have hH := (hH2 _ (by (repeat constructor))).tail; clear hH2; refine ⟨STT, ?_⟩; intro a hA))) )
  have bnd : ∀ {out : List Nat}, Cl0 L roots out → out.length ≤ N := fun h => h.len hl
  refine wp_lpj (S := Nat × List Nat × Option Addr × Nat) (fun s a w => (s.1 ≤ s.2.1.length ∧ Cw L roots s.1 s.2.1) ∧ HS w0 noM [own 3 1 s.2.2.1 s.2.1.length s.2.2.2 (flat encN s.2.1)] w ∧ Sl 87 [(0, .pointer (some (bat b 0))), (5, .slice s.2.2.1 s.2.1.length s.2.2.2), (8, .int .i64 s.1)] a) (fun s => N - s.1)
    (fun a w => ∃ (out : List Nat) (o : Option Addr) (c : Nat), Cw L roots out.length out ∧ HS w0 noM [own 3 1 o out.length c (flat encN out)] w ∧ Sl 87 [(5, .slice o out.length c)] a) (0, out, o, c) ⟨⟨Nat.zero_le _, hC⟩, hH, (hA.sub (by (repeat (first | exact trivial | refine ⟨rfl, ?_⟩))))⟩ ?_ ?_
  rotate_left
  · clear hA hH
    rintro a w ⟨out, o, c, hC, hH, hA⟩
    repeat' (first | (first | (refine GT ?_ ?_ <;> intro hg <;> clear hA a <;> intro a hA <;> (first | exact FA | replace hg := of_decide_eq_true hg | replace hg := of_decide_eq_false hg | skip)) | (refine QT ?_; clear hA a; intro a hA) | (first | (refine BT ?_; clear hA hH; rintro _ w ⟨bN, rfl, hH⟩ a hA) | (refine LT ?_; clear hA hH; rintro _ w ⟨oN, rfl, hH⟩ a hA) | (refine AT ?_; clear hA; rintro _ w ⟨oN, cN, rfl, hH2⟩ a hA; clear hH; have hH := (hH2 _ (by (repeat constructor))).tail; clear hH2) | (refine S0T ?_; clear hH; rintro _ w hH) )) | ((first | refine CT ?_ | (refine DT ?_ ?_ <;> intro hc <;> try (exfalso; omega))) <;> repeat' refine CT ?_) | (first | (refine DSK ?_; clear hA a; intro a hA) | (first | (refine DLT ?_; clear hA hH; rintro _ w ⟨oN, rfl, hH⟩; refine ⟨STT, ?_⟩; intro a hA) | (refine DAT ?_; clear hA; rintro _ w ⟨oN, cN, rfl, hH2⟩; clear hH; have hH := (hH2 _ (by (repeat constructor))).tail; clear hH2; refine ⟨STT, ?_⟩; intro a hA))) )
    exact rt1 (.inl rfl) rfl hA rfl ⟨o, c, out, ⟨hC.c0, hC.rt, fun a b ha hE => by obtain ⟨p, hp⟩ := List.getElem?_of_mem ha; exact hC.done p a (List.getElem?_eq_some_iff.1 hp).1 hp b hE⟩, rfl, hH⟩
  clear hA hH hC
  rintro ⟨i, out, o, c⟩ a w ⟨⟨hi, hC⟩, hH, hA⟩
  dsimp only at hi hC hH hA
  have hle := bnd hC.c0
  by_cases hlt : i < out.length
  rotate_left
  · obtain rfl : i = out.length := by omega
    repeat' (first | (first | (refine GT ?_ ?_ <;> intro hg <;> clear hA a <;> intro a hA <;> (first | exact FA | replace hg := of_decide_eq_true hg | replace hg := of_decide_eq_false hg | skip)) | (refine QT ?_; clear hA a; intro a hA) | (first | (refine BT ?_; clear hA hH; rintro _ w ⟨bN, rfl, hH⟩ a hA) | (refine LT ?_; clear hA hH; rintro _ w ⟨oN, rfl, hH⟩ a hA) | (refine AT ?_; clear hA; rintro _ w ⟨oN, cN, rfl, hH2⟩ a hA; clear hH; have hH := (hH2 _ (by (repeat constructor))).tail; clear hH2) | (refine S0T ?_; clear hH; rintro _ w hH) )) | ((first | refine CT ?_ | (refine DT ?_ ?_ <;> intro hc <;> try (exfalso; omega))) <;> repeat' refine CT ?_) | (first | (refine DSK ?_; clear hA a; intro a hA) | (first | (refine DLT ?_; clear hA hH; rintro _ w ⟨oN, rfl, hH⟩; refine ⟨STT, ?_⟩; intro a hA) | (refine DAT ?_; clear hA; rintro _ w ⟨oN, cN, rfl, hH2⟩; clear hH; have hH := (hH2 _ (by (repeat constructor))).tail; clear hH2; refine ⟨STT, ?_⟩; intro a hA))) )
    exact ⟨out, o, c, hC, hH, (hA.sub (by (repeat (first | exact trivial | refine ⟨rfl, ?_⟩))))⟩
  obtain ⟨a0, ha0⟩ : ∃ x, out[i]? = some x := ⟨_, List.getElem?_eq_getElem hlt⟩
  obtain ⟨j, o0, hj, hLj, rfl, hoL⟩ := find_is hl (hC.c0.ob a0 (List.mem_of_getElem? ha0))
  obtain ⟨d, cd, hd, hrd, ca, ck, cf⟩ := hq.at hLj
  have hkd := hok.kd o0 hoL
  have hvs := flat_all encO_len (zip_at hLj hd)
  have hspd : Sp d o0.fs.length := hrd.sp (sz := 1) (flat_length encW_len o0.fs) (by omega)
  have hjl := (List.getElem?_eq_some_iff.1 hLj).1
  have hca : (flat encN out)[i * 1]? = some (.int .i64 (o0.a : Int)) := encN_at ha0
  repeat' (first | (first | (refine GT ?_ ?_ <;> intro hg <;> clear hA a <;> intro a hA <;> (first | exact FA | replace hg := of_decide_eq_true hg | replace hg := of_decide_eq_false hg | skip)) | (refine QT ?_; clear hA a; intro a hA) | (first | (refine BT ?_; clear hA hH; rintro _ w ⟨bN, rfl, hH⟩ a hA) | (refine LT ?_; clear hA hH; rintro _ w ⟨oN, rfl, hH⟩ a hA) | (refine AT ?_; clear hA; rintro _ w ⟨oN, cN, rfl, hH2⟩ a hA; clear hH; have hH := (hH2 _ (by (repeat constructor))).tail; clear hH2) | (refine S0T ?_; clear hH; rintro _ w hH) )) | ((first | refine CT ?_ | (refine DT ?_ ?_ <;> intro hc <;> try (exfalso; omega))) <;> repeat' refine CT ?_) | (first | (refine DSK ?_; clear hA a; intro a hA) | (first | (refine DLT ?_; clear hA hH; rintro _ w ⟨oN, rfl, hH⟩; refine ⟨STT, ?_⟩; intro a hA) | (refine DAT ?_; clear hA; rintro _ w ⟨oN, cN, rfl, hH2⟩; clear hH; have hH := (hH2 _ (by (repeat constructor))).tail; clear hH2; refine ⟨STT, ?_⟩; intro a hA))) )
  refine wp_drawT (qs [0, 1, 2, 3, 4, 5, 6, 7, 8] (.two 9 12 (.q 10 (.q 11 (.one 12 (.one 13 .nil)))) (.one 9 (.q 10 (.q 11 (.one 13 .nil)))))) (fun a w => ∃ bN, HS w0 noM [cb bN 70 [.int .i64 o0.a, .int .i64 o0.kind, .slice d o0.fs.length cd], own 3 1 o out.length c (flat encN out)] w ∧ Sl 87 [(0, .pointer (some (bat b 0))), (5, .slice o out.length c), (8, .int .i64 i), (9, .pointer (some (bat bN 0)))] a) mixed (by decide +kernel) hH ?_ ?_
  · replace hH := hH.drew
    (repeat (apply dt_ex hA rfl rfl rfl (by decide); (first | exact EXT | exact EXT2); clear hA a; intro a hA))
    apply dt_two
    · (refine dt_op hA rfl rfl rfl (by decide) (op_call rfl rfl rfl (rfind_spec _ b N L _ hL (hR.keep hH.kp))) ?_; clear hA; rintro _ w ⟨rfl, hk⟩; replace hH := hH.keep hk; clear hk; refine ⟨(by first | exact hH | exact hH.tail), ?_⟩; intro a hA)
      rw [hj] at hA
      (repeat (apply dt_ex hA rfl rfl rfl (by decide); (first | exact EXT | exact EXT2); clear hA a; intro a hA))
      (apply dt_op hA rfl rfl rfl (by decide); apply op_alloc; exact hH; clear hA hH; rintro _ w ⟨bN, rfl, hH⟩; refine ⟨hH.tail, ?_⟩; intro a hA)
      (apply dt_op0 hA rfl rfl rfl; (first | (apply op_store1; rfl; rfl; rfl; exact hH; (repeat constructor)) | (apply op_store_agg; rfl; rfl; exact hH; (repeat constructor); (repeat rfl))); clear hH; rintro _ w hH; refine ⟨hH.tail, ?_⟩; apply dt_nil)
      exact ⟨bN, hH, (hA.sub (by (repeat (first | exact trivial | refine ⟨rfl, ?_⟩))))⟩
    · (apply dt_op hA rfl rfl rfl (by decide); apply op_alloc; exact hH; clear hA hH; rintro _ w ⟨bN, rfl, hH⟩; refine ⟨hH.tail, ?_⟩; intro a hA)
      (refine dt_op hA rfl rfl rfl (by decide) (op_call rfl rfl rfl (rfind_spec _ b N L _ hL (hR.keep hH.kp))) ?_; clear hA; rintro _ w ⟨rfl, hk⟩; replace hH := hH.keep hk; clear hk; refine ⟨(by first | exact hH | exact hH.tail), ?_⟩; intro a hA)
      rw [hj] at hA
      (repeat (apply dt_ex hA rfl rfl rfl (by decide); (first | exact EXT | exact EXT2); clear hA a; intro a hA))
      (apply dt_op0 hA rfl rfl rfl; (first | (apply op_store1; rfl; rfl; rfl; exact hH; (repeat constructor)) | (apply op_store_agg; rfl; rfl; exact hH; (repeat constructor); (repeat rfl))); clear hH; rintro _ w hH; refine ⟨hH.tail, ?_⟩; apply dt_nil)
      exact ⟨bN, hH, (hA.sub (by (repeat (first | exact trivial | refine ⟨rfl, ?_⟩))))⟩
  clear hA hH
  rintro a w ⟨bN, hH, hA⟩
  repeat' (first | (first | (refine GT ?_ ?_ <;> intro hg <;> clear hA a <;> intro a hA <;> (first | exact FA | replace hg := of_decide_eq_true hg | replace hg := of_decide_eq_false hg | skip)) | (refine QT ?_; clear hA a; intro a hA) | (first | (refine BT ?_; clear hA hH; rintro _ w ⟨bN, rfl, hH⟩ a hA) | (refine LT ?_; clear hA hH; rintro _ w ⟨oN, rfl, hH⟩ a hA) | (refine AT ?_; clear hA; rintro _ w ⟨oN, cN, rfl, hH2⟩ a hA; clear hH; have hH := (hH2 _ (by (repeat constructor))).tail; clear hH2) | (refine S0T ?_; clear hH; rintro _ w hH) )) | ((first | refine CT ?_ | (refine DT ?_ ?_ <;> intro hc <;> try (exfalso; omega))) <;> repeat' refine CT ?_) | (first | (refine DSK ?_; clear hA a; intro a hA) | (first | (refine DLT ?_; clear hA hH; rintro _ w ⟨oN, rfl, hH⟩; refine ⟨STT, ?_⟩; intro a hA) | (refine DAT ?_; clear hA; rintro _ w ⟨oN, cN, rfl, hH2⟩; clear hH; have hH := (hH2 _ (by (repeat constructor))).tail; clear hH2; refine ⟨STT, ?_⟩; intro a hA))) )
  have hfs := hkd.2
  have hin0 := ha0
  refine wp_lpk (S := Nat × List Nat × Option Addr × Nat) (fun s a w => (s.1 ≤ o0.fs.length ∧ i < s.2.1.length ∧ s.2.1[i]? = some o0.a ∧ Cw L roots i s.2.1 ∧ (o0.kind ≠ 1 → ∀ (k : Nat) (x : Int), k < s.1 → o0.fs[k]? = some x → numW x = false → isO L (addrN x) → addrN x ∈ s.2.1)) ∧ HS w0 noM [cb bN 70 [.int .i64 o0.a, .int .i64 o0.kind, .slice d o0.fs.length cd], own 3 1 s.2.2.1 s.2.1.length s.2.2.2 (flat encN s.2.1)] w ∧ Sl 87 [(0, .pointer (some (bat b 0))), (5, .slice s.2.2.1 s.2.1.length s.2.2.2), (8, .int .i64 i), (9, .pointer (some (bat bN 0))), (10, .int .i64 s.1)] a) (fun s => o0.fs.length - s.1)
    (fun a w => ∃ (out : List Nat) (o : Option Addr) (c : Nat), i < out.length ∧ Cw L roots (i + 1) out ∧ HS w0 noM [own 3 1 o out.length c (flat encN out)] w ∧ Sl 87 [(0, .pointer (some (bat b 0))), (5, .slice o out.length c), (8, .int .i64 i)] a) (0, out, o, c) ⟨⟨Nat.zero_le _, hlt, ha0, hC, fun _ k x hk => absurd hk (Nat.not_lt_zero _)⟩, hH, (hA.sub (by (repeat (first | exact trivial | refine ⟨rfl, ?_⟩))))⟩ ?_ ?_
  rotate_left
  · clear hA hH
    rintro a w ⟨out2, o2, c2, hi2, hC2, hH, hA⟩
    repeat' (first | (first | (refine GT ?_ ?_ <;> intro hg <;> clear hA a <;> intro a hA <;> (first | exact FA | replace hg := of_decide_eq_true hg | replace hg := of_decide_eq_false hg | skip)) | (refine QT ?_; clear hA a; intro a hA) | (first | (refine BT ?_; clear hA hH; rintro _ w ⟨bN, rfl, hH⟩ a hA) | (refine LT ?_; clear hA hH; rintro _ w ⟨oN, rfl, hH⟩ a hA) | (refine AT ?_; clear hA; rintro _ w ⟨oN, cN, rfl, hH2⟩ a hA; clear hH; have hH := (hH2 _ (by (repeat constructor))).tail; clear hH2) | (refine S0T ?_; clear hH; rintro _ w hH) )) | ((first | refine CT ?_ | (refine DT ?_ ?_ <;> intro hc <;> try (exfalso; omega))) <;> repeat' refine CT ?_) | (first | (refine DSK ?_; clear hA a; intro a hA) | (first | (refine DLT ?_; clear hA hH; rintro _ w ⟨oN, rfl, hH⟩; refine ⟨STT, ?_⟩; intro a hA) | (refine DAT ?_; clear hA; rintro _ w ⟨oN, cN, rfl, hH2⟩; clear hH; have hH := (hH2 _ (by (repeat constructor))).tail; clear hH2; refine ⟨STT, ?_⟩; intro a hA))) )
    exact ⟨(i + 1, out2, o2, c2), ⟨⟨hi2, hC2⟩, hH, (hA.sub (by (repeat (first | exact trivial | refine ⟨rfl, ?_⟩))))⟩, by show N - (i + 1) < N - i; omega⟩
  clear hA hH hC hle hca ha0 hlt hi hin0
  rintro ⟨k, out, o, c⟩ a w ⟨⟨hk, hlt, ha0, hC, hfd⟩, hH, hA⟩
  dsimp only at hk hlt ha0 hC hfd hH hA
  have hle := bnd hC.c0
  by_cases hkk : k < o0.fs.length ∧ o0.kind ≠ 1
  rotate_left
  · repeat' (first | (first | (refine GT ?_ ?_ <;> intro hg <;> clear hA a <;> intro a hA <;> (first | exact FA | replace hg := of_decide_eq_true hg | replace hg := of_decide_eq_false hg | skip)) | (refine QT ?_; clear hA a; intro a hA) | (first | (refine BT ?_; clear hA hH; rintro _ w ⟨bN, rfl, hH⟩ a hA) | (refine LT ?_; clear hA hH; rintro _ w ⟨oN, rfl, hH⟩ a hA) | (refine AT ?_; clear hA; rintro _ w ⟨oN, cN, rfl, hH2⟩ a hA; clear hH; have hH := (hH2 _ (by (repeat constructor))).tail; clear hH2) | (refine S0T ?_; clear hH; rintro _ w hH) )) | ((first | refine CT ?_ | (refine DT ?_ ?_ <;> intro hc <;> try (exfalso; omega))) <;> repeat' refine CT ?_) | (first | (refine DSK ?_; clear hA a; intro a hA) | (first | (refine DLT ?_; clear hA hH; rintro _ w ⟨oN, rfl, hH⟩; refine ⟨STT, ?_⟩; intro a hA) | (refine DAT ?_; clear hA; rintro _ w ⟨oN, cN, rfl, hH2⟩; clear hH; have hH := (hH2 _ (by (repeat constructor))).tail; clear hH2; refine ⟨STT, ?_⟩; intro a hA))) )
    all_goals exact ⟨out, o, c, hlt, hC.next hl hoL ha0 (fun hk1 x hx h1 h2 => by obtain ⟨j, hj⟩ := List.getElem?_of_mem hx; have := (List.getElem?_eq_some_iff.1 hj).1; exact hfd hk1 j x (by omega) hj h1 h2), hH.tail, (hA.sub (by (repeat (first | exact trivial | refine ⟨rfl, ?_⟩))))⟩
  obtain ⟨hkl, hk1⟩ := hkk
  obtain ⟨x, hx⟩ : ∃ x, o0.fs[k]? = some x := ⟨_, List.getElem?_eq_getElem hkl⟩
  have hxm := List.mem_of_getElem? hx
  have hUx := hWO o0 hoL x hxm
  have hcx : (flat encW o0.fs)[k * 1]? = some (.int .u64 x) := flat_get0 encW_len hx rfl
  have hCn := hC.add (Nat.le_of_lt hlt) (reach_rc2 hl hoL hk1 hxm (hC.c0.rc _ (List.mem_of_getElem? ha0)))
  have hfd2 : o0.kind ≠ 1 → ∀ (j : Nat) (y : Int), j < k + 1 → o0.fs[j]? = some y → numW y = false → isO L (addrN y) → addrN y ∈ addO out (reachA L x) := fun _ j y hj hy h1 h2 => by
    rcases Nat.lt_or_ge j k with h | h
    · exact addO_mem (hfd hk1 j y h hy h1 h2)
    · obtain rfl : j = k := by omega
      rw [hx] at hy
      obtain rfl := Option.some.inj hy
      exact reach_in h1 h2 (pos _ h2)
  have hget := @addO_get out (reachA L x) i o0.a ha0
  repeat' (first | (first | (refine GT ?_ ?_ <;> intro hg <;> clear hA a <;> intro a hA <;> (first | exact FA | replace hg := of_decide_eq_true hg | replace hg := of_decide_eq_false hg | skip)) | (refine QT ?_; clear hA a; intro a hA) | (first | (refine BT ?_; clear hA hH; rintro _ w ⟨bN, rfl, hH⟩ a hA) | (refine LT ?_; clear hA hH; rintro _ w ⟨oN, rfl, hH⟩ a hA) | (refine AT ?_; clear hA; rintro _ w ⟨oN, cN, rfl, hH2⟩ a hA; clear hH; have hH := (hH2 _ (by (repeat constructor))).tail; clear hH2) | (refine S0T ?_; clear hH; rintro _ w hH) )) | ((first | refine CT ?_ | (refine DT ?_ ?_ <;> intro hc <;> try (exfalso; omega))) <;> repeat' refine CT ?_) | (first | (refine DSK ?_; clear hA a; intro a hA) | (first | (refine DLT ?_; clear hA hH; rintro _ w ⟨oN, rfl, hH⟩; refine ⟨STT, ?_⟩; intro a hA) | (refine DAT ?_; clear hA; rintro _ w ⟨oN, cN, rfl, hH2⟩; clear hH; have hH := (hH2 _ (by (repeat constructor))).tail; clear hH2; refine ⟨STT, ?_⟩; intro a hA))) )
  (refine st_op hA rfl rfl (by decide) (op_call rfl rfl rfl (reaches_spec _ b N L x hUx hL (hR.keep hH.kp))) ?_; clear hA; rintro _ w ⟨rfl, hk⟩ a hA; replace hH := hH.keep hk; clear hk)
  have hxx : addO out (reachA L x) = if 0 < reachA L x ∧ reachA L x ∉ out then out ++ [reachA L x] else out := by unfold addO; rfl
  generalize hrx : reachA L x = r at *
  by_cases hpos : 0 < r
  · by_cases hm : r ∈ out
    · rw [if_neg (fun h => h.2 hm)] at hxx
      rw [hxx] at hCn hfd2
      have hin := inL_nat.2 hm
      repeat' (first | (first | (refine GT ?_ ?_ <;> intro hg <;> clear hA a <;> intro a hA <;> (first | exact FA | replace hg := of_decide_eq_true hg | replace hg := of_decide_eq_false hg | skip)) | (refine QT ?_; clear hA a; intro a hA) | (first | (refine BT ?_; clear hA hH; rintro _ w ⟨bN, rfl, hH⟩ a hA) | (refine LT ?_; clear hA hH; rintro _ w ⟨oN, rfl, hH⟩ a hA) | (refine AT ?_; clear hA; rintro _ w ⟨oN, cN, rfl, hH2⟩ a hA; clear hH; have hH := (hH2 _ (by (repeat constructor))).tail; clear hH2) | (refine S0T ?_; clear hH; rintro _ w hH) | ((refine st_op hA rfl rfl (by decide) (op_call rfl rfl rfl (in_spec _ o c out r (hH.own_rd (by exact MEMT)) (by omega))) ?_; clear hA; rintro _ w ⟨rfl, hk⟩ a hA; replace hH := hH.keep hk; clear hk); rw [hin] at hA))) | ((first | refine CT ?_ | (refine DT ?_ ?_ <;> intro hc <;> try (exfalso; omega))) <;> repeat' refine CT ?_) | (first | (refine DSK ?_; clear hA a; intro a hA) | (first | (refine DLT ?_; clear hA hH; rintro _ w ⟨oN, rfl, hH⟩; refine ⟨STT, ?_⟩; intro a hA) | (refine DAT ?_; clear hA; rintro _ w ⟨oN, cN, rfl, hH2⟩; clear hH; have hH := (hH2 _ (by (repeat constructor))).tail; clear hH2; refine ⟨STT, ?_⟩; intro a hA))) )
      exact ⟨(k + 1, out, o, c), ⟨⟨hkl, hlt, ha0, hCn, hfd2⟩, hH, (hA.sub (by (repeat (first | exact trivial | refine ⟨rfl, ?_⟩))))⟩, by show o0.fs.length - (k + 1) < o0.fs.length - k; omega⟩
    · rw [if_pos ⟨hpos, hm⟩] at hxx
      rw [hxx] at hCn hfd2 hget
      have hin : inL out (r : Int) = false := by
        cases hc : inL out (r : Int) with
        | false => rfl
        | true => exact absurd (inL_nat.1 hc) hm
      have hl1 : out.length + 1 = (out ++ [r]).length := by rw [List.length_append]; rfl
      repeat' (first | (first | (refine GT ?_ ?_ <;> intro hg <;> clear hA a <;> intro a hA <;> (first | exact FA | replace hg := of_decide_eq_true hg | replace hg := of_decide_eq_false hg | skip)) | (refine QT ?_; clear hA a; intro a hA) | (first | (refine BT ?_; clear hA hH; rintro _ w ⟨bN, rfl, hH⟩ a hA) | (refine LT ?_; clear hA hH; rintro _ w ⟨oN, rfl, hH⟩ a hA) | (refine AT ?_; clear hA; rintro _ w ⟨oN, cN, rfl, hH2⟩ a hA; clear hH; have hH := (hH2 _ (by (repeat constructor))).tail; clear hH2) | (refine S0T ?_; clear hH; rintro _ w hH) | ((refine st_op hA rfl rfl (by decide) (op_call rfl rfl rfl (in_spec _ o c out r (hH.own_rd (by exact MEMT)) (by omega))) ?_; clear hA; rintro _ w ⟨rfl, hk⟩ a hA; replace hH := hH.keep hk; clear hk); rw [hin] at hA))) | ((first | refine CT ?_ | (refine DT ?_ ?_ <;> intro hc <;> try (exfalso; omega))) <;> repeat' refine CT ?_) | (first | (refine DSK ?_; clear hA a; intro a hA) | (first | (refine DLT ?_; clear hA hH; rintro _ w ⟨oN, rfl, hH⟩; refine ⟨STT, ?_⟩; intro a hA) | (refine DAT ?_; clear hA; rintro _ w ⟨oN, cN, rfl, hH2⟩; clear hH; have hH := (hH2 _ (by (repeat constructor))).tail; clear hH2; refine ⟨STT, ?_⟩; intro a hA))) )
      rw [snocN, hl1] at hH
      rw [hl1] at hA
      exact ⟨(k + 1, out ++ [r], oN, cN), ⟨⟨hkl, by dsimp only; omega, hget, hCn, hfd2⟩, hH.perm (by (repeat (first | exact List.Perm.nil | refine perm_pick 0 rfl ?_ | refine perm_pick 1 rfl ?_ | refine perm_pick 2 rfl ?_ | refine perm_pick 3 rfl ?_ | refine perm_pick 4 rfl ?_ | refine perm_pick 5 rfl ?_ | refine perm_pick 6 rfl ?_ | refine perm_pick 7 rfl ?_ | refine perm_pick 8 rfl ?_ | refine perm_pick 9 rfl ?_ | refine perm_pick 10 rfl ?_ | refine perm_pick 11 rfl ?_))), (hA.sub (by (repeat (first | exact trivial | refine ⟨rfl, ?_⟩))))⟩, by show o0.fs.length - (k + 1) < o0.fs.length - k; omega⟩
  · rw [if_neg (fun h => hpos h.1)] at hxx
    rw [hxx] at hCn hfd2
    repeat' (first | (first | (refine GT ?_ ?_ <;> intro hg <;> clear hA a <;> intro a hA <;> (first | exact FA | replace hg := of_decide_eq_true hg | replace hg := of_decide_eq_false hg | skip)) | (refine QT ?_; clear hA a; intro a hA) | (first | (refine BT ?_; clear hA hH; rintro _ w ⟨bN, rfl, hH⟩ a hA) | (refine LT ?_; clear hA hH; rintro _ w ⟨oN, rfl, hH⟩ a hA) | (refine AT ?_; clear hA; rintro _ w ⟨oN, cN, rfl, hH2⟩ a hA; clear hH; have hH := (hH2 _ (by (repeat constructor))).tail; clear hH2) | (refine S0T ?_; clear hH; rintro _ w hH) )) | ((first | refine CT ?_ | (refine DT ?_ ?_ <;> intro hc <;> try (exfalso; omega))) <;> repeat' refine CT ?_) | (first | (refine DSK ?_; clear hA a; intro a hA) | (first | (refine DLT ?_; clear hA hH; rintro _ w ⟨oN, rfl, hH⟩; refine ⟨STT, ?_⟩; intro a hA) | (refine DAT ?_; clear hA; rintro _ w ⟨oN, cN, rfl, hH2⟩; clear hH; have hH := (hH2 _ (by (repeat constructor))).tail; clear hH2; refine ⟨STT, ?_⟩; intro a hA))) )
    exact ⟨(k + 1, out, o, c), ⟨⟨hkl, hlt, ha0, hCn, hfd2⟩, hH, (hA.sub (by (repeat (first | exact trivial | refine ⟨rfl, ?_⟩))))⟩, by show o0.fs.length - (k + 1) < o0.fs.length - k; omega⟩
end Go.Proofs.Ytejpcidfigmnkaa
