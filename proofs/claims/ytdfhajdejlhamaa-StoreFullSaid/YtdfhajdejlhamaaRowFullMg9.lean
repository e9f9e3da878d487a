/-
  The walks over what the document's collector and the laws look up: in, has, Reaches, Closure. Conditions: none.
  A cycle's outcome: what is reached stays, and nothing else (plain law); registers; the walk over reg. Conditions: none.
  An object is refused only if there is no room (plain law). Conditions: none.
  The document's collector in memory; walks over without, White, shade. Conditions: none.
  Walks over the document's shade, Begin, New. Conditions: none.
-/
import Derived.Test.YtdfhajdejlhamaaRowFullMg8
import Derived.Test.YtdfhajdejlhamaaRowFullMg6
namespace Go.Proofs.Ytdfhajdejlhamaa
open Go Go.Fw
set_option linter.unusedVariables false
def inL (l : List Nat) (z : Int) : Bool := l.any fun a => decide ((a : Int) = z)
theorem inL_at {l : List Nat} {z : Int} {i a : Nat} (h : l[i]? = some a) (ha : (a : Int) = z) : inL l z = true := List.any_eq_true.2 ⟨a, List.mem_of_getElem? h, decide_eq_true ha⟩
theorem inL_no {l : List Nat} {z : Int} (h : ∀ (k a : Nat), l[k]? = some a → (a : Int) ≠ z) : inL l z = false := by
  cases hc : inL l z with
  | false => rfl
  | true =>
    obtain ⟨a, h1, h2⟩ := List.any_eq_true.1 hc
    obtain ⟨k, hk⟩ := List.getElem?_of_mem h1
    exact absurd (of_decide_eq_true h2) (h k a hk)
theorem inL_nat {l : List Nat} {a : Nat} : inL l (a : Int) = true ↔ a ∈ l := by
  unfold inL
  rw [List.any_eq_true]
  constructor
  · rintro ⟨b, h1, h2⟩
    have := of_decide_eq_true h2
    obtain rfl : b = a := by omega
    exact h1
  · exact fun h => ⟨a, h, decide_eq_true rfl⟩
/-- the address of the object that a word reaches -/
def reachA (L : List Ob) (x : Int) : Nat := if numW x = false ∧ isO L (addrN x) then addrN x else 0
theorem find_neg {L : List Ob} {z : Int} : findI L z < 0 ↔ isA L z = false := by
  rcases findI_obj L z with ⟨h1, h2⟩ | ⟨i, o, h1, h2, h3⟩
  · rw [h2, objA_none h1]; simp
  · rw [h2, objA_is h1]
    constructor
    · intro h; omega
    · intro h; cases h
theorem nodup_len : ∀ {N : Nat} {l : List Nat}, l.Nodup → (∀ a ∈ l, a < N) → l.length ≤ N
  | 0, l, _, hb => by
    cases l with
    | nil => exact Nat.le_refl _
    | cons a l => exact absurd (hb a (List.mem_cons_self ..)) (Nat.not_lt_zero _)
  | N + 1, l, hn, hb => by
    have h1 : (l.erase N).length ≤ N := nodup_len (hn.erase N) fun a ha => by
      have h2 := hb a (List.mem_of_mem_erase ha)
      have h3 : a ≠ N := fun he => by subst he; exact hn.not_mem_erase ha
      omega
    have h4 := List.length_erase (a := N) (l := l)
    split at h4 <;> omega
/-- a list of addresses that grows: no twins, all reached -/
structure Cl0 (L : List Ob) (roots : List Int) (out : List Nat) : Prop where
  nd : out.Nodup
  rc : ∀ a ∈ out, Rc L roots a
  ob : ∀ a ∈ out, isO L a
def addO (out : List Nat) (a : Nat) : List Nat := if 0 < a ∧ a ∉ out then out ++ [a] else out
theorem addO_mem {out : List Nat} {a b : Nat} (h : b ∈ out) : b ∈ addO out a := by
  unfold addO; split
  · exact List.mem_append_left _ h
  · exact h
theorem addO_self {out : List Nat} {a : Nat} (h : 0 < a) : a ∈ addO out a := by
  unfold addO
  by_cases hm : a ∈ out
  · rw [if_neg (fun h => h.2 hm)]; exact hm
  · rw [if_pos ⟨h, hm⟩]; simp
theorem addO_get {out : List Nat} {a i b : Nat} (h : out[i]? = some b) : (addO out a)[i]? = some b := by
  unfold addO; split
  · rw [List.getElem?_append_left (List.getElem?_eq_some_iff.1 h).1]; exact h
  · exact h
theorem Cl0.add {L : List Ob} {roots : List Int} {out : List Nat} (h : Cl0 L roots out) {a : Nat} (h1 : 0 < a → Rc L roots a ∧ isO L a) : Cl0 L roots (addO out a) := by
  unfold addO
  split
  · rename_i hc
    obtain ⟨k1, k2⟩ := h1 hc.1
    refine ⟨List.nodup_append.2 ⟨h.nd, List.nodup_cons.2 ⟨List.not_mem_nil, List.nodup_nil⟩, fun x hx y hy => ?_⟩, fun b hb => ?_, fun b hb => ?_⟩
    · rw [List.mem_singleton.1 hy]
      exact fun he => hc.2 (he ▸ hx)
    · rcases List.mem_append.1 hb with hb | hb
      · exact h.rc b hb
      · rw [List.mem_singleton.1 hb]; exact k1
    · rcases List.mem_append.1 hb with hb | hb
      · exact h.ob b hb
      · rw [List.mem_singleton.1 hb]; exact k2
  · exact h
theorem Cl0.len {N : Nat} {L : List Ob} {roots : List Int} {out : List Nat} (h : Cl0 L roots out) (hl : Lay N 1 L) : out.length ≤ N := nodup_len h.nd fun a ha => (isO_lt hl (h.ob a ha)).2
theorem reach_rc {N : Nat} {L : List Ob} (hl : Lay N 1 L) {roots : List Int} {x : Int} (hx : x ∈ roots) (h : 0 < reachA L x) : Rc L roots (reachA L x) ∧ isO L (reachA L x) := by
  unfold reachA at h ⊢
  split
  · rename_i hc
    exact ⟨.root hx hc.1 hc.2, hc.2⟩
  · rename_i hc
    rw [if_neg hc] at h
    omega
theorem reach_rc2 {N : Nat} {L : List Ob} (hl : Lay N 1 L) {roots : List Int} {o : Ob} (ho : o ∈ L) (hk : o.kind ≠ 1) {x : Int} (hx : x ∈ o.fs) (hr : Rc L roots o.a) (h : 0 < reachA L x) : Rc L roots (reachA L x) ∧ isO L (reachA L x) := by
  unfold reachA at h ⊢
  split
  · rename_i hc
    exact ⟨.step hr ⟨hc.2, o, ho, rfl, hk, x, hx, hc.1, rfl⟩, hc.2⟩
  · rename_i hc
    rw [if_neg hc] at h
    omega
/-- so far: what the first i reach is in -/
structure Cw (L : List Ob) (roots : List Int) (i : Nat) (out : List Nat) : Prop where
  c0 : Cl0 L roots out
  rt : ∀ x ∈ roots, numW x = false → isO L (addrN x) → addrN x ∈ out
  done : ∀ (p a : Nat), p < i → out[p]? = some a → ∀ b, E L a b → b ∈ out
theorem reach_in {L : List Ob} {x : Int} {out : List Nat} (h1 : numW x = false) (h2 : isO L (addrN x)) (h : 1 ≤ addrN x) : addrN x ∈ addO out (reachA L x) := by
  unfold reachA
  rw [if_pos ⟨h1, h2⟩]
  exact addO_self h
theorem Cw.add {L : List Ob} {roots : List Int} {i : Nat} {out : List Nat} (h : Cw L roots i out) (hi : i ≤ out.length) {a : Nat} (h1 : 0 < a → Rc L roots a ∧ isO L a) : Cw L roots i (addO out a) := by
  refine ⟨h.c0.add h1, fun x h2 h3 h4 => addO_mem (h.rt x h2 h3 h4), fun p b hp hb c hE => addO_mem (h.done p b hp ?_ c hE)⟩
  obtain ⟨y, hy⟩ : ∃ y, out[p]? = some y := ⟨_, List.getElem?_eq_getElem (by omega)⟩
  rw [addO_get hy] at hb
  rw [hy, hb]
theorem Cw.next {N : Nat} {L : List Ob} (hl : Lay N 1 L) {roots : List Int} {i : Nat} {out : List Nat} (h : Cw L roots i out) {o : Ob} (ho : o ∈ L) (hi : out[i]? = some o.a) (hf : o.kind ≠ 1 → ∀ x ∈ o.fs, numW x = false → isO L (addrN x) → addrN x ∈ out) : Cw L roots (i + 1) out := by
  refine ⟨h.c0, h.rt, fun p a hp ha b hE => ?_⟩
  by_cases hpi : p < i
  · exact h.done p a hpi ha b hE
  · obtain rfl : p = i := by omega
    rw [hi] at ha
    obtain rfl := Option.some.inj ha
    obtain ⟨h1, q, hq, hqa, hqk, x, hx, hn, rfl⟩ := hE
    have e1 := objA_mem hl hq
    have e2 := objA_mem hl ho
    rw [hqa, e2] at e1
    obtain rfl := Option.some.inj e1
    exact hf hqk x hx hn h1
/-- all that words reach -/
structure Clo (L : List Ob) (roots : List Int) (out : List Nat) : Prop where
  c0 : Cl0 L roots out
  rt : ∀ x ∈ roots, numW x = false → isO L (addrN x) → addrN x ∈ out
  cls : ∀ a b, a ∈ out → E L a b → b ∈ out
theorem snocN (out : List Nat) (r : Nat) : flat encN out ++ [.int .i64 (r : Int)] = flat encN (out ++ [r]) := (flat_snoc encN out r).symm
theorem nil_flat : ([] : List Value) = flat encN [] := rfl
set_option maxRecDepth 10000 attribute [local irreducible] Code.wp wpList Calls Ex Op1 sat bat blk cb own Go.Fw.mp Go.Fw.mpO Go.Fw.mpI Go.Fw.mpE Go.Fw.itr HS Rd Ret wkD Hp Cl Cls Exit.then Exit.inBlock Exit.noGoto bodyPost Go.Fw.flat wk2 Go.Fw.all Go.Fw.owns wpOp
attribute [local irreducible] hdA gaps isA nextA allocA freeA sizeA kindA setA getA whiteZ numW addrW shadeG gcI hpI stepG beginG writeG allocG mu rfI inL findI objA reachA addO

theorem in_spec (w0 : World) (o : Option Addr) (c : Nat) (l : List Nat) (z : Int) (hr : Rd w0 o (flat encN l)) (hl : l.length ≤ 9223372036854775806) : Ret Try.prog 62 #[.slice o l.length c, .int .i64 z] w0 (fun v w => v = .bool (inL l z) ∧ Kp w0 noM w) := by
  have hH : HS w0 noM [] w0 := HS.init w0 noM
  have hsp : Sp o l.length := hr.sp (sz := 1) (flat_length encN_len l) (by omega)
  (refine enter (N := 18) Try.func62 rfl Try.ntmps62 rfl ?_; intro a hA; dsimp only [sl0, Nat.reduceAdd] at hA)
  repeat' (first | (first | (refine GT ?_ ?_ <;> intro hg <;> clear hA a <;> intro a hA <;> (first | exact FA | replace hg := of_decide_eq_true hg | replace hg := of_decide_eq_false hg | skip)) | (refine QT ?_; clear hA a; intro a hA) | (first | (refine BT ?_; clear hA hH; rintro _ w ⟨bN, rfl, hH⟩ a hA) | (refine LT ?_; clear hA hH; rintro _ w ⟨oN, rfl, hH⟩ a hA) | (refine AT ?_; clear hA; rintro _ w ⟨oN, cN, rfl, hH2⟩ a hA; clear hH; have hH := (hH2 _ (by (repeat constructor))).tail; clear hH2) | (refine S0T ?_; clear hH; rintro _ w hH) )) | ((first | refine CT ?_ | (refine DT ?_ ?_ <;> intro hc <;> try (exfalso; omega))) <;> repeat' refine CT ?_) | (first | (refine DSK ?_; clear hA a; intro a hA) | (first | (refine DLT ?_; clear hA hH; rintro _ w ⟨oN, rfl, hH⟩; refine ⟨STT, ?_⟩; intro a hA) | (refine DAT ?_; clear hA; rintro _ w ⟨oN, cN, rfl, hH2⟩; clear hH; have hH := (hH2 _ (by (repeat constructor))).tail; clear hH2; refine ⟨STT, ?_⟩; intro a hA))) )
  refine wp_lpj (S := Nat) (fun i a w => (i ≤ l.length ∧ ∀ (k x : Nat), k < i → l[k]? = some x → (x : Int) ≠ z) ∧ HS w0 noM [] w ∧ Sl 18 [(0, .slice o l.length c), (1, .int .i64 z), (5, .int .i64 i)] a) (fun i => l.length - i)
    (fun a w => inL l z = false ∧ HS w0 noM [] w ∧ Sl 18 [] a) 0 ⟨⟨Nat.zero_le _, fun k x hk => by omega⟩, hH, (hA.sub (by (repeat (first | exact trivial | refine ⟨rfl, ?_⟩))))⟩ ?_ ?_
  · clear hA hH
    rintro i a w ⟨⟨hi, hno⟩, hH, hA⟩
    by_cases hlt : i < l.length
    · obtain ⟨x, hx⟩ : ∃ x, l[i]? = some x := ⟨_, List.getElem?_eq_getElem hlt⟩
      have hcx := encN_at hx
      repeat' (first | (first | (refine GT ?_ ?_ <;> intro hg <;> clear hA a <;> intro a hA <;> (first | exact FA | replace hg := of_decide_eq_true hg | replace hg := of_decide_eq_false hg | skip)) | (refine QT ?_; clear hA a; intro a hA) | (first | (refine BT ?_; clear hA hH; rintro _ w ⟨bN, rfl, hH⟩ a hA) | (refine LT ?_; clear hA hH; rintro _ w ⟨oN, rfl, hH⟩ a hA) | (refine AT ?_; clear hA; rintro _ w ⟨oN, cN, rfl, hH2⟩ a hA; clear hH; have hH := (hH2 _ (by (repeat constructor))).tail; clear hH2) | (refine S0T ?_; clear hH; rintro _ w hH) )) | ((first | refine CT ?_ | (refine DT ?_ ?_ <;> intro hc <;> try (exfalso; omega))) <;> repeat' refine CT ?_) | (first | (refine DSK ?_; clear hA a; intro a hA) | (first | (refine DLT ?_; clear hA hH; rintro _ w ⟨oN, rfl, hH⟩; refine ⟨STT, ?_⟩; intro a hA) | (refine DAT ?_; clear hA; rintro _ w ⟨oN, cN, rfl, hH2⟩; clear hH; have hH := (hH2 _ (by (repeat constructor))).tail; clear hH2; refine ⟨STT, ?_⟩; intro a hA))) )
      · exact rt1 (.inl rfl) rfl hA rfl ⟨by rw [inL_at hx (by assumption)], hH.kp⟩
      · refine ⟨i + 1, ⟨⟨hlt, fun k y hk hy => ?_⟩, hH, (hA.sub (by (repeat (first | exact trivial | refine ⟨rfl, ?_⟩))))⟩, by omega⟩
        rcases Nat.lt_or_ge k i with h | h
        · exact hno k y h hy
        · obtain rfl : k = i := by omega
          rw [hx] at hy
          obtain rfl := Option.some.inj hy
          assumption
    · repeat' (first | (first | (refine GT ?_ ?_ <;> intro hg <;> clear hA a <;> intro a hA <;> (first | exact FA | replace hg := of_decide_eq_true hg | replace hg := of_decide_eq_false hg | skip)) | (refine QT ?_; clear hA a; intro a hA) | (first | (refine BT ?_; clear hA hH; rintro _ w ⟨bN, rfl, hH⟩ a hA) | (refine LT ?_; clear hA hH; rintro _ w ⟨oN, rfl, hH⟩ a hA) | (refine AT ?_; clear hA; rintro _ w ⟨oN, cN, rfl, hH2⟩ a hA; clear hH; have hH := (hH2 _ (by (repeat constructor))).tail; clear hH2) | (refine S0T ?_; clear hH; rintro _ w hH) )) | ((first | refine CT ?_ | (refine DT ?_ ?_ <;> intro hc <;> try (exfalso; omega))) <;> repeat' refine CT ?_) | (first | (refine DSK ?_; clear hA a; intro a hA) | (first | (refine DLT ?_; clear hA hH; rintro _ w ⟨oN, rfl, hH⟩; refine ⟨STT, ?_⟩; intro a hA) | (refine DAT ?_; clear hA; rintro _ w ⟨oN, cN, rfl, hH2⟩; clear hH; have hH := (hH2 _ (by (repeat constructor))).tail; clear hH2; refine ⟨STT, ?_⟩; intro a hA))) )
      exact ⟨inL_no fun k x hk => hno k x (by have := (List.getElem?_eq_some_iff.1 hk).1; omega) hk, hH, (hA.sub (by (repeat (first | exact trivial | refine ⟨rfl, ?_⟩))))⟩
  · clear hA hH
    rintro a w ⟨hno, hH, hA⟩
    repeat' (first | (first | (refine GT ?_ ?_ <;> intro hg <;> clear hA a <;> intro a hA <;> (first | exact FA | replace hg := of_decide_eq_true hg | replace hg := of_decide_eq_false hg | skip)) | (refine QT ?_; clear hA a; intro a hA) | (first | (refine BT ?_; clear hA hH; rintro _ w ⟨bN, rfl, hH⟩ a hA) | (refine LT ?_; clear hA hH; rintro _ w ⟨oN, rfl, hH⟩ a hA) | (refine AT ?_; clear hA; rintro _ w ⟨oN, cN, rfl, hH2⟩ a hA; clear hH; have hH := (hH2 _ (by (repeat constructor))).tail; clear hH2) | (refine S0T ?_; clear hH; rintro _ w hH) )) | ((first | refine CT ?_ | (refine DT ?_ ?_ <;> intro hc <;> try (exfalso; omega))) <;> repeat' refine CT ?_) | (first | (refine DSK ?_; clear hA a; intro a hA) | (first | (refine DLT ?_; clear hA hH; rintro _ w ⟨oN, rfl, hH⟩; refine ⟨STT, ?_⟩; intro a hA) | (refine DAT ?_; clear hA; rintro _ w ⟨oN, cN, rfl, hH2⟩; clear hH; have hH := (hH2 _ (by (repeat constructor))).tail; clear hH2; refine ⟨STT, ?_⟩; intro a hA))) )
    exact rt1 (.inl rfl) rfl hA rfl ⟨by rw [hno], hH.kp⟩

theorem reaches_spec (w0 : World) (b N : Nat) (L : List Ob) (x : Int) (hU : U x) (hL : L.length ≤ 65536) (hR : RfR w0 b N L) : Ret Try.prog 53 #[.pointer (some (bat b 0)), .int .u64 x] w0 (fun v w => v = .int .i64 (reachA L x : Nat) ∧ Kp w0 noM w) := by
  have hH : HS w0 noM [] w0 := HS.init w0 noM
  have haN := addrN_eq hU
  (refine enter (N := 16) Try.func53 rfl Try.ntmps53 rfl ?_; intro a hA; dsimp only [sl0, Nat.reduceAdd] at hA)
  repeat' (first | (first | (refine GT ?_ ?_ <;> intro hg <;> clear hA a <;> intro a hA <;> (first | exact FA | replace hg := of_decide_eq_true hg | replace hg := of_decide_eq_false hg | skip)) | (refine QT ?_; clear hA a; intro a hA) | (first | (refine BT ?_; clear hA hH; rintro _ w ⟨bN, rfl, hH⟩ a hA) | (refine LT ?_; clear hA hH; rintro _ w ⟨oN, rfl, hH⟩ a hA) | (refine AT ?_; clear hA; rintro _ w ⟨oN, cN, rfl, hH2⟩ a hA; clear hH; have hH := (hH2 _ (by (repeat constructor))).tail; clear hH2) | (refine S0T ?_; clear hH; rintro _ w hH) )) | ((first | refine CT ?_ | (refine DT ?_ ?_ <;> intro hc <;> try (exfalso; omega))) <;> repeat' refine CT ?_) | (first | (refine DSK ?_; clear hA a; intro a hA) | (first | (refine DLT ?_; clear hA hH; rintro _ w ⟨oN, rfl, hH⟩; refine ⟨STT, ?_⟩; intro a hA) | (refine DAT ?_; clear hA; rintro _ w ⟨oN, cN, rfl, hH2⟩; clear hH; have hH := (hH2 _ (by (repeat constructor))).tail; clear hH2; refine ⟨STT, ?_⟩; intro a hA))) )
  (refine st_op hA rfl rfl (by decide) (op_call rfl rfl rfl (risnum_spec _ x hU)) ?_; clear hA; rintro _ w ⟨rfl, hk⟩ a hA; replace hH := hH.keep hk; clear hk)
  cases hn : numW x with
  | true =>
    rw [hn] at hA
    repeat' (first | (first | (refine GT ?_ ?_ <;> intro hg <;> clear hA a <;> intro a hA <;> (first | exact FA | replace hg := of_decide_eq_true hg | replace hg := of_decide_eq_false hg | skip)) | (refine QT ?_; clear hA a; intro a hA) | (first | (refine BT ?_; clear hA hH; rintro _ w ⟨bN, rfl, hH⟩ a hA) | (refine LT ?_; clear hA hH; rintro _ w ⟨oN, rfl, hH⟩ a hA) | (refine AT ?_; clear hA; rintro _ w ⟨oN, cN, rfl, hH2⟩ a hA; clear hH; have hH := (hH2 _ (by (repeat constructor))).tail; clear hH2) | (refine S0T ?_; clear hH; rintro _ w hH) )) | ((first | refine CT ?_ | (refine DT ?_ ?_ <;> intro hc <;> try (exfalso; omega))) <;> repeat' refine CT ?_) | (first | (refine DSK ?_; clear hA a; intro a hA) | (first | (refine DLT ?_; clear hA hH; rintro _ w ⟨oN, rfl, hH⟩; refine ⟨STT, ?_⟩; intro a hA) | (refine DAT ?_; clear hA; rintro _ w ⟨oN, cN, rfl, hH2⟩; clear hH; have hH := (hH2 _ (by (repeat constructor))).tail; clear hH2; refine ⟨STT, ?_⟩; intro a hA))) )
    exact rt1 (.inl rfl) rfl hA rfl ⟨by unfold reachA; rw [if_neg (by rw [hn]; simp)]; rfl, hH.kp⟩
  | false =>
    rw [hn] at hA
    repeat' (first | (first | (refine GT ?_ ?_ <;> intro hg <;> clear hA a <;> intro a hA <;> (first | exact FA | replace hg := of_decide_eq_true hg | replace hg := of_decide_eq_false hg | skip)) | (refine QT ?_; clear hA a; intro a hA) | (first | (refine BT ?_; clear hA hH; rintro _ w ⟨bN, rfl, hH⟩ a hA) | (refine LT ?_; clear hA hH; rintro _ w ⟨oN, rfl, hH⟩ a hA) | (refine AT ?_; clear hA; rintro _ w ⟨oN, cN, rfl, hH2⟩ a hA; clear hH; have hH := (hH2 _ (by (repeat constructor))).tail; clear hH2) | (refine S0T ?_; clear hH; rintro _ w hH) )) | ((first | refine CT ?_ | (refine DT ?_ ?_ <;> intro hc <;> try (exfalso; omega))) <;> repeat' refine CT ?_) | (first | (refine DSK ?_; clear hA a; intro a hA) | (first | (refine DLT ?_; clear hA hH; rintro _ w ⟨oN, rfl, hH⟩; refine ⟨STT, ?_⟩; intro a hA) | (refine DAT ?_; clear hA; rintro _ w ⟨oN, cN, rfl, hH2⟩; clear hH; have hH := (hH2 _ (by (repeat constructor))).tail; clear hH2; refine ⟨STT, ?_⟩; intro a hA))) )
    (refine st_op hA rfl rfl (by decide) (op_call rfl rfl rfl (raddr_spec _ x hU)) ?_; clear hA; rintro _ w ⟨rfl, hk⟩ a hA; replace hH := hH.keep hk; clear hk)
    repeat' (first | (first | (refine GT ?_ ?_ <;> intro hg <;> clear hA a <;> intro a hA <;> (first | exact FA | replace hg := of_decide_eq_true hg | replace hg := of_decide_eq_false hg | skip)) | (refine QT ?_; clear hA a; intro a hA) | (first | (refine BT ?_; clear hA hH; rintro _ w ⟨bN, rfl, hH⟩ a hA) | (refine LT ?_; clear hA hH; rintro _ w ⟨oN, rfl, hH⟩ a hA) | (refine AT ?_; clear hA; rintro _ w ⟨oN, cN, rfl, hH2⟩ a hA; clear hH; have hH := (hH2 _ (by (repeat constructor))).tail; clear hH2) | (refine S0T ?_; clear hH; rintro _ w hH) )) | ((first | refine CT ?_ | (refine DT ?_ ?_ <;> intro hc <;> try (exfalso; omega))) <;> repeat' refine CT ?_) | (first | (refine DSK ?_; clear hA a; intro a hA) | (first | (refine DLT ?_; clear hA hH; rintro _ w ⟨oN, rfl, hH⟩; refine ⟨STT, ?_⟩; intro a hA) | (refine DAT ?_; clear hA; rintro _ w ⟨oN, cN, rfl, hH2⟩; clear hH; have hH := (hH2 _ (by (repeat constructor))).tail; clear hH2; refine ⟨STT, ?_⟩; intro a hA))) )
    (refine st_op hA rfl rfl (by decide) (op_call rfl rfl rfl (rfind_spec _ b N L (addrW x) hL (hR.keep hH.kp))) ?_; clear hA; rintro _ w ⟨rfl, hk⟩ a hA; replace hH := hH.keep hk; clear hk)
    have hf := find_neg (L := L) (z := addrW x)
    by_cases hO : isO L (addrN x)
    · have hi : isA L (addrW x) = true := by rw [← haN]; exact isO_iff.2 hO
      have hge : ¬ findI L (addrW x) < 0 := fun h => by rw [hf.1 h] at hi; cases hi
      repeat' (first | (first | (refine GT ?_ ?_ <;> intro hg <;> clear hA a <;> intro a hA <;> (first | exact FA | replace hg := of_decide_eq_true hg | replace hg := of_decide_eq_false hg | skip)) | (refine QT ?_; clear hA a; intro a hA) | (first | (refine BT ?_; clear hA hH; rintro _ w ⟨bN, rfl, hH⟩ a hA) | (refine LT ?_; clear hA hH; rintro _ w ⟨oN, rfl, hH⟩ a hA) | (refine AT ?_; clear hA; rintro _ w ⟨oN, cN, rfl, hH2⟩ a hA; clear hH; have hH := (hH2 _ (by (repeat constructor))).tail; clear hH2) | (refine S0T ?_; clear hH; rintro _ w hH) )) | ((first | refine CT ?_ | (refine DT ?_ ?_ <;> intro hc <;> try (exfalso; omega))) <;> repeat' refine CT ?_) | (first | (refine DSK ?_; clear hA a; intro a hA) | (first | (refine DLT ?_; clear hA hH; rintro _ w ⟨oN, rfl, hH⟩; refine ⟨STT, ?_⟩; intro a hA) | (refine DAT ?_; clear hA; rintro _ w ⟨oN, cN, rfl, hH2⟩; clear hH; have hH := (hH2 _ (by (repeat constructor))).tail; clear hH2; refine ⟨STT, ?_⟩; intro a hA))) )
      (refine st_op hA rfl rfl (by decide) (op_call rfl rfl rfl (raddr_spec _ x hU)) ?_; clear hA; rintro _ w ⟨rfl, hk⟩ a hA; replace hH := hH.keep hk; clear hk)
      repeat' (first | (first | (refine GT ?_ ?_ <;> intro hg <;> clear hA a <;> intro a hA <;> (first | exact FA | replace hg := of_decide_eq_true hg | replace hg := of_decide_eq_false hg | skip)) | (refine QT ?_; clear hA a; intro a hA) | (first | (refine BT ?_; clear hA hH; rintro _ w ⟨bN, rfl, hH⟩ a hA) | (refine LT ?_; clear hA hH; rintro _ w ⟨oN, rfl, hH⟩ a hA) | (refine AT ?_; clear hA; rintro _ w ⟨oN, cN, rfl, hH2⟩ a hA; clear hH; have hH := (hH2 _ (by (repeat constructor))).tail; clear hH2) | (refine S0T ?_; clear hH; rintro _ w hH) )) | ((first | refine CT ?_ | (refine DT ?_ ?_ <;> intro hc <;> try (exfalso; omega))) <;> repeat' refine CT ?_) | (first | (refine DSK ?_; clear hA a; intro a hA) | (first | (refine DLT ?_; clear hA hH; rintro _ w ⟨oN, rfl, hH⟩; refine ⟨STT, ?_⟩; intro a hA) | (refine DAT ?_; clear hA; rintro _ w ⟨oN, cN, rfl, hH2⟩; clear hH; have hH := (hH2 _ (by (repeat constructor))).tail; clear hH2; refine ⟨STT, ?_⟩; intro a hA))) )
      exact rt1 (.inl rfl) rfl hA rfl ⟨by unfold reachA; rw [if_pos ⟨hn, hO⟩, haN], hH.kp⟩
    · have hi : isA L (addrW x) = false := by
        cases hc : isA L (addrW x) with
        | false => rfl
        | true => rw [← haN] at hc; exact absurd (isO_iff.1 hc) hO
      have hlt : findI L (addrW x) < 0 := hf.2 hi
      repeat' (first | (first | (refine GT ?_ ?_ <;> intro hg <;> clear hA a <;> intro a hA <;> (first | exact FA | replace hg := of_decide_eq_true hg | replace hg := of_decide_eq_false hg | skip)) | (refine QT ?_; clear hA a; intro a hA) | (first | (refine BT ?_; clear hA hH; rintro _ w ⟨bN, rfl, hH⟩ a hA) | (refine LT ?_; clear hA hH; rintro _ w ⟨oN, rfl, hH⟩ a hA) | (refine AT ?_; clear hA; rintro _ w ⟨oN, cN, rfl, hH2⟩ a hA; clear hH; have hH := (hH2 _ (by (repeat constructor))).tail; clear hH2) | (refine S0T ?_; clear hH; rintro _ w hH) )) | ((first | refine CT ?_ | (refine DT ?_ ?_ <;> intro hc <;> try (exfalso; omega))) <;> repeat' refine CT ?_) | (first | (refine DSK ?_; clear hA a; intro a hA) | (first | (refine DLT ?_; clear hA hH; rintro _ w ⟨oN, rfl, hH⟩; refine ⟨STT, ?_⟩; intro a hA) | (refine DAT ?_; clear hA; rintro _ w ⟨oN, cN, rfl, hH2⟩; clear hH; have hH := (hH2 _ (by (repeat constructor))).tail; clear hH2; refine ⟨STT, ?_⟩; intro a hA))) )
      exact rt1 (.inl rfl) rfl hA rfl ⟨by unfold reachA; rw [if_neg (fun h => hO h.2)]; rfl, hH.kp⟩
theorem find_is {N : Nat} {L : List Ob} (hl : Lay N 1 L) {a : Nat} (h : isO L a) : ∃ (j : Nat) (o : Ob), findI L a = j ∧ L[j]? = some o ∧ o.a = a ∧ o ∈ L := by
  obtain ⟨o, ho, rfl⟩ := h
  have e := objA_mem hl ho
  rcases findI_obj L (o.a : Int) with ⟨h1, _⟩ | ⟨i, o', h1, h2, h3⟩
  · rw [e] at h1; cases h1
  · rw [e] at h1
    obtain rfl := Option.some.inj h1
    exact ⟨i, o, h2, h3, rfl, ho⟩

set_option maxHeartbeats 4000000 in
theorem Closure_spec (w0 : World) (b N : Nat) (L : List Ob) (oR : Option Addr) (cR : Nat) (roots : List Int) (hok : Ok N L) (hWO : WO L) (hR : RfR w0 b N L) (hrR : Rd w0 oR (flat encW roots)) (hUR : ∀ x ∈ roots, U x) (hlR : roots.length ≤ 1000) :
    Ret Try.prog 23 #[.pointer (some (bat b 0)), .slice oR roots.length cR] w0 (fun v w => ∃ (o : Option Addr) (c : Nat) (out : List Nat), Clo L roots out ∧ v = .slice o out.length c ∧ HS w0 noM [own 3 1 o out.length c (flat encN out)] w) := by
  have hH : HS w0 noM [] w0 := HS.init w0 noM
  have hspR : Sp oR roots.length := hrR.sp (sz := 1) (flat_length encW_len roots) (by omega)
  have hl := hok.lay
  have hL := hok.len
  have hn2 := hok.n2
  obtain ⟨q, hq⟩ := id hR
  have hspq := hq.sp
  have hq1 := hq.c1
  have hqO := hq.rO
  have pos : ∀ x : Int, isO L (addrN x) → 1 ≤ addrN x := fun x h => (isO_lt hl h).1
  (refine enter (N := 87) Try.func23 rfl Try.ntmps23 rfl ?_; intro a hA; dsimp only [sl0, Nat.reduceAdd] at hA)
  repeat' (first | (first | (refine GT ?_ ?_ <;> intro hg <;> clear hA a <;> intro a hA <;> (first | exact FA | replace hg := of_decide_eq_true hg | replace hg := of_decide_eq_false hg | skip)) | (refine QT ?_; clear hA a; intro a hA) | (first | (refine BT ?_; clear hA hH; rintro _ w ⟨bN, rfl, hH⟩ a hA) | (refine LT ?_; clear hA hH; rintro _ w ⟨oN, rfl, hH⟩ a hA) | (refine AT ?_; clear hA; rintro _ w ⟨oN, cN, rfl, hH2⟩ a hA; clear hH; have hH := (hH2 _ (by (repeat constructor))).tail; clear hH2) | (refine S0T ?_; clear hH; rintro _ w hH) )) | ((first | refine CT ?_ | (refine DT ?_ ?_ <;> intro hc <;> try (exfalso; omega))) <;> repeat' refine CT ?_) | (first | (refine DSK ?_; clear hA a; intro a hA) | (first | (refine DLT ?_; clear hA hH; rintro _ w ⟨oN, rfl, hH⟩; refine ⟨STT, ?_⟩; intro a hA) | (refine DAT ?_; clear hA; rintro _ w ⟨oN, cN, rfl, hH2⟩; clear hH; have hH := (hH2 _ (by (repeat constructor))).tail; clear hH2; refine ⟨STT, ?_⟩; intro a hA))) )
  rw [nil_flat] at hH
  refine wp_lpj (S := Nat × List Nat × Option Addr × Nat) (fun s a w => (s.1 ≤ roots.length ∧ Cl0 L roots s.2.1 ∧ ∀ (k : Nat) (x : Int), k < s.1 → roots[k]? = some x → numW x = false → isO L (addrN x) → addrN x ∈ s.2.1) ∧ HS w0 noM [own 3 1 s.2.2.1 s.2.1.length s.2.2.2 (flat encN s.2.1)] w ∧ Sl 87 [(0, .pointer (some (bat b 0))), (1, .slice oR roots.length cR), (5, .slice s.2.2.1 s.2.1.length s.2.2.2), (6, .int .i64 s.1)] a) (fun s => roots.length - s.1)
    (fun a w => ∃ (out : List Nat) (o : Option Addr) (c : Nat), Cw L roots 0 out ∧ HS w0 noM [own 3 1 o out.length c (flat encN out)] w ∧ Sl 87 [(0, .pointer (some (bat b 0))), (5, .slice o out.length c)] a) (0, [], oN, 0) ⟨⟨Nat.zero_le _, ⟨List.nodup_nil, fun a ha => absurd ha (List.not_mem_nil), fun a ha => absurd ha (List.not_mem_nil)⟩, fun k x hk => absurd hk (Nat.not_lt_zero _)⟩, hH, (hA.sub (by (repeat (first | exact trivial | refine ⟨rfl, ?_⟩))))⟩ ?_ ?_
  · clear hA hH
    rintro ⟨i, out, o, c⟩ a w ⟨⟨hi, hC, hrt⟩, hH, hA⟩
    dsimp only at hi hC hrt hH hA
    by_cases hlt : i < roots.length
    rotate_left
    · repeat' (first | (first | (refine GT ?_ ?_ <;> intro hg <;> clear hA a <;> intro a hA <;> (first | exact FA | replace hg := of_decide_eq_true hg | replace hg := of_decide_eq_false hg | skip)) | (refine QT ?_; clear hA a; intro a hA) | (first | (refine BT ?_; clear hA hH; rintro _ w ⟨bN, rfl, hH⟩ a hA) | (refine LT ?_; clear hA hH; rintro _ w ⟨oN, rfl, hH⟩ a hA) | (refine AT ?_; clear hA; rintro _ w ⟨oN, cN, rfl, hH2⟩ a hA; clear hH; have hH := (hH2 _ (by (repeat constructor))).tail; clear hH2) | (refine S0T ?_; clear hH; rintro _ w hH) )) | ((first | refine CT ?_ | (refine DT ?_ ?_ <;> intro hc <;> try (exfalso; omega))) <;> repeat' refine CT ?_) | (first | (refine DSK ?_; clear hA a; intro a hA) | (first | (refine DLT ?_; clear hA hH; rintro _ w ⟨oN, rfl, hH⟩; refine ⟨STT, ?_⟩; intro a hA) | (refine DAT ?_; clear hA; rintro _ w ⟨oN, cN, rfl, hH2⟩; clear hH; have hH := (hH2 _ (by (repeat constructor))).tail; clear hH2; refine ⟨STT, ?_⟩; intro a hA))) )
      exact ⟨out, o, c, ⟨hC, fun x hx h1 h2 => by obtain ⟨k, hk⟩ := List.getElem?_of_mem hx; exact hrt k x (by have := (List.getElem?_eq_some_iff.1 hk).1; omega) hk h1 h2, fun p a hp => absurd hp (Nat.not_lt_zero _)⟩, hH, (hA.sub (by (repeat (first | exact trivial | refine ⟨rfl, ?_⟩))))⟩
    obtain ⟨x, hx⟩ : ∃ x, roots[i]? = some x := ⟨_, List.getElem?_eq_getElem hlt⟩
    have hxm := List.mem_of_getElem? hx
    have hcx : (flat encW roots)[i * 1]? = some (.int .u64 x) := flat_get0 encW_len hx rfl
    have hCn := hC.add (reach_rc hl hxm)
    have hrt2 : ∀ (k : Nat) (y : Int), k < i + 1 → roots[k]? = some y → numW y = false → isO L (addrN y) → addrN y ∈ addO out (reachA L x) := fun k y hk hy h1 h2 => by
      rcases Nat.lt_or_ge k i with h | h
      · exact addO_mem (hrt k y h hy h1 h2)
      · obtain rfl : k = i := by omega
        rw [hx] at hy
        obtain rfl := Option.some.inj hy
        exact reach_in h1 h2 (pos _ h2)
    have hle := hC.len hl
    repeat' (first | (first | (refine GT ?_ ?_ <;> intro hg <;> clear hA a <;> intro a hA <;> (first | exact FA | replace hg := of_decide_eq_true hg | replace hg := of_decide_eq_false hg | skip)) | (refine QT ?_; clear hA a; intro a hA) | (first | (refine BT ?_; clear hA hH; rintro _ w ⟨bN, rfl, hH⟩ a hA) | (refine LT ?_; clear hA hH; rintro _ w ⟨oN, rfl, hH⟩ a hA) | (refine AT ?_; clear hA; rintro _ w ⟨oN, cN, rfl, hH2⟩ a hA; clear hH; have hH := (hH2 _ (by (repeat constructor))).tail; clear hH2) | (refine S0T ?_; clear hH; rintro _ w hH) )) | ((first | refine CT ?_ | (refine DT ?_ ?_ <;> intro hc <;> try (exfalso; omega))) <;> repeat' refine CT ?_) | (first | (refine DSK ?_; clear hA a; intro a hA) | (first | (refine DLT ?_; clear hA hH; rintro _ w ⟨oN, rfl, hH⟩; refine ⟨STT, ?_⟩; intro a hA) | (refine DAT ?_; clear hA; rintro _ w ⟨oN, cN, rfl, hH2⟩; clear hH; have hH := (hH2 _ (by (repeat constructor))).tail; clear hH2; refine ⟨STT, ?_⟩; intro a hA))) )
    (refine st_op hA rfl rfl (by decide) (op_call rfl rfl rfl (reaches_spec _ b N L x (hUR x hxm) hL (hR.keep hH.kp))) ?_; clear hA; rintro _ w ⟨rfl, hk⟩ a hA; replace hH := hH.keep hk; clear hk)
    have hrdO := hH.own_rd (o := o) (xs := flat encN out) (by exact MEMT)
    have hxx : addO out (reachA L x) = if 0 < reachA L x ∧ reachA L x ∉ out then out ++ [reachA L x] else out := by unfold addO; rfl
    generalize hrx : reachA L x = r at *
    by_cases hpos : 0 < r
    · by_cases hm : r ∈ out
      · rw [if_neg (fun h => h.2 hm)] at hxx
        rw [hxx] at hCn hrt2
        have hin := inL_nat.2 hm
        repeat' (first | (first | (refine GT ?_ ?_ <;> intro hg <;> clear hA a <;> intro a hA <;> (first | exact FA | replace hg := of_decide_eq_true hg | replace hg := of_decide_eq_false hg | skip)) | (refine QT ?_; clear hA a; intro a hA) | (first | (refine BT ?_; clear hA hH; rintro _ w ⟨bN, rfl, hH⟩ a hA) | (refine LT ?_; clear hA hH; rintro _ w ⟨oN, rfl, hH⟩ a hA) | (refine AT ?_; clear hA; rintro _ w ⟨oN, cN, rfl, hH2⟩ a hA; clear hH; have hH := (hH2 _ (by (repeat constructor))).tail; clear hH2) | (refine S0T ?_; clear hH; rintro _ w hH) | ((refine st_op hA rfl rfl (by decide) (op_call rfl rfl rfl (in_spec _ o c out r (hH.own_rd (by exact MEMT)) (by omega))) ?_; clear hA; rintro _ w ⟨rfl, hk⟩ a hA; replace hH := hH.keep hk; clear hk); rw [hin] at hA))) | ((first | refine CT ?_ | (refine DT ?_ ?_ <;> intro hc <;> try (exfalso; omega))) <;> repeat' refine CT ?_) | (first | (refine DSK ?_; clear hA a; intro a hA) | (first | (refine DLT ?_; clear hA hH; rintro _ w ⟨oN, rfl, hH⟩; refine ⟨STT, ?_⟩; intro a hA) | (refine DAT ?_; clear hA; rintro _ w ⟨oN, cN, rfl, hH2⟩; clear hH; have hH := (hH2 _ (by (repeat constructor))).tail; clear hH2; refine ⟨STT, ?_⟩; intro a hA))) )
        exact ⟨(i + 1, out, o, c), ⟨⟨hlt, hCn, hrt2⟩, hH, (hA.sub (by (repeat (first | exact trivial | refine ⟨rfl, ?_⟩))))⟩, by show roots.length - (i + 1) < roots.length - i; omega⟩
      · rw [if_pos ⟨hpos, hm⟩] at hxx
        rw [hxx] at hCn hrt2
        have hin : inL out (r : Int) = false := by
          cases hc : inL out (r : Int) with
          | false => rfl
          | true => exact absurd (inL_nat.1 hc) hm
        have hl1 : out.length + 1 = (out ++ [r]).length := by rw [List.length_append]; rfl
        repeat' (first | (first | (refine GT ?_ ?_ <;> intro hg <;> clear hA a <;> intro a hA <;> (first | exact FA | replace hg := of_decide_eq_true hg | replace hg := of_decide_eq_false hg | skip)) | (refine QT ?_; clear hA a; intro a hA) | (first | (refine BT ?_; clear hA hH; rintro _ w ⟨bN, rfl, hH⟩ a hA) | (refine LT ?_; clear hA hH; rintro _ w ⟨oN, rfl, hH⟩ a hA) | (refine AT ?_; clear hA; rintro _ w ⟨oN, cN, rfl, hH2⟩ a hA; clear hH; have hH := (hH2 _ (by (repeat constructor))).tail; clear hH2) | (refine S0T ?_; clear hH; rintro _ w hH) | ((refine st_op hA rfl rfl (by decide) (op_call rfl rfl rfl (in_spec _ o c out r (hH.own_rd (by exact MEMT)) (by omega))) ?_; clear hA; rintro _ w ⟨rfl, hk⟩ a hA; replace hH := hH.keep hk; clear hk); rw [hin] at hA))) | ((first | refine CT ?_ | (refine DT ?_ ?_ <;> intro hc <;> try (exfalso; omega))) <;> repeat' refine CT ?_) | (first | (refine DSK ?_; clear hA a; intro a hA) | (first | (refine DLT ?_; clear hA hH; rintro _ w ⟨oN, rfl, hH⟩; refine ⟨STT, ?_⟩; intro a hA) | (refine DAT ?_; clear hA; rintro _ w ⟨oN, cN, rfl, hH2⟩; clear hH; have hH := (hH2 _ (by (repeat constructor))).tail; clear hH2; refine ⟨STT, ?_⟩; intro a hA))) )
        rw [snocN, hl1] at hH
        rw [hl1] at hA
        exact ⟨(i + 1, out ++ [r], oN, cN), ⟨⟨hlt, hCn, hrt2⟩, hH, (hA.sub (by (repeat (first | exact trivial | refine ⟨rfl, ?_⟩))))⟩, by show roots.length - (i + 1) < roots.length - i; omega⟩
    · rw [if_neg (fun h => hpos h.1)] at hxx
      rw [hxx] at hCn hrt2
      repeat' (first | (first | (refine GT ?_ ?_ <;> intro hg <;> clear hA a <;> intro a hA <;> (first | exact FA | replace hg := of_decide_eq_true hg | replace hg := of_decide_eq_false hg | skip)) | (refine QT ?_; clear hA a; intro a hA) | (first | (refine BT ?_; clear hA hH; rintro _ w ⟨bN, rfl, hH⟩ a hA) | (refine LT ?_; clear hA hH; rintro _ w ⟨oN, rfl, hH⟩ a hA) | (refine AT ?_; clear hA; rintro _ w ⟨oN, cN, rfl, hH2⟩ a hA; clear hH; have hH := (hH2 _ (by (repeat constructor))).tail; clear hH2) | (refine S0T ?_; clear hH; rintro _ w hH) )) | ((first | refine CT ?_ | (refine DT ?_ ?_ <;> intro hc <;> try (exfalso; omega))) <;> repeat' refine CT ?_) | (first | (refine DSK ?_; clear hA a; intro a hA) | (first | (refine DLT ?_; clear hA hH; rintro _ w ⟨oN, rfl, hH⟩; refine ⟨STT, ?_⟩; intro a hA) | (refine DAT ?_; clear hA; rintro _ w ⟨oN, cN, rfl, hH2⟩; clear hH; have hH := (hH2 _ (by (repeat constructor))).tail; clear hH2; refine ⟨STT, ?_⟩; intro a hA))) )
      exact ⟨(i + 1, out, o, c), ⟨⟨hlt, hCn, hrt2⟩, hH, (hA.sub (by (repeat (first | exact trivial | refine ⟨rfl, ?_⟩))))⟩, by show roots.length - (i + 1) < roots.length - i; omega⟩
  clear hA hH
  rintro a w ⟨out, o, c, hC, hH, hA⟩
  repeat' (first | (first | (refine GT ?_ ?_ <;> intro hg <;> clear hA a <;> intro a hA <;> (first | exact FA | replace hg := of_decide_eq_true hg | replace hg := of_decide_eq_false hg | skip)) | (refine QT ?_; clear hA a; intro a hA) | (first | (refine BT ?_; clear hA hH; rintro _ w ⟨bN, rfl, hH⟩ a hA) | (refine LT ?_; clear hA hH; rintro _ w ⟨oN, rfl, hH⟩ a hA) | (refine AT ?_; clear hA; rintro _ w ⟨oN, cN, rfl, hH2⟩ a hA; clear hH; have hH := (hH2 _ (by (repeat constructor))).tail; clear hH2) | (refine S0T ?_; clear hH; rintro _ w hH) )) | ((first | refine CT ?_ | (refine DT ?_ ?_ <;> intro hc <;> try (exfalso; omega))) <;> repeat' refine CT ?_) | (first | (refine DSK ?_; clear hA a; intro a hA) | (first | (refine DLT ?_; clear hA hH; rintro _ w ⟨oN, rfl, hH⟩; refine ⟨STT, ?_⟩; intro a hA) | (refine DAT ?_; clear hA; rintro _ w ⟨oN, cN, rfl, hH2⟩; clear hH; have hH := (hH2 _ (by (repeat constructor))).tail; clear hH2; refine ⟨STT, ?_⟩; intro a hA))) )
  have bnd : ∀ {out : List Nat}, Cl0 L roots out → out.length ≤ N := fun h => h.len hl
  refine wp_lpj (S := Nat × List Nat × Option Addr × Nat) (fun s a w => (s.1 ≤ s.2.1.length ∧ Cw L roots s.1 s.2.1) ∧ HS w0 noM [own 3 1 s.2.2.1 s.2.1.length s.2.2.2 (flat encN s.2.1)] w ∧ Sl 87 [(0, .pointer (some (bat b 0))), (5, .slice s.2.2.1 s.2.1.length s.2.2.2), (8, .int .i64 s.1)] a) (fun s => N - s.1)
    (fun a w => ∃ (out : List Nat) (o : Option Addr) (c : Nat), Cw L roots out.length out ∧ HS w0 noM [own 3 1 o out.length c (flat encN out)] w ∧ Sl 87 [(5, .slice o out.length c)] a) (0, out, o, c) ⟨⟨Nat.zero_le _, hC⟩, hH, (hA.sub (by (repeat (first | exact trivial | refine ⟨rfl, ?_⟩))))⟩ ?_ ?_
  rotate_left
  · clear hA hH
    rintro a w ⟨out, o, c, hC, hH, hA⟩
    repeat' (first | (first | (refine GT ?_ ?_ <;> intro hg <;> clear hA a <;> intro a hA <;> (first | exact FA | replace hg := of_decide_eq_true hg | replace hg := of_decide_eq_false hg | skip)) | (refine QT ?_; clear hA a; intro a hA) | (first | (refine BT ?_; clear hA hH; rintro _ w ⟨bN, rfl, hH⟩ a hA) | (refine LT ?_; clear hA hH; rintro _ w ⟨oN, rfl, hH⟩ a hA) | (refine AT ?_; clear hA; rintro _ w ⟨oN, cN, rfl, hH2⟩ a hA; clear hH; have hH := (hH2 _ (by (repeat constructor))).tail; clear hH2) | (refine S0T ?_; clear hH; rintro _ w hH) )) | ((first | refine CT ?_ | (refine DT ?_ ?_ <;> intro hc <;> try (exfalso; omega))) <;> repeat' refine CT ?_) | (first | (refine DSK ?_; clear hA a; intro a hA) | (first | (refine DLT ?_; clear hA hH; rintro _ w ⟨oN, rfl, hH⟩; refine ⟨STT, ?_⟩; intro a hA) | (refine DAT ?_; clear hA; rintro _ w ⟨oN, cN, rfl, hH2⟩; clear hH; have hH := (hH2 _ (by (repeat constructor))).tail; clear hH2; refine ⟨STT, ?_⟩; intro a hA))) )
    exact rt1 (.inl rfl) rfl hA rfl ⟨o, c, out, ⟨hC.c0, hC.rt, fun a b ha hE => by obtain ⟨p, hp⟩ := List.getElem?_of_mem ha; exact hC.done p a (List.getElem?_eq_some_iff.1 hp).1 hp b hE⟩, rfl, hH⟩
  clear hA hH hC
  rintro ⟨i, out, o, c⟩ a w ⟨⟨hi, hC⟩, hH, hA⟩
  dsimp only at hi hC hH hA
  have hle := bnd hC.c0
  by_cases hlt : i < out.length
  rotate_left
  · obtain rfl : i = out.length := by omega
    repeat' (first | (first | (refine GT ?_ ?_ <;> intro hg <;> clear hA a <;> intro a hA <;> (first | exact FA | replace hg := of_decide_eq_true hg | replace hg := of_decide_eq_false hg | skip)) | (refine QT ?_; clear hA a; intro a hA) | (first | (refine BT ?_; clear hA hH; rintro _ w ⟨bN, rfl, hH⟩ a hA) | (refine LT ?_; clear hA hH; rintro _ w ⟨oN, rfl, hH⟩ a hA) | (refine AT ?_; clear hA; rintro _ w ⟨oN, cN, rfl, hH2⟩ a hA; clear hH; have hH := (hH2 _ (by (repeat constructor))).tail; clear hH2) | (refine S0T ?_; clear hH; rintro _ w hH) )) | ((first | refine CT ?_ | (refine DT ?_ ?_ <;> intro hc <;> try (exfalso; omega))) <;> repeat' refine CT ?_) | (first | (refine DSK ?_; clear hA a; intro a hA) | (first | (refine DLT ?_; clear hA hH; rintro _ w ⟨oN, rfl, hH⟩; refine ⟨STT, ?_⟩; intro a hA) | (refine DAT ?_; clear hA; rintro _ w ⟨oN, cN, rfl, hH2⟩; clear hH; have hH := (hH2 _ (by (repeat constructor))).tail; clear hH2; refine ⟨STT, ?_⟩; intro a hA))) )
    exact ⟨out, o, c, hC, hH, (hA.sub (by (repeat (first | exact trivial | refine ⟨rfl, ?_⟩))))⟩
  obtain ⟨a0, ha0⟩ : ∃ x, out[i]? = some x := ⟨_, List.getElem?_eq_getElem hlt⟩
  obtain ⟨j, o0, hj, hLj, rfl, hoL⟩ := find_is hl (hC.c0.ob a0 (List.mem_of_getElem? ha0))
  obtain ⟨d, cd, hd, hrd, ca, ck, cf⟩ := hq.at hLj
  have hkd := hok.kd o0 hoL
  have hvs := flat_all encO_len (zip_at hLj hd)
  have hspd : Sp d o0.fs.length := hrd.sp (sz := 1) (flat_length encW_len o0.fs) (by omega)
  have hjl := (List.getElem?_eq_some_iff.1 hLj).1
  have hca : (flat encN out)[i * 1]? = some (.int .i64 (o0.a : Int)) := encN_at ha0
  repeat' (first | (first | (refine GT ?_ ?_ <;> intro hg <;> clear hA a <;> intro a hA <;> (first | exact FA | replace hg := of_decide_eq_true hg | replace hg := of_decide_eq_false hg | skip)) | (refine QT ?_; clear hA a; intro a hA) | (first | (refine BT ?_; clear hA hH; rintro _ w ⟨bN, rfl, hH⟩ a hA) | (refine LT ?_; clear hA hH; rintro _ w ⟨oN, rfl, hH⟩ a hA) | (refine AT ?_; clear hA; rintro _ w ⟨oN, cN, rfl, hH2⟩ a hA; clear hH; have hH := (hH2 _ (by (repeat constructor))).tail; clear hH2) | (refine S0T ?_; clear hH; rintro _ w hH) )) | ((first | refine CT ?_ | (refine DT ?_ ?_ <;> intro hc <;> try (exfalso; omega))) <;> repeat' refine CT ?_) | (first | (refine DSK ?_; clear hA a; intro a hA) | (first | (refine DLT ?_; clear hA hH; rintro _ w ⟨oN, rfl, hH⟩; refine ⟨STT, ?_⟩; intro a hA) | (refine DAT ?_; clear hA; rintro _ w ⟨oN, cN, rfl, hH2⟩; clear hH; have hH := (hH2 _ (by (repeat constructor))).tail; clear hH2; refine ⟨STT, ?_⟩; intro a hA))) )
  refine wp_drawT (qs [0, 1, 2, 3, 4, 5, 6, 7, 8] (.two 9 12 (.q 10 (.q 11 (.one 12 (.one 13 .nil)))) (.one 9 (.q 10 (.q 11 (.one 13 .nil)))))) (fun a w => ∃ bN, HS w0 noM [cb bN 53 [.int .i64 o0.a, .int .i64 o0.kind, .slice d o0.fs.length cd], own 3 1 o out.length c (flat encN out)] w ∧ Sl 87 [(0, .pointer (some (bat b 0))), (5, .slice o out.length c), (8, .int .i64 i), (9, .pointer (some (bat bN 0)))] a) mixed (by decide +kernel) hH ?_ ?_
  · replace hH := hH.drew
    (repeat (apply dt_ex hA rfl rfl rfl (by decide); (first | exact EXT | exact EXT2 ); clear hA a; intro a hA))
    apply dt_two
    · (refine dt_op hA rfl rfl rfl (by decide) (op_call rfl rfl rfl (rfind_spec _ b N L _ hL (hR.keep hH.kp))) ?_; clear hA; rintro _ w ⟨rfl, hk⟩; replace hH := hH.keep hk; clear hk; refine ⟨(by first | exact hH | exact hH.tail), ?_⟩; intro a hA)
      rw [hj] at hA
      (repeat (apply dt_ex hA rfl rfl rfl (by decide); (first | exact EXT | exact EXT2 ); clear hA a; intro a hA))
      (apply dt_op hA rfl rfl rfl (by decide); apply op_alloc; exact hH; clear hA hH; rintro _ w ⟨bN, rfl, hH⟩; refine ⟨hH.tail, ?_⟩; intro a hA)
      (apply dt_op0 hA rfl rfl rfl; (first | (apply op_store1; rfl; rfl; rfl; exact hH; (repeat constructor)) | (apply op_store_agg; rfl; rfl; exact hH; (repeat constructor); (repeat rfl))); clear hH; rintro _ w hH; refine ⟨hH.tail, ?_⟩; apply dt_nil)
      exact ⟨bN, hH, (hA.sub (by (repeat (first | exact trivial | refine ⟨rfl, ?_⟩))))⟩
    · (apply dt_op hA rfl rfl rfl (by decide); apply op_alloc; exact hH; clear hA hH; rintro _ w ⟨bN, rfl, hH⟩; refine ⟨hH.tail, ?_⟩; intro a hA)
      (refine dt_op hA rfl rfl rfl (by decide) (op_call rfl rfl rfl (rfind_spec _ b N L _ hL (hR.keep hH.kp))) ?_; clear hA; rintro _ w ⟨rfl, hk⟩; replace hH := hH.keep hk; clear hk; refine ⟨(by first | exact hH | exact hH.tail), ?_⟩; intro a hA)
      rw [hj] at hA
      (repeat (apply dt_ex hA rfl rfl rfl (by decide); (first | exact EXT | exact EXT2 ); clear hA a; intro a hA))
      (apply dt_op0 hA rfl rfl rfl; (first | (apply op_store1; rfl; rfl; rfl; exact hH; (repeat constructor)) | (apply op_store_agg; rfl; rfl; exact hH; (repeat constructor); (repeat rfl))); clear hH; rintro _ w hH; refine ⟨hH.tail, ?_⟩; apply dt_nil)
      exact ⟨bN, hH, (hA.sub (by (repeat (first | exact trivial | refine ⟨rfl, ?_⟩))))⟩
  clear hA hH
  rintro a w ⟨bN, hH, hA⟩
  repeat' (first | (first | (refine GT ?_ ?_ <;> intro hg <;> clear hA a <;> intro a hA <;> (first | exact FA | replace hg := of_decide_eq_true hg | replace hg := of_decide_eq_false hg | skip)) | (refine QT ?_; clear hA a; intro a hA) | (first | (refine BT ?_; clear hA hH; rintro _ w ⟨bN, rfl, hH⟩ a hA) | (refine LT ?_; clear hA hH; rintro _ w ⟨oN, rfl, hH⟩ a hA) | (refine AT ?_; clear hA; rintro _ w ⟨oN, cN, rfl, hH2⟩ a hA; clear hH; have hH := (hH2 _ (by (repeat constructor))).tail; clear hH2) | (refine S0T ?_; clear hH; rintro _ w hH) )) | ((first | refine CT ?_ | (refine DT ?_ ?_ <;> intro hc <;> try (exfalso; omega))) <;> repeat' refine CT ?_) | (first | (refine DSK ?_; clear hA a; intro a hA) | (first | (refine DLT ?_; clear hA hH; rintro _ w ⟨oN, rfl, hH⟩; refine ⟨STT, ?_⟩; intro a hA) | (refine DAT ?_; clear hA; rintro _ w ⟨oN, cN, rfl, hH2⟩; clear hH; have hH := (hH2 _ (by (repeat constructor))).tail; clear hH2; refine ⟨STT, ?_⟩; intro a hA))) )
  have hfs := hkd.2
  have hin0 := ha0
  refine wp_lpk (S := Nat × List Nat × Option Addr × Nat) (fun s a w => (s.1 ≤ o0.fs.length ∧ i < s.2.1.length ∧ s.2.1[i]? = some o0.a ∧ Cw L roots i s.2.1 ∧ (o0.kind ≠ 1 → ∀ (k : Nat) (x : Int), k < s.1 → o0.fs[k]? = some x → numW x = false → isO L (addrN x) → addrN x ∈ s.2.1)) ∧ HS w0 noM [cb bN 53 [.int .i64 o0.a, .int .i64 o0.kind, .slice d o0.fs.length cd], own 3 1 s.2.2.1 s.2.1.length s.2.2.2 (flat encN s.2.1)] w ∧ Sl 87 [(0, .pointer (some (bat b 0))), (5, .slice s.2.2.1 s.2.1.length s.2.2.2), (8, .int .i64 i), (9, .pointer (some (bat bN 0))), (10, .int .i64 s.1)] a) (fun s => o0.fs.length - s.1)
    (fun a w => ∃ (out : List Nat) (o : Option Addr) (c : Nat), i < out.length ∧ Cw L roots (i + 1) out ∧ HS w0 noM [own 3 1 o out.length c (flat encN out)] w ∧ Sl 87 [(0, .pointer (some (bat b 0))), (5, .slice o out.length c), (8, .int .i64 i)] a) (0, out, o, c) ⟨⟨Nat.zero_le _, hlt, ha0, hC, fun _ k x hk => absurd hk (Nat.not_lt_zero _)⟩, hH, (hA.sub (by (repeat (first | exact trivial | refine ⟨rfl, ?_⟩))))⟩ ?_ ?_
  rotate_left
  · clear hA hH
    rintro a w ⟨out2, o2, c2, hi2, hC2, hH, hA⟩
    repeat' (first | (first | (refine GT ?_ ?_ <;> intro hg <;> clear hA a <;> intro a hA <;> (first | exact FA | replace hg := of_decide_eq_true hg | replace hg := of_decide_eq_false hg | skip)) | (refine QT ?_; clear hA a; intro a hA) | (first | (refine BT ?_; clear hA hH; rintro _ w ⟨bN, rfl, hH⟩ a hA) | (refine LT ?_; clear hA hH; rintro _ w ⟨oN, rfl, hH⟩ a hA) | (refine AT ?_; clear hA; rintro _ w ⟨oN, cN, rfl, hH2⟩ a hA; clear hH; have hH := (hH2 _ (by (repeat constructor))).tail; clear hH2) | (refine S0T ?_; clear hH; rintro _ w hH) )) | ((first | refine CT ?_ | (refine DT ?_ ?_ <;> intro hc <;> try (exfalso; omega))) <;> repeat' refine CT ?_) | (first | (refine DSK ?_; clear hA a; intro a hA) | (first | (refine DLT ?_; clear hA hH; rintro _ w ⟨oN, rfl, hH⟩; refine ⟨STT, ?_⟩; intro a hA) | (refine DAT ?_; clear hA; rintro _ w ⟨oN, cN, rfl, hH2⟩; clear hH; have hH := (hH2 _ (by (repeat constructor))).tail; clear hH2; refine ⟨STT, ?_⟩; intro a hA))) )
    exact ⟨(i + 1, out2, o2, c2), ⟨⟨hi2, hC2⟩, hH, (hA.sub (by (repeat (first | exact trivial | refine ⟨rfl, ?_⟩))))⟩, by show N - (i + 1) < N - i; omega⟩
  clear hA hH hC hle hca ha0 hlt hi hin0
  rintro ⟨k, out, o, c⟩ a w ⟨⟨hk, hlt, ha0, hC, hfd⟩, hH, hA⟩
  dsimp only at hk hlt ha0 hC hfd hH hA
  have hle := bnd hC.c0
  by_cases hkk : k < o0.fs.length ∧ o0.kind ≠ 1
  rotate_left
  · repeat' (first | (first | (refine GT ?_ ?_ <;> intro hg <;> clear hA a <;> intro a hA <;> (first | exact FA | replace hg := of_decide_eq_true hg | replace hg := of_decide_eq_false hg | skip)) | (refine QT ?_; clear hA a; intro a hA) | (first | (refine BT ?_; clear hA hH; rintro _ w ⟨bN, rfl, hH⟩ a hA) | (refine LT ?_; clear hA hH; rintro _ w ⟨oN, rfl, hH⟩ a hA) | (refine AT ?_; clear hA; rintro _ w ⟨oN, cN, rfl, hH2⟩ a hA; clear hH; have hH := (hH2 _ (by (repeat constructor))).tail; clear hH2) | (refine S0T ?_; clear hH; rintro _ w hH) )) | ((first | refine CT ?_ | (refine DT ?_ ?_ <;> intro hc <;> try (exfalso; omega))) <;> repeat' refine CT ?_) | (first | (refine DSK ?_; clear hA a; intro a hA) | (first | (refine DLT ?_; clear hA hH; rintro _ w ⟨oN, rfl, hH⟩; refine ⟨STT, ?_⟩; intro a hA) | (refine DAT ?_; clear hA; rintro _ w ⟨oN, cN, rfl, hH2⟩; clear hH; have hH := (hH2 _ (by (repeat constructor))).tail; clear hH2; refine ⟨STT, ?_⟩; intro a hA))) )
    all_goals exact ⟨out, o, c, hlt, hC.next hl hoL ha0 (fun hk1 x hx h1 h2 => by obtain ⟨j, hj⟩ := List.getElem?_of_mem hx; have := (List.getElem?_eq_some_iff.1 hj).1; exact hfd hk1 j x (by omega) hj h1 h2), hH.tail, (hA.sub (by (repeat (first | exact trivial | refine ⟨rfl, ?_⟩))))⟩
  obtain ⟨hkl, hk1⟩ := hkk
  obtain ⟨x, hx⟩ : ∃ x, o0.fs[k]? = some x := ⟨_, List.getElem?_eq_getElem hkl⟩
  have hxm := List.mem_of_getElem? hx
  have hUx := hWO o0 hoL x hxm
  have hcx : (flat encW o0.fs)[k * 1]? = some (.int .u64 x) := flat_get0 encW_len hx rfl
  have hCn := hC.add (Nat.le_of_lt hlt) (reach_rc2 hl hoL hk1 hxm (hC.c0.rc _ (List.mem_of_getElem? ha0)))
  have hfd2 : o0.kind ≠ 1 → ∀ (j : Nat) (y : Int), j < k + 1 → o0.fs[j]? = some y → numW y = false → isO L (addrN y) → addrN y ∈ addO out (reachA L x) := fun _ j y hj hy h1 h2 => by
    rcases Nat.lt_or_ge j k with h | h
    · exact addO_mem (hfd hk1 j y h hy h1 h2)
    · obtain rfl : j = k := by omega
      rw [hx] at hy
      obtain rfl := Option.some.inj hy
      exact reach_in h1 h2 (pos _ h2)
  have hget := @addO_get out (reachA L x) i o0.a ha0
  repeat' (first | (first | (refine GT ?_ ?_ <;> intro hg <;> clear hA a <;> intro a hA <;> (first | exact FA | replace hg := of_decide_eq_true hg | replace hg := of_decide_eq_false hg | skip)) | (refine QT ?_; clear hA a; intro a hA) | (first | (refine BT ?_; clear hA hH; rintro _ w ⟨bN, rfl, hH⟩ a hA) | (refine LT ?_; clear hA hH; rintro _ w ⟨oN, rfl, hH⟩ a hA) | (refine AT ?_; clear hA; rintro _ w ⟨oN, cN, rfl, hH2⟩ a hA; clear hH; have hH := (hH2 _ (by (repeat constructor))).tail; clear hH2) | (refine S0T ?_; clear hH; rintro _ w hH) )) | ((first | refine CT ?_ | (refine DT ?_ ?_ <;> intro hc <;> try (exfalso; omega))) <;> repeat' refine CT ?_) | (first | (refine DSK ?_; clear hA a; intro a hA) | (first | (refine DLT ?_; clear hA hH; rintro _ w ⟨oN, rfl, hH⟩; refine ⟨STT, ?_⟩; intro a hA) | (refine DAT ?_; clear hA; rintro _ w ⟨oN, cN, rfl, hH2⟩; clear hH; have hH := (hH2 _ (by (repeat constructor))).tail; clear hH2; refine ⟨STT, ?_⟩; intro a hA))) )
  (refine st_op hA rfl rfl (by decide) (op_call rfl rfl rfl (reaches_spec _ b N L x hUx hL (hR.keep hH.kp))) ?_; clear hA; rintro _ w ⟨rfl, hk⟩ a hA; replace hH := hH.keep hk; clear hk)
  have hxx : addO out (reachA L x) = if 0 < reachA L x ∧ reachA L x ∉ out then out ++ [reachA L x] else out := by unfold addO; rfl
  generalize hrx : reachA L x = r at *
  by_cases hpos : 0 < r
  · by_cases hm : r ∈ out
    · rw [if_neg (fun h => h.2 hm)] at hxx
      rw [hxx] at hCn hfd2
      have hin := inL_nat.2 hm
      repeat' (first | (first | (refine GT ?_ ?_ <;> intro hg <;> clear hA a <;> intro a hA <;> (first | exact FA | replace hg := of_decide_eq_true hg | replace hg := of_decide_eq_false hg | skip)) | (refine QT ?_; clear hA a; intro a hA) | (first | (refine BT ?_; clear hA hH; rintro _ w ⟨bN, rfl, hH⟩ a hA) | (refine LT ?_; clear hA hH; rintro _ w ⟨oN, rfl, hH⟩ a hA) | (refine AT ?_; clear hA; rintro _ w ⟨oN, cN, rfl, hH2⟩ a hA; clear hH; have hH := (hH2 _ (by (repeat constructor))).tail; clear hH2) | (refine S0T ?_; clear hH; rintro _ w hH) | ((refine st_op hA rfl rfl (by decide) (op_call rfl rfl rfl (in_spec _ o c out r (hH.own_rd (by exact MEMT)) (by omega))) ?_; clear hA; rintro _ w ⟨rfl, hk⟩ a hA; replace hH := hH.keep hk; clear hk); rw [hin] at hA))) | ((first | refine CT ?_ | (refine DT ?_ ?_ <;> intro hc <;> try (exfalso; omega))) <;> repeat' refine CT ?_) | (first | (refine DSK ?_; clear hA a; intro a hA) | (first | (refine DLT ?_; clear hA hH; rintro _ w ⟨oN, rfl, hH⟩; refine ⟨STT, ?_⟩; intro a hA) | (refine DAT ?_; clear hA; rintro _ w ⟨oN, cN, rfl, hH2⟩; clear hH; have hH := (hH2 _ (by (repeat constructor))).tail; clear hH2; refine ⟨STT, ?_⟩; intro a hA))) )
      exact ⟨(k + 1, out, o, c), ⟨⟨hkl, hlt, ha0, hCn, hfd2⟩, hH, (hA.sub (by (repeat (first | exact trivial | refine ⟨rfl, ?_⟩))))⟩, by show o0.fs.length - (k + 1) < o0.fs.length - k; omega⟩
    · rw [if_pos ⟨hpos, hm⟩] at hxx
      rw [hxx] at hCn hfd2 hget
      have hin : inL out (r : Int) = false := by
        cases hc : inL out (r : Int) with
        | false => rfl
        | true => exact absurd (inL_nat.1 hc) hm
      have hl1 : out.length + 1 = (out ++ [r]).length := by rw [List.length_append]; rfl
      repeat' (first | (first | (refine GT ?_ ?_ <;> intro hg <;> clear hA a <;> intro a hA <;> (first | exact FA | replace hg := of_decide_eq_true hg | replace hg := of_decide_eq_false hg | skip)) | (refine QT ?_; clear hA a; intro a hA) | (first | (refine BT ?_; clear hA hH; rintro _ w ⟨bN, rfl, hH⟩ a hA) | (refine LT ?_; clear hA hH; rintro _ w ⟨oN, rfl, hH⟩ a hA) | (refine AT ?_; clear hA; rintro _ w ⟨oN, cN, rfl, hH2⟩ a hA; clear hH; have hH := (hH2 _ (by (repeat constructor))).tail; clear hH2) | (refine S0T ?_; clear hH; rintro _ w hH) | ((refine st_op hA rfl rfl (by decide) (op_call rfl rfl rfl (in_spec _ o c out r (hH.own_rd (by exact MEMT)) (by omega))) ?_; clear hA; rintro _ w ⟨rfl, hk⟩ a hA; replace hH := hH.keep hk; clear hk); rw [hin] at hA))) | ((first | refine CT ?_ | (refine DT ?_ ?_ <;> intro hc <;> try (exfalso; omega))) <;> repeat' refine CT ?_) | (first | (refine DSK ?_; clear hA a; intro a hA) | (first | (refine DLT ?_; clear hA hH; rintro _ w ⟨oN, rfl, hH⟩; refine ⟨STT, ?_⟩; intro a hA) | (refine DAT ?_; clear hA; rintro _ w ⟨oN, cN, rfl, hH2⟩; clear hH; have hH := (hH2 _ (by (repeat constructor))).tail; clear hH2; refine ⟨STT, ?_⟩; intro a hA))) )
      rw [snocN, hl1] at hH
      rw [hl1] at hA
      exact ⟨(k + 1, out ++ [r], oN, cN), ⟨⟨hkl, by dsimp only; omega, hget, hCn, hfd2⟩, hH.perm (by (repeat (first | exact List.Perm.nil | refine perm_pick 0 rfl ?_ | refine perm_pick 1 rfl ?_ | refine perm_pick 2 rfl ?_ | refine perm_pick 3 rfl ?_ | refine perm_pick 4 rfl ?_ | refine perm_pick 5 rfl ?_ | refine perm_pick 6 rfl ?_ | refine perm_pick 7 rfl ?_ | refine perm_pick 8 rfl ?_ | refine perm_pick 9 rfl ?_ | refine perm_pick 10 rfl ?_ | refine perm_pick 11 rfl ?_))), (hA.sub (by (repeat (first | exact trivial | refine ⟨rfl, ?_⟩))))⟩, by show o0.fs.length - (k + 1) < o0.fs.length - k; omega⟩
  · rw [if_neg (fun h => hpos h.1)] at hxx
    rw [hxx] at hCn hfd2
    repeat' (first | (first | (refine GT ?_ ?_ <;> intro hg <;> clear hA a <;> intro a hA <;> (first | exact FA | replace hg := of_decide_eq_true hg | replace hg := of_decide_eq_false hg | skip)) | (refine QT ?_; clear hA a; intro a hA) | (first | (refine BT ?_; clear hA hH; rintro _ w ⟨bN, rfl, hH⟩ a hA) | (refine LT ?_; clear hA hH; rintro _ w ⟨oN, rfl, hH⟩ a hA) | (refine AT ?_; clear hA; rintro _ w ⟨oN, cN, rfl, hH2⟩ a hA; clear hH; have hH := (hH2 _ (by (repeat constructor))).tail; clear hH2) | (refine S0T ?_; clear hH; rintro _ w hH) )) | ((first | refine CT ?_ | (refine DT ?_ ?_ <;> intro hc <;> try (exfalso; omega))) <;> repeat' refine CT ?_) | (first | (refine DSK ?_; clear hA a; intro a hA) | (first | (refine DLT ?_; clear hA hH; rintro _ w ⟨oN, rfl, hH⟩; refine ⟨STT, ?_⟩; intro a hA) | (refine DAT ?_; clear hA; rintro _ w ⟨oN, cN, rfl, hH2⟩; clear hH; have hH := (hH2 _ (by (repeat constructor))).tail; clear hH2; refine ⟨STT, ?_⟩; intro a hA))) )
    exact ⟨(k + 1, out, o, c), ⟨⟨hkl, hlt, ha0, hCn, hfd2⟩, hH, (hA.sub (by (repeat (first | exact trivial | refine ⟨rfl, ?_⟩))))⟩, by show o0.fs.length - (k + 1) < o0.fs.length - k; omega⟩
end Go.Proofs.Ytdfhajdejlhamaa
namespace Go.Proofs.Ytdfhajdejlhamaa
open Go Go.Fw
set_option linter.unusedVariables false
section
variable {N : Nat} {s : GS} {g : SS} {L : List Ob} {o : Ob} {held : List Nat} {roots : List Int}
structure Cyc (N : Nat) (L0 : List Ob) (held : List Nat) (s : GS) : Prop where
  ok : GOk N s
  sub : ∀ o ∈ s.L, o ∈ L0
  kp : ∀ o ∈ L0, o.a ∈ held → o ∈ s.L ∧ Pt s o.a
  fr : Fr s fun a => a ∈ held
theorem Cyc.begin (h : GOk N s) (hp : s.ph = 0) (hC : Clo s.L roots held) : Cyc N s.L held (beginG s roots).2 :=
  ⟨begin_ok h roots, fun o ho => by rw [beg_L h] at ho; exact ho, fun o ho hm => keep_begin h ho ⟨⟨o, ho, rfl⟩, .inl hp⟩ (hC.c0.rc _ hm), Fr_begin h hp hC.rt fun a b ha hE => hC.cls a b ha hE⟩
theorem Cyc.step (h : Cyc N L held s) : Cyc N L held (stepG s).2 :=
  ⟨step_ok h.ok, fun o ho => h.sub o (step_sub h.ok o ho), fun o ho hm => let ⟨h1, h2⟩ := h.kp o ho hm; keep_step h.ok h1 h2, Fr_step h.ok h.fr⟩
def liveN (L : List Ob) (held : List Nat) : Nat := (held.map fun a => 1 + (fsA L a).length).sum
theorem lay_nodup : ∀ {L : List Ob} {p : Nat}, Lay N p L → (L.map (·.a)).Nodup
  | [], _, _ => .nil
  | x :: L, p, h => by
    rw [List.map_cons, List.nodup_cons]
    refine ⟨fun hm => ?_, lay_nodup h.2⟩
    obtain ⟨y, hy, he⟩ := List.mem_map.1 hm
    have := (h.2.mem y hy).1
    unfold Ob.fin at this
    omega
theorem used_sum : ∀ {L : List Ob}, usedA L = (L.map fun o => 1 + o.fs.length).sum
  | [] => rfl
  | o :: L => by
    rw [List.map_cons, List.sum_cons, ← used_sum]
    show o.fs.length + 1 + usedA L = _
    omega
theorem Cyc.used (hl : Lay N 1 L) (hnd : held.Nodup) (hob : ∀ a ∈ held, isO L a) (h : Cyc N L held s) (hp : s.ph = 0) : usedA s.L = liveN L held := by
  have hperm : (s.L.map (·.a)).Perm held := by
    rw [List.perm_ext_iff_of_nodup (lay_nodup h.ok.lay) hnd]
    intro a
    constructor
    · intro hm
      obtain ⟨o, ho, rfl⟩ := List.mem_map.1 hm
      exact h.fr.idl hp o.a ⟨o, ho, rfl⟩
    · intro hm
      obtain ⟨o, ho, rfl⟩ := hob a hm
      exact List.mem_map.2 ⟨o, (h.kp o ho hm).1, rfl⟩
  have e1 : usedA s.L = ((s.L.map (·.a)).map fun a => 1 + (fsA L a).length).sum := by
    rw [used_sum, List.map_map]
    congr 1
    refine List.map_congr_left fun o ho => ?_
    show 1 + o.fs.length = 1 + (fsA L o.a).length
    rw [(fsA_at hl (h.sub o ho)).1]
  rw [e1]
  exact (hperm.map _).sum_nat
/-- picks: a cycle that has begun -/
structure Pk (N : Nat) (L0 : List Ob) (held : List Nat) (n : Nat) (g : SS) : Prop where
  cyc : Cyc N L0 held g.s
  st : (g.cy = 0 ∧ g.s.ph ≠ 0 ∧ mu N g.s + n ≤ 2 * N + 3) ∨ (g.cy = 1 ∧ g.s.ph = 0)
theorem Pk.first (h : GOk N g.s) (hp : g.s.ph = 0) (hcy : g.cy = 0) (hC : Clo g.s.L roots held) : Pk N g.s.L held 1 (pickS g roots) := by
  have e : pickS g roots = begS g roots := by unfold pickS; rw [if_pos hp]
  rw [e]
  refine ⟨Cyc.begin h hp hC, .inl ⟨hcy, ?_, ?_⟩⟩
  · obtain ⟨s', e, g1, g2, _⟩ := begin_facts h hp roots
    show (beginG g.s roots).2.ph ≠ 0
    rw [e]
    show s'.ph ≠ 0
    omega
  · have := mu_two N (begS g roots).s
    omega
theorem step_end (h : GOk N s) (hp : s.ph ≠ 0) : ((stepG s).1 = true ∧ (stepG s).2.ph = 0) ∨ ((stepG s).1 = false ∧ (stepG s).2.ph ≠ 0) := by
  rcases step_cases h with ⟨h0, e⟩ | ⟨h0, g, ha, e⟩ | ⟨h0, hg, e⟩ | ⟨h0, hno, h1, e⟩ | ⟨h0, o, ho, h1, h2, h3, e⟩ <;> rw [e]
  · exact absurd h0 hp
  · right
    refine ⟨rfl, ?_⟩
    have := (mark_ok h h0 ha).2.2.1
    show (markG s g).ph ≠ 0
    omega
  · exact .inr ⟨rfl, by show (2 : Nat) ≠ 0; decide⟩
  · exact .inl ⟨rfl, rfl⟩
  · refine .inr ⟨rfl, ?_⟩
    show s.ph ≠ 0
    exact hp
theorem Pk.next {n : Nat} (h : Pk N L held n g) (hcy : g.cy = 0) : Pk N L held (n + 1) (pickS g roots) := by
  rcases h.st with ⟨_, hp, hm⟩ | ⟨h1, _⟩
  · have e : pickS g roots = ⟨(stepG g.s).2, if (stepG g.s).1 = true then g.cy + 1 else g.cy⟩ := by unfold pickS; rw [if_neg hp]
    rw [e]
    refine ⟨h.cyc.step, ?_⟩
    have := step_mu h.cyc.ok hp
    rcases step_end h.cyc.ok hp with ⟨h2, h3⟩ | ⟨h2, h3⟩
    · right
      exact ⟨by dsimp only; rw [if_pos h2, hcy], h3⟩
    · left
      refine ⟨by dsimp only; rw [if_neg (by rw [h2]; decide), hcy], h3, ?_⟩
      show mu N (stepG g.s).2 + (n + 1) ≤ _
      omega
  · omega
end
def regN (x : Int) : Nat := ((IntKind.u64.wrap x).tmod 8).toNat
theorem reg_facts (x : Int) : (IntKind.u64.wrap x).tmod 8 = (regN x : Int) ∧ regN x < 8 ∧ IntKind.i64.wrap (regN x : Int) = (regN x : Int) := by
  have h0 : 0 ≤ IntKind.u64.wrap x := by
    rw [u64_mod]
    exact Int.emod_nonneg _ (by decide)
  have h1 := Int.tmod_nonneg (8 : Int) h0
  have h2 := Int.tmod_lt_of_pos (IntKind.u64.wrap x) (show (0 : Int) < 8 by decide)
  unfold regN
  refine ⟨by omega, by omega, wrap_i64 ⟨by omega, by omega⟩⟩
set_option maxRecDepth 10000 attribute [local irreducible] Code.wp wpList Calls Ex Op1 sat bat blk cb own Go.Fw.mp Go.Fw.mpO Go.Fw.mpI Go.Fw.mpE Go.Fw.itr HS Rd Ret wkD Hp Cl Cls Exit.then Exit.inBlock Exit.noGoto bodyPost Go.Fw.flat wk2 Go.Fw.all Go.Fw.owns wpOp
attribute [local irreducible] regN
theorem reg_spec (w0 : World) (x : Int) : Ret Try.prog 11 #[.int .i64 x] w0 (fun v w => v = .int .i64 (regN x : Nat) ∧ Kp w0 noM w) := by
  have hH : HS w0 noM [] w0 := HS.init w0 noM
  obtain ⟨h1, h2, h3⟩ := reg_facts x
  (refine enter (N := 7) Try.func11 rfl Try.ntmps11 rfl ?_; intro a hA; dsimp only [sl0, Nat.reduceAdd] at hA)
  repeat' (first | (first | (refine GT ?_ ?_ <;> intro hg <;> clear hA a <;> intro a hA <;> (first | exact FA | replace hg := of_decide_eq_true hg | replace hg := of_decide_eq_false hg | skip)) | ((first | apply st_ex hA hH rfl rfl (by decide) | apply dr_ex hA rfl rfl rfl (by decide) | apply dr_exp hA rfl rfl rfl (by decide) | apply dr_ex3 hA hH rfl rfl rfl (by decide)); (first | (apply ex_convert (v := IntKind.u64.wrap x); rfl; rfl) | (apply ex_convert (v := (regN x : Int)); rfl; (rw [h1]; exact h3))); clear hA a; intro a hA) | (refine QT ?_; clear hA a; intro a hA) | (first | (refine BT ?_; clear hA hH; rintro _ w ⟨bN, rfl, hH⟩ a hA) | (refine LT ?_; clear hA hH; rintro _ w ⟨oN, rfl, hH⟩ a hA) | (refine AT ?_; clear hA; rintro _ w ⟨oN, cN, rfl, hH2⟩ a hA; clear hH; have hH := (hH2 _ (by (repeat constructor))).tail; clear hH2) | (refine S0T ?_; clear hH; rintro _ w hH) )) | ((first | refine CT ?_ | (refine DT ?_ ?_ <;> intro hc <;> try (exfalso; omega))) <;> repeat' refine CT ?_) | (first | (refine DSK ?_; clear hA a; intro a hA) | (first | (refine DLT ?_; clear hA hH; rintro _ w ⟨oN, rfl, hH⟩; refine ⟨STT, ?_⟩; intro a hA) | (refine DAT ?_; clear hA; rintro _ w ⟨oN, cN, rfl, hH2⟩; clear hH; have hH := (hH2 _ (by (repeat constructor))).tail; clear hH2; refine ⟨STT, ?_⟩; intro a hA))) )
  exact rt1 (.inl rfl) rfl hA rfl ⟨rfl, hH.kp⟩
end Go.Proofs.Ytdfhajdejlhamaa
namespace Go.Proofs.Ytdfhajdejlhamaa
open Go Go.Fw
set_option linter.unusedVariables false
section
variable {N : Nat} {s : GS} {g : SS} {L : List Ob} {o : Ob} {held : List Nat} {regs : List Int}
theorem end_keep (h : GOk N g.s) (ho : o ∈ g.s.L) (hP : Pt g.s o.a) : o ∈ (endS N g).s.L ∧ Pt (endS N g).s o.a :=
  end_inv (P := fun t => o ∈ t.L ∧ Pt t o.a) h ⟨ho, hP⟩ fun t h1 h2 => keep_step h1 h2.1 h2.2
theorem end_sub (h : GOk N g.s) : ∀ o ∈ (endS N g).s.L, o ∈ g.s.L :=
  end_inv (P := fun t => ∀ o ∈ t.L, o ∈ g.s.L) h (fun _ ho => ho) fun t h1 h2 o ho => h2 o (step_sub h1 o ho)
/-- what registers reach is reached behind a cycle's end -/
theorem rc_keep (h : GOk N g.s) (hS : Sf g.s regs) {a : Nat} (hr : Rc g.s.L regs a) : Pt g.s a ∧ Rc (endS N g).s.L regs a := by
  have stay : ∀ {b : Nat}, Pt g.s b → isO (endS N g).s.L b := fun {b} hb => by
    obtain ⟨x, hx, hxa⟩ := hb.1
    subst hxa
    exact ⟨x, (end_keep h hx hb).1, rfl⟩
  induction hr with
  | @root x hx hn hO =>
    have hP : Pt g.s (addrN x) := (hS.gd x hx).resolve_left (by rw [hn]; decide)
    exact ⟨hP, .root hx hn (stay hP)⟩
  | @step a b _ hE ih =>
    obtain ⟨hPa, hR⟩ := ih
    obtain ⟨hOb, x, hx, hxa, hxk, y, hy, hyn, hyb⟩ := hE
    subst hxa; subst hyb
    have hP : Pt g.s (addrN y) := (hS.cl x hx hPa y hy).resolve_left (by rw [hyn]; decide)
    exact ⟨hP, .step hR ⟨stay hP, x, (end_keep h hx hPa).1, rfl, hxk, y, hy, hyn, rfl⟩⟩
theorem Cyc.begin2 (h : GOk N g.s) (hS : Sf g.s regs) (hC : Clo g.s.L regs held) : Cyc N g.s.L held (begS (endS N g) regs).s := by
  have hokE := end_ok h
  have hpE := end_ph h
  have hE : ∀ a b, E (endS N g).s.L a b → E g.s.L a b := fun a b ⟨⟨y, hy, hyb⟩, x, hx, hxa, h4⟩ => ⟨⟨y, end_sub h y hy, hyb⟩, x, end_sub h x hx, hxa, h4⟩
  refine ⟨begin_ok hokE regs, fun o ho => ?_, fun o ho hm => ?_, Fr_begin hokE hpE (S := fun a => a ∈ held) (fun x hx hn ⟨y, hy, hya⟩ => hC.rt x hx hn ⟨y, end_sub h y hy, hya⟩) fun a b ha hE' => hC.cls a b ha (hE a b hE')⟩
  · rw [show (begS (endS N g) regs).s.L = (endS N g).s.L from beg_L hokE regs] at ho
    exact end_sub h o ho
  · obtain ⟨hP, hR⟩ := rc_keep h hS (hC.c0.rc _ hm)
    obtain ⟨k1, k2⟩ := end_keep h ho hP
    exact keep_begin hokE k1 k2 hR
theorem Cyc.ends (h : Cyc N L held g.s) : Cyc N L held (endS N g).s :=
  end_inv (P := Cyc N L held) h.ok h fun t _ h2 => h2.step
theorem Cyc.len (hl : Lay N 1 L) (hnd : held.Nodup) (hob : ∀ a ∈ held, isO L a) (h : Cyc N L held s) (hp : s.ph = 0) : s.L.length = held.length := by
  have hperm : (s.L.map (·.a)).Perm held := by
    rw [List.perm_ext_iff_of_nodup (lay_nodup h.ok.lay) hnd]
    intro a
    constructor
    · intro hm
      obtain ⟨o, ho, rfl⟩ := List.mem_map.1 hm
      exact h.fr.idl hp o.a ⟨o, ho, rfl⟩
    · intro hm
      obtain ⟨o, ho, rfl⟩ := hob a hm
      exact List.mem_map.2 ⟨o, (h.kp o ho hm).1, rfl⟩
  rw [← hperm.length_eq, List.length_map]
/-- refused, so there is no room -/
theorem full_law (h : GOk N g.s) (hS : Sf g.s regs) (hC : Clo g.s.L regs held) {size : Int} (hz : 0 ≤ size ∧ size ≤ 4096) : (allocS N g 6 size regs).2.1 = 0 ∨ ((allocS N g 6 size regs).2.1 = 6 ∧ (N : Int) - 1 ≤ liveN g.s.L held + ((held.length : Int) + 1) * size) := by
  by_cases h1 : (allocG N g.s 6 size).2.1 ≠ 6
  · left
    rw [allocS_1 h1]
    show (allocG N g.s 6 size).2.1 = 0
    rw [alloc_fst] at h1 ⊢
    exact (alloc_06 (by decide) hz).resolve_right h1
  by_cases h2 : (allocG N (endS N g).s 6 size).2.1 ≠ 6
  · left
    rw [allocS_2 h1 h2]
    show (allocG N (endS N g).s 6 size).2.1 = 0
    rw [alloc_fst] at h2 ⊢
    exact (alloc_06 (by decide) hz).resolve_right h2
  rw [allocS_3 h1 h2]
  show (allocG N (endS N (begS (endS N g) regs)).s 6 size).2.1 = 0 ∨ ((allocG N (endS N (begS (endS N g) regs)).s 6 size).2.1 = 6 ∧ _)
  have hc := (Cyc.begin2 h hS hC).ends
  have hok3 := hc.ok
  have hp3 := end_ph (begS_ok (end_ok h) regs)
  rw [alloc_fst]
  rcases alloc_06 (N := N) (L := (endS N (begS (endS N g) regs)).s.L) (k := 6) (z := size) (by decide) hz with h3 | h3
  · exact .inl h3
  · refine .inr ⟨h3, ?_⟩
    have h4 := full_room hok3.lay h3
    rw [hc.used h.lay hC.c0.nd hC.c0.ob hp3, hc.len h.lay hC.c0.nd hC.c0.ob hp3] at h4
    exact h4
/-! ## registers that reach what is safe -/
theorem allocS_Sf (h : GOk N g.s) (hS : Sf g.s regs) (z : Int) : Sf (allocS N g 6 z regs).2.2.s regs ∧ ((allocS N g 6 z regs).2.1 = 0 → Gd (allocS N g 6 z regs).2.2.s (allocS N g 6 z regs).1) := by
  obtain ⟨g2, h1, h2, h3⟩ := allocS_inv (P := fun t => Sf t regs) h hS (fun t h1 h2 => Sf_step h1 h2) regs (fun t h1 h2 => Sf_begin h1 h2) 6 z
  rw [h3]
  refine ⟨Sf_alloc h1 h2 z, fun he => ?_⟩
  have he' : (allocG N g2.s 6 z).2.1 = 0 := he
  show Gd (allocG N g2.s 6 z).2.2 (if (allocG N g2.s 6 z).2.1 = 0 then 2 * (allocG N g2.s 6 z).1 else 0)
  rw [if_pos he']
  obtain ⟨ad, had, hle⟩ := (alloc_num h1 6 z).resolve_left (fun h => h he') |>.2
  have hp := (Pt_new h1 (kk := 6) (z := z) (at_ := (allocG N g2.s 6 z).1) (s' := (allocG N g2.s 6 z).2.2) (by rw [← he'])).1
  rw [had, Int.toNat_natCast] at hp
  rw [had]
  have e1 : numW (2 * (ad : Int)) = false := by unfold numW; exact decide_eq_false (by omega)
  have e2 : addrN (2 * (ad : Int)) = ad := by
    unfold addrN addrW
    rw [if_neg (by omega)]
    omega
  exact .inr (by rw [e2]; exact hp)
theorem pickS_Sf (h : GOk N g.s) (hS : Sf g.s regs) : Sf (pickS g regs).s regs := (pickS_inv (P := fun t => Sf t regs) h hS (fun t h1 h2 => Sf_step h1 h2) regs fun t h1 h2 => Sf_begin h1 h2).2
theorem write_none (h : GOk N g.s) {z i y : Int} (hz : isA g.s.L z = false) : (writeS g z i y).2 = g := by
  have : (writeG g.s z i y).2 = g.s := by
    rcases get_cases h.lay z i y with ⟨e, he, h1, h2⟩ | ⟨o, j, u, ho, rfl, rfl, hy, h1, h2⟩
    · unfold writeG
      rw [h1, if_neg (by exact he)]
    · have := isA_iff.2 ⟨o, ho, rfl⟩
      rw [hz] at this; cases this
  unfold writeS
  rw [this]
theorem zero_no (h : GOk N g.s) : isA g.s.L ((0 : Nat) : Int) = false := by
  cases hx : isA g.s.L ((0 : Nat) : Int) with
  | false => rfl
  | true => have := h.lt (isO_iff.1 hx); omega
theorem writeS_Sf (h : GOk N g.s) (hS : Sf g.s regs) {x i y : Int} (hx : Gd g.s x) (hy : Gd g.s y) : Sf (writeS g (atA g.s.L x : Nat) i y).2.s regs := by
  by_cases hc : numW x = false ∧ isO g.s.L (addrN x)
  · rw [at_yes hc.1 hc.2]
    refine Sf_write h hS _ i hy fun a ha => ?_
    have : a = addrN x := by omega
    rw [this]
    exact hx.resolve_left (by rw [hc.1]; decide)
  · have e1 : atA g.s.L x = 0 := by unfold atA; rw [if_neg hc]
    rw [e1, write_none h (zero_no h)]
    exact hS
theorem Sf_setR (hS : Sf s regs) {i : Nat} {y : Int} (hy : Gd s y) : Sf s (regs.set i y) :=
  ⟨fun r hr => by rcases List.mem_or_eq_of_mem_set hr with h1 | h1; exact hS.gd r h1; subst h1; exact hy, hS.cl, hS.k6⟩
theorem Sf_st0 (N : Nat) : Sf (st0 N).s [1, 1, 1, 1, 1, 1, 1, 1] :=
  ⟨fun r hr => .inl (by have : r = 1 := by simpa using hr
                        subst this; exact num1), fun o ho => absurd ho (List.not_mem_nil), fun o ho => absurd ho (List.not_mem_nil)⟩
end
end Go.Proofs.Ytdfhajdejlhamaa
namespace Go.Proofs.Ytdfhajdejlhamaa
open Go Go.Fw
set_option linter.unusedVariables false
def wo (l : List Nat) (z : Int) : List Nat := l.filter fun a => decide ((a : Int) ≠ z)
theorem wo_mem {l : List Nat} {n a : Nat} : a ∈ wo l (n : Int) ↔ a ∈ l ∧ a ≠ n := by
  unfold wo
  rw [List.mem_filter, decide_eq_true_eq]
  constructor
  · exact fun ⟨h1, h2⟩ => ⟨h1, fun he => h2 (by rw [he])⟩
  · exact fun ⟨h1, h2⟩ => ⟨h1, fun he => h2 (by omega)⟩
theorem wo_snoc {l : List Nat} {z : Int} {i a : Nat} (h : l[i]? = some a) : wo (l.take (i + 1)) z = if (a : Int) ≠ z then wo (l.take i) z ++ [a] else wo (l.take i) z := by
  unfold wo
  rw [List.take_add_one, h, List.filter_append]
  split
  · rename_i hc; simp [hc]
  · rename_i hc
    have : (a : Int) = z := by omega
    simp [this]
theorem wo_le {l : List Nat} {z : Int} : (wo l z).length ≤ l.length := List.length_filter_le _ _
/-- the document's greys and blacks are of a collector's colours -/
structure Dr (s : GS) (G B : List Nat) : Prop where
  nG : G.Nodup
  mG : ∀ a, a ∈ G ↔ col s a = 1
  nB : B.Nodup
  mB : ∀ a, a ∈ B ↔ col s a = 2
section
variable {N : Nat} {s : GS} {G B : List Nat}
theorem Dr.gl (h : Dr s G B) (hok : GOk N s) : G.length = s.gr.length := by
  refine (List.perm_ext_iff_of_nodup h.nG (hok.grs.imp fun h => by omega) |>.2 fun a => ?_).length_eq
  rw [h.mG, hok.grm]
theorem Dr.Gle (h : Dr s G B) (hok : GOk N s) : G.length ≤ N := nodup_len h.nG fun a ha => (hok.lt (hok.obj a (by have := (h.mG a).1 ha; omega))).2
theorem Dr.Ble (h : Dr s G B) (hok : GOk N s) : B.length ≤ N := nodup_len h.nB fun a ha => (hok.lt (hok.obj a (by have := (h.mB a).1 ha; omega))).2
theorem nd_snoc {l : List Nat} {a : Nat} (h : l.Nodup) (ha : a ∉ l) : (l ++ [a]).Nodup :=
  List.nodup_append.2 ⟨h, List.nodup_cons.2 ⟨List.not_mem_nil, List.nodup_nil⟩, fun x hx y hy => by rw [List.mem_singleton.1 hy]; exact fun he => ha (he ▸ hx)⟩
theorem Dr.shade (h : Dr s G B) (hok : GOk N s) {x : Int} (h1 : numW x = false) (h2 : isO s.L (addrN x)) (h3 : col s (addrN x) = 0) : Dr (shadeG s x) (G ++ [addrN x]) B := by
  have hc := shade_col hok x
  refine ⟨nd_snoc h.nG fun hm => by have := (h.mG _).1 hm; omega, fun a => ?_, h.nB, fun a => ?_⟩
  · rw [hc, List.mem_append, List.mem_singleton, h.mG]
    split
    · rename_i hh; simp [hh.2.1]
    · rename_i hh
      constructor
      · rintro (h4 | rfl)
        · exact h4
        · exact absurd ⟨h1, rfl, h2, h3⟩ hh
      · exact .inl
  · rw [hc, h.mB]
    split
    · rename_i hh
      have := hh.2.2.2
      omega
    · exact Iff.rfl
theorem shade_no {x : Int} (h : numW x = true ∨ ¬ isO s.L (addrN x) ∨ col s (addrN x) ≠ 0) : shadeG s x = s := by
  unfold shadeG
  rw [if_pos]
  rcases h with h | h | h
  · exact .inl h
  · right
    cases hw : whiteG s (addrN x) with
    | false => rfl
    | true => rw [whiteG_iff] at hw; exact absurd hw.1 h
  · right
    cases hw : whiteG s (addrN x) with
    | false => rfl
    | true => rw [whiteG_iff] at hw; exact absurd hw.2 h
theorem wo_nodup {l : List Nat} {z : Int} (h : l.Nodup) : (wo l z).Nodup := h.filter _
theorem Dr.black (h : Dr s G B) (hok : GOk N s) {a : Nat} (hc : col s a = 1) (hcol : ∀ b, col (blackG s a) b = if a = b then 2 else col s b) : Dr (blackG s a) (wo G (a : Int)) (B ++ [a]) := by
  refine ⟨wo_nodup h.nG, fun b => ?_, nd_snoc h.nB fun hm => by have := (h.mB _).1 hm; omega, fun b => ?_⟩
  · rw [hcol, wo_mem, h.mG]
    split
    · rename_i hh; subst hh; simp
    · rename_i hh; exact ⟨fun h => h.1, fun h1 => ⟨h1, fun he => hh he.symm⟩⟩
  · rw [hcol, List.mem_append, List.mem_singleton, h.mB]
    split
    · rename_i hh; simp [hh]
    · rename_i hh; exact ⟨fun h => h.elim id fun he => absurd he.symm hh, .inl⟩
theorem Dr.sweep {s' : GS} (h : Dr s G B) {a : Nat} (hc : ∀ b, col s b ≠ 1) (hcol : ∀ b, col s' b = if a = b then 0 else col s b) : Dr s' G (wo B (a : Int)) := by
  refine ⟨h.nG, fun b => ?_, wo_nodup h.nB, fun b => ?_⟩
  · rw [hcol, h.mG]
    split
    · exact ⟨fun h1 => absurd h1 (hc b), fun h1 => by omega⟩
    · exact Iff.rfl
  · rw [hcol, wo_mem, h.mB]
    split
    · rename_i hh; subst hh; simp
    · rename_i hh; exact ⟨fun h => h.1, fun h1 => ⟨h1, fun he => hh he.symm⟩⟩
theorem Dr.same {s' : GS} (h : Dr s G B) (hcol : ∀ b, col s' b = col s b) : Dr s' G B := ⟨h.nG, fun a => by rw [hcol]; exact h.mG a, h.nB, fun a => by rw [hcol]; exact h.mB a⟩
end
structure DQ where
  G : List Nat
  B : List Nat
  oG : Option Addr
  cG : Nat
  oB : Option Addr
  cB : Nat
def gdQ (bd b2 : Nat) (s : GS) (q : DQ) : List It := [cb bd 48 [.pointer (some (bat b2 0)), .int .i64 s.ph, .slice q.oG q.G.length q.cG, .slice q.oB q.B.length q.cB, .int .i64 s.pl], own 3 1 q.oG q.G.length q.cG (flat encN q.G), own 3 1 q.oB q.B.length q.cB (flat encN q.B)]
/-- the document's collector -/
def gdI (bd b2 : Nat) (s : GS) : It := exI fun q => facI (Dr s q.G q.B) (all (gdQ bd b2 s q))
structure GdQ (w : World) (bd b2 : Nat) (s : GS) (q : DQ) : Prop where
  dr : Dr s q.G q.B
  c0 : w.cell? (bat bd 0) = some (.pointer (some (bat b2 0)))
  c1 : w.cell? (bat bd 1) = some (.int .i64 s.ph)
  c2 : w.cell? (bat bd 2) = some (.slice q.oG q.G.length q.cG)
  c3 : w.cell? (bat bd 3) = some (.slice q.oB q.B.length q.cB)
  c4 : w.cell? (bat bd 4) = some (.int .i64 s.pl)
  rG : Rd w q.oG (flat encN q.G)
  rB : Rd w q.oB (flat encN q.B)
def GdR (w : World) (bd b2 : Nat) (s : GS) : Prop := ∃ q, GdQ w bd b2 s q
theorem gd_open {w0 w : World} {M : Nat → Prop} {H : List It} {bd b2 : Nat} {s : GS} (h : HS w0 M (gdI bd b2 s :: H) w) : ∃ q, Dr s q.G q.B ∧ HS w0 M (gdQ bd b2 s q ++ H) w := by
  obtain ⟨q, h1⟩ := h.exI_open
  obtain ⟨hd, h2⟩ := h1.facI_open
  exact ⟨q, hd, h2.open_⟩
theorem gd_shut {w0 w : World} {M : Nat → Prop} {H : List It} {bd b2 : Nat} {s : GS} (q : DQ) (hd : Dr s q.G q.B) (h : HS w0 M (gdQ bd b2 s q ++ H) w) : HS w0 M (gdI bd b2 s :: H) w := HS.exI_shut q (HS.facI_shut hd h.shut)
theorem gd_read {w0 w : World} {M : Nat → Prop} {H : List It} {bd b2 : Nat} {s : GS} (h : HS w0 M (gdI bd b2 s :: H) w) : GdR w bd b2 s := by
  obtain ⟨q, hd, h1⟩ := gd_open h
  exact ⟨q, hd, h1.cell (b := bd) (j := 0) (List.mem_cons_self ..) rfl, h1.cell (b := bd) (j := 1) (List.mem_cons_self ..) rfl, h1.cell (b := bd) (j := 2) (List.mem_cons_self ..) rfl, h1.cell (b := bd) (j := 3) (List.mem_cons_self ..) rfl, h1.cell (b := bd) (j := 4) (List.mem_cons_self ..) rfl,
    h1.own_rd (o := q.oG) (xs := flat encN q.G) (by exact .tail _ (.head _)), h1.own_rd (o := q.oB) (xs := flat encN q.B) (by exact .tail _ (.tail _ (.head _)))⟩
theorem gd_readM {w0 w : World} {M : Nat → Prop} {H : List It} {bd b2 : Nat} {s : GS} (h : HS w0 M H w) (hm : gdI bd b2 s ∈ H) : GdR w bd b2 s := gd_read (h.pick hm)
theorem GdQ.keep {w w' : World} {bd b2 : Nat} {s : GS} {q : DQ} (h : GdQ w bd b2 s q) (hk : Kp w noM w') : GdQ w' bd b2 s q := by
  have hH : HS w noM [] w' := (HS.init w noM).keep hk
  exact ⟨h.dr, hH.cellw h.c0 id, hH.cellw h.c1 id, hH.cellw h.c2 id, hH.cellw h.c3 id, hH.cellw h.c4 id, hH.rd h.rG id, hH.rd h.rB id⟩
theorem inL_f {l : List Nat} {a : Nat} (h : a ∉ l) : inL l (a : Int) = false := by
  cases hc : inL l (a : Int) with
  | false => rfl
  | true => exact absurd (inL_nat.1 hc) h
theorem gd_eq {w0 w : World} {M : Nat → Prop} {H : List It} {bd b2 : Nat} {s s' : GS} (h : HS w0 M (gdI bd b2 s :: H) w) (h1 : ∀ b, col s' b = col s b) (h2 : s'.ph = s.ph) (h3 : s'.pl = s.pl) : HS w0 M (gdI bd b2 s' :: H) w := by
  obtain ⟨q, hd, hq⟩ := gd_open h
  refine gd_shut q (hd.same h1) ?_
  unfold gdQ at hq ⊢
  rw [h2, h3]
  exact hq
theorem nil_wo (l : List Nat) (z : Int) : ([] : List Value) = flat encN (wo (l.take 0) z) ∧ (wo (l.take 0) z).length = 0 := ⟨rfl, rfl⟩
set_option maxRecDepth 10000 attribute [local irreducible] Code.wp wpList Calls Ex Op1 sat bat blk cb own Go.Fw.mp Go.Fw.mpO Go.Fw.mpI Go.Fw.mpE Go.Fw.itr HS Rd Ret wkD Hp Cl Cls Exit.then Exit.inBlock Exit.noGoto bodyPost Go.Fw.flat wk2 Go.Fw.all Go.Fw.owns wpOp
attribute [local irreducible] hdA gaps isA nextA allocA freeA sizeA kindA setA getA whiteZ numW addrW shadeG gcI hpI stepG beginG writeG allocG mu rfI inL findI objA reachA wo

theorem without_spec (w0 : World) (o : Option Addr) (c : Nat) (l : List Nat) (z : Int) (hr : Rd w0 o (flat encN l)) (hl : l.length ≤ 1048576) : Ret Try.prog 82 #[.slice o l.length c, .int .i64 z] w0 (fun v w => ∃ o' c', v = .slice o' (wo l z).length c' ∧ HS w0 noM [own 3 1 o' (wo l z).length c' (flat encN (wo l z))] w) := by
  have hH : HS w0 noM [] w0 := HS.init w0 noM
  have hsp : Sp o l.length := hr.sp (sz := 1) (flat_length encN_len l) (by omega)
  (refine enter (N := 28) Try.func82 rfl Try.ntmps82 rfl ?_; intro a hA; dsimp only [sl0, Nat.reduceAdd] at hA)
  repeat' (first | (first | (refine GT ?_ ?_ <;> intro hg <;> clear hA a <;> intro a hA <;> (first | exact FA | replace hg := of_decide_eq_true hg | replace hg := of_decide_eq_false hg | skip)) | (refine QT ?_; clear hA a; intro a hA) | (first | (refine BT ?_; clear hA hH; rintro _ w ⟨bN, rfl, hH⟩ a hA) | (refine LT ?_; clear hA hH; rintro _ w ⟨oN, rfl, hH⟩ a hA) | (refine AT ?_; clear hA; rintro _ w ⟨oN, cN, rfl, hH2⟩ a hA; clear hH; have hH := (hH2 _ (by (repeat constructor))).tail; clear hH2) | (refine S0T ?_; clear hH; rintro _ w hH) )) | ((first | refine CT ?_ | (refine DT ?_ ?_ <;> intro hc <;> try (exfalso; omega))) <;> repeat' refine CT ?_) | (first | (refine DSK ?_; clear hA a; intro a hA) | (first | (refine DLT ?_; clear hA hH; rintro _ w ⟨oN, rfl, hH⟩; refine ⟨STT, ?_⟩; intro a hA) | (refine DAT ?_; clear hA; rintro _ w ⟨oN, cN, rfl, hH2⟩; clear hH; have hH := (hH2 _ (by (repeat constructor))).tail; clear hH2; refine ⟨STT, ?_⟩; intro a hA))) )
  rw [(nil_wo l z).1] at hH
  refine wp_lpj (S := Nat × Option Addr × Nat) (fun p a w => p.1 ≤ l.length ∧ HS w0 noM [own 3 1 p.2.1 (wo (l.take p.1) z).length p.2.2 (flat encN (wo (l.take p.1) z))] w ∧ Sl 28 [(0, .slice o l.length c), (1, .int .i64 z), (5, .slice p.2.1 (wo (l.take p.1) z).length p.2.2), (6, .int .i64 p.1)] a) (fun p => l.length - p.1)
    (fun a w => ∃ o' c', HS w0 noM [own 3 1 o' (wo l z).length c' (flat encN (wo l z))] w ∧ Sl 28 [(5, .slice o' (wo l z).length c')] a) (0, oN, 0) ⟨Nat.zero_le _, by dsimp only; rw [(nil_wo l z).2]; exact hH, by dsimp only; rw [(nil_wo l z).2]; exact (hA.sub (by (repeat (first | exact trivial | refine ⟨rfl, ?_⟩))))⟩ ?_ ?_
  · clear hA hH
    rintro ⟨i, o', c'⟩ a w ⟨hi, hH, hA⟩
    dsimp only at hi hH hA
    by_cases hlt : i < l.length
    rotate_left
    · obtain rfl : i = l.length := by omega
      rw [List.take_length] at hH hA
      repeat' (first | (first | (refine GT ?_ ?_ <;> intro hg <;> clear hA a <;> intro a hA <;> (first | exact FA | replace hg := of_decide_eq_true hg | replace hg := of_decide_eq_false hg | skip)) | (refine QT ?_; clear hA a; intro a hA) | (first | (refine BT ?_; clear hA hH; rintro _ w ⟨bN, rfl, hH⟩ a hA) | (refine LT ?_; clear hA hH; rintro _ w ⟨oN, rfl, hH⟩ a hA) | (refine AT ?_; clear hA; rintro _ w ⟨oN, cN, rfl, hH2⟩ a hA; clear hH; have hH := (hH2 _ (by (repeat constructor))).tail; clear hH2) | (refine S0T ?_; clear hH; rintro _ w hH) )) | ((first | refine CT ?_ | (refine DT ?_ ?_ <;> intro hc <;> try (exfalso; omega))) <;> repeat' refine CT ?_) | (first | (refine DSK ?_; clear hA a; intro a hA) | (first | (refine DLT ?_; clear hA hH; rintro _ w ⟨oN, rfl, hH⟩; refine ⟨STT, ?_⟩; intro a hA) | (refine DAT ?_; clear hA; rintro _ w ⟨oN, cN, rfl, hH2⟩; clear hH; have hH := (hH2 _ (by (repeat constructor))).tail; clear hH2; refine ⟨STT, ?_⟩; intro a hA))) )
      exact ⟨o', c', hH, (hA.sub (by (repeat (first | exact trivial | refine ⟨rfl, ?_⟩))))⟩
    obtain ⟨x, hx⟩ : ∃ x, l[i]? = some x := ⟨_, List.getElem?_eq_getElem hlt⟩
    have hcx := encN_at hx
    have hw := wo_snoc (z := z) hx
    have hwl : (wo (l.take i) z).length ≤ 1048576 := by have := @wo_le (l.take i) z; rw [List.length_take] at this; omega
    by_cases hxz : (x : Int) ≠ z
    · rw [if_pos hxz] at hw
      have hl1 : (wo (l.take i) z).length + 1 = (wo (l.take (i + 1)) z).length := by rw [hw, List.length_append]; rfl
      repeat' (first | (first | (refine GT ?_ ?_ <;> intro hg <;> clear hA a <;> intro a hA <;> (first | exact FA | replace hg := of_decide_eq_true hg | replace hg := of_decide_eq_false hg | skip)) | (refine QT ?_; clear hA a; intro a hA) | (first | (refine BT ?_; clear hA hH; rintro _ w ⟨bN, rfl, hH⟩ a hA) | (refine LT ?_; clear hA hH; rintro _ w ⟨oN, rfl, hH⟩ a hA) | (refine AT ?_; clear hA; rintro _ w ⟨oN, cN, rfl, hH2⟩ a hA; clear hH; have hH := (hH2 _ (by (repeat constructor))).tail; clear hH2) | (refine S0T ?_; clear hH; rintro _ w hH) )) | ((first | refine CT ?_ | (refine DT ?_ ?_ <;> intro hc <;> try (exfalso; omega))) <;> repeat' refine CT ?_) | (first | (refine DSK ?_; clear hA a; intro a hA) | (first | (refine DLT ?_; clear hA hH; rintro _ w ⟨oN, rfl, hH⟩; refine ⟨STT, ?_⟩; intro a hA) | (refine DAT ?_; clear hA; rintro _ w ⟨oN, cN, rfl, hH2⟩; clear hH; have hH := (hH2 _ (by (repeat constructor))).tail; clear hH2; refine ⟨STT, ?_⟩; intro a hA))) )
      rw [snocN, ← hw, hl1] at hH
      rw [hl1] at hA
      exact ⟨(i + 1, oN, cN), ⟨hlt, hH, (hA.sub (by (repeat (first | exact trivial | refine ⟨rfl, ?_⟩))))⟩, by show l.length - (i + 1) < l.length - i; omega⟩
    · rw [if_neg hxz] at hw
      rw [← hw] at hH hA
      repeat' (first | (first | (refine GT ?_ ?_ <;> intro hg <;> clear hA a <;> intro a hA <;> (first | exact FA | replace hg := of_decide_eq_true hg | replace hg := of_decide_eq_false hg | skip)) | (refine QT ?_; clear hA a; intro a hA) | (first | (refine BT ?_; clear hA hH; rintro _ w ⟨bN, rfl, hH⟩ a hA) | (refine LT ?_; clear hA hH; rintro _ w ⟨oN, rfl, hH⟩ a hA) | (refine AT ?_; clear hA; rintro _ w ⟨oN, cN, rfl, hH2⟩ a hA; clear hH; have hH := (hH2 _ (by (repeat constructor))).tail; clear hH2) | (refine S0T ?_; clear hH; rintro _ w hH) )) | ((first | refine CT ?_ | (refine DT ?_ ?_ <;> intro hc <;> try (exfalso; omega))) <;> repeat' refine CT ?_) | (first | (refine DSK ?_; clear hA a; intro a hA) | (first | (refine DLT ?_; clear hA hH; rintro _ w ⟨oN, rfl, hH⟩; refine ⟨STT, ?_⟩; intro a hA) | (refine DAT ?_; clear hA; rintro _ w ⟨oN, cN, rfl, hH2⟩; clear hH; have hH := (hH2 _ (by (repeat constructor))).tail; clear hH2; refine ⟨STT, ?_⟩; intro a hA))) )
      exact ⟨(i + 1, o', c'), ⟨hlt, hH, (hA.sub (by (repeat (first | exact trivial | refine ⟨rfl, ?_⟩))))⟩, by show l.length - (i + 1) < l.length - i; omega⟩
  clear hA hH
  rintro a w ⟨o', c', hH, hA⟩
  repeat' (first | (first | (refine GT ?_ ?_ <;> intro hg <;> clear hA a <;> intro a hA <;> (first | exact FA | replace hg := of_decide_eq_true hg | replace hg := of_decide_eq_false hg | skip)) | (refine QT ?_; clear hA a; intro a hA) | (first | (refine BT ?_; clear hA hH; rintro _ w ⟨bN, rfl, hH⟩ a hA) | (refine LT ?_; clear hA hH; rintro _ w ⟨oN, rfl, hH⟩ a hA) | (refine AT ?_; clear hA; rintro _ w ⟨oN, cN, rfl, hH2⟩ a hA; clear hH; have hH := (hH2 _ (by (repeat constructor))).tail; clear hH2) | (refine S0T ?_; clear hH; rintro _ w hH) )) | ((first | refine CT ?_ | (refine DT ?_ ?_ <;> intro hc <;> try (exfalso; omega))) <;> repeat' refine CT ?_) | (first | (refine DSK ?_; clear hA a; intro a hA) | (first | (refine DLT ?_; clear hA hH; rintro _ w ⟨oN, rfl, hH⟩; refine ⟨STT, ?_⟩; intro a hA) | (refine DAT ?_; clear hA; rintro _ w ⟨oN, cN, rfl, hH2⟩; clear hH; have hH := (hH2 _ (by (repeat constructor))).tail; clear hH2; refine ⟨STT, ?_⟩; intro a hA))) )
  exact rt1 (.inl rfl) rfl hA rfl ⟨o', c', rfl, hH⟩

theorem dwhite_spec (w0 : World) (bd b2 N : Nat) (s : GS) (z : Int) (hok : GOk N s) (hG : GdR w0 bd b2 s) (hR : RfR w0 b2 N s.L) : Ret Try.prog 84 #[.pointer (some (bat bd 0)), .int .i64 z] w0 (fun v w => v = .bool (whiteZ s z) ∧ Kp w0 noM w) := by
  have hH : HS w0 noM [] w0 := HS.init w0 noM
  obtain ⟨q, hq⟩ := hG
  obtain ⟨hd, c0, c1, c2, c3, c4, rG, rB⟩ := hq
  have hGl := hd.Gle hok
  have hBl := hd.Ble hok
  have hn2 := hok.n2
  have hlen := hok.lay.len
  have hf := find_neg (L := s.L) (z := z)
  (refine enter (N := 30) Try.func84 rfl Try.ntmps84 rfl ?_; intro a hA; dsimp only [sl0, Nat.reduceAdd] at hA)
  repeat' (first | (first | (refine GT ?_ ?_ <;> intro hg <;> clear hA a <;> intro a hA <;> (first | exact FA | replace hg := of_decide_eq_true hg | replace hg := of_decide_eq_false hg | skip)) | (refine QT ?_; clear hA a; intro a hA) | (first | (refine BT ?_; clear hA hH; rintro _ w ⟨bN, rfl, hH⟩ a hA) | (refine LT ?_; clear hA hH; rintro _ w ⟨oN, rfl, hH⟩ a hA) | (refine AT ?_; clear hA; rintro _ w ⟨oN, cN, rfl, hH2⟩ a hA; clear hH; have hH := (hH2 _ (by (repeat constructor))).tail; clear hH2) | (refine S0T ?_; clear hH; rintro _ w hH) )) | ((first | refine CT ?_ | (refine DT ?_ ?_ <;> intro hc <;> try (exfalso; omega))) <;> repeat' refine CT ?_) | (first | (refine DSK ?_; clear hA a; intro a hA) | (first | (refine DLT ?_; clear hA hH; rintro _ w ⟨oN, rfl, hH⟩; refine ⟨STT, ?_⟩; intro a hA) | (refine DAT ?_; clear hA; rintro _ w ⟨oN, cN, rfl, hH2⟩; clear hH; have hH := (hH2 _ (by (repeat constructor))).tail; clear hH2; refine ⟨STT, ?_⟩; intro a hA))) )
  (refine st_op hA rfl rfl (by decide) (op_call rfl rfl rfl (rfind_spec _ b2 N s.L z (by omega) (hR.keep hH.kp))) ?_; clear hA; rintro _ w ⟨rfl, hk⟩ a hA; replace hH := hH.keep hk; clear hk)
  cases hi : isA s.L z with
  | false =>
    have hlt := hf.2 hi
    have hw : whiteZ s z = false := by unfold whiteZ; rw [hi]; rfl
    repeat' (first | (first | (refine GT ?_ ?_ <;> intro hg <;> clear hA a <;> intro a hA <;> (first | exact FA | replace hg := of_decide_eq_true hg | replace hg := of_decide_eq_false hg | skip)) | (refine QT ?_; clear hA a; intro a hA) | (first | (refine BT ?_; clear hA hH; rintro _ w ⟨bN, rfl, hH⟩ a hA) | (refine LT ?_; clear hA hH; rintro _ w ⟨oN, rfl, hH⟩ a hA) | (refine AT ?_; clear hA; rintro _ w ⟨oN, cN, rfl, hH2⟩ a hA; clear hH; have hH := (hH2 _ (by (repeat constructor))).tail; clear hH2) | (refine S0T ?_; clear hH; rintro _ w hH) )) | ((first | refine CT ?_ | (refine DT ?_ ?_ <;> intro hc <;> try (exfalso; omega))) <;> repeat' refine CT ?_) | (first | (refine DSK ?_; clear hA a; intro a hA) | (first | (refine DLT ?_; clear hA hH; rintro _ w ⟨oN, rfl, hH⟩; refine ⟨STT, ?_⟩; intro a hA) | (refine DAT ?_; clear hA; rintro _ w ⟨oN, cN, rfl, hH2⟩; clear hH; have hH := (hH2 _ (by (repeat constructor))).tail; clear hH2; refine ⟨STT, ?_⟩; intro a hA))) )
    exact rt1 (.inl rfl) rfl hA rfl ⟨by rw [hw], hH.kp⟩
  | true =>
    have hge : ¬ findI s.L z < 0 := fun h => by rw [hf.1 h] at hi; cases hi
    obtain ⟨x, hx, rfl⟩ := isA_obj hi
    have hw : whiteZ s (x.a : Int) = (col s x.a == 0) := by unfold whiteZ; rw [hi, Int.toNat_natCast]; rfl
    rw [hw]
    have hc3 := hok.c3 x.a
    rcases (by omega : col s x.a = 0 ∨ col s x.a = 1 ∨ col s x.a = 2) with hc | hc | hc
    · have i1 := inL_f (l := q.G) (a := x.a) (fun hm => by have := (hd.mG _).1 hm; omega)
      have i2 := inL_f (l := q.B) (a := x.a) (fun hm => by have := (hd.mB _).1 hm; omega)
      repeat' (first | (first | (refine GT ?_ ?_ <;> intro hg <;> clear hA a <;> intro a hA <;> (first | exact FA | replace hg := of_decide_eq_true hg | replace hg := of_decide_eq_false hg | skip)) | (refine QT ?_; clear hA a; intro a hA) | (first | (refine BT ?_; clear hA hH; rintro _ w ⟨bN, rfl, hH⟩ a hA) | (refine LT ?_; clear hA hH; rintro _ w ⟨oN, rfl, hH⟩ a hA) | (refine AT ?_; clear hA; rintro _ w ⟨oN, cN, rfl, hH2⟩ a hA; clear hH; have hH := (hH2 _ (by (repeat constructor))).tail; clear hH2) | (refine S0T ?_; clear hH; rintro _ w hH) | ((refine st_op hA rfl rfl (by decide) (op_call rfl rfl rfl (in_spec _ q.oG q.cG q.G x.a (hH.rd rG id) (by omega))) ?_; clear hA; rintro _ w ⟨rfl, hk⟩ a hA; replace hH := hH.keep hk; clear hk); rw [i1] at hA) | ((refine st_op hA rfl rfl (by decide) (op_call rfl rfl rfl (in_spec _ q.oB q.cB q.B x.a (hH.rd rB id) (by omega))) ?_; clear hA; rintro _ w ⟨rfl, hk⟩ a hA; replace hH := hH.keep hk; clear hk); rw [i2] at hA))) | ((first | refine CT ?_ | (refine DT ?_ ?_ <;> intro hc <;> try (exfalso; omega))) <;> repeat' refine CT ?_) | (first | (refine DSK ?_; clear hA a; intro a hA) | (first | (refine DLT ?_; clear hA hH; rintro _ w ⟨oN, rfl, hH⟩; refine ⟨STT, ?_⟩; intro a hA) | (refine DAT ?_; clear hA; rintro _ w ⟨oN, cN, rfl, hH2⟩; clear hH; have hH := (hH2 _ (by (repeat constructor))).tail; clear hH2; refine ⟨STT, ?_⟩; intro a hA))) )
      exact rt1 (.inl rfl) rfl hA rfl ⟨by rw [hc]; rfl, hH.kp⟩
    · have i1 := inL_nat.2 ((hd.mG x.a).2 hc)
      repeat' (first | (first | (refine GT ?_ ?_ <;> intro hg <;> clear hA a <;> intro a hA <;> (first | exact FA | replace hg := of_decide_eq_true hg | replace hg := of_decide_eq_false hg | skip)) | (refine QT ?_; clear hA a; intro a hA) | (first | (refine BT ?_; clear hA hH; rintro _ w ⟨bN, rfl, hH⟩ a hA) | (refine LT ?_; clear hA hH; rintro _ w ⟨oN, rfl, hH⟩ a hA) | (refine AT ?_; clear hA; rintro _ w ⟨oN, cN, rfl, hH2⟩ a hA; clear hH; have hH := (hH2 _ (by (repeat constructor))).tail; clear hH2) | (refine S0T ?_; clear hH; rintro _ w hH) | ((refine st_op hA rfl rfl (by decide) (op_call rfl rfl rfl (in_spec _ q.oG q.cG q.G x.a (hH.rd rG id) (by omega))) ?_; clear hA; rintro _ w ⟨rfl, hk⟩ a hA; replace hH := hH.keep hk; clear hk); rw [i1] at hA))) | ((first | refine CT ?_ | (refine DT ?_ ?_ <;> intro hc <;> try (exfalso; omega))) <;> repeat' refine CT ?_) | (first | (refine DSK ?_; clear hA a; intro a hA) | (first | (refine DLT ?_; clear hA hH; rintro _ w ⟨oN, rfl, hH⟩; refine ⟨STT, ?_⟩; intro a hA) | (refine DAT ?_; clear hA; rintro _ w ⟨oN, cN, rfl, hH2⟩; clear hH; have hH := (hH2 _ (by (repeat constructor))).tail; clear hH2; refine ⟨STT, ?_⟩; intro a hA))) )
      exact rt1 (.inl rfl) rfl hA rfl ⟨by rw [hc]; rfl, hH.kp⟩
    · have i1 := inL_f (l := q.G) (a := x.a) (fun hm => by have := (hd.mG _).1 hm; omega)
      have i2 := inL_nat.2 ((hd.mB x.a).2 hc)
      repeat' (first | (first | (refine GT ?_ ?_ <;> intro hg <;> clear hA a <;> intro a hA <;> (first | exact FA | replace hg := of_decide_eq_true hg | replace hg := of_decide_eq_false hg | skip)) | (refine QT ?_; clear hA a; intro a hA) | (first | (refine BT ?_; clear hA hH; rintro _ w ⟨bN, rfl, hH⟩ a hA) | (refine LT ?_; clear hA hH; rintro _ w ⟨oN, rfl, hH⟩ a hA) | (refine AT ?_; clear hA; rintro _ w ⟨oN, cN, rfl, hH2⟩ a hA; clear hH; have hH := (hH2 _ (by (repeat constructor))).tail; clear hH2) | (refine S0T ?_; clear hH; rintro _ w hH) | ((refine st_op hA rfl rfl (by decide) (op_call rfl rfl rfl (in_spec _ q.oG q.cG q.G x.a (hH.rd rG id) (by omega))) ?_; clear hA; rintro _ w ⟨rfl, hk⟩ a hA; replace hH := hH.keep hk; clear hk); rw [i1] at hA) | ((refine st_op hA rfl rfl (by decide) (op_call rfl rfl rfl (in_spec _ q.oB q.cB q.B x.a (hH.rd rB id) (by omega))) ?_; clear hA; rintro _ w ⟨rfl, hk⟩ a hA; replace hH := hH.keep hk; clear hk); rw [i2] at hA))) | ((first | refine CT ?_ | (refine DT ?_ ?_ <;> intro hc <;> try (exfalso; omega))) <;> repeat' refine CT ?_) | (first | (refine DSK ?_; clear hA a; intro a hA) | (first | (refine DLT ?_; clear hA hH; rintro _ w ⟨oN, rfl, hH⟩; refine ⟨STT, ?_⟩; intro a hA) | (refine DAT ?_; clear hA; rintro _ w ⟨oN, cN, rfl, hH2⟩; clear hH; have hH := (hH2 _ (by (repeat constructor))).tail; clear hH2; refine ⟨STT, ?_⟩; intro a hA))) )
      exact rt1 (.inl rfl) rfl hA rfl ⟨by rw [hc]; rfl, hH.kp⟩
end Go.Proofs.Ytdfhajdejlhamaa
namespace Go.Proofs.Ytdfhajdejlhamaa
open Go Go.Fw
set_option linter.unusedVariables false
theorem begin_no {s : GS} (h : ¬ s.ph = 0) (roots : List Int) : beginG s roots = (9, s) := if_neg h
theorem begin_yes {s : GS} (h : s.ph = 0) (roots : List Int) : beginG s roots = (0, roots.foldl shadeG { s with ph := 1 }) := if_pos h
theorem shade_ph (s : GS) (x : Int) : (shadeG s x).ph = s.ph := by unfold shadeG; split <;> rfl
theorem shade_pl (s : GS) (x : Int) : (shadeG s x).pl = s.pl := by unfold shadeG; split <;> rfl
section
variable {w0 w : World} {M : Nat → Prop} {H : List It} {bd b2 : Nat} {s : GS}
theorem dcl_h (hm : gdI bd b2 s ∈ H) : Cl (HS w0 M H) (bat bd 0) (.pointer (some (bat b2 0))) := fun w hH => let ⟨_, hq⟩ := gd_readM hH hm; hq.c0
theorem dcl_p (hm : gdI bd b2 s ∈ H) : Cl (HS w0 M H) (bat bd 1) (.int .i64 s.ph) := fun w hH => let ⟨_, hq⟩ := gd_readM hH hm; hq.c1
theorem dcl_l (hm : gdI bd b2 s ∈ H) : Cl (HS w0 M H) (bat bd 4) (.int .i64 s.pl) := fun w hH => let ⟨_, hq⟩ := gd_readM hH hm; hq.c4
end
theorem reach0 {L : List Ob} {x : Int} (h : numW x = true ∨ ¬ isO L (addrN x)) : reachA L x = 0 := by
  unfold reachA
  rw [if_neg]
  rintro ⟨h1, h2⟩
  rcases h with h | h
  · rw [h] at h1; cases h1
  · exact h h2
theorem reach1 {L : List Ob} {x : Int} (h1 : numW x = false) (h2 : isO L (addrN x)) : reachA L x = addrN x := if_pos ⟨h1, h2⟩
theorem dr_new {N : Nat} {L : List Ob} : Dr ⟨0, L, List.replicate N 0, [], 0⟩ [] [] := by
  have hc : ∀ a, col ⟨0, L, List.replicate N 0, [], 0⟩ a = 0 := fun a => by
    unfold col
    rw [List.getD_eq_getElem?_getD, List.getElem?_replicate]
    split <;> rfl
  exact ⟨List.nodup_nil, fun a => by rw [hc]; simp, List.nodup_nil, fun a => by rw [hc]; simp⟩
theorem gd_new {w0 w : World} {M : Nat → Prop} {H : List It} {bd b2 N : Nat} {L : List Ob} (h : HS w0 M (own 3 1 none 0 0 [] :: own 3 1 none 0 0 [] :: cb bd 48 [.pointer (some (bat b2 0)), .int .i64 0, .slice none 0 0, .slice none 0 0, .int .i64 0] :: H) w) : HS w0 M (gdI bd b2 ⟨0, L, List.replicate N 0, [], 0⟩ :: H) w := by
  refine gd_shut ⟨[], [], none, 0, none, 0⟩ dr_new ?_
  exact h.perm (by show List.Perm _ ([cb bd 48 [.pointer (some (bat b2 0)), .int .i64 0, .slice none 0 0, .slice none 0 0, .int .i64 0], own 3 1 none 0 0 [], own 3 1 none 0 0 []] ++ H); exact (List.perm_middle (l₁ := [own 3 1 none 0 0 [], own 3 1 none 0 0 []])))
set_option maxRecDepth 10000 attribute [local irreducible] Code.wp wpList Calls Ex Op1 sat bat blk cb own Go.Fw.mp Go.Fw.mpO Go.Fw.mpI Go.Fw.mpE Go.Fw.itr HS Rd Ret wkD Hp Cl Cls Exit.then Exit.inBlock Exit.noGoto bodyPost Go.Fw.flat wk2 Go.Fw.all Go.Fw.owns wpOp
attribute [local irreducible] hdA gaps isA nextA allocA freeA sizeA kindA setA getA whiteZ numW addrW shadeG gcI hpI stepG beginG writeG allocG mu rfI inL findI objA reachA wo gdI

theorem dshade_spec (w0 : World) (M : Nat → Prop) (bd b2 N : Nat) (s : GS) (x : Int) (hok : GOk N s) (hU : U x) (hrf : ∀ H' w', HS w0 M H' w' → RfR w' b2 N s.L) (hH : HS w0 M [gdI bd b2 s] w0) :
    Ret Try.prog 74 #[.pointer (some (bat bd 0)), .int .u64 x] w0 (fun v w => HS w0 M [gdI bd b2 (shadeG s x)] w) := by
  have hn2 := hok.n2
  have hlen := hok.lay.len
  (refine enter (N := 28) Try.func74 rfl Try.ntmps74 rfl ?_; intro a hA; dsimp only [sl0, Nat.reduceAdd] at hA)
  repeat' (first | (first | (refine GT ?_ ?_ <;> intro hg <;> clear hA a <;> intro a hA <;> (first | exact FA | replace hg := of_decide_eq_true hg | replace hg := of_decide_eq_false hg | skip)) | ((first | apply st_ex hA hH rfl rfl (by decide) | apply dr_ex hA rfl rfl rfl (by decide) | apply dr_exp hA rfl rfl rfl (by decide) | apply dr_ex3 hA hH rfl rfl rfl (by decide)); (first | (apply ex_load; rfl; exact dcl_h MEMT)); clear hA a; intro a hA) | (refine QT ?_; clear hA a; intro a hA) | (first | (refine BT ?_; clear hA hH; rintro _ w ⟨bN, rfl, hH⟩ a hA) | (refine LT ?_; clear hA hH; rintro _ w ⟨oN, rfl, hH⟩ a hA) | (refine AT ?_; clear hA; rintro _ w ⟨oN, cN, rfl, hH2⟩ a hA; clear hH; have hH := (hH2 _ (by (repeat constructor))).tail; clear hH2) | (refine S0T ?_; clear hH; rintro _ w hH) )) | ((first | refine CT ?_ | (refine DT ?_ ?_ <;> intro hc <;> try (exfalso; omega))) <;> repeat' refine CT ?_) | (first | (refine DSK ?_; clear hA a; intro a hA) | (first | (refine DLT ?_; clear hA hH; rintro _ w ⟨oN, rfl, hH⟩; refine ⟨STT, ?_⟩; intro a hA) | (refine DAT ?_; clear hA; rintro _ w ⟨oN, cN, rfl, hH2⟩; clear hH; have hH := (hH2 _ (by (repeat constructor))).tail; clear hH2; refine ⟨STT, ?_⟩; intro a hA))) )
  (refine st_op hA rfl rfl (by decide) (op_call rfl rfl rfl (reaches_spec _ b2 N s.L x hU (by omega) (hrf _ _ hH))) ?_; clear hA; rintro _ w ⟨rfl, hk⟩ a hA; replace hH := hH.keep hk; clear hk)
  by_cases hc : numW x = true ∨ ¬ isO s.L (addrN x)
  · rw [reach0 hc] at hA
    have hs : shadeG s x = s := shade_no (by rcases hc with h | h; exact .inl h; exact .inr (.inl h))
    rw [hs]
    repeat' (first | (first | (refine GT ?_ ?_ <;> intro hg <;> clear hA a <;> intro a hA <;> (first | exact FA | replace hg := of_decide_eq_true hg | replace hg := of_decide_eq_false hg | skip)) | (refine QT ?_; clear hA a; intro a hA) | (first | (refine BT ?_; clear hA hH; rintro _ w ⟨bN, rfl, hH⟩ a hA) | (refine LT ?_; clear hA hH; rintro _ w ⟨oN, rfl, hH⟩ a hA) | (refine AT ?_; clear hA; rintro _ w ⟨oN, cN, rfl, hH2⟩ a hA; clear hH; have hH := (hH2 _ (by (repeat constructor))).tail; clear hH2) | (refine S0T ?_; clear hH; rintro _ w hH) )) | ((first | refine CT ?_ | (refine DT ?_ ?_ <;> intro hc <;> try (exfalso; omega))) <;> repeat' refine CT ?_) | (first | (refine DSK ?_; clear hA a; intro a hA) | (first | (refine DLT ?_; clear hA hH; rintro _ w ⟨oN, rfl, hH⟩; refine ⟨STT, ?_⟩; intro a hA) | (refine DAT ?_; clear hA; rintro _ w ⟨oN, cN, rfl, hH2⟩; clear hH; have hH := (hH2 _ (by (repeat constructor))).tail; clear hH2; refine ⟨STT, ?_⟩; intro a hA))) )
    exact rt0 (.inr rfl) rfl hA hH
  obtain ⟨hn, hO⟩ : numW x = false ∧ isO s.L (addrN x) := by
    refine ⟨?_, Decidable.not_not.1 fun h => hc (.inr h)⟩
    cases h : numW x with
    | false => rfl
    | true => exact absurd (.inl h) hc
  rw [reach1 hn hO] at hA
  have hlt := hok.lt hO
  have hwz : whiteZ s ((addrN x : Nat) : Int) = (col s (addrN x) == 0) := by unfold whiteZ; rw [isO_iff.2 hO, Int.toNat_natCast]; rfl
  by_cases hc0 : col s (addrN x) = 0
  rotate_left
  · have hs : shadeG s x = s := shade_no (.inr (.inr hc0))
    have hwf : whiteZ s ((addrN x : Nat) : Int) = false := by rw [hwz]; simpa using hc0
    rw [hs]
    repeat' (first | (first | (refine GT ?_ ?_ <;> intro hg <;> clear hA a <;> intro a hA <;> (first | exact FA | replace hg := of_decide_eq_true hg | replace hg := of_decide_eq_false hg | skip)) | ((first | apply st_ex hA hH rfl rfl (by decide) | apply dr_ex hA rfl rfl rfl (by decide) | apply dr_exp hA rfl rfl rfl (by decide) | apply dr_ex3 hA hH rfl rfl rfl (by decide)); (first | (apply ex_load; rfl; exact dcl_h MEMT)); clear hA a; intro a hA) | (refine QT ?_; clear hA a; intro a hA) | (first | (refine BT ?_; clear hA hH; rintro _ w ⟨bN, rfl, hH⟩ a hA) | (refine LT ?_; clear hA hH; rintro _ w ⟨oN, rfl, hH⟩ a hA) | (refine AT ?_; clear hA; rintro _ w ⟨oN, cN, rfl, hH2⟩ a hA; clear hH; have hH := (hH2 _ (by (repeat constructor))).tail; clear hH2) | (refine S0T ?_; clear hH; rintro _ w hH) | ((refine st_op hA rfl rfl (by decide) (op_call rfl rfl rfl (dwhite_spec _ bd b2 N s ((addrN x : Nat) : Int) hok (gd_readM hH (by exact MEMT)) (hrf _ _ hH))) ?_; clear hA; rintro _ w ⟨rfl, hk⟩ a hA; replace hH := hH.keep hk; clear hk); rw [hwf] at hA))) | ((first | refine CT ?_ | (refine DT ?_ ?_ <;> intro hc <;> try (exfalso; omega))) <;> repeat' refine CT ?_) | (first | (refine DSK ?_; clear hA a; intro a hA) | (first | (refine DLT ?_; clear hA hH; rintro _ w ⟨oN, rfl, hH⟩; refine ⟨STT, ?_⟩; intro a hA) | (refine DAT ?_; clear hA; rintro _ w ⟨oN, cN, rfl, hH2⟩; clear hH; have hH := (hH2 _ (by (repeat constructor))).tail; clear hH2; refine ⟨STT, ?_⟩; intro a hA))) )
    exact rt0 (.inr rfl) rfl hA hH
  have hwt : whiteZ s ((addrN x : Nat) : Int) = true := by rw [hwz, hc0]; rfl
  repeat' (first | (first | (refine GT ?_ ?_ <;> intro hg <;> clear hA a <;> intro a hA <;> (first | exact FA | replace hg := of_decide_eq_true hg | replace hg := of_decide_eq_false hg | skip)) | ((first | apply st_ex hA hH rfl rfl (by decide) | apply dr_ex hA rfl rfl rfl (by decide) | apply dr_exp hA rfl rfl rfl (by decide) | apply dr_ex3 hA hH rfl rfl rfl (by decide)); (first | (apply ex_load; rfl; exact dcl_h MEMT)); clear hA a; intro a hA) | (refine QT ?_; clear hA a; intro a hA) | (first | (refine BT ?_; clear hA hH; rintro _ w ⟨bN, rfl, hH⟩ a hA) | (refine LT ?_; clear hA hH; rintro _ w ⟨oN, rfl, hH⟩ a hA) | (refine AT ?_; clear hA; rintro _ w ⟨oN, cN, rfl, hH2⟩ a hA; clear hH; have hH := (hH2 _ (by (repeat constructor))).tail; clear hH2) | (refine S0T ?_; clear hH; rintro _ w hH) | ((refine st_op hA rfl rfl (by decide) (op_call rfl rfl rfl (dwhite_spec _ bd b2 N s ((addrN x : Nat) : Int) hok (gd_readM hH (by exact MEMT)) (hrf _ _ hH))) ?_; clear hA; rintro _ w ⟨rfl, hk⟩ a hA; replace hH := hH.keep hk; clear hk); rw [hwt] at hA; obtain ⟨q, hd, hH2⟩ := gd_open hH; clear hH; have hH := hH2; clear hH2; unfold gdQ at hH; have hGl := hd.Gle hok) | (apply st_op0 hA rfl rfl; apply op_store_fld; rfl; rfl; rfl; exact hH; (repeat constructor); (repeat rfl); clear hH; rintro _ w hH))) | ((first | refine CT ?_ | (refine DT ?_ ?_ <;> intro hc <;> try (exfalso; omega))) <;> repeat' refine CT ?_) | (first | (refine DSK ?_; clear hA a; intro a hA) | (first | (refine DLT ?_; clear hA hH; rintro _ w ⟨oN, rfl, hH⟩; refine ⟨STT, ?_⟩; intro a hA) | (refine DAT ?_; clear hA; rintro _ w ⟨oN, cN, rfl, hH2⟩; clear hH; have hH := (hH2 _ (by (repeat constructor))).tail; clear hH2; refine ⟨STT, ?_⟩; intro a hA))) )
  refine rt0 (.inr rfl) rfl hA ?_
  have hd2 := hd.shade hok hn hO hc0
  have hl1 : q.G.length + 1 = (q.G ++ [addrN x]).length := by rw [List.length_append]; rfl
  rw [snocN, hl1] at hH
  have hH2 : HS w0 M [gdI bd b2 (shadeG s x)] w := by
    refine gd_shut ⟨q.G ++ [addrN x], q.B, oN, cN, q.oB, q.cB⟩ hd2 ?_
    unfold gdQ
    rw [shade_ph, shade_pl]
    exact hH.perm (by (repeat (first | exact List.Perm.nil | refine perm_pick 0 rfl ?_ | refine perm_pick 1 rfl ?_ | refine perm_pick 2 rfl ?_ | refine perm_pick 3 rfl ?_ | refine perm_pick 4 rfl ?_ | refine perm_pick 5 rfl ?_ | refine perm_pick 6 rfl ?_ | refine perm_pick 7 rfl ?_ | refine perm_pick 8 rfl ?_ | refine perm_pick 9 rfl ?_ | refine perm_pick 10 rfl ?_ | refine perm_pick 11 rfl ?_)))
  exact hH2
theorem dshade_f {w0 w : World} {M : Nat → Prop} {H : List It} {bd b2 N : Nat} {s : GS} {L : List Ob} {x : Int} (hH : HS w0 M (gdI bd b2 s :: rfI b2 N L :: H) w) (hok : GOk N s) (hU : U x) (hL : s.L = L) :
    Ret Try.prog 74 #[.pointer (some (bat bd 0)), .int .u64 x] w (fun v w' => HS w0 M (gdI bd b2 (shadeG s x) :: rfI b2 N L :: H) w') := by
  subst hL
  obtain ⟨Mc, h1, -, h2⟩ := HS.frame (Hc := [gdI bd b2 s]) (Hf := rfI b2 N s.L :: H) hH
  exact (dshade_spec w Mc bd b2 N s x hok hU (fun H' w' hw => rf_readM (h2 _ _ hw) (List.mem_append_right _ (.head _))) h1).mono fun v w' h3 => h2 _ _ h3
/-- where the document's heap is only looked at -/
theorem dshade_g {w0 w : World} {M : Nat → Prop} {H : List It} {bd b2 N : Nat} {s : GS} {L : List Ob} {x : Int} (hH : HS w0 M (gdI bd b2 s :: H) w) (hrf : ∀ H' w', HS w0 M H' w' → RfR w' b2 N L) (hok : GOk N s) (hU : U x) (hL : s.L = L) :
    Ret Try.prog 74 #[.pointer (some (bat bd 0)), .int .u64 x] w (fun v w' => HS w0 M (gdI bd b2 (shadeG s x) :: H) w') := by
  subst hL
  obtain ⟨Mc, h1, -, h2⟩ := HS.frame (Hc := [gdI bd b2 s]) (Hf := H) hH
  exact (dshade_spec w Mc bd b2 N s x hok hU (fun H' w' hw => hrf _ _ (h2 _ _ hw)) h1).mono fun v w' h3 => h2 _ _ h3

set_option maxHeartbeats 4000000 in
theorem dbegin_spec (w0 : World) (M : Nat → Prop) (bd b2 N : Nat) (s : GS) (roots : List Int) (oR : Option Addr) (cR : Nat) (hok : GOk N s) (hU : ∀ x ∈ roots, U x) (hl : roots.length ≤ 140737488355328) (hrd : ∀ H' w', HS w0 M H' w' → Rd w' oR (flat encW roots)) (hH : HS w0 M [gdI bd b2 s, rfI b2 N s.L] w0) :
    Ret Try.prog 48 #[.pointer (some (bat bd 0)), .slice oR roots.length cR] w0 (fun v w => v = .int .i64 (beginG s roots).1 ∧ HS w0 M [gdI bd b2 (beginG s roots).2, rfI b2 N s.L] w) := by
  have hspR : Sp oR roots.length := (hrd _ _ hH).sp (sz := 1) (flat_length encW_len _) (by omega)
  (refine enter (N := 26) Try.func48 rfl Try.ntmps48 rfl ?_; intro a hA; dsimp only [sl0, Nat.reduceAdd] at hA)
  by_cases hp : s.ph = 0
  rotate_left
  · have e := begin_no hp roots
    rw [e]
    repeat' (first | (first | (refine GT ?_ ?_ <;> intro hg <;> clear hA a <;> intro a hA <;> (first | exact FA | replace hg := of_decide_eq_true hg | replace hg := of_decide_eq_false hg | skip)) | ((first | apply st_ex hA hH rfl rfl (by decide) | apply dr_ex hA rfl rfl rfl (by decide) | apply dr_exp hA rfl rfl rfl (by decide) | apply dr_ex3 hA hH rfl rfl rfl (by decide)); (first | (apply ex_load; rfl; exact dcl_p MEMT)); clear hA a; intro a hA) | (refine QT ?_; clear hA a; intro a hA) | (first | (refine BT ?_; clear hA hH; rintro _ w ⟨bN, rfl, hH⟩ a hA) | (refine LT ?_; clear hA hH; rintro _ w ⟨oN, rfl, hH⟩ a hA) | (refine AT ?_; clear hA; rintro _ w ⟨oN, cN, rfl, hH2⟩ a hA; clear hH; have hH := (hH2 _ (by (repeat constructor))).tail; clear hH2) | (refine S0T ?_; clear hH; rintro _ w hH) )) | ((first | refine CT ?_ | (refine DT ?_ ?_ <;> intro hc <;> try (exfalso; omega))) <;> repeat' refine CT ?_) | (first | (refine DSK ?_; clear hA a; intro a hA) | (first | (refine DLT ?_; clear hA hH; rintro _ w ⟨oN, rfl, hH⟩; refine ⟨STT, ?_⟩; intro a hA) | (refine DAT ?_; clear hA; rintro _ w ⟨oN, cN, rfl, hH2⟩; clear hH; have hH := (hH2 _ (by (repeat constructor))).tail; clear hH2; refine ⟨STT, ?_⟩; intro a hA))) )
    exact rt1 (.inl rfl) rfl hA rfl ⟨rfl, hH⟩
  have e := begin_yes hp roots
  rw [e]
  have hok1 := begin_pre hok hp
  repeat' (first | (first | (refine GT ?_ ?_ <;> intro hg <;> clear hA a <;> intro a hA <;> (first | exact FA | replace hg := of_decide_eq_true hg | replace hg := of_decide_eq_false hg | skip)) | ((first | apply st_ex hA hH rfl rfl (by decide) | apply dr_ex hA rfl rfl rfl (by decide) | apply dr_exp hA rfl rfl rfl (by decide) | apply dr_ex3 hA hH rfl rfl rfl (by decide)); (first | (apply ex_load; rfl; exact dcl_p MEMT)); clear hA a; intro a hA) | (refine QT ?_; clear hA a; intro a hA) | (first | (refine BT ?_; clear hA hH; rintro _ w ⟨bN, rfl, hH⟩ a hA) | (refine LT ?_; clear hA hH; rintro _ w ⟨oN, rfl, hH⟩ a hA) | (refine AT ?_; clear hA; rintro _ w ⟨oN, cN, rfl, hH2⟩ a hA; clear hH; have hH := (hH2 _ (by (repeat constructor))).tail; clear hH2) | (refine S0T ?_; clear hH; rintro _ w hH) )) | ((first | refine CT ?_ | (refine DT ?_ ?_ <;> intro hc <;> try (exfalso; omega))) <;> repeat' refine CT ?_) | (first | (refine DSK ?_; clear hA a; intro a hA) | (first | (refine DLT ?_; clear hA hH; rintro _ w ⟨oN, rfl, hH⟩; refine ⟨STT, ?_⟩; intro a hA) | (refine DAT ?_; clear hA; rintro _ w ⟨oN, cN, rfl, hH2⟩; clear hH; have hH := (hH2 _ (by (repeat constructor))).tail; clear hH2; refine ⟨STT, ?_⟩; intro a hA))) )
  obtain ⟨q, hd, hH2⟩ := gd_open hH
  clear hH
  have hH := hH2
  clear hH2
  unfold gdQ at hH
  repeat' (first | (first | (refine GT ?_ ?_ <;> intro hg <;> clear hA a <;> intro a hA <;> (first | exact FA | replace hg := of_decide_eq_true hg | replace hg := of_decide_eq_false hg | skip)) | (refine QT ?_; clear hA a; intro a hA) | (first | (refine BT ?_; clear hA hH; rintro _ w ⟨bN, rfl, hH⟩ a hA) | (refine LT ?_; clear hA hH; rintro _ w ⟨oN, rfl, hH⟩ a hA) | (refine AT ?_; clear hA; rintro _ w ⟨oN, cN, rfl, hH2⟩ a hA; clear hH; have hH := (hH2 _ (by (repeat constructor))).tail; clear hH2) | (refine S0T ?_; clear hH; rintro _ w hH) | (apply st_op0 hA rfl rfl; apply op_store_fld; rfl; rfl; rfl; exact hH; (repeat constructor); (repeat rfl); clear hH; rintro _ w hH))) | ((first | refine CT ?_ | (refine DT ?_ ?_ <;> intro hc <;> try (exfalso; omega))) <;> repeat' refine CT ?_) | (first | (refine DSK ?_; clear hA a; intro a hA) | (first | (refine DLT ?_; clear hA hH; rintro _ w ⟨oN, rfl, hH⟩; refine ⟨STT, ?_⟩; intro a hA) | (refine DAT ?_; clear hA; rintro _ w ⟨oN, cN, rfl, hH2⟩; clear hH; have hH := (hH2 _ (by (repeat constructor))).tail; clear hH2; refine ⟨STT, ?_⟩; intro a hA))) )
  replace hH : HS w0 M [gdI bd b2 { s with ph := 1 }, rfI b2 N s.L] w := gd_shut q (hd.same fun _ => rfl) hH
  refine wp_lpj (S := Nat) (fun i a w => i ≤ roots.length ∧ HS w0 M [gdI bd b2 ((roots.take i).foldl shadeG { s with ph := 1 }), rfI b2 N s.L] w ∧ Sl 26 [(0, .pointer (some (bat bd 0))), (1, .slice oR roots.length cR), (5, .int .i64 i)] a) (fun i => roots.length - i)
    (fun a w => HS w0 M [gdI bd b2 (roots.foldl shadeG { s with ph := 1 }), rfI b2 N s.L] w ∧ Sl 26 [] a) 0 ⟨Nat.zero_le _, hH, (hA.sub (by (repeat (first | exact trivial | refine ⟨rfl, ?_⟩))))⟩ ?_ ?_
  rotate_left
  · clear hA hH
    rintro a w ⟨hH, hA⟩
    repeat' (first | (first | (refine GT ?_ ?_ <;> intro hg <;> clear hA a <;> intro a hA <;> (first | exact FA | replace hg := of_decide_eq_true hg | replace hg := of_decide_eq_false hg | skip)) | (refine QT ?_; clear hA a; intro a hA) | (first | (refine BT ?_; clear hA hH; rintro _ w ⟨bN, rfl, hH⟩ a hA) | (refine LT ?_; clear hA hH; rintro _ w ⟨oN, rfl, hH⟩ a hA) | (refine AT ?_; clear hA; rintro _ w ⟨oN, cN, rfl, hH2⟩ a hA; clear hH; have hH := (hH2 _ (by (repeat constructor))).tail; clear hH2) | (refine S0T ?_; clear hH; rintro _ w hH) )) | ((first | refine CT ?_ | (refine DT ?_ ?_ <;> intro hc <;> try (exfalso; omega))) <;> repeat' refine CT ?_) | (first | (refine DSK ?_; clear hA a; intro a hA) | (first | (refine DLT ?_; clear hA hH; rintro _ w ⟨oN, rfl, hH⟩; refine ⟨STT, ?_⟩; intro a hA) | (refine DAT ?_; clear hA; rintro _ w ⟨oN, cN, rfl, hH2⟩; clear hH; have hH := (hH2 _ (by (repeat constructor))).tail; clear hH2; refine ⟨STT, ?_⟩; intro a hA))) )
    exact rt1 (.inl rfl) rfl hA rfl ⟨rfl, hH⟩
  clear hA hH
  rintro i a w ⟨hi, hH, hA⟩
  by_cases hlt : i < roots.length
  rotate_left
  · rw [List.take_of_length_le (by omega)] at hH
    repeat' (first | (first | (refine GT ?_ ?_ <;> intro hg <;> clear hA a <;> intro a hA <;> (first | exact FA | replace hg := of_decide_eq_true hg | replace hg := of_decide_eq_false hg | skip)) | (refine QT ?_; clear hA a; intro a hA) | (first | (refine BT ?_; clear hA hH; rintro _ w ⟨bN, rfl, hH⟩ a hA) | (refine LT ?_; clear hA hH; rintro _ w ⟨oN, rfl, hH⟩ a hA) | (refine AT ?_; clear hA; rintro _ w ⟨oN, cN, rfl, hH2⟩ a hA; clear hH; have hH := (hH2 _ (by (repeat constructor))).tail; clear hH2) | (refine S0T ?_; clear hH; rintro _ w hH) )) | ((first | refine CT ?_ | (refine DT ?_ ?_ <;> intro hc <;> try (exfalso; omega))) <;> repeat' refine CT ?_) | (first | (refine DSK ?_; clear hA a; intro a hA) | (first | (refine DLT ?_; clear hA hH; rintro _ w ⟨oN, rfl, hH⟩; refine ⟨STT, ?_⟩; intro a hA) | (refine DAT ?_; clear hA; rintro _ w ⟨oN, cN, rfl, hH2⟩; clear hH; have hH := (hH2 _ (by (repeat constructor))).tail; clear hH2; refine ⟨STT, ?_⟩; intro a hA))) )
    exact ⟨hH, (hA.sub (by (repeat (first | exact trivial | refine ⟨rfl, ?_⟩))))⟩
  obtain ⟨x, hx⟩ : ∃ x, roots[i]? = some x := ⟨_, List.getElem?_eq_getElem hlt⟩
  have hcx : (flat encW roots)[i * 1]? = some (.int .u64 x) := flat_get0 encW_len hx rfl
  obtain ⟨g1, g2, g3, g4, g5⟩ := shades_ok (s := { s with ph := 1 }) rfl hok1 (roots.take i)
  have hst : (roots.take (i + 1)).foldl shadeG { s with ph := 1 } = shadeG ((roots.take i).foldl shadeG { s with ph := 1 }) x := by
    rw [List.take_add_one, hx]
    simp
  have hclx : Cl (HS w0 M [gdI bd b2 ((roots.take i).foldl shadeG { s with ph := 1 }), rfI b2 N s.L]) (sat oR (i * 1)) (.int .u64 x) := cl_rdH hrd hcx
  repeat' (first | (first | (refine GT ?_ ?_ <;> intro hg <;> clear hA a <;> intro a hA <;> (first | exact FA | replace hg := of_decide_eq_true hg | replace hg := of_decide_eq_false hg | skip)) | ((first | apply st_ex hA hH rfl rfl (by decide) | apply dr_ex hA rfl rfl rfl (by decide) | apply dr_exp hA rfl rfl rfl (by decide) | apply dr_ex3 hA hH rfl rfl rfl (by decide)); (first | (apply ex_load; rfl; exact hclx)); clear hA a; intro a hA) | (refine QT ?_; clear hA a; intro a hA) | (first | (refine BT ?_; clear hA hH; rintro _ w ⟨bN, rfl, hH⟩ a hA) | (refine LT ?_; clear hA hH; rintro _ w ⟨oN, rfl, hH⟩ a hA) | (refine AT ?_; clear hA; rintro _ w ⟨oN, cN, rfl, hH2⟩ a hA; clear hH; have hH := (hH2 _ (by (repeat constructor))).tail; clear hH2) | (refine S0T ?_; clear hH; rintro _ w hH) )) | ((first | refine CT ?_ | (refine DT ?_ ?_ <;> intro hc <;> try (exfalso; omega))) <;> repeat' refine CT ?_) | (first | (refine DSK ?_; clear hA a; intro a hA) | (first | (refine DLT ?_; clear hA hH; rintro _ w ⟨oN, rfl, hH⟩; refine ⟨STT, ?_⟩; intro a hA) | (refine DAT ?_; clear hA; rintro _ w ⟨oN, cN, rfl, hH2⟩; clear hH; have hH := (hH2 _ (by (repeat constructor))).tail; clear hH2; refine ⟨STT, ?_⟩; intro a hA))) )
  (refine st_op hA rfl rfl (by decide) (op_call rfl rfl rfl (dshade_f hH g1 (hU x (List.mem_of_getElem? hx)) g2)) ?_; clear hA hH; rintro _ w hH a hA)
  rw [← hst] at hH
  repeat' (first | (first | (refine GT ?_ ?_ <;> intro hg <;> clear hA a <;> intro a hA <;> (first | exact FA | replace hg := of_decide_eq_true hg | replace hg := of_decide_eq_false hg | skip)) | (refine QT ?_; clear hA a; intro a hA) | (first | (refine BT ?_; clear hA hH; rintro _ w ⟨bN, rfl, hH⟩ a hA) | (refine LT ?_; clear hA hH; rintro _ w ⟨oN, rfl, hH⟩ a hA) | (refine AT ?_; clear hA; rintro _ w ⟨oN, cN, rfl, hH2⟩ a hA; clear hH; have hH := (hH2 _ (by (repeat constructor))).tail; clear hH2) | (refine S0T ?_; clear hH; rintro _ w hH) )) | ((first | refine CT ?_ | (refine DT ?_ ?_ <;> intro hc <;> try (exfalso; omega))) <;> repeat' refine CT ?_) | (first | (refine DSK ?_; clear hA a; intro a hA) | (first | (refine DLT ?_; clear hA hH; rintro _ w ⟨oN, rfl, hH⟩; refine ⟨STT, ?_⟩; intro a hA) | (refine DAT ?_; clear hA; rintro _ w ⟨oN, cN, rfl, hH2⟩; clear hH; have hH := (hH2 _ (by (repeat constructor))).tail; clear hH2; refine ⟨STT, ?_⟩; intro a hA))) )
  exact ⟨i + 1, ⟨hlt, hH, (hA.sub (by (repeat (first | exact trivial | refine ⟨rfl, ?_⟩))))⟩, by omega⟩
theorem dbegin_f {w0 w : World} {M : Nat → Prop} {H : List It} {bd b2 N : Nat} {s : GS} {L : List Ob} {roots : List Int} {oR : Option Addr} {cR : Nat} (hH : HS w0 M (gdI bd b2 s :: rfI b2 N L :: H) w) (hok : GOk N s) (hU : ∀ x ∈ roots, U x) (hl : roots.length ≤ 140737488355328) (hrd : ∀ Hc w', HS w0 M (Hc ++ H) w' → Rd w' oR (flat encW roots)) (hL : s.L = L) :
    Ret Try.prog 48 #[.pointer (some (bat bd 0)), .slice oR roots.length cR] w (fun v w' => v = .int .i64 (beginG s roots).1 ∧ HS w0 M (gdI bd b2 (beginG s roots).2 :: rfI b2 N (beginG s roots).2.L :: H) w') := by
  subst hL
  rw [begin_L hok]
  obtain ⟨Mc, h1, -, h2⟩ := HS.frame (Hc := [gdI bd b2 s, rfI b2 N s.L]) (Hf := H) hH
  exact (dbegin_spec w Mc bd b2 N s roots oR cR hok hU hl (fun H' w' hw => hrd _ _ (h2 _ _ hw)) h1).mono fun v w' ⟨h3, h4⟩ => ⟨h3, h2 _ _ h4⟩

theorem dnew_f {w0 w : World} {M : Nat → Prop} {H : List It} {b2 N : Nat} {L : List Ob} (hH : HS w0 M H w) :
    Ret Try.prog 42 #[.pointer (some (bat b2 0))] w (fun v w' => ∃ bd, v = .pointer (some (bat bd 0)) ∧ HS w0 M (gdI bd b2 ⟨0, L, List.replicate N 0, [], 0⟩ :: H) w') := by
  (refine enter (N := 6) Try.func42 rfl Try.ntmps42 rfl ?_; intro a hA; dsimp only [sl0, Nat.reduceAdd] at hA)
  repeat' (first | (first | (refine GT ?_ ?_ <;> intro hg <;> clear hA a <;> intro a hA <;> (first | exact FA | replace hg := of_decide_eq_true hg | replace hg := of_decide_eq_false hg | skip)) | ((first | apply st_ex hA hH rfl rfl (by decide) | apply dr_ex hA rfl rfl rfl (by decide) | apply dr_exp hA rfl rfl rfl (by decide) | apply dr_ex3 hA hH rfl rfl rfl (by decide)); (first | (apply ex_build_p #[.pointer (some (bat b2 0)), .int .i64 0, .slice none 0 0, .slice none 0 0, .int .i64 0]; rfl; (repeat (first | (intro _ h; exact absurd h (List.not_mem_nil)) | (refine List.forall_mem_cons.2 ⟨one_cell_of _ _, ?_⟩))); rfl)); clear hA a; intro a hA) | (refine QT ?_; clear hA a; intro a hA) | (first | (refine BT ?_; clear hA hH; rintro _ w ⟨bN, rfl, hH⟩ a hA) | (refine LT ?_; clear hA hH; rintro _ w ⟨oN, rfl, hH⟩ a hA) | (refine AT ?_; clear hA; rintro _ w ⟨oN, cN, rfl, hH2⟩ a hA; clear hH; have hH := (hH2 _ (by (repeat constructor))).tail; clear hH2) | (refine S0T ?_; clear hH; rintro _ w hH) )) | ((first | refine CT ?_ | (refine DT ?_ ?_ <;> intro hc <;> try (exfalso; omega))) <;> repeat' refine CT ?_) | (first | (refine DSK ?_; clear hA a; intro a hA) | (first | (refine DLT ?_; clear hA hH; rintro _ w ⟨oN, rfl, hH⟩; refine ⟨STT, ?_⟩; intro a hA) | (refine DAT ?_; clear hA; rintro _ w ⟨oN, cN, rfl, hH2⟩; clear hH; have hH := (hH2 _ (by (repeat constructor))).tail; clear hH2; refine ⟨STT, ?_⟩; intro a hA))) )
  replace hH := (hH.nil_own 3 1).nil_own 3 1
  exact rt1 (.inl rfl) rfl hA rfl ⟨bN, rfl, gd_new hH⟩
end Go.Proofs.Ytdfhajdejlhamaa
