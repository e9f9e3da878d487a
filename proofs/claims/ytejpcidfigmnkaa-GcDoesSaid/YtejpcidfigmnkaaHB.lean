/-
  Walks over what Go's library gives the heap, second part: slices.BinarySearchFunc, Insert. Conditions: none.
-/
import Derived.Test.YtejpcidfigmnkaaHA
namespace Go.Proofs.Ytejpcidfigmnkaa
open Go Go.Fw
set_option linter.unusedVariables false
/-- rising runs, within a heap -/
def Rising (fr : List (Int × Int)) : Prop := (∀ r ∈ fr, 0 ≤ r.1 ∧ r.1 ≤ 65536) ∧ ∀ (k k' : Nat) (r r' : Int × Int), k < k' → fr[k]? = some r → fr[k']? = some r' → r.1 < r'.1
/-- where a run would stand -/
def Pos (fr : List (Int × Int)) (t : Int) (i : Nat) : Prop := i ≤ fr.length ∧ (∀ (k : Nat) (r : Int × Int), k < i → fr[k]? = some r → r.1 < t) ∧ ∀ (k : Nat) (r : Int × Int), i ≤ k → fr[k]? = some r → t ≤ r.1
theorem u64_i {m : Int} (h0 : 0 ≤ m) (h : m < 18446744073709551616) : IntKind.u64.wrap m = m := by
  have e : IntKind.u64.wrap m = m % (2 ^ 64 : Int) := rfl
  rw [e]; omega
theorem shr1 (n : Nat) : shrK .u64 (n : Int) 1 = ((n / 2 : Nat) : Int) := by
  have e : shrK .u64 (n : Int) 1 = (n : Int).fdiv 2 := rfl
  rw [e, Int.fdiv_eq_ediv_of_nonneg _ (by decide)]
  omega
set_option maxRecDepth 10000 attribute [local irreducible] Code.wp wpList Calls Ex Op1 sat bat blk cb own Go.Fw.mp Go.Fw.mpO Go.Fw.mpI Go.Fw.mpE Go.Fw.itr HS Rd Ret wkD Hp Cl Cls Exit.then Exit.inBlock Exit.noGoto bodyPost Go.Fw.flat wk2 Go.Fw.all Go.Fw.owns wpOp
attribute [local irreducible] shrK

theorem cmp_spec (w0 : World) (a n t : Int) (h : -100000 ≤ a ∧ a ≤ 100000) (h' : -100000 ≤ t ∧ t ≤ 100000) :
    Ret Try.prog 66 #[.agg #[.int .i64 a, .int .i64 n], .int .i64 t] w0 (fun v w => v = .int .i64 (a - t) ∧ Kp w0 noM w) := by
  have hH : HS w0 noM [] w0 := HS.init w0 noM
  (refine enter (N := 9) Try.func66 rfl Try.ntmps66 rfl ?_; intro a hA; dsimp only [sl0, Nat.reduceAdd] at hA)
  repeat' (first | (first | (refine GT ?_ ?_ <;> intro hg <;> clear hA a <;> intro a hA <;> (first | exact FA | replace hg := of_decide_eq_true hg | replace hg := of_decide_eq_false hg | skip)) | (refine QT0 ?_; clear hA a; intro a hA) | (first | (refine BT ?_; clear hA hH; rintro _ w ⟨bN, rfl, hH⟩ a hA) | (refine LT ?_; clear hA hH; rintro _ w ⟨oN, rfl, hH⟩ a hA) | (refine AT ?_; clear hA; rintro _ w ⟨oN, cN, rfl, hH2⟩ a hA; clear hH; have hH := (hH2 _ (by (repeat constructor))).tail; clear hH2) | (refine S0T ?_; clear hH; rintro _ w hH) )) | ((first | refine CT ?_ | (refine DT ?_ ?_ <;> intro hc <;> try (exfalso; omega))) <;> repeat' refine CT ?_) | (first | (refine DSK ?_; clear hA a; intro a hA) | (first | (refine DLT ?_; clear hA hH; rintro _ w ⟨oN, rfl, hH⟩; refine ⟨STT, ?_⟩; intro a hA) | (refine DAT ?_; clear hA; rintro _ w ⟨oN, cN, rfl, hH2⟩; clear hH; have hH := (hH2 _ (by (repeat constructor))).tail; clear hH2; refine ⟨STT, ?_⟩; intro a hA))) )
  exact rt1 (.inl rfl) rfl hA rfl ⟨rfl, hH.kp⟩

theorem search_spec (w0 : World) (o : Option Addr) (c : Nat) (fr : List (Int × Int)) (t : Int) (hr : Rd w0 o (flat encP fr)) (hl : fr.length ≤ 1048576) (hs : Rising fr) (ht : -1 ≤ t ∧ t ≤ 65536) :
    Ret Try.prog 65 #[.slice o fr.length c, .int .i64 t, .func (.func 66) #[] #[]] w0
      (fun v w => (∃ (i : Nat) (b : Bool), v = .tuple #[.int .i64 i, .bool b] ∧ Pos fr t i) ∧ Kp w0 noM w) := by
  have hH : HS w0 noM [] w0 := HS.init w0 noM
  have hsp : Sp o fr.length := hr.sp (sz := 2) (flat_length encP_len fr) (by omega)
  (refine enter (N := 49) Try.func65 rfl Try.ntmps65 rfl ?_; intro a hA; dsimp only [sl0, Nat.reduceAdd] at hA)
  repeat' (first | (first | (refine GT ?_ ?_ <;> intro hg <;> clear hA a <;> intro a hA <;> (first | exact FA | replace hg := of_decide_eq_true hg | replace hg := of_decide_eq_false hg | skip)) | (refine QT0 ?_; clear hA a; intro a hA) | (first | (refine BT ?_; clear hA hH; rintro _ w ⟨bN, rfl, hH⟩ a hA) | (refine LT ?_; clear hA hH; rintro _ w ⟨oN, rfl, hH⟩ a hA) | (refine AT ?_; clear hA; rintro _ w ⟨oN, cN, rfl, hH2⟩ a hA; clear hH; have hH := (hH2 _ (by (repeat constructor))).tail; clear hH2) | (refine S0T ?_; clear hH; rintro _ w hH) )) | ((first | refine CT ?_ | (refine DT ?_ ?_ <;> intro hc <;> try (exfalso; omega))) <;> repeat' refine CT ?_) | (first | (refine DSK ?_; clear hA a; intro a hA) | (first | (refine DLT ?_; clear hA hH; rintro _ w ⟨oN, rfl, hH⟩; refine ⟨STT, ?_⟩; intro a hA) | (refine DAT ?_; clear hA; rintro _ w ⟨oN, cN, rfl, hH2⟩; clear hH; have hH := (hH2 _ (by (repeat constructor))).tail; clear hH2; refine ⟨STT, ?_⟩; intro a hA))) )
  refine wp_lp (S := Nat × Nat) (fun s a w => (s.1 ≤ s.2 ∧ s.2 ≤ fr.length ∧ (∀ (k : Nat) (r : Int × Int), k < s.1 → fr[k]? = some r → r.1 < t) ∧ ∀ (k : Nat) (r : Int × Int), s.2 ≤ k → fr[k]? = some r → t ≤ r.1) ∧ HS w0 noM [] w ∧
      Sl 49 [(0, .slice o fr.length c), (1, .int .i64 t), (2, .func (.func 66) #[] #[]), (8, .int .i64 fr.length), (9, .int .i64 s.1), (10, .int .i64 s.2)] a)
    (fun s => s.2 - s.1) (0, fr.length) ⟨⟨Nat.zero_le _, Nat.le_refl _, fun k r h => absurd h (Nat.not_lt_zero _), fun k r h hk => by have := (List.getElem?_eq_some_iff.1 hk).1; dsimp only at h; omega⟩, hH, (hA.sub (by (repeat (first | exact trivial | refine ⟨rfl, ?_⟩))))⟩ ?_
  clear hA hH
  rintro ⟨i, j⟩ a w ⟨⟨h1, h2, h3, h4⟩, hH, hA⟩
  dsimp only at h1 h2 h3 h4 hH hA
  by_cases hlt : i < j
  · obtain ⟨m, hm⟩ : ∃ m, (i + j) / 2 = m := ⟨_, rfl⟩
    have hmi : i ≤ m ∧ m < j := by omega
    obtain ⟨⟨ra, rn⟩, hx⟩ : ∃ x, fr[m]? = some x := ⟨_, List.getElem?_eq_getElem (by omega)⟩
    have hb := hs.1 _ (List.mem_of_getElem? hx)
    have hc1 : IntKind.u64.wrap ((i : Int) + j) = ((i + j : Nat) : Int) := by rw [u64_i (by omega) (by omega)]; omega
    have hc2 : shrK .u64 ((i + j : Nat) : Int) 1 = (m : Int) := by rw [shr1, hm]
    have hc3 : IntKind.i64.wrap (m : Int) = m := wrap_i64 ⟨by omega, by omega⟩
    repeat' (first | (first | (refine GT ?_ ?_ <;> intro hg <;> clear hA a <;> intro a hA <;> (first | exact FA | replace hg := of_decide_eq_true hg | replace hg := of_decide_eq_false hg | skip)) | ((first | apply st_ex hA hH rfl rfl (by decide) | apply dr_ex hA rfl rfl rfl (by decide) | apply dr_exp hA rfl rfl rfl (by decide) | apply dr_ex3 hA hH rfl rfl rfl (by decide)); (first | (apply ex_convert (v := ((i + j : Nat) : Int)); rfl; exact hc1) | (apply ex_convert (v := (m : Int)); rfl; exact hc3) | (apply ex_shr (v := (m : Int)); rfl; rfl; decide; exact hc2) | (apply ex_load_st (vs := [.int .i64 ra, .int .i64 rn]); rfl; rfl; exact cls_rd hr id (encPa hx))); clear hA a; intro a hA) | (refine QT0 ?_; clear hA a; intro a hA) | (first | (refine BT ?_; clear hA hH; rintro _ w ⟨bN, rfl, hH⟩ a hA) | (refine LT ?_; clear hA hH; rintro _ w ⟨oN, rfl, hH⟩ a hA) | (refine AT ?_; clear hA; rintro _ w ⟨oN, cN, rfl, hH2⟩ a hA; clear hH; have hH := (hH2 _ (by (repeat constructor))).tail; clear hH2) | (refine S0T ?_; clear hH; rintro _ w hH) )) | ((first | refine CT ?_ | (refine DT ?_ ?_ <;> intro hc <;> try (exfalso; omega))) <;> repeat' refine CT ?_) | (first | (refine DSK ?_; clear hA a; intro a hA) | (first | (refine DLT ?_; clear hA hH; rintro _ w ⟨oN, rfl, hH⟩; refine ⟨STT, ?_⟩; intro a hA) | (refine DAT ?_; clear hA; rintro _ w ⟨oN, cN, rfl, hH2⟩; clear hH; have hH := (hH2 _ (by (repeat constructor))).tail; clear hH2; refine ⟨STT, ?_⟩; intro a hA))) )
    (refine st_op hA rfl rfl (by decide) (op_call rfl rfl rfl (cmp_spec _ ra rn t (by dsimp only at hb; omega) (by omega))) ?_; clear hA; rintro _ w ⟨rfl, hk⟩ a hA)
    replace hH := hH.keep hk
    repeat' (first | (first | (refine GT ?_ ?_ <;> intro hg <;> clear hA a <;> intro a hA <;> (first | exact FA | replace hg := of_decide_eq_true hg | replace hg := of_decide_eq_false hg | skip)) | (refine QT0 ?_; clear hA a; intro a hA) | (first | (refine BT ?_; clear hA hH; rintro _ w ⟨bN, rfl, hH⟩ a hA) | (refine LT ?_; clear hA hH; rintro _ w ⟨oN, rfl, hH⟩ a hA) | (refine AT ?_; clear hA; rintro _ w ⟨oN, cN, rfl, hH2⟩ a hA; clear hH; have hH := (hH2 _ (by (repeat constructor))).tail; clear hH2) | (refine S0T ?_; clear hH; rintro _ w hH) )) | ((first | refine CT ?_ | (refine DT ?_ ?_ <;> intro hc <;> try (exfalso; omega))) <;> repeat' refine CT ?_) | (first | (refine DSK ?_; clear hA a; intro a hA) | (first | (refine DLT ?_; clear hA hH; rintro _ w ⟨oN, rfl, hH⟩; refine ⟨STT, ?_⟩; intro a hA) | (refine DAT ?_; clear hA; rintro _ w ⟨oN, cN, rfl, hH2⟩; clear hH; have hH := (hH2 _ (by (repeat constructor))).tail; clear hH2; refine ⟨STT, ?_⟩; intro a hA))) )
    · refine ⟨(m + 1, j), ⟨⟨by show m + 1 ≤ j; omega, h2, fun k r hk' hkr => ?_, h4⟩, hH, (hA.sub (by (repeat (first | exact trivial | refine ⟨rfl, ?_⟩))))⟩, by show j - (m + 1) < j - i; omega⟩
      rcases Nat.lt_or_ge k m with h | h
      · have := hs.2 k m r _ h hkr hx
        dsimp only at this
        omega
      · obtain rfl : k = m := by have : k < m + 1 := hk'; omega
        rw [hx] at hkr
        obtain rfl := Option.some.inj hkr
        dsimp only
        omega
    · refine ⟨(i, m), ⟨⟨hmi.1, by show m ≤ fr.length; omega, h3, fun k r hk' hkr => ?_⟩, hH, (hA.sub (by (repeat (first | exact trivial | refine ⟨rfl, ?_⟩))))⟩, by show m - i < j - i; omega⟩
      rcases Nat.lt_or_ge m k with h | h
      · have := hs.2 m k _ r h hx hkr
        dsimp only at this
        omega
      · obtain rfl : k = m := by have : m ≤ k := hk'; omega
        rw [hx] at hkr
        obtain rfl := Option.some.inj hkr
        dsimp only
        omega
  obtain rfl : i = j := by omega
  by_cases hil : i < fr.length
  · obtain ⟨⟨ra, rn⟩, hx⟩ : ∃ x, fr[i]? = some x := ⟨_, List.getElem?_eq_getElem hil⟩
    have hb := hs.1 _ (List.mem_of_getElem? hx)
    repeat' (first | (first | (refine GT ?_ ?_ <;> intro hg <;> clear hA a <;> intro a hA <;> (first | exact FA | replace hg := of_decide_eq_true hg | replace hg := of_decide_eq_false hg | skip)) | ((first | apply st_ex hA hH rfl rfl (by decide) | apply dr_ex hA rfl rfl rfl (by decide) | apply dr_exp hA rfl rfl rfl (by decide) | apply dr_ex3 hA hH rfl rfl rfl (by decide)); (first | (apply ex_load_st (vs := [.int .i64 ra, .int .i64 rn]); rfl; rfl; exact cls_rd hr id (encPa hx))); clear hA a; intro a hA) | (refine QT0 ?_; clear hA a; intro a hA) | (first | (refine BT ?_; clear hA hH; rintro _ w ⟨bN, rfl, hH⟩ a hA) | (refine LT ?_; clear hA hH; rintro _ w ⟨oN, rfl, hH⟩ a hA) | (refine AT ?_; clear hA; rintro _ w ⟨oN, cN, rfl, hH2⟩ a hA; clear hH; have hH := (hH2 _ (by (repeat constructor))).tail; clear hH2) | (refine S0T ?_; clear hH; rintro _ w hH) )) | ((first | refine CT ?_ | (refine DT ?_ ?_ <;> intro hc <;> try (exfalso; omega))) <;> repeat' refine CT ?_) | (first | (refine DSK ?_; clear hA a; intro a hA) | (first | (refine DLT ?_; clear hA hH; rintro _ w ⟨oN, rfl, hH⟩; refine ⟨STT, ?_⟩; intro a hA) | (refine DAT ?_; clear hA; rintro _ w ⟨oN, cN, rfl, hH2⟩; clear hH; have hH := (hH2 _ (by (repeat constructor))).tail; clear hH2; refine ⟨STT, ?_⟩; intro a hA))) )
    (refine st_op hA rfl rfl (by decide) (op_call rfl rfl rfl (cmp_spec _ ra rn t (by dsimp only at hb; omega) (by omega))) ?_; clear hA; rintro _ w ⟨rfl, hk⟩ a hA)
    replace hH := hH.keep hk
    repeat' (first | (first | (refine GT ?_ ?_ <;> intro hg <;> clear hA a <;> intro a hA <;> (first | exact FA | replace hg := of_decide_eq_true hg | replace hg := of_decide_eq_false hg | skip)) | (refine QT0 ?_; clear hA a; intro a hA) | (first | (refine BT ?_; clear hA hH; rintro _ w ⟨bN, rfl, hH⟩ a hA) | (refine LT ?_; clear hA hH; rintro _ w ⟨oN, rfl, hH⟩ a hA) | (refine AT ?_; clear hA; rintro _ w ⟨oN, cN, rfl, hH2⟩ a hA; clear hH; have hH := (hH2 _ (by (repeat constructor))).tail; clear hH2) | (refine S0T ?_; clear hH; rintro _ w hH) )) | ((first | refine CT ?_ | (refine DT ?_ ?_ <;> intro hc <;> try (exfalso; omega))) <;> repeat' refine CT ?_) | (first | (refine DSK ?_; clear hA a; intro a hA) | (first | (refine DLT ?_; clear hA hH; rintro _ w ⟨oN, rfl, hH⟩; refine ⟨STT, ?_⟩; intro a hA) | (refine DAT ?_; clear hA; rintro _ w ⟨oN, cN, rfl, hH2⟩; clear hH; have hH := (hH2 _ (by (repeat constructor))).tail; clear hH2; refine ⟨STT, ?_⟩; intro a hA))) )
    exact rt2 (.inl rfl) rfl hA rfl rfl ⟨⟨i, _, rfl, h2, h3, h4⟩, hH.kp⟩
  · repeat' (first | (first | (refine GT ?_ ?_ <;> intro hg <;> clear hA a <;> intro a hA <;> (first | exact FA | replace hg := of_decide_eq_true hg | replace hg := of_decide_eq_false hg | skip)) | (refine QT0 ?_; clear hA a; intro a hA) | (first | (refine BT ?_; clear hA hH; rintro _ w ⟨bN, rfl, hH⟩ a hA) | (refine LT ?_; clear hA hH; rintro _ w ⟨oN, rfl, hH⟩ a hA) | (refine AT ?_; clear hA; rintro _ w ⟨oN, cN, rfl, hH2⟩ a hA; clear hH; have hH := (hH2 _ (by (repeat constructor))).tail; clear hH2) | (refine S0T ?_; clear hH; rintro _ w hH) )) | ((first | refine CT ?_ | (refine DT ?_ ?_ <;> intro hc <;> try (exfalso; omega))) <;> repeat' refine CT ?_) | (first | (refine DSK ?_; clear hA a; intro a hA) | (first | (refine DLT ?_; clear hA hH; rintro _ w ⟨oN, rfl, hH⟩; refine ⟨STT, ?_⟩; intro a hA) | (refine DAT ?_; clear hA; rintro _ w ⟨oN, cN, rfl, hH2⟩; clear hH; have hH := (hH2 _ (by (repeat constructor))).tail; clear hH2; refine ⟨STT, ?_⟩; intro a hA))) )
    exact rt2 (.inl rfl) rfl hA rfl rfl ⟨⟨i, _, rfl, h2, h3, h4⟩, hH.kp⟩
end Go.Proofs.Ytejpcidfigmnkaa
