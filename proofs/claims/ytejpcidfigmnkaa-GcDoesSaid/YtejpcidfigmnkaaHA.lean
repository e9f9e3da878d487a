/-
  Walks over what Go's library gives the heap: slices.Clone, IndexFunc, Delete, BinarySearchFunc, Insert. Conditions: none.
-/
import Derived.Test.YtejpcidfigmnkaaRows
import Derived.Test.YtejpcidfigmnkaaFacts
import Derived.Test.YtejpcidfigmnkaaFw14
namespace Go.Proofs.Ytejpcidfigmnkaa
open Go Go.Fw
set_option linter.unusedVariables false
theorem encP0 {fr : List (Int × Int)} {i : Nat} {a n : Int} (h : fr[i]? = some (a, n)) : (flat encP fr)[i * 2 + 0]? = some (.int .i64 a) := flat_get encP_len (off := 0) h rfl
theorem encP1 {fr : List (Int × Int)} {i : Nat} {a n : Int} (h : fr[i]? = some (a, n)) : (flat encP fr)[i * 2 + 1]? = some (.int .i64 n) := flat_get encP_len (off := 1) h rfl
theorem encPa {fr : List (Int × Int)} {i : Nat} {a n : Int} (h : fr[i]? = some (a, n)) : ∀ k v, ([.int .i64 a, .int .i64 n] : List Value)[k]? = some v → (flat encP fr)[i * 2 + k]? = some v := flat_all encP_len h
/-- the first run with more than so many cells -/
def FirstFit (fr : List (Int × Int)) (size : Int) (z : Int) : Prop :=
  (z = -1 ∧ ∀ r ∈ fr, ¬ size < r.2) ∨ ∃ (i : Nat) (r : Int × Int), z = i ∧ fr[i]? = some r ∧ size < r.2 ∧ ∀ k r', k < i → fr[k]? = some r' → ¬ size < r'.2
theorem own_nil0 (T sz : Nat) (o : Option Addr) (n c : Nat) {xs : List Value} (h : xs = []) : own T sz o n c [] = own T sz o n c xs := by rw [h]
set_option maxRecDepth 10000 attribute [local irreducible] Code.wp wpList Calls Ex Op1 sat bat blk cb own Go.Fw.mp Go.Fw.mpO Go.Fw.mpI Go.Fw.mpE Go.Fw.itr HS Rd Ret wkD Hp Cl Cls Exit.then Exit.inBlock Exit.noGoto bodyPost Go.Fw.flat wk2 Go.Fw.all Go.Fw.owns wpOp

theorem fits1_spec (w0 : World) (b : Nat) (a n size : Int) (hcz : w0.cell? (bat b 0) = some (.int .i64 size)) :
    Ret Try.prog 59 #[.agg #[.int .i64 a, .int .i64 n], .pointer (some (bat b 0))] w0 (fun v w => v = .bool (decide (size < n)) ∧ Kp w0 noM w) := by
  have hH : HS w0 noM [] w0 := HS.init w0 noM
  (refine enter (N := 8) Try.func59 rfl Try.ntmps59 rfl ?_; intro a hA; dsimp only [sl0, Nat.reduceAdd] at hA)
  repeat' (first | (first | (refine GT ?_ ?_ <;> intro hg <;> clear hA a <;> intro a hA <;> (first | exact FA | replace hg := of_decide_eq_true hg | replace hg := of_decide_eq_false hg | skip)) | ((first | apply st_ex hA hH rfl rfl (by decide) | apply dr_ex hA rfl rfl rfl (by decide) | apply dr_exp hA rfl rfl rfl (by decide) | apply dr_ex3 hA hH rfl rfl rfl (by decide)); (first | (apply ex_load; rfl; exact cl_w hcz id)); clear hA a; intro a hA) | (refine QT0 ?_; clear hA a; intro a hA) | (first | (refine BT ?_; clear hA hH; rintro _ w ⟨bN, rfl, hH⟩ a hA) | (refine LT ?_; clear hA hH; rintro _ w ⟨oN, rfl, hH⟩ a hA) | (refine AT ?_; clear hA; rintro _ w ⟨oN, cN, rfl, hH2⟩ a hA; clear hH; have hH := (hH2 _ (by (repeat constructor))).tail; clear hH2) | (refine S0T ?_; clear hH; rintro _ w hH) )) | ((first | refine CT ?_ | (refine DT ?_ ?_ <;> intro hc <;> try (exfalso; omega))) <;> repeat' refine CT ?_) | (first | (refine DSK ?_; clear hA a; intro a hA) | (first | (refine DLT ?_; clear hA hH; rintro _ w ⟨oN, rfl, hH⟩; refine ⟨STT, ?_⟩; intro a hA) | (refine DAT ?_; clear hA; rintro _ w ⟨oN, cN, rfl, hH2⟩; clear hH; have hH := (hH2 _ (by (repeat constructor))).tail; clear hH2; refine ⟨STT, ?_⟩; intro a hA))) )
  exact rt1 (.inl rfl) rfl hA rfl ⟨rfl, hH.kp⟩

theorem index_spec (w0 : World) (b : Nat) (o : Option Addr) (c : Nat) (fr : List (Int × Int)) (size : Int) (hcz : w0.cell? (bat b 0) = some (.int .i64 size)) (hr : Rd w0 o (flat encP fr)) (hl : fr.length ≤ 1048576) :
    Ret Try.prog 58 #[.slice o fr.length c, .func (.func 59) #[] #[.pointer (some (bat b 0))]] w0
      (fun v w => (∃ z, v = .int .i64 z ∧ FirstFit fr size z) ∧ Kp w0 noM w) := by
  have hH : HS w0 noM [] w0 := HS.init w0 noM
  have hsp : Sp o fr.length := hr.sp (sz := 2) (flat_length encP_len fr) (by omega)
  (refine enter (N := 19) Try.func58 rfl Try.ntmps58 rfl ?_; intro a hA; dsimp only [sl0, Nat.reduceAdd] at hA)
  repeat' (first | (first | (refine GT ?_ ?_ <;> intro hg <;> clear hA a <;> intro a hA <;> (first | exact FA | replace hg := of_decide_eq_true hg | replace hg := of_decide_eq_false hg | skip)) | (refine QT0 ?_; clear hA a; intro a hA) | (first | (refine BT ?_; clear hA hH; rintro _ w ⟨bN, rfl, hH⟩ a hA) | (refine LT ?_; clear hA hH; rintro _ w ⟨oN, rfl, hH⟩ a hA) | (refine AT ?_; clear hA; rintro _ w ⟨oN, cN, rfl, hH2⟩ a hA; clear hH; have hH := (hH2 _ (by (repeat constructor))).tail; clear hH2) | (refine S0T ?_; clear hH; rintro _ w hH) )) | ((first | refine CT ?_ | (refine DT ?_ ?_ <;> intro hc <;> try (exfalso; omega))) <;> repeat' refine CT ?_) | (first | (refine DSK ?_; clear hA a; intro a hA) | (first | (refine DLT ?_; clear hA hH; rintro _ w ⟨oN, rfl, hH⟩; refine ⟨STT, ?_⟩; intro a hA) | (refine DAT ?_; clear hA; rintro _ w ⟨oN, cN, rfl, hH2⟩; clear hH; have hH := (hH2 _ (by (repeat constructor))).tail; clear hH2; refine ⟨STT, ?_⟩; intro a hA))) )
  refine wp_lp (S := Nat) (fun i a w => (i ≤ fr.length ∧ ∀ k r', k < i → fr[k]? = some r' → ¬ size < r'.2) ∧ HS w0 noM [] w ∧ Sl 19 [(0, .slice o fr.length c), (1, .func (.func 59) #[] #[.pointer (some (bat b 0))]), (7, .int .i64 fr.length), (8, .int .i64 i)] a)
    (fun i => fr.length - i) 0 ⟨⟨Nat.zero_le _, fun k x hk => absurd hk (Nat.not_lt_zero _)⟩, hH, (hA.sub (by (repeat (first | exact trivial | refine ⟨rfl, ?_⟩))))⟩ ?_
  clear hA hH
  rintro i a w ⟨⟨hi, hik⟩, hH, hA⟩
  by_cases hlt : i < fr.length
  · obtain ⟨⟨ra, rn⟩, hx⟩ : ∃ x, fr[i]? = some x := ⟨_, List.getElem?_eq_getElem hlt⟩
    repeat' (first | (first | (refine GT ?_ ?_ <;> intro hg <;> clear hA a <;> intro a hA <;> (first | exact FA | replace hg := of_decide_eq_true hg | replace hg := of_decide_eq_false hg | skip)) | ((first | apply st_ex hA hH rfl rfl (by decide) | apply dr_ex hA rfl rfl rfl (by decide) | apply dr_exp hA rfl rfl rfl (by decide) | apply dr_ex3 hA hH rfl rfl rfl (by decide)); (first | (apply ex_load_st (vs := [.int .i64 ra, .int .i64 rn]); rfl; rfl; exact cls_rd hr id (encPa hx))); clear hA a; intro a hA) | (refine QT0 ?_; clear hA a; intro a hA) | (first | (refine BT ?_; clear hA hH; rintro _ w ⟨bN, rfl, hH⟩ a hA) | (refine LT ?_; clear hA hH; rintro _ w ⟨oN, rfl, hH⟩ a hA) | (refine AT ?_; clear hA; rintro _ w ⟨oN, cN, rfl, hH2⟩ a hA; clear hH; have hH := (hH2 _ (by (repeat constructor))).tail; clear hH2) | (refine S0T ?_; clear hH; rintro _ w hH) )) | ((first | refine CT ?_ | (refine DT ?_ ?_ <;> intro hc <;> try (exfalso; omega))) <;> repeat' refine CT ?_) | (first | (refine DSK ?_; clear hA a; intro a hA) | (first | (refine DLT ?_; clear hA hH; rintro _ w ⟨oN, rfl, hH⟩; refine ⟨STT, ?_⟩; intro a hA) | (refine DAT ?_; clear hA; rintro _ w ⟨oN, cN, rfl, hH2⟩; clear hH; have hH := (hH2 _ (by (repeat constructor))).tail; clear hH2; refine ⟨STT, ?_⟩; intro a hA))) )
    (refine st_op hA rfl rfl (by decide) (op_call rfl rfl rfl (fits1_spec _ b ra rn size (hH.cellw hcz id))) ?_; clear hA; rintro _ w ⟨rfl, hk⟩ a hA)
    replace hH := hH.keep hk
    repeat' (first | (first | (refine GT ?_ ?_ <;> intro hg <;> clear hA a <;> intro a hA <;> (first | exact FA | replace hg := of_decide_eq_true hg | replace hg := of_decide_eq_false hg | skip)) | (refine QT0 ?_; clear hA a; intro a hA) | (first | (refine BT ?_; clear hA hH; rintro _ w ⟨bN, rfl, hH⟩ a hA) | (refine LT ?_; clear hA hH; rintro _ w ⟨oN, rfl, hH⟩ a hA) | (refine AT ?_; clear hA; rintro _ w ⟨oN, cN, rfl, hH2⟩ a hA; clear hH; have hH := (hH2 _ (by (repeat constructor))).tail; clear hH2) | (refine S0T ?_; clear hH; rintro _ w hH) )) | ((first | refine CT ?_ | (refine DT ?_ ?_ <;> intro hc <;> try (exfalso; omega))) <;> repeat' refine CT ?_) | (first | (refine DSK ?_; clear hA a; intro a hA) | (first | (refine DLT ?_; clear hA hH; rintro _ w ⟨oN, rfl, hH⟩; refine ⟨STT, ?_⟩; intro a hA) | (refine DAT ?_; clear hA; rintro _ w ⟨oN, cN, rfl, hH2⟩; clear hH; have hH := (hH2 _ (by (repeat constructor))).tail; clear hH2; refine ⟨STT, ?_⟩; intro a hA))) )
    · exact rt1 (.inl rfl) rfl hA rfl ⟨⟨_, rfl, .inr ⟨i, _, rfl, hx, by assumption, hik⟩⟩, hH.kp⟩
    · refine ⟨i + 1, ⟨⟨hlt, fun k y hk hy => ?_⟩, hH, (hA.sub (by (repeat (first | exact trivial | refine ⟨rfl, ?_⟩))))⟩, by omega⟩
      rcases Nat.lt_or_ge k i with h | h
      · exact hik k y h hy
      · obtain rfl : k = i := by omega
        rw [hx] at hy
        obtain rfl := Option.some.inj hy
        assumption
  repeat' (first | (first | (refine GT ?_ ?_ <;> intro hg <;> clear hA a <;> intro a hA <;> (first | exact FA | replace hg := of_decide_eq_true hg | replace hg := of_decide_eq_false hg | skip)) | (refine QT0 ?_; clear hA a; intro a hA) | (first | (refine BT ?_; clear hA hH; rintro _ w ⟨bN, rfl, hH⟩ a hA) | (refine LT ?_; clear hA hH; rintro _ w ⟨oN, rfl, hH⟩ a hA) | (refine AT ?_; clear hA; rintro _ w ⟨oN, cN, rfl, hH2⟩ a hA; clear hH; have hH := (hH2 _ (by (repeat constructor))).tail; clear hH2) | (refine S0T ?_; clear hH; rintro _ w hH) )) | ((first | refine CT ?_ | (refine DT ?_ ?_ <;> intro hc <;> try (exfalso; omega))) <;> repeat' refine CT ?_) | (first | (refine DSK ?_; clear hA a; intro a hA) | (first | (refine DLT ?_; clear hA hH; rintro _ w ⟨oN, rfl, hH⟩; refine ⟨STT, ?_⟩; intro a hA) | (refine DAT ?_; clear hA; rintro _ w ⟨oN, cN, rfl, hH2⟩; clear hH; have hH := (hH2 _ (by (repeat constructor))).tail; clear hH2; refine ⟨STT, ?_⟩; intro a hA))) )
  refine rt1 (.inl rfl) rfl hA rfl ⟨⟨_, rfl, .inl ⟨rfl, fun r hr => ?_⟩⟩, hH.kp⟩
  obtain ⟨k, hk⟩ := List.getElem?_of_mem hr
  have := (List.getElem?_eq_some_iff.1 hk).1
  exact hik k r (by omega) hk

/-- slices.Delete of one run -/
theorem delete_spec (w0 : World) (M : Nat → Prop) (o : Option Addr) (c i : Nat) (fr : List (Int × Int)) (hH : HS w0 M [own 84 2 o fr.length c (flat encP fr)] w0) (hi : i < fr.length) (hl : fr.length ≤ 1048576) :
    Ret Try.prog 60 #[.slice o fr.length c, .int .i64 i, .int .i64 ((i + 1 : Nat) : Int)] w0
      (fun v w => ∃ o' c', v = .slice o' (fr.length - 1) c' ∧ HS w0 M [own 84 2 o' (fr.length - 1) c' (flat encP (fr.eraseIdx i))] w) := by
  have hle := hH.own_le (o := o) (by exact MEMT)
  obtain ⟨b, spare, rfl, h1, h2, h3, h4, hH⟩ := hH.own_block (by omega)
  (refine enter (N := 33) Try.func60 rfl Try.ntmps60 rfl ?_; intro a hA; dsimp only [sl0, Nat.reduceAdd] at hA)
  repeat' (first | (first | (refine GT ?_ ?_ <;> intro hg <;> clear hA a <;> intro a hA <;> (first | exact FA | replace hg := of_decide_eq_true hg | replace hg := of_decide_eq_false hg | skip)) | ((first | apply st_ex hA hH rfl rfl (by decide) | apply dr_ex hA rfl rfl rfl (by decide) | apply dr_exp hA rfl rfl rfl (by decide) | apply dr_ex3 hA hH rfl rfl rfl (by decide)); (first | (apply ex_slice_3 (i := i) (j := i + 1) (k := fr.length); rfl; rfl; rfl; rfl; rfl; rfl; rfl; omega; omega; omega)); clear hA a; intro a hA) | (refine QT0 ?_; clear hA a; intro a hA) | (first | (refine BT ?_; clear hA hH; rintro _ w ⟨bN, rfl, hH⟩ a hA) | (refine LT ?_; clear hA hH; rintro _ w ⟨oN, rfl, hH⟩ a hA) | (refine AT ?_; clear hA; rintro _ w ⟨oN, cN, rfl, hH2⟩ a hA; clear hH; have hH := (hH2 _ (by (repeat constructor))).tail; clear hH2) | (refine S0T ?_; clear hH; rintro _ w hH) )) | ((first | refine CT ?_ | (refine DT ?_ ?_ <;> intro hc <;> try (exfalso; omega))) <;> repeat' refine CT ?_) | (first | (refine DSK ?_; clear hA a; intro a hA) | (first | (refine DLT ?_; clear hA hH; rintro _ w ⟨oN, rfl, hH⟩; refine ⟨STT, ?_⟩; intro a hA) | (refine DAT ?_; clear hA; rintro _ w ⟨oN, cN, rfl, hH2⟩; clear hH; have hH := (hH2 _ (by (repeat constructor))).tail; clear hH2; refine ⟨STT, ?_⟩; intro a hA))) )
  have hn1 : fr.length - 1 + 1 = fr.length := by omega
  have hA_ : (flat encP (fr.take i)).length = i * 2 := by rw [flat_length encP_len, List.length_take]; omega
  have hB_ : (flat encP (fr.drop (i + 1))).length = (fr.length - (i + 1)) * 2 := by rw [flat_length encP_len, List.length_drop]
  obtain ⟨x, hx⟩ : ∃ x, fr[i]? = some x := ⟨_, List.getElem?_eq_getElem hi⟩
  have hsplit : flat encP fr ++ spare = flat encP (fr.take i) ++ (encP x ++ (flat encP (fr.drop (i + 1)) ++ spare)) := by
    conv => lhs; rw [← List.take_append_drop i fr, List.drop_eq_getElem_cons hi, (List.getElem?_eq_some_iff.1 hx).2]
    rw [flat_append, show flat encP (x :: fr.drop (i + 1)) = encP x ++ flat encP (fr.drop (i + 1)) by simp [flat]]
    simp
  have hlen : (flat encP fr ++ spare).length = c * 2 := by rw [List.length_append]; exact h4
  obtain ⟨q, hq, hqn⟩ : ∃ q, (if c = i + 1 then 0 else 0 + (i + 1) * 2) = q ∧ (i + 1 < fr.length → q = (i + 1) * 2) := ⟨_, rfl, fun h => by rw [if_neg (by omega), Nat.zero_add]⟩
  have hnews : ∀ j u, (flat encP (fr.drop (i + 1)))[j]? = some u → w0.cell? ((bat b q).add j) = some u := by
    intro j u hj
    have hjl := (List.getElem?_eq_some_iff.1 hj).1
    have hq2 := hqn (by omega)
    have h5 := hH.cb_news (b := b) (k := q) (m := (flat encP (fr.drop (i + 1))).length) (List.mem_cons_self ..) j u
    have e5 : ((flat encP fr ++ spare).drop q).take (flat encP (fr.drop (i + 1))).length = flat encP (fr.drop (i + 1)) := by
      rw [hsplit, show q = (flat encP (fr.take i)).length + (encP x).length by rw [hA_, encP_len]; omega]
      exact mid_take
    rw [e5] at h5
    exact h5 hj
  have h1n : (flat encP (fr.drop (i + 1))).all (·.oneCell') = true := flat_one_cell (fun _ => rfl) _
  have hfit : i * 2 + (flat encP (fr.drop (i + 1))).length ≤ (flat encP fr ++ spare).length := by rw [hB_, hlen]; omega
  have hroom : i + (fr.length - (i + 1)) ≤ c := by omega
  have hw : HS w0 M [] w0 := hH.drop_
  (refine wp_draw_HS [(0, 2), (1, 2), (2, 2), (3, 2), (4, 2), (5, 2), (6, 0), (7, 2)] mixed (by decide +kernel) hH.drop_ ?_; replace hH := hH.drew)
  have hnews' : ∀ j u, (flat encP (fr.drop (i + 1)))[j]? = some u → w0.drew.cell? ((bat b q).add j) = some u := hnews
  repeat' (first | (first | (refine GT ?_ ?_ <;> intro hg <;> clear hA a <;> intro a hA <;> (first | exact FA | replace hg := of_decide_eq_true hg | replace hg := of_decide_eq_false hg | skip)) | ((first | apply st_ex hA hH rfl rfl (by decide) | apply dr_ex hA rfl rfl rfl (by decide) | apply dr_exp hA rfl rfl rfl (by decide) | apply dr_ex3 hA hH rfl rfl rfl (by decide)); (first | (apply ex_slice_hi (k := i); rfl; rfl; rfl; omega) | (apply ex_slice_lo_b (k := i + 1) (q := q); rfl; rfl; rfl; omega; exact hq)); clear hA a; intro a hA) | (refine QT0 ?_; clear hA a; intro a hA) | (first | (refine BT ?_; clear hA hH; rintro _ w ⟨bN, rfl, hH⟩ a hA) | (refine LT ?_; clear hA hH; rintro _ w ⟨oN, rfl, hH⟩ a hA) | (refine AT ?_; clear hA; rintro _ w ⟨oN, cN, rfl, hH2⟩ a hA; clear hH; have hH := (hH2 _ (by (repeat constructor))).tail; clear hH2) | (refine S0T ?_; clear hH; rintro _ w hH) )) | ((first | refine CT ?_ | (refine DT ?_ ?_ <;> intro hc <;> try (exfalso; omega))) <;> repeat' refine CT ?_) | (first | (refine DSK ?_; clear hA a; intro a hA) | (first | (refine DLT ?_; clear hA hH; rintro _ w ⟨oN, rfl, hH⟩; refine ⟨STT, ?_⟩; intro a hA) | (refine DAT ?_; clear hA; rintro _ w ⟨oN, cN, rfl, hH2⟩; clear hH; have hH := (hH2 _ (by (repeat constructor))).tail; clear hH2; refine ⟨STT, ?_⟩; intro a hA))) | (apply dr_op hA rfl rfl rfl (by decide); apply op_append_in; rfl; rfl; exact hH; exact hnews'; exact hB_; exact h1n; exact hroom; exact hfit; (repeat constructor); clear hA hH; rintro _ w ⟨rfl, hH⟩; refine ⟨STT, ?_⟩; intro a hA))
  have en : i + (fr.length - (i + 1)) = fr.length - 1 := by omega
  rw [en] at hA
  have hq2 : (if c = fr.length - 1 then 0 else 0 + (fr.length - 1) * 2) = (fr.length - 1) * 2 := by rw [if_neg (by omega), Nat.zero_add]
  have hpl : (put (flat encP fr ++ spare) (i * 2) (flat encP (fr.drop (i + 1)))).length = c * 2 := by rw [put_length hfit, hlen]
  have hfit2 : (fr.length - 1) * 2 + (fr.length - (fr.length - 1)) * 2 ≤ (put (flat encP fr ++ spare) (i * 2) (flat encP (fr.drop (i + 1)))).length := by rw [hpl]; omega
  repeat' (first | (first | (refine GT ?_ ?_ <;> intro hg <;> clear hA a <;> intro a hA <;> (first | exact FA | replace hg := of_decide_eq_true hg | replace hg := of_decide_eq_false hg | skip)) | ((first | apply st_ex hA hH rfl rfl (by decide) | apply dr_ex hA rfl rfl rfl (by decide) | apply dr_exp hA rfl rfl rfl (by decide) | apply dr_ex3 hA hH rfl rfl rfl (by decide)); (first | (apply ex_slice_lh_b (i := fr.length - 1) (j := fr.length); rfl; rfl; rfl; rfl; rfl; omega; omega; exact hq2)); clear hA a; intro a hA) | (refine QT0 ?_; clear hA a; intro a hA) | (first | (refine BT ?_; clear hA hH; rintro _ w ⟨bN, rfl, hH⟩ a hA) | (refine LT ?_; clear hA hH; rintro _ w ⟨oN, rfl, hH⟩ a hA) | (refine AT ?_; clear hA; rintro _ w ⟨oN, cN, rfl, hH2⟩ a hA; clear hH; have hH := (hH2 _ (by (repeat constructor))).tail; clear hH2) | (refine S0T ?_; clear hH; rintro _ w hH) | (apply st_op0 hA rfl rfl; apply op_clear_cb; rfl; omega; exact hH; rfl; rfl; exact hfit2; clear hH; rintro _ w ⟨zz, hzz, hH⟩))) | ((first | refine CT ?_ | (refine DT ?_ ?_ <;> intro hc <;> try (exfalso; omega))) <;> repeat' refine CT ?_) | (first | (refine DSK ?_; clear hA a; intro a hA) | (first | (refine DLT ?_; clear hA hH; rintro _ w ⟨oN, rfl, hH⟩; refine ⟨STT, ?_⟩; intro a hA) | (refine DAT ?_; clear hA; rintro _ w ⟨oN, cN, rfl, hH2⟩; clear hH; have hH := (hH2 _ (by (repeat constructor))).tail; clear hH2; refine ⟨STT, ?_⟩; intro a hA))) )
  have hzz2 : zz.length = (encP x).length := by rw [hzz, encP_len]; omega
  have e6 : put (put (flat encP fr ++ spare) (i * 2) (flat encP (fr.drop (i + 1)))) ((fr.length - 1) * 2) zz = flat encP (fr.eraseIdx i) ++ (zz ++ spare) := by
    rw [hsplit, List.eraseIdx_eq_take_drop_succ, flat_append, ← del_cells hzz2, hA_, hB_]
    congr 1
    omega
  rw [e6] at hH
  have hel : (flat encP (fr.eraseIdx i)).length = (fr.length - 1) * 2 := by rw [flat_length encP_len, List.length_eraseIdx_of_lt hi]
  refine rt1 (.inl rfl) rfl hA rfl ⟨_, _, rfl, hH.block_own hel (by omega) h2 ?_⟩
  rw [hel, List.length_append, hzz]
  rw [List.length_append] at hlen
  omega
end Go.Proofs.Ytejpcidfigmnkaa
