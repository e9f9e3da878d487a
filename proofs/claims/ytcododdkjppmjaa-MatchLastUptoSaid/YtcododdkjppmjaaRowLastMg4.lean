/-
  Walks: is a head among the branches (the program's)? Conditions: none.
  The walk over the maker's tree. Conditions: none.
  The walk over the maker's tree, where something is tested. Conditions: none.
-/
import Derived.Test.YtcododdkjppmjaaRowLastMg3
namespace Go.Proofs.Ytcododdkjppmjaa
open Go Go.Fw
set_option linter.unusedVariables false
theorem encR_split (t : MT) : encR t = [.int .i64 t.h.ap.k, .int .i64 t.h.ap.v, .int .i64 t.h.ap.n, .string t.h.ap.s, .slice t.h.ap.ol t.h.ap.ls.length t.h.ap.cl, .slice t.h.ap.oa t.h.ap.ps.length t.h.ap.ca] ++ encT t := rfl
theorem encR_head (t : MT) : ∀ i v, ([.int .i64 t.h.ap.k, .int .i64 t.h.ap.v, .int .i64 t.h.ap.n, .string t.h.ap.s, .slice t.h.ap.ol t.h.ap.ls.length t.h.ap.cl, .slice t.h.ap.oa t.h.ap.ps.length t.h.ap.ca])[i]? = some v → (encR t)[0 + i]? = some v := by
  intro i v h
  rw [Nat.zero_add, encR_split, List.getElem?_append_left (List.getElem?_eq_some_iff.1 h).1]
  exact h
theorem encR_tree (t : MT) : ∀ i v, (encT t)[i]? = some v → (encR t)[6 + i]? = some v := by
  intro i v h
  rw [encR_split, List.getElem?_append_right (by show 6 ≤ 6 + i; omega)]
  show (encT t)[6 + i - 6]? = some v
  rw [Nat.add_sub_cancel_left]
  exact h
theorem cls_box {w0 : World} {M : Nat → Prop} {H : List It} {b j T : Nat} {cs vs : List Value} (hm : cb b T cs ∈ H) (hv : ∀ i v, vs[i]? = some v → cs[j + i]? = some v) : Cls (HS w0 M H) (bat b j) vs := cls_cb hm hv
theorem cls_more {w0 : World} {p : Addr} {vs : List Value} (h : Cls (HS w0 noM []) p vs) (H : List It) : Cls (HS w0 noM H) p vs := fun w hw => h w hw.drop_
theorem cls_later {w0 w w2 : World} {H : List It} {b T : Nat} {cs : List Value} (hH : HS w0 noM H w) (hb : cb b T cs ∈ H) (hk : Kp w noM w2) : Cls (HS w2 noM []) (bat b 0) cs :=
  fun w3 h3 => cls_cb_all hb w3 (hH.keep (hk.trans h3.kp fun b hb => hb.elim))
set_option maxRecDepth 10000 attribute [local irreducible] Code.wp wpList Calls Ex Op1 sat bat blk cb own Go.Fw.mp Go.Fw.mpO Go.Fw.mpI Go.Fw.mpE Go.Fw.itr HS Rd Ret wkD Hp Cl Cls Exit.then Exit.inBlock Exit.noGoto bodyPost Go.Fw.flat wk2 Go.Fw.all Go.Fw.owns wpOp
attribute [local irreducible] encA encC encB encL

set_option maxHeartbeats 4000000 in
theorem indexR_spec (w0 : World) (o : Option Addr) (c : Nat) (l : List MT) (fk : FuncId) (first cap : Array Value) [hk : FnB Try.prog fk] (f : MT → Bool) (hr : Rd w0 o (flat encR l)) (hl : l.length ≤ 9223372036854775807)
    (hf : ∀ x ∈ l, ∀ w, Kp w0 noM w → Ret Try.prog fk (first ++ #[.agg (encR x).toArray] ++ cap) w (fun v w' => v = .bool (f x) ∧ Kp w noM w')) :
    Ret Try.prog 30 #[.slice o l.length c, .func (.func fk) first cap] w0 (fun v w => v = .int .i64 (idxF f l) ∧ Kp w0 noM w) := by
  have hH : HS w0 noM [] w0 := HS.init w0 noM
  have hsp : Sp o l.length := hr.sp (sz := 12) (flat_length encR_len l) (by omega)
  (refine enter (N := 19) Try.func30 rfl Try.ntmps30 rfl ?_; intro a hA; dsimp only [sl0, Nat.reduceAdd] at hA)
  repeat' (first | (first | (refine GT ?_ ?_ <;> intro hg <;> clear hA a <;> intro a hA <;> (first | exact FA | replace hg := of_decide_eq_true hg | replace hg := of_decide_eq_false hg | skip)) | (refine QT ?_; clear hA a; intro a hA) | (first | (refine BT ?_; clear hA hH; rintro _ w ⟨bN, rfl, hH⟩ a hA) | (refine LT ?_; clear hA hH; rintro _ w ⟨oN, rfl, hH⟩ a hA) | (refine AT ?_; clear hA; rintro _ w ⟨oN, cN, rfl, hH2⟩ a hA; clear hH; have hH := (hH2 _ (by (repeat constructor))).tail; clear hH2) | (refine S0T ?_; clear hH; rintro _ w hH) )) | ((first | refine CT ?_ | (refine DT ?_ ?_ <;> intro hc <;> try (exfalso; omega))) <;> repeat' refine CT ?_) | (first | (refine DSK ?_; clear hA a; intro a hA) | (first | (refine DLT ?_; clear hA hH; rintro _ w ⟨oN, rfl, hH⟩; refine ⟨STT, ?_⟩; intro a hA) | (refine DAT ?_; clear hA; rintro _ w ⟨oN, cN, rfl, hH2⟩; clear hH; have hH := (hH2 _ (by (repeat constructor))).tail; clear hH2; refine ⟨STT, ?_⟩; intro a hA))) )
  refine wp_lpj (S := Nat) (fun i a w => (i ≤ l.length ∧ ∀ (k : Nat) (x : MT), k < i → l[k]? = some x → f x = false) ∧ HS w0 noM [] w ∧ Sl 19 [(0, .slice o l.length c), (1, .func (.func fk) first cap), (7, .int .i64 l.length), (8, .int .i64 i)] a) (fun i => l.length - i)
    (fun a w => (∀ (k : Nat) (x : MT), l[k]? = some x → f x = false) ∧ HS w0 noM [] w ∧ Sl 19 [] a) 0 ⟨⟨Nat.zero_le _, fun k x hk => absurd hk (Nat.not_lt_zero _)⟩, hH, (hA.sub (by (repeat (first | exact trivial | refine ⟨rfl, ?_⟩))))⟩ ?_ ?_
  rotate_left
  · clear hA hH
    rintro a w ⟨hn, hH, hA⟩
    repeat' (first | (first | (refine GT ?_ ?_ <;> intro hg <;> clear hA a <;> intro a hA <;> (first | exact FA | replace hg := of_decide_eq_true hg | replace hg := of_decide_eq_false hg | skip)) | (refine QT ?_; clear hA a; intro a hA) | (first | (refine BT ?_; clear hA hH; rintro _ w ⟨bN, rfl, hH⟩ a hA) | (refine LT ?_; clear hA hH; rintro _ w ⟨oN, rfl, hH⟩ a hA) | (refine AT ?_; clear hA; rintro _ w ⟨oN, cN, rfl, hH2⟩ a hA; clear hH; have hH := (hH2 _ (by (repeat constructor))).tail; clear hH2) | (refine S0T ?_; clear hH; rintro _ w hH) )) | ((first | refine CT ?_ | (refine DT ?_ ?_ <;> intro hc <;> try (exfalso; omega))) <;> repeat' refine CT ?_) | (first | (refine DSK ?_; clear hA a; intro a hA) | (first | (refine DLT ?_; clear hA hH; rintro _ w ⟨oN, rfl, hH⟩; refine ⟨STT, ?_⟩; intro a hA) | (refine DAT ?_; clear hA; rintro _ w ⟨oN, cN, rfl, hH2⟩; clear hH; have hH := (hH2 _ (by (repeat constructor))).tail; clear hH2; refine ⟨STT, ?_⟩; intro a hA))) )
    exact rt1 (.inl rfl) rfl hA rfl ⟨by rw [idxF_no hn], hH.kp⟩
  clear hA hH
  rintro i a w ⟨⟨hi, hn⟩, hH, hA⟩
  by_cases hlt : i < l.length
  rotate_left
  · repeat' (first | (first | (refine GT ?_ ?_ <;> intro hg <;> clear hA a <;> intro a hA <;> (first | exact FA | replace hg := of_decide_eq_true hg | replace hg := of_decide_eq_false hg | skip)) | (refine QT ?_; clear hA a; intro a hA) | (first | (refine BT ?_; clear hA hH; rintro _ w ⟨bN, rfl, hH⟩ a hA) | (refine LT ?_; clear hA hH; rintro _ w ⟨oN, rfl, hH⟩ a hA) | (refine AT ?_; clear hA; rintro _ w ⟨oN, cN, rfl, hH2⟩ a hA; clear hH; have hH := (hH2 _ (by (repeat constructor))).tail; clear hH2) | (refine S0T ?_; clear hH; rintro _ w hH) )) | ((first | refine CT ?_ | (refine DT ?_ ?_ <;> intro hc <;> try (exfalso; omega))) <;> repeat' refine CT ?_) | (first | (refine DSK ?_; clear hA a; intro a hA) | (first | (refine DLT ?_; clear hA hH; rintro _ w ⟨oN, rfl, hH⟩; refine ⟨STT, ?_⟩; intro a hA) | (refine DAT ?_; clear hA; rintro _ w ⟨oN, cN, rfl, hH2⟩; clear hH; have hH := (hH2 _ (by (repeat constructor))).tail; clear hH2; refine ⟨STT, ?_⟩; intro a hA))) )
    exact ⟨fun k x hk => hn k x (by have := (List.getElem?_eq_some_iff.1 hk).1; omega) hk, hH, (hA.sub (by (repeat (first | exact trivial | refine ⟨rfl, ?_⟩))))⟩
  obtain ⟨x, hx⟩ : ∃ x, l[i]? = some x := ⟨_, List.getElem?_eq_getElem hlt⟩
  have hxm := List.mem_of_getElem? hx
  have hvs := flat_all encR_len hx
  repeat' (first | (first | (refine GT ?_ ?_ <;> intro hg <;> clear hA a <;> intro a hA <;> (first | exact FA | replace hg := of_decide_eq_true hg | replace hg := of_decide_eq_false hg | skip)) | ((first | apply st_ex hA hH rfl rfl (by decide) | apply dr_ex hA rfl rfl rfl (by decide) | apply dr_exp hA rfl rfl rfl (by decide) | apply dr_ex3 hA hH rfl rfl rfl (by decide)); (first | (apply ex_load_st (vs := encR x); rfl; rfl; exact cls_rd hr id hvs)); clear hA a; intro a hA) | (refine QT ?_; clear hA a; intro a hA) | (first | (refine BT ?_; clear hA hH; rintro _ w ⟨bN, rfl, hH⟩ a hA) | (refine LT ?_; clear hA hH; rintro _ w ⟨oN, rfl, hH⟩ a hA) | (refine AT ?_; clear hA; rintro _ w ⟨oN, cN, rfl, hH2⟩ a hA; clear hH; have hH := (hH2 _ (by (repeat constructor))).tail; clear hH2) | (refine S0T ?_; clear hH; rintro _ w hH) )) | ((first | refine CT ?_ | (refine DT ?_ ?_ <;> intro hc <;> try (exfalso; omega))) <;> repeat' refine CT ?_) | (first | (refine DSK ?_; clear hA a; intro a hA) | (first | (refine DLT ?_; clear hA hH; rintro _ w ⟨oN, rfl, hH⟩; refine ⟨STT, ?_⟩; intro a hA) | (refine DAT ?_; clear hA; rintro _ w ⟨oN, cN, rfl, hH2⟩; clear hH; have hH := (hH2 _ (by (repeat constructor))).tail; clear hH2; refine ⟨STT, ?_⟩; intro a hA))) )
  (refine st_op hA rfl rfl (by decide) (op_call rfl rfl rfl (hf x hxm _ hH.kp)) ?_; clear hA; rintro _ w ⟨rfl, hk⟩ a hA; replace hH := hH.keep hk; clear hk)
  cases hfx : f x with
  | true =>
    rw [hfx] at hA
    repeat' (first | (first | (refine GT ?_ ?_ <;> intro hg <;> clear hA a <;> intro a hA <;> (first | exact FA | replace hg := of_decide_eq_true hg | replace hg := of_decide_eq_false hg | skip)) | (refine QT ?_; clear hA a; intro a hA) | (first | (refine BT ?_; clear hA hH; rintro _ w ⟨bN, rfl, hH⟩ a hA) | (refine LT ?_; clear hA hH; rintro _ w ⟨oN, rfl, hH⟩ a hA) | (refine AT ?_; clear hA; rintro _ w ⟨oN, cN, rfl, hH2⟩ a hA; clear hH; have hH := (hH2 _ (by (repeat constructor))).tail; clear hH2) | (refine S0T ?_; clear hH; rintro _ w hH) )) | ((first | refine CT ?_ | (refine DT ?_ ?_ <;> intro hc <;> try (exfalso; omega))) <;> repeat' refine CT ?_) | (first | (refine DSK ?_; clear hA a; intro a hA) | (first | (refine DLT ?_; clear hA hH; rintro _ w ⟨oN, rfl, hH⟩; refine ⟨STT, ?_⟩; intro a hA) | (refine DAT ?_; clear hA; rintro _ w ⟨oN, cN, rfl, hH2⟩; clear hH; have hH := (hH2 _ (by (repeat constructor))).tail; clear hH2; refine ⟨STT, ?_⟩; intro a hA))) )
    exact rt1 (.inl rfl) rfl hA rfl ⟨by rw [idxF_at hx hfx hn], hH.kp⟩
  | false =>
    rw [hfx] at hA
    repeat' (first | (first | (refine GT ?_ ?_ <;> intro hg <;> clear hA a <;> intro a hA <;> (first | exact FA | replace hg := of_decide_eq_true hg | replace hg := of_decide_eq_false hg | skip)) | (refine QT ?_; clear hA a; intro a hA) | (first | (refine BT ?_; clear hA hH; rintro _ w ⟨bN, rfl, hH⟩ a hA) | (refine LT ?_; clear hA hH; rintro _ w ⟨oN, rfl, hH⟩ a hA) | (refine AT ?_; clear hA; rintro _ w ⟨oN, cN, rfl, hH2⟩ a hA; clear hH; have hH := (hH2 _ (by (repeat constructor))).tail; clear hH2) | (refine S0T ?_; clear hH; rintro _ w hH) )) | ((first | refine CT ?_ | (refine DT ?_ ?_ <;> intro hc <;> try (exfalso; omega))) <;> repeat' refine CT ?_) | (first | (refine DSK ?_; clear hA a; intro a hA) | (first | (refine DLT ?_; clear hA hH; rintro _ w ⟨oN, rfl, hH⟩; refine ⟨STT, ?_⟩; intro a hA) | (refine DAT ?_; clear hA; rintro _ w ⟨oN, cN, rfl, hH2⟩; clear hH; have hH := (hH2 _ (by (repeat constructor))).tail; clear hH2; refine ⟨STT, ?_⟩; intro a hA))) )
    exact ⟨i + 1, ⟨⟨hlt, fun k y hk hy => by
      by_cases hki : k = i
      · subst hki
        rw [hx] at hy
        obtain rfl := Option.some.inj hy
        exact hfx
      · exact hn k y (by omega) hy⟩, hH, (hA.sub (by (repeat (first | exact trivial | refine ⟨rfl, ?_⟩))))⟩, by omega⟩
theorem idxF_has {α : Type} (f : α → Bool) (l : List α) : decide (0 ≤ idxF f l) = l.any f := by
  rw [Bool.eq_iff_iff, decide_eq_true_iff, List.any_eq_true]
  constructor
  · intro h
    obtain ⟨i, hi⟩ : ∃ i : Nat, idxF f l = (i : Int) := ⟨(idxF f l).toNat, by omega⟩
    obtain ⟨x, h1, h2, _⟩ := idxF_some hi
    exact ⟨x, List.mem_of_getElem? h1, h2⟩
  · rintro ⟨x, h1, h2⟩
    by_cases h3 : idxF f l < 0
    · rw [idxF_nil h3 x h1] at h2; cases h2
    · omega
theorem tree1_spec (w0 : World) (t : MT) (b : Nat) (h : Hd) (hc : Cls (HS w0 noM []) (bat b 0) [.int .i64 h.ap.k, .int .i64 h.ap.v, .int .i64 h.ap.n, .string h.ap.s, .slice h.ap.ol h.ap.ls.length h.ap.cl, .slice h.ap.oa h.ap.ps.length h.ap.ca]) :
    Ret Try.prog 43 #[.agg (encR t).toArray, .pointer (some (bat b 0))] w0 (fun v w => v = .bool (decide (t.h = h)) ∧ Kp w0 noM w) := by
  have hH : HS w0 noM [] w0 := HS.init w0 noM
  (refine enter (N := 8) Try.func43 rfl Try.ntmps43 rfl ?_; intro a hA; dsimp only [sl0, Nat.reduceAdd] at hA)
  repeat' (first | (first | (refine GT ?_ ?_ <;> intro hg <;> clear hA a <;> intro a hA <;> (first | exact FA | replace hg := of_decide_eq_true hg | replace hg := of_decide_eq_false hg | skip)) | ((first | apply st_ex hA hH rfl rfl (by decide) | apply dr_ex hA rfl rfl rfl (by decide) | apply dr_exp hA rfl rfl rfl (by decide) | apply dr_ex3 hA hH rfl rfl rfl (by decide)); (first | (apply ex_load_st (vs := [.int .i64 t.h.ap.k, .int .i64 t.h.ap.v, .int .i64 t.h.ap.n, .string t.h.ap.s, .slice t.h.ap.ol t.h.ap.ls.length t.h.ap.cl, .slice t.h.ap.oa t.h.ap.ps.length t.h.ap.ca]); rfl; rfl; exact cls_box MEMT (encR_head t)) | (apply ex_load_st (vs := [.int .i64 h.ap.k, .int .i64 h.ap.v, .int .i64 h.ap.n, .string h.ap.s, .slice h.ap.ol h.ap.ls.length h.ap.cl, .slice h.ap.oa h.ap.ps.length h.ap.ca]); rfl; rfl; exact cls_more hc _)); clear hA a; intro a hA) | (refine QT ?_; clear hA a; intro a hA) | (first | (refine BT ?_; clear hA hH; rintro _ w ⟨bN, rfl, hH⟩ a hA) | (refine LT ?_; clear hA hH; rintro _ w ⟨oN, rfl, hH⟩ a hA) | (refine AT ?_; clear hA; rintro _ w ⟨oN, cN, rfl, hH2⟩ a hA; clear hH; have hH := (hH2 _ (by (repeat constructor))).tail; clear hH2) | (refine S0T ?_; clear hH; rintro _ w hH) )) | ((first | refine CT ?_ | (refine DT ?_ ?_ <;> intro hc <;> try (exfalso; omega))) <;> repeat' refine CT ?_) | (first | (refine DSK ?_; clear hA a; intro a hA) | (first | (refine DLT ?_; clear hA hH; rintro _ w ⟨oN, rfl, hH⟩; refine ⟨STT, ?_⟩; intro a hA) | (refine DAT ?_; clear hA; rintro _ w ⟨oN, cN, rfl, hH2⟩; clear hH; have hH := (hH2 _ (by (repeat constructor))).tail; clear hH2; refine ⟨STT, ?_⟩; intro a hA))) )
  (refine st_op hA rfl rfl (by decide) (op_call rfl rfl rfl (is_spec _ t.h.ap h.ap)) ?_; clear hA; rintro _ w ⟨rfl, hk⟩ a hA; replace hH := hH.keep hk; clear hk)
  repeat' (first | (first | (refine GT ?_ ?_ <;> intro hg <;> clear hA a <;> intro a hA <;> (first | exact FA | replace hg := of_decide_eq_true hg | replace hg := of_decide_eq_false hg | skip)) | (refine QT ?_; clear hA a; intro a hA) | (first | (refine BT ?_; clear hA hH; rintro _ w ⟨bN, rfl, hH⟩ a hA) | (refine LT ?_; clear hA hH; rintro _ w ⟨oN, rfl, hH⟩ a hA) | (refine AT ?_; clear hA; rintro _ w ⟨oN, cN, rfl, hH2⟩ a hA; clear hH; have hH := (hH2 _ (by (repeat constructor))).tail; clear hH2) | (refine S0T ?_; clear hH; rintro _ w hH) )) | ((first | refine CT ?_ | (refine DT ?_ ?_ <;> intro hc <;> try (exfalso; omega))) <;> repeat' refine CT ?_) | (first | (refine DSK ?_; clear hA a; intro a hA) | (first | (refine DLT ?_; clear hA hH; rintro _ w ⟨oN, rfl, hH⟩; refine ⟨STT, ?_⟩; intro a hA) | (refine DAT ?_; clear hA; rintro _ w ⟨oN, cN, rfl, hH2⟩; clear hH; have hH := (hH2 _ (by (repeat constructor))).tail; clear hH2; refine ⟨STT, ?_⟩; intro a hA))) )
  exact rt1 (.inl rfl) rfl hA rfl ⟨rfl, hH.kp⟩
theorem containsR_spec (w0 w : World) (H : List It) (o : Option Addr) (c : Nat) (l : List MT) (b T : Nat) (h : Hd) (hH0 : HS w0 noM H w) (hb : cb b T [.int .i64 h.ap.k, .int .i64 h.ap.v, .int .i64 h.ap.n, .string h.ap.s, .slice h.ap.ol h.ap.ls.length h.ap.cl, .slice h.ap.oa h.ap.ps.length h.ap.ca] ∈ H) (hr : Rd w o (flat encR l)) (hl : l.length ≤ 1000000) :
    Ret Try.prog 42 #[.slice o l.length c, .func (.func 43) #[] #[.pointer (some (bat b 0))]] w (fun v w' => v = .bool (l.any fun t => decide (t.h = h)) ∧ Kp w noM w') := by
  have hH : HS w noM [] w := HS.init w noM
  have hcl : ∀ x ∈ l, ∀ w2, Kp w noM w2 → Ret Try.prog 43 (#[] ++ #[.agg (encR x).toArray] ++ #[.pointer (some (bat b 0))]) w2 (fun v w' => v = .bool (decide (x.h = h)) ∧ Kp w2 noM w') := fun x hx w2 hk2 =>
    tree1_spec w2 x b h (cls_later hH0 hb hk2)
  (refine enter (N := 9) Try.func42 rfl Try.ntmps42 rfl ?_; intro a hA; dsimp only [sl0, Nat.reduceAdd] at hA)
  repeat' (first | (first | (refine GT ?_ ?_ <;> intro hg <;> clear hA a <;> intro a hA <;> (first | exact FA | replace hg := of_decide_eq_true hg | replace hg := of_decide_eq_false hg | skip)) | (refine QT ?_; clear hA a; intro a hA) | (first | (refine BT ?_; clear hA hH; rintro _ w ⟨bN, rfl, hH⟩ a hA) | (refine LT ?_; clear hA hH; rintro _ w ⟨oN, rfl, hH⟩ a hA) | (refine AT ?_; clear hA; rintro _ w ⟨oN, cN, rfl, hH2⟩ a hA; clear hH; have hH := (hH2 _ (by (repeat constructor))).tail; clear hH2) | (refine S0T ?_; clear hH; rintro _ w hH) )) | ((first | refine CT ?_ | (refine DT ?_ ?_ <;> intro hc <;> try (exfalso; omega))) <;> repeat' refine CT ?_) | (first | (refine DSK ?_; clear hA a; intro a hA) | (first | (refine DLT ?_; clear hA hH; rintro _ w ⟨oN, rfl, hH⟩; refine ⟨STT, ?_⟩; intro a hA) | (refine DAT ?_; clear hA; rintro _ w ⟨oN, cN, rfl, hH2⟩; clear hH; have hH := (hH2 _ (by (repeat constructor))).tail; clear hH2; refine ⟨STT, ?_⟩; intro a hA))) )
  (refine st_op hA rfl rfl (by decide) (op_call rfl rfl rfl (indexR_spec _ o c l 43 #[] #[.pointer (some (bat b 0))] (fun t => decide (t.h = h)) (hH.rd hr id) (by omega) hcl)) ?_; clear hA; rintro _ w ⟨rfl, hk⟩ a hA; replace hH := hH.keep hk; clear hk)
  repeat' (first | (first | (refine GT ?_ ?_ <;> intro hg <;> clear hA a <;> intro a hA <;> (first | exact FA | replace hg := of_decide_eq_true hg | replace hg := of_decide_eq_false hg | skip)) | (refine QT ?_; clear hA a; intro a hA) | (first | (refine BT ?_; clear hA hH; rintro _ w ⟨bN, rfl, hH⟩ a hA) | (refine LT ?_; clear hA hH; rintro _ w ⟨oN, rfl, hH⟩ a hA) | (refine AT ?_; clear hA; rintro _ w ⟨oN, cN, rfl, hH2⟩ a hA; clear hH; have hH := (hH2 _ (by (repeat constructor))).tail; clear hH2) | (refine S0T ?_; clear hH; rintro _ w hH) )) | ((first | refine CT ?_ | (refine DT ?_ ?_ <;> intro hc <;> try (exfalso; omega))) <;> repeat' refine CT ?_) | (first | (refine DSK ?_; clear hA a; intro a hA) | (first | (refine DLT ?_; clear hA hH; rintro _ w ⟨oN, rfl, hH⟩; refine ⟨STT, ?_⟩; intro a hA) | (refine DAT ?_; clear hA; rintro _ w ⟨oN, cN, rfl, hH2⟩; clear hH; have hH := (hH2 _ (by (repeat constructor))).tail; clear hH2; refine ⟨STT, ?_⟩; intro a hA))) )
  exact rt1 (.inl rfl) rfl hA rfl ⟨by rw [idxF_has], hH.kp⟩
end Go.Proofs.Ytcododdkjppmjaa
namespace Go.Proofs.Ytcododdkjppmjaa
open Go Go.Fw
set_option linter.unusedVariables false
/-- a node without branches -/
def nT (h : Hd) (k n : Int) (ob : Option Addr) (cb : Nat) (bs : List MB) : MT := .mk h k n ob cb bs none 0 [] none 0 [] none 0 []
theorem hs_nT {w0 w : World} {H : List It} (h : HS w0 noM H w) (g : Hd) (k n : Int) (ob : Option Addr) (cb : Nat) (bs : List MB) : HS w0 noM (all (itT (nT g k n ob cb bs)) :: H) w := by
  rw [itT_eq]
  refine HS.shut (L := [_, _, _, _, _]) ?_
  exact ((((h.nil_all.nil_all).nil_own _ _).nil_own _ _).nil_own _ _)
theorem RdTB.keep {w w' : World} {t : MT} (h : RdTB w t) (hk : Kp w noM w') : RdTB w' t := by
  induction h with
  | mk h1 h2 h3 ih2 ih3 => exact .mk (h1.keep hk) ih2 ih3
theorem treeP_neg {f : Nat} {h : Hd} {l : List Ln} {x : Int} (hx : x - 1 < 0) : treeP f h l x = (.mk h 1 0 [] [] [] [], x - 1) := by
  cases f with
  | zero => rfl
  | succ f => rw [treeP_s, treeB_neg hx]
theorem RdBs_nil (w : World) : RdBs w none 0 [] := ⟨⟨fun h => absurd h (by decide), fun j u h => by simp [flat] at h⟩, Nat.zero_le _, Nat.zero_le _, fun m hm => absurd hm List.not_mem_nil⟩
theorem RdTB_n {w : World} {h : Hd} {k n : Int} {ob : Option Addr} {cb : Nat} {bs : List MB} (hb : RdBs w ob cb bs) : RdTB w (nT h k n ob cb bs) := .mk hb (fun s hs => absurd hs List.not_mem_nil) (fun s hs => absurd hs List.not_mem_nil)
theorem un_n (h : Hd) (k n : Int) (ob : Option Addr) (cb : Nat) (bs : List MB) : (nT h k n ob cb bs).un = .mk h k n (bs.map MB.un) [] [] [] := by rw [un_eq]; rfl
set_option maxRecDepth 10000 attribute [local irreducible] Code.wp wpList Calls Ex Op1 sat bat blk cb own Go.Fw.mp Go.Fw.mpO Go.Fw.mpI Go.Fw.mpE Go.Fw.itr HS Rd Ret wkD Hp Cl Cls Exit.then Exit.inBlock Exit.noGoto bodyPost Go.Fw.flat wk2 Go.Fw.all Go.Fw.owns wpOp
attribute [local irreducible] encA encC encB encL treeP treeB brsP heads restL left itT itTs

set_option maxHeartbeats 8000000 in
theorem tree_stop (w0 w : World) (H : List It) (K : World → Prop) (bm : Nat) (x : Int) (o : Option Addr) (c : Nat) (l : List ML) (h : Hd)
    (hH : HS w0 noM (Go.Fw.cb bm 58 [.int .i64 x] :: frz w0 K :: H) w) (hx : x - 1 < 0 ∨ l.length = 0) (hx2 : -100000 ≤ x) (hx3 : x ≤ 1024) :
    Ret Try.prog 21 #[.pointer (some (bat bm 0)), .slice o l.length c] w (fun v w' => ∃ (K' : World → Prop) (t : MT), v = .agg (encT t).toArray ∧ (∀ w, K' w → K w ∧ RdTB w t) ∧ t.h = h ∧ t.un = (.mk h 1 0 [] [] [] []) ∧ HS w0 noM (Go.Fw.cb bm 58 [.int .i64 (x - 1)] :: all (itT t) :: frz w0 K' :: H) w') := by
  have i0 : i64ok (x - 1) := by unfold i64ok; omega
  (refine enter (N := 128) Try.func21 rfl Try.ntmps21 rfl ?_; intro a hA; dsimp only [sl0, Nat.reduceAdd] at hA)
  repeat' (first | (first | (refine GT ?_ ?_ <;> intro hg <;> clear hA a <;> intro a hA <;> (first | exact FA | replace hg := of_decide_eq_true hg | replace hg := of_decide_eq_false hg | skip)) | ((first | apply st_ex hA hH rfl rfl (by decide) | apply dr_ex hA rfl rfl rfl (by decide) | apply dr_exp hA rfl rfl rfl (by decide) | apply dr_ex3 hA hH rfl rfl rfl (by decide)); (first | (apply ex_build_p #[.int .i64 1, .int .i64 0, .slice none 0 0, .slice none 0 0, .slice none 0 0, .slice none 0 0]; rfl; (repeat (first | (intro _ h; exact absurd h (List.not_mem_nil)) | (refine List.forall_mem_cons.2 ⟨one_cell_of _ _, ?_⟩))); rfl)); clear hA a; intro a hA) | (refine QT ?_; clear hA a; intro a hA) | (first | (refine BT ?_; clear hA hH; rintro _ w ⟨bN, rfl, hH⟩ a hA) | (refine LT ?_; clear hA hH; rintro _ w ⟨oN, rfl, hH⟩ a hA) | (refine AT ?_; clear hA; rintro _ w ⟨oN, cN, rfl, hH2⟩ a hA; clear hH; have hH := (hH2 _ (by (repeat constructor))).tail; clear hH2) | (refine S0T ?_; clear hH; rintro _ w hH) | (apply st_op0 hA rfl rfl; apply op_store_agg (vs := [.int .i64 1, .int .i64 0, .slice none 0 0, .slice none 0 0, .slice none 0 0, .slice none 0 0]); rfl; rfl; exact hH; (repeat constructor); (repeat rfl); clear hH; rintro _ w hH))) | ((first | refine CT ?_ | (refine DT ?_ ?_ <;> intro hc <;> try (exfalso; omega))) <;> repeat' refine CT ?_) | (first | (refine DSK ?_; clear hA a; intro a hA) | (first | (refine DLT ?_; clear hA hH; rintro _ w ⟨oN, rfl, hH⟩; refine ⟨STT, ?_⟩; intro a hA) | (refine DAT ?_; clear hA; rintro _ w ⟨oN, cN, rfl, hH2⟩; clear hH; have hH := (hH2 _ (by (repeat constructor))).tail; clear hH2; refine ⟨STT, ?_⟩; intro a hA))) )
  all_goals first
    | (exfalso; omega)
    | (refine rt1c (vs := encT (nT h 1 0 none 0 [])) (.inl rfl) rfl hA rfl rfl hH (cls_cb_all (by exact MEMT)) ⟨K, nT h 1 0 none 0 [], rfl, fun w hw => ⟨hw, RdTB_n (RdBs_nil w)⟩, rfl, un_n .., ?_⟩
       exact (hs_nT (hH.tail) h 1 0 none 0 []).perm (by (repeat (first | exact List.Perm.refl _ | exact List.Perm.nil | refine perm_pick 0 rfl ?_ | refine perm_pick 1 rfl ?_ | refine perm_pick 2 rfl ?_ | refine perm_pick 3 rfl ?_ | refine perm_pick 4 rfl ?_ | refine perm_pick 5 rfl ?_ | refine perm_pick 6 rfl ?_ | refine perm_pick 7 rfl ?_ | refine perm_pick 8 rfl ?_ | refine perm_pick 9 rfl ?_ | refine perm_pick 10 rfl ?_ | refine perm_pick 11 rfl ?_))))
    | skip
set_option maxHeartbeats 8000000 in
theorem tree_leaf (w0 w : World) (H : List It) (K : World → Prop) (bm : Nat) (x : Int) (o : Option Addr) (c : Nat) (m : ML) (l : List ML) (h : Hd)
    (hH : HS w0 noM (Go.Fw.cb bm 58 [.int .i64 x] :: frz w0 K :: H) w) (hR : ∀ w, K w → RdLs w o c (m :: l)) (hl : (m :: l).length ≤ 64) (hx : ¬ x - 1 < 0) (hx2 : x ≤ 1024) (hcs : m.cs = []) :
    Ret Try.prog 21 #[.pointer (some (bat bm 0)), .slice o (m :: l).length c] w (fun v w' => ∃ (K' : World → Prop) (t : MT), v = .agg (encT t).toArray ∧ (∀ w, K' w → K w ∧ RdTB w t) ∧ t.h = h ∧ t.un = (.mk h 2 m.n (m.bs.map MB.un) [] [] []) ∧ HS w0 noM (Go.Fw.cb bm 58 [.int .i64 (x - 1)] :: all (itT t) :: frz w0 K' :: H) w') := by
  have i0 : i64ok (x - 1) := by unfold i64ok; omega
  have hK0 := hH.frz_w (.tail _ (.head _)) hR
  have hsp : Sp o (m :: l).length := hK0.1.sp (sz := 3) (flat_length encL_len (m :: l)) (by omega)
  clear hK0
  have hlen : 0 < (m :: l).length := Nat.succ_pos _
  have hrL : ∀ w, K w → Rd w o (flat encL (m :: l)) := fun w h => (hR w h).1
  have hm : ∀ w, K w → RdL w m := fun w h => (hR w h).2.2.2 m (.head _)
  have hvm := flat_all encL_len (l := m :: l) (i := 0) (x := m) rfl
  rw [encL_eq] at hvm
  have hvm0 := hvm 0 _ rfl
  have hvm1 := hvm 1 _ rfl
  have hvm2 := hvm 2 _ rfl
  have hcl0 : m.cs.length = 0 := by rw [hcs]; rfl
  generalize m :: l = ll at *
  (refine enter (N := 128) Try.func21 rfl Try.ntmps21 rfl ?_; intro a hA; dsimp only [sl0, Nat.reduceAdd] at hA)
  repeat' (first | (first | (refine GT ?_ ?_ <;> intro hg <;> clear hA a <;> intro a hA <;> (first | exact FA | replace hg := of_decide_eq_true hg | replace hg := of_decide_eq_false hg | skip)) | ((first | apply st_ex hA hH rfl rfl (by decide) | apply dr_ex hA rfl rfl rfl (by decide) | apply dr_exp hA rfl rfl rfl (by decide) | apply dr_ex3 hA hH rfl rfl rfl (by decide)); (first | (apply ex_load; rfl; exact cl_frz MEMT hrL hvm1)); clear hA a; intro a hA) | (refine QT ?_; clear hA a; intro a hA) | (first | (refine BT ?_; clear hA hH; rintro _ w ⟨bN, rfl, hH⟩ a hA) | (refine LT ?_; clear hA hH; rintro _ w ⟨oN, rfl, hH⟩ a hA) | (refine AT ?_; clear hA; rintro _ w ⟨oN, cN, rfl, hH2⟩ a hA; clear hH; have hH := (hH2 _ (by (repeat constructor))).tail; clear hH2) | (refine S0T ?_; clear hH; rintro _ w hH) )) | ((first | refine CT ?_ | (refine DT ?_ ?_ <;> intro hc <;> try (exfalso; omega))) <;> repeat' refine CT ?_) | (first | (refine DSK ?_; clear hA a; intro a hA) | (first | (refine DLT ?_; clear hA hH; rintro _ w ⟨oN, rfl, hH⟩; refine ⟨STT, ?_⟩; intro a hA) | (refine DAT ?_; clear hA; rintro _ w ⟨oN, cN, rfl, hH2⟩; clear hH; have hH := (hH2 _ (by (repeat constructor))).tail; clear hH2; refine ⟨STT, ?_⟩; intro a hA))) )
  all_goals (try (exfalso; omega))
  (refine wp_draw2_HS [(0, 1), (1, 1), (2, 1), (3, 1), (4, 1), (5, 1), (6, 1), (7, 1), (8, 1)] [9] mixed (by decide +kernel) hH ?_; replace hH := hH.drew)
  repeat' (first | (first | (refine GT ?_ ?_ <;> intro hg <;> clear hA a <;> intro a hA <;> (first | exact FA | replace hg := of_decide_eq_true hg | replace hg := of_decide_eq_false hg | skip)) | ((first | apply st_ex hA hH rfl rfl (by decide) | apply dr_ex hA rfl rfl rfl (by decide) | apply dr_exp hA rfl rfl rfl (by decide) | apply dr_ex3 hA hH rfl rfl rfl (by decide)); (first | (apply ex_load; rfl; exact cl_frz MEMT hrL hvm0) | (apply ex_load; rfl; exact cl_frz MEMT hrL hvm2) | (apply ex_build_p #[.int .i64 2, .int .i64 m.n, .slice m.ob m.bs.length m.cb, .slice none 0 0, .slice none 0 0, .slice none 0 0]; rfl; (repeat (first | (intro _ h; exact absurd h (List.not_mem_nil)) | (refine List.forall_mem_cons.2 ⟨one_cell_of _ _, ?_⟩))); rfl)); clear hA a; intro a hA) | (refine QT ?_; clear hA a; intro a hA) | (first | (refine BT ?_; clear hA hH; rintro _ w ⟨bN, rfl, hH⟩ a hA) | (refine LT ?_; clear hA hH; rintro _ w ⟨oN, rfl, hH⟩ a hA) | (refine AT ?_; clear hA; rintro _ w ⟨oN, cN, rfl, hH2⟩ a hA; clear hH; have hH := (hH2 _ (by (repeat constructor))).tail; clear hH2) | (refine S0T ?_; clear hH; rintro _ w hH) )) | ((first | refine CT ?_ | (refine DT ?_ ?_ <;> intro hc <;> try (exfalso; omega))) <;> repeat' refine CT ?_) | (first | (refine DSK ?_; clear hA a; intro a hA) | (first | (refine DLT ?_; clear hA hH; rintro _ w ⟨oN, rfl, hH⟩; refine ⟨STT, ?_⟩; intro a hA) | (refine DAT ?_; clear hA; rintro _ w ⟨oN, cN, rfl, hH2⟩; clear hH; have hH := (hH2 _ (by (repeat constructor))).tail; clear hH2; refine ⟨STT, ?_⟩; intro a hA))) )
  (apply dr_op03 hA rfl rfl rfl; apply op_store_agg (vs := [.int .i64 2, .int .i64 m.n, .slice m.ob m.bs.length m.cb, .slice none 0 0, .slice none 0 0, .slice none 0 0]); rfl; rfl; exact hH; (repeat constructor); (repeat rfl); clear hH; rintro _ w hH)
  repeat' (first | (first | (refine GT ?_ ?_ <;> intro hg <;> clear hA a <;> intro a hA <;> (first | exact FA | replace hg := of_decide_eq_true hg | replace hg := of_decide_eq_false hg | skip)) | (refine QT ?_; clear hA a; intro a hA) | (first | (refine BT ?_; clear hA hH; rintro _ w ⟨bN, rfl, hH⟩ a hA) | (refine LT ?_; clear hA hH; rintro _ w ⟨oN, rfl, hH⟩ a hA) | (refine AT ?_; clear hA; rintro _ w ⟨oN, cN, rfl, hH2⟩ a hA; clear hH; have hH := (hH2 _ (by (repeat constructor))).tail; clear hH2) | (refine S0T ?_; clear hH; rintro _ w hH) )) | ((first | refine CT ?_ | (refine DT ?_ ?_ <;> intro hc <;> try (exfalso; omega))) <;> repeat' refine CT ?_) | (first | (refine DSK ?_; clear hA a; intro a hA) | (first | (refine DLT ?_; clear hA hH; rintro _ w ⟨oN, rfl, hH⟩; refine ⟨STT, ?_⟩; intro a hA) | (refine DAT ?_; clear hA; rintro _ w ⟨oN, cN, rfl, hH2⟩; clear hH; have hH := (hH2 _ (by (repeat constructor))).tail; clear hH2; refine ⟨STT, ?_⟩; intro a hA))) )
  refine rt1c (vs := encT (nT h 2 m.n m.ob m.cb m.bs)) (.inl rfl) rfl hA rfl rfl hH (cls_cb_all (by exact MEMT)) ⟨K, nT h 2 m.n m.ob m.cb m.bs, rfl, fun w hw => ⟨hw, RdTB_n (hm w hw).2⟩, rfl, un_n .., ?_⟩
  exact (hs_nT (hH.tail) h 2 m.n m.ob m.cb m.bs).perm (by (repeat (first | exact List.Perm.refl _ | exact List.Perm.nil | refine perm_pick 0 rfl ?_ | refine perm_pick 1 rfl ?_ | refine perm_pick 2 rfl ?_ | refine perm_pick 3 rfl ?_ | refine perm_pick 4 rfl ?_ | refine perm_pick 5 rfl ?_ | refine perm_pick 6 rfl ?_ | refine perm_pick 7 rfl ?_ | refine perm_pick 8 rfl ?_ | refine perm_pick 9 rfl ?_ | refine perm_pick 10 rfl ?_ | refine perm_pick 11 rfl ?_)))
end Go.Proofs.Ytcododdkjppmjaa
namespace Go.Proofs.Ytcododdkjppmjaa
open Go Go.Fw
set_option linter.unusedVariables false

theorem fill_R (h : Hd) : Instr.fill (([(0, 6), (6, 6)] : List (Nat × Nat))[·]?) (encR (zT hd0)).toArray [(0, .agg #[.int .i64 h.ap.k, .int .i64 h.ap.v, .int .i64 h.ap.n, .string h.ap.s, .slice h.ap.ol h.ap.ls.length h.ap.cl, .slice h.ap.oa h.ap.ps.length h.ap.ca])] = some (encR (zT h)).toArray := by
  have e := fill_seg (place := (([(0, 6), (6, 6)] : List (Nat × Nat))[·]?)) (pre := []) (zs := [.int .i64 hd0.ap.k, .int .i64 hd0.ap.v, .int .i64 hd0.ap.n, .string hd0.ap.s, .slice hd0.ap.ol hd0.ap.ls.length hd0.ap.cl, .slice hd0.ap.oa hd0.ap.ps.length hd0.ap.ca]) (post := encT (zT h)) (us := [.int .i64 h.ap.k, .int .i64 h.ap.v, .int .i64 h.ap.n, .string h.ap.s, .slice h.ap.ol h.ap.ls.length h.ap.cl, .slice h.ap.oa h.ap.ps.length h.ap.ca]) (v := .agg #[.int .i64 h.ap.k, .int .i64 h.ap.v, .int .i64 h.ap.n, .string h.ap.s, .slice h.ap.ol h.ap.ls.length h.ap.cl, .slice h.ap.oa h.ap.ps.length h.ap.ca]) (i := 0) (rest := []) rfl rfl rfl
  exact e
theorem put_R {g : Hd} {t : MT} (h : t.h = g) : Fw.put (encR (zT g)) 6 (encT t) = encR t := by
  subst h
  rw [encR_split]
  rfl
theorem itTs_nil : itTs [] = [] := rfl
theorem brsP_nil {T : Hd → List Ln → Int → Tr × Int} {q : Pth} {l : List Ln} {x : Int} : brsP T q l [] x = ([], x) := rfl
theorem heads_nil (q : Pth) : [] = heads q [] := rfl
theorem restL_nil (q : Pth) : [] = restL q [] := rfl
theorem any_zT (hs : List Hd) (h : Hd) : ((hs.map zT).any fun t => decide (t.h = h)) = decide (h ∈ hs) := by
  rw [Bool.eq_iff_iff, List.any_eq_true, decide_eq_true_iff]
  constructor
  · rintro ⟨t, ht, h1⟩
    obtain ⟨g, hg, rfl⟩ := List.mem_map.1 ht
    have h2 : g = h := of_decide_eq_true h1
    exact h2 ▸ hg
  · intro hh
    exact ⟨zT h, List.mem_map.2 ⟨h, hh, rfl⟩, decide_eq_true rfl⟩
theorem headS_none {q : Pth} {acc : List Hd} {r : Ln} (h : of q r.cs = none) : headS q acc r = acc := by unfold headS; rw [h]
theorem headS_in {q : Pth} {acc : List Hd} {r : Ln} {c : Cnd} (h : of q r.cs = some c) (hm : c.2.hd ∈ acc) : headS q acc r = acc := by unfold headS; rw [h]; exact if_pos hm
theorem headS_out {q : Pth} {acc : List Hd} {r : Ln} {c : Cnd} (h : of q r.cs = some c) (hm : ¬ c.2.hd ∈ acc) : headS q acc r = acc ++ [c.2.hd] := by unfold headS; rw [h]; exact if_neg hm
def TreeSpec (f : Nat) : Prop := ∀ (w0 w : World) (H : List It) (K : World → Prop) (bm : Nat) (x : Int) (o : Option Addr) (c : Nat) (l : List ML) (h : Hd),
    HS w0 noM (Go.Fw.cb bm 58 [.int .i64 x] :: frz w0 K :: H) w → (∀ w, K w → RdLs w o c l) → (∀ m ∈ l, Rw m.un) → l.length ≤ 64 → x ≤ f → -100000 ≤ x → x ≤ 1024 →
    Ret Try.prog 21 #[.pointer (some (bat bm 0)), .slice o l.length c] w (fun v w' => ∃ (K' : World → Prop) (t : MT), v = .agg (encT t).toArray ∧ (∀ w, K' w → K w ∧ RdTB w t) ∧ t.h = h ∧ t.un = (treeP f h (l.map ML.un) x).1 ∧ HS w0 noM (Go.Fw.cb bm 58 [.int .i64 ((treeP f h (l.map ML.un) x).2)] :: all (itT t) :: frz w0 K' :: H) w')
set_option maxRecDepth 10000 attribute [local irreducible] Code.wp wpList Calls Ex Op1 sat bat blk cb own Go.Fw.mp Go.Fw.mpO Go.Fw.mpI Go.Fw.mpE Go.Fw.itr HS Rd Ret wkD Hp Cl Cls Exit.then Exit.inBlock Exit.noGoto bodyPost Go.Fw.flat wk2 Go.Fw.all Go.Fw.owns wpOp
attribute [local irreducible] encA encC encB encL treeP treeB brsP heads restL left itT itTs
set_option maxHeartbeats 8000000 in
theorem tree_test (f : Nat) (ih : TreeSpec f) (w0 w : World) (H : List It) (K : World → Prop) (bm : Nat) (x : Int) (o : Option Addr) (c : Nat) (m : ML) (l : List ML) (h : Hd) (c0 : MC) (cs0 : List MC)
    (hH : HS w0 noM (Go.Fw.cb bm 58 [.int .i64 x] :: frz w0 K :: H) w) (hR : ∀ w, K w → RdLs w o c (m :: l)) (hrw : ∀ s ∈ m :: l, Rw s.un) (hl : (m :: l).length ≤ 64) (hxf : x ≤ f + 1) (hx : ¬ x - 1 < 0) (hx2 : x ≤ 1024) (hcs : m.cs = c0 :: cs0) :
    Ret Try.prog 21 #[.pointer (some (bat bm 0)), .slice o (m :: l).length c] w (fun v w' => ∃ (K' : World → Prop) (t : MT), v = .agg (encT t).toArray ∧ (∀ w, K' w → K w ∧ RdTB w t) ∧ t.h = h ∧ t.un = (.mk h 3 0 [] c0.q (brsP (treeP f) c0.q ((m :: l).map ML.un) (heads c0.q ((m :: l).map ML.un)) (x - 1)).1 [(treeP f hd0 (restL c0.q ((m :: l).map ML.un)) (brsP (treeP f) c0.q ((m :: l).map ML.un) (heads c0.q ((m :: l).map ML.un)) (x - 1)).2).1]) ∧ HS w0 noM (Go.Fw.cb bm 58 [.int .i64 ((treeP f hd0 (restL c0.q ((m :: l).map ML.un)) (brsP (treeP f) c0.q ((m :: l).map ML.un) (heads c0.q ((m :: l).map ML.un)) (x - 1)).2).2)] :: all (itT t) :: frz w0 K' :: H) w') := by
  have i0 : i64ok (x - 1) := by unfold i64ok; omega
  have hK0 := hH.frz_w (.tail _ (.head _)) hR
  have hsp : Sp o (m :: l).length := hK0.1.sp (sz := 3) (flat_length encL_len (m :: l)) (by omega)
  have hm0 := hK0.2.2.2 m (.head _)
  clear hK0
  have hspC : Sp m.oc m.cs.length := hm0.1.1.sp (sz := 7) (flat_length encC_len m.cs) (by omega)
  clear hm0
  have hlen : 0 < (m :: l).length := Nat.succ_pos _
  have hrL : ∀ w, K w → Rd w o (flat encL (m :: l)) := fun w h => (hR w h).1
  have hm : ∀ w, K w → RdL w m := fun w h => (hR w h).2.2.2 m (.head _)
  have hvm := flat_all encL_len (l := m :: l) (i := 0) (x := m) rfl
  rw [encL_eq] at hvm
  have hvm1 := hvm 1 _ rfl
  have hrC : ∀ w, K w → Rd w m.oc (flat encC m.cs) := fun w h => (hm w h).1.1
  have hrQ : ∀ w, K w → RdQ w c0.o c0.c c0.q := fun w h => ((hm w h).1.2.2.2 c0 (by rw [hcs]; exact .head _)).1
  have hqc : c0.q.length ≤ 256 := by
    have := (hrw m (.head _)).path c0.un (by show c0.un ∈ m.cs.map MC.un; rw [hcs]; exact .head _)
    have h2 : c0.un.1 = c0.q := rfl
    rw [h2] at this
    omega
  have hvc := flat_all encC_len (l := m.cs) (i := 0) (x := c0) (by rw [hcs]; rfl)
  rw [encC_eq] at hvc
  have hvc0 := hvc 0 _ rfl
  have hcl0 : 0 < m.cs.length := by rw [hcs]; exact Nat.succ_pos _
  generalize hll : m :: l = ll at *
  (refine enter (N := 128) Try.func21 rfl Try.ntmps21 rfl ?_; intro a hA; dsimp only [sl0, Nat.reduceAdd] at hA)
  repeat' (first | (first | (refine GT ?_ ?_ <;> intro hg <;> clear hA a <;> intro a hA <;> (first | exact FA | replace hg := of_decide_eq_true hg | replace hg := of_decide_eq_false hg | skip)) | ((first | apply st_ex hA hH rfl rfl (by decide) | apply dr_ex hA rfl rfl rfl (by decide) | apply dr_exp hA rfl rfl rfl (by decide) | apply dr_ex3 hA hH rfl rfl rfl (by decide)); (first | (apply ex_load; rfl; exact cl_frz MEMT hrL hvm1) | (apply ex_load; rfl; exact cl_frz MEMT hrC hvc0)); clear hA a; intro a hA) | (refine QT ?_; clear hA a; intro a hA) | (first | (refine BT ?_; clear hA hH; rintro _ w ⟨bN, rfl, hH⟩ a hA) | (refine LT ?_; clear hA hH; rintro _ w ⟨oN, rfl, hH⟩ a hA) | (refine AT ?_; clear hA; rintro _ w ⟨oN, cN, rfl, hH2⟩ a hA; clear hH; have hH := (hH2 _ (by (repeat constructor))).tail; clear hH2) | (refine S0T ?_; clear hH; rintro _ w hH) )) | ((first | refine CT ?_ | (refine DT ?_ ?_ <;> intro hc <;> try (exfalso; omega))) <;> repeat' refine CT ?_) | (first | (refine DSK ?_; clear hA a; intro a hA) | (first | (refine DLT ?_; clear hA hH; rintro _ w ⟨oN, rfl, hH⟩; refine ⟨STT, ?_⟩; intro a hA) | (refine DAT ?_; clear hA; rintro _ w ⟨oN, cN, rfl, hH2⟩; clear hH; have hH := (hH2 _ (by (repeat constructor))).tail; clear hH2; refine ⟨STT, ?_⟩; intro a hA))) )
  all_goals (try (exfalso; omega))
  obtain ⟨b4, hb4⟩ : ∃ b, b = bN := ⟨_, rfl⟩
  rw [← hb4] at hA hH
  clear hb4 bN
  have hspQ : c0.o = none → c0.q.length = 0 := fun h0 => by
    rcases Nat.eq_zero_or_pos c0.q.length with h1 | h1
    · exact h1
    · obtain ⟨b, off, h2⟩ := ((hrQ _ (hH.frz MEMT)).1).sp (sz := 1) (flat_length encX_len c0.q) (by omega) h1
      rw [h0] at h2; cases h2
  (refine st_op hA rfl rfl (by decide) (op_call rfl rfl rfl (cloneX_spec _ c0.o c0.q.length c0.c (flat encX c0.q) ((hrQ _ (hH.frz MEMT)).1) (flat_length encX_len c0.q) (encX_one _) hspQ (by omega))) ?_; clear hA; rintro _ w ⟨o1, c1, rfl, hj⟩ a hA; replace hH := hH.join hj; clear hj)
  repeat' (first | (first | (refine GT ?_ ?_ <;> intro hg <;> clear hA a <;> intro a hA <;> (first | exact FA | replace hg := of_decide_eq_true hg | replace hg := of_decide_eq_false hg | skip)) | ((first | apply st_ex hA hH rfl rfl (by decide) | apply dr_ex hA rfl rfl rfl (by decide) | apply dr_exp hA rfl rfl rfl (by decide) | apply dr_ex3 hA hH rfl rfl rfl (by decide)); (first | (apply ex_build_p #[.int .i64 3, .int .i64 0, .slice none 0 0, .slice o1 c0.q.length c1, .slice none 0 0, .slice none 0 0]; rfl; (repeat (first | (intro _ h; exact absurd h (List.not_mem_nil)) | (refine List.forall_mem_cons.2 ⟨one_cell_of _ _, ?_⟩))); rfl)); clear hA a; intro a hA) | (refine QT ?_; clear hA a; intro a hA) | (first | (refine BT ?_; clear hA hH; rintro _ w ⟨bN, rfl, hH⟩ a hA) | (refine LT ?_; clear hA hH; rintro _ w ⟨oN, rfl, hH⟩ a hA) | (refine AT ?_; clear hA; rintro _ w ⟨oN, cN, rfl, hH2⟩ a hA; clear hH; have hH := (hH2 _ (by (repeat constructor))).tail; clear hH2) | (refine S0T ?_; clear hH; rintro _ w hH) | (apply st_op0 hA rfl rfl; apply op_store_agg (vs := [.int .i64 3, .int .i64 0, .slice none 0 0, .slice o1 c0.q.length c1, .slice none 0 0, .slice none 0 0]); rfl; rfl; exact hH; (repeat constructor); (repeat rfl); clear hH; rintro _ w hH))) | ((first | refine CT ?_ | (refine DT ?_ ?_ <;> intro hc <;> try (exfalso; omega))) <;> repeat' refine CT ?_) | (first | (refine DSK ?_; clear hA a; intro a hA) | (first | (refine DLT ?_; clear hA hH; rintro _ w ⟨oN, rfl, hH⟩; refine ⟨STT, ?_⟩; intro a hA) | (refine DAT ?_; clear hA; rintro _ w ⟨oN, cN, rfl, hH2⟩; clear hH; have hH := (hH2 _ (by (repeat constructor))).tail; clear hH2; refine ⟨STT, ?_⟩; intro a hA))) )
  obtain ⟨b6, hb6⟩ : ∃ b, b = bN := ⟨_, rfl⟩
  rw [← hb6] at hA hH
  clear hb6 bN
  have hsn1 : ∀ {i : Nat} {s : ML}, ll[i]? = some s → heads c0.q ((ll.take (i + 1)).map ML.un) = headS c0.q (heads c0.q ((ll.take i).map ML.un)) s.un := fun hs => by
    rw [take_next hs, List.map_append]; exact heads_snoc ..
  have hsn2 : ∀ {i : Nat} {s : ML}, ll[i]? = some s → restL c0.q ((ll.take (i + 1)).map ML.un) = restL c0.q ((ll.take i).map ML.un) ++ (if (of c0.q s.un.cs).isNone then [s.un] else []) := fun hs => by
    rw [take_next hs, List.map_append]; exact restL_snoc ..
  refine wp_lpk (S := Nat) (fun i a w => ∃ (ob oo : Option Addr) (cb_ co : Nat) (hs : List Hd) (lo : List ML), (i ≤ ll.length ∧ hs = heads c0.q ((ll.take i).map ML.un) ∧ lo.map ML.un = restL c0.q ((ll.take i).map ML.un) ∧ ∀ s ∈ lo, s ∈ ll) ∧
      HS w0 noM (own 75 12 ob (hs.map zT).length cb_ (flat encR (hs.map zT)) :: own 52 3 oo lo.length co (flat encL lo) :: Go.Fw.cb b6 29 [.int .i64 3, .int .i64 0, .slice none 0 0, .slice o1 c0.q.length c1, .slice ob (hs.map zT).length cb_, .slice none 0 0] :: own 9 1 o1 c0.q.length c1 (flat encX c0.q) :: Go.Fw.cb b4 29 [.int .i64 0, .int .i64 0, .slice none 0 0, .slice none 0 0, .slice none 0 0, .slice none 0 0] :: Go.Fw.cb bm 58 [.int .i64 (x - 1)] :: frz w0 K :: H) w ∧ Sl 128 [(0, .pointer (some (bat bm 0))), (1, .slice o ll.length c), (4, .pointer (some (bat b4 0))), (5, .slice c0.o c0.q.length c0.c), (6, .pointer (some (bat b6 0))), (7, .slice oo lo.length co), (60, .slice o ll.length c), (61, .int .i64 ll.length), (62, .int .i64 i)] a)
    (fun i => ll.length - i)
    (fun a w => ∃ (ob oo : Option Addr) (cb_ co : Nat) (hs : List Hd) (lo : List ML), (hs = heads c0.q (ll.map ML.un) ∧ lo.map ML.un = restL c0.q (ll.map ML.un) ∧ ∀ s ∈ lo, s ∈ ll) ∧
      HS w0 noM (own 75 12 ob (hs.map zT).length cb_ (flat encR (hs.map zT)) :: own 52 3 oo lo.length co (flat encL lo) :: Go.Fw.cb b6 29 [.int .i64 3, .int .i64 0, .slice none 0 0, .slice o1 c0.q.length c1, .slice ob (hs.map zT).length cb_, .slice none 0 0] :: own 9 1 o1 c0.q.length c1 (flat encX c0.q) :: Go.Fw.cb b4 29 [.int .i64 0, .int .i64 0, .slice none 0 0, .slice none 0 0, .slice none 0 0, .slice none 0 0] :: Go.Fw.cb bm 58 [.int .i64 (x - 1)] :: frz w0 K :: H) w ∧ Sl 128 [(0, .pointer (some (bat bm 0))), (1, .slice o ll.length c), (4, .pointer (some (bat b4 0))), (5, .slice c0.o c0.q.length c0.c), (6, .pointer (some (bat b6 0))), (7, .slice oo lo.length co)] a) 0
    ⟨none, none, 0, 0, [], [], ⟨Nat.zero_le _, by rw [List.take_zero]; exact heads_nil _, by rw [List.take_zero]; exact restL_nil _, fun s hs => absurd hs List.not_mem_nil⟩, (((hH.nil_flat encL 52 3).nil_flat encR 75 12)).perm (by (repeat (first | exact List.Perm.refl _ | exact List.Perm.nil | refine perm_pick 0 rfl ?_ | refine perm_pick 1 rfl ?_ | refine perm_pick 2 rfl ?_ | refine perm_pick 3 rfl ?_ | refine perm_pick 4 rfl ?_ | refine perm_pick 5 rfl ?_ | refine perm_pick 6 rfl ?_ | refine perm_pick 7 rfl ?_ | refine perm_pick 8 rfl ?_ | refine perm_pick 9 rfl ?_ | refine perm_pick 10 rfl ?_ | refine perm_pick 11 rfl ?_))), (hA.sub (by (repeat (first | exact trivial | refine ⟨rfl, ?_⟩))))⟩ ?_ ?_
  · clear hA hH
    --[[
    rintro i a w ⟨ob, oo, cb_, co, hs, lo, ⟨hi, hhs, hlo, hlm⟩, hH, hA⟩
    by_cases hlt : i < ll.length
    rotate_left
    · obtain rfl : i = ll.length := by omega
      rw [List.take_length] at hhs hlo
      repeat' (first | (first | (refine GT ?_ ?_ <;> intro hg <;> clear hA a <;> intro a hA <;> (first | exact FA | replace hg := of_decide_eq_true hg | replace hg := of_decide_eq_false hg | skip)) | (refine QT ?_; clear hA a; intro a hA) | (first | (refine BT ?_; clear hA hH; rintro _ w ⟨bN, rfl, hH⟩ a hA) | (refine LT ?_; clear hA hH; rintro _ w ⟨oN, rfl, hH⟩ a hA) | (refine AT ?_; clear hA; rintro _ w ⟨oN, cN, rfl, hH2⟩ a hA; clear hH; have hH := (hH2 _ (by (repeat constructor))).tail; clear hH2) | (refine S0T ?_; clear hH; rintro _ w hH) )) | ((first | refine CT ?_ | (refine DT ?_ ?_ <;> intro hc <;> try (exfalso; omega))) <;> repeat' refine CT ?_) | (first | (refine DSK ?_; clear hA a; intro a hA) | (first | (refine DLT ?_; clear hA hH; rintro _ w ⟨oN, rfl, hH⟩; refine ⟨STT, ?_⟩; intro a hA) | (refine DAT ?_; clear hA; rintro _ w ⟨oN, cN, rfl, hH2⟩; clear hH; have hH := (hH2 _ (by (repeat constructor))).tail; clear hH2; refine ⟨STT, ?_⟩; intro a hA))) )
      exact ⟨ob, oo, cb_, co, hs, lo, ⟨hhs, hlo, hlm⟩, hH, (hA.sub (by (repeat (first | exact trivial | refine ⟨rfl, ?_⟩))))⟩
    obtain ⟨s, hs0⟩ : ∃ s, ll[i]? = some s := ⟨_, List.getElem?_eq_getElem hlt⟩
    have hsm := List.mem_of_getElem? hs0
    have hvs := flat_all encL_len hs0
    rw [encL_eq] at hvs
    have hRx : ∀ w, K w → RdL w s := fun w h => (hR w h).2.2.2 s hsm
    have hsw := hrw s hsm
    have hs1 := hsn1 hs0
    have hs2 := hsn2 hs0
    have hcl : s.cs.length ≤ 256 := by
      have h1 := hsw.sz
      have h2 := szC_len s.un.cs
      have : s.un.cs.length = s.cs.length := List.length_map ..
      omega
    have hcq : ∀ m ∈ s.cs, m.q.length + szA m.p ≤ 256 := fun m hm => hsw.path m.un (List.mem_map.2 ⟨m, hm, rfl⟩)
    have hlol : lo.length ≤ 64 := by
      have e1 := congrArg List.length hlo
      rw [List.length_map] at e1
      have := restL_len c0.q ((ll.take i).map ML.un)
      rw [List.length_map, List.length_take] at this
      omega
    have hhsl : hs.length ≤ 64 := by
      have := heads_len c0.q ((ll.take i).map ML.un)
      rw [← hhs, List.length_map, List.length_take] at this
      omega
    repeat' (first | (first | (refine GT ?_ ?_ <;> intro hg <;> clear hA a <;> intro a hA <;> (first | exact FA | replace hg := of_decide_eq_true hg | replace hg := of_decide_eq_false hg | skip)) | ((first | apply st_ex hA hH rfl rfl (by decide) | apply dr_ex hA rfl rfl rfl (by decide) | apply dr_exp hA rfl rfl rfl (by decide) | apply dr_ex3 hA hH rfl rfl rfl (by decide)); (first | (apply ex_load_st (vs := [.int .i64 s.n, .slice s.oc s.cs.length s.cc, .slice s.ob s.bs.length s.cb]); rfl; rfl; exact cls_frz MEMT hrL hvs)); clear hA a; intro a hA) | (refine QT ?_; clear hA a; intro a hA) | (first | (refine BT ?_; clear hA hH; rintro _ w ⟨bN, rfl, hH⟩ a hA) | (refine LT ?_; clear hA hH; rintro _ w ⟨oN, rfl, hH⟩ a hA) | (refine AT ?_; clear hA; rintro _ w ⟨oN, cN, rfl, hH2⟩ a hA; clear hH; have hH := (hH2 _ (by (repeat constructor))).tail; clear hH2) | (refine S0T ?_; clear hH; rintro _ w hH) | (apply st_op0 hA rfl rfl; apply op_store_agg (vs := [.int .i64 s.n, .slice s.oc s.cs.length s.cc, .slice s.ob s.bs.length s.cb]); rfl; rfl; exact hH; (repeat constructor); (repeat rfl); clear hH; rintro _ w hH))) | ((first | refine CT ?_ | (refine DT ?_ ?_ <;> intro hc <;> try (exfalso; omega))) <;> repeat' refine CT ?_) | (first | (refine DSK ?_; clear hA a; intro a hA) | (first | (refine DLT ?_; clear hA hH; rintro _ w ⟨oN, rfl, hH⟩; refine ⟨STT, ?_⟩; intro a hA) | (refine DAT ?_; clear hA; rintro _ w ⟨oN, cN, rfl, hH2⟩; clear hH; have hH := (hH2 _ (by (repeat constructor))).tail; clear hH2; refine ⟨STT, ?_⟩; intro a hA))) )
    obtain ⟨b9, hb9⟩ : ∃ b, b = bN := ⟨_, rfl⟩
    rw [← hb9] at hA hH
    clear hb9 bN
    (refine st_op hA rfl rfl (by decide) (op_call rfl rfl rfl (at_spec _ s c0.o c0.c c0.q (hRx _ (hH.frz MEMT)).1 (hrQ _ (hH.frz MEMT)) (by omega) (fun m hm => by have := hcq m hm; omega))) ?_; clear hA; rintro _ w ⟨rfl, hk⟩ a hA; replace hH := hH.keep hk; clear hk)
    rcases atI_cases s.cs c0.q with ⟨hat, hno⟩ | ⟨j, y, hat, hy, hyq, hfirst⟩
    · rw [hat] at hA
      have hof := of_none hno
      rw [headS_none hof] at hs1
      rw [if_pos (show (of c0.q s.un.cs).isNone = true by rw [show of c0.q s.un.cs = none from hof]; rfl)] at hs2
      repeat' (first | (first | (refine GT ?_ ?_ <;> intro hg <;> clear hA a <;> intro a hA <;> (first | exact FA | replace hg := of_decide_eq_true hg | replace hg := of_decide_eq_false hg | skip)) | (refine QT ?_; clear hA a; intro a hA) | (first | (refine BT ?_; clear hA hH; rintro _ w ⟨bN, rfl, hH⟩ a hA) | (refine LT ?_; clear hA hH; rintro _ w ⟨oN, rfl, hH⟩ a hA) | (refine AT ?_; clear hA; rintro _ w ⟨oN, cN, rfl, hH2⟩ a hA; clear hH; have hH := (hH2 _ (by (repeat constructor))).tail; clear hH2) | (refine S0T ?_; clear hH; rintro _ w hH) )) | ((first | refine CT ?_ | (refine DT ?_ ?_ <;> intro hc <;> try (exfalso; omega))) <;> repeat' refine CT ?_) | (first | (refine DSK ?_; clear hA a; intro a hA) | (first | (refine DLT ?_; clear hA hH; rintro _ w ⟨oN, rfl, hH⟩; refine ⟨STT, ?_⟩; intro a hA) | (refine DAT ?_; clear hA; rintro _ w ⟨oN, cN, rfl, hH2⟩; clear hH; have hH := (hH2 _ (by (repeat constructor))).tail; clear hH2; refine ⟨STT, ?_⟩; intro a hA))) )
      rw [← encL_eq, ← flat_snoc, ← len_snoc lo s] at hH
      rw [← len_snoc lo s] at hA
      exact ⟨i + 1, ⟨ob, oN, cb_, cN, hs, lo ++ [s], ⟨hlt, by rw [hs1, hhs], by rw [hs2, List.map_append, hlo]; rfl, fun r hr => by
        rcases List.mem_append.1 hr with hr | hr
        · exact hlm r hr
        · rw [List.mem_singleton] at hr; subst hr; exact hsm⟩, hH.er 0, (hA.sub (by (repeat (first | exact trivial | refine ⟨rfl, ?_⟩))))⟩, by omega⟩
    have hof : of c0.q s.un.cs = some y.un := of_some hy hyq hfirst
    rw [hat] at hA
    rw [if_neg (show ¬ (of c0.q s.un.cs).isNone = true by rw [hof]; exact Bool.false_ne_true), List.append_nil] at hs2
    have hjl := (List.getElem?_eq_some_iff.1 hy).1
    have hym := List.mem_of_getElem? hy
    have hyvs := flatC_p hy
    have hspS : Sp s.oc s.cs.length := (hRx _ (hH.frz MEMT)).1.1.sp (sz := 7) (flat_length encC_len s.cs) (by omega)
    have hrS : ∀ w, K w → Rd w s.oc (flat encC s.cs) := fun w h => (hRx w h).1.1
    repeat' (first | (first | (refine GT ?_ ?_ <;> intro hg <;> clear hA a <;> intro a hA <;> (first | exact FA | replace hg := of_decide_eq_true hg | replace hg := of_decide_eq_false hg | skip)) | ((first | apply st_ex hA hH rfl rfl (by decide) | apply dr_ex hA rfl rfl rfl (by decide) | apply dr_exp hA rfl rfl rfl (by decide) | apply dr_ex3 hA hH rfl rfl rfl (by decide)); (first | (apply ex_load_st (vs := [.int .i64 y.p.k, .int .i64 y.p.v, .int .i64 y.p.n, .string y.p.s, .slice y.p.ol y.p.ls.length y.p.cl, .slice y.p.oa y.p.ps.length y.p.ca]); rfl; rfl; exact cls_frz MEMT hrS hyvs) | (apply ex_build_p #[.int .i64 y.p.hd.ap.k, .int .i64 y.p.hd.ap.v, .int .i64 y.p.hd.ap.n, .string y.p.hd.ap.s, .slice y.p.hd.ap.ol y.p.hd.ap.ls.length y.p.hd.ap.cl, .slice y.p.hd.ap.oa y.p.hd.ap.ps.length y.p.hd.ap.ca]; rfl; (repeat (first | (intro _ h; exact absurd h (List.not_mem_nil)) | (refine List.forall_mem_cons.2 ⟨one_cell_of _ _, ?_⟩))); rfl)); clear hA a; intro a hA) | (refine QT ?_; clear hA a; intro a hA) | (first | (refine BT ?_; clear hA hH; rintro _ w ⟨bN, rfl, hH⟩ a hA) | (refine LT ?_; clear hA hH; rintro _ w ⟨oN, rfl, hH⟩ a hA) | (refine AT ?_; clear hA; rintro _ w ⟨oN, cN, rfl, hH2⟩ a hA; clear hH; have hH := (hH2 _ (by (repeat constructor))).tail; clear hH2) | (refine S0T ?_; clear hH; rintro _ w hH) | (apply st_op0 hA rfl rfl; apply op_store_agg (vs := [.int .i64 y.p.k, .int .i64 y.p.v, .int .i64 y.p.n, .string y.p.s, .slice y.p.ol y.p.ls.length y.p.cl, .slice y.p.oa y.p.ps.length y.p.ca]); rfl; rfl; exact hH; (repeat constructor); (repeat rfl); clear hH; rintro _ w hH) | (apply st_op0 hA rfl rfl; apply op_store_agg (vs := [.int .i64 y.p.hd.ap.k, .int .i64 y.p.hd.ap.v, .int .i64 y.p.hd.ap.n, .string y.p.hd.ap.s, .slice y.p.hd.ap.ol y.p.hd.ap.ls.length y.p.hd.ap.cl, .slice y.p.hd.ap.oa y.p.hd.ap.ps.length y.p.hd.ap.ca]); rfl; rfl; exact hH; (repeat constructor); (repeat rfl); clear hH; rintro _ w hH))) | ((first | refine CT ?_ | (refine DT ?_ ?_ <;> intro hc <;> try (exfalso; omega))) <;> repeat' refine CT ?_) | (first | (refine DSK ?_; clear hA a; intro a hA) | (first | (refine DLT ?_; clear hA hH; rintro _ w ⟨oN, rfl, hH⟩; refine ⟨STT, ?_⟩; intro a hA) | (refine DAT ?_; clear hA; rintro _ w ⟨oN, cN, rfl, hH2⟩; clear hH; have hH := (hH2 _ (by (repeat constructor))).tail; clear hH2; refine ⟨STT, ?_⟩; intro a hA))) )
    (refine st_op hA rfl rfl (by decide) (op_call rfl rfl rfl (containsR_spec _ _ _ ob cb_ (hs.map zT) bN 38 y.p.hd hH (by exact MEMT) (hH.own_rd (by exact MEMT)) (by rw [List.length_map]; omega))) ?_; clear hA; rintro _ w ⟨rfl, hk⟩ a hA; replace hH := hH.keep hk; clear hk)
    rw [any_zT] at hA
    by_cases hin : y.p.hd ∈ hs
    · rw [decide_eq_true hin] at hA
      rw [headS_in hof (hhs ▸ hin)] at hs1
      repeat' (first | (first | (refine GT ?_ ?_ <;> intro hg <;> clear hA a <;> intro a hA <;> (first | exact FA | replace hg := of_decide_eq_true hg | replace hg := of_decide_eq_false hg | skip)) | (refine QT ?_; clear hA a; intro a hA) | (first | (refine BT ?_; clear hA hH; rintro _ w ⟨bN, rfl, hH⟩ a hA) | (refine LT ?_; clear hA hH; rintro _ w ⟨oN, rfl, hH⟩ a hA) | (refine AT ?_; clear hA; rintro _ w ⟨oN, cN, rfl, hH2⟩ a hA; clear hH; have hH := (hH2 _ (by (repeat constructor))).tail; clear hH2) | (refine S0T ?_; clear hH; rintro _ w hH) )) | ((first | refine CT ?_ | (refine DT ?_ ?_ <;> intro hc <;> try (exfalso; omega))) <;> repeat' refine CT ?_) | (first | (refine DSK ?_; clear hA a; intro a hA) | (first | (refine DLT ?_; clear hA hH; rintro _ w ⟨oN, rfl, hH⟩; refine ⟨STT, ?_⟩; intro a hA) | (refine DAT ?_; clear hA; rintro _ w ⟨oN, cN, rfl, hH2⟩; clear hH; have hH := (hH2 _ (by (repeat constructor))).tail; clear hH2; refine ⟨STT, ?_⟩; intro a hA))) )
      exact ⟨i + 1, ⟨ob, oo, cb_, co, hs, lo, ⟨hlt, by rw [hs1, hhs], by rw [hs2, hlo], hlm⟩, ((hH.er 0).er 0).er 0, (hA.sub (by (repeat (first | exact trivial | refine ⟨rfl, ?_⟩))))⟩, by omega⟩
    · rw [decide_eq_false hin] at hA
      rw [headS_out hof (hhs ▸ hin), ← hhs] at hs1
      have hll2 : (hs.map zT).length ≤ 64 := by rw [List.length_map]; exact hhsl
      repeat' (first | (first | (refine GT ?_ ?_ <;> intro hg <;> clear hA a <;> intro a hA <;> (first | exact FA | replace hg := of_decide_eq_true hg | replace hg := of_decide_eq_false hg | skip)) | ((first | apply st_ex hA hH rfl rfl (by decide) | apply dr_ex hA rfl rfl rfl (by decide) | apply dr_exp hA rfl rfl rfl (by decide) | apply dr_ex3 hA hH rfl rfl rfl (by decide)); (first | (apply ex_build_g (vs := [.agg #[.int .i64 y.p.hd.ap.k, .int .i64 y.p.hd.ap.v, .int .i64 y.p.hd.ap.n, .string y.p.hd.ap.s, .slice y.p.hd.ap.ol y.p.hd.ap.ls.length y.p.hd.ap.cl, .slice y.p.hd.ap.oa y.p.hd.ap.ps.length y.p.hd.ap.ca] ]) [(0, 6), (6, 6)] (encR (zT y.p.hd)).toArray; rfl; exact ⟨size_of _ _ _, size_of _ _ _, trivial⟩; exact fill_R y.p.hd)); clear hA a; intro a hA) | (refine QT ?_; clear hA a; intro a hA) | (first | (refine BT ?_; clear hA hH; rintro _ w ⟨bN, rfl, hH⟩ a hA) | (refine LT ?_; clear hA hH; rintro _ w ⟨oN, rfl, hH⟩ a hA) | (refine AT ?_; clear hA; rintro _ w ⟨oN, cN, rfl, hH2⟩ a hA; clear hH; have hH := (hH2 _ (by (repeat constructor))).tail; clear hH2) | (refine S0T ?_; clear hH; rintro _ w hH) )) | ((first | refine CT ?_ | (refine DT ?_ ?_ <;> intro hc <;> try (exfalso; omega))) <;> repeat' refine CT ?_) | (first | (refine DSK ?_; clear hA a; intro a hA) | (first | (refine DLT ?_; clear hA hH; rintro _ w ⟨oN, rfl, hH⟩; refine ⟨STT, ?_⟩; intro a hA) | (refine DAT ?_; clear hA; rintro _ w ⟨oN, cN, rfl, hH2⟩; clear hH; have hH := (hH2 _ (by (repeat constructor))).tail; clear hH2; refine ⟨STT, ?_⟩; intro a hA))) )
      (apply st_op hA rfl rfl (by decide); apply op_sliceLit (xs := encR (zT y.p.hd)) (vs := [.agg (encR (zT y.p.hd)).toArray]); rfl; rfl; exact (Cats.cn (cs := encR (zT y.p.hd)) Cats.nil); rfl; rfl; rfl; exact hH; clear hA hH; rintro _ w ⟨oN, rfl, hH⟩ a hA)
      repeat' (first | (first | (refine GT ?_ ?_ <;> intro hg <;> clear hA a <;> intro a hA <;> (first | exact FA | replace hg := of_decide_eq_true hg | replace hg := of_decide_eq_false hg | skip)) | (refine QT ?_; clear hA a; intro a hA) | (first | (refine BT ?_; clear hA hH; rintro _ w ⟨bN, rfl, hH⟩ a hA) | (refine LT ?_; clear hA hH; rintro _ w ⟨oN, rfl, hH⟩ a hA) | (refine AT ?_; clear hA; rintro _ w ⟨oN, cN, rfl, hH2⟩ a hA; clear hH; have hH := (hH2 _ (by (repeat constructor))).tail; clear hH2) | (refine S0T ?_; clear hH; rintro _ w hH) )) | ((first | refine CT ?_ | (refine DT ?_ ?_ <;> intro hc <;> try (exfalso; omega))) <;> repeat' refine CT ?_) | (first | (refine DSK ?_; clear hA a; intro a hA) | (first | (refine DLT ?_; clear hA hH; rintro _ w ⟨oN, rfl, hH⟩; refine ⟨STT, ?_⟩; intro a hA) | (refine DAT ?_; clear hA; rintro _ w ⟨oN, cN, rfl, hH2⟩; clear hH; have hH := (hH2 _ (by (repeat constructor))).tail; clear hH2; refine ⟨STT, ?_⟩; intro a hA))) )
      rw [← flat_snoc, ← len_snoc (hs.map zT) (zT y.p.hd)] at hH
      rw [← len_snoc (hs.map zT) (zT y.p.hd)] at hA
      have em : hs.map zT ++ [zT y.p.hd] = (hs ++ [y.p.hd]).map zT := by rw [List.map_append]; rfl
      rw [em] at hH hA
      (apply st_op0 hA rfl rfl; apply op_store_fld (cs' := [.int .i64 3, .int .i64 0, .slice none 0 0, .slice o1 c0.q.length c1, .slice oN ((hs ++ [y.p.hd]).map zT).length cN, .slice none 0 0]); rfl; rfl; rfl; exact hH; (repeat constructor); clear hH; rintro _ w hH)
      repeat' (first | (first | (refine GT ?_ ?_ <;> intro hg <;> clear hA a <;> intro a hA <;> (first | exact FA | replace hg := of_decide_eq_true hg | replace hg := of_decide_eq_false hg | skip)) | (refine QT ?_; clear hA a; intro a hA) | (first | (refine BT ?_; clear hA hH; rintro _ w ⟨bN, rfl, hH⟩ a hA) | (refine LT ?_; clear hA hH; rintro _ w ⟨oN, rfl, hH⟩ a hA) | (refine AT ?_; clear hA; rintro _ w ⟨oN, cN, rfl, hH2⟩ a hA; clear hH; have hH := (hH2 _ (by (repeat constructor))).tail; clear hH2) | (refine S0T ?_; clear hH; rintro _ w hH) )) | ((first | refine CT ?_ | (refine DT ?_ ?_ <;> intro hc <;> try (exfalso; omega))) <;> repeat' refine CT ?_) | (first | (refine DSK ?_; clear hA a; intro a hA) | (first | (refine DLT ?_; clear hA hH; rintro _ w ⟨oN, rfl, hH⟩; refine ⟨STT, ?_⟩; intro a hA) | (refine DAT ?_; clear hA; rintro _ w ⟨oN, cN, rfl, hH2⟩; clear hH; have hH := (hH2 _ (by (repeat constructor))).tail; clear hH2; refine ⟨STT, ?_⟩; intro a hA))) )
      exact ⟨i + 1, ⟨oN, oo, cN, co, hs ++ [y.p.hd], lo, ⟨hlt, by rw [hs1]; rfl, by rw [hs2, hlo], hlm⟩, (((hH.er 0).er 0).er 0), (hA.sub (by (repeat (first | exact trivial | refine ⟨rfl, ?_⟩))))⟩, by omega⟩
    --]]
  clear hA hH hsn1 hsn2
  rintro a w ⟨ob, oo, cb_, co, hs, lo, ⟨hhs, hlo, hlm⟩, hH, hA⟩
  have hleo := hH.own_le (T := 52) (xs := flat encL lo) (by exact MEMT)
  replace hH := ((hH.pk 6 rfl).pk 2 rfl).frz_own
  have hlm2 : ∀ w, (Rd w oo (flat encL lo) ∧ K w) → RdLs w oo co lo := fun w h => ⟨h.1, hleo.1, hleo.2, fun s hs => (hR w h.2).2.2.2 s (hlm s hs)⟩
  have hKK : ∀ w, (Rd w oo (flat encL lo) ∧ K w) → K w := fun w h => h.2
  generalize hK1 : (fun w => Rd w oo (flat encL lo) ∧ K w) = K1 at *
  replace hlm2 : ∀ w, K1 w → RdLs w oo co lo := fun w h => hlm2 w (by rw [← hK1] at h; exact h)
  replace hKK : ∀ w, K1 w → K w := fun w h => hKK w (by rw [← hK1] at h; exact h)
  clear hK1
  obtain ⟨N, hN⟩ : ∃ N, N = (hs.map zT).length := ⟨_, rfl⟩
  rw [← hN] at hH
  have hNh : hs.length = N := by rw [hN, List.length_map]
  have hhl : hs.length ≤ 64 := by
    have := heads_len c0.q (ll.map ML.un)
    rw [← hhs, List.length_map] at this
    omega
  repeat' (first | (first | (refine GT ?_ ?_ <;> intro hg <;> clear hA a <;> intro a hA <;> (first | exact FA | replace hg := of_decide_eq_true hg | replace hg := of_decide_eq_false hg | skip)) | (refine QT ?_; clear hA a; intro a hA) | (first | (refine BT ?_; clear hA hH; rintro _ w ⟨bN, rfl, hH⟩ a hA) | (refine LT ?_; clear hA hH; rintro _ w ⟨oN, rfl, hH⟩ a hA) | (refine AT ?_; clear hA; rintro _ w ⟨oN, cN, rfl, hH2⟩ a hA; clear hH; have hH := (hH2 _ (by (repeat constructor))).tail; clear hH2) | (refine S0T ?_; clear hH; rintro _ w hH) )) | ((first | refine CT ?_ | (refine DT ?_ ?_ <;> intro hc <;> try (exfalso; omega))) <;> repeat' refine CT ?_) | (first | (refine DSK ?_; clear hA a; intro a hA) | (first | (refine DLT ?_; clear hA hH; rintro _ w ⟨oN, rfl, hH⟩; refine ⟨STT, ?_⟩; intro a hA) | (refine DAT ?_; clear hA; rintro _ w ⟨oN, cN, rfl, hH2⟩; clear hH; have hH := (hH2 _ (by (repeat constructor))).tail; clear hH2; refine ⟨STT, ?_⟩; intro a hA))) )
  clear hN
  refine wp_lpk (S := Nat) (fun i a w => ∃ (K' : World → Prop) (ts : List MT), (i ≤ N ∧ ts.length = i ∧ ts.map MT.un = (brsP (treeP f) c0.q (ll.map ML.un) (hs.take i) (x - 1)).1 ∧ ts.map MT.h = hs.take i ∧ ∀ w, K' w → K1 w ∧ ∀ t ∈ ts, RdTB w t) ∧
      HS w0 noM (own 75 12 ob N cb_ (flat encR (ts ++ (hs.drop i).map zT)) :: all (itTs ts) :: Go.Fw.cb b6 29 [.int .i64 3, .int .i64 0, .slice none 0 0, .slice o1 c0.q.length c1, .slice ob N cb_, .slice none 0 0] :: own 9 1 o1 c0.q.length c1 (flat encX c0.q) :: Go.Fw.cb b4 29 [.int .i64 0, .int .i64 0, .slice none 0 0, .slice none 0 0, .slice none 0 0, .slice none 0 0] :: Go.Fw.cb bm 58 [.int .i64 (brsP (treeP f) c0.q (ll.map ML.un) (hs.take i) (x - 1)).2] :: frz w0 K' :: H) w ∧ Sl 128 [(0, .pointer (some (bat bm 0))), (1, .slice o ll.length c), (4, .pointer (some (bat b4 0))), (5, .slice c0.o c0.q.length c0.c), (6, .pointer (some (bat b6 0))), (7, .slice oo lo.length co), (102, .slice ob N cb_), (103, .int .i64 N), (104, .int .i64 i)] a)
    (fun i => N - i)
    (fun a w => ∃ (K' : World → Prop) (ts : List MT) (i : Nat), (i = N ∧ ts.length = i ∧ ts.map MT.un = (brsP (treeP f) c0.q (ll.map ML.un) (hs.take i) (x - 1)).1 ∧ ts.map MT.h = hs.take i ∧ ∀ w, K' w → K1 w ∧ ∀ t ∈ ts, RdTB w t) ∧
      HS w0 noM (own 75 12 ob N cb_ (flat encR (ts ++ (hs.drop i).map zT)) :: all (itTs ts) :: Go.Fw.cb b6 29 [.int .i64 3, .int .i64 0, .slice none 0 0, .slice o1 c0.q.length c1, .slice ob N cb_, .slice none 0 0] :: own 9 1 o1 c0.q.length c1 (flat encX c0.q) :: Go.Fw.cb b4 29 [.int .i64 0, .int .i64 0, .slice none 0 0, .slice none 0 0, .slice none 0 0, .slice none 0 0] :: Go.Fw.cb bm 58 [.int .i64 (brsP (treeP f) c0.q (ll.map ML.un) (hs.take i) (x - 1)).2] :: frz w0 K' :: H) w ∧ Sl 128 [(0, .pointer (some (bat bm 0))), (1, .slice o ll.length c), (4, .pointer (some (bat b4 0))), (5, .slice c0.o c0.q.length c0.c), (6, .pointer (some (bat b6 0))), (7, .slice oo lo.length co)] a) 0
    ⟨K1, [], ⟨Nat.zero_le _, rfl, by rw [List.take_zero, brsP_nil]; rfl, by rw [List.take_zero]; rfl, fun w h => ⟨h, fun t ht => absurd ht List.not_mem_nil⟩⟩, by rw [List.take_zero, brsP_nil, itTs_nil]; exact (hH.nil_all).perm (by (repeat (first | exact List.Perm.refl _ | exact List.Perm.nil | refine perm_pick 0 rfl ?_ | refine perm_pick 1 rfl ?_ | refine perm_pick 2 rfl ?_ | refine perm_pick 3 rfl ?_ | refine perm_pick 4 rfl ?_ | refine perm_pick 5 rfl ?_ | refine perm_pick 6 rfl ?_ | refine perm_pick 7 rfl ?_ | refine perm_pick 8 rfl ?_ | refine perm_pick 9 rfl ?_ | refine perm_pick 10 rfl ?_ | refine perm_pick 11 rfl ?_))), (hA.sub (by (repeat (first | exact trivial | refine ⟨rfl, ?_⟩))))⟩ ?_ ?_
  · clear hA hH
    rintro i a w ⟨K', ts, ⟨hi, htl, htu, hth, hK'⟩, hH, hA⟩
    by_cases hlt : i < N
    rotate_left
    · repeat' (first | (first | (refine GT ?_ ?_ <;> intro hg <;> clear hA a <;> intro a hA <;> (first | exact FA | replace hg := of_decide_eq_true hg | replace hg := of_decide_eq_false hg | skip)) | (refine QT ?_; clear hA a; intro a hA) | (first | (refine BT ?_; clear hA hH; rintro _ w ⟨bN, rfl, hH⟩ a hA) | (refine LT ?_; clear hA hH; rintro _ w ⟨oN, rfl, hH⟩ a hA) | (refine AT ?_; clear hA; rintro _ w ⟨oN, cN, rfl, hH2⟩ a hA; clear hH; have hH := (hH2 _ (by (repeat constructor))).tail; clear hH2) | (refine S0T ?_; clear hH; rintro _ w hH) )) | ((first | refine CT ?_ | (refine DT ?_ ?_ <;> intro hc <;> try (exfalso; omega))) <;> repeat' refine CT ?_) | (first | (refine DSK ?_; clear hA a; intro a hA) | (first | (refine DLT ?_; clear hA hH; rintro _ w ⟨oN, rfl, hH⟩; refine ⟨STT, ?_⟩; intro a hA) | (refine DAT ?_; clear hA; rintro _ w ⟨oN, cN, rfl, hH2⟩; clear hH; have hH := (hH2 _ (by (repeat constructor))).tail; clear hH2; refine ⟨STT, ?_⟩; intro a hA))) )
      exact ⟨K', ts, i, ⟨by omega, htl, htu, hth, hK'⟩, hH, (hA.sub (by (repeat (first | exact trivial | refine ⟨rfl, ?_⟩))))⟩
    obtain ⟨g, hg⟩ : ∃ g, hs[i]? = some g := ⟨_, List.getElem?_eq_getElem (by omega)⟩
    have hdrop : (hs.drop i).map zT = zT g :: (hs.drop (i + 1)).map zT := by
      obtain ⟨h1, h2⟩ := List.getElem?_eq_some_iff.1 hg
      rw [List.drop_eq_getElem_cons h1, h2]; rfl
    have hbs := brsP_snoc (T := treeP f) (q := c0.q) (l := ll.map ML.un) (hs.take i) g (x - 1)
    rw [← take_next hg] at hbs
    have hble := brsP_le (T := treeP f) (q := c0.q) (l := ll.map ML.un) (fun h s x hs => treeP_le f h s x (by rw [List.length_map] at hs; omega)) (hs.take i) (x - 1)
    rw [List.length_take] at hble
    have hp1 : pos (x - 1) = x - 1 := if_pos (by omega)
    have hp2 : 0 ≤ pos (brsP (treeP f) c0.q (ll.map ML.un) (hs.take i) (x - 1)).2 := by unfold pos; split <;> omega
    have hwi : (ts ++ (hs.drop i).map zT)[i]? = some (zT g) := by rw [hdrop, List.getElem?_append_right (by omega), htl, Nat.sub_self]; rfl
    have hws : (ts ++ (hs.drop i).map zT).set i = fun t => (ts ++ [t]) ++ (hs.drop (i + 1)).map zT := by
      funext t
      rw [hdrop, List.set_append_right (h := by omega), htl, Nat.sub_self, List.append_assoc]
      rfl
    have hvs := flat_all encR_len hwi
    repeat' (first | (first | (refine GT ?_ ?_ <;> intro hg <;> clear hA a <;> intro a hA <;> (first | exact FA | replace hg := of_decide_eq_true hg | replace hg := of_decide_eq_false hg | skip)) | ((first | apply st_ex hA hH rfl rfl (by decide) | apply dr_ex hA rfl rfl rfl (by decide) | apply dr_exp hA rfl rfl rfl (by decide) | apply dr_ex3 hA hH rfl rfl rfl (by decide)); (first | (apply ex_load_st (vs := encR (zT g)); rfl; rfl; apply cls_own; exact MEMT; exact hvs)); clear hA a; intro a hA) | (refine QT ?_; clear hA a; intro a hA) | (first | (refine BT ?_; clear hA hH; rintro _ w ⟨bN, rfl, hH⟩ a hA) | (refine LT ?_; clear hA hH; rintro _ w ⟨oN, rfl, hH⟩ a hA) | (refine AT ?_; clear hA; rintro _ w ⟨oN, cN, rfl, hH2⟩ a hA; clear hH; have hH := (hH2 _ (by (repeat constructor))).tail; clear hH2) | (refine S0T ?_; clear hH; rintro _ w hH) | (apply st_op0 hA rfl rfl; apply op_store_agg (vs := encR (zT g)); rfl; rfl; exact hH; (repeat constructor); (repeat rfl); clear hH; rintro _ w hH))) | ((first | refine CT ?_ | (refine DT ?_ ?_ <;> intro hc <;> try (exfalso; omega))) <;> repeat' refine CT ?_) | (first | (refine DSK ?_; clear hA a; intro a hA) | (first | (refine DLT ?_; clear hA hH; rintro _ w ⟨oN, rfl, hH⟩; refine ⟨STT, ?_⟩; intro a hA) | (refine DAT ?_; clear hA; rintro _ w ⟨oN, cN, rfl, hH2⟩; clear hH; have hH := (hH2 _ (by (repeat constructor))).tail; clear hH2; refine ⟨STT, ?_⟩; intro a hA))) )
    obtain ⟨b14, hb14⟩ : ∃ b, b = bN := ⟨_, rfl⟩
    rw [← hb14] at hA hH
    clear hb14 bN
    have hrw2 : ∀ (l2 : List ML), l2.map ML.un = left c0.q g (ll.map ML.un) → (∀ m ∈ l2, Rw m.un) ∧ l2.length ≤ 64 := by
      intro l2 h2
      refine ⟨fun m hm => ?_, ?_⟩
      · refine left_rw (q := c0.q) (h := g) (l := ll.map ML.un) (fun r hr => ?_) m.un (h2 ▸ List.mem_map.2 ⟨m, hm, rfl⟩)
        obtain ⟨s, hs, rfl⟩ := List.mem_map.1 hr
        exact hrw s hs
      · have e1 := congrArg List.length h2
        have e2 := left_len c0.q g (ll.map ML.un)
        rw [List.length_map] at e1 e2
        omega
    (refine wp_draw_HS (H := [Go.Fw.cb b6 29 [.int .i64 3, .int .i64 0, .slice none 0 0, .slice o1 c0.q.length c1, .slice ob N cb_, .slice none 0 0], Go.Fw.cb b14 75 (encR (zT g))]) [(0, 1), (1, 1), (2, 1), (3, 1), (4, 1), (5, 1), (6, 1), (7, 1), (8, 0), (9, 0), (10, 1), (11, 1), (12, 0)] mixed (by decide +kernel) ((hH.two 3 0 rfl rfl)) ?_; replace hH := hH.drew)
    repeat' (first | (first | (refine GT ?_ ?_ <;> intro hg <;> clear hA a <;> intro a hA <;> (first | exact FA | replace hg := of_decide_eq_true hg | replace hg := of_decide_eq_false hg | skip)) | ((first | apply st_ex hA hH rfl rfl (by decide) | apply dr_ex hA rfl rfl rfl (by decide) | apply dr_exp hA rfl rfl rfl (by decide) | apply dr_ex3 hA hH rfl rfl rfl (by decide)); (first | (apply ex_load_st (vs := [.int .i64 g.ap.k, .int .i64 g.ap.v, .int .i64 g.ap.n, .string g.ap.s, .slice g.ap.ol g.ap.ls.length g.ap.cl, .slice g.ap.oa g.ap.ps.length g.ap.ca]); rfl; rfl; exact cls_box MEMT (encR_head (zT g)))); clear hA a; intro a hA) | (refine QT ?_; clear hA a; intro a hA) | (first | (refine BT ?_; clear hA hH; rintro _ w ⟨bN, rfl, hH⟩ a hA) | (refine LT ?_; clear hA hH; rintro _ w ⟨oN, rfl, hH⟩ a hA) | (refine AT ?_; clear hA; rintro _ w ⟨oN, cN, rfl, hH2⟩ a hA; clear hH; have hH := (hH2 _ (by (repeat constructor))).tail; clear hH2) | (refine S0T ?_; clear hH; rintro _ w hH) )) | ((first | refine CT ?_ | (refine DT ?_ ?_ <;> intro hc <;> try (exfalso; omega))) <;> repeat' refine CT ?_) | (first | (refine DSK ?_; clear hA a; intro a hA) | (first | (refine DLT ?_; clear hA hH; rintro _ w ⟨oN, rfl, hH⟩; refine ⟨STT, ?_⟩; intro a hA) | (refine DAT ?_; clear hA; rintro _ w ⟨oN, cN, rfl, hH2⟩; clear hH; have hH := (hH2 _ (by (repeat constructor))).tail; clear hH2; refine ⟨STT, ?_⟩; intro a hA))) )
    (refine dr_op hA rfl rfl rfl (by decide) (op_call rfl rfl rfl (pick_spec _ _ _ _ o c0.o c c0.c ll c0.q g (hH.pk 7 rfl) (fun w hw => ⟨hR w (hKK w (hK' w hw).1), hrQ w (hKK w (hK' w hw).1)⟩) hrw (by omega) (by omega))) ?_; clear hA; rintro _ w ⟨K2, o2, c2, l2, rfl, hK2, hl2, hH⟩; refine ⟨hH.two 4 1 rfl rfl, ?_⟩; intro a hA)
    (refine dr_op hA rfl rfl rfl (by decide) (op_call rfl rfl rfl (ih _ _ _ K2 bm _ o2 c2 l2 g (hH.pk 7 rfl) (fun w hw => (hK2 w hw).2) (hrw2 l2 hl2).1 (hrw2 l2 hl2).2 (by omega) (by omega) (by omega))) ?_; clear hA; rintro _ w ⟨K3, t, rfl, hK3, hth3, htu3, hH⟩; refine ⟨hH.two 6 3 rfl rfl, ?_⟩; intro a hA)
    have hlen12 : (flat encR (ts ++ (hs.drop i).map zT)).length = N * 12 := hH.own_len (T := 75) (by exact MEMT)
    repeat' (first | (first | (refine GT ?_ ?_ <;> intro hg <;> clear hA a <;> intro a hA <;> (first | exact FA | replace hg := of_decide_eq_true hg | replace hg := of_decide_eq_false hg | skip)) | (refine QT ?_; clear hA a; intro a hA) | (first | (refine BT ?_; clear hA hH; rintro _ w ⟨bN, rfl, hH⟩ a hA) | (refine LT ?_; clear hA hH; rintro _ w ⟨oN, rfl, hH⟩ a hA) | (refine AT ?_; clear hA; rintro _ w ⟨oN, cN, rfl, hH2⟩ a hA; clear hH; have hH := (hH2 _ (by (repeat constructor))).tail; clear hH2) | (refine S0T ?_; clear hH; rintro _ w hH) )) | ((first | refine CT ?_ | (refine DT ?_ ?_ <;> intro hc <;> try (exfalso; omega))) <;> repeat' refine CT ?_) | (first | (refine DSK ?_; clear hA a; intro a hA) | (first | (refine DLT ?_; clear hA hH; rintro _ w ⟨oN, rfl, hH⟩; refine ⟨STT, ?_⟩; intro a hA) | (refine DAT ?_; clear hA; rintro _ w ⟨oN, cN, rfl, hH2⟩; clear hH; have hH := (hH2 _ (by (repeat constructor))).tail; clear hH2; refine ⟨STT, ?_⟩; intro a hA))) )
    (apply dr_op0 hA rfl rfl rfl; apply op_store_own (vs := encT t); rfl; rfl; exact hH; (repeat constructor); (rw [hlen12]; omega); exact flat_put encR_len (off := 6) hwi (put_R hth3) (Nat.le_refl 12); clear hH; rintro _ w hH; refine ⟨hH.two 6 3 rfl rfl, ?_⟩)
    rw [congrFun hws t] at hH
    rw [hl2] at htu3 hH
    repeat' (first | (first | (refine GT ?_ ?_ <;> intro hg <;> clear hA a <;> intro a hA <;> (first | exact FA | replace hg := of_decide_eq_true hg | replace hg := of_decide_eq_false hg | skip)) | (refine QT ?_; clear hA a; intro a hA) | (first | (refine BT ?_; clear hA hH; rintro _ w ⟨bN, rfl, hH⟩ a hA) | (refine LT ?_; clear hA hH; rintro _ w ⟨oN, rfl, hH⟩ a hA) | (refine AT ?_; clear hA; rintro _ w ⟨oN, cN, rfl, hH2⟩ a hA; clear hH; have hH := (hH2 _ (by (repeat constructor))).tail; clear hH2) | (refine S0T ?_; clear hH; rintro _ w hH) )) | ((first | refine CT ?_ | (refine DT ?_ ?_ <;> intro hc <;> try (exfalso; omega))) <;> repeat' refine CT ?_) | (first | (refine DSK ?_; clear hA a; intro a hA) | (first | (refine DLT ?_; clear hA hH; rintro _ w ⟨oN, rfl, hH⟩; refine ⟨STT, ?_⟩; intro a hA) | (refine DAT ?_; clear hA; rintro _ w ⟨oN, cN, rfl, hH2⟩; clear hH; have hH := (hH2 _ (by (repeat constructor))).tail; clear hH2; refine ⟨STT, ?_⟩; intro a hA))) )
    refine ⟨i + 1, ⟨K3, ts ++ [t], ⟨hlt, by rw [len_snoc, htl], ?_, ?_, fun w hw => ?_⟩, ?_, (hA.sub (by (repeat (first | exact trivial | refine ⟨rfl, ?_⟩))))⟩, by omega⟩
    · rw [List.map_append, hbs, htu]
      show _ ++ [t.un] = _
      rw [htu3]
    · rw [List.map_append, hth, take_next hg]
      show _ ++ [t.h] = _
      rw [hth3]
    · have h3 := hK3 w hw
      have h4 := hK' w (hK2 w h3.1).1
      refine ⟨h4.1, fun s hs => ?_⟩
      rcases List.mem_append.1 hs with hs | hs
      · exact h4.2 s hs
      · rw [List.mem_singleton] at hs; subst hs; exact h3.2
    · rw [hbs, itTs_snoc]
      exact ((((hH.er 3).pk 4 rfl).pk 2 rfl).pushA).perm (by (repeat (first | exact List.Perm.refl _ | exact List.Perm.nil | refine perm_pick 0 rfl ?_ | refine perm_pick 1 rfl ?_ | refine perm_pick 2 rfl ?_ | refine perm_pick 3 rfl ?_ | refine perm_pick 4 rfl ?_ | refine perm_pick 5 rfl ?_ | refine perm_pick 6 rfl ?_ | refine perm_pick 7 rfl ?_ | refine perm_pick 8 rfl ?_ | refine perm_pick 9 rfl ?_ | refine perm_pick 10 rfl ?_ | refine perm_pick 11 rfl ?_)))
  clear hA hH
  rintro a w ⟨K', ts, i, ⟨hi, htl, htu, hth, hK'⟩, hH, hA⟩
  subst hi
  have htk : hs.take i = hs := List.take_of_length_le (by omega)
  have hdr : (hs.drop i).map zT = [] := by rw [List.drop_of_length_le (by omega)]; rfl
  rw [htk, hdr, List.append_nil] at hH
  rw [htk] at htu hth
  subst htl
  rw [hhs] at htu hH
  have hble := brsP_le (T := treeP f) (q := c0.q) (l := ll.map ML.un) (fun h s x hs => treeP_le f h s x (by rw [List.length_map] at hs; omega)) (heads c0.q (ll.map ML.un)) (x - 1)
  rw [← hhs] at hble
  have hp1 : pos (x - 1) = x - 1 := if_pos (by omega)
  have hp2 : 0 ≤ pos (brsP (treeP f) c0.q (ll.map ML.un) hs (x - 1)).2 := by unfold pos; split <;> omega
  rw [hhs] at hble hp2
  have hlol : lo.length ≤ 64 := by
    have e1 := congrArg List.length hlo
    rw [List.length_map] at e1
    have := restL_len c0.q (ll.map ML.un)
    rw [List.length_map] at this
    omega
  have hh2 : (heads c0.q (ll.map ML.un)).length ≤ 64 := by rw [← hhs]; exact hhl
  have hlen12 : (flat encR ts).length = ts.length * 12 := flat_length encR_len ts
  generalize hx1 : (brsP (treeP f) c0.q (ll.map ML.un) (heads c0.q (ll.map ML.un)) (x - 1)).2 = x1 at *
  repeat' (first | (first | (refine GT ?_ ?_ <;> intro hg <;> clear hA a <;> intro a hA <;> (first | exact FA | replace hg := of_decide_eq_true hg | replace hg := of_decide_eq_false hg | skip)) | (refine QT ?_; clear hA a; intro a hA) | (first | (refine BT ?_; clear hA hH; rintro _ w ⟨bN, rfl, hH⟩ a hA) | (refine LT ?_; clear hA hH; rintro _ w ⟨oN, rfl, hH⟩ a hA) | (refine AT ?_; clear hA; rintro _ w ⟨oN, cN, rfl, hH2⟩ a hA; clear hH; have hH := (hH2 _ (by (repeat constructor))).tail; clear hH2) | (refine S0T ?_; clear hH; rintro _ w hH) )) | ((first | refine CT ?_ | (refine DT ?_ ?_ <;> intro hc <;> try (exfalso; omega))) <;> repeat' refine CT ?_) | (first | (refine DSK ?_; clear hA a; intro a hA) | (first | (refine DLT ?_; clear hA hH; rintro _ w ⟨oN, rfl, hH⟩; refine ⟨STT, ?_⟩; intro a hA) | (refine DAT ?_; clear hA; rintro _ w ⟨oN, cN, rfl, hH2⟩; clear hH; have hH := (hH2 _ (by (repeat constructor))).tail; clear hH2; refine ⟨STT, ?_⟩; intro a hA))) )
  (refine st_op hA rfl rfl (by decide) (op_call rfl rfl rfl (ih _ _ _ K' bm x1 oo co lo hd0 ((hH.pk 6 rfl).pk 6 rfl) (fun w hw => hlm2 w (hK' w hw).1) (fun s hs => hrw s (hlm s hs)) hlol (by omega) (by omega) (by omega))) ?_; clear hA hH; rintro _ w ⟨K3, e, rfl, hK3, hth3, htu3, hH⟩ a hA)
  rw [hlo] at htu3 hH
  (apply st_op hA rfl rfl (by decide); apply op_sliceLit (xs := encT e) (vs := [.agg (encT e).toArray]); rfl; rfl; exact (Cats.cn (cs := encT e) Cats.nil); rfl; rfl; rfl; exact hH; clear hA hH; rintro _ w ⟨oN, rfl, hH⟩ a hA)
  repeat' (first | (first | (refine GT ?_ ?_ <;> intro hg <;> clear hA a <;> intro a hA <;> (first | exact FA | replace hg := of_decide_eq_true hg | replace hg := of_decide_eq_false hg | skip)) | (refine QT ?_; clear hA a; intro a hA) | (first | (refine BT ?_; clear hA hH; rintro _ w ⟨bN, rfl, hH⟩ a hA) | (refine LT ?_; clear hA hH; rintro _ w ⟨oN, rfl, hH⟩ a hA) | (refine AT ?_; clear hA; rintro _ w ⟨oN, cN, rfl, hH2⟩ a hA; clear hH; have hH := (hH2 _ (by (repeat constructor))).tail; clear hH2) | (refine S0T ?_; clear hH; rintro _ w hH) )) | ((first | refine CT ?_ | (refine DT ?_ ?_ <;> intro hc <;> try (exfalso; omega))) <;> repeat' refine CT ?_) | (first | (refine DSK ?_; clear hA a; intro a hA) | (first | (refine DLT ?_; clear hA hH; rintro _ w ⟨oN, rfl, hH⟩; refine ⟨STT, ?_⟩; intro a hA) | (refine DAT ?_; clear hA; rintro _ w ⟨oN, cN, rfl, hH2⟩; clear hH; have hH := (hH2 _ (by (repeat constructor))).tail; clear hH2; refine ⟨STT, ?_⟩; intro a hA))) )
  (apply st_op0 hA rfl rfl; apply op_store_fld (cs' := [.int .i64 3, .int .i64 0, .slice none 0 0, .slice o1 c0.q.length c1, .slice ob ts.length cb_, .slice oN 1 1]); rfl; rfl; rfl; exact hH; (repeat constructor); clear hH; rintro _ w hH)
  repeat' (first | (first | (refine GT ?_ ?_ <;> intro hg <;> clear hA a <;> intro a hA <;> (first | exact FA | replace hg := of_decide_eq_true hg | replace hg := of_decide_eq_false hg | skip)) | (refine QT ?_; clear hA a; intro a hA) | (first | (refine BT ?_; clear hA hH; rintro _ w ⟨bN, rfl, hH⟩ a hA) | (refine LT ?_; clear hA hH; rintro _ w ⟨oN, rfl, hH⟩ a hA) | (refine AT ?_; clear hA; rintro _ w ⟨oN, cN, rfl, hH2⟩ a hA; clear hH; have hH := (hH2 _ (by (repeat constructor))).tail; clear hH2) | (refine S0T ?_; clear hH; rintro _ w hH) | (apply st_op0 hA rfl rfl; apply op_store_agg (vs := [.int .i64 3, .int .i64 0, .slice none 0 0, .slice o1 c0.q.length c1, .slice ob ts.length cb_, .slice oN 1 1]); rfl; rfl; exact hH; (repeat constructor); (repeat rfl); clear hH; rintro _ w hH))) | ((first | refine CT ?_ | (refine DT ?_ ?_ <;> intro hc <;> try (exfalso; omega))) <;> repeat' refine CT ?_) | (first | (refine DSK ?_; clear hA a; intro a hA) | (first | (refine DLT ?_; clear hA hH; rintro _ w ⟨oN, rfl, hH⟩; refine ⟨STT, ?_⟩; intro a hA) | (refine DAT ?_; clear hA; rintro _ w ⟨oN, cN, rfl, hH2⟩; clear hH; have hH := (hH2 _ (by (repeat constructor))).tail; clear hH2; refine ⟨STT, ?_⟩; intro a hA))) )
  have hfin : HS w0 noM (Go.Fw.cb bm 58 [.int .i64 (treeP f hd0 (restL c0.q (ll.map ML.un)) x1).2] :: all (itT (MT.mk h 3 0 none 0 [] o1 c1 c0.q ob cb_ ts oN 1 [e])) :: frz w0 K3 :: H) w := by
    rw [itT_eq]
    have h1 : HS w0 noM (own 9 1 o1 c0.q.length c1 (flat encX c0.q) :: own 75 12 ob ts.length cb_ (flat encR ts) :: own 29 6 oN 1 1 (encT e) :: all (itTs ts) :: all (itT e) :: Go.Fw.cb bm 58 [.int .i64 (treeP f hd0 (restL c0.q (ll.map ML.un)) x1).2] :: frz w0 K3 :: H) w := by
      exact ((hH.er 6).er 7).perm (by (repeat (first | exact List.Perm.refl _ | exact List.Perm.nil | refine perm_pick 0 rfl ?_ | refine perm_pick 1 rfl ?_ | refine perm_pick 2 rfl ?_ | refine perm_pick 3 rfl ?_ | refine perm_pick 4 rfl ?_ | refine perm_pick 5 rfl ?_ | refine perm_pick 6 rfl ?_ | refine perm_pick 7 rfl ?_ | refine perm_pick 8 rfl ?_ | refine perm_pick 9 rfl ?_ | refine perm_pick 10 rfl ?_ | refine perm_pick 11 rfl ?_)))
    have h2 : HS w0 noM (own 9 1 o1 c0.q.length c1 (flat encX c0.q) :: own 75 12 ob ts.length cb_ (flat encR ts) :: own 29 6 oN 1 1 (encT e) :: all (itTs ts) :: all [all (itT e)] :: Go.Fw.cb bm 58 [.int .i64 (treeP f hd0 (restL c0.q (ll.map ML.un)) x1).2] :: frz w0 K3 :: H) w :=
      (HS.shut (L := [all (itT e)]) (h1.pk 4 rfl)).perm (by (repeat (first | exact List.Perm.refl _ | exact List.Perm.nil | refine perm_pick 0 rfl ?_ | refine perm_pick 1 rfl ?_ | refine perm_pick 2 rfl ?_ | refine perm_pick 3 rfl ?_ | refine perm_pick 4 rfl ?_ | refine perm_pick 5 rfl ?_ | refine perm_pick 6 rfl ?_ | refine perm_pick 7 rfl ?_ | refine perm_pick 8 rfl ?_ | refine perm_pick 9 rfl ?_ | refine perm_pick 10 rfl ?_ | refine perm_pick 11 rfl ?_)))
    have e1 : itTs [e] = [all (itT e)] := by rw [itTs_map]; rfl
    have e2 : flat encT [e] = encT e := flat_one ..
    rw [← e1, ← e2] at h2
    exact (HS.shut (L := [_, _, _, _, _]) h2).perm (.swap _ _ _)
  refine rt1c (vs := encT (MT.mk h 3 0 none 0 [] o1 c1 c0.q ob cb_ ts oN 1 [e])) (.inl rfl) rfl hA rfl rfl hH (cls_cb_all (by exact MEMT)) ⟨K3, MT.mk h 3 0 none 0 [] o1 c1 c0.q ob cb_ ts oN 1 [e], rfl, fun w hw => ?_, rfl, ?_, hfin⟩
  · have h3 := hK3 w hw
    have h4 := hK' w h3.1
    refine ⟨hKK w h4.1, .mk (RdBs_nil w) h4.2 fun s hs => ?_⟩
    rw [show s = e from List.mem_singleton.1 hs]
    exact h3.2
  · rw [un_eq]
    show Tr.mk h 3 0 [] c0.q (ts.map MT.un) [e.un] = _
    rw [htu, htu3]
theorem tree_spec : ∀ (f : Nat), TreeSpec f
  | 0 => fun w0 w H K bm x o c l h hH hR hrw hl hx hx1 hx2 => by rw [treeP_neg (by omega)]; exact tree_stop w0 w H K bm x o c l h hH (.inl (by omega)) hx1 hx2
  | f + 1 => fun w0 w H K bm x o c l h hH hR hrw hl hxf hx1 hx2 => by
    by_cases hx : x - 1 < 0
    · rw [treeP_neg hx]; exact tree_stop w0 w H K bm x o c l h hH (.inl hx) hx1 hx2
    rw [treeP_s]
    match l, hR, hrw, hl with
    | [], hR, hrw, hl => rw [List.map_nil, treeB_nil]; exact tree_stop w0 w H K bm x o c [] h hH (.inr rfl) hx1 hx2
    | m :: l, hR, hrw, hl =>
      match hcs : m.cs with
      | [] =>
        have hcu : m.un.cs = [] := by show m.cs.map MC.un = []; rw [hcs]; rfl
        rw [List.map_cons, treeB_leaf hx hcu]
        exact tree_leaf w0 w H K bm x o c m l h hH hR hl hx hx2 hcs
      | c0 :: cs0 =>
        have hcu : m.un.cs = c0.un :: cs0.map MC.un := by show m.cs.map MC.un = _; rw [hcs]; rfl
        rw [List.map_cons, treeB_test hx hcu, ← List.map_cons]
        exact tree_test f (tree_spec f) w0 w H K bm x o c m l h c0 cs0 hH hR hrw hl (by omega) hx hx2 hcs
end Go.Proofs.Ytcododdkjppmjaa
