/-
  The document's: unlike, insert. Conditions: none.
  The document's insert. Conditions: none.
  The document's variables. Conditions: none.
  The document's lives: a way is followed to a use. Conditions: none.
  The document's Lives. Conditions: none.
  The document's Into: which variables live into a block. Conditions: none.
  The document's Behind: which variables but its X live behind an Ins. Conditions: none.
-/
import Derived.Test.YtjfanjcoppeeaaaRowColoursMg3
namespace Go.Proofs.Ytjfanjcoppeeaaa
open Go Go.Fw
set_option linter.unusedVariables false
theorem nd_next {f : Int → Int} {l : List Int} {i : Nat} {x : Int} (hx : l[i]? = some x) (h : ((l.take i).map f).Nodup) (hn : f x ∉ (l.take i).map f) : ((l.take (i + 1)).map f).Nodup := by
  rw [take_snoc hx, List.map_append]
  refine List.nodup_append.2 ⟨h, List.nodup_cons.2 ⟨List.not_mem_nil, List.nodup_nil⟩, fun a ha b hb e => ?_⟩
  rw [List.map_cons, List.map_nil, List.mem_singleton] at hb
  exact hn (by rw [← hb, ← e]; exact ha)
theorem nd_no {f : Int → Int} {l : List Int} {i k : Nat} {x y : Int} (hx : l[i]? = some x) (hy : l[k]? = some y) (hk : k < i) (he : f x = f y) : ¬ (l.map f).Nodup := by
  intro h
  obtain ⟨hi, rfl⟩ := List.getElem?_eq_some_iff.1 hx
  obtain ⟨hk2, rfl⟩ := List.getElem?_eq_some_iff.1 hy
  have h1 := List.pairwise_iff_getElem.1 h k i (by rw [List.length_map]; exact hk2) (by rw [List.length_map]; exact hi) hk
  rw [List.getElem_map, List.getElem_map] at h1
  exact h1 he.symm
theorem nm_next {f : Int → Int} {l : List Int} {k : Nat} {y z : Int} (hy : l[k]? = some y) (h : z ∉ (l.take k).map f) (hn : ¬ z = f y) : z ∉ (l.take (k + 1)).map f := by
  rw [take_snoc hy, List.map_append, List.mem_append, List.map_cons, List.map_nil, List.mem_singleton]
  exact fun h1 => h1.elim h hn
set_option maxRecDepth 10000 attribute [local irreducible] Code.wp wpList Calls Ex Op1 sat bat blk cb own Go.Fw.mp Go.Fw.mpO Go.Fw.mpI Go.Fw.mpE Go.Fw.itr HS Rd Ret wkD Hp Cl Cls Exit.then Exit.inBlock Exit.noGoto bodyPost Go.Fw.flat wk2 Go.Fw.all Go.Fw.owns wpOp
attribute [local irreducible] sk mpK srt varsL regOf

set_option maxHeartbeats 4000000 in
theorem unlike_spec (w0 : World) (o : Option Addr) (c : Nat) (l : List Rg) (o2 : Option Addr) (c2 : Nat) (vs : List Int) (hR : Rd w0 o (flat encR l)) (hl : l.length ≤ 9223372036854775807) (hR2 : Rd w0 o2 (flat Fw.encI vs)) (hl2 : vs.length ≤ 9223372036854775807) :
    Ret Try.prog 27 #[.slice o l.length c, .slice o2 vs.length c2] w0 (fun v w => v = .bool (decide ((vs.map (regOf l)).Nodup)) ∧ Kp w0 noM w) := by
  have hH : HS w0 noM [] w0 := HS.init w0 noM
  have hsp : Sp o2 vs.length := hR2.sp (sz := 1) (flat_length Fw.encI_len _) (by omega)
  (refine enter (N := 31) Try.func27 rfl Try.ntmps27 rfl ?_; intro a hA; dsimp only [sl0, Nat.reduceAdd] at hA)
  repeat' (first | (first | (refine GT ?_ ?_ <;> intro hg <;> clear hA a <;> intro a hA <;> (first | exact FA | replace hg := of_decide_eq_true hg | replace hg := of_decide_eq_false hg | skip)) | (refine QT ?_; clear hA a; intro a hA) | (first | (refine BT ?_; clear hA hH; rintro _ w ⟨bN, rfl, hH⟩ a hA) | (refine LT ?_; clear hA hH; rintro _ w ⟨oN, rfl, hH⟩ a hA) | (refine AT ?_; clear hA; rintro _ w ⟨oN, cN, rfl, hH2⟩ a hA; clear hH; have hH := (hH2 _ (by (repeat constructor))).tail; clear hH2) | (refine S0T ?_; clear hH; rintro _ w hH) )) | ((first | refine CT ?_ | (refine DT ?_ ?_ <;> intro hc <;> try (exfalso; omega))) <;> repeat' refine CT ?_) | (first | (refine DSK ?_; clear hA a; intro a hA) | (first | (refine DLT ?_; clear hA hH; rintro _ w ⟨oN, rfl, hH⟩; refine ⟨STT, ?_⟩; intro a hA) | (refine DAT ?_; clear hA; rintro _ w ⟨oN, cN, rfl, hH2⟩; clear hH; have hH := (hH2 _ (by (repeat constructor))).tail; clear hH2; refine ⟨STT, ?_⟩; intro a hA))) )
  refine wp_lpk (S := Nat) (fun i a w => (i ≤ vs.length ∧ ((vs.take i).map (regOf l)).Nodup) ∧ HS w0 noM [] w ∧ Sl 31 [(5, .int .i64 i), (0, .slice o l.length c), (1, .slice o2 vs.length c2)] a) (fun i => vs.length - i)
    (fun a w => (vs.map (regOf l)).Nodup ∧ HS w0 noM [] w ∧ Sl 31 [] a) 0 ⟨⟨Nat.zero_le _, by rw [List.take_zero]; exact List.nodup_nil⟩, hH, (hA.sub (by (repeat (first | exact trivial | refine ⟨rfl, ?_⟩))))⟩ ?_ ?_
  · clear hA hH
    rintro i a w ⟨⟨hi, hn⟩, hH, hA⟩
    by_cases hlt : i < vs.length
    rotate_left
    · obtain rfl : i = vs.length := by omega
      rw [List.take_length] at hn
      repeat' (first | (first | (refine GT ?_ ?_ <;> intro hg <;> clear hA a <;> intro a hA <;> (first | exact FA | replace hg := of_decide_eq_true hg | replace hg := of_decide_eq_false hg | skip)) | (refine QT ?_; clear hA a; intro a hA) | (first | (refine BT ?_; clear hA hH; rintro _ w ⟨bN, rfl, hH⟩ a hA) | (refine LT ?_; clear hA hH; rintro _ w ⟨oN, rfl, hH⟩ a hA) | (refine AT ?_; clear hA; rintro _ w ⟨oN, cN, rfl, hH2⟩ a hA; clear hH; have hH := (hH2 _ (by (repeat constructor))).tail; clear hH2) | (refine S0T ?_; clear hH; rintro _ w hH) )) | ((first | refine CT ?_ | (refine DT ?_ ?_ <;> intro hc <;> try (exfalso; omega))) <;> repeat' refine CT ?_) | (first | (refine DSK ?_; clear hA a; intro a hA) | (first | (refine DLT ?_; clear hA hH; rintro _ w ⟨oN, rfl, hH⟩; refine ⟨STT, ?_⟩; intro a hA) | (refine DAT ?_; clear hA; rintro _ w ⟨oN, cN, rfl, hH2⟩; clear hH; have hH := (hH2 _ (by (repeat constructor))).tail; clear hH2; refine ⟨STT, ?_⟩; intro a hA))) )
      exact ⟨hn, hH, (hA.sub (by (repeat (first | exact trivial | refine ⟨rfl, ?_⟩))))⟩
    obtain ⟨x, hx⟩ : ∃ x, vs[i]? = some x := ⟨_, List.getElem?_eq_getElem hlt⟩
    have hv : (flat Fw.encI vs)[i * 1]? = some (.int .i64 x) := flat_get (off := 0) Fw.encI_len hx rfl
    repeat' (first | (first | (refine GT ?_ ?_ <;> intro hg <;> clear hA a <;> intro a hA <;> (first | exact FA | replace hg := of_decide_eq_true hg | replace hg := of_decide_eq_false hg | skip)) | (refine QT ?_; clear hA a; intro a hA) | (first | (refine BT ?_; clear hA hH; rintro _ w ⟨bN, rfl, hH⟩ a hA) | (refine LT ?_; clear hA hH; rintro _ w ⟨oN, rfl, hH⟩ a hA) | (refine AT ?_; clear hA; rintro _ w ⟨oN, cN, rfl, hH2⟩ a hA; clear hH; have hH := (hH2 _ (by (repeat constructor))).tail; clear hH2) | (refine S0T ?_; clear hH; rintro _ w hH) )) | ((first | refine CT ?_ | (refine DT ?_ ?_ <;> intro hc <;> try (exfalso; omega))) <;> repeat' refine CT ?_) | (first | (refine DSK ?_; clear hA a; intro a hA) | (first | (refine DLT ?_; clear hA hH; rintro _ w ⟨oN, rfl, hH⟩; refine ⟨STT, ?_⟩; intro a hA) | (refine DAT ?_; clear hA; rintro _ w ⟨oN, cN, rfl, hH2⟩; clear hH; have hH := (hH2 _ (by (repeat constructor))).tail; clear hH2; refine ⟨STT, ?_⟩; intro a hA))) )
    refine wp_lpk (S := Nat) (fun k a w => (k ≤ i ∧ regOf l x ∉ (vs.take k).map (regOf l)) ∧ HS w0 noM [] w ∧ Sl 31 [(6, .int .i64 k), (5, .int .i64 i), (0, .slice o l.length c), (1, .slice o2 vs.length c2)] a) (fun k => i - k)
      (fun a w => regOf l x ∉ (vs.take i).map (regOf l) ∧ HS w0 noM [] w ∧ Sl 31 [(5, .int .i64 i), (0, .slice o l.length c), (1, .slice o2 vs.length c2)] a) 0 ⟨⟨Nat.zero_le _, by rw [List.take_zero]; exact List.not_mem_nil⟩, hH, (hA.sub (by (repeat (first | exact trivial | refine ⟨rfl, ?_⟩))))⟩ ?_ ?_
    · clear hA hH
      rintro k a w ⟨⟨hk, hnm⟩, hH, hA⟩
      by_cases hlk : k < i
      rotate_left
      · obtain rfl : k = i := by omega
        repeat' (first | (first | (refine GT ?_ ?_ <;> intro hg <;> clear hA a <;> intro a hA <;> (first | exact FA | replace hg := of_decide_eq_true hg | replace hg := of_decide_eq_false hg | skip)) | (refine QT ?_; clear hA a; intro a hA) | (first | (refine BT ?_; clear hA hH; rintro _ w ⟨bN, rfl, hH⟩ a hA) | (refine LT ?_; clear hA hH; rintro _ w ⟨oN, rfl, hH⟩ a hA) | (refine AT ?_; clear hA; rintro _ w ⟨oN, cN, rfl, hH2⟩ a hA; clear hH; have hH := (hH2 _ (by (repeat constructor))).tail; clear hH2) | (refine S0T ?_; clear hH; rintro _ w hH) )) | ((first | refine CT ?_ | (refine DT ?_ ?_ <;> intro hc <;> try (exfalso; omega))) <;> repeat' refine CT ?_) | (first | (refine DSK ?_; clear hA a; intro a hA) | (first | (refine DLT ?_; clear hA hH; rintro _ w ⟨oN, rfl, hH⟩; refine ⟨STT, ?_⟩; intro a hA) | (refine DAT ?_; clear hA; rintro _ w ⟨oN, cN, rfl, hH2⟩; clear hH; have hH := (hH2 _ (by (repeat constructor))).tail; clear hH2; refine ⟨STT, ?_⟩; intro a hA))) )
        exact ⟨hnm, hH, (hA.sub (by (repeat (first | exact trivial | refine ⟨rfl, ?_⟩))))⟩
      obtain ⟨y, hy⟩ : ∃ y, vs[k]? = some y := ⟨_, List.getElem?_eq_getElem (by omega)⟩
      have hv2 : (flat Fw.encI vs)[k * 1]? = some (.int .i64 y) := flat_get (off := 0) Fw.encI_len hy rfl
      repeat' (first | (first | (refine GT ?_ ?_ <;> intro hg <;> clear hA a <;> intro a hA <;> (first | exact FA | replace hg := of_decide_eq_true hg | replace hg := of_decide_eq_false hg | skip)) | (refine QT ?_; clear hA a; intro a hA) | (first | (refine BT ?_; clear hA hH; rintro _ w ⟨bN, rfl, hH⟩ a hA) | (refine LT ?_; clear hA hH; rintro _ w ⟨oN, rfl, hH⟩ a hA) | (refine AT ?_; clear hA; rintro _ w ⟨oN, cN, rfl, hH2⟩ a hA; clear hH; have hH := (hH2 _ (by (repeat constructor))).tail; clear hH2) | (refine S0T ?_; clear hH; rintro _ w hH) )) | ((first | refine CT ?_ | (refine DT ?_ ?_ <;> intro hc <;> try (exfalso; omega))) <;> repeat' refine CT ?_) | (first | (refine DSK ?_; clear hA a; intro a hA) | (first | (refine DLT ?_; clear hA hH; rintro _ w ⟨oN, rfl, hH⟩; refine ⟨STT, ?_⟩; intro a hA) | (refine DAT ?_; clear hA; rintro _ w ⟨oN, cN, rfl, hH2⟩; clear hH; have hH := (hH2 _ (by (repeat constructor))).tail; clear hH2; refine ⟨STT, ?_⟩; intro a hA))) )
      (refine wp_draw_HS [(0, 1), (1, 1), (2, 1), (3, 1), (4, 1), (6, 1), (7, 1), (8, 1), (9, 1), (10, 1), (5, 0), (11, 0), (12, 1)] mixed (by decide +kernel) hH ?_; replace hH := hH.drew)
      repeat' (first | (first | (refine GT ?_ ?_ <;> intro hg <;> clear hA a <;> intro a hA <;> (first | exact FA | replace hg := of_decide_eq_true hg | replace hg := of_decide_eq_false hg | skip)) | ((first | apply st_ex hA hH rfl rfl (by decide) | apply dr_ex hA rfl rfl rfl (by decide) | apply dr_exp hA rfl rfl rfl (by decide) | apply dr_ex3 hA hH rfl rfl rfl (by decide)); (first | (apply ex_load; rfl; exact cl_rd hR2 id hv) | (apply ex_load; rfl; exact cl_rd hR2 id hv2)); clear hA a; intro a hA) | (refine QT ?_; clear hA a; intro a hA) | (first | (refine BT ?_; clear hA hH; rintro _ w ⟨bN, rfl, hH⟩ a hA) | (refine LT ?_; clear hA hH; rintro _ w ⟨oN, rfl, hH⟩ a hA) | (refine AT ?_; clear hA; rintro _ w ⟨oN, cN, rfl, hH2⟩ a hA; clear hH; have hH := (hH2 _ (by (repeat constructor))).tail; clear hH2) | (refine S0T ?_; clear hH; rintro _ w hH) )) | ((first | refine CT ?_ | (refine DT ?_ ?_ <;> intro hc <;> try (exfalso; omega))) <;> repeat' refine CT ?_) | (first | (refine DSK ?_; clear hA a; intro a hA) | (first | (refine DLT ?_; clear hA hH; rintro _ w ⟨oN, rfl, hH⟩; refine ⟨STT, ?_⟩; intro a hA) | (refine DAT ?_; clear hA; rintro _ w ⟨oN, cN, rfl, hH2⟩; clear hH; have hH := (hH2 _ (by (repeat constructor))).tail; clear hH2; refine ⟨STT, ?_⟩; intro a hA))) )
      (refine dr_op hA rfl rfl rfl (by decide) (op_call rfl rfl rfl (reg_spec _ o c l x (hH.rd hR id) hl)) ?_; clear hA; rintro _ w ⟨rfl, hk⟩; replace hH := hH.keep hk; clear hk; refine ⟨STT, ?_⟩; intro a hA)
      (refine dr_op hA rfl rfl rfl (by decide) (op_call rfl rfl rfl (reg_spec _ o c l y (hH.rd hR id) hl)) ?_; clear hA; rintro _ w ⟨rfl, hk⟩; replace hH := hH.keep hk; clear hk; refine ⟨STT, ?_⟩; intro a hA)
      repeat' (first | (first | (refine GT ?_ ?_ <;> intro hg <;> clear hA a <;> intro a hA <;> (first | exact FA | replace hg := of_decide_eq_true hg | replace hg := of_decide_eq_false hg | skip)) | (refine QT ?_; clear hA a; intro a hA) | (first | (refine BT ?_; clear hA hH; rintro _ w ⟨bN, rfl, hH⟩ a hA) | (refine LT ?_; clear hA hH; rintro _ w ⟨oN, rfl, hH⟩ a hA) | (refine AT ?_; clear hA; rintro _ w ⟨oN, cN, rfl, hH2⟩ a hA; clear hH; have hH := (hH2 _ (by (repeat constructor))).tail; clear hH2) | (refine S0T ?_; clear hH; rintro _ w hH) )) | ((first | refine CT ?_ | (refine DT ?_ ?_ <;> intro hc <;> try (exfalso; omega))) <;> repeat' refine CT ?_) | (first | (refine DSK ?_; clear hA a; intro a hA) | (first | (refine DLT ?_; clear hA hH; rintro _ w ⟨oN, rfl, hH⟩; refine ⟨STT, ?_⟩; intro a hA) | (refine DAT ?_; clear hA; rintro _ w ⟨oN, cN, rfl, hH2⟩; clear hH; have hH := (hH2 _ (by (repeat constructor))).tail; clear hH2; refine ⟨STT, ?_⟩; intro a hA))) )
      · have he : regOf l x = regOf l y := by assumption
        exact rt1 (.inl rfl) rfl hA rfl ⟨by rw [decide_eq_false (nd_no hx hy hlk he)], hH.kp⟩
      · exact ⟨k + 1, ⟨⟨hlk, nm_next hy hnm (by assumption)⟩, hH, (hA.sub (by (repeat (first | exact trivial | refine ⟨rfl, ?_⟩))))⟩, by omega⟩
    clear hA hH
    rintro a w ⟨hnm, hH, hA⟩
    repeat' (first | (first | (refine GT ?_ ?_ <;> intro hg <;> clear hA a <;> intro a hA <;> (first | exact FA | replace hg := of_decide_eq_true hg | replace hg := of_decide_eq_false hg | skip)) | (refine QT ?_; clear hA a; intro a hA) | (first | (refine BT ?_; clear hA hH; rintro _ w ⟨bN, rfl, hH⟩ a hA) | (refine LT ?_; clear hA hH; rintro _ w ⟨oN, rfl, hH⟩ a hA) | (refine AT ?_; clear hA; rintro _ w ⟨oN, cN, rfl, hH2⟩ a hA; clear hH; have hH := (hH2 _ (by (repeat constructor))).tail; clear hH2) | (refine S0T ?_; clear hH; rintro _ w hH) )) | ((first | refine CT ?_ | (refine DT ?_ ?_ <;> intro hc <;> try (exfalso; omega))) <;> repeat' refine CT ?_) | (first | (refine DSK ?_; clear hA a; intro a hA) | (first | (refine DLT ?_; clear hA hH; rintro _ w ⟨oN, rfl, hH⟩; refine ⟨STT, ?_⟩; intro a hA) | (refine DAT ?_; clear hA; rintro _ w ⟨oN, cN, rfl, hH2⟩; clear hH; have hH := (hH2 _ (by (repeat constructor))).tail; clear hH2; refine ⟨STT, ?_⟩; intro a hA))) )
    exact ⟨i + 1, ⟨⟨hlt, nd_next hx hn hnm⟩, hH, (hA.sub (by (repeat (first | exact trivial | refine ⟨rfl, ?_⟩))))⟩, by omega⟩
  clear hA hH
  rintro a w ⟨hn, hH, hA⟩
  repeat' (first | (first | (refine GT ?_ ?_ <;> intro hg <;> clear hA a <;> intro a hA <;> (first | exact FA | replace hg := of_decide_eq_true hg | replace hg := of_decide_eq_false hg | skip)) | (refine QT ?_; clear hA a; intro a hA) | (first | (refine BT ?_; clear hA hH; rintro _ w ⟨bN, rfl, hH⟩ a hA) | (refine LT ?_; clear hA hH; rintro _ w ⟨oN, rfl, hH⟩ a hA) | (refine AT ?_; clear hA; rintro _ w ⟨oN, cN, rfl, hH2⟩ a hA; clear hH; have hH := (hH2 _ (by (repeat constructor))).tail; clear hH2) | (refine S0T ?_; clear hH; rintro _ w hH) )) | ((first | refine CT ?_ | (refine DT ?_ ?_ <;> intro hc <;> try (exfalso; omega))) <;> repeat' refine CT ?_) | (first | (refine DSK ?_; clear hA a; intro a hA) | (first | (refine DLT ?_; clear hA hH; rintro _ w ⟨oN, rfl, hH⟩; refine ⟨STT, ?_⟩; intro a hA) | (refine DAT ?_; clear hA; rintro _ w ⟨oN, cN, rfl, hH2⟩; clear hH; have hH := (hH2 _ (by (repeat constructor))).tail; clear hH2; refine ⟨STT, ?_⟩; intro a hA))) )
  exact rt1 (.inl rfl) rfl hA rfl ⟨by rw [decide_eq_true hn], hH.kp⟩
end Go.Proofs.Ytjfanjcoppeeaaa
namespace Go.Proofs.Ytjfanjcoppeeaaa
open Go Go.Fw
set_option linter.unusedVariables false
def insF : List Int → Int → List Int
  | [], x => [x]
  | y :: l, x => if x < y then x :: y :: l else y :: insF l x
theorem insF_len : ∀ (l : List Int) (x : Int), (insF l x).length = l.length + 1
  | [], x => rfl
  | y :: l, x => by
    rw [insF]
    split
    · rfl
    · rw [List.length_cons, List.length_cons, insF_len l x]
theorem mem_insF {y : Int} : ∀ {l : List Int} {x : Int}, y ∈ insF l x ↔ y = x ∨ y ∈ l
  | [], x => by rw [insF]; simp
  | z :: l, x => by
    rw [insF]
    split
    · simp
    · rw [List.mem_cons, mem_insF, List.mem_cons]
      exact ⟨fun h => h.elim (fun h => .inr (.inl h)) fun h => h.elim .inl fun h => .inr (.inr h), fun h => h.elim (fun h => .inr (.inl h)) fun h => h.elim .inl fun h => .inr (.inr h)⟩
theorem insF_skip : ∀ {l : List Int} {i : Nat} {x : Int}, (∀ y ∈ l.take i, ¬ x < y) → insF l x = l.take i ++ insF (l.drop i) x
  | l, 0, x, _ => rfl
  | [], i + 1, x, _ => rfl
  | y :: l, i + 1, x, h => by
    rw [insF, if_neg (h y (.head _)), insF_skip (i := i) fun z hz => h z (.tail _ hz)]
    rfl
theorem insF_at {l : List Int} {i : Nat} {x y : Int} (hy : l[i]? = some y) (h : ∀ y ∈ l.take i, ¬ x < y) (hlt : x < y) : insF l x = l.take i ++ [x] ++ [y] ++ l.drop (i + 1) := by
  obtain ⟨hi, rfl⟩ := List.getElem?_eq_some_iff.1 hy
  rw [insF_skip h, List.drop_eq_getElem_cons hi, insF, if_pos hlt]
  simp
theorem insF_end {l : List Int} {x : Int} (h : ∀ y ∈ l, ¬ x < y) : insF l x = l ++ [x] := by
  have := insF_skip (l := l) (i := l.length) (x := x) (by rw [List.take_length]; exact h)
  rw [this, List.take_length, List.drop_length]
  rfl
theorem lt_next {l : List Int} {i : Nat} {x y : Int} (hy : l[i]? = some y) (h : ∀ y ∈ l.take i, ¬ x < y) (hlt : ¬ x < y) : ∀ y ∈ l.take (i + 1), ¬ x < y := by
  intro z hz
  rw [take_snoc hy] at hz
  rcases List.mem_append.1 hz with hz | hz
  · exact h z hz
  · rw [List.mem_singleton] at hz; subst hz; exact hlt
theorem drop_at {l : List Int} {i : Nat} {y : Int} (hy : l[i]? = some y) : l.drop i = y :: l.drop (i + 1) := by
  obtain ⟨hi, rfl⟩ := List.getElem?_eq_some_iff.1 hy
  exact List.drop_eq_getElem_cons hi
theorem lenS (l : List Int) (x : Int) : (l ++ [x]).length = l.length + 1 := by rw [List.length_append]; rfl
set_option maxRecDepth 10000 attribute [local irreducible] Code.wp wpList Calls Ex Op1 sat bat blk cb own Go.Fw.mp Go.Fw.mpO Go.Fw.mpI Go.Fw.mpE Go.Fw.itr HS Rd Ret wkD Hp Cl Cls Exit.then Exit.inBlock Exit.noGoto bodyPost Go.Fw.flat wk2 Go.Fw.all Go.Fw.owns wpOp
attribute [local irreducible] sk mpK srt varsL regOf insF

set_option maxHeartbeats 4000000 in
theorem insert_spec (w0 : World) (o : Option Addr) (c : Nat) (l : List Int) (x : Int) (hR : Rd w0 o (flat Fw.encI l)) (hl : l.length ≤ 1000000) :
    Ret Try.prog 25 #[.slice o l.length c, .int .i64 x] w0 (fun v w => ∃ o' c', v = .slice o' (insF l x).length c' ∧ HS w0 noM [own 3 1 o' (insF l x).length c' (flat Fw.encI (insF l x))] w) := by
  have hH : HS w0 noM [] w0 := HS.init w0 noM
  have hsp : Sp o l.length := hR.sp (sz := 1) (flat_length Fw.encI_len _) (by omega)
  have hil := insF_len l x
  (refine enter (N := 43) Try.func25 rfl Try.ntmps25 rfl ?_; intro a hA; dsimp only [sl0, Nat.reduceAdd] at hA)
  repeat' (first | (first | (refine GT ?_ ?_ <;> intro hg <;> clear hA a <;> intro a hA <;> (first | exact FA | replace hg := of_decide_eq_true hg | replace hg := of_decide_eq_false hg | skip)) | (refine QT ?_; clear hA a; intro a hA) | (first | (refine BT ?_; clear hA hH; rintro _ w ⟨bN, rfl, hH⟩ a hA) | (refine LT ?_; clear hA hH; rintro _ w ⟨oN, rfl, hH⟩ a hA) | (refine AT ?_; clear hA; rintro _ w ⟨oN, cN, rfl, hH2⟩ a hA; clear hH; have hH := (hH2 _ (by (repeat constructor))).tail; clear hH2) | (refine S0T ?_; clear hH; rintro _ w hH) )) | ((first | refine CT ?_ | (refine DT ?_ ?_ <;> intro hc <;> try (exfalso; omega))) <;> repeat' refine CT ?_) | (first | (refine DSK ?_; clear hA a; intro a hA) | (first | (refine DLT ?_; clear hA hH; rintro _ w ⟨oN, rfl, hH⟩; refine ⟨STT, ?_⟩; intro a hA) | (refine DAT ?_; clear hA; rintro _ w ⟨oN, cN, rfl, hH2⟩; clear hH; have hH := (hH2 _ (by (repeat constructor))).tail; clear hH2; refine ⟨STT, ?_⟩; intro a hA))) )
  refine wp_lpk (S := Nat) (fun i a w => ∃ (d : Bool) (o' : Option Addr) (c' : Nat) (out : List Int), (i ≤ l.length ∧ (d = false → out = l.take i ∧ ∀ y ∈ l.take i, ¬ x < y) ∧ (d = true → insF l x = out ++ l.drop i)) ∧ HS w0 noM [own 3 1 o' out.length c' (flat Fw.encI out)] w ∧
      Sl 43 [(5, .slice o' out.length c'), (6, .bool d), (7, .int .i64 i), (0, .slice o l.length c), (1, .int .i64 x)] a) (fun i => l.length - i)
    (fun a w => ∃ (d : Bool) (o' : Option Addr) (c' : Nat) (out : List Int), ((d = false → out = l ∧ ∀ y ∈ l, ¬ x < y) ∧ (d = true → insF l x = out)) ∧ HS w0 noM [own 3 1 o' out.length c' (flat Fw.encI out)] w ∧
      Sl 43 [(5, .slice o' out.length c'), (6, .bool d), (1, .int .i64 x)] a) 0 ⟨false, oN, 0, [], ⟨Nat.zero_le _, fun _ => ⟨rfl, fun y hy => absurd hy List.not_mem_nil⟩, (fun h => by cases h)⟩, (by rw [flatI_nil]; exact hH), (hA.sub (by (repeat (first | exact trivial | refine ⟨rfl, ?_⟩))))⟩ ?_ ?_
  · clear hA hH
    rintro i a w ⟨d, o', c', out, ⟨hi, hd0, hd1⟩, hH, hA⟩
    by_cases hlt : i < l.length
    rotate_left
    · obtain rfl : i = l.length := by omega
      rw [List.take_length] at hd0
      rw [List.drop_length, List.append_nil] at hd1
      repeat' (first | (first | (refine GT ?_ ?_ <;> intro hg <;> clear hA a <;> intro a hA <;> (first | exact FA | replace hg := of_decide_eq_true hg | replace hg := of_decide_eq_false hg | skip)) | (refine QT ?_; clear hA a; intro a hA) | (first | (refine BT ?_; clear hA hH; rintro _ w ⟨bN, rfl, hH⟩ a hA) | (refine LT ?_; clear hA hH; rintro _ w ⟨oN, rfl, hH⟩ a hA) | (refine AT ?_; clear hA; rintro _ w ⟨oN, cN, rfl, hH2⟩ a hA; clear hH; have hH := (hH2 _ (by (repeat constructor))).tail; clear hH2) | (refine S0T ?_; clear hH; rintro _ w hH) )) | ((first | refine CT ?_ | (refine DT ?_ ?_ <;> intro hc <;> try (exfalso; omega))) <;> repeat' refine CT ?_) | (first | (refine DSK ?_; clear hA a; intro a hA) | (first | (refine DLT ?_; clear hA hH; rintro _ w ⟨oN, rfl, hH⟩; refine ⟨STT, ?_⟩; intro a hA) | (refine DAT ?_; clear hA; rintro _ w ⟨oN, cN, rfl, hH2⟩; clear hH; have hH := (hH2 _ (by (repeat constructor))).tail; clear hH2; refine ⟨STT, ?_⟩; intro a hA))) )
      exact ⟨d, o', c', out, ⟨hd0, hd1⟩, hH, (hA.sub (by (repeat (first | exact trivial | refine ⟨rfl, ?_⟩))))⟩
    obtain ⟨y, hy⟩ : ∃ y, l[i]? = some y := ⟨_, List.getElem?_eq_getElem hlt⟩
    have hv : (flat Fw.encI l)[i * 1]? = some (.int .i64 y) := flat_get (off := 0) Fw.encI_len hy rfl
    rcases d with _ | _
    · obtain ⟨rfl, hno⟩ := hd0 rfl
      have hol : (l.take i).length ≤ 1000000 := by rw [List.length_take]; omega
      repeat' (first | (first | (refine GT ?_ ?_ <;> intro hg <;> clear hA a <;> intro a hA <;> (first | exact FA | replace hg := of_decide_eq_true hg | replace hg := of_decide_eq_false hg | skip)) | ((first | apply st_ex hA hH rfl rfl (by decide) | apply dr_ex hA rfl rfl rfl (by decide) | apply dr_exp hA rfl rfl rfl (by decide) | apply dr_ex3 hA hH rfl rfl rfl (by decide)); (first | (apply ex_load; rfl; exact cl_rd hR id hv)); clear hA a; intro a hA) | (refine QT ?_; clear hA a; intro a hA) | (first | (refine BT ?_; clear hA hH; rintro _ w ⟨bN, rfl, hH⟩ a hA) | (refine LT ?_; clear hA hH; rintro _ w ⟨oN, rfl, hH⟩ a hA) | (refine AT ?_; clear hA; rintro _ w ⟨oN, cN, rfl, hH2⟩ a hA; clear hH; have hH := (hH2 _ (by (repeat constructor))).tail; clear hH2) | (refine S0T ?_; clear hH; rintro _ w hH) )) | ((first | refine CT ?_ | (refine DT ?_ ?_ <;> intro hc <;> try (exfalso; omega))) <;> repeat' refine CT ?_) | (first | (refine DSK ?_; clear hA a; intro a hA) | (first | (refine DLT ?_; clear hA hH; rintro _ w ⟨oN, rfl, hH⟩; refine ⟨STT, ?_⟩; intro a hA) | (refine DAT ?_; clear hA; rintro _ w ⟨oN, cN, rfl, hH2⟩; clear hH; have hH := (hH2 _ (by (repeat constructor))).tail; clear hH2; refine ⟨STT, ?_⟩; intro a hA))) )
      · have hxy : x < y := by assumption
        rw [flatI_snoc, flatI_snoc] at hH
        have e2 : (l.take i ++ [x] ++ [y]).length = (l.take i).length + 1 + 1 := by rw [lenS, lenS]
        rw [← e2] at hA hH
        exact ⟨i + 1, ⟨true, oN, cN, l.take i ++ [x] ++ [y], ⟨hlt, (fun h => by cases h), fun _ => insF_at hy hno hxy⟩, hH, (hA.sub (by (repeat (first | exact trivial | refine ⟨rfl, ?_⟩))))⟩, by omega⟩
      · have hxy : ¬ x < y := by assumption
        rw [flatI_snoc, ← take_snoc hy] at hH
        have e2 : (l.take (i + 1)).length = (l.take i).length + 1 := by rw [take_snoc hy, lenS]
        rw [← e2] at hA hH
        exact ⟨i + 1, ⟨false, oN, cN, l.take (i + 1), ⟨hlt, fun _ => ⟨rfl, lt_next hy hno hxy⟩, (fun h => by cases h)⟩, hH, (hA.sub (by (repeat (first | exact trivial | refine ⟨rfl, ?_⟩))))⟩, by omega⟩
    · have hins := hd1 rfl
      have hol : out.length ≤ 1000001 := by
        have := congrArg List.length hins
        rw [List.length_append] at this
        omega
      repeat' (first | (first | (refine GT ?_ ?_ <;> intro hg <;> clear hA a <;> intro a hA <;> (first | exact FA | replace hg := of_decide_eq_true hg | replace hg := of_decide_eq_false hg | skip)) | ((first | apply st_ex hA hH rfl rfl (by decide) | apply dr_ex hA rfl rfl rfl (by decide) | apply dr_exp hA rfl rfl rfl (by decide) | apply dr_ex3 hA hH rfl rfl rfl (by decide)); (first | (apply ex_load; rfl; exact cl_rd hR id hv)); clear hA a; intro a hA) | (refine QT ?_; clear hA a; intro a hA) | (first | (refine BT ?_; clear hA hH; rintro _ w ⟨bN, rfl, hH⟩ a hA) | (refine LT ?_; clear hA hH; rintro _ w ⟨oN, rfl, hH⟩ a hA) | (refine AT ?_; clear hA; rintro _ w ⟨oN, cN, rfl, hH2⟩ a hA; clear hH; have hH := (hH2 _ (by (repeat constructor))).tail; clear hH2) | (refine S0T ?_; clear hH; rintro _ w hH) )) | ((first | refine CT ?_ | (refine DT ?_ ?_ <;> intro hc <;> try (exfalso; omega))) <;> repeat' refine CT ?_) | (first | (refine DSK ?_; clear hA a; intro a hA) | (first | (refine DLT ?_; clear hA hH; rintro _ w ⟨oN, rfl, hH⟩; refine ⟨STT, ?_⟩; intro a hA) | (refine DAT ?_; clear hA; rintro _ w ⟨oN, cN, rfl, hH2⟩; clear hH; have hH := (hH2 _ (by (repeat constructor))).tail; clear hH2; refine ⟨STT, ?_⟩; intro a hA))) )
      rw [flatI_snoc] at hH
      rw [← lenS out y] at hA hH
      exact ⟨i + 1, ⟨true, oN, cN, out ++ [y], ⟨hlt, (fun h => by cases h), fun _ => by rw [hins, drop_at hy, List.append_assoc]; rfl⟩, hH, (hA.sub (by (repeat (first | exact trivial | refine ⟨rfl, ?_⟩))))⟩, by omega⟩
  clear hA hH
  rintro a w ⟨d, o', c', out, ⟨hd0, hd1⟩, hH, hA⟩
  rcases d with _ | _
  · obtain ⟨rfl, hno⟩ := hd0 rfl
    have e := insF_end hno
    have el : (insF out x).length = out.length + 1 := insF_len _ _
    repeat' (first | (first | (refine GT ?_ ?_ <;> intro hg <;> clear hA a <;> intro a hA <;> (first | exact FA | replace hg := of_decide_eq_true hg | replace hg := of_decide_eq_false hg | skip)) | (refine QT ?_; clear hA a; intro a hA) | (first | (refine BT ?_; clear hA hH; rintro _ w ⟨bN, rfl, hH⟩ a hA) | (refine LT ?_; clear hA hH; rintro _ w ⟨oN, rfl, hH⟩ a hA) | (refine AT ?_; clear hA; rintro _ w ⟨oN, cN, rfl, hH2⟩ a hA; clear hH; have hH := (hH2 _ (by (repeat constructor))).tail; clear hH2) | (refine S0T ?_; clear hH; rintro _ w hH) )) | ((first | refine CT ?_ | (refine DT ?_ ?_ <;> intro hc <;> try (exfalso; omega))) <;> repeat' refine CT ?_) | (first | (refine DSK ?_; clear hA a; intro a hA) | (first | (refine DLT ?_; clear hA hH; rintro _ w ⟨oN, rfl, hH⟩; refine ⟨STT, ?_⟩; intro a hA) | (refine DAT ?_; clear hA; rintro _ w ⟨oN, cN, rfl, hH2⟩; clear hH; have hH := (hH2 _ (by (repeat constructor))).tail; clear hH2; refine ⟨STT, ?_⟩; intro a hA))) )
    rw [flatI_snoc] at hH
    rw [← lenS out x, ← e] at hA hH
    exact rt1 (.inl rfl) rfl hA rfl ⟨oN, cN, rfl, hH⟩
  · have e := hd1 rfl
    repeat' (first | (first | (refine GT ?_ ?_ <;> intro hg <;> clear hA a <;> intro a hA <;> (first | exact FA | replace hg := of_decide_eq_true hg | replace hg := of_decide_eq_false hg | skip)) | (refine QT ?_; clear hA a; intro a hA) | (first | (refine BT ?_; clear hA hH; rintro _ w ⟨bN, rfl, hH⟩ a hA) | (refine LT ?_; clear hA hH; rintro _ w ⟨oN, rfl, hH⟩ a hA) | (refine AT ?_; clear hA; rintro _ w ⟨oN, cN, rfl, hH2⟩ a hA; clear hH; have hH := (hH2 _ (by (repeat constructor))).tail; clear hH2) | (refine S0T ?_; clear hH; rintro _ w hH) )) | ((first | refine CT ?_ | (refine DT ?_ ?_ <;> intro hc <;> try (exfalso; omega))) <;> repeat' refine CT ?_) | (first | (refine DSK ?_; clear hA a; intro a hA) | (first | (refine DLT ?_; clear hA hH; rintro _ w ⟨oN, rfl, hH⟩; refine ⟨STT, ?_⟩; intro a hA) | (refine DAT ?_; clear hA; rintro _ w ⟨oN, cN, rfl, hH2⟩; clear hH; have hH := (hH2 _ (by (repeat constructor))).tail; clear hH2; refine ⟨STT, ?_⟩; intro a hA))) )
    exact rt1 (.inl rfl) rfl hA rfl ⟨o', c', by rw [e], by rw [e]; exact hH⟩
end Go.Proofs.Ytjfanjcoppeeaaa
namespace Go.Proofs.Ytjfanjcoppeeaaa
open Go Go.Fw
set_option linter.unusedVariables false
def insL (q : List Int) : List Int := q.foldl insF [0, 1]
theorem insL_snoc (q : List Int) (x : Int) : insL (q ++ [x]) = insF (insL q) x := by unfold insL; rw [List.foldl_append]; rfl
theorem insL_len (q : List Int) : (insL q).length = q.length + 2 := by
  have : ∀ (q s : List Int), (q.foldl insF s).length = q.length + s.length := by
    intro q
    induction q with
    | nil => intro s; simp
    | cons x q ih =>
      intro s
      rw [List.foldl_cons, ih, insF_len, List.length_cons]
      omega
  exact this q [0, 1]
def vpre (bs : List Blc) (i : Nat) : List Int := (bs.take i).flatMap bvars
theorem vpre_0 (bs : List Blc) : vpre bs 0 = [] := by unfold vpre; rw [List.take_zero]; rfl
theorem vpre_next {bs : List Blc} {i : Nat} {b : Blc} (h : bs[i]? = some b) : vpre bs (i + 1) = vpre bs i ++ b.ps.l ++ b.is.l.map Ins.x := by
  unfold vpre
  rw [take_snoc h, List.flatMap_append, List.append_assoc]
  simp [bvars]
theorem vpre_len (bs : List Blc) (i : Nat) : (vpre bs i).length + 2 = (varsL (bs.take i)).length := by
  unfold vpre varsL
  rw [List.length_append]
  show _ = 2 + _
  omega
theorem app_take {q l : List Int} {j : Nat} {x : Int} (hx : l[j]? = some x) : q ++ l.take (j + 1) = q ++ l.take j ++ [x] := by rw [take_snoc hx, List.append_assoc]
theorem flat01 : flat Fw.encI [0, 1] = [.int .i64 0, .int .i64 1] := rfl
set_option maxRecDepth 10000 attribute [local irreducible] Code.wp wpList Calls Ex Op1 sat bat blk cb own Go.Fw.mp Go.Fw.mpO Go.Fw.mpI Go.Fw.mpE Go.Fw.itr HS Rd Ret wkD Hp Cl Cls Exit.then Exit.inBlock Exit.noGoto bodyPost Go.Fw.flat wk2 Go.Fw.all Go.Fw.owns wpOp
attribute [local irreducible] sk mpK srt varsL regOf insF insL vpre

set_option maxHeartbeats 8000000 in
theorem vars_spec (w0 : World) (f : Gr) (hR : RdG w0 f) (hb : (varsL f.bs.l).length ≤ 1000000) :
    Ret Try.prog 15 #[.agg (encG f).toArray] w0 (fun v w => ∃ o c, v = .slice o (insL (vpre f.bs.l f.bs.l.length)).length c ∧ HS w0 noM [own 3 1 o (insL (vpre f.bs.l f.bs.l.length)).length c (flat Fw.encI (insL (vpre f.bs.l f.bs.l.length)))] w) := by
  have hH : HS w0 noM [] w0 := HS.init w0 noM
  have hle := hR.1.le
  have hsp : Sp f.bs.o f.bs.l.length := hR.1.1.sp (sz := 6) (flat_length encBl_len _) (by omega)
  (refine enter (N := 51) Try.func15 rfl Try.ntmps15 rfl ?_; intro a hA; dsimp only [sl0, Nat.reduceAdd] at hA)
  repeat' (first | (first | (refine GT ?_ ?_ <;> intro hg <;> clear hA a <;> intro a hA <;> (first | exact FA | replace hg := of_decide_eq_true hg | replace hg := of_decide_eq_false hg | skip)) | (refine QT ?_; clear hA a; intro a hA) | (first | (refine BT ?_; clear hA hH; rintro _ w ⟨bN, rfl, hH⟩ a hA) | (refine LT ?_; clear hA hH; rintro _ w ⟨oN, rfl, hH⟩ a hA) | (refine AT ?_; clear hA; rintro _ w ⟨oN, cN, rfl, hH2⟩ a hA; clear hH; have hH := (hH2 _ (by (repeat constructor))).tail; clear hH2) | (refine S0T ?_; clear hH; rintro _ w hH) )) | ((first | refine CT ?_ | (refine DT ?_ ?_ <;> intro hc <;> try (exfalso; omega))) <;> repeat' refine CT ?_) | (first | (refine DSK ?_; clear hA a; intro a hA) | (first | (refine DLT ?_; clear hA hH; rintro _ w ⟨oN, rfl, hH⟩; refine ⟨STT, ?_⟩; intro a hA) | (refine DAT ?_; clear hA; rintro _ w ⟨oN, cN, rfl, hH2⟩; clear hH; have hH := (hH2 _ (by (repeat constructor))).tail; clear hH2; refine ⟨STT, ?_⟩; intro a hA))) )
  obtain ⟨bG, hbG⟩ : ∃ x, x = bN := ⟨_, rfl⟩
  rw [← hbG] at hA hH
  clear hbG bN
  have hi0 : insL (vpre f.bs.l 0) = [0, 1] := by rw [vpre_0]; unfold insL; rfl
  refine wp_lpk (S := Nat) (fun i a w => ∃ o c, i ≤ f.bs.l.length ∧ HS w0 noM [own 3 1 o (insL (vpre f.bs.l i)).length c (flat Fw.encI (insL (vpre f.bs.l i))), cb bG 30 (encG f)] w ∧ Sl 51 [(1, .pointer (some (bat bG 0))), (4, .int .i64 i), (3, .slice o (insL (vpre f.bs.l i)).length c)] a) (fun i => f.bs.l.length - i)
    (fun a w => ∃ o c, HS w0 noM [own 3 1 o (insL (vpre f.bs.l f.bs.l.length)).length c (flat Fw.encI (insL (vpre f.bs.l f.bs.l.length)))] w ∧ Sl 51 [(3, .slice o (insL (vpre f.bs.l f.bs.l.length)).length c)] a) 0 ⟨oN, 2, Nat.zero_le _, (by rw [hi0, flat01]; exact hH), (by rw [hi0]; exact (hA.sub (by (repeat (first | exact trivial | refine ⟨rfl, ?_⟩)))))⟩ ?_ ?_
  · clear hA hH
    rintro i a w ⟨o, c, hi, hH, hA⟩
    by_cases hlt : i < f.bs.l.length
    rotate_left
    · obtain rfl : i = f.bs.l.length := by omega
      repeat' (first | (first | (refine GT ?_ ?_ <;> intro hg <;> clear hA a <;> intro a hA <;> (first | exact FA | replace hg := of_decide_eq_true hg | replace hg := of_decide_eq_false hg | skip)) | (refine QT ?_; clear hA a; intro a hA) | (first | (refine BT ?_; clear hA hH; rintro _ w ⟨bN, rfl, hH⟩ a hA) | (refine LT ?_; clear hA hH; rintro _ w ⟨oN, rfl, hH⟩ a hA) | (refine AT ?_; clear hA; rintro _ w ⟨oN, cN, rfl, hH2⟩ a hA; clear hH; have hH := (hH2 _ (by (repeat constructor))).tail; clear hH2) | (refine S0T ?_; clear hH; rintro _ w hH) )) | ((first | refine CT ?_ | (refine DT ?_ ?_ <;> intro hc <;> try (exfalso; omega))) <;> repeat' refine CT ?_) | (first | (refine DSK ?_; clear hA a; intro a hA) | (first | (refine DLT ?_; clear hA hH; rintro _ w ⟨oN, rfl, hH⟩; refine ⟨STT, ?_⟩; intro a hA) | (refine DAT ?_; clear hA; rintro _ w ⟨oN, cN, rfl, hH2⟩; clear hH; have hH := (hH2 _ (by (repeat constructor))).tail; clear hH2; refine ⟨STT, ?_⟩; intro a hA))) )
      exact ⟨o, c, hH.head, (hA.sub (by (repeat (first | exact trivial | refine ⟨rfl, ?_⟩))))⟩
    obtain ⟨bl, hbl⟩ : ∃ bl, f.bs.l[i]? = some bl := ⟨_, List.getElem?_eq_getElem hlt⟩
    have hbR := hR.2 bl (List.mem_of_getElem? hbl)
    have hvs := flat_all encBl_len hbl
    have hleP := hbR.1.le
    have hleI := hbR.2.1.le
    have hspP : Sp bl.ps.o bl.ps.l.length := hbR.1.1.sp (sz := 1) (flat_length Fw.encI_len _) (by omega)
    have hspI : Sp bl.is.o bl.is.l.length := hbR.2.1.1.sp (sz := 5) (flat_length encIn_len _) (by omega)
    have htot : (vpre f.bs.l i).length + bl.ps.l.length + bl.is.l.length + 2 ≤ 1000000 := by
      have h1 := varsL_le f.bs.l (i + 1)
      have h2 := vpre_len f.bs.l (i + 1)
      rw [vpre_next hbl, List.length_append, List.length_append, List.length_map] at h2
      omega
    repeat' (first | (first | (refine GT ?_ ?_ <;> intro hg <;> clear hA a <;> intro a hA <;> (first | exact FA | replace hg := of_decide_eq_true hg | replace hg := of_decide_eq_false hg | skip)) | ((first | apply st_ex hA hH rfl rfl (by decide) | apply dr_ex hA rfl rfl rfl (by decide) | apply dr_exp hA rfl rfl rfl (by decide) | apply dr_ex3 hA hH rfl rfl rfl (by decide)); (first | (apply ex_load_st (vs := encBl bl); rfl; rfl; exact cls_rd hR.1.1 id hvs)); clear hA a; intro a hA) | (refine QT ?_; clear hA a; intro a hA) | (first | (refine BT ?_; clear hA hH; rintro _ w ⟨bN, rfl, hH⟩ a hA) | (refine LT ?_; clear hA hH; rintro _ w ⟨oN, rfl, hH⟩ a hA) | (refine AT ?_; clear hA; rintro _ w ⟨oN, cN, rfl, hH2⟩ a hA; clear hH; have hH := (hH2 _ (by (repeat constructor))).tail; clear hH2) | (refine S0T ?_; clear hH; rintro _ w hH) | (apply st_op0 hA rfl rfl; apply op_store_agg (vs := encBl bl); rfl; rfl; exact hH; (repeat constructor); (repeat rfl); clear hH; rintro _ w hH))) | ((first | refine CT ?_ | (refine DT ?_ ?_ <;> intro hc <;> try (exfalso; omega))) <;> repeat' refine CT ?_) | (first | (refine DSK ?_; clear hA a; intro a hA) | (first | (refine DLT ?_; clear hA hH; rintro _ w ⟨oN, rfl, hH⟩; refine ⟨STT, ?_⟩; intro a hA) | (refine DAT ?_; clear hA; rintro _ w ⟨oN, cN, rfl, hH2⟩; clear hH; have hH := (hH2 _ (by (repeat constructor))).tail; clear hH2; refine ⟨STT, ?_⟩; intro a hA))) )
    obtain ⟨bB, hbB⟩ : ∃ x, x = bN := ⟨_, rfl⟩
    rw [← hbB] at hA hH
    clear hbB bN
    have hq0 : vpre f.bs.l i ++ bl.ps.l.take 0 = vpre f.bs.l i := by rw [List.take_zero, List.append_nil]
    refine wp_lpk (S := Nat) (fun j a w => ∃ o c, j ≤ bl.ps.l.length ∧ HS w0 noM [own 3 1 o (insL (vpre f.bs.l i ++ bl.ps.l.take j)).length c (flat Fw.encI (insL (vpre f.bs.l i ++ bl.ps.l.take j))), cb bB 52 (encBl bl), cb bG 30 (encG f)] w ∧ Sl 51 [(6, .int .i64 j), (5, .pointer (some (bat bB 0))), (1, .pointer (some (bat bG 0))), (4, .int .i64 i), (3, .slice o (insL (vpre f.bs.l i ++ bl.ps.l.take j)).length c)] a) (fun j => bl.ps.l.length - j)
      (fun a w => ∃ o c, HS w0 noM [own 3 1 o (insL (vpre f.bs.l i ++ bl.ps.l)).length c (flat Fw.encI (insL (vpre f.bs.l i ++ bl.ps.l))), cb bB 52 (encBl bl), cb bG 30 (encG f)] w ∧ Sl 51 [(5, .pointer (some (bat bB 0))), (1, .pointer (some (bat bG 0))), (4, .int .i64 i), (3, .slice o (insL (vpre f.bs.l i ++ bl.ps.l)).length c)] a) 0 ⟨o, c, Nat.zero_le _, (by rw [hq0]; exact hH.perm (by (repeat (first | exact List.Perm.refl _ | exact List.Perm.nil | refine perm_pick 0 rfl ?_ | refine perm_pick 1 rfl ?_ | refine perm_pick 2 rfl ?_ | refine perm_pick 3 rfl ?_ | refine perm_pick 4 rfl ?_ | refine perm_pick 5 rfl ?_ | refine perm_pick 6 rfl ?_ | refine perm_pick 7 rfl ?_ | refine perm_pick 8 rfl ?_ | refine perm_pick 9 rfl ?_ | refine perm_pick 10 rfl ?_ | refine perm_pick 11 rfl ?_)))), (by rw [hq0]; exact (hA.sub (by (repeat (first | exact trivial | refine ⟨rfl, ?_⟩)))))⟩ ?_ ?_
    · clear hA hH
      rintro j a w ⟨o, c, hj, hH, hA⟩
      by_cases hlj : j < bl.ps.l.length
      rotate_left
      · obtain rfl : j = bl.ps.l.length := by omega
        rw [List.take_length] at hA hH
        repeat' (first | (first | (refine GT ?_ ?_ <;> intro hg <;> clear hA a <;> intro a hA <;> (first | exact FA | replace hg := of_decide_eq_true hg | replace hg := of_decide_eq_false hg | skip)) | (refine QT ?_; clear hA a; intro a hA) | (first | (refine BT ?_; clear hA hH; rintro _ w ⟨bN, rfl, hH⟩ a hA) | (refine LT ?_; clear hA hH; rintro _ w ⟨oN, rfl, hH⟩ a hA) | (refine AT ?_; clear hA; rintro _ w ⟨oN, cN, rfl, hH2⟩ a hA; clear hH; have hH := (hH2 _ (by (repeat constructor))).tail; clear hH2) | (refine S0T ?_; clear hH; rintro _ w hH) )) | ((first | refine CT ?_ | (refine DT ?_ ?_ <;> intro hc <;> try (exfalso; omega))) <;> repeat' refine CT ?_) | (first | (refine DSK ?_; clear hA a; intro a hA) | (first | (refine DLT ?_; clear hA hH; rintro _ w ⟨oN, rfl, hH⟩; refine ⟨STT, ?_⟩; intro a hA) | (refine DAT ?_; clear hA; rintro _ w ⟨oN, cN, rfl, hH2⟩; clear hH; have hH := (hH2 _ (by (repeat constructor))).tail; clear hH2; refine ⟨STT, ?_⟩; intro a hA))) )
        exact ⟨o, c, hH, (hA.sub (by (repeat (first | exact trivial | refine ⟨rfl, ?_⟩))))⟩
      obtain ⟨x, hx⟩ : ∃ x, bl.ps.l[j]? = some x := ⟨_, List.getElem?_eq_getElem hlj⟩
      have hv : (flat Fw.encI bl.ps.l)[j * 1]? = some (.int .i64 x) := flat_get (off := 0) Fw.encI_len hx rfl
      have hb2 : (insL (vpre f.bs.l i ++ bl.ps.l.take j)).length ≤ 1000000 := by rw [insL_len, List.length_append, List.length_take]; omega
      repeat' (first | (first | (refine GT ?_ ?_ <;> intro hg <;> clear hA a <;> intro a hA <;> (first | exact FA | replace hg := of_decide_eq_true hg | replace hg := of_decide_eq_false hg | skip)) | ((first | apply st_ex hA hH rfl rfl (by decide) | apply dr_ex hA rfl rfl rfl (by decide) | apply dr_exp hA rfl rfl rfl (by decide) | apply dr_ex3 hA hH rfl rfl rfl (by decide)); (first | (apply ex_load; rfl; exact cl_rd hbR.1.1 id hv)); clear hA a; intro a hA) | (refine QT ?_; clear hA a; intro a hA) | (first | (refine BT ?_; clear hA hH; rintro _ w ⟨bN, rfl, hH⟩ a hA) | (refine LT ?_; clear hA hH; rintro _ w ⟨oN, rfl, hH⟩ a hA) | (refine AT ?_; clear hA; rintro _ w ⟨oN, cN, rfl, hH2⟩ a hA; clear hH; have hH := (hH2 _ (by (repeat constructor))).tail; clear hH2) | (refine S0T ?_; clear hH; rintro _ w hH) )) | ((first | refine CT ?_ | (refine DT ?_ ?_ <;> intro hc <;> try (exfalso; omega))) <;> repeat' refine CT ?_) | (first | (refine DSK ?_; clear hA a; intro a hA) | (first | (refine DLT ?_; clear hA hH; rintro _ w ⟨oN, rfl, hH⟩; refine ⟨STT, ?_⟩; intro a hA) | (refine DAT ?_; clear hA; rintro _ w ⟨oN, cN, rfl, hH2⟩; clear hH; have hH := (hH2 _ (by (repeat constructor))).tail; clear hH2; refine ⟨STT, ?_⟩; intro a hA))) )
      (refine st_op hA rfl rfl (by decide) (op_call rfl rfl rfl (insert_spec _ o c _ x (hH.own_rd (.head _)) hb2)) ?_; clear hA; rintro _ w ⟨o2, c2, rfl, hj2⟩ a hA; replace hH := hH.join hj2; clear hj2)
      rw [← insL_snoc, ← app_take hx] at hA hH
      repeat' (first | (first | (refine GT ?_ ?_ <;> intro hg <;> clear hA a <;> intro a hA <;> (first | exact FA | replace hg := of_decide_eq_true hg | replace hg := of_decide_eq_false hg | skip)) | (refine QT ?_; clear hA a; intro a hA) | (first | (refine BT ?_; clear hA hH; rintro _ w ⟨bN, rfl, hH⟩ a hA) | (refine LT ?_; clear hA hH; rintro _ w ⟨oN, rfl, hH⟩ a hA) | (refine AT ?_; clear hA; rintro _ w ⟨oN, cN, rfl, hH2⟩ a hA; clear hH; have hH := (hH2 _ (by (repeat constructor))).tail; clear hH2) | (refine S0T ?_; clear hH; rintro _ w hH) )) | ((first | refine CT ?_ | (refine DT ?_ ?_ <;> intro hc <;> try (exfalso; omega))) <;> repeat' refine CT ?_) | (first | (refine DSK ?_; clear hA a; intro a hA) | (first | (refine DLT ?_; clear hA hH; rintro _ w ⟨oN, rfl, hH⟩; refine ⟨STT, ?_⟩; intro a hA) | (refine DAT ?_; clear hA; rintro _ w ⟨oN, cN, rfl, hH2⟩; clear hH; have hH := (hH2 _ (by (repeat constructor))).tail; clear hH2; refine ⟨STT, ?_⟩; intro a hA))) )
      exact ⟨j + 1, ⟨o2, c2, hlj, hH.rm 1, (hA.sub (by (repeat (first | exact trivial | refine ⟨rfl, ?_⟩))))⟩, by omega⟩
    clear hA hH
    rintro a w ⟨o, c, hH, hA⟩
    repeat' (first | (first | (refine GT ?_ ?_ <;> intro hg <;> clear hA a <;> intro a hA <;> (first | exact FA | replace hg := of_decide_eq_true hg | replace hg := of_decide_eq_false hg | skip)) | (refine QT ?_; clear hA a; intro a hA) | (first | (refine BT ?_; clear hA hH; rintro _ w ⟨bN, rfl, hH⟩ a hA) | (refine LT ?_; clear hA hH; rintro _ w ⟨oN, rfl, hH⟩ a hA) | (refine AT ?_; clear hA; rintro _ w ⟨oN, cN, rfl, hH2⟩ a hA; clear hH; have hH := (hH2 _ (by (repeat constructor))).tail; clear hH2) | (refine S0T ?_; clear hH; rintro _ w hH) )) | ((first | refine CT ?_ | (refine DT ?_ ?_ <;> intro hc <;> try (exfalso; omega))) <;> repeat' refine CT ?_) | (first | (refine DSK ?_; clear hA a; intro a hA) | (first | (refine DLT ?_; clear hA hH; rintro _ w ⟨oN, rfl, hH⟩; refine ⟨STT, ?_⟩; intro a hA) | (refine DAT ?_; clear hA; rintro _ w ⟨oN, cN, rfl, hH2⟩; clear hH; have hH := (hH2 _ (by (repeat constructor))).tail; clear hH2; refine ⟨STT, ?_⟩; intro a hA))) )
    obtain ⟨q, hq⟩ : ∃ q, q = vpre f.bs.l i ++ bl.ps.l := ⟨_, rfl⟩
    have hql : q.length = (vpre f.bs.l i).length + bl.ps.l.length := by rw [hq, List.length_append]
    rw [← hq] at hA hH
    have hq1 : q ++ (bl.is.l.map Ins.x).take 0 = q := by rw [List.take_zero, List.append_nil]
    refine wp_lpk (S := Nat) (fun j a w => ∃ o c, j ≤ bl.is.l.length ∧ HS w0 noM [own 3 1 o (insL (q ++ (bl.is.l.map Ins.x).take j)).length c (flat Fw.encI (insL (q ++ (bl.is.l.map Ins.x).take j))), cb bB 52 (encBl bl), cb bG 30 (encG f)] w ∧ Sl 51 [(7, .int .i64 j), (5, .pointer (some (bat bB 0))), (1, .pointer (some (bat bG 0))), (4, .int .i64 i), (3, .slice o (insL (q ++ (bl.is.l.map Ins.x).take j)).length c)] a) (fun j => bl.is.l.length - j)
      (fun a w => ∃ o c, HS w0 noM [own 3 1 o (insL (vpre f.bs.l (i + 1))).length c (flat Fw.encI (insL (vpre f.bs.l (i + 1)))), cb bG 30 (encG f)] w ∧ Sl 51 [(1, .pointer (some (bat bG 0))), (4, .int .i64 i), (3, .slice o (insL (vpre f.bs.l (i + 1))).length c)] a) 0 ⟨o, c, Nat.zero_le _, (by rw [hq1]; exact hH), (by rw [hq1]; exact (hA.sub (by (repeat (first | exact trivial | refine ⟨rfl, ?_⟩)))))⟩ ?_ ?_
    · clear hA hH
      rintro j a w ⟨o, c, hj, hH, hA⟩
      by_cases hlj : j < bl.is.l.length
      rotate_left
      · obtain rfl : j = bl.is.l.length := by omega
        rw [show (bl.is.l.map Ins.x).take bl.is.l.length = bl.is.l.map Ins.x from by rw [← List.length_map (f := Ins.x), List.take_length], hq, ← vpre_next hbl] at hA hH
        repeat' (first | (first | (refine GT ?_ ?_ <;> intro hg <;> clear hA a <;> intro a hA <;> (first | exact FA | replace hg := of_decide_eq_true hg | replace hg := of_decide_eq_false hg | skip)) | (refine QT ?_; clear hA a; intro a hA) | (first | (refine BT ?_; clear hA hH; rintro _ w ⟨bN, rfl, hH⟩ a hA) | (refine LT ?_; clear hA hH; rintro _ w ⟨oN, rfl, hH⟩ a hA) | (refine AT ?_; clear hA; rintro _ w ⟨oN, cN, rfl, hH2⟩ a hA; clear hH; have hH := (hH2 _ (by (repeat constructor))).tail; clear hH2) | (refine S0T ?_; clear hH; rintro _ w hH) )) | ((first | refine CT ?_ | (refine DT ?_ ?_ <;> intro hc <;> try (exfalso; omega))) <;> repeat' refine CT ?_) | (first | (refine DSK ?_; clear hA a; intro a hA) | (first | (refine DLT ?_; clear hA hH; rintro _ w ⟨oN, rfl, hH⟩; refine ⟨STT, ?_⟩; intro a hA) | (refine DAT ?_; clear hA; rintro _ w ⟨oN, cN, rfl, hH2⟩; clear hH; have hH := (hH2 _ (by (repeat constructor))).tail; clear hH2; refine ⟨STT, ?_⟩; intro a hA))) )
        exact ⟨o, c, hH.rm 1, (hA.sub (by (repeat (first | exact trivial | refine ⟨rfl, ?_⟩))))⟩
      obtain ⟨x, hx⟩ : ∃ x, bl.is.l[j]? = some x := ⟨_, List.getElem?_eq_getElem hlj⟩
      have hx2 : (bl.is.l.map Ins.x)[j]? = some x.x := by rw [List.getElem?_map, hx]; rfl
      have hv : (flat encIn bl.is.l)[j * 5 + 0]? = some (.int .i64 x.x) := flat_get (off := 0) encIn_len hx rfl
      have hb2 : (insL (q ++ (bl.is.l.map Ins.x).take j)).length ≤ 1000000 := by rw [insL_len, List.length_append, List.length_take, List.length_map]; omega
      repeat' (first | (first | (refine GT ?_ ?_ <;> intro hg <;> clear hA a <;> intro a hA <;> (first | exact FA | replace hg := of_decide_eq_true hg | replace hg := of_decide_eq_false hg | skip)) | ((first | apply st_ex hA hH rfl rfl (by decide) | apply dr_ex hA rfl rfl rfl (by decide) | apply dr_exp hA rfl rfl rfl (by decide) | apply dr_ex3 hA hH rfl rfl rfl (by decide)); (first | (apply ex_load; rfl; exact cl_rd hbR.2.1.1 id hv)); clear hA a; intro a hA) | (refine QT ?_; clear hA a; intro a hA) | (first | (refine BT ?_; clear hA hH; rintro _ w ⟨bN, rfl, hH⟩ a hA) | (refine LT ?_; clear hA hH; rintro _ w ⟨oN, rfl, hH⟩ a hA) | (refine AT ?_; clear hA; rintro _ w ⟨oN, cN, rfl, hH2⟩ a hA; clear hH; have hH := (hH2 _ (by (repeat constructor))).tail; clear hH2) | (refine S0T ?_; clear hH; rintro _ w hH) )) | ((first | refine CT ?_ | (refine DT ?_ ?_ <;> intro hc <;> try (exfalso; omega))) <;> repeat' refine CT ?_) | (first | (refine DSK ?_; clear hA a; intro a hA) | (first | (refine DLT ?_; clear hA hH; rintro _ w ⟨oN, rfl, hH⟩; refine ⟨STT, ?_⟩; intro a hA) | (refine DAT ?_; clear hA; rintro _ w ⟨oN, cN, rfl, hH2⟩; clear hH; have hH := (hH2 _ (by (repeat constructor))).tail; clear hH2; refine ⟨STT, ?_⟩; intro a hA))) )
      (refine st_op hA rfl rfl (by decide) (op_call rfl rfl rfl (insert_spec _ o c _ x.x (hH.own_rd (.head _)) hb2)) ?_; clear hA; rintro _ w ⟨o2, c2, rfl, hj2⟩ a hA; replace hH := hH.join hj2; clear hj2)
      rw [← insL_snoc, ← app_take hx2] at hA hH
      repeat' (first | (first | (refine GT ?_ ?_ <;> intro hg <;> clear hA a <;> intro a hA <;> (first | exact FA | replace hg := of_decide_eq_true hg | replace hg := of_decide_eq_false hg | skip)) | (refine QT ?_; clear hA a; intro a hA) | (first | (refine BT ?_; clear hA hH; rintro _ w ⟨bN, rfl, hH⟩ a hA) | (refine LT ?_; clear hA hH; rintro _ w ⟨oN, rfl, hH⟩ a hA) | (refine AT ?_; clear hA; rintro _ w ⟨oN, cN, rfl, hH2⟩ a hA; clear hH; have hH := (hH2 _ (by (repeat constructor))).tail; clear hH2) | (refine S0T ?_; clear hH; rintro _ w hH) )) | ((first | refine CT ?_ | (refine DT ?_ ?_ <;> intro hc <;> try (exfalso; omega))) <;> repeat' refine CT ?_) | (first | (refine DSK ?_; clear hA a; intro a hA) | (first | (refine DLT ?_; clear hA hH; rintro _ w ⟨oN, rfl, hH⟩; refine ⟨STT, ?_⟩; intro a hA) | (refine DAT ?_; clear hA; rintro _ w ⟨oN, cN, rfl, hH2⟩; clear hH; have hH := (hH2 _ (by (repeat constructor))).tail; clear hH2; refine ⟨STT, ?_⟩; intro a hA))) )
      exact ⟨j + 1, ⟨o2, c2, hlj, hH.rm 1, (hA.sub (by (repeat (first | exact trivial | refine ⟨rfl, ?_⟩))))⟩, by omega⟩
    clear hA hH
    rintro a w ⟨o, c, hH, hA⟩
    repeat' (first | (first | (refine GT ?_ ?_ <;> intro hg <;> clear hA a <;> intro a hA <;> (first | exact FA | replace hg := of_decide_eq_true hg | replace hg := of_decide_eq_false hg | skip)) | (refine QT ?_; clear hA a; intro a hA) | (first | (refine BT ?_; clear hA hH; rintro _ w ⟨bN, rfl, hH⟩ a hA) | (refine LT ?_; clear hA hH; rintro _ w ⟨oN, rfl, hH⟩ a hA) | (refine AT ?_; clear hA; rintro _ w ⟨oN, cN, rfl, hH2⟩ a hA; clear hH; have hH := (hH2 _ (by (repeat constructor))).tail; clear hH2) | (refine S0T ?_; clear hH; rintro _ w hH) )) | ((first | refine CT ?_ | (refine DT ?_ ?_ <;> intro hc <;> try (exfalso; omega))) <;> repeat' refine CT ?_) | (first | (refine DSK ?_; clear hA a; intro a hA) | (first | (refine DLT ?_; clear hA hH; rintro _ w ⟨oN, rfl, hH⟩; refine ⟨STT, ?_⟩; intro a hA) | (refine DAT ?_; clear hA; rintro _ w ⟨oN, cN, rfl, hH2⟩; clear hH; have hH := (hH2 _ (by (repeat constructor))).tail; clear hH2; refine ⟨STT, ?_⟩; intro a hA))) )
    exact ⟨i + 1, ⟨o, c, hlt, hH, (hA.sub (by (repeat (first | exact trivial | refine ⟨rfl, ?_⟩))))⟩, by omega⟩
  clear hA hH
  rintro a w ⟨o, c, hH, hA⟩
  repeat' (first | (first | (refine GT ?_ ?_ <;> intro hg <;> clear hA a <;> intro a hA <;> (first | exact FA | replace hg := of_decide_eq_true hg | replace hg := of_decide_eq_false hg | skip)) | (refine QT ?_; clear hA a; intro a hA) | (first | (refine BT ?_; clear hA hH; rintro _ w ⟨bN, rfl, hH⟩ a hA) | (refine LT ?_; clear hA hH; rintro _ w ⟨oN, rfl, hH⟩ a hA) | (refine AT ?_; clear hA; rintro _ w ⟨oN, cN, rfl, hH2⟩ a hA; clear hH; have hH := (hH2 _ (by (repeat constructor))).tail; clear hH2) | (refine S0T ?_; clear hH; rintro _ w hH) )) | ((first | refine CT ?_ | (refine DT ?_ ?_ <;> intro hc <;> try (exfalso; omega))) <;> repeat' refine CT ?_) | (first | (refine DSK ?_; clear hA a; intro a hA) | (first | (refine DLT ?_; clear hA hH; rintro _ w ⟨oN, rfl, hH⟩; refine ⟨STT, ?_⟩; intro a hA) | (refine DAT ?_; clear hA; rintro _ w ⟨oN, cN, rfl, hH2⟩; clear hH; have hH := (hH2 _ (by (repeat constructor))).tail; clear hH2; refine ⟨STT, ?_⟩; intro a hA))) )
  exact rt1 (.inl rfl) rfl hA rfl ⟨o, c, rfl, hH⟩
end Go.Proofs.Ytjfanjcoppeeaaa
namespace Go.Proofs.Ytjfanjcoppeeaaa
open Go Go.Fw
set_option linter.unusedVariables false
/-- does x live in a block ahead of its Ins of a number? -/
def LvAt (ss : List (Option (Nat × List Int))) (bl : Blc) (n : Nat) (x : Int) : Prop := insP (bl.is.l.drop n) (lastP bl.e ss) x
theorem lvAt_end {ss : List (Option (Nat × List Int))} {bl : Blc} {x : Int} : LvAt ss bl bl.is.l.length x ↔ lastP bl.e ss x := by
  unfold LvAt
  rw [List.drop_length]
  exact Iff.rfl
theorem lvAt_at {ss : List (Option (Nat × List Int))} {bl : Blc} {j : Nat} {i : Ins} {x : Int} (h : bl.is.l[j]? = some i) : LvAt ss bl j x ↔ insUse i x ∨ (LvAt ss bl (j + 1) x ∧ x ≠ i.x) := by
  unfold LvAt
  obtain ⟨hi, rfl⟩ := List.getElem?_eq_some_iff.1 h
  rw [List.drop_eq_getElem_cons hi]
  exact Iff.rfl
/-- what has been is not live -/
def Bn (ss : List (Option (Nat × List Int))) (n : Nat) (bs : List Bool) (x : Int) : Prop := ∀ m, n < m → bs[m]? = some true → x ∉ setAt ss m
theorem no_use {i : Ins} {x : Int} (hu : uses i.r.a.l x = false) (h : ¬ i.r.k = 5 ∨ ¬ x = 0) : ¬ insUse i x := by
  rintro (h1 | ⟨h1, h2⟩)
  · rw [hu] at h1; cases h1
  · exact h.elim (fun h => h h1) fun h => h h2
theorem no_next {l : List Edg} {j : Nat} {t : Edg} {x : Int} (ht : l[j]? = some t) (h : ∀ t ∈ l.take j, uses t.a.l x = false) (hu : uses t.a.l x = false) : ∀ t ∈ l.take (j + 1), uses t.a.l x = false := by
  intro s hs
  rw [take_snoc ht] at hs
  rcases List.mem_append.1 hs with hs | hs
  · exact h s hs
  · rw [List.mem_singleton] at hs; subst hs; exact hu
theorem set_next {ss : List (Option (Nat × List Int))} {l : List Edg} {j : Nat} {t : Edg} {x : Int} (ht : l[j]? = some t) (h : ∀ t ∈ l.take j, x ∉ setAt ss t.b.toNat) (hx : x ∉ setAt ss t.b.toNat) : ∀ t ∈ l.take (j + 1), x ∉ setAt ss t.b.toNat := by
  intro s hs
  rw [take_snoc ht] at hs
  rcases List.mem_append.1 hs with hs | hs
  · exact h s hs
  · rw [List.mem_singleton] at hs; subst hs; exact hx
theorem last_not {ss : List (Option (Nat × List Int))} {f : Gr} {bl : Blc} {n : Nat} {x : Int} (hno : ∀ t ∈ bl.e.to.l, uses t.a.l x = false) (hU : Up f) (hbl : f.bs.l[n]? = some bl) (hF : ∀ n, FixAt f ss n) (hu : uses bl.e.a.l x = false) (hnm : ∀ t ∈ bl.e.to.l, x ∉ setAt ss t.b.toNat) : ¬ lastP bl.e ss x := by
  rintro (h | ⟨t, ht, h | ⟨_, s, hs, h⟩⟩)
  · rw [hu] at h; cases h
  · rw [hno t ht] at h; cases h
  · refine hnm t ht ?_
    unfold setAt
    rw [hs]
    exact h
theorem blk_ps {bl : Blc} {ss : List (Option (Nat × List Int))} {x : Int} (h : blkP bl ss x) : x ∉ bl.ps.l := h.2
theorem blk_mk {bl : Blc} {ss : List (Option (Nat × List Int))} {x : Int} (h : LvAt ss bl 0 x) (hp : x ∉ bl.ps.l) : blkP bl ss x := ⟨h, hp⟩
theorem last_in {ss : List (Option (Nat × List Int))} {e : En} {t : Edg} {x : Int} (ht : t ∈ e.to.l) (h0 : 0 ≤ t.b) (h : x ∈ setAt ss t.b.toNat) : lastP e ss x := by
  refine .inr ⟨t, ht, .inr ⟨h0, ?_⟩⟩
  unfold setAt at h
  cases hs : ss[t.b.toNat]? with
  | none => rw [hs] at h; exact absurd h List.not_mem_nil
  | some s => rw [hs] at h; exact ⟨s, rfl, h⟩
theorem bn_set {ss : List (Option (Nat × List Int))} {n m : Nat} {bs : List Bool} {x : Int} (hm : n < m) (h : Bn ss n bs x) : Bn ss m (bs.set m true) x := by
  intro k hk hb
  rw [List.getElem?_set_ne (by omega)] at hb
  exact h k (by omega) hb
theorem blk_lv {bl : Blc} {ss : List (Option (Nat × List Int))} {x : Int} (h : blkP bl ss x) : LvAt ss bl 0 x := h.1
theorem bn_back {ss : List (Option (Nat × List Int))} {n m : Nat} {bs bs2 : List Bool} {x : Int} (hm : n < m) (h : Bn ss n bs x) (h2 : Bn ss m bs2 x) (hs : ∀ k, k ≤ m → bs2[k]? = (bs.set m true)[k]?) (hx : x ∉ setAt ss m) : Bn ss n bs2 x := by
  intro k hk hb
  by_cases h1 : m < k
  · exact h2 k h1 hb
  · by_cases h3 : k = m
    · rw [h3]; exact hx
    · rw [hs k (by omega), List.getElem?_set_ne (by omega)] at hb
      exact h k hk hb
theorem lv_use {ss : List (Option (Nat × List Int))} {bl : Blc} {k j : Nat} {i : Ins} {x : Int} (h : bl.is.l[j]? = some i) (hk : LvAt ss bl k x ↔ LvAt ss bl j x) (hu : insUse i x) : true = true ↔ LvAt ss bl k x :=
  ⟨fun _ => hk.2 ((lvAt_at h).2 (.inl hu)), fun _ => rfl⟩
theorem lv_def {ss : List (Option (Nat × List Int))} {bl : Blc} {k j : Nat} {i : Ins} {x : Int} (h : bl.is.l[j]? = some i) (hk : LvAt ss bl k x ↔ LvAt ss bl j x) (hu : ¬ insUse i x) (hx : i.x = x) : false = true ↔ LvAt ss bl k x :=
  ⟨(fun h => by cases h), fun h1 => absurd hx.symm (((lvAt_at h).1 (hk.1 h1)).resolve_left hu).2⟩
theorem lv_go {ss : List (Option (Nat × List Int))} {bl : Blc} {k j : Nat} {i : Ins} {x : Int} (h : bl.is.l[j]? = some i) (hk : LvAt ss bl k x ↔ LvAt ss bl j x) (hu : ¬ insUse i x) (hx : ¬ i.x = x) : LvAt ss bl k x ↔ LvAt ss bl (j + 1) x :=
  hk.trans ⟨fun h1 => (((lvAt_at h).1 h1).resolve_left hu).1, fun h1 => (lvAt_at h).2 (.inr ⟨h1, fun e => hx e.symm⟩)⟩
set_option maxRecDepth 10000 attribute [local irreducible] Code.wp wpList Calls Ex Op1 sat bat blk cb own Go.Fw.mp Go.Fw.mpO Go.Fw.mpI Go.Fw.mpE Go.Fw.itr HS Rd Ret wkD Hp Cl Cls Exit.then Exit.inBlock Exit.noGoto bodyPost Go.Fw.flat wk2 Go.Fw.all Go.Fw.owns wpOp
attribute [local irreducible] sk mpK srt varsL regOf insF insL vpre insP uses

set_option maxHeartbeats 8000000 in
theorem lives_spec (f : Gr) (ss : List (Option (Nat × List Int))) (hF : ∀ n, FixAt f ss n) (hU : Up f) (hsl : ss.length = f.bs.l.length) : ∀ (d n : Nat), f.bs.l.length ≤ n + d → ∀ (w0 w : World) (H : List It) (k : Nat) (x : Int) (bs : List Bool) (oB : Option Addr) (cB : Nat) (bl : Blc),
    f.bs.l[n]? = some bl → k ≤ bl.is.l.length → RdG w0 f → bs.length = f.bs.l.length → HS w0 noM (own 4 1 oB bs.length cB (flat Fw.encB bs) :: H) w → Bn ss n bs x →
    Ret Try.prog 65 #[.agg (encG f).toArray, .int .i64 n, .int .i64 k, .int .i64 x, .slice oB bs.length cB] w (fun v w' => ∃ (bs' : List Bool) (b : Bool), v = .bool b ∧ (b = true ↔ LvAt ss bl k x) ∧ bs'.length = bs.length ∧ (b = false → Bn ss n bs' x ∧ ∀ m, m ≤ n → bs'[m]? = bs[m]?) ∧ HS w0 noM (own 4 1 oB bs'.length cB (flat Fw.encB bs') :: H) w')
  | 0, n, hd, _, _, _, _, _, _, _, _, bl, hbl, _, _, _, _, _ => by
    have := (List.getElem?_eq_some_iff.1 hbl).1
    omega
  | d + 1, n, hd, w0, w, H, k, x, bs, oB, cB, bl, hbl, hk, hR, hbs, hH, hBn => by
    have hnl := (List.getElem?_eq_some_iff.1 hbl).1
    have hle := hR.1.le
    have hsp : Sp f.bs.o f.bs.l.length := hR.1.1.sp (sz := 6) (flat_length encBl_len _) (by omega)
    have hbR := hR.2 bl (List.mem_of_getElem? hbl)
    have hvs := flat_all encBl_len hbl
    have hleI := hbR.2.1.le
    have hspI : Sp bl.is.o bl.is.l.length := hbR.2.1.1.sp (sz := 5) (flat_length encIn_len _) (by omega)
    have hE := hbR.2.2.2
    have hleT := hE.2.2.1.le
    have hspT : Sp bl.e.to.o bl.e.to.l.length := hE.2.2.1.1.sp (sz := 2) (flat_length encEd_len _) (by omega)
    (refine enter (N := 130) Try.func65 rfl Try.ntmps65 rfl ?_; intro a hA; dsimp only [sl0, Nat.reduceAdd] at hA)
    repeat' (first | (first | (refine GT ?_ ?_ <;> intro hg <;> clear hA a <;> intro a hA <;> (first | exact FA | replace hg := of_decide_eq_true hg | replace hg := of_decide_eq_false hg | skip)) | ((first | apply st_ex hA hH rfl rfl (by decide) | apply dr_ex hA rfl rfl rfl (by decide) | apply dr_exp hA rfl rfl rfl (by decide) | apply dr_ex3 hA hH rfl rfl rfl (by decide)); (first | (apply ex_load_st (vs := encBl bl); rfl; rfl; exact cls_rd hR.1.1 id hvs)); clear hA a; intro a hA) | (refine QT ?_; clear hA a; intro a hA) | (first | (refine BT ?_; clear hA hH; rintro _ w ⟨bN, rfl, hH⟩ a hA) | (refine LT ?_; clear hA hH; rintro _ w ⟨oN, rfl, hH⟩ a hA) | (refine AT ?_; clear hA; rintro _ w ⟨oN, cN, rfl, hH2⟩ a hA; clear hH; have hH := (hH2 _ (by (repeat constructor))).tail; clear hH2) | (refine S0T ?_; clear hH; rintro _ w hH) | (apply st_op0 hA rfl rfl; apply op_store_agg (vs := encBl bl); rfl; rfl; exact hH; (repeat constructor); (repeat rfl); clear hH; rintro _ w hH))) | ((first | refine CT ?_ | (refine DT ?_ ?_ <;> intro hc <;> try (exfalso; omega))) <;> repeat' refine CT ?_) | (first | (refine DSK ?_; clear hA a; intro a hA) | (first | (refine DLT ?_; clear hA hH; rintro _ w ⟨oN, rfl, hH⟩; refine ⟨STT, ?_⟩; intro a hA) | (refine DAT ?_; clear hA; rintro _ w ⟨oN, cN, rfl, hH2⟩; clear hH; have hH := (hH2 _ (by (repeat constructor))).tail; clear hH2; refine ⟨STT, ?_⟩; intro a hA))) )
    obtain ⟨bB, hbB⟩ : ∃ x, x = bN := ⟨_, rfl⟩
    rw [← hbB] at hA hH
    clear hbB bN
    obtain ⟨bG, hbG⟩ : ∃ x, x = bN := ⟨_, rfl⟩
    rw [← hbG] at hA hH
    clear hbG bN
    refine wp_lpk (S := Nat) (fun j a w => (k ≤ j ∧ j ≤ bl.is.l.length ∧ (LvAt ss bl k x ↔ LvAt ss bl j x)) ∧ HS w0 noM (cb bB 52 (encBl bl) :: cb bG 30 (encG f) :: own 4 1 oB bs.length cB (flat Fw.encB bs) :: H) w ∧ Sl 130 [(12, .int .i64 j), (11, .pointer (some (bat bB 0))), (10, .bool false), (5, .pointer (some (bat bG 0))), (3, .int .i64 x), (4, .slice oB bs.length cB)] a) (fun j => bl.is.l.length - j)
      (fun a w => (LvAt ss bl k x ↔ lastP bl.e ss x) ∧ HS w0 noM (cb bB 52 (encBl bl) :: cb bG 30 (encG f) :: own 4 1 oB bs.length cB (flat Fw.encB bs) :: H) w ∧ Sl 130 [(11, .pointer (some (bat bB 0))), (10, .bool false), (5, .pointer (some (bat bG 0))), (3, .int .i64 x), (4, .slice oB bs.length cB)] a) k
      ⟨⟨Nat.le_refl _, hk, Iff.rfl⟩, hH, (hA.sub (by (repeat (first | exact trivial | refine ⟨rfl, ?_⟩))))⟩ ?_ ?_
    · clear hA hH
      rintro j a w ⟨⟨hkj, hj, hlv⟩, hH, hA⟩
      by_cases hlt : j < bl.is.l.length
      rotate_left
      · obtain rfl : j = bl.is.l.length := by omega
        rw [lvAt_end] at hlv
        repeat' (first | (first | (refine GT ?_ ?_ <;> intro hg <;> clear hA a <;> intro a hA <;> (first | exact FA | replace hg := of_decide_eq_true hg | replace hg := of_decide_eq_false hg | skip)) | (refine QT ?_; clear hA a; intro a hA) | (first | (refine BT ?_; clear hA hH; rintro _ w ⟨bN, rfl, hH⟩ a hA) | (refine LT ?_; clear hA hH; rintro _ w ⟨oN, rfl, hH⟩ a hA) | (refine AT ?_; clear hA; rintro _ w ⟨oN, cN, rfl, hH2⟩ a hA; clear hH; have hH := (hH2 _ (by (repeat constructor))).tail; clear hH2) | (refine S0T ?_; clear hH; rintro _ w hH) )) | ((first | refine CT ?_ | (refine DT ?_ ?_ <;> intro hc <;> try (exfalso; omega))) <;> repeat' refine CT ?_) | (first | (refine DSK ?_; clear hA a; intro a hA) | (first | (refine DLT ?_; clear hA hH; rintro _ w ⟨oN, rfl, hH⟩; refine ⟨STT, ?_⟩; intro a hA) | (refine DAT ?_; clear hA; rintro _ w ⟨oN, cN, rfl, hH2⟩; clear hH; have hH := (hH2 _ (by (repeat constructor))).tail; clear hH2; refine ⟨STT, ?_⟩; intro a hA))) )
        exact ⟨hlv, hH, (hA.sub (by (repeat (first | exact trivial | refine ⟨rfl, ?_⟩))))⟩
      obtain ⟨i, hi⟩ : ∃ i, bl.is.l[j]? = some i := ⟨_, List.getElem?_eq_getElem hlt⟩
      have him := List.mem_of_getElem? hi
      have hv0 : (flat encIn bl.is.l)[j * 5 + 0]? = some (.int .i64 i.x) := flat_get (off := 0) encIn_len hi rfl
      have hv1 : (flat encIn bl.is.l)[j * 5 + 1 + 0]? = some (.int .i64 i.r.k) := flat_get (off := 1) encIn_len hi rfl
      have hv4 : (flat encIn bl.is.l)[j * 5 + 1 + 3]? = some (.slice i.r.a.o i.r.a.l.length i.r.a.c) := flat_get (off := 4) encIn_len hi rfl
      repeat' (first | (first | (refine GT ?_ ?_ <;> intro hg <;> clear hA a <;> intro a hA <;> (first | exact FA | replace hg := of_decide_eq_true hg | replace hg := of_decide_eq_false hg | skip)) | ((first | apply st_ex hA hH rfl rfl (by decide) | apply dr_ex hA rfl rfl rfl (by decide) | apply dr_exp hA rfl rfl rfl (by decide) | apply dr_ex3 hA hH rfl rfl rfl (by decide)); (first | (apply ex_load; rfl; exact cl_rd hbR.2.1.1 id hv4)); clear hA a; intro a hA) | (refine QT ?_; clear hA a; intro a hA) | (first | (refine BT ?_; clear hA hH; rintro _ w ⟨bN, rfl, hH⟩ a hA) | (refine LT ?_; clear hA hH; rintro _ w ⟨oN, rfl, hH⟩ a hA) | (refine AT ?_; clear hA; rintro _ w ⟨oN, cN, rfl, hH2⟩ a hA; clear hH; have hH := (hH2 _ (by (repeat constructor))).tail; clear hH2) | (refine S0T ?_; clear hH; rintro _ w hH) )) | ((first | refine CT ?_ | (refine DT ?_ ?_ <;> intro hc <;> try (exfalso; omega))) <;> repeat' refine CT ?_) | (first | (refine DSK ?_; clear hA a; intro a hA) | (first | (refine DLT ?_; clear hA hH; rintro _ w ⟨oN, rfl, hH⟩; refine ⟨STT, ?_⟩; intro a hA) | (refine DAT ?_; clear hA; rintro _ w ⟨oN, cN, rfl, hH2⟩; clear hH; have hH := (hH2 _ (by (repeat constructor))).tail; clear hH2; refine ⟨STT, ?_⟩; intro a hA))) )
      (refine st_op hA rfl rfl (by decide) (op_call rfl rfl rfl (has_spec _ i.r.a x ((hbR.2.2.1 i him).2.keep hH.kp))) ?_; clear hA; rintro _ w ⟨rfl, hk⟩ a hA; replace hH := hH.keep hk; clear hk)
      cases hu : uses i.r.a.l x with
      | true =>
        rw [hu] at hA
        repeat' (first | (first | (refine GT ?_ ?_ <;> intro hg <;> clear hA a <;> intro a hA <;> (first | exact FA | replace hg := of_decide_eq_true hg | replace hg := of_decide_eq_false hg | skip)) | (refine QT ?_; clear hA a; intro a hA) | (first | (refine BT ?_; clear hA hH; rintro _ w ⟨bN, rfl, hH⟩ a hA) | (refine LT ?_; clear hA hH; rintro _ w ⟨oN, rfl, hH⟩ a hA) | (refine AT ?_; clear hA; rintro _ w ⟨oN, cN, rfl, hH2⟩ a hA; clear hH; have hH := (hH2 _ (by (repeat constructor))).tail; clear hH2) | (refine S0T ?_; clear hH; rintro _ w hH) )) | ((first | refine CT ?_ | (refine DT ?_ ?_ <;> intro hc <;> try (exfalso; omega))) <;> repeat' refine CT ?_) | (first | (refine DSK ?_; clear hA a; intro a hA) | (first | (refine DLT ?_; clear hA hH; rintro _ w ⟨oN, rfl, hH⟩; refine ⟨STT, ?_⟩; intro a hA) | (refine DAT ?_; clear hA; rintro _ w ⟨oN, cN, rfl, hH2⟩; clear hH; have hH := (hH2 _ (by (repeat constructor))).tail; clear hH2; refine ⟨STT, ?_⟩; intro a hA))) )
        exact rt1 (.inl rfl) rfl hA rfl ⟨bs, true, rfl, lv_use hi hlv (.inl hu), rfl, (fun h => by cases h), (hH.rm 0).rm 0⟩
      | false =>
        rw [hu] at hA
        repeat' (first | (first | (refine GT ?_ ?_ <;> intro hg <;> clear hA a <;> intro a hA <;> (first | exact FA | replace hg := of_decide_eq_true hg | replace hg := of_decide_eq_false hg | skip)) | ((first | apply st_ex hA hH rfl rfl (by decide) | apply dr_ex hA rfl rfl rfl (by decide) | apply dr_exp hA rfl rfl rfl (by decide) | apply dr_ex3 hA hH rfl rfl rfl (by decide)); (first | (apply ex_load; rfl; exact cl_rd hbR.2.1.1 id hv1) | (apply ex_load; rfl; exact cl_rd hbR.2.1.1 id hv0)); clear hA a; intro a hA) | (refine QT ?_; clear hA a; intro a hA) | (first | (refine BT ?_; clear hA hH; rintro _ w ⟨bN, rfl, hH⟩ a hA) | (refine LT ?_; clear hA hH; rintro _ w ⟨oN, rfl, hH⟩ a hA) | (refine AT ?_; clear hA; rintro _ w ⟨oN, cN, rfl, hH2⟩ a hA; clear hH; have hH := (hH2 _ (by (repeat constructor))).tail; clear hH2) | (refine S0T ?_; clear hH; rintro _ w hH) )) | ((first | refine CT ?_ | (refine DT ?_ ?_ <;> intro hc <;> try (exfalso; omega))) <;> repeat' refine CT ?_) | (first | (refine DSK ?_; clear hA a; intro a hA) | (first | (refine DLT ?_; clear hA hH; rintro _ w ⟨oN, rfl, hH⟩; refine ⟨STT, ?_⟩; intro a hA) | (refine DAT ?_; clear hA; rintro _ w ⟨oN, cN, rfl, hH2⟩; clear hH; have hH := (hH2 _ (by (repeat constructor))).tail; clear hH2; refine ⟨STT, ?_⟩; intro a hA))) )
        · have hx0 : x = 0 := by assumption
          have hk5 : i.r.k = 5 := by assumption
          exact rt1 (.inl rfl) rfl hA rfl ⟨bs, true, rfl, lv_use hi hlv (.inr ⟨hk5, hx0⟩), rfl, (fun h => by cases h), (hH.rm 0).rm 0⟩
        · have hnu : ¬ insUse i x := no_use hu (.inl (by assumption))
          exact rt1 (.inl rfl) rfl hA rfl ⟨bs, false, rfl, lv_def hi hlv hnu (by assumption), rfl, fun _ => ⟨hBn, fun m _ => rfl⟩, (hH.rm 0).rm 0⟩
        · have hnu : ¬ insUse i x := no_use hu (.inl (by assumption))
          exact ⟨j + 1, ⟨⟨by omega, hlt, lv_go hi hlv hnu (by assumption)⟩, hH, (hA.sub (by (repeat (first | exact trivial | refine ⟨rfl, ?_⟩))))⟩, by omega⟩
        · have hnu : ¬ insUse i x := no_use hu (.inr (by assumption))
          exact rt1 (.inl rfl) rfl hA rfl ⟨bs, false, rfl, lv_def hi hlv hnu (by assumption), rfl, fun _ => ⟨hBn, fun m _ => rfl⟩, (hH.rm 0).rm 0⟩
        · have hnu : ¬ insUse i x := no_use hu (.inr (by assumption))
          exact ⟨j + 1, ⟨⟨by omega, hlt, lv_go hi hlv hnu (by assumption)⟩, hH, (hA.sub (by (repeat (first | exact trivial | refine ⟨rfl, ?_⟩))))⟩, by omega⟩
    clear hA hH
    rintro a w ⟨hlv, hH, hA⟩
    repeat' (first | (first | (refine GT ?_ ?_ <;> intro hg <;> clear hA a <;> intro a hA <;> (first | exact FA | replace hg := of_decide_eq_true hg | replace hg := of_decide_eq_false hg | skip)) | (refine QT ?_; clear hA a; intro a hA) | (first | (refine BT ?_; clear hA hH; rintro _ w ⟨bN, rfl, hH⟩ a hA) | (refine LT ?_; clear hA hH; rintro _ w ⟨oN, rfl, hH⟩ a hA) | (refine AT ?_; clear hA; rintro _ w ⟨oN, cN, rfl, hH2⟩ a hA; clear hH; have hH := (hH2 _ (by (repeat constructor))).tail; clear hH2) | (refine S0T ?_; clear hH; rintro _ w hH) )) | ((first | refine CT ?_ | (refine DT ?_ ?_ <;> intro hc <;> try (exfalso; omega))) <;> repeat' refine CT ?_) | (first | (refine DSK ?_; clear hA a; intro a hA) | (first | (refine DLT ?_; clear hA hH; rintro _ w ⟨oN, rfl, hH⟩; refine ⟨STT, ?_⟩; intro a hA) | (refine DAT ?_; clear hA; rintro _ w ⟨oN, cN, rfl, hH2⟩; clear hH; have hH := (hH2 _ (by (repeat constructor))).tail; clear hH2; refine ⟨STT, ?_⟩; intro a hA))) )
    (refine st_op hA rfl rfl (by decide) (op_call rfl rfl rfl (has_spec _ bl.e.a x (hE.1.keep hH.kp))) ?_; clear hA; rintro _ w ⟨rfl, hk⟩ a hA; replace hH := hH.keep hk; clear hk)
    cases hu : uses bl.e.a.l x with
    | true =>
      rw [hu] at hA
      repeat' (first | (first | (refine GT ?_ ?_ <;> intro hg <;> clear hA a <;> intro a hA <;> (first | exact FA | replace hg := of_decide_eq_true hg | replace hg := of_decide_eq_false hg | skip)) | (refine QT ?_; clear hA a; intro a hA) | (first | (refine BT ?_; clear hA hH; rintro _ w ⟨bN, rfl, hH⟩ a hA) | (refine LT ?_; clear hA hH; rintro _ w ⟨oN, rfl, hH⟩ a hA) | (refine AT ?_; clear hA; rintro _ w ⟨oN, cN, rfl, hH2⟩ a hA; clear hH; have hH := (hH2 _ (by (repeat constructor))).tail; clear hH2) | (refine S0T ?_; clear hH; rintro _ w hH) )) | ((first | refine CT ?_ | (refine DT ?_ ?_ <;> intro hc <;> try (exfalso; omega))) <;> repeat' refine CT ?_) | (first | (refine DSK ?_; clear hA a; intro a hA) | (first | (refine DLT ?_; clear hA hH; rintro _ w ⟨oN, rfl, hH⟩; refine ⟨STT, ?_⟩; intro a hA) | (refine DAT ?_; clear hA; rintro _ w ⟨oN, cN, rfl, hH2⟩; clear hH; have hH := (hH2 _ (by (repeat constructor))).tail; clear hH2; refine ⟨STT, ?_⟩; intro a hA))) )
      exact rt1 (.inl rfl) rfl hA rfl ⟨bs, true, rfl, ⟨fun _ => hlv.2 (.inl hu), fun _ => rfl⟩, rfl, (fun h => by cases h), (hH.rm 0).rm 0⟩
    | false =>
      rw [hu] at hA
      repeat' (first | (first | (refine GT ?_ ?_ <;> intro hg <;> clear hA a <;> intro a hA <;> (first | exact FA | replace hg := of_decide_eq_true hg | replace hg := of_decide_eq_false hg | skip)) | (refine QT ?_; clear hA a; intro a hA) | (first | (refine BT ?_; clear hA hH; rintro _ w ⟨bN, rfl, hH⟩ a hA) | (refine LT ?_; clear hA hH; rintro _ w ⟨oN, rfl, hH⟩ a hA) | (refine AT ?_; clear hA; rintro _ w ⟨oN, cN, rfl, hH2⟩ a hA; clear hH; have hH := (hH2 _ (by (repeat constructor))).tail; clear hH2) | (refine S0T ?_; clear hH; rintro _ w hH) )) | ((first | refine CT ?_ | (refine DT ?_ ?_ <;> intro hc <;> try (exfalso; omega))) <;> repeat' refine CT ?_) | (first | (refine DSK ?_; clear hA a; intro a hA) | (first | (refine DLT ?_; clear hA hH; rintro _ w ⟨oN, rfl, hH⟩; refine ⟨STT, ?_⟩; intro a hA) | (refine DAT ?_; clear hA; rintro _ w ⟨oN, cN, rfl, hH2⟩; clear hH; have hH := (hH2 _ (by (repeat constructor))).tail; clear hH2; refine ⟨STT, ?_⟩; intro a hA))) )
      refine wp_lpk (S := Nat) (fun j a w => (j ≤ bl.e.to.l.length ∧ ∀ t ∈ bl.e.to.l.take j, uses t.a.l x = false) ∧ HS w0 noM (cb bB 52 (encBl bl) :: cb bG 30 (encG f) :: own 4 1 oB bs.length cB (flat Fw.encB bs) :: H) w ∧ Sl 130 [(13, .int .i64 j), (11, .pointer (some (bat bB 0))), (10, .bool false), (5, .pointer (some (bat bG 0))), (3, .int .i64 x), (4, .slice oB bs.length cB)] a) (fun j => bl.e.to.l.length - j)
        (fun a w => (∀ t ∈ bl.e.to.l, uses t.a.l x = false) ∧ HS w0 noM (cb bB 52 (encBl bl) :: cb bG 30 (encG f) :: own 4 1 oB bs.length cB (flat Fw.encB bs) :: H) w ∧ Sl 130 [(11, .pointer (some (bat bB 0))), (10, .bool false), (5, .pointer (some (bat bG 0))), (3, .int .i64 x), (4, .slice oB bs.length cB)] a) 0
        ⟨⟨Nat.zero_le _, by rw [List.take_zero]; exact fun t ht => absurd ht List.not_mem_nil⟩, hH, (hA.sub (by (repeat (first | exact trivial | refine ⟨rfl, ?_⟩))))⟩ ?_ ?_
      · clear hA hH
        rintro j a w ⟨⟨hj, hno⟩, hH, hA⟩
        by_cases hlt : j < bl.e.to.l.length
        rotate_left
        · obtain rfl : j = bl.e.to.l.length := by omega
          rw [List.take_length] at hno
          repeat' (first | (first | (refine GT ?_ ?_ <;> intro hg <;> clear hA a <;> intro a hA <;> (first | exact FA | replace hg := of_decide_eq_true hg | replace hg := of_decide_eq_false hg | skip)) | (refine QT ?_; clear hA a; intro a hA) | (first | (refine BT ?_; clear hA hH; rintro _ w ⟨bN, rfl, hH⟩ a hA) | (refine LT ?_; clear hA hH; rintro _ w ⟨oN, rfl, hH⟩ a hA) | (refine AT ?_; clear hA; rintro _ w ⟨oN, cN, rfl, hH2⟩ a hA; clear hH; have hH := (hH2 _ (by (repeat constructor))).tail; clear hH2) | (refine S0T ?_; clear hH; rintro _ w hH) )) | ((first | refine CT ?_ | (refine DT ?_ ?_ <;> intro hc <;> try (exfalso; omega))) <;> repeat' refine CT ?_) | (first | (refine DSK ?_; clear hA a; intro a hA) | (first | (refine DLT ?_; clear hA hH; rintro _ w ⟨oN, rfl, hH⟩; refine ⟨STT, ?_⟩; intro a hA) | (refine DAT ?_; clear hA; rintro _ w ⟨oN, cN, rfl, hH2⟩; clear hH; have hH := (hH2 _ (by (repeat constructor))).tail; clear hH2; refine ⟨STT, ?_⟩; intro a hA))) )
          exact ⟨hno, hH, (hA.sub (by (repeat (first | exact trivial | refine ⟨rfl, ?_⟩))))⟩
        obtain ⟨t, ht⟩ : ∃ t, bl.e.to.l[j]? = some t := ⟨_, List.getElem?_eq_getElem hlt⟩
        have htm := List.mem_of_getElem? ht
        have hv1 : (flat encEd bl.e.to.l)[j * 2 + 1]? = some (.slice t.a.o t.a.l.length t.a.c) := flat_get (off := 1) encEd_len ht rfl
        repeat' (first | (first | (refine GT ?_ ?_ <;> intro hg <;> clear hA a <;> intro a hA <;> (first | exact FA | replace hg := of_decide_eq_true hg | replace hg := of_decide_eq_false hg | skip)) | ((first | apply st_ex hA hH rfl rfl (by decide) | apply dr_ex hA rfl rfl rfl (by decide) | apply dr_exp hA rfl rfl rfl (by decide) | apply dr_ex3 hA hH rfl rfl rfl (by decide)); (first | (apply ex_load; rfl; exact cl_rd hE.2.2.1.1 id hv1)); clear hA a; intro a hA) | (refine QT ?_; clear hA a; intro a hA) | (first | (refine BT ?_; clear hA hH; rintro _ w ⟨bN, rfl, hH⟩ a hA) | (refine LT ?_; clear hA hH; rintro _ w ⟨oN, rfl, hH⟩ a hA) | (refine AT ?_; clear hA; rintro _ w ⟨oN, cN, rfl, hH2⟩ a hA; clear hH; have hH := (hH2 _ (by (repeat constructor))).tail; clear hH2) | (refine S0T ?_; clear hH; rintro _ w hH) )) | ((first | refine CT ?_ | (refine DT ?_ ?_ <;> intro hc <;> try (exfalso; omega))) <;> repeat' refine CT ?_) | (first | (refine DSK ?_; clear hA a; intro a hA) | (first | (refine DLT ?_; clear hA hH; rintro _ w ⟨oN, rfl, hH⟩; refine ⟨STT, ?_⟩; intro a hA) | (refine DAT ?_; clear hA; rintro _ w ⟨oN, cN, rfl, hH2⟩; clear hH; have hH := (hH2 _ (by (repeat constructor))).tail; clear hH2; refine ⟨STT, ?_⟩; intro a hA))) )
        (refine st_op hA rfl rfl (by decide) (op_call rfl rfl rfl (has_spec _ t.a x ((hE.2.2.2 t htm).keep hH.kp))) ?_; clear hA; rintro _ w ⟨rfl, hk⟩ a hA; replace hH := hH.keep hk; clear hk)
        cases hut : uses t.a.l x with
        | true =>
          rw [hut] at hA
          repeat' (first | (first | (refine GT ?_ ?_ <;> intro hg <;> clear hA a <;> intro a hA <;> (first | exact FA | replace hg := of_decide_eq_true hg | replace hg := of_decide_eq_false hg | skip)) | (refine QT ?_; clear hA a; intro a hA) | (first | (refine BT ?_; clear hA hH; rintro _ w ⟨bN, rfl, hH⟩ a hA) | (refine LT ?_; clear hA hH; rintro _ w ⟨oN, rfl, hH⟩ a hA) | (refine AT ?_; clear hA; rintro _ w ⟨oN, cN, rfl, hH2⟩ a hA; clear hH; have hH := (hH2 _ (by (repeat constructor))).tail; clear hH2) | (refine S0T ?_; clear hH; rintro _ w hH) )) | ((first | refine CT ?_ | (refine DT ?_ ?_ <;> intro hc <;> try (exfalso; omega))) <;> repeat' refine CT ?_) | (first | (refine DSK ?_; clear hA a; intro a hA) | (first | (refine DLT ?_; clear hA hH; rintro _ w ⟨oN, rfl, hH⟩; refine ⟨STT, ?_⟩; intro a hA) | (refine DAT ?_; clear hA; rintro _ w ⟨oN, cN, rfl, hH2⟩; clear hH; have hH := (hH2 _ (by (repeat constructor))).tail; clear hH2; refine ⟨STT, ?_⟩; intro a hA))) )
          exact rt1 (.inl rfl) rfl hA rfl ⟨bs, true, rfl, ⟨fun _ => hlv.2 (.inr ⟨t, htm, .inl hut⟩), fun _ => rfl⟩, rfl, (fun h => by cases h), (hH.rm 0).rm 0⟩
        | false =>
          rw [hut] at hA
          repeat' (first | (first | (refine GT ?_ ?_ <;> intro hg <;> clear hA a <;> intro a hA <;> (first | exact FA | replace hg := of_decide_eq_true hg | replace hg := of_decide_eq_false hg | skip)) | (refine QT ?_; clear hA a; intro a hA) | (first | (refine BT ?_; clear hA hH; rintro _ w ⟨bN, rfl, hH⟩ a hA) | (refine LT ?_; clear hA hH; rintro _ w ⟨oN, rfl, hH⟩ a hA) | (refine AT ?_; clear hA; rintro _ w ⟨oN, cN, rfl, hH2⟩ a hA; clear hH; have hH := (hH2 _ (by (repeat constructor))).tail; clear hH2) | (refine S0T ?_; clear hH; rintro _ w hH) )) | ((first | refine CT ?_ | (refine DT ?_ ?_ <;> intro hc <;> try (exfalso; omega))) <;> repeat' refine CT ?_) | (first | (refine DSK ?_; clear hA a; intro a hA) | (first | (refine DLT ?_; clear hA hH; rintro _ w ⟨oN, rfl, hH⟩; refine ⟨STT, ?_⟩; intro a hA) | (refine DAT ?_; clear hA; rintro _ w ⟨oN, cN, rfl, hH2⟩; clear hH; have hH := (hH2 _ (by (repeat constructor))).tail; clear hH2; refine ⟨STT, ?_⟩; intro a hA))) )
          exact ⟨j + 1, ⟨⟨hlt, no_next ht hno hut⟩, hH, (hA.sub (by (repeat (first | exact trivial | refine ⟨rfl, ?_⟩))))⟩, by omega⟩
      clear hA hH
      rintro a w ⟨hno, hH, hA⟩
      repeat' (first | (first | (refine GT ?_ ?_ <;> intro hg <;> clear hA a <;> intro a hA <;> (first | exact FA | replace hg := of_decide_eq_true hg | replace hg := of_decide_eq_false hg | skip)) | (refine QT ?_; clear hA a; intro a hA) | (first | (refine BT ?_; clear hA hH; rintro _ w ⟨bN, rfl, hH⟩ a hA) | (refine LT ?_; clear hA hH; rintro _ w ⟨oN, rfl, hH⟩ a hA) | (refine AT ?_; clear hA; rintro _ w ⟨oN, cN, rfl, hH2⟩ a hA; clear hH; have hH := (hH2 _ (by (repeat constructor))).tail; clear hH2) | (refine S0T ?_; clear hH; rintro _ w hH) )) | ((first | refine CT ?_ | (refine DT ?_ ?_ <;> intro hc <;> try (exfalso; omega))) <;> repeat' refine CT ?_) | (first | (refine DSK ?_; clear hA a; intro a hA) | (first | (refine DLT ?_; clear hA hH; rintro _ w ⟨oN, rfl, hH⟩; refine ⟨STT, ?_⟩; intro a hA) | (refine DAT ?_; clear hA; rintro _ w ⟨oN, cN, rfl, hH2⟩; clear hH; have hH := (hH2 _ (by (repeat constructor))).tail; clear hH2; refine ⟨STT, ?_⟩; intro a hA))) )
      refine wp_lpk (S := Nat) (fun j a w => ∃ bs' : List Bool, (j ≤ bl.e.to.l.length ∧ bs'.length = bs.length ∧ Bn ss n bs' x ∧ (∀ m, m ≤ n → bs'[m]? = bs[m]?) ∧ ∀ t ∈ bl.e.to.l.take j, x ∉ setAt ss t.b.toNat) ∧ HS w0 noM (cb bB 52 (encBl bl) :: cb bG 30 (encG f) :: own 4 1 oB bs'.length cB (flat Fw.encB bs') :: H) w ∧ Sl 130 [(14, .int .i64 j), (11, .pointer (some (bat bB 0))), (10, .bool false), (5, .pointer (some (bat bG 0))), (3, .int .i64 x), (4, .slice oB bs'.length cB)] a) (fun j => bl.e.to.l.length - j)
        (fun a w => ∃ bs' : List Bool, (bs'.length = bs.length ∧ Bn ss n bs' x ∧ (∀ m, m ≤ n → bs'[m]? = bs[m]?) ∧ ∀ t ∈ bl.e.to.l, x ∉ setAt ss t.b.toNat) ∧ HS w0 noM (cb bB 52 (encBl bl) :: cb bG 30 (encG f) :: own 4 1 oB bs'.length cB (flat Fw.encB bs') :: H) w ∧ Sl 130 [(10, .bool false)] a) 0
        ⟨bs, ⟨Nat.zero_le _, rfl, hBn, fun m _ => rfl, by rw [List.take_zero]; exact fun t ht => absurd ht List.not_mem_nil⟩, hH, (hA.sub (by (repeat (first | exact trivial | refine ⟨rfl, ?_⟩))))⟩ ?_ ?_
      · clear hA hH
        rintro j a w ⟨bs', ⟨hj, hbl', hBn', hsame, hnm⟩, hH, hA⟩
        by_cases hlt : j < bl.e.to.l.length
        rotate_left
        · obtain rfl : j = bl.e.to.l.length := by omega
          rw [List.take_length] at hnm
          repeat' (first | (first | (refine GT ?_ ?_ <;> intro hg <;> clear hA a <;> intro a hA <;> (first | exact FA | replace hg := of_decide_eq_true hg | replace hg := of_decide_eq_false hg | skip)) | (refine QT ?_; clear hA a; intro a hA) | (first | (refine BT ?_; clear hA hH; rintro _ w ⟨bN, rfl, hH⟩ a hA) | (refine LT ?_; clear hA hH; rintro _ w ⟨oN, rfl, hH⟩ a hA) | (refine AT ?_; clear hA; rintro _ w ⟨oN, cN, rfl, hH2⟩ a hA; clear hH; have hH := (hH2 _ (by (repeat constructor))).tail; clear hH2) | (refine S0T ?_; clear hH; rintro _ w hH) )) | ((first | refine CT ?_ | (refine DT ?_ ?_ <;> intro hc <;> try (exfalso; omega))) <;> repeat' refine CT ?_) | (first | (refine DSK ?_; clear hA a; intro a hA) | (first | (refine DLT ?_; clear hA hH; rintro _ w ⟨oN, rfl, hH⟩; refine ⟨STT, ?_⟩; intro a hA) | (refine DAT ?_; clear hA; rintro _ w ⟨oN, cN, rfl, hH2⟩; clear hH; have hH := (hH2 _ (by (repeat constructor))).tail; clear hH2; refine ⟨STT, ?_⟩; intro a hA))) )
          exact ⟨bs', ⟨hbl', hBn', hsame, hnm⟩, hH, (hA.sub (by (repeat (first | exact trivial | refine ⟨rfl, ?_⟩))))⟩
        obtain ⟨t, ht⟩ : ∃ t, bl.e.to.l[j]? = some t := ⟨_, List.getElem?_eq_getElem hlt⟩
        have htm := List.mem_of_getElem? ht
        have htU := hU n bl hbl t htm
        obtain ⟨m, hm⟩ : ∃ m : Nat, (m : Int) = t.b := ⟨t.b.toNat, by omega⟩
        have hmt : t.b.toNat = m := by omega
        have hv0 : (flat encEd bl.e.to.l)[j * 2 + 0]? = some (.int .i64 (m : Int)) := by rw [hm]; exact flat_get (off := 0) encEd_len ht rfl
        obtain ⟨b', hb'⟩ : ∃ b', bs'[m]? = some b' := ⟨_, List.getElem?_eq_getElem (by omega)⟩
        have hvb : (flat Fw.encB bs')[m * 1]? = some (.bool b') := flat_get (off := 0) encB_len hb' rfl
        obtain ⟨blm, hblm⟩ : ∃ blm, f.bs.l[m]? = some blm := ⟨_, List.getElem?_eq_getElem (by omega)⟩
        have hvp : (flat encBl f.bs.l)[m * 6 + 0]? = some (.slice blm.ps.o blm.ps.l.length blm.ps.c) := flat_get (off := 0) encBl_len hblm rfl
        have hbmR := hR.2 blm (List.mem_of_getElem? hblm)
        repeat' (first | (first | (refine GT ?_ ?_ <;> intro hg <;> clear hA a <;> intro a hA <;> (first | exact FA | replace hg := of_decide_eq_true hg | replace hg := of_decide_eq_false hg | skip)) | ((first | apply st_ex hA hH rfl rfl (by decide) | apply dr_ex hA rfl rfl rfl (by decide) | apply dr_exp hA rfl rfl rfl (by decide) | apply dr_ex3 hA hH rfl rfl rfl (by decide)); (first | (apply ex_load; rfl; exact cl_rd hE.2.2.1.1 id hv0) | (apply ex_load; rfl; exact cl_rd hR.1.1 id hvp) | (apply ex_load; rfl; apply cl_own (T := 4); exact MEMT; exact hvb) | (apply ex_indexAddr_nat; rfl; rfl; omega; exact hH.own_sp (T := 4) (by exact MEMT))); clear hA a; intro a hA) | (refine QT ?_; clear hA a; intro a hA) | (first | (refine BT ?_; clear hA hH; rintro _ w ⟨bN, rfl, hH⟩ a hA) | (refine LT ?_; clear hA hH; rintro _ w ⟨oN, rfl, hH⟩ a hA) | (refine AT ?_; clear hA; rintro _ w ⟨oN, cN, rfl, hH2⟩ a hA; clear hH; have hH := (hH2 _ (by (repeat constructor))).tail; clear hH2) | (refine S0T ?_; clear hH; rintro _ w hH) )) | ((first | refine CT ?_ | (refine DT ?_ ?_ <;> intro hc <;> try (exfalso; omega))) <;> repeat' refine CT ?_) | (first | (refine DSK ?_; clear hA a; intro a hA) | (first | (refine DLT ?_; clear hA hH; rintro _ w ⟨oN, rfl, hH⟩; refine ⟨STT, ?_⟩; intro a hA) | (refine DAT ?_; clear hA; rintro _ w ⟨oN, cN, rfl, hH2⟩; clear hH; have hH := (hH2 _ (by (repeat constructor))).tail; clear hH2; refine ⟨STT, ?_⟩; intro a hA))) )
        · have hbt : b' = true := by first | assumption | (symm; assumption)
          have hx := hBn' m (by omega) (by rw [hb', hbt])
          exact ⟨j + 1, ⟨bs', ⟨hlt, hbl', hBn', hsame, set_next ht hnm (by rw [hmt]; exact hx)⟩, hH, (hA.sub (by (repeat (first | exact trivial | refine ⟨rfl, ?_⟩))))⟩, by omega⟩
        have hbf : b' = false := by first | assumption | (symm; assumption)
        (refine st_op hA rfl rfl (by decide) (op_call rfl rfl rfl (in_spec _ blm.ps.o blm.ps.c blm.ps.l x ((hbmR.1.keep hH.kp).1) hbmR.1.le)) ?_; clear hA; rintro _ w ⟨rfl, hk⟩ a hA; replace hH := hH.keep hk; clear hk)
        repeat' (first | (first | (refine GT ?_ ?_ <;> intro hg <;> clear hA a <;> intro a hA <;> (first | exact FA | replace hg := of_decide_eq_true hg | replace hg := of_decide_eq_false hg | skip)) | (refine QT ?_; clear hA a; intro a hA) | (first | (refine BT ?_; clear hA hH; rintro _ w ⟨bN, rfl, hH⟩ a hA) | (refine LT ?_; clear hA hH; rintro _ w ⟨oN, rfl, hH⟩ a hA) | (refine AT ?_; clear hA; rintro _ w ⟨oN, cN, rfl, hH2⟩ a hA; clear hH; have hH := (hH2 _ (by (repeat constructor))).tail; clear hH2) | (refine S0T ?_; clear hH; rintro _ w hH) | (apply st_op0 hA rfl rfl; apply op_setB; rfl; rfl; exact hH; (repeat constructor); omega; clear hH; rintro _ w hH))) | ((first | refine CT ?_ | (refine DT ?_ ?_ <;> intro hc <;> try (exfalso; omega))) <;> repeat' refine CT ?_) | (first | (refine DSK ?_; clear hA a; intro a hA) | (first | (refine DLT ?_; clear hA hH; rintro _ w ⟨oN, rfl, hH⟩; refine ⟨STT, ?_⟩; intro a hA) | (refine DAT ?_; clear hA; rintro _ w ⟨oN, cN, rfl, hH2⟩; clear hH; have hH := (hH2 _ (by (repeat constructor))).tail; clear hH2; refine ⟨STT, ?_⟩; intro a hA))) )
        · have hxp : x ∈ blm.ps.l := by assumption
          exact ⟨j + 1, ⟨bs', ⟨hlt, hbl', hBn', hsame, set_next ht hnm (by rw [hmt]; exact fun h => absurd hxp (blk_ps ((hF m blm hblm x).1 h)))⟩, hH, (hA.sub (by (repeat (first | exact trivial | refine ⟨rfl, ?_⟩))))⟩, by omega⟩
        have hxp : x ∉ blm.ps.l := by assumption
        rw [Nat.mul_one] at hH
        have hsl2 : (bs'.set m true).length = bs'.length := List.length_set
        rw [← hsl2] at hA hH
        (refine st_op hA rfl rfl (by decide) (op_call rfl rfl rfl (lives_spec f ss hF hU hsl d m (by omega) w0 _ _ 0 x (bs'.set m true) oB cB blm hblm (Nat.zero_le _) hR (by rw [hsl2]; omega) (hH.up 2 rfl) (bn_set (by omega) hBn'))) ?_; clear hA hH; rintro _ w ⟨bs2, b2, rfl, hb2, hl2, hf2, hH⟩ a hA)
        cases b2 with
        | true =>
          repeat' (first | (first | (refine GT ?_ ?_ <;> intro hg <;> clear hA a <;> intro a hA <;> (first | exact FA | replace hg := of_decide_eq_true hg | replace hg := of_decide_eq_false hg | skip)) | (refine QT ?_; clear hA a; intro a hA) | (first | (refine BT ?_; clear hA hH; rintro _ w ⟨bN, rfl, hH⟩ a hA) | (refine LT ?_; clear hA hH; rintro _ w ⟨oN, rfl, hH⟩ a hA) | (refine AT ?_; clear hA; rintro _ w ⟨oN, cN, rfl, hH2⟩ a hA; clear hH; have hH := (hH2 _ (by (repeat constructor))).tail; clear hH2) | (refine S0T ?_; clear hH; rintro _ w hH) )) | ((first | refine CT ?_ | (refine DT ?_ ?_ <;> intro hc <;> try (exfalso; omega))) <;> repeat' refine CT ?_) | (first | (refine DSK ?_; clear hA a; intro a hA) | (first | (refine DLT ?_; clear hA hH; rintro _ w ⟨oN, rfl, hH⟩; refine ⟨STT, ?_⟩; intro a hA) | (refine DAT ?_; clear hA; rintro _ w ⟨oN, cN, rfl, hH2⟩; clear hH; have hH := (hH2 _ (by (repeat constructor))).tail; clear hH2; refine ⟨STT, ?_⟩; intro a hA))) )
          exact rt1 (.inl rfl) rfl hA rfl ⟨bs2, true, rfl, ⟨fun _ => hlv.2 (last_in htm (by omega) (by rw [hmt]; exact (hF m blm hblm x).2 (blk_mk (hb2.1 rfl) hxp))), fun _ => rfl⟩, by rw [hl2, hsl2, hbl'], (fun h => by cases h), (hH.rm 1).rm 1⟩
        | false =>
          repeat' (first | (first | (refine GT ?_ ?_ <;> intro hg <;> clear hA a <;> intro a hA <;> (first | exact FA | replace hg := of_decide_eq_true hg | replace hg := of_decide_eq_false hg | skip)) | (refine QT ?_; clear hA a; intro a hA) | (first | (refine BT ?_; clear hA hH; rintro _ w ⟨bN, rfl, hH⟩ a hA) | (refine LT ?_; clear hA hH; rintro _ w ⟨oN, rfl, hH⟩ a hA) | (refine AT ?_; clear hA; rintro _ w ⟨oN, cN, rfl, hH2⟩ a hA; clear hH; have hH := (hH2 _ (by (repeat constructor))).tail; clear hH2) | (refine S0T ?_; clear hH; rintro _ w hH) )) | ((first | refine CT ?_ | (refine DT ?_ ?_ <;> intro hc <;> try (exfalso; omega))) <;> repeat' refine CT ?_) | (first | (refine DSK ?_; clear hA a; intro a hA) | (first | (refine DLT ?_; clear hA hH; rintro _ w ⟨oN, rfl, hH⟩; refine ⟨STT, ?_⟩; intro a hA) | (refine DAT ?_; clear hA; rintro _ w ⟨oN, cN, rfl, hH2⟩; clear hH; have hH := (hH2 _ (by (repeat constructor))).tail; clear hH2; refine ⟨STT, ?_⟩; intro a hA))) )
          obtain ⟨hB2, hs2⟩ := hf2 rfl
          have hnx : x ∉ setAt ss m := fun h => by
            have := hb2.2 (blk_lv ((hF m blm hblm x).1 h))
            cases this
          rw [← hl2] at hA
          exact ⟨j + 1, ⟨bs2, ⟨hlt, by rw [hl2, hsl2, hbl'], bn_back (by omega) hBn' hB2 hs2 hnx, fun k hk => by rw [hs2 k (by omega), List.getElem?_set_ne (by omega)]; exact hsame k hk, set_next ht hnm (by rw [hmt]; exact hnx)⟩, hH.perm ((List.Perm.swap _ _ _).trans (List.Perm.cons _ (List.Perm.swap _ _ _))), (hA.sub (by (repeat (first | exact trivial | refine ⟨rfl, ?_⟩))))⟩, by omega⟩
      clear hA hH
      rintro a w ⟨bs', ⟨hbl', hBn', hsame, hnm⟩, hH, hA⟩
      repeat' (first | (first | (refine GT ?_ ?_ <;> intro hg <;> clear hA a <;> intro a hA <;> (first | exact FA | replace hg := of_decide_eq_true hg | replace hg := of_decide_eq_false hg | skip)) | (refine QT ?_; clear hA a; intro a hA) | (first | (refine BT ?_; clear hA hH; rintro _ w ⟨bN, rfl, hH⟩ a hA) | (refine LT ?_; clear hA hH; rintro _ w ⟨oN, rfl, hH⟩ a hA) | (refine AT ?_; clear hA; rintro _ w ⟨oN, cN, rfl, hH2⟩ a hA; clear hH; have hH := (hH2 _ (by (repeat constructor))).tail; clear hH2) | (refine S0T ?_; clear hH; rintro _ w hH) )) | ((first | refine CT ?_ | (refine DT ?_ ?_ <;> intro hc <;> try (exfalso; omega))) <;> repeat' refine CT ?_) | (first | (refine DSK ?_; clear hA a; intro a hA) | (first | (refine DLT ?_; clear hA hH; rintro _ w ⟨oN, rfl, hH⟩; refine ⟨STT, ?_⟩; intro a hA) | (refine DAT ?_; clear hA; rintro _ w ⟨oN, cN, rfl, hH2⟩; clear hH; have hH := (hH2 _ (by (repeat constructor))).tail; clear hH2; refine ⟨STT, ?_⟩; intro a hA))) )
      exact rt1 (.inl rfl) rfl hA rfl ⟨bs', false, rfl, ⟨(fun h => by cases h), fun h => absurd (hlv.1 h) (last_not hno hU hbl hF hu hnm)⟩, hbl', fun _ => ⟨hBn', hsame⟩, (hH.rm 0).rm 0⟩
end Go.Proofs.Ytjfanjcoppeeaaa
namespace Go.Proofs.Ytjfanjcoppeeaaa
open Go Go.Fw
set_option linter.unusedVariables false
theorem bn_rep {ss : List (Option (Nat × List Int))} {n k : Nat} {x : Int} : Bn ss n (List.replicate k false) x := by
  intro m _ hb
  rw [List.getElem?_replicate] at hb
  split at hb
  · cases hb
  · cases hb
set_option maxRecDepth 10000 attribute [local irreducible] Code.wp wpList Calls Ex Op1 sat bat blk cb own Go.Fw.mp Go.Fw.mpO Go.Fw.mpI Go.Fw.mpE Go.Fw.itr HS Rd Ret wkD Hp Cl Cls Exit.then Exit.inBlock Exit.noGoto bodyPost Go.Fw.flat wk2 Go.Fw.all Go.Fw.owns wpOp
attribute [local irreducible] sk mpK srt varsL regOf insF insL vpre insP uses LvAt

set_option maxHeartbeats 4000000 in
theorem Lives_spec (f : Gr) (ss : List (Option (Nat × List Int))) (hF : ∀ n, FixAt f ss n) (hU : Up f) (hsl : ss.length = f.bs.l.length) (hB : f.bs.l.length ≤ 100000) (n : Nat) (w0 : World) (k : Nat) (x : Int) (bl : Blc) (hbl : f.bs.l[n]? = some bl) (hk : k ≤ bl.is.l.length) (hR : RdG w0 f) :
    Ret Try.prog 41 #[.agg (encG f).toArray, .int .i64 n, .int .i64 k, .int .i64 x] w0 (fun v w' => ∃ b : Bool, v = .bool b ∧ (b = true ↔ LvAt ss bl k x) ∧ Kp w0 noM w') := by
  have hH : HS w0 noM [] w0 := HS.init w0 noM
  (refine enter (N := 20) Try.func41 rfl Try.ntmps41 rfl ?_; intro a hA; dsimp only [sl0, Nat.reduceAdd] at hA)
  repeat' (first | (first | (refine GT ?_ ?_ <;> intro hg <;> clear hA a <;> intro a hA <;> (first | exact FA | replace hg := of_decide_eq_true hg | replace hg := of_decide_eq_false hg | skip)) | (refine QT ?_; clear hA a; intro a hA) | (first | (refine BT ?_; clear hA hH; rintro _ w ⟨bN, rfl, hH⟩ a hA) | (refine LT ?_; clear hA hH; rintro _ w ⟨oN, rfl, hH⟩ a hA) | (refine AT ?_; clear hA; rintro _ w ⟨oN, cN, rfl, hH2⟩ a hA; clear hH; have hH := (hH2 _ (by (repeat constructor))).tail; clear hH2) | (refine S0T ?_; clear hH; rintro _ w hH) )) | ((first | refine CT ?_ | (refine DT ?_ ?_ <;> intro hc <;> try (exfalso; omega))) <;> repeat' refine CT ?_) | (first | (refine DSK ?_; clear hA a; intro a hA) | (first | (refine DLT ?_; clear hA hH; rintro _ w ⟨oN, rfl, hH⟩; refine ⟨STT, ?_⟩; intro a hA) | (refine DAT ?_; clear hA; rintro _ w ⟨oN, cN, rfl, hH2⟩; clear hH; have hH := (hH2 _ (by (repeat constructor))).tail; clear hH2; refine ⟨STT, ?_⟩; intro a hA))) )
  (refine wp_draw_HS [(0, 1), (1, 1), (2, 1), (3, 1), (4, 1), (5, 1), (6, 1), (7, 0), (8, 0), (9, 1)] mixed (by decide +kernel) hH ?_; replace hH := hH.drew)
  repeat' (first | (first | (refine GT ?_ ?_ <;> intro hg <;> clear hA a <;> intro a hA <;> (first | exact FA | replace hg := of_decide_eq_true hg | replace hg := of_decide_eq_false hg | skip)) | (refine QT ?_; clear hA a; intro a hA) | (first | (refine BT ?_; clear hA hH; rintro _ w ⟨bN, rfl, hH⟩ a hA) | (refine LT ?_; clear hA hH; rintro _ w ⟨oN, rfl, hH⟩ a hA) | (refine AT ?_; clear hA; rintro _ w ⟨oN, cN, rfl, hH2⟩ a hA; clear hH; have hH := (hH2 _ (by (repeat constructor))).tail; clear hH2) | (refine S0T ?_; clear hH; rintro _ w hH) )) | ((first | refine CT ?_ | (refine DT ?_ ?_ <;> intro hc <;> try (exfalso; omega))) <;> repeat' refine CT ?_) | (first | (refine DSK ?_; clear hA a; intro a hA) | (first | (refine DLT ?_; clear hA hH; rintro _ w ⟨oN, rfl, hH⟩; refine ⟨STT, ?_⟩; intro a hA) | (refine DAT ?_; clear hA; rintro _ w ⟨oN, cN, rfl, hH2⟩; clear hH; have hH := (hH2 _ (by (repeat constructor))).tail; clear hH2; refine ⟨STT, ?_⟩; intro a hA))) )
  (apply dr_op hA rfl rfl rfl (by decide); apply op_make (Fw.encB) (false) (n := f.bs.l.length); rfl; rfl; omega; omega; (unfold maxLen; omega); omega; exact encB_len; rfl; decide; exact hH; clear hA hH; rintro _ w ⟨oN, rfl, hH⟩; refine ⟨hH.tail, ?_⟩; intro a hA)
  obtain ⟨bs, hbs⟩ : ∃ bs, bs = List.replicate f.bs.l.length false := ⟨_, rfl⟩
  have hbl2 : bs.length = f.bs.l.length := by rw [hbs, List.length_replicate]
  have hcall := lives_spec f ss hF hU hsl f.bs.l.length n (by omega) w0 w [cb bN 30 (encG f)] k x bs oN f.bs.l.length bl hbl hk hR hbl2 (by rw [hbl2, hbs]; exact hH) (by rw [hbs]; exact bn_rep)
  rw [hbl2] at hcall
  (refine dr_op hA rfl rfl rfl (by decide) (op_call rfl rfl rfl hcall) ?_; clear hA hH hcall; rintro _ w ⟨bs2, b, rfl, hb, _, _, hH⟩; refine ⟨hH.tail, ?_⟩; intro a hA)
  repeat' (first | (first | (refine GT ?_ ?_ <;> intro hg <;> clear hA a <;> intro a hA <;> (first | exact FA | replace hg := of_decide_eq_true hg | replace hg := of_decide_eq_false hg | skip)) | (refine QT ?_; clear hA a; intro a hA) | (first | (refine BT ?_; clear hA hH; rintro _ w ⟨bN, rfl, hH⟩ a hA) | (refine LT ?_; clear hA hH; rintro _ w ⟨oN, rfl, hH⟩ a hA) | (refine AT ?_; clear hA; rintro _ w ⟨oN, cN, rfl, hH2⟩ a hA; clear hH; have hH := (hH2 _ (by (repeat constructor))).tail; clear hH2) | (refine S0T ?_; clear hH; rintro _ w hH) )) | ((first | refine CT ?_ | (refine DT ?_ ?_ <;> intro hc <;> try (exfalso; omega))) <;> repeat' refine CT ?_) | (first | (refine DSK ?_; clear hA a; intro a hA) | (first | (refine DLT ?_; clear hA hH; rintro _ w ⟨oN, rfl, hH⟩; refine ⟨STT, ?_⟩; intro a hA) | (refine DAT ?_; clear hA; rintro _ w ⟨oN, cN, rfl, hH2⟩; clear hH; have hH := (hH2 _ (by (repeat constructor))).tail; clear hH2; refine ⟨STT, ?_⟩; intro a hA))) )
  exact rt1 (.inl rfl) rfl hA rfl ⟨b, rfl, hb, hH.kp⟩
end Go.Proofs.Ytjfanjcoppeeaaa
namespace Go.Proofs.Ytjfanjcoppeeaaa
open Go Go.Fw
set_option linter.unusedVariables false
/-- all variables, by the document -/
def vrs (f : Gr) : List Int := insL (vpre f.bs.l f.bs.l.length)
def intoF (f : Gr) (ss : List (Option (Nat × List Int))) (n : Nat) (l : List Int) : List Int := l.filter fun x => decide (x ∈ setAt ss n)
theorem into_yes {f : Gr} {ss : List (Option (Nat × List Int))} {n i : Nat} {l : List Int} {x : Int} (hx : l[i]? = some x) (h : x ∈ setAt ss n) : intoF f ss n (l.take (i + 1)) = intoF f ss n (l.take i) ++ [x] := by
  unfold intoF
  rw [take_snoc hx, List.filter_append]
  simp [h]
theorem into_no {f : Gr} {ss : List (Option (Nat × List Int))} {n i : Nat} {l : List Int} {x : Int} (hx : l[i]? = some x) (h : x ∉ setAt ss n) : intoF f ss n (l.take (i + 1)) = intoF f ss n (l.take i) := by
  unfold intoF
  rw [take_snoc hx, List.filter_append]
  simp [h]
theorem nd_t {p : Prop} [Decidable p] (h : (!decide p) = true) : ¬ p := by simpa using h
theorem nd_f {p : Prop} [Decidable p] (h : (!decide p) = false) : p := by simpa using h
theorem vrs_eq (f : Gr) : vrs f = insL (vpre f.bs.l f.bs.l.length) := rfl
theorem vrs_len (f : Gr) : (vrs f).length = (varsL f.bs.l).length := by
  unfold vrs
  rw [insL_len, vpre_len, List.take_length]
theorem intoF_len (f : Gr) (ss : List (Option (Nat × List Int))) (n : Nat) (l : List Int) : (intoF f ss n l).length ≤ l.length := List.length_filter_le ..
set_option maxRecDepth 10000 attribute [local irreducible] Code.wp wpList Calls Ex Op1 sat bat blk cb own Go.Fw.mp Go.Fw.mpO Go.Fw.mpI Go.Fw.mpE Go.Fw.itr HS Rd Ret wkD Hp Cl Cls Exit.then Exit.inBlock Exit.noGoto bodyPost Go.Fw.flat wk2 Go.Fw.all Go.Fw.owns wpOp
attribute [local irreducible] sk mpK srt varsL regOf insF insL vpre insP uses LvAt intoF vrs

set_option maxHeartbeats 4000000 in
theorem into_spec (f : Gr) (ss : List (Option (Nat × List Int))) (hF : ∀ n, FixAt f ss n) (hU : Up f) (hsl : ss.length = f.bs.l.length) (hB : f.bs.l.length ≤ 100000) (hb : (varsL f.bs.l).length ≤ 1000000) (n : Nat) (w0 : World) (bl : Blc) (hbl : f.bs.l[n]? = some bl) (hR : RdG w0 f) :
    Ret Try.prog 28 #[.agg (encG f).toArray, .int .i64 n] w0 (fun v w => ∃ o c, v = .slice o (intoF f ss n (vrs f)).length c ∧ HS w0 noM [own 3 1 o (intoF f ss n (vrs f)).length c (flat Fw.encI (intoF f ss n (vrs f)))] w) := by
  have hH : HS w0 noM [] w0 := HS.init w0 noM
  have hbR := hR.2 bl (List.mem_of_getElem? hbl)
  have hnl := (List.getElem?_eq_some_iff.1 hbl).1
  have hsp : Sp f.bs.o f.bs.l.length := hR.1.1.sp (sz := 6) (flat_length encBl_len _) (by omega)
  have hvl := vrs_len f
  (refine enter (N := 46) Try.func28 rfl Try.ntmps28 rfl ?_; intro a hA; dsimp only [sl0, Nat.reduceAdd] at hA)
  repeat' (first | (first | (refine GT ?_ ?_ <;> intro hg <;> clear hA a <;> intro a hA <;> (first | exact FA | replace hg := of_decide_eq_true hg | replace hg := of_decide_eq_false hg | skip)) | (refine QT ?_; clear hA a; intro a hA) | (first | (refine BT ?_; clear hA hH; rintro _ w ⟨bN, rfl, hH⟩ a hA) | (refine LT ?_; clear hA hH; rintro _ w ⟨oN, rfl, hH⟩ a hA) | (refine AT ?_; clear hA; rintro _ w ⟨oN, cN, rfl, hH2⟩ a hA; clear hH; have hH := (hH2 _ (by (repeat constructor))).tail; clear hH2) | (refine S0T ?_; clear hH; rintro _ w hH) )) | ((first | refine CT ?_ | (refine DT ?_ ?_ <;> intro hc <;> try (exfalso; omega))) <;> repeat' refine CT ?_) | (first | (refine DSK ?_; clear hA a; intro a hA) | (first | (refine DLT ?_; clear hA hH; rintro _ w ⟨oN, rfl, hH⟩; refine ⟨STT, ?_⟩; intro a hA) | (refine DAT ?_; clear hA; rintro _ w ⟨oN, cN, rfl, hH2⟩; clear hH; have hH := (hH2 _ (by (repeat constructor))).tail; clear hH2; refine ⟨STT, ?_⟩; intro a hA))) )
  (refine st_op hA rfl rfl (by decide) (op_call rfl rfl rfl (vars_spec _ f (hR.keep hH.kp) hb)) ?_; clear hA; rintro _ w ⟨oV, cV, rfl, hj⟩ a hA; replace hH := hH.join hj; clear hj)
  repeat' (first | (first | (refine GT ?_ ?_ <;> intro hg <;> clear hA a <;> intro a hA <;> (first | exact FA | replace hg := of_decide_eq_true hg | replace hg := of_decide_eq_false hg | skip)) | (refine QT ?_; clear hA a; intro a hA) | (first | (refine BT ?_; clear hA hH; rintro _ w ⟨bN, rfl, hH⟩ a hA) | (refine LT ?_; clear hA hH; rintro _ w ⟨oN, rfl, hH⟩ a hA) | (refine AT ?_; clear hA; rintro _ w ⟨oN, cN, rfl, hH2⟩ a hA; clear hH; have hH := (hH2 _ (by (repeat constructor))).tail; clear hH2) | (refine S0T ?_; clear hH; rintro _ w hH) )) | ((first | refine CT ?_ | (refine DT ?_ ?_ <;> intro hc <;> try (exfalso; omega))) <;> repeat' refine CT ?_) | (first | (refine DSK ?_; clear hA a; intro a hA) | (first | (refine DLT ?_; clear hA hH; rintro _ w ⟨oN, rfl, hH⟩; refine ⟨STT, ?_⟩; intro a hA) | (refine DAT ?_; clear hA; rintro _ w ⟨oN, cN, rfl, hH2⟩; clear hH; have hH := (hH2 _ (by (repeat constructor))).tail; clear hH2; refine ⟨STT, ?_⟩; intro a hA))) )
  rw [← vrs_eq] at hA
  rw [← vrs_eq] at hH
  obtain ⟨bG, hbG⟩ : ∃ x, x = bN := ⟨_, rfl⟩
  rw [← hbG] at hA hH
  clear hbG bN
  have hspV := hH.own_sp (T := 3) (o := oV) (.head _)
  have h0 : intoF f ss n ((vrs f).take 0) = [] := by rw [List.take_zero]; unfold intoF; rfl
  refine wp_lpk (S := Nat) (fun i a w => ∃ o c, i ≤ (vrs f).length ∧ HS w0 noM [own 3 1 o (intoF f ss n ((vrs f).take i)).length c (flat Fw.encI (intoF f ss n ((vrs f).take i))), own 3 1 oV (vrs f).length cV (flat Fw.encI (vrs f)), cb bG 30 (encG f)] w ∧ Sl 46 [(7, .int .i64 i), (6, .slice oV (vrs f).length cV), (5, .slice o (intoF f ss n ((vrs f).take i)).length c), (2, .pointer (some (bat bG 0))), (1, .int .i64 n)] a) (fun i => (vrs f).length - i)
    (fun a w => ∃ o c, HS w0 noM [own 3 1 o (intoF f ss n (vrs f)).length c (flat Fw.encI (intoF f ss n (vrs f)))] w ∧ Sl 46 [(5, .slice o (intoF f ss n (vrs f)).length c)] a) 0 ⟨oN, 0, Nat.zero_le _, (by rw [h0, flatI_nil]; exact hH.perm (.swap _ _ _)), (by rw [h0]; exact (hA.sub (by (repeat (first | exact trivial | refine ⟨rfl, ?_⟩)))))⟩ ?_ ?_
  · clear hA hH
    rintro i a w ⟨o, c, hi, hH, hA⟩
    by_cases hlt : i < (vrs f).length
    rotate_left
    · obtain rfl : i = (vrs f).length := by omega
      rw [List.take_length] at hA hH
      repeat' (first | (first | (refine GT ?_ ?_ <;> intro hg <;> clear hA a <;> intro a hA <;> (first | exact FA | replace hg := of_decide_eq_true hg | replace hg := of_decide_eq_false hg | skip)) | (refine QT ?_; clear hA a; intro a hA) | (first | (refine BT ?_; clear hA hH; rintro _ w ⟨bN, rfl, hH⟩ a hA) | (refine LT ?_; clear hA hH; rintro _ w ⟨oN, rfl, hH⟩ a hA) | (refine AT ?_; clear hA; rintro _ w ⟨oN, cN, rfl, hH2⟩ a hA; clear hH; have hH := (hH2 _ (by (repeat constructor))).tail; clear hH2) | (refine S0T ?_; clear hH; rintro _ w hH) )) | ((first | refine CT ?_ | (refine DT ?_ ?_ <;> intro hc <;> try (exfalso; omega))) <;> repeat' refine CT ?_) | (first | (refine DSK ?_; clear hA a; intro a hA) | (first | (refine DLT ?_; clear hA hH; rintro _ w ⟨oN, rfl, hH⟩; refine ⟨STT, ?_⟩; intro a hA) | (refine DAT ?_; clear hA; rintro _ w ⟨oN, cN, rfl, hH2⟩; clear hH; have hH := (hH2 _ (by (repeat constructor))).tail; clear hH2; refine ⟨STT, ?_⟩; intro a hA))) )
      exact ⟨o, c, hH.head, (hA.sub (by (repeat (first | exact trivial | refine ⟨rfl, ?_⟩))))⟩
    obtain ⟨x, hx⟩ : ∃ x, (vrs f)[i]? = some x := ⟨_, List.getElem?_eq_getElem hlt⟩
    have hv : (flat Fw.encI (vrs f))[i * 1]? = some (.int .i64 x) := flat_get (off := 0) Fw.encI_len hx rfl
    have hvp : (flat encBl f.bs.l)[n * 6 + 0]? = some (.slice bl.ps.o bl.ps.l.length bl.ps.c) := flat_get (off := 0) encBl_len hbl rfl
    have hol : (intoF f ss n ((vrs f).take i)).length ≤ 1000000 := by
      have := intoF_len f ss n ((vrs f).take i)
      rw [List.length_take] at this
      omega
    repeat' (first | (first | (refine GT ?_ ?_ <;> intro hg <;> clear hA a <;> intro a hA <;> (first | exact FA | replace hg := of_decide_eq_true hg | replace hg := of_decide_eq_false hg | skip)) | (refine QT ?_; clear hA a; intro a hA) | (first | (refine BT ?_; clear hA hH; rintro _ w ⟨bN, rfl, hH⟩ a hA) | (refine LT ?_; clear hA hH; rintro _ w ⟨oN, rfl, hH⟩ a hA) | (refine AT ?_; clear hA; rintro _ w ⟨oN, cN, rfl, hH2⟩ a hA; clear hH; have hH := (hH2 _ (by (repeat constructor))).tail; clear hH2) | (refine S0T ?_; clear hH; rintro _ w hH) )) | ((first | refine CT ?_ | (refine DT ?_ ?_ <;> intro hc <;> try (exfalso; omega))) <;> repeat' refine CT ?_) | (first | (refine DSK ?_; clear hA a; intro a hA) | (first | (refine DLT ?_; clear hA hH; rintro _ w ⟨oN, rfl, hH⟩; refine ⟨STT, ?_⟩; intro a hA) | (refine DAT ?_; clear hA; rintro _ w ⟨oN, cN, rfl, hH2⟩; clear hH; have hH := (hH2 _ (by (repeat constructor))).tail; clear hH2; refine ⟨STT, ?_⟩; intro a hA))) )
    (refine wp_draw_HS [(0, 1), (1, 1), (2, 1), (3, 1), (4, 1), (5, 1), (6, 1), (7, 1), (8, 1), (9, 1), (10, 0), (11, 1), (12, 1), (13, 1), (14, 1), (15, 1), (16, 1), (17, 1), (18, 1), (19, 0), (20, 1)] mixed (by decide +kernel) hH ?_; replace hH := hH.drew)
    repeat' (first | (first | (refine GT ?_ ?_ <;> intro hg <;> clear hA a <;> intro a hA <;> (first | exact FA | replace hg := of_decide_eq_true hg | replace hg := of_decide_eq_false hg | skip)) | ((first | apply st_ex hA hH rfl rfl (by decide) | apply dr_ex hA rfl rfl rfl (by decide) | apply dr_exp hA rfl rfl rfl (by decide) | apply dr_ex3 hA hH rfl rfl rfl (by decide)); (first | (apply ex_load; rfl; exact cl_rd hR.1.1 id hvp) | (apply ex_load; rfl; apply cl_own (T := 3) (o := oV); exact MEMT; exact hv) | (apply ex_indexAddr_nat; rfl; rfl; omega; exact hspV)); clear hA a; intro a hA) | (refine QT ?_; clear hA a; intro a hA) | (first | (refine BT ?_; clear hA hH; rintro _ w ⟨bN, rfl, hH⟩ a hA) | (refine LT ?_; clear hA hH; rintro _ w ⟨oN, rfl, hH⟩ a hA) | (refine AT ?_; clear hA; rintro _ w ⟨oN, cN, rfl, hH2⟩ a hA; clear hH; have hH := (hH2 _ (by (repeat constructor))).tail; clear hH2) | (refine S0T ?_; clear hH; rintro _ w hH) )) | ((first | refine CT ?_ | (refine DT ?_ ?_ <;> intro hc <;> try (exfalso; omega))) <;> repeat' refine CT ?_) | (first | (refine DSK ?_; clear hA a; intro a hA) | (first | (refine DLT ?_; clear hA hH; rintro _ w ⟨oN, rfl, hH⟩; refine ⟨STT, ?_⟩; intro a hA) | (refine DAT ?_; clear hA; rintro _ w ⟨oN, cN, rfl, hH2⟩; clear hH; have hH := (hH2 _ (by (repeat constructor))).tail; clear hH2; refine ⟨STT, ?_⟩; intro a hA))) )
    (refine dr_op hA rfl rfl rfl (by decide) (op_call rfl rfl rfl (in_spec _ bl.ps.o bl.ps.c bl.ps.l x ((hbR.1.keep hH.kp).1) hbR.1.le)) ?_; clear hA; rintro _ w ⟨rfl, hk⟩; replace hH := hH.keep hk; clear hk; refine ⟨STT, ?_⟩; intro a hA)
    repeat' (first | (first | (refine GT ?_ ?_ <;> intro hg <;> clear hA a <;> intro a hA <;> (first | exact FA | replace hg := of_decide_eq_true hg | replace hg := of_decide_eq_false hg | skip)) | (refine QT ?_; clear hA a; intro a hA) | (first | (refine BT ?_; clear hA hH; rintro _ w ⟨bN, rfl, hH⟩ a hA) | (refine LT ?_; clear hA hH; rintro _ w ⟨oN, rfl, hH⟩ a hA) | (refine AT ?_; clear hA; rintro _ w ⟨oN, cN, rfl, hH2⟩ a hA; clear hH; have hH := (hH2 _ (by (repeat constructor))).tail; clear hH2) | (refine S0T ?_; clear hH; rintro _ w hH) )) | ((first | refine CT ?_ | (refine DT ?_ ?_ <;> intro hc <;> try (exfalso; omega))) <;> repeat' refine CT ?_) | (first | (refine DSK ?_; clear hA a; intro a hA) | (first | (refine DLT ?_; clear hA hH; rintro _ w ⟨oN, rfl, hH⟩; refine ⟨STT, ?_⟩; intro a hA) | (refine DAT ?_; clear hA; rintro _ w ⟨oN, cN, rfl, hH2⟩; clear hH; have hH := (hH2 _ (by (repeat constructor))).tail; clear hH2; refine ⟨STT, ?_⟩; intro a hA))) )
    rotate_left
    · have hxp : x ∈ bl.ps.l := nd_f (by assumption)
      have hx2 : x ∉ setAt ss n := fun h => blk_ps ((hF n bl hbl x).1 h) hxp
      have e := into_no (f := f) hx hx2
      rw [← e] at hA hH
      exact ⟨i + 1, ⟨o, c, hlt, hH, (hA.sub (by (repeat (first | exact trivial | refine ⟨rfl, ?_⟩))))⟩, by omega⟩
    have hxp : x ∉ bl.ps.l := nd_t (by assumption)
    (refine dr_op hA rfl rfl rfl (by decide) (op_call rfl rfl rfl (Lives_spec f ss hF hU hsl hB n _ 0 x bl hbl (Nat.zero_le _) (hR.keep hH.kp))) ?_; clear hA; rintro _ w ⟨b, rfl, hb2, hk⟩; refine ⟨hH.keep hk, ?_⟩; intro a hA)
    replace hH := hH.keep hk
    clear hk
    cases b with
    | false =>
      repeat' (first | (first | (refine GT ?_ ?_ <;> intro hg <;> clear hA a <;> intro a hA <;> (first | exact FA | replace hg := of_decide_eq_true hg | replace hg := of_decide_eq_false hg | skip)) | (refine QT ?_; clear hA a; intro a hA) | (first | (refine BT ?_; clear hA hH; rintro _ w ⟨bN, rfl, hH⟩ a hA) | (refine LT ?_; clear hA hH; rintro _ w ⟨oN, rfl, hH⟩ a hA) | (refine AT ?_; clear hA; rintro _ w ⟨oN, cN, rfl, hH2⟩ a hA; clear hH; have hH := (hH2 _ (by (repeat constructor))).tail; clear hH2) | (refine S0T ?_; clear hH; rintro _ w hH) )) | ((first | refine CT ?_ | (refine DT ?_ ?_ <;> intro hc <;> try (exfalso; omega))) <;> repeat' refine CT ?_) | (first | (refine DSK ?_; clear hA a; intro a hA) | (first | (refine DLT ?_; clear hA hH; rintro _ w ⟨oN, rfl, hH⟩; refine ⟨STT, ?_⟩; intro a hA) | (refine DAT ?_; clear hA; rintro _ w ⟨oN, cN, rfl, hH2⟩; clear hH; have hH := (hH2 _ (by (repeat constructor))).tail; clear hH2; refine ⟨STT, ?_⟩; intro a hA))) )
      have hx2 : x ∉ setAt ss n := fun h => by
        have := hb2.2 (blk_lv ((hF n bl hbl x).1 h))
        cases this
      have e := into_no (f := f) hx hx2
      rw [← e] at hA hH
      exact ⟨i + 1, ⟨o, c, hlt, hH, (hA.sub (by (repeat (first | exact trivial | refine ⟨rfl, ?_⟩))))⟩, by omega⟩
    | true =>
      repeat' (first | (first | (refine GT ?_ ?_ <;> intro hg <;> clear hA a <;> intro a hA <;> (first | exact FA | replace hg := of_decide_eq_true hg | replace hg := of_decide_eq_false hg | skip)) | ((first | apply st_ex hA hH rfl rfl (by decide) | apply dr_ex hA rfl rfl rfl (by decide) | apply dr_exp hA rfl rfl rfl (by decide) | apply dr_ex3 hA hH rfl rfl rfl (by decide)); (first | (apply ex_load; rfl; apply cl_own (T := 3) (o := oV); exact MEMT; exact hv) | (apply ex_indexAddr_nat; rfl; rfl; omega; exact hspV)); clear hA a; intro a hA) | (refine QT ?_; clear hA a; intro a hA) | (first | (refine BT ?_; clear hA hH; rintro _ w ⟨bN, rfl, hH⟩ a hA) | (refine LT ?_; clear hA hH; rintro _ w ⟨oN, rfl, hH⟩ a hA) | (refine AT ?_; clear hA; rintro _ w ⟨oN, cN, rfl, hH2⟩ a hA; clear hH; have hH := (hH2 _ (by (repeat constructor))).tail; clear hH2) | (refine S0T ?_; clear hH; rintro _ w hH) )) | ((first | refine CT ?_ | (refine DT ?_ ?_ <;> intro hc <;> try (exfalso; omega))) <;> repeat' refine CT ?_) | (first | (refine DSK ?_; clear hA a; intro a hA) | (first | (refine DLT ?_; clear hA hH; rintro _ w ⟨oN, rfl, hH⟩; refine ⟨STT, ?_⟩; intro a hA) | (refine DAT ?_; clear hA; rintro _ w ⟨oN, cN, rfl, hH2⟩; clear hH; have hH := (hH2 _ (by (repeat constructor))).tail; clear hH2; refine ⟨STT, ?_⟩; intro a hA))) )
      have hx2 : x ∈ setAt ss n := (hF n bl hbl x).2 (blk_mk (hb2.1 rfl) hxp)
      have e := into_yes (f := f) hx hx2
      rw [flatI_snoc, ← e] at hH
      have e2 : (intoF f ss n ((vrs f).take (i + 1))).length = (intoF f ss n ((vrs f).take i)).length + 1 := by rw [e, lenS]
      rw [← e2] at hA hH
      exact ⟨i + 1, ⟨oN, cN, hlt, hH, (hA.sub (by (repeat (first | exact trivial | refine ⟨rfl, ?_⟩))))⟩, by omega⟩
  clear hA hH
  rintro a w ⟨o, c, hH, hA⟩
  repeat' (first | (first | (refine GT ?_ ?_ <;> intro hg <;> clear hA a <;> intro a hA <;> (first | exact FA | replace hg := of_decide_eq_true hg | replace hg := of_decide_eq_false hg | skip)) | (refine QT ?_; clear hA a; intro a hA) | (first | (refine BT ?_; clear hA hH; rintro _ w ⟨bN, rfl, hH⟩ a hA) | (refine LT ?_; clear hA hH; rintro _ w ⟨oN, rfl, hH⟩ a hA) | (refine AT ?_; clear hA; rintro _ w ⟨oN, cN, rfl, hH2⟩ a hA; clear hH; have hH := (hH2 _ (by (repeat constructor))).tail; clear hH2) | (refine S0T ?_; clear hH; rintro _ w hH) )) | ((first | refine CT ?_ | (refine DT ?_ ?_ <;> intro hc <;> try (exfalso; omega))) <;> repeat' refine CT ?_) | (first | (refine DSK ?_; clear hA a; intro a hA) | (first | (refine DLT ?_; clear hA hH; rintro _ w ⟨oN, rfl, hH⟩; refine ⟨STT, ?_⟩; intro a hA) | (refine DAT ?_; clear hA; rintro _ w ⟨oN, cN, rfl, hH2⟩; clear hH; have hH := (hH2 _ (by (repeat constructor))).tail; clear hH2; refine ⟨STT, ?_⟩; intro a hA))) )
  exact rt1 (.inl rfl) rfl hA rfl ⟨o, c, rfl, hH⟩
end Go.Proofs.Ytjfanjcoppeeaaa
namespace Go.Proofs.Ytjfanjcoppeeaaa
open Go Go.Fw
set_option linter.unusedVariables false
/-- those that p tells of -/
def filF (p : Int → Bool) (l : List Int) : List Int := l.filter p
theorem fil_yes {p : Int → Bool} {i : Nat} {l : List Int} {x : Int} (hx : l[i]? = some x) (h : p x = true) : filF p (l.take (i + 1)) = filF p (l.take i) ++ [x] := by
  unfold filF
  rw [take_snoc hx, List.filter_append]
  simp [h]
theorem fil_no {p : Int → Bool} {i : Nat} {l : List Int} {x : Int} (hx : l[i]? = some x) (h : p x = false) : filF p (l.take (i + 1)) = filF p (l.take i) := by
  unfold filF
  rw [take_snoc hx, List.filter_append]
  simp [h]
theorem filF_len (p : Int → Bool) (l : List Int) : (filF p l).length ≤ l.length := List.length_filter_le ..
set_option maxRecDepth 10000 attribute [local irreducible] Code.wp wpList Calls Ex Op1 sat bat blk cb own Go.Fw.mp Go.Fw.mpO Go.Fw.mpI Go.Fw.mpE Go.Fw.itr HS Rd Ret wkD Hp Cl Cls Exit.then Exit.inBlock Exit.noGoto bodyPost Go.Fw.flat wk2 Go.Fw.all Go.Fw.owns wpOp
attribute [local irreducible] sk mpK srt varsL regOf insF insL vpre insP uses LvAt filF vrs

set_option maxHeartbeats 4000000 in
theorem behind_spec (f : Gr) (ss : List (Option (Nat × List Int))) (hF : ∀ n, FixAt f ss n) (hU : Up f) (hsl : ss.length = f.bs.l.length) (hB : f.bs.l.length ≤ 100000) (hb : (varsL f.bs.l).length ≤ 1000000) (n k : Nat) (w0 : World) (bl : Blc) (ins : Ins) (hbl : f.bs.l[n]? = some bl) (hins : bl.is.l[k]? = some ins) (hR : RdG w0 f)
    (p : Int → Bool) (hp : ∀ x, p x = true ↔ x ≠ ins.x ∧ LvAt ss bl (k + 1) x) :
    Ret Try.prog 29 #[.agg (encG f).toArray, .int .i64 n, .int .i64 k] w0 (fun v w => ∃ o c, v = .slice o (filF p (vrs f)).length c ∧ HS w0 noM [own 3 1 o (filF p (vrs f)).length c (flat Fw.encI (filF p (vrs f)))] w) := by
  have hH : HS w0 noM [] w0 := HS.init w0 noM
  have hbR := hR.2 bl (List.mem_of_getElem? hbl)
  have hnl := (List.getElem?_eq_some_iff.1 hbl).1
  have hkl := (List.getElem?_eq_some_iff.1 hins).1
  have hleI := hbR.2.1.le
  have hsp : Sp f.bs.o f.bs.l.length := hR.1.1.sp (sz := 6) (flat_length encBl_len _) (by omega)
  have hspI : Sp bl.is.o bl.is.l.length := hbR.2.1.1.sp (sz := 5) (flat_length encIn_len _) (by omega)
  have hvl := vrs_len f
  (refine enter (N := 53) Try.func29 rfl Try.ntmps29 rfl ?_; intro a hA; dsimp only [sl0, Nat.reduceAdd] at hA)
  repeat' (first | (first | (refine GT ?_ ?_ <;> intro hg <;> clear hA a <;> intro a hA <;> (first | exact FA | replace hg := of_decide_eq_true hg | replace hg := of_decide_eq_false hg | skip)) | (refine QT ?_; clear hA a; intro a hA) | (first | (refine BT ?_; clear hA hH; rintro _ w ⟨bN, rfl, hH⟩ a hA) | (refine LT ?_; clear hA hH; rintro _ w ⟨oN, rfl, hH⟩ a hA) | (refine AT ?_; clear hA; rintro _ w ⟨oN, cN, rfl, hH2⟩ a hA; clear hH; have hH := (hH2 _ (by (repeat constructor))).tail; clear hH2) | (refine S0T ?_; clear hH; rintro _ w hH) )) | ((first | refine CT ?_ | (refine DT ?_ ?_ <;> intro hc <;> try (exfalso; omega))) <;> repeat' refine CT ?_) | (first | (refine DSK ?_; clear hA a; intro a hA) | (first | (refine DLT ?_; clear hA hH; rintro _ w ⟨oN, rfl, hH⟩; refine ⟨STT, ?_⟩; intro a hA) | (refine DAT ?_; clear hA; rintro _ w ⟨oN, cN, rfl, hH2⟩; clear hH; have hH := (hH2 _ (by (repeat constructor))).tail; clear hH2; refine ⟨STT, ?_⟩; intro a hA))) )
  (refine st_op hA rfl rfl (by decide) (op_call rfl rfl rfl (vars_spec _ f (hR.keep hH.kp) hb)) ?_; clear hA; rintro _ w ⟨oV, cV, rfl, hj⟩ a hA; replace hH := hH.join hj; clear hj)
  repeat' (first | (first | (refine GT ?_ ?_ <;> intro hg <;> clear hA a <;> intro a hA <;> (first | exact FA | replace hg := of_decide_eq_true hg | replace hg := of_decide_eq_false hg | skip)) | (refine QT ?_; clear hA a; intro a hA) | (first | (refine BT ?_; clear hA hH; rintro _ w ⟨bN, rfl, hH⟩ a hA) | (refine LT ?_; clear hA hH; rintro _ w ⟨oN, rfl, hH⟩ a hA) | (refine AT ?_; clear hA; rintro _ w ⟨oN, cN, rfl, hH2⟩ a hA; clear hH; have hH := (hH2 _ (by (repeat constructor))).tail; clear hH2) | (refine S0T ?_; clear hH; rintro _ w hH) )) | ((first | refine CT ?_ | (refine DT ?_ ?_ <;> intro hc <;> try (exfalso; omega))) <;> repeat' refine CT ?_) | (first | (refine DSK ?_; clear hA a; intro a hA) | (first | (refine DLT ?_; clear hA hH; rintro _ w ⟨oN, rfl, hH⟩; refine ⟨STT, ?_⟩; intro a hA) | (refine DAT ?_; clear hA; rintro _ w ⟨oN, cN, rfl, hH2⟩; clear hH; have hH := (hH2 _ (by (repeat constructor))).tail; clear hH2; refine ⟨STT, ?_⟩; intro a hA))) )
  rw [← vrs_eq] at hA
  rw [← vrs_eq] at hH
  obtain ⟨bG, hbG⟩ : ∃ x, x = bN := ⟨_, rfl⟩
  rw [← hbG] at hA hH
  clear hbG bN
  have hspV := hH.own_sp (T := 3) (o := oV) (.head _)
  have h0 : filF p ((vrs f).take 0) = [] := by rw [List.take_zero]; unfold filF; rfl
  refine wp_lpk (S := Nat) (fun i a w => ∃ o c, i ≤ (vrs f).length ∧ HS w0 noM [own 3 1 o (filF p ((vrs f).take i)).length c (flat Fw.encI (filF p ((vrs f).take i))), own 3 1 oV (vrs f).length cV (flat Fw.encI (vrs f)), cb bG 30 (encG f)] w ∧ Sl 53 [(9, .int .i64 i), (8, .slice oV (vrs f).length cV), (7, .slice o (filF p ((vrs f).take i)).length c), (3, .pointer (some (bat bG 0))), (1, .int .i64 n), (2, .int .i64 k)] a) (fun i => (vrs f).length - i)
    (fun a w => ∃ o c, HS w0 noM [own 3 1 o (filF p (vrs f)).length c (flat Fw.encI (filF p (vrs f)))] w ∧ Sl 53 [(7, .slice o (filF p (vrs f)).length c)] a) 0 ⟨oN, 0, Nat.zero_le _, (by rw [h0, flatI_nil]; exact hH.perm (.swap _ _ _)), (by rw [h0]; exact (hA.sub (by (repeat (first | exact trivial | refine ⟨rfl, ?_⟩)))))⟩ ?_ ?_
  · clear hA hH
    rintro i a w ⟨o, c, hi, hH, hA⟩
    by_cases hlt : i < (vrs f).length
    rotate_left
    · obtain rfl : i = (vrs f).length := by omega
      rw [List.take_length] at hA hH
      repeat' (first | (first | (refine GT ?_ ?_ <;> intro hg <;> clear hA a <;> intro a hA <;> (first | exact FA | replace hg := of_decide_eq_true hg | replace hg := of_decide_eq_false hg | skip)) | (refine QT ?_; clear hA a; intro a hA) | (first | (refine BT ?_; clear hA hH; rintro _ w ⟨bN, rfl, hH⟩ a hA) | (refine LT ?_; clear hA hH; rintro _ w ⟨oN, rfl, hH⟩ a hA) | (refine AT ?_; clear hA; rintro _ w ⟨oN, cN, rfl, hH2⟩ a hA; clear hH; have hH := (hH2 _ (by (repeat constructor))).tail; clear hH2) | (refine S0T ?_; clear hH; rintro _ w hH) )) | ((first | refine CT ?_ | (refine DT ?_ ?_ <;> intro hc <;> try (exfalso; omega))) <;> repeat' refine CT ?_) | (first | (refine DSK ?_; clear hA a; intro a hA) | (first | (refine DLT ?_; clear hA hH; rintro _ w ⟨oN, rfl, hH⟩; refine ⟨STT, ?_⟩; intro a hA) | (refine DAT ?_; clear hA; rintro _ w ⟨oN, cN, rfl, hH2⟩; clear hH; have hH := (hH2 _ (by (repeat constructor))).tail; clear hH2; refine ⟨STT, ?_⟩; intro a hA))) )
      exact ⟨o, c, hH.head, (hA.sub (by (repeat (first | exact trivial | refine ⟨rfl, ?_⟩))))⟩
    obtain ⟨x, hx⟩ : ∃ x, (vrs f)[i]? = some x := ⟨_, List.getElem?_eq_getElem hlt⟩
    have hv : (flat Fw.encI (vrs f))[i * 1]? = some (.int .i64 x) := flat_get (off := 0) Fw.encI_len hx rfl
    have hvi : (flat encBl f.bs.l)[n * 6 + 1]? = some (.slice bl.is.o bl.is.l.length bl.is.c) := flat_get (off := 1) encBl_len hbl rfl
    have hvx : (flat encIn bl.is.l)[k * 5 + 0]? = some (.int .i64 ins.x) := flat_get (off := 0) encIn_len hins rfl
    have hol : (filF p ((vrs f).take i)).length ≤ 1000000 := by
      have := filF_len p ((vrs f).take i)
      rw [List.length_take] at this
      omega
    repeat' (first | (first | (refine GT ?_ ?_ <;> intro hg <;> clear hA a <;> intro a hA <;> (first | exact FA | replace hg := of_decide_eq_true hg | replace hg := of_decide_eq_false hg | skip)) | (refine QT ?_; clear hA a; intro a hA) | (first | (refine BT ?_; clear hA hH; rintro _ w ⟨bN, rfl, hH⟩ a hA) | (refine LT ?_; clear hA hH; rintro _ w ⟨oN, rfl, hH⟩ a hA) | (refine AT ?_; clear hA; rintro _ w ⟨oN, cN, rfl, hH2⟩ a hA; clear hH; have hH := (hH2 _ (by (repeat constructor))).tail; clear hH2) | (refine S0T ?_; clear hH; rintro _ w hH) )) | ((first | refine CT ?_ | (refine DT ?_ ?_ <;> intro hc <;> try (exfalso; omega))) <;> repeat' refine CT ?_) | (first | (refine DSK ?_; clear hA a; intro a hA) | (first | (refine DLT ?_; clear hA hH; rintro _ w ⟨oN, rfl, hH⟩; refine ⟨STT, ?_⟩; intro a hA) | (refine DAT ?_; clear hA; rintro _ w ⟨oN, cN, rfl, hH2⟩; clear hH; have hH := (hH2 _ (by (repeat constructor))).tail; clear hH2; refine ⟨STT, ?_⟩; intro a hA))) )
    (refine wp_draw_HS [(0, 1), (1, 1), (2, 1), (3, 1), (4, 1), (5, 1), (6, 1), (7, 1), (8, 1), (9, 1), (10, 1), (11, 1), (12, 1), (13, 1), (14, 1), (15, 1), (16, 1), (17, 1), (18, 1), (19, 1), (20, 1), (21, 1), (22, 1), (23, 1), (24, 0), (25, 1)] mixed (by decide +kernel) hH ?_; replace hH := hH.drew)
    repeat' (first | (first | (refine GT ?_ ?_ <;> intro hg <;> clear hA a <;> intro a hA <;> (first | exact FA | replace hg := of_decide_eq_true hg | replace hg := of_decide_eq_false hg | skip)) | ((first | apply st_ex hA hH rfl rfl (by decide) | apply dr_ex hA rfl rfl rfl (by decide) | apply dr_exp hA rfl rfl rfl (by decide) | apply dr_ex3 hA hH rfl rfl rfl (by decide)); (first | (apply ex_load; rfl; exact cl_rd hR.1.1 id hvi) | (apply ex_load; rfl; exact cl_rd hbR.2.1.1 id hvx) | (apply ex_load; rfl; apply cl_own (T := 3) (o := oV); exact MEMT; exact hv) | (apply ex_indexAddr_nat; rfl; rfl; omega; exact hspV)); clear hA a; intro a hA) | (refine QT ?_; clear hA a; intro a hA) | (first | (refine BT ?_; clear hA hH; rintro _ w ⟨bN, rfl, hH⟩ a hA) | (refine LT ?_; clear hA hH; rintro _ w ⟨oN, rfl, hH⟩ a hA) | (refine AT ?_; clear hA; rintro _ w ⟨oN, cN, rfl, hH2⟩ a hA; clear hH; have hH := (hH2 _ (by (repeat constructor))).tail; clear hH2) | (refine S0T ?_; clear hH; rintro _ w hH) )) | ((first | refine CT ?_ | (refine DT ?_ ?_ <;> intro hc <;> try (exfalso; omega))) <;> repeat' refine CT ?_) | (first | (refine DSK ?_; clear hA a; intro a hA) | (first | (refine DLT ?_; clear hA hH; rintro _ w ⟨oN, rfl, hH⟩; refine ⟨STT, ?_⟩; intro a hA) | (refine DAT ?_; clear hA; rintro _ w ⟨oN, cN, rfl, hH2⟩; clear hH; have hH := (hH2 _ (by (repeat constructor))).tail; clear hH2; refine ⟨STT, ?_⟩; intro a hA))) )
    rotate_left
    · have hxe : ¬ x ≠ ins.x := by assumption
      have e := fil_no (p := p) hx (by cases h : p x with | false => rfl | true => exact absurd ((hp x).1 h).1 hxe)
      rw [← e] at hA hH
      exact ⟨i + 1, ⟨o, c, hlt, hH, (hA.sub (by (repeat (first | exact trivial | refine ⟨rfl, ?_⟩))))⟩, by omega⟩
    have hxe : x ≠ ins.x := by assumption
    have hcall := Lives_spec f ss hF hU hsl hB n w.drew (k + 1) x bl hbl hkl (hR.keep hH.kp)
    (refine dr_op hA rfl rfl rfl (by decide) (op_call rfl rfl rfl (hcall)) ?_; clear hA; rintro _ w ⟨b, rfl, hb2, hk⟩; refine ⟨hH.keep hk, ?_⟩; intro a hA)
    replace hH := hH.keep hk
    clear hk hcall
    cases b with
    | false =>
      repeat' (first | (first | (refine GT ?_ ?_ <;> intro hg <;> clear hA a <;> intro a hA <;> (first | exact FA | replace hg := of_decide_eq_true hg | replace hg := of_decide_eq_false hg | skip)) | (refine QT ?_; clear hA a; intro a hA) | (first | (refine BT ?_; clear hA hH; rintro _ w ⟨bN, rfl, hH⟩ a hA) | (refine LT ?_; clear hA hH; rintro _ w ⟨oN, rfl, hH⟩ a hA) | (refine AT ?_; clear hA; rintro _ w ⟨oN, cN, rfl, hH2⟩ a hA; clear hH; have hH := (hH2 _ (by (repeat constructor))).tail; clear hH2) | (refine S0T ?_; clear hH; rintro _ w hH) )) | ((first | refine CT ?_ | (refine DT ?_ ?_ <;> intro hc <;> try (exfalso; omega))) <;> repeat' refine CT ?_) | (first | (refine DSK ?_; clear hA a; intro a hA) | (first | (refine DLT ?_; clear hA hH; rintro _ w ⟨oN, rfl, hH⟩; refine ⟨STT, ?_⟩; intro a hA) | (refine DAT ?_; clear hA; rintro _ w ⟨oN, cN, rfl, hH2⟩; clear hH; have hH := (hH2 _ (by (repeat constructor))).tail; clear hH2; refine ⟨STT, ?_⟩; intro a hA))) )
      have e := fil_no (p := p) hx (by cases h : p x with | false => rfl | true => exact absurd (hb2.2 ((hp x).1 h).2) (by decide))
      rw [← e] at hA hH
      exact ⟨i + 1, ⟨o, c, hlt, hH, (hA.sub (by (repeat (first | exact trivial | refine ⟨rfl, ?_⟩))))⟩, by omega⟩
    | true =>
      repeat' (first | (first | (refine GT ?_ ?_ <;> intro hg <;> clear hA a <;> intro a hA <;> (first | exact FA | replace hg := of_decide_eq_true hg | replace hg := of_decide_eq_false hg | skip)) | ((first | apply st_ex hA hH rfl rfl (by decide) | apply dr_ex hA rfl rfl rfl (by decide) | apply dr_exp hA rfl rfl rfl (by decide) | apply dr_ex3 hA hH rfl rfl rfl (by decide)); (first | (apply ex_load; rfl; apply cl_own (T := 3) (o := oV); exact MEMT; exact hv) | (apply ex_indexAddr_nat; rfl; rfl; omega; exact hspV)); clear hA a; intro a hA) | (refine QT ?_; clear hA a; intro a hA) | (first | (refine BT ?_; clear hA hH; rintro _ w ⟨bN, rfl, hH⟩ a hA) | (refine LT ?_; clear hA hH; rintro _ w ⟨oN, rfl, hH⟩ a hA) | (refine AT ?_; clear hA; rintro _ w ⟨oN, cN, rfl, hH2⟩ a hA; clear hH; have hH := (hH2 _ (by (repeat constructor))).tail; clear hH2) | (refine S0T ?_; clear hH; rintro _ w hH) )) | ((first | refine CT ?_ | (refine DT ?_ ?_ <;> intro hc <;> try (exfalso; omega))) <;> repeat' refine CT ?_) | (first | (refine DSK ?_; clear hA a; intro a hA) | (first | (refine DLT ?_; clear hA hH; rintro _ w ⟨oN, rfl, hH⟩; refine ⟨STT, ?_⟩; intro a hA) | (refine DAT ?_; clear hA; rintro _ w ⟨oN, cN, rfl, hH2⟩; clear hH; have hH := (hH2 _ (by (repeat constructor))).tail; clear hH2; refine ⟨STT, ?_⟩; intro a hA))) )
      have e := fil_yes (p := p) hx ((hp x).2 ⟨hxe, hb2.1 rfl⟩)
      rw [flatI_snoc, ← e] at hH
      have e2 : (filF p ((vrs f).take (i + 1))).length = (filF p ((vrs f).take i)).length + 1 := by rw [e, lenS]
      rw [← e2] at hA hH
      exact ⟨i + 1, ⟨oN, cN, hlt, hH, (hA.sub (by (repeat (first | exact trivial | refine ⟨rfl, ?_⟩))))⟩, by omega⟩
  clear hA hH
  rintro a w ⟨o, c, hH, hA⟩
  repeat' (first | (first | (refine GT ?_ ?_ <;> intro hg <;> clear hA a <;> intro a hA <;> (first | exact FA | replace hg := of_decide_eq_true hg | replace hg := of_decide_eq_false hg | skip)) | (refine QT ?_; clear hA a; intro a hA) | (first | (refine BT ?_; clear hA hH; rintro _ w ⟨bN, rfl, hH⟩ a hA) | (refine LT ?_; clear hA hH; rintro _ w ⟨oN, rfl, hH⟩ a hA) | (refine AT ?_; clear hA; rintro _ w ⟨oN, cN, rfl, hH2⟩ a hA; clear hH; have hH := (hH2 _ (by (repeat constructor))).tail; clear hH2) | (refine S0T ?_; clear hH; rintro _ w hH) )) | ((first | refine CT ?_ | (refine DT ?_ ?_ <;> intro hc <;> try (exfalso; omega))) <;> repeat' refine CT ?_) | (first | (refine DSK ?_; clear hA a; intro a hA) | (first | (refine DLT ?_; clear hA hH; rintro _ w ⟨oN, rfl, hH⟩; refine ⟨STT, ?_⟩; intro a hA) | (refine DAT ?_; clear hA; rintro _ w ⟨oN, cN, rfl, hH2⟩; clear hH; have hH := (hH2 _ (by (repeat constructor))).tail; clear hH2; refine ⟨STT, ?_⟩; intro a hA))) )
  exact rt1 (.inl rfl) rfl hA rfl ⟨o, c, rfl, hH⟩
end Go.Proofs.Ytjfanjcoppeeaaa
