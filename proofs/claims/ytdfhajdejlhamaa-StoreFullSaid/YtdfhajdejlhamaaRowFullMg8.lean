/-
  The walk over Text. Conditions: none.
  What stays as it is; when there is no room; a text that is laid (plain law). Conditions: none.
  What String tells (plain); the walk over it. Conditions: none.
  A text that is laid is read as it was (plain law). Conditions: none.
  What the collector's laws begin with: awake, both. Conditions: none.
  The walks over awake and StoreTexts. Conditions: none.
  The walk over GcSteps. Conditions: none.
-/
import Derived.Test.YtdfhajdejlhamaaRowFullMg7
import Derived.Test.YtdfhajdejlhamaaRowFullMg6
import Derived.Test.YtdfhajdejlhamaaRowFullMg0
namespace Go.Proofs.Ytdfhajdejlhamaa
open Go Go.Fw
set_option linter.unusedVariables false
/-- fields set, one behind the other -/
def setF (g : SS) (x : Int) : Nat → List Int → SS
  | _, [] => g
  | i, y :: ys => setF (writeS g (atA g.s.L x : Nat) i y).2 x (i + 1) ys
theorem setF_snoc : ∀ (l : List Int) (g : SS) (x : Int) (i : Nat) (y : Int), setF g x i (l ++ [y]) = (writeS (setF g x i l) (atA (setF g x i l).s.L x : Nat) (i + l.length : Nat) y).2
  | [], g, x, i, y => by simp [setF]
  | z :: l, g, x, i, y => by
    show setF (writeS g (atA g.s.L x : Nat) i z).2 x (i + 1) (l ++ [y]) = _
    rw [setF_snoc l]
    show (writeS (setF (writeS g (atA g.s.L x : Nat) i z).2 x (i + 1) l) _ (i + 1 + l.length : Nat) y).2 = (writeS (setF (writeS g (atA g.s.L x : Nat) i z).2 x (i + 1) l) _ (i + (l.length + 1) : Nat) y).2
    rw [show i + 1 + l.length = i + (l.length + 1) by omega]
    rfl
theorem setF_ok {N : Nat} {x : Int} : ∀ {l : List Int} {g : SS} {i : Nat}, GOk N g.s → (∀ y ∈ l, U y) → GOk N (setF g x i l).s
  | [], g, i, h, _ => h
  | y :: l, g, i, h, hU => setF_ok (l := l) (write_ok h _ _ (hU y (List.mem_cons_self ..))).1 fun z hz => hU z (List.mem_cons_of_mem _ hz)
theorem setF_one (g : SS) (x y : Int) : (writeS g (atA g.s.L x : Nat) 0 y).2 = setF g x 0 [y] := rfl
theorem setF_next {g : SS} {x y : Int} {l : List Int} {k : Nat} (h : l[k]? = some y) (hk : (l.take k).length = k) : (writeS (setF g x 0 (l.take k)) (atA (setF g x 0 (l.take k)).s.L x : Nat) (k : Nat) y).2 = setF g x 0 (l.take (k + 1)) := by
  rw [List.take_add_one, h]
  have := setF_snoc (l.take k) g x 0 y
  rw [hk, Nat.zero_add] at this
  exact this.symm
theorem txt_one (t : List Nat) : [2 * (t.length : Int) + 1] = (txt t).take 1 := rfl
theorem sp_bat (b n : Nat) : Sp (some (bat b 0)) n := fun _ => ⟨b, 0, rfl⟩
theorem chunk_z (l : List Nat) : chunk (l.take 0) = 0 := rfl
theorem rd_atB {w : World} {o : Option Addr} {xs : List Value} {j : Nat} {u : Value} (h : Rd w o xs) (hj : xs[j]? = some u) : w.cell? (sat o j) = some u := h.2 j u hj
theorem txt_U {t : List Nat} (h : ∀ b ∈ t, b < 256) (hl : t.length ≤ 100000) : ∀ y ∈ txt t, U y := fun y hy => by
  unfold txt at hy
  rcases List.mem_cons.1 hy with rfl | hy
  · unfold U; omega
  · obtain ⟨j, _, rfl⟩ := List.mem_map.1 hy
    have := wrd_U h j
    unfold U; omega
theorem take_chunk {l : List Nat} {k b : Nat} (h : l[k]? = some b) : chunk (l.take (k + 1)) = chunk (l.take k) + b * 256 ^ k := by
  have hk := (List.getElem?_eq_some_iff.1 h).1
  rw [List.take_add_one, h]
  have := chunk_snoc (l.take k) b
  rw [List.length_take, Nat.min_eq_left (by omega)] at this
  exact this
theorem wrd_is (t : List Nat) (j : Nat) : wrd t j = (chunk ((part t j).take (part t j).length) : Nat) := by rw [List.take_length]; rfl
theorem part_is (t : ByteArray) (j : Nat) : bts (t.extract (8 * j) (min (bts t).length (8 * j + 8))) = part (bts t) j := by
  rw [bts_extract]
  unfold part
  rw [List.drop_take]
  rcases Nat.lt_or_ge (bts t).length (8 * j + 8) with h | h
  · rw [Nat.min_eq_left (by omega), List.take_of_length_le (by simp), List.take_of_length_le (by simp; omega)]
  · rw [Nat.min_eq_right h, show 8 * j + 8 - 8 * j = 8 by omega]
def textS (N : Nat) (g : SS) (t : List Nat) (roots : List Int) : Int × Int × SS :=
  if 32760 < t.length then (0, 2, g) else
  if (allocS N g 1 (1 + nW t.length : Nat) roots).2.1 ≠ 0 then (0, (allocS N g 1 (1 + nW t.length : Nat) roots).2.1, (allocS N g 1 (1 + nW t.length : Nat) roots).2.2) else
  ((allocS N g 1 (1 + nW t.length : Nat) roots).1, 0, setF (allocS N g 1 (1 + nW t.length : Nat) roots).2.2 (allocS N g 1 (1 + nW t.length : Nat) roots).1 0 (txt t))
theorem allocS_U {N : Nat} {g : SS} (h : GOk N g.s) (k z : Int) (roots : List Int) : U (allocS N g k z roots).1 := by
  obtain ⟨g2, h1, -, h2⟩ := allocS_inv (P := fun _ => True) h trivial (fun _ _ _ => trivial) roots (fun _ _ _ => trivial) k z
  rw [h2]
  show U (if (allocG N g2.s k z).2.1 = 0 then 2 * (allocG N g2.s k z).1 else 0)
  split
  · rcases alloc_num h1 k z with h3 | ⟨h3, ad, h4, h5⟩
    · exact absurd (by assumption) h3
    · rw [h4]; unfold U; omega
  · unfold U; omega
theorem allocS_cy {N : Nat} {g : SS} {k z : Int} {roots : List Int} : (allocS N g k z roots).2.2.cy ≤ g.cy + 2 := by
  have h1 := endS_cy (N := N) (g := g)
  have h2 := endS_cy (N := N) (g := begS (endS N g) roots)
  have h3 : (begS (endS N g) roots).cy = (endS N g).cy := rfl
  unfold allocS
  split
  · show g.cy ≤ _; omega
  · split
    · show (endS N g).cy ≤ _; omega
    · show (endS N (begS (endS N g) roots)).cy ≤ _; omega
set_option maxRecDepth 10000 attribute [local irreducible] Code.wp wpList Calls Ex Op1 sat bat blk cb own Go.Fw.mp Go.Fw.mpO Go.Fw.mpI Go.Fw.mpE Go.Fw.itr HS Rd Ret wkD Hp Cl Cls Exit.then Exit.inBlock Exit.noGoto bodyPost Go.Fw.flat wk2 Go.Fw.all Go.Fw.owns wpOp
attribute [local irreducible] hdA gaps isA nextA allocA freeA sizeA kindA setA getA whiteZ numW addrW shadeG gcI hpI stepG beginG writeG allocG mu atA endS finG allocS setF txt wrd chunk bts orK shlK

set_option maxHeartbeats 4000000 in
theorem stext_spec (w0 : World) (M : Nat → Prop) (bs N : Nat) (g : SS) (t : ByteArray) (roots : List Int) (oR : Option Addr) (cR : Nat) (hok : GOk N g.s) (hcy : g.cy ≤ 1000000) (ht : (bts t).length ≤ 9223372036854775807) (hU : ∀ x ∈ roots, U x) (hl : roots.length ≤ 140737488355328) (hrd : ∀ H' w', HS w0 M H' w' → Rd w' oR (flat encW roots)) (hH : HS w0 M [stI bs N g] w0) :
    Ret Try.prog 20 #[.pointer (some (bat bs 0)), .string t, .slice oR roots.length cR] w0 (fun v w => v = .tuple #[.int .u64 (textS N g (bts t) roots).1, .int .i64 (textS N g (bts t) roots).2.1] ∧ HS w0 M [stI bs N (textS N g (bts t) roots).2.2] w) := by
  (refine enter (N := 74) Try.func20 rfl Try.ntmps20 rfl ?_; intro a hA; dsimp only [sl0, Nat.reduceAdd] at hA)
  unfold textS
  by_cases hlen : 32760 < (bts t).length
  · rw [if_pos hlen]
    repeat' (first | (first | (refine GT ?_ ?_ <;> intro hg <;> clear hA a <;> intro a hA <;> (first | exact FA | replace hg := of_decide_eq_true hg | replace hg := of_decide_eq_false hg | skip)) | ((first | apply st_ex hA hH rfl rfl (by decide) | apply dr_ex hA rfl rfl rfl (by decide) | apply dr_exp hA rfl rfl rfl (by decide) | apply dr_ex3 hA hH rfl rfl rfl (by decide)); (first | (apply ex_len_string; rfl)); clear hA a; intro a hA) | (refine QT ?_; clear hA a; intro a hA) | (first | (refine BT ?_; clear hA hH; rintro _ w ⟨bN, rfl, hH⟩ a hA) | (refine LT ?_; clear hA hH; rintro _ w ⟨oN, rfl, hH⟩ a hA) | (refine AT ?_; clear hA; rintro _ w ⟨oN, cN, rfl, hH2⟩ a hA; clear hH; have hH := (hH2 _ (by (repeat constructor))).tail; clear hH2) | (refine S0T ?_; clear hH; rintro _ w hH) )) | ((first | refine CT ?_ | (refine DT ?_ ?_ <;> intro hc <;> try (exfalso; omega))) <;> repeat' refine CT ?_) | (first | (refine DSK ?_; clear hA a; intro a hA) | (first | (refine DLT ?_; clear hA hH; rintro _ w ⟨oN, rfl, hH⟩; refine ⟨STT, ?_⟩; intro a hA) | (refine DAT ?_; clear hA; rintro _ w ⟨oN, cN, rfl, hH2⟩; clear hH; have hH := (hH2 _ (by (repeat constructor))).tail; clear hH2; refine ⟨STT, ?_⟩; intro a hA))) )
    exact rt2 (.inl rfl) rfl hA rfl rfl ⟨rfl, hH⟩
  rw [if_neg hlen]
  have hq : (((bts t).length : Int) + 7).tdiv 8 = (nW (bts t).length : Int) := by
    unfold nW
    rw [Int.tdiv_eq_ediv_of_nonneg (by omega)]
    omega
  repeat' (first | (first | (refine GT ?_ ?_ <;> intro hg <;> clear hA a <;> intro a hA <;> (first | exact FA | replace hg := of_decide_eq_true hg | replace hg := of_decide_eq_false hg | skip)) | ((first | apply st_ex hA hH rfl rfl (by decide) | apply dr_ex hA rfl rfl rfl (by decide) | apply dr_exp hA rfl rfl rfl (by decide) | apply dr_ex3 hA hH rfl rfl rfl (by decide)); (first | (apply ex_len_string; rfl)); clear hA a; intro a hA) | (refine QT ?_; clear hA a; intro a hA) | (first | (refine BT ?_; clear hA hH; rintro _ w ⟨bN, rfl, hH⟩ a hA) | (refine LT ?_; clear hA hH; rintro _ w ⟨oN, rfl, hH⟩ a hA) | (refine AT ?_; clear hA; rintro _ w ⟨oN, cN, rfl, hH2⟩ a hA; clear hH; have hH := (hH2 _ (by (repeat constructor))).tail; clear hH2) | (refine S0T ?_; clear hH; rintro _ w hH) )) | ((first | refine CT ?_ | (refine DT ?_ ?_ <;> intro hc <;> try (exfalso; omega))) <;> repeat' refine CT ?_) | (first | (refine DSK ?_; clear hA a; intro a hA) | (first | (refine DLT ?_; clear hA hH; rintro _ w ⟨oN, rfl, hH⟩; refine ⟨STT, ?_⟩; intro a hA) | (refine DAT ?_; clear hA; rintro _ w ⟨oN, cN, rfl, hH2⟩; clear hH; have hH := (hH2 _ (by (repeat constructor))).tail; clear hH2; refine ⟨STT, ?_⟩; intro a hA))) )
  have hq2 : IntKind.i64.wrap ((((bts t).length : Int) + 7).tdiv 8) = (nW (bts t).length : Int) := by
    rw [hq]
    refine wrap_i64 ⟨by omega, ?_⟩
    unfold nW
    omega
  have hnw : nW (bts t).length ≤ 4096 := by unfold nW; omega
  rw [hq2] at hA
  repeat' (first | (first | (refine GT ?_ ?_ <;> intro hg <;> clear hA a <;> intro a hA <;> (first | exact FA | replace hg := of_decide_eq_true hg | replace hg := of_decide_eq_false hg | skip)) | (refine QT ?_; clear hA a; intro a hA) | (first | (refine BT ?_; clear hA hH; rintro _ w ⟨bN, rfl, hH⟩ a hA) | (refine LT ?_; clear hA hH; rintro _ w ⟨oN, rfl, hH⟩ a hA) | (refine AT ?_; clear hA; rintro _ w ⟨oN, cN, rfl, hH2⟩ a hA; clear hH; have hH := (hH2 _ (by (repeat constructor))).tail; clear hH2) | (refine S0T ?_; clear hH; rintro _ w hH) )) | ((first | refine CT ?_ | (refine DT ?_ ?_ <;> intro hc <;> try (exfalso; omega))) <;> repeat' refine CT ?_) | (first | (refine DSK ?_; clear hA a; intro a hA) | (first | (refine DLT ?_; clear hA hH; rintro _ w ⟨oN, rfl, hH⟩; refine ⟨STT, ?_⟩; intro a hA) | (refine DAT ?_; clear hA; rintro _ w ⟨oN, cN, rfl, hH2⟩; clear hH; have hH := (hH2 _ (by (repeat constructor))).tail; clear hH2; refine ⟨STT, ?_⟩; intro a hA))) )
  have hok2 := allocS_ok hok 1 (1 + nW (bts t).length : Nat) roots
  have hcy2 := allocS_cy (N := N) (g := g) (k := 1) (z := (1 + nW (bts t).length : Nat)) (roots := roots)
  have hUw := allocS_U hok 1 (1 + nW (bts t).length : Nat) roots
  rw [show (1 : Int) + (nW (bts t).length : Int) = ((1 + nW (bts t).length : Nat) : Int) by omega] at hA
  (refine st_op hA rfl rfl (by decide) (op_call rfl rfl rfl (salloc_f hH hok hcy hU hl (fun Hc w' h => hrd _ _ (by simpa using h)))) ?_; clear hA hH; rintro _ w ⟨rfl, hH⟩ a hA)
  generalize allocS N g 1 ((1 + nW (bts t).length : Nat) : Int) roots = r at *
  by_cases he : r.2.1 ≠ 0
  · rw [if_pos he]
    repeat' (first | (first | (refine GT ?_ ?_ <;> intro hg <;> clear hA a <;> intro a hA <;> (first | exact FA | replace hg := of_decide_eq_true hg | replace hg := of_decide_eq_false hg | skip)) | (refine QT ?_; clear hA a; intro a hA) | (first | (refine BT ?_; clear hA hH; rintro _ w ⟨bN, rfl, hH⟩ a hA) | (refine LT ?_; clear hA hH; rintro _ w ⟨oN, rfl, hH⟩ a hA) | (refine AT ?_; clear hA; rintro _ w ⟨oN, cN, rfl, hH2⟩ a hA; clear hH; have hH := (hH2 _ (by (repeat constructor))).tail; clear hH2) | (refine S0T ?_; clear hH; rintro _ w hH) )) | ((first | refine CT ?_ | (refine DT ?_ ?_ <;> intro hc <;> try (exfalso; omega))) <;> repeat' refine CT ?_) | (first | (refine DSK ?_; clear hA a; intro a hA) | (first | (refine DLT ?_; clear hA hH; rintro _ w ⟨oN, rfl, hH⟩; refine ⟨STT, ?_⟩; intro a hA) | (refine DAT ?_; clear hA; rintro _ w ⟨oN, cN, rfl, hH2⟩; clear hH; have hH := (hH2 _ (by (repeat constructor))).tail; clear hH2; refine ⟨STT, ?_⟩; intro a hA))) )
    exact rt2 (.inl rfl) rfl hA rfl rfl ⟨rfl, hH⟩
  rw [if_neg he]
  have he0 := Decidable.not_not.1 he
  repeat' (first | (first | (refine GT ?_ ?_ <;> intro hg <;> clear hA a <;> intro a hA <;> (first | exact FA | replace hg := of_decide_eq_true hg | replace hg := of_decide_eq_false hg | skip)) | ((first | apply st_ex hA hH rfl rfl (by decide) | apply dr_ex hA rfl rfl rfl (by decide) | apply dr_exp hA rfl rfl rfl (by decide) | apply dr_ex3 hA hH rfl rfl rfl (by decide)); (first | (apply ex_len_string; rfl)); clear hA a; intro a hA) | (refine QT ?_; clear hA a; intro a hA) | (first | (refine BT ?_; clear hA hH; rintro _ w ⟨bN, rfl, hH⟩ a hA) | (refine LT ?_; clear hA hH; rintro _ w ⟨oN, rfl, hH⟩ a hA) | (refine AT ?_; clear hA; rintro _ w ⟨oN, cN, rfl, hH2⟩ a hA; clear hH; have hH := (hH2 _ (by (repeat constructor))).tail; clear hH2) | (refine S0T ?_; clear hH; rintro _ w hH) )) | ((first | refine CT ?_ | (refine DT ?_ ?_ <;> intro hc <;> try (exfalso; omega))) <;> repeat' refine CT ?_) | (first | (refine DSK ?_; clear hA a; intro a hA) | (first | (refine DLT ?_; clear hA hH; rintro _ w ⟨oN, rfl, hH⟩; refine ⟨STT, ?_⟩; intro a hA) | (refine DAT ?_; clear hA; rintro _ w ⟨oN, cN, rfl, hH2⟩; clear hH; have hH := (hH2 _ (by (repeat constructor))).tail; clear hH2; refine ⟨STT, ?_⟩; intro a hA))) )
  (refine st_op hA rfl rfl (by decide) (op_call rfl rfl rfl (ofn_spec _ (bts t).length (by omega))) ?_; clear hA; rintro _ w ⟨rfl, hk⟩ a hA; replace hH := hH.keep hk; clear hk)
  repeat' (first | (first | (refine GT ?_ ?_ <;> intro hg <;> clear hA a <;> intro a hA <;> (first | exact FA | replace hg := of_decide_eq_true hg | replace hg := of_decide_eq_false hg | skip)) | (refine QT ?_; clear hA a; intro a hA) | (first | (refine BT ?_; clear hA hH; rintro _ w ⟨bN, rfl, hH⟩ a hA) | (refine LT ?_; clear hA hH; rintro _ w ⟨oN, rfl, hH⟩ a hA) | (refine AT ?_; clear hA; rintro _ w ⟨oN, cN, rfl, hH2⟩ a hA; clear hH; have hH := (hH2 _ (by (repeat constructor))).tail; clear hH2) | (refine S0T ?_; clear hH; rintro _ w hH) )) | ((first | refine CT ?_ | (refine DT ?_ ?_ <;> intro hc <;> try (exfalso; omega))) <;> repeat' refine CT ?_) | (first | (refine DSK ?_; clear hA a; intro a hA) | (first | (refine DLT ?_; clear hA hH; rintro _ w ⟨oN, rfl, hH⟩; refine ⟨STT, ?_⟩; intro a hA) | (refine DAT ?_; clear hA; rintro _ w ⟨oN, cN, rfl, hH2⟩; clear hH; have hH := (hH2 _ (by (repeat constructor))).tail; clear hH2; refine ⟨STT, ?_⟩; intro a hA))) )
  (refine st_op hA rfl rfl (by decide) (op_call rfl rfl rfl (sset_f hH hok2 hUw)) ?_; clear hA hH; rintro _ w ⟨rfl, hH⟩ a hA)
  rw [setF_one, txt_one] at hH
  repeat' (first | (first | (refine GT ?_ ?_ <;> intro hg <;> clear hA a <;> intro a hA <;> (first | exact FA | replace hg := of_decide_eq_true hg | replace hg := of_decide_eq_false hg | skip)) | (refine QT ?_; clear hA a; intro a hA) | (first | (refine BT ?_; clear hA hH; rintro _ w ⟨bN, rfl, hH⟩ a hA) | (refine LT ?_; clear hA hH; rintro _ w ⟨oN, rfl, hH⟩ a hA) | (refine AT ?_; clear hA; rintro _ w ⟨oN, cN, rfl, hH2⟩ a hA; clear hH; have hH := (hH2 _ (by (repeat constructor))).tail; clear hH2) | (refine S0T ?_; clear hH; rintro _ w hH) )) | ((first | refine CT ?_ | (refine DT ?_ ?_ <;> intro hc <;> try (exfalso; omega))) <;> repeat' refine CT ?_) | (first | (refine DSK ?_; clear hA a; intro a hA) | (first | (refine DLT ?_; clear hA hH; rintro _ w ⟨oN, rfl, hH⟩; refine ⟨STT, ?_⟩; intro a hA) | (refine DAT ?_; clear hA; rintro _ w ⟨oN, cN, rfl, hH2⟩; clear hH; have hH := (hH2 _ (by (repeat constructor))).tail; clear hH2; refine ⟨STT, ?_⟩; intro a hA))) )
  refine wp_lpj (S := Nat) (fun j a w => j ≤ nW (bts t).length ∧ HS w0 M [stI bs N (setF r.2.2 r.1 0 ((txt (bts t)).take (1 + j)))] w ∧ Sl 74 [(0, .pointer (some (bat bs 0))), (1, .string t), (8, .int .u64 r.1), (10, .int .i64 ((8 * j : Nat) : Int))] a) (fun j => nW (bts t).length - j)
    (fun a w => HS w0 M [stI bs N (setF r.2.2 r.1 0 (txt (bts t)))] w ∧ Sl 74 [(8, .int .u64 r.1)] a) 0 ⟨Nat.zero_le _, hH, (hA.sub (by (repeat (first | exact trivial | refine ⟨rfl, ?_⟩))))⟩ ?_ ?_
  rotate_left
  · clear hA hH
    rintro a w ⟨hH, hA⟩
    repeat' (first | (first | (refine GT ?_ ?_ <;> intro hg <;> clear hA a <;> intro a hA <;> (first | exact FA | replace hg := of_decide_eq_true hg | replace hg := of_decide_eq_false hg | skip)) | (refine QT ?_; clear hA a; intro a hA) | (first | (refine BT ?_; clear hA hH; rintro _ w ⟨bN, rfl, hH⟩ a hA) | (refine LT ?_; clear hA hH; rintro _ w ⟨oN, rfl, hH⟩ a hA) | (refine AT ?_; clear hA; rintro _ w ⟨oN, cN, rfl, hH2⟩ a hA; clear hH; have hH := (hH2 _ (by (repeat constructor))).tail; clear hH2) | (refine S0T ?_; clear hH; rintro _ w hH) )) | ((first | refine CT ?_ | (refine DT ?_ ?_ <;> intro hc <;> try (exfalso; omega))) <;> repeat' refine CT ?_) | (first | (refine DSK ?_; clear hA a; intro a hA) | (first | (refine DLT ?_; clear hA hH; rintro _ w ⟨oN, rfl, hH⟩; refine ⟨STT, ?_⟩; intro a hA) | (refine DAT ?_; clear hA; rintro _ w ⟨oN, cN, rfl, hH2⟩; clear hH; have hH := (hH2 _ (by (repeat constructor))).tail; clear hH2; refine ⟨STT, ?_⟩; intro a hA))) )
    exact rt2 (.inl rfl) rfl hA rfl rfl ⟨rfl, hH⟩
  clear hA hH
  rintro j a w ⟨hj, hH, hA⟩
  by_cases hlt : 8 * j < (bts t).length
  rotate_left
  · have hje : j = nW (bts t).length := by unfold nW at hj ⊢; omega
    rw [hje, ← txt_len, List.take_length] at hH
    repeat' (first | (first | (refine GT ?_ ?_ <;> intro hg <;> clear hA a <;> intro a hA <;> (first | exact FA | replace hg := of_decide_eq_true hg | replace hg := of_decide_eq_false hg | skip)) | ((first | apply st_ex hA hH rfl rfl (by decide) | apply dr_ex hA rfl rfl rfl (by decide) | apply dr_exp hA rfl rfl rfl (by decide) | apply dr_ex3 hA hH rfl rfl rfl (by decide)); (first | (apply ex_len_string; rfl)); clear hA a; intro a hA) | (refine QT ?_; clear hA a; intro a hA) | (first | (refine BT ?_; clear hA hH; rintro _ w ⟨bN, rfl, hH⟩ a hA) | (refine LT ?_; clear hA hH; rintro _ w ⟨oN, rfl, hH⟩ a hA) | (refine AT ?_; clear hA; rintro _ w ⟨oN, cN, rfl, hH2⟩ a hA; clear hH; have hH := (hH2 _ (by (repeat constructor))).tail; clear hH2) | (refine S0T ?_; clear hH; rintro _ w hH) )) | ((first | refine CT ?_ | (refine DT ?_ ?_ <;> intro hc <;> try (exfalso; omega))) <;> repeat' refine CT ?_) | (first | (refine DSK ?_; clear hA a; intro a hA) | (first | (refine DLT ?_; clear hA hH; rintro _ w ⟨oN, rfl, hH⟩; refine ⟨STT, ?_⟩; intro a hA) | (refine DAT ?_; clear hA; rintro _ w ⟨oN, cN, rfl, hH2⟩; clear hH; have hH := (hH2 _ (by (repeat constructor))).tail; clear hH2; refine ⟨STT, ?_⟩; intro a hA))) )
    exact ⟨hH, (hA.sub (by (repeat (first | exact trivial | refine ⟨rfl, ?_⟩))))⟩
  have hmin : (if ((8 * j : Nat) : Int) + 8 < ((bts t).length : Int) then ((8 * j : Nat) : Int) + 8 else ((bts t).length : Int)) = ((min (bts t).length (8 * j + 8) : Nat) : Int) := by
    split <;> omega
  have hsz := bts_len t
  repeat' (first | (first | (refine GT ?_ ?_ <;> intro hg <;> clear hA a <;> intro a hA <;> (first | exact FA | replace hg := of_decide_eq_true hg | replace hg := of_decide_eq_false hg | skip)) | ((first | apply st_ex hA hH rfl rfl (by decide) | apply dr_ex hA rfl rfl rfl (by decide) | apply dr_exp hA rfl rfl rfl (by decide) | apply dr_ex3 hA hH rfl rfl rfl (by decide)); (first | (apply ex_len_string; rfl) | (apply ex_min; rfl; rfl)); clear hA a; intro a hA) | (refine QT ?_; clear hA a; intro a hA) | (first | (refine BT ?_; clear hA hH; rintro _ w ⟨bN, rfl, hH⟩ a hA) | (refine LT ?_; clear hA hH; rintro _ w ⟨oN, rfl, hH⟩ a hA) | (refine AT ?_; clear hA; rintro _ w ⟨oN, cN, rfl, hH2⟩ a hA; clear hH; have hH := (hH2 _ (by (repeat constructor))).tail; clear hH2) | (refine S0T ?_; clear hH; rintro _ w hH) )) | ((first | refine CT ?_ | (refine DT ?_ ?_ <;> intro hc <;> try (exfalso; omega))) <;> repeat' refine CT ?_) | (first | (refine DSK ?_; clear hA a; intro a hA) | (first | (refine DLT ?_; clear hA hH; rintro _ w ⟨oN, rfl, hH⟩; refine ⟨STT, ?_⟩; intro a hA) | (refine DAT ?_; clear hA; rintro _ w ⟨oN, cN, rfl, hH2⟩; clear hH; have hH := (hH2 _ (by (repeat constructor))).tail; clear hH2; refine ⟨STT, ?_⟩; intro a hA))) )
  rw [hmin] at hA
  repeat' (first | (first | (refine GT ?_ ?_ <;> intro hg <;> clear hA a <;> intro a hA <;> (first | exact FA | replace hg := of_decide_eq_true hg | replace hg := of_decide_eq_false hg | skip)) | ((first | apply st_ex hA hH rfl rfl (by decide) | apply dr_ex hA rfl rfl rfl (by decide) | apply dr_exp hA rfl rfl rfl (by decide) | apply dr_ex3 hA hH rfl rfl rfl (by decide)); (first | (apply ex_slice_string (i := 8 * j) (j := min (bts t).length (8 * j + 8)); rfl; rfl; rfl; rfl; rfl; omega; omega)); clear hA a; intro a hA) | (refine QT ?_; clear hA a; intro a hA) | (first | (refine BT ?_; clear hA hH; rintro _ w ⟨bN, rfl, hH⟩ a hA) | (refine LT ?_; clear hA hH; rintro _ w ⟨oN, rfl, hH⟩ a hA) | (refine AT ?_; clear hA; rintro _ w ⟨oN, cN, rfl, hH2⟩ a hA; clear hH; have hH := (hH2 _ (by (repeat constructor))).tail; clear hH2) | (refine S0T ?_; clear hH; rintro _ w hH) | (apply st_op hA rfl rfl (by decide); apply op_toBytes; rfl; exact hH; clear hA hH; rintro _ w ⟨bb, cc, rfl, hH⟩ a hA))) | ((first | refine CT ?_ | (refine DT ?_ ?_ <;> intro hc <;> try (exfalso; omega))) <;> repeat' refine CT ?_) | (first | (refine DSK ?_; clear hA a; intro a hA) | (first | (refine DLT ?_; clear hA hH; rintro _ w ⟨oN, rfl, hH⟩; refine ⟨STT, ?_⟩; intro a hA) | (refine DAT ?_; clear hA; rintro _ w ⟨oN, cN, rfl, hH2⟩; clear hH; have hH := (hH2 _ (by (repeat constructor))).tail; clear hH2; refine ⟨STT, ?_⟩; intro a hA))) )
  have hp := part_is t j
  generalize t.extract (8 * j) (min (bts t).length (8 * j + 8)) = s' at *
  rw [hp] at hA
  have hpl := part_len (bts t) j
  have hpb := part_lt (bts_lt t) j
  have hspb : Sp (some (bat bb 0)) (part (bts t) j).length := sp_bat _ _
  refine wp_lpk (S := Nat) (fun k a w => k ≤ (part (bts t) j).length ∧ HS w0 M [byI bb s', stI bs N (setF r.2.2 r.1 0 ((txt (bts t)).take (1 + j)))] w ∧ Sl 74 [(0, .pointer (some (bat bs 0))), (1, .string t), (8, .int .u64 r.1), (10, .int .i64 ((8 * j : Nat) : Int)), (11, .int .u64 (chunk ((part (bts t) j).take k) : Nat)), (51, .slice (some (bat bb 0)) (part (bts t) j).length cc), (52, .int .i64 (part (bts t) j).length), (53, .int .i64 k)] a) (fun k => (part (bts t) j).length - k)
    (fun a w => HS w0 M [stI bs N (setF r.2.2 r.1 0 ((txt (bts t)).take (1 + j)))] w ∧ Sl 74 [(0, .pointer (some (bat bs 0))), (1, .string t), (8, .int .u64 r.1), (10, .int .i64 ((8 * j : Nat) : Int)), (11, .int .u64 (wrd (bts t) j))] a) 0 ⟨Nat.zero_le _, hH, by rw [chunk_z]; exact (hA.sub (by (repeat (first | exact trivial | refine ⟨rfl, ?_⟩))))⟩ ?_ ?_
  · clear hA hH
    rintro k a w ⟨hk, hH, hA⟩
    by_cases hkl : k < (part (bts t) j).length
    rotate_left
    · obtain rfl : k = (part (bts t) j).length := by omega
      rw [← wrd_is] at hA
      repeat' (first | (first | (refine GT ?_ ?_ <;> intro hg <;> clear hA a <;> intro a hA <;> (first | exact FA | replace hg := of_decide_eq_true hg | replace hg := of_decide_eq_false hg | skip)) | (refine QT ?_; clear hA a; intro a hA) | (first | (refine BT ?_; clear hA hH; rintro _ w ⟨bN, rfl, hH⟩ a hA) | (refine LT ?_; clear hA hH; rintro _ w ⟨oN, rfl, hH⟩ a hA) | (refine AT ?_; clear hA; rintro _ w ⟨oN, cN, rfl, hH2⟩ a hA; clear hH; have hH := (hH2 _ (by (repeat constructor))).tail; clear hH2) | (refine S0T ?_; clear hH; rintro _ w hH) )) | ((first | refine CT ?_ | (refine DT ?_ ?_ <;> intro hc <;> try (exfalso; omega))) <;> repeat' refine CT ?_) | (first | (refine DSK ?_; clear hA a; intro a hA) | (first | (refine DLT ?_; clear hA hH; rintro _ w ⟨oN, rfl, hH⟩; refine ⟨STT, ?_⟩; intro a hA) | (refine DAT ?_; clear hA; rintro _ w ⟨oN, cN, rfl, hH2⟩; clear hH; have hH := (hH2 _ (by (repeat constructor))).tail; clear hH2; refine ⟨STT, ?_⟩; intro a hA))) )
      exact ⟨hH.tail, (hA.sub (by (repeat (first | exact trivial | refine ⟨rfl, ?_⟩))))⟩
    obtain ⟨y, hy⟩ : ∃ y, (part (bts t) j)[k]? = some y := ⟨_, List.getElem?_eq_getElem hkl⟩
    have hyb := hpb y (List.mem_of_getElem? hy)
    have hclb : Cl (HS w0 M [byI bb s', stI bs N (setF r.2.2 r.1 0 ((txt (bts t)).take (1 + j)))]) (sat (some (bat bb 0)) (k * 1)) (.int .u8 (y : Int)) := cl_of fun w h => rd_atB (by_rd h (List.mem_cons_self ..)) (by rw [hp]; exact flat_get0 encY_len hy rfl)
    have hcx : chunk ((part (bts t) j).take k) < 256 ^ k := by
      have := chunk_lt (l := (part (bts t) j).take k) (fun b hb => hpb b (List.mem_of_mem_take hb))
      rw [List.length_take, Nat.min_eq_left (by omega)] at this
      exact this
    have hshl := shl_byte hyb (k := k) (by omega)
    have hor := or_byte hcx hyb (by omega)
    have htc := take_chunk hy
    rw [← htc] at hor
    have hcv : IntKind.u64.wrap (y : Int) = (y : Int) := by rw [u64_mod, Int.emod_eq_of_lt (by omega) (by omega)]
    repeat' (first | (first | (refine GT ?_ ?_ <;> intro hg <;> clear hA a <;> intro a hA <;> (first | exact FA | replace hg := of_decide_eq_true hg | replace hg := of_decide_eq_false hg | skip)) | ((first | apply st_ex hA hH rfl rfl (by decide) | apply dr_ex hA rfl rfl rfl (by decide) | apply dr_exp hA rfl rfl rfl (by decide) | apply dr_ex3 hA hH rfl rfl rfl (by decide)); (first | (apply ex_load; rfl; exact hclb) | (apply ex_convert (v := (y : Int)); rfl; exact hcv) | (apply ex_mul; rfl; rfl; unfold i64ok; omega) | (apply ex_shl (v := ((y * 256 ^ k : Nat) : Int)); rfl; rfl; omega; exact hshl) | (apply ex_or (v := ((chunk ((part (bts t) j).take (k + 1)) : Nat) : Int)); rfl; rfl; exact hor)); clear hA a; intro a hA) | (refine QT ?_; clear hA a; intro a hA) | (first | (refine BT ?_; clear hA hH; rintro _ w ⟨bN, rfl, hH⟩ a hA) | (refine LT ?_; clear hA hH; rintro _ w ⟨oN, rfl, hH⟩ a hA) | (refine AT ?_; clear hA; rintro _ w ⟨oN, cN, rfl, hH2⟩ a hA; clear hH; have hH := (hH2 _ (by (repeat constructor))).tail; clear hH2) | (refine S0T ?_; clear hH; rintro _ w hH) )) | ((first | refine CT ?_ | (refine DT ?_ ?_ <;> intro hc <;> try (exfalso; omega))) <;> repeat' refine CT ?_) | (first | (refine DSK ?_; clear hA a; intro a hA) | (first | (refine DLT ?_; clear hA hH; rintro _ w ⟨oN, rfl, hH⟩; refine ⟨STT, ?_⟩; intro a hA) | (refine DAT ?_; clear hA; rintro _ w ⟨oN, cN, rfl, hH2⟩; clear hH; have hH := (hH2 _ (by (repeat constructor))).tail; clear hH2; refine ⟨STT, ?_⟩; intro a hA))) )
    exact ⟨k + 1, ⟨hkl, hH, (hA.sub (by (repeat (first | exact trivial | refine ⟨rfl, ?_⟩))))⟩, by omega⟩
  clear hA hH
  rintro a w ⟨hH, hA⟩
  repeat' (first | (first | (refine GT ?_ ?_ <;> intro hg <;> clear hA a <;> intro a hA <;> (first | exact FA | replace hg := of_decide_eq_true hg | replace hg := of_decide_eq_false hg | skip)) | (refine QT ?_; clear hA a; intro a hA) | (first | (refine BT ?_; clear hA hH; rintro _ w ⟨bN, rfl, hH⟩ a hA) | (refine LT ?_; clear hA hH; rintro _ w ⟨oN, rfl, hH⟩ a hA) | (refine AT ?_; clear hA; rintro _ w ⟨oN, cN, rfl, hH2⟩ a hA; clear hH; have hH := (hH2 _ (by (repeat constructor))).tail; clear hH2) | (refine S0T ?_; clear hH; rintro _ w hH) )) | ((first | refine CT ?_ | (refine DT ?_ ?_ <;> intro hc <;> try (exfalso; omega))) <;> repeat' refine CT ?_) | (first | (refine DSK ?_; clear hA a; intro a hA) | (first | (refine DLT ?_; clear hA hH; rintro _ w ⟨oN, rfl, hH⟩; refine ⟨STT, ?_⟩; intro a hA) | (refine DAT ?_; clear hA; rintro _ w ⟨oN, cN, rfl, hH2⟩; clear hH; have hH := (hH2 _ (by (repeat constructor))).tail; clear hH2; refine ⟨STT, ?_⟩; intro a hA))) )
  have hq8 : IntKind.i64.wrap (((8 * j : Nat) : Int).tdiv 8) = (j : Int) := by
    rw [Int.tdiv_eq_ediv_of_nonneg (by omega)]
    have : ((8 * j : Nat) : Int) / 8 = (j : Int) := by omega
    rw [this]
    exact wrap_i64 ⟨by omega, by omega⟩
  rw [hq8] at hA
  have hjn : j < nW (bts t).length := by unfold nW; omega
  have hokF := setF_ok (x := r.1) (i := 0) (l := (txt (bts t)).take (1 + j)) hok2 (fun y hy => txt_U (bts_lt t) (by omega) y (List.mem_of_mem_take hy))
  have hnx := setF_next (g := r.2.2) (x := r.1) (txt_at hjn) (by rw [List.length_take, txt_len]; omega)
  repeat' (first | (first | (refine GT ?_ ?_ <;> intro hg <;> clear hA a <;> intro a hA <;> (first | exact FA | replace hg := of_decide_eq_true hg | replace hg := of_decide_eq_false hg | skip)) | (refine QT ?_; clear hA a; intro a hA) | (first | (refine BT ?_; clear hA hH; rintro _ w ⟨bN, rfl, hH⟩ a hA) | (refine LT ?_; clear hA hH; rintro _ w ⟨oN, rfl, hH⟩ a hA) | (refine AT ?_; clear hA; rintro _ w ⟨oN, cN, rfl, hH2⟩ a hA; clear hH; have hH := (hH2 _ (by (repeat constructor))).tail; clear hH2) | (refine S0T ?_; clear hH; rintro _ w hH) )) | ((first | refine CT ?_ | (refine DT ?_ ?_ <;> intro hc <;> try (exfalso; omega))) <;> repeat' refine CT ?_) | (first | (refine DSK ?_; clear hA a; intro a hA) | (first | (refine DLT ?_; clear hA hH; rintro _ w ⟨oN, rfl, hH⟩; refine ⟨STT, ?_⟩; intro a hA) | (refine DAT ?_; clear hA; rintro _ w ⟨oN, cN, rfl, hH2⟩; clear hH; have hH := (hH2 _ (by (repeat constructor))).tail; clear hH2; refine ⟨STT, ?_⟩; intro a hA))) )
  rw [show (1 : Int) + (j : Int) = ((1 + j : Nat) : Int) by omega] at hA
  repeat' (first | (first | (refine GT ?_ ?_ <;> intro hg <;> clear hA a <;> intro a hA <;> (first | exact FA | replace hg := of_decide_eq_true hg | replace hg := of_decide_eq_false hg | skip)) | (refine QT ?_; clear hA a; intro a hA) | (first | (refine BT ?_; clear hA hH; rintro _ w ⟨bN, rfl, hH⟩ a hA) | (refine LT ?_; clear hA hH; rintro _ w ⟨oN, rfl, hH⟩ a hA) | (refine AT ?_; clear hA; rintro _ w ⟨oN, cN, rfl, hH2⟩ a hA; clear hH; have hH := (hH2 _ (by (repeat constructor))).tail; clear hH2) | (refine S0T ?_; clear hH; rintro _ w hH) )) | ((first | refine CT ?_ | (refine DT ?_ ?_ <;> intro hc <;> try (exfalso; omega))) <;> repeat' refine CT ?_) | (first | (refine DSK ?_; clear hA a; intro a hA) | (first | (refine DLT ?_; clear hA hH; rintro _ w ⟨oN, rfl, hH⟩; refine ⟨STT, ?_⟩; intro a hA) | (refine DAT ?_; clear hA; rintro _ w ⟨oN, cN, rfl, hH2⟩; clear hH; have hH := (hH2 _ (by (repeat constructor))).tail; clear hH2; refine ⟨STT, ?_⟩; intro a hA))) )
  (refine st_op hA rfl rfl (by decide) (op_call rfl rfl rfl (sset_f hH hokF hUw)) ?_; clear hA hH; rintro _ w ⟨rfl, hH⟩ a hA)
  rw [hnx] at hH
  repeat' (first | (first | (refine GT ?_ ?_ <;> intro hg <;> clear hA a <;> intro a hA <;> (first | exact FA | replace hg := of_decide_eq_true hg | replace hg := of_decide_eq_false hg | skip)) | (refine QT ?_; clear hA a; intro a hA) | (first | (refine BT ?_; clear hA hH; rintro _ w ⟨bN, rfl, hH⟩ a hA) | (refine LT ?_; clear hA hH; rintro _ w ⟨oN, rfl, hH⟩ a hA) | (refine AT ?_; clear hA; rintro _ w ⟨oN, cN, rfl, hH2⟩ a hA; clear hH; have hH := (hH2 _ (by (repeat constructor))).tail; clear hH2) | (refine S0T ?_; clear hH; rintro _ w hH) )) | ((first | refine CT ?_ | (refine DT ?_ ?_ <;> intro hc <;> try (exfalso; omega))) <;> repeat' refine CT ?_) | (first | (refine DSK ?_; clear hA a; intro a hA) | (first | (refine DLT ?_; clear hA hH; rintro _ w ⟨oN, rfl, hH⟩; refine ⟨STT, ?_⟩; intro a hA) | (refine DAT ?_; clear hA; rintro _ w ⟨oN, cN, rfl, hH2⟩; clear hH; have hH := (hH2 _ (by (repeat constructor))).tail; clear hH2; refine ⟨STT, ?_⟩; intro a hA))) )
  exact ⟨j + 1, ⟨hjn, hH, (hA.sub (by (repeat (first | exact trivial | refine ⟨rfl, ?_⟩))))⟩, by omega⟩
end Go.Proofs.Ytdfhajdejlhamaa
namespace Go.Proofs.Ytdfhajdejlhamaa
open Go Go.Fw
set_option linter.unusedVariables false
section
variable {N : Nat} {s : GS} {g : SS} {L : List Ob} {o : Ob}
theorem step_sub (h : GOk N s) : ∀ o ∈ (stepG s).2.L, o ∈ s.L := by
  rcases step_cases h with ⟨h0, e⟩ | ⟨h0, g, ha, e⟩ | ⟨h0, hg, e⟩ | ⟨h0, hno, h1, e⟩ | ⟨h0, o, ho, h1, h2, h3, e⟩ <;> rw [e]
  · exact fun o ho => ho
  · intro o ho
    have := (mark_ok h h0 ha).2.1
    rw [← this]; exact ho
  · exact fun o ho => ho
  · exact fun o ho => ho
  · exact fun x hx => ((sweep_ok h h0 ho h2 h3).2.2.2.1 x hx).1
theorem keep_step (h : GOk N s) (ho : o ∈ s.L) (hP : Pt s o.a) : o ∈ (stepG s).2.L ∧ Pt (stepG s).2 o.a := by
  obtain ⟨h1, h2⟩ := Pt_step h hP (k := o.kind) ⟨o, ho, rfl, rfl⟩
  obtain ⟨x, hx, hxa⟩ := h1.1
  have := h.lay.inj x (step_sub h x hx) o ho hxa
  exact ⟨this ▸ hx, h1⟩
theorem beg_L (h : GOk N s) (roots : List Int) : (beginG s roots).2.L = s.L := by
  by_cases hp : s.ph = 0
  · obtain ⟨s', e, g1, g2, g3, g4, g5, g6⟩ := begin_facts h hp roots
    rw [e]; exact g3
  · have : beginG s roots = (9, s) := if_neg hp
    rw [this]
theorem keep_begin (h : GOk N s) {roots : List Int} (ho : o ∈ s.L) (hP : Pt s o.a) (hr : Rc s.L roots o.a) : o ∈ (beginG s roots).2.L ∧ Pt (beginG s roots).2 o.a := by
  refine ⟨by rw [beg_L h]; exact ho, ?_⟩
  by_cases hp : s.ph = 0
  · exact (Pt_begin h hp roots hr (k := o.kind) ⟨o, ho, rfl, rfl⟩).1
  · have : beginG s roots = (9, s) := if_neg hp
    rw [this]; exact hP
/-! ## laying -/
theorem alloc_fst (s : GS) (k z : Int) : (allocG N s k z).2.1 = (allocA N s.L k z).2.1 := by
  unfold allocG
  dsimp only
  split
  · rename_i h; rw [h]
  · rfl
theorem alloc_none (h : Lay N 1 L) {k z : Int} (he : (allocA N L k z).2.1 = 6) : 0 ≤ z ∧ z ≤ 4096 ∧ ∀ r ∈ gaps N 1 L, r.2 ≤ z := by
  unfold allocA at he
  split at he
  · cases he
  split at he
  · cases he
  refine ⟨by omega, by omega, ?_⟩
  rcases alloc_law (size := z.toNat) (new := newO k.toNat z.toNat) (fun p => ⟨rfl, List.length_replicate⟩) h with ⟨h1, h2⟩ | ⟨i, at_, n, A, B, h1, h2, h3, h4, h5, h6, h7, h8, h9⟩
  · have ffn : ∀ {l : List (Int × Int)}, ff z.toNat l = none → ∀ r ∈ l, r.2 ≤ z := by
      intro l
      induction l with
      | nil => intro _ r hr; exact absurd hr (List.not_mem_nil)
      | cons x l ih =>
        intro hf r hr
        simp only [ff] at hf
        split at hf
        · cases hf
        · rcases List.mem_cons.1 hr with rfl | hr
          · omega
          · exact ih (by simpa using hf) r hr
    exact ffn h1
  · rw [h5] at he; cases he
theorem alloc_06 {k z : Int} (hk : 1 ≤ k ∧ k ≤ 6) (hz : 0 ≤ z ∧ z ≤ 4096) : (allocA N L k z).2.1 = 0 ∨ (allocA N L k z).2.1 = 6 := by
  unfold allocA
  rw [if_neg (by omega), if_neg (by omega)]
  split
  · exact .inr rfl
  · exact .inl rfl
theorem gap1_one (p e : Nat) : (gap1 p e).length ≤ 1 := by unfold gap1; split <;> simp
theorem gapn_len : ∀ {L : List Ob} {p : Nat}, (gaps N p L).length ≤ L.length + 1
  | [], p => gap1_one p N
  | o :: L, p => by
    have := gapn_len (L := L) (p := o.fin)
    have := gap1_one p o.a
    rw [gaps_cons, List.length_append, List.length_cons]
    omega
theorem room_le {z : Int} (hz : 0 ≤ z) : ∀ {l : List (Int × Int)}, (∀ r ∈ l, r.2 ≤ z) → roomA l ≤ l.length * z
  | [], _ => by simp [roomA]
  | x :: l, h => by
    have h1 : roomA (x :: l) = x.2 + roomA l := by simp [roomA]
    have h2 := room_le hz (l := l) fun r hr => h r (List.mem_cons_of_mem _ hr)
    have h3 := h x (List.mem_cons_self ..)
    rw [h1, List.length_cons]
    have : ((l.length + 1 : Nat) : Int) * z = l.length * z + z := by rw [Int.natCast_add, Int.add_mul]; simp
    omega
/-- where there is no room, little is free -/
theorem full_room (h : Lay N 1 L) {k z : Int} (he : (allocA N L k z).2.1 = 6) : (N : Int) - 1 ≤ usedA L + (L.length + 1) * z := by
  obtain ⟨h1, h2, h3⟩ := alloc_none h he
  have h4 := room_le h1 h3
  have h5 := room_used h
  have h6 := gapn_len (N := N) (L := L) (p := 1)
  have h7 : ((gaps N 1 L).length : Int) * z ≤ ((L.length + 1 : Nat) : Int) * z := Int.mul_le_mul_of_nonneg_right (by omega) h1
  have h8 : ((L.length + 1 : Nat) : Int) * z = ((L.length : Int) + 1) * z := by simp
  omega
/-! ## fields -/
theorem atA_obj (hl : Lay N 1 L) (ho : o ∈ L) {x : Int} (h1 : numW x = false) (h2 : addrN x = o.a) : atA L x = o.a := by
  rw [at_yes h1 (by rw [h2]; exact ⟨o, ho, rfl⟩), h2]
theorem fld_obj (hl : Lay N 1 L) (ho : o ∈ L) {i : Nat} {y : Int} (hy : o.fs[i]? = some y) : getA L (o.a : Int) (i : Int) = (y, 0) := by
  unfold getA
  rw [objA_mem hl ho]
  obtain ⟨h1, h2⟩ := List.getElem?_eq_some_iff.1 hy
  dsimp only
  rw [if_pos ⟨by omega, by omega⟩]
  simp [hy]
end
end Go.Proofs.Ytdfhajdejlhamaa
namespace Go.Proofs.Ytdfhajdejlhamaa
open Go Go.Fw
set_option linter.unusedVariables false
/-- a text's bytes, as fields tell them -/
def bytS (L : List Ob) (a n : Nat) : List Nat := (List.range n).map fun i => ((getA L (a : Int) ((1 + i / 8 : Nat) : Int)).1 / 256 ^ (i % 8) % 256).toNat
def strS (L : List Ob) (x : Int) : ByteArray × Int :=
  if atA L x = 0 then (ByteArray.empty, 7) else
  if (kindA L (atA L x : Nat)).1 ≠ 1 then (ByteArray.empty, 8) else
  if numW (getA L (atA L x : Nat) 0).1 = false ∨ numV (getA L (atA L x : Nat) 0).1 < 0 ∨ 32768 < numV (getA L (atA L x : Nat) 0).1 ∨ (sizeA L (atA L x : Nat)).1 ≠ 1 + (numV (getA L (atA L x : Nat) 0).1 + 7) / 8 then (ByteArray.empty, 5) else
  (ofB (bytS L (atA L x) (numV (getA L (atA L x : Nat) 0).1).toNat), 0)
theorem get_U {N : Nat} {s : GS} (h : GOk N s) (z i : Int) : U (getA s.L z i).1 := by
  rcases get_cases h.lay z i 0 with ⟨e, _, h1, _⟩ | ⟨o, j, y, ho, rfl, rfl, hy, h1, _⟩
  · rw [h1]; show U 0; exact ⟨by decide, by decide⟩
  · rw [h1]; exact h.us o ho y (List.mem_of_getElem? hy)
def byS (L : List Ob) (a k : Nat) : Nat := ((getA L (a : Int) ((1 + k / 8 : Nat) : Int)).1 / 256 ^ (k % 8) % 256).toNat
theorem bytS_at {L : List Ob} {a n k : Nat} (h : k < n) : (bytS L a n)[k]? = some (byS L a k) := by
  unfold bytS byS
  rw [List.getElem?_map, List.getElem?_range h]
  rfl
theorem bytS_len {L : List Ob} {a n : Nat} : (bytS L a n).length = n := by unfold bytS; simp
theorem byS_is {L : List Ob} {a k : Nat} {y : Int} (hy : (getA L (a : Int) ((1 + k / 8 : Nat) : Int)).1 = y) : IntKind.u8.wrap (shrK .u64 y (8 * ((k % 8 : Nat) : Int))) = (byS L a k : Int) := by
  unfold byS
  rw [hy]
  unfold shrK
  have e : min (8 * ((k % 8 : Nat) : Int)).toNat IntKind.u64.bits = 8 * (k % 8) := by
    show min (8 * ((k % 8 : Nat) : Int)).toNat 64 = 8 * (k % 8)
    omega
  have e2 : (2 : Int) ^ (8 * (k % 8)) = 256 ^ (k % 8) := by rw [Int.pow_mul]; rfl
  rw [e, e2, Int.fdiv_eq_ediv_of_nonneg _ (Int.pow_nonneg (by decide))]
  show (y / 256 ^ (k % 8)) % 256 = _
  have := Int.emod_nonneg (y / 256 ^ (k % 8)) (show (256 : Int) ≠ 0 by decide)
  omega
theorem nil_flatY : ([] : List Value) = flat encY [] := rfl
theorem snocY (l : List Nat) (b : Nat) : flat encY l ++ [.int .u8 (b : Int)] = flat encY (l ++ [b]) := (flat_snoc encY l b).symm
set_option maxRecDepth 10000 attribute [local irreducible] Code.wp wpList Calls Ex Op1 sat bat blk cb own Go.Fw.mp Go.Fw.mpO Go.Fw.mpI Go.Fw.mpE Go.Fw.itr HS Rd Ret wkD Hp Cl Cls Exit.then Exit.inBlock Exit.noGoto bodyPost Go.Fw.flat wk2 Go.Fw.all Go.Fw.owns wpOp
attribute [local irreducible] hdA gaps isA nextA allocA freeA sizeA kindA setA getA whiteZ numW addrW shadeG gcI hpI stepG beginG writeG allocG mu atA endS finG allocS setF txt wrd chunk bts orK shlK numV bytS

set_option maxHeartbeats 4000000 in
theorem sstring_spec (w0 : World) (M : Nat → Prop) (bs N : Nat) (g : SS) (x : Int) (hok : GOk N g.s) (hU : U x) (hH : HS w0 M [stI bs N g] w0) :
    Ret Try.prog 25 #[.pointer (some (bat bs 0)), .int .u64 x] w0 (fun v w => v = .tuple #[.string (strS g.s.L x).1, .int .i64 (strS g.s.L x).2] ∧ HS w0 M [stI bs N g] w) := by
  (refine enter (N := 77) Try.func25 rfl Try.ntmps25 rfl ?_; intro a hA; dsimp only [sl0, Nat.reduceAdd] at hA)
  unfold strS
  repeat' (first | (first | (refine GT ?_ ?_ <;> intro hg <;> clear hA a <;> intro a hA <;> (first | exact FA | replace hg := of_decide_eq_true hg | replace hg := of_decide_eq_false hg | skip)) | (refine QT ?_; clear hA a; intro a hA) | (first | (refine BT ?_; clear hA hH; rintro _ w ⟨bN, rfl, hH⟩ a hA) | (refine LT ?_; clear hA hH; rintro _ w ⟨oN, rfl, hH⟩ a hA) | (refine AT ?_; clear hA; rintro _ w ⟨oN, cN, rfl, hH2⟩ a hA; clear hH; have hH := (hH2 _ (by (repeat constructor))).tail; clear hH2) | (refine S0T ?_; clear hH; rintro _ w hH) )) | ((first | refine CT ?_ | (refine DT ?_ ?_ <;> intro hc <;> try (exfalso; omega))) <;> repeat' refine CT ?_) | (first | (refine DSK ?_; clear hA a; intro a hA) | (first | (refine DLT ?_; clear hA hH; rintro _ w ⟨oN, rfl, hH⟩; refine ⟨STT, ?_⟩; intro a hA) | (refine DAT ?_; clear hA; rintro _ w ⟨oN, cN, rfl, hH2⟩; clear hH; have hH := (hH2 _ (by (repeat constructor))).tail; clear hH2; refine ⟨STT, ?_⟩; intro a hA))) )
  (refine st_op hA rfl rfl (by decide) (op_call rfl rfl rfl (sat_f hH hok hU)) ?_; clear hA hH; rintro _ w ⟨rfl, hH⟩ a hA)
  by_cases h0 : atA g.s.L x = 0
  · rw [if_pos h0]
    repeat' (first | (first | (refine GT ?_ ?_ <;> intro hg <;> clear hA a <;> intro a hA <;> (first | exact FA | replace hg := of_decide_eq_true hg | replace hg := of_decide_eq_false hg | skip)) | (refine QT ?_; clear hA a; intro a hA) | (first | (refine BT ?_; clear hA hH; rintro _ w ⟨bN, rfl, hH⟩ a hA) | (refine LT ?_; clear hA hH; rintro _ w ⟨oN, rfl, hH⟩ a hA) | (refine AT ?_; clear hA; rintro _ w ⟨oN, cN, rfl, hH2⟩ a hA; clear hH; have hH := (hH2 _ (by (repeat constructor))).tail; clear hH2) | (refine S0T ?_; clear hH; rintro _ w hH) )) | ((first | refine CT ?_ | (refine DT ?_ ?_ <;> intro hc <;> try (exfalso; omega))) <;> repeat' refine CT ?_) | (first | (refine DSK ?_; clear hA a; intro a hA) | (first | (refine DLT ?_; clear hA hH; rintro _ w ⟨oN, rfl, hH⟩; refine ⟨STT, ?_⟩; intro a hA) | (refine DAT ?_; clear hA; rintro _ w ⟨oN, cN, rfl, hH2⟩; clear hH; have hH := (hH2 _ (by (repeat constructor))).tail; clear hH2; refine ⟨STT, ?_⟩; intro a hA))) )
    exact rt2 (.inl rfl) rfl hA rfl rfl ⟨rfl, hH⟩
  rw [if_neg h0]
  repeat' (first | (first | (refine GT ?_ ?_ <;> intro hg <;> clear hA a <;> intro a hA <;> (first | exact FA | replace hg := of_decide_eq_true hg | replace hg := of_decide_eq_false hg | skip)) | (refine QT ?_; clear hA a; intro a hA) | (first | (refine BT ?_; clear hA hH; rintro _ w ⟨bN, rfl, hH⟩ a hA) | (refine LT ?_; clear hA hH; rintro _ w ⟨oN, rfl, hH⟩ a hA) | (refine AT ?_; clear hA; rintro _ w ⟨oN, cN, rfl, hH2⟩ a hA; clear hH; have hH := (hH2 _ (by (repeat constructor))).tail; clear hH2) | (refine S0T ?_; clear hH; rintro _ w hH) )) | ((first | refine CT ?_ | (refine DT ?_ ?_ <;> intro hc <;> try (exfalso; omega))) <;> repeat' refine CT ?_) | (first | (refine DSK ?_; clear hA a; intro a hA) | (first | (refine DLT ?_; clear hA hH; rintro _ w ⟨oN, rfl, hH⟩; refine ⟨STT, ?_⟩; intro a hA) | (refine DAT ?_; clear hA; rintro _ w ⟨oN, cN, rfl, hH2⟩; clear hH; have hH := (hH2 _ (by (repeat constructor))).tail; clear hH2; refine ⟨STT, ?_⟩; intro a hA))) )
  (refine st_op hA rfl rfl (by decide) (op_call rfl rfl rfl (skind_f hH hok hU)) ?_; clear hA hH; rintro _ w ⟨rfl, hH⟩ a hA)
  by_cases h1 : (kindA g.s.L (atA g.s.L x : Nat)).1 ≠ 1
  · rw [if_pos h1]
    repeat' (first | (first | (refine GT ?_ ?_ <;> intro hg <;> clear hA a <;> intro a hA <;> (first | exact FA | replace hg := of_decide_eq_true hg | replace hg := of_decide_eq_false hg | skip)) | (refine QT ?_; clear hA a; intro a hA) | (first | (refine BT ?_; clear hA hH; rintro _ w ⟨bN, rfl, hH⟩ a hA) | (refine LT ?_; clear hA hH; rintro _ w ⟨oN, rfl, hH⟩ a hA) | (refine AT ?_; clear hA; rintro _ w ⟨oN, cN, rfl, hH2⟩ a hA; clear hH; have hH := (hH2 _ (by (repeat constructor))).tail; clear hH2) | (refine S0T ?_; clear hH; rintro _ w hH) )) | ((first | refine CT ?_ | (refine DT ?_ ?_ <;> intro hc <;> try (exfalso; omega))) <;> repeat' refine CT ?_) | (first | (refine DSK ?_; clear hA a; intro a hA) | (first | (refine DLT ?_; clear hA hH; rintro _ w ⟨oN, rfl, hH⟩; refine ⟨STT, ?_⟩; intro a hA) | (refine DAT ?_; clear hA; rintro _ w ⟨oN, cN, rfl, hH2⟩; clear hH; have hH := (hH2 _ (by (repeat constructor))).tail; clear hH2; refine ⟨STT, ?_⟩; intro a hA))) )
    exact rt2 (.inl rfl) rfl hA rfl rfl ⟨rfl, hH⟩
  rw [if_neg h1]
  repeat' (first | (first | (refine GT ?_ ?_ <;> intro hg <;> clear hA a <;> intro a hA <;> (first | exact FA | replace hg := of_decide_eq_true hg | replace hg := of_decide_eq_false hg | skip)) | (refine QT ?_; clear hA a; intro a hA) | (first | (refine BT ?_; clear hA hH; rintro _ w ⟨bN, rfl, hH⟩ a hA) | (refine LT ?_; clear hA hH; rintro _ w ⟨oN, rfl, hH⟩ a hA) | (refine AT ?_; clear hA; rintro _ w ⟨oN, cN, rfl, hH2⟩ a hA; clear hH; have hH := (hH2 _ (by (repeat constructor))).tail; clear hH2) | (refine S0T ?_; clear hH; rintro _ w hH) )) | ((first | refine CT ?_ | (refine DT ?_ ?_ <;> intro hc <;> try (exfalso; omega))) <;> repeat' refine CT ?_) | (first | (refine DSK ?_; clear hA a; intro a hA) | (first | (refine DLT ?_; clear hA hH; rintro _ w ⟨oN, rfl, hH⟩; refine ⟨STT, ?_⟩; intro a hA) | (refine DAT ?_; clear hA; rintro _ w ⟨oN, cN, rfl, hH2⟩; clear hH; have hH := (hH2 _ (by (repeat constructor))).tail; clear hH2; refine ⟨STT, ?_⟩; intro a hA))) )
  (refine st_op hA rfl rfl (by decide) (op_call rfl rfl rfl (sget_f hH hok hU)) ?_; clear hA hH; rintro _ w ⟨rfl, hH⟩ a hA)
  have hUg := get_U hok (atA g.s.L x : Nat) 0
  generalize hx0 : (getA g.s.L (atA g.s.L x : Nat) 0).1 = x0 at *
  repeat' (first | (first | (refine GT ?_ ?_ <;> intro hg <;> clear hA a <;> intro a hA <;> (first | exact FA | replace hg := of_decide_eq_true hg | replace hg := of_decide_eq_false hg | skip)) | (refine QT ?_; clear hA a; intro a hA) | (first | (refine BT ?_; clear hA hH; rintro _ w ⟨bN, rfl, hH⟩ a hA) | (refine LT ?_; clear hA hH; rintro _ w ⟨oN, rfl, hH⟩ a hA) | (refine AT ?_; clear hA; rintro _ w ⟨oN, cN, rfl, hH2⟩ a hA; clear hH; have hH := (hH2 _ (by (repeat constructor))).tail; clear hH2) | (refine S0T ?_; clear hH; rintro _ w hH) )) | ((first | refine CT ?_ | (refine DT ?_ ?_ <;> intro hc <;> try (exfalso; omega))) <;> repeat' refine CT ?_) | (first | (refine DSK ?_; clear hA a; intro a hA) | (first | (refine DLT ?_; clear hA hH; rintro _ w ⟨oN, rfl, hH⟩; refine ⟨STT, ?_⟩; intro a hA) | (refine DAT ?_; clear hA; rintro _ w ⟨oN, cN, rfl, hH2⟩; clear hH; have hH := (hH2 _ (by (repeat constructor))).tail; clear hH2; refine ⟨STT, ?_⟩; intro a hA))) )
  (refine st_op hA rfl rfl (by decide) (op_call rfl rfl rfl (num_spec _ x0)) ?_; clear hA; rintro _ w ⟨rfl, hk⟩ a hA; replace hH := hH.keep hk; clear hk)
  repeat' (first | (first | (refine GT ?_ ?_ <;> intro hg <;> clear hA a <;> intro a hA <;> (first | exact FA | replace hg := of_decide_eq_true hg | replace hg := of_decide_eq_false hg | skip)) | (refine QT ?_; clear hA a; intro a hA) | (first | (refine BT ?_; clear hA hH; rintro _ w ⟨bN, rfl, hH⟩ a hA) | (refine LT ?_; clear hA hH; rintro _ w ⟨oN, rfl, hH⟩ a hA) | (refine AT ?_; clear hA; rintro _ w ⟨oN, cN, rfl, hH2⟩ a hA; clear hH; have hH := (hH2 _ (by (repeat constructor))).tail; clear hH2) | (refine S0T ?_; clear hH; rintro _ w hH) )) | ((first | refine CT ?_ | (refine DT ?_ ?_ <;> intro hc <;> try (exfalso; omega))) <;> repeat' refine CT ?_) | (first | (refine DSK ?_; clear hA a; intro a hA) | (first | (refine DLT ?_; clear hA hH; rintro _ w ⟨oN, rfl, hH⟩; refine ⟨STT, ?_⟩; intro a hA) | (refine DAT ?_; clear hA; rintro _ w ⟨oN, cN, rfl, hH2⟩; clear hH; have hH := (hH2 _ (by (repeat constructor))).tail; clear hH2; refine ⟨STT, ?_⟩; intro a hA))) )
  (refine st_op hA rfl rfl (by decide) (op_call rfl rfl rfl (isnum_spec _ x0 hUg)) ?_; clear hA; rintro _ w ⟨rfl, hk⟩ a hA; replace hH := hH.keep hk; clear hk)
  cases hn : numW x0 with
  | false =>
    rw [hn] at hA
    rw [if_pos (.inl rfl)]
    repeat' (first | (first | (refine GT ?_ ?_ <;> intro hg <;> clear hA a <;> intro a hA <;> (first | exact FA | replace hg := of_decide_eq_true hg | replace hg := of_decide_eq_false hg | skip)) | (refine QT ?_; clear hA a; intro a hA) | (first | (refine BT ?_; clear hA hH; rintro _ w ⟨bN, rfl, hH⟩ a hA) | (refine LT ?_; clear hA hH; rintro _ w ⟨oN, rfl, hH⟩ a hA) | (refine AT ?_; clear hA; rintro _ w ⟨oN, cN, rfl, hH2⟩ a hA; clear hH; have hH := (hH2 _ (by (repeat constructor))).tail; clear hH2) | (refine S0T ?_; clear hH; rintro _ w hH) )) | ((first | refine CT ?_ | (refine DT ?_ ?_ <;> intro hc <;> try (exfalso; omega))) <;> repeat' refine CT ?_) | (first | (refine DSK ?_; clear hA a; intro a hA) | (first | (refine DLT ?_; clear hA hH; rintro _ w ⟨oN, rfl, hH⟩; refine ⟨STT, ?_⟩; intro a hA) | (refine DAT ?_; clear hA; rintro _ w ⟨oN, cN, rfl, hH2⟩; clear hH; have hH := (hH2 _ (by (repeat constructor))).tail; clear hH2; refine ⟨STT, ?_⟩; intro a hA))) )
    exact rt2 (.inl rfl) rfl hA rfl rfl ⟨rfl, hH⟩
  | true =>
    rw [hn] at hA
    by_cases hr : 0 ≤ numV x0 ∧ numV x0 ≤ 32768
    rotate_left
    · rw [if_pos (by omega)]
      repeat' (first | (first | (refine GT ?_ ?_ <;> intro hg <;> clear hA a <;> intro a hA <;> (first | exact FA | replace hg := of_decide_eq_true hg | replace hg := of_decide_eq_false hg | skip)) | (refine QT ?_; clear hA a; intro a hA) | (first | (refine BT ?_; clear hA hH; rintro _ w ⟨bN, rfl, hH⟩ a hA) | (refine LT ?_; clear hA hH; rintro _ w ⟨oN, rfl, hH⟩ a hA) | (refine AT ?_; clear hA; rintro _ w ⟨oN, cN, rfl, hH2⟩ a hA; clear hH; have hH := (hH2 _ (by (repeat constructor))).tail; clear hH2) | (refine S0T ?_; clear hH; rintro _ w hH) )) | ((first | refine CT ?_ | (refine DT ?_ ?_ <;> intro hc <;> try (exfalso; omega))) <;> repeat' refine CT ?_) | (first | (refine DSK ?_; clear hA a; intro a hA) | (first | (refine DLT ?_; clear hA hH; rintro _ w ⟨oN, rfl, hH⟩; refine ⟨STT, ?_⟩; intro a hA) | (refine DAT ?_; clear hA; rintro _ w ⟨oN, cN, rfl, hH2⟩; clear hH; have hH := (hH2 _ (by (repeat constructor))).tail; clear hH2; refine ⟨STT, ?_⟩; intro a hA))) )
      all_goals exact rt2 (.inl rfl) rfl hA rfl rfl ⟨rfl, hH⟩
    obtain ⟨n, hnn⟩ : ∃ n : Nat, numV x0 = n := ⟨(numV x0).toNat, by omega⟩
    rw [hnn] at hA hr ⊢
    repeat' (first | (first | (refine GT ?_ ?_ <;> intro hg <;> clear hA a <;> intro a hA <;> (first | exact FA | replace hg := of_decide_eq_true hg | replace hg := of_decide_eq_false hg | skip)) | (refine QT ?_; clear hA a; intro a hA) | (first | (refine BT ?_; clear hA hH; rintro _ w ⟨bN, rfl, hH⟩ a hA) | (refine LT ?_; clear hA hH; rintro _ w ⟨oN, rfl, hH⟩ a hA) | (refine AT ?_; clear hA; rintro _ w ⟨oN, cN, rfl, hH2⟩ a hA; clear hH; have hH := (hH2 _ (by (repeat constructor))).tail; clear hH2) | (refine S0T ?_; clear hH; rintro _ w hH) | (refine st_op hA rfl rfl (by decide) (op_call rfl rfl rfl (ssize_f hH hok hU)) ?_; clear hA hH; rintro _ w ⟨rfl, hH⟩ a hA))) | ((first | refine CT ?_ | (refine DT ?_ ?_ <;> intro hc <;> try (exfalso; omega))) <;> repeat' refine CT ?_) | (first | (refine DSK ?_; clear hA a; intro a hA) | (first | (refine DLT ?_; clear hA hH; rintro _ w ⟨oN, rfl, hH⟩; refine ⟨STT, ?_⟩; intro a hA) | (refine DAT ?_; clear hA; rintro _ w ⟨oN, cN, rfl, hH2⟩; clear hH; have hH := (hH2 _ (by (repeat constructor))).tail; clear hH2; refine ⟨STT, ?_⟩; intro a hA))) )
    have hq : IntKind.i64.wrap (((n : Int) + 7).tdiv 8) = ((n : Int) + 7) / 8 := by
      rw [Int.tdiv_eq_ediv_of_nonneg (by omega)]
      exact wrap_i64 ⟨by omega, by omega⟩
    rw [hq] at hA
    by_cases hsz : (sizeA g.s.L (atA g.s.L x : Nat)).1 ≠ 1 + ((n : Int) + 7) / 8
    · rw [if_pos (.inr (.inr (.inr hsz)))]
      repeat' (first | (first | (refine GT ?_ ?_ <;> intro hg <;> clear hA a <;> intro a hA <;> (first | exact FA | replace hg := of_decide_eq_true hg | replace hg := of_decide_eq_false hg | skip)) | (refine QT ?_; clear hA a; intro a hA) | (first | (refine BT ?_; clear hA hH; rintro _ w ⟨bN, rfl, hH⟩ a hA) | (refine LT ?_; clear hA hH; rintro _ w ⟨oN, rfl, hH⟩ a hA) | (refine AT ?_; clear hA; rintro _ w ⟨oN, cN, rfl, hH2⟩ a hA; clear hH; have hH := (hH2 _ (by (repeat constructor))).tail; clear hH2) | (refine S0T ?_; clear hH; rintro _ w hH) )) | ((first | refine CT ?_ | (refine DT ?_ ?_ <;> intro hc <;> try (exfalso; omega))) <;> repeat' refine CT ?_) | (first | (refine DSK ?_; clear hA a; intro a hA) | (first | (refine DLT ?_; clear hA hH; rintro _ w ⟨oN, rfl, hH⟩; refine ⟨STT, ?_⟩; intro a hA) | (refine DAT ?_; clear hA; rintro _ w ⟨oN, cN, rfl, hH2⟩; clear hH; have hH := (hH2 _ (by (repeat constructor))).tail; clear hH2; refine ⟨STT, ?_⟩; intro a hA))) )
      all_goals exact rt2 (.inl rfl) rfl hA rfl rfl ⟨rfl, hH⟩
    rw [if_neg (by rintro (h | h | h | h); cases h; omega; omega; exact hsz h)]
    rw [Int.toNat_natCast]
    repeat' (first | (first | (refine GT ?_ ?_ <;> intro hg <;> clear hA a <;> intro a hA <;> (first | exact FA | replace hg := of_decide_eq_true hg | replace hg := of_decide_eq_false hg | skip)) | (refine QT ?_; clear hA a; intro a hA) | (first | (refine BT ?_; clear hA hH; rintro _ w ⟨bN, rfl, hH⟩ a hA) | (refine LT ?_; clear hA hH; rintro _ w ⟨oN, rfl, hH⟩ a hA) | (refine AT ?_; clear hA; rintro _ w ⟨oN, cN, rfl, hH2⟩ a hA; clear hH; have hH := (hH2 _ (by (repeat constructor))).tail; clear hH2) | (refine S0T ?_; clear hH; rintro _ w hH) )) | ((first | refine CT ?_ | (refine DT ?_ ?_ <;> intro hc <;> try (exfalso; omega))) <;> repeat' refine CT ?_) | (first | (refine DSK ?_; clear hA a; intro a hA) | (first | (refine DLT ?_; clear hA hH; rintro _ w ⟨oN, rfl, hH⟩; refine ⟨STT, ?_⟩; intro a hA) | (refine DAT ?_; clear hA; rintro _ w ⟨oN, cN, rfl, hH2⟩; clear hH; have hH := (hH2 _ (by (repeat constructor))).tail; clear hH2; refine ⟨STT, ?_⟩; intro a hA))) )
    replace hH := hH.nil_own 5 1
    generalize hF : bytS g.s.L (atA g.s.L x) n = F at *
    have hFl : F.length = n := by rw [← hF]; exact bytS_len
    rw [nil_flatY] at hH
    refine wp_lpj (S := Nat × Option Addr × Nat) (fun p a w => p.1 ≤ n ∧ HS w0 M [stI bs N g, own 5 1 p.2.1 p.1 p.2.2 (flat encY (F.take p.1))] w ∧ Sl 77 [(0, .pointer (some (bat bs 0))), (1, .int .u64 x), (9, .slice p.2.1 p.1 p.2.2), (52, .int .i64 n), (53, .int .i64 p.1)] a) (fun p => n - p.1)
      (fun a w => ∃ o c, HS w0 M [stI bs N g, own 5 1 o n c (flat encY F)] w ∧ Sl 77 [(9, .slice o n c)] a) (0, none, 0) ⟨Nat.zero_le _, hH.perm (.swap _ _ _), (hA.sub (by (repeat (first | exact trivial | refine ⟨rfl, ?_⟩))))⟩ ?_ ?_
    · clear hA hH
      rintro ⟨k, o, c⟩ a w ⟨hk, hH, hA⟩
      dsimp only at hk hH hA
      by_cases hlt : k < n
      rotate_left
      · obtain rfl : k = n := by omega
        rw [← hFl, List.take_length, hFl] at hH
        repeat' (first | (first | (refine GT ?_ ?_ <;> intro hg <;> clear hA a <;> intro a hA <;> (first | exact FA | replace hg := of_decide_eq_true hg | replace hg := of_decide_eq_false hg | skip)) | (refine QT ?_; clear hA a; intro a hA) | (first | (refine BT ?_; clear hA hH; rintro _ w ⟨bN, rfl, hH⟩ a hA) | (refine LT ?_; clear hA hH; rintro _ w ⟨oN, rfl, hH⟩ a hA) | (refine AT ?_; clear hA; rintro _ w ⟨oN, cN, rfl, hH2⟩ a hA; clear hH; have hH := (hH2 _ (by (repeat constructor))).tail; clear hH2) | (refine S0T ?_; clear hH; rintro _ w hH) )) | ((first | refine CT ?_ | (refine DT ?_ ?_ <;> intro hc <;> try (exfalso; omega))) <;> repeat' refine CT ?_) | (first | (refine DSK ?_; clear hA a; intro a hA) | (first | (refine DLT ?_; clear hA hH; rintro _ w ⟨oN, rfl, hH⟩; refine ⟨STT, ?_⟩; intro a hA) | (refine DAT ?_; clear hA; rintro _ w ⟨oN, cN, rfl, hH2⟩; clear hH; have hH := (hH2 _ (by (repeat constructor))).tail; clear hH2; refine ⟨STT, ?_⟩; intro a hA))) )
        exact ⟨o, c, hH, (hA.sub (by (repeat (first | exact trivial | refine ⟨rfl, ?_⟩))))⟩
      repeat' (first | (first | (refine GT ?_ ?_ <;> intro hg <;> clear hA a <;> intro a hA <;> (first | exact FA | replace hg := of_decide_eq_true hg | replace hg := of_decide_eq_false hg | skip)) | (refine QT ?_; clear hA a; intro a hA) | (first | (refine BT ?_; clear hA hH; rintro _ w ⟨bN, rfl, hH⟩ a hA) | (refine LT ?_; clear hA hH; rintro _ w ⟨oN, rfl, hH⟩ a hA) | (refine AT ?_; clear hA; rintro _ w ⟨oN, cN, rfl, hH2⟩ a hA; clear hH; have hH := (hH2 _ (by (repeat constructor))).tail; clear hH2) | (refine S0T ?_; clear hH; rintro _ w hH) )) | ((first | refine CT ?_ | (refine DT ?_ ?_ <;> intro hc <;> try (exfalso; omega))) <;> repeat' refine CT ?_) | (first | (refine DSK ?_; clear hA a; intro a hA) | (first | (refine DLT ?_; clear hA hH; rintro _ w ⟨oN, rfl, hH⟩; refine ⟨STT, ?_⟩; intro a hA) | (refine DAT ?_; clear hA; rintro _ w ⟨oN, cN, rfl, hH2⟩; clear hH; have hH := (hH2 _ (by (repeat constructor))).tail; clear hH2; refine ⟨STT, ?_⟩; intro a hA))) )
      have hq8 : IntKind.i64.wrap ((k : Int).tdiv 8) = ((k / 8 : Nat) : Int) := by
        rw [Int.tdiv_eq_ediv_of_nonneg (by omega)]
        have : (k : Int) / 8 = ((k / 8 : Nat) : Int) := by omega
        rw [this]
        exact wrap_i64 ⟨by omega, by omega⟩
      have hr8 : (k : Int).tmod 8 = ((k % 8 : Nat) : Int) := by
        rw [Int.tmod_eq_emod_of_nonneg (by omega)]
        omega
      rw [hq8] at hA
      repeat' (first | (first | (refine GT ?_ ?_ <;> intro hg <;> clear hA a <;> intro a hA <;> (first | exact FA | replace hg := of_decide_eq_true hg | replace hg := of_decide_eq_false hg | skip)) | (refine QT ?_; clear hA a; intro a hA) | (first | (refine BT ?_; clear hA hH; rintro _ w ⟨bN, rfl, hH⟩ a hA) | (refine LT ?_; clear hA hH; rintro _ w ⟨oN, rfl, hH⟩ a hA) | (refine AT ?_; clear hA; rintro _ w ⟨oN, cN, rfl, hH2⟩ a hA; clear hH; have hH := (hH2 _ (by (repeat constructor))).tail; clear hH2) | (refine S0T ?_; clear hH; rintro _ w hH) )) | ((first | refine CT ?_ | (refine DT ?_ ?_ <;> intro hc <;> try (exfalso; omega))) <;> repeat' refine CT ?_) | (first | (refine DSK ?_; clear hA a; intro a hA) | (first | (refine DLT ?_; clear hA hH; rintro _ w ⟨oN, rfl, hH⟩; refine ⟨STT, ?_⟩; intro a hA) | (refine DAT ?_; clear hA; rintro _ w ⟨oN, cN, rfl, hH2⟩; clear hH; have hH := (hH2 _ (by (repeat constructor))).tail; clear hH2; refine ⟨STT, ?_⟩; intro a hA))) )
      rw [show (1 : Int) + ((k / 8 : Nat) : Int) = ((1 + k / 8 : Nat) : Int) by omega] at hA
      (refine st_op hA rfl rfl (by decide) (op_call rfl rfl rfl (sget_f hH hok hU)) ?_; clear hA hH; rintro _ w ⟨rfl, hH⟩ a hA)
      have hby := byS_is (L := g.s.L) (a := atA g.s.L x) (k := k) rfl
      have hFk : F[k]? = some (byS g.s.L (atA g.s.L x) k) := by rw [← hF]; exact bytS_at hlt
      generalize byS g.s.L (atA g.s.L x) k = yb at *
      generalize (getA g.s.L (atA g.s.L x : Nat) ((1 + k / 8 : Nat) : Int)).1 = yg at *
      repeat' (first | (first | (refine GT ?_ ?_ <;> intro hg <;> clear hA a <;> intro a hA <;> (first | exact FA | replace hg := of_decide_eq_true hg | replace hg := of_decide_eq_false hg | skip)) | (refine QT ?_; clear hA a; intro a hA) | (first | (refine BT ?_; clear hA hH; rintro _ w ⟨bN, rfl, hH⟩ a hA) | (refine LT ?_; clear hA hH; rintro _ w ⟨oN, rfl, hH⟩ a hA) | (refine AT ?_; clear hA; rintro _ w ⟨oN, cN, rfl, hH2⟩ a hA; clear hH; have hH := (hH2 _ (by (repeat constructor))).tail; clear hH2) | (refine S0T ?_; clear hH; rintro _ w hH) )) | ((first | refine CT ?_ | (refine DT ?_ ?_ <;> intro hc <;> try (exfalso; omega))) <;> repeat' refine CT ?_) | (first | (refine DSK ?_; clear hA a; intro a hA) | (first | (refine DLT ?_; clear hA hH; rintro _ w ⟨oN, rfl, hH⟩; refine ⟨STT, ?_⟩; intro a hA) | (refine DAT ?_; clear hA; rintro _ w ⟨oN, cN, rfl, hH2⟩; clear hH; have hH := (hH2 _ (by (repeat constructor))).tail; clear hH2; refine ⟨STT, ?_⟩; intro a hA))) )
      rw [hr8] at hA
      repeat' (first | (first | (refine GT ?_ ?_ <;> intro hg <;> clear hA a <;> intro a hA <;> (first | exact FA | replace hg := of_decide_eq_true hg | replace hg := of_decide_eq_false hg | skip)) | ((first | apply st_ex hA hH rfl rfl (by decide) | apply dr_ex hA rfl rfl rfl (by decide) | apply dr_exp hA rfl rfl rfl (by decide) | apply dr_ex3 hA hH rfl rfl rfl (by decide)); (first | (apply ex_mul; rfl; rfl; unfold i64ok; omega) | (apply ex_shr (v := shrK .u64 yg (8 * ((k % 8 : Nat) : Int))); rfl; rfl; omega; rfl) | (apply ex_convert (v := (yb : Int)); rfl; exact hby)); clear hA a; intro a hA) | (refine QT ?_; clear hA a; intro a hA) | (first | (refine BT ?_; clear hA hH; rintro _ w ⟨bN, rfl, hH⟩ a hA) | (refine LT ?_; clear hA hH; rintro _ w ⟨oN, rfl, hH⟩ a hA) | (refine AT ?_; clear hA; rintro _ w ⟨oN, cN, rfl, hH2⟩ a hA; clear hH; have hH := (hH2 _ (by (repeat constructor))).tail; clear hH2) | (refine S0T ?_; clear hH; rintro _ w hH) )) | ((first | refine CT ?_ | (refine DT ?_ ?_ <;> intro hc <;> try (exfalso; omega))) <;> repeat' refine CT ?_) | (first | (refine DSK ?_; clear hA a; intro a hA) | (first | (refine DLT ?_; clear hA hH; rintro _ w ⟨oN, rfl, hH⟩; refine ⟨STT, ?_⟩; intro a hA) | (refine DAT ?_; clear hA; rintro _ w ⟨oN, cN, rfl, hH2⟩; clear hH; have hH := (hH2 _ (by (repeat constructor))).tail; clear hH2; refine ⟨STT, ?_⟩; intro a hA))) )
      rw [snocY] at hH
      have htk : F.take k ++ [yb] = F.take (k + 1) := by rw [List.take_add_one, hFk]; rfl
      rw [htk] at hH
      exact ⟨(k + 1, oN, cN), ⟨hlt, hH.perm (by (repeat (first | exact List.Perm.nil | refine perm_pick 0 rfl ?_ | refine perm_pick 1 rfl ?_ | refine perm_pick 2 rfl ?_ | refine perm_pick 3 rfl ?_ | refine perm_pick 4 rfl ?_ | refine perm_pick 5 rfl ?_ | refine perm_pick 6 rfl ?_ | refine perm_pick 7 rfl ?_ | refine perm_pick 8 rfl ?_ | refine perm_pick 9 rfl ?_ | refine perm_pick 10 rfl ?_ | refine perm_pick 11 rfl ?_))), (hA.sub (by (repeat (first | exact trivial | refine ⟨rfl, ?_⟩))))⟩, by show n - (k + 1) < n - k; omega⟩
    · clear hA hH
      rintro a w ⟨o, c, hH, hA⟩
      repeat' (first | (first | (refine GT ?_ ?_ <;> intro hg <;> clear hA a <;> intro a hA <;> (first | exact FA | replace hg := of_decide_eq_true hg | replace hg := of_decide_eq_false hg | skip)) | ((first | apply st_ex hA hH rfl rfl (by decide) | apply dr_ex hA rfl rfl rfl (by decide) | apply dr_exp hA rfl rfl rfl (by decide) | apply dr_ex3 hA hH rfl rfl rfl (by decide)); (first | (apply ex_ofBytes (l' := F); rfl; exact hFl; exact fun w h => h.own_rd (by exact MEMT))); clear hA a; intro a hA) | (refine QT ?_; clear hA a; intro a hA) | (first | (refine BT ?_; clear hA hH; rintro _ w ⟨bN, rfl, hH⟩ a hA) | (refine LT ?_; clear hA hH; rintro _ w ⟨oN, rfl, hH⟩ a hA) | (refine AT ?_; clear hA; rintro _ w ⟨oN, cN, rfl, hH2⟩ a hA; clear hH; have hH := (hH2 _ (by (repeat constructor))).tail; clear hH2) | (refine S0T ?_; clear hH; rintro _ w hH) )) | ((first | refine CT ?_ | (refine DT ?_ ?_ <;> intro hc <;> try (exfalso; omega))) <;> repeat' refine CT ?_) | (first | (refine DSK ?_; clear hA a; intro a hA) | (first | (refine DLT ?_; clear hA hH; rintro _ w ⟨oN, rfl, hH⟩; refine ⟨STT, ?_⟩; intro a hA) | (refine DAT ?_; clear hA; rintro _ w ⟨oN, cN, rfl, hH2⟩; clear hH; have hH := (hH2 _ (by (repeat constructor))).tail; clear hH2; refine ⟨STT, ?_⟩; intro a hA))) )
      exact rt2 (.inl rfl) rfl hA rfl rfl ⟨rfl, HS.left (H1 := [_]) hH⟩
end Go.Proofs.Ytdfhajdejlhamaa
namespace Go.Proofs.Ytdfhajdejlhamaa
open Go Go.Fw
set_option linter.unusedVariables false
section
variable {N : Nat} {s : GS} {g : SS} {L : List Ob} {o : Ob}
theorem two_word {a : Nat} (h : a ≤ 65536) : numW (2 * (a : Int)) = false ∧ addrN (2 * (a : Int)) = a := by
  refine ⟨?_, ?_⟩
  · unfold numW; simp
  · unfold addrN addrW
    rw [if_neg (by omega)]
    omega
theorem strS_txt (hl : Lay N 1 L) {t : ByteArray} {x : Int} (ho : o ∈ L) (hk : o.kind = 1) (hf : o.fs = txt (bts t)) (h1 : numW x = false) (h2 : addrN x = o.a) (hlen : (bts t).length ≤ 32760) : strS L x = (t, 0) := by
  have hat := atA_obj hl ho h1 h2
  have hobj := objA_mem hl ho
  have ha : 1 ≤ o.a := (hl.mem o ho).1
  have g0 : getA L (o.a : Int) 0 = (2 * ((bts t).length : Int) + 1, 0) := fld_obj hl ho (i := 0) (by rw [hf]; rfl)
  have hkd : kindA L (o.a : Int) = ((1 : Int), 0) := by rw [(kind_obj hl hobj).1, hk]; rfl
  have hsz : (sizeA L (o.a : Int)).1 = 1 + (((bts t).length : Int) + 7) / 8 := by
    rw [(kind_obj hl hobj).2, hf, txt_len]
    show ((1 + nW (bts t).length : Nat) : Int) = _
    unfold nW
    omega
  have hv := numV_of (n := (bts t).length) (by omega)
  have hnum : numW (2 * ((bts t).length : Int) + 1) = true := by unfold numW; simp
  unfold strS
  rw [hat, if_neg (by omega), hkd, if_neg (by simp), g0]
  dsimp only
  rw [hv, hnum, hsz, if_neg (by rintro (h | h | h | h); cases h; omega; omega; exact h rfl), Int.toNat_natCast]
  have e : bytS L o.a (bts t).length = bts t := by
    refine List.ext_getElem? fun k => ?_
    rcases Nat.lt_or_ge k (bts t).length with h | h
    · rw [bytS_at h, List.getElem?_eq_getElem h]
      have hb := List.getElem?_eq_getElem h
      have hg : getA L (o.a : Int) ((1 + k / 8 : Nat) : Int) = (wrd (bts t) (k / 8), 0) := fld_obj hl ho (by rw [hf]; exact txt_at (by unfold nW; omega))
      unfold byS
      rw [hg]
      dsimp only
      rw [wrd_at (bts_lt t) hb]
      rfl
    · rw [List.getElem?_eq_none (by rw [bytS_len]; exact h), List.getElem?_eq_none h]
  rw [e, ofB_bts]
theorem one_obj : ∀ {L : List Ob} {p : Nat}, Lay N p L → (∀ x ∈ L, x = o) → o ∈ L → L = [o]
  | [], _, _, _, h => absurd h (List.not_mem_nil)
  | [x], _, _, h, _ => by rw [h x (List.mem_cons_self ..)]
  | x :: y :: L, p, hl, h, _ => by
    have h1 := h x (List.mem_cons_self ..)
    have h2 := h y (List.mem_cons_of_mem _ (List.mem_cons_self ..))
    have h3 := hl.2.1
    subst h1
    rw [h2] at h3
    unfold Ob.fin at h3
    omega
/-- one object, and it is protected -/
def OneP (o : Ob) (s : GS) : Prop := s.L = [o] ∧ Pt s o.a
theorem OneP.step (h : GOk N s) (hP : OneP o s) : OneP o (stepG s).2 := by
  obtain ⟨h1, h2⟩ := hP
  have hm : o ∈ s.L := by rw [h1]; exact List.mem_cons_self ..
  obtain ⟨h3, h4⟩ := keep_step h hm h2
  exact ⟨one_obj (step_ok h).lay (fun x hx => by have := step_sub h x hx; rw [h1] at this; exact List.mem_singleton.1 this) h3, h4⟩
theorem OneP.begin (h : GOk N s) (ha : o.a ≤ 65536) (hP : OneP o s) : OneP o (beginG s [2 * (o.a : Int)]).2 := by
  obtain ⟨h1, h2⟩ := hP
  have hm : o ∈ s.L := by rw [h1]; exact List.mem_cons_self ..
  obtain ⟨w1, w2⟩ := two_word ha
  have hr : Rc s.L [2 * (o.a : Int)] o.a := by
    have := Rc.root (L := s.L) (roots := [2 * (o.a : Int)]) (List.mem_cons_self ..) w1 (by rw [w2]; exact ⟨o, hm, rfl⟩)
    rw [w2] at this
    exact this
  obtain ⟨h3, h4⟩ := keep_begin h hm h2 hr
  exact ⟨by rw [beg_L h]; exact h1, h4⟩
theorem OneP.pick (h : GOk N g.s) (ha : o.a ≤ 65536) (hP : OneP o g.s) : GOk N (pickS g [2 * (o.a : Int)]).s ∧ OneP o (pickS g [2 * (o.a : Int)]).s :=
  pickS_inv (P := OneP o) h hP (fun s h1 h2 => h2.step h1) _ fun s h1 h2 => h2.begin h1 ha
theorem pick_cy {roots : List Int} : (pickS g roots).cy ≤ g.cy + 1 := by
  unfold pickS
  split
  · show g.cy ≤ _; omega
  · dsimp only
    split <;> omega
end
end Go.Proofs.Ytdfhajdejlhamaa
namespace Go.Proofs.Ytdfhajdejlhamaa
open Go Go.Fw
set_option linter.unusedVariables false
/-- a call that is asked for -/
abbrev St5 := (Int × Int × Int × Int) × Sd
section
variable {ls : List St5} {i : Nat} {x : St5}
end
def WO (L : List Ob) : Prop := ∀ o ∈ L, ∀ x ∈ o.fs, U x
theorem U1 : U 1 := ⟨by decide, by decide⟩
/-! ## awake: what comes of each call -/
theorem rd_nil (w : World) : Rd w none (flat encW []) := ⟨fun h => absurd h (by simp [flat]), fun j u hj => by simp [flat] at hj⟩
theorem U2 : ∀ x ∈ ([2] : List Int), U x := fun x hx => by rw [List.mem_singleton.1 hx]; exact ⟨by decide, by decide⟩
end Go.Proofs.Ytdfhajdejlhamaa
namespace Go.Proofs.Ytdfhajdejlhamaa
open Go Go.Fw
set_option linter.unusedVariables false
/-- a store that is new -/
def st0 (N : Nat) : SS := ⟨⟨0, [], List.replicate N 0, [], 0⟩, 0⟩
theorem st0_ok {N : Nat} (h : 2 ≤ N ∧ N ≤ 65536) : GOk N (st0 N).s := by
  have hc : ∀ a, col (st0 N).s a = 0 := fun a => by
    unfold col st0
    rw [List.getD_eq_getElem?_getD, List.getElem?_replicate]
    split <;> rfl
  exact ⟨h, show 1 ≤ N by omega, fun o ho => absurd ho (List.not_mem_nil), fun o ho => absurd ho (List.not_mem_nil), Nat.zero_le _, List.length_replicate, fun a => by rw [hc]; omega, .nil, fun a => ⟨fun h => absurd h (List.not_mem_nil), fun h => by rw [hc] at h; cases h⟩, fun a ha => absurd (hc a) ha, fun _ => hc, fun h => by cases h⟩
def awS : Nat → SS
  | 0 => st0 9
  | i + 1 => (allocS 9 (awS i) 5 1 []).2.2
theorem awS_ok : ∀ i, GOk 9 (awS i).s
  | 0 => st0_ok (by decide)
  | i + 1 => allocS_ok (awS_ok i) 5 1 []
theorem awS_cy : ∀ i, (awS i).cy ≤ 2 * i
  | 0 => Nat.le_refl _
  | i + 1 => by
    have h1 := awS_cy i
    have h2 := allocS_cy (N := 9) (g := awS i) (k := 5) (z := 1) (roots := [])
    show (allocS 9 (awS i) 5 1 []).2.2.cy ≤ _
    omega
theorem aw_next (i : Nat) : (allocS 9 (awS i) 5 1 []).2.2 = awS (i + 1) := rfl
theorem aw_first : (allocS 9 (awS 0) 5 1 []).1 = 2 ∧ (allocS 9 (awS 0) 5 1 []).2.1 = 0 := ⟨by kernel_rfl, by kernel_rfl⟩
theorem aw_room : roomA (gaps 9 1 (awS 4).s.L) = 0 := by kernel_rfl
def aw5 : SS := (allocS 9 (awS 4) 5 2 [2]).2.2
def aw6 : SS := (allocS 9 aw5 6 9 []).2.2
theorem aw_b : (allocS 9 (awS 4) 5 2 [2]).1 = 6 ∧ (allocS 9 (awS 4) 5 2 [2]).2.1 = 0 := ⟨by kernel_rfl, by kernel_rfl⟩
theorem aw_g : (allocS 9 aw5 6 9 []).2.1 = 6 := by kernel_rfl
theorem aw_cy : aw6.cy = 2 := by kernel_rfl
theorem aw_cy5 : aw5.cy = 1 := by kernel_rfl
theorem aw_q5 : (allocS 9 (awS 4) 5 2 [2]).2.2 = aw5 := rfl
theorem aw_q6 : (allocS 9 aw5 6 9 []).2.2 = aw6 := rfl
theorem st0_cy (N : Nat) : (st0 N).cy = 0 := rfl
theorem st0_n (N : Nat) : (⟨⟨0, [], List.replicate N 0, [], 0⟩, 0⟩ : SS) = st0 N := rfl
theorem one_w (x : Int) : ([.int .u64 x] : List Value) = flat encW [x] := rfl
theorem aw_0 : st0 9 = awS 0 := rfl
theorem aw5_ok : GOk 9 aw5.s := allocS_ok (awS_ok 4) 5 2 [2]
theorem ex_eqlSs {P : Program} {N : Nat} {l : List (Nat × Value)} {C : World → Prop} {d : Option Tmp} {T : TypeId} {pos : String} {af : Array Edge} {gd : Option (Nat × Bool)} {t ty : TypeId} {x y : Operand} {m : ByteArray} [h : TSr P t] (hx : ev l x = some (.string m)) (hy : ev l y = some (.string m)) : Ex P N l C ⟨d, .binOp .eql t x y ty, T, pos, af, gd⟩ (.bool true) := by
  have := ex_eqlS (N := N) (C := C) (d := d) (T := T) (pos := pos) (af := af) (g := gd) (ty := ty) (h := h) hx hy
  rwa [beq_self_eq_true] at this
def tLit : ByteArray := ⟨#[97, 98, 99, 100, 101, 102, 103, 104, 105]⟩
def awT1 : SS := (textS 20 (st0 20) (bts tLit) []).2.2
def awT2 : SS := (writeS awT1 (atA awT1.s.L 2 : Nat) 0 3).2
def awT3 : SS := pickS awT2 []
theorem awT1_text : (textS 20 (st0 20) (bts tLit) []).1 = 2 ∧ (textS 20 (st0 20) (bts tLit) []).2.1 = 0 := ⟨by kernel_rfl, by kernel_rfl⟩
theorem awT1_L : awT1.s.L = [⟨1, 1, txt (bts tLit)⟩] := by kernel_rfl
theorem awT1_cy : awT1.cy = 0 ∧ awT2.cy = 0 ∧ awT3.cy = 0 := ⟨by kernel_rfl, by kernel_rfl, by kernel_rfl⟩
theorem awT1_ok : GOk 20 awT1.s := setF_ok (allocS_ok (st0_ok (by decide)) 1 _ []) (txt_U (bts_lt tLit) (by decide))
theorem awT1_str : strS awT1.s.L 2 = (tLit, 0) := strS_txt (o := ⟨1, 1, txt (bts tLit)⟩) awT1_ok.lay (by rw [awT1_L]; exact List.mem_cons_self ..) rfl rfl (by decide) (by decide) (by decide)
theorem awT2_ok : GOk 20 awT2.s := (write_ok awT1_ok _ _ ⟨by decide, by decide⟩).1
theorem awT2_1 : (writeS awT1 (atA awT1.s.L 2 : Nat) 0 3).1 = 0 := by kernel_rfl
theorem awT3_ok : GOk 20 awT3.s := pickS_ok awT2_ok []
theorem awT3_k : (kindA awT3.s.L (atA awT3.s.L 2 : Nat)).1 = 1 ∧ (sizeA awT3.s.L (atA awT3.s.L 2 : Nat)).1 = 3 := ⟨by kernel_rfl, by kernel_rfl⟩
theorem awT_q1 : (textS 20 (st0 20) (bts tLit) []).2.2 = awT1 := rfl
theorem awT_q2 : (writeS awT1 (atA awT1.s.L 2 : Nat) 0 3).2 = awT2 := rfl
theorem awT_q3 : pickS awT2 [] = awT3 := rfl
theorem tLit_len : (bts tLit).length ≤ 9223372036854775807 := by decide
theorem U_two : U 2 := ⟨by decide, by decide⟩
section
variable {w0 w : World} {M : Nat → Prop} {H : List It} {bs N : Nat} {g : SS}
theorem stext_f {t : ByteArray} {roots : List Int} {oR : Option Addr} {cR : Nat} (hH : HS w0 M (stI bs N g :: H) w) (hok : GOk N g.s) (hcy : g.cy ≤ 1000000) (ht : (bts t).length ≤ 9223372036854775807) (hU : ∀ x ∈ roots, U x) (hl : roots.length ≤ 140737488355328) (hrd : ∀ Hc w', HS w0 M (Hc ++ H) w' → Rd w' oR (flat encW roots)) :
    Ret Try.prog 20 #[.pointer (some (bat bs 0)), .string t, .slice oR roots.length cR] w (fun v w' => v = .tuple #[.int .u64 (textS N g (bts t) roots).1, .int .i64 (textS N g (bts t) roots).2.1] ∧ HS w0 M (stI bs N (textS N g (bts t) roots).2.2 :: H) w') := by
  obtain ⟨Mc, h1, -, h2⟩ := HS.frame (Hc := [stI bs N g]) (Hf := H) hH
  exact (stext_spec w Mc bs N g t roots oR cR hok hcy ht hU hl (fun H' w' hw => hrd _ _ (h2 _ _ hw)) h1).mono fun v w' ⟨h3, h4⟩ => ⟨h3, h2 _ _ h4⟩
theorem sstring_f {x : Int} (hH : HS w0 M (stI bs N g :: H) w) (hok : GOk N g.s) (hU : U x) :
    Ret Try.prog 25 #[.pointer (some (bat bs 0)), .int .u64 x] w (fun v w' => v = .tuple #[.string (strS g.s.L x).1, .int .i64 (strS g.s.L x).2] ∧ HS w0 M (stI bs N g :: H) w') := by
  obtain ⟨Mc, h1, -, h2⟩ := HS.frame (Hc := [stI bs N g]) (Hf := H) hH
  exact (sstring_spec w Mc bs N g x hok hU h1).mono fun v w' ⟨h3, h4⟩ => ⟨h3, h2 _ _ h4⟩
theorem scycles_f (hH : HS w0 M (stI bs N g :: H) w) :
    Ret Try.prog 29 #[.pointer (some (bat bs 0))] w (fun v w' => v = .int .i64 (g.cy : Nat) ∧ HS w0 M (stI bs N g :: H) w') := by
  obtain ⟨Mc, h1, -, h2⟩ := HS.frame (Hc := [stI bs N g]) (Hf := H) hH
  exact (scycles_spec w Mc bs N g h1).mono fun v w' ⟨h3, h4⟩ => ⟨h3, h2 _ _ h4⟩
theorem sroom_f (hH : HS w0 M (stI bs N g :: H) w) :
    Ret Try.prog 27 #[.pointer (some (bat bs 0))] w (fun v w' => v = .int .i64 (roomA (gaps N 1 g.s.L)) ∧ HS w0 M (stI bs N g :: H) w') := by
  obtain ⟨Mc, h1, -, h2⟩ := HS.frame (Hc := [stI bs N g]) (Hf := H) hH
  exact (sroom_spec w Mc bs N g h1).mono fun v w' ⟨h3, h4⟩ => ⟨h3, h2 _ _ h4⟩
theorem spick_f {roots : List Int} {oR : Option Addr} {cR : Nat} (hH : HS w0 M (stI bs N g :: H) w) (hok : GOk N g.s) (hcy : g.cy ≤ 1000000) (hU : ∀ x ∈ roots, U x) (hl : roots.length ≤ 140737488355328) (hrd : ∀ Hc w', HS w0 M (Hc ++ H) w' → Rd w' oR (flat encW roots)) :
    Ret Try.prog 18 #[.pointer (some (bat bs 0)), .slice oR roots.length cR] w (fun v w' => HS w0 M (stI bs N (pickS g roots) :: H) w') := by
  obtain ⟨Mc, h1, -, h2⟩ := HS.frame (Hc := [stI bs N g]) (Hf := H) hH
  exact (spick_spec w Mc bs N g roots oR cR hok hcy hU hl (fun H' w' hw => hrd _ _ (h2 _ _ hw)) h1).mono fun v w' h4 => h2 _ _ h4
end
set_option maxRecDepth 10000 attribute [local irreducible] Code.wp wpList Calls Ex Op1 sat bat blk cb own Go.Fw.mp Go.Fw.mpO Go.Fw.mpI Go.Fw.mpE Go.Fw.itr HS Rd Ret wkD Hp Cl Cls Exit.then Exit.inBlock Exit.noGoto bodyPost Go.Fw.flat wk2 Go.Fw.all Go.Fw.owns wpOp
attribute [local irreducible] hdA gaps isA nextA allocA freeA sizeA kindA setA getA whiteZ numW addrW shadeG gcI hpI stepG beginG writeG allocG mu atA endS finG allocS setF txt wrd chunk bts orK shlK numV bytS strS textS stI pickS writeS st0 awS aw5 aw6 awT1 awT2 awT3

set_option maxHeartbeats 4000000 in
theorem awake_spec (w0 : World) : Ret Try.prog 8 #[] w0 (fun v w => v = .bool true ∧ Kp w0 noM w) := by
  have hH : HS w0 noM [] w0 := HS.init w0 noM
  (refine enter (N := 127) Try.func8 rfl Try.ntmps8 rfl ?_; intro a hA; dsimp only [sl0, Nat.reduceAdd] at hA)
  repeat' (first | (first | (refine GT ?_ ?_ <;> intro hg <;> clear hA a <;> intro a hA <;> (first | exact FA | replace hg := of_decide_eq_true hg | replace hg := of_decide_eq_false hg | skip)) | (refine QT ?_; clear hA a; intro a hA) | (first | (refine BT ?_; clear hA hH; rintro _ w ⟨bN, rfl, hH⟩ a hA) | (refine LT ?_; clear hA hH; rintro _ w ⟨oN, rfl, hH⟩ a hA) | (refine AT ?_; clear hA; rintro _ w ⟨oN, cN, rfl, hH2⟩ a hA; clear hH; have hH := (hH2 _ (by (repeat constructor))).tail; clear hH2) | (refine S0T ?_; clear hH; rintro _ w hH) )) | ((first | refine CT ?_ | (refine DT ?_ ?_ <;> intro hc <;> try (exfalso; omega))) <;> repeat' refine CT ?_) | (first | (refine DSK ?_; clear hA a; intro a hA) | (first | (refine DLT ?_; clear hA hH; rintro _ w ⟨oN, rfl, hH⟩; refine ⟨STT, ?_⟩; intro a hA) | (refine DAT ?_; clear hA; rintro _ w ⟨oN, cN, rfl, hH2⟩; clear hH; have hH := (hH2 _ (by (repeat constructor))).tail; clear hH2; refine ⟨STT, ?_⟩; intro a hA))) )
  (refine st_op hA rfl rfl (by decide) (op_call rfl rfl rfl (new_st hH)) ?_; clear hA hH; rintro _ w (⟨rfl, h, hH⟩ | ⟨h, bs, rfl, hH⟩) a hA)
  · exact absurd ⟨by decide, by decide⟩ h
  rw [show Int.toNat 9 = 9 from rfl, st0_n, aw_0] at hH
  repeat' (first | (first | (refine GT ?_ ?_ <;> intro hg <;> clear hA a <;> intro a hA <;> (first | exact FA | replace hg := of_decide_eq_true hg | replace hg := of_decide_eq_false hg | skip)) | ((first | apply st_ex hA hH rfl rfl (by decide) | apply dr_ex hA rfl rfl rfl (by decide) | apply dr_exp hA rfl rfl rfl (by decide) | apply dr_ex3 hA hH rfl rfl rfl (by decide)); (first | (apply ex_eqlPf; rfl; rfl) | (apply ex_eqlPt; rfl; rfl) | (apply ex_neqPt; rfl; rfl) | (apply ex_neqPf; rfl; rfl)); clear hA a; intro a hA) | (refine QT ?_; clear hA a; intro a hA) | (first | (refine BT ?_; clear hA hH; rintro _ w ⟨bN, rfl, hH⟩ a hA) | (refine LT ?_; clear hA hH; rintro _ w ⟨oN, rfl, hH⟩ a hA) | (refine AT ?_; clear hA; rintro _ w ⟨oN, cN, rfl, hH2⟩ a hA; clear hH; have hH := (hH2 _ (by (repeat constructor))).tail; clear hH2) | (refine S0T ?_; clear hH; rintro _ w hH) )) | ((first | refine CT ?_ | (refine DT ?_ ?_ <;> intro hc <;> try (exfalso; omega))) <;> repeat' refine CT ?_) | (first | (refine DSK ?_; clear hA a; intro a hA) | (first | (refine DLT ?_; clear hA hH; rintro _ w ⟨oN, rfl, hH⟩; refine ⟨STT, ?_⟩; intro a hA) | (refine DAT ?_; clear hA; rintro _ w ⟨oN, cN, rfl, hH2⟩; clear hH; have hH := (hH2 _ (by (repeat constructor))).tail; clear hH2; refine ⟨STT, ?_⟩; intro a hA))) )
  (refine st_op hA rfl rfl (by decide) (op_call rfl rfl rfl (new_st hH)) ?_; clear hA hH; rintro _ w (⟨rfl, h, hH⟩ | ⟨h, b2, rfl, hH⟩) a hA)
  rotate_left
  · exact absurd h.1 (by decide)
  clear h
  have hnil : ∀ x ∈ ([] : List Int), U x := fun x hx => absurd hx (List.not_mem_nil)
  have rnil : ∀ (Hc : List It) (w' : World), HS w0 noM (Hc ++ []) w' → Rd w' none (flat encW []) := fun _ w' _ => rd_nil w'
  repeat' (first | (first | (refine GT ?_ ?_ <;> intro hg <;> clear hA a <;> intro a hA <;> (first | exact FA | replace hg := of_decide_eq_true hg | replace hg := of_decide_eq_false hg | skip)) | ((first | apply st_ex hA hH rfl rfl (by decide) | apply dr_ex hA rfl rfl rfl (by decide) | apply dr_exp hA rfl rfl rfl (by decide) | apply dr_ex3 hA hH rfl rfl rfl (by decide)); (first | (apply ex_eqlPf; rfl; rfl) | (apply ex_eqlPt; rfl; rfl) | (apply ex_neqPt; rfl; rfl) | (apply ex_neqPf; rfl; rfl)); clear hA a; intro a hA) | (refine QT ?_; clear hA a; intro a hA) | (first | (refine BT ?_; clear hA hH; rintro _ w ⟨bN, rfl, hH⟩ a hA) | (refine LT ?_; clear hA hH; rintro _ w ⟨oN, rfl, hH⟩ a hA) | (refine AT ?_; clear hA; rintro _ w ⟨oN, cN, rfl, hH2⟩ a hA; clear hH; have hH := (hH2 _ (by (repeat constructor))).tail; clear hH2) | (refine S0T ?_; clear hH; rintro _ w hH) )) | ((first | refine CT ?_ | (refine DT ?_ ?_ <;> intro hc <;> try (exfalso; omega))) <;> repeat' refine CT ?_) | (first | (refine DSK ?_; clear hA a; intro a hA) | (first | (refine DLT ?_; clear hA hH; rintro _ w ⟨oN, rfl, hH⟩; refine ⟨STT, ?_⟩; intro a hA) | (refine DAT ?_; clear hA; rintro _ w ⟨oN, cN, rfl, hH2⟩; clear hH; have hH := (hH2 _ (by (repeat constructor))).tail; clear hH2; refine ⟨STT, ?_⟩; intro a hA))) )
  (refine st_op hA rfl rfl (by decide) (op_call rfl rfl rfl (salloc_f (roots := []) (oR := none) (cR := 0) hH (awS_ok 0) (by have := awS_cy 0; omega) hnil (by decide) rnil)) ?_; clear hA hH; rintro _ w ⟨rfl, hH⟩ a hA)
  rw [aw_next, aw_first.1, aw_first.2] at *
  repeat' (first | (first | (refine GT ?_ ?_ <;> intro hg <;> clear hA a <;> intro a hA <;> (first | exact FA | replace hg := of_decide_eq_true hg | replace hg := of_decide_eq_false hg | skip)) | (refine QT ?_; clear hA a; intro a hA) | (first | (refine BT ?_; clear hA hH; rintro _ w ⟨bN, rfl, hH⟩ a hA) | (refine LT ?_; clear hA hH; rintro _ w ⟨oN, rfl, hH⟩ a hA) | (refine AT ?_; clear hA; rintro _ w ⟨oN, cN, rfl, hH2⟩ a hA; clear hH; have hH := (hH2 _ (by (repeat constructor))).tail; clear hH2) | (refine S0T ?_; clear hH; rintro _ w hH) )) | ((first | refine CT ?_ | (refine DT ?_ ?_ <;> intro hc <;> try (exfalso; omega))) <;> repeat' refine CT ?_) | (first | (refine DSK ?_; clear hA a; intro a hA) | (first | (refine DLT ?_; clear hA hH; rintro _ w ⟨oN, rfl, hH⟩; refine ⟨STT, ?_⟩; intro a hA) | (refine DAT ?_; clear hA; rintro _ w ⟨oN, cN, rfl, hH2⟩; clear hH; have hH := (hH2 _ (by (repeat constructor))).tail; clear hH2; refine ⟨STT, ?_⟩; intro a hA))) )
  refine wp_lpj (S := Nat) (fun i a w => i ≤ 3 ∧ HS w0 noM [stI bs 9 (awS (i + 1))] w ∧ Sl 127 [(1, .pointer (some (bat bs 0))), (2, .int .u64 2), (3, .int .i64 0), (4, .int .i64 i)] a) (fun i => 3 - i)
    (fun a w => HS w0 noM [stI bs 9 (awS 4)] w ∧ Sl 127 [(1, .pointer (some (bat bs 0))), (2, .int .u64 2), (3, .int .i64 0)] a) 0 ⟨by omega, hH, (hA.sub (by (repeat (first | exact trivial | refine ⟨rfl, ?_⟩))))⟩ ?_ ?_
  · clear hA hH
    rintro i a w ⟨hi, hH, hA⟩
    by_cases hlt : i < 3
    · repeat' (first | (first | (refine GT ?_ ?_ <;> intro hg <;> clear hA a <;> intro a hA <;> (first | exact FA | replace hg := of_decide_eq_true hg | replace hg := of_decide_eq_false hg | skip)) | (refine QT ?_; clear hA a; intro a hA) | (first | (refine BT ?_; clear hA hH; rintro _ w ⟨bN, rfl, hH⟩ a hA) | (refine LT ?_; clear hA hH; rintro _ w ⟨oN, rfl, hH⟩ a hA) | (refine AT ?_; clear hA; rintro _ w ⟨oN, cN, rfl, hH2⟩ a hA; clear hH; have hH := (hH2 _ (by (repeat constructor))).tail; clear hH2) | (refine S0T ?_; clear hH; rintro _ w hH) )) | ((first | refine CT ?_ | (refine DT ?_ ?_ <;> intro hc <;> try (exfalso; omega))) <;> repeat' refine CT ?_) | (first | (refine DSK ?_; clear hA a; intro a hA) | (first | (refine DLT ?_; clear hA hH; rintro _ w ⟨oN, rfl, hH⟩; refine ⟨STT, ?_⟩; intro a hA) | (refine DAT ?_; clear hA; rintro _ w ⟨oN, cN, rfl, hH2⟩; clear hH; have hH := (hH2 _ (by (repeat constructor))).tail; clear hH2; refine ⟨STT, ?_⟩; intro a hA))) )
      (refine st_op hA rfl rfl (by decide) (op_call rfl rfl rfl (salloc_f (roots := []) (oR := none) (cR := 0) hH (awS_ok (i + 1)) (by have := awS_cy (i + 1); omega) hnil (by decide) rnil)) ?_; clear hA hH; rintro _ w ⟨rfl, hH⟩ a hA)
      rw [aw_next] at hH
      repeat' (first | (first | (refine GT ?_ ?_ <;> intro hg <;> clear hA a <;> intro a hA <;> (first | exact FA | replace hg := of_decide_eq_true hg | replace hg := of_decide_eq_false hg | skip)) | (refine QT ?_; clear hA a; intro a hA) | (first | (refine BT ?_; clear hA hH; rintro _ w ⟨bN, rfl, hH⟩ a hA) | (refine LT ?_; clear hA hH; rintro _ w ⟨oN, rfl, hH⟩ a hA) | (refine AT ?_; clear hA; rintro _ w ⟨oN, cN, rfl, hH2⟩ a hA; clear hH; have hH := (hH2 _ (by (repeat constructor))).tail; clear hH2) | (refine S0T ?_; clear hH; rintro _ w hH) )) | ((first | refine CT ?_ | (refine DT ?_ ?_ <;> intro hc <;> try (exfalso; omega))) <;> repeat' refine CT ?_) | (first | (refine DSK ?_; clear hA a; intro a hA) | (first | (refine DLT ?_; clear hA hH; rintro _ w ⟨oN, rfl, hH⟩; refine ⟨STT, ?_⟩; intro a hA) | (refine DAT ?_; clear hA; rintro _ w ⟨oN, cN, rfl, hH2⟩; clear hH; have hH := (hH2 _ (by (repeat constructor))).tail; clear hH2; refine ⟨STT, ?_⟩; intro a hA))) )
      exact ⟨i + 1, ⟨hlt, hH, (hA.sub (by (repeat (first | exact trivial | refine ⟨rfl, ?_⟩))))⟩, by omega⟩
    · obtain rfl : i = 3 := by omega
      repeat' (first | (first | (refine GT ?_ ?_ <;> intro hg <;> clear hA a <;> intro a hA <;> (first | exact FA | replace hg := of_decide_eq_true hg | replace hg := of_decide_eq_false hg | skip)) | (refine QT ?_; clear hA a; intro a hA) | (first | (refine BT ?_; clear hA hH; rintro _ w ⟨bN, rfl, hH⟩ a hA) | (refine LT ?_; clear hA hH; rintro _ w ⟨oN, rfl, hH⟩ a hA) | (refine AT ?_; clear hA; rintro _ w ⟨oN, cN, rfl, hH2⟩ a hA; clear hH; have hH := (hH2 _ (by (repeat constructor))).tail; clear hH2) | (refine S0T ?_; clear hH; rintro _ w hH) )) | ((first | refine CT ?_ | (refine DT ?_ ?_ <;> intro hc <;> try (exfalso; omega))) <;> repeat' refine CT ?_) | (first | (refine DSK ?_; clear hA a; intro a hA) | (first | (refine DLT ?_; clear hA hH; rintro _ w ⟨oN, rfl, hH⟩; refine ⟨STT, ?_⟩; intro a hA) | (refine DAT ?_; clear hA; rintro _ w ⟨oN, cN, rfl, hH2⟩; clear hH; have hH := (hH2 _ (by (repeat constructor))).tail; clear hH2; refine ⟨STT, ?_⟩; intro a hA))) )
      exact ⟨hH, (hA.sub (by (repeat (first | exact trivial | refine ⟨rfl, ?_⟩))))⟩
  clear hA hH
  rintro a w ⟨hH, hA⟩
  repeat' (first | (first | (refine GT ?_ ?_ <;> intro hg <;> clear hA a <;> intro a hA <;> (first | exact FA | replace hg := of_decide_eq_true hg | replace hg := of_decide_eq_false hg | skip)) | (refine QT ?_; clear hA a; intro a hA) | (first | (refine BT ?_; clear hA hH; rintro _ w ⟨bN, rfl, hH⟩ a hA) | (refine LT ?_; clear hA hH; rintro _ w ⟨oN, rfl, hH⟩ a hA) | (refine AT ?_; clear hA; rintro _ w ⟨oN, cN, rfl, hH2⟩ a hA; clear hH; have hH := (hH2 _ (by (repeat constructor))).tail; clear hH2) | (refine S0T ?_; clear hH; rintro _ w hH) )) | ((first | refine CT ?_ | (refine DT ?_ ?_ <;> intro hc <;> try (exfalso; omega))) <;> repeat' refine CT ?_) | (first | (refine DSK ?_; clear hA a; intro a hA) | (first | (refine DLT ?_; clear hA hH; rintro _ w ⟨oN, rfl, hH⟩; refine ⟨STT, ?_⟩; intro a hA) | (refine DAT ?_; clear hA; rintro _ w ⟨oN, cN, rfl, hH2⟩; clear hH; have hH := (hH2 _ (by (repeat constructor))).tail; clear hH2; refine ⟨STT, ?_⟩; intro a hA))) )
  (refine st_op hA rfl rfl (by decide) (op_call rfl rfl rfl (sroom_f hH)) ?_; clear hA hH; rintro _ w ⟨rfl, hH⟩ a hA)
  rw [aw_room] at hA
  repeat' (first | (first | (refine GT ?_ ?_ <;> intro hg <;> clear hA a <;> intro a hA <;> (first | exact FA | replace hg := of_decide_eq_true hg | replace hg := of_decide_eq_false hg | skip)) | (refine QT ?_; clear hA a; intro a hA) | (first | (refine BT ?_; clear hA hH; rintro _ w ⟨bN, rfl, hH⟩ a hA) | (refine LT ?_; clear hA hH; rintro _ w ⟨oN, rfl, hH⟩ a hA) | (refine AT ?_; clear hA; rintro _ w ⟨oN, cN, rfl, hH2⟩ a hA; clear hH; have hH := (hH2 _ (by (repeat constructor))).tail; clear hH2) | (refine S0T ?_; clear hH; rintro _ w hH) )) | ((first | refine CT ?_ | (refine DT ?_ ?_ <;> intro hc <;> try (exfalso; omega))) <;> repeat' refine CT ?_) | (first | (refine DSK ?_; clear hA a; intro a hA) | (first | (refine DLT ?_; clear hA hH; rintro _ w ⟨oN, rfl, hH⟩; refine ⟨STT, ?_⟩; intro a hA) | (refine DAT ?_; clear hA; rintro _ w ⟨oN, cN, rfl, hH2⟩; clear hH; have hH := (hH2 _ (by (repeat constructor))).tail; clear hH2; refine ⟨STT, ?_⟩; intro a hA))) )
  rw [one_w] at hH
  have hH2 : HS w0 noM [stI bs 9 (awS 4), own 33 1 oN 1 1 (flat encW [2])] w := hH.perm (.swap _ _ _)
  clear hH
  have hH := hH2
  clear hH2
  (refine st_op hA rfl rfl (by decide) (op_call rfl rfl rfl (salloc_f (roots := [2]) (oR := oN) (cR := 1) hH (awS_ok 4) (by have := awS_cy 4; omega) U2 (by decide) (fun Hc w2 h => h.own_rd (List.mem_append_right _ (List.mem_cons_self ..))))) ?_; clear hA hH; rintro _ w ⟨rfl, hH⟩ a hA)
  rw [aw_q5, aw_b.1, aw_b.2] at *
  repeat' (first | (first | (refine GT ?_ ?_ <;> intro hg <;> clear hA a <;> intro a hA <;> (first | exact FA | replace hg := of_decide_eq_true hg | replace hg := of_decide_eq_false hg | skip)) | (refine QT ?_; clear hA a; intro a hA) | (first | (refine BT ?_; clear hA hH; rintro _ w ⟨bN, rfl, hH⟩ a hA) | (refine LT ?_; clear hA hH; rintro _ w ⟨oN, rfl, hH⟩ a hA) | (refine AT ?_; clear hA; rintro _ w ⟨oN, cN, rfl, hH2⟩ a hA; clear hH; have hH := (hH2 _ (by (repeat constructor))).tail; clear hH2) | (refine S0T ?_; clear hH; rintro _ w hH) )) | ((first | refine CT ?_ | (refine DT ?_ ?_ <;> intro hc <;> try (exfalso; omega))) <;> repeat' refine CT ?_) | (first | (refine DSK ?_; clear hA a; intro a hA) | (first | (refine DLT ?_; clear hA hH; rintro _ w ⟨oN, rfl, hH⟩; refine ⟨STT, ?_⟩; intro a hA) | (refine DAT ?_; clear hA; rintro _ w ⟨oN, cN, rfl, hH2⟩; clear hH; have hH := (hH2 _ (by (repeat constructor))).tail; clear hH2; refine ⟨STT, ?_⟩; intro a hA))) )
  replace hH := HS.left (H1 := [_]) hH
  (refine st_op hA rfl rfl (by decide) (op_call rfl rfl rfl (salloc_f (roots := []) (oR := none) (cR := 0) hH aw5_ok (by rw [aw_cy5]; decide) hnil (by decide) rnil)) ?_; clear hA hH; rintro _ w ⟨rfl, hH⟩ a hA)
  rw [aw_q6, aw_g] at *
  repeat' (first | (first | (refine GT ?_ ?_ <;> intro hg <;> clear hA a <;> intro a hA <;> (first | exact FA | replace hg := of_decide_eq_true hg | replace hg := of_decide_eq_false hg | skip)) | (refine QT ?_; clear hA a; intro a hA) | (first | (refine BT ?_; clear hA hH; rintro _ w ⟨bN, rfl, hH⟩ a hA) | (refine LT ?_; clear hA hH; rintro _ w ⟨oN, rfl, hH⟩ a hA) | (refine AT ?_; clear hA; rintro _ w ⟨oN, cN, rfl, hH2⟩ a hA; clear hH; have hH := (hH2 _ (by (repeat constructor))).tail; clear hH2) | (refine S0T ?_; clear hH; rintro _ w hH) )) | ((first | refine CT ?_ | (refine DT ?_ ?_ <;> intro hc <;> try (exfalso; omega))) <;> repeat' refine CT ?_) | (first | (refine DSK ?_; clear hA a; intro a hA) | (first | (refine DLT ?_; clear hA hH; rintro _ w ⟨oN, rfl, hH⟩; refine ⟨STT, ?_⟩; intro a hA) | (refine DAT ?_; clear hA; rintro _ w ⟨oN, cN, rfl, hH2⟩; clear hH; have hH := (hH2 _ (by (repeat constructor))).tail; clear hH2; refine ⟨STT, ?_⟩; intro a hA))) )
  (refine st_op hA rfl rfl (by decide) (op_call rfl rfl rfl (new_st hH)) ?_; clear hA hH; rintro _ w (⟨rfl, h, hH⟩ | ⟨h, bt, rfl, hH⟩) a hA)
  · exact absurd ⟨by decide, by decide⟩ h
  rw [show Int.toNat 20 = 20 from rfl, st0_n] at hH
  repeat' (first | (first | (refine GT ?_ ?_ <;> intro hg <;> clear hA a <;> intro a hA <;> (first | exact FA | replace hg := of_decide_eq_true hg | replace hg := of_decide_eq_false hg | skip)) | (refine QT ?_; clear hA a; intro a hA) | (first | (refine BT ?_; clear hA hH; rintro _ w ⟨bN, rfl, hH⟩ a hA) | (refine LT ?_; clear hA hH; rintro _ w ⟨oN, rfl, hH⟩ a hA) | (refine AT ?_; clear hA; rintro _ w ⟨oN, cN, rfl, hH2⟩ a hA; clear hH; have hH := (hH2 _ (by (repeat constructor))).tail; clear hH2) | (refine S0T ?_; clear hH; rintro _ w hH) )) | ((first | refine CT ?_ | (refine DT ?_ ?_ <;> intro hc <;> try (exfalso; omega))) <;> repeat' refine CT ?_) | (first | (refine DSK ?_; clear hA a; intro a hA) | (first | (refine DLT ?_; clear hA hH; rintro _ w ⟨oN, rfl, hH⟩; refine ⟨STT, ?_⟩; intro a hA) | (refine DAT ?_; clear hA; rintro _ w ⟨oN, cN, rfl, hH2⟩; clear hH; have hH := (hH2 _ (by (repeat constructor))).tail; clear hH2; refine ⟨STT, ?_⟩; intro a hA))) )
  have rn2 : ∀ (Hc : List It) (w' : World), HS w0 noM (Hc ++ [stI bs 9 aw6]) w' → Rd w' none (flat encW []) := fun _ w' _ => rd_nil w'
  (refine st_op hA rfl rfl (by decide) (op_call rfl rfl rfl (stext_f (t := tLit) (roots := []) (oR := none) (cR := 0) hH (st0_ok (by decide)) (by rw [st0_cy]; decide) tLit_len hnil (by decide) rn2)) ?_; clear hA hH; rintro _ w ⟨rfl, hH⟩ a hA)
  rw [awT_q1, awT1_text.1, awT1_text.2] at *
  repeat' (first | (first | (refine GT ?_ ?_ <;> intro hg <;> clear hA a <;> intro a hA <;> (first | exact FA | replace hg := of_decide_eq_true hg | replace hg := of_decide_eq_false hg | skip)) | (refine QT ?_; clear hA a; intro a hA) | (first | (refine BT ?_; clear hA hH; rintro _ w ⟨bN, rfl, hH⟩ a hA) | (refine LT ?_; clear hA hH; rintro _ w ⟨oN, rfl, hH⟩ a hA) | (refine AT ?_; clear hA; rintro _ w ⟨oN, cN, rfl, hH2⟩ a hA; clear hH; have hH := (hH2 _ (by (repeat constructor))).tail; clear hH2) | (refine S0T ?_; clear hH; rintro _ w hH) )) | ((first | refine CT ?_ | (refine DT ?_ ?_ <;> intro hc <;> try (exfalso; omega))) <;> repeat' refine CT ?_) | (first | (refine DSK ?_; clear hA a; intro a hA) | (first | (refine DLT ?_; clear hA hH; rintro _ w ⟨oN, rfl, hH⟩; refine ⟨STT, ?_⟩; intro a hA) | (refine DAT ?_; clear hA; rintro _ w ⟨oN, cN, rfl, hH2⟩; clear hH; have hH := (hH2 _ (by (repeat constructor))).tail; clear hH2; refine ⟨STT, ?_⟩; intro a hA))) )
  (refine st_op hA rfl rfl (by decide) (op_call rfl rfl rfl (sstring_f hH awT1_ok U_two)) ?_; clear hA hH; rintro _ w ⟨rfl, hH⟩ a hA)
  rw [awT1_str] at hA
  dsimp only at hA
  repeat' (first | (first | (refine GT ?_ ?_ <;> intro hg <;> clear hA a <;> intro a hA <;> (first | exact FA | replace hg := of_decide_eq_true hg | replace hg := of_decide_eq_false hg | skip)) | (refine QT ?_; clear hA a; intro a hA) | (first | (refine BT ?_; clear hA hH; rintro _ w ⟨bN, rfl, hH⟩ a hA) | (refine LT ?_; clear hA hH; rintro _ w ⟨oN, rfl, hH⟩ a hA) | (refine AT ?_; clear hA; rintro _ w ⟨oN, cN, rfl, hH2⟩ a hA; clear hH; have hH := (hH2 _ (by (repeat constructor))).tail; clear hH2) | (refine S0T ?_; clear hH; rintro _ w hH) )) | ((first | refine CT ?_ | (refine DT ?_ ?_ <;> intro hc <;> try (exfalso; omega))) <;> repeat' refine CT ?_) | (first | (refine DSK ?_; clear hA a; intro a hA) | (first | (refine DLT ?_; clear hA hH; rintro _ w ⟨oN, rfl, hH⟩; refine ⟨STT, ?_⟩; intro a hA) | (refine DAT ?_; clear hA; rintro _ w ⟨oN, cN, rfl, hH2⟩; clear hH; have hH := (hH2 _ (by (repeat constructor))).tail; clear hH2; refine ⟨STT, ?_⟩; intro a hA))) )
  (refine st_op hA rfl rfl (by decide) (op_call rfl rfl rfl (sset_f hH awT1_ok U_two)) ?_; clear hA hH; rintro _ w ⟨rfl, hH⟩ a hA)
  rw [awT_q2, awT2_1] at *
  repeat' (first | (first | (refine GT ?_ ?_ <;> intro hg <;> clear hA a <;> intro a hA <;> (first | exact FA | replace hg := of_decide_eq_true hg | replace hg := of_decide_eq_false hg | skip)) | (refine QT ?_; clear hA a; intro a hA) | (first | (refine BT ?_; clear hA hH; rintro _ w ⟨bN, rfl, hH⟩ a hA) | (refine LT ?_; clear hA hH; rintro _ w ⟨oN, rfl, hH⟩ a hA) | (refine AT ?_; clear hA; rintro _ w ⟨oN, cN, rfl, hH2⟩ a hA; clear hH; have hH := (hH2 _ (by (repeat constructor))).tail; clear hH2) | (refine S0T ?_; clear hH; rintro _ w hH) )) | ((first | refine CT ?_ | (refine DT ?_ ?_ <;> intro hc <;> try (exfalso; omega))) <;> repeat' refine CT ?_) | (first | (refine DSK ?_; clear hA a; intro a hA) | (first | (refine DLT ?_; clear hA hH; rintro _ w ⟨oN, rfl, hH⟩; refine ⟨STT, ?_⟩; intro a hA) | (refine DAT ?_; clear hA; rintro _ w ⟨oN, cN, rfl, hH2⟩; clear hH; have hH := (hH2 _ (by (repeat constructor))).tail; clear hH2; refine ⟨STT, ?_⟩; intro a hA))) )
  (refine st_op hA rfl rfl (by decide) (op_call rfl rfl rfl (spick_f (roots := []) (oR := none) (cR := 0) hH awT2_ok (by rw [awT1_cy.2.1]; decide) hnil (by decide) rn2)) ?_; clear hA hH; rintro _ w hH a hA)
  rw [awT_q3] at hH
  repeat' (first | (first | (refine GT ?_ ?_ <;> intro hg <;> clear hA a <;> intro a hA <;> (first | exact FA | replace hg := of_decide_eq_true hg | replace hg := of_decide_eq_false hg | skip)) | (refine QT ?_; clear hA a; intro a hA) | (first | (refine BT ?_; clear hA hH; rintro _ w ⟨bN, rfl, hH⟩ a hA) | (refine LT ?_; clear hA hH; rintro _ w ⟨oN, rfl, hH⟩ a hA) | (refine AT ?_; clear hA; rintro _ w ⟨oN, cN, rfl, hH2⟩ a hA; clear hH; have hH := (hH2 _ (by (repeat constructor))).tail; clear hH2) | (refine S0T ?_; clear hH; rintro _ w hH) )) | ((first | refine CT ?_ | (refine DT ?_ ?_ <;> intro hc <;> try (exfalso; omega))) <;> repeat' refine CT ?_) | (first | (refine DSK ?_; clear hA a; intro a hA) | (first | (refine DLT ?_; clear hA hH; rintro _ w ⟨oN, rfl, hH⟩; refine ⟨STT, ?_⟩; intro a hA) | (refine DAT ?_; clear hA; rintro _ w ⟨oN, cN, rfl, hH2⟩; clear hH; have hH := (hH2 _ (by (repeat constructor))).tail; clear hH2; refine ⟨STT, ?_⟩; intro a hA))) )
  (refine st_op hA rfl rfl (by decide) (op_call rfl rfl rfl (ref_spec _ 1 (by decide))) ?_; clear hA; rintro _ w ⟨rfl, hk⟩ a hA; replace hH := hH.keep hk; clear hk)
  repeat' (first | (first | (refine GT ?_ ?_ <;> intro hg <;> clear hA a <;> intro a hA <;> (first | exact FA | replace hg := of_decide_eq_true hg | replace hg := of_decide_eq_false hg | skip)) | (refine QT ?_; clear hA a; intro a hA) | (first | (refine BT ?_; clear hA hH; rintro _ w ⟨bN, rfl, hH⟩ a hA) | (refine LT ?_; clear hA hH; rintro _ w ⟨oN, rfl, hH⟩ a hA) | (refine AT ?_; clear hA; rintro _ w ⟨oN, cN, rfl, hH2⟩ a hA; clear hH; have hH := (hH2 _ (by (repeat constructor))).tail; clear hH2) | (refine S0T ?_; clear hH; rintro _ w hH) )) | ((first | refine CT ?_ | (refine DT ?_ ?_ <;> intro hc <;> try (exfalso; omega))) <;> repeat' refine CT ?_) | (first | (refine DSK ?_; clear hA a; intro a hA) | (first | (refine DLT ?_; clear hA hH; rintro _ w ⟨oN, rfl, hH⟩; refine ⟨STT, ?_⟩; intro a hA) | (refine DAT ?_; clear hA; rintro _ w ⟨oN, cN, rfl, hH2⟩; clear hH; have hH := (hH2 _ (by (repeat constructor))).tail; clear hH2; refine ⟨STT, ?_⟩; intro a hA))) )
  (refine st_op hA rfl rfl (by decide) (op_call rfl rfl rfl (ref_spec _ 3 (by decide))) ?_; clear hA; rintro _ w ⟨rfl, hk⟩ a hA; replace hH := hH.keep hk; clear hk)
  repeat' (first | (first | (refine GT ?_ ?_ <;> intro hg <;> clear hA a <;> intro a hA <;> (first | exact FA | replace hg := of_decide_eq_true hg | replace hg := of_decide_eq_false hg | skip)) | (refine QT ?_; clear hA a; intro a hA) | (first | (refine BT ?_; clear hA hH; rintro _ w ⟨bN, rfl, hH⟩ a hA) | (refine LT ?_; clear hA hH; rintro _ w ⟨oN, rfl, hH⟩ a hA) | (refine AT ?_; clear hA; rintro _ w ⟨oN, cN, rfl, hH2⟩ a hA; clear hH; have hH := (hH2 _ (by (repeat constructor))).tail; clear hH2) | (refine S0T ?_; clear hH; rintro _ w hH) )) | ((first | refine CT ?_ | (refine DT ?_ ?_ <;> intro hc <;> try (exfalso; omega))) <;> repeat' refine CT ?_) | (first | (refine DSK ?_; clear hA a; intro a hA) | (first | (refine DLT ?_; clear hA hH; rintro _ w ⟨oN, rfl, hH⟩; refine ⟨STT, ?_⟩; intro a hA) | (refine DAT ?_; clear hA; rintro _ w ⟨oN, cN, rfl, hH2⟩; clear hH; have hH := (hH2 _ (by (repeat constructor))).tail; clear hH2; refine ⟨STT, ?_⟩; intro a hA))) )
  replace hH := hH.perm (.swap _ _ _)
  (refine st_op hA rfl rfl (by decide) (op_call rfl rfl rfl (scycles_f hH)) ?_; clear hA hH; rintro _ w ⟨rfl, hH⟩ a hA)
  rw [aw_cy] at hA
  repeat' (first | (first | (refine GT ?_ ?_ <;> intro hg <;> clear hA a <;> intro a hA <;> (first | exact FA | replace hg := of_decide_eq_true hg | replace hg := of_decide_eq_false hg | skip)) | ((first | apply st_ex hA hH rfl rfl (by decide) | apply dr_ex hA rfl rfl rfl (by decide) | apply dr_exp hA rfl rfl rfl (by decide) | apply dr_ex3 hA hH rfl rfl rfl (by decide)); (first | (apply ex_eqlSs; rfl; rfl)); clear hA a; intro a hA) | (refine QT ?_; clear hA a; intro a hA) | (first | (refine BT ?_; clear hA hH; rintro _ w ⟨bN, rfl, hH⟩ a hA) | (refine LT ?_; clear hA hH; rintro _ w ⟨oN, rfl, hH⟩ a hA) | (refine AT ?_; clear hA; rintro _ w ⟨oN, cN, rfl, hH2⟩ a hA; clear hH; have hH := (hH2 _ (by (repeat constructor))).tail; clear hH2) | (refine S0T ?_; clear hH; rintro _ w hH) )) | ((first | refine CT ?_ | (refine DT ?_ ?_ <;> intro hc <;> try (exfalso; omega))) <;> repeat' refine CT ?_) | (first | (refine DSK ?_; clear hA a; intro a hA) | (first | (refine DLT ?_; clear hA hH; rintro _ w ⟨oN, rfl, hH⟩; refine ⟨STT, ?_⟩; intro a hA) | (refine DAT ?_; clear hA; rintro _ w ⟨oN, cN, rfl, hH2⟩; clear hH; have hH := (hH2 _ (by (repeat constructor))).tail; clear hH2; refine ⟨STT, ?_⟩; intro a hA))) )
  replace hH := hH.perm (.swap _ _ _)
  (refine st_op hA rfl rfl (by decide) (op_call rfl rfl rfl (skind_f hH awT3_ok U_two)) ?_; clear hA hH; rintro _ w ⟨rfl, hH⟩ a hA)
  rw [awT3_k.1] at hA
  repeat' (first | (first | (refine GT ?_ ?_ <;> intro hg <;> clear hA a <;> intro a hA <;> (first | exact FA | replace hg := of_decide_eq_true hg | replace hg := of_decide_eq_false hg | skip)) | (refine QT ?_; clear hA a; intro a hA) | (first | (refine BT ?_; clear hA hH; rintro _ w ⟨bN, rfl, hH⟩ a hA) | (refine LT ?_; clear hA hH; rintro _ w ⟨oN, rfl, hH⟩ a hA) | (refine AT ?_; clear hA; rintro _ w ⟨oN, cN, rfl, hH2⟩ a hA; clear hH; have hH := (hH2 _ (by (repeat constructor))).tail; clear hH2) | (refine S0T ?_; clear hH; rintro _ w hH) )) | ((first | refine CT ?_ | (refine DT ?_ ?_ <;> intro hc <;> try (exfalso; omega))) <;> repeat' refine CT ?_) | (first | (refine DSK ?_; clear hA a; intro a hA) | (first | (refine DLT ?_; clear hA hH; rintro _ w ⟨oN, rfl, hH⟩; refine ⟨STT, ?_⟩; intro a hA) | (refine DAT ?_; clear hA; rintro _ w ⟨oN, cN, rfl, hH2⟩; clear hH; have hH := (hH2 _ (by (repeat constructor))).tail; clear hH2; refine ⟨STT, ?_⟩; intro a hA))) )
  (refine st_op hA rfl rfl (by decide) (op_call rfl rfl rfl (ssize_f hH awT3_ok U_two)) ?_; clear hA hH; rintro _ w ⟨rfl, hH⟩ a hA)
  rw [awT3_k.2] at hA
  repeat' (first | (first | (refine GT ?_ ?_ <;> intro hg <;> clear hA a <;> intro a hA <;> (first | exact FA | replace hg := of_decide_eq_true hg | replace hg := of_decide_eq_false hg | skip)) | (refine QT ?_; clear hA a; intro a hA) | (first | (refine BT ?_; clear hA hH; rintro _ w ⟨bN, rfl, hH⟩ a hA) | (refine LT ?_; clear hA hH; rintro _ w ⟨oN, rfl, hH⟩ a hA) | (refine AT ?_; clear hA; rintro _ w ⟨oN, cN, rfl, hH2⟩ a hA; clear hH; have hH := (hH2 _ (by (repeat constructor))).tail; clear hH2) | (refine S0T ?_; clear hH; rintro _ w hH) )) | ((first | refine CT ?_ | (refine DT ?_ ?_ <;> intro hc <;> try (exfalso; omega))) <;> repeat' refine CT ?_) | (first | (refine DSK ?_; clear hA a; intro a hA) | (first | (refine DLT ?_; clear hA hH; rintro _ w ⟨oN, rfl, hH⟩; refine ⟨STT, ?_⟩; intro a hA) | (refine DAT ?_; clear hA; rintro _ w ⟨oN, cN, rfl, hH2⟩; clear hH; have hH := (hH2 _ (by (repeat constructor))).tail; clear hH2; refine ⟨STT, ?_⟩; intro a hA))) )
  (refine st_op hA rfl rfl (by decide) (op_call rfl rfl rfl (scycles_f hH)) ?_; clear hA hH; rintro _ w ⟨rfl, hH⟩ a hA)
  rw [awT1_cy.2.2] at hA
  repeat' (first | (first | (refine GT ?_ ?_ <;> intro hg <;> clear hA a <;> intro a hA <;> (first | exact FA | replace hg := of_decide_eq_true hg | replace hg := of_decide_eq_false hg | skip)) | (refine QT ?_; clear hA a; intro a hA) | (first | (refine BT ?_; clear hA hH; rintro _ w ⟨bN, rfl, hH⟩ a hA) | (refine LT ?_; clear hA hH; rintro _ w ⟨oN, rfl, hH⟩ a hA) | (refine AT ?_; clear hA; rintro _ w ⟨oN, cN, rfl, hH2⟩ a hA; clear hH; have hH := (hH2 _ (by (repeat constructor))).tail; clear hH2) | (refine S0T ?_; clear hH; rintro _ w hH) )) | ((first | refine CT ?_ | (refine DT ?_ ?_ <;> intro hc <;> try (exfalso; omega))) <;> repeat' refine CT ?_) | (first | (refine DSK ?_; clear hA a; intro a hA) | (first | (refine DLT ?_; clear hA hH; rintro _ w ⟨oN, rfl, hH⟩; refine ⟨STT, ?_⟩; intro a hA) | (refine DAT ?_; clear hA; rintro _ w ⟨oN, cN, rfl, hH2⟩; clear hH; have hH := (hH2 _ (by (repeat constructor))).tail; clear hH2; refine ⟨STT, ?_⟩; intro a hA))) )
  exact rt1 (.inl rfl) rfl hA rfl ⟨rfl, hH.kp⟩
end Go.Proofs.Ytdfhajdejlhamaa
namespace Go.Proofs.Ytdfhajdejlhamaa
open Go Go.Fw
set_option linter.unusedVariables false
theorem mu_le (N : Nat) (s : GS) : mu N s ≤ 2 * N + 2 := by
  have h1 : nb N s ≤ N := by
    have := List.countP_le_length (p := fun a => !decide (col s a = 2)) (l := List.range N)
    rw [List.length_range] at this
    exact this
  unfold mu
  split
  · omega
  · split <;> omega
end Go.Proofs.Ytdfhajdejlhamaa
