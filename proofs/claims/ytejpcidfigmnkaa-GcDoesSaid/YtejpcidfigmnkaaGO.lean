/-
  The walks over a collector's calls: Begin, Step, Finish, Alloc, Write, New. Conditions: none.
-/
import Derived.Test.YtejpcidfigmnkaaGM
import Derived.Test.YtejpcidfigmnkaaGE
namespace Go.Proofs.Ytejpcidfigmnkaa
open Go Go.Fw
set_option linter.unusedVariables false
section
variable {w0 : World} {M : Nat → Prop} {H : List It} {bg b N : Nat} {s : GS}
theorem cl_gh (hm : gcI bg b N s ∈ H) : Cl (HS w0 M H) (bat bg 0) (.pointer (some (bat b 0))) := fun w hH => let ⟨_, hq⟩ := gc_readM hH hm; hq.c0
theorem cl_gp (hm : gcI bg b N s ∈ H) : Cl (HS w0 M H) (bat bg 1) (.int .i64 s.ph) := fun w hH => let ⟨_, hq⟩ := gc_readM hH hm; hq.c1
theorem cl_gl (hm : gcI bg b N s ∈ H) : Cl (HS w0 M H) (bat bg 4) (.int .i64 s.pl) := fun w hH => let ⟨_, hq⟩ := gc_readM hH hm; hq.c4
end
theorem cl_rdH {w0 : World} {M : Nat → Prop} {H : List It} {o : Option Addr} {xs : List Value} {j : Nat} {u : Value} (hrd : ∀ H' w', HS w0 M H' w' → Rd w' o xs) (hj : xs[j]? = some u) : Cl (HS w0 M H) (sat o j) u := fun w hH => (hrd _ _ hH).2 j u hj
theorem begin_L {N : Nat} {s : GS} (h : GOk N s) (roots : List Int) : (beginG s roots).2.L = s.L := by
  unfold beginG
  split
  · rename_i h0
    exact (shades_ok (s := { s with ph := 1 }) rfl (begin_pre h h0) roots).2.1
  · rfl
set_option maxRecDepth 10000 attribute [local irreducible] Code.wp wpList Calls Ex Op1 sat bat blk cb own Go.Fw.mp Go.Fw.mpO Go.Fw.mpI Go.Fw.mpE Go.Fw.itr HS Rd Ret wkD Hp Cl Cls Exit.then Exit.inBlock Exit.noGoto bodyPost Go.Fw.flat wk2 Go.Fw.all Go.Fw.owns wpOp
attribute [local irreducible] hdA gaps isA nextA allocA freeA sizeA kindA setA getA whiteZ numW addrW shadeG gcI hpI

set_option maxHeartbeats 4000000 in
theorem gbegin_spec (w0 : World) (M : Nat → Prop) (bg b N : Nat) (s : GS) (roots : List Int) (oR : Option Addr) (cR : Nat) (hok : GOk N s) (hU : ∀ x ∈ roots, U x) (hl : roots.length ≤ 140737488355328) (hrd : ∀ H' w', HS w0 M H' w' → Rd w' oR (flat encW roots)) (hH : HS w0 M [gcI bg b N s, hpI b N s.L] w0) :
    Ret Try.prog 16 #[.pointer (some (bat bg 0)), .slice oR roots.length cR] w0 (fun v w => v = .int .i64 (beginG s roots).1 ∧ HS w0 M [gcI bg b N (beginG s roots).2, hpI b N s.L] w) := by
  have hspR : Sp oR roots.length := (hrd _ _ hH).sp (sz := 1) (flat_length encW_len _) (by omega)
  (refine enter (N := 25) Try.func16 rfl Try.ntmps16 rfl ?_; intro a hA; dsimp only [sl0, Nat.reduceAdd] at hA)
  by_cases hp : s.ph = 0
  rotate_left
  · have e : beginG s roots = (9, s) := if_neg hp
    rw [e]
    repeat' (first | (first | (refine GT ?_ ?_ <;> intro hg <;> clear hA a <;> intro a hA <;> (first | exact FA | replace hg := of_decide_eq_true hg | replace hg := of_decide_eq_false hg | skip)) | ((first | apply st_ex hA hH rfl rfl (by decide) | apply dr_ex hA rfl rfl rfl (by decide) | apply dr_exp hA rfl rfl rfl (by decide) | apply dr_ex3 hA hH rfl rfl rfl (by decide)); (first | (apply ex_load; rfl; exact cl_gp MEMT)); clear hA a; intro a hA) | (refine QT ?_; clear hA a; intro a hA) | (first | (refine BT ?_; clear hA hH; rintro _ w ⟨bN, rfl, hH⟩ a hA) | (refine LT ?_; clear hA hH; rintro _ w ⟨oN, rfl, hH⟩ a hA) | (refine AT ?_; clear hA; rintro _ w ⟨oN, cN, rfl, hH2⟩ a hA; clear hH; have hH := (hH2 _ (by (repeat constructor))).tail; clear hH2) | (refine S0T ?_; clear hH; rintro _ w hH) )) | ((first | refine CT ?_ | (refine DT ?_ ?_ <;> intro hc <;> try (exfalso; omega))) <;> repeat' refine CT ?_) | (first | (refine DSK ?_; clear hA a; intro a hA) | (first | (refine DLT ?_; clear hA hH; rintro _ w ⟨oN, rfl, hH⟩; refine ⟨STT, ?_⟩; intro a hA) | (refine DAT ?_; clear hA; rintro _ w ⟨oN, cN, rfl, hH2⟩; clear hH; have hH := (hH2 _ (by (repeat constructor))).tail; clear hH2; refine ⟨STT, ?_⟩; intro a hA))) )
    exact rt1 (.inl rfl) rfl hA rfl ⟨rfl, hH⟩
  have e : beginG s roots = (0, roots.foldl shadeG { s with ph := 1 }) := if_pos hp
  rw [e]
  have hok1 := begin_pre hok hp
  repeat' (first | (first | (refine GT ?_ ?_ <;> intro hg <;> clear hA a <;> intro a hA <;> (first | exact FA | replace hg := of_decide_eq_true hg | replace hg := of_decide_eq_false hg | skip)) | ((first | apply st_ex hA hH rfl rfl (by decide) | apply dr_ex hA rfl rfl rfl (by decide) | apply dr_exp hA rfl rfl rfl (by decide) | apply dr_ex3 hA hH rfl rfl rfl (by decide)); (first | (apply ex_load; rfl; exact cl_gp MEMT)); clear hA a; intro a hA) | (refine QT ?_; clear hA a; intro a hA) | (first | (refine BT ?_; clear hA hH; rintro _ w ⟨bN, rfl, hH⟩ a hA) | (refine LT ?_; clear hA hH; rintro _ w ⟨oN, rfl, hH⟩ a hA) | (refine AT ?_; clear hA; rintro _ w ⟨oN, cN, rfl, hH2⟩ a hA; clear hH; have hH := (hH2 _ (by (repeat constructor))).tail; clear hH2) | (refine S0T ?_; clear hH; rintro _ w hH) )) | ((first | refine CT ?_ | (refine DT ?_ ?_ <;> intro hc <;> try (exfalso; omega))) <;> repeat' refine CT ?_) | (first | (refine DSK ?_; clear hA a; intro a hA) | (first | (refine DLT ?_; clear hA hH; rintro _ w ⟨oN, rfl, hH⟩; refine ⟨STT, ?_⟩; intro a hA) | (refine DAT ?_; clear hA; rintro _ w ⟨oN, cN, rfl, hH2⟩; clear hH; have hH := (hH2 _ (by (repeat constructor))).tail; clear hH2; refine ⟨STT, ?_⟩; intro a hA))) )
  obtain ⟨q, hH2⟩ := gc_open hH
  clear hH
  have hH := hH2
  clear hH2
  unfold gcQ at hH
  repeat' (first | (first | (refine GT ?_ ?_ <;> intro hg <;> clear hA a <;> intro a hA <;> (first | exact FA | replace hg := of_decide_eq_true hg | replace hg := of_decide_eq_false hg | skip)) | (refine QT ?_; clear hA a; intro a hA) | (first | (refine BT ?_; clear hA hH; rintro _ w ⟨bN, rfl, hH⟩ a hA) | (refine LT ?_; clear hA hH; rintro _ w ⟨oN, rfl, hH⟩ a hA) | (refine AT ?_; clear hA; rintro _ w ⟨oN, cN, rfl, hH2⟩ a hA; clear hH; have hH := (hH2 _ (by (repeat constructor))).tail; clear hH2) | (refine S0T ?_; clear hH; rintro _ w hH) | (apply st_op0 hA rfl rfl; apply op_store_fld; rfl; rfl; rfl; exact hH; (repeat constructor); (repeat rfl); clear hH; rintro _ w hH))) | ((first | refine CT ?_ | (refine DT ?_ ?_ <;> intro hc <;> try (exfalso; omega))) <;> repeat' refine CT ?_) | (first | (refine DSK ?_; clear hA a; intro a hA) | (first | (refine DLT ?_; clear hA hH; rintro _ w ⟨oN, rfl, hH⟩; refine ⟨STT, ?_⟩; intro a hA) | (refine DAT ?_; clear hA; rintro _ w ⟨oN, cN, rfl, hH2⟩; clear hH; have hH := (hH2 _ (by (repeat constructor))).tail; clear hH2; refine ⟨STT, ?_⟩; intro a hA))) )
  replace hH : HS w0 M [gcI bg b N { s with ph := 1 }, hpI b N s.L] w := gc_shut q hH
  refine wp_lpj (S := Nat) (fun i a w => i ≤ roots.length ∧ HS w0 M [gcI bg b N ((roots.take i).foldl shadeG { s with ph := 1 }), hpI b N s.L] w ∧ Sl 25 [(0, .pointer (some (bat bg 0))), (15, .slice oR roots.length cR), (16, .int .i64 roots.length), (17, .int .i64 i)] a) (fun i => roots.length - i)
    (fun a w => HS w0 M [gcI bg b N (roots.foldl shadeG { s with ph := 1 }), hpI b N s.L] w ∧ Sl 25 [] a) 0 ⟨Nat.zero_le _, hH, (hA.sub (by (repeat (first | exact trivial | refine ⟨rfl, ?_⟩))))⟩ ?_ ?_
  rotate_left
  · clear hA hH
    rintro a w ⟨hH, hA⟩
    repeat' (first | (first | (refine GT ?_ ?_ <;> intro hg <;> clear hA a <;> intro a hA <;> (first | exact FA | replace hg := of_decide_eq_true hg | replace hg := of_decide_eq_false hg | skip)) | (refine QT ?_; clear hA a; intro a hA) | (first | (refine BT ?_; clear hA hH; rintro _ w ⟨bN, rfl, hH⟩ a hA) | (refine LT ?_; clear hA hH; rintro _ w ⟨oN, rfl, hH⟩ a hA) | (refine AT ?_; clear hA; rintro _ w ⟨oN, cN, rfl, hH2⟩ a hA; clear hH; have hH := (hH2 _ (by (repeat constructor))).tail; clear hH2) | (refine S0T ?_; clear hH; rintro _ w hH) )) | ((first | refine CT ?_ | (refine DT ?_ ?_ <;> intro hc <;> try (exfalso; omega))) <;> repeat' refine CT ?_) | (first | (refine DSK ?_; clear hA a; intro a hA) | (first | (refine DLT ?_; clear hA hH; rintro _ w ⟨oN, rfl, hH⟩; refine ⟨STT, ?_⟩; intro a hA) | (refine DAT ?_; clear hA; rintro _ w ⟨oN, cN, rfl, hH2⟩; clear hH; have hH := (hH2 _ (by (repeat constructor))).tail; clear hH2; refine ⟨STT, ?_⟩; intro a hA))) )
    exact rt1 (.inl rfl) rfl hA rfl ⟨rfl, hH⟩
  clear hA hH
  rintro i a w ⟨hi, hH, hA⟩
  by_cases hlt : i < roots.length
  rotate_left
  · rw [List.take_of_length_le (by omega)] at hH
    repeat' (first | (first | (refine GT ?_ ?_ <;> intro hg <;> clear hA a <;> intro a hA <;> (first | exact FA | replace hg := of_decide_eq_true hg | replace hg := of_decide_eq_false hg | skip)) | (refine QT ?_; clear hA a; intro a hA) | (first | (refine BT ?_; clear hA hH; rintro _ w ⟨bN, rfl, hH⟩ a hA) | (refine LT ?_; clear hA hH; rintro _ w ⟨oN, rfl, hH⟩ a hA) | (refine AT ?_; clear hA; rintro _ w ⟨oN, cN, rfl, hH2⟩ a hA; clear hH; have hH := (hH2 _ (by (repeat constructor))).tail; clear hH2) | (refine S0T ?_; clear hH; rintro _ w hH) )) | ((first | refine CT ?_ | (refine DT ?_ ?_ <;> intro hc <;> try (exfalso; omega))) <;> repeat' refine CT ?_) | (first | (refine DSK ?_; clear hA a; intro a hA) | (first | (refine DLT ?_; clear hA hH; rintro _ w ⟨oN, rfl, hH⟩; refine ⟨STT, ?_⟩; intro a hA) | (refine DAT ?_; clear hA; rintro _ w ⟨oN, cN, rfl, hH2⟩; clear hH; have hH := (hH2 _ (by (repeat constructor))).tail; clear hH2; refine ⟨STT, ?_⟩; intro a hA))) )
    exact ⟨hH, (hA.sub (by (repeat (first | exact trivial | refine ⟨rfl, ?_⟩))))⟩
  obtain ⟨x, hx⟩ : ∃ x, roots[i]? = some x := ⟨_, List.getElem?_eq_getElem hlt⟩
  have hcx : (flat encW roots)[i * 1]? = some (.int .u64 x) := flat_get0 encW_len hx rfl
  obtain ⟨g1, g2, g3, g4, g5⟩ := shades_ok (s := { s with ph := 1 }) rfl hok1 (roots.take i)
  have hst : (roots.take (i + 1)).foldl shadeG { s with ph := 1 } = shadeG ((roots.take i).foldl shadeG { s with ph := 1 }) x := by
    rw [List.take_add_one, hx]
    simp
  have hclx : Cl (HS w0 M [gcI bg b N ((roots.take i).foldl shadeG { s with ph := 1 }), hpI b N s.L]) (sat oR (i * 1)) (.int .u64 x) := cl_rdH hrd hcx
  repeat' (first | (first | (refine GT ?_ ?_ <;> intro hg <;> clear hA a <;> intro a hA <;> (first | exact FA | replace hg := of_decide_eq_true hg | replace hg := of_decide_eq_false hg | skip)) | ((first | apply st_ex hA hH rfl rfl (by decide) | apply dr_ex hA rfl rfl rfl (by decide) | apply dr_exp hA rfl rfl rfl (by decide) | apply dr_ex3 hA hH rfl rfl rfl (by decide)); (first | (apply ex_load; rfl; exact hclx)); clear hA a; intro a hA) | (refine QT ?_; clear hA a; intro a hA) | (first | (refine BT ?_; clear hA hH; rintro _ w ⟨bN, rfl, hH⟩ a hA) | (refine LT ?_; clear hA hH; rintro _ w ⟨oN, rfl, hH⟩ a hA) | (refine AT ?_; clear hA; rintro _ w ⟨oN, cN, rfl, hH2⟩ a hA; clear hH; have hH := (hH2 _ (by (repeat constructor))).tail; clear hH2) | (refine S0T ?_; clear hH; rintro _ w hH) )) | ((first | refine CT ?_ | (refine DT ?_ ?_ <;> intro hc <;> try (exfalso; omega))) <;> repeat' refine CT ?_) | (first | (refine DSK ?_; clear hA a; intro a hA) | (first | (refine DLT ?_; clear hA hH; rintro _ w ⟨oN, rfl, hH⟩; refine ⟨STT, ?_⟩; intro a hA) | (refine DAT ?_; clear hA; rintro _ w ⟨oN, cN, rfl, hH2⟩; clear hH; have hH := (hH2 _ (by (repeat constructor))).tail; clear hH2; refine ⟨STT, ?_⟩; intro a hA))) )
  (refine st_op hA rfl rfl (by decide) (op_call rfl rfl rfl (gshade_f hH g1 g3 (hU x (List.mem_of_getElem? hx)) g2)) ?_; clear hA hH; rintro _ w hH a hA)
  rw [← hst] at hH
  repeat' (first | (first | (refine GT ?_ ?_ <;> intro hg <;> clear hA a <;> intro a hA <;> (first | exact FA | replace hg := of_decide_eq_true hg | replace hg := of_decide_eq_false hg | skip)) | (refine QT ?_; clear hA a; intro a hA) | (first | (refine BT ?_; clear hA hH; rintro _ w ⟨bN, rfl, hH⟩ a hA) | (refine LT ?_; clear hA hH; rintro _ w ⟨oN, rfl, hH⟩ a hA) | (refine AT ?_; clear hA; rintro _ w ⟨oN, cN, rfl, hH2⟩ a hA; clear hH; have hH := (hH2 _ (by (repeat constructor))).tail; clear hH2) | (refine S0T ?_; clear hH; rintro _ w hH) )) | ((first | refine CT ?_ | (refine DT ?_ ?_ <;> intro hc <;> try (exfalso; omega))) <;> repeat' refine CT ?_) | (first | (refine DSK ?_; clear hA a; intro a hA) | (first | (refine DLT ?_; clear hA hH; rintro _ w ⟨oN, rfl, hH⟩; refine ⟨STT, ?_⟩; intro a hA) | (refine DAT ?_; clear hA; rintro _ w ⟨oN, cN, rfl, hH2⟩; clear hH; have hH := (hH2 _ (by (repeat constructor))).tail; clear hH2; refine ⟨STT, ?_⟩; intro a hA))) )
  exact ⟨i + 1, ⟨hlt, hH, (hA.sub (by (repeat (first | exact trivial | refine ⟨rfl, ?_⟩))))⟩, by omega⟩
theorem gbegin_f {w0 w : World} {M : Nat → Prop} {H : List It} {bg b N : Nat} {s : GS} {L : List Ob} {roots : List Int} {oR : Option Addr} {cR : Nat} (hH : HS w0 M (gcI bg b N s :: hpI b N L :: H) w) (hok : GOk N s) (hU : ∀ x ∈ roots, U x) (hl : roots.length ≤ 140737488355328) (hrd : ∀ Hc w', HS w0 M (Hc ++ H) w' → Rd w' oR (flat encW roots)) (hL : s.L = L) :
    Ret Try.prog 16 #[.pointer (some (bat bg 0)), .slice oR roots.length cR] w (fun v w' => v = .int .i64 (beginG s roots).1 ∧ HS w0 M (gcI bg b N (beginG s roots).2 :: hpI b N (beginG s roots).2.L :: H) w') := by
  subst hL
  rw [begin_L hok]
  obtain ⟨Mc, h1, -, h2⟩ := HS.frame (Hc := [gcI bg b N s, hpI b N s.L]) (Hf := H) hH
  exact (gbegin_spec w Mc bg b N s roots oR cR hok hU hl (fun H' w' hw => hrd _ _ (h2 _ _ hw)) h1).mono fun v w' ⟨h3, h4⟩ => ⟨h3, h2 _ _ h4⟩
end Go.Proofs.Ytejpcidfigmnkaa
