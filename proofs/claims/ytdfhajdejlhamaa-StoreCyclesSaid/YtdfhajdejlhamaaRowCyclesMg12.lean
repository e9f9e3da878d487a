/-
  The walks over awake and StoreTexts. Conditions: none.
  The walk over GcSteps. Conditions: none.
  The walks over what the document's collector and the laws look up: in, has, Reaches, Closure. Conditions: none.
  A cycle's outcome: what is reached stays, and nothing else (plain law); registers; the walk over reg. Conditions: none.
  What the store's laws are handed: rows of steps, read. Conditions: none.
-/
import Derived.Test.YtdfhajdejlhamaaRowCyclesMg11
import Derived.Test.YtdfhajdejlhamaaRowCyclesMg9
import Derived.Test.YtdfhajdejlhamaaRows
import Derived.ChangeSlices
import Derived.WideShapes
namespace Go.Proofs.Ytdfhajdejlhamaa
open Go Go.Fw
set_option linter.unusedVariables false
/-- a store that is new -/
def st0 (N : Nat) : SS := ⟨⟨0, [], List.replicate N 0, [], 0⟩, 0⟩
theorem st0_ok {N : Nat} (h : 2 ≤ N ∧ N ≤ 65536) : GOk N (st0 N).s := by
  have hc : ∀ a, col (st0 N).s a = 0 := fun a => by
    unfold col st0
    rw [List.getD_eq_getElem?_getD, List.getElem?_replicate]
    split <;> rfl
  exact ⟨h, show 1 ≤ N by omega, fun o ho => absurd ho (List.not_mem_nil), fun o ho => absurd ho (List.not_mem_nil), Nat.zero_le _, List.length_replicate, fun a => by rw [hc]; omega, .nil, fun a => ⟨fun h => absurd h (List.not_mem_nil), fun h => by rw [hc] at h; cases h⟩, fun a ha => absurd (hc a) ha, fun _ => hc, fun h => by cases h⟩
def awS : Nat → SS
  | 0 => st0 9
  | i + 1 => (allocS 9 (awS i) 5 1 []).2.2
theorem awS_ok : ∀ i, GOk 9 (awS i).s
  | 0 => st0_ok (by decide)
  | i + 1 => allocS_ok (awS_ok i) 5 1 []
theorem awS_cy : ∀ i, (awS i).cy ≤ 2 * i
  | 0 => Nat.le_refl _
  | i + 1 => by
    have h1 := awS_cy i
    have h2 := allocS_cy (N := 9) (g := awS i) (k := 5) (z := 1) (roots := [])
    show (allocS 9 (awS i) 5 1 []).2.2.cy ≤ _
    omega
theorem aw_next (i : Nat) : (allocS 9 (awS i) 5 1 []).2.2 = awS (i + 1) := rfl
theorem aw_first : (allocS 9 (awS 0) 5 1 []).1 = 2 ∧ (allocS 9 (awS 0) 5 1 []).2.1 = 0 := ⟨by kernel_rfl, by kernel_rfl⟩
theorem aw_room : roomA (gaps 9 1 (awS 4).s.L) = 0 := by kernel_rfl
def aw5 : SS := (allocS 9 (awS 4) 5 2 [2]).2.2
def aw6 : SS := (allocS 9 aw5 6 9 []).2.2
theorem aw_b : (allocS 9 (awS 4) 5 2 [2]).1 = 6 ∧ (allocS 9 (awS 4) 5 2 [2]).2.1 = 0 := ⟨by kernel_rfl, by kernel_rfl⟩
theorem aw_g : (allocS 9 aw5 6 9 []).2.1 = 6 := by kernel_rfl
theorem aw_cy : aw6.cy = 2 := by kernel_rfl
theorem aw_cy5 : aw5.cy = 1 := by kernel_rfl
theorem aw_q5 : (allocS 9 (awS 4) 5 2 [2]).2.2 = aw5 := rfl
theorem aw_q6 : (allocS 9 aw5 6 9 []).2.2 = aw6 := rfl
theorem st0_L (N : Nat) : (st0 N).s.L = [] := rfl
theorem st0_ph (N : Nat) : (st0 N).s.ph = 0 := rfl
theorem st0_cy (N : Nat) : (st0 N).cy = 0 := rfl
theorem st0_n (N : Nat) : (⟨⟨0, [], List.replicate N 0, [], 0⟩, 0⟩ : SS) = st0 N := rfl
theorem one_w (x : Int) : ([.int .u64 x] : List Value) = flat encW [x] := rfl
theorem aw_0 : st0 9 = awS 0 := rfl
theorem aw5_ok : GOk 9 aw5.s := allocS_ok (awS_ok 4) 5 2 [2]
theorem aw6_ok : GOk 9 aw6.s := allocS_ok aw5_ok 6 9 []
theorem ex_eqlSs {P : Program} {N : Nat} {l : List (Nat × Value)} {C : World → Prop} {d : Option Tmp} {T : TypeId} {pos : String} {af : Array Edge} {gd : Option (Nat × Bool)} {t ty : TypeId} {x y : Operand} {m : ByteArray} [h : TSr P t] (hx : ev l x = some (.string m)) (hy : ev l y = some (.string m)) : Ex P N l C ⟨d, .binOp .eql t x y ty, T, pos, af, gd⟩ (.bool true) := by
  have := ex_eqlS (N := N) (C := C) (d := d) (T := T) (pos := pos) (af := af) (g := gd) (ty := ty) (h := h) hx hy
  rwa [beq_self_eq_true] at this
def tLit : ByteArray := ⟨#[97, 98, 99, 100, 101, 102, 103, 104, 105]⟩
def awT1 : SS := (textS 20 (st0 20) (bts tLit) []).2.2
def awT2 : SS := (writeS awT1 (atA awT1.s.L 2 : Nat) 0 3).2
def awT3 : SS := pickS awT2 []
theorem awT1_text : (textS 20 (st0 20) (bts tLit) []).1 = 2 ∧ (textS 20 (st0 20) (bts tLit) []).2.1 = 0 := ⟨by kernel_rfl, by kernel_rfl⟩
theorem awT1_L : awT1.s.L = [⟨1, 1, txt (bts tLit)⟩] := by kernel_rfl
theorem awT1_cy : awT1.cy = 0 ∧ awT2.cy = 0 ∧ awT3.cy = 0 := ⟨by kernel_rfl, by kernel_rfl, by kernel_rfl⟩
theorem awT1_ok : GOk 20 awT1.s := setF_ok (allocS_ok (st0_ok (by decide)) 1 _ []) (txt_U (bts_lt tLit) (by decide))
theorem awT1_str : strS awT1.s.L 2 = (tLit, 0) := strS_txt (o := ⟨1, 1, txt (bts tLit)⟩) awT1_ok.lay (by rw [awT1_L]; exact List.mem_cons_self ..) rfl rfl (by decide) (by decide) (by decide)
theorem awT2_ok : GOk 20 awT2.s := (write_ok awT1_ok _ _ ⟨by decide, by decide⟩).1
theorem awT2_1 : (writeS awT1 (atA awT1.s.L 2 : Nat) 0 3).1 = 0 := by kernel_rfl
theorem awT3_ok : GOk 20 awT3.s := pickS_ok awT2_ok []
theorem awT3_k : (kindA awT3.s.L (atA awT3.s.L 2 : Nat)).1 = 1 ∧ (sizeA awT3.s.L (atA awT3.s.L 2 : Nat)).1 = 3 := ⟨by kernel_rfl, by kernel_rfl⟩
theorem awT_q1 : (textS 20 (st0 20) (bts tLit) []).2.2 = awT1 := rfl
theorem awT_q2 : (writeS awT1 (atA awT1.s.L 2 : Nat) 0 3).2 = awT2 := rfl
theorem awT_q3 : pickS awT2 [] = awT3 := rfl
theorem tLit_len : (bts tLit).length ≤ 9223372036854775807 := by decide
theorem U_two : U 2 := ⟨by decide, by decide⟩
section
variable {w0 w : World} {M : Nat → Prop} {H : List It} {bs N : Nat} {g : SS}
theorem stext_f {t : ByteArray} {roots : List Int} {oR : Option Addr} {cR : Nat} (hH : HS w0 M (stI bs N g :: H) w) (hok : GOk N g.s) (hcy : g.cy ≤ 1000000) (ht : (bts t).length ≤ 9223372036854775807) (hU : ∀ x ∈ roots, U x) (hl : roots.length ≤ 140737488355328) (hrd : ∀ Hc w', HS w0 M (Hc ++ H) w' → Rd w' oR (flat encW roots)) :
    Ret Try.prog 20 #[.pointer (some (bat bs 0)), .string t, .slice oR roots.length cR] w (fun v w' => v = .tuple #[.int .u64 (textS N g (bts t) roots).1, .int .i64 (textS N g (bts t) roots).2.1] ∧ HS w0 M (stI bs N (textS N g (bts t) roots).2.2 :: H) w') := by
  obtain ⟨Mc, h1, -, h2⟩ := HS.frame (Hc := [stI bs N g]) (Hf := H) hH
  exact (stext_spec w Mc bs N g t roots oR cR hok hcy ht hU hl (fun H' w' hw => hrd _ _ (h2 _ _ hw)) h1).mono fun v w' ⟨h3, h4⟩ => ⟨h3, h2 _ _ h4⟩
theorem sstring_f {x : Int} (hH : HS w0 M (stI bs N g :: H) w) (hok : GOk N g.s) (hU : U x) :
    Ret Try.prog 25 #[.pointer (some (bat bs 0)), .int .u64 x] w (fun v w' => v = .tuple #[.string (strS g.s.L x).1, .int .i64 (strS g.s.L x).2] ∧ HS w0 M (stI bs N g :: H) w') := by
  obtain ⟨Mc, h1, -, h2⟩ := HS.frame (Hc := [stI bs N g]) (Hf := H) hH
  exact (sstring_spec w Mc bs N g x hok hU h1).mono fun v w' ⟨h3, h4⟩ => ⟨h3, h2 _ _ h4⟩
theorem scycles_f (hH : HS w0 M (stI bs N g :: H) w) :
    Ret Try.prog 29 #[.pointer (some (bat bs 0))] w (fun v w' => v = .int .i64 (g.cy : Nat) ∧ HS w0 M (stI bs N g :: H) w') := by
  obtain ⟨Mc, h1, -, h2⟩ := HS.frame (Hc := [stI bs N g]) (Hf := H) hH
  exact (scycles_spec w Mc bs N g h1).mono fun v w' ⟨h3, h4⟩ => ⟨h3, h2 _ _ h4⟩
theorem sroom_f (hH : HS w0 M (stI bs N g :: H) w) :
    Ret Try.prog 27 #[.pointer (some (bat bs 0))] w (fun v w' => v = .int .i64 (roomA (gaps N 1 g.s.L)) ∧ HS w0 M (stI bs N g :: H) w') := by
  obtain ⟨Mc, h1, -, h2⟩ := HS.frame (Hc := [stI bs N g]) (Hf := H) hH
  exact (sroom_spec w Mc bs N g h1).mono fun v w' ⟨h3, h4⟩ => ⟨h3, h2 _ _ h4⟩
theorem spick_f {roots : List Int} {oR : Option Addr} {cR : Nat} (hH : HS w0 M (stI bs N g :: H) w) (hok : GOk N g.s) (hcy : g.cy ≤ 1000000) (hU : ∀ x ∈ roots, U x) (hl : roots.length ≤ 140737488355328) (hrd : ∀ Hc w', HS w0 M (Hc ++ H) w' → Rd w' oR (flat encW roots)) :
    Ret Try.prog 18 #[.pointer (some (bat bs 0)), .slice oR roots.length cR] w (fun v w' => HS w0 M (stI bs N (pickS g roots) :: H) w') := by
  obtain ⟨Mc, h1, -, h2⟩ := HS.frame (Hc := [stI bs N g]) (Hf := H) hH
  exact (spick_spec w Mc bs N g roots oR cR hok hcy hU hl (fun H' w' hw => hrd _ _ (h2 _ _ hw)) h1).mono fun v w' h4 => h2 _ _ h4
end
set_option maxRecDepth 10000 attribute [local irreducible] Code.wp wpList Calls Ex Op1 sat bat blk cb own Go.Fw.mp Go.Fw.mpO Go.Fw.mpI Go.Fw.mpE Go.Fw.itr HS Rd Ret wkD Hp Cl Cls Exit.then Exit.inBlock Exit.noGoto bodyPost Go.Fw.flat wk2 Go.Fw.all Go.Fw.owns wpOp
attribute [local irreducible] hdA gaps isA nextA allocA freeA sizeA kindA setA getA whiteZ numW addrW shadeG gcI hpI stepG beginG writeG allocG mu atA endS finG allocS setF txt wrd chunk bts orK shlK numV bytS strS textS stI pickS writeS st0 awS aw5 aw6 awT1 awT2 awT3

set_option maxHeartbeats 4000000 in
theorem awake_spec (w0 : World) : Ret Try.prog 8 #[] w0 (fun v w => v = .bool true ∧ Kp w0 noM w) := by
  have hH : HS w0 noM [] w0 := HS.init w0 noM
  (refine enter (N := 127) Try.func8 rfl Try.ntmps8 rfl ?_; intro a hA; dsimp only [sl0, Nat.reduceAdd] at hA)
  repeat' (first | (first | (refine GT ?_ ?_ <;> intro hg <;> clear hA a <;> intro a hA <;> (first | exact FA | replace hg := of_decide_eq_true hg | replace hg := of_decide_eq_false hg | skip)) | (refine QT ?_; clear hA a; intro a hA) | (first | (refine BT ?_; clear hA hH; rintro _ w ⟨bN, rfl, hH⟩ a hA) | (refine LT ?_; clear hA hH; rintro _ w ⟨oN, rfl, hH⟩ a hA) | (refine AT ?_; clear hA; rintro _ w ⟨oN, cN, rfl, hH2⟩ a hA; clear hH; have hH := (hH2 _ (by (repeat constructor))).tail; clear hH2) | (refine S0T ?_; clear hH; rintro _ w hH) )) | ((first | refine CT ?_ | (refine DT ?_ ?_ <;> intro hc <;> try (exfalso; omega))) <;> repeat' refine CT ?_) | (first | (refine DSK ?_; clear hA a; intro a hA) | (first | (refine DLT ?_; clear hA hH; rintro _ w ⟨oN, rfl, hH⟩; refine ⟨STT, ?_⟩; intro a hA) | (refine DAT ?_; clear hA; rintro _ w ⟨oN, cN, rfl, hH2⟩; clear hH; have hH := (hH2 _ (by (repeat constructor))).tail; clear hH2; refine ⟨STT, ?_⟩; intro a hA))) )
  (refine st_op hA rfl rfl (by decide) (op_call rfl rfl rfl (new_st hH)) ?_; clear hA hH; rintro _ w (⟨rfl, h, hH⟩ | ⟨h, bs, rfl, hH⟩) a hA)
  · exact absurd ⟨by decide, by decide⟩ h
  rw [show Int.toNat 9 = 9 from rfl, st0_n, aw_0] at hH
  repeat' (first | (first | (refine GT ?_ ?_ <;> intro hg <;> clear hA a <;> intro a hA <;> (first | exact FA | replace hg := of_decide_eq_true hg | replace hg := of_decide_eq_false hg | skip)) | ((first | apply st_ex hA hH rfl rfl (by decide) | apply dr_ex hA rfl rfl rfl (by decide) | apply dr_exp hA rfl rfl rfl (by decide) | apply dr_ex3 hA hH rfl rfl rfl (by decide)); (first | (apply ex_eqlPf; rfl; rfl) | (apply ex_eqlPt; rfl; rfl) | (apply ex_neqPt; rfl; rfl) | (apply ex_neqPf; rfl; rfl)); clear hA a; intro a hA) | (refine QT ?_; clear hA a; intro a hA) | (first | (refine BT ?_; clear hA hH; rintro _ w ⟨bN, rfl, hH⟩ a hA) | (refine LT ?_; clear hA hH; rintro _ w ⟨oN, rfl, hH⟩ a hA) | (refine AT ?_; clear hA; rintro _ w ⟨oN, cN, rfl, hH2⟩ a hA; clear hH; have hH := (hH2 _ (by (repeat constructor))).tail; clear hH2) | (refine S0T ?_; clear hH; rintro _ w hH) )) | ((first | refine CT ?_ | (refine DT ?_ ?_ <;> intro hc <;> try (exfalso; omega))) <;> repeat' refine CT ?_) | (first | (refine DSK ?_; clear hA a; intro a hA) | (first | (refine DLT ?_; clear hA hH; rintro _ w ⟨oN, rfl, hH⟩; refine ⟨STT, ?_⟩; intro a hA) | (refine DAT ?_; clear hA; rintro _ w ⟨oN, cN, rfl, hH2⟩; clear hH; have hH := (hH2 _ (by (repeat constructor))).tail; clear hH2; refine ⟨STT, ?_⟩; intro a hA))) )
  (refine st_op hA rfl rfl (by decide) (op_call rfl rfl rfl (new_st hH)) ?_; clear hA hH; rintro _ w (⟨rfl, h, hH⟩ | ⟨h, b2, rfl, hH⟩) a hA)
  rotate_left
  · exact absurd h.1 (by decide)
  clear h
  have hnil : ∀ x ∈ ([] : List Int), U x := fun x hx => absurd hx (List.not_mem_nil)
  have rnil : ∀ (Hc : List It) (w' : World), HS w0 noM (Hc ++ []) w' → Rd w' none (flat encW []) := fun _ w' _ => rd_nil w'
  repeat' (first | (first | (refine GT ?_ ?_ <;> intro hg <;> clear hA a <;> intro a hA <;> (first | exact FA | replace hg := of_decide_eq_true hg | replace hg := of_decide_eq_false hg | skip)) | ((first | apply st_ex hA hH rfl rfl (by decide) | apply dr_ex hA rfl rfl rfl (by decide) | apply dr_exp hA rfl rfl rfl (by decide) | apply dr_ex3 hA hH rfl rfl rfl (by decide)); (first | (apply ex_eqlPf; rfl; rfl) | (apply ex_eqlPt; rfl; rfl) | (apply ex_neqPt; rfl; rfl) | (apply ex_neqPf; rfl; rfl)); clear hA a; intro a hA) | (refine QT ?_; clear hA a; intro a hA) | (first | (refine BT ?_; clear hA hH; rintro _ w ⟨bN, rfl, hH⟩ a hA) | (refine LT ?_; clear hA hH; rintro _ w ⟨oN, rfl, hH⟩ a hA) | (refine AT ?_; clear hA; rintro _ w ⟨oN, cN, rfl, hH2⟩ a hA; clear hH; have hH := (hH2 _ (by (repeat constructor))).tail; clear hH2) | (refine S0T ?_; clear hH; rintro _ w hH) )) | ((first | refine CT ?_ | (refine DT ?_ ?_ <;> intro hc <;> try (exfalso; omega))) <;> repeat' refine CT ?_) | (first | (refine DSK ?_; clear hA a; intro a hA) | (first | (refine DLT ?_; clear hA hH; rintro _ w ⟨oN, rfl, hH⟩; refine ⟨STT, ?_⟩; intro a hA) | (refine DAT ?_; clear hA; rintro _ w ⟨oN, cN, rfl, hH2⟩; clear hH; have hH := (hH2 _ (by (repeat constructor))).tail; clear hH2; refine ⟨STT, ?_⟩; intro a hA))) )
  (refine st_op hA rfl rfl (by decide) (op_call rfl rfl rfl (salloc_f (roots := []) (oR := none) (cR := 0) hH (awS_ok 0) (by have := awS_cy 0; omega) hnil (by decide) rnil)) ?_; clear hA hH; rintro _ w ⟨rfl, hH⟩ a hA)
  rw [aw_next, aw_first.1, aw_first.2] at *
  repeat' (first | (first | (refine GT ?_ ?_ <;> intro hg <;> clear hA a <;> intro a hA <;> (first | exact FA | replace hg := of_decide_eq_true hg | replace hg := of_decide_eq_false hg | skip)) | (refine QT ?_; clear hA a; intro a hA) | (first | (refine BT ?_; clear hA hH; rintro _ w ⟨bN, rfl, hH⟩ a hA) | (refine LT ?_; clear hA hH; rintro _ w ⟨oN, rfl, hH⟩ a hA) | (refine AT ?_; clear hA; rintro _ w ⟨oN, cN, rfl, hH2⟩ a hA; clear hH; have hH := (hH2 _ (by (repeat constructor))).tail; clear hH2) | (refine S0T ?_; clear hH; rintro _ w hH) )) | ((first | refine CT ?_ | (refine DT ?_ ?_ <;> intro hc <;> try (exfalso; omega))) <;> repeat' refine CT ?_) | (first | (refine DSK ?_; clear hA a; intro a hA) | (first | (refine DLT ?_; clear hA hH; rintro _ w ⟨oN, rfl, hH⟩; refine ⟨STT, ?_⟩; intro a hA) | (refine DAT ?_; clear hA; rintro _ w ⟨oN, cN, rfl, hH2⟩; clear hH; have hH := (hH2 _ (by (repeat constructor))).tail; clear hH2; refine ⟨STT, ?_⟩; intro a hA))) )
  refine wp_lpj (S := Nat) (fun i a w => i ≤ 3 ∧ HS w0 noM [stI bs 9 (awS (i + 1))] w ∧ Sl 127 [(1, .pointer (some (bat bs 0))), (2, .int .u64 2), (3, .int .i64 0), (4, .int .i64 i)] a) (fun i => 3 - i)
    (fun a w => HS w0 noM [stI bs 9 (awS 4)] w ∧ Sl 127 [(1, .pointer (some (bat bs 0))), (2, .int .u64 2), (3, .int .i64 0)] a) 0 ⟨by omega, hH, (hA.sub (by (repeat (first | exact trivial | refine ⟨rfl, ?_⟩))))⟩ ?_ ?_
  · clear hA hH
    rintro i a w ⟨hi, hH, hA⟩
    by_cases hlt : i < 3
    · repeat' (first | (first | (refine GT ?_ ?_ <;> intro hg <;> clear hA a <;> intro a hA <;> (first | exact FA | replace hg := of_decide_eq_true hg | replace hg := of_decide_eq_false hg | skip)) | (refine QT ?_; clear hA a; intro a hA) | (first | (refine BT ?_; clear hA hH; rintro _ w ⟨bN, rfl, hH⟩ a hA) | (refine LT ?_; clear hA hH; rintro _ w ⟨oN, rfl, hH⟩ a hA) | (refine AT ?_; clear hA; rintro _ w ⟨oN, cN, rfl, hH2⟩ a hA; clear hH; have hH := (hH2 _ (by (repeat constructor))).tail; clear hH2) | (refine S0T ?_; clear hH; rintro _ w hH) )) | ((first | refine CT ?_ | (refine DT ?_ ?_ <;> intro hc <;> try (exfalso; omega))) <;> repeat' refine CT ?_) | (first | (refine DSK ?_; clear hA a; intro a hA) | (first | (refine DLT ?_; clear hA hH; rintro _ w ⟨oN, rfl, hH⟩; refine ⟨STT, ?_⟩; intro a hA) | (refine DAT ?_; clear hA; rintro _ w ⟨oN, cN, rfl, hH2⟩; clear hH; have hH := (hH2 _ (by (repeat constructor))).tail; clear hH2; refine ⟨STT, ?_⟩; intro a hA))) )
      (refine st_op hA rfl rfl (by decide) (op_call rfl rfl rfl (salloc_f (roots := []) (oR := none) (cR := 0) hH (awS_ok (i + 1)) (by have := awS_cy (i + 1); omega) hnil (by decide) rnil)) ?_; clear hA hH; rintro _ w ⟨rfl, hH⟩ a hA)
      rw [aw_next] at hH
      repeat' (first | (first | (refine GT ?_ ?_ <;> intro hg <;> clear hA a <;> intro a hA <;> (first | exact FA | replace hg := of_decide_eq_true hg | replace hg := of_decide_eq_false hg | skip)) | (refine QT ?_; clear hA a; intro a hA) | (first | (refine BT ?_; clear hA hH; rintro _ w ⟨bN, rfl, hH⟩ a hA) | (refine LT ?_; clear hA hH; rintro _ w ⟨oN, rfl, hH⟩ a hA) | (refine AT ?_; clear hA; rintro _ w ⟨oN, cN, rfl, hH2⟩ a hA; clear hH; have hH := (hH2 _ (by (repeat constructor))).tail; clear hH2) | (refine S0T ?_; clear hH; rintro _ w hH) )) | ((first | refine CT ?_ | (refine DT ?_ ?_ <;> intro hc <;> try (exfalso; omega))) <;> repeat' refine CT ?_) | (first | (refine DSK ?_; clear hA a; intro a hA) | (first | (refine DLT ?_; clear hA hH; rintro _ w ⟨oN, rfl, hH⟩; refine ⟨STT, ?_⟩; intro a hA) | (refine DAT ?_; clear hA; rintro _ w ⟨oN, cN, rfl, hH2⟩; clear hH; have hH := (hH2 _ (by (repeat constructor))).tail; clear hH2; refine ⟨STT, ?_⟩; intro a hA))) )
      exact ⟨i + 1, ⟨hlt, hH, (hA.sub (by (repeat (first | exact trivial | refine ⟨rfl, ?_⟩))))⟩, by omega⟩
    · obtain rfl : i = 3 := by omega
      repeat' (first | (first | (refine GT ?_ ?_ <;> intro hg <;> clear hA a <;> intro a hA <;> (first | exact FA | replace hg := of_decide_eq_true hg | replace hg := of_decide_eq_false hg | skip)) | (refine QT ?_; clear hA a; intro a hA) | (first | (refine BT ?_; clear hA hH; rintro _ w ⟨bN, rfl, hH⟩ a hA) | (refine LT ?_; clear hA hH; rintro _ w ⟨oN, rfl, hH⟩ a hA) | (refine AT ?_; clear hA; rintro _ w ⟨oN, cN, rfl, hH2⟩ a hA; clear hH; have hH := (hH2 _ (by (repeat constructor))).tail; clear hH2) | (refine S0T ?_; clear hH; rintro _ w hH) )) | ((first | refine CT ?_ | (refine DT ?_ ?_ <;> intro hc <;> try (exfalso; omega))) <;> repeat' refine CT ?_) | (first | (refine DSK ?_; clear hA a; intro a hA) | (first | (refine DLT ?_; clear hA hH; rintro _ w ⟨oN, rfl, hH⟩; refine ⟨STT, ?_⟩; intro a hA) | (refine DAT ?_; clear hA; rintro _ w ⟨oN, cN, rfl, hH2⟩; clear hH; have hH := (hH2 _ (by (repeat constructor))).tail; clear hH2; refine ⟨STT, ?_⟩; intro a hA))) )
      exact ⟨hH, (hA.sub (by (repeat (first | exact trivial | refine ⟨rfl, ?_⟩))))⟩
  clear hA hH
  rintro a w ⟨hH, hA⟩
  repeat' (first | (first | (refine GT ?_ ?_ <;> intro hg <;> clear hA a <;> intro a hA <;> (first | exact FA | replace hg := of_decide_eq_true hg | replace hg := of_decide_eq_false hg | skip)) | (refine QT ?_; clear hA a; intro a hA) | (first | (refine BT ?_; clear hA hH; rintro _ w ⟨bN, rfl, hH⟩ a hA) | (refine LT ?_; clear hA hH; rintro _ w ⟨oN, rfl, hH⟩ a hA) | (refine AT ?_; clear hA; rintro _ w ⟨oN, cN, rfl, hH2⟩ a hA; clear hH; have hH := (hH2 _ (by (repeat constructor))).tail; clear hH2) | (refine S0T ?_; clear hH; rintro _ w hH) )) | ((first | refine CT ?_ | (refine DT ?_ ?_ <;> intro hc <;> try (exfalso; omega))) <;> repeat' refine CT ?_) | (first | (refine DSK ?_; clear hA a; intro a hA) | (first | (refine DLT ?_; clear hA hH; rintro _ w ⟨oN, rfl, hH⟩; refine ⟨STT, ?_⟩; intro a hA) | (refine DAT ?_; clear hA; rintro _ w ⟨oN, cN, rfl, hH2⟩; clear hH; have hH := (hH2 _ (by (repeat constructor))).tail; clear hH2; refine ⟨STT, ?_⟩; intro a hA))) )
  (refine st_op hA rfl rfl (by decide) (op_call rfl rfl rfl (sroom_f hH)) ?_; clear hA hH; rintro _ w ⟨rfl, hH⟩ a hA)
  rw [aw_room] at hA
  repeat' (first | (first | (refine GT ?_ ?_ <;> intro hg <;> clear hA a <;> intro a hA <;> (first | exact FA | replace hg := of_decide_eq_true hg | replace hg := of_decide_eq_false hg | skip)) | (refine QT ?_; clear hA a; intro a hA) | (first | (refine BT ?_; clear hA hH; rintro _ w ⟨bN, rfl, hH⟩ a hA) | (refine LT ?_; clear hA hH; rintro _ w ⟨oN, rfl, hH⟩ a hA) | (refine AT ?_; clear hA; rintro _ w ⟨oN, cN, rfl, hH2⟩ a hA; clear hH; have hH := (hH2 _ (by (repeat constructor))).tail; clear hH2) | (refine S0T ?_; clear hH; rintro _ w hH) )) | ((first | refine CT ?_ | (refine DT ?_ ?_ <;> intro hc <;> try (exfalso; omega))) <;> repeat' refine CT ?_) | (first | (refine DSK ?_; clear hA a; intro a hA) | (first | (refine DLT ?_; clear hA hH; rintro _ w ⟨oN, rfl, hH⟩; refine ⟨STT, ?_⟩; intro a hA) | (refine DAT ?_; clear hA; rintro _ w ⟨oN, cN, rfl, hH2⟩; clear hH; have hH := (hH2 _ (by (repeat constructor))).tail; clear hH2; refine ⟨STT, ?_⟩; intro a hA))) )
  rw [one_w] at hH
  have hH2 : HS w0 noM [stI bs 9 (awS 4), own 33 1 oN 1 1 (flat encW [2])] w := hH.perm (.swap _ _ _)
  clear hH
  have hH := hH2
  clear hH2
  (refine st_op hA rfl rfl (by decide) (op_call rfl rfl rfl (salloc_f (roots := [2]) (oR := oN) (cR := 1) hH (awS_ok 4) (by have := awS_cy 4; omega) U2 (by decide) (fun Hc w2 h => h.own_rd (List.mem_append_right _ (List.mem_cons_self ..))))) ?_; clear hA hH; rintro _ w ⟨rfl, hH⟩ a hA)
  rw [aw_q5, aw_b.1, aw_b.2] at *
  repeat' (first | (first | (refine GT ?_ ?_ <;> intro hg <;> clear hA a <;> intro a hA <;> (first | exact FA | replace hg := of_decide_eq_true hg | replace hg := of_decide_eq_false hg | skip)) | (refine QT ?_; clear hA a; intro a hA) | (first | (refine BT ?_; clear hA hH; rintro _ w ⟨bN, rfl, hH⟩ a hA) | (refine LT ?_; clear hA hH; rintro _ w ⟨oN, rfl, hH⟩ a hA) | (refine AT ?_; clear hA; rintro _ w ⟨oN, cN, rfl, hH2⟩ a hA; clear hH; have hH := (hH2 _ (by (repeat constructor))).tail; clear hH2) | (refine S0T ?_; clear hH; rintro _ w hH) )) | ((first | refine CT ?_ | (refine DT ?_ ?_ <;> intro hc <;> try (exfalso; omega))) <;> repeat' refine CT ?_) | (first | (refine DSK ?_; clear hA a; intro a hA) | (first | (refine DLT ?_; clear hA hH; rintro _ w ⟨oN, rfl, hH⟩; refine ⟨STT, ?_⟩; intro a hA) | (refine DAT ?_; clear hA; rintro _ w ⟨oN, cN, rfl, hH2⟩; clear hH; have hH := (hH2 _ (by (repeat constructor))).tail; clear hH2; refine ⟨STT, ?_⟩; intro a hA))) )
  replace hH := HS.left (H1 := [_]) hH
  (refine st_op hA rfl rfl (by decide) (op_call rfl rfl rfl (salloc_f (roots := []) (oR := none) (cR := 0) hH aw5_ok (by rw [aw_cy5]; decide) hnil (by decide) rnil)) ?_; clear hA hH; rintro _ w ⟨rfl, hH⟩ a hA)
  rw [aw_q6, aw_g] at *
  repeat' (first | (first | (refine GT ?_ ?_ <;> intro hg <;> clear hA a <;> intro a hA <;> (first | exact FA | replace hg := of_decide_eq_true hg | replace hg := of_decide_eq_false hg | skip)) | (refine QT ?_; clear hA a; intro a hA) | (first | (refine BT ?_; clear hA hH; rintro _ w ⟨bN, rfl, hH⟩ a hA) | (refine LT ?_; clear hA hH; rintro _ w ⟨oN, rfl, hH⟩ a hA) | (refine AT ?_; clear hA; rintro _ w ⟨oN, cN, rfl, hH2⟩ a hA; clear hH; have hH := (hH2 _ (by (repeat constructor))).tail; clear hH2) | (refine S0T ?_; clear hH; rintro _ w hH) )) | ((first | refine CT ?_ | (refine DT ?_ ?_ <;> intro hc <;> try (exfalso; omega))) <;> repeat' refine CT ?_) | (first | (refine DSK ?_; clear hA a; intro a hA) | (first | (refine DLT ?_; clear hA hH; rintro _ w ⟨oN, rfl, hH⟩; refine ⟨STT, ?_⟩; intro a hA) | (refine DAT ?_; clear hA; rintro _ w ⟨oN, cN, rfl, hH2⟩; clear hH; have hH := (hH2 _ (by (repeat constructor))).tail; clear hH2; refine ⟨STT, ?_⟩; intro a hA))) )
  (refine st_op hA rfl rfl (by decide) (op_call rfl rfl rfl (new_st hH)) ?_; clear hA hH; rintro _ w (⟨rfl, h, hH⟩ | ⟨h, bt, rfl, hH⟩) a hA)
  · exact absurd ⟨by decide, by decide⟩ h
  rw [show Int.toNat 20 = 20 from rfl, st0_n] at hH
  repeat' (first | (first | (refine GT ?_ ?_ <;> intro hg <;> clear hA a <;> intro a hA <;> (first | exact FA | replace hg := of_decide_eq_true hg | replace hg := of_decide_eq_false hg | skip)) | (refine QT ?_; clear hA a; intro a hA) | (first | (refine BT ?_; clear hA hH; rintro _ w ⟨bN, rfl, hH⟩ a hA) | (refine LT ?_; clear hA hH; rintro _ w ⟨oN, rfl, hH⟩ a hA) | (refine AT ?_; clear hA; rintro _ w ⟨oN, cN, rfl, hH2⟩ a hA; clear hH; have hH := (hH2 _ (by (repeat constructor))).tail; clear hH2) | (refine S0T ?_; clear hH; rintro _ w hH) )) | ((first | refine CT ?_ | (refine DT ?_ ?_ <;> intro hc <;> try (exfalso; omega))) <;> repeat' refine CT ?_) | (first | (refine DSK ?_; clear hA a; intro a hA) | (first | (refine DLT ?_; clear hA hH; rintro _ w ⟨oN, rfl, hH⟩; refine ⟨STT, ?_⟩; intro a hA) | (refine DAT ?_; clear hA; rintro _ w ⟨oN, cN, rfl, hH2⟩; clear hH; have hH := (hH2 _ (by (repeat constructor))).tail; clear hH2; refine ⟨STT, ?_⟩; intro a hA))) )
  have rn2 : ∀ (Hc : List It) (w' : World), HS w0 noM (Hc ++ [stI bs 9 aw6]) w' → Rd w' none (flat encW []) := fun _ w' _ => rd_nil w'
  (refine st_op hA rfl rfl (by decide) (op_call rfl rfl rfl (stext_f (t := tLit) (roots := []) (oR := none) (cR := 0) hH (st0_ok (by decide)) (by rw [st0_cy]; decide) tLit_len hnil (by decide) rn2)) ?_; clear hA hH; rintro _ w ⟨rfl, hH⟩ a hA)
  rw [awT_q1, awT1_text.1, awT1_text.2] at *
  repeat' (first | (first | (refine GT ?_ ?_ <;> intro hg <;> clear hA a <;> intro a hA <;> (first | exact FA | replace hg := of_decide_eq_true hg | replace hg := of_decide_eq_false hg | skip)) | (refine QT ?_; clear hA a; intro a hA) | (first | (refine BT ?_; clear hA hH; rintro _ w ⟨bN, rfl, hH⟩ a hA) | (refine LT ?_; clear hA hH; rintro _ w ⟨oN, rfl, hH⟩ a hA) | (refine AT ?_; clear hA; rintro _ w ⟨oN, cN, rfl, hH2⟩ a hA; clear hH; have hH := (hH2 _ (by (repeat constructor))).tail; clear hH2) | (refine S0T ?_; clear hH; rintro _ w hH) )) | ((first | refine CT ?_ | (refine DT ?_ ?_ <;> intro hc <;> try (exfalso; omega))) <;> repeat' refine CT ?_) | (first | (refine DSK ?_; clear hA a; intro a hA) | (first | (refine DLT ?_; clear hA hH; rintro _ w ⟨oN, rfl, hH⟩; refine ⟨STT, ?_⟩; intro a hA) | (refine DAT ?_; clear hA; rintro _ w ⟨oN, cN, rfl, hH2⟩; clear hH; have hH := (hH2 _ (by (repeat constructor))).tail; clear hH2; refine ⟨STT, ?_⟩; intro a hA))) )
  (refine st_op hA rfl rfl (by decide) (op_call rfl rfl rfl (sstring_f hH awT1_ok U_two)) ?_; clear hA hH; rintro _ w ⟨rfl, hH⟩ a hA)
  rw [awT1_str] at hA
  dsimp only at hA
  repeat' (first | (first | (refine GT ?_ ?_ <;> intro hg <;> clear hA a <;> intro a hA <;> (first | exact FA | replace hg := of_decide_eq_true hg | replace hg := of_decide_eq_false hg | skip)) | (refine QT ?_; clear hA a; intro a hA) | (first | (refine BT ?_; clear hA hH; rintro _ w ⟨bN, rfl, hH⟩ a hA) | (refine LT ?_; clear hA hH; rintro _ w ⟨oN, rfl, hH⟩ a hA) | (refine AT ?_; clear hA; rintro _ w ⟨oN, cN, rfl, hH2⟩ a hA; clear hH; have hH := (hH2 _ (by (repeat constructor))).tail; clear hH2) | (refine S0T ?_; clear hH; rintro _ w hH) )) | ((first | refine CT ?_ | (refine DT ?_ ?_ <;> intro hc <;> try (exfalso; omega))) <;> repeat' refine CT ?_) | (first | (refine DSK ?_; clear hA a; intro a hA) | (first | (refine DLT ?_; clear hA hH; rintro _ w ⟨oN, rfl, hH⟩; refine ⟨STT, ?_⟩; intro a hA) | (refine DAT ?_; clear hA; rintro _ w ⟨oN, cN, rfl, hH2⟩; clear hH; have hH := (hH2 _ (by (repeat constructor))).tail; clear hH2; refine ⟨STT, ?_⟩; intro a hA))) )
  (refine st_op hA rfl rfl (by decide) (op_call rfl rfl rfl (sset_f hH awT1_ok U_two)) ?_; clear hA hH; rintro _ w ⟨rfl, hH⟩ a hA)
  rw [awT_q2, awT2_1] at *
  repeat' (first | (first | (refine GT ?_ ?_ <;> intro hg <;> clear hA a <;> intro a hA <;> (first | exact FA | replace hg := of_decide_eq_true hg | replace hg := of_decide_eq_false hg | skip)) | (refine QT ?_; clear hA a; intro a hA) | (first | (refine BT ?_; clear hA hH; rintro _ w ⟨bN, rfl, hH⟩ a hA) | (refine LT ?_; clear hA hH; rintro _ w ⟨oN, rfl, hH⟩ a hA) | (refine AT ?_; clear hA; rintro _ w ⟨oN, cN, rfl, hH2⟩ a hA; clear hH; have hH := (hH2 _ (by (repeat constructor))).tail; clear hH2) | (refine S0T ?_; clear hH; rintro _ w hH) )) | ((first | refine CT ?_ | (refine DT ?_ ?_ <;> intro hc <;> try (exfalso; omega))) <;> repeat' refine CT ?_) | (first | (refine DSK ?_; clear hA a; intro a hA) | (first | (refine DLT ?_; clear hA hH; rintro _ w ⟨oN, rfl, hH⟩; refine ⟨STT, ?_⟩; intro a hA) | (refine DAT ?_; clear hA; rintro _ w ⟨oN, cN, rfl, hH2⟩; clear hH; have hH := (hH2 _ (by (repeat constructor))).tail; clear hH2; refine ⟨STT, ?_⟩; intro a hA))) )
  (refine st_op hA rfl rfl (by decide) (op_call rfl rfl rfl (spick_f (roots := []) (oR := none) (cR := 0) hH awT2_ok (by rw [awT1_cy.2.1]; decide) hnil (by decide) rn2)) ?_; clear hA hH; rintro _ w hH a hA)
  rw [awT_q3] at hH
  repeat' (first | (first | (refine GT ?_ ?_ <;> intro hg <;> clear hA a <;> intro a hA <;> (first | exact FA | replace hg := of_decide_eq_true hg | replace hg := of_decide_eq_false hg | skip)) | (refine QT ?_; clear hA a; intro a hA) | (first | (refine BT ?_; clear hA hH; rintro _ w ⟨bN, rfl, hH⟩ a hA) | (refine LT ?_; clear hA hH; rintro _ w ⟨oN, rfl, hH⟩ a hA) | (refine AT ?_; clear hA; rintro _ w ⟨oN, cN, rfl, hH2⟩ a hA; clear hH; have hH := (hH2 _ (by (repeat constructor))).tail; clear hH2) | (refine S0T ?_; clear hH; rintro _ w hH) )) | ((first | refine CT ?_ | (refine DT ?_ ?_ <;> intro hc <;> try (exfalso; omega))) <;> repeat' refine CT ?_) | (first | (refine DSK ?_; clear hA a; intro a hA) | (first | (refine DLT ?_; clear hA hH; rintro _ w ⟨oN, rfl, hH⟩; refine ⟨STT, ?_⟩; intro a hA) | (refine DAT ?_; clear hA; rintro _ w ⟨oN, cN, rfl, hH2⟩; clear hH; have hH := (hH2 _ (by (repeat constructor))).tail; clear hH2; refine ⟨STT, ?_⟩; intro a hA))) )
  (refine st_op hA rfl rfl (by decide) (op_call rfl rfl rfl (ref_spec _ 1 (by decide))) ?_; clear hA; rintro _ w ⟨rfl, hk⟩ a hA; replace hH := hH.keep hk; clear hk)
  repeat' (first | (first | (refine GT ?_ ?_ <;> intro hg <;> clear hA a <;> intro a hA <;> (first | exact FA | replace hg := of_decide_eq_true hg | replace hg := of_decide_eq_false hg | skip)) | (refine QT ?_; clear hA a; intro a hA) | (first | (refine BT ?_; clear hA hH; rintro _ w ⟨bN, rfl, hH⟩ a hA) | (refine LT ?_; clear hA hH; rintro _ w ⟨oN, rfl, hH⟩ a hA) | (refine AT ?_; clear hA; rintro _ w ⟨oN, cN, rfl, hH2⟩ a hA; clear hH; have hH := (hH2 _ (by (repeat constructor))).tail; clear hH2) | (refine S0T ?_; clear hH; rintro _ w hH) )) | ((first | refine CT ?_ | (refine DT ?_ ?_ <;> intro hc <;> try (exfalso; omega))) <;> repeat' refine CT ?_) | (first | (refine DSK ?_; clear hA a; intro a hA) | (first | (refine DLT ?_; clear hA hH; rintro _ w ⟨oN, rfl, hH⟩; refine ⟨STT, ?_⟩; intro a hA) | (refine DAT ?_; clear hA; rintro _ w ⟨oN, cN, rfl, hH2⟩; clear hH; have hH := (hH2 _ (by (repeat constructor))).tail; clear hH2; refine ⟨STT, ?_⟩; intro a hA))) )
  (refine st_op hA rfl rfl (by decide) (op_call rfl rfl rfl (ref_spec _ 3 (by decide))) ?_; clear hA; rintro _ w ⟨rfl, hk⟩ a hA; replace hH := hH.keep hk; clear hk)
  repeat' (first | (first | (refine GT ?_ ?_ <;> intro hg <;> clear hA a <;> intro a hA <;> (first | exact FA | replace hg := of_decide_eq_true hg | replace hg := of_decide_eq_false hg | skip)) | (refine QT ?_; clear hA a; intro a hA) | (first | (refine BT ?_; clear hA hH; rintro _ w ⟨bN, rfl, hH⟩ a hA) | (refine LT ?_; clear hA hH; rintro _ w ⟨oN, rfl, hH⟩ a hA) | (refine AT ?_; clear hA; rintro _ w ⟨oN, cN, rfl, hH2⟩ a hA; clear hH; have hH := (hH2 _ (by (repeat constructor))).tail; clear hH2) | (refine S0T ?_; clear hH; rintro _ w hH) )) | ((first | refine CT ?_ | (refine DT ?_ ?_ <;> intro hc <;> try (exfalso; omega))) <;> repeat' refine CT ?_) | (first | (refine DSK ?_; clear hA a; intro a hA) | (first | (refine DLT ?_; clear hA hH; rintro _ w ⟨oN, rfl, hH⟩; refine ⟨STT, ?_⟩; intro a hA) | (refine DAT ?_; clear hA; rintro _ w ⟨oN, cN, rfl, hH2⟩; clear hH; have hH := (hH2 _ (by (repeat constructor))).tail; clear hH2; refine ⟨STT, ?_⟩; intro a hA))) )
  replace hH := hH.perm (.swap _ _ _)
  (refine st_op hA rfl rfl (by decide) (op_call rfl rfl rfl (scycles_f hH)) ?_; clear hA hH; rintro _ w ⟨rfl, hH⟩ a hA)
  rw [aw_cy] at hA
  repeat' (first | (first | (refine GT ?_ ?_ <;> intro hg <;> clear hA a <;> intro a hA <;> (first | exact FA | replace hg := of_decide_eq_true hg | replace hg := of_decide_eq_false hg | skip)) | ((first | apply st_ex hA hH rfl rfl (by decide) | apply dr_ex hA rfl rfl rfl (by decide) | apply dr_exp hA rfl rfl rfl (by decide) | apply dr_ex3 hA hH rfl rfl rfl (by decide)); (first | (apply ex_eqlSs; rfl; rfl)); clear hA a; intro a hA) | (refine QT ?_; clear hA a; intro a hA) | (first | (refine BT ?_; clear hA hH; rintro _ w ⟨bN, rfl, hH⟩ a hA) | (refine LT ?_; clear hA hH; rintro _ w ⟨oN, rfl, hH⟩ a hA) | (refine AT ?_; clear hA; rintro _ w ⟨oN, cN, rfl, hH2⟩ a hA; clear hH; have hH := (hH2 _ (by (repeat constructor))).tail; clear hH2) | (refine S0T ?_; clear hH; rintro _ w hH) )) | ((first | refine CT ?_ | (refine DT ?_ ?_ <;> intro hc <;> try (exfalso; omega))) <;> repeat' refine CT ?_) | (first | (refine DSK ?_; clear hA a; intro a hA) | (first | (refine DLT ?_; clear hA hH; rintro _ w ⟨oN, rfl, hH⟩; refine ⟨STT, ?_⟩; intro a hA) | (refine DAT ?_; clear hA; rintro _ w ⟨oN, cN, rfl, hH2⟩; clear hH; have hH := (hH2 _ (by (repeat constructor))).tail; clear hH2; refine ⟨STT, ?_⟩; intro a hA))) )
  replace hH := hH.perm (.swap _ _ _)
  (refine st_op hA rfl rfl (by decide) (op_call rfl rfl rfl (skind_f hH awT3_ok U_two)) ?_; clear hA hH; rintro _ w ⟨rfl, hH⟩ a hA)
  rw [awT3_k.1] at hA
  repeat' (first | (first | (refine GT ?_ ?_ <;> intro hg <;> clear hA a <;> intro a hA <;> (first | exact FA | replace hg := of_decide_eq_true hg | replace hg := of_decide_eq_false hg | skip)) | (refine QT ?_; clear hA a; intro a hA) | (first | (refine BT ?_; clear hA hH; rintro _ w ⟨bN, rfl, hH⟩ a hA) | (refine LT ?_; clear hA hH; rintro _ w ⟨oN, rfl, hH⟩ a hA) | (refine AT ?_; clear hA; rintro _ w ⟨oN, cN, rfl, hH2⟩ a hA; clear hH; have hH := (hH2 _ (by (repeat constructor))).tail; clear hH2) | (refine S0T ?_; clear hH; rintro _ w hH) )) | ((first | refine CT ?_ | (refine DT ?_ ?_ <;> intro hc <;> try (exfalso; omega))) <;> repeat' refine CT ?_) | (first | (refine DSK ?_; clear hA a; intro a hA) | (first | (refine DLT ?_; clear hA hH; rintro _ w ⟨oN, rfl, hH⟩; refine ⟨STT, ?_⟩; intro a hA) | (refine DAT ?_; clear hA; rintro _ w ⟨oN, cN, rfl, hH2⟩; clear hH; have hH := (hH2 _ (by (repeat constructor))).tail; clear hH2; refine ⟨STT, ?_⟩; intro a hA))) )
  (refine st_op hA rfl rfl (by decide) (op_call rfl rfl rfl (ssize_f hH awT3_ok U_two)) ?_; clear hA hH; rintro _ w ⟨rfl, hH⟩ a hA)
  rw [awT3_k.2] at hA
  repeat' (first | (first | (refine GT ?_ ?_ <;> intro hg <;> clear hA a <;> intro a hA <;> (first | exact FA | replace hg := of_decide_eq_true hg | replace hg := of_decide_eq_false hg | skip)) | (refine QT ?_; clear hA a; intro a hA) | (first | (refine BT ?_; clear hA hH; rintro _ w ⟨bN, rfl, hH⟩ a hA) | (refine LT ?_; clear hA hH; rintro _ w ⟨oN, rfl, hH⟩ a hA) | (refine AT ?_; clear hA; rintro _ w ⟨oN, cN, rfl, hH2⟩ a hA; clear hH; have hH := (hH2 _ (by (repeat constructor))).tail; clear hH2) | (refine S0T ?_; clear hH; rintro _ w hH) )) | ((first | refine CT ?_ | (refine DT ?_ ?_ <;> intro hc <;> try (exfalso; omega))) <;> repeat' refine CT ?_) | (first | (refine DSK ?_; clear hA a; intro a hA) | (first | (refine DLT ?_; clear hA hH; rintro _ w ⟨oN, rfl, hH⟩; refine ⟨STT, ?_⟩; intro a hA) | (refine DAT ?_; clear hA; rintro _ w ⟨oN, cN, rfl, hH2⟩; clear hH; have hH := (hH2 _ (by (repeat constructor))).tail; clear hH2; refine ⟨STT, ?_⟩; intro a hA))) )
  (refine st_op hA rfl rfl (by decide) (op_call rfl rfl rfl (scycles_f hH)) ?_; clear hA hH; rintro _ w ⟨rfl, hH⟩ a hA)
  rw [awT1_cy.2.2] at hA
  repeat' (first | (first | (refine GT ?_ ?_ <;> intro hg <;> clear hA a <;> intro a hA <;> (first | exact FA | replace hg := of_decide_eq_true hg | replace hg := of_decide_eq_false hg | skip)) | (refine QT ?_; clear hA a; intro a hA) | (first | (refine BT ?_; clear hA hH; rintro _ w ⟨bN, rfl, hH⟩ a hA) | (refine LT ?_; clear hA hH; rintro _ w ⟨oN, rfl, hH⟩ a hA) | (refine AT ?_; clear hA; rintro _ w ⟨oN, cN, rfl, hH2⟩ a hA; clear hH; have hH := (hH2 _ (by (repeat constructor))).tail; clear hH2) | (refine S0T ?_; clear hH; rintro _ w hH) )) | ((first | refine CT ?_ | (refine DT ?_ ?_ <;> intro hc <;> try (exfalso; omega))) <;> repeat' refine CT ?_) | (first | (refine DSK ?_; clear hA a; intro a hA) | (first | (refine DLT ?_; clear hA hH; rintro _ w ⟨oN, rfl, hH⟩; refine ⟨STT, ?_⟩; intro a hA) | (refine DAT ?_; clear hA; rintro _ w ⟨oN, cN, rfl, hH2⟩; clear hH; have hH := (hH2 _ (by (repeat constructor))).tail; clear hH2; refine ⟨STT, ?_⟩; intro a hA))) )
  exact rt1 (.inl rfl) rfl hA rfl ⟨rfl, hH.kp⟩
end Go.Proofs.Ytdfhajdejlhamaa
namespace Go.Proofs.Ytdfhajdejlhamaa
open Go Go.Fw
set_option linter.unusedVariables false
theorem mu_le (N : Nat) (s : GS) : mu N s ≤ 2 * N + 2 := by
  have h1 : nb N s ≤ N := by
    have := List.countP_le_length (p := fun a => !decide (col s a = 2)) (l := List.range N)
    rw [List.length_range] at this
    exact this
  unfold mu
  split
  · omega
  · split <;> omega
theorem idle_gr {N : Nat} {s : GS} (h : GOk N s) (hp : s.ph = 0) : s.gr = [] := by
  cases hg : s.gr with
  | nil => rfl
  | cons a l =>
    have := (h.grm a).1 (by rw [hg]; simp)
    have := h.idle hp a
    omega
theorem idle_step {N : Nat} {s : GS} (h : GOk N s) (hp : s.ph = 0) : stepG s = (false, s) := by
  rcases step_cases h with ⟨h0, e⟩ | ⟨h0, _⟩ | ⟨h0, _⟩ | ⟨h0, _⟩ | ⟨h0, _⟩
  · exact e
  · omega
  · omega
  · omega
  · omega
theorem galloc_ok {N : Nat} {s : GS} (h : GOk N s) (k z : Int) : GOk N (allocG N s k z).2.2 := by
  rcases alloc_ok h k z with ⟨e, he, h1⟩ | ⟨s', o, h1, h2, _⟩ <;> rw [h1]
  · exact h
  · exact h2
end Go.Proofs.Ytdfhajdejlhamaa
namespace Go.Proofs.Ytdfhajdejlhamaa
open Go Go.Fw
set_option linter.unusedVariables false
def inL (l : List Nat) (z : Int) : Bool := l.any fun a => decide ((a : Int) = z)
theorem inL_at {l : List Nat} {z : Int} {i a : Nat} (h : l[i]? = some a) (ha : (a : Int) = z) : inL l z = true := List.any_eq_true.2 ⟨a, List.mem_of_getElem? h, decide_eq_true ha⟩
theorem inL_no {l : List Nat} {z : Int} (h : ∀ (k a : Nat), l[k]? = some a → (a : Int) ≠ z) : inL l z = false := by
  cases hc : inL l z with
  | false => rfl
  | true =>
    obtain ⟨a, h1, h2⟩ := List.any_eq_true.1 hc
    obtain ⟨k, hk⟩ := List.getElem?_of_mem h1
    exact absurd (of_decide_eq_true h2) (h k a hk)
theorem inL_nat {l : List Nat} {a : Nat} : inL l (a : Int) = true ↔ a ∈ l := by
  unfold inL
  rw [List.any_eq_true]
  constructor
  · rintro ⟨b, h1, h2⟩
    have := of_decide_eq_true h2
    obtain rfl : b = a := by omega
    exact h1
  · exact fun h => ⟨a, h, decide_eq_true rfl⟩
/-- the address of the object that a word reaches -/
def reachA (L : List Ob) (x : Int) : Nat := if numW x = false ∧ isO L (addrN x) then addrN x else 0
theorem find_neg {L : List Ob} {z : Int} : findI L z < 0 ↔ isA L z = false := by
  rcases findI_obj L z with ⟨h1, h2⟩ | ⟨i, o, h1, h2, h3⟩
  · rw [h2, objA_none h1]; simp
  · rw [h2, objA_is h1]
    constructor
    · intro h; omega
    · intro h; cases h
theorem nodup_len : ∀ {N : Nat} {l : List Nat}, l.Nodup → (∀ a ∈ l, a < N) → l.length ≤ N
  | 0, l, _, hb => by
    cases l with
    | nil => exact Nat.le_refl _
    | cons a l => exact absurd (hb a (List.mem_cons_self ..)) (Nat.not_lt_zero _)
  | N + 1, l, hn, hb => by
    have h1 : (l.erase N).length ≤ N := nodup_len (hn.erase N) fun a ha => by
      have h2 := hb a (List.mem_of_mem_erase ha)
      have h3 : a ≠ N := fun he => by subst he; exact hn.not_mem_erase ha
      omega
    have h4 := List.length_erase (a := N) (l := l)
    split at h4 <;> omega
/-- a list of addresses that grows: no twins, all reached -/
structure Cl0 (L : List Ob) (roots : List Int) (out : List Nat) : Prop where
  nd : out.Nodup
  rc : ∀ a ∈ out, Rc L roots a
  ob : ∀ a ∈ out, isO L a
def addO (out : List Nat) (a : Nat) : List Nat := if 0 < a ∧ a ∉ out then out ++ [a] else out
theorem addO_mem {out : List Nat} {a b : Nat} (h : b ∈ out) : b ∈ addO out a := by
  unfold addO; split
  · exact List.mem_append_left _ h
  · exact h
theorem addO_self {out : List Nat} {a : Nat} (h : 0 < a) : a ∈ addO out a := by
  unfold addO
  by_cases hm : a ∈ out
  · rw [if_neg (fun h => h.2 hm)]; exact hm
  · rw [if_pos ⟨h, hm⟩]; simp
theorem addO_get {out : List Nat} {a i b : Nat} (h : out[i]? = some b) : (addO out a)[i]? = some b := by
  unfold addO; split
  · rw [List.getElem?_append_left (List.getElem?_eq_some_iff.1 h).1]; exact h
  · exact h
theorem addO_len {out : List Nat} {a : Nat} : out.length ≤ (addO out a).length := by
  unfold addO; split <;> simp
theorem Cl0.add {L : List Ob} {roots : List Int} {out : List Nat} (h : Cl0 L roots out) {a : Nat} (h1 : 0 < a → Rc L roots a ∧ isO L a) : Cl0 L roots (addO out a) := by
  unfold addO
  split
  · rename_i hc
    obtain ⟨k1, k2⟩ := h1 hc.1
    refine ⟨List.nodup_append.2 ⟨h.nd, List.nodup_cons.2 ⟨List.not_mem_nil, List.nodup_nil⟩, fun x hx y hy => ?_⟩, fun b hb => ?_, fun b hb => ?_⟩
    · rw [List.mem_singleton.1 hy]
      exact fun he => hc.2 (he ▸ hx)
    · rcases List.mem_append.1 hb with hb | hb
      · exact h.rc b hb
      · rw [List.mem_singleton.1 hb]; exact k1
    · rcases List.mem_append.1 hb with hb | hb
      · exact h.ob b hb
      · rw [List.mem_singleton.1 hb]; exact k2
  · exact h
theorem Cl0.len {N : Nat} {L : List Ob} {roots : List Int} {out : List Nat} (h : Cl0 L roots out) (hl : Lay N 1 L) : out.length ≤ N := nodup_len h.nd fun a ha => (isO_lt hl (h.ob a ha)).2
theorem reach_rc {N : Nat} {L : List Ob} (hl : Lay N 1 L) {roots : List Int} {x : Int} (hx : x ∈ roots) (h : 0 < reachA L x) : Rc L roots (reachA L x) ∧ isO L (reachA L x) := by
  unfold reachA at h ⊢
  split
  · rename_i hc
    exact ⟨.root hx hc.1 hc.2, hc.2⟩
  · rename_i hc
    rw [if_neg hc] at h
    omega
theorem reach_rc2 {N : Nat} {L : List Ob} (hl : Lay N 1 L) {roots : List Int} {o : Ob} (ho : o ∈ L) (hk : o.kind ≠ 1) {x : Int} (hx : x ∈ o.fs) (hr : Rc L roots o.a) (h : 0 < reachA L x) : Rc L roots (reachA L x) ∧ isO L (reachA L x) := by
  unfold reachA at h ⊢
  split
  · rename_i hc
    exact ⟨.step hr ⟨hc.2, o, ho, rfl, hk, x, hx, hc.1, rfl⟩, hc.2⟩
  · rename_i hc
    rw [if_neg hc] at h
    omega
/-- so far: what the first i reach is in -/
structure Cw (L : List Ob) (roots : List Int) (i : Nat) (out : List Nat) : Prop where
  c0 : Cl0 L roots out
  rt : ∀ x ∈ roots, numW x = false → isO L (addrN x) → addrN x ∈ out
  done : ∀ (p a : Nat), p < i → out[p]? = some a → ∀ b, E L a b → b ∈ out
theorem reach_in {L : List Ob} {x : Int} {out : List Nat} (h1 : numW x = false) (h2 : isO L (addrN x)) (h : 1 ≤ addrN x) : addrN x ∈ addO out (reachA L x) := by
  unfold reachA
  rw [if_pos ⟨h1, h2⟩]
  exact addO_self h
theorem Cw.add {L : List Ob} {roots : List Int} {i : Nat} {out : List Nat} (h : Cw L roots i out) (hi : i ≤ out.length) {a : Nat} (h1 : 0 < a → Rc L roots a ∧ isO L a) : Cw L roots i (addO out a) := by
  refine ⟨h.c0.add h1, fun x h2 h3 h4 => addO_mem (h.rt x h2 h3 h4), fun p b hp hb c hE => addO_mem (h.done p b hp ?_ c hE)⟩
  obtain ⟨y, hy⟩ : ∃ y, out[p]? = some y := ⟨_, List.getElem?_eq_getElem (by omega)⟩
  rw [addO_get hy] at hb
  rw [hy, hb]
theorem Cw.next {N : Nat} {L : List Ob} (hl : Lay N 1 L) {roots : List Int} {i : Nat} {out : List Nat} (h : Cw L roots i out) {o : Ob} (ho : o ∈ L) (hi : out[i]? = some o.a) (hf : o.kind ≠ 1 → ∀ x ∈ o.fs, numW x = false → isO L (addrN x) → addrN x ∈ out) : Cw L roots (i + 1) out := by
  refine ⟨h.c0, h.rt, fun p a hp ha b hE => ?_⟩
  by_cases hpi : p < i
  · exact h.done p a hpi ha b hE
  · obtain rfl : p = i := by omega
    rw [hi] at ha
    obtain rfl := Option.some.inj ha
    obtain ⟨h1, q, hq, hqa, hqk, x, hx, hn, rfl⟩ := hE
    have e1 := objA_mem hl hq
    have e2 := objA_mem hl ho
    rw [hqa, e2] at e1
    obtain rfl := Option.some.inj e1
    exact hf hqk x hx hn h1
/-- all that words reach -/
structure Clo (L : List Ob) (roots : List Int) (out : List Nat) : Prop where
  c0 : Cl0 L roots out
  rt : ∀ x ∈ roots, numW x = false → isO L (addrN x) → addrN x ∈ out
  cls : ∀ a b, a ∈ out → E L a b → b ∈ out
theorem snocN (out : List Nat) (r : Nat) : flat encN out ++ [.int .i64 (r : Int)] = flat encN (out ++ [r]) := (flat_snoc encN out r).symm
theorem nil_flat : ([] : List Value) = flat encN [] := rfl
set_option maxRecDepth 10000 attribute [local irreducible] Code.wp wpList Calls Ex Op1 sat bat blk cb own Go.Fw.mp Go.Fw.mpO Go.Fw.mpI Go.Fw.mpE Go.Fw.itr HS Rd Ret wkD Hp Cl Cls Exit.then Exit.inBlock Exit.noGoto bodyPost Go.Fw.flat wk2 Go.Fw.all Go.Fw.owns wpOp
attribute [local irreducible] hdA gaps isA nextA allocA freeA sizeA kindA setA getA whiteZ numW addrW shadeG gcI hpI stepG beginG writeG allocG mu rfI inL findI objA reachA addO

theorem in_spec (w0 : World) (o : Option Addr) (c : Nat) (l : List Nat) (z : Int) (hr : Rd w0 o (flat encN l)) (hl : l.length ≤ 9223372036854775806) : Ret Try.prog 62 #[.slice o l.length c, .int .i64 z] w0 (fun v w => v = .bool (inL l z) ∧ Kp w0 noM w) := by
  have hH : HS w0 noM [] w0 := HS.init w0 noM
  have hsp : Sp o l.length := hr.sp (sz := 1) (flat_length encN_len l) (by omega)
  (refine enter (N := 18) Try.func62 rfl Try.ntmps62 rfl ?_; intro a hA; dsimp only [sl0, Nat.reduceAdd] at hA)
  repeat' (first | (first | (refine GT ?_ ?_ <;> intro hg <;> clear hA a <;> intro a hA <;> (first | exact FA | replace hg := of_decide_eq_true hg | replace hg := of_decide_eq_false hg | skip)) | (refine QT ?_; clear hA a; intro a hA) | (first | (refine BT ?_; clear hA hH; rintro _ w ⟨bN, rfl, hH⟩ a hA) | (refine LT ?_; clear hA hH; rintro _ w ⟨oN, rfl, hH⟩ a hA) | (refine AT ?_; clear hA; rintro _ w ⟨oN, cN, rfl, hH2⟩ a hA; clear hH; have hH := (hH2 _ (by (repeat constructor))).tail; clear hH2) | (refine S0T ?_; clear hH; rintro _ w hH) )) | ((first | refine CT ?_ | (refine DT ?_ ?_ <;> intro hc <;> try (exfalso; omega))) <;> repeat' refine CT ?_) | (first | (refine DSK ?_; clear hA a; intro a hA) | (first | (refine DLT ?_; clear hA hH; rintro _ w ⟨oN, rfl, hH⟩; refine ⟨STT, ?_⟩; intro a hA) | (refine DAT ?_; clear hA; rintro _ w ⟨oN, cN, rfl, hH2⟩; clear hH; have hH := (hH2 _ (by (repeat constructor))).tail; clear hH2; refine ⟨STT, ?_⟩; intro a hA))) )
  refine wp_lpj (S := Nat) (fun i a w => (i ≤ l.length ∧ ∀ (k x : Nat), k < i → l[k]? = some x → (x : Int) ≠ z) ∧ HS w0 noM [] w ∧ Sl 18 [(0, .slice o l.length c), (1, .int .i64 z), (5, .int .i64 i)] a) (fun i => l.length - i)
    (fun a w => inL l z = false ∧ HS w0 noM [] w ∧ Sl 18 [] a) 0 ⟨⟨Nat.zero_le _, fun k x hk => by omega⟩, hH, (hA.sub (by (repeat (first | exact trivial | refine ⟨rfl, ?_⟩))))⟩ ?_ ?_
  · clear hA hH
    rintro i a w ⟨⟨hi, hno⟩, hH, hA⟩
    by_cases hlt : i < l.length
    · obtain ⟨x, hx⟩ : ∃ x, l[i]? = some x := ⟨_, List.getElem?_eq_getElem hlt⟩
      have hcx := encN_at hx
      repeat' (first | (first | (refine GT ?_ ?_ <;> intro hg <;> clear hA a <;> intro a hA <;> (first | exact FA | replace hg := of_decide_eq_true hg | replace hg := of_decide_eq_false hg | skip)) | (refine QT ?_; clear hA a; intro a hA) | (first | (refine BT ?_; clear hA hH; rintro _ w ⟨bN, rfl, hH⟩ a hA) | (refine LT ?_; clear hA hH; rintro _ w ⟨oN, rfl, hH⟩ a hA) | (refine AT ?_; clear hA; rintro _ w ⟨oN, cN, rfl, hH2⟩ a hA; clear hH; have hH := (hH2 _ (by (repeat constructor))).tail; clear hH2) | (refine S0T ?_; clear hH; rintro _ w hH) )) | ((first | refine CT ?_ | (refine DT ?_ ?_ <;> intro hc <;> try (exfalso; omega))) <;> repeat' refine CT ?_) | (first | (refine DSK ?_; clear hA a; intro a hA) | (first | (refine DLT ?_; clear hA hH; rintro _ w ⟨oN, rfl, hH⟩; refine ⟨STT, ?_⟩; intro a hA) | (refine DAT ?_; clear hA; rintro _ w ⟨oN, cN, rfl, hH2⟩; clear hH; have hH := (hH2 _ (by (repeat constructor))).tail; clear hH2; refine ⟨STT, ?_⟩; intro a hA))) )
      · exact rt1 (.inl rfl) rfl hA rfl ⟨by rw [inL_at hx (by assumption)], hH.kp⟩
      · refine ⟨i + 1, ⟨⟨hlt, fun k y hk hy => ?_⟩, hH, (hA.sub (by (repeat (first | exact trivial | refine ⟨rfl, ?_⟩))))⟩, by omega⟩
        rcases Nat.lt_or_ge k i with h | h
        · exact hno k y h hy
        · obtain rfl : k = i := by omega
          rw [hx] at hy
          obtain rfl := Option.some.inj hy
          assumption
    · repeat' (first | (first | (refine GT ?_ ?_ <;> intro hg <;> clear hA a <;> intro a hA <;> (first | exact FA | replace hg := of_decide_eq_true hg | replace hg := of_decide_eq_false hg | skip)) | (refine QT ?_; clear hA a; intro a hA) | (first | (refine BT ?_; clear hA hH; rintro _ w ⟨bN, rfl, hH⟩ a hA) | (refine LT ?_; clear hA hH; rintro _ w ⟨oN, rfl, hH⟩ a hA) | (refine AT ?_; clear hA; rintro _ w ⟨oN, cN, rfl, hH2⟩ a hA; clear hH; have hH := (hH2 _ (by (repeat constructor))).tail; clear hH2) | (refine S0T ?_; clear hH; rintro _ w hH) )) | ((first | refine CT ?_ | (refine DT ?_ ?_ <;> intro hc <;> try (exfalso; omega))) <;> repeat' refine CT ?_) | (first | (refine DSK ?_; clear hA a; intro a hA) | (first | (refine DLT ?_; clear hA hH; rintro _ w ⟨oN, rfl, hH⟩; refine ⟨STT, ?_⟩; intro a hA) | (refine DAT ?_; clear hA; rintro _ w ⟨oN, cN, rfl, hH2⟩; clear hH; have hH := (hH2 _ (by (repeat constructor))).tail; clear hH2; refine ⟨STT, ?_⟩; intro a hA))) )
      exact ⟨inL_no fun k x hk => hno k x (by have := (List.getElem?_eq_some_iff.1 hk).1; omega) hk, hH, (hA.sub (by (repeat (first | exact trivial | refine ⟨rfl, ?_⟩))))⟩
  · clear hA hH
    rintro a w ⟨hno, hH, hA⟩
    repeat' (first | (first | (refine GT ?_ ?_ <;> intro hg <;> clear hA a <;> intro a hA <;> (first | exact FA | replace hg := of_decide_eq_true hg | replace hg := of_decide_eq_false hg | skip)) | (refine QT ?_; clear hA a; intro a hA) | (first | (refine BT ?_; clear hA hH; rintro _ w ⟨bN, rfl, hH⟩ a hA) | (refine LT ?_; clear hA hH; rintro _ w ⟨oN, rfl, hH⟩ a hA) | (refine AT ?_; clear hA; rintro _ w ⟨oN, cN, rfl, hH2⟩ a hA; clear hH; have hH := (hH2 _ (by (repeat constructor))).tail; clear hH2) | (refine S0T ?_; clear hH; rintro _ w hH) )) | ((first | refine CT ?_ | (refine DT ?_ ?_ <;> intro hc <;> try (exfalso; omega))) <;> repeat' refine CT ?_) | (first | (refine DSK ?_; clear hA a; intro a hA) | (first | (refine DLT ?_; clear hA hH; rintro _ w ⟨oN, rfl, hH⟩; refine ⟨STT, ?_⟩; intro a hA) | (refine DAT ?_; clear hA; rintro _ w ⟨oN, cN, rfl, hH2⟩; clear hH; have hH := (hH2 _ (by (repeat constructor))).tail; clear hH2; refine ⟨STT, ?_⟩; intro a hA))) )
    exact rt1 (.inl rfl) rfl hA rfl ⟨by rw [hno], hH.kp⟩

theorem reaches_spec (w0 : World) (b N : Nat) (L : List Ob) (x : Int) (hU : U x) (hL : L.length ≤ 65536) (hR : RfR w0 b N L) : Ret Try.prog 53 #[.pointer (some (bat b 0)), .int .u64 x] w0 (fun v w => v = .int .i64 (reachA L x : Nat) ∧ Kp w0 noM w) := by
  have hH : HS w0 noM [] w0 := HS.init w0 noM
  have haN := addrN_eq hU
  (refine enter (N := 16) Try.func53 rfl Try.ntmps53 rfl ?_; intro a hA; dsimp only [sl0, Nat.reduceAdd] at hA)
  repeat' (first | (first | (refine GT ?_ ?_ <;> intro hg <;> clear hA a <;> intro a hA <;> (first | exact FA | replace hg := of_decide_eq_true hg | replace hg := of_decide_eq_false hg | skip)) | (refine QT ?_; clear hA a; intro a hA) | (first | (refine BT ?_; clear hA hH; rintro _ w ⟨bN, rfl, hH⟩ a hA) | (refine LT ?_; clear hA hH; rintro _ w ⟨oN, rfl, hH⟩ a hA) | (refine AT ?_; clear hA; rintro _ w ⟨oN, cN, rfl, hH2⟩ a hA; clear hH; have hH := (hH2 _ (by (repeat constructor))).tail; clear hH2) | (refine S0T ?_; clear hH; rintro _ w hH) )) | ((first | refine CT ?_ | (refine DT ?_ ?_ <;> intro hc <;> try (exfalso; omega))) <;> repeat' refine CT ?_) | (first | (refine DSK ?_; clear hA a; intro a hA) | (first | (refine DLT ?_; clear hA hH; rintro _ w ⟨oN, rfl, hH⟩; refine ⟨STT, ?_⟩; intro a hA) | (refine DAT ?_; clear hA; rintro _ w ⟨oN, cN, rfl, hH2⟩; clear hH; have hH := (hH2 _ (by (repeat constructor))).tail; clear hH2; refine ⟨STT, ?_⟩; intro a hA))) )
  (refine st_op hA rfl rfl (by decide) (op_call rfl rfl rfl (risnum_spec _ x hU)) ?_; clear hA; rintro _ w ⟨rfl, hk⟩ a hA; replace hH := hH.keep hk; clear hk)
  cases hn : numW x with
  | true =>
    rw [hn] at hA
    repeat' (first | (first | (refine GT ?_ ?_ <;> intro hg <;> clear hA a <;> intro a hA <;> (first | exact FA | replace hg := of_decide_eq_true hg | replace hg := of_decide_eq_false hg | skip)) | (refine QT ?_; clear hA a; intro a hA) | (first | (refine BT ?_; clear hA hH; rintro _ w ⟨bN, rfl, hH⟩ a hA) | (refine LT ?_; clear hA hH; rintro _ w ⟨oN, rfl, hH⟩ a hA) | (refine AT ?_; clear hA; rintro _ w ⟨oN, cN, rfl, hH2⟩ a hA; clear hH; have hH := (hH2 _ (by (repeat constructor))).tail; clear hH2) | (refine S0T ?_; clear hH; rintro _ w hH) )) | ((first | refine CT ?_ | (refine DT ?_ ?_ <;> intro hc <;> try (exfalso; omega))) <;> repeat' refine CT ?_) | (first | (refine DSK ?_; clear hA a; intro a hA) | (first | (refine DLT ?_; clear hA hH; rintro _ w ⟨oN, rfl, hH⟩; refine ⟨STT, ?_⟩; intro a hA) | (refine DAT ?_; clear hA; rintro _ w ⟨oN, cN, rfl, hH2⟩; clear hH; have hH := (hH2 _ (by (repeat constructor))).tail; clear hH2; refine ⟨STT, ?_⟩; intro a hA))) )
    exact rt1 (.inl rfl) rfl hA rfl ⟨by unfold reachA; rw [if_neg (by rw [hn]; simp)]; rfl, hH.kp⟩
  | false =>
    rw [hn] at hA
    repeat' (first | (first | (refine GT ?_ ?_ <;> intro hg <;> clear hA a <;> intro a hA <;> (first | exact FA | replace hg := of_decide_eq_true hg | replace hg := of_decide_eq_false hg | skip)) | (refine QT ?_; clear hA a; intro a hA) | (first | (refine BT ?_; clear hA hH; rintro _ w ⟨bN, rfl, hH⟩ a hA) | (refine LT ?_; clear hA hH; rintro _ w ⟨oN, rfl, hH⟩ a hA) | (refine AT ?_; clear hA; rintro _ w ⟨oN, cN, rfl, hH2⟩ a hA; clear hH; have hH := (hH2 _ (by (repeat constructor))).tail; clear hH2) | (refine S0T ?_; clear hH; rintro _ w hH) )) | ((first | refine CT ?_ | (refine DT ?_ ?_ <;> intro hc <;> try (exfalso; omega))) <;> repeat' refine CT ?_) | (first | (refine DSK ?_; clear hA a; intro a hA) | (first | (refine DLT ?_; clear hA hH; rintro _ w ⟨oN, rfl, hH⟩; refine ⟨STT, ?_⟩; intro a hA) | (refine DAT ?_; clear hA; rintro _ w ⟨oN, cN, rfl, hH2⟩; clear hH; have hH := (hH2 _ (by (repeat constructor))).tail; clear hH2; refine ⟨STT, ?_⟩; intro a hA))) )
    (refine st_op hA rfl rfl (by decide) (op_call rfl rfl rfl (raddr_spec _ x hU)) ?_; clear hA; rintro _ w ⟨rfl, hk⟩ a hA; replace hH := hH.keep hk; clear hk)
    repeat' (first | (first | (refine GT ?_ ?_ <;> intro hg <;> clear hA a <;> intro a hA <;> (first | exact FA | replace hg := of_decide_eq_true hg | replace hg := of_decide_eq_false hg | skip)) | (refine QT ?_; clear hA a; intro a hA) | (first | (refine BT ?_; clear hA hH; rintro _ w ⟨bN, rfl, hH⟩ a hA) | (refine LT ?_; clear hA hH; rintro _ w ⟨oN, rfl, hH⟩ a hA) | (refine AT ?_; clear hA; rintro _ w ⟨oN, cN, rfl, hH2⟩ a hA; clear hH; have hH := (hH2 _ (by (repeat constructor))).tail; clear hH2) | (refine S0T ?_; clear hH; rintro _ w hH) )) | ((first | refine CT ?_ | (refine DT ?_ ?_ <;> intro hc <;> try (exfalso; omega))) <;> repeat' refine CT ?_) | (first | (refine DSK ?_; clear hA a; intro a hA) | (first | (refine DLT ?_; clear hA hH; rintro _ w ⟨oN, rfl, hH⟩; refine ⟨STT, ?_⟩; intro a hA) | (refine DAT ?_; clear hA; rintro _ w ⟨oN, cN, rfl, hH2⟩; clear hH; have hH := (hH2 _ (by (repeat constructor))).tail; clear hH2; refine ⟨STT, ?_⟩; intro a hA))) )
    (refine st_op hA rfl rfl (by decide) (op_call rfl rfl rfl (rfind_spec _ b N L (addrW x) hL (hR.keep hH.kp))) ?_; clear hA; rintro _ w ⟨rfl, hk⟩ a hA; replace hH := hH.keep hk; clear hk)
    have hf := find_neg (L := L) (z := addrW x)
    by_cases hO : isO L (addrN x)
    · have hi : isA L (addrW x) = true := by rw [← haN]; exact isO_iff.2 hO
      have hge : ¬ findI L (addrW x) < 0 := fun h => by rw [hf.1 h] at hi; cases hi
      repeat' (first | (first | (refine GT ?_ ?_ <;> intro hg <;> clear hA a <;> intro a hA <;> (first | exact FA | replace hg := of_decide_eq_true hg | replace hg := of_decide_eq_false hg | skip)) | (refine QT ?_; clear hA a; intro a hA) | (first | (refine BT ?_; clear hA hH; rintro _ w ⟨bN, rfl, hH⟩ a hA) | (refine LT ?_; clear hA hH; rintro _ w ⟨oN, rfl, hH⟩ a hA) | (refine AT ?_; clear hA; rintro _ w ⟨oN, cN, rfl, hH2⟩ a hA; clear hH; have hH := (hH2 _ (by (repeat constructor))).tail; clear hH2) | (refine S0T ?_; clear hH; rintro _ w hH) )) | ((first | refine CT ?_ | (refine DT ?_ ?_ <;> intro hc <;> try (exfalso; omega))) <;> repeat' refine CT ?_) | (first | (refine DSK ?_; clear hA a; intro a hA) | (first | (refine DLT ?_; clear hA hH; rintro _ w ⟨oN, rfl, hH⟩; refine ⟨STT, ?_⟩; intro a hA) | (refine DAT ?_; clear hA; rintro _ w ⟨oN, cN, rfl, hH2⟩; clear hH; have hH := (hH2 _ (by (repeat constructor))).tail; clear hH2; refine ⟨STT, ?_⟩; intro a hA))) )
      (refine st_op hA rfl rfl (by decide) (op_call rfl rfl rfl (raddr_spec _ x hU)) ?_; clear hA; rintro _ w ⟨rfl, hk⟩ a hA; replace hH := hH.keep hk; clear hk)
      repeat' (first | (first | (refine GT ?_ ?_ <;> intro hg <;> clear hA a <;> intro a hA <;> (first | exact FA | replace hg := of_decide_eq_true hg | replace hg := of_decide_eq_false hg | skip)) | (refine QT ?_; clear hA a; intro a hA) | (first | (refine BT ?_; clear hA hH; rintro _ w ⟨bN, rfl, hH⟩ a hA) | (refine LT ?_; clear hA hH; rintro _ w ⟨oN, rfl, hH⟩ a hA) | (refine AT ?_; clear hA; rintro _ w ⟨oN, cN, rfl, hH2⟩ a hA; clear hH; have hH := (hH2 _ (by (repeat constructor))).tail; clear hH2) | (refine S0T ?_; clear hH; rintro _ w hH) )) | ((first | refine CT ?_ | (refine DT ?_ ?_ <;> intro hc <;> try (exfalso; omega))) <;> repeat' refine CT ?_) | (first | (refine DSK ?_; clear hA a; intro a hA) | (first | (refine DLT ?_; clear hA hH; rintro _ w ⟨oN, rfl, hH⟩; refine ⟨STT, ?_⟩; intro a hA) | (refine DAT ?_; clear hA; rintro _ w ⟨oN, cN, rfl, hH2⟩; clear hH; have hH := (hH2 _ (by (repeat constructor))).tail; clear hH2; refine ⟨STT, ?_⟩; intro a hA))) )
      exact rt1 (.inl rfl) rfl hA rfl ⟨by unfold reachA; rw [if_pos ⟨hn, hO⟩, haN], hH.kp⟩
    · have hi : isA L (addrW x) = false := by
        cases hc : isA L (addrW x) with
        | false => rfl
        | true => rw [← haN] at hc; exact absurd (isO_iff.1 hc) hO
      have hlt : findI L (addrW x) < 0 := hf.2 hi
      repeat' (first | (first | (refine GT ?_ ?_ <;> intro hg <;> clear hA a <;> intro a hA <;> (first | exact FA | replace hg := of_decide_eq_true hg | replace hg := of_decide_eq_false hg | skip)) | (refine QT ?_; clear hA a; intro a hA) | (first | (refine BT ?_; clear hA hH; rintro _ w ⟨bN, rfl, hH⟩ a hA) | (refine LT ?_; clear hA hH; rintro _ w ⟨oN, rfl, hH⟩ a hA) | (refine AT ?_; clear hA; rintro _ w ⟨oN, cN, rfl, hH2⟩ a hA; clear hH; have hH := (hH2 _ (by (repeat constructor))).tail; clear hH2) | (refine S0T ?_; clear hH; rintro _ w hH) )) | ((first | refine CT ?_ | (refine DT ?_ ?_ <;> intro hc <;> try (exfalso; omega))) <;> repeat' refine CT ?_) | (first | (refine DSK ?_; clear hA a; intro a hA) | (first | (refine DLT ?_; clear hA hH; rintro _ w ⟨oN, rfl, hH⟩; refine ⟨STT, ?_⟩; intro a hA) | (refine DAT ?_; clear hA; rintro _ w ⟨oN, cN, rfl, hH2⟩; clear hH; have hH := (hH2 _ (by (repeat constructor))).tail; clear hH2; refine ⟨STT, ?_⟩; intro a hA))) )
      exact rt1 (.inl rfl) rfl hA rfl ⟨by unfold reachA; rw [if_neg (fun h => hO h.2)]; rfl, hH.kp⟩
theorem find_is {N : Nat} {L : List Ob} (hl : Lay N 1 L) {a : Nat} (h : isO L a) : ∃ (j : Nat) (o : Ob), findI L a = j ∧ L[j]? = some o ∧ o.a = a ∧ o ∈ L := by
  obtain ⟨o, ho, rfl⟩ := h
  have e := objA_mem hl ho
  rcases findI_obj L (o.a : Int) with ⟨h1, _⟩ | ⟨i, o', h1, h2, h3⟩
  · rw [e] at h1; cases h1
  · rw [e] at h1
    obtain rfl := Option.some.inj h1
    exact ⟨i, o, h2, h3, rfl, ho⟩

set_option maxHeartbeats 4000000 in
theorem Closure_spec (w0 : World) (b N : Nat) (L : List Ob) (oR : Option Addr) (cR : Nat) (roots : List Int) (hok : Ok N L) (hWO : WO L) (hR : RfR w0 b N L) (hrR : Rd w0 oR (flat encW roots)) (hUR : ∀ x ∈ roots, U x) (hlR : roots.length ≤ 1000) :
    Ret Try.prog 23 #[.pointer (some (bat b 0)), .slice oR roots.length cR] w0 (fun v w => ∃ (o : Option Addr) (c : Nat) (out : List Nat), Clo L roots out ∧ v = .slice o out.length c ∧ HS w0 noM [own 3 1 o out.length c (flat encN out)] w) := by
  have hH : HS w0 noM [] w0 := HS.init w0 noM
  have hspR : Sp oR roots.length := hrR.sp (sz := 1) (flat_length encW_len roots) (by omega)
  have hl := hok.lay
  have hL := hok.len
  have hn2 := hok.n2
  obtain ⟨q, hq⟩ := id hR
  have hspq := hq.sp
  have hq1 := hq.c1
  have hqO := hq.rO
  have pos : ∀ x : Int, isO L (addrN x) → 1 ≤ addrN x := fun x h => (isO_lt hl h).1
  (refine enter (N := 87) Try.func23 rfl Try.ntmps23 rfl ?_; intro a hA; dsimp only [sl0, Nat.reduceAdd] at hA)
  repeat' (first | (first | (refine GT ?_ ?_ <;> intro hg <;> clear hA a <;> intro a hA <;> (first | exact FA | replace hg := of_decide_eq_true hg | replace hg := of_decide_eq_false hg | skip)) | (refine QT ?_; clear hA a; intro a hA) | (first | (refine BT ?_; clear hA hH; rintro _ w ⟨bN, rfl, hH⟩ a hA) | (refine LT ?_; clear hA hH; rintro _ w ⟨oN, rfl, hH⟩ a hA) | (refine AT ?_; clear hA; rintro _ w ⟨oN, cN, rfl, hH2⟩ a hA; clear hH; have hH := (hH2 _ (by (repeat constructor))).tail; clear hH2) | (refine S0T ?_; clear hH; rintro _ w hH) )) | ((first | refine CT ?_ | (refine DT ?_ ?_ <;> intro hc <;> try (exfalso; omega))) <;> repeat' refine CT ?_) | (first | (refine DSK ?_; clear hA a; intro a hA) | (first | (refine DLT ?_; clear hA hH; rintro _ w ⟨oN, rfl, hH⟩; refine ⟨STT, ?_⟩; intro a hA) | (refine DAT ?_; clear hA; rintro _ w ⟨oN, cN, rfl, hH2⟩; clear hH; have hH := (hH2 _ (by (repeat constructor))).tail; clear hH2; refine ⟨STT, ?_⟩; intro a hA))) )
  rw [nil_flat] at hH
  refine wp_lpj (S := Nat × List Nat × Option Addr × Nat) (fun s a w => (s.1 ≤ roots.length ∧ Cl0 L roots s.2.1 ∧ ∀ (k : Nat) (x : Int), k < s.1 → roots[k]? = some x → numW x = false → isO L (addrN x) → addrN x ∈ s.2.1) ∧ HS w0 noM [own 3 1 s.2.2.1 s.2.1.length s.2.2.2 (flat encN s.2.1)] w ∧ Sl 87 [(0, .pointer (some (bat b 0))), (1, .slice oR roots.length cR), (5, .slice s.2.2.1 s.2.1.length s.2.2.2), (6, .int .i64 s.1)] a) (fun s => roots.length - s.1)
    (fun a w => ∃ (out : List Nat) (o : Option Addr) (c : Nat), Cw L roots 0 out ∧ HS w0 noM [own 3 1 o out.length c (flat encN out)] w ∧ Sl 87 [(0, .pointer (some (bat b 0))), (5, .slice o out.length c)] a) (0, [], oN, 0) ⟨⟨Nat.zero_le _, ⟨List.nodup_nil, fun a ha => absurd ha (List.not_mem_nil), fun a ha => absurd ha (List.not_mem_nil)⟩, fun k x hk => absurd hk (Nat.not_lt_zero _)⟩, hH, (hA.sub (by (repeat (first | exact trivial | refine ⟨rfl, ?_⟩))))⟩ ?_ ?_
  · clear hA hH
    rintro ⟨i, out, o, c⟩ a w ⟨⟨hi, hC, hrt⟩, hH, hA⟩
    dsimp only at hi hC hrt hH hA
    by_cases hlt : i < roots.length
    rotate_left
    · repeat' (first | (first | (refine GT ?_ ?_ <;> intro hg <;> clear hA a <;> intro a hA <;> (first | exact FA | replace hg := of_decide_eq_true hg | replace hg := of_decide_eq_false hg | skip)) | (refine QT ?_; clear hA a; intro a hA) | (first | (refine BT ?_; clear hA hH; rintro _ w ⟨bN, rfl, hH⟩ a hA) | (refine LT ?_; clear hA hH; rintro _ w ⟨oN, rfl, hH⟩ a hA) | (refine AT ?_; clear hA; rintro _ w ⟨oN, cN, rfl, hH2⟩ a hA; clear hH; have hH := (hH2 _ (by (repeat constructor))).tail; clear hH2) | (refine S0T ?_; clear hH; rintro _ w hH) )) | ((first | refine CT ?_ | (refine DT ?_ ?_ <;> intro hc <;> try (exfalso; omega))) <;> repeat' refine CT ?_) | (first | (refine DSK ?_; clear hA a; intro a hA) | (first | (refine DLT ?_; clear hA hH; rintro _ w ⟨oN, rfl, hH⟩; refine ⟨STT, ?_⟩; intro a hA) | (refine DAT ?_; clear hA; rintro _ w ⟨oN, cN, rfl, hH2⟩; clear hH; have hH := (hH2 _ (by (repeat constructor))).tail; clear hH2; refine ⟨STT, ?_⟩; intro a hA))) )
      exact ⟨out, o, c, ⟨hC, fun x hx h1 h2 => by obtain ⟨k, hk⟩ := List.getElem?_of_mem hx; exact hrt k x (by have := (List.getElem?_eq_some_iff.1 hk).1; omega) hk h1 h2, fun p a hp => absurd hp (Nat.not_lt_zero _)⟩, hH, (hA.sub (by (repeat (first | exact trivial | refine ⟨rfl, ?_⟩))))⟩
    obtain ⟨x, hx⟩ : ∃ x, roots[i]? = some x := ⟨_, List.getElem?_eq_getElem hlt⟩
    have hxm := List.mem_of_getElem? hx
    have hcx : (flat encW roots)[i * 1]? = some (.int .u64 x) := flat_get0 encW_len hx rfl
    have hCn := hC.add (reach_rc hl hxm)
    have hrt2 : ∀ (k : Nat) (y : Int), k < i + 1 → roots[k]? = some y → numW y = false → isO L (addrN y) → addrN y ∈ addO out (reachA L x) := fun k y hk hy h1 h2 => by
      rcases Nat.lt_or_ge k i with h | h
      · exact addO_mem (hrt k y h hy h1 h2)
      · obtain rfl : k = i := by omega
        rw [hx] at hy
        obtain rfl := Option.some.inj hy
        exact reach_in h1 h2 (pos _ h2)
    have hle := hC.len hl
    repeat' (first | (first | (refine GT ?_ ?_ <;> intro hg <;> clear hA a <;> intro a hA <;> (first | exact FA | replace hg := of_decide_eq_true hg | replace hg := of_decide_eq_false hg | skip)) | (refine QT ?_; clear hA a; intro a hA) | (first | (refine BT ?_; clear hA hH; rintro _ w ⟨bN, rfl, hH⟩ a hA) | (refine LT ?_; clear hA hH; rintro _ w ⟨oN, rfl, hH⟩ a hA) | (refine AT ?_; clear hA; rintro _ w ⟨oN, cN, rfl, hH2⟩ a hA; clear hH; have hH := (hH2 _ (by (repeat constructor))).tail; clear hH2) | (refine S0T ?_; clear hH; rintro _ w hH) )) | ((first | refine CT ?_ | (refine DT ?_ ?_ <;> intro hc <;> try (exfalso; omega))) <;> repeat' refine CT ?_) | (first | (refine DSK ?_; clear hA a; intro a hA) | (first | (refine DLT ?_; clear hA hH; rintro _ w ⟨oN, rfl, hH⟩; refine ⟨STT, ?_⟩; intro a hA) | (refine DAT ?_; clear hA; rintro _ w ⟨oN, cN, rfl, hH2⟩; clear hH; have hH := (hH2 _ (by (repeat constructor))).tail; clear hH2; refine ⟨STT, ?_⟩; intro a hA))) )
    (refine st_op hA rfl rfl (by decide) (op_call rfl rfl rfl (reaches_spec _ b N L x (hUR x hxm) hL (hR.keep hH.kp))) ?_; clear hA; rintro _ w ⟨rfl, hk⟩ a hA; replace hH := hH.keep hk; clear hk)
    have hrdO := hH.own_rd (o := o) (xs := flat encN out) (by exact MEMT)
    have hxx : addO out (reachA L x) = if 0 < reachA L x ∧ reachA L x ∉ out then out ++ [reachA L x] else out := by unfold addO; rfl
    generalize hrx : reachA L x = r at *
    by_cases hpos : 0 < r
    · by_cases hm : r ∈ out
      · rw [if_neg (fun h => h.2 hm)] at hxx
        rw [hxx] at hCn hrt2
        have hin := inL_nat.2 hm
        repeat' (first | (first | (refine GT ?_ ?_ <;> intro hg <;> clear hA a <;> intro a hA <;> (first | exact FA | replace hg := of_decide_eq_true hg | replace hg := of_decide_eq_false hg | skip)) | (refine QT ?_; clear hA a; intro a hA) | (first | (refine BT ?_; clear hA hH; rintro _ w ⟨bN, rfl, hH⟩ a hA) | (refine LT ?_; clear hA hH; rintro _ w ⟨oN, rfl, hH⟩ a hA) | (refine AT ?_; clear hA; rintro _ w ⟨oN, cN, rfl, hH2⟩ a hA; clear hH; have hH := (hH2 _ (by (repeat constructor))).tail; clear hH2) | (refine S0T ?_; clear hH; rintro _ w hH) | ((refine st_op hA rfl rfl (by decide) (op_call rfl rfl rfl (in_spec _ o c out r (hH.own_rd (by exact MEMT)) (by omega))) ?_; clear hA; rintro _ w ⟨rfl, hk⟩ a hA; replace hH := hH.keep hk; clear hk); rw [hin] at hA))) | ((first | refine CT ?_ | (refine DT ?_ ?_ <;> intro hc <;> try (exfalso; omega))) <;> repeat' refine CT ?_) | (first | (refine DSK ?_; clear hA a; intro a hA) | (first | (refine DLT ?_; clear hA hH; rintro _ w ⟨oN, rfl, hH⟩; refine ⟨STT, ?_⟩; intro a hA) | (refine DAT ?_; clear hA; rintro _ w ⟨oN, cN, rfl, hH2⟩; clear hH; have hH := (hH2 _ (by (repeat constructor))).tail; clear hH2; refine ⟨STT, ?_⟩; intro a hA))) )
        exact ⟨(i + 1, out, o, c), ⟨⟨hlt, hCn, hrt2⟩, hH, (hA.sub (by (repeat (first | exact trivial | refine ⟨rfl, ?_⟩))))⟩, by show roots.length - (i + 1) < roots.length - i; omega⟩
      · rw [if_pos ⟨hpos, hm⟩] at hxx
        rw [hxx] at hCn hrt2
        have hin : inL out (r : Int) = false := by
          cases hc : inL out (r : Int) with
          | false => rfl
          | true => exact absurd (inL_nat.1 hc) hm
        have hl1 : out.length + 1 = (out ++ [r]).length := by rw [List.length_append]; rfl
        repeat' (first | (first | (refine GT ?_ ?_ <;> intro hg <;> clear hA a <;> intro a hA <;> (first | exact FA | replace hg := of_decide_eq_true hg | replace hg := of_decide_eq_false hg | skip)) | (refine QT ?_; clear hA a; intro a hA) | (first | (refine BT ?_; clear hA hH; rintro _ w ⟨bN, rfl, hH⟩ a hA) | (refine LT ?_; clear hA hH; rintro _ w ⟨oN, rfl, hH⟩ a hA) | (refine AT ?_; clear hA; rintro _ w ⟨oN, cN, rfl, hH2⟩ a hA; clear hH; have hH := (hH2 _ (by (repeat constructor))).tail; clear hH2) | (refine S0T ?_; clear hH; rintro _ w hH) | ((refine st_op hA rfl rfl (by decide) (op_call rfl rfl rfl (in_spec _ o c out r (hH.own_rd (by exact MEMT)) (by omega))) ?_; clear hA; rintro _ w ⟨rfl, hk⟩ a hA; replace hH := hH.keep hk; clear hk); rw [hin] at hA))) | ((first | refine CT ?_ | (refine DT ?_ ?_ <;> intro hc <;> try (exfalso; omega))) <;> repeat' refine CT ?_) | (first | (refine DSK ?_; clear hA a; intro a hA) | (first | (refine DLT ?_; clear hA hH; rintro _ w ⟨oN, rfl, hH⟩; refine ⟨STT, ?_⟩; intro a hA) | (refine DAT ?_; clear hA; rintro _ w ⟨oN, cN, rfl, hH2⟩; clear hH; have hH := (hH2 _ (by (repeat constructor))).tail; clear hH2; refine ⟨STT, ?_⟩; intro a hA))) )
        rw [snocN, hl1] at hH
        rw [hl1] at hA
        exact ⟨(i + 1, out ++ [r], oN, cN), ⟨⟨hlt, hCn, hrt2⟩, hH, (hA.sub (by (repeat (first | exact trivial | refine ⟨rfl, ?_⟩))))⟩, by show roots.length - (i + 1) < roots.length - i; omega⟩
    · rw [if_neg (fun h => hpos h.1)] at hxx
      rw [hxx] at hCn hrt2
      repeat' (first | (first | (refine GT ?_ ?_ <;> intro hg <;> clear hA a <;> intro a hA <;> (first | exact FA | replace hg := of_decide_eq_true hg | replace hg := of_decide_eq_false hg | skip)) | (refine QT ?_; clear hA a; intro a hA) | (first | (refine BT ?_; clear hA hH; rintro _ w ⟨bN, rfl, hH⟩ a hA) | (refine LT ?_; clear hA hH; rintro _ w ⟨oN, rfl, hH⟩ a hA) | (refine AT ?_; clear hA; rintro _ w ⟨oN, cN, rfl, hH2⟩ a hA; clear hH; have hH := (hH2 _ (by (repeat constructor))).tail; clear hH2) | (refine S0T ?_; clear hH; rintro _ w hH) )) | ((first | refine CT ?_ | (refine DT ?_ ?_ <;> intro hc <;> try (exfalso; omega))) <;> repeat' refine CT ?_) | (first | (refine DSK ?_; clear hA a; intro a hA) | (first | (refine DLT ?_; clear hA hH; rintro _ w ⟨oN, rfl, hH⟩; refine ⟨STT, ?_⟩; intro a hA) | (refine DAT ?_; clear hA; rintro _ w ⟨oN, cN, rfl, hH2⟩; clear hH; have hH := (hH2 _ (by (repeat constructor))).tail; clear hH2; refine ⟨STT, ?_⟩; intro a hA))) )
      exact ⟨(i + 1, out, o, c), ⟨⟨hlt, hCn, hrt2⟩, hH, (hA.sub (by (repeat (first | exact trivial | refine ⟨rfl, ?_⟩))))⟩, by show roots.length - (i + 1) < roots.length - i; omega⟩
  clear hA hH
  rintro a w ⟨out, o, c, hC, hH, hA⟩
  repeat' (first | (first | (refine GT ?_ ?_ <;> intro hg <;> clear hA a <;> intro a hA <;> (first | exact FA | replace hg := of_decide_eq_true hg | replace hg := of_decide_eq_false hg | skip)) | (refine QT ?_; clear hA a; intro a hA) | (first | (refine BT ?_; clear hA hH; rintro _ w ⟨bN, rfl, hH⟩ a hA) | (refine LT ?_; clear hA hH; rintro _ w ⟨oN, rfl, hH⟩ a hA) | (refine AT ?_; clear hA; rintro _ w ⟨oN, cN, rfl, hH2⟩ a hA; clear hH; have hH := (hH2 _ (by (repeat constructor))).tail; clear hH2) | (refine S0T ?_; clear hH; rintro _ w hH) )) | ((first | refine CT ?_ | (refine DT ?_ ?_ <;> intro hc <;> try (exfalso; omega))) <;> repeat' refine CT ?_) | (first | (refine DSK ?_; clear hA a; intro a hA) | (first | (refine DLT ?_; clear hA hH; rintro _ w ⟨oN, rfl, hH⟩; refine ⟨STT, ?_⟩; intro a hA) | (refine DAT ?_; clear hA; rintro _ w ⟨oN, cN, rfl, hH2⟩; clear hH; have hH := (hH2 _ (by (repeat constructor))).tail; clear hH2; refine ⟨STT, ?_⟩; intro a hA))) )
  have bnd : ∀ {out : List Nat}, Cl0 L roots out → out.length ≤ N := fun h => h.len hl
  refine wp_lpj (S := Nat × List Nat × Option Addr × Nat) (fun s a w => (s.1 ≤ s.2.1.length ∧ Cw L roots s.1 s.2.1) ∧ HS w0 noM [own 3 1 s.2.2.1 s.2.1.length s.2.2.2 (flat encN s.2.1)] w ∧ Sl 87 [(0, .pointer (some (bat b 0))), (5, .slice s.2.2.1 s.2.1.length s.2.2.2), (8, .int .i64 s.1)] a) (fun s => N - s.1)
    (fun a w => ∃ (out : List Nat) (o : Option Addr) (c : Nat), Cw L roots out.length out ∧ HS w0 noM [own 3 1 o out.length c (flat encN out)] w ∧ Sl 87 [(5, .slice o out.length c)] a) (0, out, o, c) ⟨⟨Nat.zero_le _, hC⟩, hH, (hA.sub (by (repeat (first | exact trivial | refine ⟨rfl, ?_⟩))))⟩ ?_ ?_
  rotate_left
  · clear hA hH
    rintro a w ⟨out, o, c, hC, hH, hA⟩
    repeat' (first | (first | (refine GT ?_ ?_ <;> intro hg <;> clear hA a <;> intro a hA <;> (first | exact FA | replace hg := of_decide_eq_true hg | replace hg := of_decide_eq_false hg | skip)) | (refine QT ?_; clear hA a; intro a hA) | (first | (refine BT ?_; clear hA hH; rintro _ w ⟨bN, rfl, hH⟩ a hA) | (refine LT ?_; clear hA hH; rintro _ w ⟨oN, rfl, hH⟩ a hA) | (refine AT ?_; clear hA; rintro _ w ⟨oN, cN, rfl, hH2⟩ a hA; clear hH; have hH := (hH2 _ (by (repeat constructor))).tail; clear hH2) | (refine S0T ?_; clear hH; rintro _ w hH) )) | ((first | refine CT ?_ | (refine DT ?_ ?_ <;> intro hc <;> try (exfalso; omega))) <;> repeat' refine CT ?_) | (first | (refine DSK ?_; clear hA a; intro a hA) | (first | (refine DLT ?_; clear hA hH; rintro _ w ⟨oN, rfl, hH⟩; refine ⟨STT, ?_⟩; intro a hA) | (refine DAT ?_; clear hA; rintro _ w ⟨oN, cN, rfl, hH2⟩; clear hH; have hH := (hH2 _ (by (repeat constructor))).tail; clear hH2; refine ⟨STT, ?_⟩; intro a hA))) )
    exact rt1 (.inl rfl) rfl hA rfl ⟨o, c, out, ⟨hC.c0, hC.rt, fun a b ha hE => by obtain ⟨p, hp⟩ := List.getElem?_of_mem ha; exact hC.done p a (List.getElem?_eq_some_iff.1 hp).1 hp b hE⟩, rfl, hH⟩
  clear hA hH hC
  rintro ⟨i, out, o, c⟩ a w ⟨⟨hi, hC⟩, hH, hA⟩
  dsimp only at hi hC hH hA
  have hle := bnd hC.c0
  by_cases hlt : i < out.length
  rotate_left
  · obtain rfl : i = out.length := by omega
    repeat' (first | (first | (refine GT ?_ ?_ <;> intro hg <;> clear hA a <;> intro a hA <;> (first | exact FA | replace hg := of_decide_eq_true hg | replace hg := of_decide_eq_false hg | skip)) | (refine QT ?_; clear hA a; intro a hA) | (first | (refine BT ?_; clear hA hH; rintro _ w ⟨bN, rfl, hH⟩ a hA) | (refine LT ?_; clear hA hH; rintro _ w ⟨oN, rfl, hH⟩ a hA) | (refine AT ?_; clear hA; rintro _ w ⟨oN, cN, rfl, hH2⟩ a hA; clear hH; have hH := (hH2 _ (by (repeat constructor))).tail; clear hH2) | (refine S0T ?_; clear hH; rintro _ w hH) )) | ((first | refine CT ?_ | (refine DT ?_ ?_ <;> intro hc <;> try (exfalso; omega))) <;> repeat' refine CT ?_) | (first | (refine DSK ?_; clear hA a; intro a hA) | (first | (refine DLT ?_; clear hA hH; rintro _ w ⟨oN, rfl, hH⟩; refine ⟨STT, ?_⟩; intro a hA) | (refine DAT ?_; clear hA; rintro _ w ⟨oN, cN, rfl, hH2⟩; clear hH; have hH := (hH2 _ (by (repeat constructor))).tail; clear hH2; refine ⟨STT, ?_⟩; intro a hA))) )
    exact ⟨out, o, c, hC, hH, (hA.sub (by (repeat (first | exact trivial | refine ⟨rfl, ?_⟩))))⟩
  obtain ⟨a0, ha0⟩ : ∃ x, out[i]? = some x := ⟨_, List.getElem?_eq_getElem hlt⟩
  obtain ⟨j, o0, hj, hLj, rfl, hoL⟩ := find_is hl (hC.c0.ob a0 (List.mem_of_getElem? ha0))
  obtain ⟨d, cd, hd, hrd, ca, ck, cf⟩ := hq.at hLj
  have hkd := hok.kd o0 hoL
  have hvs := flat_all encO_len (zip_at hLj hd)
  have hspd : Sp d o0.fs.length := hrd.sp (sz := 1) (flat_length encW_len o0.fs) (by omega)
  have hjl := (List.getElem?_eq_some_iff.1 hLj).1
  have hca : (flat encN out)[i * 1]? = some (.int .i64 (o0.a : Int)) := encN_at ha0
  repeat' (first | (first | (refine GT ?_ ?_ <;> intro hg <;> clear hA a <;> intro a hA <;> (first | exact FA | replace hg := of_decide_eq_true hg | replace hg := of_decide_eq_false hg | skip)) | (refine QT ?_; clear hA a; intro a hA) | (first | (refine BT ?_; clear hA hH; rintro _ w ⟨bN, rfl, hH⟩ a hA) | (refine LT ?_; clear hA hH; rintro _ w ⟨oN, rfl, hH⟩ a hA) | (refine AT ?_; clear hA; rintro _ w ⟨oN, cN, rfl, hH2⟩ a hA; clear hH; have hH := (hH2 _ (by (repeat constructor))).tail; clear hH2) | (refine S0T ?_; clear hH; rintro _ w hH) )) | ((first | refine CT ?_ | (refine DT ?_ ?_ <;> intro hc <;> try (exfalso; omega))) <;> repeat' refine CT ?_) | (first | (refine DSK ?_; clear hA a; intro a hA) | (first | (refine DLT ?_; clear hA hH; rintro _ w ⟨oN, rfl, hH⟩; refine ⟨STT, ?_⟩; intro a hA) | (refine DAT ?_; clear hA; rintro _ w ⟨oN, cN, rfl, hH2⟩; clear hH; have hH := (hH2 _ (by (repeat constructor))).tail; clear hH2; refine ⟨STT, ?_⟩; intro a hA))) )
  refine wp_drawT (qs [0, 1, 2, 3, 4, 5, 6, 7, 8] (.two 9 12 (.q 10 (.q 11 (.one 12 (.one 13 .nil)))) (.one 9 (.q 10 (.q 11 (.one 13 .nil)))))) (fun a w => ∃ bN, HS w0 noM [cb bN 53 [.int .i64 o0.a, .int .i64 o0.kind, .slice d o0.fs.length cd], own 3 1 o out.length c (flat encN out)] w ∧ Sl 87 [(0, .pointer (some (bat b 0))), (5, .slice o out.length c), (8, .int .i64 i), (9, .pointer (some (bat bN 0)))] a) mixed (by decide +kernel) hH ?_ ?_
  · replace hH := hH.drew
    (repeat (apply dt_ex hA rfl rfl rfl (by decide); (first | exact EXT | exact EXT2 ); clear hA a; intro a hA))
    apply dt_two
    · (refine dt_op hA rfl rfl rfl (by decide) (op_call rfl rfl rfl (rfind_spec _ b N L _ hL (hR.keep hH.kp))) ?_; clear hA; rintro _ w ⟨rfl, hk⟩; replace hH := hH.keep hk; clear hk; refine ⟨(by first | exact hH | exact hH.tail), ?_⟩; intro a hA)
      rw [hj] at hA
      (repeat (apply dt_ex hA rfl rfl rfl (by decide); (first | exact EXT | exact EXT2 ); clear hA a; intro a hA))
      (apply dt_op hA rfl rfl rfl (by decide); apply op_alloc; exact hH; clear hA hH; rintro _ w ⟨bN, rfl, hH⟩; refine ⟨hH.tail, ?_⟩; intro a hA)
      (apply dt_op0 hA rfl rfl rfl; (first | (apply op_store1; rfl; rfl; rfl; exact hH; (repeat constructor)) | (apply op_store_agg; rfl; rfl; exact hH; (repeat constructor); (repeat rfl))); clear hH; rintro _ w hH; refine ⟨hH.tail, ?_⟩; apply dt_nil)
      exact ⟨bN, hH, (hA.sub (by (repeat (first | exact trivial | refine ⟨rfl, ?_⟩))))⟩
    · (apply dt_op hA rfl rfl rfl (by decide); apply op_alloc; exact hH; clear hA hH; rintro _ w ⟨bN, rfl, hH⟩; refine ⟨hH.tail, ?_⟩; intro a hA)
      (refine dt_op hA rfl rfl rfl (by decide) (op_call rfl rfl rfl (rfind_spec _ b N L _ hL (hR.keep hH.kp))) ?_; clear hA; rintro _ w ⟨rfl, hk⟩; replace hH := hH.keep hk; clear hk; refine ⟨(by first | exact hH | exact hH.tail), ?_⟩; intro a hA)
      rw [hj] at hA
      (repeat (apply dt_ex hA rfl rfl rfl (by decide); (first | exact EXT | exact EXT2 ); clear hA a; intro a hA))
      (apply dt_op0 hA rfl rfl rfl; (first | (apply op_store1; rfl; rfl; rfl; exact hH; (repeat constructor)) | (apply op_store_agg; rfl; rfl; exact hH; (repeat constructor); (repeat rfl))); clear hH; rintro _ w hH; refine ⟨hH.tail, ?_⟩; apply dt_nil)
      exact ⟨bN, hH, (hA.sub (by (repeat (first | exact trivial | refine ⟨rfl, ?_⟩))))⟩
  clear hA hH
  rintro a w ⟨bN, hH, hA⟩
  repeat' (first | (first | (refine GT ?_ ?_ <;> intro hg <;> clear hA a <;> intro a hA <;> (first | exact FA | replace hg := of_decide_eq_true hg | replace hg := of_decide_eq_false hg | skip)) | (refine QT ?_; clear hA a; intro a hA) | (first | (refine BT ?_; clear hA hH; rintro _ w ⟨bN, rfl, hH⟩ a hA) | (refine LT ?_; clear hA hH; rintro _ w ⟨oN, rfl, hH⟩ a hA) | (refine AT ?_; clear hA; rintro _ w ⟨oN, cN, rfl, hH2⟩ a hA; clear hH; have hH := (hH2 _ (by (repeat constructor))).tail; clear hH2) | (refine S0T ?_; clear hH; rintro _ w hH) )) | ((first | refine CT ?_ | (refine DT ?_ ?_ <;> intro hc <;> try (exfalso; omega))) <;> repeat' refine CT ?_) | (first | (refine DSK ?_; clear hA a; intro a hA) | (first | (refine DLT ?_; clear hA hH; rintro _ w ⟨oN, rfl, hH⟩; refine ⟨STT, ?_⟩; intro a hA) | (refine DAT ?_; clear hA; rintro _ w ⟨oN, cN, rfl, hH2⟩; clear hH; have hH := (hH2 _ (by (repeat constructor))).tail; clear hH2; refine ⟨STT, ?_⟩; intro a hA))) )
  have hfs := hkd.2
  have hin0 := ha0
  refine wp_lpk (S := Nat × List Nat × Option Addr × Nat) (fun s a w => (s.1 ≤ o0.fs.length ∧ i < s.2.1.length ∧ s.2.1[i]? = some o0.a ∧ Cw L roots i s.2.1 ∧ (o0.kind ≠ 1 → ∀ (k : Nat) (x : Int), k < s.1 → o0.fs[k]? = some x → numW x = false → isO L (addrN x) → addrN x ∈ s.2.1)) ∧ HS w0 noM [cb bN 53 [.int .i64 o0.a, .int .i64 o0.kind, .slice d o0.fs.length cd], own 3 1 s.2.2.1 s.2.1.length s.2.2.2 (flat encN s.2.1)] w ∧ Sl 87 [(0, .pointer (some (bat b 0))), (5, .slice s.2.2.1 s.2.1.length s.2.2.2), (8, .int .i64 i), (9, .pointer (some (bat bN 0))), (10, .int .i64 s.1)] a) (fun s => o0.fs.length - s.1)
    (fun a w => ∃ (out : List Nat) (o : Option Addr) (c : Nat), i < out.length ∧ Cw L roots (i + 1) out ∧ HS w0 noM [own 3 1 o out.length c (flat encN out)] w ∧ Sl 87 [(0, .pointer (some (bat b 0))), (5, .slice o out.length c), (8, .int .i64 i)] a) (0, out, o, c) ⟨⟨Nat.zero_le _, hlt, ha0, hC, fun _ k x hk => absurd hk (Nat.not_lt_zero _)⟩, hH, (hA.sub (by (repeat (first | exact trivial | refine ⟨rfl, ?_⟩))))⟩ ?_ ?_
  rotate_left
  · clear hA hH
    rintro a w ⟨out2, o2, c2, hi2, hC2, hH, hA⟩
    repeat' (first | (first | (refine GT ?_ ?_ <;> intro hg <;> clear hA a <;> intro a hA <;> (first | exact FA | replace hg := of_decide_eq_true hg | replace hg := of_decide_eq_false hg | skip)) | (refine QT ?_; clear hA a; intro a hA) | (first | (refine BT ?_; clear hA hH; rintro _ w ⟨bN, rfl, hH⟩ a hA) | (refine LT ?_; clear hA hH; rintro _ w ⟨oN, rfl, hH⟩ a hA) | (refine AT ?_; clear hA; rintro _ w ⟨oN, cN, rfl, hH2⟩ a hA; clear hH; have hH := (hH2 _ (by (repeat constructor))).tail; clear hH2) | (refine S0T ?_; clear hH; rintro _ w hH) )) | ((first | refine CT ?_ | (refine DT ?_ ?_ <;> intro hc <;> try (exfalso; omega))) <;> repeat' refine CT ?_) | (first | (refine DSK ?_; clear hA a; intro a hA) | (first | (refine DLT ?_; clear hA hH; rintro _ w ⟨oN, rfl, hH⟩; refine ⟨STT, ?_⟩; intro a hA) | (refine DAT ?_; clear hA; rintro _ w ⟨oN, cN, rfl, hH2⟩; clear hH; have hH := (hH2 _ (by (repeat constructor))).tail; clear hH2; refine ⟨STT, ?_⟩; intro a hA))) )
    exact ⟨(i + 1, out2, o2, c2), ⟨⟨hi2, hC2⟩, hH, (hA.sub (by (repeat (first | exact trivial | refine ⟨rfl, ?_⟩))))⟩, by show N - (i + 1) < N - i; omega⟩
  clear hA hH hC hle hca ha0 hlt hi hin0
  rintro ⟨k, out, o, c⟩ a w ⟨⟨hk, hlt, ha0, hC, hfd⟩, hH, hA⟩
  dsimp only at hk hlt ha0 hC hfd hH hA
  have hle := bnd hC.c0
  by_cases hkk : k < o0.fs.length ∧ o0.kind ≠ 1
  rotate_left
  · repeat' (first | (first | (refine GT ?_ ?_ <;> intro hg <;> clear hA a <;> intro a hA <;> (first | exact FA | replace hg := of_decide_eq_true hg | replace hg := of_decide_eq_false hg | skip)) | (refine QT ?_; clear hA a; intro a hA) | (first | (refine BT ?_; clear hA hH; rintro _ w ⟨bN, rfl, hH⟩ a hA) | (refine LT ?_; clear hA hH; rintro _ w ⟨oN, rfl, hH⟩ a hA) | (refine AT ?_; clear hA; rintro _ w ⟨oN, cN, rfl, hH2⟩ a hA; clear hH; have hH := (hH2 _ (by (repeat constructor))).tail; clear hH2) | (refine S0T ?_; clear hH; rintro _ w hH) )) | ((first | refine CT ?_ | (refine DT ?_ ?_ <;> intro hc <;> try (exfalso; omega))) <;> repeat' refine CT ?_) | (first | (refine DSK ?_; clear hA a; intro a hA) | (first | (refine DLT ?_; clear hA hH; rintro _ w ⟨oN, rfl, hH⟩; refine ⟨STT, ?_⟩; intro a hA) | (refine DAT ?_; clear hA; rintro _ w ⟨oN, cN, rfl, hH2⟩; clear hH; have hH := (hH2 _ (by (repeat constructor))).tail; clear hH2; refine ⟨STT, ?_⟩; intro a hA))) )
    all_goals exact ⟨out, o, c, hlt, hC.next hl hoL ha0 (fun hk1 x hx h1 h2 => by obtain ⟨j, hj⟩ := List.getElem?_of_mem hx; have := (List.getElem?_eq_some_iff.1 hj).1; exact hfd hk1 j x (by omega) hj h1 h2), hH.tail, (hA.sub (by (repeat (first | exact trivial | refine ⟨rfl, ?_⟩))))⟩
  obtain ⟨hkl, hk1⟩ := hkk
  obtain ⟨x, hx⟩ : ∃ x, o0.fs[k]? = some x := ⟨_, List.getElem?_eq_getElem hkl⟩
  have hxm := List.mem_of_getElem? hx
  have hUx := hWO o0 hoL x hxm
  have hcx : (flat encW o0.fs)[k * 1]? = some (.int .u64 x) := flat_get0 encW_len hx rfl
  have hCn := hC.add (Nat.le_of_lt hlt) (reach_rc2 hl hoL hk1 hxm (hC.c0.rc _ (List.mem_of_getElem? ha0)))
  have hfd2 : o0.kind ≠ 1 → ∀ (j : Nat) (y : Int), j < k + 1 → o0.fs[j]? = some y → numW y = false → isO L (addrN y) → addrN y ∈ addO out (reachA L x) := fun _ j y hj hy h1 h2 => by
    rcases Nat.lt_or_ge j k with h | h
    · exact addO_mem (hfd hk1 j y h hy h1 h2)
    · obtain rfl : j = k := by omega
      rw [hx] at hy
      obtain rfl := Option.some.inj hy
      exact reach_in h1 h2 (pos _ h2)
  have hget := @addO_get out (reachA L x) i o0.a ha0
  repeat' (first | (first | (refine GT ?_ ?_ <;> intro hg <;> clear hA a <;> intro a hA <;> (first | exact FA | replace hg := of_decide_eq_true hg | replace hg := of_decide_eq_false hg | skip)) | (refine QT ?_; clear hA a; intro a hA) | (first | (refine BT ?_; clear hA hH; rintro _ w ⟨bN, rfl, hH⟩ a hA) | (refine LT ?_; clear hA hH; rintro _ w ⟨oN, rfl, hH⟩ a hA) | (refine AT ?_; clear hA; rintro _ w ⟨oN, cN, rfl, hH2⟩ a hA; clear hH; have hH := (hH2 _ (by (repeat constructor))).tail; clear hH2) | (refine S0T ?_; clear hH; rintro _ w hH) )) | ((first | refine CT ?_ | (refine DT ?_ ?_ <;> intro hc <;> try (exfalso; omega))) <;> repeat' refine CT ?_) | (first | (refine DSK ?_; clear hA a; intro a hA) | (first | (refine DLT ?_; clear hA hH; rintro _ w ⟨oN, rfl, hH⟩; refine ⟨STT, ?_⟩; intro a hA) | (refine DAT ?_; clear hA; rintro _ w ⟨oN, cN, rfl, hH2⟩; clear hH; have hH := (hH2 _ (by (repeat constructor))).tail; clear hH2; refine ⟨STT, ?_⟩; intro a hA))) )
  (refine st_op hA rfl rfl (by decide) (op_call rfl rfl rfl (reaches_spec _ b N L x hUx hL (hR.keep hH.kp))) ?_; clear hA; rintro _ w ⟨rfl, hk⟩ a hA; replace hH := hH.keep hk; clear hk)
  have hxx : addO out (reachA L x) = if 0 < reachA L x ∧ reachA L x ∉ out then out ++ [reachA L x] else out := by unfold addO; rfl
  generalize hrx : reachA L x = r at *
  by_cases hpos : 0 < r
  · by_cases hm : r ∈ out
    · rw [if_neg (fun h => h.2 hm)] at hxx
      rw [hxx] at hCn hfd2
      have hin := inL_nat.2 hm
      repeat' (first | (first | (refine GT ?_ ?_ <;> intro hg <;> clear hA a <;> intro a hA <;> (first | exact FA | replace hg := of_decide_eq_true hg | replace hg := of_decide_eq_false hg | skip)) | (refine QT ?_; clear hA a; intro a hA) | (first | (refine BT ?_; clear hA hH; rintro _ w ⟨bN, rfl, hH⟩ a hA) | (refine LT ?_; clear hA hH; rintro _ w ⟨oN, rfl, hH⟩ a hA) | (refine AT ?_; clear hA; rintro _ w ⟨oN, cN, rfl, hH2⟩ a hA; clear hH; have hH := (hH2 _ (by (repeat constructor))).tail; clear hH2) | (refine S0T ?_; clear hH; rintro _ w hH) | ((refine st_op hA rfl rfl (by decide) (op_call rfl rfl rfl (in_spec _ o c out r (hH.own_rd (by exact MEMT)) (by omega))) ?_; clear hA; rintro _ w ⟨rfl, hk⟩ a hA; replace hH := hH.keep hk; clear hk); rw [hin] at hA))) | ((first | refine CT ?_ | (refine DT ?_ ?_ <;> intro hc <;> try (exfalso; omega))) <;> repeat' refine CT ?_) | (first | (refine DSK ?_; clear hA a; intro a hA) | (first | (refine DLT ?_; clear hA hH; rintro _ w ⟨oN, rfl, hH⟩; refine ⟨STT, ?_⟩; intro a hA) | (refine DAT ?_; clear hA; rintro _ w ⟨oN, cN, rfl, hH2⟩; clear hH; have hH := (hH2 _ (by (repeat constructor))).tail; clear hH2; refine ⟨STT, ?_⟩; intro a hA))) )
      exact ⟨(k + 1, out, o, c), ⟨⟨hkl, hlt, ha0, hCn, hfd2⟩, hH, (hA.sub (by (repeat (first | exact trivial | refine ⟨rfl, ?_⟩))))⟩, by show o0.fs.length - (k + 1) < o0.fs.length - k; omega⟩
    · rw [if_pos ⟨hpos, hm⟩] at hxx
      rw [hxx] at hCn hfd2 hget
      have hin : inL out (r : Int) = false := by
        cases hc : inL out (r : Int) with
        | false => rfl
        | true => exact absurd (inL_nat.1 hc) hm
      have hl1 : out.length + 1 = (out ++ [r]).length := by rw [List.length_append]; rfl
      repeat' (first | (first | (refine GT ?_ ?_ <;> intro hg <;> clear hA a <;> intro a hA <;> (first | exact FA | replace hg := of_decide_eq_true hg | replace hg := of_decide_eq_false hg | skip)) | (refine QT ?_; clear hA a; intro a hA) | (first | (refine BT ?_; clear hA hH; rintro _ w ⟨bN, rfl, hH⟩ a hA) | (refine LT ?_; clear hA hH; rintro _ w ⟨oN, rfl, hH⟩ a hA) | (refine AT ?_; clear hA; rintro _ w ⟨oN, cN, rfl, hH2⟩ a hA; clear hH; have hH := (hH2 _ (by (repeat constructor))).tail; clear hH2) | (refine S0T ?_; clear hH; rintro _ w hH) | ((refine st_op hA rfl rfl (by decide) (op_call rfl rfl rfl (in_spec _ o c out r (hH.own_rd (by exact MEMT)) (by omega))) ?_; clear hA; rintro _ w ⟨rfl, hk⟩ a hA; replace hH := hH.keep hk; clear hk); rw [hin] at hA))) | ((first | refine CT ?_ | (refine DT ?_ ?_ <;> intro hc <;> try (exfalso; omega))) <;> repeat' refine CT ?_) | (first | (refine DSK ?_; clear hA a; intro a hA) | (first | (refine DLT ?_; clear hA hH; rintro _ w ⟨oN, rfl, hH⟩; refine ⟨STT, ?_⟩; intro a hA) | (refine DAT ?_; clear hA; rintro _ w ⟨oN, cN, rfl, hH2⟩; clear hH; have hH := (hH2 _ (by (repeat constructor))).tail; clear hH2; refine ⟨STT, ?_⟩; intro a hA))) )
      rw [snocN, hl1] at hH
      rw [hl1] at hA
      exact ⟨(k + 1, out ++ [r], oN, cN), ⟨⟨hkl, by dsimp only; omega, hget, hCn, hfd2⟩, hH.perm (by (repeat (first | exact List.Perm.nil | refine perm_pick 0 rfl ?_ | refine perm_pick 1 rfl ?_ | refine perm_pick 2 rfl ?_ | refine perm_pick 3 rfl ?_ | refine perm_pick 4 rfl ?_ | refine perm_pick 5 rfl ?_ | refine perm_pick 6 rfl ?_ | refine perm_pick 7 rfl ?_ | refine perm_pick 8 rfl ?_ | refine perm_pick 9 rfl ?_ | refine perm_pick 10 rfl ?_ | refine perm_pick 11 rfl ?_))), (hA.sub (by (repeat (first | exact trivial | refine ⟨rfl, ?_⟩))))⟩, by show o0.fs.length - (k + 1) < o0.fs.length - k; omega⟩
  · rw [if_neg (fun h => hpos h.1)] at hxx
    rw [hxx] at hCn hfd2
    repeat' (first | (first | (refine GT ?_ ?_ <;> intro hg <;> clear hA a <;> intro a hA <;> (first | exact FA | replace hg := of_decide_eq_true hg | replace hg := of_decide_eq_false hg | skip)) | (refine QT ?_; clear hA a; intro a hA) | (first | (refine BT ?_; clear hA hH; rintro _ w ⟨bN, rfl, hH⟩ a hA) | (refine LT ?_; clear hA hH; rintro _ w ⟨oN, rfl, hH⟩ a hA) | (refine AT ?_; clear hA; rintro _ w ⟨oN, cN, rfl, hH2⟩ a hA; clear hH; have hH := (hH2 _ (by (repeat constructor))).tail; clear hH2) | (refine S0T ?_; clear hH; rintro _ w hH) )) | ((first | refine CT ?_ | (refine DT ?_ ?_ <;> intro hc <;> try (exfalso; omega))) <;> repeat' refine CT ?_) | (first | (refine DSK ?_; clear hA a; intro a hA) | (first | (refine DLT ?_; clear hA hH; rintro _ w ⟨oN, rfl, hH⟩; refine ⟨STT, ?_⟩; intro a hA) | (refine DAT ?_; clear hA; rintro _ w ⟨oN, cN, rfl, hH2⟩; clear hH; have hH := (hH2 _ (by (repeat constructor))).tail; clear hH2; refine ⟨STT, ?_⟩; intro a hA))) )
    exact ⟨(k + 1, out, o, c), ⟨⟨hkl, hlt, ha0, hCn, hfd2⟩, hH, (hA.sub (by (repeat (first | exact trivial | refine ⟨rfl, ?_⟩))))⟩, by show o0.fs.length - (k + 1) < o0.fs.length - k; omega⟩
end Go.Proofs.Ytdfhajdejlhamaa
namespace Go.Proofs.Ytdfhajdejlhamaa
open Go Go.Fw
set_option linter.unusedVariables false
section
variable {N : Nat} {s : GS} {g : SS} {L : List Ob} {o : Ob} {held : List Nat} {roots : List Int}
structure Cyc (N : Nat) (L0 : List Ob) (held : List Nat) (s : GS) : Prop where
  ok : GOk N s
  sub : ∀ o ∈ s.L, o ∈ L0
  kp : ∀ o ∈ L0, o.a ∈ held → o ∈ s.L ∧ Pt s o.a
  fr : Fr s fun a => a ∈ held
theorem Cyc.begin (h : GOk N s) (hp : s.ph = 0) (hC : Clo s.L roots held) : Cyc N s.L held (beginG s roots).2 :=
  ⟨begin_ok h roots, fun o ho => by rw [beg_L h] at ho; exact ho, fun o ho hm => keep_begin h ho ⟨⟨o, ho, rfl⟩, .inl hp⟩ (hC.c0.rc _ hm), Fr_begin h hp hC.rt fun a b ha hE => hC.cls a b ha hE⟩
theorem Cyc.step (h : Cyc N L held s) : Cyc N L held (stepG s).2 :=
  ⟨step_ok h.ok, fun o ho => h.sub o (step_sub h.ok o ho), fun o ho hm => let ⟨h1, h2⟩ := h.kp o ho hm; keep_step h.ok h1 h2, Fr_step h.ok h.fr⟩
def liveN (L : List Ob) (held : List Nat) : Nat := (held.map fun a => 1 + (fsA L a).length).sum
theorem lay_nodup : ∀ {L : List Ob} {p : Nat}, Lay N p L → (L.map (·.a)).Nodup
  | [], _, _ => .nil
  | x :: L, p, h => by
    rw [List.map_cons, List.nodup_cons]
    refine ⟨fun hm => ?_, lay_nodup h.2⟩
    obtain ⟨y, hy, he⟩ := List.mem_map.1 hm
    have := (h.2.mem y hy).1
    unfold Ob.fin at this
    omega
theorem used_sum : ∀ {L : List Ob}, usedA L = (L.map fun o => 1 + o.fs.length).sum
  | [] => rfl
  | o :: L => by
    rw [List.map_cons, List.sum_cons, ← used_sum]
    show o.fs.length + 1 + usedA L = _
    omega
theorem Cyc.used (hl : Lay N 1 L) (hnd : held.Nodup) (hob : ∀ a ∈ held, isO L a) (h : Cyc N L held s) (hp : s.ph = 0) : usedA s.L = liveN L held := by
  have hperm : (s.L.map (·.a)).Perm held := by
    rw [List.perm_ext_iff_of_nodup (lay_nodup h.ok.lay) hnd]
    intro a
    constructor
    · intro hm
      obtain ⟨o, ho, rfl⟩ := List.mem_map.1 hm
      exact h.fr.idl hp o.a ⟨o, ho, rfl⟩
    · intro hm
      obtain ⟨o, ho, rfl⟩ := hob a hm
      exact List.mem_map.2 ⟨o, (h.kp o ho hm).1, rfl⟩
  have e1 : usedA s.L = ((s.L.map (·.a)).map fun a => 1 + (fsA L a).length).sum := by
    rw [used_sum, List.map_map]
    congr 1
    refine List.map_congr_left fun o ho => ?_
    show 1 + o.fs.length = 1 + (fsA L o.a).length
    rw [(fsA_at hl (h.sub o ho)).1]
  rw [e1]
  exact (hperm.map _).sum_nat
theorem used_sub : ∀ {L' L : List Ob}, List.Sublist L' L → usedA L' ≤ usedA L := by
  intro L' L h
  induction h with
  | slnil => exact Nat.le_refl _
  | cons a _ ih => show _ ≤ _ + usedA _; omega
  | cons_cons a _ ih => show _ + usedA _ ≤ _ + usedA _; omega
theorem step_used (h : GOk N s) : usedA (stepG s).2.L ≤ usedA s.L := by
  rcases step_cases h with ⟨h0, e⟩ | ⟨h0, g, ha, e⟩ | ⟨h0, hg, e⟩ | ⟨h0, hno, h1, e⟩ | ⟨h0, o, ho, h1, h2, h3, e⟩ <;> rw [e]
  · exact Nat.le_refl _
  · rw [(mark_ok h h0 ha).2.1]; exact Nat.le_refl _
  · exact Nat.le_refl _
  · exact Nat.le_refl _
  · show usedA (if col s o.a = 0 then delA s.L o.a else s.L) ≤ _
    split
    · exact used_sub List.filter_sublist
    · exact Nat.le_refl _
theorem room_is (h : GOk N s) : roomA (gaps N 1 s.L) = (N : Int) - 1 - usedA s.L := by
  have := room_used h.lay
  omega
/-- where nothing was pressed: what an object costs -/
theorem allocS_idle (h : GOk N g.s) (hp : g.s.ph = 0) {k z : Int} (he : (allocG N g.s k z).2.1 = 6) : allocS N g k z roots = tryS (allocG N (endS N (begS g roots)).s k z) (g.cy + 1) ∧ usedA (allocS N g k z roots).2.2.s.L ≥ 0 ∧ ((allocS N g k z roots).2.1 ≠ 0 → usedA (allocS N g k z roots).2.2.s.L ≤ usedA g.s.L) := by
  have e0 : endS N g = g := endS_yes hp
  have e1 : allocS N g k z roots = tryS (allocG N (endS N (begS g roots)).s k z) (endS N (begS g roots)).cy := by
    have := allocS_3 (roots := roots) (g := g) (N := N) (k := k) (z := z) (fun hn => hn he) (by rw [e0]; exact fun hn => hn he)
    rw [e0] at this
    exact this
  have hb := begS_ok h roots
  have hp1 : (begS g roots).s.ph = 1 := by
    obtain ⟨s', e, g1, g2, _⟩ := begin_facts h hp roots
    show (beginG g.s roots).2.ph = 1
    rw [e]; exact g2
  have e2 : (endS N (begS g roots)).cy = g.cy + 1 := by rw [endS_no (by omega)]; rfl
  rw [e2] at e1
  refine ⟨e1, Nat.zero_le _, fun hne => ?_⟩
  rw [e1] at hne ⊢
  have h3 := alloc_err (end_ok hb) (k := k) (z := z) hne
  show usedA (allocG N (endS N (begS g roots)).s k z).2.2.L ≤ _
  rw [h3.1]
  refine end_inv (P := fun t => usedA t.L ≤ usedA g.s.L) hb ?_ fun t h4 h5 => Nat.le_trans (step_used h4) h5
  show usedA (beginG g.s roots).2.L ≤ _
  rw [beg_L h]; exact Nat.le_refl _
/-- picks: a cycle that has begun -/
structure Pk (N : Nat) (L0 : List Ob) (held : List Nat) (n : Nat) (g : SS) : Prop where
  cyc : Cyc N L0 held g.s
  st : (g.cy = 0 ∧ g.s.ph ≠ 0 ∧ mu N g.s + n ≤ 2 * N + 3) ∨ (g.cy = 1 ∧ g.s.ph = 0)
theorem Pk.first (h : GOk N g.s) (hp : g.s.ph = 0) (hcy : g.cy = 0) (hC : Clo g.s.L roots held) : Pk N g.s.L held 1 (pickS g roots) := by
  have e : pickS g roots = begS g roots := by unfold pickS; rw [if_pos hp]
  rw [e]
  refine ⟨Cyc.begin h hp hC, .inl ⟨hcy, ?_, ?_⟩⟩
  · obtain ⟨s', e, g1, g2, _⟩ := begin_facts h hp roots
    show (beginG g.s roots).2.ph ≠ 0
    rw [e]
    show s'.ph ≠ 0
    omega
  · have := mu_two N (begS g roots).s
    omega
theorem step_end (h : GOk N s) (hp : s.ph ≠ 0) : ((stepG s).1 = true ∧ (stepG s).2.ph = 0) ∨ ((stepG s).1 = false ∧ (stepG s).2.ph ≠ 0) := by
  rcases step_cases h with ⟨h0, e⟩ | ⟨h0, g, ha, e⟩ | ⟨h0, hg, e⟩ | ⟨h0, hno, h1, e⟩ | ⟨h0, o, ho, h1, h2, h3, e⟩ <;> rw [e]
  · exact absurd h0 hp
  · right
    refine ⟨rfl, ?_⟩
    have := (mark_ok h h0 ha).2.2.1
    show (markG s g).ph ≠ 0
    omega
  · exact .inr ⟨rfl, by show (2 : Nat) ≠ 0; decide⟩
  · exact .inl ⟨rfl, rfl⟩
  · refine .inr ⟨rfl, ?_⟩
    show s.ph ≠ 0
    exact hp
theorem Pk.next {n : Nat} (h : Pk N L held n g) (hcy : g.cy = 0) : Pk N L held (n + 1) (pickS g roots) := by
  rcases h.st with ⟨_, hp, hm⟩ | ⟨h1, _⟩
  · have e : pickS g roots = ⟨(stepG g.s).2, if (stepG g.s).1 = true then g.cy + 1 else g.cy⟩ := by unfold pickS; rw [if_neg hp]
    rw [e]
    refine ⟨h.cyc.step, ?_⟩
    have := step_mu h.cyc.ok hp
    rcases step_end h.cyc.ok hp with ⟨h2, h3⟩ | ⟨h2, h3⟩
    · right
      exact ⟨by dsimp only; rw [if_pos h2, hcy], h3⟩
    · left
      refine ⟨by dsimp only; rw [if_neg (by rw [h2]; decide), hcy], h3, ?_⟩
      show mu N (stepG g.s).2 + (n + 1) ≤ _
      omega
  · omega
end
def regN (x : Int) : Nat := ((IntKind.u64.wrap x).tmod 8).toNat
theorem reg_facts (x : Int) : (IntKind.u64.wrap x).tmod 8 = (regN x : Int) ∧ regN x < 8 ∧ IntKind.i64.wrap (regN x : Int) = (regN x : Int) := by
  have h0 : 0 ≤ IntKind.u64.wrap x := by
    rw [u64_mod]
    exact Int.emod_nonneg _ (by decide)
  have h1 := Int.tmod_nonneg (8 : Int) h0
  have h2 := Int.tmod_lt_of_pos (IntKind.u64.wrap x) (show (0 : Int) < 8 by decide)
  unfold regN
  refine ⟨by omega, by omega, wrap_i64 ⟨by omega, by omega⟩⟩
set_option maxRecDepth 10000 attribute [local irreducible] Code.wp wpList Calls Ex Op1 sat bat blk cb own Go.Fw.mp Go.Fw.mpO Go.Fw.mpI Go.Fw.mpE Go.Fw.itr HS Rd Ret wkD Hp Cl Cls Exit.then Exit.inBlock Exit.noGoto bodyPost Go.Fw.flat wk2 Go.Fw.all Go.Fw.owns wpOp
attribute [local irreducible] regN
theorem reg_spec (w0 : World) (x : Int) : Ret Try.prog 11 #[.int .i64 x] w0 (fun v w => v = .int .i64 (regN x : Nat) ∧ Kp w0 noM w) := by
  have hH : HS w0 noM [] w0 := HS.init w0 noM
  obtain ⟨h1, h2, h3⟩ := reg_facts x
  (refine enter (N := 7) Try.func11 rfl Try.ntmps11 rfl ?_; intro a hA; dsimp only [sl0, Nat.reduceAdd] at hA)
  repeat' (first | (first | (refine GT ?_ ?_ <;> intro hg <;> clear hA a <;> intro a hA <;> (first | exact FA | replace hg := of_decide_eq_true hg | replace hg := of_decide_eq_false hg | skip)) | ((first | apply st_ex hA hH rfl rfl (by decide) | apply dr_ex hA rfl rfl rfl (by decide) | apply dr_exp hA rfl rfl rfl (by decide) | apply dr_ex3 hA hH rfl rfl rfl (by decide)); (first | (apply ex_convert (v := IntKind.u64.wrap x); rfl; rfl) | (apply ex_convert (v := (regN x : Int)); rfl; (rw [h1]; exact h3))); clear hA a; intro a hA) | (refine QT ?_; clear hA a; intro a hA) | (first | (refine BT ?_; clear hA hH; rintro _ w ⟨bN, rfl, hH⟩ a hA) | (refine LT ?_; clear hA hH; rintro _ w ⟨oN, rfl, hH⟩ a hA) | (refine AT ?_; clear hA; rintro _ w ⟨oN, cN, rfl, hH2⟩ a hA; clear hH; have hH := (hH2 _ (by (repeat constructor))).tail; clear hH2) | (refine S0T ?_; clear hH; rintro _ w hH) )) | ((first | refine CT ?_ | (refine DT ?_ ?_ <;> intro hc <;> try (exfalso; omega))) <;> repeat' refine CT ?_) | (first | (refine DSK ?_; clear hA a; intro a hA) | (first | (refine DLT ?_; clear hA hH; rintro _ w ⟨oN, rfl, hH⟩; refine ⟨STT, ?_⟩; intro a hA) | (refine DAT ?_; clear hA; rintro _ w ⟨oN, cN, rfl, hH2⟩; clear hH; have hH := (hH2 _ (by (repeat constructor))).tail; clear hH2; refine ⟨STT, ?_⟩; intro a hA))) )
  exact rt1 (.inl rfl) rfl hA rfl ⟨rfl, hH.kp⟩
end Go.Proofs.Ytdfhajdejlhamaa
namespace Go.Proofs.Ytdfhajdejlhamaa
open Go Go.Fw Go.ChangeShapes Go.WideShapes Go.ChangeAt Go.RowKit Go.Deep
set_option linter.unusedVariables false
/-- a step: Kind, A, B, N, M, and a text -/
abbrev Stp := (Int × Int × Int × Int × Int) × ByteArray
def encT (x : Stp) : List Value := [.int .i64 x.1.1, .int .i64 x.1.2.1, .int .i64 x.1.2.2.1, .int .i64 x.1.2.2.2.1, .int .i64 x.1.2.2.2.2, .string x.2]
theorem encT_len (x : Stp) : (encT x).length = 6 := rfl
def R64 (z : Int) : Prop := -9223372036854775808 ≤ z ∧ z ≤ 9223372036854775807
def StpR (x : Stp) : Prop := R64 x.1.1 ∧ R64 x.1.2.1 ∧ R64 x.1.2.2.1 ∧ R64 x.1.2.2.2.1 ∧ R64 x.1.2.2.2.2
section
variable {ls : List Stp} {i : Nat} {x : Stp}
theorem t60 (h : ls[i]? = some x) : (flat encT ls)[i * 6 + 0]? = some (.int .i64 x.1.1) := flat_get encT_len (off := 0) h rfl
theorem t61 (h : ls[i]? = some x) : (flat encT ls)[i * 6 + 1]? = some (.int .i64 x.1.2.1) := flat_get encT_len (off := 1) h rfl
theorem t62 (h : ls[i]? = some x) : (flat encT ls)[i * 6 + 2]? = some (.int .i64 x.1.2.2.1) := flat_get encT_len (off := 2) h rfl
theorem t63 (h : ls[i]? = some x) : (flat encT ls)[i * 6 + 3]? = some (.int .i64 x.1.2.2.2.1) := flat_get encT_len (off := 3) h rfl
theorem t64 (h : ls[i]? = some x) : (flat encT ls)[i * 6 + 4]? = some (.int .i64 x.1.2.2.2.2) := flat_get encT_len (off := 4) h rfl
theorem t65 (h : ls[i]? = some x) : (flat encT ls)[i * 6 + 5]? = some (.string x.2) := flat_get encT_len (off := 5) h rfl
end
theorem wf_i64 {z : Int} (h : (Lit.int .i64 z).wf = true) : R64 z := by
  simp only [Lit.wf, Bool.and_eq_true, decide_eq_true_eq] at h
  have m1 : IntKind.i64.min = -9223372036854775808 := by decide
  have m2 : IntKind.i64.max = 9223372036854775807 := by decide
  rw [m1, m2] at h
  exact h
section
variable {H : Type} {enc : TypeId × Value → H} {P : Program} {w : World} {base : Nat} {spare : Nat → Bool} {held : Bool}
/-- a slice of structs of five numbers and a text, read -/
theorem open_stps {t e : TypeId} {f0 f1 f2 f3 f4 f5 : Field} {v : Value} {d : DataW H} {p : List MemPlace} {r : Reach} {b0 : Nat} (ht : P.underlying t = some (.slice e)) (he : P.underlying e = some (.struct #[f0, f1, f2, f3, f4, f5]))
    (hone : oneCellFields P #[f0, f1, f2, f3, f4, f5] = true) (hC : P.cellsOf e = 6) (h0 : P.underlying f0.type = some (.int .i64)) (h1 : P.underlying f1.type = some (.int .i64)) (h2 : P.underlying f2.type = some (.int .i64)) (h3 : P.underlying f3.type = some (.int .i64))
    (h4 : P.underlying f4.type = some (.int .i64)) (h5 : P.underlying f5.type = some .string) (hv : Value.okWide P w r b0 t v) (h : DataW.Trod enc P w base spare held t v d p) :
    ∃ (o : Option Addr) (c : Nat) (l : List Stp), v = .slice o l.length c ∧ Rd w o (flat encT l) ∧ l.length ≤ 9223372036854775807 ∧ ∀ x ∈ l, StpR x ∧ x.2.size ≤ maxLen := by
  obtain ⟨a0, len0, cap0, rfl⟩ := okWide_slice ht hv
  obtain ⟨fuel, hf⟩ := h
  rcases open_rows ht he hone hC hf with hcs | ⟨a, len, cap, hcs, hl, hi⟩
  · simp [Value.cells] at hcs
    obtain ⟨rfl, rfl, rfl⟩ := hcs
    exact ⟨none, 0, [], rfl, ⟨fun h => absurd h (by simp [flat]), fun j u hj => by simp [flat] at hj⟩, by simp, fun x hx => absurd hx (List.not_mem_nil)⟩
  · simp [Value.cells] at hcs
    obtain ⟨rfl, rfl, rfl⟩ := hcs
    obtain ⟨l, hll, hp⟩ := choose_list (fun i (x : Stp) => (∀ j v, (encT x)[j]? = some v → w.cell? (a.add (i * 6 + j)) = some v) ∧ StpR x ∧ x.2.size ≤ maxLen) len0 (fun i hil => by
      obtain ⟨v0, y0, n0, hc0, hy0⟩ := hi i hil 0 f0 rfl
      obtain ⟨v1, y1, n1, hc1, hy1⟩ := hi i hil 1 f1 rfl
      obtain ⟨v2, y2, n2, hc2, hy2⟩ := hi i hil 2 f2 rfl
      obtain ⟨v3, y3, n3, hc3, hy3⟩ := hi i hil 3 f3 rfl
      obtain ⟨v4, y4, n4, hc4, hy4⟩ := hi i hil 4 f4 rfl
      obtain ⟨v5, y5, n5, hc5, hy5⟩ := hi i hil 5 f5 rfl
      obtain ⟨z0, e0, -, g0⟩ := DataW.trod_int h0 hy0
      obtain ⟨z1, e1, -, g1⟩ := DataW.trod_int h1 hy1
      obtain ⟨z2, e2, -, g2⟩ := DataW.trod_int h2 hy2
      obtain ⟨z3, e3, -, g3⟩ := DataW.trod_int h3 hy3
      obtain ⟨z4, e4, -, g4⟩ := DataW.trod_int h4 hy4
      obtain ⟨s5, e5, -, g5⟩ := DataW.trod_string h5 hy5
      obtain rfl : v0 = .int .i64 z0 := by simpa using e0
      obtain rfl : v1 = .int .i64 z1 := by simpa using e1
      obtain rfl : v2 = .int .i64 z2 := by simpa using e2
      obtain rfl : v3 = .int .i64 z3 := by simpa using e3
      obtain rfl : v4 = .int .i64 z4 := by simpa using e4
      obtain rfl : v5 = .string s5 := by simpa using e5
      refine ⟨((z0, z1, z2, z3, z4), s5), fun j v hv => ?_, ⟨wf_i64 g0, wf_i64 g1, wf_i64 g2, wf_i64 g3, wf_i64 g4⟩, g5⟩
      match j, hv with
      | 0, hv => obtain rfl := Option.some.inj hv; exact hc0
      | 1, hv => obtain rfl := Option.some.inj hv; exact hc1
      | 2, hv => obtain rfl := Option.some.inj hv; exact hc2
      | 3, hv => obtain rfl := Option.some.inj hv; exact hc3
      | 4, hv => obtain rfl := Option.some.inj hv; exact hc4
      | 5, hv => obtain rfl := Option.some.inj hv; exact hc5
      | j + 6, hv => cases hv)
    subst hll
    refine ⟨some a, cap0, l, rfl, ?_, by unfold maxLen at hl; omega, fun x hx => ?_⟩
    rotate_left
    · obtain ⟨i, hi⟩ := List.getElem?_of_mem hx
      exact (hp i x hi).2
    cases l with
    | nil => exact ⟨fun h => absurd h (by simp [flat]), fun j u hj => by simp [flat] at hj⟩
    | cons x0 l0 =>
      obtain ⟨b, off, spot⟩ := a
      have hspot : spot = none := by simpa [Addr.add] using World.cell?_spot ((hp 0 x0 rfl).1 0 _ rfl)
      subst hspot
      refine ⟨fun _ => ⟨b, off, rfl⟩, fun j u hj => ?_⟩
      have hjl := (List.getElem?_eq_some_iff.1 hj).1
      rw [flat_length encT_len] at hjl
      have hadd : ∀ k, (⟨b, off, none⟩ : Addr).add k = sat (some ⟨b, off, none⟩) k := fun k => by
        simp only [sat, blkO, offO, Addr.add]
        split <;> simp_all
      obtain ⟨x, hx⟩ : ∃ x, (x0 :: l0)[j / 6]? = some x := ⟨_, List.getElem?_eq_getElem (by omega)⟩
      obtain ⟨v, hv⟩ : ∃ v, (encT x)[j % 6]? = some v := ⟨_, List.getElem?_eq_getElem (by rw [encT_len]; omega)⟩
      have h7 := (hp _ _ hx).1 _ _ hv
      have h8 := flat_get encT_len hx hv
      rw [show j / 6 * 6 + j % 6 = j by omega] at h7 h8
      rw [h8] at hj
      obtain rfl := Option.some.inj hj
      rw [← hadd]
      exact h7
end
section
variable {H : Type} {enc : TypeId × Value → H}
set_option maxRecDepth 10000 in
theorem argT {W : World} {base : Nat} {v : Value} {d : DataW H} {p : List MemPlace} {held : Bool} (hv : Value.okWide Try.prog W .any base 22 v) (h : DataW.Trod enc Try.prog W 0 (fun _ => true) held 22 v d p) :
    ∃ (o : Option Addr) (c : Nat) (l : List Stp), v = .slice o l.length c ∧ Rd W o (flat encT l) ∧ l.length ≤ 9223372036854775807 ∧ ∀ x ∈ l, StpR x ∧ x.2.size ≤ maxLen :=
  open_stps Try.underlying22 Try.underlying30 (by kernel_rfl) (by kernel_rfl) Try.underlying3 Try.underlying3 Try.underlying3 Try.underlying3 Try.underlying3 Try.underlying9 hv h
set_option maxRecDepth 10000 in
theorem own_ : ownKnob Try.prog.godebug = none := by kernel_rfl
set_option maxRecDepth 10000 in
theorem laidOut : laidOutB Try.prog = true := by kernel_rfl
end
end Go.Proofs.Ytdfhajdejlhamaa
