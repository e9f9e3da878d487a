/-
  The walks over awake and StoreTexts. Conditions: none.
  The walk over GcSteps. Conditions: none.
  The walks over what the document's collector and the laws look up: in, has, Reaches, Closure. Conditions: none.
  A cycle's outcome: what is reached stays, and nothing else (plain law); registers; the walk over reg. Conditions: none.
  What the store's laws are handed: rows of steps, read. Conditions: none.
  The walk over StoreSame. Conditions: none.
-/
import Derived.Test.YtdfhajdejlhamaaRowSameMg8
import Derived.Test.YtdfhajdejlhamaaRowSameMg6
import Derived.Test.YtdfhajdejlhamaaRows
import Derived.ChangeSlices
import Derived.WideShapes
namespace Go.Proofs.Ytdfhajdejlhamaa
open Go Go.Fw
set_option linter.unusedVariables false
/-- a store that is new -/
def st0 (N : Nat) : SS := ⟨⟨0, [], List.replicate N 0, [], 0⟩, 0⟩
theorem st0_ok {N : Nat} (h : 2 ≤ N ∧ N ≤ 65536) : GOk N (st0 N).s := by
  have hc : ∀ a, col (st0 N).s a = 0 := fun a => by
    unfold col st0
    rw [List.getD_eq_getElem?_getD, List.getElem?_replicate]
    split <;> rfl
  exact ⟨h, show 1 ≤ N by omega, fun o ho => absurd ho (List.not_mem_nil), fun o ho => absurd ho (List.not_mem_nil), Nat.zero_le _, List.length_replicate, fun a => by rw [hc]; omega, .nil, fun a => ⟨fun h => absurd h (List.not_mem_nil), fun h => by rw [hc] at h; cases h⟩, fun a ha => absurd (hc a) ha, fun _ => hc, fun h => by cases h⟩
def awS : Nat → SS
  | 0 => st0 9
  | i + 1 => (allocS 9 (awS i) 5 1 []).2.2
theorem awS_ok : ∀ i, GOk 9 (awS i).s
  | 0 => st0_ok (by decide)
  | i + 1 => allocS_ok (awS_ok i) 5 1 []
theorem awS_cy : ∀ i, (awS i).cy ≤ 2 * i
  | 0 => Nat.le_refl _
  | i + 1 => by
    have h1 := awS_cy i
    have h2 := allocS_cy (N := 9) (g := awS i) (k := 5) (z := 1) (roots := [])
    show (allocS 9 (awS i) 5 1 []).2.2.cy ≤ _
    omega
theorem aw_next (i : Nat) : (allocS 9 (awS i) 5 1 []).2.2 = awS (i + 1) := rfl
theorem aw_first : (allocS 9 (awS 0) 5 1 []).1 = 2 ∧ (allocS 9 (awS 0) 5 1 []).2.1 = 0 := ⟨by kernel_rfl, by kernel_rfl⟩
theorem aw_room : roomA (gaps 9 1 (awS 4).s.L) = 0 := by kernel_rfl
def aw5 : SS := (allocS 9 (awS 4) 5 2 [2]).2.2
def aw6 : SS := (allocS 9 aw5 6 9 []).2.2
theorem aw_b : (allocS 9 (awS 4) 5 2 [2]).1 = 6 ∧ (allocS 9 (awS 4) 5 2 [2]).2.1 = 0 := ⟨by kernel_rfl, by kernel_rfl⟩
theorem aw_g : (allocS 9 aw5 6 9 []).2.1 = 6 := by kernel_rfl
theorem aw_cy : aw6.cy = 2 := by kernel_rfl
theorem aw_cy5 : aw5.cy = 1 := by kernel_rfl
theorem aw_q5 : (allocS 9 (awS 4) 5 2 [2]).2.2 = aw5 := rfl
theorem aw_q6 : (allocS 9 aw5 6 9 []).2.2 = aw6 := rfl
theorem st0_cy (N : Nat) : (st0 N).cy = 0 := rfl
theorem st0_n (N : Nat) : (⟨⟨0, [], List.replicate N 0, [], 0⟩, 0⟩ : SS) = st0 N := rfl
theorem one_w (x : Int) : ([.int .u64 x] : List Value) = flat encW [x] := rfl
theorem aw_0 : st0 9 = awS 0 := rfl
theorem aw5_ok : GOk 9 aw5.s := allocS_ok (awS_ok 4) 5 2 [2]
theorem ex_eqlSs {P : Program} {N : Nat} {l : List (Nat × Value)} {C : World → Prop} {d : Option Tmp} {T : TypeId} {pos : String} {af : Array Edge} {gd : Option (Nat × Bool)} {t ty : TypeId} {x y : Operand} {m : ByteArray} [h : TSr P t] (hx : ev l x = some (.string m)) (hy : ev l y = some (.string m)) : Ex P N l C ⟨d, .binOp .eql t x y ty, T, pos, af, gd⟩ (.bool true) := by
  have := ex_eqlS (N := N) (C := C) (d := d) (T := T) (pos := pos) (af := af) (g := gd) (ty := ty) (h := h) hx hy
  rwa [beq_self_eq_true] at this
def tLit : ByteArray := ⟨#[97, 98, 99, 100, 101, 102, 103, 104, 105]⟩
def awT1 : SS := (textS 20 (st0 20) (bts tLit) []).2.2
def awT2 : SS := (writeS awT1 (atA awT1.s.L 2 : Nat) 0 3).2
def awT3 : SS := pickS awT2 []
theorem awT1_text : (textS 20 (st0 20) (bts tLit) []).1 = 2 ∧ (textS 20 (st0 20) (bts tLit) []).2.1 = 0 := ⟨by kernel_rfl, by kernel_rfl⟩
theorem awT1_L : awT1.s.L = [⟨1, 1, txt (bts tLit)⟩] := by kernel_rfl
theorem awT1_cy : awT1.cy = 0 ∧ awT2.cy = 0 ∧ awT3.cy = 0 := ⟨by kernel_rfl, by kernel_rfl, by kernel_rfl⟩
theorem awT1_ok : GOk 20 awT1.s := setF_ok (allocS_ok (st0_ok (by decide)) 1 _ []) (txt_U (bts_lt tLit) (by decide))
theorem awT1_str : strS awT1.s.L 2 = (tLit, 0) := strS_txt (o := ⟨1, 1, txt (bts tLit)⟩) awT1_ok.lay (by rw [awT1_L]; exact List.mem_cons_self ..) rfl rfl (by decide) (by decide) (by decide)
theorem awT2_ok : GOk 20 awT2.s := (write_ok awT1_ok _ _ ⟨by decide, by decide⟩).1
theorem awT2_1 : (writeS awT1 (atA awT1.s.L 2 : Nat) 0 3).1 = 0 := by kernel_rfl
theorem awT3_ok : GOk 20 awT3.s := pickS_ok awT2_ok []
theorem awT3_k : (kindA awT3.s.L (atA awT3.s.L 2 : Nat)).1 = 1 ∧ (sizeA awT3.s.L (atA awT3.s.L 2 : Nat)).1 = 3 := ⟨by kernel_rfl, by kernel_rfl⟩
theorem awT_q1 : (textS 20 (st0 20) (bts tLit) []).2.2 = awT1 := rfl
theorem awT_q2 : (writeS awT1 (atA awT1.s.L 2 : Nat) 0 3).2 = awT2 := rfl
theorem awT_q3 : pickS awT2 [] = awT3 := rfl
theorem tLit_len : (bts tLit).length ≤ 9223372036854775807 := by decide
theorem U_two : U 2 := ⟨by decide, by decide⟩
section
variable {w0 w : World} {M : Nat → Prop} {H : List It} {bs N : Nat} {g : SS}
theorem stext_f {t : ByteArray} {roots : List Int} {oR : Option Addr} {cR : Nat} (hH : HS w0 M (stI bs N g :: H) w) (hok : GOk N g.s) (hcy : g.cy ≤ 1000000) (ht : (bts t).length ≤ 9223372036854775807) (hU : ∀ x ∈ roots, U x) (hl : roots.length ≤ 140737488355328) (hrd : ∀ Hc w', HS w0 M (Hc ++ H) w' → Rd w' oR (flat encW roots)) :
    Ret Try.prog 20 #[.pointer (some (bat bs 0)), .string t, .slice oR roots.length cR] w (fun v w' => v = .tuple #[.int .u64 (textS N g (bts t) roots).1, .int .i64 (textS N g (bts t) roots).2.1] ∧ HS w0 M (stI bs N (textS N g (bts t) roots).2.2 :: H) w') := by
  obtain ⟨Mc, h1, -, h2⟩ := HS.frame (Hc := [stI bs N g]) (Hf := H) hH
  exact (stext_spec w Mc bs N g t roots oR cR hok hcy ht hU hl (fun H' w' hw => hrd _ _ (h2 _ _ hw)) h1).mono fun v w' ⟨h3, h4⟩ => ⟨h3, h2 _ _ h4⟩
theorem sstring_f {x : Int} (hH : HS w0 M (stI bs N g :: H) w) (hok : GOk N g.s) (hU : U x) :
    Ret Try.prog 25 #[.pointer (some (bat bs 0)), .int .u64 x] w (fun v w' => v = .tuple #[.string (strS g.s.L x).1, .int .i64 (strS g.s.L x).2] ∧ HS w0 M (stI bs N g :: H) w') := by
  obtain ⟨Mc, h1, -, h2⟩ := HS.frame (Hc := [stI bs N g]) (Hf := H) hH
  exact (sstring_spec w Mc bs N g x hok hU h1).mono fun v w' ⟨h3, h4⟩ => ⟨h3, h2 _ _ h4⟩
theorem scycles_f (hH : HS w0 M (stI bs N g :: H) w) :
    Ret Try.prog 29 #[.pointer (some (bat bs 0))] w (fun v w' => v = .int .i64 (g.cy : Nat) ∧ HS w0 M (stI bs N g :: H) w') := by
  obtain ⟨Mc, h1, -, h2⟩ := HS.frame (Hc := [stI bs N g]) (Hf := H) hH
  exact (scycles_spec w Mc bs N g h1).mono fun v w' ⟨h3, h4⟩ => ⟨h3, h2 _ _ h4⟩
theorem sroom_f (hH : HS w0 M (stI bs N g :: H) w) :
    Ret Try.prog 27 #[.pointer (some (bat bs 0))] w (fun v w' => v = .int .i64 (roomA (gaps N 1 g.s.L)) ∧ HS w0 M (stI bs N g :: H) w') := by
  obtain ⟨Mc, h1, -, h2⟩ := HS.frame (Hc := [stI bs N g]) (Hf := H) hH
  exact (sroom_spec w Mc bs N g h1).mono fun v w' ⟨h3, h4⟩ => ⟨h3, h2 _ _ h4⟩
theorem spick_f {roots : List Int} {oR : Option Addr} {cR : Nat} (hH : HS w0 M (stI bs N g :: H) w) (hok : GOk N g.s) (hcy : g.cy ≤ 1000000) (hU : ∀ x ∈ roots, U x) (hl : roots.length ≤ 140737488355328) (hrd : ∀ Hc w', HS w0 M (Hc ++ H) w' → Rd w' oR (flat encW roots)) :
    Ret Try.prog 18 #[.pointer (some (bat bs 0)), .slice oR roots.length cR] w (fun v w' => HS w0 M (stI bs N (pickS g roots) :: H) w') := by
  obtain ⟨Mc, h1, -, h2⟩ := HS.frame (Hc := [stI bs N g]) (Hf := H) hH
  exact (spick_spec w Mc bs N g roots oR cR hok hcy hU hl (fun H' w' hw => hrd _ _ (h2 _ _ hw)) h1).mono fun v w' h4 => h2 _ _ h4
end
set_option maxRecDepth 10000 attribute [local irreducible] Code.wp wpList Calls Ex Op1 sat bat blk cb own Go.Fw.mp Go.Fw.mpO Go.Fw.mpI Go.Fw.mpE Go.Fw.itr HS Rd Ret wkD Hp Cl Cls Exit.then Exit.inBlock Exit.noGoto bodyPost Go.Fw.flat wk2 Go.Fw.all Go.Fw.owns wpOp
attribute [local irreducible] hdA gaps isA nextA allocA freeA sizeA kindA setA getA whiteZ numW addrW shadeG gcI hpI stepG beginG writeG allocG mu atA endS finG allocS setF txt wrd chunk bts orK shlK numV bytS strS textS stI pickS writeS st0 awS aw5 aw6 awT1 awT2 awT3

set_option maxHeartbeats 4000000 in
theorem awake_spec (w0 : World) : Ret Try.prog 8 #[] w0 (fun v w => v = .bool true ∧ Kp w0 noM w) := by
  have hH : HS w0 noM [] w0 := HS.init w0 noM
  (refine enter (N := 127) Try.func8 rfl Try.ntmps8 rfl ?_; intro a hA; dsimp only [sl0, Nat.reduceAdd] at hA)
  repeat' (first | (first | (refine GT ?_ ?_ <;> intro hg <;> clear hA a <;> intro a hA <;> (first | exact FA | replace hg := of_decide_eq_true hg | replace hg := of_decide_eq_false hg | skip)) | (refine QT ?_; clear hA a; intro a hA) | (first | (refine BT ?_; clear hA hH; rintro _ w ⟨bN, rfl, hH⟩ a hA) | (refine LT ?_; clear hA hH; rintro _ w ⟨oN, rfl, hH⟩ a hA) | (refine AT ?_; clear hA; rintro _ w ⟨oN, cN, rfl, hH2⟩ a hA; clear hH; have hH := (hH2 _ (by (repeat constructor))).tail; clear hH2) | (refine S0T ?_; clear hH; rintro _ w hH) )) | ((first | refine CT ?_ | (refine DT ?_ ?_ <;> intro hc <;> try (exfalso; omega))) <;> repeat' refine CT ?_) | (first | (refine DSK ?_; clear hA a; intro a hA) | (first | (refine DLT ?_; clear hA hH; rintro _ w ⟨oN, rfl, hH⟩; refine ⟨STT, ?_⟩; intro a hA) | (refine DAT ?_; clear hA; rintro _ w ⟨oN, cN, rfl, hH2⟩; clear hH; have hH := (hH2 _ (by (repeat constructor))).tail; clear hH2; refine ⟨STT, ?_⟩; intro a hA))) )
  (refine st_op hA rfl rfl (by decide) (op_call rfl rfl rfl (new_st hH)) ?_; clear hA hH; rintro _ w (⟨rfl, h, hH⟩ | ⟨h, bs, rfl, hH⟩) a hA)
  · exact absurd ⟨by decide, by decide⟩ h
  rw [show Int.toNat 9 = 9 from rfl, st0_n, aw_0] at hH
  repeat' (first | (first | (refine GT ?_ ?_ <;> intro hg <;> clear hA a <;> intro a hA <;> (first | exact FA | replace hg := of_decide_eq_true hg | replace hg := of_decide_eq_false hg | skip)) | ((first | apply st_ex hA hH rfl rfl (by decide) | apply dr_ex hA rfl rfl rfl (by decide) | apply dr_exp hA rfl rfl rfl (by decide) | apply dr_ex3 hA hH rfl rfl rfl (by decide)); (first | (apply ex_eqlPf; rfl; rfl) | (apply ex_eqlPt; rfl; rfl) | (apply ex_neqPt; rfl; rfl) | (apply ex_neqPf; rfl; rfl)); clear hA a; intro a hA) | (refine QT ?_; clear hA a; intro a hA) | (first | (refine BT ?_; clear hA hH; rintro _ w ⟨bN, rfl, hH⟩ a hA) | (refine LT ?_; clear hA hH; rintro _ w ⟨oN, rfl, hH⟩ a hA) | (refine AT ?_; clear hA; rintro _ w ⟨oN, cN, rfl, hH2⟩ a hA; clear hH; have hH := (hH2 _ (by (repeat constructor))).tail; clear hH2) | (refine S0T ?_; clear hH; rintro _ w hH) )) | ((first | refine CT ?_ | (refine DT ?_ ?_ <;> intro hc <;> try (exfalso; omega))) <;> repeat' refine CT ?_) | (first | (refine DSK ?_; clear hA a; intro a hA) | (first | (refine DLT ?_; clear hA hH; rintro _ w ⟨oN, rfl, hH⟩; refine ⟨STT, ?_⟩; intro a hA) | (refine DAT ?_; clear hA; rintro _ w ⟨oN, cN, rfl, hH2⟩; clear hH; have hH := (hH2 _ (by (repeat constructor))).tail; clear hH2; refine ⟨STT, ?_⟩; intro a hA))) )
  (refine st_op hA rfl rfl (by decide) (op_call rfl rfl rfl (new_st hH)) ?_; clear hA hH; rintro _ w (⟨rfl, h, hH⟩ | ⟨h, b2, rfl, hH⟩) a hA)
  rotate_left
  · exact absurd h.1 (by decide)
  clear h
  have hnil : ∀ x ∈ ([] : List Int), U x := fun x hx => absurd hx (List.not_mem_nil)
  have rnil : ∀ (Hc : List It) (w' : World), HS w0 noM (Hc ++ []) w' → Rd w' none (flat encW []) := fun _ w' _ => rd_nil w'
  repeat' (first | (first | (refine GT ?_ ?_ <;> intro hg <;> clear hA a <;> intro a hA <;> (first | exact FA | replace hg := of_decide_eq_true hg | replace hg := of_decide_eq_false hg | skip)) | ((first | apply st_ex hA hH rfl rfl (by decide) | apply dr_ex hA rfl rfl rfl (by decide) | apply dr_exp hA rfl rfl rfl (by decide) | apply dr_ex3 hA hH rfl rfl rfl (by decide)); (first | (apply ex_eqlPf; rfl; rfl) | (apply ex_eqlPt; rfl; rfl) | (apply ex_neqPt; rfl; rfl) | (apply ex_neqPf; rfl; rfl)); clear hA a; intro a hA) | (refine QT ?_; clear hA a; intro a hA) | (first | (refine BT ?_; clear hA hH; rintro _ w ⟨bN, rfl, hH⟩ a hA) | (refine LT ?_; clear hA hH; rintro _ w ⟨oN, rfl, hH⟩ a hA) | (refine AT ?_; clear hA; rintro _ w ⟨oN, cN, rfl, hH2⟩ a hA; clear hH; have hH := (hH2 _ (by (repeat constructor))).tail; clear hH2) | (refine S0T ?_; clear hH; rintro _ w hH) )) | ((first | refine CT ?_ | (refine DT ?_ ?_ <;> intro hc <;> try (exfalso; omega))) <;> repeat' refine CT ?_) | (first | (refine DSK ?_; clear hA a; intro a hA) | (first | (refine DLT ?_; clear hA hH; rintro _ w ⟨oN, rfl, hH⟩; refine ⟨STT, ?_⟩; intro a hA) | (refine DAT ?_; clear hA; rintro _ w ⟨oN, cN, rfl, hH2⟩; clear hH; have hH := (hH2 _ (by (repeat constructor))).tail; clear hH2; refine ⟨STT, ?_⟩; intro a hA))) )
  (refine st_op hA rfl rfl (by decide) (op_call rfl rfl rfl (salloc_f (roots := []) (oR := none) (cR := 0) hH (awS_ok 0) (by have := awS_cy 0; omega) hnil (by decide) rnil)) ?_; clear hA hH; rintro _ w ⟨rfl, hH⟩ a hA)
  rw [aw_next, aw_first.1, aw_first.2] at *
  repeat' (first | (first | (refine GT ?_ ?_ <;> intro hg <;> clear hA a <;> intro a hA <;> (first | exact FA | replace hg := of_decide_eq_true hg | replace hg := of_decide_eq_false hg | skip)) | (refine QT ?_; clear hA a; intro a hA) | (first | (refine BT ?_; clear hA hH; rintro _ w ⟨bN, rfl, hH⟩ a hA) | (refine LT ?_; clear hA hH; rintro _ w ⟨oN, rfl, hH⟩ a hA) | (refine AT ?_; clear hA; rintro _ w ⟨oN, cN, rfl, hH2⟩ a hA; clear hH; have hH := (hH2 _ (by (repeat constructor))).tail; clear hH2) | (refine S0T ?_; clear hH; rintro _ w hH) )) | ((first | refine CT ?_ | (refine DT ?_ ?_ <;> intro hc <;> try (exfalso; omega))) <;> repeat' refine CT ?_) | (first | (refine DSK ?_; clear hA a; intro a hA) | (first | (refine DLT ?_; clear hA hH; rintro _ w ⟨oN, rfl, hH⟩; refine ⟨STT, ?_⟩; intro a hA) | (refine DAT ?_; clear hA; rintro _ w ⟨oN, cN, rfl, hH2⟩; clear hH; have hH := (hH2 _ (by (repeat constructor))).tail; clear hH2; refine ⟨STT, ?_⟩; intro a hA))) )
  refine wp_lpj (S := Nat) (fun i a w => i ≤ 3 ∧ HS w0 noM [stI bs 9 (awS (i + 1))] w ∧ Sl 127 [(1, .pointer (some (bat bs 0))), (2, .int .u64 2), (3, .int .i64 0), (4, .int .i64 i)] a) (fun i => 3 - i)
    (fun a w => HS w0 noM [stI bs 9 (awS 4)] w ∧ Sl 127 [(1, .pointer (some (bat bs 0))), (2, .int .u64 2), (3, .int .i64 0)] a) 0 ⟨by omega, hH, (hA.sub (by (repeat (first | exact trivial | refine ⟨rfl, ?_⟩))))⟩ ?_ ?_
  · clear hA hH
    rintro i a w ⟨hi, hH, hA⟩
    by_cases hlt : i < 3
    · repeat' (first | (first | (refine GT ?_ ?_ <;> intro hg <;> clear hA a <;> intro a hA <;> (first | exact FA | replace hg := of_decide_eq_true hg | replace hg := of_decide_eq_false hg | skip)) | (refine QT ?_; clear hA a; intro a hA) | (first | (refine BT ?_; clear hA hH; rintro _ w ⟨bN, rfl, hH⟩ a hA) | (refine LT ?_; clear hA hH; rintro _ w ⟨oN, rfl, hH⟩ a hA) | (refine AT ?_; clear hA; rintro _ w ⟨oN, cN, rfl, hH2⟩ a hA; clear hH; have hH := (hH2 _ (by (repeat constructor))).tail; clear hH2) | (refine S0T ?_; clear hH; rintro _ w hH) )) | ((first | refine CT ?_ | (refine DT ?_ ?_ <;> intro hc <;> try (exfalso; omega))) <;> repeat' refine CT ?_) | (first | (refine DSK ?_; clear hA a; intro a hA) | (first | (refine DLT ?_; clear hA hH; rintro _ w ⟨oN, rfl, hH⟩; refine ⟨STT, ?_⟩; intro a hA) | (refine DAT ?_; clear hA; rintro _ w ⟨oN, cN, rfl, hH2⟩; clear hH; have hH := (hH2 _ (by (repeat constructor))).tail; clear hH2; refine ⟨STT, ?_⟩; intro a hA))) )
      (refine st_op hA rfl rfl (by decide) (op_call rfl rfl rfl (salloc_f (roots := []) (oR := none) (cR := 0) hH (awS_ok (i + 1)) (by have := awS_cy (i + 1); omega) hnil (by decide) rnil)) ?_; clear hA hH; rintro _ w ⟨rfl, hH⟩ a hA)
      rw [aw_next] at hH
      repeat' (first | (first | (refine GT ?_ ?_ <;> intro hg <;> clear hA a <;> intro a hA <;> (first | exact FA | replace hg := of_decide_eq_true hg | replace hg := of_decide_eq_false hg | skip)) | (refine QT ?_; clear hA a; intro a hA) | (first | (refine BT ?_; clear hA hH; rintro _ w ⟨bN, rfl, hH⟩ a hA) | (refine LT ?_; clear hA hH; rintro _ w ⟨oN, rfl, hH⟩ a hA) | (refine AT ?_; clear hA; rintro _ w ⟨oN, cN, rfl, hH2⟩ a hA; clear hH; have hH := (hH2 _ (by (repeat constructor))).tail; clear hH2) | (refine S0T ?_; clear hH; rintro _ w hH) )) | ((first | refine CT ?_ | (refine DT ?_ ?_ <;> intro hc <;> try (exfalso; omega))) <;> repeat' refine CT ?_) | (first | (refine DSK ?_; clear hA a; intro a hA) | (first | (refine DLT ?_; clear hA hH; rintro _ w ⟨oN, rfl, hH⟩; refine ⟨STT, ?_⟩; intro a hA) | (refine DAT ?_; clear hA; rintro _ w ⟨oN, cN, rfl, hH2⟩; clear hH; have hH := (hH2 _ (by (repeat constructor))).tail; clear hH2; refine ⟨STT, ?_⟩; intro a hA))) )
      exact ⟨i + 1, ⟨hlt, hH, (hA.sub (by (repeat (first | exact trivial | refine ⟨rfl, ?_⟩))))⟩, by omega⟩
    · obtain rfl : i = 3 := by omega
      repeat' (first | (first | (refine GT ?_ ?_ <;> intro hg <;> clear hA a <;> intro a hA <;> (first | exact FA | replace hg := of_decide_eq_true hg | replace hg := of_decide_eq_false hg | skip)) | (refine QT ?_; clear hA a; intro a hA) | (first | (refine BT ?_; clear hA hH; rintro _ w ⟨bN, rfl, hH⟩ a hA) | (refine LT ?_; clear hA hH; rintro _ w ⟨oN, rfl, hH⟩ a hA) | (refine AT ?_; clear hA; rintro _ w ⟨oN, cN, rfl, hH2⟩ a hA; clear hH; have hH := (hH2 _ (by (repeat constructor))).tail; clear hH2) | (refine S0T ?_; clear hH; rintro _ w hH) )) | ((first | refine CT ?_ | (refine DT ?_ ?_ <;> intro hc <;> try (exfalso; omega))) <;> repeat' refine CT ?_) | (first | (refine DSK ?_; clear hA a; intro a hA) | (first | (refine DLT ?_; clear hA hH; rintro _ w ⟨oN, rfl, hH⟩; refine ⟨STT, ?_⟩; intro a hA) | (refine DAT ?_; clear hA; rintro _ w ⟨oN, cN, rfl, hH2⟩; clear hH; have hH := (hH2 _ (by (repeat constructor))).tail; clear hH2; refine ⟨STT, ?_⟩; intro a hA))) )
      exact ⟨hH, (hA.sub (by (repeat (first | exact trivial | refine ⟨rfl, ?_⟩))))⟩
  clear hA hH
  rintro a w ⟨hH, hA⟩
  repeat' (first | (first | (refine GT ?_ ?_ <;> intro hg <;> clear hA a <;> intro a hA <;> (first | exact FA | replace hg := of_decide_eq_true hg | replace hg := of_decide_eq_false hg | skip)) | (refine QT ?_; clear hA a; intro a hA) | (first | (refine BT ?_; clear hA hH; rintro _ w ⟨bN, rfl, hH⟩ a hA) | (refine LT ?_; clear hA hH; rintro _ w ⟨oN, rfl, hH⟩ a hA) | (refine AT ?_; clear hA; rintro _ w ⟨oN, cN, rfl, hH2⟩ a hA; clear hH; have hH := (hH2 _ (by (repeat constructor))).tail; clear hH2) | (refine S0T ?_; clear hH; rintro _ w hH) )) | ((first | refine CT ?_ | (refine DT ?_ ?_ <;> intro hc <;> try (exfalso; omega))) <;> repeat' refine CT ?_) | (first | (refine DSK ?_; clear hA a; intro a hA) | (first | (refine DLT ?_; clear hA hH; rintro _ w ⟨oN, rfl, hH⟩; refine ⟨STT, ?_⟩; intro a hA) | (refine DAT ?_; clear hA; rintro _ w ⟨oN, cN, rfl, hH2⟩; clear hH; have hH := (hH2 _ (by (repeat constructor))).tail; clear hH2; refine ⟨STT, ?_⟩; intro a hA))) )
  (refine st_op hA rfl rfl (by decide) (op_call rfl rfl rfl (sroom_f hH)) ?_; clear hA hH; rintro _ w ⟨rfl, hH⟩ a hA)
  rw [aw_room] at hA
  repeat' (first | (first | (refine GT ?_ ?_ <;> intro hg <;> clear hA a <;> intro a hA <;> (first | exact FA | replace hg := of_decide_eq_true hg | replace hg := of_decide_eq_false hg | skip)) | (refine QT ?_; clear hA a; intro a hA) | (first | (refine BT ?_; clear hA hH; rintro _ w ⟨bN, rfl, hH⟩ a hA) | (refine LT ?_; clear hA hH; rintro _ w ⟨oN, rfl, hH⟩ a hA) | (refine AT ?_; clear hA; rintro _ w ⟨oN, cN, rfl, hH2⟩ a hA; clear hH; have hH := (hH2 _ (by (repeat constructor))).tail; clear hH2) | (refine S0T ?_; clear hH; rintro _ w hH) )) | ((first | refine CT ?_ | (refine DT ?_ ?_ <;> intro hc <;> try (exfalso; omega))) <;> repeat' refine CT ?_) | (first | (refine DSK ?_; clear hA a; intro a hA) | (first | (refine DLT ?_; clear hA hH; rintro _ w ⟨oN, rfl, hH⟩; refine ⟨STT, ?_⟩; intro a hA) | (refine DAT ?_; clear hA; rintro _ w ⟨oN, cN, rfl, hH2⟩; clear hH; have hH := (hH2 _ (by (repeat constructor))).tail; clear hH2; refine ⟨STT, ?_⟩; intro a hA))) )
  rw [one_w] at hH
  have hH2 : HS w0 noM [stI bs 9 (awS 4), own 33 1 oN 1 1 (flat encW [2])] w := hH.perm (.swap _ _ _)
  clear hH
  have hH := hH2
  clear hH2
  (refine st_op hA rfl rfl (by decide) (op_call rfl rfl rfl (salloc_f (roots := [2]) (oR := oN) (cR := 1) hH (awS_ok 4) (by have := awS_cy 4; omega) U2 (by decide) (fun Hc w2 h => h.own_rd (List.mem_append_right _ (List.mem_cons_self ..))))) ?_; clear hA hH; rintro _ w ⟨rfl, hH⟩ a hA)
  rw [aw_q5, aw_b.1, aw_b.2] at *
  repeat' (first | (first | (refine GT ?_ ?_ <;> intro hg <;> clear hA a <;> intro a hA <;> (first | exact FA | replace hg := of_decide_eq_true hg | replace hg := of_decide_eq_false hg | skip)) | (refine QT ?_; clear hA a; intro a hA) | (first | (refine BT ?_; clear hA hH; rintro _ w ⟨bN, rfl, hH⟩ a hA) | (refine LT ?_; clear hA hH; rintro _ w ⟨oN, rfl, hH⟩ a hA) | (refine AT ?_; clear hA; rintro _ w ⟨oN, cN, rfl, hH2⟩ a hA; clear hH; have hH := (hH2 _ (by (repeat constructor))).tail; clear hH2) | (refine S0T ?_; clear hH; rintro _ w hH) )) | ((first | refine CT ?_ | (refine DT ?_ ?_ <;> intro hc <;> try (exfalso; omega))) <;> repeat' refine CT ?_) | (first | (refine DSK ?_; clear hA a; intro a hA) | (first | (refine DLT ?_; clear hA hH; rintro _ w ⟨oN, rfl, hH⟩; refine ⟨STT, ?_⟩; intro a hA) | (refine DAT ?_; clear hA; rintro _ w ⟨oN, cN, rfl, hH2⟩; clear hH; have hH := (hH2 _ (by (repeat constructor))).tail; clear hH2; refine ⟨STT, ?_⟩; intro a hA))) )
  replace hH := HS.left (H1 := [_]) hH
  (refine st_op hA rfl rfl (by decide) (op_call rfl rfl rfl (salloc_f (roots := []) (oR := none) (cR := 0) hH aw5_ok (by rw [aw_cy5]; decide) hnil (by decide) rnil)) ?_; clear hA hH; rintro _ w ⟨rfl, hH⟩ a hA)
  rw [aw_q6, aw_g] at *
  repeat' (first | (first | (refine GT ?_ ?_ <;> intro hg <;> clear hA a <;> intro a hA <;> (first | exact FA | replace hg := of_decide_eq_true hg | replace hg := of_decide_eq_false hg | skip)) | (refine QT ?_; clear hA a; intro a hA) | (first | (refine BT ?_; clear hA hH; rintro _ w ⟨bN, rfl, hH⟩ a hA) | (refine LT ?_; clear hA hH; rintro _ w ⟨oN, rfl, hH⟩ a hA) | (refine AT ?_; clear hA; rintro _ w ⟨oN, cN, rfl, hH2⟩ a hA; clear hH; have hH := (hH2 _ (by (repeat constructor))).tail; clear hH2) | (refine S0T ?_; clear hH; rintro _ w hH) )) | ((first | refine CT ?_ | (refine DT ?_ ?_ <;> intro hc <;> try (exfalso; omega))) <;> repeat' refine CT ?_) | (first | (refine DSK ?_; clear hA a; intro a hA) | (first | (refine DLT ?_; clear hA hH; rintro _ w ⟨oN, rfl, hH⟩; refine ⟨STT, ?_⟩; intro a hA) | (refine DAT ?_; clear hA; rintro _ w ⟨oN, cN, rfl, hH2⟩; clear hH; have hH := (hH2 _ (by (repeat constructor))).tail; clear hH2; refine ⟨STT, ?_⟩; intro a hA))) )
  (refine st_op hA rfl rfl (by decide) (op_call rfl rfl rfl (new_st hH)) ?_; clear hA hH; rintro _ w (⟨rfl, h, hH⟩ | ⟨h, bt, rfl, hH⟩) a hA)
  · exact absurd ⟨by decide, by decide⟩ h
  rw [show Int.toNat 20 = 20 from rfl, st0_n] at hH
  repeat' (first | (first | (refine GT ?_ ?_ <;> intro hg <;> clear hA a <;> intro a hA <;> (first | exact FA | replace hg := of_decide_eq_true hg | replace hg := of_decide_eq_false hg | skip)) | (refine QT ?_; clear hA a; intro a hA) | (first | (refine BT ?_; clear hA hH; rintro _ w ⟨bN, rfl, hH⟩ a hA) | (refine LT ?_; clear hA hH; rintro _ w ⟨oN, rfl, hH⟩ a hA) | (refine AT ?_; clear hA; rintro _ w ⟨oN, cN, rfl, hH2⟩ a hA; clear hH; have hH := (hH2 _ (by (repeat constructor))).tail; clear hH2) | (refine S0T ?_; clear hH; rintro _ w hH) )) | ((first | refine CT ?_ | (refine DT ?_ ?_ <;> intro hc <;> try (exfalso; omega))) <;> repeat' refine CT ?_) | (first | (refine DSK ?_; clear hA a; intro a hA) | (first | (refine DLT ?_; clear hA hH; rintro _ w ⟨oN, rfl, hH⟩; refine ⟨STT, ?_⟩; intro a hA) | (refine DAT ?_; clear hA; rintro _ w ⟨oN, cN, rfl, hH2⟩; clear hH; have hH := (hH2 _ (by (repeat constructor))).tail; clear hH2; refine ⟨STT, ?_⟩; intro a hA))) )
  have rn2 : ∀ (Hc : List It) (w' : World), HS w0 noM (Hc ++ [stI bs 9 aw6]) w' → Rd w' none (flat encW []) := fun _ w' _ => rd_nil w'
  (refine st_op hA rfl rfl (by decide) (op_call rfl rfl rfl (stext_f (t := tLit) (roots := []) (oR := none) (cR := 0) hH (st0_ok (by decide)) (by rw [st0_cy]; decide) tLit_len hnil (by decide) rn2)) ?_; clear hA hH; rintro _ w ⟨rfl, hH⟩ a hA)
  rw [awT_q1, awT1_text.1, awT1_text.2] at *
  repeat' (first | (first | (refine GT ?_ ?_ <;> intro hg <;> clear hA a <;> intro a hA <;> (first | exact FA | replace hg := of_decide_eq_true hg | replace hg := of_decide_eq_false hg | skip)) | (refine QT ?_; clear hA a; intro a hA) | (first | (refine BT ?_; clear hA hH; rintro _ w ⟨bN, rfl, hH⟩ a hA) | (refine LT ?_; clear hA hH; rintro _ w ⟨oN, rfl, hH⟩ a hA) | (refine AT ?_; clear hA; rintro _ w ⟨oN, cN, rfl, hH2⟩ a hA; clear hH; have hH := (hH2 _ (by (repeat constructor))).tail; clear hH2) | (refine S0T ?_; clear hH; rintro _ w hH) )) | ((first | refine CT ?_ | (refine DT ?_ ?_ <;> intro hc <;> try (exfalso; omega))) <;> repeat' refine CT ?_) | (first | (refine DSK ?_; clear hA a; intro a hA) | (first | (refine DLT ?_; clear hA hH; rintro _ w ⟨oN, rfl, hH⟩; refine ⟨STT, ?_⟩; intro a hA) | (refine DAT ?_; clear hA; rintro _ w ⟨oN, cN, rfl, hH2⟩; clear hH; have hH := (hH2 _ (by (repeat constructor))).tail; clear hH2; refine ⟨STT, ?_⟩; intro a hA))) )
  (refine st_op hA rfl rfl (by decide) (op_call rfl rfl rfl (sstring_f hH awT1_ok U_two)) ?_; clear hA hH; rintro _ w ⟨rfl, hH⟩ a hA)
  rw [awT1_str] at hA
  dsimp only at hA
  repeat' (first | (first | (refine GT ?_ ?_ <;> intro hg <;> clear hA a <;> intro a hA <;> (first | exact FA | replace hg := of_decide_eq_true hg | replace hg := of_decide_eq_false hg | skip)) | (refine QT ?_; clear hA a; intro a hA) | (first | (refine BT ?_; clear hA hH; rintro _ w ⟨bN, rfl, hH⟩ a hA) | (refine LT ?_; clear hA hH; rintro _ w ⟨oN, rfl, hH⟩ a hA) | (refine AT ?_; clear hA; rintro _ w ⟨oN, cN, rfl, hH2⟩ a hA; clear hH; have hH := (hH2 _ (by (repeat constructor))).tail; clear hH2) | (refine S0T ?_; clear hH; rintro _ w hH) )) | ((first | refine CT ?_ | (refine DT ?_ ?_ <;> intro hc <;> try (exfalso; omega))) <;> repeat' refine CT ?_) | (first | (refine DSK ?_; clear hA a; intro a hA) | (first | (refine DLT ?_; clear hA hH; rintro _ w ⟨oN, rfl, hH⟩; refine ⟨STT, ?_⟩; intro a hA) | (refine DAT ?_; clear hA; rintro _ w ⟨oN, cN, rfl, hH2⟩; clear hH; have hH := (hH2 _ (by (repeat constructor))).tail; clear hH2; refine ⟨STT, ?_⟩; intro a hA))) )
  (refine st_op hA rfl rfl (by decide) (op_call rfl rfl rfl (sset_f hH awT1_ok U_two)) ?_; clear hA hH; rintro _ w ⟨rfl, hH⟩ a hA)
  rw [awT_q2, awT2_1] at *
  repeat' (first | (first | (refine GT ?_ ?_ <;> intro hg <;> clear hA a <;> intro a hA <;> (first | exact FA | replace hg := of_decide_eq_true hg | replace hg := of_decide_eq_false hg | skip)) | (refine QT ?_; clear hA a; intro a hA) | (first | (refine BT ?_; clear hA hH; rintro _ w ⟨bN, rfl, hH⟩ a hA) | (refine LT ?_; clear hA hH; rintro _ w ⟨oN, rfl, hH⟩ a hA) | (refine AT ?_; clear hA; rintro _ w ⟨oN, cN, rfl, hH2⟩ a hA; clear hH; have hH := (hH2 _ (by (repeat constructor))).tail; clear hH2) | (refine S0T ?_; clear hH; rintro _ w hH) )) | ((first | refine CT ?_ | (refine DT ?_ ?_ <;> intro hc <;> try (exfalso; omega))) <;> repeat' refine CT ?_) | (first | (refine DSK ?_; clear hA a; intro a hA) | (first | (refine DLT ?_; clear hA hH; rintro _ w ⟨oN, rfl, hH⟩; refine ⟨STT, ?_⟩; intro a hA) | (refine DAT ?_; clear hA; rintro _ w ⟨oN, cN, rfl, hH2⟩; clear hH; have hH := (hH2 _ (by (repeat constructor))).tail; clear hH2; refine ⟨STT, ?_⟩; intro a hA))) )
  (refine st_op hA rfl rfl (by decide) (op_call rfl rfl rfl (spick_f (roots := []) (oR := none) (cR := 0) hH awT2_ok (by rw [awT1_cy.2.1]; decide) hnil (by decide) rn2)) ?_; clear hA hH; rintro _ w hH a hA)
  rw [awT_q3] at hH
  repeat' (first | (first | (refine GT ?_ ?_ <;> intro hg <;> clear hA a <;> intro a hA <;> (first | exact FA | replace hg := of_decide_eq_true hg | replace hg := of_decide_eq_false hg | skip)) | (refine QT ?_; clear hA a; intro a hA) | (first | (refine BT ?_; clear hA hH; rintro _ w ⟨bN, rfl, hH⟩ a hA) | (refine LT ?_; clear hA hH; rintro _ w ⟨oN, rfl, hH⟩ a hA) | (refine AT ?_; clear hA; rintro _ w ⟨oN, cN, rfl, hH2⟩ a hA; clear hH; have hH := (hH2 _ (by (repeat constructor))).tail; clear hH2) | (refine S0T ?_; clear hH; rintro _ w hH) )) | ((first | refine CT ?_ | (refine DT ?_ ?_ <;> intro hc <;> try (exfalso; omega))) <;> repeat' refine CT ?_) | (first | (refine DSK ?_; clear hA a; intro a hA) | (first | (refine DLT ?_; clear hA hH; rintro _ w ⟨oN, rfl, hH⟩; refine ⟨STT, ?_⟩; intro a hA) | (refine DAT ?_; clear hA; rintro _ w ⟨oN, cN, rfl, hH2⟩; clear hH; have hH := (hH2 _ (by (repeat constructor))).tail; clear hH2; refine ⟨STT, ?_⟩; intro a hA))) )
  (refine st_op hA rfl rfl (by decide) (op_call rfl rfl rfl (ref_spec _ 1 (by decide))) ?_; clear hA; rintro _ w ⟨rfl, hk⟩ a hA; replace hH := hH.keep hk; clear hk)
  repeat' (first | (first | (refine GT ?_ ?_ <;> intro hg <;> clear hA a <;> intro a hA <;> (first | exact FA | replace hg := of_decide_eq_true hg | replace hg := of_decide_eq_false hg | skip)) | (refine QT ?_; clear hA a; intro a hA) | (first | (refine BT ?_; clear hA hH; rintro _ w ⟨bN, rfl, hH⟩ a hA) | (refine LT ?_; clear hA hH; rintro _ w ⟨oN, rfl, hH⟩ a hA) | (refine AT ?_; clear hA; rintro _ w ⟨oN, cN, rfl, hH2⟩ a hA; clear hH; have hH := (hH2 _ (by (repeat constructor))).tail; clear hH2) | (refine S0T ?_; clear hH; rintro _ w hH) )) | ((first | refine CT ?_ | (refine DT ?_ ?_ <;> intro hc <;> try (exfalso; omega))) <;> repeat' refine CT ?_) | (first | (refine DSK ?_; clear hA a; intro a hA) | (first | (refine DLT ?_; clear hA hH; rintro _ w ⟨oN, rfl, hH⟩; refine ⟨STT, ?_⟩; intro a hA) | (refine DAT ?_; clear hA; rintro _ w ⟨oN, cN, rfl, hH2⟩; clear hH; have hH := (hH2 _ (by (repeat constructor))).tail; clear hH2; refine ⟨STT, ?_⟩; intro a hA))) )
  (refine st_op hA rfl rfl (by decide) (op_call rfl rfl rfl (ref_spec _ 3 (by decide))) ?_; clear hA; rintro _ w ⟨rfl, hk⟩ a hA; replace hH := hH.keep hk; clear hk)
  repeat' (first | (first | (refine GT ?_ ?_ <;> intro hg <;> clear hA a <;> intro a hA <;> (first | exact FA | replace hg := of_decide_eq_true hg | replace hg := of_decide_eq_false hg | skip)) | (refine QT ?_; clear hA a; intro a hA) | (first | (refine BT ?_; clear hA hH; rintro _ w ⟨bN, rfl, hH⟩ a hA) | (refine LT ?_; clear hA hH; rintro _ w ⟨oN, rfl, hH⟩ a hA) | (refine AT ?_; clear hA; rintro _ w ⟨oN, cN, rfl, hH2⟩ a hA; clear hH; have hH := (hH2 _ (by (repeat constructor))).tail; clear hH2) | (refine S0T ?_; clear hH; rintro _ w hH) )) | ((first | refine CT ?_ | (refine DT ?_ ?_ <;> intro hc <;> try (exfalso; omega))) <;> repeat' refine CT ?_) | (first | (refine DSK ?_; clear hA a; intro a hA) | (first | (refine DLT ?_; clear hA hH; rintro _ w ⟨oN, rfl, hH⟩; refine ⟨STT, ?_⟩; intro a hA) | (refine DAT ?_; clear hA; rintro _ w ⟨oN, cN, rfl, hH2⟩; clear hH; have hH := (hH2 _ (by (repeat constructor))).tail; clear hH2; refine ⟨STT, ?_⟩; intro a hA))) )
  replace hH := hH.perm (.swap _ _ _)
  (refine st_op hA rfl rfl (by decide) (op_call rfl rfl rfl (scycles_f hH)) ?_; clear hA hH; rintro _ w ⟨rfl, hH⟩ a hA)
  rw [aw_cy] at hA
  repeat' (first | (first | (refine GT ?_ ?_ <;> intro hg <;> clear hA a <;> intro a hA <;> (first | exact FA | replace hg := of_decide_eq_true hg | replace hg := of_decide_eq_false hg | skip)) | ((first | apply st_ex hA hH rfl rfl (by decide) | apply dr_ex hA rfl rfl rfl (by decide) | apply dr_exp hA rfl rfl rfl (by decide) | apply dr_ex3 hA hH rfl rfl rfl (by decide)); (first | (apply ex_eqlSs; rfl; rfl)); clear hA a; intro a hA) | (refine QT ?_; clear hA a; intro a hA) | (first | (refine BT ?_; clear hA hH; rintro _ w ⟨bN, rfl, hH⟩ a hA) | (refine LT ?_; clear hA hH; rintro _ w ⟨oN, rfl, hH⟩ a hA) | (refine AT ?_; clear hA; rintro _ w ⟨oN, cN, rfl, hH2⟩ a hA; clear hH; have hH := (hH2 _ (by (repeat constructor))).tail; clear hH2) | (refine S0T ?_; clear hH; rintro _ w hH) )) | ((first | refine CT ?_ | (refine DT ?_ ?_ <;> intro hc <;> try (exfalso; omega))) <;> repeat' refine CT ?_) | (first | (refine DSK ?_; clear hA a; intro a hA) | (first | (refine DLT ?_; clear hA hH; rintro _ w ⟨oN, rfl, hH⟩; refine ⟨STT, ?_⟩; intro a hA) | (refine DAT ?_; clear hA; rintro _ w ⟨oN, cN, rfl, hH2⟩; clear hH; have hH := (hH2 _ (by (repeat constructor))).tail; clear hH2; refine ⟨STT, ?_⟩; intro a hA))) )
  replace hH := hH.perm (.swap _ _ _)
  (refine st_op hA rfl rfl (by decide) (op_call rfl rfl rfl (skind_f hH awT3_ok U_two)) ?_; clear hA hH; rintro _ w ⟨rfl, hH⟩ a hA)
  rw [awT3_k.1] at hA
  repeat' (first | (first | (refine GT ?_ ?_ <;> intro hg <;> clear hA a <;> intro a hA <;> (first | exact FA | replace hg := of_decide_eq_true hg | replace hg := of_decide_eq_false hg | skip)) | (refine QT ?_; clear hA a; intro a hA) | (first | (refine BT ?_; clear hA hH; rintro _ w ⟨bN, rfl, hH⟩ a hA) | (refine LT ?_; clear hA hH; rintro _ w ⟨oN, rfl, hH⟩ a hA) | (refine AT ?_; clear hA; rintro _ w ⟨oN, cN, rfl, hH2⟩ a hA; clear hH; have hH := (hH2 _ (by (repeat constructor))).tail; clear hH2) | (refine S0T ?_; clear hH; rintro _ w hH) )) | ((first | refine CT ?_ | (refine DT ?_ ?_ <;> intro hc <;> try (exfalso; omega))) <;> repeat' refine CT ?_) | (first | (refine DSK ?_; clear hA a; intro a hA) | (first | (refine DLT ?_; clear hA hH; rintro _ w ⟨oN, rfl, hH⟩; refine ⟨STT, ?_⟩; intro a hA) | (refine DAT ?_; clear hA; rintro _ w ⟨oN, cN, rfl, hH2⟩; clear hH; have hH := (hH2 _ (by (repeat constructor))).tail; clear hH2; refine ⟨STT, ?_⟩; intro a hA))) )
  (refine st_op hA rfl rfl (by decide) (op_call rfl rfl rfl (ssize_f hH awT3_ok U_two)) ?_; clear hA hH; rintro _ w ⟨rfl, hH⟩ a hA)
  rw [awT3_k.2] at hA
  repeat' (first | (first | (refine GT ?_ ?_ <;> intro hg <;> clear hA a <;> intro a hA <;> (first | exact FA | replace hg := of_decide_eq_true hg | replace hg := of_decide_eq_false hg | skip)) | (refine QT ?_; clear hA a; intro a hA) | (first | (refine BT ?_; clear hA hH; rintro _ w ⟨bN, rfl, hH⟩ a hA) | (refine LT ?_; clear hA hH; rintro _ w ⟨oN, rfl, hH⟩ a hA) | (refine AT ?_; clear hA; rintro _ w ⟨oN, cN, rfl, hH2⟩ a hA; clear hH; have hH := (hH2 _ (by (repeat constructor))).tail; clear hH2) | (refine S0T ?_; clear hH; rintro _ w hH) )) | ((first | refine CT ?_ | (refine DT ?_ ?_ <;> intro hc <;> try (exfalso; omega))) <;> repeat' refine CT ?_) | (first | (refine DSK ?_; clear hA a; intro a hA) | (first | (refine DLT ?_; clear hA hH; rintro _ w ⟨oN, rfl, hH⟩; refine ⟨STT, ?_⟩; intro a hA) | (refine DAT ?_; clear hA; rintro _ w ⟨oN, cN, rfl, hH2⟩; clear hH; have hH := (hH2 _ (by (repeat constructor))).tail; clear hH2; refine ⟨STT, ?_⟩; intro a hA))) )
  (refine st_op hA rfl rfl (by decide) (op_call rfl rfl rfl (scycles_f hH)) ?_; clear hA hH; rintro _ w ⟨rfl, hH⟩ a hA)
  rw [awT1_cy.2.2] at hA
  repeat' (first | (first | (refine GT ?_ ?_ <;> intro hg <;> clear hA a <;> intro a hA <;> (first | exact FA | replace hg := of_decide_eq_true hg | replace hg := of_decide_eq_false hg | skip)) | (refine QT ?_; clear hA a; intro a hA) | (first | (refine BT ?_; clear hA hH; rintro _ w ⟨bN, rfl, hH⟩ a hA) | (refine LT ?_; clear hA hH; rintro _ w ⟨oN, rfl, hH⟩ a hA) | (refine AT ?_; clear hA; rintro _ w ⟨oN, cN, rfl, hH2⟩ a hA; clear hH; have hH := (hH2 _ (by (repeat constructor))).tail; clear hH2) | (refine S0T ?_; clear hH; rintro _ w hH) )) | ((first | refine CT ?_ | (refine DT ?_ ?_ <;> intro hc <;> try (exfalso; omega))) <;> repeat' refine CT ?_) | (first | (refine DSK ?_; clear hA a; intro a hA) | (first | (refine DLT ?_; clear hA hH; rintro _ w ⟨oN, rfl, hH⟩; refine ⟨STT, ?_⟩; intro a hA) | (refine DAT ?_; clear hA; rintro _ w ⟨oN, cN, rfl, hH2⟩; clear hH; have hH := (hH2 _ (by (repeat constructor))).tail; clear hH2; refine ⟨STT, ?_⟩; intro a hA))) )
  exact rt1 (.inl rfl) rfl hA rfl ⟨rfl, hH.kp⟩
end Go.Proofs.Ytdfhajdejlhamaa
namespace Go.Proofs.Ytdfhajdejlhamaa
open Go Go.Fw
set_option linter.unusedVariables false
end Go.Proofs.Ytdfhajdejlhamaa
namespace Go.Proofs.Ytdfhajdejlhamaa
open Go Go.Fw
set_option linter.unusedVariables false
theorem nodup_len : ∀ {N : Nat} {l : List Nat}, l.Nodup → (∀ a ∈ l, a < N) → l.length ≤ N
  | 0, l, _, hb => by
    cases l with
    | nil => exact Nat.le_refl _
    | cons a l => exact absurd (hb a (List.mem_cons_self ..)) (Nat.not_lt_zero _)
  | N + 1, l, hn, hb => by
    have h1 : (l.erase N).length ≤ N := nodup_len (hn.erase N) fun a ha => by
      have h2 := hb a (List.mem_of_mem_erase ha)
      have h3 : a ≠ N := fun he => by subst he; exact hn.not_mem_erase ha
      omega
    have h4 := List.length_erase (a := N) (l := l)
    split at h4 <;> omega
/-- a list of addresses that grows: no twins, all reached -/
structure Cl0 (L : List Ob) (roots : List Int) (out : List Nat) : Prop where
  nd : out.Nodup
  rc : ∀ a ∈ out, Rc L roots a
  ob : ∀ a ∈ out, isO L a
def addO (out : List Nat) (a : Nat) : List Nat := if 0 < a ∧ a ∉ out then out ++ [a] else out
theorem addO_mem {out : List Nat} {a b : Nat} (h : b ∈ out) : b ∈ addO out a := by
  unfold addO; split
  · exact List.mem_append_left _ h
  · exact h
theorem addO_get {out : List Nat} {a i b : Nat} (h : out[i]? = some b) : (addO out a)[i]? = some b := by
  unfold addO; split
  · rw [List.getElem?_append_left (List.getElem?_eq_some_iff.1 h).1]; exact h
  · exact h
theorem Cl0.add {L : List Ob} {roots : List Int} {out : List Nat} (h : Cl0 L roots out) {a : Nat} (h1 : 0 < a → Rc L roots a ∧ isO L a) : Cl0 L roots (addO out a) := by
  unfold addO
  split
  · rename_i hc
    obtain ⟨k1, k2⟩ := h1 hc.1
    refine ⟨List.nodup_append.2 ⟨h.nd, List.nodup_cons.2 ⟨List.not_mem_nil, List.nodup_nil⟩, fun x hx y hy => ?_⟩, fun b hb => ?_, fun b hb => ?_⟩
    · rw [List.mem_singleton.1 hy]
      exact fun he => hc.2 (he ▸ hx)
    · rcases List.mem_append.1 hb with hb | hb
      · exact h.rc b hb
      · rw [List.mem_singleton.1 hb]; exact k1
    · rcases List.mem_append.1 hb with hb | hb
      · exact h.ob b hb
      · rw [List.mem_singleton.1 hb]; exact k2
  · exact h
theorem Cl0.len {N : Nat} {L : List Ob} {roots : List Int} {out : List Nat} (h : Cl0 L roots out) (hl : Lay N 1 L) : out.length ≤ N := nodup_len h.nd fun a ha => (isO_lt hl (h.ob a ha)).2
/-- so far: what the first i reach is in -/
structure Cw (L : List Ob) (roots : List Int) (i : Nat) (out : List Nat) : Prop where
  c0 : Cl0 L roots out
  rt : ∀ x ∈ roots, numW x = false → isO L (addrN x) → addrN x ∈ out
  done : ∀ (p a : Nat), p < i → out[p]? = some a → ∀ b, E L a b → b ∈ out
theorem Cw.add {L : List Ob} {roots : List Int} {i : Nat} {out : List Nat} (h : Cw L roots i out) (hi : i ≤ out.length) {a : Nat} (h1 : 0 < a → Rc L roots a ∧ isO L a) : Cw L roots i (addO out a) := by
  refine ⟨h.c0.add h1, fun x h2 h3 h4 => addO_mem (h.rt x h2 h3 h4), fun p b hp hb c hE => addO_mem (h.done p b hp ?_ c hE)⟩
  obtain ⟨y, hy⟩ : ∃ y, out[p]? = some y := ⟨_, List.getElem?_eq_getElem (by omega)⟩
  rw [addO_get hy] at hb
  rw [hy, hb]
/-- all that words reach -/
structure Clo (L : List Ob) (roots : List Int) (out : List Nat) : Prop where
  c0 : Cl0 L roots out
  rt : ∀ x ∈ roots, numW x = false → isO L (addrN x) → addrN x ∈ out
  cls : ∀ a b, a ∈ out → E L a b → b ∈ out
set_option maxRecDepth 10000 attribute [local irreducible] Code.wp wpList Calls Ex Op1 sat bat blk cb own Go.Fw.mp Go.Fw.mpO Go.Fw.mpI Go.Fw.mpE Go.Fw.itr HS Rd Ret wkD Hp Cl Cls Exit.then Exit.inBlock Exit.noGoto bodyPost Go.Fw.flat wk2 Go.Fw.all Go.Fw.owns wpOp
attribute [local irreducible] hdA gaps isA nextA allocA freeA sizeA kindA setA getA whiteZ numW addrW shadeG gcI hpI stepG beginG writeG allocG mu objA addO

end Go.Proofs.Ytdfhajdejlhamaa
namespace Go.Proofs.Ytdfhajdejlhamaa
open Go Go.Fw
set_option linter.unusedVariables false
section
variable {N : Nat} {s : GS} {g : SS} {L : List Ob} {o : Ob} {held : List Nat} {roots : List Int}
structure Cyc (N : Nat) (L0 : List Ob) (held : List Nat) (s : GS) : Prop where
  ok : GOk N s
  sub : ∀ o ∈ s.L, o ∈ L0
  kp : ∀ o ∈ L0, o.a ∈ held → o ∈ s.L ∧ Pt s o.a
  fr : Fr s fun a => a ∈ held
theorem Cyc.begin (h : GOk N s) (hp : s.ph = 0) (hC : Clo s.L roots held) : Cyc N s.L held (beginG s roots).2 :=
  ⟨begin_ok h roots, fun o ho => by rw [beg_L h] at ho; exact ho, fun o ho hm => keep_begin h ho ⟨⟨o, ho, rfl⟩, .inl hp⟩ (hC.c0.rc _ hm), Fr_begin h hp hC.rt fun a b ha hE => hC.cls a b ha hE⟩
theorem Cyc.step (h : Cyc N L held s) : Cyc N L held (stepG s).2 :=
  ⟨step_ok h.ok, fun o ho => h.sub o (step_sub h.ok o ho), fun o ho hm => let ⟨h1, h2⟩ := h.kp o ho hm; keep_step h.ok h1 h2, Fr_step h.ok h.fr⟩
/-- picks: a cycle that has begun -/
structure Pk (N : Nat) (L0 : List Ob) (held : List Nat) (n : Nat) (g : SS) : Prop where
  cyc : Cyc N L0 held g.s
  st : (g.cy = 0 ∧ g.s.ph ≠ 0 ∧ mu N g.s + n ≤ 2 * N + 3) ∨ (g.cy = 1 ∧ g.s.ph = 0)
theorem Pk.first (h : GOk N g.s) (hp : g.s.ph = 0) (hcy : g.cy = 0) (hC : Clo g.s.L roots held) : Pk N g.s.L held 1 (pickS g roots) := by
  have e : pickS g roots = begS g roots := by unfold pickS; rw [if_pos hp]
  rw [e]
  refine ⟨Cyc.begin h hp hC, .inl ⟨hcy, ?_, ?_⟩⟩
  · obtain ⟨s', e, g1, g2, _⟩ := begin_facts h hp roots
    show (beginG g.s roots).2.ph ≠ 0
    rw [e]
    show s'.ph ≠ 0
    omega
  · have := mu_two N (begS g roots).s
    omega
end
def regN (x : Int) : Nat := ((IntKind.u64.wrap x).tmod 8).toNat
theorem reg_facts (x : Int) : (IntKind.u64.wrap x).tmod 8 = (regN x : Int) ∧ regN x < 8 ∧ IntKind.i64.wrap (regN x : Int) = (regN x : Int) := by
  have h0 : 0 ≤ IntKind.u64.wrap x := by
    rw [u64_mod]
    exact Int.emod_nonneg _ (by decide)
  have h1 := Int.tmod_nonneg (8 : Int) h0
  have h2 := Int.tmod_lt_of_pos (IntKind.u64.wrap x) (show (0 : Int) < 8 by decide)
  unfold regN
  refine ⟨by omega, by omega, wrap_i64 ⟨by omega, by omega⟩⟩
set_option maxRecDepth 10000 attribute [local irreducible] Code.wp wpList Calls Ex Op1 sat bat blk cb own Go.Fw.mp Go.Fw.mpO Go.Fw.mpI Go.Fw.mpE Go.Fw.itr HS Rd Ret wkD Hp Cl Cls Exit.then Exit.inBlock Exit.noGoto bodyPost Go.Fw.flat wk2 Go.Fw.all Go.Fw.owns wpOp
attribute [local irreducible] regN
theorem reg_spec (w0 : World) (x : Int) : Ret Try.prog 11 #[.int .i64 x] w0 (fun v w => v = .int .i64 (regN x : Nat) ∧ Kp w0 noM w) := by
  have hH : HS w0 noM [] w0 := HS.init w0 noM
  obtain ⟨h1, h2, h3⟩ := reg_facts x
  (refine enter (N := 7) Try.func11 rfl Try.ntmps11 rfl ?_; intro a hA; dsimp only [sl0, Nat.reduceAdd] at hA)
  repeat' (first | (first | (refine GT ?_ ?_ <;> intro hg <;> clear hA a <;> intro a hA <;> (first | exact FA | replace hg := of_decide_eq_true hg | replace hg := of_decide_eq_false hg | skip)) | ((first | apply st_ex hA hH rfl rfl (by decide) | apply dr_ex hA rfl rfl rfl (by decide) | apply dr_exp hA rfl rfl rfl (by decide) | apply dr_ex3 hA hH rfl rfl rfl (by decide)); (first | (apply ex_convert (v := IntKind.u64.wrap x); rfl; rfl) | (apply ex_convert (v := (regN x : Int)); rfl; (rw [h1]; exact h3))); clear hA a; intro a hA) | (refine QT ?_; clear hA a; intro a hA) | (first | (refine BT ?_; clear hA hH; rintro _ w ⟨bN, rfl, hH⟩ a hA) | (refine LT ?_; clear hA hH; rintro _ w ⟨oN, rfl, hH⟩ a hA) | (refine AT ?_; clear hA; rintro _ w ⟨oN, cN, rfl, hH2⟩ a hA; clear hH; have hH := (hH2 _ (by (repeat constructor))).tail; clear hH2) | (refine S0T ?_; clear hH; rintro _ w hH) )) | ((first | refine CT ?_ | (refine DT ?_ ?_ <;> intro hc <;> try (exfalso; omega))) <;> repeat' refine CT ?_) | (first | (refine DSK ?_; clear hA a; intro a hA) | (first | (refine DLT ?_; clear hA hH; rintro _ w ⟨oN, rfl, hH⟩; refine ⟨STT, ?_⟩; intro a hA) | (refine DAT ?_; clear hA; rintro _ w ⟨oN, cN, rfl, hH2⟩; clear hH; have hH := (hH2 _ (by (repeat constructor))).tail; clear hH2; refine ⟨STT, ?_⟩; intro a hA))) )
  exact rt1 (.inl rfl) rfl hA rfl ⟨rfl, hH.kp⟩
end Go.Proofs.Ytdfhajdejlhamaa
namespace Go.Proofs.Ytdfhajdejlhamaa
open Go Go.Fw Go.ChangeShapes Go.WideShapes Go.ChangeAt Go.RowKit Go.Deep
set_option linter.unusedVariables false
/-- a step: Kind, A, B, N, M, and a text -/
abbrev Stp := (Int × Int × Int × Int × Int) × ByteArray
def encT (x : Stp) : List Value := [.int .i64 x.1.1, .int .i64 x.1.2.1, .int .i64 x.1.2.2.1, .int .i64 x.1.2.2.2.1, .int .i64 x.1.2.2.2.2, .string x.2]
theorem encT_len (x : Stp) : (encT x).length = 6 := rfl
def R64 (z : Int) : Prop := -9223372036854775808 ≤ z ∧ z ≤ 9223372036854775807
def StpR (x : Stp) : Prop := R64 x.1.1 ∧ R64 x.1.2.1 ∧ R64 x.1.2.2.1 ∧ R64 x.1.2.2.2.1 ∧ R64 x.1.2.2.2.2
section
variable {ls : List Stp} {i : Nat} {x : Stp}
theorem t60 (h : ls[i]? = some x) : (flat encT ls)[i * 6 + 0]? = some (.int .i64 x.1.1) := flat_get encT_len (off := 0) h rfl
theorem t61 (h : ls[i]? = some x) : (flat encT ls)[i * 6 + 1]? = some (.int .i64 x.1.2.1) := flat_get encT_len (off := 1) h rfl
theorem t62 (h : ls[i]? = some x) : (flat encT ls)[i * 6 + 2]? = some (.int .i64 x.1.2.2.1) := flat_get encT_len (off := 2) h rfl
theorem t64 (h : ls[i]? = some x) : (flat encT ls)[i * 6 + 4]? = some (.int .i64 x.1.2.2.2.2) := flat_get encT_len (off := 4) h rfl
theorem t65 (h : ls[i]? = some x) : (flat encT ls)[i * 6 + 5]? = some (.string x.2) := flat_get encT_len (off := 5) h rfl
end
theorem wf_i64 {z : Int} (h : (Lit.int .i64 z).wf = true) : R64 z := by
  simp only [Lit.wf, Bool.and_eq_true, decide_eq_true_eq] at h
  have m1 : IntKind.i64.min = -9223372036854775808 := by decide
  have m2 : IntKind.i64.max = 9223372036854775807 := by decide
  rw [m1, m2] at h
  exact h
section
variable {H : Type} {enc : TypeId × Value → H} {P : Program} {w : World} {base : Nat} {spare : Nat → Bool} {held : Bool}
/-- a slice of structs of five numbers and a text, read -/
theorem open_stps {t e : TypeId} {f0 f1 f2 f3 f4 f5 : Field} {v : Value} {d : DataW H} {p : List MemPlace} {r : Reach} {b0 : Nat} (ht : P.underlying t = some (.slice e)) (he : P.underlying e = some (.struct #[f0, f1, f2, f3, f4, f5]))
    (hone : oneCellFields P #[f0, f1, f2, f3, f4, f5] = true) (hC : P.cellsOf e = 6) (h0 : P.underlying f0.type = some (.int .i64)) (h1 : P.underlying f1.type = some (.int .i64)) (h2 : P.underlying f2.type = some (.int .i64)) (h3 : P.underlying f3.type = some (.int .i64))
    (h4 : P.underlying f4.type = some (.int .i64)) (h5 : P.underlying f5.type = some .string) (hv : Value.okWide P w r b0 t v) (h : DataW.Trod enc P w base spare held t v d p) :
    ∃ (o : Option Addr) (c : Nat) (l : List Stp), v = .slice o l.length c ∧ Rd w o (flat encT l) ∧ l.length ≤ 9223372036854775807 ∧ ∀ x ∈ l, StpR x ∧ x.2.size ≤ maxLen := by
  obtain ⟨a0, len0, cap0, rfl⟩ := okWide_slice ht hv
  obtain ⟨fuel, hf⟩ := h
  rcases open_rows ht he hone hC hf with hcs | ⟨a, len, cap, hcs, hl, hi⟩
  · simp [Value.cells] at hcs
    obtain ⟨rfl, rfl, rfl⟩ := hcs
    exact ⟨none, 0, [], rfl, ⟨fun h => absurd h (by simp [flat]), fun j u hj => by simp [flat] at hj⟩, by simp, fun x hx => absurd hx (List.not_mem_nil)⟩
  · simp [Value.cells] at hcs
    obtain ⟨rfl, rfl, rfl⟩ := hcs
    obtain ⟨l, hll, hp⟩ := choose_list (fun i (x : Stp) => (∀ j v, (encT x)[j]? = some v → w.cell? (a.add (i * 6 + j)) = some v) ∧ StpR x ∧ x.2.size ≤ maxLen) len0 (fun i hil => by
      obtain ⟨v0, y0, n0, hc0, hy0⟩ := hi i hil 0 f0 rfl
      obtain ⟨v1, y1, n1, hc1, hy1⟩ := hi i hil 1 f1 rfl
      obtain ⟨v2, y2, n2, hc2, hy2⟩ := hi i hil 2 f2 rfl
      obtain ⟨v3, y3, n3, hc3, hy3⟩ := hi i hil 3 f3 rfl
      obtain ⟨v4, y4, n4, hc4, hy4⟩ := hi i hil 4 f4 rfl
      obtain ⟨v5, y5, n5, hc5, hy5⟩ := hi i hil 5 f5 rfl
      obtain ⟨z0, e0, -, g0⟩ := DataW.trod_int h0 hy0
      obtain ⟨z1, e1, -, g1⟩ := DataW.trod_int h1 hy1
      obtain ⟨z2, e2, -, g2⟩ := DataW.trod_int h2 hy2
      obtain ⟨z3, e3, -, g3⟩ := DataW.trod_int h3 hy3
      obtain ⟨z4, e4, -, g4⟩ := DataW.trod_int h4 hy4
      obtain ⟨s5, e5, -, g5⟩ := DataW.trod_string h5 hy5
      obtain rfl : v0 = .int .i64 z0 := by simpa using e0
      obtain rfl : v1 = .int .i64 z1 := by simpa using e1
      obtain rfl : v2 = .int .i64 z2 := by simpa using e2
      obtain rfl : v3 = .int .i64 z3 := by simpa using e3
      obtain rfl : v4 = .int .i64 z4 := by simpa using e4
      obtain rfl : v5 = .string s5 := by simpa using e5
      refine ⟨((z0, z1, z2, z3, z4), s5), fun j v hv => ?_, ⟨wf_i64 g0, wf_i64 g1, wf_i64 g2, wf_i64 g3, wf_i64 g4⟩, g5⟩
      match j, hv with
      | 0, hv => obtain rfl := Option.some.inj hv; exact hc0
      | 1, hv => obtain rfl := Option.some.inj hv; exact hc1
      | 2, hv => obtain rfl := Option.some.inj hv; exact hc2
      | 3, hv => obtain rfl := Option.some.inj hv; exact hc3
      | 4, hv => obtain rfl := Option.some.inj hv; exact hc4
      | 5, hv => obtain rfl := Option.some.inj hv; exact hc5
      | j + 6, hv => cases hv)
    subst hll
    refine ⟨some a, cap0, l, rfl, ?_, by unfold maxLen at hl; omega, fun x hx => ?_⟩
    rotate_left
    · obtain ⟨i, hi⟩ := List.getElem?_of_mem hx
      exact (hp i x hi).2
    cases l with
    | nil => exact ⟨fun h => absurd h (by simp [flat]), fun j u hj => by simp [flat] at hj⟩
    | cons x0 l0 =>
      obtain ⟨b, off, spot⟩ := a
      have hspot : spot = none := by simpa [Addr.add] using World.cell?_spot ((hp 0 x0 rfl).1 0 _ rfl)
      subst hspot
      refine ⟨fun _ => ⟨b, off, rfl⟩, fun j u hj => ?_⟩
      have hjl := (List.getElem?_eq_some_iff.1 hj).1
      rw [flat_length encT_len] at hjl
      have hadd : ∀ k, (⟨b, off, none⟩ : Addr).add k = sat (some ⟨b, off, none⟩) k := fun k => by
        simp only [sat, blkO, offO, Addr.add]
        split <;> simp_all
      obtain ⟨x, hx⟩ : ∃ x, (x0 :: l0)[j / 6]? = some x := ⟨_, List.getElem?_eq_getElem (by omega)⟩
      obtain ⟨v, hv⟩ : ∃ v, (encT x)[j % 6]? = some v := ⟨_, List.getElem?_eq_getElem (by rw [encT_len]; omega)⟩
      have h7 := (hp _ _ hx).1 _ _ hv
      have h8 := flat_get encT_len hx hv
      rw [show j / 6 * 6 + j % 6 = j by omega] at h7 h8
      rw [h8] at hj
      obtain rfl := Option.some.inj hj
      rw [← hadd]
      exact h7
end
section
variable {H : Type} {enc : TypeId × Value → H}
set_option maxRecDepth 10000 in
theorem argT {W : World} {base : Nat} {v : Value} {d : DataW H} {p : List MemPlace} {held : Bool} (hv : Value.okWide Try.prog W .any base 22 v) (h : DataW.Trod enc Try.prog W 0 (fun _ => true) held 22 v d p) :
    ∃ (o : Option Addr) (c : Nat) (l : List Stp), v = .slice o l.length c ∧ Rd W o (flat encT l) ∧ l.length ≤ 9223372036854775807 ∧ ∀ x ∈ l, StpR x ∧ x.2.size ≤ maxLen :=
  open_stps Try.underlying22 Try.underlying30 (by kernel_rfl) (by kernel_rfl) Try.underlying3 Try.underlying3 Try.underlying3 Try.underlying3 Try.underlying3 Try.underlying9 hv h
set_option maxRecDepth 10000 in
theorem own_ : ownKnob Try.prog.godebug = none := by kernel_rfl
set_option maxRecDepth 10000 in
theorem laidOut : laidOutB Try.prog = true := by kernel_rfl
end
end Go.Proofs.Ytdfhajdejlhamaa
namespace Go.Proofs.Ytdfhajdejlhamaa
open Go Go.Fw
set_option linter.unusedVariables false
def fk (n k : Nat) : List Vl := List.replicate k (true, 0) ++ List.replicate (n - k) (false, 0)
theorem fk_at {n k : Nat} (h : k < n) : (fk n k)[k]? = some (false, 0) := by
  unfold fk
  rw [List.getElem?_append_right (by simp), List.length_replicate, Nat.sub_self, List.getElem?_replicate, if_pos (by omega)]
theorem fk_set {n k : Nat} (h : k < n) : (fk n k).set k (true, 0) = fk n (k + 1) := by
  unfold fk
  obtain ⟨m, hm⟩ : ∃ m, n - k = m + 1 := ⟨n - k - 1, by omega⟩
  rw [List.set_append_right _ _ (by simp), List.length_replicate, Nat.sub_self, hm, List.replicate_succ, List.set_cons_zero, show n - (k + 1) = m by omega, List.replicate_succ' (n := k)]
  simp
theorem fk_zero (n : Nat) : fk n 0 = List.replicate n (false, 0) := by unfold fk; simp
theorem fk_end (n : Nat) : fk n n = List.replicate n (true, 0) := by unfold fk; simp
theorem eight_onesS : ([.int .u64 1, .int .u64 1, .int .u64 1, .int .u64 1, .int .u64 1, .int .u64 1, .int .u64 1, .int .u64 1] : List Value) = flat encW [1, 1, 1, 1, 1, 1, 1, 1] := rfl
theorem ones8_US : ∀ r ∈ ([1, 1, 1, 1, 1, 1, 1, 1] : List Int), U r := fun r hr => by
  have : r = 1 := by simpa using hr
  subst this
  exact U1
theorem umod6c (x : Int) : ∃ k : Nat, k < 6 ∧ (IntKind.u64.wrap x).tmod 6 = (k : Int) ∧ IntKind.i64.wrap (k : Int) = (k : Int) := by
  have h0 : 0 ≤ IntKind.u64.wrap x := by
    rw [u64_mod]
    exact Int.emod_nonneg _ (by decide)
  have h1 := Int.tmod_nonneg (6 : Int) h0
  have h2 := Int.tmod_lt_of_pos (IntKind.u64.wrap x) (show (0 : Int) < 6 by decide)
  exact ⟨((IntKind.u64.wrap x).tmod 6).toNat, by omega, by omega, wrap_i64 ⟨by omega, by omega⟩⟩
theorem setUS {l : List Int} {i : Nat} {y : Int} (h : ∀ r ∈ l, U r) (hy : U y) : ∀ r ∈ l.set i y, U r := fun r hr => by
  rcases List.mem_or_eq_of_mem_set hr with h1 | h1
  · exact h r h1
  · subst h1; exact hy
theorem writeS_okS {N : Nat} {g : SS} {z i y : Int} (h : GOk N g.s) (hU : U y) : GOk N (writeS g z i y).2.s := (write_ok h z i hU).1
theorem writeS_cyS (g : SS) (z i y : Int) : (writeS g z i y).2.cy = g.cy := rfl
theorem pick_cyS {g : SS} {roots : List Int} : (pickS g roots).cy ≤ g.cy + 1 := by
  unfold pickS
  split
  · show g.cy ≤ _; omega
  · dsimp only
    split <;> omega
theorem HS.p1234 {w0 w : World} {M : Nat → Prop} {p q r s t : It} (h : HS w0 M [p, q, r, s, t] w) : HS w0 M [p, q, r, s] w := HS.left (H1 := [p, q, r, s]) (H2 := [t]) h
/-- what a round comes to -/
structure RndS (N n : Nat) (g : SS) (T : List (List Vl)) (regs : List Int) (Q : List Vl) : Prop where
  ok : GOk N g.s
  tw : TwE g.s regs T Q
  cy : g.cy ≤ 2 * n
  U : ∀ r ∈ regs, U r
  rl : regs.length = 8
  ql : Q.length = 8
  tl : T.length ≤ n
theorem tw_none {w0 w : World} {M : Nat → Prop} {H : List It} {bt : Nat} (h : HS w0 M (cb bt 71 [.slice none 0 0, .slice none 0 0] :: H) w) : HS w0 M (twI bt [] :: H) w := by
  refine tw_shut ⟨none, 0, none, 0, []⟩ rfl ?_
  have h1 := ((h.nil_all).nil_own 72 1).nil_own 3 1
  exact h1.perm (by
    refine (List.perm_append_comm (l₁ := [_, _, _]) (l₂ := _)).trans ?_
    exact (List.Perm.cons _ ((List.perm_append_comm (l₁ := H) (l₂ := [_, _, _]))))) 
theorem tw_more {w0 w : World} {M : Nat → Prop} {H : List It} {bt n cK cH : Nat} {T : List (List Vl)} {row : List Vl} {q : TQ} {oK oH oF : Option Addr} (hp : q.ds.length = T.length)
    (h : HS w0 M (own 74 2 oF n n (flat encV row) :: cb bt 71 [.slice oK (T.length + 1) cK, .slice oH (T.length + 1) cH] :: own 3 1 oK (T.length + 1) cK (flat encI (List.replicate (T.length + 1) 6)) :: own 72 1 oH (T.length + 1) cH (flat encS q.ds ++ [.slice oF n n]) :: all (owns 74 2 encV q.ds T) :: H) w) :
    HS w0 M (twI bt (T ++ [row]) :: H) w := by
  have h1 := h.perm (H' := own 74 2 oF n n (flat encV row) :: all (owns 74 2 encV q.ds T) :: cb bt 71 [.slice oK (T.length + 1) cK, .slice oH (T.length + 1) cH] :: own 3 1 oK (T.length + 1) cK (flat encI (List.replicate (T.length + 1) 6)) :: own 72 1 oH (T.length + 1) cH (flat encS q.ds ++ [.slice oF n n]) :: H) (List.Perm.cons _ (perm_pick 3 rfl (List.Perm.refl _)))
  have h2 := h1.pushA
  have e1 := owns_snoc (T := 74) (sz := 2) (enc := encV) hp (oF, n, n) row
  have e2 : flat encS q.ds ++ [.slice oF n n] = flat encS (q.ds ++ [(oF, n, n)]) := (flat_snoc encS q.ds (oF, n, n)).symm
  dsimp only at e1
  rw [← e1, e2] at h2
  refine tw_shut ⟨oK, cK, oH, cH, q.ds ++ [(oF, n, n)]⟩ (by simp [hp]) ?_
  unfold twQ
  rw [List.length_append]
  exact h2.perm (List.perm_append_comm (l₁ := [_]) (l₂ := [_, _, _]) |>.append_right H)
theorem snoc6 (n : Nat) : flat encI (List.replicate n 6) ++ [.int .i64 6] = flat encI (List.replicate (n + 1) 6) := by
  rw [List.replicate_succ', flat_append, flat_one]
  rfl
set_option maxRecDepth 10000 attribute [local irreducible] Code.wp wpList Calls Ex Op1 sat bat blk cb own Go.Fw.mp Go.Fw.mpO Go.Fw.mpI Go.Fw.mpE Go.Fw.itr HS Rd Ret wkD Hp Cl Cls Exit.then Exit.inBlock Exit.noGoto bodyPost Go.Fw.flat wk2 Go.Fw.all Go.Fw.owns wpOp
attribute [local irreducible] hdA gaps isA nextA allocA freeA sizeA kindA setA getA whiteZ numW addrW shadeG gcI hpI stepG beginG writeG allocG mu atA endS finG allocS setF txt wrd chunk bts orK shlK numV bytS stI pickS writeS st0 twI regN fk TwE tgV ofW wrapV

set_option maxHeartbeats 8000000 in
theorem StoreSame_spec (w0 : World) (words : Int) (o2 : Option Addr) (c2 : Nat) (ls : List Stp) (hr : Rd w0 o2 (flat encT ls)) (hll : ls.length ≤ 9223372036854775807) :
    Ret Try.prog 7 #[.int .i64 words, .slice o2 ls.length c2] w0 (LawR w0) := by
  have hH : HS w0 noM [] w0 := HS.init w0 noM
  have hsp : Sp o2 ls.length := hr.sp (sz := 6) (flat_length encT_len ls) (by omega)
  (refine enter (N := 233) Try.func7 rfl Try.ntmps7 rfl ?_; intro a hA; dsimp only [sl0, Nat.reduceAdd] at hA)
  repeat' (first | (first | (refine GT ?_ ?_ <;> intro hg <;> clear hA a <;> intro a hA <;> (first | exact FA | replace hg := of_decide_eq_true hg | replace hg := of_decide_eq_false hg | skip)) | (refine QT ?_; clear hA a; intro a hA) | (first | (refine BT ?_; clear hA hH; rintro _ w ⟨bN, rfl, hH⟩ a hA) | (refine LT ?_; clear hA hH; rintro _ w ⟨oN, rfl, hH⟩ a hA) | (refine AT ?_; clear hA; rintro _ w ⟨oN, cN, rfl, hH2⟩ a hA; clear hH; have hH := (hH2 _ (by (repeat constructor))).tail; clear hH2) | (refine S0T ?_; clear hH; rintro _ w hH) )) | ((first | refine CT ?_ | (refine DT ?_ ?_ <;> intro hc <;> try (exfalso; omega))) <;> repeat' refine CT ?_) | (first | (refine DSK ?_; clear hA a; intro a hA) | (first | (refine DLT ?_; clear hA hH; rintro _ w ⟨oN, rfl, hH⟩; refine ⟨STT, ?_⟩; intro a hA) | (refine DAT ?_; clear hA; rintro _ w ⟨oN, cN, rfl, hH2⟩; clear hH; have hH := (hH2 _ (by (repeat constructor))).tail; clear hH2; refine ⟨STT, ?_⟩; intro a hA))) )
  (refine st_op hA rfl rfl (by decide) (op_call rfl rfl rfl (awake_spec _)) ?_; clear hA; rintro _ w ⟨rfl, hk⟩ a hA; replace hH := hH.keep hk; clear hk)
  repeat' (first | (first | (refine GT ?_ ?_ <;> intro hg <;> clear hA a <;> intro a hA <;> (first | exact FA | replace hg := of_decide_eq_true hg | replace hg := of_decide_eq_false hg | skip)) | (refine QT ?_; clear hA a; intro a hA) | (first | (refine BT ?_; clear hA hH; rintro _ w ⟨bN, rfl, hH⟩ a hA) | (refine LT ?_; clear hA hH; rintro _ w ⟨oN, rfl, hH⟩ a hA) | (refine AT ?_; clear hA; rintro _ w ⟨oN, cN, rfl, hH2⟩ a hA; clear hH; have hH := (hH2 _ (by (repeat constructor))).tail; clear hH2) | (refine S0T ?_; clear hH; rintro _ w hH) )) | ((first | refine CT ?_ | (refine DT ?_ ?_ <;> intro hc <;> try (exfalso; omega))) <;> repeat' refine CT ?_) | (first | (refine DSK ?_; clear hA a; intro a hA) | (first | (refine DLT ?_; clear hA hH; rintro _ w ⟨oN, rfl, hH⟩; refine ⟨STT, ?_⟩; intro a hA) | (refine DAT ?_; clear hA; rintro _ w ⟨oN, cN, rfl, hH2⟩; clear hH; have hH := (hH2 _ (by (repeat constructor))).tail; clear hH2; refine ⟨STT, ?_⟩; intro a hA))) )
  (refine st_op hA rfl rfl (by decide) (op_call rfl rfl rfl (new_st hH)) ?_; clear hA hH; rintro _ w (⟨rfl, h, hH⟩ | ⟨h, bs, rfl, hH⟩) a hA)
  · repeat' (first | (first | (refine GT ?_ ?_ <;> intro hg <;> clear hA a <;> intro a hA <;> (first | exact FA | replace hg := of_decide_eq_true hg | replace hg := of_decide_eq_false hg | skip)) | ((first | apply st_ex hA hH rfl rfl (by decide) | apply dr_ex hA rfl rfl rfl (by decide) | apply dr_exp hA rfl rfl rfl (by decide) | apply dr_ex3 hA hH rfl rfl rfl (by decide)); (first | (apply ex_eqlPf; rfl; rfl) | (apply ex_eqlPt; rfl; rfl) | (apply ex_neqPt; rfl; rfl) | (apply ex_neqPf; rfl; rfl)); clear hA a; intro a hA) | (refine QT ?_; clear hA a; intro a hA) | (first | (refine BT ?_; clear hA hH; rintro _ w ⟨bN, rfl, hH⟩ a hA) | (refine LT ?_; clear hA hH; rintro _ w ⟨oN, rfl, hH⟩ a hA) | (refine AT ?_; clear hA; rintro _ w ⟨oN, cN, rfl, hH2⟩ a hA; clear hH; have hH := (hH2 _ (by (repeat constructor))).tail; clear hH2) | (refine S0T ?_; clear hH; rintro _ w hH) )) | ((first | refine CT ?_ | (refine DT ?_ ?_ <;> intro hc <;> try (exfalso; omega))) <;> repeat' refine CT ?_) | (first | (refine DSK ?_; clear hA a; intro a hA) | (first | (refine DLT ?_; clear hA hH; rintro _ w ⟨oN, rfl, hH⟩; refine ⟨STT, ?_⟩; intro a hA) | (refine DAT ?_; clear hA; rintro _ w ⟨oN, cN, rfl, hH2⟩; clear hH; have hH := (hH2 _ (by (repeat constructor))).tail; clear hH2; refine ⟨STT, ?_⟩; intro a hA))) )
    exact rt1 (.inl rfl) rfl hA rfl ⟨rfl, hH.kp⟩
  obtain ⟨N, rfl⟩ : ∃ N : Nat, words = N := ⟨words.toNat, by omega⟩
  rw [Int.toNat_natCast, st0_n] at hH
  by_cases hbig : (N : Int) ≤ 2048
  rotate_left
  · repeat' (first | (first | (refine GT ?_ ?_ <;> intro hg <;> clear hA a <;> intro a hA <;> (first | exact FA | replace hg := of_decide_eq_true hg | replace hg := of_decide_eq_false hg | skip)) | ((first | apply st_ex hA hH rfl rfl (by decide) | apply dr_ex hA rfl rfl rfl (by decide) | apply dr_exp hA rfl rfl rfl (by decide) | apply dr_ex3 hA hH rfl rfl rfl (by decide)); (first | (apply ex_eqlPf; rfl; rfl) | (apply ex_eqlPt; rfl; rfl) | (apply ex_neqPt; rfl; rfl) | (apply ex_neqPf; rfl; rfl)); clear hA a; intro a hA) | (refine QT ?_; clear hA a; intro a hA) | (first | (refine BT ?_; clear hA hH; rintro _ w ⟨bN, rfl, hH⟩ a hA) | (refine LT ?_; clear hA hH; rintro _ w ⟨oN, rfl, hH⟩ a hA) | (refine AT ?_; clear hA; rintro _ w ⟨oN, cN, rfl, hH2⟩ a hA; clear hH; have hH := (hH2 _ (by (repeat constructor))).tail; clear hH2) | (refine S0T ?_; clear hH; rintro _ w hH) )) | ((first | refine CT ?_ | (refine DT ?_ ?_ <;> intro hc <;> try (exfalso; omega))) <;> repeat' refine CT ?_) | (first | (refine DSK ?_; clear hA a; intro a hA) | (first | (refine DLT ?_; clear hA hH; rintro _ w ⟨oN, rfl, hH⟩; refine ⟨STT, ?_⟩; intro a hA) | (refine DAT ?_; clear hA; rintro _ w ⟨oN, cN, rfl, hH2⟩; clear hH; have hH := (hH2 _ (by (repeat constructor))).tail; clear hH2; refine ⟨STT, ?_⟩; intro a hA))) )
    exact rt1 (.inl rfl) rfl hA rfl ⟨rfl, hH.kp⟩
  have hok0 := st0_ok (N := N) (by omega)
  repeat' (first | (first | (refine GT ?_ ?_ <;> intro hg <;> clear hA a <;> intro a hA <;> (first | exact FA | replace hg := of_decide_eq_true hg | replace hg := of_decide_eq_false hg | skip)) | ((first | apply st_ex hA hH rfl rfl (by decide) | apply dr_ex hA rfl rfl rfl (by decide) | apply dr_exp hA rfl rfl rfl (by decide) | apply dr_ex3 hA hH rfl rfl rfl (by decide)); (first | (apply ex_eqlPf; rfl; rfl) | (apply ex_eqlPt; rfl; rfl) | (apply ex_neqPt; rfl; rfl) | (apply ex_neqPf; rfl; rfl) | (apply ex_build_p #[.slice none 0 0, .slice none 0 0]; rfl; (repeat (first | (intro _ h; exact absurd h (List.not_mem_nil)) | (refine List.forall_mem_cons.2 ⟨one_cell_of _ _, ?_⟩))); rfl)); clear hA a; intro a hA) | (refine QT ?_; clear hA a; intro a hA) | (first | (refine BT ?_; clear hA hH; rintro _ w ⟨bN, rfl, hH⟩ a hA) | (refine LT ?_; clear hA hH; rintro _ w ⟨oN, rfl, hH⟩ a hA) | (refine AT ?_; clear hA; rintro _ w ⟨oN, cN, rfl, hH2⟩ a hA; clear hH; have hH := (hH2 _ (by (repeat constructor))).tail; clear hH2) | (refine S0T ?_; clear hH; rintro _ w hH) )) | ((first | refine CT ?_ | (refine DT ?_ ?_ <;> intro hc <;> try (exfalso; omega))) <;> repeat' refine CT ?_) | (first | (refine DSK ?_; clear hA a; intro a hA) | (first | (refine DLT ?_; clear hA hH; rintro _ w ⟨oN, rfl, hH⟩; refine ⟨STT, ?_⟩; intro a hA) | (refine DAT ?_; clear hA; rintro _ w ⟨oN, cN, rfl, hH2⟩; clear hH; have hH := (hH2 _ (by (repeat constructor))).tail; clear hH2; refine ⟨STT, ?_⟩; intro a hA))) )
  obtain ⟨oR, hoR⟩ : ∃ o, o = oN := ⟨_, rfl⟩
  obtain ⟨bt, hbt⟩ : ∃ b, b = bN := ⟨_, rfl⟩
  rw [← hoR, ← hbt] at hA hH
  clear hoR hbt oN bN
  rw [eight_onesS] at hH
  (apply st_op hA rfl rfl (by decide); apply op_make (encV) ((false, 0)) (n := 8); rfl; rfl; omega; omega; (unfold maxLen; omega); omega; exact encV_len; rfl; decide; exact hH; clear hA hH; rintro _ w ⟨oN, rfl, hH⟩ a hA)
  obtain ⟨oQ, hoQ⟩ : ∃ o, o = oN := ⟨_, rfl⟩
  rw [← hoQ] at hA hH
  clear hoQ oN
  rw [← fk_zero] at hH
  replace hH : HS w0 noM [stI bs N (st0 N), twI bt [], own 33 1 oR 8 8 (flat encW [1, 1, 1, 1, 1, 1, 1, 1]), own 74 2 oQ 8 8 (flat encV (fk 8 0))] w :=
    (tw_none (hH.perm (H' := [cb bt 71 [.slice none 0 0, .slice none 0 0], stI bs N (st0 N), own 33 1 oR 8 8 (flat encW [1, 1, 1, 1, 1, 1, 1, 1]), own 74 2 oQ 8 8 (flat encV (fk 8 0))]) (by (repeat (first | exact List.Perm.nil | refine perm_pick 0 rfl ?_ | refine perm_pick 1 rfl ?_ | refine perm_pick 2 rfl ?_ | refine perm_pick 3 rfl ?_ | refine perm_pick 4 rfl ?_ | refine perm_pick 5 rfl ?_ | refine perm_pick 6 rfl ?_ | refine perm_pick 7 rfl ?_ | refine perm_pick 8 rfl ?_ | refine perm_pick 9 rfl ?_ | refine perm_pick 10 rfl ?_ | refine perm_pick 11 rfl ?_))))).perm (.swap _ _ _)
  repeat' (first | (first | (refine GT ?_ ?_ <;> intro hg <;> clear hA a <;> intro a hA <;> (first | exact FA | replace hg := of_decide_eq_true hg | replace hg := of_decide_eq_false hg | skip)) | (refine QT ?_; clear hA a; intro a hA) | (first | (refine BT ?_; clear hA hH; rintro _ w ⟨bN, rfl, hH⟩ a hA) | (refine LT ?_; clear hA hH; rintro _ w ⟨oN, rfl, hH⟩ a hA) | (refine AT ?_; clear hA; rintro _ w ⟨oN, cN, rfl, hH2⟩ a hA; clear hH; have hH := (hH2 _ (by (repeat constructor))).tail; clear hH2) | (refine S0T ?_; clear hH; rintro _ w hH) )) | ((first | refine CT ?_ | (refine DT ?_ ?_ <;> intro hc <;> try (exfalso; omega))) <;> repeat' refine CT ?_) | (first | (refine DSK ?_; clear hA a; intro a hA) | (first | (refine DLT ?_; clear hA hH; rintro _ w ⟨oN, rfl, hH⟩; refine ⟨STT, ?_⟩; intro a hA) | (refine DAT ?_; clear hA; rintro _ w ⟨oN, cN, rfl, hH2⟩; clear hH; have hH := (hH2 _ (by (repeat constructor))).tail; clear hH2; refine ⟨STT, ?_⟩; intro a hA))) )
  refine wp_lpj (S := Nat) (fun k a w => k ≤ 8 ∧ HS w0 noM [stI bs N (st0 N), twI bt [], own 33 1 oR 8 8 (flat encW [1, 1, 1, 1, 1, 1, 1, 1]), own 74 2 oQ 8 8 (flat encV (fk 8 k))] w ∧ Sl 233 [(1, .slice o2 ls.length c2), (5, .pointer (some (bat bs 0))), (6, .pointer (some (bat bt 0))), (7, .slice oR 8 8), (8, .slice oQ 8 8), (39, .int .i64 ((8 : Nat) : Int)), (40, .int .i64 k)] a) (fun k => 8 - k)
    (fun a w => HS w0 noM [stI bs N (st0 N), twI bt [], own 33 1 oR 8 8 (flat encW [1, 1, 1, 1, 1, 1, 1, 1]), own 74 2 oQ 8 8 (flat encV (fk 8 8))] w ∧ Sl 233 [(1, .slice o2 ls.length c2), (5, .pointer (some (bat bs 0))), (6, .pointer (some (bat bt 0))), (7, .slice oR 8 8), (8, .slice oQ 8 8)] a) 0 ⟨Nat.zero_le _, hH, (hA.sub (by (repeat (first | exact trivial | refine ⟨rfl, ?_⟩))))⟩ ?_ ?_
  · clear hA hH
    rintro k a w ⟨hk, hH, hA⟩
    by_cases hk8 : k < 8
    rotate_left
    · obtain rfl : k = 8 := by omega
      repeat' (first | (first | (refine GT ?_ ?_ <;> intro hg <;> clear hA a <;> intro a hA <;> (first | exact FA | replace hg := of_decide_eq_true hg | replace hg := of_decide_eq_false hg | skip)) | (refine QT ?_; clear hA a; intro a hA) | (first | (refine BT ?_; clear hA hH; rintro _ w ⟨bN, rfl, hH⟩ a hA) | (refine LT ?_; clear hA hH; rintro _ w ⟨oN, rfl, hH⟩ a hA) | (refine AT ?_; clear hA; rintro _ w ⟨oN, cN, rfl, hH2⟩ a hA; clear hH; have hH := (hH2 _ (by (repeat constructor))).tail; clear hH2) | (refine S0T ?_; clear hH; rintro _ w hH) )) | ((first | refine CT ?_ | (refine DT ?_ ?_ <;> intro hc <;> try (exfalso; omega))) <;> repeat' refine CT ?_) | (first | (refine DSK ?_; clear hA a; intro a hA) | (first | (refine DLT ?_; clear hA hH; rintro _ w ⟨oN, rfl, hH⟩; refine ⟨STT, ?_⟩; intro a hA) | (refine DAT ?_; clear hA; rintro _ w ⟨oN, cN, rfl, hH2⟩; clear hH; have hH := (hH2 _ (by (repeat constructor))).tail; clear hH2; refine ⟨STT, ?_⟩; intro a hA))) )
      exact ⟨hH, (hA.sub (by (repeat (first | exact trivial | refine ⟨rfl, ?_⟩))))⟩
    have hspQ : Sp oQ 8 := hH.own_sp (o := oQ) (by exact MEMT)
    have hat := fk_at hk8
    have hst := fk_set hk8
    repeat' (first | (first | (refine GT ?_ ?_ <;> intro hg <;> clear hA a <;> intro a hA <;> (first | exact FA | replace hg := of_decide_eq_true hg | replace hg := of_decide_eq_false hg | skip)) | (refine QT ?_; clear hA a; intro a hA) | (first | (refine BT ?_; clear hA hH; rintro _ w ⟨bN, rfl, hH⟩ a hA) | (refine LT ?_; clear hA hH; rintro _ w ⟨oN, rfl, hH⟩ a hA) | (refine AT ?_; clear hA; rintro _ w ⟨oN, cN, rfl, hH2⟩ a hA; clear hH; have hH := (hH2 _ (by (repeat constructor))).tail; clear hH2) | (refine S0T ?_; clear hH; rintro _ w hH) | (apply st_op0 hA rfl rfl; apply op_setV0 (i := k) (m := true) (a := false) (r := 0); rfl; rfl; exact hH; exact hat; (repeat constructor); clear hH; rintro _ w hH))) | ((first | refine CT ?_ | (refine DT ?_ ?_ <;> intro hc <;> try (exfalso; omega))) <;> repeat' refine CT ?_) | (first | (refine DSK ?_; clear hA a; intro a hA) | (first | (refine DLT ?_; clear hA hH; rintro _ w ⟨oN, rfl, hH⟩; refine ⟨STT, ?_⟩; intro a hA) | (refine DAT ?_; clear hA; rintro _ w ⟨oN, cN, rfl, hH2⟩; clear hH; have hH := (hH2 _ (by (repeat constructor))).tail; clear hH2; refine ⟨STT, ?_⟩; intro a hA))) )
    rw [hst] at hH
    exact ⟨k + 1, ⟨hk8, hH, (hA.sub (by (repeat (first | exact trivial | refine ⟨rfl, ?_⟩))))⟩, by omega⟩
  clear hA hH
  rintro a w ⟨hH, hA⟩
  rw [fk_end] at hH
  repeat' (first | (first | (refine GT ?_ ?_ <;> intro hg <;> clear hA a <;> intro a hA <;> (first | exact FA | replace hg := of_decide_eq_true hg | replace hg := of_decide_eq_false hg | skip)) | (refine QT ?_; clear hA a; intro a hA) | (first | (refine BT ?_; clear hA hH; rintro _ w ⟨bN, rfl, hH⟩ a hA) | (refine LT ?_; clear hA hH; rintro _ w ⟨oN, rfl, hH⟩ a hA) | (refine AT ?_; clear hA; rintro _ w ⟨oN, cN, rfl, hH2⟩ a hA; clear hH; have hH := (hH2 _ (by (repeat constructor))).tail; clear hH2) | (refine S0T ?_; clear hH; rintro _ w hH) )) | ((first | refine CT ?_ | (refine DT ?_ ?_ <;> intro hc <;> try (exfalso; omega))) <;> repeat' refine CT ?_) | (first | (refine DSK ?_; clear hA a; intro a hA) | (first | (refine DLT ?_; clear hA hH; rintro _ w ⟨oN, rfl, hH⟩; refine ⟨STT, ?_⟩; intro a hA) | (refine DAT ?_; clear hA; rintro _ w ⟨oN, cN, rfl, hH2⟩; clear hH; have hH := (hH2 _ (by (repeat constructor))).tail; clear hH2; refine ⟨STT, ?_⟩; intro a hA))) )
  refine wp_lpj (S := Nat × SS × List (List Vl) × List Int × List Vl) (fun q a w => (q.1 ≤ ls.length ∧ q.1 ≤ 200 ∧ RndS N q.1 q.2.1 q.2.2.1 q.2.2.2.1 q.2.2.2.2) ∧ HS w0 noM [stI bs N q.2.1, twI bt q.2.2.1, own 33 1 oR 8 8 (flat encW q.2.2.2.1), own 74 2 oQ 8 8 (flat encV q.2.2.2.2)] w ∧ Sl 233 [(1, .slice o2 ls.length c2), (5, .pointer (some (bat bs 0))), (6, .pointer (some (bat bt 0))), (7, .slice oR 8 8), (8, .slice oQ 8 8), (10, .int .i64 q.1)] a) (fun q => ls.length - q.1)
    (fun a w => HS w0 noM [] w ∧ Sl 233 [] a) (0, st0 N, [], [1, 1, 1, 1, 1, 1, 1, 1], List.replicate 8 (true, 0)) ⟨⟨Nat.zero_le _, Nat.zero_le _, ⟨hok0, TwE.first _, by rw [st0_cy]; exact Nat.zero_le _, ones8_US, rfl, rfl, Nat.zero_le _⟩⟩, hH, (hA.sub (by (repeat (first | exact trivial | refine ⟨rfl, ?_⟩))))⟩ ?_ ?_
  rotate_left
  · clear hA hH
    rintro a w ⟨hH, hA⟩
    repeat' (first | (first | (refine GT ?_ ?_ <;> intro hg <;> clear hA a <;> intro a hA <;> (first | exact FA | replace hg := of_decide_eq_true hg | replace hg := of_decide_eq_false hg | skip)) | (refine QT ?_; clear hA a; intro a hA) | (first | (refine BT ?_; clear hA hH; rintro _ w ⟨bN, rfl, hH⟩ a hA) | (refine LT ?_; clear hA hH; rintro _ w ⟨oN, rfl, hH⟩ a hA) | (refine AT ?_; clear hA; rintro _ w ⟨oN, cN, rfl, hH2⟩ a hA; clear hH; have hH := (hH2 _ (by (repeat constructor))).tail; clear hH2) | (refine S0T ?_; clear hH; rintro _ w hH) )) | ((first | refine CT ?_ | (refine DT ?_ ?_ <;> intro hc <;> try (exfalso; omega))) <;> repeat' refine CT ?_) | (first | (refine DSK ?_; clear hA a; intro a hA) | (first | (refine DLT ?_; clear hA hH; rintro _ w ⟨oN, rfl, hH⟩; refine ⟨STT, ?_⟩; intro a hA) | (refine DAT ?_; clear hA; rintro _ w ⟨oN, cN, rfl, hH2⟩; clear hH; have hH := (hH2 _ (by (repeat constructor))).tail; clear hH2; refine ⟨STT, ?_⟩; intro a hA))) )
    exact rt1 (.inl rfl) rfl hA rfl ⟨rfl, hH.kp⟩
  clear hA hH
  rintro ⟨i, g, T, regs, Q⟩ a w ⟨⟨hi, hi2, hRd⟩, hH, hA⟩
  dsimp only at hi hi2 hRd hH hA
  obtain ⟨hok, hTw, hcy, hUr, hrl, hql, htl⟩ := hRd
  by_cases hlt : i < ls.length ∧ i < 200
  rotate_left
  · repeat' (first | (first | (refine GT ?_ ?_ <;> intro hg <;> clear hA a <;> intro a hA <;> (first | exact FA | replace hg := of_decide_eq_true hg | replace hg := of_decide_eq_false hg | skip)) | (refine QT ?_; clear hA a; intro a hA) | (first | (refine BT ?_; clear hA hH; rintro _ w ⟨bN, rfl, hH⟩ a hA) | (refine LT ?_; clear hA hH; rintro _ w ⟨oN, rfl, hH⟩ a hA) | (refine AT ?_; clear hA; rintro _ w ⟨oN, cN, rfl, hH2⟩ a hA; clear hH; have hH := (hH2 _ (by (repeat constructor))).tail; clear hH2) | (refine S0T ?_; clear hH; rintro _ w hH) )) | ((first | refine CT ?_ | (refine DT ?_ ?_ <;> intro hc <;> try (exfalso; omega))) <;> repeat' refine CT ?_) | (first | (refine DSK ?_; clear hA a; intro a hA) | (first | (refine DLT ?_; clear hA hH; rintro _ w ⟨oN, rfl, hH⟩; refine ⟨STT, ?_⟩; intro a hA) | (refine DAT ?_; clear hA; rintro _ w ⟨oN, cN, rfl, hH2⟩; clear hH; have hH := (hH2 _ (by (repeat constructor))).tail; clear hH2; refine ⟨STT, ?_⟩; intro a hA))) )
    all_goals exact ⟨hH.drop_, (hA.sub (by (repeat (first | exact trivial | refine ⟨rfl, ?_⟩))))⟩
  obtain ⟨hlt, h200⟩ := hlt
  obtain ⟨⟨⟨x0, x1, x2, x3, x4⟩, xt⟩, hx⟩ : ∃ x, ls[i]? = some x := ⟨_, List.getElem?_eq_getElem hlt⟩
  have hvs := flat_all encT_len hx
  have hp8 := (reg_facts x1).2.1
  have hq8 := (reg_facts x2).2.1
  obtain ⟨n, hn6, hn, hni⟩ := umod6c x4
  obtain ⟨rp, hrp⟩ : ∃ r, regs[regN x1]? = some r := ⟨_, List.getElem?_eq_getElem (by omega)⟩
  obtain ⟨rq, hrq⟩ : ∃ r, regs[regN x2]? = some r := ⟨_, List.getElem?_eq_getElem (by omega)⟩
  obtain ⟨⟨p1, p2⟩, hQp⟩ : ∃ r, Q[regN x1]? = some r := ⟨_, List.getElem?_eq_getElem (by omega)⟩
  obtain ⟨⟨q1, q2⟩, hQq⟩ : ∃ r, Q[regN x2]? = some r := ⟨_, List.getElem?_eq_getElem (by omega)⟩
  have hcp : (flat encW regs)[regN x1 * 1]? = some (.int .u64 rp) := flat_get0 encW_len hrp rfl
  have hcq : (flat encW regs)[regN x2 * 1]? = some (.int .u64 rq) := flat_get0 encW_len hrq rfl
  have hvp := flat_all encV_len hQp
  have hvq := flat_all encV_len hQq
  have hUp := hUr rp (List.mem_of_getElem? hrp)
  have hUq := hUr rq (List.mem_of_getElem? hrq)
  have hspR : Sp oR 8 := hH.own_sp (o := oR) (by exact MEMT)
  have hspQ : Sp oQ 8 := hH.own_sp (o := oQ) (by exact MEMT)
  repeat' (first | (first | (refine GT ?_ ?_ <;> intro hg <;> clear hA a <;> intro a hA <;> (first | exact FA | replace hg := of_decide_eq_true hg | replace hg := of_decide_eq_false hg | skip)) | ((first | apply st_ex hA hH rfl rfl (by decide) | apply dr_ex hA rfl rfl rfl (by decide) | apply dr_exp hA rfl rfl rfl (by decide) | apply dr_ex3 hA hH rfl rfl rfl (by decide)); (first | (apply ex_load_st (vs := [.int .i64 x0, .int .i64 x1, .int .i64 x2, .int .i64 x3, .int .i64 x4, .string xt]); rfl; rfl; exact cls_rd hr id hvs)); clear hA a; intro a hA) | (refine QT ?_; clear hA a; intro a hA) | (first | (refine BT ?_; clear hA hH; rintro _ w ⟨bN, rfl, hH⟩ a hA) | (refine LT ?_; clear hA hH; rintro _ w ⟨oN, rfl, hH⟩ a hA) | (refine AT ?_; clear hA; rintro _ w ⟨oN, cN, rfl, hH2⟩ a hA; clear hH; have hH := (hH2 _ (by (repeat constructor))).tail; clear hH2) | (refine S0T ?_; clear hH; rintro _ w hH) | (apply st_op0 hA rfl rfl; apply op_store_agg (vs := [.int .i64 x0, .int .i64 x1, .int .i64 x2, .int .i64 x3, .int .i64 x4, .string xt]); rfl; rfl; exact hH; (repeat constructor); (repeat rfl); clear hH; rintro _ w hH))) | ((first | refine CT ?_ | (refine DT ?_ ?_ <;> intro hc <;> try (exfalso; omega))) <;> repeat' refine CT ?_) | (first | (refine DSK ?_; clear hA a; intro a hA) | (first | (refine DLT ?_; clear hA hH; rintro _ w ⟨oN, rfl, hH⟩; refine ⟨STT, ?_⟩; intro a hA) | (refine DAT ?_; clear hA; rintro _ w ⟨oN, cN, rfl, hH2⟩; clear hH; have hH := (hH2 _ (by (repeat constructor))).tail; clear hH2; refine ⟨STT, ?_⟩; intro a hA))) )
  replace hH : HS w0 noM [stI bs N g, twI bt T, own 33 1 oR 8 8 (flat encW regs), own 74 2 oQ 8 8 (flat encV Q), cb bN 30 [.int .i64 x0, .int .i64 x1, .int .i64 x2, .int .i64 x3, .int .i64 x4, .string xt]] w := hH.perm (by (repeat (first | exact List.Perm.nil | refine perm_pick 0 rfl ?_ | refine perm_pick 1 rfl ?_ | refine perm_pick 2 rfl ?_ | refine perm_pick 3 rfl ?_ | refine perm_pick 4 rfl ?_ | refine perm_pick 5 rfl ?_ | refine perm_pick 6 rfl ?_ | refine perm_pick 7 rfl ?_ | refine perm_pick 8 rfl ?_ | refine perm_pick 9 rfl ?_ | refine perm_pick 10 rfl ?_ | refine perm_pick 11 rfl ?_)))
  (refine wp_draw_HS [(0, 1), (1, 1), (3, 1), (4, 1), (2, 0), (5, 0), (6, 1), (7, 1)] mixed (by decide +kernel) hH ?_; replace hH := hH.drew)
  repeat' (first | (first | (refine GT ?_ ?_ <;> intro hg <;> clear hA a <;> intro a hA <;> (first | exact FA | replace hg := of_decide_eq_true hg | replace hg := of_decide_eq_false hg | skip)) | (refine QT ?_; clear hA a; intro a hA) | (first | (refine BT ?_; clear hA hH; rintro _ w ⟨bN, rfl, hH⟩ a hA) | (refine LT ?_; clear hA hH; rintro _ w ⟨oN, rfl, hH⟩ a hA) | (refine AT ?_; clear hA; rintro _ w ⟨oN, cN, rfl, hH2⟩ a hA; clear hH; have hH := (hH2 _ (by (repeat constructor))).tail; clear hH2) | (refine S0T ?_; clear hH; rintro _ w hH) )) | ((first | refine CT ?_ | (refine DT ?_ ?_ <;> intro hc <;> try (exfalso; omega))) <;> repeat' refine CT ?_) | (first | (refine DSK ?_; clear hA a; intro a hA) | (first | (refine DLT ?_; clear hA hH; rintro _ w ⟨oN, rfl, hH⟩; refine ⟨STT, ?_⟩; intro a hA) | (refine DAT ?_; clear hA; rintro _ w ⟨oN, cN, rfl, hH2⟩; clear hH; have hH := (hH2 _ (by (repeat constructor))).tail; clear hH2; refine ⟨STT, ?_⟩; intro a hA))) )
  (refine dr_op hA rfl rfl rfl (by decide) (op_call rfl rfl rfl (reg_spec _ x1)) ?_; clear hA; rintro _ w ⟨rfl, hk⟩; replace hH := hH.keep hk; clear hk; refine ⟨STT, ?_⟩; intro a hA)
  repeat' (first | (first | (refine GT ?_ ?_ <;> intro hg <;> clear hA a <;> intro a hA <;> (first | exact FA | replace hg := of_decide_eq_true hg | replace hg := of_decide_eq_false hg | skip)) | (refine QT ?_; clear hA a; intro a hA) | (first | (refine BT ?_; clear hA hH; rintro _ w ⟨bN, rfl, hH⟩ a hA) | (refine LT ?_; clear hA hH; rintro _ w ⟨oN, rfl, hH⟩ a hA) | (refine AT ?_; clear hA; rintro _ w ⟨oN, cN, rfl, hH2⟩ a hA; clear hH; have hH := (hH2 _ (by (repeat constructor))).tail; clear hH2) | (refine S0T ?_; clear hH; rintro _ w hH) )) | ((first | refine CT ?_ | (refine DT ?_ ?_ <;> intro hc <;> try (exfalso; omega))) <;> repeat' refine CT ?_) | (first | (refine DSK ?_; clear hA a; intro a hA) | (first | (refine DLT ?_; clear hA hH; rintro _ w ⟨oN, rfl, hH⟩; refine ⟨STT, ?_⟩; intro a hA) | (refine DAT ?_; clear hA; rintro _ w ⟨oN, cN, rfl, hH2⟩; clear hH; have hH := (hH2 _ (by (repeat constructor))).tail; clear hH2; refine ⟨STT, ?_⟩; intro a hA))) )
  (refine dr_op hA rfl rfl rfl (by decide) (op_call rfl rfl rfl (reg_spec _ x2)) ?_; clear hA; rintro _ w ⟨rfl, hk⟩; replace hH := hH.keep hk; clear hk; refine ⟨STT, ?_⟩; intro a hA)
  generalize regN x1 = p at *
  generalize regN x2 = q at *
  repeat' (first | (first | (refine GT ?_ ?_ <;> intro hg <;> clear hA a <;> intro a hA <;> (first | exact FA | replace hg := of_decide_eq_true hg | replace hg := of_decide_eq_false hg | skip)) | (refine QT ?_; clear hA a; intro a hA) | (first | (refine BT ?_; clear hA hH; rintro _ w ⟨bN, rfl, hH⟩ a hA) | (refine LT ?_; clear hA hH; rintro _ w ⟨oN, rfl, hH⟩ a hA) | (refine AT ?_; clear hA; rintro _ w ⟨oN, cN, rfl, hH2⟩ a hA; clear hH; have hH := (hH2 _ (by (repeat constructor))).tail; clear hH2) | (refine S0T ?_; clear hH; rintro _ w hH) )) | ((first | refine CT ?_ | (refine DT ?_ ?_ <;> intro hc <;> try (exfalso; omega))) <;> repeat' refine CT ?_) | (first | (refine DSK ?_; clear hA a; intro a hA) | (first | (refine DLT ?_; clear hA hH; rintro _ w ⟨oN, rfl, hH⟩; refine ⟨STT, ?_⟩; intro a hA) | (refine DAT ?_; clear hA; rintro _ w ⟨oN, cN, rfl, hH2⟩; clear hH; have hH := (hH2 _ (by (repeat constructor))).tail; clear hH2; refine ⟨STT, ?_⟩; intro a hA))) )
  have hX := hH
  replace hH := hH.drop_
  repeat' (first | (first | (refine GT ?_ ?_ <;> intro hg <;> clear hA a <;> intro a hA <;> (first | exact FA | replace hg := of_decide_eq_true hg | replace hg := of_decide_eq_false hg | skip)) | ((first | apply st_ex hA hH rfl rfl (by decide) | apply dr_ex hA rfl rfl rfl (by decide) | apply dr_exp hA rfl rfl rfl (by decide) | apply dr_ex3 hA hH rfl rfl rfl (by decide)); (first | (apply ex_convert (v := IntKind.u64.wrap x4); rfl; rfl) | (apply ex_convert (v := (n : Int)); rfl; (rw [hn]; exact hni))); clear hA a; intro a hA) | (refine QT ?_; clear hA a; intro a hA) | (first | (refine BT ?_; clear hA hH; rintro _ w ⟨bN, rfl, hH⟩ a hA) | (refine LT ?_; clear hA hH; rintro _ w ⟨oN, rfl, hH⟩ a hA) | (refine AT ?_; clear hA; rintro _ w ⟨oN, cN, rfl, hH2⟩ a hA; clear hH; have hH := (hH2 _ (by (repeat constructor))).tail; clear hH2) | (refine S0T ?_; clear hH; rintro _ w hH) )) | ((first | refine CT ?_ | (refine DT ?_ ?_ <;> intro hc <;> try (exfalso; omega))) <;> repeat' refine CT ?_) | (first | (refine DSK ?_; clear hA a; intro a hA) | (first | (refine DLT ?_; clear hA hH; rintro _ w ⟨oN, rfl, hH⟩; refine ⟨STT, ?_⟩; intro a hA) | (refine DAT ?_; clear hA; rintro _ w ⟨oN, cN, rfl, hH2⟩; clear hH; have hH := (hH2 _ (by (repeat constructor))).tail; clear hH2; refine ⟨STT, ?_⟩; intro a hA))) )
  clear hH
  have hH := hX
  clear hX
  refine st_join (fun a w => ∃ (g' : SS) (T' : List (List Vl)) (regs' : List Int) (Q' : List Vl), RndS N (i + 1) g' T' regs' Q' ∧ HS w0 noM [stI bs N g', twI bt T', own 33 1 oR 8 8 (flat encW regs'), own 74 2 oQ 8 8 (flat encV Q')] w ∧ Sl 233 [(1, .slice o2 ls.length c2), (5, .pointer (some (bat bs 0))), (6, .pointer (some (bat bt 0))), (7, .slice oR 8 8), (8, .slice oQ 8 8), (10, .int .i64 i)] a) ?_ ?_
  · repeat' (first | (first | (refine GT ?_ ?_ <;> intro hg <;> clear hA a <;> intro a hA <;> (first | exact FA | replace hg := of_decide_eq_true hg | replace hg := of_decide_eq_false hg | skip)) | ((first | apply st_ex hA hH rfl rfl (by decide) | apply dr_ex hA rfl rfl rfl (by decide) | apply dr_exp hA rfl rfl rfl (by decide) | apply dr_ex3 hA hH rfl rfl rfl (by decide)); (first | (apply ex_load_st (vs := [.bool q1, .int .i64 q2]); rfl; rfl; exact cls_rdF (fun w hw => hw.own_rd (by exact MEMT)) hvq)); clear hA a; intro a hA) | (refine QT ?_; clear hA a; intro a hA) | (first | (refine BT ?_; clear hA hH; rintro _ w ⟨bN, rfl, hH⟩ a hA) | (refine LT ?_; clear hA hH; rintro _ w ⟨oN, rfl, hH⟩ a hA) | (refine AT ?_; clear hA; rintro _ w ⟨oN, cN, rfl, hH2⟩ a hA; clear hH; have hH := (hH2 _ (by (repeat constructor))).tail; clear hH2) | (refine S0T ?_; clear hH; rintro _ w hH) | (apply st_op0 hA rfl rfl; apply op_set1 (enc := encW) (y0 := rq) (j := p * 1); rfl; rfl; rfl; rfl; exact encW_len; exact hH; (repeat constructor); omega; clear hH; rintro _ w hH) | (apply st_op0 hA rfl rfl; apply op_setV (i := p) (m := q1) (r := q2); rfl; rfl; exact hH; (repeat constructor); omega; clear hH; rintro _ w hH))) | ((first | refine CT ?_ | (refine DT ?_ ?_ <;> intro hc <;> try (exfalso; omega))) <;> repeat' refine CT ?_) | (first | (refine DSK ?_; clear hA a; intro a hA) | (first | (refine DLT ?_; clear hA hH; rintro _ w ⟨oN, rfl, hH⟩; refine ⟨STT, ?_⟩; intro a hA) | (refine DAT ?_; clear hA; rintro _ w ⟨oN, cN, rfl, hH2⟩; clear hH; have hH := (hH2 _ (by (repeat constructor))).tail; clear hH2; refine ⟨STT, ?_⟩; intro a hA))) )
    · -- Alloc
      have hal := salloc_f (k := 6) (z := n) (roots := regs) (oR := oR) (cR := 8) hH hok (by omega) hUr (by omega) (fun Hc w2 h => h.own_rd (List.mem_append_right _ (.tail _ (.head _))))
      rw [hrl] at hal
      (refine st_op hA rfl rfl (by decide) (op_call rfl rfl rfl (hal)) ?_; clear hA hH; rintro _ w ⟨rfl, hH⟩ a hA)
      have hokr := allocS_ok hok 6 n regs
      have hUw := allocS_U hok 6 n regs
      have hcyr := allocS_cy (N := N) (g := g) (k := 6) (z := n) (roots := regs)
      obtain ⟨hT0, hT1⟩ := TwE.allocS (p := p) (z := n) hok hTw (by omega) (by omega)
      generalize allocS N g 6 n regs = r at *
      by_cases he : r.2.1 = 0
      rotate_left
      · have hT2 := hT1 he
        repeat' (first | (first | (refine GT ?_ ?_ <;> intro hg <;> clear hA a <;> intro a hA <;> (first | exact FA | replace hg := of_decide_eq_true hg | replace hg := of_decide_eq_false hg | skip)) | (refine QT ?_; clear hA a; intro a hA) | (first | (refine BT ?_; clear hA hH; rintro _ w ⟨bN, rfl, hH⟩ a hA) | (refine LT ?_; clear hA hH; rintro _ w ⟨oN, rfl, hH⟩ a hA) | (refine AT ?_; clear hA; rintro _ w ⟨oN, cN, rfl, hH2⟩ a hA; clear hH; have hH := (hH2 _ (by (repeat constructor))).tail; clear hH2) | (refine S0T ?_; clear hH; rintro _ w hH) )) | ((first | refine CT ?_ | (refine DT ?_ ?_ <;> intro hc <;> try (exfalso; omega))) <;> repeat' refine CT ?_) | (first | (refine DSK ?_; clear hA a; intro a hA) | (first | (refine DLT ?_; clear hA hH; rintro _ w ⟨oN, rfl, hH⟩; refine ⟨STT, ?_⟩; intro a hA) | (refine DAT ?_; clear hA; rintro _ w ⟨oN, cN, rfl, hH2⟩; clear hH; have hH := (hH2 _ (by (repeat constructor))).tail; clear hH2; refine ⟨STT, ?_⟩; intro a hA))) )
        exact ⟨r.2.2, T, regs, Q, ⟨hokr, hT2, by omega, hUr, hrl, hql, by omega⟩, HS.p1234 hH, (hA.sub (by (repeat (first | exact trivial | refine ⟨rfl, ?_⟩))))⟩
      have hTn := hT0 he
      rw [he] at hA
      obtain ⟨tq, htp, hH2⟩ := tw_open (hH.perm (H' := [twI bt T, stI bs N r.2.2, own 33 1 oR 8 8 (flat encW regs), own 74 2 oQ 8 8 (flat encV Q), cb bN 30 [.int .i64 x0, .int .i64 x1, .int .i64 x2, .int .i64 x3, .int .i64 x4, .string xt]]) (by (repeat (first | exact List.Perm.nil | refine perm_pick 0 rfl ?_ | refine perm_pick 1 rfl ?_ | refine perm_pick 2 rfl ?_ | refine perm_pick 3 rfl ?_ | refine perm_pick 4 rfl ?_ | refine perm_pick 5 rfl ?_ | refine perm_pick 6 rfl ?_ | refine perm_pick 7 rfl ?_ | refine perm_pick 8 rfl ?_ | refine perm_pick 9 rfl ?_ | refine perm_pick 10 rfl ?_ | refine perm_pick 11 rfl ?_))))
      clear hH
      have hH : HS w0 noM [cb bt 71 [.slice tq.ok T.length tq.ck, .slice tq.of T.length tq.cf], own 3 1 tq.ok T.length tq.ck (flat encI (List.replicate T.length 6)), own 72 1 tq.of T.length tq.cf (flat encS tq.ds), all (owns 74 2 encV tq.ds T), stI bs N r.2.2, own 33 1 oR 8 8 (flat encW regs), own 74 2 oQ 8 8 (flat encV Q), cb bN 30 [.int .i64 x0, .int .i64 x1, .int .i64 x2, .int .i64 x3, .int .i64 x4, .string xt]] w := hH2
      clear hH2
      repeat' (first | (first | (refine GT ?_ ?_ <;> intro hg <;> clear hA a <;> intro a hA <;> (first | exact FA | replace hg := of_decide_eq_true hg | replace hg := of_decide_eq_false hg | skip)) | ((first | apply st_ex hA hH rfl rfl (by decide) | apply dr_ex hA rfl rfl rfl (by decide) | apply dr_exp hA rfl rfl rfl (by decide) | apply dr_ex3 hA hH rfl rfl rfl (by decide)); (first | (apply ex_build_p #[.bool false, .int .i64 (T.length : Nat)]; rfl; (repeat (first | (intro _ h; exact absurd h (List.not_mem_nil)) | (refine List.forall_mem_cons.2 ⟨one_cell_of _ _, ?_⟩))); rfl)); clear hA a; intro a hA) | (refine QT ?_; clear hA a; intro a hA) | (first | (refine BT ?_; clear hA hH; rintro _ w ⟨bN, rfl, hH⟩ a hA) | (refine LT ?_; clear hA hH; rintro _ w ⟨oN, rfl, hH⟩ a hA) | (refine AT ?_; clear hA; rintro _ w ⟨oN, cN, rfl, hH2⟩ a hA; clear hH; have hH := (hH2 _ (by (repeat constructor))).tail; clear hH2) | (refine S0T ?_; clear hH; rintro _ w hH) | (apply st_op0 hA rfl rfl; apply op_set1 (enc := encW) (y0 := r.1) (j := p * 1); rfl; rfl; rfl; rfl; exact encW_len; exact hH; (repeat constructor); omega; clear hH; rintro _ w hH) | (apply st_op0 hA rfl rfl; apply op_setV (i := p) (m := false) (r := (T.length : Nat)); rfl; rfl; exact hH; (repeat constructor); omega; clear hH; rintro _ w hH) | (apply st_op0 hA rfl rfl; apply op_store_fld; rfl; rfl; rfl; exact hH; (repeat constructor); (repeat rfl); clear hH; rintro _ w hH))) | ((first | refine CT ?_ | (refine DT ?_ ?_ <;> intro hc <;> try (exfalso; omega))) <;> repeat' refine CT ?_) | (first | (refine DSK ?_; clear hA a; intro a hA) | (first | (refine DLT ?_; clear hA hH; rintro _ w ⟨oN, rfl, hH⟩; refine ⟨STT, ?_⟩; intro a hA) | (refine DAT ?_; clear hA; rintro _ w ⟨oN, cN, rfl, hH2⟩; clear hH; have hH := (hH2 _ (by (repeat constructor))).tail; clear hH2; refine ⟨STT, ?_⟩; intro a hA))) )
      rw [Nat.mul_one, snoc6] at hH
      obtain ⟨oK, hoK⟩ : ∃ o, o = oN := ⟨_, rfl⟩
      obtain ⟨cK, hcK⟩ : ∃ o, o = cN := ⟨_, rfl⟩
      rw [← hoK, ← hcK] at hA hH
      clear hoK hcK oN cN
      replace hH : HS w0 noM [cb bt 71 [.slice oK (T.length + 1) cK, .slice tq.of T.length tq.cf], own 3 1 oK (T.length + 1) cK (flat encI (List.replicate (T.length + 1) 6)), own 72 1 tq.of T.length tq.cf (flat encS tq.ds), all (owns 74 2 encV tq.ds T), stI bs N r.2.2, own 33 1 oR 8 8 (flat encW (regs.set p r.1)), own 74 2 oQ 8 8 (flat encV (Q.set p (false, (T.length : Nat)))), cb bN 30 [.int .i64 x0, .int .i64 x1, .int .i64 x2, .int .i64 x3, .int .i64 x4, .string xt]] w := hH
      (apply st_op hA rfl rfl (by decide); apply op_make (encV) ((false, 0)) (n := n); rfl; rfl; omega; omega; (unfold maxLen; omega); omega; exact encV_len; rfl; decide; exact hH; clear hA hH; rintro _ w ⟨oN, rfl, hH⟩ a hA)
      obtain ⟨oF, hoF⟩ : ∃ o, o = oN := ⟨_, rfl⟩
      rw [← hoF] at hA hH
      clear hoF oN
      rw [← fk_zero] at hH
      repeat' (first | (first | (refine GT ?_ ?_ <;> intro hg <;> clear hA a <;> intro a hA <;> (first | exact FA | replace hg := of_decide_eq_true hg | replace hg := of_decide_eq_false hg | skip)) | (refine QT ?_; clear hA a; intro a hA) | (first | (refine BT ?_; clear hA hH; rintro _ w ⟨bN, rfl, hH⟩ a hA) | (refine LT ?_; clear hA hH; rintro _ w ⟨oN, rfl, hH⟩ a hA) | (refine AT ?_; clear hA; rintro _ w ⟨oN, cN, rfl, hH2⟩ a hA; clear hH; have hH := (hH2 _ (by (repeat constructor))).tail; clear hH2) | (refine S0T ?_; clear hH; rintro _ w hH) )) | ((first | refine CT ?_ | (refine DT ?_ ?_ <;> intro hc <;> try (exfalso; omega))) <;> repeat' refine CT ?_) | (first | (refine DSK ?_; clear hA a; intro a hA) | (first | (refine DLT ?_; clear hA hH; rintro _ w ⟨oN, rfl, hH⟩; refine ⟨STT, ?_⟩; intro a hA) | (refine DAT ?_; clear hA; rintro _ w ⟨oN, cN, rfl, hH2⟩; clear hH; have hH := (hH2 _ (by (repeat constructor))).tail; clear hH2; refine ⟨STT, ?_⟩; intro a hA))) )
      refine wp_lpk (S := Nat) (fun k a w => k ≤ n ∧ HS w0 noM [own 74 2 oF n n (flat encV (fk n k)), cb bt 71 [.slice oK (T.length + 1) cK, .slice tq.of T.length tq.cf], own 3 1 oK (T.length + 1) cK (flat encI (List.replicate (T.length + 1) 6)), own 72 1 tq.of T.length tq.cf (flat encS tq.ds), all (owns 74 2 encV tq.ds T), stI bs N r.2.2, own 33 1 oR 8 8 (flat encW (regs.set p r.1)), own 74 2 oQ 8 8 (flat encV (Q.set p (false, (T.length : Nat)))), cb bN 30 [.int .i64 x0, .int .i64 x1, .int .i64 x2, .int .i64 x3, .int .i64 x4, .string xt]] w ∧ Sl 233 [(1, .slice o2 ls.length c2), (5, .pointer (some (bat bs 0))), (6, .pointer (some (bat bt 0))), (7, .slice oR 8 8), (8, .slice oQ 8 8), (10, .int .i64 i), (17, .slice oF n n), (124, .int .i64 n), (125, .int .i64 k)] a) (fun k => n - k)
        (fun a w => HS w0 noM [own 74 2 oF n n (flat encV (fk n n)), cb bt 71 [.slice oK (T.length + 1) cK, .slice tq.of T.length tq.cf], own 3 1 oK (T.length + 1) cK (flat encI (List.replicate (T.length + 1) 6)), own 72 1 tq.of T.length tq.cf (flat encS tq.ds), all (owns 74 2 encV tq.ds T), stI bs N r.2.2, own 33 1 oR 8 8 (flat encW (regs.set p r.1)), own 74 2 oQ 8 8 (flat encV (Q.set p (false, (T.length : Nat)))), cb bN 30 [.int .i64 x0, .int .i64 x1, .int .i64 x2, .int .i64 x3, .int .i64 x4, .string xt]] w ∧ Sl 233 [(1, .slice o2 ls.length c2), (5, .pointer (some (bat bs 0))), (6, .pointer (some (bat bt 0))), (7, .slice oR 8 8), (8, .slice oQ 8 8), (10, .int .i64 i), (17, .slice oF n n)] a) 0 ⟨Nat.zero_le _, hH, (hA.sub (by (repeat (first | exact trivial | refine ⟨rfl, ?_⟩))))⟩ ?_ ?_
      · clear hA hH
        rintro k a w ⟨hk, hH, hA⟩
        by_cases hkn : k < n
        rotate_left
        · obtain rfl : k = n := by omega
          repeat' (first | (first | (refine GT ?_ ?_ <;> intro hg <;> clear hA a <;> intro a hA <;> (first | exact FA | replace hg := of_decide_eq_true hg | replace hg := of_decide_eq_false hg | skip)) | (refine QT ?_; clear hA a; intro a hA) | (first | (refine BT ?_; clear hA hH; rintro _ w ⟨bN, rfl, hH⟩ a hA) | (refine LT ?_; clear hA hH; rintro _ w ⟨oN, rfl, hH⟩ a hA) | (refine AT ?_; clear hA; rintro _ w ⟨oN, cN, rfl, hH2⟩ a hA; clear hH; have hH := (hH2 _ (by (repeat constructor))).tail; clear hH2) | (refine S0T ?_; clear hH; rintro _ w hH) )) | ((first | refine CT ?_ | (refine DT ?_ ?_ <;> intro hc <;> try (exfalso; omega))) <;> repeat' refine CT ?_) | (first | (refine DSK ?_; clear hA a; intro a hA) | (first | (refine DLT ?_; clear hA hH; rintro _ w ⟨oN, rfl, hH⟩; refine ⟨STT, ?_⟩; intro a hA) | (refine DAT ?_; clear hA; rintro _ w ⟨oN, cN, rfl, hH2⟩; clear hH; have hH := (hH2 _ (by (repeat constructor))).tail; clear hH2; refine ⟨STT, ?_⟩; intro a hA))) )
          exact ⟨hH, (hA.sub (by (repeat (first | exact trivial | refine ⟨rfl, ?_⟩))))⟩
        have hspF : Sp oF n := hH.own_sp (o := oF) (by exact MEMT)
        have hat := fk_at hkn
        have hst := fk_set hkn
        repeat' (first | (first | (refine GT ?_ ?_ <;> intro hg <;> clear hA a <;> intro a hA <;> (first | exact FA | replace hg := of_decide_eq_true hg | replace hg := of_decide_eq_false hg | skip)) | (refine QT ?_; clear hA a; intro a hA) | (first | (refine BT ?_; clear hA hH; rintro _ w ⟨bN, rfl, hH⟩ a hA) | (refine LT ?_; clear hA hH; rintro _ w ⟨oN, rfl, hH⟩ a hA) | (refine AT ?_; clear hA; rintro _ w ⟨oN, cN, rfl, hH2⟩ a hA; clear hH; have hH := (hH2 _ (by (repeat constructor))).tail; clear hH2) | (refine S0T ?_; clear hH; rintro _ w hH) | (apply st_op0 hA rfl rfl; apply op_setV0 (i := k) (m := true) (a := false) (r := 0); rfl; rfl; exact hH; exact hat; (repeat constructor); clear hH; rintro _ w hH))) | ((first | refine CT ?_ | (refine DT ?_ ?_ <;> intro hc <;> try (exfalso; omega))) <;> repeat' refine CT ?_) | (first | (refine DSK ?_; clear hA a; intro a hA) | (first | (refine DLT ?_; clear hA hH; rintro _ w ⟨oN, rfl, hH⟩; refine ⟨STT, ?_⟩; intro a hA) | (refine DAT ?_; clear hA; rintro _ w ⟨oN, cN, rfl, hH2⟩; clear hH; have hH := (hH2 _ (by (repeat constructor))).tail; clear hH2; refine ⟨STT, ?_⟩; intro a hA))) )
        rw [hst] at hH
        exact ⟨k + 1, ⟨hkn, hH, (hA.sub (by (repeat (first | exact trivial | refine ⟨rfl, ?_⟩))))⟩, by omega⟩
      clear hA hH
      rintro a w ⟨hH, hA⟩
      rw [fk_end] at hH
      repeat' (first | (first | (refine GT ?_ ?_ <;> intro hg <;> clear hA a <;> intro a hA <;> (first | exact FA | replace hg := of_decide_eq_true hg | replace hg := of_decide_eq_false hg | skip)) | (refine QT ?_; clear hA a; intro a hA) | (first | (refine BT ?_; clear hA hH; rintro _ w ⟨bN, rfl, hH⟩ a hA) | (refine LT ?_; clear hA hH; rintro _ w ⟨oN, rfl, hH⟩ a hA) | (refine AT ?_; clear hA; rintro _ w ⟨oN, cN, rfl, hH2⟩ a hA; clear hH; have hH := (hH2 _ (by (repeat constructor))).tail; clear hH2) | (refine S0T ?_; clear hH; rintro _ w hH) | (apply st_op0 hA rfl rfl; apply op_store_fld; rfl; rfl; rfl; exact hH; (repeat constructor); (repeat rfl); clear hH; rintro _ w hH))) | ((first | refine CT ?_ | (refine DT ?_ ?_ <;> intro hc <;> try (exfalso; omega))) <;> repeat' refine CT ?_) | (first | (refine DSK ?_; clear hA a; intro a hA) | (first | (refine DLT ?_; clear hA hH; rintro _ w ⟨oN, rfl, hH⟩; refine ⟨STT, ?_⟩; intro a hA) | (refine DAT ?_; clear hA; rintro _ w ⟨oN, cN, rfl, hH2⟩; clear hH; have hH := (hH2 _ (by (repeat constructor))).tail; clear hH2; refine ⟨STT, ?_⟩; intro a hA))) )
      have hT := tw_more htp (H := [stI bs N r.2.2, own 33 1 oR 8 8 (flat encW (regs.set p r.1)), own 74 2 oQ 8 8 (flat encV (Q.set p (false, (T.length : Nat)))), cb bN 30 [.int .i64 x0, .int .i64 x1, .int .i64 x2, .int .i64 x3, .int .i64 x4, .string xt]]) hH
      replace hT := hT.perm (.swap _ _ _)
      exact ⟨r.2.2, T ++ [List.replicate n (true, 0)], regs.set p r.1, Q.set p (false, (T.length : Nat)), ⟨hokr, hTn, by omega, setUS hUr hUw, by rw [List.length_set]; exact hrl, by rw [List.length_set]; exact hql, by rw [List.length_append]; show T.length + 1 ≤ i + 1; omega⟩, HS.p1234 hT, (hA.sub (by (repeat (first | exact trivial | refine ⟨rfl, ?_⟩))))⟩
    · -- Set
      (refine wp_draw3_HS 6 [(0, 1), (1, 1), (2, 1), (3, 1), (4, 1), (5, 1), (6, 1), (7, 1), (8, 1), (9, 1), (10, 1)] [11,12] mixed (by decide +kernel) hH ?_; replace hH := hH.drew)
      repeat' (first | (first | (refine GT ?_ ?_ <;> intro hg <;> clear hA a <;> intro a hA <;> (first | exact FA | replace hg := of_decide_eq_true hg | replace hg := of_decide_eq_false hg | skip)) | (refine QT ?_; clear hA a; intro a hA) | (first | (refine BT ?_; clear hA hH; rintro _ w ⟨bN, rfl, hH⟩ a hA) | (refine LT ?_; clear hA hH; rintro _ w ⟨oN, rfl, hH⟩ a hA) | (refine AT ?_; clear hA; rintro _ w ⟨oN, cN, rfl, hH2⟩ a hA; clear hH; have hH := (hH2 _ (by (repeat constructor))).tail; clear hH2) | (refine S0T ?_; clear hH; rintro _ w hH) )) | ((first | refine CT ?_ | (refine DT ?_ ?_ <;> intro hc <;> try (exfalso; omega))) <;> repeat' refine CT ?_) | (first | (refine DSK ?_; clear hA a; intro a hA) | (first | (refine DLT ?_; clear hA hH; rintro _ w ⟨oN, rfl, hH⟩; refine ⟨STT, ?_⟩; intro a hA) | (refine DAT ?_; clear hA; rintro _ w ⟨oN, cN, rfl, hH2⟩; clear hH; have hH := (hH2 _ (by (repeat constructor))).tail; clear hH2; refine ⟨STT, ?_⟩; intro a hA))) )
      (refine dr_op3 hA rfl rfl rfl (by decide) (op_call rfl rfl rfl (sset_f hH hok hUp)) ?_; clear hA hH; rintro _ w ⟨rfl, hH⟩; intro a hA)
      have hokW := writeS_okS (z := (atA g.s.L rp : Nat)) (i := x4) hok hUq
      have hcw := writeS_cyS g (atA g.s.L rp : Nat) x4 rq
      have hset := TwE.set (i := x4) hok hTw hrp hQp hrq hQq
      generalize (writeS g (atA g.s.L rp : Nat) x4 rq) = r at *
      repeat' (first | (first | (refine GT ?_ ?_ <;> intro hg <;> clear hA a <;> intro a hA <;> (first | exact FA | replace hg := of_decide_eq_true hg | replace hg := of_decide_eq_false hg | skip)) | (refine QT ?_; clear hA a; intro a hA) | (first | (refine BT ?_; clear hA hH; rintro _ w ⟨bN, rfl, hH⟩ a hA) | (refine LT ?_; clear hA hH; rintro _ w ⟨oN, rfl, hH⟩ a hA) | (refine AT ?_; clear hA; rintro _ w ⟨oN, cN, rfl, hH2⟩ a hA; clear hH; have hH := (hH2 _ (by (repeat constructor))).tail; clear hH2) | (refine S0T ?_; clear hH; rintro _ w hH) )) | ((first | refine CT ?_ | (refine DT ?_ ?_ <;> intro hc <;> try (exfalso; omega))) <;> repeat' refine CT ?_) | (first | (refine DSK ?_; clear hA a; intro a hA) | (first | (refine DLT ?_; clear hA hH; rintro _ w ⟨oN, rfl, hH⟩; refine ⟨STT, ?_⟩; intro a hA) | (refine DAT ?_; clear hA; rintro _ w ⟨oN, cN, rfl, hH2⟩; clear hH; have hH := (hH2 _ (by (repeat constructor))).tail; clear hH2; refine ⟨STT, ?_⟩; intro a hA))) )
      replace hH := hH.perm (.swap _ _ _)
      rcases hset with ⟨e1, e2⟩ | ⟨e1, id, rw_, e2, e3, ⟨e4, e5⟩ | ⟨j, rfl, e4, e5, e6⟩⟩
      · dsimp only at e1
        subst e1
        subst e2
        (refine wp_draw3_HS 6 [(0, 1), (1, 1), (2, 1), (3, 1), (4, 1), (5, 1), (6, 1), (7, 1), (8, 1), (9, 1), (10, 1), (11, 1)] [12,13] mixed (by decide +kernel) hH ?_; replace hH := hH.drew)
        repeat' (first | (first | (refine GT ?_ ?_ <;> intro hg <;> clear hA a <;> intro a hA <;> (first | exact FA | replace hg := of_decide_eq_true hg | replace hg := of_decide_eq_false hg | skip)) | ((first | apply st_ex hA hH rfl rfl (by decide) | apply dr_ex hA rfl rfl rfl (by decide) | apply dr_exp hA rfl rfl rfl (by decide) | apply dr_ex3 hA hH rfl rfl rfl (by decide)); (first | (apply ex_load_st (vs := [.bool q1, .int .i64 q2]); rfl; rfl; exact cls_rdF (fun w hw => hw.own_rd (by exact MEMT)) hvq) | (apply ex_load_st (vs := [.bool true, .int .i64 p2]); rfl; rfl; exact cls_rdF (fun w hw => hw.own_rd (by exact MEMT)) hvp)); clear hA a; intro a hA) | (refine QT ?_; clear hA a; intro a hA) | (first | (refine BT ?_; clear hA hH; rintro _ w ⟨bN, rfl, hH⟩ a hA) | (refine LT ?_; clear hA hH; rintro _ w ⟨oN, rfl, hH⟩ a hA) | (refine AT ?_; clear hA; rintro _ w ⟨oN, cN, rfl, hH2⟩ a hA; clear hH; have hH := (hH2 _ (by (repeat constructor))).tail; clear hH2) | (refine S0T ?_; clear hH; rintro _ w hH) )) | ((first | refine CT ?_ | (refine DT ?_ ?_ <;> intro hc <;> try (exfalso; omega))) <;> repeat' refine CT ?_) | (first | (refine DSK ?_; clear hA a; intro a hA) | (first | (refine DLT ?_; clear hA hH; rintro _ w ⟨oN, rfl, hH⟩; refine ⟨STT, ?_⟩; intro a hA) | (refine DAT ?_; clear hA; rintro _ w ⟨oN, cN, rfl, hH2⟩; clear hH; have hH := (hH2 _ (by (repeat constructor))).tail; clear hH2; refine ⟨STT, ?_⟩; intro a hA))) )
        (refine dr_op3 hA rfl rfl rfl (by decide) (op_call rfl rfl rfl (tset_numF hH)) ?_; clear hA hH; rintro _ w ⟨rfl, hH⟩; intro a hA)
        replace hH := hH.perm (.swap _ _ _)
        repeat' (first | (first | (refine GT ?_ ?_ <;> intro hg <;> clear hA a <;> intro a hA <;> (first | exact FA | replace hg := of_decide_eq_true hg | replace hg := of_decide_eq_false hg | skip)) | (refine QT ?_; clear hA a; intro a hA) | (first | (refine BT ?_; clear hA hH; rintro _ w ⟨bN, rfl, hH⟩ a hA) | (refine LT ?_; clear hA hH; rintro _ w ⟨oN, rfl, hH⟩ a hA) | (refine AT ?_; clear hA; rintro _ w ⟨oN, cN, rfl, hH2⟩ a hA; clear hH; have hH := (hH2 _ (by (repeat constructor))).tail; clear hH2) | (refine S0T ?_; clear hH; rintro _ w hH) )) | ((first | refine CT ?_ | (refine DT ?_ ?_ <;> intro hc <;> try (exfalso; omega))) <;> repeat' refine CT ?_) | (first | (refine DSK ?_; clear hA a; intro a hA) | (first | (refine DLT ?_; clear hA hH; rintro _ w ⟨oN, rfl, hH⟩; refine ⟨STT, ?_⟩; intro a hA) | (refine DAT ?_; clear hA; rintro _ w ⟨oN, cN, rfl, hH2⟩; clear hH; have hH := (hH2 _ (by (repeat constructor))).tail; clear hH2; refine ⟨STT, ?_⟩; intro a hA))) )
        exact ⟨g, T, regs, Q, ⟨hok, hTw, by omega, hUr, hrl, hql, by omega⟩, HS.p1234 hH, (hA.sub (by (repeat (first | exact trivial | refine ⟨rfl, ?_⟩))))⟩
      · dsimp only at e1 e2
        subst e1
        subst e2
        subst e5
        (refine wp_draw3_HS 6 [(0, 1), (1, 1), (2, 1), (3, 1), (4, 1), (5, 1), (6, 1), (7, 1), (8, 1), (9, 1), (10, 1), (11, 1)] [12,13] mixed (by decide +kernel) hH ?_; replace hH := hH.drew)
        repeat' (first | (first | (refine GT ?_ ?_ <;> intro hg <;> clear hA a <;> intro a hA <;> (first | exact FA | replace hg := of_decide_eq_true hg | replace hg := of_decide_eq_false hg | skip)) | ((first | apply st_ex hA hH rfl rfl (by decide) | apply dr_ex hA rfl rfl rfl (by decide) | apply dr_exp hA rfl rfl rfl (by decide) | apply dr_ex3 hA hH rfl rfl rfl (by decide)); (first | (apply ex_load_st (vs := [.bool q1, .int .i64 q2]); rfl; rfl; exact cls_rdF (fun w hw => hw.own_rd (by exact MEMT)) hvq) | (apply ex_load_st (vs := [.bool false, .int .i64 id]); rfl; rfl; exact cls_rdF (fun w hw => hw.own_rd (by exact MEMT)) hvp)); clear hA a; intro a hA) | (refine QT ?_; clear hA a; intro a hA) | (first | (refine BT ?_; clear hA hH; rintro _ w ⟨bN, rfl, hH⟩ a hA) | (refine LT ?_; clear hA hH; rintro _ w ⟨oN, rfl, hH⟩ a hA) | (refine AT ?_; clear hA; rintro _ w ⟨oN, cN, rfl, hH2⟩ a hA; clear hH; have hH := (hH2 _ (by (repeat constructor))).tail; clear hH2) | (refine S0T ?_; clear hH; rintro _ w hH) )) | ((first | refine CT ?_ | (refine DT ?_ ?_ <;> intro hc <;> try (exfalso; omega))) <;> repeat' refine CT ?_) | (first | (refine DSK ?_; clear hA a; intro a hA) | (first | (refine DLT ?_; clear hA hH; rintro _ w ⟨oN, rfl, hH⟩; refine ⟨STT, ?_⟩; intro a hA) | (refine DAT ?_; clear hA; rintro _ w ⟨oN, cN, rfl, hH2⟩; clear hH; have hH := (hH2 _ (by (repeat constructor))).tail; clear hH2; refine ⟨STT, ?_⟩; intro a hA))) )
        (refine dr_op3 hA rfl rfl rfl (by decide) (op_call rfl rfl rfl (tset_outF hH (by omega) e3 e4)) ?_; clear hA hH; rintro _ w ⟨rfl, hH⟩; intro a hA)
        replace hH := hH.perm (.swap _ _ _)
        repeat' (first | (first | (refine GT ?_ ?_ <;> intro hg <;> clear hA a <;> intro a hA <;> (first | exact FA | replace hg := of_decide_eq_true hg | replace hg := of_decide_eq_false hg | skip)) | (refine QT ?_; clear hA a; intro a hA) | (first | (refine BT ?_; clear hA hH; rintro _ w ⟨bN, rfl, hH⟩ a hA) | (refine LT ?_; clear hA hH; rintro _ w ⟨oN, rfl, hH⟩ a hA) | (refine AT ?_; clear hA; rintro _ w ⟨oN, cN, rfl, hH2⟩ a hA; clear hH; have hH := (hH2 _ (by (repeat constructor))).tail; clear hH2) | (refine S0T ?_; clear hH; rintro _ w hH) )) | ((first | refine CT ?_ | (refine DT ?_ ?_ <;> intro hc <;> try (exfalso; omega))) <;> repeat' refine CT ?_) | (first | (refine DSK ?_; clear hA a; intro a hA) | (first | (refine DLT ?_; clear hA hH; rintro _ w ⟨oN, rfl, hH⟩; refine ⟨STT, ?_⟩; intro a hA) | (refine DAT ?_; clear hA; rintro _ w ⟨oN, cN, rfl, hH2⟩; clear hH; have hH := (hH2 _ (by (repeat constructor))).tail; clear hH2; refine ⟨STT, ?_⟩; intro a hA))) )
        exact ⟨g, T, regs, Q, ⟨hok, hTw, by omega, hUr, hrl, hql, by omega⟩, HS.p1234 hH, (hA.sub (by (repeat (first | exact trivial | refine ⟨rfl, ?_⟩))))⟩
      · dsimp only at e1 e2
        subst e1
        subst e2
        (refine wp_draw3_HS 6 [(0, 1), (1, 1), (2, 1), (3, 1), (4, 1), (5, 1), (6, 1), (7, 1), (8, 1), (9, 1), (10, 1), (11, 1)] [12,13] mixed (by decide +kernel) hH ?_; replace hH := hH.drew)
        repeat' (first | (first | (refine GT ?_ ?_ <;> intro hg <;> clear hA a <;> intro a hA <;> (first | exact FA | replace hg := of_decide_eq_true hg | replace hg := of_decide_eq_false hg | skip)) | ((first | apply st_ex hA hH rfl rfl (by decide) | apply dr_ex hA rfl rfl rfl (by decide) | apply dr_exp hA rfl rfl rfl (by decide) | apply dr_ex3 hA hH rfl rfl rfl (by decide)); (first | (apply ex_load_st (vs := [.bool q1, .int .i64 q2]); rfl; rfl; exact cls_rdF (fun w hw => hw.own_rd (by exact MEMT)) hvq) | (apply ex_load_st (vs := [.bool false, .int .i64 id]); rfl; rfl; exact cls_rdF (fun w hw => hw.own_rd (by exact MEMT)) hvp)); clear hA a; intro a hA) | (refine QT ?_; clear hA a; intro a hA) | (first | (refine BT ?_; clear hA hH; rintro _ w ⟨bN, rfl, hH⟩ a hA) | (refine LT ?_; clear hA hH; rintro _ w ⟨oN, rfl, hH⟩ a hA) | (refine AT ?_; clear hA; rintro _ w ⟨oN, cN, rfl, hH2⟩ a hA; clear hH; have hH := (hH2 _ (by (repeat constructor))).tail; clear hH2) | (refine S0T ?_; clear hH; rintro _ w hH) )) | ((first | refine CT ?_ | (refine DT ?_ ?_ <;> intro hc <;> try (exfalso; omega))) <;> repeat' refine CT ?_) | (first | (refine DSK ?_; clear hA a; intro a hA) | (first | (refine DLT ?_; clear hA hH; rintro _ w ⟨oN, rfl, hH⟩; refine ⟨STT, ?_⟩; intro a hA) | (refine DAT ?_; clear hA; rintro _ w ⟨oN, cN, rfl, hH2⟩; clear hH; have hH := (hH2 _ (by (repeat constructor))).tail; clear hH2; refine ⟨STT, ?_⟩; intro a hA))) )
        (refine dr_op3 hA rfl rfl rfl (by decide) (op_call rfl rfl rfl (tset_inF hH (by omega) e3 e4)) ?_; clear hA hH; rintro _ w ⟨rfl, hH⟩; intro a hA)
        replace hH := hH.perm (.swap _ _ _)
        rw [e5] at hA
        repeat' (first | (first | (refine GT ?_ ?_ <;> intro hg <;> clear hA a <;> intro a hA <;> (first | exact FA | replace hg := of_decide_eq_true hg | replace hg := of_decide_eq_false hg | skip)) | (refine QT ?_; clear hA a; intro a hA) | (first | (refine BT ?_; clear hA hH; rintro _ w ⟨bN, rfl, hH⟩ a hA) | (refine LT ?_; clear hA hH; rintro _ w ⟨oN, rfl, hH⟩ a hA) | (refine AT ?_; clear hA; rintro _ w ⟨oN, cN, rfl, hH2⟩ a hA; clear hH; have hH := (hH2 _ (by (repeat constructor))).tail; clear hH2) | (refine S0T ?_; clear hH; rintro _ w hH) )) | ((first | refine CT ?_ | (refine DT ?_ ?_ <;> intro hc <;> try (exfalso; omega))) <;> repeat' refine CT ?_) | (first | (refine DSK ?_; clear hA a; intro a hA) | (first | (refine DLT ?_; clear hA hH; rintro _ w ⟨oN, rfl, hH⟩; refine ⟨STT, ?_⟩; intro a hA) | (refine DAT ?_; clear hA; rintro _ w ⟨oN, cN, rfl, hH2⟩; clear hH; have hH := (hH2 _ (by (repeat constructor))).tail; clear hH2; refine ⟨STT, ?_⟩; intro a hA))) )
        exact ⟨r.2, _, regs, Q, ⟨hokW, e6, by omega, hUr, hrl, hql, by rw [List.length_set]; omega⟩, HS.p1234 hH, (hA.sub (by (repeat (first | exact trivial | refine ⟨rfl, ?_⟩))))⟩
    · -- Get
      (refine wp_draw_HS [(0, 1), (1, 1), (2, 1), (3, 1), (4, 1), (5, 1), (6, 1), (7, 0), (8, 1), (9, 1), (10, 1), (11, 1), (12, 1)] mixed (by decide +kernel) hH ?_; replace hH := hH.drew)
      repeat' (first | (first | (refine GT ?_ ?_ <;> intro hg <;> clear hA a <;> intro a hA <;> (first | exact FA | replace hg := of_decide_eq_true hg | replace hg := of_decide_eq_false hg | skip)) | (refine QT ?_; clear hA a; intro a hA) | (first | (refine BT ?_; clear hA hH; rintro _ w ⟨bN, rfl, hH⟩ a hA) | (refine LT ?_; clear hA hH; rintro _ w ⟨oN, rfl, hH⟩ a hA) | (refine AT ?_; clear hA; rintro _ w ⟨oN, cN, rfl, hH2⟩ a hA; clear hH; have hH := (hH2 _ (by (repeat constructor))).tail; clear hH2) | (refine S0T ?_; clear hH; rintro _ w hH) )) | ((first | refine CT ?_ | (refine DT ?_ ?_ <;> intro hc <;> try (exfalso; omega))) <;> repeat' refine CT ?_) | (first | (refine DSK ?_; clear hA a; intro a hA) | (first | (refine DLT ?_; clear hA hH; rintro _ w ⟨oN, rfl, hH⟩; refine ⟨STT, ?_⟩; intro a hA) | (refine DAT ?_; clear hA; rintro _ w ⟨oN, cN, rfl, hH2⟩; clear hH; have hH := (hH2 _ (by (repeat constructor))).tail; clear hH2; refine ⟨STT, ?_⟩; intro a hA))) )
      (refine dr_op hA rfl rfl rfl (by decide) (op_call rfl rfl rfl (sget_f hH hok hUq)) ?_; clear hA hH; rintro _ w ⟨rfl, hH⟩; refine ⟨STT, ?_⟩; intro a hA)
      have hUg := get_U hok (atA g.s.L rq : Nat) x4
      have hget := TwE.get (p := p) (i := x4) hok hTw hrq hQq (by omega)
      generalize getA g.s.L (atA g.s.L rq : Nat) x4 = gv at *
      repeat' (first | (first | (refine GT ?_ ?_ <;> intro hg <;> clear hA a <;> intro a hA <;> (first | exact FA | replace hg := of_decide_eq_true hg | replace hg := of_decide_eq_false hg | skip)) | (refine QT ?_; clear hA a; intro a hA) | (first | (refine BT ?_; clear hA hH; rintro _ w ⟨bN, rfl, hH⟩ a hA) | (refine LT ?_; clear hA hH; rintro _ w ⟨oN, rfl, hH⟩ a hA) | (refine AT ?_; clear hA; rintro _ w ⟨oN, cN, rfl, hH2⟩ a hA; clear hH; have hH := (hH2 _ (by (repeat constructor))).tail; clear hH2) | (refine S0T ?_; clear hH; rintro _ w hH) )) | ((first | refine CT ?_ | (refine DT ?_ ?_ <;> intro hc <;> try (exfalso; omega))) <;> repeat' refine CT ?_) | (first | (refine DSK ?_; clear hA a; intro a hA) | (first | (refine DLT ?_; clear hA hH; rintro _ w ⟨oN, rfl, hH⟩; refine ⟨STT, ?_⟩; intro a hA) | (refine DAT ?_; clear hA; rintro _ w ⟨oN, cN, rfl, hH2⟩; clear hH; have hH := (hH2 _ (by (repeat constructor))).tail; clear hH2; refine ⟨STT, ?_⟩; intro a hA))) )
      replace hH := hH.perm (.swap _ _ _)
      have htv : q1 = true ∨ ∃ (id : Nat) (r : List Vl), q1 = false ∧ q2 = (id : Int) ∧ T[id]? = some r := by
        rcases hget with ⟨h1, _⟩ | ⟨h1, id, r, h2, h3, _⟩
        · exact .inl h1
        · exact .inr ⟨id, r, h1, h2, h3⟩
      have hzz : (tgV T (q1, q2) x4 = none ∧ gv.2 ≠ 0) ∨ ∃ vy, tgV T (q1, q2) x4 = some vy ∧ gv.2 = 0 ∧ TwE g.s (regs.set p gv.1) T (Q.set p vy) := by
        rcases hget with ⟨h1, h2⟩ | ⟨h1, id, r, h2, h3, ⟨h4, h5⟩ | ⟨j, y, vy, h4, h5, h6, h7⟩⟩
        · dsimp only at h1
          subst h1
          exact .inl ⟨tgV_num, by rw [h2]; decide⟩
        · dsimp only at h1 h2
          subst h1; subst h2
          exact .inl ⟨tgV_out h3 h4, by rw [h5]; decide⟩
        · dsimp only at h1 h2
          subst h1; subst h2; subst h4
          exact .inr ⟨vy, tgV_in h3 h5, by rw [h6], by rw [h6]; exact h7⟩
      clear hget
      have hTl : T.length ≤ 1000 := by omega
      refine wp_drawT (qs [0, 1, 2, 3, 4, 5, 6] (.two 7 11 (qs [8, 9, 10] (.one 11 (.one 12 (.q 13 .nil)))) (.one 7 (qs [8, 9, 10] (.one 12 (.q 13 .nil)))))) (fun a w => ∃ bV, HS w0 noM [cb bV 74 [.bool ((tgV T (q1, q2) x4).getD (false, 0)).1, .int .i64 ((tgV T (q1, q2) x4).getD (false, 0)).2], twI bt T, stI bs N g, own 33 1 oR 8 8 (flat encW regs), own 74 2 oQ 8 8 (flat encV Q), cb bN 30 [.int .i64 x0, .int .i64 x1, .int .i64 x2, .int .i64 x3, .int .i64 x4, .string xt]] w ∧ Sl 233 [(1, .slice o2 ls.length c2), (5, .pointer (some (bat bs 0))), (6, .pointer (some (bat bt 0))), (7, .slice oR 8 8), (8, .slice oQ 8 8), (10, .int .i64 i), (12, .int .i64 p), (20, .int .u64 gv.1), (21, .int .i64 gv.2), (22, .pointer (some (bat bV 0))), (23, .bool (tgV T (q1, q2) x4).isSome)] a) mixed (by decide +kernel) hH ?_ ?_
      · replace hH := hH.drew
        (repeat (apply dt_ex hA rfl rfl rfl (by decide); (first | exact EXT | exact EXT2 | (apply ex_load_st (vs := [.bool q1, .int .i64 q2]); rfl; rfl; exact cls_rdF (fun w hw => hw.own_rd (by exact MEMT)) hvq)); clear hA a; intro a hA))
        apply dt_two
        · (refine dt_op hA rfl rfl rfl (by decide) (op_call rfl rfl rfl (tget_f hH hTl htv)) ?_; clear hA hH; rintro _ w ⟨rfl, hH⟩; refine ⟨hH, ?_⟩; intro a hA)
          (repeat (apply dt_ex hA rfl rfl rfl (by decide); (first | exact EXT | exact EXT2 ); clear hA a; intro a hA))
          (apply dt_op hA rfl rfl rfl (by decide); apply op_alloc; exact hH; clear hA hH; rintro _ w ⟨bN, rfl, hH⟩; refine ⟨hH.tail, ?_⟩; intro a hA)
          (apply dt_op0 hA rfl rfl rfl; apply op_store_agg (vs := [.bool ((tgV T (q1, q2) x4).getD (false, 0)).1, .int .i64 ((tgV T (q1, q2) x4).getD (false, 0)).2]); rfl; rfl; exact hH; (repeat constructor); (repeat rfl); clear hH; rintro _ w hH; refine ⟨hH.tail, ?_⟩)
          (repeat (apply dt_ex hA rfl rfl rfl (by decide); (first | exact EXT | exact EXT2 ); clear hA a; intro a hA))
          exact ⟨bN, hH, (hA.sub (by (repeat (first | exact trivial | refine ⟨rfl, ?_⟩))))⟩
        · (apply dt_op hA rfl rfl rfl (by decide); apply op_alloc; exact hH; clear hA hH; rintro _ w ⟨bN, rfl, hH⟩; refine ⟨hH.tail, ?_⟩; intro a hA)
          (refine dt_op hA rfl rfl rfl (by decide) (op_call rfl rfl rfl (tget_f (hH.perm (.swap _ _ _)) hTl htv)) ?_; clear hA hH; rintro _ w ⟨rfl, hH⟩; replace hH := hH.perm (.swap _ _ _); refine ⟨hH.tail, ?_⟩; intro a hA)
          (repeat (apply dt_ex hA rfl rfl rfl (by decide); (first | exact EXT | exact EXT2 ); clear hA a; intro a hA))
          (apply dt_op0 hA rfl rfl rfl; apply op_store_agg (vs := [.bool ((tgV T (q1, q2) x4).getD (false, 0)).1, .int .i64 ((tgV T (q1, q2) x4).getD (false, 0)).2]); rfl; rfl; exact hH; (repeat constructor); (repeat rfl); clear hH; rintro _ w hH; refine ⟨hH.tail, ?_⟩)
          (repeat (apply dt_ex hA rfl rfl rfl (by decide); (first | exact EXT | exact EXT2 ); clear hA a; intro a hA))
          exact ⟨bN, hH, (hA.sub (by (repeat (first | exact trivial | refine ⟨rfl, ?_⟩))))⟩
      clear hA hH
      rintro a w ⟨bV, hH, hA⟩
      rcases hzz with ⟨hz1, hz2⟩ | ⟨⟨y1, y2⟩, hz1, hz2, hz3⟩
      · rw [hz1] at hA hH
        repeat' (first | (first | (refine GT ?_ ?_ <;> intro hg <;> clear hA a <;> intro a hA <;> (first | exact FA | replace hg := of_decide_eq_true hg | replace hg := of_decide_eq_false hg | skip)) | (refine QT ?_; clear hA a; intro a hA) | (first | (refine BT ?_; clear hA hH; rintro _ w ⟨bN, rfl, hH⟩ a hA) | (refine LT ?_; clear hA hH; rintro _ w ⟨oN, rfl, hH⟩ a hA) | (refine AT ?_; clear hA; rintro _ w ⟨oN, cN, rfl, hH2⟩ a hA; clear hH; have hH := (hH2 _ (by (repeat constructor))).tail; clear hH2) | (refine S0T ?_; clear hH; rintro _ w hH) )) | ((first | refine CT ?_ | (refine DT ?_ ?_ <;> intro hc <;> try (exfalso; omega))) <;> repeat' refine CT ?_) | (first | (refine DSK ?_; clear hA a; intro a hA) | (first | (refine DLT ?_; clear hA hH; rintro _ w ⟨oN, rfl, hH⟩; refine ⟨STT, ?_⟩; intro a hA) | (refine DAT ?_; clear hA; rintro _ w ⟨oN, cN, rfl, hH2⟩; clear hH; have hH := (hH2 _ (by (repeat constructor))).tail; clear hH2; refine ⟨STT, ?_⟩; intro a hA))) )
        all_goals (first | exact ⟨g, T, regs, Q, ⟨hok, hTw, by omega, hUr, hrl, hql, by omega⟩, (hH.perm (H' := [stI bs N g, twI bt T, own 33 1 oR 8 8 (flat encW regs), own 74 2 oQ 8 8 (flat encV Q), cb bV 74 _, cb bN 30 [.int .i64 x0, .int .i64 x1, .int .i64 x2, .int .i64 x3, .int .i64 x4, .string xt]]) (by (repeat (first | exact List.Perm.nil | refine perm_pick 0 rfl ?_ | refine perm_pick 1 rfl ?_ | refine perm_pick 2 rfl ?_ | refine perm_pick 3 rfl ?_ | refine perm_pick 4 rfl ?_ | refine perm_pick 5 rfl ?_ | refine perm_pick 6 rfl ?_ | refine perm_pick 7 rfl ?_ | refine perm_pick 8 rfl ?_ | refine perm_pick 9 rfl ?_ | refine perm_pick 10 rfl ?_ | refine perm_pick 11 rfl ?_)))).left (H1 := [_, _, _, _]), (hA.sub (by (repeat (first | exact trivial | refine ⟨rfl, ?_⟩))))⟩ | (exfalso; rw [decide_eq_false hz2] at hc; exact absurd hc (by decide)))
      · rw [hz1] at hA hH
        rw [hz2] at hA
        dsimp only [Option.getD, Option.isSome] at hA hH
        repeat' (first | (first | (refine GT ?_ ?_ <;> intro hg <;> clear hA a <;> intro a hA <;> (first | exact FA | replace hg := of_decide_eq_true hg | replace hg := of_decide_eq_false hg | skip)) | (refine QT ?_; clear hA a; intro a hA) | (first | (refine BT ?_; clear hA hH; rintro _ w ⟨bN, rfl, hH⟩ a hA) | (refine LT ?_; clear hA hH; rintro _ w ⟨oN, rfl, hH⟩ a hA) | (refine AT ?_; clear hA; rintro _ w ⟨oN, cN, rfl, hH2⟩ a hA; clear hH; have hH := (hH2 _ (by (repeat constructor))).tail; clear hH2) | (refine S0T ?_; clear hH; rintro _ w hH) | (apply st_op0 hA rfl rfl; apply op_set1 (enc := encW) (y0 := gv.1) (j := p * 1); rfl; rfl; rfl; rfl; exact encW_len; exact hH; (repeat constructor); omega; clear hH; rintro _ w hH) | (apply st_op0 hA rfl rfl; apply op_setV (i := p) (m := y1) (r := y2); rfl; rfl; exact hH; (repeat constructor); omega; clear hH; rintro _ w hH))) | ((first | refine CT ?_ | (refine DT ?_ ?_ <;> intro hc <;> try (exfalso; omega))) <;> repeat' refine CT ?_) | (first | (refine DSK ?_; clear hA a; intro a hA) | (first | (refine DLT ?_; clear hA hH; rintro _ w ⟨oN, rfl, hH⟩; refine ⟨STT, ?_⟩; intro a hA) | (refine DAT ?_; clear hA; rintro _ w ⟨oN, cN, rfl, hH2⟩; clear hH; have hH := (hH2 _ (by (repeat constructor))).tail; clear hH2; refine ⟨STT, ?_⟩; intro a hA))) )
        rw [Nat.mul_one] at hH
        exact ⟨g, T, regs.set p gv.1, Q.set p (y1, y2), ⟨hok, hz3, by omega, setUS hUr hUg, by rw [List.length_set]; exact hrl, by rw [List.length_set]; exact hql, by omega⟩, (hH.perm (H' := [stI bs N g, twI bt T, own 33 1 oR 8 8 (flat encW (regs.set p gv.1)), own 74 2 oQ 8 8 (flat encV (Q.set p (y1, y2))), cb bV 74 _, cb bN 30 [.int .i64 x0, .int .i64 x1, .int .i64 x2, .int .i64 x3, .int .i64 x4, .string xt]]) (by (repeat (first | exact List.Perm.nil | refine perm_pick 0 rfl ?_ | refine perm_pick 1 rfl ?_ | refine perm_pick 2 rfl ?_ | refine perm_pick 3 rfl ?_ | refine perm_pick 4 rfl ?_ | refine perm_pick 5 rfl ?_ | refine perm_pick 6 rfl ?_ | refine perm_pick 7 rfl ?_ | refine perm_pick 8 rfl ?_ | refine perm_pick 9 rfl ?_ | refine perm_pick 10 rfl ?_ | refine perm_pick 11 rfl ?_)))).left (H1 := [_, _, _, _]), (hA.sub (by (repeat (first | exact trivial | refine ⟨rfl, ?_⟩))))⟩
    · -- Pick
      have hpk := spick_f (roots := regs) (oR := oR) (cR := 8) hH hok (by omega) hUr (by omega) (fun Hc w2 h => h.own_rd (List.mem_append_right _ (.tail _ (.head _))))
      rw [hrl] at hpk
      (refine st_op hA rfl rfl (by decide) (op_call rfl rfl rfl (hpk)) ?_; clear hA hH; rintro _ w hH a hA)
      have hokP := pickS_ok hok regs
      have hcyP := pick_cyS (g := g) (roots := regs)
      have hTP := TwE.pick hok hTw (by omega)
      generalize pickS g regs = g' at *
      repeat' (first | (first | (refine GT ?_ ?_ <;> intro hg <;> clear hA a <;> intro a hA <;> (first | exact FA | replace hg := of_decide_eq_true hg | replace hg := of_decide_eq_false hg | skip)) | (refine QT ?_; clear hA a; intro a hA) | (first | (refine BT ?_; clear hA hH; rintro _ w ⟨bN, rfl, hH⟩ a hA) | (refine LT ?_; clear hA hH; rintro _ w ⟨oN, rfl, hH⟩ a hA) | (refine AT ?_; clear hA; rintro _ w ⟨oN, cN, rfl, hH2⟩ a hA; clear hH; have hH := (hH2 _ (by (repeat constructor))).tail; clear hH2) | (refine S0T ?_; clear hH; rintro _ w hH) )) | ((first | refine CT ?_ | (refine DT ?_ ?_ <;> intro hc <;> try (exfalso; omega))) <;> repeat' refine CT ?_) | (first | (refine DSK ?_; clear hA a; intro a hA) | (first | (refine DLT ?_; clear hA hH; rintro _ w ⟨oN, rfl, hH⟩; refine ⟨STT, ?_⟩; intro a hA) | (refine DAT ?_; clear hA; rintro _ w ⟨oN, cN, rfl, hH2⟩; clear hH; have hH := (hH2 _ (by (repeat constructor))).tail; clear hH2; refine ⟨STT, ?_⟩; intro a hA))) )
      exact ⟨g', T, regs, Q, ⟨hokP, hTP, by omega, hUr, hrl, hql, by omega⟩, HS.p1234 hH, (hA.sub (by (repeat (first | exact trivial | refine ⟨rfl, ?_⟩))))⟩
    · -- copy
      rw [Nat.mul_one] at hH
      exact ⟨g, T, regs.set p rq, Q.set p (q1, q2), ⟨hok, hTw.copy hrq hQq (by omega), by omega, setUS hUr hUq, by rw [List.length_set]; exact hrl, by rw [List.length_set]; exact hql, by omega⟩, HS.p1234 hH, (hA.sub (by (repeat (first | exact trivial | refine ⟨rfl, ?_⟩))))⟩
    · -- a number
      (refine st_op hA rfl rfl (by decide) (op_call rfl rfl rfl (wof_spec _ x3)) ?_; clear hA; rintro _ w ⟨rfl, hk⟩ a hA; replace hH := hH.keep hk; clear hk)
      repeat' (first | (first | (refine GT ?_ ?_ <;> intro hg <;> clear hA a <;> intro a hA <;> (first | exact FA | replace hg := of_decide_eq_true hg | replace hg := of_decide_eq_false hg | skip)) | (refine QT ?_; clear hA a; intro a hA) | (first | (refine BT ?_; clear hA hH; rintro _ w ⟨bN, rfl, hH⟩ a hA) | (refine LT ?_; clear hA hH; rintro _ w ⟨oN, rfl, hH⟩ a hA) | (refine AT ?_; clear hA; rintro _ w ⟨oN, cN, rfl, hH2⟩ a hA; clear hH; have hH := (hH2 _ (by (repeat constructor))).tail; clear hH2) | (refine S0T ?_; clear hH; rintro _ w hH) | (apply st_op0 hA rfl rfl; apply op_set1 (enc := encW) (y0 := ofW x3) (j := p * 1); rfl; rfl; rfl; rfl; exact encW_len; exact hH; (repeat constructor); omega; clear hH; rintro _ w hH))) | ((first | refine CT ?_ | (refine DT ?_ ?_ <;> intro hc <;> try (exfalso; omega))) <;> repeat' refine CT ?_) | (first | (refine DSK ?_; clear hA a; intro a hA) | (first | (refine DLT ?_; clear hA hH; rintro _ w ⟨oN, rfl, hH⟩; refine ⟨STT, ?_⟩; intro a hA) | (refine DAT ?_; clear hA; rintro _ w ⟨oN, cN, rfl, hH2⟩; clear hH; have hH := (hH2 _ (by (repeat constructor))).tail; clear hH2; refine ⟨STT, ?_⟩; intro a hA))) )
      (refine st_op hA rfl rfl (by decide) (op_call rfl rfl rfl (wwrap_spec _ x3)) ?_; clear hA; rintro _ w ⟨rfl, hk⟩ a hA; replace hH := hH.keep hk; clear hk)
      repeat' (first | (first | (refine GT ?_ ?_ <;> intro hg <;> clear hA a <;> intro a hA <;> (first | exact FA | replace hg := of_decide_eq_true hg | replace hg := of_decide_eq_false hg | skip)) | (refine QT ?_; clear hA a; intro a hA) | (first | (refine BT ?_; clear hA hH; rintro _ w ⟨bN, rfl, hH⟩ a hA) | (refine LT ?_; clear hA hH; rintro _ w ⟨oN, rfl, hH⟩ a hA) | (refine AT ?_; clear hA; rintro _ w ⟨oN, cN, rfl, hH2⟩ a hA; clear hH; have hH := (hH2 _ (by (repeat constructor))).tail; clear hH2) | (refine S0T ?_; clear hH; rintro _ w hH) | (apply st_op0 hA rfl rfl; apply op_setV (i := p) (m := true) (r := wrapV x3); rfl; rfl; exact hH; (repeat constructor); omega; clear hH; rintro _ w hH))) | ((first | refine CT ?_ | (refine DT ?_ ?_ <;> intro hc <;> try (exfalso; omega))) <;> repeat' refine CT ?_) | (first | (refine DSK ?_; clear hA a; intro a hA) | (first | (refine DLT ?_; clear hA hH; rintro _ w ⟨oN, rfl, hH⟩; refine ⟨STT, ?_⟩; intro a hA) | (refine DAT ?_; clear hA; rintro _ w ⟨oN, cN, rfl, hH2⟩; clear hH; have hH := (hH2 _ (by (repeat constructor))).tail; clear hH2; refine ⟨STT, ?_⟩; intro a hA))) )
      rw [Nat.mul_one] at hH
      exact ⟨g, T, regs.set p (ofW x3), Q.set p (true, wrapV x3), ⟨hok, hTw.num (of_num x3).1 (of_num x3).2.1 (by omega), by omega, setUS hUr (of_num x3).2.2, by rw [List.length_set]; exact hrl, by rw [List.length_set]; exact hql, by omega⟩, HS.p1234 hH, (hA.sub (by (repeat (first | exact trivial | refine ⟨rfl, ?_⟩))))⟩
  · clear hA hH hcp hcq hUp hUq hrp hrq hcy hok hUr hrl hql htl hTw hspR hspQ hQp hQq hvp hvq
    rintro a w ⟨g', T', regs', Q', hRd, hH, hA⟩
    obtain ⟨hok, hTw, hcy, hUr, hrl, hql, htl⟩ := hRd
    repeat' (first | (first | (refine GT ?_ ?_ <;> intro hg <;> clear hA a <;> intro a hA <;> (first | exact FA | replace hg := of_decide_eq_true hg | replace hg := of_decide_eq_false hg | skip)) | (refine QT ?_; clear hA a; intro a hA) | (first | (refine BT ?_; clear hA hH; rintro _ w ⟨bN, rfl, hH⟩ a hA) | (refine LT ?_; clear hA hH; rintro _ w ⟨oN, rfl, hH⟩ a hA) | (refine AT ?_; clear hA; rintro _ w ⟨oN, cN, rfl, hH2⟩ a hA; clear hH; have hH := (hH2 _ (by (repeat constructor))).tail; clear hH2) | (refine S0T ?_; clear hH; rintro _ w hH) )) | ((first | refine CT ?_ | (refine DT ?_ ?_ <;> intro hc <;> try (exfalso; omega))) <;> repeat' refine CT ?_) | (first | (refine DSK ?_; clear hA a; intro a hA) | (first | (refine DLT ?_; clear hA hH; rintro _ w ⟨oN, rfl, hH⟩; refine ⟨STT, ?_⟩; intro a hA) | (refine DAT ?_; clear hA; rintro _ w ⟨oN, cN, rfl, hH2⟩; clear hH; have hH := (hH2 _ (by (repeat constructor))).tail; clear hH2; refine ⟨STT, ?_⟩; intro a hA))) )
    have hal := alike_spec w oR oQ 8 8 regs' Q' (hH.own_rd (.tail _ (.tail _ (.head _)))) (hH.own_rd (.tail _ (.tail _ (.tail _ (.head _))))) (by omega) (by omega) hUr (fun i x v hx hv => hTw.alike hok hx hv) (fun i k x y v u hx hv hy hu h1 h2 => hTw.pair hx hv hy hu h1 h2)
    rw [hrl, hql] at hal
    (refine st_op hA rfl rfl (by decide) (op_call rfl rfl rfl (hal)) ?_; clear hA; rintro _ w ⟨rfl, hk⟩ a hA; replace hH := hH.keep hk; clear hk)
    repeat' (first | (first | (refine GT ?_ ?_ <;> intro hg <;> clear hA a <;> intro a hA <;> (first | exact FA | replace hg := of_decide_eq_true hg | replace hg := of_decide_eq_false hg | skip)) | (refine QT ?_; clear hA a; intro a hA) | (first | (refine BT ?_; clear hA hH; rintro _ w ⟨bN, rfl, hH⟩ a hA) | (refine LT ?_; clear hA hH; rintro _ w ⟨oN, rfl, hH⟩ a hA) | (refine AT ?_; clear hA; rintro _ w ⟨oN, cN, rfl, hH2⟩ a hA; clear hH; have hH := (hH2 _ (by (repeat constructor))).tail; clear hH2) | (refine S0T ?_; clear hH; rintro _ w hH) )) | ((first | refine CT ?_ | (refine DT ?_ ?_ <;> intro hc <;> try (exfalso; omega))) <;> repeat' refine CT ?_) | (first | (refine DSK ?_; clear hA a; intro a hA) | (first | (refine DLT ?_; clear hA hH; rintro _ w ⟨oN, rfl, hH⟩; refine ⟨STT, ?_⟩; intro a hA) | (refine DAT ?_; clear hA; rintro _ w ⟨oN, cN, rfl, hH2⟩; clear hH; have hH := (hH2 _ (by (repeat constructor))).tail; clear hH2; refine ⟨STT, ?_⟩; intro a hA))) )
    exact ⟨(i + 1, g', T', regs', Q'), ⟨⟨hlt, h200, hok, hTw, hcy, hUr, hrl, hql, htl⟩, hH, (hA.sub (by (repeat (first | exact trivial | refine ⟨rfl, ?_⟩))))⟩, by show ls.length - (i + 1) < ls.length - i; omega⟩
end Go.Proofs.Ytdfhajdejlhamaa
