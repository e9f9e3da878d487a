/-
  Walks over a store's at, Get, Set, Kind, Size, Pick, Cycles, Room. Conditions: none.
  What the collector's laws begin with: awake, both. Conditions: none.
  The walk over GcSteps. Conditions: none.
  The walks over what the document's collector and the laws look up: in, has, Reaches, Closure. Conditions: none.
  The document's collector in memory; walks over without, White, shade. Conditions: none.
  Walks over the document's shade, Begin, New. Conditions: none.
  The walk over the document's Step, where something is grey. Conditions: none.
-/
import Derived.Test.YtdfhajdejlhamaaRowDoesMg7
import Derived.Test.YtdfhajdejlhamaaRowDoesMg0
namespace Go.Proofs.Ytdfhajdejlhamaa
open Go Go.Fw
set_option linter.unusedVariables false
theorem pick_yes {g : SS} {roots : List Int} (h : g.s.ph = 0) : pickS g roots = begS g roots := by unfold pickS; rw [if_pos h]
theorem pick_no {g : SS} {roots : List Int} (h : ¬ g.s.ph = 0) : pickS g roots = ⟨(stepG g.s).2, if (stepG g.s).1 = true then g.cy + 1 else g.cy⟩ := by unfold pickS; rw [if_neg h]
theorem begin_fst {s : GS} {roots : List Int} : (beginG s roots).1 = if s.ph = 0 then 0 else 9 := by unfold beginG; split <;> rfl
theorem begin_snd {s : GS} {roots : List Int} (h : ¬ s.ph = 0) : (beginG s roots).2 = s := by unfold beginG; rw [if_neg h]
set_option maxRecDepth 10000 attribute [local irreducible] Code.wp wpList Calls Ex Op1 sat bat blk cb own Go.Fw.mp Go.Fw.mpO Go.Fw.mpI Go.Fw.mpE Go.Fw.itr HS Rd Ret wkD Hp Cl Cls Exit.then Exit.inBlock Exit.noGoto bodyPost Go.Fw.flat wk2 Go.Fw.all Go.Fw.owns wpOp
attribute [local irreducible] hdA gaps isA nextA allocA freeA sizeA kindA setA getA whiteZ numW addrW shadeG gcI hpI stepG beginG writeG allocG mu atA endS finG

theorem salloc_f {w0 w : World} {M : Nat → Prop} {H : List It} {bs N : Nat} {g : SS} {k z : Int} {roots : List Int} {oR : Option Addr} {cR : Nat} (hH : HS w0 M (stI bs N g :: H) w) (hok : GOk N g.s) (hcy : g.cy ≤ 1000000) (hU : ∀ x ∈ roots, U x) (hl : roots.length ≤ 140737488355328) (hrd : ∀ Hc w', HS w0 M (Hc ++ H) w' → Rd w' oR (flat encW roots)) :
    Ret Try.prog 12 #[.pointer (some (bat bs 0)), .int .i64 k, .int .i64 z, .slice oR roots.length cR] w (fun v w' => v = .tuple #[.int .u64 (allocS N g k z roots).1, .int .i64 (allocS N g k z roots).2.1] ∧ HS w0 M (stI bs N (allocS N g k z roots).2.2 :: H) w') := by
  obtain ⟨Mc, h1, -, h2⟩ := HS.frame (Hc := [stI bs N g]) (Hf := H) hH
  exact (salloc_spec w Mc bs N g k z roots oR cR hok hcy hU hl (fun H' w' hw => hrd _ _ (h2 _ _ hw)) h1).mono fun v w' ⟨h3, h4⟩ => ⟨h3, h2 _ _ h4⟩

theorem sat_spec (w0 : World) (M : Nat → Prop) (bs N : Nat) (g : SS) (x : Int) (hok : GOk N g.s) (hU : U x) (hH : HS w0 M [stI bs N g] w0) :
    Ret Try.prog 51 #[.pointer (some (bat bs 0)), .int .u64 x] w0 (fun v w => v = .int .i64 (atA g.s.L x : Nat) ∧ HS w0 M [stI bs N g] w) := by
  obtain ⟨bg, b, hH2⟩ := st_open hH
  clear hH
  have hH : HS w0 M [gcI bg b N g.s, hpI b N g.s.L, cb bs 86 [.pointer (some (bat bg 0)), .pointer (some (bat b 0)), .int .i64 g.cy]] w0 := hH2
  clear hH2
  have haN := addrN_eq hU
  have hk := kind_st hok.lay (addrN x)
  (refine enter (N := 25) Try.func51 rfl Try.ntmps51 rfl ?_; intro a hA; dsimp only [sl0, Nat.reduceAdd] at hA)
  repeat' (first | (first | (refine GT ?_ ?_ <;> intro hg <;> clear hA a <;> intro a hA <;> (first | exact FA | replace hg := of_decide_eq_true hg | replace hg := of_decide_eq_false hg | skip)) | (refine QT ?_; clear hA a; intro a hA) | (first | (refine BT ?_; clear hA hH; rintro _ w ⟨bN, rfl, hH⟩ a hA) | (refine LT ?_; clear hA hH; rintro _ w ⟨oN, rfl, hH⟩ a hA) | (refine AT ?_; clear hA; rintro _ w ⟨oN, cN, rfl, hH2⟩ a hA; clear hH; have hH := (hH2 _ (by (repeat constructor))).tail; clear hH2) | (refine S0T ?_; clear hH; rintro _ w hH) )) | ((first | refine CT ?_ | (refine DT ?_ ?_ <;> intro hc <;> try (exfalso; omega))) <;> repeat' refine CT ?_) | (first | (refine DSK ?_; clear hA a; intro a hA) | (first | (refine DLT ?_; clear hA hH; rintro _ w ⟨oN, rfl, hH⟩; refine ⟨STT, ?_⟩; intro a hA) | (refine DAT ?_; clear hA; rintro _ w ⟨oN, cN, rfl, hH2⟩; clear hH; have hH := (hH2 _ (by (repeat constructor))).tail; clear hH2; refine ⟨STT, ?_⟩; intro a hA))) )
  (refine wp_draw_HS [(0, 1), (1, 1), (2, 1), (3, 1), (4, 1), (5, 0), (6, 0), (7, 1), (8, 1), (9, 1), (10, 1), (11, 1)] mixed (by decide +kernel) hH ?_; replace hH := hH.drew)
  repeat' (first | (first | (refine GT ?_ ?_ <;> intro hg <;> clear hA a <;> intro a hA <;> (first | exact FA | replace hg := of_decide_eq_true hg | replace hg := of_decide_eq_false hg | skip)) | (refine QT ?_; clear hA a; intro a hA) | (first | (refine BT ?_; clear hA hH; rintro _ w ⟨bN, rfl, hH⟩ a hA) | (refine LT ?_; clear hA hH; rintro _ w ⟨oN, rfl, hH⟩ a hA) | (refine AT ?_; clear hA; rintro _ w ⟨oN, cN, rfl, hH2⟩ a hA; clear hH; have hH := (hH2 _ (by (repeat constructor))).tail; clear hH2) | (refine S0T ?_; clear hH; rintro _ w hH) )) | ((first | refine CT ?_ | (refine DT ?_ ?_ <;> intro hc <;> try (exfalso; omega))) <;> repeat' refine CT ?_) | (first | (refine DSK ?_; clear hA a; intro a hA) | (first | (refine DLT ?_; clear hA hH; rintro _ w ⟨oN, rfl, hH⟩; refine ⟨STT, ?_⟩; intro a hA) | (refine DAT ?_; clear hA; rintro _ w ⟨oN, cN, rfl, hH2⟩; clear hH; have hH := (hH2 _ (by (repeat constructor))).tail; clear hH2; refine ⟨STT, ?_⟩; intro a hA))) )
  (refine dr_op hA rfl rfl rfl (by decide) (op_call rfl rfl rfl (addr_spec _ x hU)) ?_; clear hA; rintro _ w ⟨rfl, hk⟩; replace hH := hH.keep hk; clear hk; refine ⟨STT, ?_⟩; intro a hA)
  rw [← haN] at hA
  (refine dr_op hA rfl rfl rfl (by decide) (op_call rfl rfl rfl (kind_f hH (by exact MEMT))) ?_; clear hA hH; rintro _ w ⟨rfl, hH⟩; refine ⟨STT, ?_⟩; intro a hA)
  rw [hk] at hA
  repeat' (first | (first | (refine GT ?_ ?_ <;> intro hg <;> clear hA a <;> intro a hA <;> (first | exact FA | replace hg := of_decide_eq_true hg | replace hg := of_decide_eq_false hg | skip)) | (refine QT ?_; clear hA a; intro a hA) | (first | (refine BT ?_; clear hA hH; rintro _ w ⟨bN, rfl, hH⟩ a hA) | (refine LT ?_; clear hA hH; rintro _ w ⟨oN, rfl, hH⟩ a hA) | (refine AT ?_; clear hA; rintro _ w ⟨oN, cN, rfl, hH2⟩ a hA; clear hH; have hH := (hH2 _ (by (repeat constructor))).tail; clear hH2) | (refine S0T ?_; clear hH; rintro _ w hH) )) | ((first | refine CT ?_ | (refine DT ?_ ?_ <;> intro hc <;> try (exfalso; omega))) <;> repeat' refine CT ?_) | (first | (refine DSK ?_; clear hA a; intro a hA) | (first | (refine DLT ?_; clear hA hH; rintro _ w ⟨oN, rfl, hH⟩; refine ⟨STT, ?_⟩; intro a hA) | (refine DAT ?_; clear hA; rintro _ w ⟨oN, cN, rfl, hH2⟩; clear hH; have hH := (hH2 _ (by (repeat constructor))).tail; clear hH2; refine ⟨STT, ?_⟩; intro a hA))) )
  (refine st_op hA rfl rfl (by decide) (op_call rfl rfl rfl (isnum_spec _ x hU)) ?_; clear hA; rintro _ w ⟨rfl, hk⟩ a hA; replace hH := hH.keep hk; clear hk)
  cases hn : numW x with
  | true =>
    rw [hn] at hA
    rw [at_num hn]
    repeat' (first | (first | (refine GT ?_ ?_ <;> intro hg <;> clear hA a <;> intro a hA <;> (first | exact FA | replace hg := of_decide_eq_true hg | replace hg := of_decide_eq_false hg | skip)) | (refine QT ?_; clear hA a; intro a hA) | (first | (refine BT ?_; clear hA hH; rintro _ w ⟨bN, rfl, hH⟩ a hA) | (refine LT ?_; clear hA hH; rintro _ w ⟨oN, rfl, hH⟩ a hA) | (refine AT ?_; clear hA; rintro _ w ⟨oN, cN, rfl, hH2⟩ a hA; clear hH; have hH := (hH2 _ (by (repeat constructor))).tail; clear hH2) | (refine S0T ?_; clear hH; rintro _ w hH) )) | ((first | refine CT ?_ | (refine DT ?_ ?_ <;> intro hc <;> try (exfalso; omega))) <;> repeat' refine CT ?_) | (first | (refine DSK ?_; clear hA a; intro a hA) | (first | (refine DLT ?_; clear hA hH; rintro _ w ⟨oN, rfl, hH⟩; refine ⟨STT, ?_⟩; intro a hA) | (refine DAT ?_; clear hA; rintro _ w ⟨oN, cN, rfl, hH2⟩; clear hH; have hH := (hH2 _ (by (repeat constructor))).tail; clear hH2; refine ⟨STT, ?_⟩; intro a hA))) )
    exact rt1 (.inl rfl) rfl hA rfl ⟨rfl, st_shut bg b hH⟩
  | false =>
    rw [hn] at hA
    by_cases hO : isO g.s.L (addrN x)
    · rw [if_pos hO] at hA
      rw [at_yes hn hO]
      repeat' (first | (first | (refine GT ?_ ?_ <;> intro hg <;> clear hA a <;> intro a hA <;> (first | exact FA | replace hg := of_decide_eq_true hg | replace hg := of_decide_eq_false hg | skip)) | (refine QT ?_; clear hA a; intro a hA) | (first | (refine BT ?_; clear hA hH; rintro _ w ⟨bN, rfl, hH⟩ a hA) | (refine LT ?_; clear hA hH; rintro _ w ⟨oN, rfl, hH⟩ a hA) | (refine AT ?_; clear hA; rintro _ w ⟨oN, cN, rfl, hH2⟩ a hA; clear hH; have hH := (hH2 _ (by (repeat constructor))).tail; clear hH2) | (refine S0T ?_; clear hH; rintro _ w hH) )) | ((first | refine CT ?_ | (refine DT ?_ ?_ <;> intro hc <;> try (exfalso; omega))) <;> repeat' refine CT ?_) | (first | (refine DSK ?_; clear hA a; intro a hA) | (first | (refine DLT ?_; clear hA hH; rintro _ w ⟨oN, rfl, hH⟩; refine ⟨STT, ?_⟩; intro a hA) | (refine DAT ?_; clear hA; rintro _ w ⟨oN, cN, rfl, hH2⟩; clear hH; have hH := (hH2 _ (by (repeat constructor))).tail; clear hH2; refine ⟨STT, ?_⟩; intro a hA))) )
      (refine st_op hA rfl rfl (by decide) (op_call rfl rfl rfl (addr_spec _ x hU)) ?_; clear hA; rintro _ w ⟨rfl, hk⟩ a hA; replace hH := hH.keep hk; clear hk)
      rw [← haN] at hA
      repeat' (first | (first | (refine GT ?_ ?_ <;> intro hg <;> clear hA a <;> intro a hA <;> (first | exact FA | replace hg := of_decide_eq_true hg | replace hg := of_decide_eq_false hg | skip)) | (refine QT ?_; clear hA a; intro a hA) | (first | (refine BT ?_; clear hA hH; rintro _ w ⟨bN, rfl, hH⟩ a hA) | (refine LT ?_; clear hA hH; rintro _ w ⟨oN, rfl, hH⟩ a hA) | (refine AT ?_; clear hA; rintro _ w ⟨oN, cN, rfl, hH2⟩ a hA; clear hH; have hH := (hH2 _ (by (repeat constructor))).tail; clear hH2) | (refine S0T ?_; clear hH; rintro _ w hH) )) | ((first | refine CT ?_ | (refine DT ?_ ?_ <;> intro hc <;> try (exfalso; omega))) <;> repeat' refine CT ?_) | (first | (refine DSK ?_; clear hA a; intro a hA) | (first | (refine DLT ?_; clear hA hH; rintro _ w ⟨oN, rfl, hH⟩; refine ⟨STT, ?_⟩; intro a hA) | (refine DAT ?_; clear hA; rintro _ w ⟨oN, cN, rfl, hH2⟩; clear hH; have hH := (hH2 _ (by (repeat constructor))).tail; clear hH2; refine ⟨STT, ?_⟩; intro a hA))) )
      exact rt1 (.inl rfl) rfl hA rfl ⟨rfl, st_shut bg b hH⟩
    · rw [if_neg hO] at hA
      rw [at_no hO]
      repeat' (first | (first | (refine GT ?_ ?_ <;> intro hg <;> clear hA a <;> intro a hA <;> (first | exact FA | replace hg := of_decide_eq_true hg | replace hg := of_decide_eq_false hg | skip)) | (refine QT ?_; clear hA a; intro a hA) | (first | (refine BT ?_; clear hA hH; rintro _ w ⟨bN, rfl, hH⟩ a hA) | (refine LT ?_; clear hA hH; rintro _ w ⟨oN, rfl, hH⟩ a hA) | (refine AT ?_; clear hA; rintro _ w ⟨oN, cN, rfl, hH2⟩ a hA; clear hH; have hH := (hH2 _ (by (repeat constructor))).tail; clear hH2) | (refine S0T ?_; clear hH; rintro _ w hH) )) | ((first | refine CT ?_ | (refine DT ?_ ?_ <;> intro hc <;> try (exfalso; omega))) <;> repeat' refine CT ?_) | (first | (refine DSK ?_; clear hA a; intro a hA) | (first | (refine DLT ?_; clear hA hH; rintro _ w ⟨oN, rfl, hH⟩; refine ⟨STT, ?_⟩; intro a hA) | (refine DAT ?_; clear hA; rintro _ w ⟨oN, cN, rfl, hH2⟩; clear hH; have hH := (hH2 _ (by (repeat constructor))).tail; clear hH2; refine ⟨STT, ?_⟩; intro a hA))) )
      exact rt1 (.inl rfl) rfl hA rfl ⟨rfl, st_shut bg b hH⟩
theorem sat_f {w0 w : World} {M : Nat → Prop} {H : List It} {bs N : Nat} {g : SS} {x : Int} (hH : HS w0 M (stI bs N g :: H) w) (hok : GOk N g.s) (hU : U x) :
    Ret Try.prog 51 #[.pointer (some (bat bs 0)), .int .u64 x] w (fun v w' => v = .int .i64 (atA g.s.L x : Nat) ∧ HS w0 M (stI bs N g :: H) w') := by
  obtain ⟨Mc, h1, -, h2⟩ := HS.frame (Hc := [stI bs N g]) (Hf := H) hH
  exact (sat_spec w Mc bs N g x hok hU h1).mono fun v w' ⟨h3, h4⟩ => ⟨h3, h2 _ _ h4⟩

theorem scycles_spec (w0 : World) (M : Nat → Prop) (bs N : Nat) (g : SS) (hH : HS w0 M [stI bs N g] w0) :
    Ret Try.prog 29 #[.pointer (some (bat bs 0))] w0 (fun v w => v = .int .i64 (g.cy : Nat) ∧ HS w0 M [stI bs N g] w) := by
  obtain ⟨bg, b, hH2⟩ := st_open hH
  clear hH
  have hH : HS w0 M [gcI bg b N g.s, hpI b N g.s.L, cb bs 86 [.pointer (some (bat bg 0)), .pointer (some (bat b 0)), .int .i64 g.cy]] w0 := hH2
  clear hH2
  (refine enter (N := 7) Try.func29 rfl Try.ntmps29 rfl ?_; intro a hA; dsimp only [sl0, Nat.reduceAdd] at hA)
  repeat' (first | (first | (refine GT ?_ ?_ <;> intro hg <;> clear hA a <;> intro a hA <;> (first | exact FA | replace hg := of_decide_eq_true hg | replace hg := of_decide_eq_false hg | skip)) | (refine QT ?_; clear hA a; intro a hA) | (first | (refine BT ?_; clear hA hH; rintro _ w ⟨bN, rfl, hH⟩ a hA) | (refine LT ?_; clear hA hH; rintro _ w ⟨oN, rfl, hH⟩ a hA) | (refine AT ?_; clear hA; rintro _ w ⟨oN, cN, rfl, hH2⟩ a hA; clear hH; have hH := (hH2 _ (by (repeat constructor))).tail; clear hH2) | (refine S0T ?_; clear hH; rintro _ w hH) )) | ((first | refine CT ?_ | (refine DT ?_ ?_ <;> intro hc <;> try (exfalso; omega))) <;> repeat' refine CT ?_) | (first | (refine DSK ?_; clear hA a; intro a hA) | (first | (refine DLT ?_; clear hA hH; rintro _ w ⟨oN, rfl, hH⟩; refine ⟨STT, ?_⟩; intro a hA) | (refine DAT ?_; clear hA; rintro _ w ⟨oN, cN, rfl, hH2⟩; clear hH; have hH := (hH2 _ (by (repeat constructor))).tail; clear hH2; refine ⟨STT, ?_⟩; intro a hA))) )
  exact rt1 (.inl rfl) rfl hA rfl ⟨rfl, st_shut bg b hH⟩

theorem sroom_spec (w0 : World) (M : Nat → Prop) (bs N : Nat) (g : SS) (hH : HS w0 M [stI bs N g] w0) :
    Ret Try.prog 27 #[.pointer (some (bat bs 0))] w0 (fun v w => v = .int .i64 (roomA (gaps N 1 g.s.L)) ∧ HS w0 M [stI bs N g] w) := by
  obtain ⟨bg, b, hH2⟩ := st_open hH
  clear hH
  have hH : HS w0 M [gcI bg b N g.s, hpI b N g.s.L, cb bs 86 [.pointer (some (bat bg 0)), .pointer (some (bat b 0)), .int .i64 g.cy]] w0 := hH2
  clear hH2
  (refine enter (N := 8) Try.func27 rfl Try.ntmps27 rfl ?_; intro a hA; dsimp only [sl0, Nat.reduceAdd] at hA)
  repeat' (first | (first | (refine GT ?_ ?_ <;> intro hg <;> clear hA a <;> intro a hA <;> (first | exact FA | replace hg := of_decide_eq_true hg | replace hg := of_decide_eq_false hg | skip)) | (refine QT ?_; clear hA a; intro a hA) | (first | (refine BT ?_; clear hA hH; rintro _ w ⟨bN, rfl, hH⟩ a hA) | (refine LT ?_; clear hA hH; rintro _ w ⟨oN, rfl, hH⟩ a hA) | (refine AT ?_; clear hA; rintro _ w ⟨oN, cN, rfl, hH2⟩ a hA; clear hH; have hH := (hH2 _ (by (repeat constructor))).tail; clear hH2) | (refine S0T ?_; clear hH; rintro _ w hH) )) | ((first | refine CT ?_ | (refine DT ?_ ?_ <;> intro hc <;> try (exfalso; omega))) <;> repeat' refine CT ?_) | (first | (refine DSK ?_; clear hA a; intro a hA) | (first | (refine DLT ?_; clear hA hH; rintro _ w ⟨oN, rfl, hH⟩; refine ⟨STT, ?_⟩; intro a hA) | (refine DAT ?_; clear hA; rintro _ w ⟨oN, cN, rfl, hH2⟩; clear hH; have hH := (hH2 _ (by (repeat constructor))).tail; clear hH2; refine ⟨STT, ?_⟩; intro a hA))) )
  (refine st_op hA rfl rfl (by decide) (op_call rfl rfl rfl (room_f hH (by exact MEMT))) ?_; clear hA hH; rintro _ w ⟨rfl, hH⟩ a hA)
  repeat' (first | (first | (refine GT ?_ ?_ <;> intro hg <;> clear hA a <;> intro a hA <;> (first | exact FA | replace hg := of_decide_eq_true hg | replace hg := of_decide_eq_false hg | skip)) | (refine QT ?_; clear hA a; intro a hA) | (first | (refine BT ?_; clear hA hH; rintro _ w ⟨bN, rfl, hH⟩ a hA) | (refine LT ?_; clear hA hH; rintro _ w ⟨oN, rfl, hH⟩ a hA) | (refine AT ?_; clear hA; rintro _ w ⟨oN, cN, rfl, hH2⟩ a hA; clear hH; have hH := (hH2 _ (by (repeat constructor))).tail; clear hH2) | (refine S0T ?_; clear hH; rintro _ w hH) )) | ((first | refine CT ?_ | (refine DT ?_ ?_ <;> intro hc <;> try (exfalso; omega))) <;> repeat' refine CT ?_) | (first | (refine DSK ?_; clear hA a; intro a hA) | (first | (refine DLT ?_; clear hA hH; rintro _ w ⟨oN, rfl, hH⟩; refine ⟨STT, ?_⟩; intro a hA) | (refine DAT ?_; clear hA; rintro _ w ⟨oN, cN, rfl, hH2⟩; clear hH; have hH := (hH2 _ (by (repeat constructor))).tail; clear hH2; refine ⟨STT, ?_⟩; intro a hA))) )
  exact rt1 (.inl rfl) rfl hA rfl ⟨rfl, st_shut bg b hH⟩

theorem spick_spec (w0 : World) (M : Nat → Prop) (bs N : Nat) (g : SS) (roots : List Int) (oR : Option Addr) (cR : Nat) (hok : GOk N g.s) (hcy : g.cy ≤ 1000000) (hU : ∀ x ∈ roots, U x) (hl : roots.length ≤ 140737488355328) (hrd : ∀ H' w', HS w0 M H' w' → Rd w' oR (flat encW roots)) (hH : HS w0 M [stI bs N g] w0) :
    Ret Try.prog 18 #[.pointer (some (bat bs 0)), .slice oR roots.length cR] w0 (fun v w => HS w0 M [stI bs N (pickS g roots)] w) := by
  obtain ⟨bg, b, hH2⟩ := st_open hH
  clear hH
  have hH : HS w0 M [gcI bg b N g.s, hpI b N g.s.L, cb bs 86 [.pointer (some (bat bg 0)), .pointer (some (bat b 0)), .int .i64 g.cy]] w0 := hH2
  clear hH2
  (refine enter (N := 25) Try.func18 rfl Try.ntmps18 rfl ?_; intro a hA; dsimp only [sl0, Nat.reduceAdd] at hA)
  repeat' (first | (first | (refine GT ?_ ?_ <;> intro hg <;> clear hA a <;> intro a hA <;> (first | exact FA | replace hg := of_decide_eq_true hg | replace hg := of_decide_eq_false hg | skip)) | (refine QT ?_; clear hA a; intro a hA) | (first | (refine BT ?_; clear hA hH; rintro _ w ⟨bN, rfl, hH⟩ a hA) | (refine LT ?_; clear hA hH; rintro _ w ⟨oN, rfl, hH⟩ a hA) | (refine AT ?_; clear hA; rintro _ w ⟨oN, cN, rfl, hH2⟩ a hA; clear hH; have hH := (hH2 _ (by (repeat constructor))).tail; clear hH2) | (refine S0T ?_; clear hH; rintro _ w hH) )) | ((first | refine CT ?_ | (refine DT ?_ ?_ <;> intro hc <;> try (exfalso; omega))) <;> repeat' refine CT ?_) | (first | (refine DSK ?_; clear hA a; intro a hA) | (first | (refine DLT ?_; clear hA hH; rintro _ w ⟨oN, rfl, hH⟩; refine ⟨STT, ?_⟩; intro a hA) | (refine DAT ?_; clear hA; rintro _ w ⟨oN, cN, rfl, hH2⟩; clear hH; have hH := (hH2 _ (by (repeat constructor))).tail; clear hH2; refine ⟨STT, ?_⟩; intro a hA))) )
  (refine st_op hA rfl rfl (by decide) (op_call rfl rfl rfl (gbegin_f hH hok hU hl (fun Hc w' h => hrd _ _ h) rfl)) ?_; clear hA hH; rintro _ w ⟨rfl, hH⟩ a hA)
  rw [begin_fst] at hA
  by_cases hp : g.s.ph = 0
  · rw [if_pos hp] at hA
    rw [pick_yes hp]
    repeat' (first | (first | (refine GT ?_ ?_ <;> intro hg <;> clear hA a <;> intro a hA <;> (first | exact FA | replace hg := of_decide_eq_true hg | replace hg := of_decide_eq_false hg | skip)) | (refine QT ?_; clear hA a; intro a hA) | (first | (refine BT ?_; clear hA hH; rintro _ w ⟨bN, rfl, hH⟩ a hA) | (refine LT ?_; clear hA hH; rintro _ w ⟨oN, rfl, hH⟩ a hA) | (refine AT ?_; clear hA; rintro _ w ⟨oN, cN, rfl, hH2⟩ a hA; clear hH; have hH := (hH2 _ (by (repeat constructor))).tail; clear hH2) | (refine S0T ?_; clear hH; rintro _ w hH) )) | ((first | refine CT ?_ | (refine DT ?_ ?_ <;> intro hc <;> try (exfalso; omega))) <;> repeat' refine CT ?_) | (first | (refine DSK ?_; clear hA a; intro a hA) | (first | (refine DLT ?_; clear hA hH; rintro _ w ⟨oN, rfl, hH⟩; refine ⟨STT, ?_⟩; intro a hA) | (refine DAT ?_; clear hA; rintro _ w ⟨oN, cN, rfl, hH2⟩; clear hH; have hH := (hH2 _ (by (repeat constructor))).tail; clear hH2; refine ⟨STT, ?_⟩; intro a hA))) )
    exact rt0 (.inr rfl) rfl hA (st_shut (g := begS g roots) bg b hH)
  rw [if_neg hp] at hA
  rw [begin_snd hp] at hH
  rw [pick_no hp]
  repeat' (first | (first | (refine GT ?_ ?_ <;> intro hg <;> clear hA a <;> intro a hA <;> (first | exact FA | replace hg := of_decide_eq_true hg | replace hg := of_decide_eq_false hg | skip)) | (refine QT ?_; clear hA a; intro a hA) | (first | (refine BT ?_; clear hA hH; rintro _ w ⟨bN, rfl, hH⟩ a hA) | (refine LT ?_; clear hA hH; rintro _ w ⟨oN, rfl, hH⟩ a hA) | (refine AT ?_; clear hA; rintro _ w ⟨oN, cN, rfl, hH2⟩ a hA; clear hH; have hH := (hH2 _ (by (repeat constructor))).tail; clear hH2) | (refine S0T ?_; clear hH; rintro _ w hH) )) | ((first | refine CT ?_ | (refine DT ?_ ?_ <;> intro hc <;> try (exfalso; omega))) <;> repeat' refine CT ?_) | (first | (refine DSK ?_; clear hA a; intro a hA) | (first | (refine DLT ?_; clear hA hH; rintro _ w ⟨oN, rfl, hH⟩; refine ⟨STT, ?_⟩; intro a hA) | (refine DAT ?_; clear hA; rintro _ w ⟨oN, cN, rfl, hH2⟩; clear hH; have hH := (hH2 _ (by (repeat constructor))).tail; clear hH2; refine ⟨STT, ?_⟩; intro a hA))) )
  (refine st_op hA rfl rfl (by decide) (op_call rfl rfl rfl (gstep_f hH hok rfl)) ?_; clear hA hH; rintro _ w ⟨rfl, hH⟩ a hA)
  generalize stepG g.s = r at *
  obtain ⟨r1, r2⟩ := r
  cases r1 with
  | true =>
    repeat' (first | (first | (refine GT ?_ ?_ <;> intro hg <;> clear hA a <;> intro a hA <;> (first | exact FA | replace hg := of_decide_eq_true hg | replace hg := of_decide_eq_false hg | skip)) | (refine QT ?_; clear hA a; intro a hA) | (first | (refine BT ?_; clear hA hH; rintro _ w ⟨bN, rfl, hH⟩ a hA) | (refine LT ?_; clear hA hH; rintro _ w ⟨oN, rfl, hH⟩ a hA) | (refine AT ?_; clear hA; rintro _ w ⟨oN, cN, rfl, hH2⟩ a hA; clear hH; have hH := (hH2 _ (by (repeat constructor))).tail; clear hH2) | (refine S0T ?_; clear hH; rintro _ w hH) | (apply st_op0 hA rfl rfl; apply op_store_fld; rfl; rfl; rfl; exact hH; (repeat constructor); (repeat rfl); clear hH; rintro _ w hH))) | ((first | refine CT ?_ | (refine DT ?_ ?_ <;> intro hc <;> try (exfalso; omega))) <;> repeat' refine CT ?_) | (first | (refine DSK ?_; clear hA a; intro a hA) | (first | (refine DLT ?_; clear hA hH; rintro _ w ⟨oN, rfl, hH⟩; refine ⟨STT, ?_⟩; intro a hA) | (refine DAT ?_; clear hA; rintro _ w ⟨oN, cN, rfl, hH2⟩; clear hH; have hH := (hH2 _ (by (repeat constructor))).tail; clear hH2; refine ⟨STT, ?_⟩; intro a hA))) )
    exact rt0 (.inr rfl) rfl hA (st_shut bg b hH)
  | false =>
    repeat' (first | (first | (refine GT ?_ ?_ <;> intro hg <;> clear hA a <;> intro a hA <;> (first | exact FA | replace hg := of_decide_eq_true hg | replace hg := of_decide_eq_false hg | skip)) | (refine QT ?_; clear hA a; intro a hA) | (first | (refine BT ?_; clear hA hH; rintro _ w ⟨bN, rfl, hH⟩ a hA) | (refine LT ?_; clear hA hH; rintro _ w ⟨oN, rfl, hH⟩ a hA) | (refine AT ?_; clear hA; rintro _ w ⟨oN, cN, rfl, hH2⟩ a hA; clear hH; have hH := (hH2 _ (by (repeat constructor))).tail; clear hH2) | (refine S0T ?_; clear hH; rintro _ w hH) )) | ((first | refine CT ?_ | (refine DT ?_ ?_ <;> intro hc <;> try (exfalso; omega))) <;> repeat' refine CT ?_) | (first | (refine DSK ?_; clear hA a; intro a hA) | (first | (refine DLT ?_; clear hA hH; rintro _ w ⟨oN, rfl, hH⟩; refine ⟨STT, ?_⟩; intro a hA) | (refine DAT ?_; clear hA; rintro _ w ⟨oN, cN, rfl, hH2⟩; clear hH; have hH := (hH2 _ (by (repeat constructor))).tail; clear hH2; refine ⟨STT, ?_⟩; intro a hA))) )
    exact rt0 (.inr rfl) rfl hA (st_shut bg b hH)
end Go.Proofs.Ytdfhajdejlhamaa
namespace Go.Proofs.Ytdfhajdejlhamaa
open Go Go.Fw
set_option linter.unusedVariables false
/-- a call that is asked for -/
abbrev St5 := (Int × Int × Int × Int) × Sd
section
variable {ls : List St5} {i : Nat} {x : St5}
end
/-! ## awake: what comes of each call -/
theorem rd_nil (w : World) : Rd w none (flat encW []) := ⟨fun h => absurd h (by simp [flat]), fun j u hj => by simp [flat] at hj⟩
theorem U2 : ∀ x ∈ ([2] : List Int), U x := fun x hx => by rw [List.mem_singleton.1 hx]; exact ⟨by decide, by decide⟩
end Go.Proofs.Ytdfhajdejlhamaa
namespace Go.Proofs.Ytdfhajdejlhamaa
open Go Go.Fw
set_option linter.unusedVariables false
theorem mu_le (N : Nat) (s : GS) : mu N s ≤ 2 * N + 2 := by
  have h1 : nb N s ≤ N := by
    have := List.countP_le_length (p := fun a => !decide (col s a = 2)) (l := List.range N)
    rw [List.length_range] at this
    exact this
  unfold mu
  split
  · omega
  · split <;> omega
end Go.Proofs.Ytdfhajdejlhamaa
namespace Go.Proofs.Ytdfhajdejlhamaa
open Go Go.Fw
set_option linter.unusedVariables false
def inL (l : List Nat) (z : Int) : Bool := l.any fun a => decide ((a : Int) = z)
theorem inL_at {l : List Nat} {z : Int} {i a : Nat} (h : l[i]? = some a) (ha : (a : Int) = z) : inL l z = true := List.any_eq_true.2 ⟨a, List.mem_of_getElem? h, decide_eq_true ha⟩
theorem inL_no {l : List Nat} {z : Int} (h : ∀ (k a : Nat), l[k]? = some a → (a : Int) ≠ z) : inL l z = false := by
  cases hc : inL l z with
  | false => rfl
  | true =>
    obtain ⟨a, h1, h2⟩ := List.any_eq_true.1 hc
    obtain ⟨k, hk⟩ := List.getElem?_of_mem h1
    exact absurd (of_decide_eq_true h2) (h k a hk)
theorem inL_nat {l : List Nat} {a : Nat} : inL l (a : Int) = true ↔ a ∈ l := by
  unfold inL
  rw [List.any_eq_true]
  constructor
  · rintro ⟨b, h1, h2⟩
    have := of_decide_eq_true h2
    obtain rfl : b = a := by omega
    exact h1
  · exact fun h => ⟨a, h, decide_eq_true rfl⟩
/-- the address of the object that a word reaches -/
def reachA (L : List Ob) (x : Int) : Nat := if numW x = false ∧ isO L (addrN x) then addrN x else 0
theorem find_neg {L : List Ob} {z : Int} : findI L z < 0 ↔ isA L z = false := by
  rcases findI_obj L z with ⟨h1, h2⟩ | ⟨i, o, h1, h2, h3⟩
  · rw [h2, objA_none h1]; simp
  · rw [h2, objA_is h1]
    constructor
    · intro h; omega
    · intro h; cases h
theorem nodup_len : ∀ {N : Nat} {l : List Nat}, l.Nodup → (∀ a ∈ l, a < N) → l.length ≤ N
  | 0, l, _, hb => by
    cases l with
    | nil => exact Nat.le_refl _
    | cons a l => exact absurd (hb a (List.mem_cons_self ..)) (Nat.not_lt_zero _)
  | N + 1, l, hn, hb => by
    have h1 : (l.erase N).length ≤ N := nodup_len (hn.erase N) fun a ha => by
      have h2 := hb a (List.mem_of_mem_erase ha)
      have h3 : a ≠ N := fun he => by subst he; exact hn.not_mem_erase ha
      omega
    have h4 := List.length_erase (a := N) (l := l)
    split at h4 <;> omega
/-- a list of addresses that grows: no twins, all reached -/
structure Cl0 (L : List Ob) (roots : List Int) (out : List Nat) : Prop where
  nd : out.Nodup
  rc : ∀ a ∈ out, Rc L roots a
  ob : ∀ a ∈ out, isO L a
def addO (out : List Nat) (a : Nat) : List Nat := if 0 < a ∧ a ∉ out then out ++ [a] else out
theorem addO_mem {out : List Nat} {a b : Nat} (h : b ∈ out) : b ∈ addO out a := by
  unfold addO; split
  · exact List.mem_append_left _ h
  · exact h
theorem addO_get {out : List Nat} {a i b : Nat} (h : out[i]? = some b) : (addO out a)[i]? = some b := by
  unfold addO; split
  · rw [List.getElem?_append_left (List.getElem?_eq_some_iff.1 h).1]; exact h
  · exact h
theorem Cl0.add {L : List Ob} {roots : List Int} {out : List Nat} (h : Cl0 L roots out) {a : Nat} (h1 : 0 < a → Rc L roots a ∧ isO L a) : Cl0 L roots (addO out a) := by
  unfold addO
  split
  · rename_i hc
    obtain ⟨k1, k2⟩ := h1 hc.1
    refine ⟨List.nodup_append.2 ⟨h.nd, List.nodup_cons.2 ⟨List.not_mem_nil, List.nodup_nil⟩, fun x hx y hy => ?_⟩, fun b hb => ?_, fun b hb => ?_⟩
    · rw [List.mem_singleton.1 hy]
      exact fun he => hc.2 (he ▸ hx)
    · rcases List.mem_append.1 hb with hb | hb
      · exact h.rc b hb
      · rw [List.mem_singleton.1 hb]; exact k1
    · rcases List.mem_append.1 hb with hb | hb
      · exact h.ob b hb
      · rw [List.mem_singleton.1 hb]; exact k2
  · exact h
theorem Cl0.len {N : Nat} {L : List Ob} {roots : List Int} {out : List Nat} (h : Cl0 L roots out) (hl : Lay N 1 L) : out.length ≤ N := nodup_len h.nd fun a ha => (isO_lt hl (h.ob a ha)).2
/-- so far: what the first i reach is in -/
structure Cw (L : List Ob) (roots : List Int) (i : Nat) (out : List Nat) : Prop where
  c0 : Cl0 L roots out
  rt : ∀ x ∈ roots, numW x = false → isO L (addrN x) → addrN x ∈ out
  done : ∀ (p a : Nat), p < i → out[p]? = some a → ∀ b, E L a b → b ∈ out
theorem Cw.add {L : List Ob} {roots : List Int} {i : Nat} {out : List Nat} (h : Cw L roots i out) (hi : i ≤ out.length) {a : Nat} (h1 : 0 < a → Rc L roots a ∧ isO L a) : Cw L roots i (addO out a) := by
  refine ⟨h.c0.add h1, fun x h2 h3 h4 => addO_mem (h.rt x h2 h3 h4), fun p b hp hb c hE => addO_mem (h.done p b hp ?_ c hE)⟩
  obtain ⟨y, hy⟩ : ∃ y, out[p]? = some y := ⟨_, List.getElem?_eq_getElem (by omega)⟩
  rw [addO_get hy] at hb
  rw [hy, hb]
/-- all that words reach -/
structure Clo (L : List Ob) (roots : List Int) (out : List Nat) : Prop where
  c0 : Cl0 L roots out
  rt : ∀ x ∈ roots, numW x = false → isO L (addrN x) → addrN x ∈ out
  cls : ∀ a b, a ∈ out → E L a b → b ∈ out
theorem snocN (out : List Nat) (r : Nat) : flat encN out ++ [.int .i64 (r : Int)] = flat encN (out ++ [r]) := (flat_snoc encN out r).symm
set_option maxRecDepth 10000 attribute [local irreducible] Code.wp wpList Calls Ex Op1 sat bat blk cb own Go.Fw.mp Go.Fw.mpO Go.Fw.mpI Go.Fw.mpE Go.Fw.itr HS Rd Ret wkD Hp Cl Cls Exit.then Exit.inBlock Exit.noGoto bodyPost Go.Fw.flat wk2 Go.Fw.all Go.Fw.owns wpOp
attribute [local irreducible] hdA gaps isA nextA allocA freeA sizeA kindA setA getA whiteZ numW addrW shadeG gcI hpI stepG beginG writeG allocG mu rfI inL findI objA reachA addO

theorem in_spec (w0 : World) (o : Option Addr) (c : Nat) (l : List Nat) (z : Int) (hr : Rd w0 o (flat encN l)) (hl : l.length ≤ 9223372036854775806) : Ret Try.prog 62 #[.slice o l.length c, .int .i64 z] w0 (fun v w => v = .bool (inL l z) ∧ Kp w0 noM w) := by
  have hH : HS w0 noM [] w0 := HS.init w0 noM
  have hsp : Sp o l.length := hr.sp (sz := 1) (flat_length encN_len l) (by omega)
  (refine enter (N := 18) Try.func62 rfl Try.ntmps62 rfl ?_; intro a hA; dsimp only [sl0, Nat.reduceAdd] at hA)
  repeat' (first | (first | (refine GT ?_ ?_ <;> intro hg <;> clear hA a <;> intro a hA <;> (first | exact FA | replace hg := of_decide_eq_true hg | replace hg := of_decide_eq_false hg | skip)) | (refine QT ?_; clear hA a; intro a hA) | (first | (refine BT ?_; clear hA hH; rintro _ w ⟨bN, rfl, hH⟩ a hA) | (refine LT ?_; clear hA hH; rintro _ w ⟨oN, rfl, hH⟩ a hA) | (refine AT ?_; clear hA; rintro _ w ⟨oN, cN, rfl, hH2⟩ a hA; clear hH; have hH := (hH2 _ (by (repeat constructor))).tail; clear hH2) | (refine S0T ?_; clear hH; rintro _ w hH) )) | ((first | refine CT ?_ | (refine DT ?_ ?_ <;> intro hc <;> try (exfalso; omega))) <;> repeat' refine CT ?_) | (first | (refine DSK ?_; clear hA a; intro a hA) | (first | (refine DLT ?_; clear hA hH; rintro _ w ⟨oN, rfl, hH⟩; refine ⟨STT, ?_⟩; intro a hA) | (refine DAT ?_; clear hA; rintro _ w ⟨oN, cN, rfl, hH2⟩; clear hH; have hH := (hH2 _ (by (repeat constructor))).tail; clear hH2; refine ⟨STT, ?_⟩; intro a hA))) )
  refine wp_lpj (S := Nat) (fun i a w => (i ≤ l.length ∧ ∀ (k x : Nat), k < i → l[k]? = some x → (x : Int) ≠ z) ∧ HS w0 noM [] w ∧ Sl 18 [(0, .slice o l.length c), (1, .int .i64 z), (5, .int .i64 i)] a) (fun i => l.length - i)
    (fun a w => inL l z = false ∧ HS w0 noM [] w ∧ Sl 18 [] a) 0 ⟨⟨Nat.zero_le _, fun k x hk => by omega⟩, hH, (hA.sub (by (repeat (first | exact trivial | refine ⟨rfl, ?_⟩))))⟩ ?_ ?_
  · clear hA hH
    rintro i a w ⟨⟨hi, hno⟩, hH, hA⟩
    by_cases hlt : i < l.length
    · obtain ⟨x, hx⟩ : ∃ x, l[i]? = some x := ⟨_, List.getElem?_eq_getElem hlt⟩
      have hcx := encN_at hx
      repeat' (first | (first | (refine GT ?_ ?_ <;> intro hg <;> clear hA a <;> intro a hA <;> (first | exact FA | replace hg := of_decide_eq_true hg | replace hg := of_decide_eq_false hg | skip)) | (refine QT ?_; clear hA a; intro a hA) | (first | (refine BT ?_; clear hA hH; rintro _ w ⟨bN, rfl, hH⟩ a hA) | (refine LT ?_; clear hA hH; rintro _ w ⟨oN, rfl, hH⟩ a hA) | (refine AT ?_; clear hA; rintro _ w ⟨oN, cN, rfl, hH2⟩ a hA; clear hH; have hH := (hH2 _ (by (repeat constructor))).tail; clear hH2) | (refine S0T ?_; clear hH; rintro _ w hH) )) | ((first | refine CT ?_ | (refine DT ?_ ?_ <;> intro hc <;> try (exfalso; omega))) <;> repeat' refine CT ?_) | (first | (refine DSK ?_; clear hA a; intro a hA) | (first | (refine DLT ?_; clear hA hH; rintro _ w ⟨oN, rfl, hH⟩; refine ⟨STT, ?_⟩; intro a hA) | (refine DAT ?_; clear hA; rintro _ w ⟨oN, cN, rfl, hH2⟩; clear hH; have hH := (hH2 _ (by (repeat constructor))).tail; clear hH2; refine ⟨STT, ?_⟩; intro a hA))) )
      · exact rt1 (.inl rfl) rfl hA rfl ⟨by rw [inL_at hx (by assumption)], hH.kp⟩
      · refine ⟨i + 1, ⟨⟨hlt, fun k y hk hy => ?_⟩, hH, (hA.sub (by (repeat (first | exact trivial | refine ⟨rfl, ?_⟩))))⟩, by omega⟩
        rcases Nat.lt_or_ge k i with h | h
        · exact hno k y h hy
        · obtain rfl : k = i := by omega
          rw [hx] at hy
          obtain rfl := Option.some.inj hy
          assumption
    · repeat' (first | (first | (refine GT ?_ ?_ <;> intro hg <;> clear hA a <;> intro a hA <;> (first | exact FA | replace hg := of_decide_eq_true hg | replace hg := of_decide_eq_false hg | skip)) | (refine QT ?_; clear hA a; intro a hA) | (first | (refine BT ?_; clear hA hH; rintro _ w ⟨bN, rfl, hH⟩ a hA) | (refine LT ?_; clear hA hH; rintro _ w ⟨oN, rfl, hH⟩ a hA) | (refine AT ?_; clear hA; rintro _ w ⟨oN, cN, rfl, hH2⟩ a hA; clear hH; have hH := (hH2 _ (by (repeat constructor))).tail; clear hH2) | (refine S0T ?_; clear hH; rintro _ w hH) )) | ((first | refine CT ?_ | (refine DT ?_ ?_ <;> intro hc <;> try (exfalso; omega))) <;> repeat' refine CT ?_) | (first | (refine DSK ?_; clear hA a; intro a hA) | (first | (refine DLT ?_; clear hA hH; rintro _ w ⟨oN, rfl, hH⟩; refine ⟨STT, ?_⟩; intro a hA) | (refine DAT ?_; clear hA; rintro _ w ⟨oN, cN, rfl, hH2⟩; clear hH; have hH := (hH2 _ (by (repeat constructor))).tail; clear hH2; refine ⟨STT, ?_⟩; intro a hA))) )
      exact ⟨inL_no fun k x hk => hno k x (by have := (List.getElem?_eq_some_iff.1 hk).1; omega) hk, hH, (hA.sub (by (repeat (first | exact trivial | refine ⟨rfl, ?_⟩))))⟩
  · clear hA hH
    rintro a w ⟨hno, hH, hA⟩
    repeat' (first | (first | (refine GT ?_ ?_ <;> intro hg <;> clear hA a <;> intro a hA <;> (first | exact FA | replace hg := of_decide_eq_true hg | replace hg := of_decide_eq_false hg | skip)) | (refine QT ?_; clear hA a; intro a hA) | (first | (refine BT ?_; clear hA hH; rintro _ w ⟨bN, rfl, hH⟩ a hA) | (refine LT ?_; clear hA hH; rintro _ w ⟨oN, rfl, hH⟩ a hA) | (refine AT ?_; clear hA; rintro _ w ⟨oN, cN, rfl, hH2⟩ a hA; clear hH; have hH := (hH2 _ (by (repeat constructor))).tail; clear hH2) | (refine S0T ?_; clear hH; rintro _ w hH) )) | ((first | refine CT ?_ | (refine DT ?_ ?_ <;> intro hc <;> try (exfalso; omega))) <;> repeat' refine CT ?_) | (first | (refine DSK ?_; clear hA a; intro a hA) | (first | (refine DLT ?_; clear hA hH; rintro _ w ⟨oN, rfl, hH⟩; refine ⟨STT, ?_⟩; intro a hA) | (refine DAT ?_; clear hA; rintro _ w ⟨oN, cN, rfl, hH2⟩; clear hH; have hH := (hH2 _ (by (repeat constructor))).tail; clear hH2; refine ⟨STT, ?_⟩; intro a hA))) )
    exact rt1 (.inl rfl) rfl hA rfl ⟨by rw [hno], hH.kp⟩

theorem reaches_spec (w0 : World) (b N : Nat) (L : List Ob) (x : Int) (hU : U x) (hL : L.length ≤ 65536) (hR : RfR w0 b N L) : Ret Try.prog 53 #[.pointer (some (bat b 0)), .int .u64 x] w0 (fun v w => v = .int .i64 (reachA L x : Nat) ∧ Kp w0 noM w) := by
  have hH : HS w0 noM [] w0 := HS.init w0 noM
  have haN := addrN_eq hU
  (refine enter (N := 16) Try.func53 rfl Try.ntmps53 rfl ?_; intro a hA; dsimp only [sl0, Nat.reduceAdd] at hA)
  repeat' (first | (first | (refine GT ?_ ?_ <;> intro hg <;> clear hA a <;> intro a hA <;> (first | exact FA | replace hg := of_decide_eq_true hg | replace hg := of_decide_eq_false hg | skip)) | (refine QT ?_; clear hA a; intro a hA) | (first | (refine BT ?_; clear hA hH; rintro _ w ⟨bN, rfl, hH⟩ a hA) | (refine LT ?_; clear hA hH; rintro _ w ⟨oN, rfl, hH⟩ a hA) | (refine AT ?_; clear hA; rintro _ w ⟨oN, cN, rfl, hH2⟩ a hA; clear hH; have hH := (hH2 _ (by (repeat constructor))).tail; clear hH2) | (refine S0T ?_; clear hH; rintro _ w hH) )) | ((first | refine CT ?_ | (refine DT ?_ ?_ <;> intro hc <;> try (exfalso; omega))) <;> repeat' refine CT ?_) | (first | (refine DSK ?_; clear hA a; intro a hA) | (first | (refine DLT ?_; clear hA hH; rintro _ w ⟨oN, rfl, hH⟩; refine ⟨STT, ?_⟩; intro a hA) | (refine DAT ?_; clear hA; rintro _ w ⟨oN, cN, rfl, hH2⟩; clear hH; have hH := (hH2 _ (by (repeat constructor))).tail; clear hH2; refine ⟨STT, ?_⟩; intro a hA))) )
  (refine st_op hA rfl rfl (by decide) (op_call rfl rfl rfl (risnum_spec _ x hU)) ?_; clear hA; rintro _ w ⟨rfl, hk⟩ a hA; replace hH := hH.keep hk; clear hk)
  cases hn : numW x with
  | true =>
    rw [hn] at hA
    repeat' (first | (first | (refine GT ?_ ?_ <;> intro hg <;> clear hA a <;> intro a hA <;> (first | exact FA | replace hg := of_decide_eq_true hg | replace hg := of_decide_eq_false hg | skip)) | (refine QT ?_; clear hA a; intro a hA) | (first | (refine BT ?_; clear hA hH; rintro _ w ⟨bN, rfl, hH⟩ a hA) | (refine LT ?_; clear hA hH; rintro _ w ⟨oN, rfl, hH⟩ a hA) | (refine AT ?_; clear hA; rintro _ w ⟨oN, cN, rfl, hH2⟩ a hA; clear hH; have hH := (hH2 _ (by (repeat constructor))).tail; clear hH2) | (refine S0T ?_; clear hH; rintro _ w hH) )) | ((first | refine CT ?_ | (refine DT ?_ ?_ <;> intro hc <;> try (exfalso; omega))) <;> repeat' refine CT ?_) | (first | (refine DSK ?_; clear hA a; intro a hA) | (first | (refine DLT ?_; clear hA hH; rintro _ w ⟨oN, rfl, hH⟩; refine ⟨STT, ?_⟩; intro a hA) | (refine DAT ?_; clear hA; rintro _ w ⟨oN, cN, rfl, hH2⟩; clear hH; have hH := (hH2 _ (by (repeat constructor))).tail; clear hH2; refine ⟨STT, ?_⟩; intro a hA))) )
    exact rt1 (.inl rfl) rfl hA rfl ⟨by unfold reachA; rw [if_neg (by rw [hn]; simp)]; rfl, hH.kp⟩
  | false =>
    rw [hn] at hA
    repeat' (first | (first | (refine GT ?_ ?_ <;> intro hg <;> clear hA a <;> intro a hA <;> (first | exact FA | replace hg := of_decide_eq_true hg | replace hg := of_decide_eq_false hg | skip)) | (refine QT ?_; clear hA a; intro a hA) | (first | (refine BT ?_; clear hA hH; rintro _ w ⟨bN, rfl, hH⟩ a hA) | (refine LT ?_; clear hA hH; rintro _ w ⟨oN, rfl, hH⟩ a hA) | (refine AT ?_; clear hA; rintro _ w ⟨oN, cN, rfl, hH2⟩ a hA; clear hH; have hH := (hH2 _ (by (repeat constructor))).tail; clear hH2) | (refine S0T ?_; clear hH; rintro _ w hH) )) | ((first | refine CT ?_ | (refine DT ?_ ?_ <;> intro hc <;> try (exfalso; omega))) <;> repeat' refine CT ?_) | (first | (refine DSK ?_; clear hA a; intro a hA) | (first | (refine DLT ?_; clear hA hH; rintro _ w ⟨oN, rfl, hH⟩; refine ⟨STT, ?_⟩; intro a hA) | (refine DAT ?_; clear hA; rintro _ w ⟨oN, cN, rfl, hH2⟩; clear hH; have hH := (hH2 _ (by (repeat constructor))).tail; clear hH2; refine ⟨STT, ?_⟩; intro a hA))) )
    (refine st_op hA rfl rfl (by decide) (op_call rfl rfl rfl (raddr_spec _ x hU)) ?_; clear hA; rintro _ w ⟨rfl, hk⟩ a hA; replace hH := hH.keep hk; clear hk)
    repeat' (first | (first | (refine GT ?_ ?_ <;> intro hg <;> clear hA a <;> intro a hA <;> (first | exact FA | replace hg := of_decide_eq_true hg | replace hg := of_decide_eq_false hg | skip)) | (refine QT ?_; clear hA a; intro a hA) | (first | (refine BT ?_; clear hA hH; rintro _ w ⟨bN, rfl, hH⟩ a hA) | (refine LT ?_; clear hA hH; rintro _ w ⟨oN, rfl, hH⟩ a hA) | (refine AT ?_; clear hA; rintro _ w ⟨oN, cN, rfl, hH2⟩ a hA; clear hH; have hH := (hH2 _ (by (repeat constructor))).tail; clear hH2) | (refine S0T ?_; clear hH; rintro _ w hH) )) | ((first | refine CT ?_ | (refine DT ?_ ?_ <;> intro hc <;> try (exfalso; omega))) <;> repeat' refine CT ?_) | (first | (refine DSK ?_; clear hA a; intro a hA) | (first | (refine DLT ?_; clear hA hH; rintro _ w ⟨oN, rfl, hH⟩; refine ⟨STT, ?_⟩; intro a hA) | (refine DAT ?_; clear hA; rintro _ w ⟨oN, cN, rfl, hH2⟩; clear hH; have hH := (hH2 _ (by (repeat constructor))).tail; clear hH2; refine ⟨STT, ?_⟩; intro a hA))) )
    (refine st_op hA rfl rfl (by decide) (op_call rfl rfl rfl (rfind_spec _ b N L (addrW x) hL (hR.keep hH.kp))) ?_; clear hA; rintro _ w ⟨rfl, hk⟩ a hA; replace hH := hH.keep hk; clear hk)
    have hf := find_neg (L := L) (z := addrW x)
    by_cases hO : isO L (addrN x)
    · have hi : isA L (addrW x) = true := by rw [← haN]; exact isO_iff.2 hO
      have hge : ¬ findI L (addrW x) < 0 := fun h => by rw [hf.1 h] at hi; cases hi
      repeat' (first | (first | (refine GT ?_ ?_ <;> intro hg <;> clear hA a <;> intro a hA <;> (first | exact FA | replace hg := of_decide_eq_true hg | replace hg := of_decide_eq_false hg | skip)) | (refine QT ?_; clear hA a; intro a hA) | (first | (refine BT ?_; clear hA hH; rintro _ w ⟨bN, rfl, hH⟩ a hA) | (refine LT ?_; clear hA hH; rintro _ w ⟨oN, rfl, hH⟩ a hA) | (refine AT ?_; clear hA; rintro _ w ⟨oN, cN, rfl, hH2⟩ a hA; clear hH; have hH := (hH2 _ (by (repeat constructor))).tail; clear hH2) | (refine S0T ?_; clear hH; rintro _ w hH) )) | ((first | refine CT ?_ | (refine DT ?_ ?_ <;> intro hc <;> try (exfalso; omega))) <;> repeat' refine CT ?_) | (first | (refine DSK ?_; clear hA a; intro a hA) | (first | (refine DLT ?_; clear hA hH; rintro _ w ⟨oN, rfl, hH⟩; refine ⟨STT, ?_⟩; intro a hA) | (refine DAT ?_; clear hA; rintro _ w ⟨oN, cN, rfl, hH2⟩; clear hH; have hH := (hH2 _ (by (repeat constructor))).tail; clear hH2; refine ⟨STT, ?_⟩; intro a hA))) )
      (refine st_op hA rfl rfl (by decide) (op_call rfl rfl rfl (raddr_spec _ x hU)) ?_; clear hA; rintro _ w ⟨rfl, hk⟩ a hA; replace hH := hH.keep hk; clear hk)
      repeat' (first | (first | (refine GT ?_ ?_ <;> intro hg <;> clear hA a <;> intro a hA <;> (first | exact FA | replace hg := of_decide_eq_true hg | replace hg := of_decide_eq_false hg | skip)) | (refine QT ?_; clear hA a; intro a hA) | (first | (refine BT ?_; clear hA hH; rintro _ w ⟨bN, rfl, hH⟩ a hA) | (refine LT ?_; clear hA hH; rintro _ w ⟨oN, rfl, hH⟩ a hA) | (refine AT ?_; clear hA; rintro _ w ⟨oN, cN, rfl, hH2⟩ a hA; clear hH; have hH := (hH2 _ (by (repeat constructor))).tail; clear hH2) | (refine S0T ?_; clear hH; rintro _ w hH) )) | ((first | refine CT ?_ | (refine DT ?_ ?_ <;> intro hc <;> try (exfalso; omega))) <;> repeat' refine CT ?_) | (first | (refine DSK ?_; clear hA a; intro a hA) | (first | (refine DLT ?_; clear hA hH; rintro _ w ⟨oN, rfl, hH⟩; refine ⟨STT, ?_⟩; intro a hA) | (refine DAT ?_; clear hA; rintro _ w ⟨oN, cN, rfl, hH2⟩; clear hH; have hH := (hH2 _ (by (repeat constructor))).tail; clear hH2; refine ⟨STT, ?_⟩; intro a hA))) )
      exact rt1 (.inl rfl) rfl hA rfl ⟨by unfold reachA; rw [if_pos ⟨hn, hO⟩, haN], hH.kp⟩
    · have hi : isA L (addrW x) = false := by
        cases hc : isA L (addrW x) with
        | false => rfl
        | true => rw [← haN] at hc; exact absurd (isO_iff.1 hc) hO
      have hlt : findI L (addrW x) < 0 := hf.2 hi
      repeat' (first | (first | (refine GT ?_ ?_ <;> intro hg <;> clear hA a <;> intro a hA <;> (first | exact FA | replace hg := of_decide_eq_true hg | replace hg := of_decide_eq_false hg | skip)) | (refine QT ?_; clear hA a; intro a hA) | (first | (refine BT ?_; clear hA hH; rintro _ w ⟨bN, rfl, hH⟩ a hA) | (refine LT ?_; clear hA hH; rintro _ w ⟨oN, rfl, hH⟩ a hA) | (refine AT ?_; clear hA; rintro _ w ⟨oN, cN, rfl, hH2⟩ a hA; clear hH; have hH := (hH2 _ (by (repeat constructor))).tail; clear hH2) | (refine S0T ?_; clear hH; rintro _ w hH) )) | ((first | refine CT ?_ | (refine DT ?_ ?_ <;> intro hc <;> try (exfalso; omega))) <;> repeat' refine CT ?_) | (first | (refine DSK ?_; clear hA a; intro a hA) | (first | (refine DLT ?_; clear hA hH; rintro _ w ⟨oN, rfl, hH⟩; refine ⟨STT, ?_⟩; intro a hA) | (refine DAT ?_; clear hA; rintro _ w ⟨oN, cN, rfl, hH2⟩; clear hH; have hH := (hH2 _ (by (repeat constructor))).tail; clear hH2; refine ⟨STT, ?_⟩; intro a hA))) )
      exact rt1 (.inl rfl) rfl hA rfl ⟨by unfold reachA; rw [if_neg (fun h => hO h.2)]; rfl, hH.kp⟩
theorem find_is {N : Nat} {L : List Ob} (hl : Lay N 1 L) {a : Nat} (h : isO L a) : ∃ (j : Nat) (o : Ob), findI L a = j ∧ L[j]? = some o ∧ o.a = a ∧ o ∈ L := by
  obtain ⟨o, ho, rfl⟩ := h
  have e := objA_mem hl ho
  rcases findI_obj L (o.a : Int) with ⟨h1, _⟩ | ⟨i, o', h1, h2, h3⟩
  · rw [e] at h1; cases h1
  · rw [e] at h1
    obtain rfl := Option.some.inj h1
    exact ⟨i, o, h2, h3, rfl, ho⟩

end Go.Proofs.Ytdfhajdejlhamaa
namespace Go.Proofs.Ytdfhajdejlhamaa
open Go Go.Fw
set_option linter.unusedVariables false
def wo (l : List Nat) (z : Int) : List Nat := l.filter fun a => decide ((a : Int) ≠ z)
theorem wo_mem {l : List Nat} {n a : Nat} : a ∈ wo l (n : Int) ↔ a ∈ l ∧ a ≠ n := by
  unfold wo
  rw [List.mem_filter, decide_eq_true_eq]
  constructor
  · exact fun ⟨h1, h2⟩ => ⟨h1, fun he => h2 (by rw [he])⟩
  · exact fun ⟨h1, h2⟩ => ⟨h1, fun he => h2 (by omega)⟩
theorem wo_snoc {l : List Nat} {z : Int} {i a : Nat} (h : l[i]? = some a) : wo (l.take (i + 1)) z = if (a : Int) ≠ z then wo (l.take i) z ++ [a] else wo (l.take i) z := by
  unfold wo
  rw [List.take_add_one, h, List.filter_append]
  split
  · rename_i hc; simp [hc]
  · rename_i hc
    have : (a : Int) = z := by omega
    simp [this]
theorem wo_le {l : List Nat} {z : Int} : (wo l z).length ≤ l.length := List.length_filter_le _ _
/-- the document's greys and blacks are of a collector's colours -/
structure Dr (s : GS) (G B : List Nat) : Prop where
  nG : G.Nodup
  mG : ∀ a, a ∈ G ↔ col s a = 1
  nB : B.Nodup
  mB : ∀ a, a ∈ B ↔ col s a = 2
section
variable {N : Nat} {s : GS} {G B : List Nat}
theorem Dr.gl (h : Dr s G B) (hok : GOk N s) : G.length = s.gr.length := by
  refine (List.perm_ext_iff_of_nodup h.nG (hok.grs.imp fun h => by omega) |>.2 fun a => ?_).length_eq
  rw [h.mG, hok.grm]
theorem Dr.Gle (h : Dr s G B) (hok : GOk N s) : G.length ≤ N := nodup_len h.nG fun a ha => (hok.lt (hok.obj a (by have := (h.mG a).1 ha; omega))).2
theorem Dr.Ble (h : Dr s G B) (hok : GOk N s) : B.length ≤ N := nodup_len h.nB fun a ha => (hok.lt (hok.obj a (by have := (h.mB a).1 ha; omega))).2
theorem nd_snoc {l : List Nat} {a : Nat} (h : l.Nodup) (ha : a ∉ l) : (l ++ [a]).Nodup :=
  List.nodup_append.2 ⟨h, List.nodup_cons.2 ⟨List.not_mem_nil, List.nodup_nil⟩, fun x hx y hy => by rw [List.mem_singleton.1 hy]; exact fun he => ha (he ▸ hx)⟩
theorem Dr.shade (h : Dr s G B) (hok : GOk N s) {x : Int} (h1 : numW x = false) (h2 : isO s.L (addrN x)) (h3 : col s (addrN x) = 0) : Dr (shadeG s x) (G ++ [addrN x]) B := by
  have hc := shade_col hok x
  refine ⟨nd_snoc h.nG fun hm => by have := (h.mG _).1 hm; omega, fun a => ?_, h.nB, fun a => ?_⟩
  · rw [hc, List.mem_append, List.mem_singleton, h.mG]
    split
    · rename_i hh; simp [hh.2.1]
    · rename_i hh
      constructor
      · rintro (h4 | rfl)
        · exact h4
        · exact absurd ⟨h1, rfl, h2, h3⟩ hh
      · exact .inl
  · rw [hc, h.mB]
    split
    · rename_i hh
      have := hh.2.2.2
      omega
    · exact Iff.rfl
theorem shade_no {x : Int} (h : numW x = true ∨ ¬ isO s.L (addrN x) ∨ col s (addrN x) ≠ 0) : shadeG s x = s := by
  unfold shadeG
  rw [if_pos]
  rcases h with h | h | h
  · exact .inl h
  · right
    cases hw : whiteG s (addrN x) with
    | false => rfl
    | true => rw [whiteG_iff] at hw; exact absurd hw.1 h
  · right
    cases hw : whiteG s (addrN x) with
    | false => rfl
    | true => rw [whiteG_iff] at hw; exact absurd hw.2 h
theorem wo_nodup {l : List Nat} {z : Int} (h : l.Nodup) : (wo l z).Nodup := h.filter _
theorem Dr.black (h : Dr s G B) (hok : GOk N s) {a : Nat} (hc : col s a = 1) (hcol : ∀ b, col (blackG s a) b = if a = b then 2 else col s b) : Dr (blackG s a) (wo G (a : Int)) (B ++ [a]) := by
  refine ⟨wo_nodup h.nG, fun b => ?_, nd_snoc h.nB fun hm => by have := (h.mB _).1 hm; omega, fun b => ?_⟩
  · rw [hcol, wo_mem, h.mG]
    split
    · rename_i hh; subst hh; simp
    · rename_i hh; exact ⟨fun h => h.1, fun h1 => ⟨h1, fun he => hh he.symm⟩⟩
  · rw [hcol, List.mem_append, List.mem_singleton, h.mB]
    split
    · rename_i hh; simp [hh]
    · rename_i hh; exact ⟨fun h => h.elim id fun he => absurd he.symm hh, .inl⟩
theorem Dr.sweep {s' : GS} (h : Dr s G B) {a : Nat} (hc : ∀ b, col s b ≠ 1) (hcol : ∀ b, col s' b = if a = b then 0 else col s b) : Dr s' G (wo B (a : Int)) := by
  refine ⟨h.nG, fun b => ?_, wo_nodup h.nB, fun b => ?_⟩
  · rw [hcol, h.mG]
    split
    · exact ⟨fun h1 => absurd h1 (hc b), fun h1 => by omega⟩
    · exact Iff.rfl
  · rw [hcol, wo_mem, h.mB]
    split
    · rename_i hh; subst hh; simp
    · rename_i hh; exact ⟨fun h => h.1, fun h1 => ⟨h1, fun he => hh he.symm⟩⟩
theorem Dr.same {s' : GS} (h : Dr s G B) (hcol : ∀ b, col s' b = col s b) : Dr s' G B := ⟨h.nG, fun a => by rw [hcol]; exact h.mG a, h.nB, fun a => by rw [hcol]; exact h.mB a⟩
end
structure DQ where
  G : List Nat
  B : List Nat
  oG : Option Addr
  cG : Nat
  oB : Option Addr
  cB : Nat
def gdQ (bd b2 : Nat) (s : GS) (q : DQ) : List It := [cb bd 48 [.pointer (some (bat b2 0)), .int .i64 s.ph, .slice q.oG q.G.length q.cG, .slice q.oB q.B.length q.cB, .int .i64 s.pl], own 3 1 q.oG q.G.length q.cG (flat encN q.G), own 3 1 q.oB q.B.length q.cB (flat encN q.B)]
/-- the document's collector -/
def gdI (bd b2 : Nat) (s : GS) : It := exI fun q => facI (Dr s q.G q.B) (all (gdQ bd b2 s q))
structure GdQ (w : World) (bd b2 : Nat) (s : GS) (q : DQ) : Prop where
  dr : Dr s q.G q.B
  c0 : w.cell? (bat bd 0) = some (.pointer (some (bat b2 0)))
  c1 : w.cell? (bat bd 1) = some (.int .i64 s.ph)
  c2 : w.cell? (bat bd 2) = some (.slice q.oG q.G.length q.cG)
  c3 : w.cell? (bat bd 3) = some (.slice q.oB q.B.length q.cB)
  c4 : w.cell? (bat bd 4) = some (.int .i64 s.pl)
  rG : Rd w q.oG (flat encN q.G)
  rB : Rd w q.oB (flat encN q.B)
def GdR (w : World) (bd b2 : Nat) (s : GS) : Prop := ∃ q, GdQ w bd b2 s q
theorem gd_open {w0 w : World} {M : Nat → Prop} {H : List It} {bd b2 : Nat} {s : GS} (h : HS w0 M (gdI bd b2 s :: H) w) : ∃ q, Dr s q.G q.B ∧ HS w0 M (gdQ bd b2 s q ++ H) w := by
  obtain ⟨q, h1⟩ := h.exI_open
  obtain ⟨hd, h2⟩ := h1.facI_open
  exact ⟨q, hd, h2.open_⟩
theorem gd_shut {w0 w : World} {M : Nat → Prop} {H : List It} {bd b2 : Nat} {s : GS} (q : DQ) (hd : Dr s q.G q.B) (h : HS w0 M (gdQ bd b2 s q ++ H) w) : HS w0 M (gdI bd b2 s :: H) w := HS.exI_shut q (HS.facI_shut hd h.shut)
theorem gd_read {w0 w : World} {M : Nat → Prop} {H : List It} {bd b2 : Nat} {s : GS} (h : HS w0 M (gdI bd b2 s :: H) w) : GdR w bd b2 s := by
  obtain ⟨q, hd, h1⟩ := gd_open h
  exact ⟨q, hd, h1.cell (b := bd) (j := 0) (List.mem_cons_self ..) rfl, h1.cell (b := bd) (j := 1) (List.mem_cons_self ..) rfl, h1.cell (b := bd) (j := 2) (List.mem_cons_self ..) rfl, h1.cell (b := bd) (j := 3) (List.mem_cons_self ..) rfl, h1.cell (b := bd) (j := 4) (List.mem_cons_self ..) rfl,
    h1.own_rd (o := q.oG) (xs := flat encN q.G) (by exact .tail _ (.head _)), h1.own_rd (o := q.oB) (xs := flat encN q.B) (by exact .tail _ (.tail _ (.head _)))⟩
theorem gd_readM {w0 w : World} {M : Nat → Prop} {H : List It} {bd b2 : Nat} {s : GS} (h : HS w0 M H w) (hm : gdI bd b2 s ∈ H) : GdR w bd b2 s := gd_read (h.pick hm)
theorem GdQ.keep {w w' : World} {bd b2 : Nat} {s : GS} {q : DQ} (h : GdQ w bd b2 s q) (hk : Kp w noM w') : GdQ w' bd b2 s q := by
  have hH : HS w noM [] w' := (HS.init w noM).keep hk
  exact ⟨h.dr, hH.cellw h.c0 id, hH.cellw h.c1 id, hH.cellw h.c2 id, hH.cellw h.c3 id, hH.cellw h.c4 id, hH.rd h.rG id, hH.rd h.rB id⟩
theorem inL_f {l : List Nat} {a : Nat} (h : a ∉ l) : inL l (a : Int) = false := by
  cases hc : inL l (a : Int) with
  | false => rfl
  | true => exact absurd (inL_nat.1 hc) h
theorem gd_eq {w0 w : World} {M : Nat → Prop} {H : List It} {bd b2 : Nat} {s s' : GS} (h : HS w0 M (gdI bd b2 s :: H) w) (h1 : ∀ b, col s' b = col s b) (h2 : s'.ph = s.ph) (h3 : s'.pl = s.pl) : HS w0 M (gdI bd b2 s' :: H) w := by
  obtain ⟨q, hd, hq⟩ := gd_open h
  refine gd_shut q (hd.same h1) ?_
  unfold gdQ at hq ⊢
  rw [h2, h3]
  exact hq
theorem nil_wo (l : List Nat) (z : Int) : ([] : List Value) = flat encN (wo (l.take 0) z) ∧ (wo (l.take 0) z).length = 0 := ⟨rfl, rfl⟩
set_option maxRecDepth 10000 attribute [local irreducible] Code.wp wpList Calls Ex Op1 sat bat blk cb own Go.Fw.mp Go.Fw.mpO Go.Fw.mpI Go.Fw.mpE Go.Fw.itr HS Rd Ret wkD Hp Cl Cls Exit.then Exit.inBlock Exit.noGoto bodyPost Go.Fw.flat wk2 Go.Fw.all Go.Fw.owns wpOp
attribute [local irreducible] hdA gaps isA nextA allocA freeA sizeA kindA setA getA whiteZ numW addrW shadeG gcI hpI stepG beginG writeG allocG mu rfI inL findI objA reachA wo

theorem without_spec (w0 : World) (o : Option Addr) (c : Nat) (l : List Nat) (z : Int) (hr : Rd w0 o (flat encN l)) (hl : l.length ≤ 1048576) : Ret Try.prog 82 #[.slice o l.length c, .int .i64 z] w0 (fun v w => ∃ o' c', v = .slice o' (wo l z).length c' ∧ HS w0 noM [own 3 1 o' (wo l z).length c' (flat encN (wo l z))] w) := by
  have hH : HS w0 noM [] w0 := HS.init w0 noM
  have hsp : Sp o l.length := hr.sp (sz := 1) (flat_length encN_len l) (by omega)
  (refine enter (N := 28) Try.func82 rfl Try.ntmps82 rfl ?_; intro a hA; dsimp only [sl0, Nat.reduceAdd] at hA)
  repeat' (first | (first | (refine GT ?_ ?_ <;> intro hg <;> clear hA a <;> intro a hA <;> (first | exact FA | replace hg := of_decide_eq_true hg | replace hg := of_decide_eq_false hg | skip)) | (refine QT ?_; clear hA a; intro a hA) | (first | (refine BT ?_; clear hA hH; rintro _ w ⟨bN, rfl, hH⟩ a hA) | (refine LT ?_; clear hA hH; rintro _ w ⟨oN, rfl, hH⟩ a hA) | (refine AT ?_; clear hA; rintro _ w ⟨oN, cN, rfl, hH2⟩ a hA; clear hH; have hH := (hH2 _ (by (repeat constructor))).tail; clear hH2) | (refine S0T ?_; clear hH; rintro _ w hH) )) | ((first | refine CT ?_ | (refine DT ?_ ?_ <;> intro hc <;> try (exfalso; omega))) <;> repeat' refine CT ?_) | (first | (refine DSK ?_; clear hA a; intro a hA) | (first | (refine DLT ?_; clear hA hH; rintro _ w ⟨oN, rfl, hH⟩; refine ⟨STT, ?_⟩; intro a hA) | (refine DAT ?_; clear hA; rintro _ w ⟨oN, cN, rfl, hH2⟩; clear hH; have hH := (hH2 _ (by (repeat constructor))).tail; clear hH2; refine ⟨STT, ?_⟩; intro a hA))) )
  rw [(nil_wo l z).1] at hH
  refine wp_lpj (S := Nat × Option Addr × Nat) (fun p a w => p.1 ≤ l.length ∧ HS w0 noM [own 3 1 p.2.1 (wo (l.take p.1) z).length p.2.2 (flat encN (wo (l.take p.1) z))] w ∧ Sl 28 [(0, .slice o l.length c), (1, .int .i64 z), (5, .slice p.2.1 (wo (l.take p.1) z).length p.2.2), (6, .int .i64 p.1)] a) (fun p => l.length - p.1)
    (fun a w => ∃ o' c', HS w0 noM [own 3 1 o' (wo l z).length c' (flat encN (wo l z))] w ∧ Sl 28 [(5, .slice o' (wo l z).length c')] a) (0, oN, 0) ⟨Nat.zero_le _, by dsimp only; rw [(nil_wo l z).2]; exact hH, by dsimp only; rw [(nil_wo l z).2]; exact (hA.sub (by (repeat (first | exact trivial | refine ⟨rfl, ?_⟩))))⟩ ?_ ?_
  · clear hA hH
    rintro ⟨i, o', c'⟩ a w ⟨hi, hH, hA⟩
    dsimp only at hi hH hA
    by_cases hlt : i < l.length
    rotate_left
    · obtain rfl : i = l.length := by omega
      rw [List.take_length] at hH hA
      repeat' (first | (first | (refine GT ?_ ?_ <;> intro hg <;> clear hA a <;> intro a hA <;> (first | exact FA | replace hg := of_decide_eq_true hg | replace hg := of_decide_eq_false hg | skip)) | (refine QT ?_; clear hA a; intro a hA) | (first | (refine BT ?_; clear hA hH; rintro _ w ⟨bN, rfl, hH⟩ a hA) | (refine LT ?_; clear hA hH; rintro _ w ⟨oN, rfl, hH⟩ a hA) | (refine AT ?_; clear hA; rintro _ w ⟨oN, cN, rfl, hH2⟩ a hA; clear hH; have hH := (hH2 _ (by (repeat constructor))).tail; clear hH2) | (refine S0T ?_; clear hH; rintro _ w hH) )) | ((first | refine CT ?_ | (refine DT ?_ ?_ <;> intro hc <;> try (exfalso; omega))) <;> repeat' refine CT ?_) | (first | (refine DSK ?_; clear hA a; intro a hA) | (first | (refine DLT ?_; clear hA hH; rintro _ w ⟨oN, rfl, hH⟩; refine ⟨STT, ?_⟩; intro a hA) | (refine DAT ?_; clear hA; rintro _ w ⟨oN, cN, rfl, hH2⟩; clear hH; have hH := (hH2 _ (by (repeat constructor))).tail; clear hH2; refine ⟨STT, ?_⟩; intro a hA))) )
      exact ⟨o', c', hH, (hA.sub (by (repeat (first | exact trivial | refine ⟨rfl, ?_⟩))))⟩
    obtain ⟨x, hx⟩ : ∃ x, l[i]? = some x := ⟨_, List.getElem?_eq_getElem hlt⟩
    have hcx := encN_at hx
    have hw := wo_snoc (z := z) hx
    have hwl : (wo (l.take i) z).length ≤ 1048576 := by have := @wo_le (l.take i) z; rw [List.length_take] at this; omega
    by_cases hxz : (x : Int) ≠ z
    · rw [if_pos hxz] at hw
      have hl1 : (wo (l.take i) z).length + 1 = (wo (l.take (i + 1)) z).length := by rw [hw, List.length_append]; rfl
      repeat' (first | (first | (refine GT ?_ ?_ <;> intro hg <;> clear hA a <;> intro a hA <;> (first | exact FA | replace hg := of_decide_eq_true hg | replace hg := of_decide_eq_false hg | skip)) | (refine QT ?_; clear hA a; intro a hA) | (first | (refine BT ?_; clear hA hH; rintro _ w ⟨bN, rfl, hH⟩ a hA) | (refine LT ?_; clear hA hH; rintro _ w ⟨oN, rfl, hH⟩ a hA) | (refine AT ?_; clear hA; rintro _ w ⟨oN, cN, rfl, hH2⟩ a hA; clear hH; have hH := (hH2 _ (by (repeat constructor))).tail; clear hH2) | (refine S0T ?_; clear hH; rintro _ w hH) )) | ((first | refine CT ?_ | (refine DT ?_ ?_ <;> intro hc <;> try (exfalso; omega))) <;> repeat' refine CT ?_) | (first | (refine DSK ?_; clear hA a; intro a hA) | (first | (refine DLT ?_; clear hA hH; rintro _ w ⟨oN, rfl, hH⟩; refine ⟨STT, ?_⟩; intro a hA) | (refine DAT ?_; clear hA; rintro _ w ⟨oN, cN, rfl, hH2⟩; clear hH; have hH := (hH2 _ (by (repeat constructor))).tail; clear hH2; refine ⟨STT, ?_⟩; intro a hA))) )
      rw [snocN, ← hw, hl1] at hH
      rw [hl1] at hA
      exact ⟨(i + 1, oN, cN), ⟨hlt, hH, (hA.sub (by (repeat (first | exact trivial | refine ⟨rfl, ?_⟩))))⟩, by show l.length - (i + 1) < l.length - i; omega⟩
    · rw [if_neg hxz] at hw
      rw [← hw] at hH hA
      repeat' (first | (first | (refine GT ?_ ?_ <;> intro hg <;> clear hA a <;> intro a hA <;> (first | exact FA | replace hg := of_decide_eq_true hg | replace hg := of_decide_eq_false hg | skip)) | (refine QT ?_; clear hA a; intro a hA) | (first | (refine BT ?_; clear hA hH; rintro _ w ⟨bN, rfl, hH⟩ a hA) | (refine LT ?_; clear hA hH; rintro _ w ⟨oN, rfl, hH⟩ a hA) | (refine AT ?_; clear hA; rintro _ w ⟨oN, cN, rfl, hH2⟩ a hA; clear hH; have hH := (hH2 _ (by (repeat constructor))).tail; clear hH2) | (refine S0T ?_; clear hH; rintro _ w hH) )) | ((first | refine CT ?_ | (refine DT ?_ ?_ <;> intro hc <;> try (exfalso; omega))) <;> repeat' refine CT ?_) | (first | (refine DSK ?_; clear hA a; intro a hA) | (first | (refine DLT ?_; clear hA hH; rintro _ w ⟨oN, rfl, hH⟩; refine ⟨STT, ?_⟩; intro a hA) | (refine DAT ?_; clear hA; rintro _ w ⟨oN, cN, rfl, hH2⟩; clear hH; have hH := (hH2 _ (by (repeat constructor))).tail; clear hH2; refine ⟨STT, ?_⟩; intro a hA))) )
      exact ⟨(i + 1, o', c'), ⟨hlt, hH, (hA.sub (by (repeat (first | exact trivial | refine ⟨rfl, ?_⟩))))⟩, by show l.length - (i + 1) < l.length - i; omega⟩
  clear hA hH
  rintro a w ⟨o', c', hH, hA⟩
  repeat' (first | (first | (refine GT ?_ ?_ <;> intro hg <;> clear hA a <;> intro a hA <;> (first | exact FA | replace hg := of_decide_eq_true hg | replace hg := of_decide_eq_false hg | skip)) | (refine QT ?_; clear hA a; intro a hA) | (first | (refine BT ?_; clear hA hH; rintro _ w ⟨bN, rfl, hH⟩ a hA) | (refine LT ?_; clear hA hH; rintro _ w ⟨oN, rfl, hH⟩ a hA) | (refine AT ?_; clear hA; rintro _ w ⟨oN, cN, rfl, hH2⟩ a hA; clear hH; have hH := (hH2 _ (by (repeat constructor))).tail; clear hH2) | (refine S0T ?_; clear hH; rintro _ w hH) )) | ((first | refine CT ?_ | (refine DT ?_ ?_ <;> intro hc <;> try (exfalso; omega))) <;> repeat' refine CT ?_) | (first | (refine DSK ?_; clear hA a; intro a hA) | (first | (refine DLT ?_; clear hA hH; rintro _ w ⟨oN, rfl, hH⟩; refine ⟨STT, ?_⟩; intro a hA) | (refine DAT ?_; clear hA; rintro _ w ⟨oN, cN, rfl, hH2⟩; clear hH; have hH := (hH2 _ (by (repeat constructor))).tail; clear hH2; refine ⟨STT, ?_⟩; intro a hA))) )
  exact rt1 (.inl rfl) rfl hA rfl ⟨o', c', rfl, hH⟩

theorem dwhite_spec (w0 : World) (bd b2 N : Nat) (s : GS) (z : Int) (hok : GOk N s) (hG : GdR w0 bd b2 s) (hR : RfR w0 b2 N s.L) : Ret Try.prog 84 #[.pointer (some (bat bd 0)), .int .i64 z] w0 (fun v w => v = .bool (whiteZ s z) ∧ Kp w0 noM w) := by
  have hH : HS w0 noM [] w0 := HS.init w0 noM
  obtain ⟨q, hq⟩ := hG
  obtain ⟨hd, c0, c1, c2, c3, c4, rG, rB⟩ := hq
  have hGl := hd.Gle hok
  have hBl := hd.Ble hok
  have hn2 := hok.n2
  have hlen := hok.lay.len
  have hf := find_neg (L := s.L) (z := z)
  (refine enter (N := 30) Try.func84 rfl Try.ntmps84 rfl ?_; intro a hA; dsimp only [sl0, Nat.reduceAdd] at hA)
  repeat' (first | (first | (refine GT ?_ ?_ <;> intro hg <;> clear hA a <;> intro a hA <;> (first | exact FA | replace hg := of_decide_eq_true hg | replace hg := of_decide_eq_false hg | skip)) | (refine QT ?_; clear hA a; intro a hA) | (first | (refine BT ?_; clear hA hH; rintro _ w ⟨bN, rfl, hH⟩ a hA) | (refine LT ?_; clear hA hH; rintro _ w ⟨oN, rfl, hH⟩ a hA) | (refine AT ?_; clear hA; rintro _ w ⟨oN, cN, rfl, hH2⟩ a hA; clear hH; have hH := (hH2 _ (by (repeat constructor))).tail; clear hH2) | (refine S0T ?_; clear hH; rintro _ w hH) )) | ((first | refine CT ?_ | (refine DT ?_ ?_ <;> intro hc <;> try (exfalso; omega))) <;> repeat' refine CT ?_) | (first | (refine DSK ?_; clear hA a; intro a hA) | (first | (refine DLT ?_; clear hA hH; rintro _ w ⟨oN, rfl, hH⟩; refine ⟨STT, ?_⟩; intro a hA) | (refine DAT ?_; clear hA; rintro _ w ⟨oN, cN, rfl, hH2⟩; clear hH; have hH := (hH2 _ (by (repeat constructor))).tail; clear hH2; refine ⟨STT, ?_⟩; intro a hA))) )
  (refine st_op hA rfl rfl (by decide) (op_call rfl rfl rfl (rfind_spec _ b2 N s.L z (by omega) (hR.keep hH.kp))) ?_; clear hA; rintro _ w ⟨rfl, hk⟩ a hA; replace hH := hH.keep hk; clear hk)
  cases hi : isA s.L z with
  | false =>
    have hlt := hf.2 hi
    have hw : whiteZ s z = false := by unfold whiteZ; rw [hi]; rfl
    repeat' (first | (first | (refine GT ?_ ?_ <;> intro hg <;> clear hA a <;> intro a hA <;> (first | exact FA | replace hg := of_decide_eq_true hg | replace hg := of_decide_eq_false hg | skip)) | (refine QT ?_; clear hA a; intro a hA) | (first | (refine BT ?_; clear hA hH; rintro _ w ⟨bN, rfl, hH⟩ a hA) | (refine LT ?_; clear hA hH; rintro _ w ⟨oN, rfl, hH⟩ a hA) | (refine AT ?_; clear hA; rintro _ w ⟨oN, cN, rfl, hH2⟩ a hA; clear hH; have hH := (hH2 _ (by (repeat constructor))).tail; clear hH2) | (refine S0T ?_; clear hH; rintro _ w hH) )) | ((first | refine CT ?_ | (refine DT ?_ ?_ <;> intro hc <;> try (exfalso; omega))) <;> repeat' refine CT ?_) | (first | (refine DSK ?_; clear hA a; intro a hA) | (first | (refine DLT ?_; clear hA hH; rintro _ w ⟨oN, rfl, hH⟩; refine ⟨STT, ?_⟩; intro a hA) | (refine DAT ?_; clear hA; rintro _ w ⟨oN, cN, rfl, hH2⟩; clear hH; have hH := (hH2 _ (by (repeat constructor))).tail; clear hH2; refine ⟨STT, ?_⟩; intro a hA))) )
    exact rt1 (.inl rfl) rfl hA rfl ⟨by rw [hw], hH.kp⟩
  | true =>
    have hge : ¬ findI s.L z < 0 := fun h => by rw [hf.1 h] at hi; cases hi
    obtain ⟨x, hx, rfl⟩ := isA_obj hi
    have hw : whiteZ s (x.a : Int) = (col s x.a == 0) := by unfold whiteZ; rw [hi, Int.toNat_natCast]; rfl
    rw [hw]
    have hc3 := hok.c3 x.a
    rcases (by omega : col s x.a = 0 ∨ col s x.a = 1 ∨ col s x.a = 2) with hc | hc | hc
    · have i1 := inL_f (l := q.G) (a := x.a) (fun hm => by have := (hd.mG _).1 hm; omega)
      have i2 := inL_f (l := q.B) (a := x.a) (fun hm => by have := (hd.mB _).1 hm; omega)
      repeat' (first | (first | (refine GT ?_ ?_ <;> intro hg <;> clear hA a <;> intro a hA <;> (first | exact FA | replace hg := of_decide_eq_true hg | replace hg := of_decide_eq_false hg | skip)) | (refine QT ?_; clear hA a; intro a hA) | (first | (refine BT ?_; clear hA hH; rintro _ w ⟨bN, rfl, hH⟩ a hA) | (refine LT ?_; clear hA hH; rintro _ w ⟨oN, rfl, hH⟩ a hA) | (refine AT ?_; clear hA; rintro _ w ⟨oN, cN, rfl, hH2⟩ a hA; clear hH; have hH := (hH2 _ (by (repeat constructor))).tail; clear hH2) | (refine S0T ?_; clear hH; rintro _ w hH) | ((refine st_op hA rfl rfl (by decide) (op_call rfl rfl rfl (in_spec _ q.oG q.cG q.G x.a (hH.rd rG id) (by omega))) ?_; clear hA; rintro _ w ⟨rfl, hk⟩ a hA; replace hH := hH.keep hk; clear hk); rw [i1] at hA) | ((refine st_op hA rfl rfl (by decide) (op_call rfl rfl rfl (in_spec _ q.oB q.cB q.B x.a (hH.rd rB id) (by omega))) ?_; clear hA; rintro _ w ⟨rfl, hk⟩ a hA; replace hH := hH.keep hk; clear hk); rw [i2] at hA))) | ((first | refine CT ?_ | (refine DT ?_ ?_ <;> intro hc <;> try (exfalso; omega))) <;> repeat' refine CT ?_) | (first | (refine DSK ?_; clear hA a; intro a hA) | (first | (refine DLT ?_; clear hA hH; rintro _ w ⟨oN, rfl, hH⟩; refine ⟨STT, ?_⟩; intro a hA) | (refine DAT ?_; clear hA; rintro _ w ⟨oN, cN, rfl, hH2⟩; clear hH; have hH := (hH2 _ (by (repeat constructor))).tail; clear hH2; refine ⟨STT, ?_⟩; intro a hA))) )
      exact rt1 (.inl rfl) rfl hA rfl ⟨by rw [hc]; rfl, hH.kp⟩
    · have i1 := inL_nat.2 ((hd.mG x.a).2 hc)
      repeat' (first | (first | (refine GT ?_ ?_ <;> intro hg <;> clear hA a <;> intro a hA <;> (first | exact FA | replace hg := of_decide_eq_true hg | replace hg := of_decide_eq_false hg | skip)) | (refine QT ?_; clear hA a; intro a hA) | (first | (refine BT ?_; clear hA hH; rintro _ w ⟨bN, rfl, hH⟩ a hA) | (refine LT ?_; clear hA hH; rintro _ w ⟨oN, rfl, hH⟩ a hA) | (refine AT ?_; clear hA; rintro _ w ⟨oN, cN, rfl, hH2⟩ a hA; clear hH; have hH := (hH2 _ (by (repeat constructor))).tail; clear hH2) | (refine S0T ?_; clear hH; rintro _ w hH) | ((refine st_op hA rfl rfl (by decide) (op_call rfl rfl rfl (in_spec _ q.oG q.cG q.G x.a (hH.rd rG id) (by omega))) ?_; clear hA; rintro _ w ⟨rfl, hk⟩ a hA; replace hH := hH.keep hk; clear hk); rw [i1] at hA))) | ((first | refine CT ?_ | (refine DT ?_ ?_ <;> intro hc <;> try (exfalso; omega))) <;> repeat' refine CT ?_) | (first | (refine DSK ?_; clear hA a; intro a hA) | (first | (refine DLT ?_; clear hA hH; rintro _ w ⟨oN, rfl, hH⟩; refine ⟨STT, ?_⟩; intro a hA) | (refine DAT ?_; clear hA; rintro _ w ⟨oN, cN, rfl, hH2⟩; clear hH; have hH := (hH2 _ (by (repeat constructor))).tail; clear hH2; refine ⟨STT, ?_⟩; intro a hA))) )
      exact rt1 (.inl rfl) rfl hA rfl ⟨by rw [hc]; rfl, hH.kp⟩
    · have i1 := inL_f (l := q.G) (a := x.a) (fun hm => by have := (hd.mG _).1 hm; omega)
      have i2 := inL_nat.2 ((hd.mB x.a).2 hc)
      repeat' (first | (first | (refine GT ?_ ?_ <;> intro hg <;> clear hA a <;> intro a hA <;> (first | exact FA | replace hg := of_decide_eq_true hg | replace hg := of_decide_eq_false hg | skip)) | (refine QT ?_; clear hA a; intro a hA) | (first | (refine BT ?_; clear hA hH; rintro _ w ⟨bN, rfl, hH⟩ a hA) | (refine LT ?_; clear hA hH; rintro _ w ⟨oN, rfl, hH⟩ a hA) | (refine AT ?_; clear hA; rintro _ w ⟨oN, cN, rfl, hH2⟩ a hA; clear hH; have hH := (hH2 _ (by (repeat constructor))).tail; clear hH2) | (refine S0T ?_; clear hH; rintro _ w hH) | ((refine st_op hA rfl rfl (by decide) (op_call rfl rfl rfl (in_spec _ q.oG q.cG q.G x.a (hH.rd rG id) (by omega))) ?_; clear hA; rintro _ w ⟨rfl, hk⟩ a hA; replace hH := hH.keep hk; clear hk); rw [i1] at hA) | ((refine st_op hA rfl rfl (by decide) (op_call rfl rfl rfl (in_spec _ q.oB q.cB q.B x.a (hH.rd rB id) (by omega))) ?_; clear hA; rintro _ w ⟨rfl, hk⟩ a hA; replace hH := hH.keep hk; clear hk); rw [i2] at hA))) | ((first | refine CT ?_ | (refine DT ?_ ?_ <;> intro hc <;> try (exfalso; omega))) <;> repeat' refine CT ?_) | (first | (refine DSK ?_; clear hA a; intro a hA) | (first | (refine DLT ?_; clear hA hH; rintro _ w ⟨oN, rfl, hH⟩; refine ⟨STT, ?_⟩; intro a hA) | (refine DAT ?_; clear hA; rintro _ w ⟨oN, cN, rfl, hH2⟩; clear hH; have hH := (hH2 _ (by (repeat constructor))).tail; clear hH2; refine ⟨STT, ?_⟩; intro a hA))) )
      exact rt1 (.inl rfl) rfl hA rfl ⟨by rw [hc]; rfl, hH.kp⟩
end Go.Proofs.Ytdfhajdejlhamaa
namespace Go.Proofs.Ytdfhajdejlhamaa
open Go Go.Fw
set_option linter.unusedVariables false
theorem begin_no {s : GS} (h : ¬ s.ph = 0) (roots : List Int) : beginG s roots = (9, s) := if_neg h
theorem begin_yes {s : GS} (h : s.ph = 0) (roots : List Int) : beginG s roots = (0, roots.foldl shadeG { s with ph := 1 }) := if_pos h
theorem shade_ph (s : GS) (x : Int) : (shadeG s x).ph = s.ph := by unfold shadeG; split <;> rfl
theorem shade_pl (s : GS) (x : Int) : (shadeG s x).pl = s.pl := by unfold shadeG; split <;> rfl
section
variable {w0 w : World} {M : Nat → Prop} {H : List It} {bd b2 : Nat} {s : GS}
theorem dcl_h (hm : gdI bd b2 s ∈ H) : Cl (HS w0 M H) (bat bd 0) (.pointer (some (bat b2 0))) := fun w hH => let ⟨_, hq⟩ := gd_readM hH hm; hq.c0
theorem dcl_p (hm : gdI bd b2 s ∈ H) : Cl (HS w0 M H) (bat bd 1) (.int .i64 s.ph) := fun w hH => let ⟨_, hq⟩ := gd_readM hH hm; hq.c1
theorem dcl_l (hm : gdI bd b2 s ∈ H) : Cl (HS w0 M H) (bat bd 4) (.int .i64 s.pl) := fun w hH => let ⟨_, hq⟩ := gd_readM hH hm; hq.c4
end
theorem reach0 {L : List Ob} {x : Int} (h : numW x = true ∨ ¬ isO L (addrN x)) : reachA L x = 0 := by
  unfold reachA
  rw [if_neg]
  rintro ⟨h1, h2⟩
  rcases h with h | h
  · rw [h] at h1; cases h1
  · exact h h2
theorem reach1 {L : List Ob} {x : Int} (h1 : numW x = false) (h2 : isO L (addrN x)) : reachA L x = addrN x := if_pos ⟨h1, h2⟩
theorem dr_new {N : Nat} {L : List Ob} : Dr ⟨0, L, List.replicate N 0, [], 0⟩ [] [] := by
  have hc : ∀ a, col ⟨0, L, List.replicate N 0, [], 0⟩ a = 0 := fun a => by
    unfold col
    rw [List.getD_eq_getElem?_getD, List.getElem?_replicate]
    split <;> rfl
  exact ⟨List.nodup_nil, fun a => by rw [hc]; simp, List.nodup_nil, fun a => by rw [hc]; simp⟩
theorem gd_new {w0 w : World} {M : Nat → Prop} {H : List It} {bd b2 N : Nat} {L : List Ob} (h : HS w0 M (own 3 1 none 0 0 [] :: own 3 1 none 0 0 [] :: cb bd 48 [.pointer (some (bat b2 0)), .int .i64 0, .slice none 0 0, .slice none 0 0, .int .i64 0] :: H) w) : HS w0 M (gdI bd b2 ⟨0, L, List.replicate N 0, [], 0⟩ :: H) w := by
  refine gd_shut ⟨[], [], none, 0, none, 0⟩ dr_new ?_
  exact h.perm (by show List.Perm _ ([cb bd 48 [.pointer (some (bat b2 0)), .int .i64 0, .slice none 0 0, .slice none 0 0, .int .i64 0], own 3 1 none 0 0 [], own 3 1 none 0 0 []] ++ H); exact (List.perm_middle (l₁ := [own 3 1 none 0 0 [], own 3 1 none 0 0 []])))
set_option maxRecDepth 10000 attribute [local irreducible] Code.wp wpList Calls Ex Op1 sat bat blk cb own Go.Fw.mp Go.Fw.mpO Go.Fw.mpI Go.Fw.mpE Go.Fw.itr HS Rd Ret wkD Hp Cl Cls Exit.then Exit.inBlock Exit.noGoto bodyPost Go.Fw.flat wk2 Go.Fw.all Go.Fw.owns wpOp
attribute [local irreducible] hdA gaps isA nextA allocA freeA sizeA kindA setA getA whiteZ numW addrW shadeG gcI hpI stepG beginG writeG allocG mu rfI inL findI objA reachA wo gdI

theorem dshade_spec (w0 : World) (M : Nat → Prop) (bd b2 N : Nat) (s : GS) (x : Int) (hok : GOk N s) (hU : U x) (hrf : ∀ H' w', HS w0 M H' w' → RfR w' b2 N s.L) (hH : HS w0 M [gdI bd b2 s] w0) :
    Ret Try.prog 74 #[.pointer (some (bat bd 0)), .int .u64 x] w0 (fun v w => HS w0 M [gdI bd b2 (shadeG s x)] w) := by
  have hn2 := hok.n2
  have hlen := hok.lay.len
  (refine enter (N := 28) Try.func74 rfl Try.ntmps74 rfl ?_; intro a hA; dsimp only [sl0, Nat.reduceAdd] at hA)
  repeat' (first | (first | (refine GT ?_ ?_ <;> intro hg <;> clear hA a <;> intro a hA <;> (first | exact FA | replace hg := of_decide_eq_true hg | replace hg := of_decide_eq_false hg | skip)) | ((first | apply st_ex hA hH rfl rfl (by decide) | apply dr_ex hA rfl rfl rfl (by decide) | apply dr_exp hA rfl rfl rfl (by decide) | apply dr_ex3 hA hH rfl rfl rfl (by decide)); (first | (apply ex_load; rfl; exact dcl_h MEMT)); clear hA a; intro a hA) | (refine QT ?_; clear hA a; intro a hA) | (first | (refine BT ?_; clear hA hH; rintro _ w ⟨bN, rfl, hH⟩ a hA) | (refine LT ?_; clear hA hH; rintro _ w ⟨oN, rfl, hH⟩ a hA) | (refine AT ?_; clear hA; rintro _ w ⟨oN, cN, rfl, hH2⟩ a hA; clear hH; have hH := (hH2 _ (by (repeat constructor))).tail; clear hH2) | (refine S0T ?_; clear hH; rintro _ w hH) )) | ((first | refine CT ?_ | (refine DT ?_ ?_ <;> intro hc <;> try (exfalso; omega))) <;> repeat' refine CT ?_) | (first | (refine DSK ?_; clear hA a; intro a hA) | (first | (refine DLT ?_; clear hA hH; rintro _ w ⟨oN, rfl, hH⟩; refine ⟨STT, ?_⟩; intro a hA) | (refine DAT ?_; clear hA; rintro _ w ⟨oN, cN, rfl, hH2⟩; clear hH; have hH := (hH2 _ (by (repeat constructor))).tail; clear hH2; refine ⟨STT, ?_⟩; intro a hA))) )
  (refine st_op hA rfl rfl (by decide) (op_call rfl rfl rfl (reaches_spec _ b2 N s.L x hU (by omega) (hrf _ _ hH))) ?_; clear hA; rintro _ w ⟨rfl, hk⟩ a hA; replace hH := hH.keep hk; clear hk)
  by_cases hc : numW x = true ∨ ¬ isO s.L (addrN x)
  · rw [reach0 hc] at hA
    have hs : shadeG s x = s := shade_no (by rcases hc with h | h; exact .inl h; exact .inr (.inl h))
    rw [hs]
    repeat' (first | (first | (refine GT ?_ ?_ <;> intro hg <;> clear hA a <;> intro a hA <;> (first | exact FA | replace hg := of_decide_eq_true hg | replace hg := of_decide_eq_false hg | skip)) | (refine QT ?_; clear hA a; intro a hA) | (first | (refine BT ?_; clear hA hH; rintro _ w ⟨bN, rfl, hH⟩ a hA) | (refine LT ?_; clear hA hH; rintro _ w ⟨oN, rfl, hH⟩ a hA) | (refine AT ?_; clear hA; rintro _ w ⟨oN, cN, rfl, hH2⟩ a hA; clear hH; have hH := (hH2 _ (by (repeat constructor))).tail; clear hH2) | (refine S0T ?_; clear hH; rintro _ w hH) )) | ((first | refine CT ?_ | (refine DT ?_ ?_ <;> intro hc <;> try (exfalso; omega))) <;> repeat' refine CT ?_) | (first | (refine DSK ?_; clear hA a; intro a hA) | (first | (refine DLT ?_; clear hA hH; rintro _ w ⟨oN, rfl, hH⟩; refine ⟨STT, ?_⟩; intro a hA) | (refine DAT ?_; clear hA; rintro _ w ⟨oN, cN, rfl, hH2⟩; clear hH; have hH := (hH2 _ (by (repeat constructor))).tail; clear hH2; refine ⟨STT, ?_⟩; intro a hA))) )
    exact rt0 (.inr rfl) rfl hA hH
  obtain ⟨hn, hO⟩ : numW x = false ∧ isO s.L (addrN x) := by
    refine ⟨?_, Decidable.not_not.1 fun h => hc (.inr h)⟩
    cases h : numW x with
    | false => rfl
    | true => exact absurd (.inl h) hc
  rw [reach1 hn hO] at hA
  have hlt := hok.lt hO
  have hwz : whiteZ s ((addrN x : Nat) : Int) = (col s (addrN x) == 0) := by unfold whiteZ; rw [isO_iff.2 hO, Int.toNat_natCast]; rfl
  by_cases hc0 : col s (addrN x) = 0
  rotate_left
  · have hs : shadeG s x = s := shade_no (.inr (.inr hc0))
    have hwf : whiteZ s ((addrN x : Nat) : Int) = false := by rw [hwz]; simpa using hc0
    rw [hs]
    repeat' (first | (first | (refine GT ?_ ?_ <;> intro hg <;> clear hA a <;> intro a hA <;> (first | exact FA | replace hg := of_decide_eq_true hg | replace hg := of_decide_eq_false hg | skip)) | ((first | apply st_ex hA hH rfl rfl (by decide) | apply dr_ex hA rfl rfl rfl (by decide) | apply dr_exp hA rfl rfl rfl (by decide) | apply dr_ex3 hA hH rfl rfl rfl (by decide)); (first | (apply ex_load; rfl; exact dcl_h MEMT)); clear hA a; intro a hA) | (refine QT ?_; clear hA a; intro a hA) | (first | (refine BT ?_; clear hA hH; rintro _ w ⟨bN, rfl, hH⟩ a hA) | (refine LT ?_; clear hA hH; rintro _ w ⟨oN, rfl, hH⟩ a hA) | (refine AT ?_; clear hA; rintro _ w ⟨oN, cN, rfl, hH2⟩ a hA; clear hH; have hH := (hH2 _ (by (repeat constructor))).tail; clear hH2) | (refine S0T ?_; clear hH; rintro _ w hH) | ((refine st_op hA rfl rfl (by decide) (op_call rfl rfl rfl (dwhite_spec _ bd b2 N s ((addrN x : Nat) : Int) hok (gd_readM hH (by exact MEMT)) (hrf _ _ hH))) ?_; clear hA; rintro _ w ⟨rfl, hk⟩ a hA; replace hH := hH.keep hk; clear hk); rw [hwf] at hA))) | ((first | refine CT ?_ | (refine DT ?_ ?_ <;> intro hc <;> try (exfalso; omega))) <;> repeat' refine CT ?_) | (first | (refine DSK ?_; clear hA a; intro a hA) | (first | (refine DLT ?_; clear hA hH; rintro _ w ⟨oN, rfl, hH⟩; refine ⟨STT, ?_⟩; intro a hA) | (refine DAT ?_; clear hA; rintro _ w ⟨oN, cN, rfl, hH2⟩; clear hH; have hH := (hH2 _ (by (repeat constructor))).tail; clear hH2; refine ⟨STT, ?_⟩; intro a hA))) )
    exact rt0 (.inr rfl) rfl hA hH
  have hwt : whiteZ s ((addrN x : Nat) : Int) = true := by rw [hwz, hc0]; rfl
  repeat' (first | (first | (refine GT ?_ ?_ <;> intro hg <;> clear hA a <;> intro a hA <;> (first | exact FA | replace hg := of_decide_eq_true hg | replace hg := of_decide_eq_false hg | skip)) | ((first | apply st_ex hA hH rfl rfl (by decide) | apply dr_ex hA rfl rfl rfl (by decide) | apply dr_exp hA rfl rfl rfl (by decide) | apply dr_ex3 hA hH rfl rfl rfl (by decide)); (first | (apply ex_load; rfl; exact dcl_h MEMT)); clear hA a; intro a hA) | (refine QT ?_; clear hA a; intro a hA) | (first | (refine BT ?_; clear hA hH; rintro _ w ⟨bN, rfl, hH⟩ a hA) | (refine LT ?_; clear hA hH; rintro _ w ⟨oN, rfl, hH⟩ a hA) | (refine AT ?_; clear hA; rintro _ w ⟨oN, cN, rfl, hH2⟩ a hA; clear hH; have hH := (hH2 _ (by (repeat constructor))).tail; clear hH2) | (refine S0T ?_; clear hH; rintro _ w hH) | ((refine st_op hA rfl rfl (by decide) (op_call rfl rfl rfl (dwhite_spec _ bd b2 N s ((addrN x : Nat) : Int) hok (gd_readM hH (by exact MEMT)) (hrf _ _ hH))) ?_; clear hA; rintro _ w ⟨rfl, hk⟩ a hA; replace hH := hH.keep hk; clear hk); rw [hwt] at hA; obtain ⟨q, hd, hH2⟩ := gd_open hH; clear hH; have hH := hH2; clear hH2; unfold gdQ at hH; have hGl := hd.Gle hok) | (apply st_op0 hA rfl rfl; apply op_store_fld; rfl; rfl; rfl; exact hH; (repeat constructor); (repeat rfl); clear hH; rintro _ w hH))) | ((first | refine CT ?_ | (refine DT ?_ ?_ <;> intro hc <;> try (exfalso; omega))) <;> repeat' refine CT ?_) | (first | (refine DSK ?_; clear hA a; intro a hA) | (first | (refine DLT ?_; clear hA hH; rintro _ w ⟨oN, rfl, hH⟩; refine ⟨STT, ?_⟩; intro a hA) | (refine DAT ?_; clear hA; rintro _ w ⟨oN, cN, rfl, hH2⟩; clear hH; have hH := (hH2 _ (by (repeat constructor))).tail; clear hH2; refine ⟨STT, ?_⟩; intro a hA))) )
  refine rt0 (.inr rfl) rfl hA ?_
  have hd2 := hd.shade hok hn hO hc0
  have hl1 : q.G.length + 1 = (q.G ++ [addrN x]).length := by rw [List.length_append]; rfl
  rw [snocN, hl1] at hH
  have hH2 : HS w0 M [gdI bd b2 (shadeG s x)] w := by
    refine gd_shut ⟨q.G ++ [addrN x], q.B, oN, cN, q.oB, q.cB⟩ hd2 ?_
    unfold gdQ
    rw [shade_ph, shade_pl]
    exact hH.perm (by (repeat (first | exact List.Perm.nil | refine perm_pick 0 rfl ?_ | refine perm_pick 1 rfl ?_ | refine perm_pick 2 rfl ?_ | refine perm_pick 3 rfl ?_ | refine perm_pick 4 rfl ?_ | refine perm_pick 5 rfl ?_ | refine perm_pick 6 rfl ?_ | refine perm_pick 7 rfl ?_ | refine perm_pick 8 rfl ?_ | refine perm_pick 9 rfl ?_ | refine perm_pick 10 rfl ?_ | refine perm_pick 11 rfl ?_)))
  exact hH2
theorem dshade_f {w0 w : World} {M : Nat → Prop} {H : List It} {bd b2 N : Nat} {s : GS} {L : List Ob} {x : Int} (hH : HS w0 M (gdI bd b2 s :: rfI b2 N L :: H) w) (hok : GOk N s) (hU : U x) (hL : s.L = L) :
    Ret Try.prog 74 #[.pointer (some (bat bd 0)), .int .u64 x] w (fun v w' => HS w0 M (gdI bd b2 (shadeG s x) :: rfI b2 N L :: H) w') := by
  subst hL
  obtain ⟨Mc, h1, -, h2⟩ := HS.frame (Hc := [gdI bd b2 s]) (Hf := rfI b2 N s.L :: H) hH
  exact (dshade_spec w Mc bd b2 N s x hok hU (fun H' w' hw => rf_readM (h2 _ _ hw) (List.mem_append_right _ (.head _))) h1).mono fun v w' h3 => h2 _ _ h3
/-- where the document's heap is only looked at -/
theorem dshade_g {w0 w : World} {M : Nat → Prop} {H : List It} {bd b2 N : Nat} {s : GS} {L : List Ob} {x : Int} (hH : HS w0 M (gdI bd b2 s :: H) w) (hrf : ∀ H' w', HS w0 M H' w' → RfR w' b2 N L) (hok : GOk N s) (hU : U x) (hL : s.L = L) :
    Ret Try.prog 74 #[.pointer (some (bat bd 0)), .int .u64 x] w (fun v w' => HS w0 M (gdI bd b2 (shadeG s x) :: H) w') := by
  subst hL
  obtain ⟨Mc, h1, -, h2⟩ := HS.frame (Hc := [gdI bd b2 s]) (Hf := H) hH
  exact (dshade_spec w Mc bd b2 N s x hok hU (fun H' w' hw => hrf _ _ (h2 _ _ hw)) h1).mono fun v w' h3 => h2 _ _ h3

set_option maxHeartbeats 4000000 in
theorem dbegin_spec (w0 : World) (M : Nat → Prop) (bd b2 N : Nat) (s : GS) (roots : List Int) (oR : Option Addr) (cR : Nat) (hok : GOk N s) (hU : ∀ x ∈ roots, U x) (hl : roots.length ≤ 140737488355328) (hrd : ∀ H' w', HS w0 M H' w' → Rd w' oR (flat encW roots)) (hH : HS w0 M [gdI bd b2 s, rfI b2 N s.L] w0) :
    Ret Try.prog 48 #[.pointer (some (bat bd 0)), .slice oR roots.length cR] w0 (fun v w => v = .int .i64 (beginG s roots).1 ∧ HS w0 M [gdI bd b2 (beginG s roots).2, rfI b2 N s.L] w) := by
  have hspR : Sp oR roots.length := (hrd _ _ hH).sp (sz := 1) (flat_length encW_len _) (by omega)
  (refine enter (N := 26) Try.func48 rfl Try.ntmps48 rfl ?_; intro a hA; dsimp only [sl0, Nat.reduceAdd] at hA)
  by_cases hp : s.ph = 0
  rotate_left
  · have e := begin_no hp roots
    rw [e]
    repeat' (first | (first | (refine GT ?_ ?_ <;> intro hg <;> clear hA a <;> intro a hA <;> (first | exact FA | replace hg := of_decide_eq_true hg | replace hg := of_decide_eq_false hg | skip)) | ((first | apply st_ex hA hH rfl rfl (by decide) | apply dr_ex hA rfl rfl rfl (by decide) | apply dr_exp hA rfl rfl rfl (by decide) | apply dr_ex3 hA hH rfl rfl rfl (by decide)); (first | (apply ex_load; rfl; exact dcl_p MEMT)); clear hA a; intro a hA) | (refine QT ?_; clear hA a; intro a hA) | (first | (refine BT ?_; clear hA hH; rintro _ w ⟨bN, rfl, hH⟩ a hA) | (refine LT ?_; clear hA hH; rintro _ w ⟨oN, rfl, hH⟩ a hA) | (refine AT ?_; clear hA; rintro _ w ⟨oN, cN, rfl, hH2⟩ a hA; clear hH; have hH := (hH2 _ (by (repeat constructor))).tail; clear hH2) | (refine S0T ?_; clear hH; rintro _ w hH) )) | ((first | refine CT ?_ | (refine DT ?_ ?_ <;> intro hc <;> try (exfalso; omega))) <;> repeat' refine CT ?_) | (first | (refine DSK ?_; clear hA a; intro a hA) | (first | (refine DLT ?_; clear hA hH; rintro _ w ⟨oN, rfl, hH⟩; refine ⟨STT, ?_⟩; intro a hA) | (refine DAT ?_; clear hA; rintro _ w ⟨oN, cN, rfl, hH2⟩; clear hH; have hH := (hH2 _ (by (repeat constructor))).tail; clear hH2; refine ⟨STT, ?_⟩; intro a hA))) )
    exact rt1 (.inl rfl) rfl hA rfl ⟨rfl, hH⟩
  have e := begin_yes hp roots
  rw [e]
  have hok1 := begin_pre hok hp
  repeat' (first | (first | (refine GT ?_ ?_ <;> intro hg <;> clear hA a <;> intro a hA <;> (first | exact FA | replace hg := of_decide_eq_true hg | replace hg := of_decide_eq_false hg | skip)) | ((first | apply st_ex hA hH rfl rfl (by decide) | apply dr_ex hA rfl rfl rfl (by decide) | apply dr_exp hA rfl rfl rfl (by decide) | apply dr_ex3 hA hH rfl rfl rfl (by decide)); (first | (apply ex_load; rfl; exact dcl_p MEMT)); clear hA a; intro a hA) | (refine QT ?_; clear hA a; intro a hA) | (first | (refine BT ?_; clear hA hH; rintro _ w ⟨bN, rfl, hH⟩ a hA) | (refine LT ?_; clear hA hH; rintro _ w ⟨oN, rfl, hH⟩ a hA) | (refine AT ?_; clear hA; rintro _ w ⟨oN, cN, rfl, hH2⟩ a hA; clear hH; have hH := (hH2 _ (by (repeat constructor))).tail; clear hH2) | (refine S0T ?_; clear hH; rintro _ w hH) )) | ((first | refine CT ?_ | (refine DT ?_ ?_ <;> intro hc <;> try (exfalso; omega))) <;> repeat' refine CT ?_) | (first | (refine DSK ?_; clear hA a; intro a hA) | (first | (refine DLT ?_; clear hA hH; rintro _ w ⟨oN, rfl, hH⟩; refine ⟨STT, ?_⟩; intro a hA) | (refine DAT ?_; clear hA; rintro _ w ⟨oN, cN, rfl, hH2⟩; clear hH; have hH := (hH2 _ (by (repeat constructor))).tail; clear hH2; refine ⟨STT, ?_⟩; intro a hA))) )
  obtain ⟨q, hd, hH2⟩ := gd_open hH
  clear hH
  have hH := hH2
  clear hH2
  unfold gdQ at hH
  repeat' (first | (first | (refine GT ?_ ?_ <;> intro hg <;> clear hA a <;> intro a hA <;> (first | exact FA | replace hg := of_decide_eq_true hg | replace hg := of_decide_eq_false hg | skip)) | (refine QT ?_; clear hA a; intro a hA) | (first | (refine BT ?_; clear hA hH; rintro _ w ⟨bN, rfl, hH⟩ a hA) | (refine LT ?_; clear hA hH; rintro _ w ⟨oN, rfl, hH⟩ a hA) | (refine AT ?_; clear hA; rintro _ w ⟨oN, cN, rfl, hH2⟩ a hA; clear hH; have hH := (hH2 _ (by (repeat constructor))).tail; clear hH2) | (refine S0T ?_; clear hH; rintro _ w hH) | (apply st_op0 hA rfl rfl; apply op_store_fld; rfl; rfl; rfl; exact hH; (repeat constructor); (repeat rfl); clear hH; rintro _ w hH))) | ((first | refine CT ?_ | (refine DT ?_ ?_ <;> intro hc <;> try (exfalso; omega))) <;> repeat' refine CT ?_) | (first | (refine DSK ?_; clear hA a; intro a hA) | (first | (refine DLT ?_; clear hA hH; rintro _ w ⟨oN, rfl, hH⟩; refine ⟨STT, ?_⟩; intro a hA) | (refine DAT ?_; clear hA; rintro _ w ⟨oN, cN, rfl, hH2⟩; clear hH; have hH := (hH2 _ (by (repeat constructor))).tail; clear hH2; refine ⟨STT, ?_⟩; intro a hA))) )
  replace hH : HS w0 M [gdI bd b2 { s with ph := 1 }, rfI b2 N s.L] w := gd_shut q (hd.same fun _ => rfl) hH
  refine wp_lpj (S := Nat) (fun i a w => i ≤ roots.length ∧ HS w0 M [gdI bd b2 ((roots.take i).foldl shadeG { s with ph := 1 }), rfI b2 N s.L] w ∧ Sl 26 [(0, .pointer (some (bat bd 0))), (1, .slice oR roots.length cR), (5, .int .i64 i)] a) (fun i => roots.length - i)
    (fun a w => HS w0 M [gdI bd b2 (roots.foldl shadeG { s with ph := 1 }), rfI b2 N s.L] w ∧ Sl 26 [] a) 0 ⟨Nat.zero_le _, hH, (hA.sub (by (repeat (first | exact trivial | refine ⟨rfl, ?_⟩))))⟩ ?_ ?_
  rotate_left
  · clear hA hH
    rintro a w ⟨hH, hA⟩
    repeat' (first | (first | (refine GT ?_ ?_ <;> intro hg <;> clear hA a <;> intro a hA <;> (first | exact FA | replace hg := of_decide_eq_true hg | replace hg := of_decide_eq_false hg | skip)) | (refine QT ?_; clear hA a; intro a hA) | (first | (refine BT ?_; clear hA hH; rintro _ w ⟨bN, rfl, hH⟩ a hA) | (refine LT ?_; clear hA hH; rintro _ w ⟨oN, rfl, hH⟩ a hA) | (refine AT ?_; clear hA; rintro _ w ⟨oN, cN, rfl, hH2⟩ a hA; clear hH; have hH := (hH2 _ (by (repeat constructor))).tail; clear hH2) | (refine S0T ?_; clear hH; rintro _ w hH) )) | ((first | refine CT ?_ | (refine DT ?_ ?_ <;> intro hc <;> try (exfalso; omega))) <;> repeat' refine CT ?_) | (first | (refine DSK ?_; clear hA a; intro a hA) | (first | (refine DLT ?_; clear hA hH; rintro _ w ⟨oN, rfl, hH⟩; refine ⟨STT, ?_⟩; intro a hA) | (refine DAT ?_; clear hA; rintro _ w ⟨oN, cN, rfl, hH2⟩; clear hH; have hH := (hH2 _ (by (repeat constructor))).tail; clear hH2; refine ⟨STT, ?_⟩; intro a hA))) )
    exact rt1 (.inl rfl) rfl hA rfl ⟨rfl, hH⟩
  clear hA hH
  rintro i a w ⟨hi, hH, hA⟩
  by_cases hlt : i < roots.length
  rotate_left
  · rw [List.take_of_length_le (by omega)] at hH
    repeat' (first | (first | (refine GT ?_ ?_ <;> intro hg <;> clear hA a <;> intro a hA <;> (first | exact FA | replace hg := of_decide_eq_true hg | replace hg := of_decide_eq_false hg | skip)) | (refine QT ?_; clear hA a; intro a hA) | (first | (refine BT ?_; clear hA hH; rintro _ w ⟨bN, rfl, hH⟩ a hA) | (refine LT ?_; clear hA hH; rintro _ w ⟨oN, rfl, hH⟩ a hA) | (refine AT ?_; clear hA; rintro _ w ⟨oN, cN, rfl, hH2⟩ a hA; clear hH; have hH := (hH2 _ (by (repeat constructor))).tail; clear hH2) | (refine S0T ?_; clear hH; rintro _ w hH) )) | ((first | refine CT ?_ | (refine DT ?_ ?_ <;> intro hc <;> try (exfalso; omega))) <;> repeat' refine CT ?_) | (first | (refine DSK ?_; clear hA a; intro a hA) | (first | (refine DLT ?_; clear hA hH; rintro _ w ⟨oN, rfl, hH⟩; refine ⟨STT, ?_⟩; intro a hA) | (refine DAT ?_; clear hA; rintro _ w ⟨oN, cN, rfl, hH2⟩; clear hH; have hH := (hH2 _ (by (repeat constructor))).tail; clear hH2; refine ⟨STT, ?_⟩; intro a hA))) )
    exact ⟨hH, (hA.sub (by (repeat (first | exact trivial | refine ⟨rfl, ?_⟩))))⟩
  obtain ⟨x, hx⟩ : ∃ x, roots[i]? = some x := ⟨_, List.getElem?_eq_getElem hlt⟩
  have hcx : (flat encW roots)[i * 1]? = some (.int .u64 x) := flat_get0 encW_len hx rfl
  obtain ⟨g1, g2, g3, g4, g5⟩ := shades_ok (s := { s with ph := 1 }) rfl hok1 (roots.take i)
  have hst : (roots.take (i + 1)).foldl shadeG { s with ph := 1 } = shadeG ((roots.take i).foldl shadeG { s with ph := 1 }) x := by
    rw [List.take_add_one, hx]
    simp
  have hclx : Cl (HS w0 M [gdI bd b2 ((roots.take i).foldl shadeG { s with ph := 1 }), rfI b2 N s.L]) (sat oR (i * 1)) (.int .u64 x) := cl_rdH hrd hcx
  repeat' (first | (first | (refine GT ?_ ?_ <;> intro hg <;> clear hA a <;> intro a hA <;> (first | exact FA | replace hg := of_decide_eq_true hg | replace hg := of_decide_eq_false hg | skip)) | ((first | apply st_ex hA hH rfl rfl (by decide) | apply dr_ex hA rfl rfl rfl (by decide) | apply dr_exp hA rfl rfl rfl (by decide) | apply dr_ex3 hA hH rfl rfl rfl (by decide)); (first | (apply ex_load; rfl; exact hclx)); clear hA a; intro a hA) | (refine QT ?_; clear hA a; intro a hA) | (first | (refine BT ?_; clear hA hH; rintro _ w ⟨bN, rfl, hH⟩ a hA) | (refine LT ?_; clear hA hH; rintro _ w ⟨oN, rfl, hH⟩ a hA) | (refine AT ?_; clear hA; rintro _ w ⟨oN, cN, rfl, hH2⟩ a hA; clear hH; have hH := (hH2 _ (by (repeat constructor))).tail; clear hH2) | (refine S0T ?_; clear hH; rintro _ w hH) )) | ((first | refine CT ?_ | (refine DT ?_ ?_ <;> intro hc <;> try (exfalso; omega))) <;> repeat' refine CT ?_) | (first | (refine DSK ?_; clear hA a; intro a hA) | (first | (refine DLT ?_; clear hA hH; rintro _ w ⟨oN, rfl, hH⟩; refine ⟨STT, ?_⟩; intro a hA) | (refine DAT ?_; clear hA; rintro _ w ⟨oN, cN, rfl, hH2⟩; clear hH; have hH := (hH2 _ (by (repeat constructor))).tail; clear hH2; refine ⟨STT, ?_⟩; intro a hA))) )
  (refine st_op hA rfl rfl (by decide) (op_call rfl rfl rfl (dshade_f hH g1 (hU x (List.mem_of_getElem? hx)) g2)) ?_; clear hA hH; rintro _ w hH a hA)
  rw [← hst] at hH
  repeat' (first | (first | (refine GT ?_ ?_ <;> intro hg <;> clear hA a <;> intro a hA <;> (first | exact FA | replace hg := of_decide_eq_true hg | replace hg := of_decide_eq_false hg | skip)) | (refine QT ?_; clear hA a; intro a hA) | (first | (refine BT ?_; clear hA hH; rintro _ w ⟨bN, rfl, hH⟩ a hA) | (refine LT ?_; clear hA hH; rintro _ w ⟨oN, rfl, hH⟩ a hA) | (refine AT ?_; clear hA; rintro _ w ⟨oN, cN, rfl, hH2⟩ a hA; clear hH; have hH := (hH2 _ (by (repeat constructor))).tail; clear hH2) | (refine S0T ?_; clear hH; rintro _ w hH) )) | ((first | refine CT ?_ | (refine DT ?_ ?_ <;> intro hc <;> try (exfalso; omega))) <;> repeat' refine CT ?_) | (first | (refine DSK ?_; clear hA a; intro a hA) | (first | (refine DLT ?_; clear hA hH; rintro _ w ⟨oN, rfl, hH⟩; refine ⟨STT, ?_⟩; intro a hA) | (refine DAT ?_; clear hA; rintro _ w ⟨oN, cN, rfl, hH2⟩; clear hH; have hH := (hH2 _ (by (repeat constructor))).tail; clear hH2; refine ⟨STT, ?_⟩; intro a hA))) )
  exact ⟨i + 1, ⟨hlt, hH, (hA.sub (by (repeat (first | exact trivial | refine ⟨rfl, ?_⟩))))⟩, by omega⟩
theorem dbegin_f {w0 w : World} {M : Nat → Prop} {H : List It} {bd b2 N : Nat} {s : GS} {L : List Ob} {roots : List Int} {oR : Option Addr} {cR : Nat} (hH : HS w0 M (gdI bd b2 s :: rfI b2 N L :: H) w) (hok : GOk N s) (hU : ∀ x ∈ roots, U x) (hl : roots.length ≤ 140737488355328) (hrd : ∀ Hc w', HS w0 M (Hc ++ H) w' → Rd w' oR (flat encW roots)) (hL : s.L = L) :
    Ret Try.prog 48 #[.pointer (some (bat bd 0)), .slice oR roots.length cR] w (fun v w' => v = .int .i64 (beginG s roots).1 ∧ HS w0 M (gdI bd b2 (beginG s roots).2 :: rfI b2 N (beginG s roots).2.L :: H) w') := by
  subst hL
  rw [begin_L hok]
  obtain ⟨Mc, h1, -, h2⟩ := HS.frame (Hc := [gdI bd b2 s, rfI b2 N s.L]) (Hf := H) hH
  exact (dbegin_spec w Mc bd b2 N s roots oR cR hok hU hl (fun H' w' hw => hrd _ _ (h2 _ _ hw)) h1).mono fun v w' ⟨h3, h4⟩ => ⟨h3, h2 _ _ h4⟩

theorem dnew_f {w0 w : World} {M : Nat → Prop} {H : List It} {b2 N : Nat} {L : List Ob} (hH : HS w0 M H w) :
    Ret Try.prog 42 #[.pointer (some (bat b2 0))] w (fun v w' => ∃ bd, v = .pointer (some (bat bd 0)) ∧ HS w0 M (gdI bd b2 ⟨0, L, List.replicate N 0, [], 0⟩ :: H) w') := by
  (refine enter (N := 6) Try.func42 rfl Try.ntmps42 rfl ?_; intro a hA; dsimp only [sl0, Nat.reduceAdd] at hA)
  repeat' (first | (first | (refine GT ?_ ?_ <;> intro hg <;> clear hA a <;> intro a hA <;> (first | exact FA | replace hg := of_decide_eq_true hg | replace hg := of_decide_eq_false hg | skip)) | ((first | apply st_ex hA hH rfl rfl (by decide) | apply dr_ex hA rfl rfl rfl (by decide) | apply dr_exp hA rfl rfl rfl (by decide) | apply dr_ex3 hA hH rfl rfl rfl (by decide)); (first | (apply ex_build_p #[.pointer (some (bat b2 0)), .int .i64 0, .slice none 0 0, .slice none 0 0, .int .i64 0]; rfl; (repeat (first | (intro _ h; exact absurd h (List.not_mem_nil)) | (refine List.forall_mem_cons.2 ⟨one_cell_of _ _, ?_⟩))); rfl)); clear hA a; intro a hA) | (refine QT ?_; clear hA a; intro a hA) | (first | (refine BT ?_; clear hA hH; rintro _ w ⟨bN, rfl, hH⟩ a hA) | (refine LT ?_; clear hA hH; rintro _ w ⟨oN, rfl, hH⟩ a hA) | (refine AT ?_; clear hA; rintro _ w ⟨oN, cN, rfl, hH2⟩ a hA; clear hH; have hH := (hH2 _ (by (repeat constructor))).tail; clear hH2) | (refine S0T ?_; clear hH; rintro _ w hH) )) | ((first | refine CT ?_ | (refine DT ?_ ?_ <;> intro hc <;> try (exfalso; omega))) <;> repeat' refine CT ?_) | (first | (refine DSK ?_; clear hA a; intro a hA) | (first | (refine DLT ?_; clear hA hH; rintro _ w ⟨oN, rfl, hH⟩; refine ⟨STT, ?_⟩; intro a hA) | (refine DAT ?_; clear hA; rintro _ w ⟨oN, cN, rfl, hH2⟩; clear hH; have hH := (hH2 _ (by (repeat constructor))).tail; clear hH2; refine ⟨STT, ?_⟩; intro a hA))) )
  replace hH := (hH.nil_own 3 1).nil_own 3 1
  exact rt1 (.inl rfl) rfl hA rfl ⟨bN, rfl, gd_new hH⟩
end Go.Proofs.Ytdfhajdejlhamaa
namespace Go.Proofs.Ytdfhajdejlhamaa
open Go Go.Fw
set_option linter.unusedVariables false
theorem last_min {l g : List Nat} {a : Nat} (h : l.Pairwise (· > ·)) (hl : l = g ++ [a]) : ∀ y ∈ l, a ≤ y := by
  subst hl
  rw [List.pairwise_append] at h
  intro y hy
  rcases List.mem_append.1 hy with hy | hy
  · have := h.2.2 y hy a (by simp)
    omega
  · rw [List.mem_singleton.1 hy]
    exact Nat.le_refl _
theorem Rd.cls {w0 : World} {M : Nat → Prop} {H : List It} {j : Nat} {o : Option Addr} {xs vs : List Value} (hr : ∀ w', HS w0 M H w' → Rd w' o xs) (hv : ∀ i v, vs[i]? = some v → xs[j + i]? = some v) : Cls (HS w0 M H) (sat o j) vs := by
  intro w hH i v hi
  rw [sat_add]
  exact (hr w hH).2 _ v (hv i v hi)
theorem mark_is {N : Nat} {s : GS} (hok : GOk N s) {o : Ob} (ho : o ∈ s.L) : markG s o.a = if o.kind = 1 then blackG s o.a else o.fs.foldl shadeG (blackG s o.a) := by
  unfold markG
  rw [(fsA_at hok.lay ho).1, (fsA_at hok.lay ho).2]
theorem take_fold {l : List Int} {i : Nat} {x : Int} (h : l[i]? = some x) (s : GS) : (l.take (i + 1)).foldl shadeG s = shadeG ((l.take i).foldl shadeG s) x := by
  rw [List.take_add_one, h]
  simp
theorem black_ph (s : GS) (a : Nat) : (blackG s a).ph = s.ph ∧ (blackG s a).pl = s.pl ∧ (blackG s a).L = s.L := ⟨rfl, rfl, rfl⟩
set_option maxRecDepth 10000 attribute [local irreducible] Code.wp wpList Calls Ex Op1 sat bat blk cb own Go.Fw.mp Go.Fw.mpO Go.Fw.mpI Go.Fw.mpE Go.Fw.itr HS Rd Ret wkD Hp Cl Cls Exit.then Exit.inBlock Exit.noGoto bodyPost Go.Fw.flat wk2 Go.Fw.all Go.Fw.owns wpOp
attribute [local irreducible] hdA gaps isA nextA allocA freeA sizeA kindA setA getA whiteZ numW addrW shadeG gcI hpI stepG beginG writeG allocG mu rfI inL findI objA reachA wo gdI markG blackG

set_option maxHeartbeats 4000000 in
theorem dmark_spec (w0 : World) (M : Nat → Prop) (bd b2 N : Nat) (s : GS) (q2 : RQ) (a0 : Nat) (hok : GOk N s) (h0 : s.ph = 1) (ha : s.gr.getLast? = some a0) (hrq : ∀ H' w', HS w0 M H' w' → RfQ w' b2 N s.L q2) (hH : HS w0 M [gdI bd b2 s] w0) :
    Ret Try.prog 57 #[.pointer (some (bat bd 0))] w0 (fun v w => v = .bool false ∧ HS w0 M [gdI bd b2 (markG s a0)] w) := by
  have hn2 := hok.n2
  have hlen := hok.lay.len
  have hrf : ∀ H' w', HS w0 M H' w' → RfR w' b2 N s.L := fun H' w' h => ⟨q2, hrq _ _ h⟩
  obtain ⟨hokB, hc1, hcB⟩ := black_ok hok h0 ha
  obtain ⟨g, hg⟩ := List.getLast?_eq_some_iff.1 ha
  have hmin := last_min hok.grs hg
  have hO := hok.obj a0 (by omega)
  have hlt0 := hok.lt hO
  obtain ⟨j, o, hj, hLj, rfl, ho⟩ := find_is hok.lay hO
  have hm := mark_is hok ho
  have hq0 := hrq _ _ hH
  obtain ⟨d, cd, hd1, hrd0, ca, ck, cf⟩ := hq0.at hLj
  have hkd := hok.kd o ho
  have hspq := hq0.sp
  have hjl := (List.getElem?_eq_some_iff.1 hLj).1
  have hspd : Sp d o.fs.length := hrd0.sp (sz := 1) (flat_length encW_len o.fs) (by omega)
  have hrd : ∀ H' w', HS w0 M H' w' → Rd w' d (flat encW o.fs) := fun H' w' h => by
    obtain ⟨d', c', h1, h2, _⟩ := (hrq _ _ h).at hLj
    rw [hd1] at h1
    simp only [Option.some.injEq, Prod.mk.injEq] at h1
    rw [h1.1]
    exact h2
  have hvs := flat_all encO_len (zip_at hLj hd1)
  obtain ⟨q, hd, hH2⟩ := gd_open hH
  clear hH
  have hH := hH2
  clear hH2
  unfold gdQ at hH
  have hGle := hd.Gle hok
  have hBle := hd.Ble hok
  have hgm : o.a ∈ q.G := (hd.mG _).2 hc1
  have hGpos : 0 < q.G.length := List.length_pos_of_mem hgm
  have hminG : ∀ y ∈ q.G, o.a ≤ y := fun y hy => hmin y ((hok.grm y).2 ((hd.mG y).1 hy))
  obtain ⟨g0, hg0⟩ : ∃ x, q.G[0]? = some x := ⟨_, List.getElem?_eq_getElem hGpos⟩
  have hcg0 : (flat encN q.G)[0]? = some (.int .i64 (g0 : Int)) := encN_at hg0
  have hspG : Sp q.oG q.G.length := hH.own_sp (o := q.oG) (by exact MEMT)
  (refine enter (N := 158) Try.func57 rfl Try.ntmps57 rfl ?_; intro a hA; dsimp only [sl0, Nat.reduceAdd] at hA)
  repeat' (first | (first | (refine GT ?_ ?_ <;> intro hg <;> clear hA a <;> intro a hA <;> (first | exact FA | replace hg := of_decide_eq_true hg | replace hg := of_decide_eq_false hg | skip)) | (refine QT ?_; clear hA a; intro a hA) | (first | (refine BT ?_; clear hA hH; rintro _ w ⟨bN, rfl, hH⟩ a hA) | (refine LT ?_; clear hA hH; rintro _ w ⟨oN, rfl, hH⟩ a hA) | (refine AT ?_; clear hA; rintro _ w ⟨oN, cN, rfl, hH2⟩ a hA; clear hH; have hH := (hH2 _ (by (repeat constructor))).tail; clear hH2) | (refine S0T ?_; clear hH; rintro _ w hH) )) | ((first | refine CT ?_ | (refine DT ?_ ?_ <;> intro hc <;> try (exfalso; omega))) <;> repeat' refine CT ?_) | (first | (refine DSK ?_; clear hA a; intro a hA) | (first | (refine DLT ?_; clear hA hH; rintro _ w ⟨oN, rfl, hH⟩; refine ⟨STT, ?_⟩; intro a hA) | (refine DAT ?_; clear hA; rintro _ w ⟨oN, cN, rfl, hH2⟩; clear hH; have hH := (hH2 _ (by (repeat constructor))).tail; clear hH2; refine ⟨STT, ?_⟩; intro a hA))) )
  rw [List.append_nil] at hH
  refine wp_lpk (S := Nat × Nat) (fun p a w => (p.1 ≤ q.G.length ∧ p.2 ∈ q.G ∧ ∀ (k y : Nat), k < p.1 → q.G[k]? = some y → p.2 ≤ y) ∧ HS w0 M (gdQ bd b2 s q) w ∧ Sl 158 [(0, .pointer (some (bat bd 0))), (3, .int .i64 (p.2 : Nat)), (4, .int .i64 p.1)] a) (fun p => q.G.length - p.1)
    (fun a w => HS w0 M (gdQ bd b2 s q) w ∧ Sl 158 [(0, .pointer (some (bat bd 0))), (3, .int .i64 (o.a : Nat))] a) (0, g0) ⟨⟨Nat.zero_le _, List.mem_of_getElem? hg0, fun k y hk => absurd hk (Nat.not_lt_zero _)⟩, hH, (hA.sub (by (repeat (first | exact trivial | refine ⟨rfl, ?_⟩))))⟩ ?_ ?_
  · clear hA hH
    rintro ⟨i, m⟩ a w ⟨⟨hi, hmm, hle⟩, hH, hA⟩
    dsimp only at hi hmm hle hH hA
    unfold gdQ at hH
    by_cases hlt : i < q.G.length
    rotate_left
    · have hma : m = o.a := Nat.le_antisymm (by obtain ⟨k, hk⟩ := List.getElem?_of_mem hgm; exact hle k _ (by have := (List.getElem?_eq_some_iff.1 hk).1; omega) hk) (hminG m hmm)
      subst hma
      repeat' (first | (first | (refine GT ?_ ?_ <;> intro hg <;> clear hA a <;> intro a hA <;> (first | exact FA | replace hg := of_decide_eq_true hg | replace hg := of_decide_eq_false hg | skip)) | (refine QT ?_; clear hA a; intro a hA) | (first | (refine BT ?_; clear hA hH; rintro _ w ⟨bN, rfl, hH⟩ a hA) | (refine LT ?_; clear hA hH; rintro _ w ⟨oN, rfl, hH⟩ a hA) | (refine AT ?_; clear hA; rintro _ w ⟨oN, cN, rfl, hH2⟩ a hA; clear hH; have hH := (hH2 _ (by (repeat constructor))).tail; clear hH2) | (refine S0T ?_; clear hH; rintro _ w hH) )) | ((first | refine CT ?_ | (refine DT ?_ ?_ <;> intro hc <;> try (exfalso; omega))) <;> repeat' refine CT ?_) | (first | (refine DSK ?_; clear hA a; intro a hA) | (first | (refine DLT ?_; clear hA hH; rintro _ w ⟨oN, rfl, hH⟩; refine ⟨STT, ?_⟩; intro a hA) | (refine DAT ?_; clear hA; rintro _ w ⟨oN, cN, rfl, hH2⟩; clear hH; have hH := (hH2 _ (by (repeat constructor))).tail; clear hH2; refine ⟨STT, ?_⟩; intro a hA))) )
      exact ⟨hH, (hA.sub (by (repeat (first | exact trivial | refine ⟨rfl, ?_⟩))))⟩
    obtain ⟨y, hy⟩ : ∃ x, q.G[i]? = some x := ⟨_, List.getElem?_eq_getElem hlt⟩
    have hcy := encN_at hy
    have hym := List.mem_of_getElem? hy
    repeat' (first | (first | (refine GT ?_ ?_ <;> intro hg <;> clear hA a <;> intro a hA <;> (first | exact FA | replace hg := of_decide_eq_true hg | replace hg := of_decide_eq_false hg | skip)) | (refine QT ?_; clear hA a; intro a hA) | (first | (refine BT ?_; clear hA hH; rintro _ w ⟨bN, rfl, hH⟩ a hA) | (refine LT ?_; clear hA hH; rintro _ w ⟨oN, rfl, hH⟩ a hA) | (refine AT ?_; clear hA; rintro _ w ⟨oN, cN, rfl, hH2⟩ a hA; clear hH; have hH := (hH2 _ (by (repeat constructor))).tail; clear hH2) | (refine S0T ?_; clear hH; rintro _ w hH) )) | ((first | refine CT ?_ | (refine DT ?_ ?_ <;> intro hc <;> try (exfalso; omega))) <;> repeat' refine CT ?_) | (first | (refine DSK ?_; clear hA a; intro a hA) | (first | (refine DLT ?_; clear hA hH; rintro _ w ⟨oN, rfl, hH⟩; refine ⟨STT, ?_⟩; intro a hA) | (refine DAT ?_; clear hA; rintro _ w ⟨oN, cN, rfl, hH2⟩; clear hH; have hH := (hH2 _ (by (repeat constructor))).tail; clear hH2; refine ⟨STT, ?_⟩; intro a hA))) )
    · refine ⟨(i + 1, y), ⟨⟨hlt, hym, fun k z hk hz => ?_⟩, hH, (hA.sub (by (repeat (first | exact trivial | refine ⟨rfl, ?_⟩))))⟩, by show q.G.length - (i + 1) < q.G.length - i; omega⟩
      dsimp only at hk ⊢
      rcases Nat.lt_or_ge k i with h | h
      · have := hle k z h hz; omega
      · obtain rfl : k = i := by omega
        rw [hy] at hz
        obtain rfl := Option.some.inj hz
        exact Nat.le_refl _
    · refine ⟨(i + 1, m), ⟨⟨hlt, hmm, fun k z hk hz => ?_⟩, hH, (hA.sub (by (repeat (first | exact trivial | refine ⟨rfl, ?_⟩))))⟩, by show q.G.length - (i + 1) < q.G.length - i; omega⟩
      dsimp only at hk ⊢
      rcases Nat.lt_or_ge k i with h | h
      · exact hle k z h hz
      · obtain rfl : k = i := by omega
        rw [hy] at hz
        obtain rfl := Option.some.inj hz
        omega
  clear hA hH
  rintro a w ⟨hH, hA⟩
  unfold gdQ at hH
  have hdB := hd.black hok hc1 hcB
  have hwl := @wo_le q.G (o.a : Int)
  have hl1 : q.B.length + 1 = (q.B ++ [o.a]).length := by rw [List.length_append]; rfl
  repeat' (first | (first | (refine GT ?_ ?_ <;> intro hg <;> clear hA a <;> intro a hA <;> (first | exact FA | replace hg := of_decide_eq_true hg | replace hg := of_decide_eq_false hg | skip)) | (refine QT ?_; clear hA a; intro a hA) | (first | (refine BT ?_; clear hA hH; rintro _ w ⟨bN, rfl, hH⟩ a hA) | (refine LT ?_; clear hA hH; rintro _ w ⟨oN, rfl, hH⟩ a hA) | (refine AT ?_; clear hA; rintro _ w ⟨oN, cN, rfl, hH2⟩ a hA; clear hH; have hH := (hH2 _ (by (repeat constructor))).tail; clear hH2) | (refine S0T ?_; clear hH; rintro _ w hH) )) | ((first | refine CT ?_ | (refine DT ?_ ?_ <;> intro hc <;> try (exfalso; omega))) <;> repeat' refine CT ?_) | (first | (refine DSK ?_; clear hA a; intro a hA) | (first | (refine DLT ?_; clear hA hH; rintro _ w ⟨oN, rfl, hH⟩; refine ⟨STT, ?_⟩; intro a hA) | (refine DAT ?_; clear hA; rintro _ w ⟨oN, cN, rfl, hH2⟩; clear hH; have hH := (hH2 _ (by (repeat constructor))).tail; clear hH2; refine ⟨STT, ?_⟩; intro a hA))) )
  (refine st_op hA rfl rfl (by decide) (op_call rfl rfl rfl (without_spec _ q.oG q.cG q.G (o.a : Int) (hH.own_rd (by exact MEMT)) (by omega))) ?_; clear hA; rintro _ w ⟨oW, cW, rfl, hj⟩ a hA; replace hH := hH.join hj; clear hj)
  repeat' (first | (first | (refine GT ?_ ?_ <;> intro hg <;> clear hA a <;> intro a hA <;> (first | exact FA | replace hg := of_decide_eq_true hg | replace hg := of_decide_eq_false hg | skip)) | (refine QT ?_; clear hA a; intro a hA) | (first | (refine BT ?_; clear hA hH; rintro _ w ⟨bN, rfl, hH⟩ a hA) | (refine LT ?_; clear hA hH; rintro _ w ⟨oN, rfl, hH⟩ a hA) | (refine AT ?_; clear hA; rintro _ w ⟨oN, cN, rfl, hH2⟩ a hA; clear hH; have hH := (hH2 _ (by (repeat constructor))).tail; clear hH2) | (refine S0T ?_; clear hH; rintro _ w hH) | (apply st_op0 hA rfl rfl; apply op_store_fld; rfl; rfl; rfl; exact hH; (repeat constructor); (repeat rfl); clear hH; rintro _ w hH))) | ((first | refine CT ?_ | (refine DT ?_ ?_ <;> intro hc <;> try (exfalso; omega))) <;> repeat' refine CT ?_) | (first | (refine DSK ?_; clear hA a; intro a hA) | (first | (refine DLT ?_; clear hA hH; rintro _ w ⟨oN, rfl, hH⟩; refine ⟨STT, ?_⟩; intro a hA) | (refine DAT ?_; clear hA; rintro _ w ⟨oN, cN, rfl, hH2⟩; clear hH; have hH := (hH2 _ (by (repeat constructor))).tail; clear hH2; refine ⟨STT, ?_⟩; intro a hA))) )
  rw [snocN, hl1] at hH
  replace hH : HS w0 M [gdI bd b2 (blackG s o.a)] w := by
    refine gd_shut ⟨wo q.G (o.a : Int), q.B ++ [o.a], oW, cW, oN, cN⟩ hdB ?_
    unfold gdQ
    rw [(black_ph s o.a).1, (black_ph s o.a).2.1]
    exact HS.left (H2 := [own 3 1 q.oG q.G.length q.cG (flat encN q.G)]) (hH.perm (by (repeat (first | exact List.Perm.nil | refine perm_pick 0 rfl ?_ | refine perm_pick 1 rfl ?_ | refine perm_pick 2 rfl ?_ | refine perm_pick 3 rfl ?_ | refine perm_pick 4 rfl ?_ | refine perm_pick 5 rfl ?_ | refine perm_pick 6 rfl ?_ | refine perm_pick 7 rfl ?_ | refine perm_pick 8 rfl ?_ | refine perm_pick 9 rfl ?_ | refine perm_pick 10 rfl ?_ | refine perm_pick 11 rfl ?_))))
  have hsh : ∀ k, GOk N ((o.fs.take k).foldl shadeG (blackG s o.a)) ∧ ((o.fs.take k).foldl shadeG (blackG s o.a)).L = s.L := fun k => by
    obtain ⟨g1, g2, _⟩ := shades_ok (s := blackG s o.a) (by rw [(black_ph s o.a).1]; exact h0) hokB (o.fs.take k)
    exact ⟨g1, by rw [g2]; exact (black_ph s o.a).2.2⟩
  have hclL : ∀ H, Cl (HS w0 M H) (bat b2 1) (.slice q2.o s.L.length q2.c) := fun H => cl_of fun w h => (hrq _ _ h).c1
  have hclO : ∀ H, Cls (HS w0 M H) (sat q2.o (j * 3)) (encO (o, (d, o.fs.length, cd))) := fun H => Rd.cls (fun w h => (hrq _ _ h).rO) hvs
  refine wp_drawT (qs [0, 1, 2, 3, 4, 5, 6, 7, 8, 9, 10, 11] (.two 12 15 (.q 13 (.q 14 (.one 15 (.one 16 .nil)))) (.one 12 (.q 13 (.q 14 (.one 16 .nil)))))) (fun a w => ∃ bN, HS w0 M [cb bN 53 [.int .i64 o.a, .int .i64 o.kind, .slice d o.fs.length cd], gdI bd b2 (blackG s o.a)] w ∧ Sl 158 [(0, .pointer (some (bat bd 0))), (5, .pointer (some (bat bN 0)))] a) mixed (by decide +kernel) hH ?_ ?_
  · replace hH := hH.drew
    (repeat (apply dt_ex hA rfl rfl rfl (by decide); (first | exact EXT | exact EXT2 | (apply ex_load; rfl; exact dcl_h MEMT) | (apply ex_load; rfl; exact hclL _)); clear hA a; intro a hA))
    apply dt_two
    · (refine dt_op hA rfl rfl rfl (by decide) (op_call rfl rfl rfl (rfind_spec _ b2 N s.L _ (by omega) (hrf _ _ hH))) ?_; clear hA; rintro _ w ⟨rfl, hk⟩; replace hH := hH.keep hk; clear hk; refine ⟨(by first | exact hH | exact hH.tail), ?_⟩; intro a hA)
      rw [hj] at hA
      (repeat (apply dt_ex hA rfl rfl rfl (by decide); (first | exact EXT | exact EXT2 | exact ex_load_st (vs := encO (o, (d, o.fs.length, cd))) rfl rfl (hclO _)); clear hA a; intro a hA))
      (apply dt_op hA rfl rfl rfl (by decide); apply op_alloc; exact hH; clear hA hH; rintro _ w ⟨bN, rfl, hH⟩; refine ⟨hH.tail, ?_⟩; intro a hA)
      (apply dt_op0 hA rfl rfl rfl; (first | (apply op_store1; rfl; rfl; rfl; exact hH; (repeat constructor)) | (apply op_store_agg; rfl; rfl; exact hH; (repeat constructor); (repeat rfl))); clear hH; rintro _ w hH; refine ⟨hH.tail, ?_⟩; apply dt_nil)
      exact ⟨bN, hH, (hA.sub (by (repeat (first | exact trivial | refine ⟨rfl, ?_⟩))))⟩
    · (apply dt_op hA rfl rfl rfl (by decide); apply op_alloc; exact hH; clear hA hH; rintro _ w ⟨bN, rfl, hH⟩; refine ⟨hH.tail, ?_⟩; intro a hA)
      (refine dt_op hA rfl rfl rfl (by decide) (op_call rfl rfl rfl (rfind_spec _ b2 N s.L _ (by omega) (hrf _ _ hH))) ?_; clear hA; rintro _ w ⟨rfl, hk⟩; replace hH := hH.keep hk; clear hk; refine ⟨(by first | exact hH | exact hH.tail), ?_⟩; intro a hA)
      rw [hj] at hA
      (repeat (apply dt_ex hA rfl rfl rfl (by decide); (first | exact EXT | exact EXT2 | exact ex_load_st (vs := encO (o, (d, o.fs.length, cd))) rfl rfl (hclO _)); clear hA a; intro a hA))
      (apply dt_op0 hA rfl rfl rfl; (first | (apply op_store1; rfl; rfl; rfl; exact hH; (repeat constructor)) | (apply op_store_agg; rfl; rfl; exact hH; (repeat constructor); (repeat rfl))); clear hH; rintro _ w hH; refine ⟨hH.tail, ?_⟩; apply dt_nil)
      exact ⟨bN, hH, (hA.sub (by (repeat (first | exact trivial | refine ⟨rfl, ?_⟩))))⟩
  clear hA hH
  rintro a w ⟨bN, hH, hA⟩
  replace hH := hH.perm (.swap _ _ _)
  repeat' (first | (first | (refine GT ?_ ?_ <;> intro hg <;> clear hA a <;> intro a hA <;> (first | exact FA | replace hg := of_decide_eq_true hg | replace hg := of_decide_eq_false hg | skip)) | (refine QT ?_; clear hA a; intro a hA) | (first | (refine BT ?_; clear hA hH; rintro _ w ⟨bN, rfl, hH⟩ a hA) | (refine LT ?_; clear hA hH; rintro _ w ⟨oN, rfl, hH⟩ a hA) | (refine AT ?_; clear hA; rintro _ w ⟨oN, cN, rfl, hH2⟩ a hA; clear hH; have hH := (hH2 _ (by (repeat constructor))).tail; clear hH2) | (refine S0T ?_; clear hH; rintro _ w hH) )) | ((first | refine CT ?_ | (refine DT ?_ ?_ <;> intro hc <;> try (exfalso; omega))) <;> repeat' refine CT ?_) | (first | (refine DSK ?_; clear hA a; intro a hA) | (first | (refine DLT ?_; clear hA hH; rintro _ w ⟨oN, rfl, hH⟩; refine ⟨STT, ?_⟩; intro a hA) | (refine DAT ?_; clear hA; rintro _ w ⟨oN, cN, rfl, hH2⟩; clear hH; have hH := (hH2 _ (by (repeat constructor))).tail; clear hH2; refine ⟨STT, ?_⟩; intro a hA))) )
  refine wp_lpk (S := Nat) (fun k a w => (k ≤ o.fs.length ∧ (o.kind = 1 → k = 0)) ∧ HS w0 M [gdI bd b2 ((o.fs.take k).foldl shadeG (blackG s o.a)), cb bN 53 [.int .i64 o.a, .int .i64 o.kind, .slice d o.fs.length cd]] w ∧ Sl 158 [(0, .pointer (some (bat bd 0))), (5, .pointer (some (bat bN 0))), (6, .int .i64 k)] a) (fun k => o.fs.length - k)
    (fun a w => HS w0 M [gdI bd b2 (markG s o.a)] w ∧ Sl 158 [] a) 0 ⟨⟨Nat.zero_le _, fun _ => rfl⟩, hH, (hA.sub (by (repeat (first | exact trivial | refine ⟨rfl, ?_⟩))))⟩ ?_ ?_
  · clear hA hH
    rintro k a w ⟨⟨hk, hk1⟩, hH, hA⟩
    by_cases hkk : k < o.fs.length ∧ o.kind ≠ 1
    rotate_left
    · have hmk : markG s o.a = (o.fs.take k).foldl shadeG (blackG s o.a) := by
        rw [hm]
        split
        · rename_i h1; rw [hk1 h1]; rfl
        · rw [List.take_of_length_le (by omega)]
      rw [hmk]
      repeat' (first | (first | (refine GT ?_ ?_ <;> intro hg <;> clear hA a <;> intro a hA <;> (first | exact FA | replace hg := of_decide_eq_true hg | replace hg := of_decide_eq_false hg | skip)) | (refine QT ?_; clear hA a; intro a hA) | (first | (refine BT ?_; clear hA hH; rintro _ w ⟨bN, rfl, hH⟩ a hA) | (refine LT ?_; clear hA hH; rintro _ w ⟨oN, rfl, hH⟩ a hA) | (refine AT ?_; clear hA; rintro _ w ⟨oN, cN, rfl, hH2⟩ a hA; clear hH; have hH := (hH2 _ (by (repeat constructor))).tail; clear hH2) | (refine S0T ?_; clear hH; rintro _ w hH) )) | ((first | refine CT ?_ | (refine DT ?_ ?_ <;> intro hc <;> try (exfalso; omega))) <;> repeat' refine CT ?_) | (first | (refine DSK ?_; clear hA a; intro a hA) | (first | (refine DLT ?_; clear hA hH; rintro _ w ⟨oN, rfl, hH⟩; refine ⟨STT, ?_⟩; intro a hA) | (refine DAT ?_; clear hA; rintro _ w ⟨oN, cN, rfl, hH2⟩; clear hH; have hH := (hH2 _ (by (repeat constructor))).tail; clear hH2; refine ⟨STT, ?_⟩; intro a hA))) )
      all_goals exact ⟨hH.head, (hA.sub (by (repeat (first | exact trivial | refine ⟨rfl, ?_⟩))))⟩
    obtain ⟨hkl, hkn⟩ := hkk
    obtain ⟨x, hx⟩ : ∃ x, o.fs[k]? = some x := ⟨_, List.getElem?_eq_getElem hkl⟩
    have hst := take_fold hx (blackG s o.a)
    have hclx : ∀ H, Cl (HS w0 M H) (sat d (k * 1)) (.int .u64 x) := fun H => cl_rdH hrd (flat_get0 encW_len hx rfl)
    repeat' (first | (first | (refine GT ?_ ?_ <;> intro hg <;> clear hA a <;> intro a hA <;> (first | exact FA | replace hg := of_decide_eq_true hg | replace hg := of_decide_eq_false hg | skip)) | ((first | apply st_ex hA hH rfl rfl (by decide) | apply dr_ex hA rfl rfl rfl (by decide) | apply dr_exp hA rfl rfl rfl (by decide) | apply dr_ex3 hA hH rfl rfl rfl (by decide)); (first | (apply ex_load; rfl; exact hclx _)); clear hA a; intro a hA) | (refine QT ?_; clear hA a; intro a hA) | (first | (refine BT ?_; clear hA hH; rintro _ w ⟨bN, rfl, hH⟩ a hA) | (refine LT ?_; clear hA hH; rintro _ w ⟨oN, rfl, hH⟩ a hA) | (refine AT ?_; clear hA; rintro _ w ⟨oN, cN, rfl, hH2⟩ a hA; clear hH; have hH := (hH2 _ (by (repeat constructor))).tail; clear hH2) | (refine S0T ?_; clear hH; rintro _ w hH) )) | ((first | refine CT ?_ | (refine DT ?_ ?_ <;> intro hc <;> try (exfalso; omega))) <;> repeat' refine CT ?_) | (first | (refine DSK ?_; clear hA a; intro a hA) | (first | (refine DLT ?_; clear hA hH; rintro _ w ⟨oN, rfl, hH⟩; refine ⟨STT, ?_⟩; intro a hA) | (refine DAT ?_; clear hA; rintro _ w ⟨oN, cN, rfl, hH2⟩; clear hH; have hH := (hH2 _ (by (repeat constructor))).tail; clear hH2; refine ⟨STT, ?_⟩; intro a hA))) )
    (refine st_op hA rfl rfl (by decide) (op_call rfl rfl rfl (dshade_g hH hrf (hsh k).1 (hok.us o ho x (List.mem_of_getElem? hx)) (hsh k).2)) ?_; clear hA hH; rintro _ w hH a hA)
    rw [← hst] at hH
    repeat' (first | (first | (refine GT ?_ ?_ <;> intro hg <;> clear hA a <;> intro a hA <;> (first | exact FA | replace hg := of_decide_eq_true hg | replace hg := of_decide_eq_false hg | skip)) | (refine QT ?_; clear hA a; intro a hA) | (first | (refine BT ?_; clear hA hH; rintro _ w ⟨bN, rfl, hH⟩ a hA) | (refine LT ?_; clear hA hH; rintro _ w ⟨oN, rfl, hH⟩ a hA) | (refine AT ?_; clear hA; rintro _ w ⟨oN, cN, rfl, hH2⟩ a hA; clear hH; have hH := (hH2 _ (by (repeat constructor))).tail; clear hH2) | (refine S0T ?_; clear hH; rintro _ w hH) )) | ((first | refine CT ?_ | (refine DT ?_ ?_ <;> intro hc <;> try (exfalso; omega))) <;> repeat' refine CT ?_) | (first | (refine DSK ?_; clear hA a; intro a hA) | (first | (refine DLT ?_; clear hA hH; rintro _ w ⟨oN, rfl, hH⟩; refine ⟨STT, ?_⟩; intro a hA) | (refine DAT ?_; clear hA; rintro _ w ⟨oN, cN, rfl, hH2⟩; clear hH; have hH := (hH2 _ (by (repeat constructor))).tail; clear hH2; refine ⟨STT, ?_⟩; intro a hA))) )
    exact ⟨k + 1, ⟨⟨hkl, fun h => absurd h hkn⟩, hH, (hA.sub (by (repeat (first | exact trivial | refine ⟨rfl, ?_⟩))))⟩, by omega⟩
  clear hA hH
  rintro a w ⟨hH, hA⟩
  repeat' (first | (first | (refine GT ?_ ?_ <;> intro hg <;> clear hA a <;> intro a hA <;> (first | exact FA | replace hg := of_decide_eq_true hg | replace hg := of_decide_eq_false hg | skip)) | (refine QT ?_; clear hA a; intro a hA) | (first | (refine BT ?_; clear hA hH; rintro _ w ⟨bN, rfl, hH⟩ a hA) | (refine LT ?_; clear hA hH; rintro _ w ⟨oN, rfl, hH⟩ a hA) | (refine AT ?_; clear hA; rintro _ w ⟨oN, cN, rfl, hH2⟩ a hA; clear hH; have hH := (hH2 _ (by (repeat constructor))).tail; clear hH2) | (refine S0T ?_; clear hH; rintro _ w hH) )) | ((first | refine CT ?_ | (refine DT ?_ ?_ <;> intro hc <;> try (exfalso; omega))) <;> repeat' refine CT ?_) | (first | (refine DSK ?_; clear hA a; intro a hA) | (first | (refine DLT ?_; clear hA hH; rintro _ w ⟨oN, rfl, hH⟩; refine ⟨STT, ?_⟩; intro a hA) | (refine DAT ?_; clear hA; rintro _ w ⟨oN, cN, rfl, hH2⟩; clear hH; have hH := (hH2 _ (by (repeat constructor))).tail; clear hH2; refine ⟨STT, ?_⟩; intro a hA))) )
  exact rt1 (.inl rfl) rfl hA rfl ⟨rfl, hH⟩
end Go.Proofs.Ytdfhajdejlhamaa
