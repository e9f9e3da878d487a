/-
  Walks over a store's at, Get, Set, Kind, Size, Pick, Cycles, Room. Conditions: none.
  Walks over a store's Get, Set, Kind, Size. Conditions: none.
  Numbers' words; what shifts and sums of bytes make (plain), the walks over Of and Num. Conditions: none.
  The walks over Num and Text. Conditions: none.
  The walk over Text. Conditions: none.
  What stays as it is; when there is no room; a text that is laid (plain law). Conditions: none.
  Who holds words sees what they would see in a store without end (plain law). Conditions: none.
  A region of which some come last, told from further off. Conditions: none.
-/
import Derived.Test.YtdfhajdejlhamaaRowSameMg6
import Derived.Laws.ResultCell
namespace Go.Proofs.Ytdfhajdejlhamaa
open Go Go.Fw
set_option linter.unusedVariables false
theorem pick_yes {g : SS} {roots : List Int} (h : g.s.ph = 0) : pickS g roots = begS g roots := by unfold pickS; rw [if_pos h]
theorem pick_no {g : SS} {roots : List Int} (h : ¬ g.s.ph = 0) : pickS g roots = ⟨(stepG g.s).2, if (stepG g.s).1 = true then g.cy + 1 else g.cy⟩ := by unfold pickS; rw [if_neg h]
theorem begin_fst {s : GS} {roots : List Int} : (beginG s roots).1 = if s.ph = 0 then 0 else 9 := by unfold beginG; split <;> rfl
theorem begin_snd {s : GS} {roots : List Int} (h : ¬ s.ph = 0) : (beginG s roots).2 = s := by unfold beginG; rw [if_neg h]
set_option maxRecDepth 10000 attribute [local irreducible] Code.wp wpList Calls Ex Op1 sat bat blk cb own Go.Fw.mp Go.Fw.mpO Go.Fw.mpI Go.Fw.mpE Go.Fw.itr HS Rd Ret wkD Hp Cl Cls Exit.then Exit.inBlock Exit.noGoto bodyPost Go.Fw.flat wk2 Go.Fw.all Go.Fw.owns wpOp
attribute [local irreducible] hdA gaps isA nextA allocA freeA sizeA kindA setA getA whiteZ numW addrW shadeG gcI hpI stepG beginG writeG allocG mu atA endS finG

theorem salloc_f {w0 w : World} {M : Nat → Prop} {H : List It} {bs N : Nat} {g : SS} {k z : Int} {roots : List Int} {oR : Option Addr} {cR : Nat} (hH : HS w0 M (stI bs N g :: H) w) (hok : GOk N g.s) (hcy : g.cy ≤ 1000000) (hU : ∀ x ∈ roots, U x) (hl : roots.length ≤ 140737488355328) (hrd : ∀ Hc w', HS w0 M (Hc ++ H) w' → Rd w' oR (flat encW roots)) :
    Ret Try.prog 12 #[.pointer (some (bat bs 0)), .int .i64 k, .int .i64 z, .slice oR roots.length cR] w (fun v w' => v = .tuple #[.int .u64 (allocS N g k z roots).1, .int .i64 (allocS N g k z roots).2.1] ∧ HS w0 M (stI bs N (allocS N g k z roots).2.2 :: H) w') := by
  obtain ⟨Mc, h1, -, h2⟩ := HS.frame (Hc := [stI bs N g]) (Hf := H) hH
  exact (salloc_spec w Mc bs N g k z roots oR cR hok hcy hU hl (fun H' w' hw => hrd _ _ (h2 _ _ hw)) h1).mono fun v w' ⟨h3, h4⟩ => ⟨h3, h2 _ _ h4⟩

theorem sat_spec (w0 : World) (M : Nat → Prop) (bs N : Nat) (g : SS) (x : Int) (hok : GOk N g.s) (hU : U x) (hH : HS w0 M [stI bs N g] w0) :
    Ret Try.prog 51 #[.pointer (some (bat bs 0)), .int .u64 x] w0 (fun v w => v = .int .i64 (atA g.s.L x : Nat) ∧ HS w0 M [stI bs N g] w) := by
  obtain ⟨bg, b, hH2⟩ := st_open hH
  clear hH
  have hH : HS w0 M [gcI bg b N g.s, hpI b N g.s.L, cb bs 86 [.pointer (some (bat bg 0)), .pointer (some (bat b 0)), .int .i64 g.cy]] w0 := hH2
  clear hH2
  have haN := addrN_eq hU
  have hk := kind_st hok.lay (addrN x)
  (refine enter (N := 25) Try.func51 rfl Try.ntmps51 rfl ?_; intro a hA; dsimp only [sl0, Nat.reduceAdd] at hA)
  repeat' (first | (first | (refine GT ?_ ?_ <;> intro hg <;> clear hA a <;> intro a hA <;> (first | exact FA | replace hg := of_decide_eq_true hg | replace hg := of_decide_eq_false hg | skip)) | (refine QT ?_; clear hA a; intro a hA) | (first | (refine BT ?_; clear hA hH; rintro _ w ⟨bN, rfl, hH⟩ a hA) | (refine LT ?_; clear hA hH; rintro _ w ⟨oN, rfl, hH⟩ a hA) | (refine AT ?_; clear hA; rintro _ w ⟨oN, cN, rfl, hH2⟩ a hA; clear hH; have hH := (hH2 _ (by (repeat constructor))).tail; clear hH2) | (refine S0T ?_; clear hH; rintro _ w hH) )) | ((first | refine CT ?_ | (refine DT ?_ ?_ <;> intro hc <;> try (exfalso; omega))) <;> repeat' refine CT ?_) | (first | (refine DSK ?_; clear hA a; intro a hA) | (first | (refine DLT ?_; clear hA hH; rintro _ w ⟨oN, rfl, hH⟩; refine ⟨STT, ?_⟩; intro a hA) | (refine DAT ?_; clear hA; rintro _ w ⟨oN, cN, rfl, hH2⟩; clear hH; have hH := (hH2 _ (by (repeat constructor))).tail; clear hH2; refine ⟨STT, ?_⟩; intro a hA))) )
  (refine wp_draw_HS [(0, 1), (1, 1), (2, 1), (3, 1), (4, 1), (5, 0), (6, 0), (7, 1), (8, 1), (9, 1), (10, 1), (11, 1)] mixed (by decide +kernel) hH ?_; replace hH := hH.drew)
  repeat' (first | (first | (refine GT ?_ ?_ <;> intro hg <;> clear hA a <;> intro a hA <;> (first | exact FA | replace hg := of_decide_eq_true hg | replace hg := of_decide_eq_false hg | skip)) | (refine QT ?_; clear hA a; intro a hA) | (first | (refine BT ?_; clear hA hH; rintro _ w ⟨bN, rfl, hH⟩ a hA) | (refine LT ?_; clear hA hH; rintro _ w ⟨oN, rfl, hH⟩ a hA) | (refine AT ?_; clear hA; rintro _ w ⟨oN, cN, rfl, hH2⟩ a hA; clear hH; have hH := (hH2 _ (by (repeat constructor))).tail; clear hH2) | (refine S0T ?_; clear hH; rintro _ w hH) )) | ((first | refine CT ?_ | (refine DT ?_ ?_ <;> intro hc <;> try (exfalso; omega))) <;> repeat' refine CT ?_) | (first | (refine DSK ?_; clear hA a; intro a hA) | (first | (refine DLT ?_; clear hA hH; rintro _ w ⟨oN, rfl, hH⟩; refine ⟨STT, ?_⟩; intro a hA) | (refine DAT ?_; clear hA; rintro _ w ⟨oN, cN, rfl, hH2⟩; clear hH; have hH := (hH2 _ (by (repeat constructor))).tail; clear hH2; refine ⟨STT, ?_⟩; intro a hA))) )
  (refine dr_op hA rfl rfl rfl (by decide) (op_call rfl rfl rfl (addr_spec _ x hU)) ?_; clear hA; rintro _ w ⟨rfl, hk⟩; replace hH := hH.keep hk; clear hk; refine ⟨STT, ?_⟩; intro a hA)
  rw [← haN] at hA
  (refine dr_op hA rfl rfl rfl (by decide) (op_call rfl rfl rfl (kind_f hH (by exact MEMT))) ?_; clear hA hH; rintro _ w ⟨rfl, hH⟩; refine ⟨STT, ?_⟩; intro a hA)
  rw [hk] at hA
  repeat' (first | (first | (refine GT ?_ ?_ <;> intro hg <;> clear hA a <;> intro a hA <;> (first | exact FA | replace hg := of_decide_eq_true hg | replace hg := of_decide_eq_false hg | skip)) | (refine QT ?_; clear hA a; intro a hA) | (first | (refine BT ?_; clear hA hH; rintro _ w ⟨bN, rfl, hH⟩ a hA) | (refine LT ?_; clear hA hH; rintro _ w ⟨oN, rfl, hH⟩ a hA) | (refine AT ?_; clear hA; rintro _ w ⟨oN, cN, rfl, hH2⟩ a hA; clear hH; have hH := (hH2 _ (by (repeat constructor))).tail; clear hH2) | (refine S0T ?_; clear hH; rintro _ w hH) )) | ((first | refine CT ?_ | (refine DT ?_ ?_ <;> intro hc <;> try (exfalso; omega))) <;> repeat' refine CT ?_) | (first | (refine DSK ?_; clear hA a; intro a hA) | (first | (refine DLT ?_; clear hA hH; rintro _ w ⟨oN, rfl, hH⟩; refine ⟨STT, ?_⟩; intro a hA) | (refine DAT ?_; clear hA; rintro _ w ⟨oN, cN, rfl, hH2⟩; clear hH; have hH := (hH2 _ (by (repeat constructor))).tail; clear hH2; refine ⟨STT, ?_⟩; intro a hA))) )
  (refine st_op hA rfl rfl (by decide) (op_call rfl rfl rfl (isnum_spec _ x hU)) ?_; clear hA; rintro _ w ⟨rfl, hk⟩ a hA; replace hH := hH.keep hk; clear hk)
  cases hn : numW x with
  | true =>
    rw [hn] at hA
    rw [at_num hn]
    repeat' (first | (first | (refine GT ?_ ?_ <;> intro hg <;> clear hA a <;> intro a hA <;> (first | exact FA | replace hg := of_decide_eq_true hg | replace hg := of_decide_eq_false hg | skip)) | (refine QT ?_; clear hA a; intro a hA) | (first | (refine BT ?_; clear hA hH; rintro _ w ⟨bN, rfl, hH⟩ a hA) | (refine LT ?_; clear hA hH; rintro _ w ⟨oN, rfl, hH⟩ a hA) | (refine AT ?_; clear hA; rintro _ w ⟨oN, cN, rfl, hH2⟩ a hA; clear hH; have hH := (hH2 _ (by (repeat constructor))).tail; clear hH2) | (refine S0T ?_; clear hH; rintro _ w hH) )) | ((first | refine CT ?_ | (refine DT ?_ ?_ <;> intro hc <;> try (exfalso; omega))) <;> repeat' refine CT ?_) | (first | (refine DSK ?_; clear hA a; intro a hA) | (first | (refine DLT ?_; clear hA hH; rintro _ w ⟨oN, rfl, hH⟩; refine ⟨STT, ?_⟩; intro a hA) | (refine DAT ?_; clear hA; rintro _ w ⟨oN, cN, rfl, hH2⟩; clear hH; have hH := (hH2 _ (by (repeat constructor))).tail; clear hH2; refine ⟨STT, ?_⟩; intro a hA))) )
    exact rt1 (.inl rfl) rfl hA rfl ⟨rfl, st_shut bg b hH⟩
  | false =>
    rw [hn] at hA
    by_cases hO : isO g.s.L (addrN x)
    · rw [if_pos hO] at hA
      rw [at_yes hn hO]
      repeat' (first | (first | (refine GT ?_ ?_ <;> intro hg <;> clear hA a <;> intro a hA <;> (first | exact FA | replace hg := of_decide_eq_true hg | replace hg := of_decide_eq_false hg | skip)) | (refine QT ?_; clear hA a; intro a hA) | (first | (refine BT ?_; clear hA hH; rintro _ w ⟨bN, rfl, hH⟩ a hA) | (refine LT ?_; clear hA hH; rintro _ w ⟨oN, rfl, hH⟩ a hA) | (refine AT ?_; clear hA; rintro _ w ⟨oN, cN, rfl, hH2⟩ a hA; clear hH; have hH := (hH2 _ (by (repeat constructor))).tail; clear hH2) | (refine S0T ?_; clear hH; rintro _ w hH) )) | ((first | refine CT ?_ | (refine DT ?_ ?_ <;> intro hc <;> try (exfalso; omega))) <;> repeat' refine CT ?_) | (first | (refine DSK ?_; clear hA a; intro a hA) | (first | (refine DLT ?_; clear hA hH; rintro _ w ⟨oN, rfl, hH⟩; refine ⟨STT, ?_⟩; intro a hA) | (refine DAT ?_; clear hA; rintro _ w ⟨oN, cN, rfl, hH2⟩; clear hH; have hH := (hH2 _ (by (repeat constructor))).tail; clear hH2; refine ⟨STT, ?_⟩; intro a hA))) )
      (refine st_op hA rfl rfl (by decide) (op_call rfl rfl rfl (addr_spec _ x hU)) ?_; clear hA; rintro _ w ⟨rfl, hk⟩ a hA; replace hH := hH.keep hk; clear hk)
      rw [← haN] at hA
      repeat' (first | (first | (refine GT ?_ ?_ <;> intro hg <;> clear hA a <;> intro a hA <;> (first | exact FA | replace hg := of_decide_eq_true hg | replace hg := of_decide_eq_false hg | skip)) | (refine QT ?_; clear hA a; intro a hA) | (first | (refine BT ?_; clear hA hH; rintro _ w ⟨bN, rfl, hH⟩ a hA) | (refine LT ?_; clear hA hH; rintro _ w ⟨oN, rfl, hH⟩ a hA) | (refine AT ?_; clear hA; rintro _ w ⟨oN, cN, rfl, hH2⟩ a hA; clear hH; have hH := (hH2 _ (by (repeat constructor))).tail; clear hH2) | (refine S0T ?_; clear hH; rintro _ w hH) )) | ((first | refine CT ?_ | (refine DT ?_ ?_ <;> intro hc <;> try (exfalso; omega))) <;> repeat' refine CT ?_) | (first | (refine DSK ?_; clear hA a; intro a hA) | (first | (refine DLT ?_; clear hA hH; rintro _ w ⟨oN, rfl, hH⟩; refine ⟨STT, ?_⟩; intro a hA) | (refine DAT ?_; clear hA; rintro _ w ⟨oN, cN, rfl, hH2⟩; clear hH; have hH := (hH2 _ (by (repeat constructor))).tail; clear hH2; refine ⟨STT, ?_⟩; intro a hA))) )
      exact rt1 (.inl rfl) rfl hA rfl ⟨rfl, st_shut bg b hH⟩
    · rw [if_neg hO] at hA
      rw [at_no hO]
      repeat' (first | (first | (refine GT ?_ ?_ <;> intro hg <;> clear hA a <;> intro a hA <;> (first | exact FA | replace hg := of_decide_eq_true hg | replace hg := of_decide_eq_false hg | skip)) | (refine QT ?_; clear hA a; intro a hA) | (first | (refine BT ?_; clear hA hH; rintro _ w ⟨bN, rfl, hH⟩ a hA) | (refine LT ?_; clear hA hH; rintro _ w ⟨oN, rfl, hH⟩ a hA) | (refine AT ?_; clear hA; rintro _ w ⟨oN, cN, rfl, hH2⟩ a hA; clear hH; have hH := (hH2 _ (by (repeat constructor))).tail; clear hH2) | (refine S0T ?_; clear hH; rintro _ w hH) )) | ((first | refine CT ?_ | (refine DT ?_ ?_ <;> intro hc <;> try (exfalso; omega))) <;> repeat' refine CT ?_) | (first | (refine DSK ?_; clear hA a; intro a hA) | (first | (refine DLT ?_; clear hA hH; rintro _ w ⟨oN, rfl, hH⟩; refine ⟨STT, ?_⟩; intro a hA) | (refine DAT ?_; clear hA; rintro _ w ⟨oN, cN, rfl, hH2⟩; clear hH; have hH := (hH2 _ (by (repeat constructor))).tail; clear hH2; refine ⟨STT, ?_⟩; intro a hA))) )
      exact rt1 (.inl rfl) rfl hA rfl ⟨rfl, st_shut bg b hH⟩
theorem sat_f {w0 w : World} {M : Nat → Prop} {H : List It} {bs N : Nat} {g : SS} {x : Int} (hH : HS w0 M (stI bs N g :: H) w) (hok : GOk N g.s) (hU : U x) :
    Ret Try.prog 51 #[.pointer (some (bat bs 0)), .int .u64 x] w (fun v w' => v = .int .i64 (atA g.s.L x : Nat) ∧ HS w0 M (stI bs N g :: H) w') := by
  obtain ⟨Mc, h1, -, h2⟩ := HS.frame (Hc := [stI bs N g]) (Hf := H) hH
  exact (sat_spec w Mc bs N g x hok hU h1).mono fun v w' ⟨h3, h4⟩ => ⟨h3, h2 _ _ h4⟩

theorem scycles_spec (w0 : World) (M : Nat → Prop) (bs N : Nat) (g : SS) (hH : HS w0 M [stI bs N g] w0) :
    Ret Try.prog 29 #[.pointer (some (bat bs 0))] w0 (fun v w => v = .int .i64 (g.cy : Nat) ∧ HS w0 M [stI bs N g] w) := by
  obtain ⟨bg, b, hH2⟩ := st_open hH
  clear hH
  have hH : HS w0 M [gcI bg b N g.s, hpI b N g.s.L, cb bs 86 [.pointer (some (bat bg 0)), .pointer (some (bat b 0)), .int .i64 g.cy]] w0 := hH2
  clear hH2
  (refine enter (N := 7) Try.func29 rfl Try.ntmps29 rfl ?_; intro a hA; dsimp only [sl0, Nat.reduceAdd] at hA)
  repeat' (first | (first | (refine GT ?_ ?_ <;> intro hg <;> clear hA a <;> intro a hA <;> (first | exact FA | replace hg := of_decide_eq_true hg | replace hg := of_decide_eq_false hg | skip)) | (refine QT ?_; clear hA a; intro a hA) | (first | (refine BT ?_; clear hA hH; rintro _ w ⟨bN, rfl, hH⟩ a hA) | (refine LT ?_; clear hA hH; rintro _ w ⟨oN, rfl, hH⟩ a hA) | (refine AT ?_; clear hA; rintro _ w ⟨oN, cN, rfl, hH2⟩ a hA; clear hH; have hH := (hH2 _ (by (repeat constructor))).tail; clear hH2) | (refine S0T ?_; clear hH; rintro _ w hH) )) | ((first | refine CT ?_ | (refine DT ?_ ?_ <;> intro hc <;> try (exfalso; omega))) <;> repeat' refine CT ?_) | (first | (refine DSK ?_; clear hA a; intro a hA) | (first | (refine DLT ?_; clear hA hH; rintro _ w ⟨oN, rfl, hH⟩; refine ⟨STT, ?_⟩; intro a hA) | (refine DAT ?_; clear hA; rintro _ w ⟨oN, cN, rfl, hH2⟩; clear hH; have hH := (hH2 _ (by (repeat constructor))).tail; clear hH2; refine ⟨STT, ?_⟩; intro a hA))) )
  exact rt1 (.inl rfl) rfl hA rfl ⟨rfl, st_shut bg b hH⟩

theorem sroom_spec (w0 : World) (M : Nat → Prop) (bs N : Nat) (g : SS) (hH : HS w0 M [stI bs N g] w0) :
    Ret Try.prog 27 #[.pointer (some (bat bs 0))] w0 (fun v w => v = .int .i64 (roomA (gaps N 1 g.s.L)) ∧ HS w0 M [stI bs N g] w) := by
  obtain ⟨bg, b, hH2⟩ := st_open hH
  clear hH
  have hH : HS w0 M [gcI bg b N g.s, hpI b N g.s.L, cb bs 86 [.pointer (some (bat bg 0)), .pointer (some (bat b 0)), .int .i64 g.cy]] w0 := hH2
  clear hH2
  (refine enter (N := 8) Try.func27 rfl Try.ntmps27 rfl ?_; intro a hA; dsimp only [sl0, Nat.reduceAdd] at hA)
  repeat' (first | (first | (refine GT ?_ ?_ <;> intro hg <;> clear hA a <;> intro a hA <;> (first | exact FA | replace hg := of_decide_eq_true hg | replace hg := of_decide_eq_false hg | skip)) | (refine QT ?_; clear hA a; intro a hA) | (first | (refine BT ?_; clear hA hH; rintro _ w ⟨bN, rfl, hH⟩ a hA) | (refine LT ?_; clear hA hH; rintro _ w ⟨oN, rfl, hH⟩ a hA) | (refine AT ?_; clear hA; rintro _ w ⟨oN, cN, rfl, hH2⟩ a hA; clear hH; have hH := (hH2 _ (by (repeat constructor))).tail; clear hH2) | (refine S0T ?_; clear hH; rintro _ w hH) )) | ((first | refine CT ?_ | (refine DT ?_ ?_ <;> intro hc <;> try (exfalso; omega))) <;> repeat' refine CT ?_) | (first | (refine DSK ?_; clear hA a; intro a hA) | (first | (refine DLT ?_; clear hA hH; rintro _ w ⟨oN, rfl, hH⟩; refine ⟨STT, ?_⟩; intro a hA) | (refine DAT ?_; clear hA; rintro _ w ⟨oN, cN, rfl, hH2⟩; clear hH; have hH := (hH2 _ (by (repeat constructor))).tail; clear hH2; refine ⟨STT, ?_⟩; intro a hA))) )
  (refine st_op hA rfl rfl (by decide) (op_call rfl rfl rfl (room_f hH (by exact MEMT))) ?_; clear hA hH; rintro _ w ⟨rfl, hH⟩ a hA)
  repeat' (first | (first | (refine GT ?_ ?_ <;> intro hg <;> clear hA a <;> intro a hA <;> (first | exact FA | replace hg := of_decide_eq_true hg | replace hg := of_decide_eq_false hg | skip)) | (refine QT ?_; clear hA a; intro a hA) | (first | (refine BT ?_; clear hA hH; rintro _ w ⟨bN, rfl, hH⟩ a hA) | (refine LT ?_; clear hA hH; rintro _ w ⟨oN, rfl, hH⟩ a hA) | (refine AT ?_; clear hA; rintro _ w ⟨oN, cN, rfl, hH2⟩ a hA; clear hH; have hH := (hH2 _ (by (repeat constructor))).tail; clear hH2) | (refine S0T ?_; clear hH; rintro _ w hH) )) | ((first | refine CT ?_ | (refine DT ?_ ?_ <;> intro hc <;> try (exfalso; omega))) <;> repeat' refine CT ?_) | (first | (refine DSK ?_; clear hA a; intro a hA) | (first | (refine DLT ?_; clear hA hH; rintro _ w ⟨oN, rfl, hH⟩; refine ⟨STT, ?_⟩; intro a hA) | (refine DAT ?_; clear hA; rintro _ w ⟨oN, cN, rfl, hH2⟩; clear hH; have hH := (hH2 _ (by (repeat constructor))).tail; clear hH2; refine ⟨STT, ?_⟩; intro a hA))) )
  exact rt1 (.inl rfl) rfl hA rfl ⟨rfl, st_shut bg b hH⟩

theorem spick_spec (w0 : World) (M : Nat → Prop) (bs N : Nat) (g : SS) (roots : List Int) (oR : Option Addr) (cR : Nat) (hok : GOk N g.s) (hcy : g.cy ≤ 1000000) (hU : ∀ x ∈ roots, U x) (hl : roots.length ≤ 140737488355328) (hrd : ∀ H' w', HS w0 M H' w' → Rd w' oR (flat encW roots)) (hH : HS w0 M [stI bs N g] w0) :
    Ret Try.prog 18 #[.pointer (some (bat bs 0)), .slice oR roots.length cR] w0 (fun v w => HS w0 M [stI bs N (pickS g roots)] w) := by
  obtain ⟨bg, b, hH2⟩ := st_open hH
  clear hH
  have hH : HS w0 M [gcI bg b N g.s, hpI b N g.s.L, cb bs 86 [.pointer (some (bat bg 0)), .pointer (some (bat b 0)), .int .i64 g.cy]] w0 := hH2
  clear hH2
  (refine enter (N := 25) Try.func18 rfl Try.ntmps18 rfl ?_; intro a hA; dsimp only [sl0, Nat.reduceAdd] at hA)
  repeat' (first | (first | (refine GT ?_ ?_ <;> intro hg <;> clear hA a <;> intro a hA <;> (first | exact FA | replace hg := of_decide_eq_true hg | replace hg := of_decide_eq_false hg | skip)) | (refine QT ?_; clear hA a; intro a hA) | (first | (refine BT ?_; clear hA hH; rintro _ w ⟨bN, rfl, hH⟩ a hA) | (refine LT ?_; clear hA hH; rintro _ w ⟨oN, rfl, hH⟩ a hA) | (refine AT ?_; clear hA; rintro _ w ⟨oN, cN, rfl, hH2⟩ a hA; clear hH; have hH := (hH2 _ (by (repeat constructor))).tail; clear hH2) | (refine S0T ?_; clear hH; rintro _ w hH) )) | ((first | refine CT ?_ | (refine DT ?_ ?_ <;> intro hc <;> try (exfalso; omega))) <;> repeat' refine CT ?_) | (first | (refine DSK ?_; clear hA a; intro a hA) | (first | (refine DLT ?_; clear hA hH; rintro _ w ⟨oN, rfl, hH⟩; refine ⟨STT, ?_⟩; intro a hA) | (refine DAT ?_; clear hA; rintro _ w ⟨oN, cN, rfl, hH2⟩; clear hH; have hH := (hH2 _ (by (repeat constructor))).tail; clear hH2; refine ⟨STT, ?_⟩; intro a hA))) )
  (refine st_op hA rfl rfl (by decide) (op_call rfl rfl rfl (gbegin_f hH hok hU hl (fun Hc w' h => hrd _ _ h) rfl)) ?_; clear hA hH; rintro _ w ⟨rfl, hH⟩ a hA)
  rw [begin_fst] at hA
  by_cases hp : g.s.ph = 0
  · rw [if_pos hp] at hA
    rw [pick_yes hp]
    repeat' (first | (first | (refine GT ?_ ?_ <;> intro hg <;> clear hA a <;> intro a hA <;> (first | exact FA | replace hg := of_decide_eq_true hg | replace hg := of_decide_eq_false hg | skip)) | (refine QT ?_; clear hA a; intro a hA) | (first | (refine BT ?_; clear hA hH; rintro _ w ⟨bN, rfl, hH⟩ a hA) | (refine LT ?_; clear hA hH; rintro _ w ⟨oN, rfl, hH⟩ a hA) | (refine AT ?_; clear hA; rintro _ w ⟨oN, cN, rfl, hH2⟩ a hA; clear hH; have hH := (hH2 _ (by (repeat constructor))).tail; clear hH2) | (refine S0T ?_; clear hH; rintro _ w hH) )) | ((first | refine CT ?_ | (refine DT ?_ ?_ <;> intro hc <;> try (exfalso; omega))) <;> repeat' refine CT ?_) | (first | (refine DSK ?_; clear hA a; intro a hA) | (first | (refine DLT ?_; clear hA hH; rintro _ w ⟨oN, rfl, hH⟩; refine ⟨STT, ?_⟩; intro a hA) | (refine DAT ?_; clear hA; rintro _ w ⟨oN, cN, rfl, hH2⟩; clear hH; have hH := (hH2 _ (by (repeat constructor))).tail; clear hH2; refine ⟨STT, ?_⟩; intro a hA))) )
    exact rt0 (.inr rfl) rfl hA (st_shut (g := begS g roots) bg b hH)
  rw [if_neg hp] at hA
  rw [begin_snd hp] at hH
  rw [pick_no hp]
  repeat' (first | (first | (refine GT ?_ ?_ <;> intro hg <;> clear hA a <;> intro a hA <;> (first | exact FA | replace hg := of_decide_eq_true hg | replace hg := of_decide_eq_false hg | skip)) | (refine QT ?_; clear hA a; intro a hA) | (first | (refine BT ?_; clear hA hH; rintro _ w ⟨bN, rfl, hH⟩ a hA) | (refine LT ?_; clear hA hH; rintro _ w ⟨oN, rfl, hH⟩ a hA) | (refine AT ?_; clear hA; rintro _ w ⟨oN, cN, rfl, hH2⟩ a hA; clear hH; have hH := (hH2 _ (by (repeat constructor))).tail; clear hH2) | (refine S0T ?_; clear hH; rintro _ w hH) )) | ((first | refine CT ?_ | (refine DT ?_ ?_ <;> intro hc <;> try (exfalso; omega))) <;> repeat' refine CT ?_) | (first | (refine DSK ?_; clear hA a; intro a hA) | (first | (refine DLT ?_; clear hA hH; rintro _ w ⟨oN, rfl, hH⟩; refine ⟨STT, ?_⟩; intro a hA) | (refine DAT ?_; clear hA; rintro _ w ⟨oN, cN, rfl, hH2⟩; clear hH; have hH := (hH2 _ (by (repeat constructor))).tail; clear hH2; refine ⟨STT, ?_⟩; intro a hA))) )
  (refine st_op hA rfl rfl (by decide) (op_call rfl rfl rfl (gstep_f hH hok rfl)) ?_; clear hA hH; rintro _ w ⟨rfl, hH⟩ a hA)
  generalize stepG g.s = r at *
  obtain ⟨r1, r2⟩ := r
  cases r1 with
  | true =>
    repeat' (first | (first | (refine GT ?_ ?_ <;> intro hg <;> clear hA a <;> intro a hA <;> (first | exact FA | replace hg := of_decide_eq_true hg | replace hg := of_decide_eq_false hg | skip)) | (refine QT ?_; clear hA a; intro a hA) | (first | (refine BT ?_; clear hA hH; rintro _ w ⟨bN, rfl, hH⟩ a hA) | (refine LT ?_; clear hA hH; rintro _ w ⟨oN, rfl, hH⟩ a hA) | (refine AT ?_; clear hA; rintro _ w ⟨oN, cN, rfl, hH2⟩ a hA; clear hH; have hH := (hH2 _ (by (repeat constructor))).tail; clear hH2) | (refine S0T ?_; clear hH; rintro _ w hH) | (apply st_op0 hA rfl rfl; apply op_store_fld; rfl; rfl; rfl; exact hH; (repeat constructor); (repeat rfl); clear hH; rintro _ w hH))) | ((first | refine CT ?_ | (refine DT ?_ ?_ <;> intro hc <;> try (exfalso; omega))) <;> repeat' refine CT ?_) | (first | (refine DSK ?_; clear hA a; intro a hA) | (first | (refine DLT ?_; clear hA hH; rintro _ w ⟨oN, rfl, hH⟩; refine ⟨STT, ?_⟩; intro a hA) | (refine DAT ?_; clear hA; rintro _ w ⟨oN, cN, rfl, hH2⟩; clear hH; have hH := (hH2 _ (by (repeat constructor))).tail; clear hH2; refine ⟨STT, ?_⟩; intro a hA))) )
    exact rt0 (.inr rfl) rfl hA (st_shut bg b hH)
  | false =>
    repeat' (first | (first | (refine GT ?_ ?_ <;> intro hg <;> clear hA a <;> intro a hA <;> (first | exact FA | replace hg := of_decide_eq_true hg | replace hg := of_decide_eq_false hg | skip)) | (refine QT ?_; clear hA a; intro a hA) | (first | (refine BT ?_; clear hA hH; rintro _ w ⟨bN, rfl, hH⟩ a hA) | (refine LT ?_; clear hA hH; rintro _ w ⟨oN, rfl, hH⟩ a hA) | (refine AT ?_; clear hA; rintro _ w ⟨oN, cN, rfl, hH2⟩ a hA; clear hH; have hH := (hH2 _ (by (repeat constructor))).tail; clear hH2) | (refine S0T ?_; clear hH; rintro _ w hH) )) | ((first | refine CT ?_ | (refine DT ?_ ?_ <;> intro hc <;> try (exfalso; omega))) <;> repeat' refine CT ?_) | (first | (refine DSK ?_; clear hA a; intro a hA) | (first | (refine DLT ?_; clear hA hH; rintro _ w ⟨oN, rfl, hH⟩; refine ⟨STT, ?_⟩; intro a hA) | (refine DAT ?_; clear hA; rintro _ w ⟨oN, cN, rfl, hH2⟩; clear hH; have hH := (hH2 _ (by (repeat constructor))).tail; clear hH2; refine ⟨STT, ?_⟩; intro a hA))) )
    exact rt0 (.inr rfl) rfl hA (st_shut bg b hH)
end Go.Proofs.Ytdfhajdejlhamaa
namespace Go.Proofs.Ytdfhajdejlhamaa
open Go Go.Fw
set_option linter.unusedVariables false
section
variable {w0 w : World} {M : Nat → Prop} {H : List It} {bs N : Nat} {g : SS}
end
set_option maxRecDepth 10000 attribute [local irreducible] Code.wp wpList Calls Ex Op1 sat bat blk cb own Go.Fw.mp Go.Fw.mpO Go.Fw.mpI Go.Fw.mpE Go.Fw.itr HS Rd Ret wkD Hp Cl Cls Exit.then Exit.inBlock Exit.noGoto bodyPost Go.Fw.flat wk2 Go.Fw.all Go.Fw.owns wpOp
attribute [local irreducible] hdA gaps isA nextA allocA freeA sizeA kindA setA getA whiteZ numW addrW shadeG gcI hpI stepG beginG writeG allocG mu atA endS finG

/-- at, with the store laid open -/
theorem sat_o {w0 w : World} {M : Nat → Prop} {bs bg b N : Nat} {g : SS} {x : Int} (hH : HS w0 M [gcI bg b N g.s, hpI b N g.s.L, cb bs 86 [.pointer (some (bat bg 0)), .pointer (some (bat b 0)), .int .i64 g.cy]] w) (hok : GOk N g.s) (hU : U x) :
    Ret Try.prog 51 #[.pointer (some (bat bs 0)), .int .u64 x] w (fun v w' => v = .int .i64 (atA g.s.L x : Nat) ∧ HS w0 M [gcI bg b N g.s, hpI b N g.s.L, cb bs 86 [.pointer (some (bat bg 0)), .pointer (some (bat b 0)), .int .i64 g.cy]] w') := by
  have haN := addrN_eq hU
  have hk := kind_st hok.lay (addrN x)
  (refine enter (N := 25) Try.func51 rfl Try.ntmps51 rfl ?_; intro a hA; dsimp only [sl0, Nat.reduceAdd] at hA)
  repeat' (first | (first | (refine GT ?_ ?_ <;> intro hg <;> clear hA a <;> intro a hA <;> (first | exact FA | replace hg := of_decide_eq_true hg | replace hg := of_decide_eq_false hg | skip)) | (refine QT ?_; clear hA a; intro a hA) | (first | (refine BT ?_; clear hA hH; rintro _ w ⟨bN, rfl, hH⟩ a hA) | (refine LT ?_; clear hA hH; rintro _ w ⟨oN, rfl, hH⟩ a hA) | (refine AT ?_; clear hA; rintro _ w ⟨oN, cN, rfl, hH2⟩ a hA; clear hH; have hH := (hH2 _ (by (repeat constructor))).tail; clear hH2) | (refine S0T ?_; clear hH; rintro _ w hH) )) | ((first | refine CT ?_ | (refine DT ?_ ?_ <;> intro hc <;> try (exfalso; omega))) <;> repeat' refine CT ?_) | (first | (refine DSK ?_; clear hA a; intro a hA) | (first | (refine DLT ?_; clear hA hH; rintro _ w ⟨oN, rfl, hH⟩; refine ⟨STT, ?_⟩; intro a hA) | (refine DAT ?_; clear hA; rintro _ w ⟨oN, cN, rfl, hH2⟩; clear hH; have hH := (hH2 _ (by (repeat constructor))).tail; clear hH2; refine ⟨STT, ?_⟩; intro a hA))) )
  (refine wp_draw_HS [(0, 1), (1, 1), (2, 1), (3, 1), (4, 1), (5, 0), (6, 0), (7, 1), (8, 1), (9, 1), (10, 1), (11, 1)] mixed (by decide +kernel) hH ?_; replace hH := hH.drew)
  repeat' (first | (first | (refine GT ?_ ?_ <;> intro hg <;> clear hA a <;> intro a hA <;> (first | exact FA | replace hg := of_decide_eq_true hg | replace hg := of_decide_eq_false hg | skip)) | (refine QT ?_; clear hA a; intro a hA) | (first | (refine BT ?_; clear hA hH; rintro _ w ⟨bN, rfl, hH⟩ a hA) | (refine LT ?_; clear hA hH; rintro _ w ⟨oN, rfl, hH⟩ a hA) | (refine AT ?_; clear hA; rintro _ w ⟨oN, cN, rfl, hH2⟩ a hA; clear hH; have hH := (hH2 _ (by (repeat constructor))).tail; clear hH2) | (refine S0T ?_; clear hH; rintro _ w hH) )) | ((first | refine CT ?_ | (refine DT ?_ ?_ <;> intro hc <;> try (exfalso; omega))) <;> repeat' refine CT ?_) | (first | (refine DSK ?_; clear hA a; intro a hA) | (first | (refine DLT ?_; clear hA hH; rintro _ w ⟨oN, rfl, hH⟩; refine ⟨STT, ?_⟩; intro a hA) | (refine DAT ?_; clear hA; rintro _ w ⟨oN, cN, rfl, hH2⟩; clear hH; have hH := (hH2 _ (by (repeat constructor))).tail; clear hH2; refine ⟨STT, ?_⟩; intro a hA))) )
  (refine dr_op hA rfl rfl rfl (by decide) (op_call rfl rfl rfl (addr_spec _ x hU)) ?_; clear hA; rintro _ w ⟨rfl, hk⟩; replace hH := hH.keep hk; clear hk; refine ⟨STT, ?_⟩; intro a hA)
  rw [← haN] at hA
  (refine dr_op hA rfl rfl rfl (by decide) (op_call rfl rfl rfl (kind_f hH (by exact MEMT))) ?_; clear hA hH; rintro _ w ⟨rfl, hH⟩; refine ⟨STT, ?_⟩; intro a hA)
  rw [hk] at hA
  repeat' (first | (first | (refine GT ?_ ?_ <;> intro hg <;> clear hA a <;> intro a hA <;> (first | exact FA | replace hg := of_decide_eq_true hg | replace hg := of_decide_eq_false hg | skip)) | (refine QT ?_; clear hA a; intro a hA) | (first | (refine BT ?_; clear hA hH; rintro _ w ⟨bN, rfl, hH⟩ a hA) | (refine LT ?_; clear hA hH; rintro _ w ⟨oN, rfl, hH⟩ a hA) | (refine AT ?_; clear hA; rintro _ w ⟨oN, cN, rfl, hH2⟩ a hA; clear hH; have hH := (hH2 _ (by (repeat constructor))).tail; clear hH2) | (refine S0T ?_; clear hH; rintro _ w hH) )) | ((first | refine CT ?_ | (refine DT ?_ ?_ <;> intro hc <;> try (exfalso; omega))) <;> repeat' refine CT ?_) | (first | (refine DSK ?_; clear hA a; intro a hA) | (first | (refine DLT ?_; clear hA hH; rintro _ w ⟨oN, rfl, hH⟩; refine ⟨STT, ?_⟩; intro a hA) | (refine DAT ?_; clear hA; rintro _ w ⟨oN, cN, rfl, hH2⟩; clear hH; have hH := (hH2 _ (by (repeat constructor))).tail; clear hH2; refine ⟨STT, ?_⟩; intro a hA))) )
  (refine st_op hA rfl rfl (by decide) (op_call rfl rfl rfl (isnum_spec _ x hU)) ?_; clear hA; rintro _ w ⟨rfl, hk⟩ a hA; replace hH := hH.keep hk; clear hk)
  cases hn : numW x with
  | true =>
    rw [hn] at hA
    rw [at_num hn]
    repeat' (first | (first | (refine GT ?_ ?_ <;> intro hg <;> clear hA a <;> intro a hA <;> (first | exact FA | replace hg := of_decide_eq_true hg | replace hg := of_decide_eq_false hg | skip)) | (refine QT ?_; clear hA a; intro a hA) | (first | (refine BT ?_; clear hA hH; rintro _ w ⟨bN, rfl, hH⟩ a hA) | (refine LT ?_; clear hA hH; rintro _ w ⟨oN, rfl, hH⟩ a hA) | (refine AT ?_; clear hA; rintro _ w ⟨oN, cN, rfl, hH2⟩ a hA; clear hH; have hH := (hH2 _ (by (repeat constructor))).tail; clear hH2) | (refine S0T ?_; clear hH; rintro _ w hH) )) | ((first | refine CT ?_ | (refine DT ?_ ?_ <;> intro hc <;> try (exfalso; omega))) <;> repeat' refine CT ?_) | (first | (refine DSK ?_; clear hA a; intro a hA) | (first | (refine DLT ?_; clear hA hH; rintro _ w ⟨oN, rfl, hH⟩; refine ⟨STT, ?_⟩; intro a hA) | (refine DAT ?_; clear hA; rintro _ w ⟨oN, cN, rfl, hH2⟩; clear hH; have hH := (hH2 _ (by (repeat constructor))).tail; clear hH2; refine ⟨STT, ?_⟩; intro a hA))) )
    exact rt1 (.inl rfl) rfl hA rfl ⟨rfl, hH⟩
  | false =>
    rw [hn] at hA
    by_cases hO : isO g.s.L (addrN x)
    · rw [if_pos hO] at hA
      rw [at_yes hn hO]
      repeat' (first | (first | (refine GT ?_ ?_ <;> intro hg <;> clear hA a <;> intro a hA <;> (first | exact FA | replace hg := of_decide_eq_true hg | replace hg := of_decide_eq_false hg | skip)) | (refine QT ?_; clear hA a; intro a hA) | (first | (refine BT ?_; clear hA hH; rintro _ w ⟨bN, rfl, hH⟩ a hA) | (refine LT ?_; clear hA hH; rintro _ w ⟨oN, rfl, hH⟩ a hA) | (refine AT ?_; clear hA; rintro _ w ⟨oN, cN, rfl, hH2⟩ a hA; clear hH; have hH := (hH2 _ (by (repeat constructor))).tail; clear hH2) | (refine S0T ?_; clear hH; rintro _ w hH) )) | ((first | refine CT ?_ | (refine DT ?_ ?_ <;> intro hc <;> try (exfalso; omega))) <;> repeat' refine CT ?_) | (first | (refine DSK ?_; clear hA a; intro a hA) | (first | (refine DLT ?_; clear hA hH; rintro _ w ⟨oN, rfl, hH⟩; refine ⟨STT, ?_⟩; intro a hA) | (refine DAT ?_; clear hA; rintro _ w ⟨oN, cN, rfl, hH2⟩; clear hH; have hH := (hH2 _ (by (repeat constructor))).tail; clear hH2; refine ⟨STT, ?_⟩; intro a hA))) )
      (refine st_op hA rfl rfl (by decide) (op_call rfl rfl rfl (addr_spec _ x hU)) ?_; clear hA; rintro _ w ⟨rfl, hk⟩ a hA; replace hH := hH.keep hk; clear hk)
      rw [← haN] at hA
      repeat' (first | (first | (refine GT ?_ ?_ <;> intro hg <;> clear hA a <;> intro a hA <;> (first | exact FA | replace hg := of_decide_eq_true hg | replace hg := of_decide_eq_false hg | skip)) | (refine QT ?_; clear hA a; intro a hA) | (first | (refine BT ?_; clear hA hH; rintro _ w ⟨bN, rfl, hH⟩ a hA) | (refine LT ?_; clear hA hH; rintro _ w ⟨oN, rfl, hH⟩ a hA) | (refine AT ?_; clear hA; rintro _ w ⟨oN, cN, rfl, hH2⟩ a hA; clear hH; have hH := (hH2 _ (by (repeat constructor))).tail; clear hH2) | (refine S0T ?_; clear hH; rintro _ w hH) )) | ((first | refine CT ?_ | (refine DT ?_ ?_ <;> intro hc <;> try (exfalso; omega))) <;> repeat' refine CT ?_) | (first | (refine DSK ?_; clear hA a; intro a hA) | (first | (refine DLT ?_; clear hA hH; rintro _ w ⟨oN, rfl, hH⟩; refine ⟨STT, ?_⟩; intro a hA) | (refine DAT ?_; clear hA; rintro _ w ⟨oN, cN, rfl, hH2⟩; clear hH; have hH := (hH2 _ (by (repeat constructor))).tail; clear hH2; refine ⟨STT, ?_⟩; intro a hA))) )
      exact rt1 (.inl rfl) rfl hA rfl ⟨rfl, hH⟩
    · rw [if_neg hO] at hA
      rw [at_no hO]
      repeat' (first | (first | (refine GT ?_ ?_ <;> intro hg <;> clear hA a <;> intro a hA <;> (first | exact FA | replace hg := of_decide_eq_true hg | replace hg := of_decide_eq_false hg | skip)) | (refine QT ?_; clear hA a; intro a hA) | (first | (refine BT ?_; clear hA hH; rintro _ w ⟨bN, rfl, hH⟩ a hA) | (refine LT ?_; clear hA hH; rintro _ w ⟨oN, rfl, hH⟩ a hA) | (refine AT ?_; clear hA; rintro _ w ⟨oN, cN, rfl, hH2⟩ a hA; clear hH; have hH := (hH2 _ (by (repeat constructor))).tail; clear hH2) | (refine S0T ?_; clear hH; rintro _ w hH) )) | ((first | refine CT ?_ | (refine DT ?_ ?_ <;> intro hc <;> try (exfalso; omega))) <;> repeat' refine CT ?_) | (first | (refine DSK ?_; clear hA a; intro a hA) | (first | (refine DLT ?_; clear hA hH; rintro _ w ⟨oN, rfl, hH⟩; refine ⟨STT, ?_⟩; intro a hA) | (refine DAT ?_; clear hA; rintro _ w ⟨oN, cN, rfl, hH2⟩; clear hH; have hH := (hH2 _ (by (repeat constructor))).tail; clear hH2; refine ⟨STT, ?_⟩; intro a hA))) )
      exact rt1 (.inl rfl) rfl hA rfl ⟨rfl, hH⟩

theorem sget_spec (w0 : World) (M : Nat → Prop) (bs N : Nat) (g : SS) (x i : Int) (hok : GOk N g.s) (hU : U x) (hH : HS w0 M [stI bs N g] w0) :
    Ret Try.prog 16 #[.pointer (some (bat bs 0)), .int .u64 x, .int .i64 i] w0 (fun v w => v = .tuple #[.int .u64 (getA g.s.L (atA g.s.L x : Nat) i).1, .int .i64 (getA g.s.L (atA g.s.L x : Nat) i).2] ∧ HS w0 M [stI bs N g] w) := by
  obtain ⟨bg, b, hH2⟩ := st_open hH
  clear hH
  have hH : HS w0 M [gcI bg b N g.s, hpI b N g.s.L, cb bs 86 [.pointer (some (bat bg 0)), .pointer (some (bat b 0)), .int .i64 g.cy]] w0 := hH2
  clear hH2
  (refine enter (N := 19) Try.func16 rfl Try.ntmps16 rfl ?_; intro a hA; dsimp only [sl0, Nat.reduceAdd] at hA)
  repeat' (first | (first | (refine GT ?_ ?_ <;> intro hg <;> clear hA a <;> intro a hA <;> (first | exact FA | replace hg := of_decide_eq_true hg | replace hg := of_decide_eq_false hg | skip)) | (refine QT ?_; clear hA a; intro a hA) | (first | (refine BT ?_; clear hA hH; rintro _ w ⟨bN, rfl, hH⟩ a hA) | (refine LT ?_; clear hA hH; rintro _ w ⟨oN, rfl, hH⟩ a hA) | (refine AT ?_; clear hA; rintro _ w ⟨oN, cN, rfl, hH2⟩ a hA; clear hH; have hH := (hH2 _ (by (repeat constructor))).tail; clear hH2) | (refine S0T ?_; clear hH; rintro _ w hH) )) | ((first | refine CT ?_ | (refine DT ?_ ?_ <;> intro hc <;> try (exfalso; omega))) <;> repeat' refine CT ?_) | (first | (refine DSK ?_; clear hA a; intro a hA) | (first | (refine DLT ?_; clear hA hH; rintro _ w ⟨oN, rfl, hH⟩; refine ⟨STT, ?_⟩; intro a hA) | (refine DAT ?_; clear hA; rintro _ w ⟨oN, cN, rfl, hH2⟩; clear hH; have hH := (hH2 _ (by (repeat constructor))).tail; clear hH2; refine ⟨STT, ?_⟩; intro a hA))) )
  (refine wp_draw_HS [(0, 1), (1, 1), (2, 1), (3, 1), (4, 1), (5, 1), (7, 1), (6, 0), (8, 0), (9, 1), (10, 1), (11, 1), (12, 1)] mixed (by decide +kernel) hH ?_; replace hH := hH.drew)
  repeat' (first | (first | (refine GT ?_ ?_ <;> intro hg <;> clear hA a <;> intro a hA <;> (first | exact FA | replace hg := of_decide_eq_true hg | replace hg := of_decide_eq_false hg | skip)) | (refine QT ?_; clear hA a; intro a hA) | (first | (refine BT ?_; clear hA hH; rintro _ w ⟨bN, rfl, hH⟩ a hA) | (refine LT ?_; clear hA hH; rintro _ w ⟨oN, rfl, hH⟩ a hA) | (refine AT ?_; clear hA; rintro _ w ⟨oN, cN, rfl, hH2⟩ a hA; clear hH; have hH := (hH2 _ (by (repeat constructor))).tail; clear hH2) | (refine S0T ?_; clear hH; rintro _ w hH) )) | ((first | refine CT ?_ | (refine DT ?_ ?_ <;> intro hc <;> try (exfalso; omega))) <;> repeat' refine CT ?_) | (first | (refine DSK ?_; clear hA a; intro a hA) | (first | (refine DLT ?_; clear hA hH; rintro _ w ⟨oN, rfl, hH⟩; refine ⟨STT, ?_⟩; intro a hA) | (refine DAT ?_; clear hA; rintro _ w ⟨oN, cN, rfl, hH2⟩; clear hH; have hH := (hH2 _ (by (repeat constructor))).tail; clear hH2; refine ⟨STT, ?_⟩; intro a hA))) )
  (refine dr_op hA rfl rfl rfl (by decide) (op_call rfl rfl rfl (sat_o hH hok hU)) ?_; clear hA hH; rintro _ w ⟨rfl, hH⟩; refine ⟨STT, ?_⟩; intro a hA)
  repeat' (first | (first | (refine GT ?_ ?_ <;> intro hg <;> clear hA a <;> intro a hA <;> (first | exact FA | replace hg := of_decide_eq_true hg | replace hg := of_decide_eq_false hg | skip)) | (refine QT ?_; clear hA a; intro a hA) | (first | (refine BT ?_; clear hA hH; rintro _ w ⟨bN, rfl, hH⟩ a hA) | (refine LT ?_; clear hA hH; rintro _ w ⟨oN, rfl, hH⟩ a hA) | (refine AT ?_; clear hA; rintro _ w ⟨oN, cN, rfl, hH2⟩ a hA; clear hH; have hH := (hH2 _ (by (repeat constructor))).tail; clear hH2) | (refine S0T ?_; clear hH; rintro _ w hH) )) | ((first | refine CT ?_ | (refine DT ?_ ?_ <;> intro hc <;> try (exfalso; omega))) <;> repeat' refine CT ?_) | (first | (refine DSK ?_; clear hA a; intro a hA) | (first | (refine DLT ?_; clear hA hH; rintro _ w ⟨oN, rfl, hH⟩; refine ⟨STT, ?_⟩; intro a hA) | (refine DAT ?_; clear hA; rintro _ w ⟨oN, cN, rfl, hH2⟩; clear hH; have hH := (hH2 _ (by (repeat constructor))).tail; clear hH2; refine ⟨STT, ?_⟩; intro a hA))) )
  (refine dr_op hA rfl rfl rfl (by decide) (op_call rfl rfl rfl (get_f hH (by exact MEMT))) ?_; clear hA hH; rintro _ w ⟨rfl, hH⟩; refine ⟨STT, ?_⟩; intro a hA)
  repeat' (first | (first | (refine GT ?_ ?_ <;> intro hg <;> clear hA a <;> intro a hA <;> (first | exact FA | replace hg := of_decide_eq_true hg | replace hg := of_decide_eq_false hg | skip)) | (refine QT ?_; clear hA a; intro a hA) | (first | (refine BT ?_; clear hA hH; rintro _ w ⟨bN, rfl, hH⟩ a hA) | (refine LT ?_; clear hA hH; rintro _ w ⟨oN, rfl, hH⟩ a hA) | (refine AT ?_; clear hA; rintro _ w ⟨oN, cN, rfl, hH2⟩ a hA; clear hH; have hH := (hH2 _ (by (repeat constructor))).tail; clear hH2) | (refine S0T ?_; clear hH; rintro _ w hH) )) | ((first | refine CT ?_ | (refine DT ?_ ?_ <;> intro hc <;> try (exfalso; omega))) <;> repeat' refine CT ?_) | (first | (refine DSK ?_; clear hA a; intro a hA) | (first | (refine DLT ?_; clear hA hH; rintro _ w ⟨oN, rfl, hH⟩; refine ⟨STT, ?_⟩; intro a hA) | (refine DAT ?_; clear hA; rintro _ w ⟨oN, cN, rfl, hH2⟩; clear hH; have hH := (hH2 _ (by (repeat constructor))).tail; clear hH2; refine ⟨STT, ?_⟩; intro a hA))) )
  exact rt2 (.inl rfl) rfl hA rfl rfl ⟨rfl, st_shut bg b hH⟩

theorem sset_spec (w0 : World) (M : Nat → Prop) (bs N : Nat) (g : SS) (x i y : Int) (hok : GOk N g.s) (hU : U x) (hH : HS w0 M [stI bs N g] w0) :
    Ret Try.prog 14 #[.pointer (some (bat bs 0)), .int .u64 x, .int .i64 i, .int .u64 y] w0 (fun v w => v = .int .i64 (writeS g (atA g.s.L x : Nat) i y).1 ∧ HS w0 M [stI bs N (writeS g (atA g.s.L x : Nat) i y).2] w) := by
  obtain ⟨bg, b, hH2⟩ := st_open hH
  clear hH
  have hH : HS w0 M [gcI bg b N g.s, hpI b N g.s.L, cb bs 86 [.pointer (some (bat bg 0)), .pointer (some (bat b 0)), .int .i64 g.cy]] w0 := hH2
  clear hH2
  (refine enter (N := 19) Try.func14 rfl Try.ntmps14 rfl ?_; intro a hA; dsimp only [sl0, Nat.reduceAdd] at hA)
  repeat' (first | (first | (refine GT ?_ ?_ <;> intro hg <;> clear hA a <;> intro a hA <;> (first | exact FA | replace hg := of_decide_eq_true hg | replace hg := of_decide_eq_false hg | skip)) | (refine QT ?_; clear hA a; intro a hA) | (first | (refine BT ?_; clear hA hH; rintro _ w ⟨bN, rfl, hH⟩ a hA) | (refine LT ?_; clear hA hH; rintro _ w ⟨oN, rfl, hH⟩ a hA) | (refine AT ?_; clear hA; rintro _ w ⟨oN, cN, rfl, hH2⟩ a hA; clear hH; have hH := (hH2 _ (by (repeat constructor))).tail; clear hH2) | (refine S0T ?_; clear hH; rintro _ w hH) )) | ((first | refine CT ?_ | (refine DT ?_ ?_ <;> intro hc <;> try (exfalso; omega))) <;> repeat' refine CT ?_) | (first | (refine DSK ?_; clear hA a; intro a hA) | (first | (refine DLT ?_; clear hA hH; rintro _ w ⟨oN, rfl, hH⟩; refine ⟨STT, ?_⟩; intro a hA) | (refine DAT ?_; clear hA; rintro _ w ⟨oN, cN, rfl, hH2⟩; clear hH; have hH := (hH2 _ (by (repeat constructor))).tail; clear hH2; refine ⟨STT, ?_⟩; intro a hA))) )
  (refine wp_draw_HS (H := [cb bs 86 [.pointer (some (bat bg 0)), .pointer (some (bat b 0)), .int .i64 g.cy]]) [(0, 1), (1, 1), (2, 1), (3, 1), (4, 1), (5, 1), (7, 1), (8, 1), (6, 0), (9, 0), (10, 1)] mixed (by decide +kernel) (hH.pick (by exact MEMT)) ?_; replace hH := hH.drew)
  repeat' (first | (first | (refine GT ?_ ?_ <;> intro hg <;> clear hA a <;> intro a hA <;> (first | exact FA | replace hg := of_decide_eq_true hg | replace hg := of_decide_eq_false hg | skip)) | (refine QT ?_; clear hA a; intro a hA) | (first | (refine BT ?_; clear hA hH; rintro _ w ⟨bN, rfl, hH⟩ a hA) | (refine LT ?_; clear hA hH; rintro _ w ⟨oN, rfl, hH⟩ a hA) | (refine AT ?_; clear hA; rintro _ w ⟨oN, cN, rfl, hH2⟩ a hA; clear hH; have hH := (hH2 _ (by (repeat constructor))).tail; clear hH2) | (refine S0T ?_; clear hH; rintro _ w hH) )) | ((first | refine CT ?_ | (refine DT ?_ ?_ <;> intro hc <;> try (exfalso; omega))) <;> repeat' refine CT ?_) | (first | (refine DSK ?_; clear hA a; intro a hA) | (first | (refine DLT ?_; clear hA hH; rintro _ w ⟨oN, rfl, hH⟩; refine ⟨STT, ?_⟩; intro a hA) | (refine DAT ?_; clear hA; rintro _ w ⟨oN, cN, rfl, hH2⟩; clear hH; have hH := (hH2 _ (by (repeat constructor))).tail; clear hH2; refine ⟨STT, ?_⟩; intro a hA))) )
  (refine dr_op hA rfl rfl rfl (by decide) (op_call rfl rfl rfl (sat_o hH hok hU)) ?_; clear hA hH; rintro _ w ⟨rfl, hH⟩; refine ⟨STT, ?_⟩; intro a hA)
  repeat' (first | (first | (refine GT ?_ ?_ <;> intro hg <;> clear hA a <;> intro a hA <;> (first | exact FA | replace hg := of_decide_eq_true hg | replace hg := of_decide_eq_false hg | skip)) | (refine QT ?_; clear hA a; intro a hA) | (first | (refine BT ?_; clear hA hH; rintro _ w ⟨bN, rfl, hH⟩ a hA) | (refine LT ?_; clear hA hH; rintro _ w ⟨oN, rfl, hH⟩ a hA) | (refine AT ?_; clear hA; rintro _ w ⟨oN, cN, rfl, hH2⟩ a hA; clear hH; have hH := (hH2 _ (by (repeat constructor))).tail; clear hH2) | (refine S0T ?_; clear hH; rintro _ w hH) )) | ((first | refine CT ?_ | (refine DT ?_ ?_ <;> intro hc <;> try (exfalso; omega))) <;> repeat' refine CT ?_) | (first | (refine DSK ?_; clear hA a; intro a hA) | (first | (refine DLT ?_; clear hA hH; rintro _ w ⟨oN, rfl, hH⟩; refine ⟨STT, ?_⟩; intro a hA) | (refine DAT ?_; clear hA; rintro _ w ⟨oN, cN, rfl, hH2⟩; clear hH; have hH := (hH2 _ (by (repeat constructor))).tail; clear hH2; refine ⟨STT, ?_⟩; intro a hA))) )
  (refine dr_op hA rfl rfl rfl (by decide) (op_call rfl rfl rfl (gwrite_f hH hok rfl)) ?_; clear hA hH; rintro _ w ⟨rfl, hH⟩; refine ⟨STT, ?_⟩; intro a hA)
  repeat' (first | (first | (refine GT ?_ ?_ <;> intro hg <;> clear hA a <;> intro a hA <;> (first | exact FA | replace hg := of_decide_eq_true hg | replace hg := of_decide_eq_false hg | skip)) | (refine QT ?_; clear hA a; intro a hA) | (first | (refine BT ?_; clear hA hH; rintro _ w ⟨bN, rfl, hH⟩ a hA) | (refine LT ?_; clear hA hH; rintro _ w ⟨oN, rfl, hH⟩ a hA) | (refine AT ?_; clear hA; rintro _ w ⟨oN, cN, rfl, hH2⟩ a hA; clear hH; have hH := (hH2 _ (by (repeat constructor))).tail; clear hH2) | (refine S0T ?_; clear hH; rintro _ w hH) )) | ((first | refine CT ?_ | (refine DT ?_ ?_ <;> intro hc <;> try (exfalso; omega))) <;> repeat' refine CT ?_) | (first | (refine DSK ?_; clear hA a; intro a hA) | (first | (refine DLT ?_; clear hA hH; rintro _ w ⟨oN, rfl, hH⟩; refine ⟨STT, ?_⟩; intro a hA) | (refine DAT ?_; clear hA; rintro _ w ⟨oN, cN, rfl, hH2⟩; clear hH; have hH := (hH2 _ (by (repeat constructor))).tail; clear hH2; refine ⟨STT, ?_⟩; intro a hA))) )
  exact rt1 (.inl rfl) rfl hA rfl ⟨rfl, st_shut bg b hH⟩

theorem skind_spec (w0 : World) (M : Nat → Prop) (bs N : Nat) (g : SS) (x : Int) (hok : GOk N g.s) (hU : U x) (hH : HS w0 M [stI bs N g] w0) :
    Ret Try.prog 38 #[.pointer (some (bat bs 0)), .int .u64 x] w0 (fun v w => v = .int .i64 (kindA g.s.L (atA g.s.L x : Nat)).1 ∧ HS w0 M [stI bs N g] w) := by
  obtain ⟨bg, b, hH2⟩ := st_open hH
  clear hH
  have hH : HS w0 M [gcI bg b N g.s, hpI b N g.s.L, cb bs 86 [.pointer (some (bat bg 0)), .pointer (some (bat b 0)), .int .i64 g.cy]] w0 := hH2
  clear hH2
  (refine enter (N := 19) Try.func38 rfl Try.ntmps38 rfl ?_; intro a hA; dsimp only [sl0, Nat.reduceAdd] at hA)
  repeat' (first | (first | (refine GT ?_ ?_ <;> intro hg <;> clear hA a <;> intro a hA <;> (first | exact FA | replace hg := of_decide_eq_true hg | replace hg := of_decide_eq_false hg | skip)) | (refine QT ?_; clear hA a; intro a hA) | (first | (refine BT ?_; clear hA hH; rintro _ w ⟨bN, rfl, hH⟩ a hA) | (refine LT ?_; clear hA hH; rintro _ w ⟨oN, rfl, hH⟩ a hA) | (refine AT ?_; clear hA; rintro _ w ⟨oN, cN, rfl, hH2⟩ a hA; clear hH; have hH := (hH2 _ (by (repeat constructor))).tail; clear hH2) | (refine S0T ?_; clear hH; rintro _ w hH) )) | ((first | refine CT ?_ | (refine DT ?_ ?_ <;> intro hc <;> try (exfalso; omega))) <;> repeat' refine CT ?_) | (first | (refine DSK ?_; clear hA a; intro a hA) | (first | (refine DLT ?_; clear hA hH; rintro _ w ⟨oN, rfl, hH⟩; refine ⟨STT, ?_⟩; intro a hA) | (refine DAT ?_; clear hA; rintro _ w ⟨oN, cN, rfl, hH2⟩; clear hH; have hH := (hH2 _ (by (repeat constructor))).tail; clear hH2; refine ⟨STT, ?_⟩; intro a hA))) )
  (refine wp_draw_HS [(0, 1), (1, 1), (2, 1), (3, 1), (4, 1), (5, 1), (6, 0), (7, 0), (8, 1), (9, 1), (10, 1), (11, 1), (12, 1)] mixed (by decide +kernel) hH ?_; replace hH := hH.drew)
  repeat' (first | (first | (refine GT ?_ ?_ <;> intro hg <;> clear hA a <;> intro a hA <;> (first | exact FA | replace hg := of_decide_eq_true hg | replace hg := of_decide_eq_false hg | skip)) | (refine QT ?_; clear hA a; intro a hA) | (first | (refine BT ?_; clear hA hH; rintro _ w ⟨bN, rfl, hH⟩ a hA) | (refine LT ?_; clear hA hH; rintro _ w ⟨oN, rfl, hH⟩ a hA) | (refine AT ?_; clear hA; rintro _ w ⟨oN, cN, rfl, hH2⟩ a hA; clear hH; have hH := (hH2 _ (by (repeat constructor))).tail; clear hH2) | (refine S0T ?_; clear hH; rintro _ w hH) )) | ((first | refine CT ?_ | (refine DT ?_ ?_ <;> intro hc <;> try (exfalso; omega))) <;> repeat' refine CT ?_) | (first | (refine DSK ?_; clear hA a; intro a hA) | (first | (refine DLT ?_; clear hA hH; rintro _ w ⟨oN, rfl, hH⟩; refine ⟨STT, ?_⟩; intro a hA) | (refine DAT ?_; clear hA; rintro _ w ⟨oN, cN, rfl, hH2⟩; clear hH; have hH := (hH2 _ (by (repeat constructor))).tail; clear hH2; refine ⟨STT, ?_⟩; intro a hA))) )
  (refine dr_op hA rfl rfl rfl (by decide) (op_call rfl rfl rfl (sat_o hH hok hU)) ?_; clear hA hH; rintro _ w ⟨rfl, hH⟩; refine ⟨STT, ?_⟩; intro a hA)
  repeat' (first | (first | (refine GT ?_ ?_ <;> intro hg <;> clear hA a <;> intro a hA <;> (first | exact FA | replace hg := of_decide_eq_true hg | replace hg := of_decide_eq_false hg | skip)) | (refine QT ?_; clear hA a; intro a hA) | (first | (refine BT ?_; clear hA hH; rintro _ w ⟨bN, rfl, hH⟩ a hA) | (refine LT ?_; clear hA hH; rintro _ w ⟨oN, rfl, hH⟩ a hA) | (refine AT ?_; clear hA; rintro _ w ⟨oN, cN, rfl, hH2⟩ a hA; clear hH; have hH := (hH2 _ (by (repeat constructor))).tail; clear hH2) | (refine S0T ?_; clear hH; rintro _ w hH) )) | ((first | refine CT ?_ | (refine DT ?_ ?_ <;> intro hc <;> try (exfalso; omega))) <;> repeat' refine CT ?_) | (first | (refine DSK ?_; clear hA a; intro a hA) | (first | (refine DLT ?_; clear hA hH; rintro _ w ⟨oN, rfl, hH⟩; refine ⟨STT, ?_⟩; intro a hA) | (refine DAT ?_; clear hA; rintro _ w ⟨oN, cN, rfl, hH2⟩; clear hH; have hH := (hH2 _ (by (repeat constructor))).tail; clear hH2; refine ⟨STT, ?_⟩; intro a hA))) )
  (refine dr_op hA rfl rfl rfl (by decide) (op_call rfl rfl rfl (kind_f hH (by exact MEMT))) ?_; clear hA hH; rintro _ w ⟨rfl, hH⟩; refine ⟨STT, ?_⟩; intro a hA)
  repeat' (first | (first | (refine GT ?_ ?_ <;> intro hg <;> clear hA a <;> intro a hA <;> (first | exact FA | replace hg := of_decide_eq_true hg | replace hg := of_decide_eq_false hg | skip)) | (refine QT ?_; clear hA a; intro a hA) | (first | (refine BT ?_; clear hA hH; rintro _ w ⟨bN, rfl, hH⟩ a hA) | (refine LT ?_; clear hA hH; rintro _ w ⟨oN, rfl, hH⟩ a hA) | (refine AT ?_; clear hA; rintro _ w ⟨oN, cN, rfl, hH2⟩ a hA; clear hH; have hH := (hH2 _ (by (repeat constructor))).tail; clear hH2) | (refine S0T ?_; clear hH; rintro _ w hH) )) | ((first | refine CT ?_ | (refine DT ?_ ?_ <;> intro hc <;> try (exfalso; omega))) <;> repeat' refine CT ?_) | (first | (refine DSK ?_; clear hA a; intro a hA) | (first | (refine DLT ?_; clear hA hH; rintro _ w ⟨oN, rfl, hH⟩; refine ⟨STT, ?_⟩; intro a hA) | (refine DAT ?_; clear hA; rintro _ w ⟨oN, cN, rfl, hH2⟩; clear hH; have hH := (hH2 _ (by (repeat constructor))).tail; clear hH2; refine ⟨STT, ?_⟩; intro a hA))) )
  exact rt1 (.inl rfl) rfl hA rfl ⟨rfl, st_shut bg b hH⟩

theorem ssize_spec (w0 : World) (M : Nat → Prop) (bs N : Nat) (g : SS) (x : Int) (hok : GOk N g.s) (hU : U x) (hH : HS w0 M [stI bs N g] w0) :
    Ret Try.prog 39 #[.pointer (some (bat bs 0)), .int .u64 x] w0 (fun v w => v = .int .i64 (sizeA g.s.L (atA g.s.L x : Nat)).1 ∧ HS w0 M [stI bs N g] w) := by
  obtain ⟨bg, b, hH2⟩ := st_open hH
  clear hH
  have hH : HS w0 M [gcI bg b N g.s, hpI b N g.s.L, cb bs 86 [.pointer (some (bat bg 0)), .pointer (some (bat b 0)), .int .i64 g.cy]] w0 := hH2
  clear hH2
  (refine enter (N := 19) Try.func39 rfl Try.ntmps39 rfl ?_; intro a hA; dsimp only [sl0, Nat.reduceAdd] at hA)
  repeat' (first | (first | (refine GT ?_ ?_ <;> intro hg <;> clear hA a <;> intro a hA <;> (first | exact FA | replace hg := of_decide_eq_true hg | replace hg := of_decide_eq_false hg | skip)) | (refine QT ?_; clear hA a; intro a hA) | (first | (refine BT ?_; clear hA hH; rintro _ w ⟨bN, rfl, hH⟩ a hA) | (refine LT ?_; clear hA hH; rintro _ w ⟨oN, rfl, hH⟩ a hA) | (refine AT ?_; clear hA; rintro _ w ⟨oN, cN, rfl, hH2⟩ a hA; clear hH; have hH := (hH2 _ (by (repeat constructor))).tail; clear hH2) | (refine S0T ?_; clear hH; rintro _ w hH) )) | ((first | refine CT ?_ | (refine DT ?_ ?_ <;> intro hc <;> try (exfalso; omega))) <;> repeat' refine CT ?_) | (first | (refine DSK ?_; clear hA a; intro a hA) | (first | (refine DLT ?_; clear hA hH; rintro _ w ⟨oN, rfl, hH⟩; refine ⟨STT, ?_⟩; intro a hA) | (refine DAT ?_; clear hA; rintro _ w ⟨oN, cN, rfl, hH2⟩; clear hH; have hH := (hH2 _ (by (repeat constructor))).tail; clear hH2; refine ⟨STT, ?_⟩; intro a hA))) )
  (refine wp_draw_HS [(0, 1), (1, 1), (2, 1), (3, 1), (4, 1), (5, 1), (6, 0), (7, 0), (8, 1), (9, 1), (10, 1), (11, 1), (12, 1)] mixed (by decide +kernel) hH ?_; replace hH := hH.drew)
  repeat' (first | (first | (refine GT ?_ ?_ <;> intro hg <;> clear hA a <;> intro a hA <;> (first | exact FA | replace hg := of_decide_eq_true hg | replace hg := of_decide_eq_false hg | skip)) | (refine QT ?_; clear hA a; intro a hA) | (first | (refine BT ?_; clear hA hH; rintro _ w ⟨bN, rfl, hH⟩ a hA) | (refine LT ?_; clear hA hH; rintro _ w ⟨oN, rfl, hH⟩ a hA) | (refine AT ?_; clear hA; rintro _ w ⟨oN, cN, rfl, hH2⟩ a hA; clear hH; have hH := (hH2 _ (by (repeat constructor))).tail; clear hH2) | (refine S0T ?_; clear hH; rintro _ w hH) )) | ((first | refine CT ?_ | (refine DT ?_ ?_ <;> intro hc <;> try (exfalso; omega))) <;> repeat' refine CT ?_) | (first | (refine DSK ?_; clear hA a; intro a hA) | (first | (refine DLT ?_; clear hA hH; rintro _ w ⟨oN, rfl, hH⟩; refine ⟨STT, ?_⟩; intro a hA) | (refine DAT ?_; clear hA; rintro _ w ⟨oN, cN, rfl, hH2⟩; clear hH; have hH := (hH2 _ (by (repeat constructor))).tail; clear hH2; refine ⟨STT, ?_⟩; intro a hA))) )
  (refine dr_op hA rfl rfl rfl (by decide) (op_call rfl rfl rfl (sat_o hH hok hU)) ?_; clear hA hH; rintro _ w ⟨rfl, hH⟩; refine ⟨STT, ?_⟩; intro a hA)
  repeat' (first | (first | (refine GT ?_ ?_ <;> intro hg <;> clear hA a <;> intro a hA <;> (first | exact FA | replace hg := of_decide_eq_true hg | replace hg := of_decide_eq_false hg | skip)) | (refine QT ?_; clear hA a; intro a hA) | (first | (refine BT ?_; clear hA hH; rintro _ w ⟨bN, rfl, hH⟩ a hA) | (refine LT ?_; clear hA hH; rintro _ w ⟨oN, rfl, hH⟩ a hA) | (refine AT ?_; clear hA; rintro _ w ⟨oN, cN, rfl, hH2⟩ a hA; clear hH; have hH := (hH2 _ (by (repeat constructor))).tail; clear hH2) | (refine S0T ?_; clear hH; rintro _ w hH) )) | ((first | refine CT ?_ | (refine DT ?_ ?_ <;> intro hc <;> try (exfalso; omega))) <;> repeat' refine CT ?_) | (first | (refine DSK ?_; clear hA a; intro a hA) | (first | (refine DLT ?_; clear hA hH; rintro _ w ⟨oN, rfl, hH⟩; refine ⟨STT, ?_⟩; intro a hA) | (refine DAT ?_; clear hA; rintro _ w ⟨oN, cN, rfl, hH2⟩; clear hH; have hH := (hH2 _ (by (repeat constructor))).tail; clear hH2; refine ⟨STT, ?_⟩; intro a hA))) )
  (refine dr_op hA rfl rfl rfl (by decide) (op_call rfl rfl rfl (size_f hH (by exact MEMT))) ?_; clear hA hH; rintro _ w ⟨rfl, hH⟩; refine ⟨STT, ?_⟩; intro a hA)
  repeat' (first | (first | (refine GT ?_ ?_ <;> intro hg <;> clear hA a <;> intro a hA <;> (first | exact FA | replace hg := of_decide_eq_true hg | replace hg := of_decide_eq_false hg | skip)) | (refine QT ?_; clear hA a; intro a hA) | (first | (refine BT ?_; clear hA hH; rintro _ w ⟨bN, rfl, hH⟩ a hA) | (refine LT ?_; clear hA hH; rintro _ w ⟨oN, rfl, hH⟩ a hA) | (refine AT ?_; clear hA; rintro _ w ⟨oN, cN, rfl, hH2⟩ a hA; clear hH; have hH := (hH2 _ (by (repeat constructor))).tail; clear hH2) | (refine S0T ?_; clear hH; rintro _ w hH) )) | ((first | refine CT ?_ | (refine DT ?_ ?_ <;> intro hc <;> try (exfalso; omega))) <;> repeat' refine CT ?_) | (first | (refine DSK ?_; clear hA a; intro a hA) | (first | (refine DLT ?_; clear hA hH; rintro _ w ⟨oN, rfl, hH⟩; refine ⟨STT, ?_⟩; intro a hA) | (refine DAT ?_; clear hA; rintro _ w ⟨oN, cN, rfl, hH2⟩; clear hH; have hH := (hH2 _ (by (repeat constructor))).tail; clear hH2; refine ⟨STT, ?_⟩; intro a hA))) )
  exact rt1 (.inl rfl) rfl hA rfl ⟨rfl, st_shut bg b hH⟩
end Go.Proofs.Ytdfhajdejlhamaa
namespace Go.Proofs.Ytdfhajdejlhamaa
open Go Go.Fw
set_option linter.unusedVariables false
theorem orK_nat {a b : Nat} (ha : a < 18446744073709551616) (hb : b < 18446744073709551616) : orK .u64 (a : Int) (b : Int) = ((a ||| b : Nat) : Int) := by
  unfold orK
  have e : IntKind.u64.bits = 64 := rfl
  have h1 : (BitVec.ofInt IntKind.u64.bits (a : Int) ||| BitVec.ofInt IntKind.u64.bits (b : Int)).toNat = a ||| b := by
    rw [BitVec.toNat_or, BitVec.ofInt_natCast, BitVec.ofInt_natCast, BitVec.toNat_ofNat, BitVec.toNat_ofNat, e]
    rw [Nat.mod_eq_of_lt (by simpa using ha), Nat.mod_eq_of_lt (by simpa using hb)]
  have h2 : a ||| b < 2 ^ 64 := Nat.or_lt_two_pow (by simpa using ha) (by simpa using hb)
  rw [h1, u64_mod, Int.emod_eq_of_lt (by omega) (by have : (2 : Nat) ^ 64 = 18446744073709551616 := by decide
                                                    omega)]
theorem pow_two (k : Nat) : (256 : Nat) ^ k = 2 ^ (8 * k) := by rw [Nat.pow_mul]
theorem shl_byte {c k : Nat} (hc : c < 256) (hk : k < 8) : shlK .u64 (c : Int) (8 * (k : Int)) = ((c * 256 ^ k : Nat) : Int) := by
  have h2 : (256 : Nat) ^ k ≤ 256 ^ 7 := Nat.pow_le_pow_right (by decide) (by omega)
  have h3 : c * 256 ^ k < 256 * 256 ^ k := Nat.mul_lt_mul_of_pos_right hc (Nat.pow_pos (by decide))
  have h4 : (256 : Nat) ^ 7 = 72057594037927936 := by decide
  unfold shlK
  have e : min (8 * (k : Int)).toNat IntKind.u64.bits = 8 * k := by
    show min (8 * (k : Int)).toNat 64 = 8 * k
    omega
  rw [e, u64_mod]
  have e2 : (c : Int) * 2 ^ (8 * k) = ((c * 256 ^ k : Nat) : Int) := by
    rw [pow_two]
    simp
  rw [e2, Int.emod_eq_of_lt (by omega) (by omega)]
theorem or_byte {x c k : Nat} (hx : x < 256 ^ k) (hc : c < 256) (hk : k < 8) : orK .u64 (x : Int) ((c * 256 ^ k : Nat) : Int) = ((x + c * 256 ^ k : Nat) : Int) := by
  have h2 : (256 : Nat) ^ k ≤ 256 ^ 7 := Nat.pow_le_pow_right (by decide) (by omega)
  have h3 : c * 256 ^ k < 256 * 256 ^ k := Nat.mul_lt_mul_of_pos_right hc (Nat.pow_pos (by decide))
  have h4 : (256 : Nat) ^ 7 = 72057594037927936 := by decide
  rw [orK_nat (by omega) (by omega)]
  have h5 := Nat.two_pow_add_eq_or_of_lt (b := x) (i := 8 * k) (by rw [← pow_two]; exact hx) c
  rw [← pow_two] at h5
  congr 1
  rw [Nat.or_comm, Nat.mul_comm c, ← h5, Nat.add_comm]
theorem shl_one {n : Nat} (h : n ≤ 1000000) : shlK .u64 (n : Int) 1 = ((2 * n : Nat) : Int) := by
  have e : shlK .u64 (n : Int) 1 = ((n : Int) * 2 ^ 1) % 18446744073709551616 := rfl
  rw [e, Int.emod_eq_of_lt (by omega) (by omega)]
  omega
theorem or_one {n : Nat} (h : n ≤ 1000000) : orK .u64 ((2 * n : Nat) : Int) 1 = 2 * (n : Int) + 1 := by
  have h1 := orK_nat (a := 2 * n) (b := 1) (by omega) (by decide)
  have h5 := Nat.two_pow_add_eq_or_of_lt (b := 1) (i := 1) (by decide) n
  rw [show ((1 : Int)) = ((1 : Nat) : Int) from rfl, h1]
  rw [show (2 : Nat) ^ 1 = 2 by decide] at h5
  rw [← h5]
  omega
set_option maxRecDepth 10000 attribute [local irreducible] Code.wp wpList Calls Ex Op1 sat bat blk cb own Go.Fw.mp Go.Fw.mpO Go.Fw.mpI Go.Fw.mpE Go.Fw.itr HS Rd Ret wkD Hp Cl Cls Exit.then Exit.inBlock Exit.noGoto bodyPost Go.Fw.flat wk2 Go.Fw.all Go.Fw.owns wpOp
attribute [local irreducible] shlK orK shrK andK

theorem ofn_spec (w0 : World) (n : Nat) (h : n ≤ 1000000) : Ret Try.prog 35 #[.int .i64 (n : Int)] w0 (fun v w => v = .int .u64 (2 * (n : Int) + 1) ∧ Kp w0 noM w) := by
  have hH : HS w0 noM [] w0 := HS.init w0 noM
  have e1 : IntKind.u64.wrap (n : Int) = (n : Int) := by rw [u64_mod, Int.emod_eq_of_lt (by omega) (by omega)]
  have e2 := shl_one h
  have e3 := or_one h
  (refine enter (N := 7) Try.func35 rfl Try.ntmps35 rfl ?_; intro a hA; dsimp only [sl0, Nat.reduceAdd] at hA)
  repeat' (first | (first | (refine GT ?_ ?_ <;> intro hg <;> clear hA a <;> intro a hA <;> (first | exact FA | replace hg := of_decide_eq_true hg | replace hg := of_decide_eq_false hg | skip)) | ((first | apply st_ex hA hH rfl rfl (by decide) | apply dr_ex hA rfl rfl rfl (by decide) | apply dr_exp hA rfl rfl rfl (by decide) | apply dr_ex3 hA hH rfl rfl rfl (by decide)); (first | (apply ex_convert (v := (n : Int)); rfl; exact e1) | (apply ex_shl (v := ((2 * n : Nat) : Int)); rfl; rfl; decide; exact e2) | (apply ex_or (v := 2 * (n : Int) + 1); rfl; rfl; exact e3)); clear hA a; intro a hA) | (refine QT ?_; clear hA a; intro a hA) | (first | (refine BT ?_; clear hA hH; rintro _ w ⟨bN, rfl, hH⟩ a hA) | (refine LT ?_; clear hA hH; rintro _ w ⟨oN, rfl, hH⟩ a hA) | (refine AT ?_; clear hA; rintro _ w ⟨oN, cN, rfl, hH2⟩ a hA; clear hH; have hH := (hH2 _ (by (repeat constructor))).tail; clear hH2) | (refine S0T ?_; clear hH; rintro _ w hH) )) | ((first | refine CT ?_ | (refine DT ?_ ?_ <;> intro hc <;> try (exfalso; omega))) <;> repeat' refine CT ?_) | (first | (refine DSK ?_; clear hA a; intro a hA) | (first | (refine DLT ?_; clear hA hH; rintro _ w ⟨oN, rfl, hH⟩; refine ⟨STT, ?_⟩; intro a hA) | (refine DAT ?_; clear hA; rintro _ w ⟨oN, cN, rfl, hH2⟩; clear hH; have hH := (hH2 _ (by (repeat constructor))).tail; clear hH2; refine ⟨STT, ?_⟩; intro a hA))) )
  exact rt1 (.inl rfl) rfl hA rfl ⟨rfl, hH.kp⟩
end Go.Proofs.Ytdfhajdejlhamaa
namespace Go.Proofs.Ytdfhajdejlhamaa
open Go Go.Fw
set_option linter.unusedVariables false
/-- a word's number -/
def numV (x : Int) : Int := (IntKind.i64.wrap x).fdiv 2
theorem numV_of {n : Nat} (h : n ≤ 1000000) : numV (2 * (n : Int) + 1) = (n : Int) := by
  unfold numV
  rw [wrap_i64 ⟨by omega, by omega⟩, Int.fdiv_eq_ediv_of_nonneg _ (by decide)]
  omega
theorem shr_num (x : Int) : shrK .i64 (IntKind.i64.wrap x) 1 = numV x := rfl
section
variable {w0 w : World} {M : Nat → Prop} {H : List It} {bs N : Nat} {g : SS}
theorem sset_f {x i y : Int} (hH : HS w0 M (stI bs N g :: H) w) (hok : GOk N g.s) (hU : U x) :
    Ret Try.prog 14 #[.pointer (some (bat bs 0)), .int .u64 x, .int .i64 i, .int .u64 y] w (fun v w' => v = .int .i64 (writeS g (atA g.s.L x : Nat) i y).1 ∧ HS w0 M (stI bs N (writeS g (atA g.s.L x : Nat) i y).2 :: H) w') := by
  obtain ⟨Mc, h1, -, h2⟩ := HS.frame (Hc := [stI bs N g]) (Hf := H) hH
  exact (sset_spec w Mc bs N g x i y hok hU h1).mono fun v w' ⟨h3, h4⟩ => ⟨h3, h2 _ _ h4⟩
theorem sget_f {x i : Int} (hH : HS w0 M (stI bs N g :: H) w) (hok : GOk N g.s) (hU : U x) :
    Ret Try.prog 16 #[.pointer (some (bat bs 0)), .int .u64 x, .int .i64 i] w (fun v w' => v = .tuple #[.int .u64 (getA g.s.L (atA g.s.L x : Nat) i).1, .int .i64 (getA g.s.L (atA g.s.L x : Nat) i).2] ∧ HS w0 M (stI bs N g :: H) w') := by
  obtain ⟨Mc, h1, -, h2⟩ := HS.frame (Hc := [stI bs N g]) (Hf := H) hH
  exact (sget_spec w Mc bs N g x i hok hU h1).mono fun v w' ⟨h3, h4⟩ => ⟨h3, h2 _ _ h4⟩
theorem skind_f {x : Int} (hH : HS w0 M (stI bs N g :: H) w) (hok : GOk N g.s) (hU : U x) :
    Ret Try.prog 38 #[.pointer (some (bat bs 0)), .int .u64 x] w (fun v w' => v = .int .i64 (kindA g.s.L (atA g.s.L x : Nat)).1 ∧ HS w0 M (stI bs N g :: H) w') := by
  obtain ⟨Mc, h1, -, h2⟩ := HS.frame (Hc := [stI bs N g]) (Hf := H) hH
  exact (skind_spec w Mc bs N g x hok hU h1).mono fun v w' ⟨h3, h4⟩ => ⟨h3, h2 _ _ h4⟩
theorem ssize_f {x : Int} (hH : HS w0 M (stI bs N g :: H) w) (hok : GOk N g.s) (hU : U x) :
    Ret Try.prog 39 #[.pointer (some (bat bs 0)), .int .u64 x] w (fun v w' => v = .int .i64 (sizeA g.s.L (atA g.s.L x : Nat)).1 ∧ HS w0 M (stI bs N g :: H) w') := by
  obtain ⟨Mc, h1, -, h2⟩ := HS.frame (Hc := [stI bs N g]) (Hf := H) hH
  exact (ssize_spec w Mc bs N g x hok hU h1).mono fun v w' ⟨h3, h4⟩ => ⟨h3, h2 _ _ h4⟩
end
set_option maxRecDepth 10000 attribute [local irreducible] Code.wp wpList Calls Ex Op1 sat bat blk cb own Go.Fw.mp Go.Fw.mpO Go.Fw.mpI Go.Fw.mpE Go.Fw.itr HS Rd Ret wkD Hp Cl Cls Exit.then Exit.inBlock Exit.noGoto bodyPost Go.Fw.flat wk2 Go.Fw.all Go.Fw.owns wpOp
attribute [local irreducible] shlK orK shrK andK numV

theorem num_spec (w0 : World) (x : Int) : Ret Try.prog 63 #[.int .u64 x] w0 (fun v w => v = .int .i64 (numV x) ∧ Kp w0 noM w) := by
  have hH : HS w0 noM [] w0 := HS.init w0 noM
  have e2 := shr_num x
  (refine enter (N := 6) Try.func63 rfl Try.ntmps63 rfl ?_; intro a hA; dsimp only [sl0, Nat.reduceAdd] at hA)
  repeat' (first | (first | (refine GT ?_ ?_ <;> intro hg <;> clear hA a <;> intro a hA <;> (first | exact FA | replace hg := of_decide_eq_true hg | replace hg := of_decide_eq_false hg | skip)) | ((first | apply st_ex hA hH rfl rfl (by decide) | apply dr_ex hA rfl rfl rfl (by decide) | apply dr_exp hA rfl rfl rfl (by decide) | apply dr_ex3 hA hH rfl rfl rfl (by decide)); (first | (apply ex_convert (v := IntKind.i64.wrap x); rfl; rfl) | (apply ex_shr (v := numV x); rfl; rfl; decide; exact e2)); clear hA a; intro a hA) | (refine QT ?_; clear hA a; intro a hA) | (first | (refine BT ?_; clear hA hH; rintro _ w ⟨bN, rfl, hH⟩ a hA) | (refine LT ?_; clear hA hH; rintro _ w ⟨oN, rfl, hH⟩ a hA) | (refine AT ?_; clear hA; rintro _ w ⟨oN, cN, rfl, hH2⟩ a hA; clear hH; have hH := (hH2 _ (by (repeat constructor))).tail; clear hH2) | (refine S0T ?_; clear hH; rintro _ w hH) )) | ((first | refine CT ?_ | (refine DT ?_ ?_ <;> intro hc <;> try (exfalso; omega))) <;> repeat' refine CT ?_) | (first | (refine DSK ?_; clear hA a; intro a hA) | (first | (refine DLT ?_; clear hA hH; rintro _ w ⟨oN, rfl, hH⟩; refine ⟨STT, ?_⟩; intro a hA) | (refine DAT ?_; clear hA; rintro _ w ⟨oN, cN, rfl, hH2⟩; clear hH; have hH := (hH2 _ (by (repeat constructor))).tail; clear hH2; refine ⟨STT, ?_⟩; intro a hA))) )
  exact rt1 (.inl rfl) rfl hA rfl ⟨rfl, hH.kp⟩
end Go.Proofs.Ytdfhajdejlhamaa
namespace Go.Proofs.Ytdfhajdejlhamaa
open Go Go.Fw
set_option linter.unusedVariables false
/-- fields set, one behind the other -/
def setF (g : SS) (x : Int) : Nat → List Int → SS
  | _, [] => g
  | i, y :: ys => setF (writeS g (atA g.s.L x : Nat) i y).2 x (i + 1) ys
theorem setF_snoc : ∀ (l : List Int) (g : SS) (x : Int) (i : Nat) (y : Int), setF g x i (l ++ [y]) = (writeS (setF g x i l) (atA (setF g x i l).s.L x : Nat) (i + l.length : Nat) y).2
  | [], g, x, i, y => by simp [setF]
  | z :: l, g, x, i, y => by
    show setF (writeS g (atA g.s.L x : Nat) i z).2 x (i + 1) (l ++ [y]) = _
    rw [setF_snoc l]
    show (writeS (setF (writeS g (atA g.s.L x : Nat) i z).2 x (i + 1) l) _ (i + 1 + l.length : Nat) y).2 = (writeS (setF (writeS g (atA g.s.L x : Nat) i z).2 x (i + 1) l) _ (i + (l.length + 1) : Nat) y).2
    rw [show i + 1 + l.length = i + (l.length + 1) by omega]
    rfl
theorem setF_ok {N : Nat} {x : Int} : ∀ {l : List Int} {g : SS} {i : Nat}, GOk N g.s → (∀ y ∈ l, U y) → GOk N (setF g x i l).s
  | [], g, i, h, _ => h
  | y :: l, g, i, h, hU => setF_ok (l := l) (write_ok h _ _ (hU y (List.mem_cons_self ..))).1 fun z hz => hU z (List.mem_cons_of_mem _ hz)
theorem setF_one (g : SS) (x y : Int) : (writeS g (atA g.s.L x : Nat) 0 y).2 = setF g x 0 [y] := rfl
theorem setF_next {g : SS} {x y : Int} {l : List Int} {k : Nat} (h : l[k]? = some y) (hk : (l.take k).length = k) : (writeS (setF g x 0 (l.take k)) (atA (setF g x 0 (l.take k)).s.L x : Nat) (k : Nat) y).2 = setF g x 0 (l.take (k + 1)) := by
  rw [List.take_add_one, h]
  have := setF_snoc (l.take k) g x 0 y
  rw [hk, Nat.zero_add] at this
  exact this.symm
theorem txt_one (t : List Nat) : [2 * (t.length : Int) + 1] = (txt t).take 1 := rfl
theorem sp_bat (b n : Nat) : Sp (some (bat b 0)) n := fun _ => ⟨b, 0, rfl⟩
theorem chunk_z (l : List Nat) : chunk (l.take 0) = 0 := rfl
theorem rd_atB {w : World} {o : Option Addr} {xs : List Value} {j : Nat} {u : Value} (h : Rd w o xs) (hj : xs[j]? = some u) : w.cell? (sat o j) = some u := h.2 j u hj
theorem txt_U {t : List Nat} (h : ∀ b ∈ t, b < 256) (hl : t.length ≤ 100000) : ∀ y ∈ txt t, U y := fun y hy => by
  unfold txt at hy
  rcases List.mem_cons.1 hy with rfl | hy
  · unfold U; omega
  · obtain ⟨j, _, rfl⟩ := List.mem_map.1 hy
    have := wrd_U h j
    unfold U; omega
theorem take_chunk {l : List Nat} {k b : Nat} (h : l[k]? = some b) : chunk (l.take (k + 1)) = chunk (l.take k) + b * 256 ^ k := by
  have hk := (List.getElem?_eq_some_iff.1 h).1
  rw [List.take_add_one, h]
  have := chunk_snoc (l.take k) b
  rw [List.length_take, Nat.min_eq_left (by omega)] at this
  exact this
theorem wrd_is (t : List Nat) (j : Nat) : wrd t j = (chunk ((part t j).take (part t j).length) : Nat) := by rw [List.take_length]; rfl
theorem part_is (t : ByteArray) (j : Nat) : bts (t.extract (8 * j) (min (bts t).length (8 * j + 8))) = part (bts t) j := by
  rw [bts_extract]
  unfold part
  rw [List.drop_take]
  rcases Nat.lt_or_ge (bts t).length (8 * j + 8) with h | h
  · rw [Nat.min_eq_left (by omega), List.take_of_length_le (by simp), List.take_of_length_le (by simp; omega)]
  · rw [Nat.min_eq_right h, show 8 * j + 8 - 8 * j = 8 by omega]
def textS (N : Nat) (g : SS) (t : List Nat) (roots : List Int) : Int × Int × SS :=
  if 32760 < t.length then (0, 2, g) else
  if (allocS N g 1 (1 + nW t.length : Nat) roots).2.1 ≠ 0 then (0, (allocS N g 1 (1 + nW t.length : Nat) roots).2.1, (allocS N g 1 (1 + nW t.length : Nat) roots).2.2) else
  ((allocS N g 1 (1 + nW t.length : Nat) roots).1, 0, setF (allocS N g 1 (1 + nW t.length : Nat) roots).2.2 (allocS N g 1 (1 + nW t.length : Nat) roots).1 0 (txt t))
theorem allocS_U {N : Nat} {g : SS} (h : GOk N g.s) (k z : Int) (roots : List Int) : U (allocS N g k z roots).1 := by
  obtain ⟨g2, h1, -, h2⟩ := allocS_inv (P := fun _ => True) h trivial (fun _ _ _ => trivial) roots (fun _ _ _ => trivial) k z
  rw [h2]
  show U (if (allocG N g2.s k z).2.1 = 0 then 2 * (allocG N g2.s k z).1 else 0)
  split
  · rcases alloc_num h1 k z with h3 | ⟨h3, ad, h4, h5⟩
    · exact absurd (by assumption) h3
    · rw [h4]; unfold U; omega
  · unfold U; omega
theorem allocS_cy {N : Nat} {g : SS} {k z : Int} {roots : List Int} : (allocS N g k z roots).2.2.cy ≤ g.cy + 2 := by
  have h1 := endS_cy (N := N) (g := g)
  have h2 := endS_cy (N := N) (g := begS (endS N g) roots)
  have h3 : (begS (endS N g) roots).cy = (endS N g).cy := rfl
  unfold allocS
  split
  · show g.cy ≤ _; omega
  · split
    · show (endS N g).cy ≤ _; omega
    · show (endS N (begS (endS N g) roots)).cy ≤ _; omega
set_option maxRecDepth 10000 attribute [local irreducible] Code.wp wpList Calls Ex Op1 sat bat blk cb own Go.Fw.mp Go.Fw.mpO Go.Fw.mpI Go.Fw.mpE Go.Fw.itr HS Rd Ret wkD Hp Cl Cls Exit.then Exit.inBlock Exit.noGoto bodyPost Go.Fw.flat wk2 Go.Fw.all Go.Fw.owns wpOp
attribute [local irreducible] hdA gaps isA nextA allocA freeA sizeA kindA setA getA whiteZ numW addrW shadeG gcI hpI stepG beginG writeG allocG mu atA endS finG allocS setF txt wrd chunk bts orK shlK

set_option maxHeartbeats 4000000 in
theorem stext_spec (w0 : World) (M : Nat → Prop) (bs N : Nat) (g : SS) (t : ByteArray) (roots : List Int) (oR : Option Addr) (cR : Nat) (hok : GOk N g.s) (hcy : g.cy ≤ 1000000) (ht : (bts t).length ≤ 9223372036854775807) (hU : ∀ x ∈ roots, U x) (hl : roots.length ≤ 140737488355328) (hrd : ∀ H' w', HS w0 M H' w' → Rd w' oR (flat encW roots)) (hH : HS w0 M [stI bs N g] w0) :
    Ret Try.prog 20 #[.pointer (some (bat bs 0)), .string t, .slice oR roots.length cR] w0 (fun v w => v = .tuple #[.int .u64 (textS N g (bts t) roots).1, .int .i64 (textS N g (bts t) roots).2.1] ∧ HS w0 M [stI bs N (textS N g (bts t) roots).2.2] w) := by
  (refine enter (N := 74) Try.func20 rfl Try.ntmps20 rfl ?_; intro a hA; dsimp only [sl0, Nat.reduceAdd] at hA)
  unfold textS
  by_cases hlen : 32760 < (bts t).length
  · rw [if_pos hlen]
    repeat' (first | (first | (refine GT ?_ ?_ <;> intro hg <;> clear hA a <;> intro a hA <;> (first | exact FA | replace hg := of_decide_eq_true hg | replace hg := of_decide_eq_false hg | skip)) | ((first | apply st_ex hA hH rfl rfl (by decide) | apply dr_ex hA rfl rfl rfl (by decide) | apply dr_exp hA rfl rfl rfl (by decide) | apply dr_ex3 hA hH rfl rfl rfl (by decide)); (first | (apply ex_len_string; rfl)); clear hA a; intro a hA) | (refine QT ?_; clear hA a; intro a hA) | (first | (refine BT ?_; clear hA hH; rintro _ w ⟨bN, rfl, hH⟩ a hA) | (refine LT ?_; clear hA hH; rintro _ w ⟨oN, rfl, hH⟩ a hA) | (refine AT ?_; clear hA; rintro _ w ⟨oN, cN, rfl, hH2⟩ a hA; clear hH; have hH := (hH2 _ (by (repeat constructor))).tail; clear hH2) | (refine S0T ?_; clear hH; rintro _ w hH) )) | ((first | refine CT ?_ | (refine DT ?_ ?_ <;> intro hc <;> try (exfalso; omega))) <;> repeat' refine CT ?_) | (first | (refine DSK ?_; clear hA a; intro a hA) | (first | (refine DLT ?_; clear hA hH; rintro _ w ⟨oN, rfl, hH⟩; refine ⟨STT, ?_⟩; intro a hA) | (refine DAT ?_; clear hA; rintro _ w ⟨oN, cN, rfl, hH2⟩; clear hH; have hH := (hH2 _ (by (repeat constructor))).tail; clear hH2; refine ⟨STT, ?_⟩; intro a hA))) )
    exact rt2 (.inl rfl) rfl hA rfl rfl ⟨rfl, hH⟩
  rw [if_neg hlen]
  have hq : (((bts t).length : Int) + 7).tdiv 8 = (nW (bts t).length : Int) := by
    unfold nW
    rw [Int.tdiv_eq_ediv_of_nonneg (by omega)]
    omega
  repeat' (first | (first | (refine GT ?_ ?_ <;> intro hg <;> clear hA a <;> intro a hA <;> (first | exact FA | replace hg := of_decide_eq_true hg | replace hg := of_decide_eq_false hg | skip)) | ((first | apply st_ex hA hH rfl rfl (by decide) | apply dr_ex hA rfl rfl rfl (by decide) | apply dr_exp hA rfl rfl rfl (by decide) | apply dr_ex3 hA hH rfl rfl rfl (by decide)); (first | (apply ex_len_string; rfl)); clear hA a; intro a hA) | (refine QT ?_; clear hA a; intro a hA) | (first | (refine BT ?_; clear hA hH; rintro _ w ⟨bN, rfl, hH⟩ a hA) | (refine LT ?_; clear hA hH; rintro _ w ⟨oN, rfl, hH⟩ a hA) | (refine AT ?_; clear hA; rintro _ w ⟨oN, cN, rfl, hH2⟩ a hA; clear hH; have hH := (hH2 _ (by (repeat constructor))).tail; clear hH2) | (refine S0T ?_; clear hH; rintro _ w hH) )) | ((first | refine CT ?_ | (refine DT ?_ ?_ <;> intro hc <;> try (exfalso; omega))) <;> repeat' refine CT ?_) | (first | (refine DSK ?_; clear hA a; intro a hA) | (first | (refine DLT ?_; clear hA hH; rintro _ w ⟨oN, rfl, hH⟩; refine ⟨STT, ?_⟩; intro a hA) | (refine DAT ?_; clear hA; rintro _ w ⟨oN, cN, rfl, hH2⟩; clear hH; have hH := (hH2 _ (by (repeat constructor))).tail; clear hH2; refine ⟨STT, ?_⟩; intro a hA))) )
  have hq2 : IntKind.i64.wrap ((((bts t).length : Int) + 7).tdiv 8) = (nW (bts t).length : Int) := by
    rw [hq]
    refine wrap_i64 ⟨by omega, ?_⟩
    unfold nW
    omega
  have hnw : nW (bts t).length ≤ 4096 := by unfold nW; omega
  rw [hq2] at hA
  repeat' (first | (first | (refine GT ?_ ?_ <;> intro hg <;> clear hA a <;> intro a hA <;> (first | exact FA | replace hg := of_decide_eq_true hg | replace hg := of_decide_eq_false hg | skip)) | (refine QT ?_; clear hA a; intro a hA) | (first | (refine BT ?_; clear hA hH; rintro _ w ⟨bN, rfl, hH⟩ a hA) | (refine LT ?_; clear hA hH; rintro _ w ⟨oN, rfl, hH⟩ a hA) | (refine AT ?_; clear hA; rintro _ w ⟨oN, cN, rfl, hH2⟩ a hA; clear hH; have hH := (hH2 _ (by (repeat constructor))).tail; clear hH2) | (refine S0T ?_; clear hH; rintro _ w hH) )) | ((first | refine CT ?_ | (refine DT ?_ ?_ <;> intro hc <;> try (exfalso; omega))) <;> repeat' refine CT ?_) | (first | (refine DSK ?_; clear hA a; intro a hA) | (first | (refine DLT ?_; clear hA hH; rintro _ w ⟨oN, rfl, hH⟩; refine ⟨STT, ?_⟩; intro a hA) | (refine DAT ?_; clear hA; rintro _ w ⟨oN, cN, rfl, hH2⟩; clear hH; have hH := (hH2 _ (by (repeat constructor))).tail; clear hH2; refine ⟨STT, ?_⟩; intro a hA))) )
  have hok2 := allocS_ok hok 1 (1 + nW (bts t).length : Nat) roots
  have hcy2 := allocS_cy (N := N) (g := g) (k := 1) (z := (1 + nW (bts t).length : Nat)) (roots := roots)
  have hUw := allocS_U hok 1 (1 + nW (bts t).length : Nat) roots
  rw [show (1 : Int) + (nW (bts t).length : Int) = ((1 + nW (bts t).length : Nat) : Int) by omega] at hA
  (refine st_op hA rfl rfl (by decide) (op_call rfl rfl rfl (salloc_f hH hok hcy hU hl (fun Hc w' h => hrd _ _ (by simpa using h)))) ?_; clear hA hH; rintro _ w ⟨rfl, hH⟩ a hA)
  generalize allocS N g 1 ((1 + nW (bts t).length : Nat) : Int) roots = r at *
  by_cases he : r.2.1 ≠ 0
  · rw [if_pos he]
    repeat' (first | (first | (refine GT ?_ ?_ <;> intro hg <;> clear hA a <;> intro a hA <;> (first | exact FA | replace hg := of_decide_eq_true hg | replace hg := of_decide_eq_false hg | skip)) | (refine QT ?_; clear hA a; intro a hA) | (first | (refine BT ?_; clear hA hH; rintro _ w ⟨bN, rfl, hH⟩ a hA) | (refine LT ?_; clear hA hH; rintro _ w ⟨oN, rfl, hH⟩ a hA) | (refine AT ?_; clear hA; rintro _ w ⟨oN, cN, rfl, hH2⟩ a hA; clear hH; have hH := (hH2 _ (by (repeat constructor))).tail; clear hH2) | (refine S0T ?_; clear hH; rintro _ w hH) )) | ((first | refine CT ?_ | (refine DT ?_ ?_ <;> intro hc <;> try (exfalso; omega))) <;> repeat' refine CT ?_) | (first | (refine DSK ?_; clear hA a; intro a hA) | (first | (refine DLT ?_; clear hA hH; rintro _ w ⟨oN, rfl, hH⟩; refine ⟨STT, ?_⟩; intro a hA) | (refine DAT ?_; clear hA; rintro _ w ⟨oN, cN, rfl, hH2⟩; clear hH; have hH := (hH2 _ (by (repeat constructor))).tail; clear hH2; refine ⟨STT, ?_⟩; intro a hA))) )
    exact rt2 (.inl rfl) rfl hA rfl rfl ⟨rfl, hH⟩
  rw [if_neg he]
  have he0 := Decidable.not_not.1 he
  repeat' (first | (first | (refine GT ?_ ?_ <;> intro hg <;> clear hA a <;> intro a hA <;> (first | exact FA | replace hg := of_decide_eq_true hg | replace hg := of_decide_eq_false hg | skip)) | ((first | apply st_ex hA hH rfl rfl (by decide) | apply dr_ex hA rfl rfl rfl (by decide) | apply dr_exp hA rfl rfl rfl (by decide) | apply dr_ex3 hA hH rfl rfl rfl (by decide)); (first | (apply ex_len_string; rfl)); clear hA a; intro a hA) | (refine QT ?_; clear hA a; intro a hA) | (first | (refine BT ?_; clear hA hH; rintro _ w ⟨bN, rfl, hH⟩ a hA) | (refine LT ?_; clear hA hH; rintro _ w ⟨oN, rfl, hH⟩ a hA) | (refine AT ?_; clear hA; rintro _ w ⟨oN, cN, rfl, hH2⟩ a hA; clear hH; have hH := (hH2 _ (by (repeat constructor))).tail; clear hH2) | (refine S0T ?_; clear hH; rintro _ w hH) )) | ((first | refine CT ?_ | (refine DT ?_ ?_ <;> intro hc <;> try (exfalso; omega))) <;> repeat' refine CT ?_) | (first | (refine DSK ?_; clear hA a; intro a hA) | (first | (refine DLT ?_; clear hA hH; rintro _ w ⟨oN, rfl, hH⟩; refine ⟨STT, ?_⟩; intro a hA) | (refine DAT ?_; clear hA; rintro _ w ⟨oN, cN, rfl, hH2⟩; clear hH; have hH := (hH2 _ (by (repeat constructor))).tail; clear hH2; refine ⟨STT, ?_⟩; intro a hA))) )
  (refine st_op hA rfl rfl (by decide) (op_call rfl rfl rfl (ofn_spec _ (bts t).length (by omega))) ?_; clear hA; rintro _ w ⟨rfl, hk⟩ a hA; replace hH := hH.keep hk; clear hk)
  repeat' (first | (first | (refine GT ?_ ?_ <;> intro hg <;> clear hA a <;> intro a hA <;> (first | exact FA | replace hg := of_decide_eq_true hg | replace hg := of_decide_eq_false hg | skip)) | (refine QT ?_; clear hA a; intro a hA) | (first | (refine BT ?_; clear hA hH; rintro _ w ⟨bN, rfl, hH⟩ a hA) | (refine LT ?_; clear hA hH; rintro _ w ⟨oN, rfl, hH⟩ a hA) | (refine AT ?_; clear hA; rintro _ w ⟨oN, cN, rfl, hH2⟩ a hA; clear hH; have hH := (hH2 _ (by (repeat constructor))).tail; clear hH2) | (refine S0T ?_; clear hH; rintro _ w hH) )) | ((first | refine CT ?_ | (refine DT ?_ ?_ <;> intro hc <;> try (exfalso; omega))) <;> repeat' refine CT ?_) | (first | (refine DSK ?_; clear hA a; intro a hA) | (first | (refine DLT ?_; clear hA hH; rintro _ w ⟨oN, rfl, hH⟩; refine ⟨STT, ?_⟩; intro a hA) | (refine DAT ?_; clear hA; rintro _ w ⟨oN, cN, rfl, hH2⟩; clear hH; have hH := (hH2 _ (by (repeat constructor))).tail; clear hH2; refine ⟨STT, ?_⟩; intro a hA))) )
  (refine st_op hA rfl rfl (by decide) (op_call rfl rfl rfl (sset_f hH hok2 hUw)) ?_; clear hA hH; rintro _ w ⟨rfl, hH⟩ a hA)
  rw [setF_one, txt_one] at hH
  repeat' (first | (first | (refine GT ?_ ?_ <;> intro hg <;> clear hA a <;> intro a hA <;> (first | exact FA | replace hg := of_decide_eq_true hg | replace hg := of_decide_eq_false hg | skip)) | (refine QT ?_; clear hA a; intro a hA) | (first | (refine BT ?_; clear hA hH; rintro _ w ⟨bN, rfl, hH⟩ a hA) | (refine LT ?_; clear hA hH; rintro _ w ⟨oN, rfl, hH⟩ a hA) | (refine AT ?_; clear hA; rintro _ w ⟨oN, cN, rfl, hH2⟩ a hA; clear hH; have hH := (hH2 _ (by (repeat constructor))).tail; clear hH2) | (refine S0T ?_; clear hH; rintro _ w hH) )) | ((first | refine CT ?_ | (refine DT ?_ ?_ <;> intro hc <;> try (exfalso; omega))) <;> repeat' refine CT ?_) | (first | (refine DSK ?_; clear hA a; intro a hA) | (first | (refine DLT ?_; clear hA hH; rintro _ w ⟨oN, rfl, hH⟩; refine ⟨STT, ?_⟩; intro a hA) | (refine DAT ?_; clear hA; rintro _ w ⟨oN, cN, rfl, hH2⟩; clear hH; have hH := (hH2 _ (by (repeat constructor))).tail; clear hH2; refine ⟨STT, ?_⟩; intro a hA))) )
  refine wp_lpj (S := Nat) (fun j a w => j ≤ nW (bts t).length ∧ HS w0 M [stI bs N (setF r.2.2 r.1 0 ((txt (bts t)).take (1 + j)))] w ∧ Sl 74 [(0, .pointer (some (bat bs 0))), (1, .string t), (8, .int .u64 r.1), (10, .int .i64 ((8 * j : Nat) : Int))] a) (fun j => nW (bts t).length - j)
    (fun a w => HS w0 M [stI bs N (setF r.2.2 r.1 0 (txt (bts t)))] w ∧ Sl 74 [(8, .int .u64 r.1)] a) 0 ⟨Nat.zero_le _, hH, (hA.sub (by (repeat (first | exact trivial | refine ⟨rfl, ?_⟩))))⟩ ?_ ?_
  rotate_left
  · clear hA hH
    rintro a w ⟨hH, hA⟩
    repeat' (first | (first | (refine GT ?_ ?_ <;> intro hg <;> clear hA a <;> intro a hA <;> (first | exact FA | replace hg := of_decide_eq_true hg | replace hg := of_decide_eq_false hg | skip)) | (refine QT ?_; clear hA a; intro a hA) | (first | (refine BT ?_; clear hA hH; rintro _ w ⟨bN, rfl, hH⟩ a hA) | (refine LT ?_; clear hA hH; rintro _ w ⟨oN, rfl, hH⟩ a hA) | (refine AT ?_; clear hA; rintro _ w ⟨oN, cN, rfl, hH2⟩ a hA; clear hH; have hH := (hH2 _ (by (repeat constructor))).tail; clear hH2) | (refine S0T ?_; clear hH; rintro _ w hH) )) | ((first | refine CT ?_ | (refine DT ?_ ?_ <;> intro hc <;> try (exfalso; omega))) <;> repeat' refine CT ?_) | (first | (refine DSK ?_; clear hA a; intro a hA) | (first | (refine DLT ?_; clear hA hH; rintro _ w ⟨oN, rfl, hH⟩; refine ⟨STT, ?_⟩; intro a hA) | (refine DAT ?_; clear hA; rintro _ w ⟨oN, cN, rfl, hH2⟩; clear hH; have hH := (hH2 _ (by (repeat constructor))).tail; clear hH2; refine ⟨STT, ?_⟩; intro a hA))) )
    exact rt2 (.inl rfl) rfl hA rfl rfl ⟨rfl, hH⟩
  clear hA hH
  rintro j a w ⟨hj, hH, hA⟩
  by_cases hlt : 8 * j < (bts t).length
  rotate_left
  · have hje : j = nW (bts t).length := by unfold nW at hj ⊢; omega
    rw [hje, ← txt_len, List.take_length] at hH
    repeat' (first | (first | (refine GT ?_ ?_ <;> intro hg <;> clear hA a <;> intro a hA <;> (first | exact FA | replace hg := of_decide_eq_true hg | replace hg := of_decide_eq_false hg | skip)) | ((first | apply st_ex hA hH rfl rfl (by decide) | apply dr_ex hA rfl rfl rfl (by decide) | apply dr_exp hA rfl rfl rfl (by decide) | apply dr_ex3 hA hH rfl rfl rfl (by decide)); (first | (apply ex_len_string; rfl)); clear hA a; intro a hA) | (refine QT ?_; clear hA a; intro a hA) | (first | (refine BT ?_; clear hA hH; rintro _ w ⟨bN, rfl, hH⟩ a hA) | (refine LT ?_; clear hA hH; rintro _ w ⟨oN, rfl, hH⟩ a hA) | (refine AT ?_; clear hA; rintro _ w ⟨oN, cN, rfl, hH2⟩ a hA; clear hH; have hH := (hH2 _ (by (repeat constructor))).tail; clear hH2) | (refine S0T ?_; clear hH; rintro _ w hH) )) | ((first | refine CT ?_ | (refine DT ?_ ?_ <;> intro hc <;> try (exfalso; omega))) <;> repeat' refine CT ?_) | (first | (refine DSK ?_; clear hA a; intro a hA) | (first | (refine DLT ?_; clear hA hH; rintro _ w ⟨oN, rfl, hH⟩; refine ⟨STT, ?_⟩; intro a hA) | (refine DAT ?_; clear hA; rintro _ w ⟨oN, cN, rfl, hH2⟩; clear hH; have hH := (hH2 _ (by (repeat constructor))).tail; clear hH2; refine ⟨STT, ?_⟩; intro a hA))) )
    exact ⟨hH, (hA.sub (by (repeat (first | exact trivial | refine ⟨rfl, ?_⟩))))⟩
  have hmin : (if ((8 * j : Nat) : Int) + 8 < ((bts t).length : Int) then ((8 * j : Nat) : Int) + 8 else ((bts t).length : Int)) = ((min (bts t).length (8 * j + 8) : Nat) : Int) := by
    split <;> omega
  have hsz := bts_len t
  repeat' (first | (first | (refine GT ?_ ?_ <;> intro hg <;> clear hA a <;> intro a hA <;> (first | exact FA | replace hg := of_decide_eq_true hg | replace hg := of_decide_eq_false hg | skip)) | ((first | apply st_ex hA hH rfl rfl (by decide) | apply dr_ex hA rfl rfl rfl (by decide) | apply dr_exp hA rfl rfl rfl (by decide) | apply dr_ex3 hA hH rfl rfl rfl (by decide)); (first | (apply ex_len_string; rfl) | (apply ex_min; rfl; rfl)); clear hA a; intro a hA) | (refine QT ?_; clear hA a; intro a hA) | (first | (refine BT ?_; clear hA hH; rintro _ w ⟨bN, rfl, hH⟩ a hA) | (refine LT ?_; clear hA hH; rintro _ w ⟨oN, rfl, hH⟩ a hA) | (refine AT ?_; clear hA; rintro _ w ⟨oN, cN, rfl, hH2⟩ a hA; clear hH; have hH := (hH2 _ (by (repeat constructor))).tail; clear hH2) | (refine S0T ?_; clear hH; rintro _ w hH) )) | ((first | refine CT ?_ | (refine DT ?_ ?_ <;> intro hc <;> try (exfalso; omega))) <;> repeat' refine CT ?_) | (first | (refine DSK ?_; clear hA a; intro a hA) | (first | (refine DLT ?_; clear hA hH; rintro _ w ⟨oN, rfl, hH⟩; refine ⟨STT, ?_⟩; intro a hA) | (refine DAT ?_; clear hA; rintro _ w ⟨oN, cN, rfl, hH2⟩; clear hH; have hH := (hH2 _ (by (repeat constructor))).tail; clear hH2; refine ⟨STT, ?_⟩; intro a hA))) )
  rw [hmin] at hA
  repeat' (first | (first | (refine GT ?_ ?_ <;> intro hg <;> clear hA a <;> intro a hA <;> (first | exact FA | replace hg := of_decide_eq_true hg | replace hg := of_decide_eq_false hg | skip)) | ((first | apply st_ex hA hH rfl rfl (by decide) | apply dr_ex hA rfl rfl rfl (by decide) | apply dr_exp hA rfl rfl rfl (by decide) | apply dr_ex3 hA hH rfl rfl rfl (by decide)); (first | (apply ex_slice_string (i := 8 * j) (j := min (bts t).length (8 * j + 8)); rfl; rfl; rfl; rfl; rfl; omega; omega)); clear hA a; intro a hA) | (refine QT ?_; clear hA a; intro a hA) | (first | (refine BT ?_; clear hA hH; rintro _ w ⟨bN, rfl, hH⟩ a hA) | (refine LT ?_; clear hA hH; rintro _ w ⟨oN, rfl, hH⟩ a hA) | (refine AT ?_; clear hA; rintro _ w ⟨oN, cN, rfl, hH2⟩ a hA; clear hH; have hH := (hH2 _ (by (repeat constructor))).tail; clear hH2) | (refine S0T ?_; clear hH; rintro _ w hH) | (apply st_op hA rfl rfl (by decide); apply op_toBytes; rfl; exact hH; clear hA hH; rintro _ w ⟨bb, cc, rfl, hH⟩ a hA))) | ((first | refine CT ?_ | (refine DT ?_ ?_ <;> intro hc <;> try (exfalso; omega))) <;> repeat' refine CT ?_) | (first | (refine DSK ?_; clear hA a; intro a hA) | (first | (refine DLT ?_; clear hA hH; rintro _ w ⟨oN, rfl, hH⟩; refine ⟨STT, ?_⟩; intro a hA) | (refine DAT ?_; clear hA; rintro _ w ⟨oN, cN, rfl, hH2⟩; clear hH; have hH := (hH2 _ (by (repeat constructor))).tail; clear hH2; refine ⟨STT, ?_⟩; intro a hA))) )
  have hp := part_is t j
  generalize t.extract (8 * j) (min (bts t).length (8 * j + 8)) = s' at *
  rw [hp] at hA
  have hpl := part_len (bts t) j
  have hpb := part_lt (bts_lt t) j
  have hspb : Sp (some (bat bb 0)) (part (bts t) j).length := sp_bat _ _
  refine wp_lpk (S := Nat) (fun k a w => k ≤ (part (bts t) j).length ∧ HS w0 M [byI bb s', stI bs N (setF r.2.2 r.1 0 ((txt (bts t)).take (1 + j)))] w ∧ Sl 74 [(0, .pointer (some (bat bs 0))), (1, .string t), (8, .int .u64 r.1), (10, .int .i64 ((8 * j : Nat) : Int)), (11, .int .u64 (chunk ((part (bts t) j).take k) : Nat)), (51, .slice (some (bat bb 0)) (part (bts t) j).length cc), (52, .int .i64 (part (bts t) j).length), (53, .int .i64 k)] a) (fun k => (part (bts t) j).length - k)
    (fun a w => HS w0 M [stI bs N (setF r.2.2 r.1 0 ((txt (bts t)).take (1 + j)))] w ∧ Sl 74 [(0, .pointer (some (bat bs 0))), (1, .string t), (8, .int .u64 r.1), (10, .int .i64 ((8 * j : Nat) : Int)), (11, .int .u64 (wrd (bts t) j))] a) 0 ⟨Nat.zero_le _, hH, by rw [chunk_z]; exact (hA.sub (by (repeat (first | exact trivial | refine ⟨rfl, ?_⟩))))⟩ ?_ ?_
  · clear hA hH
    rintro k a w ⟨hk, hH, hA⟩
    by_cases hkl : k < (part (bts t) j).length
    rotate_left
    · obtain rfl : k = (part (bts t) j).length := by omega
      rw [← wrd_is] at hA
      repeat' (first | (first | (refine GT ?_ ?_ <;> intro hg <;> clear hA a <;> intro a hA <;> (first | exact FA | replace hg := of_decide_eq_true hg | replace hg := of_decide_eq_false hg | skip)) | (refine QT ?_; clear hA a; intro a hA) | (first | (refine BT ?_; clear hA hH; rintro _ w ⟨bN, rfl, hH⟩ a hA) | (refine LT ?_; clear hA hH; rintro _ w ⟨oN, rfl, hH⟩ a hA) | (refine AT ?_; clear hA; rintro _ w ⟨oN, cN, rfl, hH2⟩ a hA; clear hH; have hH := (hH2 _ (by (repeat constructor))).tail; clear hH2) | (refine S0T ?_; clear hH; rintro _ w hH) )) | ((first | refine CT ?_ | (refine DT ?_ ?_ <;> intro hc <;> try (exfalso; omega))) <;> repeat' refine CT ?_) | (first | (refine DSK ?_; clear hA a; intro a hA) | (first | (refine DLT ?_; clear hA hH; rintro _ w ⟨oN, rfl, hH⟩; refine ⟨STT, ?_⟩; intro a hA) | (refine DAT ?_; clear hA; rintro _ w ⟨oN, cN, rfl, hH2⟩; clear hH; have hH := (hH2 _ (by (repeat constructor))).tail; clear hH2; refine ⟨STT, ?_⟩; intro a hA))) )
      exact ⟨hH.tail, (hA.sub (by (repeat (first | exact trivial | refine ⟨rfl, ?_⟩))))⟩
    obtain ⟨y, hy⟩ : ∃ y, (part (bts t) j)[k]? = some y := ⟨_, List.getElem?_eq_getElem hkl⟩
    have hyb := hpb y (List.mem_of_getElem? hy)
    have hclb : Cl (HS w0 M [byI bb s', stI bs N (setF r.2.2 r.1 0 ((txt (bts t)).take (1 + j)))]) (sat (some (bat bb 0)) (k * 1)) (.int .u8 (y : Int)) := cl_of fun w h => rd_atB (by_rd h (List.mem_cons_self ..)) (by rw [hp]; exact flat_get0 encY_len hy rfl)
    have hcx : chunk ((part (bts t) j).take k) < 256 ^ k := by
      have := chunk_lt (l := (part (bts t) j).take k) (fun b hb => hpb b (List.mem_of_mem_take hb))
      rw [List.length_take, Nat.min_eq_left (by omega)] at this
      exact this
    have hshl := shl_byte hyb (k := k) (by omega)
    have hor := or_byte hcx hyb (by omega)
    have htc := take_chunk hy
    rw [← htc] at hor
    have hcv : IntKind.u64.wrap (y : Int) = (y : Int) := by rw [u64_mod, Int.emod_eq_of_lt (by omega) (by omega)]
    repeat' (first | (first | (refine GT ?_ ?_ <;> intro hg <;> clear hA a <;> intro a hA <;> (first | exact FA | replace hg := of_decide_eq_true hg | replace hg := of_decide_eq_false hg | skip)) | ((first | apply st_ex hA hH rfl rfl (by decide) | apply dr_ex hA rfl rfl rfl (by decide) | apply dr_exp hA rfl rfl rfl (by decide) | apply dr_ex3 hA hH rfl rfl rfl (by decide)); (first | (apply ex_load; rfl; exact hclb) | (apply ex_convert (v := (y : Int)); rfl; exact hcv) | (apply ex_mul; rfl; rfl; unfold i64ok; omega) | (apply ex_shl (v := ((y * 256 ^ k : Nat) : Int)); rfl; rfl; omega; exact hshl) | (apply ex_or (v := ((chunk ((part (bts t) j).take (k + 1)) : Nat) : Int)); rfl; rfl; exact hor)); clear hA a; intro a hA) | (refine QT ?_; clear hA a; intro a hA) | (first | (refine BT ?_; clear hA hH; rintro _ w ⟨bN, rfl, hH⟩ a hA) | (refine LT ?_; clear hA hH; rintro _ w ⟨oN, rfl, hH⟩ a hA) | (refine AT ?_; clear hA; rintro _ w ⟨oN, cN, rfl, hH2⟩ a hA; clear hH; have hH := (hH2 _ (by (repeat constructor))).tail; clear hH2) | (refine S0T ?_; clear hH; rintro _ w hH) )) | ((first | refine CT ?_ | (refine DT ?_ ?_ <;> intro hc <;> try (exfalso; omega))) <;> repeat' refine CT ?_) | (first | (refine DSK ?_; clear hA a; intro a hA) | (first | (refine DLT ?_; clear hA hH; rintro _ w ⟨oN, rfl, hH⟩; refine ⟨STT, ?_⟩; intro a hA) | (refine DAT ?_; clear hA; rintro _ w ⟨oN, cN, rfl, hH2⟩; clear hH; have hH := (hH2 _ (by (repeat constructor))).tail; clear hH2; refine ⟨STT, ?_⟩; intro a hA))) )
    exact ⟨k + 1, ⟨hkl, hH, (hA.sub (by (repeat (first | exact trivial | refine ⟨rfl, ?_⟩))))⟩, by omega⟩
  clear hA hH
  rintro a w ⟨hH, hA⟩
  repeat' (first | (first | (refine GT ?_ ?_ <;> intro hg <;> clear hA a <;> intro a hA <;> (first | exact FA | replace hg := of_decide_eq_true hg | replace hg := of_decide_eq_false hg | skip)) | (refine QT ?_; clear hA a; intro a hA) | (first | (refine BT ?_; clear hA hH; rintro _ w ⟨bN, rfl, hH⟩ a hA) | (refine LT ?_; clear hA hH; rintro _ w ⟨oN, rfl, hH⟩ a hA) | (refine AT ?_; clear hA; rintro _ w ⟨oN, cN, rfl, hH2⟩ a hA; clear hH; have hH := (hH2 _ (by (repeat constructor))).tail; clear hH2) | (refine S0T ?_; clear hH; rintro _ w hH) )) | ((first | refine CT ?_ | (refine DT ?_ ?_ <;> intro hc <;> try (exfalso; omega))) <;> repeat' refine CT ?_) | (first | (refine DSK ?_; clear hA a; intro a hA) | (first | (refine DLT ?_; clear hA hH; rintro _ w ⟨oN, rfl, hH⟩; refine ⟨STT, ?_⟩; intro a hA) | (refine DAT ?_; clear hA; rintro _ w ⟨oN, cN, rfl, hH2⟩; clear hH; have hH := (hH2 _ (by (repeat constructor))).tail; clear hH2; refine ⟨STT, ?_⟩; intro a hA))) )
  have hq8 : IntKind.i64.wrap (((8 * j : Nat) : Int).tdiv 8) = (j : Int) := by
    rw [Int.tdiv_eq_ediv_of_nonneg (by omega)]
    have : ((8 * j : Nat) : Int) / 8 = (j : Int) := by omega
    rw [this]
    exact wrap_i64 ⟨by omega, by omega⟩
  rw [hq8] at hA
  have hjn : j < nW (bts t).length := by unfold nW; omega
  have hokF := setF_ok (x := r.1) (i := 0) (l := (txt (bts t)).take (1 + j)) hok2 (fun y hy => txt_U (bts_lt t) (by omega) y (List.mem_of_mem_take hy))
  have hnx := setF_next (g := r.2.2) (x := r.1) (txt_at hjn) (by rw [List.length_take, txt_len]; omega)
  repeat' (first | (first | (refine GT ?_ ?_ <;> intro hg <;> clear hA a <;> intro a hA <;> (first | exact FA | replace hg := of_decide_eq_true hg | replace hg := of_decide_eq_false hg | skip)) | (refine QT ?_; clear hA a; intro a hA) | (first | (refine BT ?_; clear hA hH; rintro _ w ⟨bN, rfl, hH⟩ a hA) | (refine LT ?_; clear hA hH; rintro _ w ⟨oN, rfl, hH⟩ a hA) | (refine AT ?_; clear hA; rintro _ w ⟨oN, cN, rfl, hH2⟩ a hA; clear hH; have hH := (hH2 _ (by (repeat constructor))).tail; clear hH2) | (refine S0T ?_; clear hH; rintro _ w hH) )) | ((first | refine CT ?_ | (refine DT ?_ ?_ <;> intro hc <;> try (exfalso; omega))) <;> repeat' refine CT ?_) | (first | (refine DSK ?_; clear hA a; intro a hA) | (first | (refine DLT ?_; clear hA hH; rintro _ w ⟨oN, rfl, hH⟩; refine ⟨STT, ?_⟩; intro a hA) | (refine DAT ?_; clear hA; rintro _ w ⟨oN, cN, rfl, hH2⟩; clear hH; have hH := (hH2 _ (by (repeat constructor))).tail; clear hH2; refine ⟨STT, ?_⟩; intro a hA))) )
  rw [show (1 : Int) + (j : Int) = ((1 + j : Nat) : Int) by omega] at hA
  repeat' (first | (first | (refine GT ?_ ?_ <;> intro hg <;> clear hA a <;> intro a hA <;> (first | exact FA | replace hg := of_decide_eq_true hg | replace hg := of_decide_eq_false hg | skip)) | (refine QT ?_; clear hA a; intro a hA) | (first | (refine BT ?_; clear hA hH; rintro _ w ⟨bN, rfl, hH⟩ a hA) | (refine LT ?_; clear hA hH; rintro _ w ⟨oN, rfl, hH⟩ a hA) | (refine AT ?_; clear hA; rintro _ w ⟨oN, cN, rfl, hH2⟩ a hA; clear hH; have hH := (hH2 _ (by (repeat constructor))).tail; clear hH2) | (refine S0T ?_; clear hH; rintro _ w hH) )) | ((first | refine CT ?_ | (refine DT ?_ ?_ <;> intro hc <;> try (exfalso; omega))) <;> repeat' refine CT ?_) | (first | (refine DSK ?_; clear hA a; intro a hA) | (first | (refine DLT ?_; clear hA hH; rintro _ w ⟨oN, rfl, hH⟩; refine ⟨STT, ?_⟩; intro a hA) | (refine DAT ?_; clear hA; rintro _ w ⟨oN, cN, rfl, hH2⟩; clear hH; have hH := (hH2 _ (by (repeat constructor))).tail; clear hH2; refine ⟨STT, ?_⟩; intro a hA))) )
  (refine st_op hA rfl rfl (by decide) (op_call rfl rfl rfl (sset_f hH hokF hUw)) ?_; clear hA hH; rintro _ w ⟨rfl, hH⟩ a hA)
  rw [hnx] at hH
  repeat' (first | (first | (refine GT ?_ ?_ <;> intro hg <;> clear hA a <;> intro a hA <;> (first | exact FA | replace hg := of_decide_eq_true hg | replace hg := of_decide_eq_false hg | skip)) | (refine QT ?_; clear hA a; intro a hA) | (first | (refine BT ?_; clear hA hH; rintro _ w ⟨bN, rfl, hH⟩ a hA) | (refine LT ?_; clear hA hH; rintro _ w ⟨oN, rfl, hH⟩ a hA) | (refine AT ?_; clear hA; rintro _ w ⟨oN, cN, rfl, hH2⟩ a hA; clear hH; have hH := (hH2 _ (by (repeat constructor))).tail; clear hH2) | (refine S0T ?_; clear hH; rintro _ w hH) )) | ((first | refine CT ?_ | (refine DT ?_ ?_ <;> intro hc <;> try (exfalso; omega))) <;> repeat' refine CT ?_) | (first | (refine DSK ?_; clear hA a; intro a hA) | (first | (refine DLT ?_; clear hA hH; rintro _ w ⟨oN, rfl, hH⟩; refine ⟨STT, ?_⟩; intro a hA) | (refine DAT ?_; clear hA; rintro _ w ⟨oN, cN, rfl, hH2⟩; clear hH; have hH := (hH2 _ (by (repeat constructor))).tail; clear hH2; refine ⟨STT, ?_⟩; intro a hA))) )
  exact ⟨j + 1, ⟨hjn, hH, (hA.sub (by (repeat (first | exact trivial | refine ⟨rfl, ?_⟩))))⟩, by omega⟩
end Go.Proofs.Ytdfhajdejlhamaa
namespace Go.Proofs.Ytdfhajdejlhamaa
open Go Go.Fw
set_option linter.unusedVariables false
section
variable {N : Nat} {s : GS} {g : SS} {L : List Ob} {o : Ob}
theorem step_sub (h : GOk N s) : ∀ o ∈ (stepG s).2.L, o ∈ s.L := by
  rcases step_cases h with ⟨h0, e⟩ | ⟨h0, g, ha, e⟩ | ⟨h0, hg, e⟩ | ⟨h0, hno, h1, e⟩ | ⟨h0, o, ho, h1, h2, h3, e⟩ <;> rw [e]
  · exact fun o ho => ho
  · intro o ho
    have := (mark_ok h h0 ha).2.1
    rw [← this]; exact ho
  · exact fun o ho => ho
  · exact fun o ho => ho
  · exact fun x hx => ((sweep_ok h h0 ho h2 h3).2.2.2.1 x hx).1
theorem keep_step (h : GOk N s) (ho : o ∈ s.L) (hP : Pt s o.a) : o ∈ (stepG s).2.L ∧ Pt (stepG s).2 o.a := by
  obtain ⟨h1, h2⟩ := Pt_step h hP (k := o.kind) ⟨o, ho, rfl, rfl⟩
  obtain ⟨x, hx, hxa⟩ := h1.1
  have := h.lay.inj x (step_sub h x hx) o ho hxa
  exact ⟨this ▸ hx, h1⟩
theorem beg_L (h : GOk N s) (roots : List Int) : (beginG s roots).2.L = s.L := by
  by_cases hp : s.ph = 0
  · obtain ⟨s', e, g1, g2, g3, g4, g5, g6⟩ := begin_facts h hp roots
    rw [e]; exact g3
  · have : beginG s roots = (9, s) := if_neg hp
    rw [this]
theorem keep_begin (h : GOk N s) {roots : List Int} (ho : o ∈ s.L) (hP : Pt s o.a) (hr : Rc s.L roots o.a) : o ∈ (beginG s roots).2.L ∧ Pt (beginG s roots).2 o.a := by
  refine ⟨by rw [beg_L h]; exact ho, ?_⟩
  by_cases hp : s.ph = 0
  · exact (Pt_begin h hp roots hr (k := o.kind) ⟨o, ho, rfl, rfl⟩).1
  · have : beginG s roots = (9, s) := if_neg hp
    rw [this]; exact hP
theorem keep_alloc (h : GOk N s) (k z : Int) (ho : o ∈ s.L) (hP : Pt s o.a) : o ∈ (allocG N s k z).2.2.L ∧ Pt (allocG N s k z).2.2 o.a := by
  refine ⟨?_, (Pt_alloc h k z hP (k := o.kind) ⟨o, ho, rfl, rfl⟩).1⟩
  rcases alloc_ok h k z with ⟨e, he, h1⟩ | ⟨s', o', h1, h2, h3, h4, h5, h6, h7, h8, h9, h10, h11, h12⟩ <;> rw [h1]
  · exact ho
  · exact (h10 o).2 (.inr ho)
theorem keep_write (h : GOk N s) (z i x : Int) (ho : o ∈ s.L) (hP : Pt s o.a) (hz : z ≠ (o.a : Int)) : o ∈ (writeG s z i x).2.L ∧ Pt (writeG s z i x).2 o.a := by
  refine ⟨?_, (Pt_write h z i x hP (k := o.kind) ⟨o, ho, rfl, rfl⟩).1⟩
  rcases write_cases h z i x with ⟨e, he, h1⟩ | ⟨o', j, y, s1, ho', rfl, rfl, hy, h1, h2⟩
  · rw [h1]; exact ho
  · rw [h2]
    exact setL_mem.2 ⟨o, ho, by rw [if_neg (fun he => hz he.symm)]⟩
/-! ## laying -/
theorem alloc_fst (s : GS) (k z : Int) : (allocG N s k z).2.1 = (allocA N s.L k z).2.1 := by
  unfold allocG
  dsimp only
  split
  · rename_i h; rw [h]
  · rfl
theorem alloc_new (h : GOk N s) {k z : Int} (he : (allocG N s k z).2.1 = 0) : ∃ (kd sz : Nat) (A B : List Ob), k = kd ∧ z = sz ∧ sz ≤ 4096 ∧ s.L = A ++ B ∧ (allocG N s k z).1 = ((endA 1 A : Nat) : Int) ∧ (allocG N s k z).2.2.L = A ++ newO kd sz (endA 1 A) :: B := by
  rcases alloc_two h.lay k z with ⟨e, he2, h1⟩ | ⟨A, B, kd, sz, rfl, rfl, hk1, hk2, hsz, hL, h1, h2⟩
  · rw [alloc_fst, h1] at he; exact absurd he he2
  · refine ⟨kd, sz, A, B, rfl, rfl, hsz, hL, ?_⟩
    unfold allocG
    rw [h1]
    dsimp only
    rw [if_pos rfl]
    exact ⟨rfl, rfl⟩
/-! ## fields -/
theorem atA_obj (hl : Lay N 1 L) (ho : o ∈ L) {x : Int} (h1 : numW x = false) (h2 : addrN x = o.a) : atA L x = o.a := by
  rw [at_yes h1 (by rw [h2]; exact ⟨o, ho, rfl⟩), h2]
theorem fld_obj (hl : Lay N 1 L) (ho : o ∈ L) {i : Nat} {y : Int} (hy : o.fs[i]? = some y) : getA L (o.a : Int) (i : Int) = (y, 0) := by
  unfold getA
  rw [objA_mem hl ho]
  obtain ⟨h1, h2⟩ := List.getElem?_eq_some_iff.1 hy
  dsimp only
  rw [if_pos ⟨by omega, by omega⟩]
  simp [hy]
theorem write_obj (h : GOk N s) (ho : o ∈ s.L) {i : Nat} {x : Int} (hi : i < o.fs.length) : ({ o with fs := o.fs.set i x } : Ob) ∈ (writeG s (o.a : Int) (i : Int) x).2.L ∧ (writeG s (o.a : Int) (i : Int) x).1 = 0 := by
  have hg := fld_obj h.lay ho (List.getElem?_eq_getElem hi)
  rcases write_cases h (o.a : Int) (i : Int) x with ⟨e, he, h1⟩ | ⟨o', j, y, s1, ho', ea, ei, hy, h1, h2⟩
  · unfold writeG at h1
    rw [hg] at h1
    dsimp only at h1
    rw [if_pos rfl] at h1
    have := congrArg Prod.fst h1
    exact absurd this.symm he
  · rw [h2]
    have hij : i = j := by omega
    have hoo : o = o' := h.lay.inj o ho o' ho' (by omega)
    subst hij; subst hoo
    refine ⟨setL_mem.2 ⟨o, ho, by rw [if_pos rfl]⟩, rfl⟩
end
end Go.Proofs.Ytdfhajdejlhamaa
namespace Go.Proofs.Ytdfhajdejlhamaa
open Go Go.Fw
set_option linter.unusedVariables false
/-- a value of the twin's: is it a number, and which (or which object) -/
abbrev Vl := Bool × Int
def VR (live : Nat → Prop) (ad : Nat → Nat) (w : Int) (v : Vl) : Prop := (v.1 = true ∧ numW w = true ∧ numV w = v.2) ∨ (v.1 = false ∧ ∃ id : Nat, live id ∧ v.2 = (id : Int) ∧ w = 2 * (ad id : Int))
structure Tw (s : GS) (regs : List Int) (T : List (List Vl)) (Q : List Vl) (live : Nat → Prop) (ad : Nat → Nat) : Prop where
  rg : ∀ (k : Nat) (w : Int) (v : Vl), regs[k]? = some w → Q[k]? = some v → VR live ad w v
  ob : ∀ id : Nat, live id → ∃ (o : Ob) (r : List Vl), o ∈ s.L ∧ o.a = ad id ∧ o.kind = 6 ∧ T[id]? = some r ∧ o.fs.length = r.length ∧ Pt s (ad id) ∧ ∀ (j : Nat) (w : Int) (v : Vl), o.fs[j]? = some w → r[j]? = some v → VR live ad w v
  inj : ∀ i j : Nat, live i → live j → ad i = ad j → i = j
def TwE (s : GS) (regs : List Int) (T : List (List Vl)) (Q : List Vl) : Prop := ∃ live ad, Tw s regs T Q live ad
section
variable {N : Nat} {s : GS} {g : SS} {regs : List Int} {T : List (List Vl)} {Q : List Vl} {live live' : Nat → Prop} {ad ad' : Nat → Nat}
theorem VR.mono {w : Int} {v : Vl} (h : VR live ad w v) (hl : ∀ id, live id → live' id ∧ ad' id = ad id) : VR live' ad' w v := by
  rcases h with h | ⟨h1, id, h2, h3, h4⟩
  · exact .inl h
  · obtain ⟨h5, h6⟩ := hl id h2
    exact .inr ⟨h1, id, h5, h3, by rw [h6]; exact h4⟩
theorem wordO {a : Nat} (h : a ≤ 65536) : numW (2 * (a : Int)) = false ∧ addrN (2 * (a : Int)) = a := by
  refine ⟨?_, ?_⟩
  · unfold numW; exact decide_eq_false (by omega)
  · unfold addrN addrW
    rw [if_neg (by omega)]
    omega
theorem Tw.le (hok : GOk N s) (h : Tw s regs T Q live ad) {id : Nat} (hl : live id) : 1 ≤ ad id ∧ ad id ≤ 65536 ∧ isO s.L (ad id) := by
  obtain ⟨o, r, h1, h2, _⟩ := h.ob id hl
  have h3 := hok.lt ⟨o, h1, rfl⟩
  have := hok.n2
  exact ⟨by omega, by omega, o, h1, h2⟩
theorem TwE.step (hok : GOk N s) (h : TwE s regs T Q) : TwE (stepG s).2 regs T Q := by
  obtain ⟨live, ad, h⟩ := h
  refine ⟨live, ad, h.rg, fun id hl => ?_, h.inj⟩
  obtain ⟨o, r, h1, h2, h3, h4, h5, h6, h7⟩ := h.ob id hl
  rw [← h2] at h6
  obtain ⟨k1, k2⟩ := keep_step hok h1 h6
  exact ⟨o, r, k1, h2, h3, h4, h5, by rw [← h2]; exact k2, h7⟩
theorem TwE.begin (hok : GOk N s) (h : TwE s regs T Q) (hQ : regs.length = Q.length) : TwE (beginG s regs).2 regs T Q := by
  by_cases hp : s.ph = 0
  rotate_left
  · have : beginG s regs = (9, s) := if_neg hp
    rw [this]; exact h
  obtain ⟨live, ad, h⟩ := h
  refine ⟨fun id => live id ∧ Rc s.L regs (ad id), ad, fun k w v hw hv => ?_, fun id hl => ?_, fun i j hi hj => h.inj i j hi.1 hj.1⟩
  · rcases h.rg k w v hw hv with h1 | ⟨h1, id, h2, h3, h4⟩
    · exact .inl h1
    · obtain ⟨k1, k2, k3⟩ := h.le hok h2
      obtain ⟨w1, w2⟩ := wordO k2
      refine .inr ⟨h1, id, ⟨h2, ?_⟩, h3, h4⟩
      have := Rc.root (L := s.L) (roots := regs) (x := w) (List.mem_of_getElem? hw) (by rw [h4]; exact w1) (by rw [h4, w2]; exact k3)
      rw [h4, w2] at this
      exact this
  · obtain ⟨o, r, h1, h2, h3, h4, h5, h6, h7⟩ := h.ob id hl.1
    rw [← h2] at h6
    have hR := hl.2
    rw [← h2] at hR
    obtain ⟨k1, k2⟩ := keep_begin hok h1 h6 hR
    refine ⟨o, r, k1, h2, h3, h4, h5, by rw [← h2]; exact k2, fun j w v hw hv => ?_⟩
    rcases h7 j w v hw hv with h8 | ⟨h8, id', h9, h10, h11⟩
    · exact .inl h8
    · obtain ⟨l1, l2, l3⟩ := h.le hok h9
      obtain ⟨w1, w2⟩ := wordO l2
      refine .inr ⟨h8, id', ⟨h9, .step hR ⟨l3, o, h1, rfl, by rw [h3]; decide, w, List.mem_of_getElem? hw, by rw [h11]; exact w1, by rw [h11]; exact w2⟩⟩, h10, h11⟩
theorem TwE.pick (hok : GOk N g.s) (h : TwE g.s regs T Q) (hQ : regs.length = Q.length) : TwE (pickS g regs).s regs T Q :=
  (pickS_inv (P := fun t => TwE t regs T Q) hok h (fun t h1 h2 => h2.step h1) regs fun t h1 h2 => h2.begin h1 hQ).2
theorem Tw.setR (h : Tw s regs T Q live ad) {p : Nat} {y : Int} {vy : Vl} (hy : VR live ad y vy) (hQ : regs.length = Q.length) : Tw s (regs.set p y) T (Q.set p vy) live ad := by
  refine ⟨fun k w v hw hv => ?_, h.ob, h.inj⟩
  rw [List.getElem?_set] at hw hv
  by_cases hk : p = k
  · rw [if_pos hk] at hw hv
    split at hw
    · split at hv
      · obtain rfl := Option.some.inj hw
        obtain rfl := Option.some.inj hv
        exact hy
      · cases hv
    · cases hw
  · rw [if_neg hk] at hw hv
    exact h.rg k w v hw hv
theorem TwE.num (h : TwE s regs T Q) {p : Nat} {y n : Int} (h1 : numW y = true) (h2 : numV y = n) (hQ : regs.length = Q.length) : TwE s (regs.set p y) T (Q.set p (true, n)) := by
  obtain ⟨live, ad, h⟩ := h
  exact ⟨live, ad, h.setR (.inl ⟨rfl, h1, h2⟩) hQ⟩
theorem TwE.copy (h : TwE s regs T Q) {p q : Nat} {y : Int} {vy : Vl} (h1 : regs[q]? = some y) (h2 : Q[q]? = some vy) (hQ : regs.length = Q.length) : TwE s (regs.set p y) T (Q.set p vy) := by
  obtain ⟨live, ad, h⟩ := h
  exact ⟨live, ad, h.setR (h.rg q y vy h1 h2) hQ⟩
theorem num1V : numW 1 = true ∧ numV 1 = 0 := ⟨by decide, by decide⟩
theorem TwE.alloc (hok : GOk N s) (h : TwE s regs T Q) {p z : Nat} (hz : z ≤ 4096) (hQ : regs.length = Q.length) (he : (allocG N s 6 z).2.1 = 0) : TwE (allocG N s 6 z).2.2 (regs.set p (2 * (allocG N s 6 z).1)) (T ++ [List.replicate z (true, 0)]) (Q.set p (false, T.length)) := by
  obtain ⟨live, ad, h⟩ := h
  have hnew := alloc_new hok he
  rcases alloc_ok hok 6 z with ⟨e, he2, h1⟩ | ⟨s', o, h1, h2, h3, h4, h5, h6, h7, h8, h9, h10, h11, h12⟩
  · rw [h1] at he; exact absurd he he2
  have hpn := Pt_new hok h1
  have hkeep : ∀ {x : Ob}, x ∈ s.L → Pt s x.a → x ∈ (allocG N s 6 z).2.2.L ∧ Pt (allocG N s 6 z).2.2 x.a := fun hx hP => keep_alloc hok 6 z hx hP
  rw [h1] at hnew hkeep ⊢
  dsimp only at hnew hkeep ⊢
  obtain ⟨kd, sz, A, B, e1, e2, e3, e4, e5, e6⟩ := hnew
  obtain rfl : kd = 6 := by omega
  obtain rfl : sz = z := by omega
  have hom : o ∈ s'.L := (h10 o).2 (.inl rfl)
  have ho : o = newO 6 sz (endA 1 A) := h2.lay.inj o hom _ (by rw [e6]; simp) (by show o.a = endA 1 A; omega)
  have hfs : o.fs = List.replicate sz 1 := by rw [ho]; rfl
  rw [Int.toNat_natCast] at hpn
  have hne : ∀ id, live id → id < T.length := fun id hl => by
    obtain ⟨_, r, _, _, _, h4, _⟩ := h.ob id hl
    exact (List.getElem?_eq_some_iff.1 h4).1
  have hmono : ∀ id, live id → (live id ∨ id = T.length) ∧ (if id = T.length then o.a else ad id) = ad id := fun id hl => ⟨.inl hl, by rw [if_neg (by have := hne id hl; omega)]⟩
  have base : Tw s' regs (T ++ [List.replicate sz (true, 0)]) Q (fun id => live id ∨ id = T.length) (fun id => if id = T.length then o.a else ad id) := by
    refine ⟨fun k w v hw hv => (h.rg k w v hw hv).mono hmono, fun id hl => ?_, fun i j hi hj hij => ?_⟩
    · rcases hl with hl | rfl
      · obtain ⟨x, r, k1, k2, k3, k4, k5, k6, k7⟩ := h.ob id hl
        rw [← k2] at k6
        obtain ⟨l1, l2⟩ := hkeep k1 k6
        have e : (if id = T.length then o.a else ad id) = ad id := (hmono id hl).2
        refine ⟨x, r, l1, by rw [e]; exact k2, k3, ?_, k5, by rw [e, ← k2]; exact l2, fun j w v hw hv => (k7 j w v hw hv).mono hmono⟩
        rw [List.getElem?_append_left (hne id hl)]
        exact k4
      · refine ⟨o, List.replicate sz (true, 0), hom, by rw [if_pos rfl], by rw [ho]; rfl, by simp, by rw [hfs]; simp, by rw [if_pos rfl]; exact hpn.1, fun j w v hw hv => ?_⟩
        rw [hfs] at hw
        have hw := List.eq_of_mem_replicate (List.mem_of_getElem? hw)
        have hv := List.eq_of_mem_replicate (List.mem_of_getElem? hv)
        subst hw; subst hv
        exact .inl ⟨rfl, num1V.1, num1V.2⟩
    · have other : ∀ k, live k → ad k ≠ o.a := fun k hk he => by
        obtain ⟨x, _, k1, k2, _⟩ := h.ob k hk
        exact h8 ⟨x, k1, by omega⟩
      rcases hi with hi | rfl <;> rcases hj with hj | rfl
      · rw [(hmono i hi).2, (hmono j hj).2] at hij
        exact h.inj i j hi hj hij
      · rw [(hmono i hi).2, if_pos rfl] at hij
        exact absurd hij (other i hi)
      · rw [(hmono j hj).2, if_pos rfl] at hij
        exact absurd hij.symm (other j hj)
      · rfl
  exact ⟨_, _, base.setR (.inr ⟨rfl, T.length, .inr rfl, rfl, by dsimp only; rw [if_pos rfl]⟩) hQ⟩
theorem TwE.allocS (hok : GOk N g.s) (h : TwE g.s regs T Q) {p z : Nat} (hz : z ≤ 4096) (hQ : regs.length = Q.length) :
    ((allocS N g 6 z regs).2.1 = 0 → TwE (allocS N g 6 z regs).2.2.s (regs.set p (allocS N g 6 z regs).1) (T ++ [List.replicate z (true, 0)]) (Q.set p (false, T.length))) ∧ ((allocS N g 6 z regs).2.1 ≠ 0 → TwE (allocS N g 6 z regs).2.2.s regs T Q) := by
  obtain ⟨g2, h1, h2, h3⟩ := allocS_inv (P := fun t => TwE t regs T Q) hok h (fun t h1 h2 => h2.step h1) regs (fun t h1 h2 => h2.begin h1 hQ) 6 z
  rw [h3]
  refine ⟨fun he => ?_, fun he => ?_⟩
  · have he' : (allocG N g2.s 6 z).2.1 = 0 := he
    have := h2.alloc (p := p) h1 hz hQ he'
    show TwE (allocG N g2.s 6 z).2.2 (regs.set p (if (allocG N g2.s 6 z).2.1 = 0 then 2 * (allocG N g2.s 6 z).1 else 0)) _ _
    rw [if_pos he']
    exact this
  · have he' : (allocG N g2.s 6 z).2.1 ≠ 0 := he
    show TwE (allocG N g2.s 6 z).2.2 regs T Q
    rw [(alloc_err h1 he').1]
    exact h2
/-! ## fields -/
theorem isA_zero (h : GOk N s) : isA s.L ((0 : Nat) : Int) = false := by
  cases hx : isA s.L ((0 : Nat) : Int) with
  | false => rfl
  | true => have := h.lt (isO_iff.1 hx); omega
theorem objA_no {L : List Ob} {z : Int} (h : isA L z = false) : objA L z = none := by
  cases hx : objA L z with
  | none => rfl
  | some o => rw [objA_is hx] at h; cases h
theorem get_numb (h : GOk N s) {x i : Int} (hn : numW x = true) : getA s.L (atA s.L x : Nat) i = (0, 7) := by
  rw [at_num hn]
  unfold getA
  rw [objA_no (isA_zero h)]
theorem write_numb (h : GOk N g.s) {x i y : Int} (hn : numW x = true) : writeS g (atA g.s.L x : Nat) i y = (7, g) := by
  have h1 := get_numb h (i := i) hn
  unfold writeS writeG
  rw [h1, if_neg (by decide)]
theorem get_in {L : List Ob} {o : Ob} (hl : Lay N 1 L) (ho : o ∈ L) {i : Int} : getA L (o.a : Int) i = if 0 ≤ i ∧ i < (o.fs.length : Int) then (o.fs.getD i.toNat 0, 0) else (0, 2) := by
  unfold getA
  rw [objA_mem hl ho]
theorem TwE.get (hok : GOk N s) (h : TwE s regs T Q) {q p : Nat} {x i : Int} {v : Vl} (hx : regs[q]? = some x) (hv : Q[q]? = some v) (hQ : regs.length = Q.length) :
    (v.1 = true ∧ getA s.L (atA s.L x : Nat) i = (0, 7)) ∨ (v.1 = false ∧ ∃ (id : Nat) (r : List Vl), v.2 = (id : Int) ∧ T[id]? = some r ∧
      (((i < 0 ∨ (r.length : Int) ≤ i) ∧ getA s.L (atA s.L x : Nat) i = (0, 2)) ∨ ∃ (j : Nat) (y : Int) (vy : Vl), i = (j : Int) ∧ r[j]? = some vy ∧ getA s.L (atA s.L x : Nat) i = (y, 0) ∧ TwE s (regs.set p y) T (Q.set p vy))) := by
  obtain ⟨live, ad, h⟩ := h
  rcases h.rg q x v hx hv with ⟨h1, h2, _⟩ | ⟨h1, id, h2, h3, h4⟩
  · exact .inl ⟨h1, get_numb hok h2⟩
  · obtain ⟨o, r, k1, k2, k3, k4, k5, k6, k7⟩ := h.ob id h2
    obtain ⟨l1, l2, l3⟩ := h.le hok h2
    obtain ⟨w1, w2⟩ := wordO l2
    have hat : atA s.L x = o.a := atA_obj hok.lay k1 (by rw [h4]; exact w1) (by rw [h4, w2]; exact k2.symm)
    refine .inr ⟨h1, id, r, h3, k4, ?_⟩
    rw [hat, get_in hok.lay k1]
    by_cases hi : 0 ≤ i ∧ i < (o.fs.length : Int)
    · right
      obtain ⟨j, rfl⟩ : ∃ j : Nat, i = j := ⟨i.toNat, by omega⟩
      obtain ⟨y, hy⟩ : ∃ y, o.fs[j]? = some y := ⟨_, List.getElem?_eq_getElem (by omega)⟩
      obtain ⟨vy, hvy⟩ : ∃ vy, r[j]? = some vy := ⟨_, List.getElem?_eq_getElem (by omega)⟩
      refine ⟨j, y, vy, rfl, hvy, ?_, live, ad, h.setR (k7 j y vy hy hvy) hQ⟩
      rw [if_pos hi]
      simp [hy]
    · left
      rw [if_neg hi]
      exact ⟨by omega, rfl⟩
theorem TwE.set (hok : GOk N g.s) (h : TwE g.s regs T Q) {p q : Nat} {x i y : Int} {v vy : Vl} (hx : regs[p]? = some x) (hv : Q[p]? = some v) (hy : regs[q]? = some y) (hvy : Q[q]? = some vy) :
    (v.1 = true ∧ writeS g (atA g.s.L x : Nat) i y = (7, g)) ∨ (v.1 = false ∧ ∃ (id : Nat) (r : List Vl), v.2 = (id : Int) ∧ T[id]? = some r ∧
      (((i < 0 ∨ (r.length : Int) ≤ i) ∧ writeS g (atA g.s.L x : Nat) i y = (2, g)) ∨ ∃ (j : Nat), i = (j : Int) ∧ j < r.length ∧ (writeS g (atA g.s.L x : Nat) i y).1 = 0 ∧ TwE (writeS g (atA g.s.L x : Nat) i y).2.s regs (T.set id (r.set j vy)) Q)) := by
  obtain ⟨live, ad, h⟩ := h
  rcases h.rg p x v hx hv with ⟨h1, h2, _⟩ | ⟨h1, id, h2, h3, h4⟩
  · exact .inl ⟨h1, write_numb hok h2⟩
  · obtain ⟨o, r, k1, k2, k3, k4, k5, k6, k7⟩ := h.ob id h2
    obtain ⟨l1, l2, l3⟩ := h.le hok h2
    obtain ⟨w1, w2⟩ := wordO l2
    have hat : atA g.s.L x = o.a := atA_obj hok.lay k1 (by rw [h4]; exact w1) (by rw [h4, w2]; exact k2.symm)
    refine .inr ⟨h1, id, r, h3, k4, ?_⟩
    rw [hat]
    by_cases hi : 0 ≤ i ∧ i < (o.fs.length : Int)
    rotate_left
    · left
      refine ⟨by omega, ?_⟩
      have := get_in hok.lay k1 (i := i)
      rw [if_neg hi] at this
      unfold writeS writeG
      rw [this, if_neg (by decide)]
    right
    obtain ⟨j, rfl⟩ : ∃ j : Nat, i = j := ⟨i.toNat, by omega⟩
    have hj : j < o.fs.length := by omega
    obtain ⟨m1, m2⟩ := write_obj hok k1 (i := j) (x := y) hj
    refine ⟨j, rfl, by omega, m2, live, ad, h.rg, fun id' hl' => ?_, h.inj⟩
    by_cases hid : id' = id
    · subst hid
      have hP := Pt_write hok (o.a : Int) (j : Int) y (a := ad id') (k := 6) k6 ⟨o, k1, k2, k3⟩
      refine ⟨_, r.set j vy, m1, k2, k3, by rw [List.getElem?_set_self (List.getElem?_eq_some_iff.1 k4).1], by simp [k5], hP.1, fun a w u hw hu => ?_⟩
      have hw : (o.fs.set j y)[a]? = some w := hw
      rw [List.getElem?_set] at hw hu
      by_cases ha : j = a
      · subst ha
        rw [if_pos rfl, if_pos hj] at hw
        rw [if_pos rfl, if_pos (by omega)] at hu
        obtain rfl := Option.some.inj hw
        obtain rfl := Option.some.inj hu
        exact h.rg q y vy hy hvy
      · rw [if_neg ha] at hw hu
        exact k7 a w u hw hu
    · obtain ⟨o', r', n1, n2, n3, n4, n5, n6, n7⟩ := h.ob id' hl'
      have hne : (o.a : Int) ≠ (o'.a : Int) := fun he => hid (h.inj id' id hl' h2 (by omega))
      rw [← n2] at n6
      obtain ⟨q1, q2⟩ := keep_write hok (o.a : Int) (j : Int) y n1 n6 hne
      exact ⟨o', r', q1, n2, n3, by rw [List.getElem?_set_ne (fun he => hid he.symm)]; exact n4, n5, by rw [← n2]; exact q2, n7⟩
/-- the same numbers, and the same objects in the same registers -/
theorem TwE.alike (hok : GOk N s) (h : TwE s regs T Q) {i : Nat} {x : Int} {v : Vl} (hx : regs[i]? = some x) (hv : Q[i]? = some v) : numW x = v.1 ∧ (v.1 = true → numV x = v.2) := by
  obtain ⟨live, ad, h⟩ := h
  rcases h.rg i x v hx hv with ⟨h1, h2, h3⟩ | ⟨h1, id, h2, h3, h4⟩
  · exact ⟨by rw [h1, h2], fun _ => h3⟩
  · obtain ⟨l1, l2, l3⟩ := h.le hok h2
    exact ⟨by rw [h4, h1]; exact (wordO l2).1, fun hc => by rw [h1] at hc; cases hc⟩
theorem TwE.pair (h : TwE s regs T Q) {i k : Nat} {x y : Int} {v u : Vl} (hx : regs[i]? = some x) (hv : Q[i]? = some v) (hy : regs[k]? = some y) (hu : Q[k]? = some u) (h1 : v.1 = false) (h2 : u.1 = false) : x = y ↔ v.2 = u.2 := by
  obtain ⟨live, ad, h⟩ := h
  rcases h.rg i x v hx hv with ⟨h3, _⟩ | ⟨_, a, k2, k3, k4⟩
  · rw [h1] at h3; cases h3
  rcases h.rg k y u hy hu with ⟨h3, _⟩ | ⟨_, b, l2, l3, l4⟩
  · rw [h2] at h3; cases h3
  constructor
  · intro he
    have := h.inj a b k2 l2 (by omega)
    omega
  · intro he
    have : a = b := by omega
    subst this
    omega
theorem TwE.first (s : GS) : TwE s [1, 1, 1, 1, 1, 1, 1, 1] [] (List.replicate 8 (true, 0)) :=
  ⟨fun _ => False, fun _ => 0, fun k w v hw hv => by
    have h1 : w = 1 := by have := List.mem_of_getElem? hw; simpa using this
    have h2 := List.eq_of_mem_replicate (List.mem_of_getElem? hv)
    subst h1; subst h2
    exact .inl ⟨rfl, num1V.1, num1V.2⟩, fun id hl => hl.elim, fun i j hi => hi.elim⟩
/-! ## numbers' words -/
def ofW (n : Int) : Int := 2 * n % 18446744073709551616 + 1
def wrapV (n : Int) : Int := (IntKind.i64.wrap (2 * n)).fdiv 2
theorem i64_cases (m : Int) (h : 0 ≤ m ∧ m < 18446744073709551616) : IntKind.i64.wrap m = if 9223372036854775808 ≤ m then m - 18446744073709551616 else m := by
  split
  · have : IntKind.i64.wrap m = IntKind.i64.wrap (m - 18446744073709551616) := by
      show _ = _
      unfold IntKind.wrap
      simp [IntKind.bits, IntKind.signed]
    rw [this]
    exact wrap_i64 ⟨by omega, by omega⟩
  · exact wrap_i64 ⟨by omega, by omega⟩
theorem i64_mod (m : Int) : IntKind.i64.wrap m = IntKind.i64.wrap (m % 18446744073709551616) := by
  unfold IntKind.wrap
  simp [IntKind.bits, IntKind.signed]
theorem of_num (n : Int) : numW (ofW n) = true ∧ numV (ofW n) = wrapV n ∧ U (ofW n) := by
  have h1 := Int.emod_nonneg (2 * n) (show (18446744073709551616 : Int) ≠ 0 by decide)
  have h2 := Int.emod_lt_of_pos (2 * n) (show (0 : Int) < 18446744073709551616 by decide)
  have h3 : 2 * n % 18446744073709551616 % 2 = 0 := by omega
  refine ⟨?_, ?_, ?_⟩
  · unfold numW ofW
    exact decide_eq_true (by omega)
  · unfold numV wrapV ofW
    rw [i64_mod (2 * n), i64_cases _ ⟨by omega, by omega⟩, i64_cases _ ⟨h1, h2⟩]
    rw [Int.fdiv_eq_ediv_of_nonneg _ (by decide), Int.fdiv_eq_ediv_of_nonneg _ (by decide)]
    split <;> split <;> omega
  · unfold U ofW
    omega
end
end Go.Proofs.Ytdfhajdejlhamaa
namespace Go.Fw
open Go Go.RowKit
set_option linter.unusedVariables false
def lateN (n : Nat) (ops : Array Oper) (π2 : List Nat) (listed : Array Bool) (i : Nat) : Bool :=
  π2.all fun j => beh ops listed i n j
def okM (n : Nat) (ops : Array Oper) (π2 : List Nat) : List (Nat × Nat) → Array Bool → Bool
  | [], listed => okL ops π2 listed
  | (i, 0) :: π, listed => decide (Region.ready .any ops listed = [i]) && okM n ops π2 π (listed.setIfInBounds i true)
  | (i, 1) :: π, listed => (Region.ready .any ops listed).contains i && Region.free .any ops listed i && lateN n ops π2 listed i && okM n ops π2 π (listed.setIfInBounds i true)
  | (i, _ + 2) :: π, listed => (Region.ready .any ops listed).contains i && Region.free .any ops listed i && okM n ops π2 π (listed.setIfInBounds i true)
theorem lateN_spec {n : Nat} {ops : Array Oper} {π2 : List Nat} {listed : Array Bool} {i : Nat} (h : lateN n ops π2 listed i = true) : ∀ j, (!π2.contains j) = false → Rch .any ops listed i j := by
  intro j hc
  have hm : j ∈ π2 := by simpa using hc
  exact beh_spec n j (List.all_eq_true.1 h j hm)
theorem wpAny_wkM {n : Nat} {P : Program} {ops : Array Oper} {S : World → Prop} {Q : Exit → Act → World → Prop} (hs : Region.noSelect ops = true) (π2 : List Nat) : ∀ (π : List (Nat × Nat)) (listed : Array Bool) (a : Act) (w : World),
    okM n ops π2 π listed = true → S w → wkD P ops S Q π2 π a w → wpAnyK P .any ops (NoPanic Q) S (fun j => !π2.contains j) (π.length + π2.length) listed a w
  | [], listed, a, w, hok, hS, h => by
    have := wk2_any (S := S) (F := fun j => !π2.contains j) π2 listed a w (fun i hi => by simpa using hi) hok h
    simpa using this
  | (i, 1) :: π, listed, a, w, hok, hS, h => by
    simp only [okM, Bool.and_eq_true] at hok
    obtain ⟨⟨⟨hr, hf⟩, hl⟩, hok'⟩ := hok
    obtain ⟨o, v, hi, hy, hk⟩ := h
    have := wpAny_wkM hs π2 π _ _ w hok' hS hk
    have e : ((i, 1) :: π).length + π2.length = (π.length + π2.length) + 1 := by simp; omega
    rw [e]
    exact wpAnyK.first hi (Region.noSelect_spec hs) (fun c a w h => h) _ listed a w (lateN_spec hl) (Region.free_spec hi hf) (by simpa using hr) hy hS this
  | (i, k + 2) :: π, listed, a, w, hok, hS, h => by
    simp only [okM, Bool.and_eq_true] at hok
    obtain ⟨⟨hr, hf⟩, hok'⟩ := hok
    obtain ⟨o, v, hi, hy, hk⟩ := h
    have := wpAny_wkM hs π2 π _ _ w hok' hS hk
    have e : ((i, k + 2) :: π).length + π2.length = (π.length + π2.length) + 1 := by simp; omega
    rw [e]
    exact wpAnyK.firstp hi (Region.noSelect_spec hs) (fun c a w h => h) _ listed a w (Region.free_spec hi hf) (by simpa using hr) hy this
  | (i, 0) :: π, listed, a, w, hok, hS, h => by
    simp only [okM, Bool.and_eq_true, decide_eq_true_eq] at hok
    have e : ((i, 0) :: π).length + π2.length = (π.length + π2.length) + 1 := by simp; omega
    rw [e]
    refine ⟨fun h0 => (by rw [hok.1] at h0; cases h0), fun j hj => ?_⟩
    rw [hok.1] at hj
    obtain rfl : j = i := by simpa using hj
    exact wpOp_mono (fun a' w' ⟨hS', h'⟩ => ⟨fun _ _ => hS', wpAny_wkM hs π2 π _ a' w' hok.2 hS' h'⟩) h
/-- some come last -/
theorem wp_draw3_HS (n : Nat) {P : Program} {id : Nat} {ops : List Oper} {Q : Exit → Act → World → Prop} {a : Act} {w0 w : World} {M : Nat → Prop} {H : List It} (π : List (Nat × Nat)) (π2 : List Nat) (hm : P.follows .mixedOrders = true)
    (hok : (Region.noSelect ops.toArray && Nat.beq (π.length + π2.length) ops.length && okM n ops.toArray π2 π (Array.replicate ops.length false)) = true) (hH : HS w0 M H w) (h : wkD P ops.toArray (HS w0 M H) Q π2 π a w.drew) : (Code.region id ops.toArray true).wp P Q a w := by
  simp only [Bool.and_eq_true] at hok
  obtain ⟨⟨hs, hl⟩, hok⟩ := hok
  have hl' : π.length + π2.length = ops.toArray.size := by simpa using Nat.eq_of_beq_eq_true hl
  have := wpAny_wkM hs π2 π (Array.replicate ops.length false) a w.drew hok hH.drew h
  rw [hl'] at this
  refine wp_region_noPanic (wp_region_any hm (wpAnyK.any (S := HS w0 M H) (F := fun j => !π2.contains j) _ _ _ _ ?_))
  simpa using this
/-- a struct that is handed back out of its cell, and one value more -/
theorem rt2c {P : Program} {N : Nat} {l : List (Nat × Value)} {a : Act} {w : World} {C : World → Prop} {fn : Func} {R : Value → World → Prop} {p u : Tmp} {ty sz by_ : Nat} {z : Value} {zs : List Value} {fl : List (Nat × Nat)} {q : Addr} {vs : List Value} {v2 : Value} {e : Exit} [h0 : TSt P ty fl] [hi : TIf P ty z zs sz by_] (he : e = .ret ∨ e = .normal) (hr : fn.results = #[.cell p ty, .tmp u]) (hA : Sl N l a)
    (hp : lk l p = some (.pointer (some q))) (hv2 : lk l u = some v2) (hl : vs.length = sz) (hC : C w) (hc : Cls C q vs) (h : R (.tuple #[.agg vs.toArray, v2]) w) : bodyPost P fn (fun e w' => ∃ v, e = .returned v ∧ R v w') e a w := by
  have hg : a.tmps.getD p undef = .pointer (some q) := by simp [Array.getD_eq_getD_getElem?, hA.get p _ hp]
  have hg2 : a.tmps.getD u undef = v2 := by simp [Array.getD_eq_getD_getElem?, hA.get u v2 hv2]
  obtain ⟨ti, h3, h4, h5, h6⟩ := hi.eq
  have hrun : (results fn a.tmps).run P w = .ok (.tuple #[.agg vs.toArray, v2]) w := by
    rw [results_cell_tmp hr, hg, hg2]
    simp [asAddr, loadVar, run_isAgg_st, sizeOf, typeInfo, h3, h5, ← hl, run_loadCells_list w q vs (hc w hC), Result.andThen]
  rcases he with rfl | rfl
  · exact bodyPost_ret hrun hA.defers ⟨_, rfl, h⟩
  · exact bodyPost_end hrun hA.defers ⟨_, rfl, h⟩
end Go.Fw
