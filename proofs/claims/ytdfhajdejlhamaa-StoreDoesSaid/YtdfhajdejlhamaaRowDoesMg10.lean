/-
  Numbers' words; what shifts and sums of bytes make (plain), the walks over Of and Num. Conditions: none.
  The walks over Num and Text. Conditions: none.
  A region of which some come last, told from further off. Conditions: none.
  The walk over the Set of the document's store; framed calls. Conditions: none.
  Walks over the document's Get, Object, and over its words' numbers. Conditions: none.
  The walk over Text. Conditions: none.
  What String tells (plain); the walk over it. Conditions: none.
  What stays as it is; when there is no room; a text that is laid (plain law). Conditions: none.
-/
import Derived.Test.YtdfhajdejlhamaaRowDoesMg9
import Derived.Test.YtdfhajdejlhamaaRowDoesMg7
import Derived.Laws.ResultCell
namespace Go.Proofs.Ytdfhajdejlhamaa
open Go Go.Fw
set_option linter.unusedVariables false
theorem orK_nat {a b : Nat} (ha : a < 18446744073709551616) (hb : b < 18446744073709551616) : orK .u64 (a : Int) (b : Int) = ((a ||| b : Nat) : Int) := by
  unfold orK
  have e : IntKind.u64.bits = 64 := rfl
  have h1 : (BitVec.ofInt IntKind.u64.bits (a : Int) ||| BitVec.ofInt IntKind.u64.bits (b : Int)).toNat = a ||| b := by
    rw [BitVec.toNat_or, BitVec.ofInt_natCast, BitVec.ofInt_natCast, BitVec.toNat_ofNat, BitVec.toNat_ofNat, e]
    rw [Nat.mod_eq_of_lt (by simpa using ha), Nat.mod_eq_of_lt (by simpa using hb)]
  have h2 : a ||| b < 2 ^ 64 := Nat.or_lt_two_pow (by simpa using ha) (by simpa using hb)
  rw [h1, u64_mod, Int.emod_eq_of_lt (by omega) (by have : (2 : Nat) ^ 64 = 18446744073709551616 := by decide
                                                    omega)]
theorem pow_two (k : Nat) : (256 : Nat) ^ k = 2 ^ (8 * k) := by rw [Nat.pow_mul]
theorem shl_byte {c k : Nat} (hc : c < 256) (hk : k < 8) : shlK .u64 (c : Int) (8 * (k : Int)) = ((c * 256 ^ k : Nat) : Int) := by
  have h2 : (256 : Nat) ^ k ≤ 256 ^ 7 := Nat.pow_le_pow_right (by decide) (by omega)
  have h3 : c * 256 ^ k < 256 * 256 ^ k := Nat.mul_lt_mul_of_pos_right hc (Nat.pow_pos (by decide))
  have h4 : (256 : Nat) ^ 7 = 72057594037927936 := by decide
  unfold shlK
  have e : min (8 * (k : Int)).toNat IntKind.u64.bits = 8 * k := by
    show min (8 * (k : Int)).toNat 64 = 8 * k
    omega
  rw [e, u64_mod]
  have e2 : (c : Int) * 2 ^ (8 * k) = ((c * 256 ^ k : Nat) : Int) := by
    rw [pow_two]
    simp
  rw [e2, Int.emod_eq_of_lt (by omega) (by omega)]
theorem or_byte {x c k : Nat} (hx : x < 256 ^ k) (hc : c < 256) (hk : k < 8) : orK .u64 (x : Int) ((c * 256 ^ k : Nat) : Int) = ((x + c * 256 ^ k : Nat) : Int) := by
  have h2 : (256 : Nat) ^ k ≤ 256 ^ 7 := Nat.pow_le_pow_right (by decide) (by omega)
  have h3 : c * 256 ^ k < 256 * 256 ^ k := Nat.mul_lt_mul_of_pos_right hc (Nat.pow_pos (by decide))
  have h4 : (256 : Nat) ^ 7 = 72057594037927936 := by decide
  rw [orK_nat (by omega) (by omega)]
  have h5 := Nat.two_pow_add_eq_or_of_lt (b := x) (i := 8 * k) (by rw [← pow_two]; exact hx) c
  rw [← pow_two] at h5
  congr 1
  rw [Nat.or_comm, Nat.mul_comm c, ← h5, Nat.add_comm]
theorem shl_one {n : Nat} (h : n ≤ 1000000) : shlK .u64 (n : Int) 1 = ((2 * n : Nat) : Int) := by
  have e : shlK .u64 (n : Int) 1 = ((n : Int) * 2 ^ 1) % 18446744073709551616 := rfl
  rw [e, Int.emod_eq_of_lt (by omega) (by omega)]
  omega
theorem or_one {n : Nat} (h : n ≤ 1000000) : orK .u64 ((2 * n : Nat) : Int) 1 = 2 * (n : Int) + 1 := by
  have h1 := orK_nat (a := 2 * n) (b := 1) (by omega) (by decide)
  have h5 := Nat.two_pow_add_eq_or_of_lt (b := 1) (i := 1) (by decide) n
  rw [show ((1 : Int)) = ((1 : Nat) : Int) from rfl, h1]
  rw [show (2 : Nat) ^ 1 = 2 by decide] at h5
  rw [← h5]
  omega
set_option maxRecDepth 10000 attribute [local irreducible] Code.wp wpList Calls Ex Op1 sat bat blk cb own Go.Fw.mp Go.Fw.mpO Go.Fw.mpI Go.Fw.mpE Go.Fw.itr HS Rd Ret wkD Hp Cl Cls Exit.then Exit.inBlock Exit.noGoto bodyPost Go.Fw.flat wk2 Go.Fw.all Go.Fw.owns wpOp
attribute [local irreducible] shlK orK shrK andK

theorem ofn_spec (w0 : World) (n : Nat) (h : n ≤ 1000000) : Ret Try.prog 35 #[.int .i64 (n : Int)] w0 (fun v w => v = .int .u64 (2 * (n : Int) + 1) ∧ Kp w0 noM w) := by
  have hH : HS w0 noM [] w0 := HS.init w0 noM
  have e1 : IntKind.u64.wrap (n : Int) = (n : Int) := by rw [u64_mod, Int.emod_eq_of_lt (by omega) (by omega)]
  have e2 := shl_one h
  have e3 := or_one h
  (refine enter (N := 7) Try.func35 rfl Try.ntmps35 rfl ?_; intro a hA; dsimp only [sl0, Nat.reduceAdd] at hA)
  repeat' (first | (first | (refine GT ?_ ?_ <;> intro hg <;> clear hA a <;> intro a hA <;> (first | exact FA | replace hg := of_decide_eq_true hg | replace hg := of_decide_eq_false hg | skip)) | ((first | apply st_ex hA hH rfl rfl (by decide) | apply dr_ex hA rfl rfl rfl (by decide) | apply dr_exp hA rfl rfl rfl (by decide) | apply dr_ex3 hA hH rfl rfl rfl (by decide)); (first | (apply ex_convert (v := (n : Int)); rfl; exact e1) | (apply ex_shl (v := ((2 * n : Nat) : Int)); rfl; rfl; decide; exact e2) | (apply ex_or (v := 2 * (n : Int) + 1); rfl; rfl; exact e3)); clear hA a; intro a hA) | (refine QT ?_; clear hA a; intro a hA) | (first | (refine BT ?_; clear hA hH; rintro _ w ⟨bN, rfl, hH⟩ a hA) | (refine LT ?_; clear hA hH; rintro _ w ⟨oN, rfl, hH⟩ a hA) | (refine AT ?_; clear hA; rintro _ w ⟨oN, cN, rfl, hH2⟩ a hA; clear hH; have hH := (hH2 _ (by (repeat constructor))).tail; clear hH2) | (refine S0T ?_; clear hH; rintro _ w hH) )) | ((first | refine CT ?_ | (refine DT ?_ ?_ <;> intro hc <;> try (exfalso; omega))) <;> repeat' refine CT ?_) | (first | (refine DSK ?_; clear hA a; intro a hA) | (first | (refine DLT ?_; clear hA hH; rintro _ w ⟨oN, rfl, hH⟩; refine ⟨STT, ?_⟩; intro a hA) | (refine DAT ?_; clear hA; rintro _ w ⟨oN, cN, rfl, hH2⟩; clear hH; have hH := (hH2 _ (by (repeat constructor))).tail; clear hH2; refine ⟨STT, ?_⟩; intro a hA))) )
  exact rt1 (.inl rfl) rfl hA rfl ⟨rfl, hH.kp⟩
end Go.Proofs.Ytdfhajdejlhamaa
namespace Go.Proofs.Ytdfhajdejlhamaa
open Go Go.Fw
set_option linter.unusedVariables false
/-- a word's number -/
def numV (x : Int) : Int := (IntKind.i64.wrap x).fdiv 2
theorem numV_of {n : Nat} (h : n ≤ 1000000) : numV (2 * (n : Int) + 1) = (n : Int) := by
  unfold numV
  rw [wrap_i64 ⟨by omega, by omega⟩, Int.fdiv_eq_ediv_of_nonneg _ (by decide)]
  omega
theorem shr_num (x : Int) : shrK .i64 (IntKind.i64.wrap x) 1 = numV x := rfl
section
variable {w0 w : World} {M : Nat → Prop} {H : List It} {bs N : Nat} {g : SS}
theorem sset_f {x i y : Int} (hH : HS w0 M (stI bs N g :: H) w) (hok : GOk N g.s) (hU : U x) :
    Ret Try.prog 14 #[.pointer (some (bat bs 0)), .int .u64 x, .int .i64 i, .int .u64 y] w (fun v w' => v = .int .i64 (writeS g (atA g.s.L x : Nat) i y).1 ∧ HS w0 M (stI bs N (writeS g (atA g.s.L x : Nat) i y).2 :: H) w') := by
  obtain ⟨Mc, h1, -, h2⟩ := HS.frame (Hc := [stI bs N g]) (Hf := H) hH
  exact (sset_spec w Mc bs N g x i y hok hU h1).mono fun v w' ⟨h3, h4⟩ => ⟨h3, h2 _ _ h4⟩
theorem sget_f {x i : Int} (hH : HS w0 M (stI bs N g :: H) w) (hok : GOk N g.s) (hU : U x) :
    Ret Try.prog 16 #[.pointer (some (bat bs 0)), .int .u64 x, .int .i64 i] w (fun v w' => v = .tuple #[.int .u64 (getA g.s.L (atA g.s.L x : Nat) i).1, .int .i64 (getA g.s.L (atA g.s.L x : Nat) i).2] ∧ HS w0 M (stI bs N g :: H) w') := by
  obtain ⟨Mc, h1, -, h2⟩ := HS.frame (Hc := [stI bs N g]) (Hf := H) hH
  exact (sget_spec w Mc bs N g x i hok hU h1).mono fun v w' ⟨h3, h4⟩ => ⟨h3, h2 _ _ h4⟩
theorem skind_f {x : Int} (hH : HS w0 M (stI bs N g :: H) w) (hok : GOk N g.s) (hU : U x) :
    Ret Try.prog 38 #[.pointer (some (bat bs 0)), .int .u64 x] w (fun v w' => v = .int .i64 (kindA g.s.L (atA g.s.L x : Nat)).1 ∧ HS w0 M (stI bs N g :: H) w') := by
  obtain ⟨Mc, h1, -, h2⟩ := HS.frame (Hc := [stI bs N g]) (Hf := H) hH
  exact (skind_spec w Mc bs N g x hok hU h1).mono fun v w' ⟨h3, h4⟩ => ⟨h3, h2 _ _ h4⟩
theorem ssize_f {x : Int} (hH : HS w0 M (stI bs N g :: H) w) (hok : GOk N g.s) (hU : U x) :
    Ret Try.prog 39 #[.pointer (some (bat bs 0)), .int .u64 x] w (fun v w' => v = .int .i64 (sizeA g.s.L (atA g.s.L x : Nat)).1 ∧ HS w0 M (stI bs N g :: H) w') := by
  obtain ⟨Mc, h1, -, h2⟩ := HS.frame (Hc := [stI bs N g]) (Hf := H) hH
  exact (ssize_spec w Mc bs N g x hok hU h1).mono fun v w' ⟨h3, h4⟩ => ⟨h3, h2 _ _ h4⟩
end
set_option maxRecDepth 10000 attribute [local irreducible] Code.wp wpList Calls Ex Op1 sat bat blk cb own Go.Fw.mp Go.Fw.mpO Go.Fw.mpI Go.Fw.mpE Go.Fw.itr HS Rd Ret wkD Hp Cl Cls Exit.then Exit.inBlock Exit.noGoto bodyPost Go.Fw.flat wk2 Go.Fw.all Go.Fw.owns wpOp
attribute [local irreducible] shlK orK shrK andK numV

theorem num_spec (w0 : World) (x : Int) : Ret Try.prog 63 #[.int .u64 x] w0 (fun v w => v = .int .i64 (numV x) ∧ Kp w0 noM w) := by
  have hH : HS w0 noM [] w0 := HS.init w0 noM
  have e2 := shr_num x
  (refine enter (N := 6) Try.func63 rfl Try.ntmps63 rfl ?_; intro a hA; dsimp only [sl0, Nat.reduceAdd] at hA)
  repeat' (first | (first | (refine GT ?_ ?_ <;> intro hg <;> clear hA a <;> intro a hA <;> (first | exact FA | replace hg := of_decide_eq_true hg | replace hg := of_decide_eq_false hg | skip)) | ((first | apply st_ex hA hH rfl rfl (by decide) | apply dr_ex hA rfl rfl rfl (by decide) | apply dr_exp hA rfl rfl rfl (by decide) | apply dr_ex3 hA hH rfl rfl rfl (by decide)); (first | (apply ex_convert (v := IntKind.i64.wrap x); rfl; rfl) | (apply ex_shr (v := numV x); rfl; rfl; decide; exact e2)); clear hA a; intro a hA) | (refine QT ?_; clear hA a; intro a hA) | (first | (refine BT ?_; clear hA hH; rintro _ w ⟨bN, rfl, hH⟩ a hA) | (refine LT ?_; clear hA hH; rintro _ w ⟨oN, rfl, hH⟩ a hA) | (refine AT ?_; clear hA; rintro _ w ⟨oN, cN, rfl, hH2⟩ a hA; clear hH; have hH := (hH2 _ (by (repeat constructor))).tail; clear hH2) | (refine S0T ?_; clear hH; rintro _ w hH) )) | ((first | refine CT ?_ | (refine DT ?_ ?_ <;> intro hc <;> try (exfalso; omega))) <;> repeat' refine CT ?_) | (first | (refine DSK ?_; clear hA a; intro a hA) | (first | (refine DLT ?_; clear hA hH; rintro _ w ⟨oN, rfl, hH⟩; refine ⟨STT, ?_⟩; intro a hA) | (refine DAT ?_; clear hA; rintro _ w ⟨oN, cN, rfl, hH2⟩; clear hH; have hH := (hH2 _ (by (repeat constructor))).tail; clear hH2; refine ⟨STT, ?_⟩; intro a hA))) )
  exact rt1 (.inl rfl) rfl hA rfl ⟨rfl, hH.kp⟩
end Go.Proofs.Ytdfhajdejlhamaa
namespace Go.Fw
open Go Go.RowKit
set_option linter.unusedVariables false
def lateN (n : Nat) (ops : Array Oper) (π2 : List Nat) (listed : Array Bool) (i : Nat) : Bool :=
  π2.all fun j => beh ops listed i n j
def okM (n : Nat) (ops : Array Oper) (π2 : List Nat) : List (Nat × Nat) → Array Bool → Bool
  | [], listed => okL ops π2 listed
  | (i, 0) :: π, listed => decide (Region.ready .any ops listed = [i]) && okM n ops π2 π (listed.setIfInBounds i true)
  | (i, 1) :: π, listed => (Region.ready .any ops listed).contains i && Region.free .any ops listed i && lateN n ops π2 listed i && okM n ops π2 π (listed.setIfInBounds i true)
  | (i, _ + 2) :: π, listed => (Region.ready .any ops listed).contains i && Region.free .any ops listed i && okM n ops π2 π (listed.setIfInBounds i true)
theorem lateN_spec {n : Nat} {ops : Array Oper} {π2 : List Nat} {listed : Array Bool} {i : Nat} (h : lateN n ops π2 listed i = true) : ∀ j, (!π2.contains j) = false → Rch .any ops listed i j := by
  intro j hc
  have hm : j ∈ π2 := by simpa using hc
  exact beh_spec n j (List.all_eq_true.1 h j hm)
theorem wpAny_wkM {n : Nat} {P : Program} {ops : Array Oper} {S : World → Prop} {Q : Exit → Act → World → Prop} (hs : Region.noSelect ops = true) (π2 : List Nat) : ∀ (π : List (Nat × Nat)) (listed : Array Bool) (a : Act) (w : World),
    okM n ops π2 π listed = true → S w → wkD P ops S Q π2 π a w → wpAnyK P .any ops (NoPanic Q) S (fun j => !π2.contains j) (π.length + π2.length) listed a w
  | [], listed, a, w, hok, hS, h => by
    have := wk2_any (S := S) (F := fun j => !π2.contains j) π2 listed a w (fun i hi => by simpa using hi) hok h
    simpa using this
  | (i, 1) :: π, listed, a, w, hok, hS, h => by
    simp only [okM, Bool.and_eq_true] at hok
    obtain ⟨⟨⟨hr, hf⟩, hl⟩, hok'⟩ := hok
    obtain ⟨o, v, hi, hy, hk⟩ := h
    have := wpAny_wkM hs π2 π _ _ w hok' hS hk
    have e : ((i, 1) :: π).length + π2.length = (π.length + π2.length) + 1 := by simp; omega
    rw [e]
    exact wpAnyK.first hi (Region.noSelect_spec hs) (fun c a w h => h) _ listed a w (lateN_spec hl) (Region.free_spec hi hf) (by simpa using hr) hy hS this
  | (i, k + 2) :: π, listed, a, w, hok, hS, h => by
    simp only [okM, Bool.and_eq_true] at hok
    obtain ⟨⟨hr, hf⟩, hok'⟩ := hok
    obtain ⟨o, v, hi, hy, hk⟩ := h
    have := wpAny_wkM hs π2 π _ _ w hok' hS hk
    have e : ((i, k + 2) :: π).length + π2.length = (π.length + π2.length) + 1 := by simp; omega
    rw [e]
    exact wpAnyK.firstp hi (Region.noSelect_spec hs) (fun c a w h => h) _ listed a w (Region.free_spec hi hf) (by simpa using hr) hy this
  | (i, 0) :: π, listed, a, w, hok, hS, h => by
    simp only [okM, Bool.and_eq_true, decide_eq_true_eq] at hok
    have e : ((i, 0) :: π).length + π2.length = (π.length + π2.length) + 1 := by simp; omega
    rw [e]
    refine ⟨fun h0 => (by rw [hok.1] at h0; cases h0), fun j hj => ?_⟩
    rw [hok.1] at hj
    obtain rfl : j = i := by simpa using hj
    exact wpOp_mono (fun a' w' ⟨hS', h'⟩ => ⟨fun _ _ => hS', wpAny_wkM hs π2 π _ a' w' hok.2 hS' h'⟩) h
/-- some come last -/
theorem wp_draw3_HS (n : Nat) {P : Program} {id : Nat} {ops : List Oper} {Q : Exit → Act → World → Prop} {a : Act} {w0 w : World} {M : Nat → Prop} {H : List It} (π : List (Nat × Nat)) (π2 : List Nat) (hm : P.follows .mixedOrders = true)
    (hok : (Region.noSelect ops.toArray && Nat.beq (π.length + π2.length) ops.length && okM n ops.toArray π2 π (Array.replicate ops.length false)) = true) (hH : HS w0 M H w) (h : wkD P ops.toArray (HS w0 M H) Q π2 π a w.drew) : (Code.region id ops.toArray true).wp P Q a w := by
  simp only [Bool.and_eq_true] at hok
  obtain ⟨⟨hs, hl⟩, hok⟩ := hok
  have hl' : π.length + π2.length = ops.toArray.size := by simpa using Nat.eq_of_beq_eq_true hl
  have := wpAny_wkM hs π2 π (Array.replicate ops.length false) a w.drew hok hH.drew h
  rw [hl'] at this
  refine wp_region_noPanic (wp_region_any hm (wpAnyK.any (S := HS w0 M H) (F := fun j => !π2.contains j) _ _ _ _ ?_))
  simpa using this
/-- a struct that is handed back out of its cell, and one value more -/
theorem rt2c {P : Program} {N : Nat} {l : List (Nat × Value)} {a : Act} {w : World} {C : World → Prop} {fn : Func} {R : Value → World → Prop} {p u : Tmp} {ty sz by_ : Nat} {z : Value} {zs : List Value} {fl : List (Nat × Nat)} {q : Addr} {vs : List Value} {v2 : Value} {e : Exit} [h0 : TSt P ty fl] [hi : TIf P ty z zs sz by_] (he : e = .ret ∨ e = .normal) (hr : fn.results = #[.cell p ty, .tmp u]) (hA : Sl N l a)
    (hp : lk l p = some (.pointer (some q))) (hv2 : lk l u = some v2) (hl : vs.length = sz) (hC : C w) (hc : Cls C q vs) (h : R (.tuple #[.agg vs.toArray, v2]) w) : bodyPost P fn (fun e w' => ∃ v, e = .returned v ∧ R v w') e a w := by
  have hg : a.tmps.getD p undef = .pointer (some q) := by simp [Array.getD_eq_getD_getElem?, hA.get p _ hp]
  have hg2 : a.tmps.getD u undef = v2 := by simp [Array.getD_eq_getD_getElem?, hA.get u v2 hv2]
  obtain ⟨ti, h3, h4, h5, h6⟩ := hi.eq
  have hrun : (results fn a.tmps).run P w = .ok (.tuple #[.agg vs.toArray, v2]) w := by
    rw [results_cell_tmp hr, hg, hg2]
    simp [asAddr, loadVar, run_isAgg_st, sizeOf, typeInfo, h3, h5, ← hl, run_loadCells_list w q vs (hc w hC), Result.andThen]
  rcases he with rfl | rfl
  · exact bodyPost_ret hrun hA.defers ⟨_, rfl, h⟩
  · exact bodyPost_end hrun hA.defers ⟨_, rfl, h⟩
end Go.Fw
namespace Go.Proofs.Ytdfhajdejlhamaa
open Go Go.Fw
set_option linter.unusedVariables false
theorem reach_at (L : List Ob) (x : Int) : reachA L x = atA L x := rfl
set_option maxRecDepth 10000 attribute [local irreducible] Code.wp wpList Calls Ex Op1 sat bat blk cb own Go.Fw.mp Go.Fw.mpO Go.Fw.mpI Go.Fw.mpE Go.Fw.itr HS Rd Ret wkD Hp Cl Cls Exit.then Exit.inBlock Exit.noGoto bodyPost Go.Fw.flat wk2 Go.Fw.all Go.Fw.owns wpOp
attribute [local irreducible] hdA gaps isA nextA allocA freeA sizeA kindA setA getA whiteZ numW addrW shadeG gcI hpI stepG beginG writeG allocG mu atA endS finG rfI gdI AtT allocS tryS reachA

theorem dsset_spec (w0 : World) (M : Nat → Prop) (bm N : Nat) (g : SS) (x i y : Int) (hok : GOk N g.s) (hU : U x) (hH : HS w0 M [sdI bm N g] w0) :
    Ret Try.prog 15 #[.pointer (some (bat bm 0)), .int .u64 x, .int .i64 i, .int .u64 y] w0 (fun v w => v = .int .i64 (writeS g (atA g.s.L x : Nat) i y).1 ∧ HS w0 M [sdI bm N (writeS g (atA g.s.L x : Nat) i y).2] w) := by
  obtain ⟨bd, b2, hH2⟩ := sd_open hH
  clear hH
  have hH : HS w0 M [gdI bd b2 g.s, rfI b2 N g.s.L, cb bm 51 [.pointer (some (bat bd 0)), .int .i64 g.cy]] w0 := hH2
  clear hH2
  (refine enter (N := 25) Try.func15 rfl Try.ntmps15 rfl ?_; intro a hA; dsimp only [sl0, Nat.reduceAdd] at hA)
  repeat' (first | (first | (refine GT ?_ ?_ <;> intro hg <;> clear hA a <;> intro a hA <;> (first | exact FA | replace hg := of_decide_eq_true hg | replace hg := of_decide_eq_false hg | skip)) | (refine QT ?_; clear hA a; intro a hA) | (first | (refine BT ?_; clear hA hH; rintro _ w ⟨bN, rfl, hH⟩ a hA) | (refine LT ?_; clear hA hH; rintro _ w ⟨oN, rfl, hH⟩ a hA) | (refine AT ?_; clear hA; rintro _ w ⟨oN, cN, rfl, hH2⟩ a hA; clear hH; have hH := (hH2 _ (by (repeat constructor))).tail; clear hH2) | (refine S0T ?_; clear hH; rintro _ w hH) )) | ((first | refine CT ?_ | (refine DT ?_ ?_ <;> intro hc <;> try (exfalso; omega))) <;> repeat' refine CT ?_) | (first | (refine DSK ?_; clear hA a; intro a hA) | (first | (refine DLT ?_; clear hA hH; rintro _ w ⟨oN, rfl, hH⟩; refine ⟨STT, ?_⟩; intro a hA) | (refine DAT ?_; clear hA; rintro _ w ⟨oN, cN, rfl, hH2⟩; clear hH; have hH := (hH2 _ (by (repeat constructor))).tail; clear hH2; refine ⟨STT, ?_⟩; intro a hA))) )
  (refine wp_draw3_HS 6 [(4, 2), (5, 2), (6, 2), (7, 1), (8, 1), (9, 1), (10, 1), (0, 1), (1, 1), (2, 1), (3, 1), (11, 1), (13, 1), (14, 1), (12, 0)] [15,16] mixed (by decide +kernel) hH ?_; replace hH := hH.drew)
  repeat' (first | (first | (refine GT ?_ ?_ <;> intro hg <;> clear hA a <;> intro a hA <;> (first | exact FA | replace hg := of_decide_eq_true hg | replace hg := of_decide_eq_false hg | skip)) | ((first | apply st_ex hA hH rfl rfl (by decide) | apply dr_ex hA rfl rfl rfl (by decide) | apply dr_exp hA rfl rfl rfl (by decide) | apply dr_ex3 hA hH rfl rfl rfl (by decide)); (first | (apply ex_load; rfl; exact dcl_h MEMT) | (apply ex_load; rfl; exact dcl_p MEMT)); clear hA a; intro a hA) | (refine QT ?_; clear hA a; intro a hA) | (first | (refine BT ?_; clear hA hH; rintro _ w ⟨bN, rfl, hH⟩ a hA) | (refine LT ?_; clear hA hH; rintro _ w ⟨oN, rfl, hH⟩ a hA) | (refine AT ?_; clear hA; rintro _ w ⟨oN, cN, rfl, hH2⟩ a hA; clear hH; have hH := (hH2 _ (by (repeat constructor))).tail; clear hH2) | (refine S0T ?_; clear hH; rintro _ w hH) )) | ((first | refine CT ?_ | (refine DT ?_ ?_ <;> intro hc <;> try (exfalso; omega))) <;> repeat' refine CT ?_) | (first | (refine DSK ?_; clear hA a; intro a hA) | (first | (refine DLT ?_; clear hA hH; rintro _ w ⟨oN, rfl, hH⟩; refine ⟨STT, ?_⟩; intro a hA) | (refine DAT ?_; clear hA; rintro _ w ⟨oN, cN, rfl, hH2⟩; clear hH; have hH := (hH2 _ (by (repeat constructor))).tail; clear hH2; refine ⟨STT, ?_⟩; intro a hA))) )
  (refine dr_op hA rfl rfl rfl (by decide) (op_call rfl rfl rfl (reaches_spec _ b2 N g.s.L x hU (Ok.len ⟨hok.n2, hok.lay, hok.kd⟩) (rf_readM hH (by exact MEMT)))) ?_; clear hA; rintro _ w ⟨rfl, hk⟩; replace hH := hH.keep hk; clear hk; refine ⟨STT, ?_⟩; intro a hA)
  rw [reach_at] at hA
  repeat' (first | (first | (refine GT ?_ ?_ <;> intro hg <;> clear hA a <;> intro a hA <;> (first | exact FA | replace hg := of_decide_eq_true hg | replace hg := of_decide_eq_false hg | skip)) | (refine QT ?_; clear hA a; intro a hA) | (first | (refine BT ?_; clear hA hH; rintro _ w ⟨bN, rfl, hH⟩ a hA) | (refine LT ?_; clear hA hH; rintro _ w ⟨oN, rfl, hH⟩ a hA) | (refine AT ?_; clear hA; rintro _ w ⟨oN, cN, rfl, hH2⟩ a hA; clear hH; have hH := (hH2 _ (by (repeat constructor))).tail; clear hH2) | (refine S0T ?_; clear hH; rintro _ w hH) )) | ((first | refine CT ?_ | (refine DT ?_ ?_ <;> intro hc <;> try (exfalso; omega))) <;> repeat' refine CT ?_) | (first | (refine DSK ?_; clear hA a; intro a hA) | (first | (refine DLT ?_; clear hA hH; rintro _ w ⟨oN, rfl, hH⟩; refine ⟨STT, ?_⟩; intro a hA) | (refine DAT ?_; clear hA; rintro _ w ⟨oN, cN, rfl, hH2⟩; clear hH; have hH := (hH2 _ (by (repeat constructor))).tail; clear hH2; refine ⟨STT, ?_⟩; intro a hA))) )
  (refine dr_op3 hA rfl rfl rfl (by decide) (op_call rfl rfl rfl (dwrite_f hH hok rfl)) ?_; clear hA hH; rintro _ w ⟨rfl, hH⟩; intro a hA)
  repeat' (first | (first | (refine GT ?_ ?_ <;> intro hg <;> clear hA a <;> intro a hA <;> (first | exact FA | replace hg := of_decide_eq_true hg | replace hg := of_decide_eq_false hg | skip)) | (refine QT ?_; clear hA a; intro a hA) | (first | (refine BT ?_; clear hA hH; rintro _ w ⟨bN, rfl, hH⟩ a hA) | (refine LT ?_; clear hA hH; rintro _ w ⟨oN, rfl, hH⟩ a hA) | (refine AT ?_; clear hA; rintro _ w ⟨oN, cN, rfl, hH2⟩ a hA; clear hH; have hH := (hH2 _ (by (repeat constructor))).tail; clear hH2) | (refine S0T ?_; clear hH; rintro _ w hH) )) | ((first | refine CT ?_ | (refine DT ?_ ?_ <;> intro hc <;> try (exfalso; omega))) <;> repeat' refine CT ?_) | (first | (refine DSK ?_; clear hA a; intro a hA) | (first | (refine DLT ?_; clear hA hH; rintro _ w ⟨oN, rfl, hH⟩; refine ⟨STT, ?_⟩; intro a hA) | (refine DAT ?_; clear hA; rintro _ w ⟨oN, cN, rfl, hH2⟩; clear hH; have hH := (hH2 _ (by (repeat constructor))).tail; clear hH2; refine ⟨STT, ?_⟩; intro a hA))) )
  exact rt1 (.inl rfl) rfl hA rfl ⟨rfl, sd_shut (g := (writeS g (atA g.s.L x : Nat) i y).2) bd b2 hH⟩
section
variable {w0 w : World} {M : Nat → Prop} {H : List It} {bm N : Nat} {g : SS}
theorem dsset_f {x i y : Int} (hH : HS w0 M (sdI bm N g :: H) w) (hok : GOk N g.s) (hU : U x) :
    Ret Try.prog 15 #[.pointer (some (bat bm 0)), .int .u64 x, .int .i64 i, .int .u64 y] w (fun v w' => v = .int .i64 (writeS g (atA g.s.L x : Nat) i y).1 ∧ HS w0 M (sdI bm N (writeS g (atA g.s.L x : Nat) i y).2 :: H) w') := by
  obtain ⟨Mc, h1, -, h2⟩ := HS.frame (Hc := [sdI bm N g]) (Hf := H) hH
  exact (dsset_spec w Mc bm N g x i y hok hU h1).mono fun v w' ⟨h3, h4⟩ => ⟨h3, h2 _ _ h4⟩
theorem dsalloc_f {k z : Int} {roots : List Int} {oR : Option Addr} {cR : Nat} (hH : HS w0 M (sdI bm N g :: H) w) (hok : GOk N g.s) (hcy : g.cy ≤ 1000000) (hU : ∀ x ∈ roots, U x) (hl : roots.length ≤ 140737488355328) (hrd : ∀ Hc w', HS w0 M (Hc ++ H) w' → Rd w' oR (flat encW roots)) :
    Ret Try.prog 13 #[.pointer (some (bat bm 0)), .int .i64 k, .int .i64 z, .slice oR roots.length cR] w (fun v w' => v = .tuple #[.int .u64 (allocS N g k z roots).1, .int .i64 (allocS N g k z roots).2.1] ∧ HS w0 M (sdI bm N (allocS N g k z roots).2.2 :: H) w') := by
  obtain ⟨Mc, h1, -, h2⟩ := HS.frame (Hc := [sdI bm N g]) (Hf := H) hH
  exact (dsalloc_spec w Mc bm N g k z roots oR cR hok hcy hU hl (fun H' w' hw => hrd _ _ (h2 _ _ hw)) h1).mono fun v w' ⟨h3, h4⟩ => ⟨h3, h2 _ _ h4⟩
theorem dspick_f {roots : List Int} {oR : Option Addr} {cR : Nat} (hH : HS w0 M (sdI bm N g :: H) w) (hok : GOk N g.s) (hcy : g.cy ≤ 1000000) (hU : ∀ x ∈ roots, U x) (hl : roots.length ≤ 140737488355328) (hrd : ∀ Hc w', HS w0 M (Hc ++ H) w' → Rd w' oR (flat encW roots)) :
    Ret Try.prog 19 #[.pointer (some (bat bm 0)), .slice oR roots.length cR] w (fun v w' => HS w0 M (sdI bm N (pickS g roots) :: H) w') := by
  obtain ⟨Mc, h1, -, h2⟩ := HS.frame (Hc := [sdI bm N g]) (Hf := H) hH
  exact (dspick_spec w Mc bm N g roots oR cR hok hcy hU hl (fun H' w' hw => hrd _ _ (h2 _ _ hw)) h1).mono fun v w' h4 => h2 _ _ h4
end
end Go.Proofs.Ytdfhajdejlhamaa
namespace Go.Proofs.Ytdfhajdejlhamaa
open Go Go.Fw
set_option linter.unusedVariables false
theorem half_num {x : Int} (h : U x) : numV x = if 4611686018427387903 < x / 2 then x / 2 - 9223372036854775808 else x / 2 := by
  obtain ⟨h1, h2⟩ := h
  unfold numV
  have e : IntKind.i64.wrap x = if 9223372036854775808 ≤ x then x - 18446744073709551616 else x := by
    split
    · have : IntKind.i64.wrap x = IntKind.i64.wrap (x - 18446744073709551616) := by
        show _ = _
        unfold IntKind.wrap
        simp [IntKind.bits, IntKind.signed]
      rw [this]
      exact wrap_i64 ⟨by omega, by omega⟩
    · exact wrap_i64 ⟨by omega, by omega⟩
  rw [e, Int.fdiv_eq_ediv_of_nonneg _ (by decide)]
  split <;> split <;> omega
/-- what a document's store's calls look at -/
structure SdR (w : World) (bm bd b2 N : Nat) (L : List Ob) (q : RQ) : Prop where
  m : w.cell? (bat bm 0) = some (.pointer (some (bat bd 0)))
  d : w.cell? (bat bd 0) = some (.pointer (some (bat b2 0)))
  q : RfQ w b2 N L q
theorem SdR.keep {w w' : World} {bm bd b2 N : Nat} {L : List Ob} {q : RQ} (h : SdR w bm bd b2 N L q) (hk : Kp w noM w') : SdR w' bm bd b2 N L q := by
  have hH : HS w noM [] w' := (HS.init w noM).keep hk
  exact ⟨hH.cellw h.m id, hH.cellw h.d id, h.q.keep hk⟩
/-- what an object tells: its cells -/
def obV (L : List Ob) (ds : List Sd) (i : Int) : List Value :=
  if i < 0 then [.int .i64 0, .int .i64 0, .slice none 0 0] else
  match L[i.toNat]?, ds[i.toNat]? with
  | some o, some d => encO (o, d)
  | _, _ => [.int .i64 0, .int .i64 0, .slice none 0 0]
theorem obV_no {L : List Ob} {ds : List Sd} {i : Int} (h : i < 0) : obV L ds i = [.int .i64 0, .int .i64 0, .slice none 0 0] := if_pos h
theorem obV_at {L : List Ob} {ds : List Sd} {j : Nat} {o : Ob} {d : Sd} (h : L[j]? = some o) (hd : ds[j]? = some d) : obV L ds (j : Int) = encO (o, d) := by
  unfold obV
  rw [if_neg (by omega), Int.toNat_natCast, h, hd]
set_option maxRecDepth 10000 attribute [local irreducible] Code.wp wpList Calls Ex Op1 sat bat blk cb own Go.Fw.mp Go.Fw.mpO Go.Fw.mpI Go.Fw.mpE Go.Fw.itr HS Rd Ret wkD Hp Cl Cls Exit.then Exit.inBlock Exit.noGoto bodyPost Go.Fw.flat wk2 Go.Fw.all Go.Fw.owns wpOp
attribute [local irreducible] hdA gaps isA nextA allocA freeA sizeA kindA setA getA whiteZ numW addrW shadeG gcI hpI stepG beginG writeG allocG mu atA endS finG rfI gdI AtT allocS tryS reachA numV findI obV

theorem rnum_spec (w0 : World) (x : Int) (hU : U x) : Ret Try.prog 87 #[.int .u64 x] w0 (fun v w => v = .int .i64 (numV x) ∧ Kp w0 noM w) := by
  have hH : HS w0 noM [] w0 := HS.init w0 noM
  have h1 := hU.1
  have h2 := hU.2
  have hq : IntKind.u64.wrap (x.tdiv 2) = x / 2 := by
    rw [Int.tdiv_eq_ediv_of_nonneg h1, u64_mod, Int.emod_eq_of_lt (by omega) (by omega)]
  have hn := half_num hU
  (refine enter (N := 15) Try.func87 rfl Try.ntmps87 rfl ?_; intro a hA; dsimp only [sl0, Nat.reduceAdd] at hA)
  by_cases hb : 4611686018427387903 < x / 2
  · rw [if_pos hb] at hn
    have e1 : IntKind.u64.wrap (x / 2 - 4611686018427387903) = x / 2 - 4611686018427387903 := by rw [u64_mod, Int.emod_eq_of_lt (by omega) (by omega)]
    have e2 : IntKind.i64.wrap (x / 2 - 4611686018427387903) = x / 2 - 4611686018427387903 := wrap_i64 ⟨by omega, by omega⟩
    have e3 : IntKind.i64.wrap (x / 2 - 4611686018427387903 - 1) = x / 2 - 4611686018427387904 := by rw [show x / 2 - 4611686018427387903 - 1 = x / 2 - 4611686018427387904 by omega]; exact wrap_i64 ⟨by omega, by omega⟩
    have e4 : IntKind.i64.wrap (x / 2 - 4611686018427387904 + (-4611686018427387904)) = numV x := by rw [hn, show x / 2 - 4611686018427387904 + (-4611686018427387904) = x / 2 - 9223372036854775808 by omega]; exact wrap_i64 ⟨by omega, by omega⟩
    repeat' (first | (first | (refine GT ?_ ?_ <;> intro hg <;> clear hA a <;> intro a hA <;> (first | exact FA | replace hg := of_decide_eq_true hg | replace hg := of_decide_eq_false hg | skip)) | (refine QT ?_; clear hA a; intro a hA) | (first | (refine BT ?_; clear hA hH; rintro _ w ⟨bN, rfl, hH⟩ a hA) | (refine LT ?_; clear hA hH; rintro _ w ⟨oN, rfl, hH⟩ a hA) | (refine AT ?_; clear hA; rintro _ w ⟨oN, cN, rfl, hH2⟩ a hA; clear hH; have hH := (hH2 _ (by (repeat constructor))).tail; clear hH2) | (refine S0T ?_; clear hH; rintro _ w hH) )) | ((first | refine CT ?_ | (refine DT ?_ ?_ <;> intro hc <;> try (exfalso; omega))) <;> repeat' refine CT ?_) | (first | (refine DSK ?_; clear hA a; intro a hA) | (first | (refine DLT ?_; clear hA hH; rintro _ w ⟨oN, rfl, hH⟩; refine ⟨STT, ?_⟩; intro a hA) | (refine DAT ?_; clear hA; rintro _ w ⟨oN, cN, rfl, hH2⟩; clear hH; have hH := (hH2 _ (by (repeat constructor))).tail; clear hH2; refine ⟨STT, ?_⟩; intro a hA))) )
    rw [hq] at hA
    repeat' (first | (first | (refine GT ?_ ?_ <;> intro hg <;> clear hA a <;> intro a hA <;> (first | exact FA | replace hg := of_decide_eq_true hg | replace hg := of_decide_eq_false hg | skip)) | ((first | apply st_ex hA hH rfl rfl (by decide) | apply dr_ex hA rfl rfl rfl (by decide) | apply dr_exp hA rfl rfl rfl (by decide) | apply dr_ex3 hA hH rfl rfl rfl (by decide)); (first | (apply ex_subK (v := x / 2 - 4611686018427387903); rfl; rfl; exact e1) | (apply ex_convert (v := x / 2 - 4611686018427387903); rfl; exact e2) | (apply ex_subK (v := x / 2 - 4611686018427387904); rfl; rfl; exact e3) | (apply ex_addK (v := numV x); rfl; rfl; exact e4)); clear hA a; intro a hA) | (refine QT ?_; clear hA a; intro a hA) | (first | (refine BT ?_; clear hA hH; rintro _ w ⟨bN, rfl, hH⟩ a hA) | (refine LT ?_; clear hA hH; rintro _ w ⟨oN, rfl, hH⟩ a hA) | (refine AT ?_; clear hA; rintro _ w ⟨oN, cN, rfl, hH2⟩ a hA; clear hH; have hH := (hH2 _ (by (repeat constructor))).tail; clear hH2) | (refine S0T ?_; clear hH; rintro _ w hH) )) | ((first | refine CT ?_ | (refine DT ?_ ?_ <;> intro hc <;> try (exfalso; omega))) <;> repeat' refine CT ?_) | (first | (refine DSK ?_; clear hA a; intro a hA) | (first | (refine DLT ?_; clear hA hH; rintro _ w ⟨oN, rfl, hH⟩; refine ⟨STT, ?_⟩; intro a hA) | (refine DAT ?_; clear hA; rintro _ w ⟨oN, cN, rfl, hH2⟩; clear hH; have hH := (hH2 _ (by (repeat constructor))).tail; clear hH2; refine ⟨STT, ?_⟩; intro a hA))) )
    exact rt1 (.inl rfl) rfl hA rfl ⟨rfl, hH.kp⟩
  · rw [if_neg hb] at hn
    have e2 : IntKind.i64.wrap (x / 2) = numV x := by rw [hn]; exact wrap_i64 ⟨by omega, by omega⟩
    repeat' (first | (first | (refine GT ?_ ?_ <;> intro hg <;> clear hA a <;> intro a hA <;> (first | exact FA | replace hg := of_decide_eq_true hg | replace hg := of_decide_eq_false hg | skip)) | (refine QT ?_; clear hA a; intro a hA) | (first | (refine BT ?_; clear hA hH; rintro _ w ⟨bN, rfl, hH⟩ a hA) | (refine LT ?_; clear hA hH; rintro _ w ⟨oN, rfl, hH⟩ a hA) | (refine AT ?_; clear hA; rintro _ w ⟨oN, cN, rfl, hH2⟩ a hA; clear hH; have hH := (hH2 _ (by (repeat constructor))).tail; clear hH2) | (refine S0T ?_; clear hH; rintro _ w hH) )) | ((first | refine CT ?_ | (refine DT ?_ ?_ <;> intro hc <;> try (exfalso; omega))) <;> repeat' refine CT ?_) | (first | (refine DSK ?_; clear hA a; intro a hA) | (first | (refine DLT ?_; clear hA hH; rintro _ w ⟨oN, rfl, hH⟩; refine ⟨STT, ?_⟩; intro a hA) | (refine DAT ?_; clear hA; rintro _ w ⟨oN, cN, rfl, hH2⟩; clear hH; have hH := (hH2 _ (by (repeat constructor))).tail; clear hH2; refine ⟨STT, ?_⟩; intro a hA))) )
    rw [hq] at hA
    repeat' (first | (first | (refine GT ?_ ?_ <;> intro hg <;> clear hA a <;> intro a hA <;> (first | exact FA | replace hg := of_decide_eq_true hg | replace hg := of_decide_eq_false hg | skip)) | ((first | apply st_ex hA hH rfl rfl (by decide) | apply dr_ex hA rfl rfl rfl (by decide) | apply dr_exp hA rfl rfl rfl (by decide) | apply dr_ex3 hA hH rfl rfl rfl (by decide)); (first | (apply ex_convert (v := numV x); rfl; exact e2)); clear hA a; intro a hA) | (refine QT ?_; clear hA a; intro a hA) | (first | (refine BT ?_; clear hA hH; rintro _ w ⟨bN, rfl, hH⟩ a hA) | (refine LT ?_; clear hA hH; rintro _ w ⟨oN, rfl, hH⟩ a hA) | (refine AT ?_; clear hA; rintro _ w ⟨oN, cN, rfl, hH2⟩ a hA; clear hH; have hH := (hH2 _ (by (repeat constructor))).tail; clear hH2) | (refine S0T ?_; clear hH; rintro _ w hH) )) | ((first | refine CT ?_ | (refine DT ?_ ?_ <;> intro hc <;> try (exfalso; omega))) <;> repeat' refine CT ?_) | (first | (refine DSK ?_; clear hA a; intro a hA) | (first | (refine DLT ?_; clear hA hH; rintro _ w ⟨oN, rfl, hH⟩; refine ⟨STT, ?_⟩; intro a hA) | (refine DAT ?_; clear hA; rintro _ w ⟨oN, cN, rfl, hH2⟩; clear hH; have hH := (hH2 _ (by (repeat constructor))).tail; clear hH2; refine ⟨STT, ?_⟩; intro a hA))) )
    exact rt1 (.inl rfl) rfl hA rfl ⟨rfl, hH.kp⟩

theorem rwrap_spec (w0 : World) (n : Nat) (h : n ≤ 1000000) : Ret Try.prog 98 #[.int .i64 (n : Int)] w0 (fun v w => v = .int .i64 (n : Int) ∧ Kp w0 noM w) := by
  have hH : HS w0 noM [] w0 := HS.init w0 noM
  (refine enter (N := 16) Try.func98 rfl Try.ntmps98 rfl ?_; intro a hA; dsimp only [sl0, Nat.reduceAdd] at hA)
  repeat' (first | (first | (refine GT ?_ ?_ <;> intro hg <;> clear hA a <;> intro a hA <;> (first | exact FA | replace hg := of_decide_eq_true hg | replace hg := of_decide_eq_false hg | skip)) | (refine QT ?_; clear hA a; intro a hA) | (first | (refine BT ?_; clear hA hH; rintro _ w ⟨bN, rfl, hH⟩ a hA) | (refine LT ?_; clear hA hH; rintro _ w ⟨oN, rfl, hH⟩ a hA) | (refine AT ?_; clear hA; rintro _ w ⟨oN, cN, rfl, hH2⟩ a hA; clear hH; have hH := (hH2 _ (by (repeat constructor))).tail; clear hH2) | (refine S0T ?_; clear hH; rintro _ w hH) )) | ((first | refine CT ?_ | (refine DT ?_ ?_ <;> intro hc <;> try (exfalso; omega))) <;> repeat' refine CT ?_) | (first | (refine DSK ?_; clear hA a; intro a hA) | (first | (refine DLT ?_; clear hA hH; rintro _ w ⟨oN, rfl, hH⟩; refine ⟨STT, ?_⟩; intro a hA) | (refine DAT ?_; clear hA; rintro _ w ⟨oN, cN, rfl, hH2⟩; clear hH; have hH := (hH2 _ (by (repeat constructor))).tail; clear hH2; refine ⟨STT, ?_⟩; intro a hA))) )
  exact rt1 (.inl rfl) rfl hA rfl ⟨rfl, hH.kp⟩
theorem rofn_spec (w0 : World) (n : Nat) (h : n ≤ 1000000) : Ret Try.prog 86 #[.int .i64 (n : Int)] w0 (fun v w => v = .int .u64 (2 * (n : Int) + 1) ∧ Kp w0 noM w) := by
  have hH : HS w0 noM [] w0 := HS.init w0 noM
  have e1 : IntKind.u64.wrap (n : Int) = (n : Int) := by rw [u64_mod, Int.emod_eq_of_lt (by omega) (by omega)]
  have e2 : IntKind.u64.wrap ((n : Int) * 2) = 2 * (n : Int) := by rw [u64_mod, Int.emod_eq_of_lt (by omega) (by omega)]; omega
  have e3 : IntKind.u64.wrap (2 * (n : Int) + 1) = 2 * (n : Int) + 1 := by rw [u64_mod, Int.emod_eq_of_lt (by omega) (by omega)]
  (refine enter (N := 8) Try.func86 rfl Try.ntmps86 rfl ?_; intro a hA; dsimp only [sl0, Nat.reduceAdd] at hA)
  repeat' (first | (first | (refine GT ?_ ?_ <;> intro hg <;> clear hA a <;> intro a hA <;> (first | exact FA | replace hg := of_decide_eq_true hg | replace hg := of_decide_eq_false hg | skip)) | (refine QT ?_; clear hA a; intro a hA) | (first | (refine BT ?_; clear hA hH; rintro _ w ⟨bN, rfl, hH⟩ a hA) | (refine LT ?_; clear hA hH; rintro _ w ⟨oN, rfl, hH⟩ a hA) | (refine AT ?_; clear hA; rintro _ w ⟨oN, cN, rfl, hH2⟩ a hA; clear hH; have hH := (hH2 _ (by (repeat constructor))).tail; clear hH2) | (refine S0T ?_; clear hH; rintro _ w hH) )) | ((first | refine CT ?_ | (refine DT ?_ ?_ <;> intro hc <;> try (exfalso; omega))) <;> repeat' refine CT ?_) | (first | (refine DSK ?_; clear hA a; intro a hA) | (first | (refine DLT ?_; clear hA hH; rintro _ w ⟨oN, rfl, hH⟩; refine ⟨STT, ?_⟩; intro a hA) | (refine DAT ?_; clear hA; rintro _ w ⟨oN, cN, rfl, hH2⟩; clear hH; have hH := (hH2 _ (by (repeat constructor))).tail; clear hH2; refine ⟨STT, ?_⟩; intro a hA))) )
  (refine st_op hA rfl rfl (by decide) (op_call rfl rfl rfl (rwrap_spec _ n h)) ?_; clear hA; rintro _ w ⟨rfl, hk⟩ a hA; replace hH := hH.keep hk; clear hk)
  repeat' (first | (first | (refine GT ?_ ?_ <;> intro hg <;> clear hA a <;> intro a hA <;> (first | exact FA | replace hg := of_decide_eq_true hg | replace hg := of_decide_eq_false hg | skip)) | ((first | apply st_ex hA hH rfl rfl (by decide) | apply dr_ex hA rfl rfl rfl (by decide) | apply dr_exp hA rfl rfl rfl (by decide) | apply dr_ex3 hA hH rfl rfl rfl (by decide)); (first | (apply ex_convert (v := (n : Int)); rfl; exact e1) | (apply ex_mulK (v := 2 * (n : Int)); rfl; rfl; exact e2) | (apply ex_addK (v := 2 * (n : Int) + 1); rfl; rfl; exact e3)); clear hA a; intro a hA) | (refine QT ?_; clear hA a; intro a hA) | (first | (refine BT ?_; clear hA hH; rintro _ w ⟨bN, rfl, hH⟩ a hA) | (refine LT ?_; clear hA hH; rintro _ w ⟨oN, rfl, hH⟩ a hA) | (refine AT ?_; clear hA; rintro _ w ⟨oN, cN, rfl, hH2⟩ a hA; clear hH; have hH := (hH2 _ (by (repeat constructor))).tail; clear hH2) | (refine S0T ?_; clear hH; rintro _ w hH) )) | ((first | refine CT ?_ | (refine DT ?_ ?_ <;> intro hc <;> try (exfalso; omega))) <;> repeat' refine CT ?_) | (first | (refine DSK ?_; clear hA a; intro a hA) | (first | (refine DLT ?_; clear hA hH; rintro _ w ⟨oN, rfl, hH⟩; refine ⟨STT, ?_⟩; intro a hA) | (refine DAT ?_; clear hA; rintro _ w ⟨oN, cN, rfl, hH2⟩; clear hH; have hH := (hH2 _ (by (repeat constructor))).tail; clear hH2; refine ⟨STT, ?_⟩; intro a hA))) )
  exact rt1 (.inl rfl) rfl hA rfl ⟨rfl, hH.kp⟩

theorem dsget_spec (w0 : World) (M : Nat → Prop) (bm N : Nat) (g : SS) (x i : Int) (hok : GOk N g.s) (hU : U x) (hH : HS w0 M [sdI bm N g] w0) :
    Ret Try.prog 17 #[.pointer (some (bat bm 0)), .int .u64 x, .int .i64 i] w0 (fun v w => v = .tuple #[.int .u64 (getA g.s.L (atA g.s.L x : Nat) i).1, .int .i64 (getA g.s.L (atA g.s.L x : Nat) i).2] ∧ HS w0 M [sdI bm N g] w) := by
  obtain ⟨bd, b2, hH2⟩ := sd_open hH
  clear hH
  have hH : HS w0 M [gdI bd b2 g.s, rfI b2 N g.s.L, cb bm 51 [.pointer (some (bat bd 0)), .int .i64 g.cy]] w0 := hH2
  clear hH2
  (refine enter (N := 33) Try.func17 rfl Try.ntmps17 rfl ?_; intro a hA; dsimp only [sl0, Nat.reduceAdd] at hA)
  repeat' (first | (first | (refine GT ?_ ?_ <;> intro hg <;> clear hA a <;> intro a hA <;> (first | exact FA | replace hg := of_decide_eq_true hg | replace hg := of_decide_eq_false hg | skip)) | (refine QT ?_; clear hA a; intro a hA) | (first | (refine BT ?_; clear hA hH; rintro _ w ⟨bN, rfl, hH⟩ a hA) | (refine LT ?_; clear hA hH; rintro _ w ⟨oN, rfl, hH⟩ a hA) | (refine AT ?_; clear hA; rintro _ w ⟨oN, cN, rfl, hH2⟩ a hA; clear hH; have hH := (hH2 _ (by (repeat constructor))).tail; clear hH2) | (refine S0T ?_; clear hH; rintro _ w hH) )) | ((first | refine CT ?_ | (refine DT ?_ ?_ <;> intro hc <;> try (exfalso; omega))) <;> repeat' refine CT ?_) | (first | (refine DSK ?_; clear hA a; intro a hA) | (first | (refine DLT ?_; clear hA hH; rintro _ w ⟨oN, rfl, hH⟩; refine ⟨STT, ?_⟩; intro a hA) | (refine DAT ?_; clear hA; rintro _ w ⟨oN, cN, rfl, hH2⟩; clear hH; have hH := (hH2 _ (by (repeat constructor))).tail; clear hH2; refine ⟨STT, ?_⟩; intro a hA))) )
  (refine wp_draw_HS [(0, 1), (1, 1), (2, 1), (3, 1), (4, 1), (5, 1), (6, 1), (7, 1), (8, 1), (9, 1), (10, 1), (11, 1), (12, 1), (13, 1), (14, 1), (16, 1), (15, 0), (17, 0), (18, 1), (19, 1), (20, 1), (21, 1), (22, 1)] mixed (by decide +kernel) hH ?_; replace hH := hH.drew)
  repeat' (first | (first | (refine GT ?_ ?_ <;> intro hg <;> clear hA a <;> intro a hA <;> (first | exact FA | replace hg := of_decide_eq_true hg | replace hg := of_decide_eq_false hg | skip)) | ((first | apply st_ex hA hH rfl rfl (by decide) | apply dr_ex hA rfl rfl rfl (by decide) | apply dr_exp hA rfl rfl rfl (by decide) | apply dr_ex3 hA hH rfl rfl rfl (by decide)); (first | (apply ex_load; rfl; exact dcl_h MEMT) | (apply ex_load; rfl; exact dcl_p MEMT)); clear hA a; intro a hA) | (refine QT ?_; clear hA a; intro a hA) | (first | (refine BT ?_; clear hA hH; rintro _ w ⟨bN, rfl, hH⟩ a hA) | (refine LT ?_; clear hA hH; rintro _ w ⟨oN, rfl, hH⟩ a hA) | (refine AT ?_; clear hA; rintro _ w ⟨oN, cN, rfl, hH2⟩ a hA; clear hH; have hH := (hH2 _ (by (repeat constructor))).tail; clear hH2) | (refine S0T ?_; clear hH; rintro _ w hH) )) | ((first | refine CT ?_ | (refine DT ?_ ?_ <;> intro hc <;> try (exfalso; omega))) <;> repeat' refine CT ?_) | (first | (refine DSK ?_; clear hA a; intro a hA) | (first | (refine DLT ?_; clear hA hH; rintro _ w ⟨oN, rfl, hH⟩; refine ⟨STT, ?_⟩; intro a hA) | (refine DAT ?_; clear hA; rintro _ w ⟨oN, cN, rfl, hH2⟩; clear hH; have hH := (hH2 _ (by (repeat constructor))).tail; clear hH2; refine ⟨STT, ?_⟩; intro a hA))) )
  (refine dr_op hA rfl rfl rfl (by decide) (op_call rfl rfl rfl (reaches_spec _ b2 N g.s.L x hU (Ok.len ⟨hok.n2, hok.lay, hok.kd⟩) (rf_readM hH (by exact MEMT)))) ?_; clear hA; rintro _ w ⟨rfl, hk⟩; replace hH := hH.keep hk; clear hk; refine ⟨STT, ?_⟩; intro a hA)
  rw [reach_at] at hA
  repeat' (first | (first | (refine GT ?_ ?_ <;> intro hg <;> clear hA a <;> intro a hA <;> (first | exact FA | replace hg := of_decide_eq_true hg | replace hg := of_decide_eq_false hg | skip)) | (refine QT ?_; clear hA a; intro a hA) | (first | (refine BT ?_; clear hA hH; rintro _ w ⟨bN, rfl, hH⟩ a hA) | (refine LT ?_; clear hA hH; rintro _ w ⟨oN, rfl, hH⟩ a hA) | (refine AT ?_; clear hA; rintro _ w ⟨oN, cN, rfl, hH2⟩ a hA; clear hH; have hH := (hH2 _ (by (repeat constructor))).tail; clear hH2) | (refine S0T ?_; clear hH; rintro _ w hH) )) | ((first | refine CT ?_ | (refine DT ?_ ?_ <;> intro hc <;> try (exfalso; omega))) <;> repeat' refine CT ?_) | (first | (refine DSK ?_; clear hA a; intro a hA) | (first | (refine DLT ?_; clear hA hH; rintro _ w ⟨oN, rfl, hH⟩; refine ⟨STT, ?_⟩; intro a hA) | (refine DAT ?_; clear hA; rintro _ w ⟨oN, cN, rfl, hH2⟩; clear hH; have hH := (hH2 _ (by (repeat constructor))).tail; clear hH2; refine ⟨STT, ?_⟩; intro a hA))) )
  (refine dr_op hA rfl rfl rfl (by decide) (op_call rfl rfl rfl (rget_f hH (by exact MEMT) ⟨hok.n2, hok.lay, hok.kd⟩)) ?_; clear hA hH; rintro _ w ⟨rfl, hH⟩; refine ⟨STT, ?_⟩; intro a hA)
  repeat' (first | (first | (refine GT ?_ ?_ <;> intro hg <;> clear hA a <;> intro a hA <;> (first | exact FA | replace hg := of_decide_eq_true hg | replace hg := of_decide_eq_false hg | skip)) | (refine QT ?_; clear hA a; intro a hA) | (first | (refine BT ?_; clear hA hH; rintro _ w ⟨bN, rfl, hH⟩ a hA) | (refine LT ?_; clear hA hH; rintro _ w ⟨oN, rfl, hH⟩ a hA) | (refine AT ?_; clear hA; rintro _ w ⟨oN, cN, rfl, hH2⟩ a hA; clear hH; have hH := (hH2 _ (by (repeat constructor))).tail; clear hH2) | (refine S0T ?_; clear hH; rintro _ w hH) )) | ((first | refine CT ?_ | (refine DT ?_ ?_ <;> intro hc <;> try (exfalso; omega))) <;> repeat' refine CT ?_) | (first | (refine DSK ?_; clear hA a; intro a hA) | (first | (refine DLT ?_; clear hA hH; rintro _ w ⟨oN, rfl, hH⟩; refine ⟨STT, ?_⟩; intro a hA) | (refine DAT ?_; clear hA; rintro _ w ⟨oN, cN, rfl, hH2⟩; clear hH; have hH := (hH2 _ (by (repeat constructor))).tail; clear hH2; refine ⟨STT, ?_⟩; intro a hA))) )
  exact rt2 (.inl rfl) rfl hA rfl rfl ⟨rfl, sd_shut bd b2 hH⟩

set_option maxHeartbeats 4000000 in
theorem object_spec (w0 : World) (bm bd b2 N : Nat) (L : List Ob) (q : RQ) (x : Int) (hL : L.length ≤ 65536) (hU : U x) (hR : SdR w0 bm bd b2 N L q) :
    Ret Try.prog 60 #[.pointer (some (bat bm 0)), .int .u64 x] w0 (fun v w => v = .tuple #[.agg (obV L q.ds (findI L (atA L x : Nat))).toArray, .bool (!decide (findI L (atA L x : Nat) < 0))] ∧ Kp w0 noM w) := by
  have hH : HS w0 noM [] w0 := HS.init w0 noM
  have hc1 := hR.m
  have hc2 := hR.d
  have hc3 := hR.q.c1
  have hsp := hR.q.sp
  have hrO := hR.q.rO
  (refine enter (N := 40) Try.func60 rfl Try.ntmps60 rfl ?_; intro a hA; dsimp only [sl0, Nat.reduceAdd] at hA)
  repeat' (first | (first | (refine GT ?_ ?_ <;> intro hg <;> clear hA a <;> intro a hA <;> (first | exact FA | replace hg := of_decide_eq_true hg | replace hg := of_decide_eq_false hg | skip)) | (refine QT ?_; clear hA a; intro a hA) | (first | (refine BT ?_; clear hA hH; rintro _ w ⟨bN, rfl, hH⟩ a hA) | (refine LT ?_; clear hA hH; rintro _ w ⟨oN, rfl, hH⟩ a hA) | (refine AT ?_; clear hA; rintro _ w ⟨oN, cN, rfl, hH2⟩ a hA; clear hH; have hH := (hH2 _ (by (repeat constructor))).tail; clear hH2) | (refine S0T ?_; clear hH; rintro _ w hH) )) | ((first | refine CT ?_ | (refine DT ?_ ?_ <;> intro hc <;> try (exfalso; omega))) <;> repeat' refine CT ?_) | (first | (refine DSK ?_; clear hA a; intro a hA) | (first | (refine DLT ?_; clear hA hH; rintro _ w ⟨oN, rfl, hH⟩; refine ⟨STT, ?_⟩; intro a hA) | (refine DAT ?_; clear hA; rintro _ w ⟨oN, cN, rfl, hH2⟩; clear hH; have hH := (hH2 _ (by (repeat constructor))).tail; clear hH2; refine ⟨STT, ?_⟩; intro a hA))) )
  (refine wp_draw_HS [(0, 1), (1, 1), (2, 1), (3, 1), (4, 1), (5, 1), (6, 1), (7, 1), (8, 1), (9, 1), (10, 1), (11, 1), (12, 1), (13, 1), (14, 1), (15, 0), (16, 0), (17, 1)] mixed (by decide +kernel) hH ?_; replace hH := hH.drew)
  repeat' (first | (first | (refine GT ?_ ?_ <;> intro hg <;> clear hA a <;> intro a hA <;> (first | exact FA | replace hg := of_decide_eq_true hg | replace hg := of_decide_eq_false hg | skip)) | (refine QT ?_; clear hA a; intro a hA) | (first | (refine BT ?_; clear hA hH; rintro _ w ⟨bN, rfl, hH⟩ a hA) | (refine LT ?_; clear hA hH; rintro _ w ⟨oN, rfl, hH⟩ a hA) | (refine AT ?_; clear hA; rintro _ w ⟨oN, cN, rfl, hH2⟩ a hA; clear hH; have hH := (hH2 _ (by (repeat constructor))).tail; clear hH2) | (refine S0T ?_; clear hH; rintro _ w hH) )) | ((first | refine CT ?_ | (refine DT ?_ ?_ <;> intro hc <;> try (exfalso; omega))) <;> repeat' refine CT ?_) | (first | (refine DSK ?_; clear hA a; intro a hA) | (first | (refine DLT ?_; clear hA hH; rintro _ w ⟨oN, rfl, hH⟩; refine ⟨STT, ?_⟩; intro a hA) | (refine DAT ?_; clear hA; rintro _ w ⟨oN, cN, rfl, hH2⟩; clear hH; have hH := (hH2 _ (by (repeat constructor))).tail; clear hH2; refine ⟨STT, ?_⟩; intro a hA))) )
  (refine dr_op hA rfl rfl rfl (by decide) (op_call rfl rfl rfl (reaches_spec _ b2 N L x hU hL ⟨q, (hR.keep hH.kp).q⟩)) ?_; clear hA; rintro _ w ⟨rfl, hk⟩; replace hH := hH.keep hk; clear hk; refine ⟨STT, ?_⟩; intro a hA)
  rw [reach_at] at hA
  repeat' (first | (first | (refine GT ?_ ?_ <;> intro hg <;> clear hA a <;> intro a hA <;> (first | exact FA | replace hg := of_decide_eq_true hg | replace hg := of_decide_eq_false hg | skip)) | (refine QT ?_; clear hA a; intro a hA) | (first | (refine BT ?_; clear hA hH; rintro _ w ⟨bN, rfl, hH⟩ a hA) | (refine LT ?_; clear hA hH; rintro _ w ⟨oN, rfl, hH⟩ a hA) | (refine AT ?_; clear hA; rintro _ w ⟨oN, cN, rfl, hH2⟩ a hA; clear hH; have hH := (hH2 _ (by (repeat constructor))).tail; clear hH2) | (refine S0T ?_; clear hH; rintro _ w hH) )) | ((first | refine CT ?_ | (refine DT ?_ ?_ <;> intro hc <;> try (exfalso; omega))) <;> repeat' refine CT ?_) | (first | (refine DSK ?_; clear hA a; intro a hA) | (first | (refine DLT ?_; clear hA hH; rintro _ w ⟨oN, rfl, hH⟩; refine ⟨STT, ?_⟩; intro a hA) | (refine DAT ?_; clear hA; rintro _ w ⟨oN, cN, rfl, hH2⟩; clear hH; have hH := (hH2 _ (by (repeat constructor))).tail; clear hH2; refine ⟨STT, ?_⟩; intro a hA))) )
  (refine dr_op hA rfl rfl rfl (by decide) (op_call rfl rfl rfl (rfind_spec _ b2 N L (atA L x : Nat) hL ⟨q, (hR.keep hH.kp).q⟩)) ?_; clear hA; rintro _ w ⟨rfl, hk⟩; replace hH := hH.keep hk; clear hk; refine ⟨STT, ?_⟩; intro a hA)
  rcases findI_obj L (atA L x : Nat) with ⟨h1, h2⟩ | ⟨i, o, h1, h2, h3⟩
  · rw [obV_no (by omega)]
    rw [h2] at hA ⊢
    repeat' (first | (first | (refine GT ?_ ?_ <;> intro hg <;> clear hA a <;> intro a hA <;> (first | exact FA | replace hg := of_decide_eq_true hg | replace hg := of_decide_eq_false hg | skip)) | ((first | apply st_ex hA hH rfl rfl (by decide) | apply dr_ex hA rfl rfl rfl (by decide) | apply dr_exp hA rfl rfl rfl (by decide) | apply dr_ex3 hA hH rfl rfl rfl (by decide)); (first | (apply ex_build_p #[.int .i64 0, .int .i64 0, .slice none 0 0]; rfl; (repeat (first | (intro _ h; exact absurd h (List.not_mem_nil)) | (refine List.forall_mem_cons.2 ⟨one_cell_of _ _, ?_⟩))); rfl)); clear hA a; intro a hA) | (refine QT ?_; clear hA a; intro a hA) | (first | (refine BT ?_; clear hA hH; rintro _ w ⟨bN, rfl, hH⟩ a hA) | (refine LT ?_; clear hA hH; rintro _ w ⟨oN, rfl, hH⟩ a hA) | (refine AT ?_; clear hA; rintro _ w ⟨oN, cN, rfl, hH2⟩ a hA; clear hH; have hH := (hH2 _ (by (repeat constructor))).tail; clear hH2) | (refine S0T ?_; clear hH; rintro _ w hH) | (apply st_op0 hA rfl rfl; apply op_store_agg (vs := [.int .i64 0, .int .i64 0, .slice none 0 0]); rfl; rfl; exact hH; (repeat constructor); (repeat rfl); clear hH; rintro _ w hH))) | ((first | refine CT ?_ | (refine DT ?_ ?_ <;> intro hc <;> try (exfalso; omega))) <;> repeat' refine CT ?_) | (first | (refine DSK ?_; clear hA a; intro a hA) | (first | (refine DLT ?_; clear hA hH; rintro _ w ⟨oN, rfl, hH⟩; refine ⟨STT, ?_⟩; intro a hA) | (refine DAT ?_; clear hA; rintro _ w ⟨oN, cN, rfl, hH2⟩; clear hH; have hH := (hH2 _ (by (repeat constructor))).tail; clear hH2; refine ⟨STT, ?_⟩; intro a hA))) )
    exact rt2c (vs := [.int .i64 0, .int .i64 0, .slice none 0 0]) (.inl rfl) rfl hA rfl rfl rfl hH (cls_cb_all (by exact MEMT)) ⟨rfl, hH.kp⟩
  · have hi := (List.getElem?_eq_some_iff.1 h3).1
    obtain ⟨d, hd⟩ : ∃ d, q.ds[i]? = some d := ⟨_, List.getElem?_eq_getElem (by have := hR.q.len; omega)⟩
    rw [h2] at hA ⊢
    rw [obV_at h3 hd]
    have hvs := flat_all encO_len (zip_at h3 hd)
    have hu : encO (o, d) = [.int .i64 o.a, .int .i64 o.kind, .slice d.1 d.2.1 d.2.2] := rfl
    rw [hu] at hvs ⊢
    repeat' (first | (first | (refine GT ?_ ?_ <;> intro hg <;> clear hA a <;> intro a hA <;> (first | exact FA | replace hg := of_decide_eq_true hg | replace hg := of_decide_eq_false hg | skip)) | ((first | apply st_ex hA hH rfl rfl (by decide) | apply dr_ex hA rfl rfl rfl (by decide) | apply dr_exp hA rfl rfl rfl (by decide) | apply dr_ex3 hA hH rfl rfl rfl (by decide)); (first | (apply ex_load_st (vs := [.int .i64 o.a, .int .i64 o.kind, .slice d.1 d.2.1 d.2.2]); rfl; rfl; exact cls_rd hrO id hvs)); clear hA a; intro a hA) | (refine QT ?_; clear hA a; intro a hA) | (first | (refine BT ?_; clear hA hH; rintro _ w ⟨bN, rfl, hH⟩ a hA) | (refine LT ?_; clear hA hH; rintro _ w ⟨oN, rfl, hH⟩ a hA) | (refine AT ?_; clear hA; rintro _ w ⟨oN, cN, rfl, hH2⟩ a hA; clear hH; have hH := (hH2 _ (by (repeat constructor))).tail; clear hH2) | (refine S0T ?_; clear hH; rintro _ w hH) | (apply st_op0 hA rfl rfl; apply op_store_agg (vs := [.int .i64 o.a, .int .i64 o.kind, .slice d.1 d.2.1 d.2.2]); rfl; rfl; exact hH; (repeat constructor); (repeat rfl); clear hH; rintro _ w hH))) | ((first | refine CT ?_ | (refine DT ?_ ?_ <;> intro hc <;> try (exfalso; omega))) <;> repeat' refine CT ?_) | (first | (refine DSK ?_; clear hA a; intro a hA) | (first | (refine DLT ?_; clear hA hH; rintro _ w ⟨oN, rfl, hH⟩; refine ⟨STT, ?_⟩; intro a hA) | (refine DAT ?_; clear hA; rintro _ w ⟨oN, cN, rfl, hH2⟩; clear hH; have hH := (hH2 _ (by (repeat constructor))).tail; clear hH2; refine ⟨STT, ?_⟩; intro a hA))) )
    exact rt2c (vs := [.int .i64 o.a, .int .i64 o.kind, .slice d.1 d.2.1 d.2.2]) (.inl rfl) rfl hA rfl rfl rfl hH (cls_cb_all (by exact MEMT)) ⟨by rw [decide_eq_false (by omega)]; rfl, hH.kp⟩
end Go.Proofs.Ytdfhajdejlhamaa
namespace Go.Proofs.Ytdfhajdejlhamaa
open Go Go.Fw
set_option linter.unusedVariables false
/-- fields set, one behind the other -/
def setF (g : SS) (x : Int) : Nat → List Int → SS
  | _, [] => g
  | i, y :: ys => setF (writeS g (atA g.s.L x : Nat) i y).2 x (i + 1) ys
theorem setF_snoc : ∀ (l : List Int) (g : SS) (x : Int) (i : Nat) (y : Int), setF g x i (l ++ [y]) = (writeS (setF g x i l) (atA (setF g x i l).s.L x : Nat) (i + l.length : Nat) y).2
  | [], g, x, i, y => by simp [setF]
  | z :: l, g, x, i, y => by
    show setF (writeS g (atA g.s.L x : Nat) i z).2 x (i + 1) (l ++ [y]) = _
    rw [setF_snoc l]
    show (writeS (setF (writeS g (atA g.s.L x : Nat) i z).2 x (i + 1) l) _ (i + 1 + l.length : Nat) y).2 = (writeS (setF (writeS g (atA g.s.L x : Nat) i z).2 x (i + 1) l) _ (i + (l.length + 1) : Nat) y).2
    rw [show i + 1 + l.length = i + (l.length + 1) by omega]
    rfl
theorem setF_ok {N : Nat} {x : Int} : ∀ {l : List Int} {g : SS} {i : Nat}, GOk N g.s → (∀ y ∈ l, U y) → GOk N (setF g x i l).s
  | [], g, i, h, _ => h
  | y :: l, g, i, h, hU => setF_ok (l := l) (write_ok h _ _ (hU y (List.mem_cons_self ..))).1 fun z hz => hU z (List.mem_cons_of_mem _ hz)
theorem setF_cy {x : Int} : ∀ {l : List Int} {g : SS} {i : Nat}, (setF g x i l).cy = g.cy
  | [], g, i => rfl
  | y :: l, g, i => setF_cy (l := l)
theorem setF_one (g : SS) (x y : Int) : (writeS g (atA g.s.L x : Nat) 0 y).2 = setF g x 0 [y] := rfl
theorem setF_next {g : SS} {x y : Int} {l : List Int} {k : Nat} (h : l[k]? = some y) (hk : (l.take k).length = k) : (writeS (setF g x 0 (l.take k)) (atA (setF g x 0 (l.take k)).s.L x : Nat) (k : Nat) y).2 = setF g x 0 (l.take (k + 1)) := by
  rw [List.take_add_one, h]
  have := setF_snoc (l.take k) g x 0 y
  rw [hk, Nat.zero_add] at this
  exact this.symm
theorem txt_one (t : List Nat) : [2 * (t.length : Int) + 1] = (txt t).take 1 := rfl
theorem sp_bat (b n : Nat) : Sp (some (bat b 0)) n := fun _ => ⟨b, 0, rfl⟩
theorem chunk_z (l : List Nat) : chunk (l.take 0) = 0 := rfl
theorem rd_atB {w : World} {o : Option Addr} {xs : List Value} {j : Nat} {u : Value} (h : Rd w o xs) (hj : xs[j]? = some u) : w.cell? (sat o j) = some u := h.2 j u hj
theorem txt_U {t : List Nat} (h : ∀ b ∈ t, b < 256) (hl : t.length ≤ 100000) : ∀ y ∈ txt t, U y := fun y hy => by
  unfold txt at hy
  rcases List.mem_cons.1 hy with rfl | hy
  · unfold U; omega
  · obtain ⟨j, _, rfl⟩ := List.mem_map.1 hy
    have := wrd_U h j
    unfold U; omega
theorem take_chunk {l : List Nat} {k b : Nat} (h : l[k]? = some b) : chunk (l.take (k + 1)) = chunk (l.take k) + b * 256 ^ k := by
  have hk := (List.getElem?_eq_some_iff.1 h).1
  rw [List.take_add_one, h]
  have := chunk_snoc (l.take k) b
  rw [List.length_take, Nat.min_eq_left (by omega)] at this
  exact this
theorem wrd_is (t : List Nat) (j : Nat) : wrd t j = (chunk ((part t j).take (part t j).length) : Nat) := by rw [List.take_length]; rfl
theorem part_is (t : ByteArray) (j : Nat) : bts (t.extract (8 * j) (min (bts t).length (8 * j + 8))) = part (bts t) j := by
  rw [bts_extract]
  unfold part
  rw [List.drop_take]
  rcases Nat.lt_or_ge (bts t).length (8 * j + 8) with h | h
  · rw [Nat.min_eq_left (by omega), List.take_of_length_le (by simp), List.take_of_length_le (by simp; omega)]
  · rw [Nat.min_eq_right h, show 8 * j + 8 - 8 * j = 8 by omega]
def textS (N : Nat) (g : SS) (t : List Nat) (roots : List Int) : Int × Int × SS :=
  if 32760 < t.length then (0, 2, g) else
  if (allocS N g 1 (1 + nW t.length : Nat) roots).2.1 ≠ 0 then (0, (allocS N g 1 (1 + nW t.length : Nat) roots).2.1, (allocS N g 1 (1 + nW t.length : Nat) roots).2.2) else
  ((allocS N g 1 (1 + nW t.length : Nat) roots).1, 0, setF (allocS N g 1 (1 + nW t.length : Nat) roots).2.2 (allocS N g 1 (1 + nW t.length : Nat) roots).1 0 (txt t))
theorem allocS_U {N : Nat} {g : SS} (h : GOk N g.s) (k z : Int) (roots : List Int) : U (allocS N g k z roots).1 := by
  obtain ⟨g2, h1, -, h2⟩ := allocS_inv (P := fun _ => True) h trivial (fun _ _ _ => trivial) roots (fun _ _ _ => trivial) k z
  rw [h2]
  show U (if (allocG N g2.s k z).2.1 = 0 then 2 * (allocG N g2.s k z).1 else 0)
  split
  · rcases alloc_num h1 k z with h3 | ⟨h3, ad, h4, h5⟩
    · exact absurd (by assumption) h3
    · rw [h4]; unfold U; omega
  · unfold U; omega
theorem allocS_cy {N : Nat} {g : SS} {k z : Int} {roots : List Int} : (allocS N g k z roots).2.2.cy ≤ g.cy + 2 := by
  have h1 := endS_cy (N := N) (g := g)
  have h2 := endS_cy (N := N) (g := begS (endS N g) roots)
  have h3 : (begS (endS N g) roots).cy = (endS N g).cy := rfl
  unfold allocS
  split
  · show g.cy ≤ _; omega
  · split
    · show (endS N g).cy ≤ _; omega
    · show (endS N (begS (endS N g) roots)).cy ≤ _; omega
set_option maxRecDepth 10000 attribute [local irreducible] Code.wp wpList Calls Ex Op1 sat bat blk cb own Go.Fw.mp Go.Fw.mpO Go.Fw.mpI Go.Fw.mpE Go.Fw.itr HS Rd Ret wkD Hp Cl Cls Exit.then Exit.inBlock Exit.noGoto bodyPost Go.Fw.flat wk2 Go.Fw.all Go.Fw.owns wpOp
attribute [local irreducible] hdA gaps isA nextA allocA freeA sizeA kindA setA getA whiteZ numW addrW shadeG gcI hpI stepG beginG writeG allocG mu atA endS finG allocS setF txt wrd chunk bts orK shlK

set_option maxHeartbeats 4000000 in
theorem stext_spec (w0 : World) (M : Nat → Prop) (bs N : Nat) (g : SS) (t : ByteArray) (roots : List Int) (oR : Option Addr) (cR : Nat) (hok : GOk N g.s) (hcy : g.cy ≤ 1000000) (ht : (bts t).length ≤ 9223372036854775807) (hU : ∀ x ∈ roots, U x) (hl : roots.length ≤ 140737488355328) (hrd : ∀ H' w', HS w0 M H' w' → Rd w' oR (flat encW roots)) (hH : HS w0 M [stI bs N g] w0) :
    Ret Try.prog 20 #[.pointer (some (bat bs 0)), .string t, .slice oR roots.length cR] w0 (fun v w => v = .tuple #[.int .u64 (textS N g (bts t) roots).1, .int .i64 (textS N g (bts t) roots).2.1] ∧ HS w0 M [stI bs N (textS N g (bts t) roots).2.2] w) := by
  (refine enter (N := 74) Try.func20 rfl Try.ntmps20 rfl ?_; intro a hA; dsimp only [sl0, Nat.reduceAdd] at hA)
  unfold textS
  by_cases hlen : 32760 < (bts t).length
  · rw [if_pos hlen]
    repeat' (first | (first | (refine GT ?_ ?_ <;> intro hg <;> clear hA a <;> intro a hA <;> (first | exact FA | replace hg := of_decide_eq_true hg | replace hg := of_decide_eq_false hg | skip)) | ((first | apply st_ex hA hH rfl rfl (by decide) | apply dr_ex hA rfl rfl rfl (by decide) | apply dr_exp hA rfl rfl rfl (by decide) | apply dr_ex3 hA hH rfl rfl rfl (by decide)); (first | (apply ex_len_string; rfl)); clear hA a; intro a hA) | (refine QT ?_; clear hA a; intro a hA) | (first | (refine BT ?_; clear hA hH; rintro _ w ⟨bN, rfl, hH⟩ a hA) | (refine LT ?_; clear hA hH; rintro _ w ⟨oN, rfl, hH⟩ a hA) | (refine AT ?_; clear hA; rintro _ w ⟨oN, cN, rfl, hH2⟩ a hA; clear hH; have hH := (hH2 _ (by (repeat constructor))).tail; clear hH2) | (refine S0T ?_; clear hH; rintro _ w hH) )) | ((first | refine CT ?_ | (refine DT ?_ ?_ <;> intro hc <;> try (exfalso; omega))) <;> repeat' refine CT ?_) | (first | (refine DSK ?_; clear hA a; intro a hA) | (first | (refine DLT ?_; clear hA hH; rintro _ w ⟨oN, rfl, hH⟩; refine ⟨STT, ?_⟩; intro a hA) | (refine DAT ?_; clear hA; rintro _ w ⟨oN, cN, rfl, hH2⟩; clear hH; have hH := (hH2 _ (by (repeat constructor))).tail; clear hH2; refine ⟨STT, ?_⟩; intro a hA))) )
    exact rt2 (.inl rfl) rfl hA rfl rfl ⟨rfl, hH⟩
  rw [if_neg hlen]
  have hq : (((bts t).length : Int) + 7).tdiv 8 = (nW (bts t).length : Int) := by
    unfold nW
    rw [Int.tdiv_eq_ediv_of_nonneg (by omega)]
    omega
  repeat' (first | (first | (refine GT ?_ ?_ <;> intro hg <;> clear hA a <;> intro a hA <;> (first | exact FA | replace hg := of_decide_eq_true hg | replace hg := of_decide_eq_false hg | skip)) | ((first | apply st_ex hA hH rfl rfl (by decide) | apply dr_ex hA rfl rfl rfl (by decide) | apply dr_exp hA rfl rfl rfl (by decide) | apply dr_ex3 hA hH rfl rfl rfl (by decide)); (first | (apply ex_len_string; rfl)); clear hA a; intro a hA) | (refine QT ?_; clear hA a; intro a hA) | (first | (refine BT ?_; clear hA hH; rintro _ w ⟨bN, rfl, hH⟩ a hA) | (refine LT ?_; clear hA hH; rintro _ w ⟨oN, rfl, hH⟩ a hA) | (refine AT ?_; clear hA; rintro _ w ⟨oN, cN, rfl, hH2⟩ a hA; clear hH; have hH := (hH2 _ (by (repeat constructor))).tail; clear hH2) | (refine S0T ?_; clear hH; rintro _ w hH) )) | ((first | refine CT ?_ | (refine DT ?_ ?_ <;> intro hc <;> try (exfalso; omega))) <;> repeat' refine CT ?_) | (first | (refine DSK ?_; clear hA a; intro a hA) | (first | (refine DLT ?_; clear hA hH; rintro _ w ⟨oN, rfl, hH⟩; refine ⟨STT, ?_⟩; intro a hA) | (refine DAT ?_; clear hA; rintro _ w ⟨oN, cN, rfl, hH2⟩; clear hH; have hH := (hH2 _ (by (repeat constructor))).tail; clear hH2; refine ⟨STT, ?_⟩; intro a hA))) )
  have hq2 : IntKind.i64.wrap ((((bts t).length : Int) + 7).tdiv 8) = (nW (bts t).length : Int) := by
    rw [hq]
    refine wrap_i64 ⟨by omega, ?_⟩
    unfold nW
    omega
  have hnw : nW (bts t).length ≤ 4096 := by unfold nW; omega
  rw [hq2] at hA
  repeat' (first | (first | (refine GT ?_ ?_ <;> intro hg <;> clear hA a <;> intro a hA <;> (first | exact FA | replace hg := of_decide_eq_true hg | replace hg := of_decide_eq_false hg | skip)) | (refine QT ?_; clear hA a; intro a hA) | (first | (refine BT ?_; clear hA hH; rintro _ w ⟨bN, rfl, hH⟩ a hA) | (refine LT ?_; clear hA hH; rintro _ w ⟨oN, rfl, hH⟩ a hA) | (refine AT ?_; clear hA; rintro _ w ⟨oN, cN, rfl, hH2⟩ a hA; clear hH; have hH := (hH2 _ (by (repeat constructor))).tail; clear hH2) | (refine S0T ?_; clear hH; rintro _ w hH) )) | ((first | refine CT ?_ | (refine DT ?_ ?_ <;> intro hc <;> try (exfalso; omega))) <;> repeat' refine CT ?_) | (first | (refine DSK ?_; clear hA a; intro a hA) | (first | (refine DLT ?_; clear hA hH; rintro _ w ⟨oN, rfl, hH⟩; refine ⟨STT, ?_⟩; intro a hA) | (refine DAT ?_; clear hA; rintro _ w ⟨oN, cN, rfl, hH2⟩; clear hH; have hH := (hH2 _ (by (repeat constructor))).tail; clear hH2; refine ⟨STT, ?_⟩; intro a hA))) )
  have hok2 := allocS_ok hok 1 (1 + nW (bts t).length : Nat) roots
  have hcy2 := allocS_cy (N := N) (g := g) (k := 1) (z := (1 + nW (bts t).length : Nat)) (roots := roots)
  have hUw := allocS_U hok 1 (1 + nW (bts t).length : Nat) roots
  rw [show (1 : Int) + (nW (bts t).length : Int) = ((1 + nW (bts t).length : Nat) : Int) by omega] at hA
  (refine st_op hA rfl rfl (by decide) (op_call rfl rfl rfl (salloc_f hH hok hcy hU hl (fun Hc w' h => hrd _ _ (by simpa using h)))) ?_; clear hA hH; rintro _ w ⟨rfl, hH⟩ a hA)
  generalize allocS N g 1 ((1 + nW (bts t).length : Nat) : Int) roots = r at *
  by_cases he : r.2.1 ≠ 0
  · rw [if_pos he]
    repeat' (first | (first | (refine GT ?_ ?_ <;> intro hg <;> clear hA a <;> intro a hA <;> (first | exact FA | replace hg := of_decide_eq_true hg | replace hg := of_decide_eq_false hg | skip)) | (refine QT ?_; clear hA a; intro a hA) | (first | (refine BT ?_; clear hA hH; rintro _ w ⟨bN, rfl, hH⟩ a hA) | (refine LT ?_; clear hA hH; rintro _ w ⟨oN, rfl, hH⟩ a hA) | (refine AT ?_; clear hA; rintro _ w ⟨oN, cN, rfl, hH2⟩ a hA; clear hH; have hH := (hH2 _ (by (repeat constructor))).tail; clear hH2) | (refine S0T ?_; clear hH; rintro _ w hH) )) | ((first | refine CT ?_ | (refine DT ?_ ?_ <;> intro hc <;> try (exfalso; omega))) <;> repeat' refine CT ?_) | (first | (refine DSK ?_; clear hA a; intro a hA) | (first | (refine DLT ?_; clear hA hH; rintro _ w ⟨oN, rfl, hH⟩; refine ⟨STT, ?_⟩; intro a hA) | (refine DAT ?_; clear hA; rintro _ w ⟨oN, cN, rfl, hH2⟩; clear hH; have hH := (hH2 _ (by (repeat constructor))).tail; clear hH2; refine ⟨STT, ?_⟩; intro a hA))) )
    exact rt2 (.inl rfl) rfl hA rfl rfl ⟨rfl, hH⟩
  rw [if_neg he]
  have he0 := Decidable.not_not.1 he
  repeat' (first | (first | (refine GT ?_ ?_ <;> intro hg <;> clear hA a <;> intro a hA <;> (first | exact FA | replace hg := of_decide_eq_true hg | replace hg := of_decide_eq_false hg | skip)) | ((first | apply st_ex hA hH rfl rfl (by decide) | apply dr_ex hA rfl rfl rfl (by decide) | apply dr_exp hA rfl rfl rfl (by decide) | apply dr_ex3 hA hH rfl rfl rfl (by decide)); (first | (apply ex_len_string; rfl)); clear hA a; intro a hA) | (refine QT ?_; clear hA a; intro a hA) | (first | (refine BT ?_; clear hA hH; rintro _ w ⟨bN, rfl, hH⟩ a hA) | (refine LT ?_; clear hA hH; rintro _ w ⟨oN, rfl, hH⟩ a hA) | (refine AT ?_; clear hA; rintro _ w ⟨oN, cN, rfl, hH2⟩ a hA; clear hH; have hH := (hH2 _ (by (repeat constructor))).tail; clear hH2) | (refine S0T ?_; clear hH; rintro _ w hH) )) | ((first | refine CT ?_ | (refine DT ?_ ?_ <;> intro hc <;> try (exfalso; omega))) <;> repeat' refine CT ?_) | (first | (refine DSK ?_; clear hA a; intro a hA) | (first | (refine DLT ?_; clear hA hH; rintro _ w ⟨oN, rfl, hH⟩; refine ⟨STT, ?_⟩; intro a hA) | (refine DAT ?_; clear hA; rintro _ w ⟨oN, cN, rfl, hH2⟩; clear hH; have hH := (hH2 _ (by (repeat constructor))).tail; clear hH2; refine ⟨STT, ?_⟩; intro a hA))) )
  (refine st_op hA rfl rfl (by decide) (op_call rfl rfl rfl (ofn_spec _ (bts t).length (by omega))) ?_; clear hA; rintro _ w ⟨rfl, hk⟩ a hA; replace hH := hH.keep hk; clear hk)
  repeat' (first | (first | (refine GT ?_ ?_ <;> intro hg <;> clear hA a <;> intro a hA <;> (first | exact FA | replace hg := of_decide_eq_true hg | replace hg := of_decide_eq_false hg | skip)) | (refine QT ?_; clear hA a; intro a hA) | (first | (refine BT ?_; clear hA hH; rintro _ w ⟨bN, rfl, hH⟩ a hA) | (refine LT ?_; clear hA hH; rintro _ w ⟨oN, rfl, hH⟩ a hA) | (refine AT ?_; clear hA; rintro _ w ⟨oN, cN, rfl, hH2⟩ a hA; clear hH; have hH := (hH2 _ (by (repeat constructor))).tail; clear hH2) | (refine S0T ?_; clear hH; rintro _ w hH) )) | ((first | refine CT ?_ | (refine DT ?_ ?_ <;> intro hc <;> try (exfalso; omega))) <;> repeat' refine CT ?_) | (first | (refine DSK ?_; clear hA a; intro a hA) | (first | (refine DLT ?_; clear hA hH; rintro _ w ⟨oN, rfl, hH⟩; refine ⟨STT, ?_⟩; intro a hA) | (refine DAT ?_; clear hA; rintro _ w ⟨oN, cN, rfl, hH2⟩; clear hH; have hH := (hH2 _ (by (repeat constructor))).tail; clear hH2; refine ⟨STT, ?_⟩; intro a hA))) )
  (refine st_op hA rfl rfl (by decide) (op_call rfl rfl rfl (sset_f hH hok2 hUw)) ?_; clear hA hH; rintro _ w ⟨rfl, hH⟩ a hA)
  rw [setF_one, txt_one] at hH
  repeat' (first | (first | (refine GT ?_ ?_ <;> intro hg <;> clear hA a <;> intro a hA <;> (first | exact FA | replace hg := of_decide_eq_true hg | replace hg := of_decide_eq_false hg | skip)) | (refine QT ?_; clear hA a; intro a hA) | (first | (refine BT ?_; clear hA hH; rintro _ w ⟨bN, rfl, hH⟩ a hA) | (refine LT ?_; clear hA hH; rintro _ w ⟨oN, rfl, hH⟩ a hA) | (refine AT ?_; clear hA; rintro _ w ⟨oN, cN, rfl, hH2⟩ a hA; clear hH; have hH := (hH2 _ (by (repeat constructor))).tail; clear hH2) | (refine S0T ?_; clear hH; rintro _ w hH) )) | ((first | refine CT ?_ | (refine DT ?_ ?_ <;> intro hc <;> try (exfalso; omega))) <;> repeat' refine CT ?_) | (first | (refine DSK ?_; clear hA a; intro a hA) | (first | (refine DLT ?_; clear hA hH; rintro _ w ⟨oN, rfl, hH⟩; refine ⟨STT, ?_⟩; intro a hA) | (refine DAT ?_; clear hA; rintro _ w ⟨oN, cN, rfl, hH2⟩; clear hH; have hH := (hH2 _ (by (repeat constructor))).tail; clear hH2; refine ⟨STT, ?_⟩; intro a hA))) )
  refine wp_lpj (S := Nat) (fun j a w => j ≤ nW (bts t).length ∧ HS w0 M [stI bs N (setF r.2.2 r.1 0 ((txt (bts t)).take (1 + j)))] w ∧ Sl 74 [(0, .pointer (some (bat bs 0))), (1, .string t), (8, .int .u64 r.1), (10, .int .i64 ((8 * j : Nat) : Int))] a) (fun j => nW (bts t).length - j)
    (fun a w => HS w0 M [stI bs N (setF r.2.2 r.1 0 (txt (bts t)))] w ∧ Sl 74 [(8, .int .u64 r.1)] a) 0 ⟨Nat.zero_le _, hH, (hA.sub (by (repeat (first | exact trivial | refine ⟨rfl, ?_⟩))))⟩ ?_ ?_
  rotate_left
  · clear hA hH
    rintro a w ⟨hH, hA⟩
    repeat' (first | (first | (refine GT ?_ ?_ <;> intro hg <;> clear hA a <;> intro a hA <;> (first | exact FA | replace hg := of_decide_eq_true hg | replace hg := of_decide_eq_false hg | skip)) | (refine QT ?_; clear hA a; intro a hA) | (first | (refine BT ?_; clear hA hH; rintro _ w ⟨bN, rfl, hH⟩ a hA) | (refine LT ?_; clear hA hH; rintro _ w ⟨oN, rfl, hH⟩ a hA) | (refine AT ?_; clear hA; rintro _ w ⟨oN, cN, rfl, hH2⟩ a hA; clear hH; have hH := (hH2 _ (by (repeat constructor))).tail; clear hH2) | (refine S0T ?_; clear hH; rintro _ w hH) )) | ((first | refine CT ?_ | (refine DT ?_ ?_ <;> intro hc <;> try (exfalso; omega))) <;> repeat' refine CT ?_) | (first | (refine DSK ?_; clear hA a; intro a hA) | (first | (refine DLT ?_; clear hA hH; rintro _ w ⟨oN, rfl, hH⟩; refine ⟨STT, ?_⟩; intro a hA) | (refine DAT ?_; clear hA; rintro _ w ⟨oN, cN, rfl, hH2⟩; clear hH; have hH := (hH2 _ (by (repeat constructor))).tail; clear hH2; refine ⟨STT, ?_⟩; intro a hA))) )
    exact rt2 (.inl rfl) rfl hA rfl rfl ⟨rfl, hH⟩
  clear hA hH
  rintro j a w ⟨hj, hH, hA⟩
  by_cases hlt : 8 * j < (bts t).length
  rotate_left
  · have hje : j = nW (bts t).length := by unfold nW at hj ⊢; omega
    rw [hje, ← txt_len, List.take_length] at hH
    repeat' (first | (first | (refine GT ?_ ?_ <;> intro hg <;> clear hA a <;> intro a hA <;> (first | exact FA | replace hg := of_decide_eq_true hg | replace hg := of_decide_eq_false hg | skip)) | ((first | apply st_ex hA hH rfl rfl (by decide) | apply dr_ex hA rfl rfl rfl (by decide) | apply dr_exp hA rfl rfl rfl (by decide) | apply dr_ex3 hA hH rfl rfl rfl (by decide)); (first | (apply ex_len_string; rfl)); clear hA a; intro a hA) | (refine QT ?_; clear hA a; intro a hA) | (first | (refine BT ?_; clear hA hH; rintro _ w ⟨bN, rfl, hH⟩ a hA) | (refine LT ?_; clear hA hH; rintro _ w ⟨oN, rfl, hH⟩ a hA) | (refine AT ?_; clear hA; rintro _ w ⟨oN, cN, rfl, hH2⟩ a hA; clear hH; have hH := (hH2 _ (by (repeat constructor))).tail; clear hH2) | (refine S0T ?_; clear hH; rintro _ w hH) )) | ((first | refine CT ?_ | (refine DT ?_ ?_ <;> intro hc <;> try (exfalso; omega))) <;> repeat' refine CT ?_) | (first | (refine DSK ?_; clear hA a; intro a hA) | (first | (refine DLT ?_; clear hA hH; rintro _ w ⟨oN, rfl, hH⟩; refine ⟨STT, ?_⟩; intro a hA) | (refine DAT ?_; clear hA; rintro _ w ⟨oN, cN, rfl, hH2⟩; clear hH; have hH := (hH2 _ (by (repeat constructor))).tail; clear hH2; refine ⟨STT, ?_⟩; intro a hA))) )
    exact ⟨hH, (hA.sub (by (repeat (first | exact trivial | refine ⟨rfl, ?_⟩))))⟩
  have hmin : (if ((8 * j : Nat) : Int) + 8 < ((bts t).length : Int) then ((8 * j : Nat) : Int) + 8 else ((bts t).length : Int)) = ((min (bts t).length (8 * j + 8) : Nat) : Int) := by
    split <;> omega
  have hsz := bts_len t
  repeat' (first | (first | (refine GT ?_ ?_ <;> intro hg <;> clear hA a <;> intro a hA <;> (first | exact FA | replace hg := of_decide_eq_true hg | replace hg := of_decide_eq_false hg | skip)) | ((first | apply st_ex hA hH rfl rfl (by decide) | apply dr_ex hA rfl rfl rfl (by decide) | apply dr_exp hA rfl rfl rfl (by decide) | apply dr_ex3 hA hH rfl rfl rfl (by decide)); (first | (apply ex_len_string; rfl) | (apply ex_min; rfl; rfl)); clear hA a; intro a hA) | (refine QT ?_; clear hA a; intro a hA) | (first | (refine BT ?_; clear hA hH; rintro _ w ⟨bN, rfl, hH⟩ a hA) | (refine LT ?_; clear hA hH; rintro _ w ⟨oN, rfl, hH⟩ a hA) | (refine AT ?_; clear hA; rintro _ w ⟨oN, cN, rfl, hH2⟩ a hA; clear hH; have hH := (hH2 _ (by (repeat constructor))).tail; clear hH2) | (refine S0T ?_; clear hH; rintro _ w hH) )) | ((first | refine CT ?_ | (refine DT ?_ ?_ <;> intro hc <;> try (exfalso; omega))) <;> repeat' refine CT ?_) | (first | (refine DSK ?_; clear hA a; intro a hA) | (first | (refine DLT ?_; clear hA hH; rintro _ w ⟨oN, rfl, hH⟩; refine ⟨STT, ?_⟩; intro a hA) | (refine DAT ?_; clear hA; rintro _ w ⟨oN, cN, rfl, hH2⟩; clear hH; have hH := (hH2 _ (by (repeat constructor))).tail; clear hH2; refine ⟨STT, ?_⟩; intro a hA))) )
  rw [hmin] at hA
  repeat' (first | (first | (refine GT ?_ ?_ <;> intro hg <;> clear hA a <;> intro a hA <;> (first | exact FA | replace hg := of_decide_eq_true hg | replace hg := of_decide_eq_false hg | skip)) | ((first | apply st_ex hA hH rfl rfl (by decide) | apply dr_ex hA rfl rfl rfl (by decide) | apply dr_exp hA rfl rfl rfl (by decide) | apply dr_ex3 hA hH rfl rfl rfl (by decide)); (first | (apply ex_slice_string (i := 8 * j) (j := min (bts t).length (8 * j + 8)); rfl; rfl; rfl; rfl; rfl; omega; omega)); clear hA a; intro a hA) | (refine QT ?_; clear hA a; intro a hA) | (first | (refine BT ?_; clear hA hH; rintro _ w ⟨bN, rfl, hH⟩ a hA) | (refine LT ?_; clear hA hH; rintro _ w ⟨oN, rfl, hH⟩ a hA) | (refine AT ?_; clear hA; rintro _ w ⟨oN, cN, rfl, hH2⟩ a hA; clear hH; have hH := (hH2 _ (by (repeat constructor))).tail; clear hH2) | (refine S0T ?_; clear hH; rintro _ w hH) | (apply st_op hA rfl rfl (by decide); apply op_toBytes; rfl; exact hH; clear hA hH; rintro _ w ⟨bb, cc, rfl, hH⟩ a hA))) | ((first | refine CT ?_ | (refine DT ?_ ?_ <;> intro hc <;> try (exfalso; omega))) <;> repeat' refine CT ?_) | (first | (refine DSK ?_; clear hA a; intro a hA) | (first | (refine DLT ?_; clear hA hH; rintro _ w ⟨oN, rfl, hH⟩; refine ⟨STT, ?_⟩; intro a hA) | (refine DAT ?_; clear hA; rintro _ w ⟨oN, cN, rfl, hH2⟩; clear hH; have hH := (hH2 _ (by (repeat constructor))).tail; clear hH2; refine ⟨STT, ?_⟩; intro a hA))) )
  have hp := part_is t j
  generalize t.extract (8 * j) (min (bts t).length (8 * j + 8)) = s' at *
  rw [hp] at hA
  have hpl := part_len (bts t) j
  have hpb := part_lt (bts_lt t) j
  have hspb : Sp (some (bat bb 0)) (part (bts t) j).length := sp_bat _ _
  refine wp_lpk (S := Nat) (fun k a w => k ≤ (part (bts t) j).length ∧ HS w0 M [byI bb s', stI bs N (setF r.2.2 r.1 0 ((txt (bts t)).take (1 + j)))] w ∧ Sl 74 [(0, .pointer (some (bat bs 0))), (1, .string t), (8, .int .u64 r.1), (10, .int .i64 ((8 * j : Nat) : Int)), (11, .int .u64 (chunk ((part (bts t) j).take k) : Nat)), (51, .slice (some (bat bb 0)) (part (bts t) j).length cc), (52, .int .i64 (part (bts t) j).length), (53, .int .i64 k)] a) (fun k => (part (bts t) j).length - k)
    (fun a w => HS w0 M [stI bs N (setF r.2.2 r.1 0 ((txt (bts t)).take (1 + j)))] w ∧ Sl 74 [(0, .pointer (some (bat bs 0))), (1, .string t), (8, .int .u64 r.1), (10, .int .i64 ((8 * j : Nat) : Int)), (11, .int .u64 (wrd (bts t) j))] a) 0 ⟨Nat.zero_le _, hH, by rw [chunk_z]; exact (hA.sub (by (repeat (first | exact trivial | refine ⟨rfl, ?_⟩))))⟩ ?_ ?_
  · clear hA hH
    rintro k a w ⟨hk, hH, hA⟩
    by_cases hkl : k < (part (bts t) j).length
    rotate_left
    · obtain rfl : k = (part (bts t) j).length := by omega
      rw [← wrd_is] at hA
      repeat' (first | (first | (refine GT ?_ ?_ <;> intro hg <;> clear hA a <;> intro a hA <;> (first | exact FA | replace hg := of_decide_eq_true hg | replace hg := of_decide_eq_false hg | skip)) | (refine QT ?_; clear hA a; intro a hA) | (first | (refine BT ?_; clear hA hH; rintro _ w ⟨bN, rfl, hH⟩ a hA) | (refine LT ?_; clear hA hH; rintro _ w ⟨oN, rfl, hH⟩ a hA) | (refine AT ?_; clear hA; rintro _ w ⟨oN, cN, rfl, hH2⟩ a hA; clear hH; have hH := (hH2 _ (by (repeat constructor))).tail; clear hH2) | (refine S0T ?_; clear hH; rintro _ w hH) )) | ((first | refine CT ?_ | (refine DT ?_ ?_ <;> intro hc <;> try (exfalso; omega))) <;> repeat' refine CT ?_) | (first | (refine DSK ?_; clear hA a; intro a hA) | (first | (refine DLT ?_; clear hA hH; rintro _ w ⟨oN, rfl, hH⟩; refine ⟨STT, ?_⟩; intro a hA) | (refine DAT ?_; clear hA; rintro _ w ⟨oN, cN, rfl, hH2⟩; clear hH; have hH := (hH2 _ (by (repeat constructor))).tail; clear hH2; refine ⟨STT, ?_⟩; intro a hA))) )
      exact ⟨hH.tail, (hA.sub (by (repeat (first | exact trivial | refine ⟨rfl, ?_⟩))))⟩
    obtain ⟨y, hy⟩ : ∃ y, (part (bts t) j)[k]? = some y := ⟨_, List.getElem?_eq_getElem hkl⟩
    have hyb := hpb y (List.mem_of_getElem? hy)
    have hclb : Cl (HS w0 M [byI bb s', stI bs N (setF r.2.2 r.1 0 ((txt (bts t)).take (1 + j)))]) (sat (some (bat bb 0)) (k * 1)) (.int .u8 (y : Int)) := cl_of fun w h => rd_atB (by_rd h (List.mem_cons_self ..)) (by rw [hp]; exact flat_get0 encY_len hy rfl)
    have hcx : chunk ((part (bts t) j).take k) < 256 ^ k := by
      have := chunk_lt (l := (part (bts t) j).take k) (fun b hb => hpb b (List.mem_of_mem_take hb))
      rw [List.length_take, Nat.min_eq_left (by omega)] at this
      exact this
    have hshl := shl_byte hyb (k := k) (by omega)
    have hor := or_byte hcx hyb (by omega)
    have htc := take_chunk hy
    rw [← htc] at hor
    have hcv : IntKind.u64.wrap (y : Int) = (y : Int) := by rw [u64_mod, Int.emod_eq_of_lt (by omega) (by omega)]
    repeat' (first | (first | (refine GT ?_ ?_ <;> intro hg <;> clear hA a <;> intro a hA <;> (first | exact FA | replace hg := of_decide_eq_true hg | replace hg := of_decide_eq_false hg | skip)) | ((first | apply st_ex hA hH rfl rfl (by decide) | apply dr_ex hA rfl rfl rfl (by decide) | apply dr_exp hA rfl rfl rfl (by decide) | apply dr_ex3 hA hH rfl rfl rfl (by decide)); (first | (apply ex_load; rfl; exact hclb) | (apply ex_convert (v := (y : Int)); rfl; exact hcv) | (apply ex_mul; rfl; rfl; unfold i64ok; omega) | (apply ex_shl (v := ((y * 256 ^ k : Nat) : Int)); rfl; rfl; omega; exact hshl) | (apply ex_or (v := ((chunk ((part (bts t) j).take (k + 1)) : Nat) : Int)); rfl; rfl; exact hor)); clear hA a; intro a hA) | (refine QT ?_; clear hA a; intro a hA) | (first | (refine BT ?_; clear hA hH; rintro _ w ⟨bN, rfl, hH⟩ a hA) | (refine LT ?_; clear hA hH; rintro _ w ⟨oN, rfl, hH⟩ a hA) | (refine AT ?_; clear hA; rintro _ w ⟨oN, cN, rfl, hH2⟩ a hA; clear hH; have hH := (hH2 _ (by (repeat constructor))).tail; clear hH2) | (refine S0T ?_; clear hH; rintro _ w hH) )) | ((first | refine CT ?_ | (refine DT ?_ ?_ <;> intro hc <;> try (exfalso; omega))) <;> repeat' refine CT ?_) | (first | (refine DSK ?_; clear hA a; intro a hA) | (first | (refine DLT ?_; clear hA hH; rintro _ w ⟨oN, rfl, hH⟩; refine ⟨STT, ?_⟩; intro a hA) | (refine DAT ?_; clear hA; rintro _ w ⟨oN, cN, rfl, hH2⟩; clear hH; have hH := (hH2 _ (by (repeat constructor))).tail; clear hH2; refine ⟨STT, ?_⟩; intro a hA))) )
    exact ⟨k + 1, ⟨hkl, hH, (hA.sub (by (repeat (first | exact trivial | refine ⟨rfl, ?_⟩))))⟩, by omega⟩
  clear hA hH
  rintro a w ⟨hH, hA⟩
  repeat' (first | (first | (refine GT ?_ ?_ <;> intro hg <;> clear hA a <;> intro a hA <;> (first | exact FA | replace hg := of_decide_eq_true hg | replace hg := of_decide_eq_false hg | skip)) | (refine QT ?_; clear hA a; intro a hA) | (first | (refine BT ?_; clear hA hH; rintro _ w ⟨bN, rfl, hH⟩ a hA) | (refine LT ?_; clear hA hH; rintro _ w ⟨oN, rfl, hH⟩ a hA) | (refine AT ?_; clear hA; rintro _ w ⟨oN, cN, rfl, hH2⟩ a hA; clear hH; have hH := (hH2 _ (by (repeat constructor))).tail; clear hH2) | (refine S0T ?_; clear hH; rintro _ w hH) )) | ((first | refine CT ?_ | (refine DT ?_ ?_ <;> intro hc <;> try (exfalso; omega))) <;> repeat' refine CT ?_) | (first | (refine DSK ?_; clear hA a; intro a hA) | (first | (refine DLT ?_; clear hA hH; rintro _ w ⟨oN, rfl, hH⟩; refine ⟨STT, ?_⟩; intro a hA) | (refine DAT ?_; clear hA; rintro _ w ⟨oN, cN, rfl, hH2⟩; clear hH; have hH := (hH2 _ (by (repeat constructor))).tail; clear hH2; refine ⟨STT, ?_⟩; intro a hA))) )
  have hq8 : IntKind.i64.wrap (((8 * j : Nat) : Int).tdiv 8) = (j : Int) := by
    rw [Int.tdiv_eq_ediv_of_nonneg (by omega)]
    have : ((8 * j : Nat) : Int) / 8 = (j : Int) := by omega
    rw [this]
    exact wrap_i64 ⟨by omega, by omega⟩
  rw [hq8] at hA
  have hjn : j < nW (bts t).length := by unfold nW; omega
  have hokF := setF_ok (x := r.1) (i := 0) (l := (txt (bts t)).take (1 + j)) hok2 (fun y hy => txt_U (bts_lt t) (by omega) y (List.mem_of_mem_take hy))
  have hnx := setF_next (g := r.2.2) (x := r.1) (txt_at hjn) (by rw [List.length_take, txt_len]; omega)
  repeat' (first | (first | (refine GT ?_ ?_ <;> intro hg <;> clear hA a <;> intro a hA <;> (first | exact FA | replace hg := of_decide_eq_true hg | replace hg := of_decide_eq_false hg | skip)) | (refine QT ?_; clear hA a; intro a hA) | (first | (refine BT ?_; clear hA hH; rintro _ w ⟨bN, rfl, hH⟩ a hA) | (refine LT ?_; clear hA hH; rintro _ w ⟨oN, rfl, hH⟩ a hA) | (refine AT ?_; clear hA; rintro _ w ⟨oN, cN, rfl, hH2⟩ a hA; clear hH; have hH := (hH2 _ (by (repeat constructor))).tail; clear hH2) | (refine S0T ?_; clear hH; rintro _ w hH) )) | ((first | refine CT ?_ | (refine DT ?_ ?_ <;> intro hc <;> try (exfalso; omega))) <;> repeat' refine CT ?_) | (first | (refine DSK ?_; clear hA a; intro a hA) | (first | (refine DLT ?_; clear hA hH; rintro _ w ⟨oN, rfl, hH⟩; refine ⟨STT, ?_⟩; intro a hA) | (refine DAT ?_; clear hA; rintro _ w ⟨oN, cN, rfl, hH2⟩; clear hH; have hH := (hH2 _ (by (repeat constructor))).tail; clear hH2; refine ⟨STT, ?_⟩; intro a hA))) )
  rw [show (1 : Int) + (j : Int) = ((1 + j : Nat) : Int) by omega] at hA
  repeat' (first | (first | (refine GT ?_ ?_ <;> intro hg <;> clear hA a <;> intro a hA <;> (first | exact FA | replace hg := of_decide_eq_true hg | replace hg := of_decide_eq_false hg | skip)) | (refine QT ?_; clear hA a; intro a hA) | (first | (refine BT ?_; clear hA hH; rintro _ w ⟨bN, rfl, hH⟩ a hA) | (refine LT ?_; clear hA hH; rintro _ w ⟨oN, rfl, hH⟩ a hA) | (refine AT ?_; clear hA; rintro _ w ⟨oN, cN, rfl, hH2⟩ a hA; clear hH; have hH := (hH2 _ (by (repeat constructor))).tail; clear hH2) | (refine S0T ?_; clear hH; rintro _ w hH) )) | ((first | refine CT ?_ | (refine DT ?_ ?_ <;> intro hc <;> try (exfalso; omega))) <;> repeat' refine CT ?_) | (first | (refine DSK ?_; clear hA a; intro a hA) | (first | (refine DLT ?_; clear hA hH; rintro _ w ⟨oN, rfl, hH⟩; refine ⟨STT, ?_⟩; intro a hA) | (refine DAT ?_; clear hA; rintro _ w ⟨oN, cN, rfl, hH2⟩; clear hH; have hH := (hH2 _ (by (repeat constructor))).tail; clear hH2; refine ⟨STT, ?_⟩; intro a hA))) )
  (refine st_op hA rfl rfl (by decide) (op_call rfl rfl rfl (sset_f hH hokF hUw)) ?_; clear hA hH; rintro _ w ⟨rfl, hH⟩ a hA)
  rw [hnx] at hH
  repeat' (first | (first | (refine GT ?_ ?_ <;> intro hg <;> clear hA a <;> intro a hA <;> (first | exact FA | replace hg := of_decide_eq_true hg | replace hg := of_decide_eq_false hg | skip)) | (refine QT ?_; clear hA a; intro a hA) | (first | (refine BT ?_; clear hA hH; rintro _ w ⟨bN, rfl, hH⟩ a hA) | (refine LT ?_; clear hA hH; rintro _ w ⟨oN, rfl, hH⟩ a hA) | (refine AT ?_; clear hA; rintro _ w ⟨oN, cN, rfl, hH2⟩ a hA; clear hH; have hH := (hH2 _ (by (repeat constructor))).tail; clear hH2) | (refine S0T ?_; clear hH; rintro _ w hH) )) | ((first | refine CT ?_ | (refine DT ?_ ?_ <;> intro hc <;> try (exfalso; omega))) <;> repeat' refine CT ?_) | (first | (refine DSK ?_; clear hA a; intro a hA) | (first | (refine DLT ?_; clear hA hH; rintro _ w ⟨oN, rfl, hH⟩; refine ⟨STT, ?_⟩; intro a hA) | (refine DAT ?_; clear hA; rintro _ w ⟨oN, cN, rfl, hH2⟩; clear hH; have hH := (hH2 _ (by (repeat constructor))).tail; clear hH2; refine ⟨STT, ?_⟩; intro a hA))) )
  exact ⟨j + 1, ⟨hjn, hH, (hA.sub (by (repeat (first | exact trivial | refine ⟨rfl, ?_⟩))))⟩, by omega⟩
end Go.Proofs.Ytdfhajdejlhamaa
namespace Go.Proofs.Ytdfhajdejlhamaa
open Go Go.Fw
set_option linter.unusedVariables false
/-- a text's bytes, as fields tell them -/
def bytS (L : List Ob) (a n : Nat) : List Nat := (List.range n).map fun i => ((getA L (a : Int) ((1 + i / 8 : Nat) : Int)).1 / 256 ^ (i % 8) % 256).toNat
def strS (L : List Ob) (x : Int) : ByteArray × Int :=
  if atA L x = 0 then (ByteArray.empty, 7) else
  if (kindA L (atA L x : Nat)).1 ≠ 1 then (ByteArray.empty, 8) else
  if numW (getA L (atA L x : Nat) 0).1 = false ∨ numV (getA L (atA L x : Nat) 0).1 < 0 ∨ 32768 < numV (getA L (atA L x : Nat) 0).1 ∨ (sizeA L (atA L x : Nat)).1 ≠ 1 + (numV (getA L (atA L x : Nat) 0).1 + 7) / 8 then (ByteArray.empty, 5) else
  (ofB (bytS L (atA L x) (numV (getA L (atA L x : Nat) 0).1).toNat), 0)
theorem get_U {N : Nat} {s : GS} (h : GOk N s) (z i : Int) : U (getA s.L z i).1 := by
  rcases get_cases h.lay z i 0 with ⟨e, _, h1, _⟩ | ⟨o, j, y, ho, rfl, rfl, hy, h1, _⟩
  · rw [h1]; show U 0; exact ⟨by decide, by decide⟩
  · rw [h1]; exact h.us o ho y (List.mem_of_getElem? hy)
def byS (L : List Ob) (a k : Nat) : Nat := ((getA L (a : Int) ((1 + k / 8 : Nat) : Int)).1 / 256 ^ (k % 8) % 256).toNat
theorem bytS_at {L : List Ob} {a n k : Nat} (h : k < n) : (bytS L a n)[k]? = some (byS L a k) := by
  unfold bytS byS
  rw [List.getElem?_map, List.getElem?_range h]
  rfl
theorem bytS_len {L : List Ob} {a n : Nat} : (bytS L a n).length = n := by unfold bytS; simp
theorem byS_is {L : List Ob} {a k : Nat} {y : Int} (hy : (getA L (a : Int) ((1 + k / 8 : Nat) : Int)).1 = y) : IntKind.u8.wrap (shrK .u64 y (8 * ((k % 8 : Nat) : Int))) = (byS L a k : Int) := by
  unfold byS
  rw [hy]
  unfold shrK
  have e : min (8 * ((k % 8 : Nat) : Int)).toNat IntKind.u64.bits = 8 * (k % 8) := by
    show min (8 * ((k % 8 : Nat) : Int)).toNat 64 = 8 * (k % 8)
    omega
  have e2 : (2 : Int) ^ (8 * (k % 8)) = 256 ^ (k % 8) := by rw [Int.pow_mul]; rfl
  rw [e, e2, Int.fdiv_eq_ediv_of_nonneg _ (Int.pow_nonneg (by decide))]
  show (y / 256 ^ (k % 8)) % 256 = _
  have := Int.emod_nonneg (y / 256 ^ (k % 8)) (show (256 : Int) ≠ 0 by decide)
  omega
theorem nil_flatY : ([] : List Value) = flat encY [] := rfl
theorem snocY (l : List Nat) (b : Nat) : flat encY l ++ [.int .u8 (b : Int)] = flat encY (l ++ [b]) := (flat_snoc encY l b).symm
set_option maxRecDepth 10000 attribute [local irreducible] Code.wp wpList Calls Ex Op1 sat bat blk cb own Go.Fw.mp Go.Fw.mpO Go.Fw.mpI Go.Fw.mpE Go.Fw.itr HS Rd Ret wkD Hp Cl Cls Exit.then Exit.inBlock Exit.noGoto bodyPost Go.Fw.flat wk2 Go.Fw.all Go.Fw.owns wpOp
attribute [local irreducible] hdA gaps isA nextA allocA freeA sizeA kindA setA getA whiteZ numW addrW shadeG gcI hpI stepG beginG writeG allocG mu atA endS finG allocS setF txt wrd chunk bts orK shlK numV bytS

set_option maxHeartbeats 4000000 in
theorem sstring_spec (w0 : World) (M : Nat → Prop) (bs N : Nat) (g : SS) (x : Int) (hok : GOk N g.s) (hU : U x) (hH : HS w0 M [stI bs N g] w0) :
    Ret Try.prog 25 #[.pointer (some (bat bs 0)), .int .u64 x] w0 (fun v w => v = .tuple #[.string (strS g.s.L x).1, .int .i64 (strS g.s.L x).2] ∧ HS w0 M [stI bs N g] w) := by
  (refine enter (N := 77) Try.func25 rfl Try.ntmps25 rfl ?_; intro a hA; dsimp only [sl0, Nat.reduceAdd] at hA)
  unfold strS
  repeat' (first | (first | (refine GT ?_ ?_ <;> intro hg <;> clear hA a <;> intro a hA <;> (first | exact FA | replace hg := of_decide_eq_true hg | replace hg := of_decide_eq_false hg | skip)) | (refine QT ?_; clear hA a; intro a hA) | (first | (refine BT ?_; clear hA hH; rintro _ w ⟨bN, rfl, hH⟩ a hA) | (refine LT ?_; clear hA hH; rintro _ w ⟨oN, rfl, hH⟩ a hA) | (refine AT ?_; clear hA; rintro _ w ⟨oN, cN, rfl, hH2⟩ a hA; clear hH; have hH := (hH2 _ (by (repeat constructor))).tail; clear hH2) | (refine S0T ?_; clear hH; rintro _ w hH) )) | ((first | refine CT ?_ | (refine DT ?_ ?_ <;> intro hc <;> try (exfalso; omega))) <;> repeat' refine CT ?_) | (first | (refine DSK ?_; clear hA a; intro a hA) | (first | (refine DLT ?_; clear hA hH; rintro _ w ⟨oN, rfl, hH⟩; refine ⟨STT, ?_⟩; intro a hA) | (refine DAT ?_; clear hA; rintro _ w ⟨oN, cN, rfl, hH2⟩; clear hH; have hH := (hH2 _ (by (repeat constructor))).tail; clear hH2; refine ⟨STT, ?_⟩; intro a hA))) )
  (refine st_op hA rfl rfl (by decide) (op_call rfl rfl rfl (sat_f hH hok hU)) ?_; clear hA hH; rintro _ w ⟨rfl, hH⟩ a hA)
  by_cases h0 : atA g.s.L x = 0
  · rw [if_pos h0]
    repeat' (first | (first | (refine GT ?_ ?_ <;> intro hg <;> clear hA a <;> intro a hA <;> (first | exact FA | replace hg := of_decide_eq_true hg | replace hg := of_decide_eq_false hg | skip)) | (refine QT ?_; clear hA a; intro a hA) | (first | (refine BT ?_; clear hA hH; rintro _ w ⟨bN, rfl, hH⟩ a hA) | (refine LT ?_; clear hA hH; rintro _ w ⟨oN, rfl, hH⟩ a hA) | (refine AT ?_; clear hA; rintro _ w ⟨oN, cN, rfl, hH2⟩ a hA; clear hH; have hH := (hH2 _ (by (repeat constructor))).tail; clear hH2) | (refine S0T ?_; clear hH; rintro _ w hH) )) | ((first | refine CT ?_ | (refine DT ?_ ?_ <;> intro hc <;> try (exfalso; omega))) <;> repeat' refine CT ?_) | (first | (refine DSK ?_; clear hA a; intro a hA) | (first | (refine DLT ?_; clear hA hH; rintro _ w ⟨oN, rfl, hH⟩; refine ⟨STT, ?_⟩; intro a hA) | (refine DAT ?_; clear hA; rintro _ w ⟨oN, cN, rfl, hH2⟩; clear hH; have hH := (hH2 _ (by (repeat constructor))).tail; clear hH2; refine ⟨STT, ?_⟩; intro a hA))) )
    exact rt2 (.inl rfl) rfl hA rfl rfl ⟨rfl, hH⟩
  rw [if_neg h0]
  repeat' (first | (first | (refine GT ?_ ?_ <;> intro hg <;> clear hA a <;> intro a hA <;> (first | exact FA | replace hg := of_decide_eq_true hg | replace hg := of_decide_eq_false hg | skip)) | (refine QT ?_; clear hA a; intro a hA) | (first | (refine BT ?_; clear hA hH; rintro _ w ⟨bN, rfl, hH⟩ a hA) | (refine LT ?_; clear hA hH; rintro _ w ⟨oN, rfl, hH⟩ a hA) | (refine AT ?_; clear hA; rintro _ w ⟨oN, cN, rfl, hH2⟩ a hA; clear hH; have hH := (hH2 _ (by (repeat constructor))).tail; clear hH2) | (refine S0T ?_; clear hH; rintro _ w hH) )) | ((first | refine CT ?_ | (refine DT ?_ ?_ <;> intro hc <;> try (exfalso; omega))) <;> repeat' refine CT ?_) | (first | (refine DSK ?_; clear hA a; intro a hA) | (first | (refine DLT ?_; clear hA hH; rintro _ w ⟨oN, rfl, hH⟩; refine ⟨STT, ?_⟩; intro a hA) | (refine DAT ?_; clear hA; rintro _ w ⟨oN, cN, rfl, hH2⟩; clear hH; have hH := (hH2 _ (by (repeat constructor))).tail; clear hH2; refine ⟨STT, ?_⟩; intro a hA))) )
  (refine st_op hA rfl rfl (by decide) (op_call rfl rfl rfl (skind_f hH hok hU)) ?_; clear hA hH; rintro _ w ⟨rfl, hH⟩ a hA)
  by_cases h1 : (kindA g.s.L (atA g.s.L x : Nat)).1 ≠ 1
  · rw [if_pos h1]
    repeat' (first | (first | (refine GT ?_ ?_ <;> intro hg <;> clear hA a <;> intro a hA <;> (first | exact FA | replace hg := of_decide_eq_true hg | replace hg := of_decide_eq_false hg | skip)) | (refine QT ?_; clear hA a; intro a hA) | (first | (refine BT ?_; clear hA hH; rintro _ w ⟨bN, rfl, hH⟩ a hA) | (refine LT ?_; clear hA hH; rintro _ w ⟨oN, rfl, hH⟩ a hA) | (refine AT ?_; clear hA; rintro _ w ⟨oN, cN, rfl, hH2⟩ a hA; clear hH; have hH := (hH2 _ (by (repeat constructor))).tail; clear hH2) | (refine S0T ?_; clear hH; rintro _ w hH) )) | ((first | refine CT ?_ | (refine DT ?_ ?_ <;> intro hc <;> try (exfalso; omega))) <;> repeat' refine CT ?_) | (first | (refine DSK ?_; clear hA a; intro a hA) | (first | (refine DLT ?_; clear hA hH; rintro _ w ⟨oN, rfl, hH⟩; refine ⟨STT, ?_⟩; intro a hA) | (refine DAT ?_; clear hA; rintro _ w ⟨oN, cN, rfl, hH2⟩; clear hH; have hH := (hH2 _ (by (repeat constructor))).tail; clear hH2; refine ⟨STT, ?_⟩; intro a hA))) )
    exact rt2 (.inl rfl) rfl hA rfl rfl ⟨rfl, hH⟩
  rw [if_neg h1]
  repeat' (first | (first | (refine GT ?_ ?_ <;> intro hg <;> clear hA a <;> intro a hA <;> (first | exact FA | replace hg := of_decide_eq_true hg | replace hg := of_decide_eq_false hg | skip)) | (refine QT ?_; clear hA a; intro a hA) | (first | (refine BT ?_; clear hA hH; rintro _ w ⟨bN, rfl, hH⟩ a hA) | (refine LT ?_; clear hA hH; rintro _ w ⟨oN, rfl, hH⟩ a hA) | (refine AT ?_; clear hA; rintro _ w ⟨oN, cN, rfl, hH2⟩ a hA; clear hH; have hH := (hH2 _ (by (repeat constructor))).tail; clear hH2) | (refine S0T ?_; clear hH; rintro _ w hH) )) | ((first | refine CT ?_ | (refine DT ?_ ?_ <;> intro hc <;> try (exfalso; omega))) <;> repeat' refine CT ?_) | (first | (refine DSK ?_; clear hA a; intro a hA) | (first | (refine DLT ?_; clear hA hH; rintro _ w ⟨oN, rfl, hH⟩; refine ⟨STT, ?_⟩; intro a hA) | (refine DAT ?_; clear hA; rintro _ w ⟨oN, cN, rfl, hH2⟩; clear hH; have hH := (hH2 _ (by (repeat constructor))).tail; clear hH2; refine ⟨STT, ?_⟩; intro a hA))) )
  (refine st_op hA rfl rfl (by decide) (op_call rfl rfl rfl (sget_f hH hok hU)) ?_; clear hA hH; rintro _ w ⟨rfl, hH⟩ a hA)
  have hUg := get_U hok (atA g.s.L x : Nat) 0
  generalize hx0 : (getA g.s.L (atA g.s.L x : Nat) 0).1 = x0 at *
  repeat' (first | (first | (refine GT ?_ ?_ <;> intro hg <;> clear hA a <;> intro a hA <;> (first | exact FA | replace hg := of_decide_eq_true hg | replace hg := of_decide_eq_false hg | skip)) | (refine QT ?_; clear hA a; intro a hA) | (first | (refine BT ?_; clear hA hH; rintro _ w ⟨bN, rfl, hH⟩ a hA) | (refine LT ?_; clear hA hH; rintro _ w ⟨oN, rfl, hH⟩ a hA) | (refine AT ?_; clear hA; rintro _ w ⟨oN, cN, rfl, hH2⟩ a hA; clear hH; have hH := (hH2 _ (by (repeat constructor))).tail; clear hH2) | (refine S0T ?_; clear hH; rintro _ w hH) )) | ((first | refine CT ?_ | (refine DT ?_ ?_ <;> intro hc <;> try (exfalso; omega))) <;> repeat' refine CT ?_) | (first | (refine DSK ?_; clear hA a; intro a hA) | (first | (refine DLT ?_; clear hA hH; rintro _ w ⟨oN, rfl, hH⟩; refine ⟨STT, ?_⟩; intro a hA) | (refine DAT ?_; clear hA; rintro _ w ⟨oN, cN, rfl, hH2⟩; clear hH; have hH := (hH2 _ (by (repeat constructor))).tail; clear hH2; refine ⟨STT, ?_⟩; intro a hA))) )
  (refine st_op hA rfl rfl (by decide) (op_call rfl rfl rfl (num_spec _ x0)) ?_; clear hA; rintro _ w ⟨rfl, hk⟩ a hA; replace hH := hH.keep hk; clear hk)
  repeat' (first | (first | (refine GT ?_ ?_ <;> intro hg <;> clear hA a <;> intro a hA <;> (first | exact FA | replace hg := of_decide_eq_true hg | replace hg := of_decide_eq_false hg | skip)) | (refine QT ?_; clear hA a; intro a hA) | (first | (refine BT ?_; clear hA hH; rintro _ w ⟨bN, rfl, hH⟩ a hA) | (refine LT ?_; clear hA hH; rintro _ w ⟨oN, rfl, hH⟩ a hA) | (refine AT ?_; clear hA; rintro _ w ⟨oN, cN, rfl, hH2⟩ a hA; clear hH; have hH := (hH2 _ (by (repeat constructor))).tail; clear hH2) | (refine S0T ?_; clear hH; rintro _ w hH) )) | ((first | refine CT ?_ | (refine DT ?_ ?_ <;> intro hc <;> try (exfalso; omega))) <;> repeat' refine CT ?_) | (first | (refine DSK ?_; clear hA a; intro a hA) | (first | (refine DLT ?_; clear hA hH; rintro _ w ⟨oN, rfl, hH⟩; refine ⟨STT, ?_⟩; intro a hA) | (refine DAT ?_; clear hA; rintro _ w ⟨oN, cN, rfl, hH2⟩; clear hH; have hH := (hH2 _ (by (repeat constructor))).tail; clear hH2; refine ⟨STT, ?_⟩; intro a hA))) )
  (refine st_op hA rfl rfl (by decide) (op_call rfl rfl rfl (isnum_spec _ x0 hUg)) ?_; clear hA; rintro _ w ⟨rfl, hk⟩ a hA; replace hH := hH.keep hk; clear hk)
  cases hn : numW x0 with
  | false =>
    rw [hn] at hA
    rw [if_pos (.inl rfl)]
    repeat' (first | (first | (refine GT ?_ ?_ <;> intro hg <;> clear hA a <;> intro a hA <;> (first | exact FA | replace hg := of_decide_eq_true hg | replace hg := of_decide_eq_false hg | skip)) | (refine QT ?_; clear hA a; intro a hA) | (first | (refine BT ?_; clear hA hH; rintro _ w ⟨bN, rfl, hH⟩ a hA) | (refine LT ?_; clear hA hH; rintro _ w ⟨oN, rfl, hH⟩ a hA) | (refine AT ?_; clear hA; rintro _ w ⟨oN, cN, rfl, hH2⟩ a hA; clear hH; have hH := (hH2 _ (by (repeat constructor))).tail; clear hH2) | (refine S0T ?_; clear hH; rintro _ w hH) )) | ((first | refine CT ?_ | (refine DT ?_ ?_ <;> intro hc <;> try (exfalso; omega))) <;> repeat' refine CT ?_) | (first | (refine DSK ?_; clear hA a; intro a hA) | (first | (refine DLT ?_; clear hA hH; rintro _ w ⟨oN, rfl, hH⟩; refine ⟨STT, ?_⟩; intro a hA) | (refine DAT ?_; clear hA; rintro _ w ⟨oN, cN, rfl, hH2⟩; clear hH; have hH := (hH2 _ (by (repeat constructor))).tail; clear hH2; refine ⟨STT, ?_⟩; intro a hA))) )
    exact rt2 (.inl rfl) rfl hA rfl rfl ⟨rfl, hH⟩
  | true =>
    rw [hn] at hA
    by_cases hr : 0 ≤ numV x0 ∧ numV x0 ≤ 32768
    rotate_left
    · rw [if_pos (by omega)]
      repeat' (first | (first | (refine GT ?_ ?_ <;> intro hg <;> clear hA a <;> intro a hA <;> (first | exact FA | replace hg := of_decide_eq_true hg | replace hg := of_decide_eq_false hg | skip)) | (refine QT ?_; clear hA a; intro a hA) | (first | (refine BT ?_; clear hA hH; rintro _ w ⟨bN, rfl, hH⟩ a hA) | (refine LT ?_; clear hA hH; rintro _ w ⟨oN, rfl, hH⟩ a hA) | (refine AT ?_; clear hA; rintro _ w ⟨oN, cN, rfl, hH2⟩ a hA; clear hH; have hH := (hH2 _ (by (repeat constructor))).tail; clear hH2) | (refine S0T ?_; clear hH; rintro _ w hH) )) | ((first | refine CT ?_ | (refine DT ?_ ?_ <;> intro hc <;> try (exfalso; omega))) <;> repeat' refine CT ?_) | (first | (refine DSK ?_; clear hA a; intro a hA) | (first | (refine DLT ?_; clear hA hH; rintro _ w ⟨oN, rfl, hH⟩; refine ⟨STT, ?_⟩; intro a hA) | (refine DAT ?_; clear hA; rintro _ w ⟨oN, cN, rfl, hH2⟩; clear hH; have hH := (hH2 _ (by (repeat constructor))).tail; clear hH2; refine ⟨STT, ?_⟩; intro a hA))) )
      all_goals exact rt2 (.inl rfl) rfl hA rfl rfl ⟨rfl, hH⟩
    obtain ⟨n, hnn⟩ : ∃ n : Nat, numV x0 = n := ⟨(numV x0).toNat, by omega⟩
    rw [hnn] at hA hr ⊢
    repeat' (first | (first | (refine GT ?_ ?_ <;> intro hg <;> clear hA a <;> intro a hA <;> (first | exact FA | replace hg := of_decide_eq_true hg | replace hg := of_decide_eq_false hg | skip)) | (refine QT ?_; clear hA a; intro a hA) | (first | (refine BT ?_; clear hA hH; rintro _ w ⟨bN, rfl, hH⟩ a hA) | (refine LT ?_; clear hA hH; rintro _ w ⟨oN, rfl, hH⟩ a hA) | (refine AT ?_; clear hA; rintro _ w ⟨oN, cN, rfl, hH2⟩ a hA; clear hH; have hH := (hH2 _ (by (repeat constructor))).tail; clear hH2) | (refine S0T ?_; clear hH; rintro _ w hH) | (refine st_op hA rfl rfl (by decide) (op_call rfl rfl rfl (ssize_f hH hok hU)) ?_; clear hA hH; rintro _ w ⟨rfl, hH⟩ a hA))) | ((first | refine CT ?_ | (refine DT ?_ ?_ <;> intro hc <;> try (exfalso; omega))) <;> repeat' refine CT ?_) | (first | (refine DSK ?_; clear hA a; intro a hA) | (first | (refine DLT ?_; clear hA hH; rintro _ w ⟨oN, rfl, hH⟩; refine ⟨STT, ?_⟩; intro a hA) | (refine DAT ?_; clear hA; rintro _ w ⟨oN, cN, rfl, hH2⟩; clear hH; have hH := (hH2 _ (by (repeat constructor))).tail; clear hH2; refine ⟨STT, ?_⟩; intro a hA))) )
    have hq : IntKind.i64.wrap (((n : Int) + 7).tdiv 8) = ((n : Int) + 7) / 8 := by
      rw [Int.tdiv_eq_ediv_of_nonneg (by omega)]
      exact wrap_i64 ⟨by omega, by omega⟩
    rw [hq] at hA
    by_cases hsz : (sizeA g.s.L (atA g.s.L x : Nat)).1 ≠ 1 + ((n : Int) + 7) / 8
    · rw [if_pos (.inr (.inr (.inr hsz)))]
      repeat' (first | (first | (refine GT ?_ ?_ <;> intro hg <;> clear hA a <;> intro a hA <;> (first | exact FA | replace hg := of_decide_eq_true hg | replace hg := of_decide_eq_false hg | skip)) | (refine QT ?_; clear hA a; intro a hA) | (first | (refine BT ?_; clear hA hH; rintro _ w ⟨bN, rfl, hH⟩ a hA) | (refine LT ?_; clear hA hH; rintro _ w ⟨oN, rfl, hH⟩ a hA) | (refine AT ?_; clear hA; rintro _ w ⟨oN, cN, rfl, hH2⟩ a hA; clear hH; have hH := (hH2 _ (by (repeat constructor))).tail; clear hH2) | (refine S0T ?_; clear hH; rintro _ w hH) )) | ((first | refine CT ?_ | (refine DT ?_ ?_ <;> intro hc <;> try (exfalso; omega))) <;> repeat' refine CT ?_) | (first | (refine DSK ?_; clear hA a; intro a hA) | (first | (refine DLT ?_; clear hA hH; rintro _ w ⟨oN, rfl, hH⟩; refine ⟨STT, ?_⟩; intro a hA) | (refine DAT ?_; clear hA; rintro _ w ⟨oN, cN, rfl, hH2⟩; clear hH; have hH := (hH2 _ (by (repeat constructor))).tail; clear hH2; refine ⟨STT, ?_⟩; intro a hA))) )
      all_goals exact rt2 (.inl rfl) rfl hA rfl rfl ⟨rfl, hH⟩
    rw [if_neg (by rintro (h | h | h | h); cases h; omega; omega; exact hsz h)]
    rw [Int.toNat_natCast]
    repeat' (first | (first | (refine GT ?_ ?_ <;> intro hg <;> clear hA a <;> intro a hA <;> (first | exact FA | replace hg := of_decide_eq_true hg | replace hg := of_decide_eq_false hg | skip)) | (refine QT ?_; clear hA a; intro a hA) | (first | (refine BT ?_; clear hA hH; rintro _ w ⟨bN, rfl, hH⟩ a hA) | (refine LT ?_; clear hA hH; rintro _ w ⟨oN, rfl, hH⟩ a hA) | (refine AT ?_; clear hA; rintro _ w ⟨oN, cN, rfl, hH2⟩ a hA; clear hH; have hH := (hH2 _ (by (repeat constructor))).tail; clear hH2) | (refine S0T ?_; clear hH; rintro _ w hH) )) | ((first | refine CT ?_ | (refine DT ?_ ?_ <;> intro hc <;> try (exfalso; omega))) <;> repeat' refine CT ?_) | (first | (refine DSK ?_; clear hA a; intro a hA) | (first | (refine DLT ?_; clear hA hH; rintro _ w ⟨oN, rfl, hH⟩; refine ⟨STT, ?_⟩; intro a hA) | (refine DAT ?_; clear hA; rintro _ w ⟨oN, cN, rfl, hH2⟩; clear hH; have hH := (hH2 _ (by (repeat constructor))).tail; clear hH2; refine ⟨STT, ?_⟩; intro a hA))) )
    replace hH := hH.nil_own 5 1
    generalize hF : bytS g.s.L (atA g.s.L x) n = F at *
    have hFl : F.length = n := by rw [← hF]; exact bytS_len
    rw [nil_flatY] at hH
    refine wp_lpj (S := Nat × Option Addr × Nat) (fun p a w => p.1 ≤ n ∧ HS w0 M [stI bs N g, own 5 1 p.2.1 p.1 p.2.2 (flat encY (F.take p.1))] w ∧ Sl 77 [(0, .pointer (some (bat bs 0))), (1, .int .u64 x), (9, .slice p.2.1 p.1 p.2.2), (52, .int .i64 n), (53, .int .i64 p.1)] a) (fun p => n - p.1)
      (fun a w => ∃ o c, HS w0 M [stI bs N g, own 5 1 o n c (flat encY F)] w ∧ Sl 77 [(9, .slice o n c)] a) (0, none, 0) ⟨Nat.zero_le _, hH.perm (.swap _ _ _), (hA.sub (by (repeat (first | exact trivial | refine ⟨rfl, ?_⟩))))⟩ ?_ ?_
    · clear hA hH
      rintro ⟨k, o, c⟩ a w ⟨hk, hH, hA⟩
      dsimp only at hk hH hA
      by_cases hlt : k < n
      rotate_left
      · obtain rfl : k = n := by omega
        rw [← hFl, List.take_length, hFl] at hH
        repeat' (first | (first | (refine GT ?_ ?_ <;> intro hg <;> clear hA a <;> intro a hA <;> (first | exact FA | replace hg := of_decide_eq_true hg | replace hg := of_decide_eq_false hg | skip)) | (refine QT ?_; clear hA a; intro a hA) | (first | (refine BT ?_; clear hA hH; rintro _ w ⟨bN, rfl, hH⟩ a hA) | (refine LT ?_; clear hA hH; rintro _ w ⟨oN, rfl, hH⟩ a hA) | (refine AT ?_; clear hA; rintro _ w ⟨oN, cN, rfl, hH2⟩ a hA; clear hH; have hH := (hH2 _ (by (repeat constructor))).tail; clear hH2) | (refine S0T ?_; clear hH; rintro _ w hH) )) | ((first | refine CT ?_ | (refine DT ?_ ?_ <;> intro hc <;> try (exfalso; omega))) <;> repeat' refine CT ?_) | (first | (refine DSK ?_; clear hA a; intro a hA) | (first | (refine DLT ?_; clear hA hH; rintro _ w ⟨oN, rfl, hH⟩; refine ⟨STT, ?_⟩; intro a hA) | (refine DAT ?_; clear hA; rintro _ w ⟨oN, cN, rfl, hH2⟩; clear hH; have hH := (hH2 _ (by (repeat constructor))).tail; clear hH2; refine ⟨STT, ?_⟩; intro a hA))) )
        exact ⟨o, c, hH, (hA.sub (by (repeat (first | exact trivial | refine ⟨rfl, ?_⟩))))⟩
      repeat' (first | (first | (refine GT ?_ ?_ <;> intro hg <;> clear hA a <;> intro a hA <;> (first | exact FA | replace hg := of_decide_eq_true hg | replace hg := of_decide_eq_false hg | skip)) | (refine QT ?_; clear hA a; intro a hA) | (first | (refine BT ?_; clear hA hH; rintro _ w ⟨bN, rfl, hH⟩ a hA) | (refine LT ?_; clear hA hH; rintro _ w ⟨oN, rfl, hH⟩ a hA) | (refine AT ?_; clear hA; rintro _ w ⟨oN, cN, rfl, hH2⟩ a hA; clear hH; have hH := (hH2 _ (by (repeat constructor))).tail; clear hH2) | (refine S0T ?_; clear hH; rintro _ w hH) )) | ((first | refine CT ?_ | (refine DT ?_ ?_ <;> intro hc <;> try (exfalso; omega))) <;> repeat' refine CT ?_) | (first | (refine DSK ?_; clear hA a; intro a hA) | (first | (refine DLT ?_; clear hA hH; rintro _ w ⟨oN, rfl, hH⟩; refine ⟨STT, ?_⟩; intro a hA) | (refine DAT ?_; clear hA; rintro _ w ⟨oN, cN, rfl, hH2⟩; clear hH; have hH := (hH2 _ (by (repeat constructor))).tail; clear hH2; refine ⟨STT, ?_⟩; intro a hA))) )
      have hq8 : IntKind.i64.wrap ((k : Int).tdiv 8) = ((k / 8 : Nat) : Int) := by
        rw [Int.tdiv_eq_ediv_of_nonneg (by omega)]
        have : (k : Int) / 8 = ((k / 8 : Nat) : Int) := by omega
        rw [this]
        exact wrap_i64 ⟨by omega, by omega⟩
      have hr8 : (k : Int).tmod 8 = ((k % 8 : Nat) : Int) := by
        rw [Int.tmod_eq_emod_of_nonneg (by omega)]
        omega
      rw [hq8] at hA
      repeat' (first | (first | (refine GT ?_ ?_ <;> intro hg <;> clear hA a <;> intro a hA <;> (first | exact FA | replace hg := of_decide_eq_true hg | replace hg := of_decide_eq_false hg | skip)) | (refine QT ?_; clear hA a; intro a hA) | (first | (refine BT ?_; clear hA hH; rintro _ w ⟨bN, rfl, hH⟩ a hA) | (refine LT ?_; clear hA hH; rintro _ w ⟨oN, rfl, hH⟩ a hA) | (refine AT ?_; clear hA; rintro _ w ⟨oN, cN, rfl, hH2⟩ a hA; clear hH; have hH := (hH2 _ (by (repeat constructor))).tail; clear hH2) | (refine S0T ?_; clear hH; rintro _ w hH) )) | ((first | refine CT ?_ | (refine DT ?_ ?_ <;> intro hc <;> try (exfalso; omega))) <;> repeat' refine CT ?_) | (first | (refine DSK ?_; clear hA a; intro a hA) | (first | (refine DLT ?_; clear hA hH; rintro _ w ⟨oN, rfl, hH⟩; refine ⟨STT, ?_⟩; intro a hA) | (refine DAT ?_; clear hA; rintro _ w ⟨oN, cN, rfl, hH2⟩; clear hH; have hH := (hH2 _ (by (repeat constructor))).tail; clear hH2; refine ⟨STT, ?_⟩; intro a hA))) )
      rw [show (1 : Int) + ((k / 8 : Nat) : Int) = ((1 + k / 8 : Nat) : Int) by omega] at hA
      (refine st_op hA rfl rfl (by decide) (op_call rfl rfl rfl (sget_f hH hok hU)) ?_; clear hA hH; rintro _ w ⟨rfl, hH⟩ a hA)
      have hby := byS_is (L := g.s.L) (a := atA g.s.L x) (k := k) rfl
      have hFk : F[k]? = some (byS g.s.L (atA g.s.L x) k) := by rw [← hF]; exact bytS_at hlt
      generalize byS g.s.L (atA g.s.L x) k = yb at *
      generalize (getA g.s.L (atA g.s.L x : Nat) ((1 + k / 8 : Nat) : Int)).1 = yg at *
      repeat' (first | (first | (refine GT ?_ ?_ <;> intro hg <;> clear hA a <;> intro a hA <;> (first | exact FA | replace hg := of_decide_eq_true hg | replace hg := of_decide_eq_false hg | skip)) | (refine QT ?_; clear hA a; intro a hA) | (first | (refine BT ?_; clear hA hH; rintro _ w ⟨bN, rfl, hH⟩ a hA) | (refine LT ?_; clear hA hH; rintro _ w ⟨oN, rfl, hH⟩ a hA) | (refine AT ?_; clear hA; rintro _ w ⟨oN, cN, rfl, hH2⟩ a hA; clear hH; have hH := (hH2 _ (by (repeat constructor))).tail; clear hH2) | (refine S0T ?_; clear hH; rintro _ w hH) )) | ((first | refine CT ?_ | (refine DT ?_ ?_ <;> intro hc <;> try (exfalso; omega))) <;> repeat' refine CT ?_) | (first | (refine DSK ?_; clear hA a; intro a hA) | (first | (refine DLT ?_; clear hA hH; rintro _ w ⟨oN, rfl, hH⟩; refine ⟨STT, ?_⟩; intro a hA) | (refine DAT ?_; clear hA; rintro _ w ⟨oN, cN, rfl, hH2⟩; clear hH; have hH := (hH2 _ (by (repeat constructor))).tail; clear hH2; refine ⟨STT, ?_⟩; intro a hA))) )
      rw [hr8] at hA
      repeat' (first | (first | (refine GT ?_ ?_ <;> intro hg <;> clear hA a <;> intro a hA <;> (first | exact FA | replace hg := of_decide_eq_true hg | replace hg := of_decide_eq_false hg | skip)) | ((first | apply st_ex hA hH rfl rfl (by decide) | apply dr_ex hA rfl rfl rfl (by decide) | apply dr_exp hA rfl rfl rfl (by decide) | apply dr_ex3 hA hH rfl rfl rfl (by decide)); (first | (apply ex_mul; rfl; rfl; unfold i64ok; omega) | (apply ex_shr (v := shrK .u64 yg (8 * ((k % 8 : Nat) : Int))); rfl; rfl; omega; rfl) | (apply ex_convert (v := (yb : Int)); rfl; exact hby)); clear hA a; intro a hA) | (refine QT ?_; clear hA a; intro a hA) | (first | (refine BT ?_; clear hA hH; rintro _ w ⟨bN, rfl, hH⟩ a hA) | (refine LT ?_; clear hA hH; rintro _ w ⟨oN, rfl, hH⟩ a hA) | (refine AT ?_; clear hA; rintro _ w ⟨oN, cN, rfl, hH2⟩ a hA; clear hH; have hH := (hH2 _ (by (repeat constructor))).tail; clear hH2) | (refine S0T ?_; clear hH; rintro _ w hH) )) | ((first | refine CT ?_ | (refine DT ?_ ?_ <;> intro hc <;> try (exfalso; omega))) <;> repeat' refine CT ?_) | (first | (refine DSK ?_; clear hA a; intro a hA) | (first | (refine DLT ?_; clear hA hH; rintro _ w ⟨oN, rfl, hH⟩; refine ⟨STT, ?_⟩; intro a hA) | (refine DAT ?_; clear hA; rintro _ w ⟨oN, cN, rfl, hH2⟩; clear hH; have hH := (hH2 _ (by (repeat constructor))).tail; clear hH2; refine ⟨STT, ?_⟩; intro a hA))) )
      rw [snocY] at hH
      have htk : F.take k ++ [yb] = F.take (k + 1) := by rw [List.take_add_one, hFk]; rfl
      rw [htk] at hH
      exact ⟨(k + 1, oN, cN), ⟨hlt, hH.perm (by (repeat (first | exact List.Perm.nil | refine perm_pick 0 rfl ?_ | refine perm_pick 1 rfl ?_ | refine perm_pick 2 rfl ?_ | refine perm_pick 3 rfl ?_ | refine perm_pick 4 rfl ?_ | refine perm_pick 5 rfl ?_ | refine perm_pick 6 rfl ?_ | refine perm_pick 7 rfl ?_ | refine perm_pick 8 rfl ?_ | refine perm_pick 9 rfl ?_ | refine perm_pick 10 rfl ?_ | refine perm_pick 11 rfl ?_))), (hA.sub (by (repeat (first | exact trivial | refine ⟨rfl, ?_⟩))))⟩, by show n - (k + 1) < n - k; omega⟩
    · clear hA hH
      rintro a w ⟨o, c, hH, hA⟩
      repeat' (first | (first | (refine GT ?_ ?_ <;> intro hg <;> clear hA a <;> intro a hA <;> (first | exact FA | replace hg := of_decide_eq_true hg | replace hg := of_decide_eq_false hg | skip)) | ((first | apply st_ex hA hH rfl rfl (by decide) | apply dr_ex hA rfl rfl rfl (by decide) | apply dr_exp hA rfl rfl rfl (by decide) | apply dr_ex3 hA hH rfl rfl rfl (by decide)); (first | (apply ex_ofBytes (l' := F); rfl; exact hFl; exact fun w h => h.own_rd (by exact MEMT))); clear hA a; intro a hA) | (refine QT ?_; clear hA a; intro a hA) | (first | (refine BT ?_; clear hA hH; rintro _ w ⟨bN, rfl, hH⟩ a hA) | (refine LT ?_; clear hA hH; rintro _ w ⟨oN, rfl, hH⟩ a hA) | (refine AT ?_; clear hA; rintro _ w ⟨oN, cN, rfl, hH2⟩ a hA; clear hH; have hH := (hH2 _ (by (repeat constructor))).tail; clear hH2) | (refine S0T ?_; clear hH; rintro _ w hH) )) | ((first | refine CT ?_ | (refine DT ?_ ?_ <;> intro hc <;> try (exfalso; omega))) <;> repeat' refine CT ?_) | (first | (refine DSK ?_; clear hA a; intro a hA) | (first | (refine DLT ?_; clear hA hH; rintro _ w ⟨oN, rfl, hH⟩; refine ⟨STT, ?_⟩; intro a hA) | (refine DAT ?_; clear hA; rintro _ w ⟨oN, cN, rfl, hH2⟩; clear hH; have hH := (hH2 _ (by (repeat constructor))).tail; clear hH2; refine ⟨STT, ?_⟩; intro a hA))) )
      exact rt2 (.inl rfl) rfl hA rfl rfl ⟨rfl, HS.left (H1 := [_]) hH⟩
end Go.Proofs.Ytdfhajdejlhamaa
namespace Go.Proofs.Ytdfhajdejlhamaa
open Go Go.Fw
set_option linter.unusedVariables false
section
variable {N : Nat} {s : GS} {g : SS} {L : List Ob} {o : Ob}
theorem step_sub (h : GOk N s) : ∀ o ∈ (stepG s).2.L, o ∈ s.L := by
  rcases step_cases h with ⟨h0, e⟩ | ⟨h0, g, ha, e⟩ | ⟨h0, hg, e⟩ | ⟨h0, hno, h1, e⟩ | ⟨h0, o, ho, h1, h2, h3, e⟩ <;> rw [e]
  · exact fun o ho => ho
  · intro o ho
    have := (mark_ok h h0 ha).2.1
    rw [← this]; exact ho
  · exact fun o ho => ho
  · exact fun o ho => ho
  · exact fun x hx => ((sweep_ok h h0 ho h2 h3).2.2.2.1 x hx).1
theorem keep_step (h : GOk N s) (ho : o ∈ s.L) (hP : Pt s o.a) : o ∈ (stepG s).2.L ∧ Pt (stepG s).2 o.a := by
  obtain ⟨h1, h2⟩ := Pt_step h hP (k := o.kind) ⟨o, ho, rfl, rfl⟩
  obtain ⟨x, hx, hxa⟩ := h1.1
  have := h.lay.inj x (step_sub h x hx) o ho hxa
  exact ⟨this ▸ hx, h1⟩
theorem beg_L (h : GOk N s) (roots : List Int) : (beginG s roots).2.L = s.L := by
  by_cases hp : s.ph = 0
  · obtain ⟨s', e, g1, g2, g3, g4, g5, g6⟩ := begin_facts h hp roots
    rw [e]; exact g3
  · have : beginG s roots = (9, s) := if_neg hp
    rw [this]
theorem keep_begin (h : GOk N s) {roots : List Int} (ho : o ∈ s.L) (hP : Pt s o.a) (hr : Rc s.L roots o.a) : o ∈ (beginG s roots).2.L ∧ Pt (beginG s roots).2 o.a := by
  refine ⟨by rw [beg_L h]; exact ho, ?_⟩
  by_cases hp : s.ph = 0
  · exact (Pt_begin h hp roots hr (k := o.kind) ⟨o, ho, rfl, rfl⟩).1
  · have : beginG s roots = (9, s) := if_neg hp
    rw [this]; exact hP
/-! ## laying -/
/-! ## fields -/
theorem atA_obj (hl : Lay N 1 L) (ho : o ∈ L) {x : Int} (h1 : numW x = false) (h2 : addrN x = o.a) : atA L x = o.a := by
  rw [at_yes h1 (by rw [h2]; exact ⟨o, ho, rfl⟩), h2]
theorem fld_obj (hl : Lay N 1 L) (ho : o ∈ L) {i : Nat} {y : Int} (hy : o.fs[i]? = some y) : getA L (o.a : Int) (i : Int) = (y, 0) := by
  unfold getA
  rw [objA_mem hl ho]
  obtain ⟨h1, h2⟩ := List.getElem?_eq_some_iff.1 hy
  dsimp only
  rw [if_pos ⟨by omega, by omega⟩]
  simp [hy]
end
end Go.Proofs.Ytdfhajdejlhamaa
