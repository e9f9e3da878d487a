/-
  The walk over the document's String. Conditions: none.
  The walks over the document's Fields and Text. Conditions: none.
  A text that is laid is read as it was (plain law). Conditions: none.
  The walks over awake and StoreTexts. Conditions: none.
-/
import Derived.Test.YtdfhajdejlhamaaRowDoesMg10
import Derived.Test.YtdfhajdejlhamaaRowDoesMg8
namespace Go.Proofs.Ytdfhajdejlhamaa
open Go Go.Fw
set_option linter.unusedVariables false
theorem strS_0 {L : List Ob} {x : Int} (h : atA L x = 0) : strS L x = (ByteArray.empty, 7) := by unfold strS; rw [if_pos h]
theorem strS_k {L : List Ob} {x : Int} {o : Ob} (hl : L.length ≤ 65536) {N : Nat} (hL : Lay N 1 L) (ho : o ∈ L) (ha : atA L x = o.a) (hk : o.kind ≠ 1) : strS L x = (ByteArray.empty, 8) := by
  have h1 := (hL.mem o ho).1
  unfold strS
  rw [ha, if_neg (by omega), (kind_obj hL (objA_mem hL ho)).1, if_pos (by dsimp only; omega)]
theorem strS_f {L : List Ob} {x : Int} {o : Ob} {N : Nat} (hL : Lay N 1 L) (ho : o ∈ L) (ha : atA L x = o.a) (hk : o.kind = 1) (hf : numW (o.fs.getD 0 0) = false ∨ numV (o.fs.getD 0 0) < 0 ∨ 32768 < numV (o.fs.getD 0 0) ∨ (o.fs.length : Int) ≠ 1 + (numV (o.fs.getD 0 0) + 7) / 8) : strS L x = (ByteArray.empty, 5) := by
  have h1 := (hL.mem o ho).1
  have h2 : (getA L (o.a : Int) 0).1 = o.fs.getD 0 0 := by
    cases hfs : o.fs with
    | nil => simp [getA, objA_mem hL ho, hfs]
    | cons f fs =>
      have h3 := fld_obj hL ho (i := 0) (y := f) (by rw [hfs]; rfl)
      show (getA L (o.a : Int) ((0 : Nat) : Int)).1 = _
      rw [h3]
      rfl
  unfold strS
  rw [ha, if_neg (by omega), (kind_obj hL (objA_mem hL ho)).1, if_neg (by dsimp only; omega), h2, (kind_obj hL (objA_mem hL ho)).2, if_pos hf]
theorem strS_y {L : List Ob} {x : Int} {o : Ob} {N n : Nat} (hL : Lay N 1 L) (ho : o ∈ L) (ha : atA L x = o.a) (hk : o.kind = 1) (h0 : numW (o.fs.getD 0 0) = true) (hn : numV (o.fs.getD 0 0) = n) (hn2 : n ≤ 32768) (hlen : (o.fs.length : Int) = 1 + ((n : Int) + 7) / 8) : strS L x = (ofB (bytS L o.a n), 0) := by
  have h1 := (hL.mem o ho).1
  have h2 : (getA L (o.a : Int) 0).1 = o.fs.getD 0 0 := by
    cases hfs : o.fs with
    | nil => rw [hfs] at hlen; simp at hlen; omega
    | cons f fs =>
      have h3 := fld_obj hL ho (i := 0) (y := f) (by rw [hfs]; rfl)
      show (getA L (o.a : Int) ((0 : Nat) : Int)).1 = _
      rw [h3]
      rfl
  unfold strS
  rw [ha, if_neg (by omega), (kind_obj hL (objA_mem hL ho)).1, if_neg (by dsimp only; omega), h2, (kind_obj hL (objA_mem hL ho)).2, h0, hn, if_neg (by rintro (h | h | h | h); cases h; omega; omega; dsimp only at h; omega), Int.toNat_natCast]
theorem quo256 {y : Int} {k : Nat} (h : U y) : IntKind.u64.wrap ((y / 256 ^ k).tdiv 256) = y / 256 ^ (k + 1) := by
  have h1 : 0 ≤ y / 256 ^ k := Int.ediv_nonneg h.1 (Int.pow_nonneg (by decide))
  have h2 : y / 256 ^ k / 256 = y / 256 ^ (k + 1) := by
    rw [Int.pow_succ, Int.ediv_ediv_of_nonneg (Int.pow_nonneg (by decide))]
  have h3 : 0 ≤ y / 256 ^ (k + 1) := Int.ediv_nonneg h.1 (Int.pow_nonneg (by decide))
  have h4 : y / 256 ^ (k + 1) ≤ y := Int.ediv_le_self _ h.1
  have h5 := h.2
  rw [Int.tdiv_eq_ediv_of_nonneg h1, h2, u64_mod, Int.emod_eq_of_lt h3 (by omega)]
theorem last8 {L : List Ob} {a k : Nat} {y : Int} (hU : U y) (hy : getA L (a : Int) ((1 + k / 8 : Nat) : Int) = (y, 0)) : IntKind.u8.wrap ((y / 256 ^ (k % 8)).tmod 256) = (byS L a k : Int) := by
  have h1 : 0 ≤ y / 256 ^ (k % 8) := Int.ediv_nonneg hU.1 (Int.pow_nonneg (by decide))
  unfold byS
  rw [hy, Int.tmod_eq_emod_of_nonneg h1]
  show ((y / 256 ^ (k % 8)) % 256) % 256 = _
  have := Int.emod_nonneg (y / 256 ^ (k % 8)) (show (256 : Int) ≠ 0 by decide)
  dsimp only
  omega
theorem pow0 (y : Int) : y / 256 ^ 0 = y := by simp
theorem zero_noL {N : Nat} {L : List Ob} (h : Lay N 1 L) : isA L ((0 : Nat) : Int) = false := by
  cases hx : isA L ((0 : Nat) : Int) with
  | false => rfl
  | true => have := isO_lt h (isO_iff.1 hx); omega
theorem atA_is {L : List Ob} {x : Int} (h : ¬ atA L x = 0) : isO L (atA L x) := by
  unfold atA at h ⊢
  split
  · rename_i hc; exact hc.2
  · rename_i hc; rw [if_neg hc] at h; exact absurd rfl h
theorem numW0 : numW (([] : List Int).getD 0 0) = false := by decide
theorem own_nilY (T : Nat) (o : Option Addr) : own T 1 o 0 0 [] = own T 1 o 0 0 (flat encY []) := rfl
set_option maxRecDepth 10000 attribute [local irreducible] Code.wp wpList Calls Ex Op1 sat bat blk cb own Go.Fw.mp Go.Fw.mpO Go.Fw.mpI Go.Fw.mpE Go.Fw.itr HS Rd Ret wkD Hp Cl Cls Exit.then Exit.inBlock Exit.noGoto bodyPost Go.Fw.flat wk2 Go.Fw.all Go.Fw.owns wpOp
attribute [local irreducible] hdA gaps isA nextA allocA freeA sizeA kindA setA getA whiteZ numW addrW shadeG gcI hpI stepG beginG writeG allocG mu atA endS finG rfI gdI AtT allocS tryS reachA numV findI obV strS bytS

set_option maxHeartbeats 4000000 in
theorem dstring_spec (w0 : World) (bm bd b2 N : Nat) (s : GS) (q : RQ) (x : Int) (hok : GOk N s) (hU : U x) (hR : SdR w0 bm bd b2 N s.L q) :
    Ret Try.prog 61 #[.pointer (some (bat bm 0)), .int .u64 x] w0 (fun v w => v = .tuple #[.string (strS s.L x).1, .int .i64 (strS s.L x).2] ∧ Kp w0 noM w) := by
  have hH : HS w0 noM [] w0 := HS.init w0 noM
  have hl := hok.lay
  have hLl : s.L.length ≤ 65536 := Ok.len ⟨hok.n2, hok.lay, hok.kd⟩
  (refine enter (N := 99) Try.func61 rfl Try.ntmps61 rfl ?_; intro a hA; dsimp only [sl0, Nat.reduceAdd] at hA)
  repeat' (first | (first | (refine GT ?_ ?_ <;> intro hg <;> clear hA a <;> intro a hA <;> (first | exact FA | replace hg := of_decide_eq_true hg | replace hg := of_decide_eq_false hg | skip)) | (refine QT ?_; clear hA a; intro a hA) | (first | (refine BT ?_; clear hA hH; rintro _ w ⟨bN, rfl, hH⟩ a hA) | (refine LT ?_; clear hA hH; rintro _ w ⟨oN, rfl, hH⟩ a hA) | (refine AT ?_; clear hA; rintro _ w ⟨oN, cN, rfl, hH2⟩ a hA; clear hH; have hH := (hH2 _ (by (repeat constructor))).tail; clear hH2) | (refine S0T ?_; clear hH; rintro _ w hH) )) | ((first | refine CT ?_ | (refine DT ?_ ?_ <;> intro hc <;> try (exfalso; omega))) <;> repeat' refine CT ?_) | (first | (refine DSK ?_; clear hA a; intro a hA) | (first | (refine DLT ?_; clear hA hH; rintro _ w ⟨oN, rfl, hH⟩; refine ⟨STT, ?_⟩; intro a hA) | (refine DAT ?_; clear hA; rintro _ w ⟨oN, cN, rfl, hH2⟩; clear hH; have hH := (hH2 _ (by (repeat constructor))).tail; clear hH2; refine ⟨STT, ?_⟩; intro a hA))) )
  (refine st_op hA rfl rfl (by decide) (op_call rfl rfl rfl (object_spec _ bm bd b2 N s.L q x hLl hU (hR.keep hH.kp))) ?_; clear hA; rintro _ w ⟨rfl, hk⟩ a hA; replace hH := hH.keep hk; clear hk)
  by_cases h0 : atA s.L x = 0
  · have hf : findI s.L (atA s.L x : Nat) < 0 := find_neg.2 (by rw [h0]; exact zero_noL hl)
    rw [strS_0 h0]
    rw [decide_eq_true hf, obV_no hf] at hA
    repeat' (first | (first | (refine GT ?_ ?_ <;> intro hg <;> clear hA a <;> intro a hA <;> (first | exact FA | replace hg := of_decide_eq_true hg | replace hg := of_decide_eq_false hg | skip)) | (refine QT ?_; clear hA a; intro a hA) | (first | (refine BT ?_; clear hA hH; rintro _ w ⟨bN, rfl, hH⟩ a hA) | (refine LT ?_; clear hA hH; rintro _ w ⟨oN, rfl, hH⟩ a hA) | (refine AT ?_; clear hA; rintro _ w ⟨oN, cN, rfl, hH2⟩ a hA; clear hH; have hH := (hH2 _ (by (repeat constructor))).tail; clear hH2) | (refine S0T ?_; clear hH; rintro _ w hH) | (apply st_op0 hA rfl rfl; apply op_store_agg (vs := [.int .i64 0, .int .i64 0, .slice none 0 0]); rfl; rfl; exact hH; (repeat constructor); (repeat rfl); clear hH; rintro _ w hH))) | ((first | refine CT ?_ | (refine DT ?_ ?_ <;> intro hc <;> try (exfalso; omega))) <;> repeat' refine CT ?_) | (first | (refine DSK ?_; clear hA a; intro a hA) | (first | (refine DLT ?_; clear hA hH; rintro _ w ⟨oN, rfl, hH⟩; refine ⟨STT, ?_⟩; intro a hA) | (refine DAT ?_; clear hA; rintro _ w ⟨oN, cN, rfl, hH2⟩; clear hH; have hH := (hH2 _ (by (repeat constructor))).tail; clear hH2; refine ⟨STT, ?_⟩; intro a hA))) )
    exact rt2 (.inl rfl) rfl hA rfl rfl ⟨rfl, hH.kp⟩
  obtain ⟨j, o, hj1, hj2, hja, hjo⟩ := find_is hl (atA_is h0)
  have hat := hja.symm
  obtain ⟨d, dc, hd, hrd, -, -, -⟩ := hR.q.at hj2
  have hspd : Sp d o.fs.length := hrd.sp (sz := 1) (flat_length encW_len o.fs) (by omega)
  have hod := (hok.kd o hjo).2
  rw [hj1, decide_eq_false (by omega), obV_at hj2 hd] at hA
  have hu : encO (o, (d, o.fs.length, dc)) = [.int .i64 o.a, .int .i64 o.kind, .slice d o.fs.length dc] := rfl
  rw [hu] at hA
  by_cases hk : o.kind = 1
  rotate_left
  · rw [strS_k hLl hl hjo hat hk]
    repeat' (first | (first | (refine GT ?_ ?_ <;> intro hg <;> clear hA a <;> intro a hA <;> (first | exact FA | replace hg := of_decide_eq_true hg | replace hg := of_decide_eq_false hg | skip)) | (refine QT ?_; clear hA a; intro a hA) | (first | (refine BT ?_; clear hA hH; rintro _ w ⟨bN, rfl, hH⟩ a hA) | (refine LT ?_; clear hA hH; rintro _ w ⟨oN, rfl, hH⟩ a hA) | (refine AT ?_; clear hA; rintro _ w ⟨oN, cN, rfl, hH2⟩ a hA; clear hH; have hH := (hH2 _ (by (repeat constructor))).tail; clear hH2) | (refine S0T ?_; clear hH; rintro _ w hH) | (apply st_op0 hA rfl rfl; apply op_store_agg (vs := [.int .i64 o.a, .int .i64 o.kind, .slice d o.fs.length dc]); rfl; rfl; exact hH; (repeat constructor); (repeat rfl); clear hH; rintro _ w hH))) | ((first | refine CT ?_ | (refine DT ?_ ?_ <;> intro hc <;> try (exfalso; omega))) <;> repeat' refine CT ?_) | (first | (refine DSK ?_; clear hA a; intro a hA) | (first | (refine DLT ?_; clear hA hH; rintro _ w ⟨oN, rfl, hH⟩; refine ⟨STT, ?_⟩; intro a hA) | (refine DAT ?_; clear hA; rintro _ w ⟨oN, cN, rfl, hH2⟩; clear hH; have hH := (hH2 _ (by (repeat constructor))).tail; clear hH2; refine ⟨STT, ?_⟩; intro a hA))) )
    exact rt2 (.inl rfl) rfl hA rfl rfl ⟨rfl, hH.kp⟩
  cases hfs : o.fs with
  | nil =>
    have e0 : o.fs.length = 0 := by rw [hfs]; rfl
    rw [strS_f hl hjo hat hk (.inl (by rw [hfs]; exact numW0))]
    repeat' (first | (first | (refine GT ?_ ?_ <;> intro hg <;> clear hA a <;> intro a hA <;> (first | exact FA | replace hg := of_decide_eq_true hg | replace hg := of_decide_eq_false hg | skip)) | (refine QT ?_; clear hA a; intro a hA) | (first | (refine BT ?_; clear hA hH; rintro _ w ⟨bN, rfl, hH⟩ a hA) | (refine LT ?_; clear hA hH; rintro _ w ⟨oN, rfl, hH⟩ a hA) | (refine AT ?_; clear hA; rintro _ w ⟨oN, cN, rfl, hH2⟩ a hA; clear hH; have hH := (hH2 _ (by (repeat constructor))).tail; clear hH2) | (refine S0T ?_; clear hH; rintro _ w hH) | (apply st_op0 hA rfl rfl; apply op_store_agg (vs := [.int .i64 o.a, .int .i64 o.kind, .slice d o.fs.length dc]); rfl; rfl; exact hH; (repeat constructor); (repeat rfl); clear hH; rintro _ w hH))) | ((first | refine CT ?_ | (refine DT ?_ ?_ <;> intro hc <;> try (exfalso; omega))) <;> repeat' refine CT ?_) | (first | (refine DSK ?_; clear hA a; intro a hA) | (first | (refine DLT ?_; clear hA hH; rintro _ w ⟨oN, rfl, hH⟩; refine ⟨STT, ?_⟩; intro a hA) | (refine DAT ?_; clear hA; rintro _ w ⟨oN, cN, rfl, hH2⟩; clear hH; have hH := (hH2 _ (by (repeat constructor))).tail; clear hH2; refine ⟨STT, ?_⟩; intro a hA))) )
    exact rt2 (.inl rfl) rfl hA rfl rfl ⟨rfl, hH.kp⟩
  | cons f0 fs' =>
    have e0 : 0 < o.fs.length := by rw [hfs]; simp
    have ef : o.fs.getD 0 0 = f0 := by rw [hfs]; rfl
    have eg : o.fs[0]? = some f0 := by rw [hfs]; rfl
    have hUf := hok.us o hjo f0 (List.mem_of_getElem? eg)
    have hcf : (flat encW o.fs)[0 * 1]? = some (.int .u64 f0) := flat_get0 encW_len eg rfl
    clear hfs
    repeat' (first | (first | (refine GT ?_ ?_ <;> intro hg <;> clear hA a <;> intro a hA <;> (first | exact FA | replace hg := of_decide_eq_true hg | replace hg := of_decide_eq_false hg | skip)) | (refine QT ?_; clear hA a; intro a hA) | (first | (refine BT ?_; clear hA hH; rintro _ w ⟨bN, rfl, hH⟩ a hA) | (refine LT ?_; clear hA hH; rintro _ w ⟨oN, rfl, hH⟩ a hA) | (refine AT ?_; clear hA; rintro _ w ⟨oN, cN, rfl, hH2⟩ a hA; clear hH; have hH := (hH2 _ (by (repeat constructor))).tail; clear hH2) | (refine S0T ?_; clear hH; rintro _ w hH) | (apply st_op0 hA rfl rfl; apply op_store_agg (vs := [.int .i64 o.a, .int .i64 o.kind, .slice d o.fs.length dc]); rfl; rfl; exact hH; (repeat constructor); (repeat rfl); clear hH; rintro _ w hH))) | ((first | refine CT ?_ | (refine DT ?_ ?_ <;> intro hc <;> try (exfalso; omega))) <;> repeat' refine CT ?_) | (first | (refine DSK ?_; clear hA a; intro a hA) | (first | (refine DLT ?_; clear hA hH; rintro _ w ⟨oN, rfl, hH⟩; refine ⟨STT, ?_⟩; intro a hA) | (refine DAT ?_; clear hA; rintro _ w ⟨oN, cN, rfl, hH2⟩; clear hH; have hH := (hH2 _ (by (repeat constructor))).tail; clear hH2; refine ⟨STT, ?_⟩; intro a hA))) )
    (refine st_op hA rfl rfl (by decide) (op_call rfl rfl rfl (risnum_spec _ f0 hUf)) ?_; clear hA; rintro _ w ⟨rfl, hk⟩ a hA; replace hH := hH.keep hk; clear hk)
    cases hn : numW f0 with
    | false =>
      rw [strS_f hl hjo hat hk (.inl (by rw [ef]; exact hn))]
      rw [hn] at hA
      repeat' (first | (first | (refine GT ?_ ?_ <;> intro hg <;> clear hA a <;> intro a hA <;> (first | exact FA | replace hg := of_decide_eq_true hg | replace hg := of_decide_eq_false hg | skip)) | (refine QT ?_; clear hA a; intro a hA) | (first | (refine BT ?_; clear hA hH; rintro _ w ⟨bN, rfl, hH⟩ a hA) | (refine LT ?_; clear hA hH; rintro _ w ⟨oN, rfl, hH⟩ a hA) | (refine AT ?_; clear hA; rintro _ w ⟨oN, cN, rfl, hH2⟩ a hA; clear hH; have hH := (hH2 _ (by (repeat constructor))).tail; clear hH2) | (refine S0T ?_; clear hH; rintro _ w hH) )) | ((first | refine CT ?_ | (refine DT ?_ ?_ <;> intro hc <;> try (exfalso; omega))) <;> repeat' refine CT ?_) | (first | (refine DSK ?_; clear hA a; intro a hA) | (first | (refine DLT ?_; clear hA hH; rintro _ w ⟨oN, rfl, hH⟩; refine ⟨STT, ?_⟩; intro a hA) | (refine DAT ?_; clear hA; rintro _ w ⟨oN, cN, rfl, hH2⟩; clear hH; have hH := (hH2 _ (by (repeat constructor))).tail; clear hH2; refine ⟨STT, ?_⟩; intro a hA))) )
      exact rt2 (.inl rfl) rfl hA rfl rfl ⟨rfl, hH.kp⟩
    | true =>
      rw [hn] at hA
      repeat' (first | (first | (refine GT ?_ ?_ <;> intro hg <;> clear hA a <;> intro a hA <;> (first | exact FA | replace hg := of_decide_eq_true hg | replace hg := of_decide_eq_false hg | skip)) | (refine QT ?_; clear hA a; intro a hA) | (first | (refine BT ?_; clear hA hH; rintro _ w ⟨bN, rfl, hH⟩ a hA) | (refine LT ?_; clear hA hH; rintro _ w ⟨oN, rfl, hH⟩ a hA) | (refine AT ?_; clear hA; rintro _ w ⟨oN, cN, rfl, hH2⟩ a hA; clear hH; have hH := (hH2 _ (by (repeat constructor))).tail; clear hH2) | (refine S0T ?_; clear hH; rintro _ w hH) )) | ((first | refine CT ?_ | (refine DT ?_ ?_ <;> intro hc <;> try (exfalso; omega))) <;> repeat' refine CT ?_) | (first | (refine DSK ?_; clear hA a; intro a hA) | (first | (refine DLT ?_; clear hA hH; rintro _ w ⟨oN, rfl, hH⟩; refine ⟨STT, ?_⟩; intro a hA) | (refine DAT ?_; clear hA; rintro _ w ⟨oN, cN, rfl, hH2⟩; clear hH; have hH := (hH2 _ (by (repeat constructor))).tail; clear hH2; refine ⟨STT, ?_⟩; intro a hA))) )
      (refine st_op hA rfl rfl (by decide) (op_call rfl rfl rfl (rnum_spec _ f0 hUf)) ?_; clear hA; rintro _ w ⟨rfl, hk⟩ a hA; replace hH := hH.keep hk; clear hk)
      by_cases hlo : numV f0 < 0
      · rw [strS_f hl hjo hat hk (.inr (.inl (by rw [ef]; exact hlo)))]
        repeat' (first | (first | (refine GT ?_ ?_ <;> intro hg <;> clear hA a <;> intro a hA <;> (first | exact FA | replace hg := of_decide_eq_true hg | replace hg := of_decide_eq_false hg | skip)) | (refine QT ?_; clear hA a; intro a hA) | (first | (refine BT ?_; clear hA hH; rintro _ w ⟨bN, rfl, hH⟩ a hA) | (refine LT ?_; clear hA hH; rintro _ w ⟨oN, rfl, hH⟩ a hA) | (refine AT ?_; clear hA; rintro _ w ⟨oN, cN, rfl, hH2⟩ a hA; clear hH; have hH := (hH2 _ (by (repeat constructor))).tail; clear hH2) | (refine S0T ?_; clear hH; rintro _ w hH) )) | ((first | refine CT ?_ | (refine DT ?_ ?_ <;> intro hc <;> try (exfalso; omega))) <;> repeat' refine CT ?_) | (first | (refine DSK ?_; clear hA a; intro a hA) | (first | (refine DLT ?_; clear hA hH; rintro _ w ⟨oN, rfl, hH⟩; refine ⟨STT, ?_⟩; intro a hA) | (refine DAT ?_; clear hA; rintro _ w ⟨oN, cN, rfl, hH2⟩; clear hH; have hH := (hH2 _ (by (repeat constructor))).tail; clear hH2; refine ⟨STT, ?_⟩; intro a hA))) )
        exact rt2 (.inl rfl) rfl hA rfl rfl ⟨rfl, hH.kp⟩
      repeat' (first | (first | (refine GT ?_ ?_ <;> intro hg <;> clear hA a <;> intro a hA <;> (first | exact FA | replace hg := of_decide_eq_true hg | replace hg := of_decide_eq_false hg | skip)) | (refine QT ?_; clear hA a; intro a hA) | (first | (refine BT ?_; clear hA hH; rintro _ w ⟨bN, rfl, hH⟩ a hA) | (refine LT ?_; clear hA hH; rintro _ w ⟨oN, rfl, hH⟩ a hA) | (refine AT ?_; clear hA; rintro _ w ⟨oN, cN, rfl, hH2⟩ a hA; clear hH; have hH := (hH2 _ (by (repeat constructor))).tail; clear hH2) | (refine S0T ?_; clear hH; rintro _ w hH) )) | ((first | refine CT ?_ | (refine DT ?_ ?_ <;> intro hc <;> try (exfalso; omega))) <;> repeat' refine CT ?_) | (first | (refine DSK ?_; clear hA a; intro a hA) | (first | (refine DLT ?_; clear hA hH; rintro _ w ⟨oN, rfl, hH⟩; refine ⟨STT, ?_⟩; intro a hA) | (refine DAT ?_; clear hA; rintro _ w ⟨oN, cN, rfl, hH2⟩; clear hH; have hH := (hH2 _ (by (repeat constructor))).tail; clear hH2; refine ⟨STT, ?_⟩; intro a hA))) )
      (refine st_op hA rfl rfl (by decide) (op_call rfl rfl rfl (rnum_spec _ f0 hUf)) ?_; clear hA; rintro _ w ⟨rfl, hk⟩ a hA; replace hH := hH.keep hk; clear hk)
      by_cases hhi : 32768 < numV f0
      · rw [strS_f hl hjo hat hk (.inr (.inr (.inl (by rw [ef]; exact hhi))))]
        repeat' (first | (first | (refine GT ?_ ?_ <;> intro hg <;> clear hA a <;> intro a hA <;> (first | exact FA | replace hg := of_decide_eq_true hg | replace hg := of_decide_eq_false hg | skip)) | (refine QT ?_; clear hA a; intro a hA) | (first | (refine BT ?_; clear hA hH; rintro _ w ⟨bN, rfl, hH⟩ a hA) | (refine LT ?_; clear hA hH; rintro _ w ⟨oN, rfl, hH⟩ a hA) | (refine AT ?_; clear hA; rintro _ w ⟨oN, cN, rfl, hH2⟩ a hA; clear hH; have hH := (hH2 _ (by (repeat constructor))).tail; clear hH2) | (refine S0T ?_; clear hH; rintro _ w hH) )) | ((first | refine CT ?_ | (refine DT ?_ ?_ <;> intro hc <;> try (exfalso; omega))) <;> repeat' refine CT ?_) | (first | (refine DSK ?_; clear hA a; intro a hA) | (first | (refine DLT ?_; clear hA hH; rintro _ w ⟨oN, rfl, hH⟩; refine ⟨STT, ?_⟩; intro a hA) | (refine DAT ?_; clear hA; rintro _ w ⟨oN, cN, rfl, hH2⟩; clear hH; have hH := (hH2 _ (by (repeat constructor))).tail; clear hH2; refine ⟨STT, ?_⟩; intro a hA))) )
        exact rt2 (.inl rfl) rfl hA rfl rfl ⟨rfl, hH.kp⟩
      obtain ⟨n, hnn⟩ : ∃ n : Nat, numV f0 = n := ⟨(numV f0).toNat, by omega⟩
      have hn3 : n ≤ 32768 := by omega
      rw [hnn] at hA
      repeat' (first | (first | (refine GT ?_ ?_ <;> intro hg <;> clear hA a <;> intro a hA <;> (first | exact FA | replace hg := of_decide_eq_true hg | replace hg := of_decide_eq_false hg | skip)) | (refine QT ?_; clear hA a; intro a hA) | (first | (refine BT ?_; clear hA hH; rintro _ w ⟨bN, rfl, hH⟩ a hA) | (refine LT ?_; clear hA hH; rintro _ w ⟨oN, rfl, hH⟩ a hA) | (refine AT ?_; clear hA; rintro _ w ⟨oN, cN, rfl, hH2⟩ a hA; clear hH; have hH := (hH2 _ (by (repeat constructor))).tail; clear hH2) | (refine S0T ?_; clear hH; rintro _ w hH) )) | ((first | refine CT ?_ | (refine DT ?_ ?_ <;> intro hc <;> try (exfalso; omega))) <;> repeat' refine CT ?_) | (first | (refine DSK ?_; clear hA a; intro a hA) | (first | (refine DLT ?_; clear hA hH; rintro _ w ⟨oN, rfl, hH⟩; refine ⟨STT, ?_⟩; intro a hA) | (refine DAT ?_; clear hA; rintro _ w ⟨oN, cN, rfl, hH2⟩; clear hH; have hH := (hH2 _ (by (repeat constructor))).tail; clear hH2; refine ⟨STT, ?_⟩; intro a hA))) )
      (refine st_op hA rfl rfl (by decide) (op_call rfl rfl rfl (rnum_spec _ f0 hUf)) ?_; clear hA; rintro _ w ⟨rfl, hk⟩ a hA; replace hH := hH.keep hk; clear hk)
      rw [hnn] at hA
      repeat' (first | (first | (refine GT ?_ ?_ <;> intro hg <;> clear hA a <;> intro a hA <;> (first | exact FA | replace hg := of_decide_eq_true hg | replace hg := of_decide_eq_false hg | skip)) | (refine QT ?_; clear hA a; intro a hA) | (first | (refine BT ?_; clear hA hH; rintro _ w ⟨bN, rfl, hH⟩ a hA) | (refine LT ?_; clear hA hH; rintro _ w ⟨oN, rfl, hH⟩ a hA) | (refine AT ?_; clear hA; rintro _ w ⟨oN, cN, rfl, hH2⟩ a hA; clear hH; have hH := (hH2 _ (by (repeat constructor))).tail; clear hH2) | (refine S0T ?_; clear hH; rintro _ w hH) )) | ((first | refine CT ?_ | (refine DT ?_ ?_ <;> intro hc <;> try (exfalso; omega))) <;> repeat' refine CT ?_) | (first | (refine DSK ?_; clear hA a; intro a hA) | (first | (refine DLT ?_; clear hA hH; rintro _ w ⟨oN, rfl, hH⟩; refine ⟨STT, ?_⟩; intro a hA) | (refine DAT ?_; clear hA; rintro _ w ⟨oN, cN, rfl, hH2⟩; clear hH; have hH := (hH2 _ (by (repeat constructor))).tail; clear hH2; refine ⟨STT, ?_⟩; intro a hA))) )
      refine wp_lpj (S := Nat) (fun k a w => k ≤ (n + 7) / 8 ∧ HS w0 noM [cb bN 53 [.int .i64 o.a, .int .i64 o.kind, .slice d o.fs.length dc]] w ∧ Sl 99 [(6, .pointer (some (bat bN 0))), (8, .int .i64 n), (9, .int .i64 k)] a) (fun k => (n + 7) / 8 - k)
        (fun a w => HS w0 noM [cb bN 53 [.int .i64 o.a, .int .i64 o.kind, .slice d o.fs.length dc]] w ∧ Sl 99 [(6, .pointer (some (bat bN 0))), (8, .int .i64 n), (9, .int .i64 ((n + 7) / 8 : Nat))] a) 0 ⟨Nat.zero_le _, hH, (hA.sub (by (repeat (first | exact trivial | refine ⟨rfl, ?_⟩))))⟩ ?_ ?_
      · clear hA hH
        rintro k a w ⟨hk2, hH, hA⟩
        by_cases hlt : k * 8 < n
        · repeat' (first | (first | (refine GT ?_ ?_ <;> intro hg <;> clear hA a <;> intro a hA <;> (first | exact FA | replace hg := of_decide_eq_true hg | replace hg := of_decide_eq_false hg | skip)) | ((first | apply st_ex hA hH rfl rfl (by decide) | apply dr_ex hA rfl rfl rfl (by decide) | apply dr_exp hA rfl rfl rfl (by decide) | apply dr_ex3 hA hH rfl rfl rfl (by decide)); (first | (apply ex_mul; rfl; rfl; unfold i64ok; omega)); clear hA a; intro a hA) | (refine QT ?_; clear hA a; intro a hA) | (first | (refine BT ?_; clear hA hH; rintro _ w ⟨bN, rfl, hH⟩ a hA) | (refine LT ?_; clear hA hH; rintro _ w ⟨oN, rfl, hH⟩ a hA) | (refine AT ?_; clear hA; rintro _ w ⟨oN, cN, rfl, hH2⟩ a hA; clear hH; have hH := (hH2 _ (by (repeat constructor))).tail; clear hH2) | (refine S0T ?_; clear hH; rintro _ w hH) )) | ((first | refine CT ?_ | (refine DT ?_ ?_ <;> intro hc <;> try (exfalso; omega))) <;> repeat' refine CT ?_) | (first | (refine DSK ?_; clear hA a; intro a hA) | (first | (refine DLT ?_; clear hA hH; rintro _ w ⟨oN, rfl, hH⟩; refine ⟨STT, ?_⟩; intro a hA) | (refine DAT ?_; clear hA; rintro _ w ⟨oN, cN, rfl, hH2⟩; clear hH; have hH := (hH2 _ (by (repeat constructor))).tail; clear hH2; refine ⟨STT, ?_⟩; intro a hA))) )
          exact ⟨k + 1, ⟨by omega, hH, (hA.sub (by (repeat (first | exact trivial | refine ⟨rfl, ?_⟩))))⟩, by omega⟩
        · obtain rfl : k = (n + 7) / 8 := by omega
          repeat' (first | (first | (refine GT ?_ ?_ <;> intro hg <;> clear hA a <;> intro a hA <;> (first | exact FA | replace hg := of_decide_eq_true hg | replace hg := of_decide_eq_false hg | skip)) | ((first | apply st_ex hA hH rfl rfl (by decide) | apply dr_ex hA rfl rfl rfl (by decide) | apply dr_exp hA rfl rfl rfl (by decide) | apply dr_ex3 hA hH rfl rfl rfl (by decide)); (first | (apply ex_mul; rfl; rfl; unfold i64ok; omega)); clear hA a; intro a hA) | (refine QT ?_; clear hA a; intro a hA) | (first | (refine BT ?_; clear hA hH; rintro _ w ⟨bN, rfl, hH⟩ a hA) | (refine LT ?_; clear hA hH; rintro _ w ⟨oN, rfl, hH⟩ a hA) | (refine AT ?_; clear hA; rintro _ w ⟨oN, cN, rfl, hH2⟩ a hA; clear hH; have hH := (hH2 _ (by (repeat constructor))).tail; clear hH2) | (refine S0T ?_; clear hH; rintro _ w hH) )) | ((first | refine CT ?_ | (refine DT ?_ ?_ <;> intro hc <;> try (exfalso; omega))) <;> repeat' refine CT ?_) | (first | (refine DSK ?_; clear hA a; intro a hA) | (first | (refine DLT ?_; clear hA hH; rintro _ w ⟨oN, rfl, hH⟩; refine ⟨STT, ?_⟩; intro a hA) | (refine DAT ?_; clear hA; rintro _ w ⟨oN, cN, rfl, hH2⟩; clear hH; have hH := (hH2 _ (by (repeat constructor))).tail; clear hH2; refine ⟨STT, ?_⟩; intro a hA))) )
          exact ⟨hH, (hA.sub (by (repeat (first | exact trivial | refine ⟨rfl, ?_⟩))))⟩
      clear hA hH
      rintro a w ⟨hH, hA⟩
      by_cases hlen : (o.fs.length : Int) = 1 + ((n : Int) + 7) / 8
      rotate_left
      · rw [strS_f hl hjo hat hk (.inr (.inr (.inr (by rw [ef, hnn]; exact hlen))))]
        repeat' (first | (first | (refine GT ?_ ?_ <;> intro hg <;> clear hA a <;> intro a hA <;> (first | exact FA | replace hg := of_decide_eq_true hg | replace hg := of_decide_eq_false hg | skip)) | (refine QT ?_; clear hA a; intro a hA) | (first | (refine BT ?_; clear hA hH; rintro _ w ⟨bN, rfl, hH⟩ a hA) | (refine LT ?_; clear hA hH; rintro _ w ⟨oN, rfl, hH⟩ a hA) | (refine AT ?_; clear hA; rintro _ w ⟨oN, cN, rfl, hH2⟩ a hA; clear hH; have hH := (hH2 _ (by (repeat constructor))).tail; clear hH2) | (refine S0T ?_; clear hH; rintro _ w hH) )) | ((first | refine CT ?_ | (refine DT ?_ ?_ <;> intro hc <;> try (exfalso; omega))) <;> repeat' refine CT ?_) | (first | (refine DSK ?_; clear hA a; intro a hA) | (first | (refine DLT ?_; clear hA hH; rintro _ w ⟨oN, rfl, hH⟩; refine ⟨STT, ?_⟩; intro a hA) | (refine DAT ?_; clear hA; rintro _ w ⟨oN, cN, rfl, hH2⟩; clear hH; have hH := (hH2 _ (by (repeat constructor))).tail; clear hH2; refine ⟨STT, ?_⟩; intro a hA))) )
        exact rt2 (.inl rfl) rfl hA rfl rfl ⟨rfl, hH.kp⟩
      rw [strS_y hl hjo hat hk (by rw [ef]; exact hn) (by rw [ef]; exact hnn) hn3 hlen]
      generalize hF : bytS s.L o.a n = F at *
      have hFl : F.length = n := by rw [← hF]; exact bytS_len
      repeat' (first | (first | (refine GT ?_ ?_ <;> intro hg <;> clear hA a <;> intro a hA <;> (first | exact FA | replace hg := of_decide_eq_true hg | replace hg := of_decide_eq_false hg | skip)) | (refine QT ?_; clear hA a; intro a hA) | (first | (refine BT ?_; clear hA hH; rintro _ w ⟨bN, rfl, hH⟩ a hA) | (refine LT ?_; clear hA hH; rintro _ w ⟨oN, rfl, hH⟩ a hA) | (refine AT ?_; clear hA; rintro _ w ⟨oN, cN, rfl, hH2⟩ a hA; clear hH; have hH := (hH2 _ (by (repeat constructor))).tail; clear hH2) | (refine S0T ?_; clear hH; rintro _ w hH) )) | ((first | refine CT ?_ | (refine DT ?_ ?_ <;> intro hc <;> try (exfalso; omega))) <;> repeat' refine CT ?_) | (first | (refine DSK ?_; clear hA a; intro a hA) | (first | (refine DLT ?_; clear hA hH; rintro _ w ⟨oN, rfl, hH⟩; refine ⟨STT, ?_⟩; intro a hA) | (refine DAT ?_; clear hA; rintro _ w ⟨oN, cN, rfl, hH2⟩; clear hH; have hH := (hH2 _ (by (repeat constructor))).tail; clear hH2; refine ⟨STT, ?_⟩; intro a hA))) )
      rw [own_nilY] at hH
      refine wp_lpj (S := Nat × Option Addr × Nat) (fun p a w => p.1 ≤ n ∧ HS w0 noM [own 5 1 p.2.1 p.1 p.2.2 (flat encY (F.take p.1)), cb bN 53 [.int .i64 o.a, .int .i64 o.kind, .slice d o.fs.length dc]] w ∧ Sl 99 [(6, .pointer (some (bat bN 0))), (8, .int .i64 n), (10, .slice p.2.1 p.1 p.2.2), (11, .int .i64 p.1)] a) (fun p => n - p.1)
        (fun a w => ∃ o1 c1, HS w0 noM [own 5 1 o1 n c1 (flat encY F), cb bN 53 [.int .i64 o.a, .int .i64 o.kind, .slice d o.fs.length dc]] w ∧ Sl 99 [(10, .slice o1 n c1)] a) (0, oN, 0) ⟨Nat.zero_le _, hH, (hA.sub (by (repeat (first | exact trivial | refine ⟨rfl, ?_⟩))))⟩ ?_ ?_
      · clear hA hH
        rintro ⟨k, o1, c1⟩ a w ⟨hk3, hH, hA⟩
        dsimp only at hk3 hH hA
        by_cases hlt : k < n
        rotate_left
        · obtain rfl : k = n := by omega
          rw [← hFl, List.take_length, hFl] at hH
          repeat' (first | (first | (refine GT ?_ ?_ <;> intro hg <;> clear hA a <;> intro a hA <;> (first | exact FA | replace hg := of_decide_eq_true hg | replace hg := of_decide_eq_false hg | skip)) | (refine QT ?_; clear hA a; intro a hA) | (first | (refine BT ?_; clear hA hH; rintro _ w ⟨bN, rfl, hH⟩ a hA) | (refine LT ?_; clear hA hH; rintro _ w ⟨oN, rfl, hH⟩ a hA) | (refine AT ?_; clear hA; rintro _ w ⟨oN, cN, rfl, hH2⟩ a hA; clear hH; have hH := (hH2 _ (by (repeat constructor))).tail; clear hH2) | (refine S0T ?_; clear hH; rintro _ w hH) )) | ((first | refine CT ?_ | (refine DT ?_ ?_ <;> intro hc <;> try (exfalso; omega))) <;> repeat' refine CT ?_) | (first | (refine DSK ?_; clear hA a; intro a hA) | (first | (refine DLT ?_; clear hA hH; rintro _ w ⟨oN, rfl, hH⟩; refine ⟨STT, ?_⟩; intro a hA) | (refine DAT ?_; clear hA; rintro _ w ⟨oN, cN, rfl, hH2⟩; clear hH; have hH := (hH2 _ (by (repeat constructor))).tail; clear hH2; refine ⟨STT, ?_⟩; intro a hA))) )
          exact ⟨o1, c1, hH, (hA.sub (by (repeat (first | exact trivial | refine ⟨rfl, ?_⟩))))⟩
        have hq8 : IntKind.i64.wrap ((k : Int).tdiv 8) = ((k / 8 : Nat) : Int) := by
          rw [Int.tdiv_eq_ediv_of_nonneg (by omega)]
          have : (k : Int) / 8 = ((k / 8 : Nat) : Int) := by omega
          rw [this]
          exact wrap_i64 ⟨by omega, by omega⟩
        have hr8 : (k : Int).tmod 8 = ((k % 8 : Nat) : Int) := by
          rw [Int.tmod_eq_emod_of_nonneg (by omega)]
          omega
        obtain ⟨y, hy⟩ : ∃ y, o.fs[1 + k / 8]? = some y := ⟨_, List.getElem?_eq_getElem (by omega)⟩
        have hUy := hok.us o hjo y (List.mem_of_getElem? hy)
        have hcy : (flat encW o.fs)[(1 + k / 8) * 1]? = some (.int .u64 y) := flat_get0 encW_len hy rfl
        have hby := last8 (k := k) hUy (fld_obj hl hjo hy)
        have hFk : F[k]? = some (byS s.L o.a k) := by rw [← hF]; exact bytS_at hlt
        generalize byS s.L o.a k = yb at *
        repeat' (first | (first | (refine GT ?_ ?_ <;> intro hg <;> clear hA a <;> intro a hA <;> (first | exact FA | replace hg := of_decide_eq_true hg | replace hg := of_decide_eq_false hg | skip)) | (refine QT ?_; clear hA a; intro a hA) | (first | (refine BT ?_; clear hA hH; rintro _ w ⟨bN, rfl, hH⟩ a hA) | (refine LT ?_; clear hA hH; rintro _ w ⟨oN, rfl, hH⟩ a hA) | (refine AT ?_; clear hA; rintro _ w ⟨oN, cN, rfl, hH2⟩ a hA; clear hH; have hH := (hH2 _ (by (repeat constructor))).tail; clear hH2) | (refine S0T ?_; clear hH; rintro _ w hH) )) | ((first | refine CT ?_ | (refine DT ?_ ?_ <;> intro hc <;> try (exfalso; omega))) <;> repeat' refine CT ?_) | (first | (refine DSK ?_; clear hA a; intro a hA) | (first | (refine DLT ?_; clear hA hH; rintro _ w ⟨oN, rfl, hH⟩; refine ⟨STT, ?_⟩; intro a hA) | (refine DAT ?_; clear hA; rintro _ w ⟨oN, cN, rfl, hH2⟩; clear hH; have hH := (hH2 _ (by (repeat constructor))).tail; clear hH2; refine ⟨STT, ?_⟩; intro a hA))) )
        rw [hq8] at hA
        repeat' (first | (first | (refine GT ?_ ?_ <;> intro hg <;> clear hA a <;> intro a hA <;> (first | exact FA | replace hg := of_decide_eq_true hg | replace hg := of_decide_eq_false hg | skip)) | (refine QT ?_; clear hA a; intro a hA) | (first | (refine BT ?_; clear hA hH; rintro _ w ⟨bN, rfl, hH⟩ a hA) | (refine LT ?_; clear hA hH; rintro _ w ⟨oN, rfl, hH⟩ a hA) | (refine AT ?_; clear hA; rintro _ w ⟨oN, cN, rfl, hH2⟩ a hA; clear hH; have hH := (hH2 _ (by (repeat constructor))).tail; clear hH2) | (refine S0T ?_; clear hH; rintro _ w hH) )) | ((first | refine CT ?_ | (refine DT ?_ ?_ <;> intro hc <;> try (exfalso; omega))) <;> repeat' refine CT ?_) | (first | (refine DSK ?_; clear hA a; intro a hA) | (first | (refine DLT ?_; clear hA hH; rintro _ w ⟨oN, rfl, hH⟩; refine ⟨STT, ?_⟩; intro a hA) | (refine DAT ?_; clear hA; rintro _ w ⟨oN, cN, rfl, hH2⟩; clear hH; have hH := (hH2 _ (by (repeat constructor))).tail; clear hH2; refine ⟨STT, ?_⟩; intro a hA))) )
        rw [show (1 : Int) + ((k / 8 : Nat) : Int) = ((1 + k / 8 : Nat) : Int) by omega] at hA
        repeat' (first | (first | (refine GT ?_ ?_ <;> intro hg <;> clear hA a <;> intro a hA <;> (first | exact FA | replace hg := of_decide_eq_true hg | replace hg := of_decide_eq_false hg | skip)) | (refine QT ?_; clear hA a; intro a hA) | (first | (refine BT ?_; clear hA hH; rintro _ w ⟨bN, rfl, hH⟩ a hA) | (refine LT ?_; clear hA hH; rintro _ w ⟨oN, rfl, hH⟩ a hA) | (refine AT ?_; clear hA; rintro _ w ⟨oN, cN, rfl, hH2⟩ a hA; clear hH; have hH := (hH2 _ (by (repeat constructor))).tail; clear hH2) | (refine S0T ?_; clear hH; rintro _ w hH) )) | ((first | refine CT ?_ | (refine DT ?_ ?_ <;> intro hc <;> try (exfalso; omega))) <;> repeat' refine CT ?_) | (first | (refine DSK ?_; clear hA a; intro a hA) | (first | (refine DLT ?_; clear hA hH; rintro _ w ⟨oN, rfl, hH⟩; refine ⟨STT, ?_⟩; intro a hA) | (refine DAT ?_; clear hA; rintro _ w ⟨oN, cN, rfl, hH2⟩; clear hH; have hH := (hH2 _ (by (repeat constructor))).tail; clear hH2; refine ⟨STT, ?_⟩; intro a hA))) )
        refine wp_lpk (S := Nat) (fun j a w => j ≤ k % 8 ∧ HS w0 noM [own 5 1 o1 k c1 (flat encY (F.take k)), cb bN 53 [.int .i64 o.a, .int .i64 o.kind, .slice d o.fs.length dc]] w ∧ Sl 99 [(6, .pointer (some (bat bN 0))), (8, .int .i64 n), (10, .slice o1 k c1), (11, .int .i64 k), (12, .int .u64 (y / 256 ^ j)), (13, .int .i64 j)] a) (fun j => k % 8 - j)
          (fun a w => HS w0 noM [own 5 1 o1 k c1 (flat encY (F.take k)), cb bN 53 [.int .i64 o.a, .int .i64 o.kind, .slice d o.fs.length dc]] w ∧ Sl 99 [(6, .pointer (some (bat bN 0))), (8, .int .i64 n), (10, .slice o1 k c1), (11, .int .i64 k), (12, .int .u64 (y / 256 ^ (k % 8)))] a) 0 ⟨Nat.zero_le _, hH, by rw [pow0]; exact (hA.sub (by (repeat (first | exact trivial | refine ⟨rfl, ?_⟩))))⟩ ?_ ?_
        · clear hA hH
          rintro j a w ⟨hj, hH, hA⟩
          have hq := quo256 (k := j) hUy
          repeat' (first | (first | (refine GT ?_ ?_ <;> intro hg <;> clear hA a <;> intro a hA <;> (first | exact FA | replace hg := of_decide_eq_true hg | replace hg := of_decide_eq_false hg | skip)) | (refine QT ?_; clear hA a; intro a hA) | (first | (refine BT ?_; clear hA hH; rintro _ w ⟨bN, rfl, hH⟩ a hA) | (refine LT ?_; clear hA hH; rintro _ w ⟨oN, rfl, hH⟩ a hA) | (refine AT ?_; clear hA; rintro _ w ⟨oN, cN, rfl, hH2⟩ a hA; clear hH; have hH := (hH2 _ (by (repeat constructor))).tail; clear hH2) | (refine S0T ?_; clear hH; rintro _ w hH) )) | ((first | refine CT ?_ | (refine DT ?_ ?_ <;> intro hc <;> try (exfalso; omega))) <;> repeat' refine CT ?_) | (first | (refine DSK ?_; clear hA a; intro a hA) | (first | (refine DLT ?_; clear hA hH; rintro _ w ⟨oN, rfl, hH⟩; refine ⟨STT, ?_⟩; intro a hA) | (refine DAT ?_; clear hA; rintro _ w ⟨oN, cN, rfl, hH2⟩; clear hH; have hH := (hH2 _ (by (repeat constructor))).tail; clear hH2; refine ⟨STT, ?_⟩; intro a hA))) )
          rw [hr8] at hA
          repeat' (first | (first | (refine GT ?_ ?_ <;> intro hg <;> clear hA a <;> intro a hA <;> (first | exact FA | replace hg := of_decide_eq_true hg | replace hg := of_decide_eq_false hg | skip)) | (refine QT ?_; clear hA a; intro a hA) | (first | (refine BT ?_; clear hA hH; rintro _ w ⟨bN, rfl, hH⟩ a hA) | (refine LT ?_; clear hA hH; rintro _ w ⟨oN, rfl, hH⟩ a hA) | (refine AT ?_; clear hA; rintro _ w ⟨oN, cN, rfl, hH2⟩ a hA; clear hH; have hH := (hH2 _ (by (repeat constructor))).tail; clear hH2) | (refine S0T ?_; clear hH; rintro _ w hH) )) | ((first | refine CT ?_ | (refine DT ?_ ?_ <;> intro hc <;> try (exfalso; omega))) <;> repeat' refine CT ?_) | (first | (refine DSK ?_; clear hA a; intro a hA) | (first | (refine DLT ?_; clear hA hH; rintro _ w ⟨oN, rfl, hH⟩; refine ⟨STT, ?_⟩; intro a hA) | (refine DAT ?_; clear hA; rintro _ w ⟨oN, cN, rfl, hH2⟩; clear hH; have hH := (hH2 _ (by (repeat constructor))).tail; clear hH2; refine ⟨STT, ?_⟩; intro a hA))) )
          · rw [hq] at hA
            exact ⟨j + 1, ⟨by omega, hH, (hA.sub (by (repeat (first | exact trivial | refine ⟨rfl, ?_⟩))))⟩, by omega⟩
          · obtain rfl : j = k % 8 := by omega
            exact ⟨hH, (hA.sub (by (repeat (first | exact trivial | refine ⟨rfl, ?_⟩))))⟩
        clear hA hH
        rintro a w ⟨hH, hA⟩
        repeat' (first | (first | (refine GT ?_ ?_ <;> intro hg <;> clear hA a <;> intro a hA <;> (first | exact FA | replace hg := of_decide_eq_true hg | replace hg := of_decide_eq_false hg | skip)) | ((first | apply st_ex hA hH rfl rfl (by decide) | apply dr_ex hA rfl rfl rfl (by decide) | apply dr_exp hA rfl rfl rfl (by decide) | apply dr_ex3 hA hH rfl rfl rfl (by decide)); (first | (apply ex_convert (v := (yb : Int)); rfl; exact hby)); clear hA a; intro a hA) | (refine QT ?_; clear hA a; intro a hA) | (first | (refine BT ?_; clear hA hH; rintro _ w ⟨bN, rfl, hH⟩ a hA) | (refine LT ?_; clear hA hH; rintro _ w ⟨oN, rfl, hH⟩ a hA) | (refine AT ?_; clear hA; rintro _ w ⟨oN, cN, rfl, hH2⟩ a hA; clear hH; have hH := (hH2 _ (by (repeat constructor))).tail; clear hH2) | (refine S0T ?_; clear hH; rintro _ w hH) )) | ((first | refine CT ?_ | (refine DT ?_ ?_ <;> intro hc <;> try (exfalso; omega))) <;> repeat' refine CT ?_) | (first | (refine DSK ?_; clear hA a; intro a hA) | (first | (refine DLT ?_; clear hA hH; rintro _ w ⟨oN, rfl, hH⟩; refine ⟨STT, ?_⟩; intro a hA) | (refine DAT ?_; clear hA; rintro _ w ⟨oN, cN, rfl, hH2⟩; clear hH; have hH := (hH2 _ (by (repeat constructor))).tail; clear hH2; refine ⟨STT, ?_⟩; intro a hA))) )
        rw [snocY] at hH
        have htk : F.take k ++ [yb] = F.take (k + 1) := by rw [List.take_add_one, hFk]; rfl
        rw [htk] at hH
        exact ⟨(k + 1, oN, cN), ⟨hlt, hH.perm (by (repeat (first | exact List.Perm.nil | refine perm_pick 0 rfl ?_ | refine perm_pick 1 rfl ?_ | refine perm_pick 2 rfl ?_ | refine perm_pick 3 rfl ?_ | refine perm_pick 4 rfl ?_ | refine perm_pick 5 rfl ?_ | refine perm_pick 6 rfl ?_ | refine perm_pick 7 rfl ?_ | refine perm_pick 8 rfl ?_ | refine perm_pick 9 rfl ?_ | refine perm_pick 10 rfl ?_ | refine perm_pick 11 rfl ?_))), (hA.sub (by (repeat (first | exact trivial | refine ⟨rfl, ?_⟩))))⟩, by show n - (k + 1) < n - k; omega⟩
      · clear hA hH
        rintro a w ⟨o1, c1, hH, hA⟩
        repeat' (first | (first | (refine GT ?_ ?_ <;> intro hg <;> clear hA a <;> intro a hA <;> (first | exact FA | replace hg := of_decide_eq_true hg | replace hg := of_decide_eq_false hg | skip)) | ((first | apply st_ex hA hH rfl rfl (by decide) | apply dr_ex hA rfl rfl rfl (by decide) | apply dr_exp hA rfl rfl rfl (by decide) | apply dr_ex3 hA hH rfl rfl rfl (by decide)); (first | (apply ex_ofBytes (l' := F); rfl; exact hFl; exact fun w h => h.own_rd (by exact MEMT))); clear hA a; intro a hA) | (refine QT ?_; clear hA a; intro a hA) | (first | (refine BT ?_; clear hA hH; rintro _ w ⟨bN, rfl, hH⟩ a hA) | (refine LT ?_; clear hA hH; rintro _ w ⟨oN, rfl, hH⟩ a hA) | (refine AT ?_; clear hA; rintro _ w ⟨oN, cN, rfl, hH2⟩ a hA; clear hH; have hH := (hH2 _ (by (repeat constructor))).tail; clear hH2) | (refine S0T ?_; clear hH; rintro _ w hH) )) | ((first | refine CT ?_ | (refine DT ?_ ?_ <;> intro hc <;> try (exfalso; omega))) <;> repeat' refine CT ?_) | (first | (refine DSK ?_; clear hA a; intro a hA) | (first | (refine DLT ?_; clear hA hH; rintro _ w ⟨oN, rfl, hH⟩; refine ⟨STT, ?_⟩; intro a hA) | (refine DAT ?_; clear hA; rintro _ w ⟨oN, cN, rfl, hH2⟩; clear hH; have hH := (hH2 _ (by (repeat constructor))).tail; clear hH2; refine ⟨STT, ?_⟩; intro a hA))) )
        exact rt2 (.inl rfl) rfl hA rfl rfl ⟨rfl, hH.kp⟩
end Go.Proofs.Ytdfhajdejlhamaa
namespace Go.Proofs.Ytdfhajdejlhamaa
open Go Go.Fw
set_option linter.unusedVariables false
section
variable {n i b : Nat} {t : List Nat}
/-- a text's fields, with the bytes so far -/
def fW (n : Nat) (t : List Nat) (i : Nat) : List Int := (2 * (n : Int) + 1) :: (List.range (nW i)).map (wrd (t.take i))
def fV (n : Nat) (t : List Nat) (i : Nat) : List Int := (2 * (n : Int) + 1) :: (List.range (i / 8 + 1)).map (wrd (t.take i))
theorem fV_len : (fV n t i).length = i / 8 + 2 := by unfold fV; simp
theorem part_take (j : Nat) : part (t.take i) j = (t.drop (8 * j)).take (min 8 (i - 8 * j)) := by
  unfold part
  rw [List.drop_take, List.take_take]
theorem part_here : part (t.take i) (i / 8) = (t.drop (8 * (i / 8))).take (i % 8) := by
  rw [part_take, show min 8 (i - 8 * (i / 8)) = i % 8 by omega]
theorem fV_zero (h : i % 8 = 0) : fW n t i ++ [0] = fV n t i := by
  unfold fW fV
  have e1 : nW i = i / 8 := by unfold nW; omega
  have e2 : wrd (t.take i) (i / 8) = 0 := by
    unfold wrd
    rw [part_here, h]
    rfl
  rw [e1, List.range_succ, List.map_append, List.cons_append, List.map_singleton, e2]
theorem fV_more (h : i % 8 ≠ 0) : fW n t i = fV n t i := by
  unfold fW fV
  have e1 : nW i = i / 8 + 1 := by unfold nW; omega
  rw [e1]
theorem fV_last : (fV n t i)[i / 8 + 1]? = some (wrd (t.take i) (i / 8)) := by
  unfold fV
  rw [List.getElem?_cons_succ, List.getElem?_map, List.getElem?_range (by omega)]
  rfl
theorem wrd_next (hb : t[i]? = some b) : wrd (t.take (i + 1)) (i / 8) = wrd (t.take i) (i / 8) + ((b * 256 ^ (i % 8) : Nat) : Int) := by
  have hi := (List.getElem?_eq_some_iff.1 hb).1
  have e1 : part (t.take (i + 1)) (i / 8) = part (t.take i) (i / 8) ++ [b] := by
    rw [part_here, part_take, show min 8 (i + 1 - 8 * (i / 8)) = i % 8 + 1 by omega, List.take_add_one, List.getElem?_drop, show 8 * (i / 8) + i % 8 = i by omega, hb]
    rfl
  have e2 : (part (t.take i) (i / 8)).length = i % 8 := by
    rw [part_here, List.length_take, List.length_drop]
    omega
  unfold wrd
  rw [e1, chunk_snoc, e2]
  simp
theorem fV_set (hb : t[i]? = some b) : (fV n t i).set (i / 8 + 1) (wrd (t.take (i + 1)) (i / 8)) = fW n t (i + 1) := by
  unfold fV fW
  have e1 : nW (i + 1) = i / 8 + 1 := by unfold nW; omega
  rw [List.set_cons_succ, e1]
  congr 1
  refine List.ext_getElem? fun j => ?_
  rw [List.getElem?_set, List.getElem?_map, List.getElem?_map, List.length_map, List.length_range]
  by_cases hj : i / 8 = j
  · subst hj
    rw [if_pos rfl, if_pos (by omega), List.getElem?_range (by omega)]
    rfl
  · rw [if_neg hj]
    by_cases hj2 : j < i / 8 + 1
    · rw [List.getElem?_range hj2]
      show some (wrd (t.take i) j) = some (wrd (t.take (i + 1)) j)
      unfold wrd
      rw [part_take, part_take, show min 8 (i - 8 * j) = 8 by omega, show min 8 (i + 1 - 8 * j) = 8 by omega]
    · rw [List.getElem?_eq_none (by simp; omega)]
      rfl
theorem fW_zero : fW n t 0 = [2 * (n : Int) + 1] := rfl
theorem fW_end : fW t.length t t.length = txt t := by
  unfold fW txt
  rw [List.take_length]
theorem snocW (l : List Int) (x : Int) : flat encW l ++ [.int .u64 x] = flat encW (l ++ [x]) := (flat_snoc encW l x).symm
theorem oneW (x : Int) : ([.int .u64 x] : List Value) = flat encW [x] := rfl
theorem mul256 {k : Nat} (hb : b < 256) (hk : k < 7) : IntKind.u64.wrap (((b * 256 ^ k : Nat) : Int) * 256) = ((b * 256 ^ (k + 1) : Nat) : Int) := by
  have h2 : (256 : Nat) ^ k ≤ 256 ^ 6 := Nat.pow_le_pow_right (by decide) (by omega)
  have h3 : b * 256 ^ k < 256 * 256 ^ k := Nat.mul_lt_mul_of_pos_right hb (Nat.pow_pos (by decide))
  have h4 : (256 : Nat) ^ 6 = 281474976710656 := by decide
  have h5 : b * 256 ^ (k + 1) = b * 256 ^ k * 256 := by rw [Nat.pow_succ, Nat.mul_assoc]
  rw [u64_mod, Int.emod_eq_of_lt (by omega) (by omega)]
  omega
theorem mul0 : ((b * 256 ^ 0 : Nat) : Int) = (b : Int) := by simp
end
theorem textS_lg {N : Nat} {g : SS} {t : List Nat} {roots : List Int} (h : 32760 < t.length) : textS N g t roots = (0, 2, g) := by unfold textS; rw [if_pos h]
theorem textS_er {N : Nat} {g : SS} {t : List Nat} {roots : List Int} (h : ¬ 32760 < t.length) (he : (allocS N g 1 (1 + nW t.length : Nat) roots).2.1 ≠ 0) : textS N g t roots = (0, (allocS N g 1 (1 + nW t.length : Nat) roots).2.1, (allocS N g 1 (1 + nW t.length : Nat) roots).2.2) := by unfold textS; rw [if_neg h, if_pos he]
theorem textS_ok {N : Nat} {g : SS} {t : List Nat} {roots : List Int} (h : ¬ 32760 < t.length) (he : ¬ (allocS N g 1 (1 + nW t.length : Nat) roots).2.1 ≠ 0) : textS N g t roots = ((allocS N g 1 (1 + nW t.length : Nat) roots).1, 0, setF (allocS N g 1 (1 + nW t.length : Nat) roots).2.2 (allocS N g 1 (1 + nW t.length : Nat) roots).1 0 (txt t)) := by unfold textS; rw [if_neg h, if_neg he]
theorem setF_z (g : SS) (x : Int) (l : List Int) : setF g x 0 (l.take 0) = g := rfl
theorem nw0 : 1 + nW 0 = 1 := rfl
set_option maxRecDepth 10000 attribute [local irreducible] Code.wp wpList Calls Ex Op1 sat bat blk cb own Go.Fw.mp Go.Fw.mpO Go.Fw.mpI Go.Fw.mpE Go.Fw.itr HS Rd Ret wkD Hp Cl Cls Exit.then Exit.inBlock Exit.noGoto bodyPost Go.Fw.flat wk2 Go.Fw.all Go.Fw.owns wpOp
attribute [local irreducible] hdA gaps isA nextA allocA freeA sizeA kindA setA getA whiteZ numW addrW shadeG gcI hpI stepG beginG writeG allocG mu atA endS finG allocS setF txt wrd chunk bts orK shlK sdI fW fV textS

set_option maxHeartbeats 4000000 in
theorem rfields_spec (w0 : World) (t : ByteArray) (ht : (bts t).length ≤ 32760) : Ret Try.prog 58 #[.string t] w0 (fun v w => ∃ (o : Option Addr) (c : Nat), v = .slice o (1 + nW (bts t).length) c ∧ HS w0 noM [own 33 1 o (1 + nW (bts t).length) c (flat encW (txt (bts t)))] w) := by
  have hH : HS w0 noM [] w0 := HS.init w0 noM
  (refine enter (N := 45) Try.func58 rfl Try.ntmps58 rfl ?_; intro a hA; dsimp only [sl0, Nat.reduceAdd] at hA)
  repeat' (first | (first | (refine GT ?_ ?_ <;> intro hg <;> clear hA a <;> intro a hA <;> (first | exact FA | replace hg := of_decide_eq_true hg | replace hg := of_decide_eq_false hg | skip)) | ((first | apply st_ex hA hH rfl rfl (by decide) | apply dr_ex hA rfl rfl rfl (by decide) | apply dr_exp hA rfl rfl rfl (by decide) | apply dr_ex3 hA hH rfl rfl rfl (by decide)); (first | (apply ex_len_string; rfl)); clear hA a; intro a hA) | (refine QT0 ?_; clear hA a; intro a hA) | (first | (refine BT ?_; clear hA hH; rintro _ w ⟨bN, rfl, hH⟩ a hA) | (refine LT ?_; clear hA hH; rintro _ w ⟨oN, rfl, hH⟩ a hA) | (refine AT ?_; clear hA; rintro _ w ⟨oN, cN, rfl, hH2⟩ a hA; clear hH; have hH := (hH2 _ (by (repeat constructor))).tail; clear hH2) | (refine S0T ?_; clear hH; rintro _ w hH) )) | ((first | refine CT ?_ | (refine DT ?_ ?_ <;> intro hc <;> try (exfalso; omega))) <;> repeat' refine CT ?_) | (first | (refine DSK ?_; clear hA a; intro a hA) | (first | (refine DLT ?_; clear hA hH; rintro _ w ⟨oN, rfl, hH⟩; refine ⟨STT, ?_⟩; intro a hA) | (refine DAT ?_; clear hA; rintro _ w ⟨oN, cN, rfl, hH2⟩; clear hH; have hH := (hH2 _ (by (repeat constructor))).tail; clear hH2; refine ⟨STT, ?_⟩; intro a hA))) )
  (refine st_op hA rfl rfl (by decide) (op_call rfl rfl rfl (rofn_spec _ (bts t).length (by omega))) ?_; clear hA; rintro _ w ⟨rfl, hk⟩ a hA; replace hH := hH.keep hk; clear hk)
  repeat' (first | (first | (refine GT ?_ ?_ <;> intro hg <;> clear hA a <;> intro a hA <;> (first | exact FA | replace hg := of_decide_eq_true hg | replace hg := of_decide_eq_false hg | skip)) | (refine QT0 ?_; clear hA a; intro a hA) | (first | (refine BT ?_; clear hA hH; rintro _ w ⟨bN, rfl, hH⟩ a hA) | (refine LT ?_; clear hA hH; rintro _ w ⟨oN, rfl, hH⟩ a hA) | (refine AT ?_; clear hA; rintro _ w ⟨oN, cN, rfl, hH2⟩ a hA; clear hH; have hH := (hH2 _ (by (repeat constructor))).tail; clear hH2) | (refine S0T ?_; clear hH; rintro _ w hH) )) | ((first | refine CT ?_ | (refine DT ?_ ?_ <;> intro hc <;> try (exfalso; omega))) <;> repeat' refine CT ?_) | (first | (refine DSK ?_; clear hA a; intro a hA) | (first | (refine DLT ?_; clear hA hH; rintro _ w ⟨oN, rfl, hH⟩; refine ⟨STT, ?_⟩; intro a hA) | (refine DAT ?_; clear hA; rintro _ w ⟨oN, cN, rfl, hH2⟩; clear hH; have hH := (hH2 _ (by (repeat constructor))).tail; clear hH2; refine ⟨STT, ?_⟩; intro a hA))) )
  rw [oneW, ← fW_zero (t := bts t)] at hH
  refine wp_lpj (S := Nat × Option Addr × Nat) (fun p a w => p.1 ≤ (bts t).length ∧ HS w0 noM [own 33 1 p.2.1 (1 + nW p.1) p.2.2 (flat encW (fW (bts t).length (bts t) p.1))] w ∧ Sl 45 [(0, .string t), (3, .slice p.2.1 (1 + nW p.1) p.2.2), (4, .int .i64 p.1)] a) (fun p => (bts t).length - p.1)
    (fun a w => ∃ o c, HS w0 noM [own 33 1 o (1 + nW (bts t).length) c (flat encW (txt (bts t)))] w ∧ Sl 45 [(3, .slice o (1 + nW (bts t).length) c)] a) (0, oN, 1) ⟨Nat.zero_le _, by dsimp only; rw [nw0]; exact hH, by dsimp only; rw [nw0]; exact (hA.sub (by (repeat (first | exact trivial | refine ⟨rfl, ?_⟩))))⟩ ?_ ?_
  rotate_left
  · clear hA hH
    rintro a w ⟨o, c, hH, hA⟩
    repeat' (first | (first | (refine GT ?_ ?_ <;> intro hg <;> clear hA a <;> intro a hA <;> (first | exact FA | replace hg := of_decide_eq_true hg | replace hg := of_decide_eq_false hg | skip)) | (refine QT0 ?_; clear hA a; intro a hA) | (first | (refine BT ?_; clear hA hH; rintro _ w ⟨bN, rfl, hH⟩ a hA) | (refine LT ?_; clear hA hH; rintro _ w ⟨oN, rfl, hH⟩ a hA) | (refine AT ?_; clear hA; rintro _ w ⟨oN, cN, rfl, hH2⟩ a hA; clear hH; have hH := (hH2 _ (by (repeat constructor))).tail; clear hH2) | (refine S0T ?_; clear hH; rintro _ w hH) )) | ((first | refine CT ?_ | (refine DT ?_ ?_ <;> intro hc <;> try (exfalso; omega))) <;> repeat' refine CT ?_) | (first | (refine DSK ?_; clear hA a; intro a hA) | (first | (refine DLT ?_; clear hA hH; rintro _ w ⟨oN, rfl, hH⟩; refine ⟨STT, ?_⟩; intro a hA) | (refine DAT ?_; clear hA; rintro _ w ⟨oN, cN, rfl, hH2⟩; clear hH; have hH := (hH2 _ (by (repeat constructor))).tail; clear hH2; refine ⟨STT, ?_⟩; intro a hA))) )
    exact rt1 (.inl rfl) rfl hA rfl ⟨o, c, rfl, hH⟩
  clear hA hH
  rintro ⟨i, o, c⟩ a w ⟨hi, hH, hA⟩
  dsimp only at hi hH hA
  by_cases hlt : i < (bts t).length
  rotate_left
  · obtain rfl : i = (bts t).length := by omega
    rw [fW_end] at hH
    repeat' (first | (first | (refine GT ?_ ?_ <;> intro hg <;> clear hA a <;> intro a hA <;> (first | exact FA | replace hg := of_decide_eq_true hg | replace hg := of_decide_eq_false hg | skip)) | ((first | apply st_ex hA hH rfl rfl (by decide) | apply dr_ex hA rfl rfl rfl (by decide) | apply dr_exp hA rfl rfl rfl (by decide) | apply dr_ex3 hA hH rfl rfl rfl (by decide)); (first | (apply ex_len_string; rfl)); clear hA a; intro a hA) | (refine QT0 ?_; clear hA a; intro a hA) | (first | (refine BT ?_; clear hA hH; rintro _ w ⟨bN, rfl, hH⟩ a hA) | (refine LT ?_; clear hA hH; rintro _ w ⟨oN, rfl, hH⟩ a hA) | (refine AT ?_; clear hA; rintro _ w ⟨oN, cN, rfl, hH2⟩ a hA; clear hH; have hH := (hH2 _ (by (repeat constructor))).tail; clear hH2) | (refine S0T ?_; clear hH; rintro _ w hH) )) | ((first | refine CT ?_ | (refine DT ?_ ?_ <;> intro hc <;> try (exfalso; omega))) <;> repeat' refine CT ?_) | (first | (refine DSK ?_; clear hA a; intro a hA) | (first | (refine DLT ?_; clear hA hH; rintro _ w ⟨oN, rfl, hH⟩; refine ⟨STT, ?_⟩; intro a hA) | (refine DAT ?_; clear hA; rintro _ w ⟨oN, cN, rfl, hH2⟩; clear hH; have hH := (hH2 _ (by (repeat constructor))).tail; clear hH2; refine ⟨STT, ?_⟩; intro a hA))) )
    exact ⟨o, c, hH, (hA.sub (by (repeat (first | exact trivial | refine ⟨rfl, ?_⟩))))⟩
  obtain ⟨b, hb⟩ : ∃ b, (bts t)[i]? = some b := ⟨_, List.getElem?_eq_getElem hlt⟩
  have hb256 := bts_lt t b (List.mem_of_getElem? hb)
  have hr8 : (i : Int).tmod 8 = ((i % 8 : Nat) : Int) := by
    rw [Int.tmod_eq_emod_of_nonneg (by omega)]
    omega
  have hnw : nW i = (i + 7) / 8 := rfl
  repeat' (first | (first | (refine GT ?_ ?_ <;> intro hg <;> clear hA a <;> intro a hA <;> (first | exact FA | replace hg := of_decide_eq_true hg | replace hg := of_decide_eq_false hg | skip)) | ((first | apply st_ex hA hH rfl rfl (by decide) | apply dr_ex hA rfl rfl rfl (by decide) | apply dr_exp hA rfl rfl rfl (by decide) | apply dr_ex3 hA hH rfl rfl rfl (by decide)); (first | (apply ex_len_string; rfl)); clear hA a; intro a hA) | (refine QT0 ?_; clear hA a; intro a hA) | (first | (refine BT ?_; clear hA hH; rintro _ w ⟨bN, rfl, hH⟩ a hA) | (refine LT ?_; clear hA hH; rintro _ w ⟨oN, rfl, hH⟩ a hA) | (refine AT ?_; clear hA; rintro _ w ⟨oN, cN, rfl, hH2⟩ a hA; clear hH; have hH := (hH2 _ (by (repeat constructor))).tail; clear hH2) | (refine S0T ?_; clear hH; rintro _ w hH) )) | ((first | refine CT ?_ | (refine DT ?_ ?_ <;> intro hc <;> try (exfalso; omega))) <;> repeat' refine CT ?_) | (first | (refine DSK ?_; clear hA a; intro a hA) | (first | (refine DLT ?_; clear hA hH; rintro _ w ⟨oN, rfl, hH⟩; refine ⟨STT, ?_⟩; intro a hA) | (refine DAT ?_; clear hA; rintro _ w ⟨oN, cN, rfl, hH2⟩; clear hH; have hH := (hH2 _ (by (repeat constructor))).tail; clear hH2; refine ⟨STT, ?_⟩; intro a hA))) )
  refine st_join (fun a w => ∃ o c, HS w0 noM [own 33 1 o (i / 8 + 2) c (flat encW (fV (bts t).length (bts t) i))] w ∧ Sl 45 [(0, .string t), (3, .slice o (i / 8 + 2) c), (4, .int .i64 i)] a) ?_ ?_
  · by_cases h8 : i % 8 = 0
    · have hz8 : (i : Int).tmod 8 = 0 := by omega
      have e8 : 1 + nW i + 1 = i / 8 + 2 := by omega
      repeat' (first | (first | (refine GT ?_ ?_ <;> intro hg <;> clear hA a <;> intro a hA <;> (first | exact FA | replace hg := of_decide_eq_true hg | replace hg := of_decide_eq_false hg | skip)) | ((first | apply st_ex hA hH rfl rfl (by decide) | apply dr_ex hA rfl rfl rfl (by decide) | apply dr_exp hA rfl rfl rfl (by decide) | apply dr_ex3 hA hH rfl rfl rfl (by decide)); (first | (apply ex_rem; rfl; rfl; decide)); clear hA a; intro a hA) | (refine QT0 ?_; clear hA a; intro a hA) | (first | (refine BT ?_; clear hA hH; rintro _ w ⟨bN, rfl, hH⟩ a hA) | (refine LT ?_; clear hA hH; rintro _ w ⟨oN, rfl, hH⟩ a hA) | (refine AT ?_; clear hA; rintro _ w ⟨oN, cN, rfl, hH2⟩ a hA; clear hH; have hH := (hH2 _ (by (repeat constructor))).tail; clear hH2) | (refine S0T ?_; clear hH; rintro _ w hH) )) | ((first | refine CT ?_ | (refine DT ?_ ?_ <;> intro hc <;> try (exfalso; omega))) <;> repeat' refine CT ?_) | (first | (refine DSK ?_; clear hA a; intro a hA) | (first | (refine DLT ?_; clear hA hH; rintro _ w ⟨oN, rfl, hH⟩; refine ⟨STT, ?_⟩; intro a hA) | (refine DAT ?_; clear hA; rintro _ w ⟨oN, cN, rfl, hH2⟩; clear hH; have hH := (hH2 _ (by (repeat constructor))).tail; clear hH2; refine ⟨STT, ?_⟩; intro a hA))) )
      rw [snocW, fV_zero h8, e8] at hH
      rw [e8] at hA
      exact ⟨oN, cN, HS.left (H1 := [_]) hH, (hA.sub (by (repeat (first | exact trivial | refine ⟨rfl, ?_⟩))))⟩
    · have hz8 : (i : Int).tmod 8 ≠ 0 := by omega
      have e8 : 1 + nW i = i / 8 + 2 := by omega
      repeat' (first | (first | (refine GT ?_ ?_ <;> intro hg <;> clear hA a <;> intro a hA <;> (first | exact FA | replace hg := of_decide_eq_true hg | replace hg := of_decide_eq_false hg | skip)) | ((first | apply st_ex hA hH rfl rfl (by decide) | apply dr_ex hA rfl rfl rfl (by decide) | apply dr_exp hA rfl rfl rfl (by decide) | apply dr_ex3 hA hH rfl rfl rfl (by decide)); (first | (apply ex_rem; rfl; rfl; decide)); clear hA a; intro a hA) | (refine QT0 ?_; clear hA a; intro a hA) | (first | (refine BT ?_; clear hA hH; rintro _ w ⟨bN, rfl, hH⟩ a hA) | (refine LT ?_; clear hA hH; rintro _ w ⟨oN, rfl, hH⟩ a hA) | (refine AT ?_; clear hA; rintro _ w ⟨oN, cN, rfl, hH2⟩ a hA; clear hH; have hH := (hH2 _ (by (repeat constructor))).tail; clear hH2) | (refine S0T ?_; clear hH; rintro _ w hH) )) | ((first | refine CT ?_ | (refine DT ?_ ?_ <;> intro hc <;> try (exfalso; omega))) <;> repeat' refine CT ?_) | (first | (refine DSK ?_; clear hA a; intro a hA) | (first | (refine DLT ?_; clear hA hH; rintro _ w ⟨oN, rfl, hH⟩; refine ⟨STT, ?_⟩; intro a hA) | (refine DAT ?_; clear hA; rintro _ w ⟨oN, cN, rfl, hH2⟩; clear hH; have hH := (hH2 _ (by (repeat constructor))).tail; clear hH2; refine ⟨STT, ?_⟩; intro a hA))) )
      rw [fV_more h8, e8] at hH
      rw [e8] at hA
      exact ⟨o, c, hH, (hA.sub (by (repeat (first | exact trivial | refine ⟨rfl, ?_⟩))))⟩
  clear hA hH
  rintro a w ⟨o, c, hH, hA⟩
  have hcv : IntKind.u64.wrap (b : Int) = (b : Int) := by rw [u64_mod, Int.emod_eq_of_lt (by omega) (by omega)]
  have hspO : Sp o (i / 8 + 2) := hH.own_sp (o := o) (by exact MEMT)
  repeat' (first | (first | (refine GT ?_ ?_ <;> intro hg <;> clear hA a <;> intro a hA <;> (first | exact FA | replace hg := of_decide_eq_true hg | replace hg := of_decide_eq_false hg | skip)) | ((first | apply st_ex hA hH rfl rfl (by decide) | apply dr_ex hA rfl rfl rfl (by decide) | apply dr_exp hA rfl rfl rfl (by decide) | apply dr_ex3 hA hH rfl rfl rfl (by decide)); (first | (apply ex_index_string (j := i); rfl; rfl; rfl; exact hb) | (apply ex_convert (v := (b : Int)); rfl; exact hcv)); clear hA a; intro a hA) | (refine QT0 ?_; clear hA a; intro a hA) | (first | (refine BT ?_; clear hA hH; rintro _ w ⟨bN, rfl, hH⟩ a hA) | (refine LT ?_; clear hA hH; rintro _ w ⟨oN, rfl, hH⟩ a hA) | (refine AT ?_; clear hA; rintro _ w ⟨oN, cN, rfl, hH2⟩ a hA; clear hH; have hH := (hH2 _ (by (repeat constructor))).tail; clear hH2) | (refine S0T ?_; clear hH; rintro _ w hH) )) | ((first | refine CT ?_ | (refine DT ?_ ?_ <;> intro hc <;> try (exfalso; omega))) <;> repeat' refine CT ?_) | (first | (refine DSK ?_; clear hA a; intro a hA) | (first | (refine DLT ?_; clear hA hH; rintro _ w ⟨oN, rfl, hH⟩; refine ⟨STT, ?_⟩; intro a hA) | (refine DAT ?_; clear hA; rintro _ w ⟨oN, cN, rfl, hH2⟩; clear hH; have hH := (hH2 _ (by (repeat constructor))).tail; clear hH2; refine ⟨STT, ?_⟩; intro a hA))) )
  refine wp_lpk (S := Nat) (fun k a w => k ≤ i % 8 ∧ HS w0 noM [own 33 1 o (i / 8 + 2) c (flat encW (fV (bts t).length (bts t) i))] w ∧ Sl 45 [(0, .string t), (3, .slice o (i / 8 + 2) c), (4, .int .i64 i), (5, .int .u64 (b * 256 ^ k : Nat)), (6, .int .i64 k)] a) (fun k => i % 8 - k)
    (fun a w => HS w0 noM [own 33 1 o (i / 8 + 2) c (flat encW (fV (bts t).length (bts t) i))] w ∧ Sl 45 [(0, .string t), (3, .slice o (i / 8 + 2) c), (4, .int .i64 i), (5, .int .u64 (b * 256 ^ (i % 8) : Nat))] a) 0 ⟨Nat.zero_le _, hH, by rw [mul0]; exact (hA.sub (by (repeat (first | exact trivial | refine ⟨rfl, ?_⟩))))⟩ ?_ ?_
  · clear hA hH
    rintro k a w ⟨hk, hH, hA⟩
    by_cases hkl : k < i % 8
    · have hm := mul256 (b := b) (k := k) hb256 (by omega)
      repeat' (first | (first | (refine GT ?_ ?_ <;> intro hg <;> clear hA a <;> intro a hA <;> (first | exact FA | replace hg := of_decide_eq_true hg | replace hg := of_decide_eq_false hg | skip)) | ((first | apply st_ex hA hH rfl rfl (by decide) | apply dr_ex hA rfl rfl rfl (by decide) | apply dr_exp hA rfl rfl rfl (by decide) | apply dr_ex3 hA hH rfl rfl rfl (by decide)); (first | (apply ex_rem; rfl; rfl; decide) | (apply ex_mulK (v := ((b * 256 ^ (k + 1) : Nat) : Int)); rfl; rfl; exact hm)); clear hA a; intro a hA) | (refine QT0 ?_; clear hA a; intro a hA) | (first | (refine BT ?_; clear hA hH; rintro _ w ⟨bN, rfl, hH⟩ a hA) | (refine LT ?_; clear hA hH; rintro _ w ⟨oN, rfl, hH⟩ a hA) | (refine AT ?_; clear hA; rintro _ w ⟨oN, cN, rfl, hH2⟩ a hA; clear hH; have hH := (hH2 _ (by (repeat constructor))).tail; clear hH2) | (refine S0T ?_; clear hH; rintro _ w hH) )) | ((first | refine CT ?_ | (refine DT ?_ ?_ <;> intro hc <;> try (exfalso; omega))) <;> repeat' refine CT ?_) | (first | (refine DSK ?_; clear hA a; intro a hA) | (first | (refine DLT ?_; clear hA hH; rintro _ w ⟨oN, rfl, hH⟩; refine ⟨STT, ?_⟩; intro a hA) | (refine DAT ?_; clear hA; rintro _ w ⟨oN, cN, rfl, hH2⟩; clear hH; have hH := (hH2 _ (by (repeat constructor))).tail; clear hH2; refine ⟨STT, ?_⟩; intro a hA))) )
      exact ⟨k + 1, ⟨hkl, hH, (hA.sub (by (repeat (first | exact trivial | refine ⟨rfl, ?_⟩))))⟩, by omega⟩
    · obtain rfl : k = i % 8 := by omega
      repeat' (first | (first | (refine GT ?_ ?_ <;> intro hg <;> clear hA a <;> intro a hA <;> (first | exact FA | replace hg := of_decide_eq_true hg | replace hg := of_decide_eq_false hg | skip)) | ((first | apply st_ex hA hH rfl rfl (by decide) | apply dr_ex hA rfl rfl rfl (by decide) | apply dr_exp hA rfl rfl rfl (by decide) | apply dr_ex3 hA hH rfl rfl rfl (by decide)); (first | (apply ex_rem; rfl; rfl; decide)); clear hA a; intro a hA) | (refine QT0 ?_; clear hA a; intro a hA) | (first | (refine BT ?_; clear hA hH; rintro _ w ⟨bN, rfl, hH⟩ a hA) | (refine LT ?_; clear hA hH; rintro _ w ⟨oN, rfl, hH⟩ a hA) | (refine AT ?_; clear hA; rintro _ w ⟨oN, cN, rfl, hH2⟩ a hA; clear hH; have hH := (hH2 _ (by (repeat constructor))).tail; clear hH2) | (refine S0T ?_; clear hH; rintro _ w hH) )) | ((first | refine CT ?_ | (refine DT ?_ ?_ <;> intro hc <;> try (exfalso; omega))) <;> repeat' refine CT ?_) | (first | (refine DSK ?_; clear hA a; intro a hA) | (first | (refine DLT ?_; clear hA hH; rintro _ w ⟨oN, rfl, hH⟩; refine ⟨STT, ?_⟩; intro a hA) | (refine DAT ?_; clear hA; rintro _ w ⟨oN, cN, rfl, hH2⟩; clear hH; have hH := (hH2 _ (by (repeat constructor))).tail; clear hH2; refine ⟨STT, ?_⟩; intro a hA))) )
      exact ⟨hH, (hA.sub (by (repeat (first | exact trivial | refine ⟨rfl, ?_⟩))))⟩
  clear hA hH
  rintro a w ⟨hH, hA⟩
  have hlast := fV_last (n := (bts t).length) (i := i) (t := bts t)
  have hcl : (flat encW (fV (bts t).length (bts t) i))[(i / 8 + 1) * 1]? = some (.int .u64 (wrd ((bts t).take i) (i / 8))) := flat_get0 encW_len hlast rfl
  have hnx := wrd_next hb
  have hset := fV_set (n := (bts t).length) hb
  have hfl := fV_len (n := (bts t).length) (t := bts t) (i := i)
  have hUw := wrd_U (t := (bts t).take (i + 1)) (fun x hx => bts_lt t x (List.mem_of_mem_take hx)) (i / 8)
  have hadd : IntKind.u64.wrap (wrd ((bts t).take i) (i / 8) + ((b * 256 ^ (i % 8) : Nat) : Int)) = wrd ((bts t).take (i + 1)) (i / 8) := by
    rw [← hnx, u64_mod, Int.emod_eq_of_lt hUw.1 hUw.2]
  generalize wrd ((bts t).take (i + 1)) (i / 8) = wn at *
  repeat' (first | (first | (refine GT ?_ ?_ <;> intro hg <;> clear hA a <;> intro a hA <;> (first | exact FA | replace hg := of_decide_eq_true hg | replace hg := of_decide_eq_false hg | skip)) | ((first | apply st_ex hA hH rfl rfl (by decide) | apply dr_ex hA rfl rfl rfl (by decide) | apply dr_exp hA rfl rfl rfl (by decide) | apply dr_ex3 hA hH rfl rfl rfl (by decide)); (first | (apply ex_load; rfl; apply cl_own; exact MEMT; exact hcl) | (apply ex_addK (v := wn); rfl; rfl; exact hadd)); clear hA a; intro a hA) | (refine QT0 ?_; clear hA a; intro a hA) | (first | (refine BT ?_; clear hA hH; rintro _ w ⟨bN, rfl, hH⟩ a hA) | (refine LT ?_; clear hA hH; rintro _ w ⟨oN, rfl, hH⟩ a hA) | (refine AT ?_; clear hA; rintro _ w ⟨oN, cN, rfl, hH2⟩ a hA; clear hH; have hH := (hH2 _ (by (repeat constructor))).tail; clear hH2) | (refine S0T ?_; clear hH; rintro _ w hH) | (apply st_op0 hA rfl rfl; apply op_set1 (enc := encW) (y0 := wn) (j := (i / 8 + 1) * 1); rfl; rfl; rfl; rfl; exact encW_len; exact hH; (repeat constructor); omega; clear hH; rintro _ w hH))) | ((first | refine CT ?_ | (refine DT ?_ ?_ <;> intro hc <;> try (exfalso; omega))) <;> repeat' refine CT ?_) | (first | (refine DSK ?_; clear hA a; intro a hA) | (first | (refine DLT ?_; clear hA hH; rintro _ w ⟨oN, rfl, hH⟩; refine ⟨STT, ?_⟩; intro a hA) | (refine DAT ?_; clear hA; rintro _ w ⟨oN, cN, rfl, hH2⟩; clear hH; have hH := (hH2 _ (by (repeat constructor))).tail; clear hH2; refine ⟨STT, ?_⟩; intro a hA))) )
  rw [Nat.mul_one, hset, show i / 8 + 2 = 1 + nW (i + 1) by unfold nW; omega] at hH
  rw [show i / 8 + 2 = 1 + nW (i + 1) by unfold nW; omega] at hA
  exact ⟨(i + 1, o, c), ⟨hlt, hH, (hA.sub (by (repeat (first | exact trivial | refine ⟨rfl, ?_⟩))))⟩, by show (bts t).length - (i + 1) < (bts t).length - i; omega⟩

set_option maxHeartbeats 4000000 in
theorem dstext_spec (w0 : World) (M : Nat → Prop) (bm N : Nat) (g : SS) (t : ByteArray) (roots : List Int) (oR : Option Addr) (cR : Nat) (hok : GOk N g.s) (hcy : g.cy ≤ 1000000) (hU : ∀ x ∈ roots, U x) (hl : roots.length ≤ 140737488355328) (hrd : ∀ H' w', HS w0 M H' w' → Rd w' oR (flat encW roots)) (hH : HS w0 M [sdI bm N g] w0) :
    Ret Try.prog 21 #[.pointer (some (bat bm 0)), .string t, .slice oR roots.length cR] w0 (fun v w => v = .tuple #[.int .u64 (textS N g (bts t) roots).1, .int .i64 (textS N g (bts t) roots).2.1] ∧ HS w0 M [sdI bm N (textS N g (bts t) roots).2.2] w) := by
  (refine enter (N := 43) Try.func21 rfl Try.ntmps21 rfl ?_; intro a hA; dsimp only [sl0, Nat.reduceAdd] at hA)
  by_cases hlen : 32760 < (bts t).length
  · rw [textS_lg hlen]
    repeat' (first | (first | (refine GT ?_ ?_ <;> intro hg <;> clear hA a <;> intro a hA <;> (first | exact FA | replace hg := of_decide_eq_true hg | replace hg := of_decide_eq_false hg | skip)) | ((first | apply st_ex hA hH rfl rfl (by decide) | apply dr_ex hA rfl rfl rfl (by decide) | apply dr_exp hA rfl rfl rfl (by decide) | apply dr_ex3 hA hH rfl rfl rfl (by decide)); (first | (apply ex_len_string; rfl)); clear hA a; intro a hA) | (refine QT0 ?_; clear hA a; intro a hA) | (first | (refine BT ?_; clear hA hH; rintro _ w ⟨bN, rfl, hH⟩ a hA) | (refine LT ?_; clear hA hH; rintro _ w ⟨oN, rfl, hH⟩ a hA) | (refine AT ?_; clear hA; rintro _ w ⟨oN, cN, rfl, hH2⟩ a hA; clear hH; have hH := (hH2 _ (by (repeat constructor))).tail; clear hH2) | (refine S0T ?_; clear hH; rintro _ w hH) )) | ((first | refine CT ?_ | (refine DT ?_ ?_ <;> intro hc <;> try (exfalso; omega))) <;> repeat' refine CT ?_) | (first | (refine DSK ?_; clear hA a; intro a hA) | (first | (refine DLT ?_; clear hA hH; rintro _ w ⟨oN, rfl, hH⟩; refine ⟨STT, ?_⟩; intro a hA) | (refine DAT ?_; clear hA; rintro _ w ⟨oN, cN, rfl, hH2⟩; clear hH; have hH := (hH2 _ (by (repeat constructor))).tail; clear hH2; refine ⟨STT, ?_⟩; intro a hA))) )
    exact rt2 (.inl rfl) rfl hA rfl rfl ⟨rfl, hH⟩
  have hnw : nW (bts t).length = ((bts t).length + 7) / 8 := rfl
  repeat' (first | (first | (refine GT ?_ ?_ <;> intro hg <;> clear hA a <;> intro a hA <;> (first | exact FA | replace hg := of_decide_eq_true hg | replace hg := of_decide_eq_false hg | skip)) | ((first | apply st_ex hA hH rfl rfl (by decide) | apply dr_ex hA rfl rfl rfl (by decide) | apply dr_exp hA rfl rfl rfl (by decide) | apply dr_ex3 hA hH rfl rfl rfl (by decide)); (first | (apply ex_len_string; rfl)); clear hA a; intro a hA) | (refine QT0 ?_; clear hA a; intro a hA) | (first | (refine BT ?_; clear hA hH; rintro _ w ⟨bN, rfl, hH⟩ a hA) | (refine LT ?_; clear hA hH; rintro _ w ⟨oN, rfl, hH⟩ a hA) | (refine AT ?_; clear hA; rintro _ w ⟨oN, cN, rfl, hH2⟩ a hA; clear hH; have hH := (hH2 _ (by (repeat constructor))).tail; clear hH2) | (refine S0T ?_; clear hH; rintro _ w hH) )) | ((first | refine CT ?_ | (refine DT ?_ ?_ <;> intro hc <;> try (exfalso; omega))) <;> repeat' refine CT ?_) | (first | (refine DSK ?_; clear hA a; intro a hA) | (first | (refine DLT ?_; clear hA hH; rintro _ w ⟨oN, rfl, hH⟩; refine ⟨STT, ?_⟩; intro a hA) | (refine DAT ?_; clear hA; rintro _ w ⟨oN, cN, rfl, hH2⟩; clear hH; have hH := (hH2 _ (by (repeat constructor))).tail; clear hH2; refine ⟨STT, ?_⟩; intro a hA))) )
  (refine st_op hA rfl rfl (by decide) (op_call rfl rfl rfl (rfields_spec _ t (by omega))) ?_; clear hA; rintro _ w ⟨of, cf, rfl, hj⟩ a hA; replace hH := hH.join hj; clear hj)
  have hok2 := allocS_ok hok 1 (1 + nW (bts t).length : Nat) roots
  have hUw := allocS_U hok 1 (1 + nW (bts t).length : Nat) roots
  have hspF : Sp of (1 + nW (bts t).length) := hH.own_sp (o := of) (by exact MEMT)
  replace hH : HS w0 M [sdI bm N g, own 33 1 of (1 + nW (bts t).length) cf (flat encW (txt (bts t)))] w := hH.perm (by (repeat (first | exact List.Perm.nil | refine perm_pick 0 rfl ?_ | refine perm_pick 1 rfl ?_ | refine perm_pick 2 rfl ?_ | refine perm_pick 3 rfl ?_ | refine perm_pick 4 rfl ?_ | refine perm_pick 5 rfl ?_ | refine perm_pick 6 rfl ?_ | refine perm_pick 7 rfl ?_ | refine perm_pick 8 rfl ?_ | refine perm_pick 9 rfl ?_ | refine perm_pick 10 rfl ?_ | refine perm_pick 11 rfl ?_)))
  repeat' (first | (first | (refine GT ?_ ?_ <;> intro hg <;> clear hA a <;> intro a hA <;> (first | exact FA | replace hg := of_decide_eq_true hg | replace hg := of_decide_eq_false hg | skip)) | (refine QT0 ?_; clear hA a; intro a hA) | (first | (refine BT ?_; clear hA hH; rintro _ w ⟨bN, rfl, hH⟩ a hA) | (refine LT ?_; clear hA hH; rintro _ w ⟨oN, rfl, hH⟩ a hA) | (refine AT ?_; clear hA; rintro _ w ⟨oN, cN, rfl, hH2⟩ a hA; clear hH; have hH := (hH2 _ (by (repeat constructor))).tail; clear hH2) | (refine S0T ?_; clear hH; rintro _ w hH) )) | ((first | refine CT ?_ | (refine DT ?_ ?_ <;> intro hc <;> try (exfalso; omega))) <;> repeat' refine CT ?_) | (first | (refine DSK ?_; clear hA a; intro a hA) | (first | (refine DLT ?_; clear hA hH; rintro _ w ⟨oN, rfl, hH⟩; refine ⟨STT, ?_⟩; intro a hA) | (refine DAT ?_; clear hA; rintro _ w ⟨oN, cN, rfl, hH2⟩; clear hH; have hH := (hH2 _ (by (repeat constructor))).tail; clear hH2; refine ⟨STT, ?_⟩; intro a hA))) )
  (refine st_op hA rfl rfl (by decide) (op_call rfl rfl rfl (dsalloc_f hH hok hcy hU hl (fun Hc w2 h => hrd _ _ h))) ?_; clear hA hH; rintro _ w ⟨rfl, hH⟩ a hA)
  by_cases he : (allocS N g 1 (1 + nW (bts t).length : Nat) roots).2.1 ≠ 0
  · rw [textS_er hlen he]
    generalize allocS N g 1 ((1 + nW (bts t).length : Nat) : Int) roots = r at *
    repeat' (first | (first | (refine GT ?_ ?_ <;> intro hg <;> clear hA a <;> intro a hA <;> (first | exact FA | replace hg := of_decide_eq_true hg | replace hg := of_decide_eq_false hg | skip)) | (refine QT0 ?_; clear hA a; intro a hA) | (first | (refine BT ?_; clear hA hH; rintro _ w ⟨bN, rfl, hH⟩ a hA) | (refine LT ?_; clear hA hH; rintro _ w ⟨oN, rfl, hH⟩ a hA) | (refine AT ?_; clear hA; rintro _ w ⟨oN, cN, rfl, hH2⟩ a hA; clear hH; have hH := (hH2 _ (by (repeat constructor))).tail; clear hH2) | (refine S0T ?_; clear hH; rintro _ w hH) )) | ((first | refine CT ?_ | (refine DT ?_ ?_ <;> intro hc <;> try (exfalso; omega))) <;> repeat' refine CT ?_) | (first | (refine DSK ?_; clear hA a; intro a hA) | (first | (refine DLT ?_; clear hA hH; rintro _ w ⟨oN, rfl, hH⟩; refine ⟨STT, ?_⟩; intro a hA) | (refine DAT ?_; clear hA; rintro _ w ⟨oN, cN, rfl, hH2⟩; clear hH; have hH := (hH2 _ (by (repeat constructor))).tail; clear hH2; refine ⟨STT, ?_⟩; intro a hA))) )
    exact rt2 (.inl rfl) rfl hA rfl rfl ⟨rfl, HS.left (H1 := [_]) hH⟩
  rw [textS_ok hlen he]
  have he0 := Decidable.not_not.1 he
  generalize allocS N g 1 ((1 + nW (bts t).length : Nat) : Int) roots = r at *
  have htl := txt_len (bts t)
  repeat' (first | (first | (refine GT ?_ ?_ <;> intro hg <;> clear hA a <;> intro a hA <;> (first | exact FA | replace hg := of_decide_eq_true hg | replace hg := of_decide_eq_false hg | skip)) | (refine QT0 ?_; clear hA a; intro a hA) | (first | (refine BT ?_; clear hA hH; rintro _ w ⟨bN, rfl, hH⟩ a hA) | (refine LT ?_; clear hA hH; rintro _ w ⟨oN, rfl, hH⟩ a hA) | (refine AT ?_; clear hA; rintro _ w ⟨oN, cN, rfl, hH2⟩ a hA; clear hH; have hH := (hH2 _ (by (repeat constructor))).tail; clear hH2) | (refine S0T ?_; clear hH; rintro _ w hH) )) | ((first | refine CT ?_ | (refine DT ?_ ?_ <;> intro hc <;> try (exfalso; omega))) <;> repeat' refine CT ?_) | (first | (refine DSK ?_; clear hA a; intro a hA) | (first | (refine DLT ?_; clear hA hH; rintro _ w ⟨oN, rfl, hH⟩; refine ⟨STT, ?_⟩; intro a hA) | (refine DAT ?_; clear hA; rintro _ w ⟨oN, cN, rfl, hH2⟩; clear hH; have hH := (hH2 _ (by (repeat constructor))).tail; clear hH2; refine ⟨STT, ?_⟩; intro a hA))) )
  refine wp_lpj (S := Nat) (fun i a w => i ≤ 1 + nW (bts t).length ∧ HS w0 M [sdI bm N (setF r.2.2 r.1 0 ((txt (bts t)).take i)), own 33 1 of (1 + nW (bts t).length) cf (flat encW (txt (bts t)))] w ∧ Sl 43 [(0, .pointer (some (bat bm 0))), (8, .slice of (1 + nW (bts t).length) cf), (9, .int .u64 r.1), (11, .int .i64 i)] a) (fun i => 1 + nW (bts t).length - i)
    (fun a w => HS w0 M [sdI bm N (setF r.2.2 r.1 0 (txt (bts t)))] w ∧ Sl 43 [(9, .int .u64 r.1)] a) 0 ⟨Nat.zero_le _, by rw [setF_z]; exact hH, (hA.sub (by (repeat (first | exact trivial | refine ⟨rfl, ?_⟩))))⟩ ?_ ?_
  rotate_left
  · clear hA hH
    rintro a w ⟨hH, hA⟩
    repeat' (first | (first | (refine GT ?_ ?_ <;> intro hg <;> clear hA a <;> intro a hA <;> (first | exact FA | replace hg := of_decide_eq_true hg | replace hg := of_decide_eq_false hg | skip)) | (refine QT0 ?_; clear hA a; intro a hA) | (first | (refine BT ?_; clear hA hH; rintro _ w ⟨bN, rfl, hH⟩ a hA) | (refine LT ?_; clear hA hH; rintro _ w ⟨oN, rfl, hH⟩ a hA) | (refine AT ?_; clear hA; rintro _ w ⟨oN, cN, rfl, hH2⟩ a hA; clear hH; have hH := (hH2 _ (by (repeat constructor))).tail; clear hH2) | (refine S0T ?_; clear hH; rintro _ w hH) )) | ((first | refine CT ?_ | (refine DT ?_ ?_ <;> intro hc <;> try (exfalso; omega))) <;> repeat' refine CT ?_) | (first | (refine DSK ?_; clear hA a; intro a hA) | (first | (refine DLT ?_; clear hA hH; rintro _ w ⟨oN, rfl, hH⟩; refine ⟨STT, ?_⟩; intro a hA) | (refine DAT ?_; clear hA; rintro _ w ⟨oN, cN, rfl, hH2⟩; clear hH; have hH := (hH2 _ (by (repeat constructor))).tail; clear hH2; refine ⟨STT, ?_⟩; intro a hA))) )
    exact rt2 (.inl rfl) rfl hA rfl rfl ⟨rfl, hH⟩
  clear hA hH
  rintro i a w ⟨hi, hH, hA⟩
  by_cases hlt : i < 1 + nW (bts t).length
  rotate_left
  · obtain rfl : i = 1 + nW (bts t).length := by omega
    rw [← htl, List.take_length, htl] at hH
    repeat' (first | (first | (refine GT ?_ ?_ <;> intro hg <;> clear hA a <;> intro a hA <;> (first | exact FA | replace hg := of_decide_eq_true hg | replace hg := of_decide_eq_false hg | skip)) | (refine QT0 ?_; clear hA a; intro a hA) | (first | (refine BT ?_; clear hA hH; rintro _ w ⟨bN, rfl, hH⟩ a hA) | (refine LT ?_; clear hA hH; rintro _ w ⟨oN, rfl, hH⟩ a hA) | (refine AT ?_; clear hA; rintro _ w ⟨oN, cN, rfl, hH2⟩ a hA; clear hH; have hH := (hH2 _ (by (repeat constructor))).tail; clear hH2) | (refine S0T ?_; clear hH; rintro _ w hH) )) | ((first | refine CT ?_ | (refine DT ?_ ?_ <;> intro hc <;> try (exfalso; omega))) <;> repeat' refine CT ?_) | (first | (refine DSK ?_; clear hA a; intro a hA) | (first | (refine DLT ?_; clear hA hH; rintro _ w ⟨oN, rfl, hH⟩; refine ⟨STT, ?_⟩; intro a hA) | (refine DAT ?_; clear hA; rintro _ w ⟨oN, cN, rfl, hH2⟩; clear hH; have hH := (hH2 _ (by (repeat constructor))).tail; clear hH2; refine ⟨STT, ?_⟩; intro a hA))) )
    exact ⟨HS.left (H1 := [_]) hH, (hA.sub (by (repeat (first | exact trivial | refine ⟨rfl, ?_⟩))))⟩
  obtain ⟨y, hy⟩ : ∃ y, (txt (bts t))[i]? = some y := ⟨_, List.getElem?_eq_getElem (by omega)⟩
  have hcy2 : (flat encW (txt (bts t)))[i * 1]? = some (.int .u64 y) := flat_get0 encW_len hy rfl
  have hokF := setF_ok (x := r.1) (i := 0) (l := (txt (bts t)).take i) hok2 (fun z hz => txt_U (bts_lt t) (by omega) z (List.mem_of_mem_take hz))
  have hnx := setF_next (g := r.2.2) (x := r.1) hy (by rw [List.length_take]; omega)
  repeat' (first | (first | (refine GT ?_ ?_ <;> intro hg <;> clear hA a <;> intro a hA <;> (first | exact FA | replace hg := of_decide_eq_true hg | replace hg := of_decide_eq_false hg | skip)) | ((first | apply st_ex hA hH rfl rfl (by decide) | apply dr_ex hA rfl rfl rfl (by decide) | apply dr_exp hA rfl rfl rfl (by decide) | apply dr_ex3 hA hH rfl rfl rfl (by decide)); (first | (apply ex_load; rfl; apply cl_own; exact MEMT; exact hcy2)); clear hA a; intro a hA) | (refine QT0 ?_; clear hA a; intro a hA) | (first | (refine BT ?_; clear hA hH; rintro _ w ⟨bN, rfl, hH⟩ a hA) | (refine LT ?_; clear hA hH; rintro _ w ⟨oN, rfl, hH⟩ a hA) | (refine AT ?_; clear hA; rintro _ w ⟨oN, cN, rfl, hH2⟩ a hA; clear hH; have hH := (hH2 _ (by (repeat constructor))).tail; clear hH2) | (refine S0T ?_; clear hH; rintro _ w hH) )) | ((first | refine CT ?_ | (refine DT ?_ ?_ <;> intro hc <;> try (exfalso; omega))) <;> repeat' refine CT ?_) | (first | (refine DSK ?_; clear hA a; intro a hA) | (first | (refine DLT ?_; clear hA hH; rintro _ w ⟨oN, rfl, hH⟩; refine ⟨STT, ?_⟩; intro a hA) | (refine DAT ?_; clear hA; rintro _ w ⟨oN, cN, rfl, hH2⟩; clear hH; have hH := (hH2 _ (by (repeat constructor))).tail; clear hH2; refine ⟨STT, ?_⟩; intro a hA))) )
  (refine st_op hA rfl rfl (by decide) (op_call rfl rfl rfl (dsset_f hH hokF hUw)) ?_; clear hA hH; rintro _ w ⟨rfl, hH⟩ a hA)
  rw [hnx] at hH
  repeat' (first | (first | (refine GT ?_ ?_ <;> intro hg <;> clear hA a <;> intro a hA <;> (first | exact FA | replace hg := of_decide_eq_true hg | replace hg := of_decide_eq_false hg | skip)) | (refine QT0 ?_; clear hA a; intro a hA) | (first | (refine BT ?_; clear hA hH; rintro _ w ⟨bN, rfl, hH⟩ a hA) | (refine LT ?_; clear hA hH; rintro _ w ⟨oN, rfl, hH⟩ a hA) | (refine AT ?_; clear hA; rintro _ w ⟨oN, cN, rfl, hH2⟩ a hA; clear hH; have hH := (hH2 _ (by (repeat constructor))).tail; clear hH2) | (refine S0T ?_; clear hH; rintro _ w hH) )) | ((first | refine CT ?_ | (refine DT ?_ ?_ <;> intro hc <;> try (exfalso; omega))) <;> repeat' refine CT ?_) | (first | (refine DSK ?_; clear hA a; intro a hA) | (first | (refine DLT ?_; clear hA hH; rintro _ w ⟨oN, rfl, hH⟩; refine ⟨STT, ?_⟩; intro a hA) | (refine DAT ?_; clear hA; rintro _ w ⟨oN, cN, rfl, hH2⟩; clear hH; have hH := (hH2 _ (by (repeat constructor))).tail; clear hH2; refine ⟨STT, ?_⟩; intro a hA))) )
  exact ⟨i + 1, ⟨hlt, hH, (hA.sub (by (repeat (first | exact trivial | refine ⟨rfl, ?_⟩))))⟩, by omega⟩
section
variable {w0 w : World} {M : Nat → Prop} {H : List It} {bm N : Nat} {g : SS}
theorem dstext_f {t : ByteArray} {roots : List Int} {oR : Option Addr} {cR : Nat} (hH : HS w0 M (sdI bm N g :: H) w) (hok : GOk N g.s) (hcy : g.cy ≤ 1000000) (hU : ∀ x ∈ roots, U x) (hl : roots.length ≤ 140737488355328) (hrd : ∀ Hc w', HS w0 M (Hc ++ H) w' → Rd w' oR (flat encW roots)) :
    Ret Try.prog 21 #[.pointer (some (bat bm 0)), .string t, .slice oR roots.length cR] w (fun v w' => v = .tuple #[.int .u64 (textS N g (bts t) roots).1, .int .i64 (textS N g (bts t) roots).2.1] ∧ HS w0 M (sdI bm N (textS N g (bts t) roots).2.2 :: H) w') := by
  obtain ⟨Mc, h1, -, h2⟩ := HS.frame (Hc := [sdI bm N g]) (Hf := H) hH
  exact (dstext_spec w Mc bm N g t roots oR cR hok hcy hU hl (fun H' w' hw => hrd _ _ (h2 _ _ hw)) h1).mono fun v w' ⟨h3, h4⟩ => ⟨h3, h2 _ _ h4⟩
theorem dsget_f {x i : Int} (hH : HS w0 M (sdI bm N g :: H) w) (hok : GOk N g.s) (hU : U x) :
    Ret Try.prog 17 #[.pointer (some (bat bm 0)), .int .u64 x, .int .i64 i] w (fun v w' => v = .tuple #[.int .u64 (getA g.s.L (atA g.s.L x : Nat) i).1, .int .i64 (getA g.s.L (atA g.s.L x : Nat) i).2] ∧ HS w0 M (sdI bm N g :: H) w') := by
  obtain ⟨Mc, h1, -, h2⟩ := HS.frame (Hc := [sdI bm N g]) (Hf := H) hH
  exact (dsget_spec w Mc bm N g x i hok hU h1).mono fun v w' ⟨h3, h4⟩ => ⟨h3, h2 _ _ h4⟩
end
end Go.Proofs.Ytdfhajdejlhamaa
namespace Go.Proofs.Ytdfhajdejlhamaa
open Go Go.Fw
set_option linter.unusedVariables false
section
variable {N : Nat} {s : GS} {g : SS} {L : List Ob} {o : Ob}
theorem two_word {a : Nat} (h : a ≤ 65536) : numW (2 * (a : Int)) = false ∧ addrN (2 * (a : Int)) = a := by
  refine ⟨?_, ?_⟩
  · unfold numW; simp
  · unfold addrN addrW
    rw [if_neg (by omega)]
    omega
theorem strS_txt (hl : Lay N 1 L) {t : ByteArray} {x : Int} (ho : o ∈ L) (hk : o.kind = 1) (hf : o.fs = txt (bts t)) (h1 : numW x = false) (h2 : addrN x = o.a) (hlen : (bts t).length ≤ 32760) : strS L x = (t, 0) := by
  have hat := atA_obj hl ho h1 h2
  have hobj := objA_mem hl ho
  have ha : 1 ≤ o.a := (hl.mem o ho).1
  have g0 : getA L (o.a : Int) 0 = (2 * ((bts t).length : Int) + 1, 0) := fld_obj hl ho (i := 0) (by rw [hf]; rfl)
  have hkd : kindA L (o.a : Int) = ((1 : Int), 0) := by rw [(kind_obj hl hobj).1, hk]; rfl
  have hsz : (sizeA L (o.a : Int)).1 = 1 + (((bts t).length : Int) + 7) / 8 := by
    rw [(kind_obj hl hobj).2, hf, txt_len]
    show ((1 + nW (bts t).length : Nat) : Int) = _
    unfold nW
    omega
  have hv := numV_of (n := (bts t).length) (by omega)
  have hnum : numW (2 * ((bts t).length : Int) + 1) = true := by unfold numW; simp
  unfold strS
  rw [hat, if_neg (by omega), hkd, if_neg (by simp), g0]
  dsimp only
  rw [hv, hnum, hsz, if_neg (by rintro (h | h | h | h); cases h; omega; omega; exact h rfl), Int.toNat_natCast]
  have e : bytS L o.a (bts t).length = bts t := by
    refine List.ext_getElem? fun k => ?_
    rcases Nat.lt_or_ge k (bts t).length with h | h
    · rw [bytS_at h, List.getElem?_eq_getElem h]
      have hb := List.getElem?_eq_getElem h
      have hg : getA L (o.a : Int) ((1 + k / 8 : Nat) : Int) = (wrd (bts t) (k / 8), 0) := fld_obj hl ho (by rw [hf]; exact txt_at (by unfold nW; omega))
      unfold byS
      rw [hg]
      dsimp only
      rw [wrd_at (bts_lt t) hb]
      rfl
    · rw [List.getElem?_eq_none (by rw [bytS_len]; exact h), List.getElem?_eq_none h]
  rw [e, ofB_bts]
theorem one_obj : ∀ {L : List Ob} {p : Nat}, Lay N p L → (∀ x ∈ L, x = o) → o ∈ L → L = [o]
  | [], _, _, _, h => absurd h (List.not_mem_nil)
  | [x], _, _, h, _ => by rw [h x (List.mem_cons_self ..)]
  | x :: y :: L, p, hl, h, _ => by
    have h1 := h x (List.mem_cons_self ..)
    have h2 := h y (List.mem_cons_of_mem _ (List.mem_cons_self ..))
    have h3 := hl.2.1
    subst h1
    rw [h2] at h3
    unfold Ob.fin at h3
    omega
/-- one object, and it is protected -/
def OneP (o : Ob) (s : GS) : Prop := s.L = [o] ∧ Pt s o.a
theorem OneP.step (h : GOk N s) (hP : OneP o s) : OneP o (stepG s).2 := by
  obtain ⟨h1, h2⟩ := hP
  have hm : o ∈ s.L := by rw [h1]; exact List.mem_cons_self ..
  obtain ⟨h3, h4⟩ := keep_step h hm h2
  exact ⟨one_obj (step_ok h).lay (fun x hx => by have := step_sub h x hx; rw [h1] at this; exact List.mem_singleton.1 this) h3, h4⟩
theorem OneP.begin (h : GOk N s) (ha : o.a ≤ 65536) (hP : OneP o s) : OneP o (beginG s [2 * (o.a : Int)]).2 := by
  obtain ⟨h1, h2⟩ := hP
  have hm : o ∈ s.L := by rw [h1]; exact List.mem_cons_self ..
  obtain ⟨w1, w2⟩ := two_word ha
  have hr : Rc s.L [2 * (o.a : Int)] o.a := by
    have := Rc.root (L := s.L) (roots := [2 * (o.a : Int)]) (List.mem_cons_self ..) w1 (by rw [w2]; exact ⟨o, hm, rfl⟩)
    rw [w2] at this
    exact this
  obtain ⟨h3, h4⟩ := keep_begin h hm h2 hr
  exact ⟨by rw [beg_L h]; exact h1, h4⟩
theorem OneP.pick (h : GOk N g.s) (ha : o.a ≤ 65536) (hP : OneP o g.s) : GOk N (pickS g [2 * (o.a : Int)]).s ∧ OneP o (pickS g [2 * (o.a : Int)]).s :=
  pickS_inv (P := OneP o) h hP (fun s h1 h2 => h2.step h1) _ fun s h1 h2 => h2.begin h1 ha
end
end Go.Proofs.Ytdfhajdejlhamaa
namespace Go.Proofs.Ytdfhajdejlhamaa
open Go Go.Fw
set_option linter.unusedVariables false
/-- a store that is new -/
def st0 (N : Nat) : SS := ⟨⟨0, [], List.replicate N 0, [], 0⟩, 0⟩
theorem st0_ok {N : Nat} (h : 2 ≤ N ∧ N ≤ 65536) : GOk N (st0 N).s := by
  have hc : ∀ a, col (st0 N).s a = 0 := fun a => by
    unfold col st0
    rw [List.getD_eq_getElem?_getD, List.getElem?_replicate]
    split <;> rfl
  exact ⟨h, show 1 ≤ N by omega, fun o ho => absurd ho (List.not_mem_nil), fun o ho => absurd ho (List.not_mem_nil), Nat.zero_le _, List.length_replicate, fun a => by rw [hc]; omega, .nil, fun a => ⟨fun h => absurd h (List.not_mem_nil), fun h => by rw [hc] at h; cases h⟩, fun a ha => absurd (hc a) ha, fun _ => hc, fun h => by cases h⟩
def awS : Nat → SS
  | 0 => st0 9
  | i + 1 => (allocS 9 (awS i) 5 1 []).2.2
theorem awS_ok : ∀ i, GOk 9 (awS i).s
  | 0 => st0_ok (by decide)
  | i + 1 => allocS_ok (awS_ok i) 5 1 []
theorem awS_cy : ∀ i, (awS i).cy ≤ 2 * i
  | 0 => Nat.le_refl _
  | i + 1 => by
    have h1 := awS_cy i
    have h2 := allocS_cy (N := 9) (g := awS i) (k := 5) (z := 1) (roots := [])
    show (allocS 9 (awS i) 5 1 []).2.2.cy ≤ _
    omega
theorem aw_next (i : Nat) : (allocS 9 (awS i) 5 1 []).2.2 = awS (i + 1) := rfl
theorem aw_first : (allocS 9 (awS 0) 5 1 []).1 = 2 ∧ (allocS 9 (awS 0) 5 1 []).2.1 = 0 := ⟨by kernel_rfl, by kernel_rfl⟩
theorem aw_room : roomA (gaps 9 1 (awS 4).s.L) = 0 := by kernel_rfl
def aw5 : SS := (allocS 9 (awS 4) 5 2 [2]).2.2
def aw6 : SS := (allocS 9 aw5 6 9 []).2.2
theorem aw_b : (allocS 9 (awS 4) 5 2 [2]).1 = 6 ∧ (allocS 9 (awS 4) 5 2 [2]).2.1 = 0 := ⟨by kernel_rfl, by kernel_rfl⟩
theorem aw_g : (allocS 9 aw5 6 9 []).2.1 = 6 := by kernel_rfl
theorem aw_cy : aw6.cy = 2 := by kernel_rfl
theorem aw_cy5 : aw5.cy = 1 := by kernel_rfl
theorem aw_q5 : (allocS 9 (awS 4) 5 2 [2]).2.2 = aw5 := rfl
theorem aw_q6 : (allocS 9 aw5 6 9 []).2.2 = aw6 := rfl
theorem st0_cy (N : Nat) : (st0 N).cy = 0 := rfl
theorem st0_n (N : Nat) : (⟨⟨0, [], List.replicate N 0, [], 0⟩, 0⟩ : SS) = st0 N := rfl
theorem one_w (x : Int) : ([.int .u64 x] : List Value) = flat encW [x] := rfl
theorem aw_0 : st0 9 = awS 0 := rfl
theorem aw5_ok : GOk 9 aw5.s := allocS_ok (awS_ok 4) 5 2 [2]
theorem ex_eqlSs {P : Program} {N : Nat} {l : List (Nat × Value)} {C : World → Prop} {d : Option Tmp} {T : TypeId} {pos : String} {af : Array Edge} {gd : Option (Nat × Bool)} {t ty : TypeId} {x y : Operand} {m : ByteArray} [h : TSr P t] (hx : ev l x = some (.string m)) (hy : ev l y = some (.string m)) : Ex P N l C ⟨d, .binOp .eql t x y ty, T, pos, af, gd⟩ (.bool true) := by
  have := ex_eqlS (N := N) (C := C) (d := d) (T := T) (pos := pos) (af := af) (g := gd) (ty := ty) (h := h) hx hy
  rwa [beq_self_eq_true] at this
def tLit : ByteArray := ⟨#[97, 98, 99, 100, 101, 102, 103, 104, 105]⟩
def awT1 : SS := (textS 20 (st0 20) (bts tLit) []).2.2
def awT2 : SS := (writeS awT1 (atA awT1.s.L 2 : Nat) 0 3).2
def awT3 : SS := pickS awT2 []
theorem awT1_text : (textS 20 (st0 20) (bts tLit) []).1 = 2 ∧ (textS 20 (st0 20) (bts tLit) []).2.1 = 0 := ⟨by kernel_rfl, by kernel_rfl⟩
theorem awT1_L : awT1.s.L = [⟨1, 1, txt (bts tLit)⟩] := by kernel_rfl
theorem awT1_cy : awT1.cy = 0 ∧ awT2.cy = 0 ∧ awT3.cy = 0 := ⟨by kernel_rfl, by kernel_rfl, by kernel_rfl⟩
theorem awT1_ok : GOk 20 awT1.s := setF_ok (allocS_ok (st0_ok (by decide)) 1 _ []) (txt_U (bts_lt tLit) (by decide))
theorem awT1_str : strS awT1.s.L 2 = (tLit, 0) := strS_txt (o := ⟨1, 1, txt (bts tLit)⟩) awT1_ok.lay (by rw [awT1_L]; exact List.mem_cons_self ..) rfl rfl (by decide) (by decide) (by decide)
theorem awT2_ok : GOk 20 awT2.s := (write_ok awT1_ok _ _ ⟨by decide, by decide⟩).1
theorem awT2_1 : (writeS awT1 (atA awT1.s.L 2 : Nat) 0 3).1 = 0 := by kernel_rfl
theorem awT3_ok : GOk 20 awT3.s := pickS_ok awT2_ok []
theorem awT3_k : (kindA awT3.s.L (atA awT3.s.L 2 : Nat)).1 = 1 ∧ (sizeA awT3.s.L (atA awT3.s.L 2 : Nat)).1 = 3 := ⟨by kernel_rfl, by kernel_rfl⟩
theorem awT_q1 : (textS 20 (st0 20) (bts tLit) []).2.2 = awT1 := rfl
theorem awT_q2 : (writeS awT1 (atA awT1.s.L 2 : Nat) 0 3).2 = awT2 := rfl
theorem awT_q3 : pickS awT2 [] = awT3 := rfl
theorem tLit_len : (bts tLit).length ≤ 9223372036854775807 := by decide
theorem U_two : U 2 := ⟨by decide, by decide⟩
section
variable {w0 w : World} {M : Nat → Prop} {H : List It} {bs N : Nat} {g : SS}
theorem stext_f {t : ByteArray} {roots : List Int} {oR : Option Addr} {cR : Nat} (hH : HS w0 M (stI bs N g :: H) w) (hok : GOk N g.s) (hcy : g.cy ≤ 1000000) (ht : (bts t).length ≤ 9223372036854775807) (hU : ∀ x ∈ roots, U x) (hl : roots.length ≤ 140737488355328) (hrd : ∀ Hc w', HS w0 M (Hc ++ H) w' → Rd w' oR (flat encW roots)) :
    Ret Try.prog 20 #[.pointer (some (bat bs 0)), .string t, .slice oR roots.length cR] w (fun v w' => v = .tuple #[.int .u64 (textS N g (bts t) roots).1, .int .i64 (textS N g (bts t) roots).2.1] ∧ HS w0 M (stI bs N (textS N g (bts t) roots).2.2 :: H) w') := by
  obtain ⟨Mc, h1, -, h2⟩ := HS.frame (Hc := [stI bs N g]) (Hf := H) hH
  exact (stext_spec w Mc bs N g t roots oR cR hok hcy ht hU hl (fun H' w' hw => hrd _ _ (h2 _ _ hw)) h1).mono fun v w' ⟨h3, h4⟩ => ⟨h3, h2 _ _ h4⟩
theorem sstring_f {x : Int} (hH : HS w0 M (stI bs N g :: H) w) (hok : GOk N g.s) (hU : U x) :
    Ret Try.prog 25 #[.pointer (some (bat bs 0)), .int .u64 x] w (fun v w' => v = .tuple #[.string (strS g.s.L x).1, .int .i64 (strS g.s.L x).2] ∧ HS w0 M (stI bs N g :: H) w') := by
  obtain ⟨Mc, h1, -, h2⟩ := HS.frame (Hc := [stI bs N g]) (Hf := H) hH
  exact (sstring_spec w Mc bs N g x hok hU h1).mono fun v w' ⟨h3, h4⟩ => ⟨h3, h2 _ _ h4⟩
theorem scycles_f (hH : HS w0 M (stI bs N g :: H) w) :
    Ret Try.prog 29 #[.pointer (some (bat bs 0))] w (fun v w' => v = .int .i64 (g.cy : Nat) ∧ HS w0 M (stI bs N g :: H) w') := by
  obtain ⟨Mc, h1, -, h2⟩ := HS.frame (Hc := [stI bs N g]) (Hf := H) hH
  exact (scycles_spec w Mc bs N g h1).mono fun v w' ⟨h3, h4⟩ => ⟨h3, h2 _ _ h4⟩
theorem sroom_f (hH : HS w0 M (stI bs N g :: H) w) :
    Ret Try.prog 27 #[.pointer (some (bat bs 0))] w (fun v w' => v = .int .i64 (roomA (gaps N 1 g.s.L)) ∧ HS w0 M (stI bs N g :: H) w') := by
  obtain ⟨Mc, h1, -, h2⟩ := HS.frame (Hc := [stI bs N g]) (Hf := H) hH
  exact (sroom_spec w Mc bs N g h1).mono fun v w' ⟨h3, h4⟩ => ⟨h3, h2 _ _ h4⟩
theorem spick_f {roots : List Int} {oR : Option Addr} {cR : Nat} (hH : HS w0 M (stI bs N g :: H) w) (hok : GOk N g.s) (hcy : g.cy ≤ 1000000) (hU : ∀ x ∈ roots, U x) (hl : roots.length ≤ 140737488355328) (hrd : ∀ Hc w', HS w0 M (Hc ++ H) w' → Rd w' oR (flat encW roots)) :
    Ret Try.prog 18 #[.pointer (some (bat bs 0)), .slice oR roots.length cR] w (fun v w' => HS w0 M (stI bs N (pickS g roots) :: H) w') := by
  obtain ⟨Mc, h1, -, h2⟩ := HS.frame (Hc := [stI bs N g]) (Hf := H) hH
  exact (spick_spec w Mc bs N g roots oR cR hok hcy hU hl (fun H' w' hw => hrd _ _ (h2 _ _ hw)) h1).mono fun v w' h4 => h2 _ _ h4
end
set_option maxRecDepth 10000 attribute [local irreducible] Code.wp wpList Calls Ex Op1 sat bat blk cb own Go.Fw.mp Go.Fw.mpO Go.Fw.mpI Go.Fw.mpE Go.Fw.itr HS Rd Ret wkD Hp Cl Cls Exit.then Exit.inBlock Exit.noGoto bodyPost Go.Fw.flat wk2 Go.Fw.all Go.Fw.owns wpOp
attribute [local irreducible] hdA gaps isA nextA allocA freeA sizeA kindA setA getA whiteZ numW addrW shadeG gcI hpI stepG beginG writeG allocG mu atA endS finG allocS setF txt wrd chunk bts orK shlK numV bytS strS textS stI pickS writeS st0 awS aw5 aw6 awT1 awT2 awT3

set_option maxHeartbeats 4000000 in
theorem awake_spec (w0 : World) : Ret Try.prog 8 #[] w0 (fun v w => v = .bool true ∧ Kp w0 noM w) := by
  have hH : HS w0 noM [] w0 := HS.init w0 noM
  (refine enter (N := 127) Try.func8 rfl Try.ntmps8 rfl ?_; intro a hA; dsimp only [sl0, Nat.reduceAdd] at hA)
  repeat' (first | (first | (refine GT ?_ ?_ <;> intro hg <;> clear hA a <;> intro a hA <;> (first | exact FA | replace hg := of_decide_eq_true hg | replace hg := of_decide_eq_false hg | skip)) | (refine QT ?_; clear hA a; intro a hA) | (first | (refine BT ?_; clear hA hH; rintro _ w ⟨bN, rfl, hH⟩ a hA) | (refine LT ?_; clear hA hH; rintro _ w ⟨oN, rfl, hH⟩ a hA) | (refine AT ?_; clear hA; rintro _ w ⟨oN, cN, rfl, hH2⟩ a hA; clear hH; have hH := (hH2 _ (by (repeat constructor))).tail; clear hH2) | (refine S0T ?_; clear hH; rintro _ w hH) )) | ((first | refine CT ?_ | (refine DT ?_ ?_ <;> intro hc <;> try (exfalso; omega))) <;> repeat' refine CT ?_) | (first | (refine DSK ?_; clear hA a; intro a hA) | (first | (refine DLT ?_; clear hA hH; rintro _ w ⟨oN, rfl, hH⟩; refine ⟨STT, ?_⟩; intro a hA) | (refine DAT ?_; clear hA; rintro _ w ⟨oN, cN, rfl, hH2⟩; clear hH; have hH := (hH2 _ (by (repeat constructor))).tail; clear hH2; refine ⟨STT, ?_⟩; intro a hA))) )
  (refine st_op hA rfl rfl (by decide) (op_call rfl rfl rfl (new_st hH)) ?_; clear hA hH; rintro _ w (⟨rfl, h, hH⟩ | ⟨h, bs, rfl, hH⟩) a hA)
  · exact absurd ⟨by decide, by decide⟩ h
  rw [show Int.toNat 9 = 9 from rfl, st0_n, aw_0] at hH
  repeat' (first | (first | (refine GT ?_ ?_ <;> intro hg <;> clear hA a <;> intro a hA <;> (first | exact FA | replace hg := of_decide_eq_true hg | replace hg := of_decide_eq_false hg | skip)) | ((first | apply st_ex hA hH rfl rfl (by decide) | apply dr_ex hA rfl rfl rfl (by decide) | apply dr_exp hA rfl rfl rfl (by decide) | apply dr_ex3 hA hH rfl rfl rfl (by decide)); (first | (apply ex_eqlPf; rfl; rfl) | (apply ex_eqlPt; rfl; rfl) | (apply ex_neqPt; rfl; rfl) | (apply ex_neqPf; rfl; rfl)); clear hA a; intro a hA) | (refine QT ?_; clear hA a; intro a hA) | (first | (refine BT ?_; clear hA hH; rintro _ w ⟨bN, rfl, hH⟩ a hA) | (refine LT ?_; clear hA hH; rintro _ w ⟨oN, rfl, hH⟩ a hA) | (refine AT ?_; clear hA; rintro _ w ⟨oN, cN, rfl, hH2⟩ a hA; clear hH; have hH := (hH2 _ (by (repeat constructor))).tail; clear hH2) | (refine S0T ?_; clear hH; rintro _ w hH) )) | ((first | refine CT ?_ | (refine DT ?_ ?_ <;> intro hc <;> try (exfalso; omega))) <;> repeat' refine CT ?_) | (first | (refine DSK ?_; clear hA a; intro a hA) | (first | (refine DLT ?_; clear hA hH; rintro _ w ⟨oN, rfl, hH⟩; refine ⟨STT, ?_⟩; intro a hA) | (refine DAT ?_; clear hA; rintro _ w ⟨oN, cN, rfl, hH2⟩; clear hH; have hH := (hH2 _ (by (repeat constructor))).tail; clear hH2; refine ⟨STT, ?_⟩; intro a hA))) )
  (refine st_op hA rfl rfl (by decide) (op_call rfl rfl rfl (new_st hH)) ?_; clear hA hH; rintro _ w (⟨rfl, h, hH⟩ | ⟨h, b2, rfl, hH⟩) a hA)
  rotate_left
  · exact absurd h.1 (by decide)
  clear h
  have hnil : ∀ x ∈ ([] : List Int), U x := fun x hx => absurd hx (List.not_mem_nil)
  have rnil : ∀ (Hc : List It) (w' : World), HS w0 noM (Hc ++ []) w' → Rd w' none (flat encW []) := fun _ w' _ => rd_nil w'
  repeat' (first | (first | (refine GT ?_ ?_ <;> intro hg <;> clear hA a <;> intro a hA <;> (first | exact FA | replace hg := of_decide_eq_true hg | replace hg := of_decide_eq_false hg | skip)) | ((first | apply st_ex hA hH rfl rfl (by decide) | apply dr_ex hA rfl rfl rfl (by decide) | apply dr_exp hA rfl rfl rfl (by decide) | apply dr_ex3 hA hH rfl rfl rfl (by decide)); (first | (apply ex_eqlPf; rfl; rfl) | (apply ex_eqlPt; rfl; rfl) | (apply ex_neqPt; rfl; rfl) | (apply ex_neqPf; rfl; rfl)); clear hA a; intro a hA) | (refine QT ?_; clear hA a; intro a hA) | (first | (refine BT ?_; clear hA hH; rintro _ w ⟨bN, rfl, hH⟩ a hA) | (refine LT ?_; clear hA hH; rintro _ w ⟨oN, rfl, hH⟩ a hA) | (refine AT ?_; clear hA; rintro _ w ⟨oN, cN, rfl, hH2⟩ a hA; clear hH; have hH := (hH2 _ (by (repeat constructor))).tail; clear hH2) | (refine S0T ?_; clear hH; rintro _ w hH) )) | ((first | refine CT ?_ | (refine DT ?_ ?_ <;> intro hc <;> try (exfalso; omega))) <;> repeat' refine CT ?_) | (first | (refine DSK ?_; clear hA a; intro a hA) | (first | (refine DLT ?_; clear hA hH; rintro _ w ⟨oN, rfl, hH⟩; refine ⟨STT, ?_⟩; intro a hA) | (refine DAT ?_; clear hA; rintro _ w ⟨oN, cN, rfl, hH2⟩; clear hH; have hH := (hH2 _ (by (repeat constructor))).tail; clear hH2; refine ⟨STT, ?_⟩; intro a hA))) )
  (refine st_op hA rfl rfl (by decide) (op_call rfl rfl rfl (salloc_f (roots := []) (oR := none) (cR := 0) hH (awS_ok 0) (by have := awS_cy 0; omega) hnil (by decide) rnil)) ?_; clear hA hH; rintro _ w ⟨rfl, hH⟩ a hA)
  rw [aw_next, aw_first.1, aw_first.2] at *
  repeat' (first | (first | (refine GT ?_ ?_ <;> intro hg <;> clear hA a <;> intro a hA <;> (first | exact FA | replace hg := of_decide_eq_true hg | replace hg := of_decide_eq_false hg | skip)) | (refine QT ?_; clear hA a; intro a hA) | (first | (refine BT ?_; clear hA hH; rintro _ w ⟨bN, rfl, hH⟩ a hA) | (refine LT ?_; clear hA hH; rintro _ w ⟨oN, rfl, hH⟩ a hA) | (refine AT ?_; clear hA; rintro _ w ⟨oN, cN, rfl, hH2⟩ a hA; clear hH; have hH := (hH2 _ (by (repeat constructor))).tail; clear hH2) | (refine S0T ?_; clear hH; rintro _ w hH) )) | ((first | refine CT ?_ | (refine DT ?_ ?_ <;> intro hc <;> try (exfalso; omega))) <;> repeat' refine CT ?_) | (first | (refine DSK ?_; clear hA a; intro a hA) | (first | (refine DLT ?_; clear hA hH; rintro _ w ⟨oN, rfl, hH⟩; refine ⟨STT, ?_⟩; intro a hA) | (refine DAT ?_; clear hA; rintro _ w ⟨oN, cN, rfl, hH2⟩; clear hH; have hH := (hH2 _ (by (repeat constructor))).tail; clear hH2; refine ⟨STT, ?_⟩; intro a hA))) )
  refine wp_lpj (S := Nat) (fun i a w => i ≤ 3 ∧ HS w0 noM [stI bs 9 (awS (i + 1))] w ∧ Sl 127 [(1, .pointer (some (bat bs 0))), (2, .int .u64 2), (3, .int .i64 0), (4, .int .i64 i)] a) (fun i => 3 - i)
    (fun a w => HS w0 noM [stI bs 9 (awS 4)] w ∧ Sl 127 [(1, .pointer (some (bat bs 0))), (2, .int .u64 2), (3, .int .i64 0)] a) 0 ⟨by omega, hH, (hA.sub (by (repeat (first | exact trivial | refine ⟨rfl, ?_⟩))))⟩ ?_ ?_
  · clear hA hH
    rintro i a w ⟨hi, hH, hA⟩
    by_cases hlt : i < 3
    · repeat' (first | (first | (refine GT ?_ ?_ <;> intro hg <;> clear hA a <;> intro a hA <;> (first | exact FA | replace hg := of_decide_eq_true hg | replace hg := of_decide_eq_false hg | skip)) | (refine QT ?_; clear hA a; intro a hA) | (first | (refine BT ?_; clear hA hH; rintro _ w ⟨bN, rfl, hH⟩ a hA) | (refine LT ?_; clear hA hH; rintro _ w ⟨oN, rfl, hH⟩ a hA) | (refine AT ?_; clear hA; rintro _ w ⟨oN, cN, rfl, hH2⟩ a hA; clear hH; have hH := (hH2 _ (by (repeat constructor))).tail; clear hH2) | (refine S0T ?_; clear hH; rintro _ w hH) )) | ((first | refine CT ?_ | (refine DT ?_ ?_ <;> intro hc <;> try (exfalso; omega))) <;> repeat' refine CT ?_) | (first | (refine DSK ?_; clear hA a; intro a hA) | (first | (refine DLT ?_; clear hA hH; rintro _ w ⟨oN, rfl, hH⟩; refine ⟨STT, ?_⟩; intro a hA) | (refine DAT ?_; clear hA; rintro _ w ⟨oN, cN, rfl, hH2⟩; clear hH; have hH := (hH2 _ (by (repeat constructor))).tail; clear hH2; refine ⟨STT, ?_⟩; intro a hA))) )
      (refine st_op hA rfl rfl (by decide) (op_call rfl rfl rfl (salloc_f (roots := []) (oR := none) (cR := 0) hH (awS_ok (i + 1)) (by have := awS_cy (i + 1); omega) hnil (by decide) rnil)) ?_; clear hA hH; rintro _ w ⟨rfl, hH⟩ a hA)
      rw [aw_next] at hH
      repeat' (first | (first | (refine GT ?_ ?_ <;> intro hg <;> clear hA a <;> intro a hA <;> (first | exact FA | replace hg := of_decide_eq_true hg | replace hg := of_decide_eq_false hg | skip)) | (refine QT ?_; clear hA a; intro a hA) | (first | (refine BT ?_; clear hA hH; rintro _ w ⟨bN, rfl, hH⟩ a hA) | (refine LT ?_; clear hA hH; rintro _ w ⟨oN, rfl, hH⟩ a hA) | (refine AT ?_; clear hA; rintro _ w ⟨oN, cN, rfl, hH2⟩ a hA; clear hH; have hH := (hH2 _ (by (repeat constructor))).tail; clear hH2) | (refine S0T ?_; clear hH; rintro _ w hH) )) | ((first | refine CT ?_ | (refine DT ?_ ?_ <;> intro hc <;> try (exfalso; omega))) <;> repeat' refine CT ?_) | (first | (refine DSK ?_; clear hA a; intro a hA) | (first | (refine DLT ?_; clear hA hH; rintro _ w ⟨oN, rfl, hH⟩; refine ⟨STT, ?_⟩; intro a hA) | (refine DAT ?_; clear hA; rintro _ w ⟨oN, cN, rfl, hH2⟩; clear hH; have hH := (hH2 _ (by (repeat constructor))).tail; clear hH2; refine ⟨STT, ?_⟩; intro a hA))) )
      exact ⟨i + 1, ⟨hlt, hH, (hA.sub (by (repeat (first | exact trivial | refine ⟨rfl, ?_⟩))))⟩, by omega⟩
    · obtain rfl : i = 3 := by omega
      repeat' (first | (first | (refine GT ?_ ?_ <;> intro hg <;> clear hA a <;> intro a hA <;> (first | exact FA | replace hg := of_decide_eq_true hg | replace hg := of_decide_eq_false hg | skip)) | (refine QT ?_; clear hA a; intro a hA) | (first | (refine BT ?_; clear hA hH; rintro _ w ⟨bN, rfl, hH⟩ a hA) | (refine LT ?_; clear hA hH; rintro _ w ⟨oN, rfl, hH⟩ a hA) | (refine AT ?_; clear hA; rintro _ w ⟨oN, cN, rfl, hH2⟩ a hA; clear hH; have hH := (hH2 _ (by (repeat constructor))).tail; clear hH2) | (refine S0T ?_; clear hH; rintro _ w hH) )) | ((first | refine CT ?_ | (refine DT ?_ ?_ <;> intro hc <;> try (exfalso; omega))) <;> repeat' refine CT ?_) | (first | (refine DSK ?_; clear hA a; intro a hA) | (first | (refine DLT ?_; clear hA hH; rintro _ w ⟨oN, rfl, hH⟩; refine ⟨STT, ?_⟩; intro a hA) | (refine DAT ?_; clear hA; rintro _ w ⟨oN, cN, rfl, hH2⟩; clear hH; have hH := (hH2 _ (by (repeat constructor))).tail; clear hH2; refine ⟨STT, ?_⟩; intro a hA))) )
      exact ⟨hH, (hA.sub (by (repeat (first | exact trivial | refine ⟨rfl, ?_⟩))))⟩
  clear hA hH
  rintro a w ⟨hH, hA⟩
  repeat' (first | (first | (refine GT ?_ ?_ <;> intro hg <;> clear hA a <;> intro a hA <;> (first | exact FA | replace hg := of_decide_eq_true hg | replace hg := of_decide_eq_false hg | skip)) | (refine QT ?_; clear hA a; intro a hA) | (first | (refine BT ?_; clear hA hH; rintro _ w ⟨bN, rfl, hH⟩ a hA) | (refine LT ?_; clear hA hH; rintro _ w ⟨oN, rfl, hH⟩ a hA) | (refine AT ?_; clear hA; rintro _ w ⟨oN, cN, rfl, hH2⟩ a hA; clear hH; have hH := (hH2 _ (by (repeat constructor))).tail; clear hH2) | (refine S0T ?_; clear hH; rintro _ w hH) )) | ((first | refine CT ?_ | (refine DT ?_ ?_ <;> intro hc <;> try (exfalso; omega))) <;> repeat' refine CT ?_) | (first | (refine DSK ?_; clear hA a; intro a hA) | (first | (refine DLT ?_; clear hA hH; rintro _ w ⟨oN, rfl, hH⟩; refine ⟨STT, ?_⟩; intro a hA) | (refine DAT ?_; clear hA; rintro _ w ⟨oN, cN, rfl, hH2⟩; clear hH; have hH := (hH2 _ (by (repeat constructor))).tail; clear hH2; refine ⟨STT, ?_⟩; intro a hA))) )
  (refine st_op hA rfl rfl (by decide) (op_call rfl rfl rfl (sroom_f hH)) ?_; clear hA hH; rintro _ w ⟨rfl, hH⟩ a hA)
  rw [aw_room] at hA
  repeat' (first | (first | (refine GT ?_ ?_ <;> intro hg <;> clear hA a <;> intro a hA <;> (first | exact FA | replace hg := of_decide_eq_true hg | replace hg := of_decide_eq_false hg | skip)) | (refine QT ?_; clear hA a; intro a hA) | (first | (refine BT ?_; clear hA hH; rintro _ w ⟨bN, rfl, hH⟩ a hA) | (refine LT ?_; clear hA hH; rintro _ w ⟨oN, rfl, hH⟩ a hA) | (refine AT ?_; clear hA; rintro _ w ⟨oN, cN, rfl, hH2⟩ a hA; clear hH; have hH := (hH2 _ (by (repeat constructor))).tail; clear hH2) | (refine S0T ?_; clear hH; rintro _ w hH) )) | ((first | refine CT ?_ | (refine DT ?_ ?_ <;> intro hc <;> try (exfalso; omega))) <;> repeat' refine CT ?_) | (first | (refine DSK ?_; clear hA a; intro a hA) | (first | (refine DLT ?_; clear hA hH; rintro _ w ⟨oN, rfl, hH⟩; refine ⟨STT, ?_⟩; intro a hA) | (refine DAT ?_; clear hA; rintro _ w ⟨oN, cN, rfl, hH2⟩; clear hH; have hH := (hH2 _ (by (repeat constructor))).tail; clear hH2; refine ⟨STT, ?_⟩; intro a hA))) )
  rw [one_w] at hH
  have hH2 : HS w0 noM [stI bs 9 (awS 4), own 33 1 oN 1 1 (flat encW [2])] w := hH.perm (.swap _ _ _)
  clear hH
  have hH := hH2
  clear hH2
  (refine st_op hA rfl rfl (by decide) (op_call rfl rfl rfl (salloc_f (roots := [2]) (oR := oN) (cR := 1) hH (awS_ok 4) (by have := awS_cy 4; omega) U2 (by decide) (fun Hc w2 h => h.own_rd (List.mem_append_right _ (List.mem_cons_self ..))))) ?_; clear hA hH; rintro _ w ⟨rfl, hH⟩ a hA)
  rw [aw_q5, aw_b.1, aw_b.2] at *
  repeat' (first | (first | (refine GT ?_ ?_ <;> intro hg <;> clear hA a <;> intro a hA <;> (first | exact FA | replace hg := of_decide_eq_true hg | replace hg := of_decide_eq_false hg | skip)) | (refine QT ?_; clear hA a; intro a hA) | (first | (refine BT ?_; clear hA hH; rintro _ w ⟨bN, rfl, hH⟩ a hA) | (refine LT ?_; clear hA hH; rintro _ w ⟨oN, rfl, hH⟩ a hA) | (refine AT ?_; clear hA; rintro _ w ⟨oN, cN, rfl, hH2⟩ a hA; clear hH; have hH := (hH2 _ (by (repeat constructor))).tail; clear hH2) | (refine S0T ?_; clear hH; rintro _ w hH) )) | ((first | refine CT ?_ | (refine DT ?_ ?_ <;> intro hc <;> try (exfalso; omega))) <;> repeat' refine CT ?_) | (first | (refine DSK ?_; clear hA a; intro a hA) | (first | (refine DLT ?_; clear hA hH; rintro _ w ⟨oN, rfl, hH⟩; refine ⟨STT, ?_⟩; intro a hA) | (refine DAT ?_; clear hA; rintro _ w ⟨oN, cN, rfl, hH2⟩; clear hH; have hH := (hH2 _ (by (repeat constructor))).tail; clear hH2; refine ⟨STT, ?_⟩; intro a hA))) )
  replace hH := HS.left (H1 := [_]) hH
  (refine st_op hA rfl rfl (by decide) (op_call rfl rfl rfl (salloc_f (roots := []) (oR := none) (cR := 0) hH aw5_ok (by rw [aw_cy5]; decide) hnil (by decide) rnil)) ?_; clear hA hH; rintro _ w ⟨rfl, hH⟩ a hA)
  rw [aw_q6, aw_g] at *
  repeat' (first | (first | (refine GT ?_ ?_ <;> intro hg <;> clear hA a <;> intro a hA <;> (first | exact FA | replace hg := of_decide_eq_true hg | replace hg := of_decide_eq_false hg | skip)) | (refine QT ?_; clear hA a; intro a hA) | (first | (refine BT ?_; clear hA hH; rintro _ w ⟨bN, rfl, hH⟩ a hA) | (refine LT ?_; clear hA hH; rintro _ w ⟨oN, rfl, hH⟩ a hA) | (refine AT ?_; clear hA; rintro _ w ⟨oN, cN, rfl, hH2⟩ a hA; clear hH; have hH := (hH2 _ (by (repeat constructor))).tail; clear hH2) | (refine S0T ?_; clear hH; rintro _ w hH) )) | ((first | refine CT ?_ | (refine DT ?_ ?_ <;> intro hc <;> try (exfalso; omega))) <;> repeat' refine CT ?_) | (first | (refine DSK ?_; clear hA a; intro a hA) | (first | (refine DLT ?_; clear hA hH; rintro _ w ⟨oN, rfl, hH⟩; refine ⟨STT, ?_⟩; intro a hA) | (refine DAT ?_; clear hA; rintro _ w ⟨oN, cN, rfl, hH2⟩; clear hH; have hH := (hH2 _ (by (repeat constructor))).tail; clear hH2; refine ⟨STT, ?_⟩; intro a hA))) )
  (refine st_op hA rfl rfl (by decide) (op_call rfl rfl rfl (new_st hH)) ?_; clear hA hH; rintro _ w (⟨rfl, h, hH⟩ | ⟨h, bt, rfl, hH⟩) a hA)
  · exact absurd ⟨by decide, by decide⟩ h
  rw [show Int.toNat 20 = 20 from rfl, st0_n] at hH
  repeat' (first | (first | (refine GT ?_ ?_ <;> intro hg <;> clear hA a <;> intro a hA <;> (first | exact FA | replace hg := of_decide_eq_true hg | replace hg := of_decide_eq_false hg | skip)) | (refine QT ?_; clear hA a; intro a hA) | (first | (refine BT ?_; clear hA hH; rintro _ w ⟨bN, rfl, hH⟩ a hA) | (refine LT ?_; clear hA hH; rintro _ w ⟨oN, rfl, hH⟩ a hA) | (refine AT ?_; clear hA; rintro _ w ⟨oN, cN, rfl, hH2⟩ a hA; clear hH; have hH := (hH2 _ (by (repeat constructor))).tail; clear hH2) | (refine S0T ?_; clear hH; rintro _ w hH) )) | ((first | refine CT ?_ | (refine DT ?_ ?_ <;> intro hc <;> try (exfalso; omega))) <;> repeat' refine CT ?_) | (first | (refine DSK ?_; clear hA a; intro a hA) | (first | (refine DLT ?_; clear hA hH; rintro _ w ⟨oN, rfl, hH⟩; refine ⟨STT, ?_⟩; intro a hA) | (refine DAT ?_; clear hA; rintro _ w ⟨oN, cN, rfl, hH2⟩; clear hH; have hH := (hH2 _ (by (repeat constructor))).tail; clear hH2; refine ⟨STT, ?_⟩; intro a hA))) )
  have rn2 : ∀ (Hc : List It) (w' : World), HS w0 noM (Hc ++ [stI bs 9 aw6]) w' → Rd w' none (flat encW []) := fun _ w' _ => rd_nil w'
  (refine st_op hA rfl rfl (by decide) (op_call rfl rfl rfl (stext_f (t := tLit) (roots := []) (oR := none) (cR := 0) hH (st0_ok (by decide)) (by rw [st0_cy]; decide) tLit_len hnil (by decide) rn2)) ?_; clear hA hH; rintro _ w ⟨rfl, hH⟩ a hA)
  rw [awT_q1, awT1_text.1, awT1_text.2] at *
  repeat' (first | (first | (refine GT ?_ ?_ <;> intro hg <;> clear hA a <;> intro a hA <;> (first | exact FA | replace hg := of_decide_eq_true hg | replace hg := of_decide_eq_false hg | skip)) | (refine QT ?_; clear hA a; intro a hA) | (first | (refine BT ?_; clear hA hH; rintro _ w ⟨bN, rfl, hH⟩ a hA) | (refine LT ?_; clear hA hH; rintro _ w ⟨oN, rfl, hH⟩ a hA) | (refine AT ?_; clear hA; rintro _ w ⟨oN, cN, rfl, hH2⟩ a hA; clear hH; have hH := (hH2 _ (by (repeat constructor))).tail; clear hH2) | (refine S0T ?_; clear hH; rintro _ w hH) )) | ((first | refine CT ?_ | (refine DT ?_ ?_ <;> intro hc <;> try (exfalso; omega))) <;> repeat' refine CT ?_) | (first | (refine DSK ?_; clear hA a; intro a hA) | (first | (refine DLT ?_; clear hA hH; rintro _ w ⟨oN, rfl, hH⟩; refine ⟨STT, ?_⟩; intro a hA) | (refine DAT ?_; clear hA; rintro _ w ⟨oN, cN, rfl, hH2⟩; clear hH; have hH := (hH2 _ (by (repeat constructor))).tail; clear hH2; refine ⟨STT, ?_⟩; intro a hA))) )
  (refine st_op hA rfl rfl (by decide) (op_call rfl rfl rfl (sstring_f hH awT1_ok U_two)) ?_; clear hA hH; rintro _ w ⟨rfl, hH⟩ a hA)
  rw [awT1_str] at hA
  dsimp only at hA
  repeat' (first | (first | (refine GT ?_ ?_ <;> intro hg <;> clear hA a <;> intro a hA <;> (first | exact FA | replace hg := of_decide_eq_true hg | replace hg := of_decide_eq_false hg | skip)) | (refine QT ?_; clear hA a; intro a hA) | (first | (refine BT ?_; clear hA hH; rintro _ w ⟨bN, rfl, hH⟩ a hA) | (refine LT ?_; clear hA hH; rintro _ w ⟨oN, rfl, hH⟩ a hA) | (refine AT ?_; clear hA; rintro _ w ⟨oN, cN, rfl, hH2⟩ a hA; clear hH; have hH := (hH2 _ (by (repeat constructor))).tail; clear hH2) | (refine S0T ?_; clear hH; rintro _ w hH) )) | ((first | refine CT ?_ | (refine DT ?_ ?_ <;> intro hc <;> try (exfalso; omega))) <;> repeat' refine CT ?_) | (first | (refine DSK ?_; clear hA a; intro a hA) | (first | (refine DLT ?_; clear hA hH; rintro _ w ⟨oN, rfl, hH⟩; refine ⟨STT, ?_⟩; intro a hA) | (refine DAT ?_; clear hA; rintro _ w ⟨oN, cN, rfl, hH2⟩; clear hH; have hH := (hH2 _ (by (repeat constructor))).tail; clear hH2; refine ⟨STT, ?_⟩; intro a hA))) )
  (refine st_op hA rfl rfl (by decide) (op_call rfl rfl rfl (sset_f hH awT1_ok U_two)) ?_; clear hA hH; rintro _ w ⟨rfl, hH⟩ a hA)
  rw [awT_q2, awT2_1] at *
  repeat' (first | (first | (refine GT ?_ ?_ <;> intro hg <;> clear hA a <;> intro a hA <;> (first | exact FA | replace hg := of_decide_eq_true hg | replace hg := of_decide_eq_false hg | skip)) | (refine QT ?_; clear hA a; intro a hA) | (first | (refine BT ?_; clear hA hH; rintro _ w ⟨bN, rfl, hH⟩ a hA) | (refine LT ?_; clear hA hH; rintro _ w ⟨oN, rfl, hH⟩ a hA) | (refine AT ?_; clear hA; rintro _ w ⟨oN, cN, rfl, hH2⟩ a hA; clear hH; have hH := (hH2 _ (by (repeat constructor))).tail; clear hH2) | (refine S0T ?_; clear hH; rintro _ w hH) )) | ((first | refine CT ?_ | (refine DT ?_ ?_ <;> intro hc <;> try (exfalso; omega))) <;> repeat' refine CT ?_) | (first | (refine DSK ?_; clear hA a; intro a hA) | (first | (refine DLT ?_; clear hA hH; rintro _ w ⟨oN, rfl, hH⟩; refine ⟨STT, ?_⟩; intro a hA) | (refine DAT ?_; clear hA; rintro _ w ⟨oN, cN, rfl, hH2⟩; clear hH; have hH := (hH2 _ (by (repeat constructor))).tail; clear hH2; refine ⟨STT, ?_⟩; intro a hA))) )
  (refine st_op hA rfl rfl (by decide) (op_call rfl rfl rfl (spick_f (roots := []) (oR := none) (cR := 0) hH awT2_ok (by rw [awT1_cy.2.1]; decide) hnil (by decide) rn2)) ?_; clear hA hH; rintro _ w hH a hA)
  rw [awT_q3] at hH
  repeat' (first | (first | (refine GT ?_ ?_ <;> intro hg <;> clear hA a <;> intro a hA <;> (first | exact FA | replace hg := of_decide_eq_true hg | replace hg := of_decide_eq_false hg | skip)) | (refine QT ?_; clear hA a; intro a hA) | (first | (refine BT ?_; clear hA hH; rintro _ w ⟨bN, rfl, hH⟩ a hA) | (refine LT ?_; clear hA hH; rintro _ w ⟨oN, rfl, hH⟩ a hA) | (refine AT ?_; clear hA; rintro _ w ⟨oN, cN, rfl, hH2⟩ a hA; clear hH; have hH := (hH2 _ (by (repeat constructor))).tail; clear hH2) | (refine S0T ?_; clear hH; rintro _ w hH) )) | ((first | refine CT ?_ | (refine DT ?_ ?_ <;> intro hc <;> try (exfalso; omega))) <;> repeat' refine CT ?_) | (first | (refine DSK ?_; clear hA a; intro a hA) | (first | (refine DLT ?_; clear hA hH; rintro _ w ⟨oN, rfl, hH⟩; refine ⟨STT, ?_⟩; intro a hA) | (refine DAT ?_; clear hA; rintro _ w ⟨oN, cN, rfl, hH2⟩; clear hH; have hH := (hH2 _ (by (repeat constructor))).tail; clear hH2; refine ⟨STT, ?_⟩; intro a hA))) )
  (refine st_op hA rfl rfl (by decide) (op_call rfl rfl rfl (ref_spec _ 1 (by decide))) ?_; clear hA; rintro _ w ⟨rfl, hk⟩ a hA; replace hH := hH.keep hk; clear hk)
  repeat' (first | (first | (refine GT ?_ ?_ <;> intro hg <;> clear hA a <;> intro a hA <;> (first | exact FA | replace hg := of_decide_eq_true hg | replace hg := of_decide_eq_false hg | skip)) | (refine QT ?_; clear hA a; intro a hA) | (first | (refine BT ?_; clear hA hH; rintro _ w ⟨bN, rfl, hH⟩ a hA) | (refine LT ?_; clear hA hH; rintro _ w ⟨oN, rfl, hH⟩ a hA) | (refine AT ?_; clear hA; rintro _ w ⟨oN, cN, rfl, hH2⟩ a hA; clear hH; have hH := (hH2 _ (by (repeat constructor))).tail; clear hH2) | (refine S0T ?_; clear hH; rintro _ w hH) )) | ((first | refine CT ?_ | (refine DT ?_ ?_ <;> intro hc <;> try (exfalso; omega))) <;> repeat' refine CT ?_) | (first | (refine DSK ?_; clear hA a; intro a hA) | (first | (refine DLT ?_; clear hA hH; rintro _ w ⟨oN, rfl, hH⟩; refine ⟨STT, ?_⟩; intro a hA) | (refine DAT ?_; clear hA; rintro _ w ⟨oN, cN, rfl, hH2⟩; clear hH; have hH := (hH2 _ (by (repeat constructor))).tail; clear hH2; refine ⟨STT, ?_⟩; intro a hA))) )
  (refine st_op hA rfl rfl (by decide) (op_call rfl rfl rfl (ref_spec _ 3 (by decide))) ?_; clear hA; rintro _ w ⟨rfl, hk⟩ a hA; replace hH := hH.keep hk; clear hk)
  repeat' (first | (first | (refine GT ?_ ?_ <;> intro hg <;> clear hA a <;> intro a hA <;> (first | exact FA | replace hg := of_decide_eq_true hg | replace hg := of_decide_eq_false hg | skip)) | (refine QT ?_; clear hA a; intro a hA) | (first | (refine BT ?_; clear hA hH; rintro _ w ⟨bN, rfl, hH⟩ a hA) | (refine LT ?_; clear hA hH; rintro _ w ⟨oN, rfl, hH⟩ a hA) | (refine AT ?_; clear hA; rintro _ w ⟨oN, cN, rfl, hH2⟩ a hA; clear hH; have hH := (hH2 _ (by (repeat constructor))).tail; clear hH2) | (refine S0T ?_; clear hH; rintro _ w hH) )) | ((first | refine CT ?_ | (refine DT ?_ ?_ <;> intro hc <;> try (exfalso; omega))) <;> repeat' refine CT ?_) | (first | (refine DSK ?_; clear hA a; intro a hA) | (first | (refine DLT ?_; clear hA hH; rintro _ w ⟨oN, rfl, hH⟩; refine ⟨STT, ?_⟩; intro a hA) | (refine DAT ?_; clear hA; rintro _ w ⟨oN, cN, rfl, hH2⟩; clear hH; have hH := (hH2 _ (by (repeat constructor))).tail; clear hH2; refine ⟨STT, ?_⟩; intro a hA))) )
  replace hH := hH.perm (.swap _ _ _)
  (refine st_op hA rfl rfl (by decide) (op_call rfl rfl rfl (scycles_f hH)) ?_; clear hA hH; rintro _ w ⟨rfl, hH⟩ a hA)
  rw [aw_cy] at hA
  repeat' (first | (first | (refine GT ?_ ?_ <;> intro hg <;> clear hA a <;> intro a hA <;> (first | exact FA | replace hg := of_decide_eq_true hg | replace hg := of_decide_eq_false hg | skip)) | ((first | apply st_ex hA hH rfl rfl (by decide) | apply dr_ex hA rfl rfl rfl (by decide) | apply dr_exp hA rfl rfl rfl (by decide) | apply dr_ex3 hA hH rfl rfl rfl (by decide)); (first | (apply ex_eqlSs; rfl; rfl)); clear hA a; intro a hA) | (refine QT ?_; clear hA a; intro a hA) | (first | (refine BT ?_; clear hA hH; rintro _ w ⟨bN, rfl, hH⟩ a hA) | (refine LT ?_; clear hA hH; rintro _ w ⟨oN, rfl, hH⟩ a hA) | (refine AT ?_; clear hA; rintro _ w ⟨oN, cN, rfl, hH2⟩ a hA; clear hH; have hH := (hH2 _ (by (repeat constructor))).tail; clear hH2) | (refine S0T ?_; clear hH; rintro _ w hH) )) | ((first | refine CT ?_ | (refine DT ?_ ?_ <;> intro hc <;> try (exfalso; omega))) <;> repeat' refine CT ?_) | (first | (refine DSK ?_; clear hA a; intro a hA) | (first | (refine DLT ?_; clear hA hH; rintro _ w ⟨oN, rfl, hH⟩; refine ⟨STT, ?_⟩; intro a hA) | (refine DAT ?_; clear hA; rintro _ w ⟨oN, cN, rfl, hH2⟩; clear hH; have hH := (hH2 _ (by (repeat constructor))).tail; clear hH2; refine ⟨STT, ?_⟩; intro a hA))) )
  replace hH := hH.perm (.swap _ _ _)
  (refine st_op hA rfl rfl (by decide) (op_call rfl rfl rfl (skind_f hH awT3_ok U_two)) ?_; clear hA hH; rintro _ w ⟨rfl, hH⟩ a hA)
  rw [awT3_k.1] at hA
  repeat' (first | (first | (refine GT ?_ ?_ <;> intro hg <;> clear hA a <;> intro a hA <;> (first | exact FA | replace hg := of_decide_eq_true hg | replace hg := of_decide_eq_false hg | skip)) | (refine QT ?_; clear hA a; intro a hA) | (first | (refine BT ?_; clear hA hH; rintro _ w ⟨bN, rfl, hH⟩ a hA) | (refine LT ?_; clear hA hH; rintro _ w ⟨oN, rfl, hH⟩ a hA) | (refine AT ?_; clear hA; rintro _ w ⟨oN, cN, rfl, hH2⟩ a hA; clear hH; have hH := (hH2 _ (by (repeat constructor))).tail; clear hH2) | (refine S0T ?_; clear hH; rintro _ w hH) )) | ((first | refine CT ?_ | (refine DT ?_ ?_ <;> intro hc <;> try (exfalso; omega))) <;> repeat' refine CT ?_) | (first | (refine DSK ?_; clear hA a; intro a hA) | (first | (refine DLT ?_; clear hA hH; rintro _ w ⟨oN, rfl, hH⟩; refine ⟨STT, ?_⟩; intro a hA) | (refine DAT ?_; clear hA; rintro _ w ⟨oN, cN, rfl, hH2⟩; clear hH; have hH := (hH2 _ (by (repeat constructor))).tail; clear hH2; refine ⟨STT, ?_⟩; intro a hA))) )
  (refine st_op hA rfl rfl (by decide) (op_call rfl rfl rfl (ssize_f hH awT3_ok U_two)) ?_; clear hA hH; rintro _ w ⟨rfl, hH⟩ a hA)
  rw [awT3_k.2] at hA
  repeat' (first | (first | (refine GT ?_ ?_ <;> intro hg <;> clear hA a <;> intro a hA <;> (first | exact FA | replace hg := of_decide_eq_true hg | replace hg := of_decide_eq_false hg | skip)) | (refine QT ?_; clear hA a; intro a hA) | (first | (refine BT ?_; clear hA hH; rintro _ w ⟨bN, rfl, hH⟩ a hA) | (refine LT ?_; clear hA hH; rintro _ w ⟨oN, rfl, hH⟩ a hA) | (refine AT ?_; clear hA; rintro _ w ⟨oN, cN, rfl, hH2⟩ a hA; clear hH; have hH := (hH2 _ (by (repeat constructor))).tail; clear hH2) | (refine S0T ?_; clear hH; rintro _ w hH) )) | ((first | refine CT ?_ | (refine DT ?_ ?_ <;> intro hc <;> try (exfalso; omega))) <;> repeat' refine CT ?_) | (first | (refine DSK ?_; clear hA a; intro a hA) | (first | (refine DLT ?_; clear hA hH; rintro _ w ⟨oN, rfl, hH⟩; refine ⟨STT, ?_⟩; intro a hA) | (refine DAT ?_; clear hA; rintro _ w ⟨oN, cN, rfl, hH2⟩; clear hH; have hH := (hH2 _ (by (repeat constructor))).tail; clear hH2; refine ⟨STT, ?_⟩; intro a hA))) )
  (refine st_op hA rfl rfl (by decide) (op_call rfl rfl rfl (scycles_f hH)) ?_; clear hA hH; rintro _ w ⟨rfl, hH⟩ a hA)
  rw [awT1_cy.2.2] at hA
  repeat' (first | (first | (refine GT ?_ ?_ <;> intro hg <;> clear hA a <;> intro a hA <;> (first | exact FA | replace hg := of_decide_eq_true hg | replace hg := of_decide_eq_false hg | skip)) | (refine QT ?_; clear hA a; intro a hA) | (first | (refine BT ?_; clear hA hH; rintro _ w ⟨bN, rfl, hH⟩ a hA) | (refine LT ?_; clear hA hH; rintro _ w ⟨oN, rfl, hH⟩ a hA) | (refine AT ?_; clear hA; rintro _ w ⟨oN, cN, rfl, hH2⟩ a hA; clear hH; have hH := (hH2 _ (by (repeat constructor))).tail; clear hH2) | (refine S0T ?_; clear hH; rintro _ w hH) )) | ((first | refine CT ?_ | (refine DT ?_ ?_ <;> intro hc <;> try (exfalso; omega))) <;> repeat' refine CT ?_) | (first | (refine DSK ?_; clear hA a; intro a hA) | (first | (refine DLT ?_; clear hA hH; rintro _ w ⟨oN, rfl, hH⟩; refine ⟨STT, ?_⟩; intro a hA) | (refine DAT ?_; clear hA; rintro _ w ⟨oN, cN, rfl, hH2⟩; clear hH; have hH := (hH2 _ (by (repeat constructor))).tail; clear hH2; refine ⟨STT, ?_⟩; intro a hA))) )
  exact rt1 (.inl rfl) rfl hA rfl ⟨rfl, hH.kp⟩
end Go.Proofs.Ytdfhajdejlhamaa
