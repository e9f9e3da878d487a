/-
  The document's collector in memory; walks over without, White, shade. Conditions: none.
-/
import Derived.Test.YtejpcidfigmnkaaGR
namespace Go.Proofs.Ytejpcidfigmnkaa
open Go Go.Fw
set_option linter.unusedVariables false
def wo (l : List Nat) (z : Int) : List Nat := l.filter fun a => decide ((a : Int) ≠ z)
theorem wo_mem {l : List Nat} {n a : Nat} : a ∈ wo l (n : Int) ↔ a ∈ l ∧ a ≠ n := by
  unfold wo
  rw [List.mem_filter, decide_eq_true_eq]
  constructor
  · exact fun ⟨h1, h2⟩ => ⟨h1, fun he => h2 (by rw [he])⟩
  · exact fun ⟨h1, h2⟩ => ⟨h1, fun he => h2 (by omega)⟩
theorem wo_snoc {l : List Nat} {z : Int} {i a : Nat} (h : l[i]? = some a) : wo (l.take (i + 1)) z = if (a : Int) ≠ z then wo (l.take i) z ++ [a] else wo (l.take i) z := by
  unfold wo
  rw [List.take_add_one, h, List.filter_append]
  split
  · rename_i hc; simp [hc]
  · rename_i hc
    have : (a : Int) = z := by omega
    simp [this]
theorem wo_le {l : List Nat} {z : Int} : (wo l z).length ≤ l.length := List.length_filter_le _ _
/-- the document's greys and blacks are of a collector's colours -/
structure Dr (s : GS) (G B : List Nat) : Prop where
  nG : G.Nodup
  mG : ∀ a, a ∈ G ↔ col s a = 1
  nB : B.Nodup
  mB : ∀ a, a ∈ B ↔ col s a = 2
section
variable {N : Nat} {s : GS} {G B : List Nat}
theorem Dr.gl (h : Dr s G B) (hok : GOk N s) : G.length = s.gr.length := by
  refine (List.perm_ext_iff_of_nodup h.nG (hok.grs.imp fun h => by omega) |>.2 fun a => ?_).length_eq
  rw [h.mG, hok.grm]
theorem Dr.Gle (h : Dr s G B) (hok : GOk N s) : G.length ≤ N := nodup_len h.nG fun a ha => (hok.lt (hok.obj a (by have := (h.mG a).1 ha; omega))).2
theorem Dr.Ble (h : Dr s G B) (hok : GOk N s) : B.length ≤ N := nodup_len h.nB fun a ha => (hok.lt (hok.obj a (by have := (h.mB a).1 ha; omega))).2
theorem nd_snoc {l : List Nat} {a : Nat} (h : l.Nodup) (ha : a ∉ l) : (l ++ [a]).Nodup :=
  List.nodup_append.2 ⟨h, List.nodup_cons.2 ⟨List.not_mem_nil, List.nodup_nil⟩, fun x hx y hy => by rw [List.mem_singleton.1 hy]; exact fun he => ha (he ▸ hx)⟩
theorem Dr.shade (h : Dr s G B) (hok : GOk N s) {x : Int} (h1 : numW x = false) (h2 : isO s.L (addrN x)) (h3 : col s (addrN x) = 0) : Dr (shadeG s x) (G ++ [addrN x]) B := by
  have hc := shade_col hok x
  refine ⟨nd_snoc h.nG fun hm => by have := (h.mG _).1 hm; omega, fun a => ?_, h.nB, fun a => ?_⟩
  · rw [hc, List.mem_append, List.mem_singleton, h.mG]
    split
    · rename_i hh; simp [hh.2.1]
    · rename_i hh
      constructor
      · rintro (h4 | rfl)
        · exact h4
        · exact absurd ⟨h1, rfl, h2, h3⟩ hh
      · exact .inl
  · rw [hc, h.mB]
    split
    · rename_i hh
      have := hh.2.2.2
      omega
    · exact Iff.rfl
theorem shade_no {x : Int} (h : numW x = true ∨ ¬ isO s.L (addrN x) ∨ col s (addrN x) ≠ 0) : shadeG s x = s := by
  unfold shadeG
  rw [if_pos]
  rcases h with h | h | h
  · exact .inl h
  · right
    cases hw : whiteG s (addrN x) with
    | false => rfl
    | true => rw [whiteG_iff] at hw; exact absurd hw.1 h
  · right
    cases hw : whiteG s (addrN x) with
    | false => rfl
    | true => rw [whiteG_iff] at hw; exact absurd hw.2 h
theorem wo_nodup {l : List Nat} {z : Int} (h : l.Nodup) : (wo l z).Nodup := h.filter _
theorem Dr.black (h : Dr s G B) (hok : GOk N s) {a : Nat} (hc : col s a = 1) (hcol : ∀ b, col (blackG s a) b = if a = b then 2 else col s b) : Dr (blackG s a) (wo G (a : Int)) (B ++ [a]) := by
  refine ⟨wo_nodup h.nG, fun b => ?_, nd_snoc h.nB fun hm => by have := (h.mB _).1 hm; omega, fun b => ?_⟩
  · rw [hcol, wo_mem, h.mG]
    split
    · rename_i hh; subst hh; simp
    · rename_i hh; exact ⟨fun h => h.1, fun h1 => ⟨h1, fun he => hh he.symm⟩⟩
  · rw [hcol, List.mem_append, List.mem_singleton, h.mB]
    split
    · rename_i hh; simp [hh]
    · rename_i hh; exact ⟨fun h => h.elim id fun he => absurd he.symm hh, .inl⟩
theorem Dr.sweep {s' : GS} (h : Dr s G B) {a : Nat} (hc : ∀ b, col s b ≠ 1) (hcol : ∀ b, col s' b = if a = b then 0 else col s b) : Dr s' G (wo B (a : Int)) := by
  refine ⟨h.nG, fun b => ?_, wo_nodup h.nB, fun b => ?_⟩
  · rw [hcol, h.mG]
    split
    · exact ⟨fun h1 => absurd h1 (hc b), fun h1 => by omega⟩
    · exact Iff.rfl
  · rw [hcol, wo_mem, h.mB]
    split
    · rename_i hh; subst hh; simp
    · rename_i hh; exact ⟨fun h => h.1, fun h1 => ⟨h1, fun he => hh he.symm⟩⟩
theorem Dr.same {s' : GS} (h : Dr s G B) (hcol : ∀ b, col s' b = col s b) : Dr s' G B := ⟨h.nG, fun a => by rw [hcol]; exact h.mG a, h.nB, fun a => by rw [hcol]; exact h.mB a⟩
end
structure DQ where
  G : List Nat
  B : List Nat
  oG : Option Addr
  cG : Nat
  oB : Option Addr
  cB : Nat
def gdQ (bd b2 : Nat) (s : GS) (q : DQ) : List It := [cb bd 46 [.pointer (some (bat b2 0)), .int .i64 s.ph, .slice q.oG q.G.length q.cG, .slice q.oB q.B.length q.cB, .int .i64 s.pl], own 3 1 q.oG q.G.length q.cG (flat encN q.G), own 3 1 q.oB q.B.length q.cB (flat encN q.B)]
/-- the document's collector -/
def gdI (bd b2 : Nat) (s : GS) : It := exI fun q => facI (Dr s q.G q.B) (all (gdQ bd b2 s q))
structure GdQ (w : World) (bd b2 : Nat) (s : GS) (q : DQ) : Prop where
  dr : Dr s q.G q.B
  c0 : w.cell? (bat bd 0) = some (.pointer (some (bat b2 0)))
  c1 : w.cell? (bat bd 1) = some (.int .i64 s.ph)
  c2 : w.cell? (bat bd 2) = some (.slice q.oG q.G.length q.cG)
  c3 : w.cell? (bat bd 3) = some (.slice q.oB q.B.length q.cB)
  c4 : w.cell? (bat bd 4) = some (.int .i64 s.pl)
  rG : Rd w q.oG (flat encN q.G)
  rB : Rd w q.oB (flat encN q.B)
def GdR (w : World) (bd b2 : Nat) (s : GS) : Prop := ∃ q, GdQ w bd b2 s q
theorem gd_open {w0 w : World} {M : Nat → Prop} {H : List It} {bd b2 : Nat} {s : GS} (h : HS w0 M (gdI bd b2 s :: H) w) : ∃ q, Dr s q.G q.B ∧ HS w0 M (gdQ bd b2 s q ++ H) w := by
  obtain ⟨q, h1⟩ := h.exI_open
  obtain ⟨hd, h2⟩ := h1.facI_open
  exact ⟨q, hd, h2.open_⟩
theorem gd_shut {w0 w : World} {M : Nat → Prop} {H : List It} {bd b2 : Nat} {s : GS} (q : DQ) (hd : Dr s q.G q.B) (h : HS w0 M (gdQ bd b2 s q ++ H) w) : HS w0 M (gdI bd b2 s :: H) w := HS.exI_shut q (HS.facI_shut hd h.shut)
theorem gd_read {w0 w : World} {M : Nat → Prop} {H : List It} {bd b2 : Nat} {s : GS} (h : HS w0 M (gdI bd b2 s :: H) w) : GdR w bd b2 s := by
  obtain ⟨q, hd, h1⟩ := gd_open h
  exact ⟨q, hd, h1.cell (b := bd) (j := 0) (List.mem_cons_self ..) rfl, h1.cell (b := bd) (j := 1) (List.mem_cons_self ..) rfl, h1.cell (b := bd) (j := 2) (List.mem_cons_self ..) rfl, h1.cell (b := bd) (j := 3) (List.mem_cons_self ..) rfl, h1.cell (b := bd) (j := 4) (List.mem_cons_self ..) rfl,
    h1.own_rd (o := q.oG) (xs := flat encN q.G) (by exact .tail _ (.head _)), h1.own_rd (o := q.oB) (xs := flat encN q.B) (by exact .tail _ (.tail _ (.head _)))⟩
theorem gd_readM {w0 w : World} {M : Nat → Prop} {H : List It} {bd b2 : Nat} {s : GS} (h : HS w0 M H w) (hm : gdI bd b2 s ∈ H) : GdR w bd b2 s := gd_read (h.pick hm)
theorem GdQ.keep {w w' : World} {bd b2 : Nat} {s : GS} {q : DQ} (h : GdQ w bd b2 s q) (hk : Kp w noM w') : GdQ w' bd b2 s q := by
  have hH : HS w noM [] w' := (HS.init w noM).keep hk
  exact ⟨h.dr, hH.cellw h.c0 id, hH.cellw h.c1 id, hH.cellw h.c2 id, hH.cellw h.c3 id, hH.cellw h.c4 id, hH.rd h.rG id, hH.rd h.rB id⟩
theorem inL_f {l : List Nat} {a : Nat} (h : a ∉ l) : inL l (a : Int) = false := by
  cases hc : inL l (a : Int) with
  | false => rfl
  | true => exact absurd (inL_nat.1 hc) h
theorem gd_eq {w0 w : World} {M : Nat → Prop} {H : List It} {bd b2 : Nat} {s s' : GS} (h : HS w0 M (gdI bd b2 s :: H) w) (h1 : ∀ b, col s' b = col s b) (h2 : s'.ph = s.ph) (h3 : s'.pl = s.pl) : HS w0 M (gdI bd b2 s' :: H) w := by
  obtain ⟨q, hd, hq⟩ := gd_open h
  refine gd_shut q (hd.same h1) ?_
  unfold gdQ at hq ⊢
  rw [h2, h3]
  exact hq
theorem wo_eq {l : List Nat} {z : Int} (n : Nat) (h : l.length = n) : wo (l.take n) z = wo l z := by rw [← h, List.take_length]
theorem nil_wo (l : List Nat) (z : Int) : ([] : List Value) = flat encN (wo (l.take 0) z) ∧ (wo (l.take 0) z).length = 0 := ⟨rfl, rfl⟩
set_option maxRecDepth 10000 attribute [local irreducible] Code.wp wpList Calls Ex Op1 sat bat blk cb own Go.Fw.mp Go.Fw.mpO Go.Fw.mpI Go.Fw.mpE Go.Fw.itr HS Rd Ret wkD Hp Cl Cls Exit.then Exit.inBlock Exit.noGoto bodyPost Go.Fw.flat wk2 Go.Fw.all Go.Fw.owns wpOp
attribute [local irreducible] hdA gaps isA nextA allocA freeA sizeA kindA setA getA whiteZ numW addrW shadeG gcI hpI stepG beginG writeG allocG mu rfI inL findI objA reachA wo

theorem without_spec (w0 : World) (o : Option Addr) (c : Nat) (l : List Nat) (z : Int) (hr : Rd w0 o (flat encN l)) (hl : l.length ≤ 1048576) : Ret Try.prog 50 #[.slice o l.length c, .int .i64 z] w0 (fun v w => ∃ o' c', v = .slice o' (wo l z).length c' ∧ HS w0 noM [own 3 1 o' (wo l z).length c' (flat encN (wo l z))] w) := by
  have hH : HS w0 noM [] w0 := HS.init w0 noM
  have hsp : Sp o l.length := hr.sp (sz := 1) (flat_length encN_len l) (by omega)
  (refine enter (N := 28) Try.func50 rfl Try.ntmps50 rfl ?_; intro a hA; dsimp only [sl0, Nat.reduceAdd] at hA)
  repeat' (first | (first | (refine GT ?_ ?_ <;> intro hg <;> clear hA a <;> intro a hA <;> (first | exact FA | replace hg := of_decide_eq_true hg | replace hg := of_decide_eq_false hg | skip)) | (refine QT ?_; clear hA a; intro a hA) | (first | (refine BT ?_; clear hA hH; rintro _ w ⟨bN, rfl, hH⟩ a hA) | (refine LT ?_; clear hA hH; rintro _ w ⟨oN, rfl, hH⟩ a hA) | (refine AT ?_; clear hA; rintro _ w ⟨oN, cN, rfl, hH2⟩ a hA; clear hH; have hH := (hH2 _ (by (repeat constructor))).tail; clear hH2) | (refine S0T ?_; clear hH; rintro _ w hH) )) | ((first | refine CT ?_ | (refine DT ?_ ?_ <;> intro hc <;> try (exfalso; omega))) <;> repeat' refine CT ?_) | (first | (refine DSK ?_; clear hA a; intro a hA) | (first | (refine DLT ?_; clear hA hH; rintro _ w ⟨oN, rfl, hH⟩; refine ⟨STT, ?_⟩; intro a hA) | (refine DAT ?_; clear hA; rintro _ w ⟨oN, cN, rfl, hH2⟩; clear hH; have hH := (hH2 _ (by (repeat constructor))).tail; clear hH2; refine ⟨STT, ?_⟩; intro a hA))) )
  rw [(nil_wo l z).1] at hH
  refine wp_lpj (S := Nat × Option Addr × Nat) (fun p a w => p.1 ≤ l.length ∧ HS w0 noM [own 3 1 p.2.1 (wo (l.take p.1) z).length p.2.2 (flat encN (wo (l.take p.1) z))] w ∧ Sl 28 [(0, .slice o l.length c), (1, .int .i64 z), (5, .slice p.2.1 (wo (l.take p.1) z).length p.2.2), (6, .int .i64 p.1)] a) (fun p => l.length - p.1)
    (fun a w => ∃ o' c', HS w0 noM [own 3 1 o' (wo l z).length c' (flat encN (wo l z))] w ∧ Sl 28 [(5, .slice o' (wo l z).length c')] a) (0, oN, 0) ⟨Nat.zero_le _, by dsimp only; rw [(nil_wo l z).2]; exact hH, by dsimp only; rw [(nil_wo l z).2]; exact (hA.sub (by (repeat (first | exact trivial | refine ⟨rfl, ?_⟩))))⟩ ?_ ?_
  · clear hA hH
    rintro ⟨i, o', c'⟩ a w ⟨hi, hH, hA⟩
    dsimp only at hi hH hA
    by_cases hlt : i < l.length
    rotate_left
    · obtain rfl : i = l.length := by omega
      rw [List.take_length] at hH hA
      repeat' (first | (first | (refine GT ?_ ?_ <;> intro hg <;> clear hA a <;> intro a hA <;> (first | exact FA | replace hg := of_decide_eq_true hg | replace hg := of_decide_eq_false hg | skip)) | (refine QT ?_; clear hA a; intro a hA) | (first | (refine BT ?_; clear hA hH; rintro _ w ⟨bN, rfl, hH⟩ a hA) | (refine LT ?_; clear hA hH; rintro _ w ⟨oN, rfl, hH⟩ a hA) | (refine AT ?_; clear hA; rintro _ w ⟨oN, cN, rfl, hH2⟩ a hA; clear hH; have hH := (hH2 _ (by (repeat constructor))).tail; clear hH2) | (refine S0T ?_; clear hH; rintro _ w hH) )) | ((first | refine CT ?_ | (refine DT ?_ ?_ <;> intro hc <;> try (exfalso; omega))) <;> repeat' refine CT ?_) | (first | (refine DSK ?_; clear hA a; intro a hA) | (first | (refine DLT ?_; clear hA hH; rintro _ w ⟨oN, rfl, hH⟩; refine ⟨STT, ?_⟩; intro a hA) | (refine DAT ?_; clear hA; rintro _ w ⟨oN, cN, rfl, hH2⟩; clear hH; have hH := (hH2 _ (by (repeat constructor))).tail; clear hH2; refine ⟨STT, ?_⟩; intro a hA))) )
      exact ⟨o', c', hH, (hA.sub (by (repeat (first | exact trivial | refine ⟨rfl, ?_⟩))))⟩
    obtain ⟨x, hx⟩ : ∃ x, l[i]? = some x := ⟨_, List.getElem?_eq_getElem hlt⟩
    have hcx := encN_at hx
    have hw := wo_snoc (z := z) hx
    have hwl : (wo (l.take i) z).length ≤ 1048576 := by have := @wo_le (l.take i) z; rw [List.length_take] at this; omega
    by_cases hxz : (x : Int) ≠ z
    · rw [if_pos hxz] at hw
      have hl1 : (wo (l.take i) z).length + 1 = (wo (l.take (i + 1)) z).length := by rw [hw, List.length_append]; rfl
      repeat' (first | (first | (refine GT ?_ ?_ <;> intro hg <;> clear hA a <;> intro a hA <;> (first | exact FA | replace hg := of_decide_eq_true hg | replace hg := of_decide_eq_false hg | skip)) | (refine QT ?_; clear hA a; intro a hA) | (first | (refine BT ?_; clear hA hH; rintro _ w ⟨bN, rfl, hH⟩ a hA) | (refine LT ?_; clear hA hH; rintro _ w ⟨oN, rfl, hH⟩ a hA) | (refine AT ?_; clear hA; rintro _ w ⟨oN, cN, rfl, hH2⟩ a hA; clear hH; have hH := (hH2 _ (by (repeat constructor))).tail; clear hH2) | (refine S0T ?_; clear hH; rintro _ w hH) )) | ((first | refine CT ?_ | (refine DT ?_ ?_ <;> intro hc <;> try (exfalso; omega))) <;> repeat' refine CT ?_) | (first | (refine DSK ?_; clear hA a; intro a hA) | (first | (refine DLT ?_; clear hA hH; rintro _ w ⟨oN, rfl, hH⟩; refine ⟨STT, ?_⟩; intro a hA) | (refine DAT ?_; clear hA; rintro _ w ⟨oN, cN, rfl, hH2⟩; clear hH; have hH := (hH2 _ (by (repeat constructor))).tail; clear hH2; refine ⟨STT, ?_⟩; intro a hA))) )
      rw [snocN, ← hw, hl1] at hH
      rw [hl1] at hA
      exact ⟨(i + 1, oN, cN), ⟨hlt, hH, (hA.sub (by (repeat (first | exact trivial | refine ⟨rfl, ?_⟩))))⟩, by show l.length - (i + 1) < l.length - i; omega⟩
    · rw [if_neg hxz] at hw
      rw [← hw] at hH hA
      repeat' (first | (first | (refine GT ?_ ?_ <;> intro hg <;> clear hA a <;> intro a hA <;> (first | exact FA | replace hg := of_decide_eq_true hg | replace hg := of_decide_eq_false hg | skip)) | (refine QT ?_; clear hA a; intro a hA) | (first | (refine BT ?_; clear hA hH; rintro _ w ⟨bN, rfl, hH⟩ a hA) | (refine LT ?_; clear hA hH; rintro _ w ⟨oN, rfl, hH⟩ a hA) | (refine AT ?_; clear hA; rintro _ w ⟨oN, cN, rfl, hH2⟩ a hA; clear hH; have hH := (hH2 _ (by (repeat constructor))).tail; clear hH2) | (refine S0T ?_; clear hH; rintro _ w hH) )) | ((first | refine CT ?_ | (refine DT ?_ ?_ <;> intro hc <;> try (exfalso; omega))) <;> repeat' refine CT ?_) | (first | (refine DSK ?_; clear hA a; intro a hA) | (first | (refine DLT ?_; clear hA hH; rintro _ w ⟨oN, rfl, hH⟩; refine ⟨STT, ?_⟩; intro a hA) | (refine DAT ?_; clear hA; rintro _ w ⟨oN, cN, rfl, hH2⟩; clear hH; have hH := (hH2 _ (by (repeat constructor))).tail; clear hH2; refine ⟨STT, ?_⟩; intro a hA))) )
      exact ⟨(i + 1, o', c'), ⟨hlt, hH, (hA.sub (by (repeat (first | exact trivial | refine ⟨rfl, ?_⟩))))⟩, by show l.length - (i + 1) < l.length - i; omega⟩
  clear hA hH
  rintro a w ⟨o', c', hH, hA⟩
  repeat' (first | (first | (refine GT ?_ ?_ <;> intro hg <;> clear hA a <;> intro a hA <;> (first | exact FA | replace hg := of_decide_eq_true hg | replace hg := of_decide_eq_false hg | skip)) | (refine QT ?_; clear hA a; intro a hA) | (first | (refine BT ?_; clear hA hH; rintro _ w ⟨bN, rfl, hH⟩ a hA) | (refine LT ?_; clear hA hH; rintro _ w ⟨oN, rfl, hH⟩ a hA) | (refine AT ?_; clear hA; rintro _ w ⟨oN, cN, rfl, hH2⟩ a hA; clear hH; have hH := (hH2 _ (by (repeat constructor))).tail; clear hH2) | (refine S0T ?_; clear hH; rintro _ w hH) )) | ((first | refine CT ?_ | (refine DT ?_ ?_ <;> intro hc <;> try (exfalso; omega))) <;> repeat' refine CT ?_) | (first | (refine DSK ?_; clear hA a; intro a hA) | (first | (refine DLT ?_; clear hA hH; rintro _ w ⟨oN, rfl, hH⟩; refine ⟨STT, ?_⟩; intro a hA) | (refine DAT ?_; clear hA; rintro _ w ⟨oN, cN, rfl, hH2⟩; clear hH; have hH := (hH2 _ (by (repeat constructor))).tail; clear hH2; refine ⟨STT, ?_⟩; intro a hA))) )
  exact rt1 (.inl rfl) rfl hA rfl ⟨o', c', rfl, hH⟩

theorem dwhite_spec (w0 : World) (bd b2 N : Nat) (s : GS) (z : Int) (hok : GOk N s) (hG : GdR w0 bd b2 s) (hR : RfR w0 b2 N s.L) : Ret Try.prog 23 #[.pointer (some (bat bd 0)), .int .i64 z] w0 (fun v w => v = .bool (whiteZ s z) ∧ Kp w0 noM w) := by
  have hH : HS w0 noM [] w0 := HS.init w0 noM
  obtain ⟨q, hq⟩ := hG
  obtain ⟨hd, c0, c1, c2, c3, c4, rG, rB⟩ := hq
  have hGl := hd.Gle hok
  have hBl := hd.Ble hok
  have hn2 := hok.n2
  have hlen := hok.lay.len
  have hf := find_neg (L := s.L) (z := z)
  (refine enter (N := 30) Try.func23 rfl Try.ntmps23 rfl ?_; intro a hA; dsimp only [sl0, Nat.reduceAdd] at hA)
  repeat' (first | (first | (refine GT ?_ ?_ <;> intro hg <;> clear hA a <;> intro a hA <;> (first | exact FA | replace hg := of_decide_eq_true hg | replace hg := of_decide_eq_false hg | skip)) | (refine QT ?_; clear hA a; intro a hA) | (first | (refine BT ?_; clear hA hH; rintro _ w ⟨bN, rfl, hH⟩ a hA) | (refine LT ?_; clear hA hH; rintro _ w ⟨oN, rfl, hH⟩ a hA) | (refine AT ?_; clear hA; rintro _ w ⟨oN, cN, rfl, hH2⟩ a hA; clear hH; have hH := (hH2 _ (by (repeat constructor))).tail; clear hH2) | (refine S0T ?_; clear hH; rintro _ w hH) )) | ((first | refine CT ?_ | (refine DT ?_ ?_ <;> intro hc <;> try (exfalso; omega))) <;> repeat' refine CT ?_) | (first | (refine DSK ?_; clear hA a; intro a hA) | (first | (refine DLT ?_; clear hA hH; rintro _ w ⟨oN, rfl, hH⟩; refine ⟨STT, ?_⟩; intro a hA) | (refine DAT ?_; clear hA; rintro _ w ⟨oN, cN, rfl, hH2⟩; clear hH; have hH := (hH2 _ (by (repeat constructor))).tail; clear hH2; refine ⟨STT, ?_⟩; intro a hA))) )
  (refine st_op hA rfl rfl (by decide) (op_call rfl rfl rfl (rfind_spec _ b2 N s.L z (by omega) (hR.keep hH.kp))) ?_; clear hA; rintro _ w ⟨rfl, hk⟩ a hA; replace hH := hH.keep hk; clear hk)
  cases hi : isA s.L z with
  | false =>
    have hlt := hf.2 hi
    have hw : whiteZ s z = false := by unfold whiteZ; rw [hi]; rfl
    repeat' (first | (first | (refine GT ?_ ?_ <;> intro hg <;> clear hA a <;> intro a hA <;> (first | exact FA | replace hg := of_decide_eq_true hg | replace hg := of_decide_eq_false hg | skip)) | (refine QT ?_; clear hA a; intro a hA) | (first | (refine BT ?_; clear hA hH; rintro _ w ⟨bN, rfl, hH⟩ a hA) | (refine LT ?_; clear hA hH; rintro _ w ⟨oN, rfl, hH⟩ a hA) | (refine AT ?_; clear hA; rintro _ w ⟨oN, cN, rfl, hH2⟩ a hA; clear hH; have hH := (hH2 _ (by (repeat constructor))).tail; clear hH2) | (refine S0T ?_; clear hH; rintro _ w hH) )) | ((first | refine CT ?_ | (refine DT ?_ ?_ <;> intro hc <;> try (exfalso; omega))) <;> repeat' refine CT ?_) | (first | (refine DSK ?_; clear hA a; intro a hA) | (first | (refine DLT ?_; clear hA hH; rintro _ w ⟨oN, rfl, hH⟩; refine ⟨STT, ?_⟩; intro a hA) | (refine DAT ?_; clear hA; rintro _ w ⟨oN, cN, rfl, hH2⟩; clear hH; have hH := (hH2 _ (by (repeat constructor))).tail; clear hH2; refine ⟨STT, ?_⟩; intro a hA))) )
    exact rt1 (.inl rfl) rfl hA rfl ⟨by rw [hw], hH.kp⟩
  | true =>
    have hge : ¬ findI s.L z < 0 := fun h => by rw [hf.1 h] at hi; cases hi
    obtain ⟨x, hx, rfl⟩ := isA_obj hi
    have hw : whiteZ s (x.a : Int) = (col s x.a == 0) := by unfold whiteZ; rw [hi, Int.toNat_natCast]; rfl
    rw [hw]
    have hc3 := hok.c3 x.a
    rcases (by omega : col s x.a = 0 ∨ col s x.a = 1 ∨ col s x.a = 2) with hc | hc | hc
    · have i1 := inL_f (l := q.G) (a := x.a) (fun hm => by have := (hd.mG _).1 hm; omega)
      have i2 := inL_f (l := q.B) (a := x.a) (fun hm => by have := (hd.mB _).1 hm; omega)
      repeat' (first | (first | (refine GT ?_ ?_ <;> intro hg <;> clear hA a <;> intro a hA <;> (first | exact FA | replace hg := of_decide_eq_true hg | replace hg := of_decide_eq_false hg | skip)) | (refine QT ?_; clear hA a; intro a hA) | (first | (refine BT ?_; clear hA hH; rintro _ w ⟨bN, rfl, hH⟩ a hA) | (refine LT ?_; clear hA hH; rintro _ w ⟨oN, rfl, hH⟩ a hA) | (refine AT ?_; clear hA; rintro _ w ⟨oN, cN, rfl, hH2⟩ a hA; clear hH; have hH := (hH2 _ (by (repeat constructor))).tail; clear hH2) | (refine S0T ?_; clear hH; rintro _ w hH) | ((refine st_op hA rfl rfl (by decide) (op_call rfl rfl rfl (in_spec _ q.oG q.cG q.G x.a (hH.rd rG id) (by omega))) ?_; clear hA; rintro _ w ⟨rfl, hk⟩ a hA; replace hH := hH.keep hk; clear hk); rw [i1] at hA) | ((refine st_op hA rfl rfl (by decide) (op_call rfl rfl rfl (in_spec _ q.oB q.cB q.B x.a (hH.rd rB id) (by omega))) ?_; clear hA; rintro _ w ⟨rfl, hk⟩ a hA; replace hH := hH.keep hk; clear hk); rw [i2] at hA))) | ((first | refine CT ?_ | (refine DT ?_ ?_ <;> intro hc <;> try (exfalso; omega))) <;> repeat' refine CT ?_) | (first | (refine DSK ?_; clear hA a; intro a hA) | (first | (refine DLT ?_; clear hA hH; rintro _ w ⟨oN, rfl, hH⟩; refine ⟨STT, ?_⟩; intro a hA) | (refine DAT ?_; clear hA; rintro _ w ⟨oN, cN, rfl, hH2⟩; clear hH; have hH := (hH2 _ (by (repeat constructor))).tail; clear hH2; refine ⟨STT, ?_⟩; intro a hA))) )
      exact rt1 (.inl rfl) rfl hA rfl ⟨by rw [hc]; rfl, hH.kp⟩
    · have i1 := inL_nat.2 ((hd.mG x.a).2 hc)
      repeat' (first | (first | (refine GT ?_ ?_ <;> intro hg <;> clear hA a <;> intro a hA <;> (first | exact FA | replace hg := of_decide_eq_true hg | replace hg := of_decide_eq_false hg | skip)) | (refine QT ?_; clear hA a; intro a hA) | (first | (refine BT ?_; clear hA hH; rintro _ w ⟨bN, rfl, hH⟩ a hA) | (refine LT ?_; clear hA hH; rintro _ w ⟨oN, rfl, hH⟩ a hA) | (refine AT ?_; clear hA; rintro _ w ⟨oN, cN, rfl, hH2⟩ a hA; clear hH; have hH := (hH2 _ (by (repeat constructor))).tail; clear hH2) | (refine S0T ?_; clear hH; rintro _ w hH) | ((refine st_op hA rfl rfl (by decide) (op_call rfl rfl rfl (in_spec _ q.oG q.cG q.G x.a (hH.rd rG id) (by omega))) ?_; clear hA; rintro _ w ⟨rfl, hk⟩ a hA; replace hH := hH.keep hk; clear hk); rw [i1] at hA))) | ((first | refine CT ?_ | (refine DT ?_ ?_ <;> intro hc <;> try (exfalso; omega))) <;> repeat' refine CT ?_) | (first | (refine DSK ?_; clear hA a; intro a hA) | (first | (refine DLT ?_; clear hA hH; rintro _ w ⟨oN, rfl, hH⟩; refine ⟨STT, ?_⟩; intro a hA) | (refine DAT ?_; clear hA; rintro _ w ⟨oN, cN, rfl, hH2⟩; clear hH; have hH := (hH2 _ (by (repeat constructor))).tail; clear hH2; refine ⟨STT, ?_⟩; intro a hA))) )
      exact rt1 (.inl rfl) rfl hA rfl ⟨by rw [hc]; rfl, hH.kp⟩
    · have i1 := inL_f (l := q.G) (a := x.a) (fun hm => by have := (hd.mG _).1 hm; omega)
      have i2 := inL_nat.2 ((hd.mB x.a).2 hc)
      repeat' (first | (first | (refine GT ?_ ?_ <;> intro hg <;> clear hA a <;> intro a hA <;> (first | exact FA | replace hg := of_decide_eq_true hg | replace hg := of_decide_eq_false hg | skip)) | (refine QT ?_; clear hA a; intro a hA) | (first | (refine BT ?_; clear hA hH; rintro _ w ⟨bN, rfl, hH⟩ a hA) | (refine LT ?_; clear hA hH; rintro _ w ⟨oN, rfl, hH⟩ a hA) | (refine AT ?_; clear hA; rintro _ w ⟨oN, cN, rfl, hH2⟩ a hA; clear hH; have hH := (hH2 _ (by (repeat constructor))).tail; clear hH2) | (refine S0T ?_; clear hH; rintro _ w hH) | ((refine st_op hA rfl rfl (by decide) (op_call rfl rfl rfl (in_spec _ q.oG q.cG q.G x.a (hH.rd rG id) (by omega))) ?_; clear hA; rintro _ w ⟨rfl, hk⟩ a hA; replace hH := hH.keep hk; clear hk); rw [i1] at hA) | ((refine st_op hA rfl rfl (by decide) (op_call rfl rfl rfl (in_spec _ q.oB q.cB q.B x.a (hH.rd rB id) (by omega))) ?_; clear hA; rintro _ w ⟨rfl, hk⟩ a hA; replace hH := hH.keep hk; clear hk); rw [i2] at hA))) | ((first | refine CT ?_ | (refine DT ?_ ?_ <;> intro hc <;> try (exfalso; omega))) <;> repeat' refine CT ?_) | (first | (refine DSK ?_; clear hA a; intro a hA) | (first | (refine DLT ?_; clear hA hH; rintro _ w ⟨oN, rfl, hH⟩; refine ⟨STT, ?_⟩; intro a hA) | (refine DAT ?_; clear hA; rintro _ w ⟨oN, cN, rfl, hH2⟩; clear hH; have hH := (hH2 _ (by (repeat constructor))).tail; clear hH2; refine ⟨STT, ?_⟩; intro a hA))) )
      exact rt1 (.inl rfl) rfl hA rfl ⟨by rw [hc]; rfl, hH.kp⟩
end Go.Proofs.Ytejpcidfigmnkaa
