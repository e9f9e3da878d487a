/-
  A collector in memory; the walks over what only looks at it, and over shade. Conditions: none.
-/
import Derived.Test.YtejpcidfigmnkaaGI
namespace Go.Proofs.Ytejpcidfigmnkaa
open Go Go.Fw
set_option linter.unusedVariables false
def encC (c : Nat) : List Value := [.int .u8 (c : Int)]
theorem encC_len (c : Nat) : (encC c).length = 1 := rfl
structure GQ where
  oC : Option Addr
  cC : Nat
  oG : Option Addr
  cG : Nat
def gcQ (bg b N : Nat) (s : GS) (q : GQ) : List It := [cb bg 67 [.pointer (some (bat b 0)), .int .i64 s.ph, .slice q.oC N q.cC, .slice q.oG s.gr.length q.cG, .int .i64 s.pl], own 5 1 q.oC N q.cC (flat encC s.cl), own 3 1 q.oG s.gr.length q.cG (flat encN s.gr)]
/-- a collector of a heap -/
def gcI (bg b N : Nat) (s : GS) : It := exI fun q => all (gcQ bg b N s q)
structure GcQ (w : World) (bg b N : Nat) (s : GS) (q : GQ) : Prop where
  c0 : w.cell? (bat bg 0) = some (.pointer (some (bat b 0)))
  c1 : w.cell? (bat bg 1) = some (.int .i64 s.ph)
  c2 : w.cell? (bat bg 2) = some (.slice q.oC N q.cC)
  c3 : w.cell? (bat bg 3) = some (.slice q.oG s.gr.length q.cG)
  c4 : w.cell? (bat bg 4) = some (.int .i64 s.pl)
  rC : Rd w q.oC (flat encC s.cl)
  rG : Rd w q.oG (flat encN s.gr)
  nG : s.gr.length ≤ q.cG
def GcR (w : World) (bg b N : Nat) (s : GS) : Prop := ∃ q, GcQ w bg b N s q
theorem gc_open {w0 w : World} {M : Nat → Prop} {H : List It} {bg b N : Nat} {s : GS} (h : HS w0 M (gcI bg b N s :: H) w) : ∃ q, HS w0 M (gcQ bg b N s q ++ H) w := by
  obtain ⟨q, h1⟩ := h.exI_open
  exact ⟨q, h1.open_⟩
theorem gc_shut {w0 w : World} {M : Nat → Prop} {H : List It} {bg b N : Nat} {s : GS} (q : GQ) (h : HS w0 M (gcQ bg b N s q ++ H) w) : HS w0 M (gcI bg b N s :: H) w := HS.exI_shut q h.shut
theorem gcQ_read {w0 w : World} {M : Nat → Prop} {H : List It} {bg b N : Nat} {s : GS} {q : GQ} (h1 : HS w0 M (gcQ bg b N s q ++ H) w) : GcQ w bg b N s q :=
  ⟨h1.cell (b := bg) (j := 0) (List.mem_cons_self ..) rfl, h1.cell (b := bg) (j := 1) (List.mem_cons_self ..) rfl, h1.cell (b := bg) (j := 2) (List.mem_cons_self ..) rfl, h1.cell (b := bg) (j := 3) (List.mem_cons_self ..) rfl, h1.cell (b := bg) (j := 4) (List.mem_cons_self ..) rfl,
    h1.own_rd (o := q.oC) (xs := flat encC s.cl) (by exact .tail _ (.head _)), h1.own_rd (o := q.oG) (xs := flat encN s.gr) (by exact .tail _ (.tail _ (.head _))), (h1.own_le (o := q.oG) (xs := flat encN s.gr) (by exact .tail _ (.tail _ (.head _)))).1⟩
theorem gc_read {w0 w : World} {M : Nat → Prop} {H : List It} {bg b N : Nat} {s : GS} (h : HS w0 M (gcI bg b N s :: H) w) : GcR w bg b N s :=
  let ⟨q, h1⟩ := gc_open h
  ⟨q, gcQ_read h1⟩
theorem gc_readM {w0 w : World} {M : Nat → Prop} {H : List It} {bg b N : Nat} {s : GS} (h : HS w0 M H w) (hm : gcI bg b N s ∈ H) : GcR w bg b N s := gc_read (h.pick hm)
theorem GcQ.keep {w w' : World} {bg b N : Nat} {s : GS} {q : GQ} (h : GcQ w bg b N s q) (hk : Kp w noM w') : GcQ w' bg b N s q := by
  have hH : HS w noM [] w' := (HS.init w noM).keep hk
  exact ⟨hH.cellw h.c0 id, hH.cellw h.c1 id, hH.cellw h.c2 id, hH.cellw h.c3 id, hH.cellw h.c4 id, hH.rd h.rC id, hH.rd h.rG id, h.nG⟩
theorem GcR.keep {w w' : World} {bg b N : Nat} {s : GS} (h : GcR w bg b N s) (hk : Kp w noM w') : GcR w' bg b N s :=
  let ⟨q, hq⟩ := h
  ⟨q, hq.keep hk⟩
def whiteZ (s : GS) (z : Int) : Bool := isA s.L z && (col s z.toNat == 0)
theorem whiteZ_nat (s : GS) (a : Nat) : whiteZ s (a : Int) = whiteG s a := rfl
theorem kind_is (L : List Ob) (z : Int) : decide ((kindA L z).2 = 0) = isA L z := by
  unfold kindA
  cases isA L z <;> rfl
theorem isA_obj {L : List Ob} {z : Int} (h : isA L z = true) : ∃ o ∈ L, (o.a : Int) = z := isA_iff.1 h
theorem cl_at {N : Nat} {s : GS} (h : GOk N s) {a : Nat} (ha : a < N) : s.cl[a]? = some (col s a) := by
  have : a < s.cl.length := by rw [h.cll]; exact ha
  unfold col
  rw [List.getD_eq_getElem?_getD, List.getElem?_eq_getElem this]
  rfl
theorem encC_at {l : List Nat} {i : Nat} {a : Nat} (h : l[i]? = some a) : (flat encC l)[i * 1]? = some (.int .u8 (a : Int)) := flat_get0 encC_len h rfl
theorem falling_len : ∀ {l : List Nat} {N : Nat}, l.Pairwise (· > ·) → (∀ a ∈ l, a < N) → l.length ≤ N
  | [], N, _, _ => Nat.zero_le _
  | a :: l, N, h, hb => by
    rw [List.pairwise_cons] at h
    have h1 := falling_len (l := l) (N := a) h.2 fun b hb' => h.1 b hb'
    have h2 := hb a (List.mem_cons_self ..)
    rw [List.length_cons]
    omega
theorem gr_le {N : Nat} {s : GS} (h : GOk N s) : ∀ a ∈ s.gr, a < N := fun a ha => (h.lt (h.obj a (by rw [(h.grm a).1 ha]; decide))).2
theorem gr_len {N : Nat} {s : GS} (h : GOk N s) : s.gr.length ≤ N := falling_len h.grs (gr_le h)
theorem insN_insF {gr : List Nat} {t i : Nat} (hp : PosF gr t i) (ht : t ∉ gr) : insN gr i t = insF gr t := by
  unfold insN insF
  have e1 : gr.filter (fun a => decide (t < a)) = gr.take i := by
    conv => lhs; rw [← List.take_append_drop i gr]
    rw [List.filter_append, List.filter_eq_self.2, List.filter_eq_nil_iff.2, List.append_nil]
    · intro a ha
      obtain ⟨k, hk⟩ := List.getElem?_of_mem ha
      rw [List.getElem?_drop] at hk
      have := hp.2.2 (i + k) a (by omega) hk
      simpa using this
    · intro a ha
      obtain ⟨k, hk⟩ := List.getElem?_of_mem ha
      have hkl := (List.getElem?_eq_some_iff.1 hk).1
      rw [List.length_take] at hkl
      rw [List.getElem?_take_of_lt (by omega)] at hk
      simpa using hp.2.1 k a (by omega) hk
  have e2 : gr.filter (fun a => !decide (t < a)) = gr.drop i := by
    conv => lhs; rw [← List.take_append_drop i gr]
    rw [List.filter_append, List.filter_eq_nil_iff.2, List.filter_eq_self.2, List.nil_append]
    · intro a ha
      obtain ⟨k, hk⟩ := List.getElem?_of_mem ha
      rw [List.getElem?_drop] at hk
      have := hp.2.2 (i + k) a (by omega) hk
      simpa using this
    · intro a ha
      obtain ⟨k, hk⟩ := List.getElem?_of_mem ha
      have hkl := (List.getElem?_eq_some_iff.1 hk).1
      rw [List.length_take] at hkl
      rw [List.getElem?_take_of_lt (by omega)] at hk
      have := hp.2.1 k a (by omega) hk
      simpa using this
  rw [e1, e2]
theorem insertN_f {w0 w : World} {M : Nat → Prop} {H : List It} {o ov : Option Addr} {c i : Nat} {fr : List Nat} {r : Nat} (hH : HS w0 M (own 3 1 o fr.length c (flat encN fr) :: own 3 1 ov 1 1 (encN r) :: H) w) (hi : i ≤ fr.length) (hl : fr.length ≤ 1048576) :
    Ret Try.prog 64 #[.slice o fr.length c, .int .i64 i, .slice ov 1 1] w (fun v w' => ∃ o' c', v = .slice o' (fr.length + 1) c' ∧ HS w0 M (own 3 1 o' (fr.length + 1) c' (flat encN (insN fr i r)) :: H) w') := by
  obtain ⟨Mc, h1, -, h2⟩ := HS.frame (Hc := [own 3 1 o fr.length c (flat encN fr), own 3 1 ov 1 1 (encN r)]) (Hf := H) hH
  exact (insertN_spec w Mc o ov c i fr r h1 hi hl).mono fun v w' ⟨o', c', h3, h4⟩ => ⟨o', c', h3, h2 _ _ h4⟩
set_option maxRecDepth 10000 attribute [local irreducible] Code.wp wpList Calls Ex Op1 sat bat blk cb own Go.Fw.mp Go.Fw.mpO Go.Fw.mpI Go.Fw.mpE Go.Fw.itr HS Rd Ret wkD Hp Cl Cls Exit.then Exit.inBlock Exit.noGoto bodyPost Go.Fw.flat wk2 Go.Fw.all Go.Fw.owns wpOp
attribute [local irreducible] hdA gaps isA nextA allocA freeA sizeA kindA setA getA whiteZ numW addrW

theorem gis_spec (w0 : World) (bg b N : Nat) (s : GS) (z : Int) (hG : GcR w0 bg b N s) (hR : HpR w0 b N s.L) : Ret Try.prog 53 #[.pointer (some (bat bg 0)), .int .i64 z] w0 (fun v w => v = .bool (isA s.L z) ∧ Kp w0 noM w) := by
  have hH : HS w0 noM [] w0 := HS.init w0 noM
  obtain ⟨q, hq⟩ := hG
  have h0 := hq.c0
  (refine enter (N := 18) Try.func53 rfl Try.ntmps53 rfl ?_; intro a hA; dsimp only [sl0, Nat.reduceAdd] at hA)
  repeat' (first | (first | (refine GT ?_ ?_ <;> intro hg <;> clear hA a <;> intro a hA <;> (first | exact FA | replace hg := of_decide_eq_true hg | replace hg := of_decide_eq_false hg | skip)) | (refine QT ?_; clear hA a; intro a hA) | (first | (refine BT ?_; clear hA hH; rintro _ w ⟨bN, rfl, hH⟩ a hA) | (refine LT ?_; clear hA hH; rintro _ w ⟨oN, rfl, hH⟩ a hA) | (refine AT ?_; clear hA; rintro _ w ⟨oN, cN, rfl, hH2⟩ a hA; clear hH; have hH := (hH2 _ (by (repeat constructor))).tail; clear hH2) | (refine S0T ?_; clear hH; rintro _ w hH) )) | ((first | refine CT ?_ | (refine DT ?_ ?_ <;> intro hc <;> try (exfalso; omega))) <;> repeat' refine CT ?_) | (first | (refine DSK ?_; clear hA a; intro a hA) | (first | (refine DLT ?_; clear hA hH; rintro _ w ⟨oN, rfl, hH⟩; refine ⟨STT, ?_⟩; intro a hA) | (refine DAT ?_; clear hA; rintro _ w ⟨oN, cN, rfl, hH2⟩; clear hH; have hH := (hH2 _ (by (repeat constructor))).tail; clear hH2; refine ⟨STT, ?_⟩; intro a hA))) )
  (refine st_op hA rfl rfl (by decide) (op_call rfl rfl rfl (kind_r (hR.keep hH.kp))) ?_; clear hA; rintro _ w ⟨rfl, hk⟩ a hA; replace hH := hH.keep hk; clear hk)
  repeat' (first | (first | (refine GT ?_ ?_ <;> intro hg <;> clear hA a <;> intro a hA <;> (first | exact FA | replace hg := of_decide_eq_true hg | replace hg := of_decide_eq_false hg | skip)) | (refine QT ?_; clear hA a; intro a hA) | (first | (refine BT ?_; clear hA hH; rintro _ w ⟨bN, rfl, hH⟩ a hA) | (refine LT ?_; clear hA hH; rintro _ w ⟨oN, rfl, hH⟩ a hA) | (refine AT ?_; clear hA; rintro _ w ⟨oN, cN, rfl, hH2⟩ a hA; clear hH; have hH := (hH2 _ (by (repeat constructor))).tail; clear hH2) | (refine S0T ?_; clear hH; rintro _ w hH) )) | ((first | refine CT ?_ | (refine DT ?_ ?_ <;> intro hc <;> try (exfalso; omega))) <;> repeat' refine CT ?_) | (first | (refine DSK ?_; clear hA a; intro a hA) | (first | (refine DLT ?_; clear hA hH; rintro _ w ⟨oN, rfl, hH⟩; refine ⟨STT, ?_⟩; intro a hA) | (refine DAT ?_; clear hA; rintro _ w ⟨oN, cN, rfl, hH2⟩; clear hH; have hH := (hH2 _ (by (repeat constructor))).tail; clear hH2; refine ⟨STT, ?_⟩; intro a hA))) )
  exact rt1 (.inl rfl) rfl hA rfl ⟨by rw [← kind_is], hH.kp⟩

theorem gwhite_spec (w0 : World) (bg b N : Nat) (s : GS) (z : Int) (hok : GOk N s) (hG : GcR w0 bg b N s) (hR : HpR w0 b N s.L) : Ret Try.prog 22 #[.pointer (some (bat bg 0)), .int .i64 z] w0 (fun v w => v = .bool (whiteZ s z) ∧ Kp w0 noM w) := by
  have hH : HS w0 noM [] w0 := HS.init w0 noM
  have hG0 := hG
  obtain ⟨q, hq⟩ := hG
  have h2 := hq.c2
  have hrC := hq.rC
  have hn2 := hok.n2
  have hsp : Sp q.oC N := hrC.sp (sz := 1) (by rw [flat_length encC_len, hok.cll]) (by omega)
  (refine enter (N := 18) Try.func22 rfl Try.ntmps22 rfl ?_; intro a hA; dsimp only [sl0, Nat.reduceAdd] at hA)
  repeat' (first | (first | (refine GT ?_ ?_ <;> intro hg <;> clear hA a <;> intro a hA <;> (first | exact FA | replace hg := of_decide_eq_true hg | replace hg := of_decide_eq_false hg | skip)) | (refine QT ?_; clear hA a; intro a hA) | (first | (refine BT ?_; clear hA hH; rintro _ w ⟨bN, rfl, hH⟩ a hA) | (refine LT ?_; clear hA hH; rintro _ w ⟨oN, rfl, hH⟩ a hA) | (refine AT ?_; clear hA; rintro _ w ⟨oN, cN, rfl, hH2⟩ a hA; clear hH; have hH := (hH2 _ (by (repeat constructor))).tail; clear hH2) | (refine S0T ?_; clear hH; rintro _ w hH) )) | ((first | refine CT ?_ | (refine DT ?_ ?_ <;> intro hc <;> try (exfalso; omega))) <;> repeat' refine CT ?_) | (first | (refine DSK ?_; clear hA a; intro a hA) | (first | (refine DLT ?_; clear hA hH; rintro _ w ⟨oN, rfl, hH⟩; refine ⟨STT, ?_⟩; intro a hA) | (refine DAT ?_; clear hA; rintro _ w ⟨oN, cN, rfl, hH2⟩; clear hH; have hH := (hH2 _ (by (repeat constructor))).tail; clear hH2; refine ⟨STT, ?_⟩; intro a hA))) )
  (refine st_op hA rfl rfl (by decide) (op_call rfl rfl rfl (gis_spec _ bg b N s z (hG0.keep hH.kp) (hR.keep hH.kp))) ?_; clear hA; rintro _ w ⟨rfl, hk⟩ a hA; replace hH := hH.keep hk; clear hk)
  cases hi : isA s.L z with
  | false =>
    rw [hi] at hA
    repeat' (first | (first | (refine GT ?_ ?_ <;> intro hg <;> clear hA a <;> intro a hA <;> (first | exact FA | replace hg := of_decide_eq_true hg | replace hg := of_decide_eq_false hg | skip)) | (refine QT ?_; clear hA a; intro a hA) | (first | (refine BT ?_; clear hA hH; rintro _ w ⟨bN, rfl, hH⟩ a hA) | (refine LT ?_; clear hA hH; rintro _ w ⟨oN, rfl, hH⟩ a hA) | (refine AT ?_; clear hA; rintro _ w ⟨oN, cN, rfl, hH2⟩ a hA; clear hH; have hH := (hH2 _ (by (repeat constructor))).tail; clear hH2) | (refine S0T ?_; clear hH; rintro _ w hH) )) | ((first | refine CT ?_ | (refine DT ?_ ?_ <;> intro hc <;> try (exfalso; omega))) <;> repeat' refine CT ?_) | (first | (refine DSK ?_; clear hA a; intro a hA) | (first | (refine DLT ?_; clear hA hH; rintro _ w ⟨oN, rfl, hH⟩; refine ⟨STT, ?_⟩; intro a hA) | (refine DAT ?_; clear hA; rintro _ w ⟨oN, cN, rfl, hH2⟩; clear hH; have hH := (hH2 _ (by (repeat constructor))).tail; clear hH2; refine ⟨STT, ?_⟩; intro a hA))) )
    exact rt1 (.inl rfl) rfl hA rfl ⟨by unfold whiteZ; rw [hi]; rfl, hH.kp⟩
  | true =>
    obtain ⟨o, ho, rfl⟩ := isA_obj hi
    have hlt := hok.lt ⟨o, ho, rfl⟩
    have hc := encC_at (cl_at hok hlt.2)
    rw [hi] at hA
    repeat' (first | (first | (refine GT ?_ ?_ <;> intro hg <;> clear hA a <;> intro a hA <;> (first | exact FA | replace hg := of_decide_eq_true hg | replace hg := of_decide_eq_false hg | skip)) | (refine QT ?_; clear hA a; intro a hA) | (first | (refine BT ?_; clear hA hH; rintro _ w ⟨bN, rfl, hH⟩ a hA) | (refine LT ?_; clear hA hH; rintro _ w ⟨oN, rfl, hH⟩ a hA) | (refine AT ?_; clear hA; rintro _ w ⟨oN, cN, rfl, hH2⟩ a hA; clear hH; have hH := (hH2 _ (by (repeat constructor))).tail; clear hH2) | (refine S0T ?_; clear hH; rintro _ w hH) )) | ((first | refine CT ?_ | (refine DT ?_ ?_ <;> intro hc <;> try (exfalso; omega))) <;> repeat' refine CT ?_) | (first | (refine DSK ?_; clear hA a; intro a hA) | (first | (refine DLT ?_; clear hA hH; rintro _ w ⟨oN, rfl, hH⟩; refine ⟨STT, ?_⟩; intro a hA) | (refine DAT ?_; clear hA; rintro _ w ⟨oN, cN, rfl, hH2⟩; clear hH; have hH := (hH2 _ (by (repeat constructor))).tail; clear hH2; refine ⟨STT, ?_⟩; intro a hA))) )
    refine rt1 (.inl rfl) rfl hA rfl ⟨?_, hH.kp⟩
    unfold whiteZ
    rw [hi, Int.toNat_natCast, Bool.true_and]
    congr 1
    cases hcc : col s o.a with
    | zero => rfl
    | succ n =>
      rw [decide_eq_false (by omega)]
      rfl

theorem gphase_spec (w0 : World) (bg b N : Nat) (s : GS) (hG : GcR w0 bg b N s) : Ret Try.prog 24 #[.pointer (some (bat bg 0))] w0 (fun v w => v = .int .i64 s.ph ∧ Kp w0 noM w) := by
  have hH : HS w0 noM [] w0 := HS.init w0 noM
  obtain ⟨q, hq⟩ := hG
  have h1 := hq.c1
  (refine enter (N := 7) Try.func24 rfl Try.ntmps24 rfl ?_; intro a hA; dsimp only [sl0, Nat.reduceAdd] at hA)
  repeat' (first | (first | (refine GT ?_ ?_ <;> intro hg <;> clear hA a <;> intro a hA <;> (first | exact FA | replace hg := of_decide_eq_true hg | replace hg := of_decide_eq_false hg | skip)) | (refine QT ?_; clear hA a; intro a hA) | (first | (refine BT ?_; clear hA hH; rintro _ w ⟨bN, rfl, hH⟩ a hA) | (refine LT ?_; clear hA hH; rintro _ w ⟨oN, rfl, hH⟩ a hA) | (refine AT ?_; clear hA; rintro _ w ⟨oN, cN, rfl, hH2⟩ a hA; clear hH; have hH := (hH2 _ (by (repeat constructor))).tail; clear hH2) | (refine S0T ?_; clear hH; rintro _ w hH) )) | ((first | refine CT ?_ | (refine DT ?_ ?_ <;> intro hc <;> try (exfalso; omega))) <;> repeat' refine CT ?_) | (first | (refine DSK ?_; clear hA a; intro a hA) | (first | (refine DLT ?_; clear hA hH; rintro _ w ⟨oN, rfl, hH⟩; refine ⟨STT, ?_⟩; intro a hA) | (refine DAT ?_; clear hA; rintro _ w ⟨oN, cN, rfl, hH2⟩; clear hH; have hH := (hH2 _ (by (repeat constructor))).tail; clear hH2; refine ⟨STT, ?_⟩; intro a hA))) )
  exact rt1 (.inl rfl) rfl hA rfl ⟨rfl, hH.kp⟩

theorem ggrey_spec (w0 : World) (bg b N : Nat) (s : GS) (hG : GcR w0 bg b N s) : Ret Try.prog 25 #[.pointer (some (bat bg 0))] w0 (fun v w => v = .int .i64 s.gr.length ∧ Kp w0 noM w) := by
  have hH : HS w0 noM [] w0 := HS.init w0 noM
  obtain ⟨q, hq⟩ := hG
  have h3 := hq.c3
  (refine enter (N := 8) Try.func25 rfl Try.ntmps25 rfl ?_; intro a hA; dsimp only [sl0, Nat.reduceAdd] at hA)
  repeat' (first | (first | (refine GT ?_ ?_ <;> intro hg <;> clear hA a <;> intro a hA <;> (first | exact FA | replace hg := of_decide_eq_true hg | replace hg := of_decide_eq_false hg | skip)) | (refine QT ?_; clear hA a; intro a hA) | (first | (refine BT ?_; clear hA hH; rintro _ w ⟨bN, rfl, hH⟩ a hA) | (refine LT ?_; clear hA hH; rintro _ w ⟨oN, rfl, hH⟩ a hA) | (refine AT ?_; clear hA; rintro _ w ⟨oN, cN, rfl, hH2⟩ a hA; clear hH; have hH := (hH2 _ (by (repeat constructor))).tail; clear hH2) | (refine S0T ?_; clear hH; rintro _ w hH) )) | ((first | refine CT ?_ | (refine DT ?_ ?_ <;> intro hc <;> try (exfalso; omega))) <;> repeat' refine CT ?_) | (first | (refine DSK ?_; clear hA a; intro a hA) | (first | (refine DLT ?_; clear hA hH; rintro _ w ⟨oN, rfl, hH⟩; refine ⟨STT, ?_⟩; intro a hA) | (refine DAT ?_; clear hA; rintro _ w ⟨oN, cN, rfl, hH2⟩; clear hH; have hH := (hH2 _ (by (repeat constructor))).tail; clear hH2; refine ⟨STT, ?_⟩; intro a hA))) )
  exact rt1 (.inl rfl) rfl hA rfl ⟨rfl, hH.kp⟩

theorem gshade_spec (w0 : World) (M : Nat → Prop) (bg b N : Nat) (s : GS) (x : Int) (hok : GOk N s) (hp : s.ph = 1) (hU : U x) (hH : HS w0 M [gcI bg b N s, hpI b N s.L] w0) :
    Ret Try.prog 45 #[.pointer (some (bat bg 0)), .int .u64 x] w0 (fun v w => HS w0 M [gcI bg b N (shadeG s x), hpI b N s.L] w) := by
  have hn2 := hok.n2
  have haN := addrN_eq hU
  (refine enter (N := 43) Try.func45 rfl Try.ntmps45 rfl ?_; intro a hA; dsimp only [sl0, Nat.reduceAdd] at hA)
  repeat' (first | (first | (refine GT ?_ ?_ <;> intro hg <;> clear hA a <;> intro a hA <;> (first | exact FA | replace hg := of_decide_eq_true hg | replace hg := of_decide_eq_false hg | skip)) | (refine QT ?_; clear hA a; intro a hA) | (first | (refine BT ?_; clear hA hH; rintro _ w ⟨bN, rfl, hH⟩ a hA) | (refine LT ?_; clear hA hH; rintro _ w ⟨oN, rfl, hH⟩ a hA) | (refine AT ?_; clear hA; rintro _ w ⟨oN, cN, rfl, hH2⟩ a hA; clear hH; have hH := (hH2 _ (by (repeat constructor))).tail; clear hH2) | (refine S0T ?_; clear hH; rintro _ w hH) )) | ((first | refine CT ?_ | (refine DT ?_ ?_ <;> intro hc <;> try (exfalso; omega))) <;> repeat' refine CT ?_) | (first | (refine DSK ?_; clear hA a; intro a hA) | (first | (refine DLT ?_; clear hA hH; rintro _ w ⟨oN, rfl, hH⟩; refine ⟨STT, ?_⟩; intro a hA) | (refine DAT ?_; clear hA; rintro _ w ⟨oN, cN, rfl, hH2⟩; clear hH; have hH := (hH2 _ (by (repeat constructor))).tail; clear hH2; refine ⟨STT, ?_⟩; intro a hA))) )
  (refine st_op hA rfl rfl (by decide) (op_call rfl rfl rfl (addr_spec _ x hU)) ?_; clear hA; rintro _ w ⟨rfl, hk⟩ a hA; replace hH := hH.keep hk; clear hk)
  repeat' (first | (first | (refine GT ?_ ?_ <;> intro hg <;> clear hA a <;> intro a hA <;> (first | exact FA | replace hg := of_decide_eq_true hg | replace hg := of_decide_eq_false hg | skip)) | (refine QT ?_; clear hA a; intro a hA) | (first | (refine BT ?_; clear hA hH; rintro _ w ⟨bN, rfl, hH⟩ a hA) | (refine LT ?_; clear hA hH; rintro _ w ⟨oN, rfl, hH⟩ a hA) | (refine AT ?_; clear hA; rintro _ w ⟨oN, cN, rfl, hH2⟩ a hA; clear hH; have hH := (hH2 _ (by (repeat constructor))).tail; clear hH2) | (refine S0T ?_; clear hH; rintro _ w hH) )) | ((first | refine CT ?_ | (refine DT ?_ ?_ <;> intro hc <;> try (exfalso; omega))) <;> repeat' refine CT ?_) | (first | (refine DSK ?_; clear hA a; intro a hA) | (first | (refine DLT ?_; clear hA hH; rintro _ w ⟨oN, rfl, hH⟩; refine ⟨STT, ?_⟩; intro a hA) | (refine DAT ?_; clear hA; rintro _ w ⟨oN, cN, rfl, hH2⟩; clear hH; have hH := (hH2 _ (by (repeat constructor))).tail; clear hH2; refine ⟨STT, ?_⟩; intro a hA))) )
  (refine st_op hA rfl rfl (by decide) (op_call rfl rfl rfl (isnum_spec _ x hU)) ?_; clear hA; rintro _ w ⟨rfl, hk⟩ a hA; replace hH := hH.keep hk; clear hk)
  by_cases hc : numW x = true ∨ whiteG s (addrN x) = false
  · have hs : shadeG s x = s := if_pos hc
    rw [hs]
    cases hn : numW x with
    | true =>
      rw [hn] at hA
      repeat' (first | (first | (refine GT ?_ ?_ <;> intro hg <;> clear hA a <;> intro a hA <;> (first | exact FA | replace hg := of_decide_eq_true hg | replace hg := of_decide_eq_false hg | skip)) | (refine QT ?_; clear hA a; intro a hA) | (first | (refine BT ?_; clear hA hH; rintro _ w ⟨bN, rfl, hH⟩ a hA) | (refine LT ?_; clear hA hH; rintro _ w ⟨oN, rfl, hH⟩ a hA) | (refine AT ?_; clear hA; rintro _ w ⟨oN, cN, rfl, hH2⟩ a hA; clear hH; have hH := (hH2 _ (by (repeat constructor))).tail; clear hH2) | (refine S0T ?_; clear hH; rintro _ w hH) )) | ((first | refine CT ?_ | (refine DT ?_ ?_ <;> intro hc <;> try (exfalso; omega))) <;> repeat' refine CT ?_) | (first | (refine DSK ?_; clear hA a; intro a hA) | (first | (refine DLT ?_; clear hA hH; rintro _ w ⟨oN, rfl, hH⟩; refine ⟨STT, ?_⟩; intro a hA) | (refine DAT ?_; clear hA; rintro _ w ⟨oN, cN, rfl, hH2⟩; clear hH; have hH := (hH2 _ (by (repeat constructor))).tail; clear hH2; refine ⟨STT, ?_⟩; intro a hA))) )
      exact rt0 (.inl rfl) rfl hA hH
    | false =>
      rw [hn] at hA hc
      have hw : whiteZ s (addrW x) = false := by rw [← haN, whiteZ_nat]; rcases hc with h | h; cases h; exact h
      repeat' (first | (first | (refine GT ?_ ?_ <;> intro hg <;> clear hA a <;> intro a hA <;> (first | exact FA | replace hg := of_decide_eq_true hg | replace hg := of_decide_eq_false hg | skip)) | (refine QT ?_; clear hA a; intro a hA) | (first | (refine BT ?_; clear hA hH; rintro _ w ⟨bN, rfl, hH⟩ a hA) | (refine LT ?_; clear hA hH; rintro _ w ⟨oN, rfl, hH⟩ a hA) | (refine AT ?_; clear hA; rintro _ w ⟨oN, cN, rfl, hH2⟩ a hA; clear hH; have hH := (hH2 _ (by (repeat constructor))).tail; clear hH2) | (refine S0T ?_; clear hH; rintro _ w hH) )) | ((first | refine CT ?_ | (refine DT ?_ ?_ <;> intro hc <;> try (exfalso; omega))) <;> repeat' refine CT ?_) | (first | (refine DSK ?_; clear hA a; intro a hA) | (first | (refine DLT ?_; clear hA hH; rintro _ w ⟨oN, rfl, hH⟩; refine ⟨STT, ?_⟩; intro a hA) | (refine DAT ?_; clear hA; rintro _ w ⟨oN, cN, rfl, hH2⟩; clear hH; have hH := (hH2 _ (by (repeat constructor))).tail; clear hH2; refine ⟨STT, ?_⟩; intro a hA))) )
      (refine st_op hA rfl rfl (by decide) (op_call rfl rfl rfl (gwhite_spec _ bg b N s (addrW x) hok (gc_read hH) (hp_readM hH (by exact MEMT)))) ?_; clear hA; rintro _ w ⟨rfl, hk⟩ a hA; replace hH := hH.keep hk; clear hk)
      rw [hw] at hA
      repeat' (first | (first | (refine GT ?_ ?_ <;> intro hg <;> clear hA a <;> intro a hA <;> (first | exact FA | replace hg := of_decide_eq_true hg | replace hg := of_decide_eq_false hg | skip)) | (refine QT ?_; clear hA a; intro a hA) | (first | (refine BT ?_; clear hA hH; rintro _ w ⟨bN, rfl, hH⟩ a hA) | (refine LT ?_; clear hA hH; rintro _ w ⟨oN, rfl, hH⟩ a hA) | (refine AT ?_; clear hA; rintro _ w ⟨oN, cN, rfl, hH2⟩ a hA; clear hH; have hH := (hH2 _ (by (repeat constructor))).tail; clear hH2) | (refine S0T ?_; clear hH; rintro _ w hH) )) | ((first | refine CT ?_ | (refine DT ?_ ?_ <;> intro hc <;> try (exfalso; omega))) <;> repeat' refine CT ?_) | (first | (refine DSK ?_; clear hA a; intro a hA) | (first | (refine DLT ?_; clear hA hH; rintro _ w ⟨oN, rfl, hH⟩; refine ⟨STT, ?_⟩; intro a hA) | (refine DAT ?_; clear hA; rintro _ w ⟨oN, cN, rfl, hH2⟩; clear hH; have hH := (hH2 _ (by (repeat constructor))).tail; clear hH2; refine ⟨STT, ?_⟩; intro a hA))) )
      exact rt0 (.inl rfl) rfl hA hH
  obtain ⟨hn, hw⟩ : numW x = false ∧ whiteG s (addrN x) = true := by
    cases hn : numW x <;> cases hw : whiteG s (addrN x) <;> simp_all
  have hs : shadeG s x = { s with cl := s.cl.set (addrN x) 1, gr := insF s.gr (addrN x) } := if_neg hc
  have hwz : whiteZ s (addrW x) = true := by rw [← haN, whiteZ_nat]; exact hw
  rw [whiteG_iff] at hw
  have hlt := hok.lt hw.1
  have hnot : addrN x ∉ s.gr := fun hm => by have := (hok.grm _).1 hm; omega
  have hgl := gr_len hok
  rw [hn] at hA
  repeat' (first | (first | (refine GT ?_ ?_ <;> intro hg <;> clear hA a <;> intro a hA <;> (first | exact FA | replace hg := of_decide_eq_true hg | replace hg := of_decide_eq_false hg | skip)) | (refine QT ?_; clear hA a; intro a hA) | (first | (refine BT ?_; clear hA hH; rintro _ w ⟨bN, rfl, hH⟩ a hA) | (refine LT ?_; clear hA hH; rintro _ w ⟨oN, rfl, hH⟩ a hA) | (refine AT ?_; clear hA; rintro _ w ⟨oN, cN, rfl, hH2⟩ a hA; clear hH; have hH := (hH2 _ (by (repeat constructor))).tail; clear hH2) | (refine S0T ?_; clear hH; rintro _ w hH) )) | ((first | refine CT ?_ | (refine DT ?_ ?_ <;> intro hc <;> try (exfalso; omega))) <;> repeat' refine CT ?_) | (first | (refine DSK ?_; clear hA a; intro a hA) | (first | (refine DLT ?_; clear hA hH; rintro _ w ⟨oN, rfl, hH⟩; refine ⟨STT, ?_⟩; intro a hA) | (refine DAT ?_; clear hA; rintro _ w ⟨oN, cN, rfl, hH2⟩; clear hH; have hH := (hH2 _ (by (repeat constructor))).tail; clear hH2; refine ⟨STT, ?_⟩; intro a hA))) )
  (refine st_op hA rfl rfl (by decide) (op_call rfl rfl rfl (gwhite_spec _ bg b N s (addrW x) hok (gc_read hH) (hp_readM hH (by exact MEMT)))) ?_; clear hA; rintro _ w ⟨rfl, hk⟩ a hA; replace hH := hH.keep hk; clear hk)
  rw [hwz] at hA
  obtain ⟨q, hH2⟩ := gc_open hH
  clear hH
  have hH := hH2
  clear hH2
  unfold gcQ at hH
  rw [← haN] at hA
  have hspC : Sp q.oC N := hH.own_sp (o := q.oC) (by exact MEMT)
  repeat' (first | (first | (refine GT ?_ ?_ <;> intro hg <;> clear hA a <;> intro a hA <;> (first | exact FA | replace hg := of_decide_eq_true hg | replace hg := of_decide_eq_false hg | skip)) | (refine QT ?_; clear hA a; intro a hA) | (first | (refine BT ?_; clear hA hH; rintro _ w ⟨bN, rfl, hH⟩ a hA) | (refine LT ?_; clear hA hH; rintro _ w ⟨oN, rfl, hH⟩ a hA) | (refine AT ?_; clear hA; rintro _ w ⟨oN, cN, rfl, hH2⟩ a hA; clear hH; have hH := (hH2 _ (by (repeat constructor))).tail; clear hH2) | (refine S0T ?_; clear hH; rintro _ w hH) | (apply st_op0 hA rfl rfl; apply op_set1 (enc := encC) (y0 := 1) (j := addrN x * 1); rfl; rfl; rfl; rfl; exact encC_len; exact hH; (repeat constructor); (rw [hok.cll]; omega); clear hH; rintro _ w hH))) | ((first | refine CT ?_ | (refine DT ?_ ?_ <;> intro hc <;> try (exfalso; omega))) <;> repeat' refine CT ?_) | (first | (refine DSK ?_; clear hA a; intro a hA) | (first | (refine DLT ?_; clear hA hH; rintro _ w ⟨oN, rfl, hH⟩; refine ⟨STT, ?_⟩; intro a hA) | (refine DAT ?_; clear hA; rintro _ w ⟨oN, cN, rfl, hH2⟩; clear hH; have hH := (hH2 _ (by (repeat constructor))).tail; clear hH2; refine ⟨STT, ?_⟩; intro a hA))) )
  (refine st_op hA rfl rfl (by decide) (op_call rfl rfl rfl (searchN_spec _ q.oG q.cG s.gr (addrN x) (hH.own_rd (o := q.oG) (by exact MEMT)) (by omega) hok.grs (fun a ha => by have := gr_le hok a ha; omega) (by omega))) ?_; clear hA; rintro _ w ⟨⟨i, b2, rfl, hpos⟩, hk⟩ a hA)
  replace hH := hH.keep hk
  clear hk
  repeat' (first | (first | (refine GT ?_ ?_ <;> intro hg <;> clear hA a <;> intro a hA <;> (first | exact FA | replace hg := of_decide_eq_true hg | replace hg := of_decide_eq_false hg | skip)) | (refine QT ?_; clear hA a; intro a hA) | (first | (refine BT ?_; clear hA hH; rintro _ w ⟨bN, rfl, hH⟩ a hA) | (refine LT ?_; clear hA hH; rintro _ w ⟨oN, rfl, hH⟩ a hA) | (refine AT ?_; clear hA; rintro _ w ⟨oN, cN, rfl, hH2⟩ a hA; clear hH; have hH := (hH2 _ (by (repeat constructor))).tail; clear hH2) | (refine S0T ?_; clear hH; rintro _ w hH) )) | ((first | refine CT ?_ | (refine DT ?_ ?_ <;> intro hc <;> try (exfalso; omega))) <;> repeat' refine CT ?_) | (first | (refine DSK ?_; clear hA a; intro a hA) | (first | (refine DLT ?_; clear hA hH; rintro _ w ⟨oN, rfl, hH⟩; refine ⟨STT, ?_⟩; intro a hA) | (refine DAT ?_; clear hA; rintro _ w ⟨oN, cN, rfl, hH2⟩; clear hH; have hH := (hH2 _ (by (repeat constructor))).tail; clear hH2; refine ⟨STT, ?_⟩; intro a hA))) )
  (refine st_op hA rfl rfl (by decide) (op_call rfl rfl rfl (insertN_f (fr := s.gr) (r := addrN x) (o := q.oG) (hH.perm (perm_pick 3 rfl (.refl _))) hpos.1 (by omega))) ?_; clear hA; rintro _ w ⟨o2, c2, rfl, hH2⟩ a hA)
  clear hH
  have hH := hH2
  clear hH2
  rw [insN_insF hpos hnot] at hH
  repeat' (first | (first | (refine GT ?_ ?_ <;> intro hg <;> clear hA a <;> intro a hA <;> (first | exact FA | replace hg := of_decide_eq_true hg | replace hg := of_decide_eq_false hg | skip)) | (refine QT ?_; clear hA a; intro a hA) | (first | (refine BT ?_; clear hA hH; rintro _ w ⟨bN, rfl, hH⟩ a hA) | (refine LT ?_; clear hA hH; rintro _ w ⟨oN, rfl, hH⟩ a hA) | (refine AT ?_; clear hA; rintro _ w ⟨oN, cN, rfl, hH2⟩ a hA; clear hH; have hH := (hH2 _ (by (repeat constructor))).tail; clear hH2) | (refine S0T ?_; clear hH; rintro _ w hH) | (apply st_op0 hA rfl rfl; apply op_store_fld; rfl; rfl; rfl; exact hH; (repeat constructor); (repeat rfl); clear hH; rintro _ w hH))) | ((first | refine CT ?_ | (refine DT ?_ ?_ <;> intro hc <;> try (exfalso; omega))) <;> repeat' refine CT ?_) | (first | (refine DSK ?_; clear hA a; intro a hA) | (first | (refine DLT ?_; clear hA hH; rintro _ w ⟨oN, rfl, hH⟩; refine ⟨STT, ?_⟩; intro a hA) | (refine DAT ?_; clear hA; rintro _ w ⟨oN, cN, rfl, hH2⟩; clear hH; have hH := (hH2 _ (by (repeat constructor))).tail; clear hH2; refine ⟨STT, ?_⟩; intro a hA))) )
  refine rt0 (.inr rfl) rfl hA ?_
  rw [hs]
  refine gc_shut ⟨q.oC, q.cC, o2, c2⟩ ?_
  unfold gcQ
  dsimp only
  rw [insF_len]
  rw [Nat.mul_one] at hH
  exact hH.perm (by (repeat (first | exact List.Perm.nil | refine perm_pick 0 rfl ?_ | refine perm_pick 1 rfl ?_ | refine perm_pick 2 rfl ?_ | refine perm_pick 3 rfl ?_ | refine perm_pick 4 rfl ?_ | refine perm_pick 5 rfl ?_ | refine perm_pick 6 rfl ?_ | refine perm_pick 7 rfl ?_ | refine perm_pick 8 rfl ?_ | refine perm_pick 9 rfl ?_ | refine perm_pick 10 rfl ?_ | refine perm_pick 11 rfl ?_)))
theorem gshade_f {w0 w : World} {M : Nat → Prop} {H : List It} {bg b N : Nat} {s : GS} {L : List Ob} {x : Int} (hH : HS w0 M (gcI bg b N s :: hpI b N L :: H) w) (hok : GOk N s) (hp : s.ph = 1) (hU : U x) (hL : s.L = L) :
    Ret Try.prog 45 #[.pointer (some (bat bg 0)), .int .u64 x] w (fun v w' => HS w0 M (gcI bg b N (shadeG s x) :: hpI b N L :: H) w') := by
  subst hL
  obtain ⟨Mc, h1, -, h2⟩ := HS.frame (Hc := [gcI bg b N s, hpI b N s.L]) (Hf := H) hH
  exact (gshade_spec w Mc bg b N s x hok hp hU h1).mono fun v w' h3 => h2 _ _ h3
end Go.Proofs.Ytejpcidfigmnkaa
