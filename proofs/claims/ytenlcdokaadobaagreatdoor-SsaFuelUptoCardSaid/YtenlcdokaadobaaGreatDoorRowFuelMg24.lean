/-
  Graphs handed in. Conditions: none.
  SsaFuel, SsaReads: the walks. Conditions: none.
  The frame of a law's proof, where what is handed in is not great and tables are laid ('..UptoCardSaid'). Conditions: none.
  What the laid table gives: strconv.FormatInt. Conditions: none.
-/
import Derived.Test.YtenlcdokaadobaaGreatDoorRowFuelMg19
import Derived.Test.YtenlcdokaadobaaGreatDoorRowFuelMg23
import Derived.Test.YtenlcdokaadobaaGreatDoorRowFuelMg3
import Derived.LaidLaws
import Derived.LaidMore
import Derived.Stop.Joined
import Derived.LaidHandle
import Derived.Test.YtenlcdokaadobaaGreatDoorRowFuelMg17
import Derived.Test.YtenlcdokaadobaaGreatDoorRows
import Derived.Lib.LaidTab
namespace Go.Proofs.YtenlcdokaadobaaGreatDoor
open Go Go.Fw Go.ChangeShapes Go.WideShapes Go.ChangeAt Go.RowKit Go.Deep
set_option linter.unusedVariables false
section
variable {H : Type} {enc0 : TypeId × Value → H} {w : World} {held : Bool}
structure BigG (g : Grs) : Prop where
  sz : SzG 1048576 g
  xs : ∀ s ∈ g.xs.l, s.size ≤ 1048576
theorem opn_strB {t : TypeId} [h : TSr Tryz.prog t] : Opn enc0 w held t (fun s : ByteArray => [.string s]) (fun s => s.size ≤ 1048576) := fun fuel cs x hx => by
  obtain ⟨n, rfl, hx2, _⟩ := DataW.trod_string h.eq hx
  refine ⟨n, rfl, fun hb => ?_⟩
  rw [hx2] at hb
  have hb2 : n.data.toList.length + 1 ≤ 1048576 := hb
  have h9 : n.size = n.data.toList.length := rfl
  show n.size ≤ 1048576
  omega
theorem cutc {cs A B : List Value} {o s o2 : Nat} (z : o2 = o + s) (e : (cs.drop o).take s = A) (h : cs.drop o2 = B) : cs.drop o = A ++ B := by
  subst z
  rw [cut_at cs o s, e, h]
theorem cutn {cs : List Value} {o n : Nat} (h : cs.length = n) (z : n = o) : cs.drop o = [] := List.drop_eq_nil_of_le (by omega)
theorem opn_vec {t e : TypeId} [ht : TSl Tryz.prog t e] {α : Type} {enc : α → List Value} {K : α → Prop} {sz : Nat} (he : Opn enc0 w held e enc K) (hc : Tryz.prog.cellsOf e = sz) (hsz : 0 < sz) (hl : ∀ a, (enc a).length = sz) :
    Opn enc0 w held t (fun v : Vec α => [.slice v.o v.l.length v.c]) (fun v => RdV w enc v ∧ v.l.length ≤ 1048576 ∧ ∀ a ∈ v.l, K a) :=
  opn_imp (opn_slice he hc hsz hl) (fun v => ⟨v.1, v.2.1, v.2.2⟩) (fun v => rfl) (fun v h => h)
theorem opn_encI {t : TypeId} [h : TIn Tryz.prog t .i64] : Opn enc0 w held t Fw.encI (fun _ => True) := opn_imp opn_int id (fun _ => rfl) (fun _ _ => trivial)
theorem opn_encX {t : TypeId} [h : TSr Tryz.prog t] : Opn enc0 w held t encX (fun s => s.size ≤ 1048576) := opn_imp opn_strB id (fun _ => rfl) (fun _ h => h)
theorem opn_atm : Opn enc0 w held 65 encAt (fun _ => True) := fun fuel cs x hx => by
  obtain ⟨n, hcl, hf⟩ := opn_struct hx
  obtain ⟨y0, h0, b0⟩ := hf 0 _ _ rfl
  obtain ⟨a0, e0, k0⟩ := (opn_int) n _ _ h0
  obtain ⟨y1, h1, b1⟩ := hf 1 _ _ rfl
  obtain ⟨a1, e1, k1⟩ := (opn_int) n _ _ h1
  refine ⟨⟨a0, a1⟩, cutc (o2 := 1) (by kernel_rfl) e0 (cutc (o2 := 2) (by kernel_rfl) e1 (cutn (o := 2) hcl (by kernel_rfl))), fun hb => ?_⟩
  have g0 := k0 (b0 hb)
  have g1 := k1 (b1 hb)
  exact trivial
theorem opn_stp : Opn enc0 w held 57 encSt (fun s => (RdV w Fw.encI s.ns ∧ RdV w encAt s.a) ∧ s.a.l.length ≤ 1048576) := fun fuel cs x hx => by
  obtain ⟨n, hcl, hf⟩ := opn_struct hx
  obtain ⟨y0, h0, b0⟩ := hf 0 _ _ rfl
  obtain ⟨a0, e0, k0⟩ := (opn_int) n _ _ h0
  obtain ⟨y1, h1, b1⟩ := hf 1 _ _ rfl
  obtain ⟨a1, e1, k1⟩ := (opn_int) n _ _ h1
  obtain ⟨y2, h2, b2⟩ := hf 2 _ _ rfl
  obtain ⟨a2, e2, k2⟩ := (opn_vec (opn_encI) (by kernel_rfl) (by decide) Fw.encI_len) n _ _ h2
  obtain ⟨y3, h3, b3⟩ := hf 3 _ _ rfl
  obtain ⟨a3, e3, k3⟩ := (opn_vec (opn_atm) (by kernel_rfl) (by decide) encAt_len) n _ _ h3
  refine ⟨⟨a0, a1, a2, a3⟩, cutc (o2 := 1) (by kernel_rfl) e0 (cutc (o2 := 2) (by kernel_rfl) e1 (cutc (o2 := 3) (by kernel_rfl) e2 (cutc (o2 := 4) (by kernel_rfl) e3 (cutn (o := 4) hcl (by kernel_rfl))))), fun hb => ?_⟩
  have g0 := k0 (b0 hb)
  have g1 := k1 (b1 hb)
  have g2 := k2 (b2 hb)
  have g3 := k3 (b3 hb)
  exact ⟨⟨g2.1, g3.1⟩, g3.2.1⟩
theorem opn_ins : Opn enc0 w held 59 encIn (fun i => RdIn w i ∧ i.r.a.l.length ≤ 1048576) := fun fuel cs x hx => by
  obtain ⟨n, hcl, hf⟩ := opn_struct hx
  obtain ⟨y0, h0, b0⟩ := hf 0 _ _ rfl
  obtain ⟨a0, e0, k0⟩ := (opn_int) n _ _ h0
  obtain ⟨y1, h1, b1⟩ := hf 1 _ _ rfl
  obtain ⟨a1, e1, k1⟩ := (opn_stp) n _ _ h1
  refine ⟨⟨a0, a1⟩, cutc (o2 := 1) (by kernel_rfl) e0 (cutc (o2 := 5) (by kernel_rfl) e1 (cutn (o := 5) hcl (by kernel_rfl))), fun hb => ?_⟩
  have g0 := k0 (b0 hb)
  have g1 := k1 (b1 hb)
  exact g1
theorem opn_edg : Opn enc0 w held 61 encEd (fun e => RdV w encAt e.a ∧ e.a.l.length ≤ 1048576) := fun fuel cs x hx => by
  obtain ⟨n, hcl, hf⟩ := opn_struct hx
  obtain ⟨y0, h0, b0⟩ := hf 0 _ _ rfl
  obtain ⟨a0, e0, k0⟩ := (opn_int) n _ _ h0
  obtain ⟨y1, h1, b1⟩ := hf 1 _ _ rfl
  obtain ⟨a1, e1, k1⟩ := (opn_vec (opn_atm) (by kernel_rfl) (by decide) encAt_len) n _ _ h1
  refine ⟨⟨a0, a1⟩, cutc (o2 := 1) (by kernel_rfl) e0 (cutc (o2 := 2) (by kernel_rfl) e1 (cutn (o := 2) hcl (by kernel_rfl))), fun hb => ?_⟩
  have g0 := k0 (b0 hb)
  have g1 := k1 (b1 hb)
  exact ⟨g1.1, g1.2.1⟩
theorem opn_en : Opn enc0 w held 51 encEn (fun e => RdEn w e ∧ e.a.l.length ≤ 1048576 ∧ e.to.l.length ≤ 1048576 ∧ ∀ t ∈ e.to.l, t.a.l.length ≤ 1048576) := fun fuel cs x hx => by
  obtain ⟨n, hcl, hf⟩ := opn_struct hx
  obtain ⟨y0, h0, b0⟩ := hf 0 _ _ rfl
  obtain ⟨a0, e0, k0⟩ := (opn_int) n _ _ h0
  obtain ⟨y1, h1, b1⟩ := hf 1 _ _ rfl
  obtain ⟨a1, e1, k1⟩ := (opn_vec (opn_atm) (by kernel_rfl) (by decide) encAt_len) n _ _ h1
  obtain ⟨y2, h2, b2⟩ := hf 2 _ _ rfl
  obtain ⟨a2, e2, k2⟩ := (opn_vec (opn_encI) (by kernel_rfl) (by decide) Fw.encI_len) n _ _ h2
  obtain ⟨y3, h3, b3⟩ := hf 3 _ _ rfl
  obtain ⟨a3, e3, k3⟩ := (opn_vec (opn_edg) (by kernel_rfl) (by decide) encEd_len) n _ _ h3
  refine ⟨⟨a0, a1, a2, a3⟩, cutc (o2 := 1) (by kernel_rfl) e0 (cutc (o2 := 2) (by kernel_rfl) e1 (cutc (o2 := 3) (by kernel_rfl) e2 (cutc (o2 := 4) (by kernel_rfl) e3 (cutn (o := 4) hcl (by kernel_rfl))))), fun hb => ?_⟩
  have g0 := k0 (b0 hb)
  have g1 := k1 (b1 hb)
  have g2 := k2 (b2 hb)
  have g3 := k3 (b3 hb)
  exact ⟨⟨g1.1, g2.1, g3.1, fun t ht => (g3.2.2 t ht).1⟩, g1.2.1, g3.2.1, fun t ht => (g3.2.2 t ht).2⟩
theorem opn_blc : Opn enc0 w held 53 encBl (fun b => RdBl w b ∧ SzB 1048576 b) := fun fuel cs x hx => by
  obtain ⟨n, hcl, hf⟩ := opn_struct hx
  obtain ⟨y0, h0, b0⟩ := hf 0 _ _ rfl
  obtain ⟨a0, e0, k0⟩ := (opn_vec (opn_encI) (by kernel_rfl) (by decide) Fw.encI_len) n _ _ h0
  obtain ⟨y1, h1, b1⟩ := hf 1 _ _ rfl
  obtain ⟨a1, e1, k1⟩ := (opn_vec (opn_ins) (by kernel_rfl) (by decide) encIn_len) n _ _ h1
  obtain ⟨y2, h2, b2⟩ := hf 2 _ _ rfl
  obtain ⟨a2, e2, k2⟩ := (opn_en) n _ _ h2
  refine ⟨⟨a0, a1, a2⟩, cutc (o2 := 1) (by kernel_rfl) e0 (cutc (o2 := 2) (by kernel_rfl) e1 (cutc (o2 := 6) (by kernel_rfl) e2 (cutn (o := 6) hcl (by kernel_rfl)))), fun hb => ?_⟩
  have g0 := k0 (b0 hb)
  have g1 := k1 (b1 hb)
  have g2 := k2 (b2 hb)
  exact ⟨⟨g0.1, g1.1, fun i hi => (g1.2.2 i hi).1, g2.1⟩, ⟨g0.2.1, g1.2.1, fun i hi => (g1.2.2 i hi).2, g2.2.1, g2.2.2.1, g2.2.2.2⟩⟩
theorem opn_gr : Opn enc0 w held 44 encG (fun g => RdG w g ∧ g.bs.l.length ≤ 1048576 ∧ ∀ bl ∈ g.bs.l, SzB 1048576 bl) := fun fuel cs x hx => by
  obtain ⟨n, hcl, hf⟩ := opn_struct hx
  obtain ⟨y0, h0, b0⟩ := hf 0 _ _ rfl
  obtain ⟨a0, e0, k0⟩ := (opn_int) n _ _ h0
  obtain ⟨y1, h1, b1⟩ := hf 1 _ _ rfl
  obtain ⟨a1, e1, k1⟩ := (opn_vec (opn_blc) (by kernel_rfl) (by decide) encBl_len) n _ _ h1
  refine ⟨⟨a0, a1⟩, cutc (o2 := 1) (by kernel_rfl) e0 (cutc (o2 := 2) (by kernel_rfl) e1 (cutn (o := 2) hcl (by kernel_rfl))), fun hb => ?_⟩
  have g0 := k0 (b0 hb)
  have g1 := k1 (b1 hb)
  exact ⟨⟨g1.1, fun b hb => (g1.2.2 b hb).1⟩, g1.2.1, fun b hb => (g1.2.2 b hb).2⟩
theorem opn_grs : Opn enc0 w held 25 encGs (fun g => RdGs w g ∧ BigG g) := fun fuel cs x hx => by
  obtain ⟨n, hcl, hf⟩ := opn_struct hx
  obtain ⟨y0, h0, b0⟩ := hf 0 _ _ rfl
  obtain ⟨a0, e0, k0⟩ := (opn_vec (opn_gr) (by kernel_rfl) (by decide) encG_len) n _ _ h0
  obtain ⟨y1, h1, b1⟩ := hf 1 _ _ rfl
  obtain ⟨a1, e1, k1⟩ := (opn_vec (opn_encX) (by kernel_rfl) (by decide) encX_len) n _ _ h1
  obtain ⟨y2, h2, b2⟩ := hf 2 _ _ rfl
  obtain ⟨a2, e2, k2⟩ := (opn_vec (opn_encX) (by kernel_rfl) (by decide) encX_len) n _ _ h2
  obtain ⟨y3, h3, b3⟩ := hf 3 _ _ rfl
  obtain ⟨a3, e3, k3⟩ := (opn_vec (opn_encX) (by kernel_rfl) (by decide) encX_len) n _ _ h3
  obtain ⟨y4, h4, b4⟩ := hf 4 _ _ rfl
  obtain ⟨a4, e4, k4⟩ := (opn_vec (opn_encX) (by kernel_rfl) (by decide) encX_len) n _ _ h4
  refine ⟨⟨a0, a1, a2, a3, a4⟩, cutc (o2 := 1) (by kernel_rfl) e0 (cutc (o2 := 2) (by kernel_rfl) e1 (cutc (o2 := 3) (by kernel_rfl) e2 (cutc (o2 := 4) (by kernel_rfl) e3 (cutc (o2 := 5) (by kernel_rfl) e4 (cutn (o := 5) hcl (by kernel_rfl)))))), fun hb => ?_⟩
  have g0 := k0 (b0 hb)
  have g1 := k1 (b1 hb)
  have g2 := k2 (b2 hb)
  have g3 := k3 (b3 hb)
  have g4 := k4 (b4 hb)
  exact ⟨⟨g0.1, fun f hf => (g0.2.2 f hf).1, g1.1, g2.1, g3.1, g4.1⟩, ⟨⟨g0.2.1, fun f hf => (g0.2.2 f hf).2.1, fun f hf => (g0.2.2 f hf).2.2⟩, g3.2.2⟩⟩
set_option maxRecDepth 100000 in
theorem argG {base : Nat} {v : Value} {d : DataW H} {p : List MemPlace} {ds : List (DataW H)} (hv : Value.okWide Tryz.prog w .any base 25 v) (h : DataW.Trod enc0 Tryz.prog w 0 (fun _ => true) held 25 v d p) (hd : d ∈ ds) (hk : ∃ gs, Rows.uptoSmall H (ds ++ gs) = true) :
    ∃ g : Grs, v = .agg (encGs g).toArray ∧ RdGs w g ∧ BigG g := by
  obtain ⟨cs, rfl, _⟩ := okWide_struct Tryz.underlying25 hv
  obtain ⟨g, he, hK⟩ := opn_arg opn_grs h hd hk
  have he : cs.toList = encGs g := he
  exact ⟨g, by rw [← he], hK⟩
set_option maxRecDepth 100000 in
theorem argS {base : Nat} {v : Value} {d : DataW H} {p : List MemPlace} {ds : List (DataW H)} (hv : Value.okWide Tryz.prog w .any base 9 v) (h : DataW.Trod enc0 Tryz.prog w 0 (fun _ => true) held 9 v d p) (hd : d ∈ ds) (hk : ∃ gs, Rows.uptoSmall H (ds ++ gs) = true) :
    ∃ s : ByteArray, v = .string s ∧ s.size ≤ 1048576 := by
  obtain ⟨s0, rfl⟩ := okWide_string (TSr.eq (t := 9)) hv
  obtain ⟨s, he, hK⟩ := opn_arg opn_strB h hd hk
  simp [Value.cells] at he
  subst he
  exact ⟨s0, rfl, hK⟩
end
theorem own_ : ownKnob Tryz.checked.prog.godebug = none := by kernel_rfl
theorem laidOut : laidOutB Tryz.checked.prog = true := by kernel_rfl
end Go.Proofs.YtenlcdokaadobaaGreatDoor
namespace Go.Fw
open Go Go.RowKit
theorem ex_slice_string_hi {P : Program} {N : Nat} {l : List (Nat × Value)} {C : World → Prop} {d : Option Tmp} {T : TypeId} {pos : String} {af : Array Edge} {g : Option (Nat × Bool)} {t : TypeId} {x y : Operand} {s : ByteArray} {kd : IntKind} {m : Int} {i : Nat} [ht : TSr P t] (hx : ev l x = some (.string s)) (hy : ev l y = some (.int kd m)) (hk : m = (i : Int)) (hij : i ≤ s.size) :
    Ex P N l C ⟨d, .slice t x none (some y) none, T, pos, af, g⟩ (.string (s.extract 0 i)) := by
  intro a w hA _
  subst hk
  have h2 : (i : Int) ≤ (s.size : Int) := by omega
  simp only [execOp, hA.ev hx, Instr.sliceAt, Sem.run_bind, run_underlying ht.eq, Result.andThen_ok, Instr.slice, Instr.sliceBounds, Option.map_some, Option.map_none, Sem.run_pure, hA.ev hy, Instr.sliceBound, asIntOf]
  simp [hij]
end Go.Fw
namespace Go.Proofs.YtenlcdokaadobaaGreatDoor
open Go Go.Fw
set_option linter.unusedVariables false
theorem BigG.bs {g : Grs} (h : BigG g) : ∀ f ∈ g.fs.l, f.bs.l.length ≤ 1048576 ∧ ∀ bl ∈ f.bs.l, bl.e.to.l.length ≤ 1048576 := fun f hf => ⟨h.sz.bs f hf, fun bl hb => (h.sz.bl f hf bl hb).et⟩
theorem BigG.ex {g : Grs} (h : BigG g) : ∀ s ∈ g.xs.l, s.size ≤ 4611686018427387904 := fun s hs => Nat.le_trans (h.xs s hs) (by decide)
theorem pre_ext {s p : ByteArray} {t : List UInt8} (h : s.data.toList = p.data.toList ++ t) : s.extract 0 (bts p).length = p := by
  have hl : (bts p).length = p.data.toList.length := by unfold bts; rw [List.length_map]
  rw [hl]
  apply ByteArray.ext
  rw [ByteArray.data_extract]
  apply Array.ext'
  rw [Array.toList_extract, h]
  simp [List.extract_eq_take_drop]
theorem pre_len {s p : ByteArray} {t : List UInt8} (h : s.data.toList = p.data.toList ++ t) : (bts p).length ≤ (bts s).length ∧ (bts p).length ≤ s.size := by
  have h1 : (bts p).length = p.data.toList.length := by unfold bts; rw [List.length_map]
  have h2 : (bts s).length = s.data.toList.length := by unfold bts; rw [List.length_map]
  have h3 : s.size = s.data.toList.length := rfl
  have h4 := congrArg List.length h
  rw [List.length_append] at h4
  omega
theorem mm_le (a b : Int) : min2 (min2 a b) 3000 ≤ 3000 ∧ (if 3000 < (if b > a then b else a) then 3000 else (if b > a then b else a)) ≤ 3000 ∧ min2 (min2 a b) 3000 ≤ (if 3000 < (if b > a then b else a) then 3000 else (if b > a then b else a)) := by
  unfold min2
  repeat' split
  all_goals omega
set_option maxRecDepth 10000 attribute [local irreducible] Code.wp wpList Calls Ex Op1 sat bat blk cb own Go.Fw.mp Go.Fw.mpO Go.Fw.mpI Go.Fw.mpE Go.Fw.itr HS Rd Ret wkD Hp Cl Cls Exit.then Exit.inBlock Exit.noGoto bodyPost Go.Fw.flat wk2 Go.Fw.all Go.Fw.owns wpOp
attribute [local irreducible] sk mpK sko mvO entK opM Go.Fw.mset Go.Fw.mv opK min2

set_option maxHeartbeats 4000000 in
theorem begins_spec (w0 : World) (s p : ByteArray) (h : ∃ t, s.data.toList = p.data.toList ++ t) : Ret Tryz.prog 19 #[.string s, .string p] w0 (fun r w => r = .bool true ∧ Kp w0 noM w) := by
  have hH : HS w0 noM [] w0 := HS.init w0 noM
  (refine enter (N := 18) Tryz.func19 rfl Tryz.ntmps19 rfl ?_; intro a hA; dsimp only [sl0, Nat.reduceAdd] at hA)
  obtain ⟨t, h⟩ := h
  obtain ⟨hl1, hl2⟩ := pre_len h
  have hpe := pre_ext h
  repeat' (first | (refine GT ?_ ?_ <;> intro hg <;> clear hA a <;> intro a hA <;> (first | exact FA | replace hg := of_decide_eq_true hg | replace hg := of_decide_eq_false hg | skip)) | ((first | apply st_ex hA hH rfl rfl (by decide) | apply dr_ex hA rfl rfl rfl (by decide) | apply dr_exp hA rfl rfl rfl (by decide) | apply dr_ex3 hA hH rfl rfl rfl (by decide)); (first | (apply ex_len_string; rfl) | (apply ex_slice_string_hi; rfl; rfl; rfl; exact hl2)); clear hA a; intro a hA) | (refine QT ?_; clear hA a; intro a hA) | (refine CT ?_ <;> repeat' refine CT ?_))
  rw [hpe] at hA
  repeat' (first | ((first | apply st_ex hA hH rfl rfl (by decide) | apply dr_ex hA rfl rfl rfl (by decide) | apply dr_exp hA rfl rfl rfl (by decide) | apply dr_ex3 hA hH rfl rfl rfl (by decide)); (first | (apply ex_eqlSs (m := p); rfl; rfl)); clear hA a; intro a hA) | (refine QT ?_; clear hA a; intro a hA) | (refine CT ?_ <;> repeat' refine CT ?_))
  exact rt1 (.inl rfl) rfl hA rfl ⟨rfl, hH.kp⟩
set_option maxHeartbeats 8000000 in
theorem fuel_law (W : World) (g : Grs) (kd fuel more : Int) (s : ByteArray) (hR : RdGs W g) (hb : BigG g) (hFI : FI W) : Ret Tryz.prog 6 #[.agg (encGs g).toArray, .int .i64 kd, .string s, .int .i64 fuel, .int .i64 more] W (LawR W) := by
  have hH : HS W noM [] W := HS.init W noM
  (refine enter (N := 50) Tryz.func6 rfl Tryz.ntmps6 rfl ?_; intro a hA; dsimp only [sl0, Nat.reduceAdd] at hA)
  repeat' (first | (refine QT ?_; clear hA a; intro a hA) | (refine BT ?_; clear hA hH; rintro _ w ⟨bN, rfl, hH⟩ a hA) | (refine CT ?_ <;> repeat' refine CT ?_))
  obtain ⟨b5, hb3⟩ : ∃ x, x = bN := ⟨_, rfl⟩; rw [← hb3] at hA hH; clear hb3 bN
  (refine st_op hA rfl rfl (by decide) (op_call rfl rfl rfl (awake_spec _ (hFI.keep hH.kp))) ?_; clear hA; rintro _ w ⟨rfl, hk⟩ a hA; replace hH := hH.keep hk; clear hk)
  repeat' (first | ((first | apply st_ex hA hH rfl rfl (by decide) | apply dr_ex hA rfl rfl rfl (by decide) | apply dr_exp hA rfl rfl rfl (by decide) | apply dr_ex3 hA hH rfl rfl rfl (by decide)); (first | (apply ex_load_st (vs := encGs g); rfl; rfl; exact cls_cb_all MEMT)); clear hA a; intro a hA) | (refine QT ?_; clear hA a; intro a hA) | (refine CT ?_ <;> repeat' refine CT ?_))
  (refine st_op hA rfl rfl (by decide) (op_call rfl rfl rfl (large_spec _ g (hR.keep hH.kp) hb.sz)) ?_; clear hA; rintro _ w ⟨b, rfl, hlg, hk⟩ a hA; replace hH := hH.keep hk; clear hk)
  cases b with
  | true =>
    repeat' (first | (refine QT ?_; clear hA a; intro a hA) | (refine CT ?_ <;> repeat' refine CT ?_))
    exact rt1 (.inl rfl) rfl hA rfl ⟨rfl, hH.kp⟩
  | false =>
  have hfl : g.fs.l.length ≤ 100000 := by
    have := hb.sz.fs
    have h2 : ¬ (50 < g.fs.l.length ∨ 1000 < grsN g) := fun h => by cases hlg.2 h
    omega
  repeat' (first | ((first | apply st_ex hA hH rfl rfl (by decide) | apply dr_ex hA rfl rfl rfl (by decide) | apply dr_exp hA rfl rfl rfl (by decide) | apply dr_ex3 hA hH rfl rfl rfl (by decide)); (first | (apply ex_load_st (vs := encGs g); rfl; rfl; exact cls_cb_all MEMT) | (apply ex_min3; rfl; rfl; rfl) | (apply ex_max; rfl; rfl) | (apply ex_min; rfl; rfl)); clear hA a; intro a hA) | (refine QT ?_; clear hA a; intro a hA) | (refine CT ?_ <;> repeat' refine CT ?_))
  obtain ⟨hm1, hm2, hm3⟩ := mm_le fuel more
  obtain ⟨lo, hlo⟩ : ∃ x, x = min2 (min2 fuel more) 3000 := ⟨_, rfl⟩
  rw [← hlo] at hA hm1 hm3
  obtain ⟨hi, hhi⟩ : ∃ x : Int, x = if 3000 < (if more > fuel then more else fuel) then 3000 else (if more > fuel then more else fuel) := ⟨_, rfl⟩
  rw [← hhi] at hA hm2 hm3
  clear hlo hhi
  have h1 := runP_more (g := g) (kd := kd) (s := s) hm3
  have h2 := runP_less (g := g) (kd := kd) (s := s) hm3
  obtain ⟨ra, hra⟩ : ∃ x, x = runP g kd s lo := ⟨_, rfl⟩
  obtain ⟨rb, hrb⟩ : ∃ x, x = runP g kd s hi := ⟨_, rfl⟩
  rw [← hra, ← hrb] at h1 h2
  (refine st_op hA rfl rfl (by decide) (op_call rfl rfl rfl (Run_spec _ g kd s lo (hR.keep hH.kp) hfl hb.bs hb.ex hm1 (hFI.keep hH.kp))) ?_; clear hA; rintro _ w ⟨rfl, hk⟩ a hA; replace hH := hH.keep hk; clear hk)
  rw [← hra] at hA
  repeat' (first | ((first | apply st_ex hA hH rfl rfl (by decide) | apply dr_ex hA rfl rfl rfl (by decide) | apply dr_exp hA rfl rfl rfl (by decide) | apply dr_ex3 hA hH rfl rfl rfl (by decide)); (first | (apply ex_load_st (vs := encGs g); rfl; rfl; exact cls_cb_all MEMT)); clear hA a; intro a hA) | (refine QT ?_; clear hA a; intro a hA) | (refine BT ?_; clear hA hH; rintro _ w ⟨bN, rfl, hH⟩ a hA) | (apply st_op0 hA rfl rfl; apply op_store_agg (vs := encP3 ra); rfl; rfl; exact hH; (repeat constructor); (repeat rfl); clear hH; rintro _ w hH) | (refine CT ?_ <;> repeat' refine CT ?_))
  obtain ⟨b11, hb3⟩ : ∃ x, x = bN := ⟨_, rfl⟩; rw [← hb3] at hA hH; clear hb3 bN
  (refine st_op hA rfl rfl (by decide) (op_call rfl rfl rfl (Run_spec _ g kd s hi (hR.keep hH.kp) hfl hb.bs hb.ex hm2 (hFI.keep hH.kp))) ?_; clear hA; rintro _ w ⟨rfl, hk⟩ a hA; replace hH := hH.keep hk; clear hk)
  rw [← hrb] at hA
  by_cases hk : ra.1 = 2
  · obtain ⟨hemp, hpre⟩ := h2 hk
    repeat' (first | (refine QT ?_; clear hA a; intro a hA) | (refine BT ?_; clear hA hH; rintro _ w ⟨bN, rfl, hH⟩ a hA) | (apply st_op0 hA rfl rfl; apply op_store_agg (vs := encP3 rb); rfl; rfl; exact hH; (repeat constructor); (repeat rfl); clear hH; rintro _ w hH) | ((first | refine CT ?_ | (refine DT ?_ ?_ <;> intro hc <;> try (exfalso; omega))) <;> repeat' refine CT ?_))
    obtain ⟨b12, hb3⟩ : ∃ x, x = bN := ⟨_, rfl⟩; rw [← hb3] at hA hH; clear hb3 bN
    (refine st_op hA rfl rfl (by decide) (op_call rfl rfl rfl (begins_spec _ rb.2.1 ra.2.1 hpre)) ?_; clear hA; rintro _ w ⟨rfl, hkp⟩ a hA; replace hH := hH.keep hkp; clear hkp)
    rw [show encP3 ra = encO3 ra.1 ra.2.1 empS by unfold encP3; rw [hemp]] at hH
    repeat' (first | (refine GT ?_ ?_ <;> intro hg <;> clear hA a <;> intro a hA <;> (first | exact FA | replace hg := of_decide_eq_true hg | replace hg := of_decide_eq_false hg | skip)) | ((first | apply st_ex hA hH rfl rfl (by decide) | apply dr_ex hA rfl rfl rfl (by decide) | apply dr_exp hA rfl rfl rfl (by decide) | apply dr_ex3 hA hH rfl rfl rfl (by decide)); (first | (apply ex_eqlSs (m := empS); rfl; rfl)); clear hA a; intro a hA) | (refine QT ?_; clear hA a; intro a hA) | (refine CT ?_ <;> repeat' refine CT ?_))
    exact rt1 (.inl rfl) rfl hA rfl ⟨rfl, hH.kp⟩
  · have he := h1 hk
    rw [← he] at hA
    repeat' (first | (refine QT ?_; clear hA a; intro a hA) | (refine BT ?_; clear hA hH; rintro _ w ⟨bN, rfl, hH⟩ a hA) | (apply st_op0 hA rfl rfl; apply op_store_agg (vs := encP3 ra); rfl; rfl; exact hH; (repeat constructor); (repeat rfl); clear hH; rintro _ w hH) | ((first | refine CT ?_ | (refine DT ?_ ?_ <;> intro hc <;> try (exfalso; omega))) <;> repeat' refine CT ?_))
    obtain ⟨b12, hb3⟩ : ∃ x, x = bN := ⟨_, rfl⟩; rw [← hb3] at hA hH; clear hb3 bN
    repeat' (first | ((first | apply st_ex hA hH rfl rfl (by decide) | apply dr_ex hA rfl rfl rfl (by decide) | apply dr_exp hA rfl rfl rfl (by decide) | apply dr_ex3 hA hH rfl rfl rfl (by decide)); (first | (apply ex_load_st (vs := encP3 ra); rfl; rfl; exact cls_cb_all MEMT) | (apply ex_eqlOs (p := ra); rfl; rfl)); clear hA a; intro a hA) | (refine QT ?_; clear hA a; intro a hA) | (refine CT ?_ <;> repeat' refine CT ?_))
    exact rt1 (.inl rfl) rfl hA rfl ⟨rfl, hH.kp⟩
end Go.Proofs.YtenlcdokaadobaaGreatDoor
namespace Go.Fw
open Go Go.ChangeShapes Go.WideShapes Go.ChangeAt Go.RowKit
set_option linter.unusedVariables false
section
variable {H : Type} {enc : TypeId × Value → H}
def preL (enc : TypeId × Value → H) (P : Program) (fn : Func) (s : OpenSpec) (conds : List PathCond) (laid : List (String × DataW Unit)) (w : World) (args : Array Value) : Prop :=
  (s.pre enc P fn conds false w args ∧ laidMetH P laid w) ∧ sizedMet enc P fn s false w args
theorem law_lifted_uptoL {C : Checked} {os : Os} {f : FuncId} {fn : Func} {s : ChangeSpec} {k : (H : Type) → List (DataW H) → Bool} {F : Stop.Interp} {conds : List PathCond} {tb : TypeId} {laid : List (String × DataW Unit)}
    (own : ownKnob C.prog.godebug = none) (started : os.Started) (noInit : C.prog.inits.idxOf? f = none) (hfn : C.prog.funcs[f]? = some fn)
    (witness : ∃ (w : World) (tape : Tape) (i : Input), w.os = os ∧ (w.forCall tape i).Shaped C.prog ∧ i.vars = [] ∧ Input.okWide C.prog (w.forCall tape i) .any w.heap.size f i ∧
      preL enc C.prog fn { OpenSpec.ofChange s with cond := some k } conds laid (w.forCall tape i).memory i.args ∧ ({} : Assume).holds C.prog (lone (Frame.enter C.prog f i.args .normal) [] (w.forCall tape i)))
    (hl : laidOutB C.prog = true) (hrd : fn.params.toList.all (fun t => C.prog.readableRec t && decide (t < C.prog.types.size)) = true) (hv : s.vars = [])
    (hs : ∀ ds : List (DataW H), ds.length = fn.params.size → (s.fn H (ds ++ [])).results = [.lit (.bool true)] ∧ (s.fn H (ds ++ [])).args = ds ∧ (s.fn H (ds ++ [])).vars = [])
    (hrt : fn.resultTypes = #[tb]) (hb : C.prog.underlying tb = some .bool)
    (walk : ∀ (W : World) (base : Nat) (args : Array Value) (ds : List (DataW H)) (p : List MemPlace),
      (∀ (j : Nat) t v, fn.params[j]? = some t → args[j]? = some v → Value.okWide C.prog W .any base t v) →
      DataW.TrodAll enc C.prog W 0 (fun _ => true) true fn.params.toList args.toList ds p → (∃ gs, k H (ds ++ gs) = true) → laidMetH C.prog laid W → Ret C.prog f args W (LawR W)) :
    ReturnsInHanded {} C os f .any (preL enc C.prog fn { OpenSpec.ofChange s with cond := some k } conds laid) ((({ OpenSpec.ofChange s with cond := some k } : OpenSpec).at F).post enc C.prog fn false true false false) := by
  refine returnsInHanded_of_calls own started noInit witness ?_
  intro w tape i _ _ _ hok hpre hholds
  obtain ⟨_, _, _, fn', hfn', _, _, _, _, hval⟩ := hok
  have e : fn' = fn := Option.some.inj (hfn'.symm.trans hfn)
  subst e
  obtain ⟨⟨hp0, hL⟩, hz⟩ := hpre
  obtain ⟨ds, gs, before, hw, hc, hkk⟩ := (OpenSpec.pre_some (s := { OpenSpec.ofChange s with cond := some k }) (k := k) rfl conds false _ _).1 hp0
  have hw' := DataW.Whole.of_heap (w' := w.forCall tape i) (by rfl) hw
  have hL' : laidMetH C.prog laid (w.forCall tape i) := laidMetH.of_heap (by rfl) hL
  have hA := hw'
  obtain ⟨p, q, hA, _⟩ := hA
  refine Calls.mono (walk (w.forCall tape i) w.heap.size i.args ds p hval hA ⟨gs, hkk⟩ hL') fun e W' ⟨v, he, hp⟩ => ?_
  subst he
  obtain ⟨rfl, hkp⟩ := hp
  exact ChangeSpec.post_blind (law_post hl hrd hv hs hrt hb hw' hkp)
theorem witnessL {C : Checked} {os : Os} {f : FuncId} {fn : Func} {s : OpenSpec} {k : (H : Type) → List (DataW H) → Bool} (hk : s.cond = some k) {conds : List PathCond} {laid : List (String × DataW Unit)} (w0 : World) (args : Array Value) (fuel : Nat) (hos : w0.os = os)
    (hsh : (w0.forCall (fun _ _ => 0) ⟨#[], args, []⟩).Shaped C.prog)
    (hok : Input.okWideB C.prog (w0.forCall (fun _ _ => 0) ⟨#[], args, []⟩) f ⟨#[], args, []⟩ = true)
    {x : List (DataW H) × List (DataW H) × List MemPlace} (hx : DataW.whole enc C.prog (w0.forCall (fun _ _ => 0) ⟨#[], args, []⟩).memory fn.params.toList s.vars false args.toList fuel = some x)
    (hconds : conds.all (PathCond.test C.prog ⟨fn.params.toList, x.1, s.bare.plain.varTypes C.prog, x.2.1⟩) = true) (hkk : k H (x.1 ++ x.2.1) = true)
    (hsz : s.bare.sizedB enc C.prog fn false (w0.forCall (fun _ _ => 0) ⟨#[], args, []⟩).memory args fuel = true)
    (hX : laidMetH C.prog laid (w0.forCall (fun _ _ => 0) ⟨#[], args, []⟩).memory) :
    ∃ (w : World) (tape : Tape) (i : Input), w.os = os ∧ (w.forCall tape i).Shaped C.prog ∧ i.vars = [] ∧ Input.okWide C.prog (w.forCall tape i) .any w.heap.size f i ∧
      preL enc C.prog fn s conds laid (w.forCall tape i).memory i.args ∧ ({} : Assume).holds C.prog (lone (Frame.enter C.prog f i.args .normal) [] (w.forCall tape i)) :=
  ⟨w0, fun _ _ => 0, ⟨#[], args, []⟩, hos, hsh, (Input.okWide_of_okWideB (base := 0) hok).1, (Input.okWide_of_okWideB hok).2,
    ⟨⟨(OpenSpec.pre_some hk conds false _ _).2 ⟨x.1, x.2.1, x.2.2, DataW.Whole_of_whole hx, hconds, hkk⟩, hX⟩, sizedMet_of_sizedB hsz⟩, by
    simp only [Assume.holds]
    exact ⟨by simp, by simp, fun _ => Modest.zero, by simp, by simp⟩⟩
end
end Go.Fw
namespace Go.Proofs.YtenlcdokaadobaaGreatDoor
open Go Go.Fw Go.Sort
set_option linter.unusedVariables false
theorem gPow : Tryz.prog.globalNamed "internal/strconv.uint64pow10" = some 0 := by kernel_rfl
theorem tPow : (Tryz.prog.globals[0]?).map (·.type) = some 288 := by kernel_rfl
theorem uPow : Tryz.prog.underlying 288 = some (.array 20 276) := by kernel_rfl
theorem uU64 : Tryz.prog.underlying 276 = some (.int .u64) := by kernel_rfl
theorem dPow : (Rows.laid_internal_strconv_uint64pow10 : DataW Unit) = Lib.tabData .u64 Lib.pow10Tab := by kernel_rfl
theorem tab_of_laid {W : World} (h : laidMetH Tryz.prog Rows.ssaFuelUptoRow.laid W) : Lib.TabIs Tryz.prog W "internal/strconv.uint64pow10" .u64 Lib.pow10Tab := by
  rw [MakeChecks.laidMetH_plain _ _ _ (by kernel_rfl)] at h
  obtain ⟨ps, ⟨g0, t0, cs0, f0, p0, q0, hg0, ht0, hv0, hd0, ⟨g1, t1, cs1, f1, p1, q1, hg1, ht1, hv1, hd1, ⟨g2, t2, cs2, f2, p2, q2, hg2, ht2, hv2, hd2, _, _⟩, _⟩, _⟩, _⟩ := h
  obtain rfl := Option.some.inj (gPow.symm.trans hg2)
  obtain rfl := Option.some.inj (tPow.symm.trans ht2)
  unfold Lib.TabIs
  rw [dPow] at hd2
  rw [hv2, ← Lib.cells_of_tab uPow uU64 (by kernel_rfl) (by kernel_rfl) hd2]
theorem tab_keep {w w' : World} {zs : List Int} (h : Lib.TabIs Tryz.prog w "internal/strconv.uint64pow10" .u64 zs) (hk : Kp w noM w') : Lib.TabIs Tryz.prog w' "internal/strconv.uint64pow10" .u64 zs := by
  unfold Lib.TabIs World.var? at h ⊢
  rw [gPow] at h ⊢
  simp only [Option.bind_some] at h ⊢
  have hlt : 0 < w.heap.size := by
    rcases Nat.lt_or_ge 0 w.heap.size with h' | h'
    · exact h'
    · rw [Array.getElem?_eq_none h'] at h; cases h
  rw [hk.block 0 hlt id]
  exact h
theorem Kp.grow (w : World) (k : Nat) (os : Array Obj) : Kp w noM (grow (w.drewN k) os) := by
  refine ⟨rfl, rfl, rfl, ?_, fun b hb _ => ?_⟩
  · show _ ≤ (w.heap ++ os).size
    rw [Array.size_append]
    omega
  · show (w.heap ++ os)[b]? = _
    rw [Array.getElem?_append_left hb]
theorem fi_of_tab {W : World} (h : Lib.TabIs Tryz.prog W "internal/strconv.uint64pow10" .u64 Lib.pow10Tab) : FI W := fun w hk n hn =>
  Calls.mono (Tryz.strconv_FormatInt_10 n hn.1 hn.2 w (tab_keep h hk)) fun e w' ⟨he, k, os, hw⟩ => ⟨_, he, rfl, hw ▸ Kp.grow w k os⟩
theorem fi_of_laid {W : World} (h : laidMetH Tryz.prog Rows.ssaFuelUptoRow.laid W) : FI W := fi_of_tab (tab_of_laid h)
set_option maxRecDepth 100000 in
theorem door_met (os : Os) (args : Array Value) : laidMetH Tryz.prog Rows.ssaFuelUptoRow.laid ((World.doorLaid Tryz.prog 400 os).forCall (fun _ _ => 0) ⟨#[], args, []⟩).memory :=
  laidMetH_of_parts3 (fuel := 8) (laidMet_of_run' 8 (by kernel_rfl) (by kernel_rfl)) (by kernel_rfl) (by kernel_rfl)
theorem door_shaped (os : Os) (args : Array Value) : ((World.doorLaid Tryz.prog 400 os).forCall (fun _ _ => 0) ⟨#[], args, []⟩).Shaped Tryz.prog := World.shaped_of_RefB (by kernel_rfl) (by kernel_rfl)
end Go.Proofs.YtenlcdokaadobaaGreatDoor
