/-
  No cell of these rows narrows 'for every input' (looked for: loops, veiled, ifaces, maps, wideKeys, modest, calm, conditions, laid).
  DERIVED. THE GIVEN ROWS OF THIS SEAT. 5 by the template 'for every input the law returns true; each argument reads behind the call as it read before'; 0 by the template 'total and deterministic' (their statements: YtdfhajdejlhamaaTotals.lean).
  GIVEN WITH THE SEED: the statements are not yours to turn. If you find one false, say at which input.
  Laid BY PROGRAM, IN A SANDBOX (cutbox-rows.mjs): the forced cells as the released guide's own fill.sh prints them over the translation 02ce62072df192de… (all of the seat's roots in one cut). By AI agents, Wed Nov 11 2026. No macro, syntax, notation, axiom, sorry.
-/
import Derived.Test.YtdfhajdejlhamaaChecked
import GoSem.Claim
import GoSem.ClaimJoined
import GoSem.ClaimMapViews
import Derived.JoinedTies
import Derived.KernelRfl
namespace Go.Proofs.Ytdfhajdejlhamaa
/- THE CELL 'sum', in the pinned program and in every row, IS THE sha256 OF THE DUMP (.gsa) THAT YtdfhajdejlhamaaProg.lean LOADS. Nothing in Lean hashes anything: it is a label: what it is worth is what the hold of that sum in a sandbox is worth. -/
noncomputable def Try.pinned : Pinned := { name := "ytdfhajdejlhamaa", sum := "02ce62072df192de3795357ea92a4cba697041182916bf68fcee59584d5fba6b", checked := Try.checked }
namespace Rows
def none {H : Type} : Left H := { results := [], args := [] }

/-- 'marquetrylaw04.StoreDoes': WHATEVER THE INPUT: true; the input reads as it did. -/
def storeDoesSpec : ChangeSpec := { name := "storeDoes", fn := fun _ => fun
  | [d1, d2] => { results := [.lit (.bool true)], args := [d1, d2] }
  | _ => none }
def storeDoesRow : OpenClaim := { program := "ytdfhajdejlhamaa", sum := "02ce62072df192de3795357ea92a4cba697041182916bf68fcee59584d5fba6b", func := "marquetry/marquetrylaw04.StoreDoes", spec := "storeDoes", inPlace := ["slices.overlaps[int]", "slices.overlaps[marquetry/heap.run]"], unfollowed := true, recurses := true, apart := false }
def StoreDoesSaid : Prop := storeDoesRow.holds Try.pinned (OpenSpec.ofChange storeDoesSpec)

/-- ITS FALSE NEIGHBOUR: 'it returns false'. Refute it at one input. -/
def storeDoesWrong : ChangeSpec := { name := "storeDoes", fn := fun _ => fun
  | [d1, d2] => { results := [.lit (.bool false)], args := [d1, d2] }
  | _ => none }
def StoreDoesWrongFalsely : Prop := storeDoesRow.holds Try.pinned (OpenSpec.ofChange storeDoesWrong)

/-- 'marquetrylaw04.StoreFull': WHATEVER THE INPUT: true; the input reads as it did. -/
def storeFullSpec : ChangeSpec := { name := "storeFull", fn := fun _ => fun
  | [d1, d2, d3] => { results := [.lit (.bool true)], args := [d1, d2, d3] }
  | _ => none }
def storeFullRow : OpenClaim := { program := "ytdfhajdejlhamaa", sum := "02ce62072df192de3795357ea92a4cba697041182916bf68fcee59584d5fba6b", func := "marquetry/marquetrylaw04.StoreFull", spec := "storeFull", inPlace := ["slices.overlaps[int]", "slices.overlaps[marquetry/heap.run]"], unfollowed := true, recurses := true, apart := false }
def StoreFullSaid : Prop := storeFullRow.holds Try.pinned (OpenSpec.ofChange storeFullSpec)

/-- ITS FALSE NEIGHBOUR: 'it returns false'. Refute it at one input. -/
def storeFullWrong : ChangeSpec := { name := "storeFull", fn := fun _ => fun
  | [d1, d2, d3] => { results := [.lit (.bool false)], args := [d1, d2, d3] }
  | _ => none }
def StoreFullWrongFalsely : Prop := storeFullRow.holds Try.pinned (OpenSpec.ofChange storeFullWrong)

/-- 'marquetrylaw04.StoreTexts': WHATEVER THE INPUT: true; the input reads as it did. -/
def storeTextsSpec : ChangeSpec := { name := "storeTexts", fn := fun _ => fun
  | [d1, d2, d3] => { results := [.lit (.bool true)], args := [d1, d2, d3] }
  | _ => none }
def storeTextsRow : OpenClaim := { program := "ytdfhajdejlhamaa", sum := "02ce62072df192de3795357ea92a4cba697041182916bf68fcee59584d5fba6b", func := "marquetry/marquetrylaw04.StoreTexts", spec := "storeTexts", inPlace := ["slices.overlaps[int]", "slices.overlaps[marquetry/heap.run]"], unfollowed := true, recurses := true, apart := false }
def StoreTextsSaid : Prop := storeTextsRow.holds Try.pinned (OpenSpec.ofChange storeTextsSpec)

/-- ITS FALSE NEIGHBOUR: 'it returns false'. Refute it at one input. -/
def storeTextsWrong : ChangeSpec := { name := "storeTexts", fn := fun _ => fun
  | [d1, d2, d3] => { results := [.lit (.bool false)], args := [d1, d2, d3] }
  | _ => none }
def StoreTextsWrongFalsely : Prop := storeTextsRow.holds Try.pinned (OpenSpec.ofChange storeTextsWrong)

/-- 'marquetrylaw04.StoreCycles': WHATEVER THE INPUT: true; the input reads as it did. -/
def storeCyclesSpec : ChangeSpec := { name := "storeCycles", fn := fun _ => fun
  | [d1, d2] => { results := [.lit (.bool true)], args := [d1, d2] }
  | _ => none }
def storeCyclesRow : OpenClaim := { program := "ytdfhajdejlhamaa", sum := "02ce62072df192de3795357ea92a4cba697041182916bf68fcee59584d5fba6b", func := "marquetry/marquetrylaw04.StoreCycles", spec := "storeCycles", inPlace := ["slices.overlaps[int]", "slices.overlaps[marquetry/heap.run]"], unfollowed := true, recurses := true, apart := false }
def StoreCyclesSaid : Prop := storeCyclesRow.holds Try.pinned (OpenSpec.ofChange storeCyclesSpec)

/-- ITS FALSE NEIGHBOUR: 'it returns false'. Refute it at one input. -/
def storeCyclesWrong : ChangeSpec := { name := "storeCycles", fn := fun _ => fun
  | [d1, d2] => { results := [.lit (.bool false)], args := [d1, d2] }
  | _ => none }
def StoreCyclesWrongFalsely : Prop := storeCyclesRow.holds Try.pinned (OpenSpec.ofChange storeCyclesWrong)

/-- 'marquetrylaw04.StoreSame': WHATEVER THE INPUT: true; the input reads as it did. -/
def storeSameSpec : ChangeSpec := { name := "storeSame", fn := fun _ => fun
  | [d1, d2] => { results := [.lit (.bool true)], args := [d1, d2] }
  | _ => none }
def storeSameRow : OpenClaim := { program := "ytdfhajdejlhamaa", sum := "02ce62072df192de3795357ea92a4cba697041182916bf68fcee59584d5fba6b", func := "marquetry/marquetrylaw04.StoreSame", spec := "storeSame", inPlace := ["slices.overlaps[int]", "slices.overlaps[marquetry/heap.run]"], unfollowed := true, recurses := true, apart := false }
def StoreSameSaid : Prop := storeSameRow.holds Try.pinned (OpenSpec.ofChange storeSameSpec)

/-- ITS FALSE NEIGHBOUR: 'it returns false'. Refute it at one input. -/
def storeSameWrong : ChangeSpec := { name := "storeSame", fn := fun _ => fun
  | [d1, d2] => { results := [.lit (.bool false)], args := [d1, d2] }
  | _ => none }
def StoreSameWrongFalsely : Prop := storeSameRow.holds Try.pinned (OpenSpec.ofChange storeSameWrong)

/- THE SECOND FORM. 'bulk': how many values and letters a reading holds, each counted each time it is reached (what is shared counts as often as it is met; a slice's spare places count too). A statement '..UptoSaid' is the law's where the arguments, and the package variables that the reading takes, are together of bulk at most 1048576: NARROWER than '..Said'. Prove '..Said' where nothing that the law and all that it calls make is longer than what came in: it says more and counts as full. Else prove '..UptoSaid'. A law counts once. -/
mutual
def uptoBulk {H : Type} : DataW H → Nat
  | .lit (.string bytes) => bytes.length + 1
  | .lit _ => 1
  | .nil => 1
  | .ptr d => uptoBulk d + 1
  | .slice elems spare => uptoBulkAll elems + uptoBulkAll spare + 1
  | .agg parts => uptoBulkAll parts + 1
  | .iface _ d => uptoBulk d + 1
  | .map entries => uptoBulkEntries entries + 1
  | .held _ => 1
def uptoBulkAll {H : Type} : List (DataW H) → Nat
  | [] => 0
  | d :: r => uptoBulk d + uptoBulkAll r
def uptoBulkEntries {H : Type} : List (Lit × DataW H) → Nat
  | [] => 0
  | x :: r => uptoBulkEntry x + uptoBulkEntries r
def uptoBulkEntry {H : Type} : Lit × DataW H → Nat
  | (.string bytes, d) => bytes.length + uptoBulk d + 1
  | (_, d) => uptoBulk d + 1
 end
def uptoSmall : (H : Type) → List (DataW H) → Bool := fun _ ds => decide (uptoBulkAll ds ≤ 1048576)
def OpenSpec.upto (s : _root_.Go.ChangeSpec) : _root_.Go.OpenSpec := { _root_.Go.OpenSpec.ofChange s with cond := some uptoSmall }

/-- 'marquetrylaw04.StoreDoes', WHERE WHAT IT READS IS OF BULK AT MOST 1048576: true; the input reads as it did. -/
def storeDoesUptoRow : OpenClaim := { program := "ytdfhajdejlhamaa", sum := "02ce62072df192de3795357ea92a4cba697041182916bf68fcee59584d5fba6b", func := "marquetry/marquetrylaw04.StoreDoes", spec := "storeDoes", inPlace := ["slices.overlaps[int]", "slices.overlaps[marquetry/heap.run]"], unfollowed := true, recurses := true, apart := false, narrowed := true }
def StoreDoesUptoSaid : Prop := storeDoesUptoRow.holds Try.pinned (OpenSpec.upto storeDoesSpec)

/-- 'marquetrylaw04.StoreFull', WHERE WHAT IT READS IS OF BULK AT MOST 1048576: true; the input reads as it did. -/
def storeFullUptoRow : OpenClaim := { program := "ytdfhajdejlhamaa", sum := "02ce62072df192de3795357ea92a4cba697041182916bf68fcee59584d5fba6b", func := "marquetry/marquetrylaw04.StoreFull", spec := "storeFull", inPlace := ["slices.overlaps[int]", "slices.overlaps[marquetry/heap.run]"], unfollowed := true, recurses := true, apart := false, narrowed := true }
def StoreFullUptoSaid : Prop := storeFullUptoRow.holds Try.pinned (OpenSpec.upto storeFullSpec)

/-- 'marquetrylaw04.StoreTexts', WHERE WHAT IT READS IS OF BULK AT MOST 1048576: true; the input reads as it did. -/
def storeTextsUptoRow : OpenClaim := { program := "ytdfhajdejlhamaa", sum := "02ce62072df192de3795357ea92a4cba697041182916bf68fcee59584d5fba6b", func := "marquetry/marquetrylaw04.StoreTexts", spec := "storeTexts", inPlace := ["slices.overlaps[int]", "slices.overlaps[marquetry/heap.run]"], unfollowed := true, recurses := true, apart := false, narrowed := true }
def StoreTextsUptoSaid : Prop := storeTextsUptoRow.holds Try.pinned (OpenSpec.upto storeTextsSpec)

/-- 'marquetrylaw04.StoreCycles', WHERE WHAT IT READS IS OF BULK AT MOST 1048576: true; the input reads as it did. -/
def storeCyclesUptoRow : OpenClaim := { program := "ytdfhajdejlhamaa", sum := "02ce62072df192de3795357ea92a4cba697041182916bf68fcee59584d5fba6b", func := "marquetry/marquetrylaw04.StoreCycles", spec := "storeCycles", inPlace := ["slices.overlaps[int]", "slices.overlaps[marquetry/heap.run]"], unfollowed := true, recurses := true, apart := false, narrowed := true }
def StoreCyclesUptoSaid : Prop := storeCyclesUptoRow.holds Try.pinned (OpenSpec.upto storeCyclesSpec)

/-- 'marquetrylaw04.StoreSame', WHERE WHAT IT READS IS OF BULK AT MOST 1048576: true; the input reads as it did. -/
def storeSameUptoRow : OpenClaim := { program := "ytdfhajdejlhamaa", sum := "02ce62072df192de3795357ea92a4cba697041182916bf68fcee59584d5fba6b", func := "marquetry/marquetrylaw04.StoreSame", spec := "storeSame", inPlace := ["slices.overlaps[int]", "slices.overlaps[marquetry/heap.run]"], unfollowed := true, recurses := true, apart := false, narrowed := true }
def StoreSameUptoSaid : Prop := storeSameUptoRow.holds Try.pinned (OpenSpec.upto storeSameSpec)

end Rows
end Go.Proofs.Ytdfhajdejlhamaa
