/-
  No cell of these rows narrows 'for every input' (looked for: loops, veiled, ifaces, maps, wideKeys, modest, calm, conditions, laid).
  DERIVED. THE GIVEN ROWS OF THIS SEAT. 4 by the template 'for every input the law returns true; each argument reads behind the call as it read before'; 0 by the template 'total and deterministic' (their statements: YtapkfifoafgklaaTotals.lean).
  GIVEN WITH THE SEED: the statements are not yours to turn. If you find one false, say at which input.
  Laid BY PROGRAM, IN A SANDBOX (cutbox-rows.mjs): the forced cells as the released guide's own fill.sh prints them over the translation 87d6a45569aece86… (all of the seat's roots in one cut). By AI agents, Wed Nov 11 2026. No macro, syntax, notation, axiom, sorry.
-/
import Derived.Test.YtapkfifoafgklaaChecked
import GoSem.Claim
import GoSem.ClaimJoined
import GoSem.ClaimMapViews
import Derived.JoinedTies
import Derived.KernelRfl
namespace Go.Proofs.Ytapkfifoafgklaa
/- THE CELL 'sum', in the pinned program and in every row, IS THE sha256 OF THE DUMP (.gsa) THAT YtapkfifoafgklaaProg.lean LOADS. Nothing in Lean hashes anything: it is a label: what it is worth is what the hold of that sum in a sandbox is worth. -/
noncomputable def Try.pinned : Pinned := { name := "ytapkfifoafgklaa", sum := "87d6a45569aece86284fa8562100f5395710ca97a6bf70fb735f84e3c034272c", checked := Try.checked }
namespace Rows
def none {H : Type} : Left H := { results := [], args := [] }

/-- 'marquetrylaw02.HeapDoes': WHATEVER THE INPUT: true; the input reads as it did. -/
def heapDoesSpec : ChangeSpec := { name := "heapDoes", fn := fun _ => fun
  | [d1, d2] => { results := [.lit (.bool true)], args := [d1, d2] }
  | _ => none }
def heapDoesRow : OpenClaim := { program := "ytapkfifoafgklaa", sum := "87d6a45569aece86284fa8562100f5395710ca97a6bf70fb735f84e3c034272c", func := "marquetry/marquetrylaw02.HeapDoes", spec := "heapDoes", inPlace := ["slices.overlaps[marquetry/heap.run]"], unfollowed := true, recurses := true, apart := false }
def HeapDoesSaid : Prop := heapDoesRow.holds Try.pinned (OpenSpec.ofChange heapDoesSpec)

/-- ITS FALSE NEIGHBOUR: 'it returns false'. Refute it at one input. -/
def heapDoesWrong : ChangeSpec := { name := "heapDoes", fn := fun _ => fun
  | [d1, d2] => { results := [.lit (.bool false)], args := [d1, d2] }
  | _ => none }
def HeapDoesWrongFalsely : Prop := heapDoesRow.holds Try.pinned (OpenSpec.ofChange heapDoesWrong)

/-- 'marquetrylaw02.HeapApart': WHATEVER THE INPUT: true; the input reads as it did. -/
def heapApartSpec : ChangeSpec := { name := "heapApart", fn := fun _ => fun
  | [d1, d2] => { results := [.lit (.bool true)], args := [d1, d2] }
  | _ => none }
def heapApartRow : OpenClaim := { program := "ytapkfifoafgklaa", sum := "87d6a45569aece86284fa8562100f5395710ca97a6bf70fb735f84e3c034272c", func := "marquetry/marquetrylaw02.HeapApart", spec := "heapApart", inPlace := ["slices.overlaps[marquetry/heap.run]"], unfollowed := true, recurses := true, apart := false }
def HeapApartSaid : Prop := heapApartRow.holds Try.pinned (OpenSpec.ofChange heapApartSpec)

/-- ITS FALSE NEIGHBOUR: 'it returns false'. Refute it at one input. -/
def heapApartWrong : ChangeSpec := { name := "heapApart", fn := fun _ => fun
  | [d1, d2] => { results := [.lit (.bool false)], args := [d1, d2] }
  | _ => none }
def HeapApartWrongFalsely : Prop := heapApartRow.holds Try.pinned (OpenSpec.ofChange heapApartWrong)

/-- 'marquetrylaw02.HeapRoom': WHATEVER THE INPUT: true; the input reads as it did. -/
def heapRoomSpec : ChangeSpec := { name := "heapRoom", fn := fun _ => fun
  | [d1, d2] => { results := [.lit (.bool true)], args := [d1, d2] }
  | _ => none }
def heapRoomRow : OpenClaim := { program := "ytapkfifoafgklaa", sum := "87d6a45569aece86284fa8562100f5395710ca97a6bf70fb735f84e3c034272c", func := "marquetry/marquetrylaw02.HeapRoom", spec := "heapRoom", inPlace := ["slices.overlaps[marquetry/heap.run]"], unfollowed := true, recurses := true, apart := false }
def HeapRoomSaid : Prop := heapRoomRow.holds Try.pinned (OpenSpec.ofChange heapRoomSpec)

/-- ITS FALSE NEIGHBOUR: 'it returns false'. Refute it at one input. -/
def heapRoomWrong : ChangeSpec := { name := "heapRoom", fn := fun _ => fun
  | [d1, d2] => { results := [.lit (.bool false)], args := [d1, d2] }
  | _ => none }
def HeapRoomWrongFalsely : Prop := heapRoomRow.holds Try.pinned (OpenSpec.ofChange heapRoomWrong)

/-- 'marquetrylaw02.HeapFits': WHATEVER THE INPUT: true; the input reads as it did. -/
def heapFitsSpec : ChangeSpec := { name := "heapFits", fn := fun _ => fun
  | [d1, d2, d3] => { results := [.lit (.bool true)], args := [d1, d2, d3] }
  | _ => none }
def heapFitsRow : OpenClaim := { program := "ytapkfifoafgklaa", sum := "87d6a45569aece86284fa8562100f5395710ca97a6bf70fb735f84e3c034272c", func := "marquetry/marquetrylaw02.HeapFits", spec := "heapFits", inPlace := ["slices.overlaps[marquetry/heap.run]"], unfollowed := true, recurses := true, apart := false }
def HeapFitsSaid : Prop := heapFitsRow.holds Try.pinned (OpenSpec.ofChange heapFitsSpec)

/-- ITS FALSE NEIGHBOUR: 'it returns false'. Refute it at one input. -/
def heapFitsWrong : ChangeSpec := { name := "heapFits", fn := fun _ => fun
  | [d1, d2, d3] => { results := [.lit (.bool false)], args := [d1, d2, d3] }
  | _ => none }
def HeapFitsWrongFalsely : Prop := heapFitsRow.holds Try.pinned (OpenSpec.ofChange heapFitsWrong)

/- THE SECOND FORM. 'bulk': how many values and letters a reading holds, each counted each time it is reached (what is shared counts as often as it is met; a slice's spare places count too). A statement '..UptoSaid' is the law's where the arguments, and the package variables that the reading takes, are together of bulk at most 1048576: NARROWER than '..Said'. Prove '..Said' where nothing that the law and all that it calls make is longer than what came in: it says more and counts as full. Else prove '..UptoSaid'. A law counts once. -/
mutual
def uptoBulk {H : Type} : DataW H → Nat
  | .lit (.string bytes) => bytes.length + 1
  | .lit _ => 1
  | .nil => 1
  | .ptr d => uptoBulk d + 1
  | .slice elems spare => uptoBulkAll elems + uptoBulkAll spare + 1
  | .agg parts => uptoBulkAll parts + 1
  | .iface _ d => uptoBulk d + 1
  | .map entries => uptoBulkEntries entries + 1
  | .held _ => 1
def uptoBulkAll {H : Type} : List (DataW H) → Nat
  | [] => 0
  | d :: r => uptoBulk d + uptoBulkAll r
def uptoBulkEntries {H : Type} : List (Lit × DataW H) → Nat
  | [] => 0
  | x :: r => uptoBulkEntry x + uptoBulkEntries r
def uptoBulkEntry {H : Type} : Lit × DataW H → Nat
  | (.string bytes, d) => bytes.length + uptoBulk d + 1
  | (_, d) => uptoBulk d + 1
 end
def uptoSmall : (H : Type) → List (DataW H) → Bool := fun _ ds => decide (uptoBulkAll ds ≤ 1048576)
def OpenSpec.upto (s : _root_.Go.ChangeSpec) : _root_.Go.OpenSpec := { _root_.Go.OpenSpec.ofChange s with cond := some uptoSmall }

/-- 'marquetrylaw02.HeapDoes', WHERE WHAT IT READS IS OF BULK AT MOST 1048576: true; the input reads as it did. -/
def heapDoesUptoRow : OpenClaim := { program := "ytapkfifoafgklaa", sum := "87d6a45569aece86284fa8562100f5395710ca97a6bf70fb735f84e3c034272c", func := "marquetry/marquetrylaw02.HeapDoes", spec := "heapDoes", inPlace := ["slices.overlaps[marquetry/heap.run]"], unfollowed := true, recurses := true, apart := false, narrowed := true }
def HeapDoesUptoSaid : Prop := heapDoesUptoRow.holds Try.pinned (OpenSpec.upto heapDoesSpec)

/-- 'marquetrylaw02.HeapApart', WHERE WHAT IT READS IS OF BULK AT MOST 1048576: true; the input reads as it did. -/
def heapApartUptoRow : OpenClaim := { program := "ytapkfifoafgklaa", sum := "87d6a45569aece86284fa8562100f5395710ca97a6bf70fb735f84e3c034272c", func := "marquetry/marquetrylaw02.HeapApart", spec := "heapApart", inPlace := ["slices.overlaps[marquetry/heap.run]"], unfollowed := true, recurses := true, apart := false, narrowed := true }
def HeapApartUptoSaid : Prop := heapApartUptoRow.holds Try.pinned (OpenSpec.upto heapApartSpec)

/-- 'marquetrylaw02.HeapRoom', WHERE WHAT IT READS IS OF BULK AT MOST 1048576: true; the input reads as it did. -/
def heapRoomUptoRow : OpenClaim := { program := "ytapkfifoafgklaa", sum := "87d6a45569aece86284fa8562100f5395710ca97a6bf70fb735f84e3c034272c", func := "marquetry/marquetrylaw02.HeapRoom", spec := "heapRoom", inPlace := ["slices.overlaps[marquetry/heap.run]"], unfollowed := true, recurses := true, apart := false, narrowed := true }
def HeapRoomUptoSaid : Prop := heapRoomUptoRow.holds Try.pinned (OpenSpec.upto heapRoomSpec)

/-- 'marquetrylaw02.HeapFits', WHERE WHAT IT READS IS OF BULK AT MOST 1048576: true; the input reads as it did. -/
def heapFitsUptoRow : OpenClaim := { program := "ytapkfifoafgklaa", sum := "87d6a45569aece86284fa8562100f5395710ca97a6bf70fb735f84e3c034272c", func := "marquetry/marquetrylaw02.HeapFits", spec := "heapFits", inPlace := ["slices.overlaps[marquetry/heap.run]"], unfollowed := true, recurses := true, apart := false, narrowed := true }
def HeapFitsUptoSaid : Prop := heapFitsUptoRow.holds Try.pinned (OpenSpec.upto heapFitsSpec)

end Rows
end Go.Proofs.Ytapkfifoafgklaa
