/-
  No cell of these rows narrows 'for every input' (looked for: loops, veiled, ifaces, maps, wideKeys, modest, calm, conditions, laid).
  DERIVED. THE GIVEN ROWS OF THIS SEAT. 6 by the template 'for every input the law returns true; each argument reads behind the call as it read before'; 0 by the template 'total and deterministic' (their statements: YtplkliakhdkpcaaGreatTotals.lean).
  GIVEN WITH THE SEED: the statements are not yours to turn. If you find one false, say at which input.
  Laid BY PROGRAM, IN A SANDBOX (cutbox-rows.mjs): the forced cells as the released guide's own fill.sh prints them over the translation 81beb6bd7ed1a7b5… (all of the seat's roots in one cut). By AI agents, Wed Nov 11 2026. No macro, syntax, notation, axiom, sorry.
-/
import Derived.Test.YtplkliakhdkpcaaGreatChecked
import GoSem.Claim
import GoSem.ClaimJoined
import GoSem.ClaimMapViews
import Derived.JoinedTies
import Derived.KernelRfl
namespace Go.Proofs.YtplkliakhdkpcaaGreat
/- THE CELL 'sum', in the pinned program and in every row, IS THE sha256 OF THE DUMP (.gsa) THAT YtplkliakhdkpcaaGreatProg.lean LOADS. Nothing in Lean hashes anything: it is a label: what it is worth is what the hold of that sum in a sandbox is worth. -/
noncomputable def Tryz.pinned : Pinned := { name := "ytplkliakhdkpcaagreat", sum := "81beb6bd7ed1a7b5fce0c6a668afad0e945cdd21b84e85b8061156b1d9d60ef5", checked := Tryz.checked }
namespace Rows
def none {H : Type} : Left H := { results := [], args := [] }

/-- 'estoverslaw17.AllocatorChecks': WHATEVER THE INPUT: true; the input reads as it did. -/
def allocatorChecksSpec : ChangeSpec := { name := "allocatorChecks", fn := fun _ => fun
  | [d1, d2] => { results := [.lit (.bool true)], args := [d1, d2] }
  | _ => none }
def allocatorChecksRow : OpenClaim := { program := "ytplkliakhdkpcaagreat", sum := "81beb6bd7ed1a7b5fce0c6a668afad0e945cdd21b84e85b8061156b1d9d60ef5", func := "estovers/estoverslaw17.AllocatorChecks", spec := "allocatorChecks", inPlace := ["slices.overlaps[int]"], unfollowed := true, recurses := true, apart := false }
def AllocatorChecksSaid : Prop := allocatorChecksRow.holds Tryz.pinned (OpenSpec.ofChange allocatorChecksSpec)

/-- ITS FALSE NEIGHBOUR: 'it returns false'. Refute it at one input. -/
def allocatorChecksWrong : ChangeSpec := { name := "allocatorChecks", fn := fun _ => fun
  | [d1, d2] => { results := [.lit (.bool false)], args := [d1, d2] }
  | _ => none }
def AllocatorChecksWrongFalsely : Prop := allocatorChecksRow.holds Tryz.pinned (OpenSpec.ofChange allocatorChecksWrong)

/-- 'estoverslaw17.AllocatorAllocs': WHATEVER THE INPUT: true; the input reads as it did. -/
def allocatorAllocsSpec : ChangeSpec := { name := "allocatorAllocs", fn := fun _ => fun
  | [d1, d2, d3] => { results := [.lit (.bool true)], args := [d1, d2, d3] }
  | _ => none }
def allocatorAllocsRow : OpenClaim := { program := "ytplkliakhdkpcaagreat", sum := "81beb6bd7ed1a7b5fce0c6a668afad0e945cdd21b84e85b8061156b1d9d60ef5", func := "estovers/estoverslaw17.AllocatorAllocs", spec := "allocatorAllocs", inPlace := ["slices.overlaps[int]"], unfollowed := true, recurses := true, apart := false }
def AllocatorAllocsSaid : Prop := allocatorAllocsRow.holds Tryz.pinned (OpenSpec.ofChange allocatorAllocsSpec)

/-- ITS FALSE NEIGHBOUR: 'it returns false'. Refute it at one input. -/
def allocatorAllocsWrong : ChangeSpec := { name := "allocatorAllocs", fn := fun _ => fun
  | [d1, d2, d3] => { results := [.lit (.bool false)], args := [d1, d2, d3] }
  | _ => none }
def AllocatorAllocsWrongFalsely : Prop := allocatorAllocsRow.holds Tryz.pinned (OpenSpec.ofChange allocatorAllocsWrong)

/-- 'estoverslaw17.AllocatorBlocks': WHATEVER THE INPUT: true; the input reads as it did. -/
def allocatorBlocksSpec : ChangeSpec := { name := "allocatorBlocks", fn := fun _ => fun
  | [d1, d2, d3] => { results := [.lit (.bool true)], args := [d1, d2, d3] }
  | _ => none }
def allocatorBlocksRow : OpenClaim := { program := "ytplkliakhdkpcaagreat", sum := "81beb6bd7ed1a7b5fce0c6a668afad0e945cdd21b84e85b8061156b1d9d60ef5", func := "estovers/estoverslaw17.AllocatorBlocks", spec := "allocatorBlocks", inPlace := ["slices.overlaps[int]"], unfollowed := true, recurses := true, apart := false }
def AllocatorBlocksSaid : Prop := allocatorBlocksRow.holds Tryz.pinned (OpenSpec.ofChange allocatorBlocksSpec)

/-- ITS FALSE NEIGHBOUR: 'it returns false'. Refute it at one input. -/
def allocatorBlocksWrong : ChangeSpec := { name := "allocatorBlocks", fn := fun _ => fun
  | [d1, d2, d3] => { results := [.lit (.bool false)], args := [d1, d2, d3] }
  | _ => none }
def AllocatorBlocksWrongFalsely : Prop := allocatorBlocksRow.holds Tryz.pinned (OpenSpec.ofChange allocatorBlocksWrong)

/-- 'estoverslaw17.AllocatorFrees': WHATEVER THE INPUT: true; the input reads as it did. -/
def allocatorFreesSpec : ChangeSpec := { name := "allocatorFrees", fn := fun _ => fun
  | [d1, d2, d3] => { results := [.lit (.bool true)], args := [d1, d2, d3] }
  | _ => none }
def allocatorFreesRow : OpenClaim := { program := "ytplkliakhdkpcaagreat", sum := "81beb6bd7ed1a7b5fce0c6a668afad0e945cdd21b84e85b8061156b1d9d60ef5", func := "estovers/estoverslaw17.AllocatorFrees", spec := "allocatorFrees", inPlace := ["slices.overlaps[int]"], unfollowed := true, recurses := true, apart := false }
def AllocatorFreesSaid : Prop := allocatorFreesRow.holds Tryz.pinned (OpenSpec.ofChange allocatorFreesSpec)

/-- ITS FALSE NEIGHBOUR: 'it returns false'. Refute it at one input. -/
def allocatorFreesWrong : ChangeSpec := { name := "allocatorFrees", fn := fun _ => fun
  | [d1, d2, d3] => { results := [.lit (.bool false)], args := [d1, d2, d3] }
  | _ => none }
def AllocatorFreesWrongFalsely : Prop := allocatorFreesRow.holds Tryz.pinned (OpenSpec.ofChange allocatorFreesWrong)

/-- 'estoverslaw17.AllocatorReturns': WHATEVER THE INPUT: true; the input reads as it did. -/
def allocatorReturnsSpec : ChangeSpec := { name := "allocatorReturns", fn := fun _ => fun
  | [d1, d2, d3] => { results := [.lit (.bool true)], args := [d1, d2, d3] }
  | _ => none }
def allocatorReturnsRow : OpenClaim := { program := "ytplkliakhdkpcaagreat", sum := "81beb6bd7ed1a7b5fce0c6a668afad0e945cdd21b84e85b8061156b1d9d60ef5", func := "estovers/estoverslaw17.AllocatorReturns", spec := "allocatorReturns", inPlace := ["slices.overlaps[int]"], unfollowed := true, recurses := true, apart := false }
def AllocatorReturnsSaid : Prop := allocatorReturnsRow.holds Tryz.pinned (OpenSpec.ofChange allocatorReturnsSpec)

/-- ITS FALSE NEIGHBOUR: 'it returns false'. Refute it at one input. -/
def allocatorReturnsWrong : ChangeSpec := { name := "allocatorReturns", fn := fun _ => fun
  | [d1, d2, d3] => { results := [.lit (.bool false)], args := [d1, d2, d3] }
  | _ => none }
def AllocatorReturnsWrongFalsely : Prop := allocatorReturnsRow.holds Tryz.pinned (OpenSpec.ofChange allocatorReturnsWrong)

/-- 'estoverslaw17.AllocatorTakes': WHATEVER THE INPUT: true; the input reads as it did. -/
def allocatorTakesSpec : ChangeSpec := { name := "allocatorTakes", fn := fun _ => fun
  | [d1, d2] => { results := [.lit (.bool true)], args := [d1, d2] }
  | _ => none }
def allocatorTakesRow : OpenClaim := { program := "ytplkliakhdkpcaagreat", sum := "81beb6bd7ed1a7b5fce0c6a668afad0e945cdd21b84e85b8061156b1d9d60ef5", func := "estovers/estoverslaw17.AllocatorTakes", spec := "allocatorTakes", inPlace := ["slices.overlaps[int]"], unfollowed := true, recurses := true, apart := false }
def AllocatorTakesSaid : Prop := allocatorTakesRow.holds Tryz.pinned (OpenSpec.ofChange allocatorTakesSpec)

/-- ITS FALSE NEIGHBOUR: 'it returns false'. Refute it at one input. -/
def allocatorTakesWrong : ChangeSpec := { name := "allocatorTakes", fn := fun _ => fun
  | [d1, d2] => { results := [.lit (.bool false)], args := [d1, d2] }
  | _ => none }
def AllocatorTakesWrongFalsely : Prop := allocatorTakesRow.holds Tryz.pinned (OpenSpec.ofChange allocatorTakesWrong)

/- THE SECOND FORM. 'bulk': how many values and letters a reading holds, each counted each time it is reached (what is shared counts as often as it is met; a slice's spare places count too). A statement '..UptoSaid' is the law's where the arguments, and the package variables that the reading takes, are together of bulk at most 1048576: NARROWER than '..Said'. Prove '..Said' where nothing that the law and all that it calls make is longer than what came in: it says more and counts as full. Else prove '..UptoSaid'. A law counts once. -/
mutual
def uptoBulk {H : Type} : DataW H → Nat
  | .lit (.string bytes) => bytes.length + 1
  | .lit _ => 1
  | .nil => 1
  | .ptr d => uptoBulk d + 1
  | .slice elems spare => uptoBulkAll elems + uptoBulkAll spare + 1
  | .agg parts => uptoBulkAll parts + 1
  | .iface _ d => uptoBulk d + 1
  | .map entries => uptoBulkEntries entries + 1
  | .held _ => 1
def uptoBulkAll {H : Type} : List (DataW H) → Nat
  | [] => 0
  | d :: r => uptoBulk d + uptoBulkAll r
def uptoBulkEntries {H : Type} : List (Lit × DataW H) → Nat
  | [] => 0
  | x :: r => uptoBulkEntry x + uptoBulkEntries r
def uptoBulkEntry {H : Type} : Lit × DataW H → Nat
  | (.string bytes, d) => bytes.length + uptoBulk d + 1
  | (_, d) => uptoBulk d + 1
 end
def uptoSmall : (H : Type) → List (DataW H) → Bool := fun _ ds => decide (uptoBulkAll ds ≤ 1048576)
def OpenSpec.upto (s : _root_.Go.ChangeSpec) : _root_.Go.OpenSpec := { _root_.Go.OpenSpec.ofChange s with cond := some uptoSmall }

/-- 'estoverslaw17.AllocatorChecks', WHERE WHAT IT READS IS OF BULK AT MOST 1048576: true; the input reads as it did. -/
def allocatorChecksUptoRow : OpenClaim := { program := "ytplkliakhdkpcaagreat", sum := "81beb6bd7ed1a7b5fce0c6a668afad0e945cdd21b84e85b8061156b1d9d60ef5", func := "estovers/estoverslaw17.AllocatorChecks", spec := "allocatorChecks", inPlace := ["slices.overlaps[int]"], unfollowed := true, recurses := true, apart := false, narrowed := true }
def AllocatorChecksUptoSaid : Prop := allocatorChecksUptoRow.holds Tryz.pinned (OpenSpec.upto allocatorChecksSpec)

/-- 'estoverslaw17.AllocatorAllocs', WHERE WHAT IT READS IS OF BULK AT MOST 1048576: true; the input reads as it did. -/
def allocatorAllocsUptoRow : OpenClaim := { program := "ytplkliakhdkpcaagreat", sum := "81beb6bd7ed1a7b5fce0c6a668afad0e945cdd21b84e85b8061156b1d9d60ef5", func := "estovers/estoverslaw17.AllocatorAllocs", spec := "allocatorAllocs", inPlace := ["slices.overlaps[int]"], unfollowed := true, recurses := true, apart := false, narrowed := true }
def AllocatorAllocsUptoSaid : Prop := allocatorAllocsUptoRow.holds Tryz.pinned (OpenSpec.upto allocatorAllocsSpec)

/-- 'estoverslaw17.AllocatorBlocks', WHERE WHAT IT READS IS OF BULK AT MOST 1048576: true; the input reads as it did. -/
def allocatorBlocksUptoRow : OpenClaim := { program := "ytplkliakhdkpcaagreat", sum := "81beb6bd7ed1a7b5fce0c6a668afad0e945cdd21b84e85b8061156b1d9d60ef5", func := "estovers/estoverslaw17.AllocatorBlocks", spec := "allocatorBlocks", inPlace := ["slices.overlaps[int]"], unfollowed := true, recurses := true, apart := false, narrowed := true }
def AllocatorBlocksUptoSaid : Prop := allocatorBlocksUptoRow.holds Tryz.pinned (OpenSpec.upto allocatorBlocksSpec)

/-- 'estoverslaw17.AllocatorFrees', WHERE WHAT IT READS IS OF BULK AT MOST 1048576: true; the input reads as it did. -/
def allocatorFreesUptoRow : OpenClaim := { program := "ytplkliakhdkpcaagreat", sum := "81beb6bd7ed1a7b5fce0c6a668afad0e945cdd21b84e85b8061156b1d9d60ef5", func := "estovers/estoverslaw17.AllocatorFrees", spec := "allocatorFrees", inPlace := ["slices.overlaps[int]"], unfollowed := true, recurses := true, apart := false, narrowed := true }
def AllocatorFreesUptoSaid : Prop := allocatorFreesUptoRow.holds Tryz.pinned (OpenSpec.upto allocatorFreesSpec)

/-- 'estoverslaw17.AllocatorReturns', WHERE WHAT IT READS IS OF BULK AT MOST 1048576: true; the input reads as it did. -/
def allocatorReturnsUptoRow : OpenClaim := { program := "ytplkliakhdkpcaagreat", sum := "81beb6bd7ed1a7b5fce0c6a668afad0e945cdd21b84e85b8061156b1d9d60ef5", func := "estovers/estoverslaw17.AllocatorReturns", spec := "allocatorReturns", inPlace := ["slices.overlaps[int]"], unfollowed := true, recurses := true, apart := false, narrowed := true }
def AllocatorReturnsUptoSaid : Prop := allocatorReturnsUptoRow.holds Tryz.pinned (OpenSpec.upto allocatorReturnsSpec)

/-- 'estoverslaw17.AllocatorTakes', WHERE WHAT IT READS IS OF BULK AT MOST 1048576: true; the input reads as it did. -/
def allocatorTakesUptoRow : OpenClaim := { program := "ytplkliakhdkpcaagreat", sum := "81beb6bd7ed1a7b5fce0c6a668afad0e945cdd21b84e85b8061156b1d9d60ef5", func := "estovers/estoverslaw17.AllocatorTakes", spec := "allocatorTakes", inPlace := ["slices.overlaps[int]"], unfollowed := true, recurses := true, apart := false, narrowed := true }
def AllocatorTakesUptoSaid : Prop := allocatorTakesUptoRow.holds Tryz.pinned (OpenSpec.upto allocatorTakesSpec)

end Rows
end Go.Proofs.YtplkliakhdkpcaaGreat
