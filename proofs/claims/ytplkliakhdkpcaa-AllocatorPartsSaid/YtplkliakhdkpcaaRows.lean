/-
  No cell of these rows narrows 'for every input' (looked for: loops, veiled, ifaces, maps, wideKeys, modest, calm, conditions, laid).
  DERIVED. THE GIVEN ROWS OF THIS SEAT. 5 by the template 'for every input the law returns true; each argument reads behind the call as it read before'; 0 by the template 'total and deterministic' (their statements: YtplkliakhdkpcaaTotals.lean).
  GIVEN WITH THE SEED: the statements are not yours to turn. If you find one false, say at which input.
  Laid BY PROGRAM, IN A SANDBOX (cutbox-rows.mjs): the forced cells as the released guide's own fill.sh prints them over the translation 908fc23bbb65fab7… (all of the seat's roots in one cut). By AI agents, Wed Nov 11 2026. No macro, syntax, notation, axiom, sorry.
-/
import Derived.Test.YtplkliakhdkpcaaChecked
import GoSem.Claim
import GoSem.ClaimJoined
import GoSem.ClaimMapViews
import Derived.JoinedTies
import Derived.KernelRfl
namespace Go.Proofs.Ytplkliakhdkpcaa
/- THE CELL 'sum', in the pinned program and in every row, IS THE sha256 OF THE DUMP (.gsa) THAT YtplkliakhdkpcaaProg.lean LOADS. Nothing in Lean hashes anything: it is a label: what it is worth is what the hold of that sum in a sandbox is worth. -/
noncomputable def Try.pinned : Pinned := { name := "ytplkliakhdkpcaa", sum := "908fc23bbb65fab74de74a7498468492ef7d3d4d6b322373f4ee04e4e34a3035", checked := Try.checked }
namespace Rows
def none {H : Type} : Left H := { results := [], args := [] }

/-- 'estoverslaw17.AllocatorBegins': WHATEVER THE INPUT: true; the input reads as it did. -/
def allocatorBeginsSpec : ChangeSpec := { name := "allocatorBegins", fn := fun _ => fun
  | [d1, d2, d3] => { results := [.lit (.bool true)], args := [d1, d2, d3] }
  | _ => none }
def allocatorBeginsRow : OpenClaim := { program := "ytplkliakhdkpcaa", sum := "908fc23bbb65fab74de74a7498468492ef7d3d4d6b322373f4ee04e4e34a3035", func := "estovers/estoverslaw17.AllocatorBegins", spec := "allocatorBegins", inPlace := ["slices.overlaps[int]"], unfollowed := true, recurses := true, apart := false }
def AllocatorBeginsSaid : Prop := allocatorBeginsRow.holds Try.pinned (OpenSpec.ofChange allocatorBeginsSpec)

/-- ITS FALSE NEIGHBOUR: 'it returns false'. Refute it at one input. -/
def allocatorBeginsWrong : ChangeSpec := { name := "allocatorBegins", fn := fun _ => fun
  | [d1, d2, d3] => { results := [.lit (.bool false)], args := [d1, d2, d3] }
  | _ => none }
def AllocatorBeginsWrongFalsely : Prop := allocatorBeginsRow.holds Try.pinned (OpenSpec.ofChange allocatorBeginsWrong)

/-- 'estoverslaw17.AllocatorParts': WHATEVER THE INPUT: true; the input reads as it did. -/
def allocatorPartsSpec : ChangeSpec := { name := "allocatorParts", fn := fun _ => fun
  | [d1, d2] => { results := [.lit (.bool true)], args := [d1, d2] }
  | _ => none }
def allocatorPartsRow : OpenClaim := { program := "ytplkliakhdkpcaa", sum := "908fc23bbb65fab74de74a7498468492ef7d3d4d6b322373f4ee04e4e34a3035", func := "estovers/estoverslaw17.AllocatorParts", spec := "allocatorParts", inPlace := ["slices.overlaps[int]"], unfollowed := true, recurses := true, apart := false }
def AllocatorPartsSaid : Prop := allocatorPartsRow.holds Try.pinned (OpenSpec.ofChange allocatorPartsSpec)

/-- ITS FALSE NEIGHBOUR: 'it returns false'. Refute it at one input. -/
def allocatorPartsWrong : ChangeSpec := { name := "allocatorParts", fn := fun _ => fun
  | [d1, d2] => { results := [.lit (.bool false)], args := [d1, d2] }
  | _ => none }
def AllocatorPartsWrongFalsely : Prop := allocatorPartsRow.holds Try.pinned (OpenSpec.ofChange allocatorPartsWrong)

/-- 'estoverslaw17.AllocatorRoom': WHATEVER THE INPUT: true; the input reads as it did. -/
def allocatorRoomSpec : ChangeSpec := { name := "allocatorRoom", fn := fun _ => fun
  | [d1, d2, d3] => { results := [.lit (.bool true)], args := [d1, d2, d3] }
  | _ => none }
def allocatorRoomRow : OpenClaim := { program := "ytplkliakhdkpcaa", sum := "908fc23bbb65fab74de74a7498468492ef7d3d4d6b322373f4ee04e4e34a3035", func := "estovers/estoverslaw17.AllocatorRoom", spec := "allocatorRoom", inPlace := ["slices.overlaps[int]"], unfollowed := true, recurses := true, apart := false }
def AllocatorRoomSaid : Prop := allocatorRoomRow.holds Try.pinned (OpenSpec.ofChange allocatorRoomSpec)

/-- ITS FALSE NEIGHBOUR: 'it returns false'. Refute it at one input. -/
def allocatorRoomWrong : ChangeSpec := { name := "allocatorRoom", fn := fun _ => fun
  | [d1, d2, d3] => { results := [.lit (.bool false)], args := [d1, d2, d3] }
  | _ => none }
def AllocatorRoomWrongFalsely : Prop := allocatorRoomRow.holds Try.pinned (OpenSpec.ofChange allocatorRoomWrong)

/-- 'estoverslaw17.AllocatorRefuses': WHATEVER THE INPUT: true; the input reads as it did. -/
def allocatorRefusesSpec : ChangeSpec := { name := "allocatorRefuses", fn := fun _ => fun
  | [d1, d2, d3] => { results := [.lit (.bool true)], args := [d1, d2, d3] }
  | _ => none }
def allocatorRefusesRow : OpenClaim := { program := "ytplkliakhdkpcaa", sum := "908fc23bbb65fab74de74a7498468492ef7d3d4d6b322373f4ee04e4e34a3035", func := "estovers/estoverslaw17.AllocatorRefuses", spec := "allocatorRefuses", inPlace := ["slices.overlaps[int]"], unfollowed := true, recurses := true, apart := false }
def AllocatorRefusesSaid : Prop := allocatorRefusesRow.holds Try.pinned (OpenSpec.ofChange allocatorRefusesSpec)

/-- ITS FALSE NEIGHBOUR: 'it returns false'. Refute it at one input. -/
def allocatorRefusesWrong : ChangeSpec := { name := "allocatorRefuses", fn := fun _ => fun
  | [d1, d2, d3] => { results := [.lit (.bool false)], args := [d1, d2, d3] }
  | _ => none }
def AllocatorRefusesWrongFalsely : Prop := allocatorRefusesRow.holds Try.pinned (OpenSpec.ofChange allocatorRefusesWrong)

/-- 'estoverslaw17.AllocatorBack': WHATEVER THE INPUT: true; the input reads as it did. -/
def allocatorBackSpec : ChangeSpec := { name := "allocatorBack", fn := fun _ => fun
  | [d1, d2, d3] => { results := [.lit (.bool true)], args := [d1, d2, d3] }
  | _ => none }
def allocatorBackRow : OpenClaim := { program := "ytplkliakhdkpcaa", sum := "908fc23bbb65fab74de74a7498468492ef7d3d4d6b322373f4ee04e4e34a3035", func := "estovers/estoverslaw17.AllocatorBack", spec := "allocatorBack", inPlace := ["slices.overlaps[int]"], unfollowed := true, recurses := true, apart := false }
def AllocatorBackSaid : Prop := allocatorBackRow.holds Try.pinned (OpenSpec.ofChange allocatorBackSpec)

/-- ITS FALSE NEIGHBOUR: 'it returns false'. Refute it at one input. -/
def allocatorBackWrong : ChangeSpec := { name := "allocatorBack", fn := fun _ => fun
  | [d1, d2, d3] => { results := [.lit (.bool false)], args := [d1, d2, d3] }
  | _ => none }
def AllocatorBackWrongFalsely : Prop := allocatorBackRow.holds Try.pinned (OpenSpec.ofChange allocatorBackWrong)

/- THE SECOND FORM. 'bulk': how many values and letters a reading holds, each counted each time it is reached (what is shared counts as often as it is met; a slice's spare places count too). A statement '..UptoSaid' is the law's where the arguments, and the package variables that the reading takes, are together of bulk at most 1048576: NARROWER than '..Said'. Prove '..Said' where nothing that the law and all that it calls make is longer than what came in: it says more and counts as full. Else prove '..UptoSaid'. A law counts once. -/
mutual
def uptoBulk {H : Type} : DataW H → Nat
  | .lit (.string bytes) => bytes.length + 1
  | .lit _ => 1
  | .nil => 1
  | .ptr d => uptoBulk d + 1
  | .slice elems spare => uptoBulkAll elems + uptoBulkAll spare + 1
  | .agg parts => uptoBulkAll parts + 1
  | .iface _ d => uptoBulk d + 1
  | .map entries => uptoBulkEntries entries + 1
  | .held _ => 1
def uptoBulkAll {H : Type} : List (DataW H) → Nat
  | [] => 0
  | d :: r => uptoBulk d + uptoBulkAll r
def uptoBulkEntries {H : Type} : List (Lit × DataW H) → Nat
  | [] => 0
  | x :: r => uptoBulkEntry x + uptoBulkEntries r
def uptoBulkEntry {H : Type} : Lit × DataW H → Nat
  | (.string bytes, d) => bytes.length + uptoBulk d + 1
  | (_, d) => uptoBulk d + 1
 end
def uptoSmall : (H : Type) → List (DataW H) → Bool := fun _ ds => decide (uptoBulkAll ds ≤ 1048576)
def OpenSpec.upto (s : _root_.Go.ChangeSpec) : _root_.Go.OpenSpec := { _root_.Go.OpenSpec.ofChange s with cond := some uptoSmall }

/-- 'estoverslaw17.AllocatorBegins', WHERE WHAT IT READS IS OF BULK AT MOST 1048576: true; the input reads as it did. -/
def allocatorBeginsUptoRow : OpenClaim := { program := "ytplkliakhdkpcaa", sum := "908fc23bbb65fab74de74a7498468492ef7d3d4d6b322373f4ee04e4e34a3035", func := "estovers/estoverslaw17.AllocatorBegins", spec := "allocatorBegins", inPlace := ["slices.overlaps[int]"], unfollowed := true, recurses := true, apart := false, narrowed := true }
def AllocatorBeginsUptoSaid : Prop := allocatorBeginsUptoRow.holds Try.pinned (OpenSpec.upto allocatorBeginsSpec)

/-- 'estoverslaw17.AllocatorParts', WHERE WHAT IT READS IS OF BULK AT MOST 1048576: true; the input reads as it did. -/
def allocatorPartsUptoRow : OpenClaim := { program := "ytplkliakhdkpcaa", sum := "908fc23bbb65fab74de74a7498468492ef7d3d4d6b322373f4ee04e4e34a3035", func := "estovers/estoverslaw17.AllocatorParts", spec := "allocatorParts", inPlace := ["slices.overlaps[int]"], unfollowed := true, recurses := true, apart := false, narrowed := true }
def AllocatorPartsUptoSaid : Prop := allocatorPartsUptoRow.holds Try.pinned (OpenSpec.upto allocatorPartsSpec)

/-- 'estoverslaw17.AllocatorRoom', WHERE WHAT IT READS IS OF BULK AT MOST 1048576: true; the input reads as it did. -/
def allocatorRoomUptoRow : OpenClaim := { program := "ytplkliakhdkpcaa", sum := "908fc23bbb65fab74de74a7498468492ef7d3d4d6b322373f4ee04e4e34a3035", func := "estovers/estoverslaw17.AllocatorRoom", spec := "allocatorRoom", inPlace := ["slices.overlaps[int]"], unfollowed := true, recurses := true, apart := false, narrowed := true }
def AllocatorRoomUptoSaid : Prop := allocatorRoomUptoRow.holds Try.pinned (OpenSpec.upto allocatorRoomSpec)

/-- 'estoverslaw17.AllocatorRefuses', WHERE WHAT IT READS IS OF BULK AT MOST 1048576: true; the input reads as it did. -/
def allocatorRefusesUptoRow : OpenClaim := { program := "ytplkliakhdkpcaa", sum := "908fc23bbb65fab74de74a7498468492ef7d3d4d6b322373f4ee04e4e34a3035", func := "estovers/estoverslaw17.AllocatorRefuses", spec := "allocatorRefuses", inPlace := ["slices.overlaps[int]"], unfollowed := true, recurses := true, apart := false, narrowed := true }
def AllocatorRefusesUptoSaid : Prop := allocatorRefusesUptoRow.holds Try.pinned (OpenSpec.upto allocatorRefusesSpec)

/-- 'estoverslaw17.AllocatorBack', WHERE WHAT IT READS IS OF BULK AT MOST 1048576: true; the input reads as it did. -/
def allocatorBackUptoRow : OpenClaim := { program := "ytplkliakhdkpcaa", sum := "908fc23bbb65fab74de74a7498468492ef7d3d4d6b322373f4ee04e4e34a3035", func := "estovers/estoverslaw17.AllocatorBack", spec := "allocatorBack", inPlace := ["slices.overlaps[int]"], unfollowed := true, recurses := true, apart := false, narrowed := true }
def AllocatorBackUptoSaid : Prop := allocatorBackUptoRow.holds Try.pinned (OpenSpec.upto allocatorBackSpec)

end Rows
end Go.Proofs.Ytplkliakhdkpcaa
