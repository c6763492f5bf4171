/-
  No cell of these rows narrows 'for every input' (looked for: loops, veiled, ifaces, maps, wideKeys, modest, calm, conditions, laid).
  DERIVED. THE GIVEN ROWS OF THIS SEAT. 7 by the template 'for every input the law returns true; each argument reads behind the call as it read before'; 0 by the template 'total and deterministic' (their statements: YtfjeeggbdncodaaGreatTotals.lean).
  GIVEN WITH THE SEED: the statements are not yours to turn. If you find one false, say at which input.
  Laid BY PROGRAM, IN A SANDBOX (cutbox-rows.mjs): the forced cells as the released guide's own fill.sh prints them over the translation f336be1c8df9bff4… (all of the seat's roots in one cut). By AI agents, Wed Nov 11 2026. No macro, syntax, notation, axiom, sorry.
-/
import Derived.Test.YtfjeeggbdncodaaGreatChecked
import GoSem.Claim
import GoSem.ClaimJoined
import GoSem.ClaimMapViews
import Derived.JoinedTies
import Derived.KernelRfl
namespace Go.Proofs.YtfjeeggbdncodaaGreat
/- THE CELL 'sum', in the pinned program and in every row, IS THE sha256 OF THE DUMP (.gsa) THAT YtfjeeggbdncodaaGreatProg.lean LOADS. Nothing in Lean hashes anything: it is a label: what it is worth is what the hold of that sum in a sandbox is worth. -/
noncomputable def Tryz.pinned : Pinned := { name := "ytfjeeggbdncodaagreat", sum := "f336be1c8df9bff4147353ac988026444e49f737ceb11f389305a2ea5525913c", checked := Tryz.checked }
namespace Rows
def none {H : Type} : Left H := { results := [], args := [] }

/-- 'estoverslaw47.BootChecks': WHATEVER THE INPUT: true; the input reads as it did. -/
def bootChecksSpec : ChangeSpec := { name := "bootChecks", fn := fun _ => fun
  | [d] => { results := [.lit (.bool true)], args := [d] }
  | _ => none }
def bootChecksRow : OpenClaim := { program := "ytfjeeggbdncodaagreat", sum := "f336be1c8df9bff4147353ac988026444e49f737ceb11f389305a2ea5525913c", func := "estovers/estoverslaw47.BootChecks", spec := "bootChecks", inPlace := ["internal/bytealg.MakeNoZero", "slices.overlaps[int]"], unfollowed := true, recurses := true, apart := false }
def BootChecksSaid : Prop := bootChecksRow.holds Tryz.pinned (OpenSpec.ofChange bootChecksSpec)

/-- ITS FALSE NEIGHBOUR: 'it returns false'. Refute it at one input. -/
def bootChecksWrong : ChangeSpec := { name := "bootChecks", fn := fun _ => fun
  | [d] => { results := [.lit (.bool false)], args := [d] }
  | _ => none }
def BootChecksWrongFalsely : Prop := bootChecksRow.holds Tryz.pinned (OpenSpec.ofChange bootChecksWrong)

/-- 'estoverslaw47.BootNews': WHATEVER THE INPUT: true; the input reads as it did. -/
def bootNewsSpec : ChangeSpec := { name := "bootNews", fn := fun _ => fun
  | [d] => { results := [.lit (.bool true)], args := [d] }
  | _ => none }
def bootNewsRow : OpenClaim := { program := "ytfjeeggbdncodaagreat", sum := "f336be1c8df9bff4147353ac988026444e49f737ceb11f389305a2ea5525913c", func := "estovers/estoverslaw47.BootNews", spec := "bootNews", inPlace := ["internal/bytealg.MakeNoZero", "slices.overlaps[int]"], unfollowed := true, recurses := true, apart := false }
def BootNewsSaid : Prop := bootNewsRow.holds Tryz.pinned (OpenSpec.ofChange bootNewsSpec)

/-- ITS FALSE NEIGHBOUR: 'it returns false'. Refute it at one input. -/
def bootNewsWrong : ChangeSpec := { name := "bootNews", fn := fun _ => fun
  | [d] => { results := [.lit (.bool false)], args := [d] }
  | _ => none }
def BootNewsWrongFalsely : Prop := bootNewsRow.holds Tryz.pinned (OpenSpec.ofChange bootNewsWrong)

/-- 'estoverslaw47.BootBlocks': WHATEVER THE INPUT: true; the input reads as it did. -/
def bootBlocksSpec : ChangeSpec := { name := "bootBlocks", fn := fun _ => fun
  | [d1, d2, d3] => { results := [.lit (.bool true)], args := [d1, d2, d3] }
  | _ => none }
def bootBlocksRow : OpenClaim := { program := "ytfjeeggbdncodaagreat", sum := "f336be1c8df9bff4147353ac988026444e49f737ceb11f389305a2ea5525913c", func := "estovers/estoverslaw47.BootBlocks", spec := "bootBlocks", inPlace := ["internal/bytealg.MakeNoZero", "slices.overlaps[int]"], unfollowed := true, recurses := true, apart := false }
def BootBlocksSaid : Prop := bootBlocksRow.holds Tryz.pinned (OpenSpec.ofChange bootBlocksSpec)

/-- ITS FALSE NEIGHBOUR: 'it returns false'. Refute it at one input. -/
def bootBlocksWrong : ChangeSpec := { name := "bootBlocks", fn := fun _ => fun
  | [d1, d2, d3] => { results := [.lit (.bool false)], args := [d1, d2, d3] }
  | _ => none }
def BootBlocksWrongFalsely : Prop := bootBlocksRow.holds Tryz.pinned (OpenSpec.ofChange bootBlocksWrong)

/-- 'estoverslaw47.BootApart': WHATEVER THE INPUT: true; the input reads as it did. -/
def bootApartSpec : ChangeSpec := { name := "bootApart", fn := fun _ => fun
  | [d] => { results := [.lit (.bool true)], args := [d] }
  | _ => none }
def bootApartRow : OpenClaim := { program := "ytfjeeggbdncodaagreat", sum := "f336be1c8df9bff4147353ac988026444e49f737ceb11f389305a2ea5525913c", func := "estovers/estoverslaw47.BootApart", spec := "bootApart", inPlace := ["slices.overlaps[int]", "internal/bytealg.MakeNoZero"], unfollowed := true, recurses := true, apart := false }
def BootApartSaid : Prop := bootApartRow.holds Tryz.pinned (OpenSpec.ofChange bootApartSpec)

/-- ITS FALSE NEIGHBOUR: 'it returns false'. Refute it at one input. -/
def bootApartWrong : ChangeSpec := { name := "bootApart", fn := fun _ => fun
  | [d] => { results := [.lit (.bool false)], args := [d] }
  | _ => none }
def BootApartWrongFalsely : Prop := bootApartRow.holds Tryz.pinned (OpenSpec.ofChange bootApartWrong)

/-- 'estoverslaw47.BootOwns': WHATEVER THE INPUT: true; the input reads as it did. -/
def bootOwnsSpec : ChangeSpec := { name := "bootOwns", fn := fun _ => fun
  | [d] => { results := [.lit (.bool true)], args := [d] }
  | _ => none }
def bootOwnsRow : OpenClaim := { program := "ytfjeeggbdncodaagreat", sum := "f336be1c8df9bff4147353ac988026444e49f737ceb11f389305a2ea5525913c", func := "estovers/estoverslaw47.BootOwns", spec := "bootOwns", inPlace := ["slices.overlaps[int]", "internal/bytealg.MakeNoZero"], unfollowed := true, recurses := true, apart := false }
def BootOwnsSaid : Prop := bootOwnsRow.holds Tryz.pinned (OpenSpec.ofChange bootOwnsSpec)

/-- ITS FALSE NEIGHBOUR: 'it returns false'. Refute it at one input. -/
def bootOwnsWrong : ChangeSpec := { name := "bootOwns", fn := fun _ => fun
  | [d] => { results := [.lit (.bool false)], args := [d] }
  | _ => none }
def BootOwnsWrongFalsely : Prop := bootOwnsRow.holds Tryz.pinned (OpenSpec.ofChange bootOwnsWrong)

/-- 'estoverslaw47.BootStores': WHATEVER THE INPUT: true; the input reads as it did. -/
def bootStoresSpec : ChangeSpec := { name := "bootStores", fn := fun _ => fun
  | [d] => { results := [.lit (.bool true)], args := [d] }
  | _ => none }
def bootStoresRow : OpenClaim := { program := "ytfjeeggbdncodaagreat", sum := "f336be1c8df9bff4147353ac988026444e49f737ceb11f389305a2ea5525913c", func := "estovers/estoverslaw47.BootStores", spec := "bootStores", inPlace := ["slices.overlaps[int]", "internal/bytealg.MakeNoZero"], unfollowed := true, recurses := true, apart := false }
def BootStoresSaid : Prop := bootStoresRow.holds Tryz.pinned (OpenSpec.ofChange bootStoresSpec)

/-- ITS FALSE NEIGHBOUR: 'it returns false'. Refute it at one input. -/
def bootStoresWrong : ChangeSpec := { name := "bootStores", fn := fun _ => fun
  | [d] => { results := [.lit (.bool false)], args := [d] }
  | _ => none }
def BootStoresWrongFalsely : Prop := bootStoresRow.holds Tryz.pinned (OpenSpec.ofChange bootStoresWrong)

/-- 'estoverslaw47.BootClones': WHATEVER THE INPUT: true; the input reads as it did. -/
def bootClonesSpec : ChangeSpec := { name := "bootClones", fn := fun _ => fun
  | [d] => { results := [.lit (.bool true)], args := [d] }
  | _ => none }
def bootClonesRow : OpenClaim := { program := "ytfjeeggbdncodaagreat", sum := "f336be1c8df9bff4147353ac988026444e49f737ceb11f389305a2ea5525913c", func := "estovers/estoverslaw47.BootClones", spec := "bootClones", inPlace := ["internal/bytealg.MakeNoZero", "slices.overlaps[int]"], unfollowed := true, recurses := true, apart := false }
def BootClonesSaid : Prop := bootClonesRow.holds Tryz.pinned (OpenSpec.ofChange bootClonesSpec)

/-- ITS FALSE NEIGHBOUR: 'it returns false'. Refute it at one input. -/
def bootClonesWrong : ChangeSpec := { name := "bootClones", fn := fun _ => fun
  | [d] => { results := [.lit (.bool false)], args := [d] }
  | _ => none }
def BootClonesWrongFalsely : Prop := bootClonesRow.holds Tryz.pinned (OpenSpec.ofChange bootClonesWrong)

/- THE SECOND FORM. 'bulk': how many values and letters a reading holds, each counted each time it is reached (what is shared counts as often as it is met; a slice's spare places count too). A statement '..UptoSaid' is the law's where the arguments, and the package variables that the reading takes, are together of bulk at most 1048576: NARROWER than '..Said'. Prove '..Said' where nothing that the law and all that it calls make is longer than what came in: it says more and counts as full. Else prove '..UptoSaid'. A law counts once. -/
mutual
def uptoBulk {H : Type} : DataW H → Nat
  | .lit (.string bytes) => bytes.length + 1
  | .lit _ => 1
  | .nil => 1
  | .ptr d => uptoBulk d + 1
  | .slice elems spare => uptoBulkAll elems + uptoBulkAll spare + 1
  | .agg parts => uptoBulkAll parts + 1
  | .iface _ d => uptoBulk d + 1
  | .map entries => uptoBulkEntries entries + 1
  | .held _ => 1
def uptoBulkAll {H : Type} : List (DataW H) → Nat
  | [] => 0
  | d :: r => uptoBulk d + uptoBulkAll r
def uptoBulkEntries {H : Type} : List (Lit × DataW H) → Nat
  | [] => 0
  | x :: r => uptoBulkEntry x + uptoBulkEntries r
def uptoBulkEntry {H : Type} : Lit × DataW H → Nat
  | (.string bytes, d) => bytes.length + uptoBulk d + 1
  | (_, d) => uptoBulk d + 1
 end
def uptoSmall : (H : Type) → List (DataW H) → Bool := fun _ ds => decide (uptoBulkAll ds ≤ 1048576)
def OpenSpec.upto (s : _root_.Go.ChangeSpec) : _root_.Go.OpenSpec := { _root_.Go.OpenSpec.ofChange s with cond := some uptoSmall }

/-- 'estoverslaw47.BootChecks', WHERE WHAT IT READS IS OF BULK AT MOST 1048576: true; the input reads as it did. -/
def bootChecksUptoRow : OpenClaim := { program := "ytfjeeggbdncodaagreat", sum := "f336be1c8df9bff4147353ac988026444e49f737ceb11f389305a2ea5525913c", func := "estovers/estoverslaw47.BootChecks", spec := "bootChecks", inPlace := ["internal/bytealg.MakeNoZero", "slices.overlaps[int]"], unfollowed := true, recurses := true, apart := false, narrowed := true }
def BootChecksUptoSaid : Prop := bootChecksUptoRow.holds Tryz.pinned (OpenSpec.upto bootChecksSpec)

/-- 'estoverslaw47.BootNews', WHERE WHAT IT READS IS OF BULK AT MOST 1048576: true; the input reads as it did. -/
def bootNewsUptoRow : OpenClaim := { program := "ytfjeeggbdncodaagreat", sum := "f336be1c8df9bff4147353ac988026444e49f737ceb11f389305a2ea5525913c", func := "estovers/estoverslaw47.BootNews", spec := "bootNews", inPlace := ["internal/bytealg.MakeNoZero", "slices.overlaps[int]"], unfollowed := true, recurses := true, apart := false, narrowed := true }
def BootNewsUptoSaid : Prop := bootNewsUptoRow.holds Tryz.pinned (OpenSpec.upto bootNewsSpec)

/-- 'estoverslaw47.BootBlocks', WHERE WHAT IT READS IS OF BULK AT MOST 1048576: true; the input reads as it did. -/
def bootBlocksUptoRow : OpenClaim := { program := "ytfjeeggbdncodaagreat", sum := "f336be1c8df9bff4147353ac988026444e49f737ceb11f389305a2ea5525913c", func := "estovers/estoverslaw47.BootBlocks", spec := "bootBlocks", inPlace := ["internal/bytealg.MakeNoZero", "slices.overlaps[int]"], unfollowed := true, recurses := true, apart := false, narrowed := true }
def BootBlocksUptoSaid : Prop := bootBlocksUptoRow.holds Tryz.pinned (OpenSpec.upto bootBlocksSpec)

/-- 'estoverslaw47.BootApart', WHERE WHAT IT READS IS OF BULK AT MOST 1048576: true; the input reads as it did. -/
def bootApartUptoRow : OpenClaim := { program := "ytfjeeggbdncodaagreat", sum := "f336be1c8df9bff4147353ac988026444e49f737ceb11f389305a2ea5525913c", func := "estovers/estoverslaw47.BootApart", spec := "bootApart", inPlace := ["slices.overlaps[int]", "internal/bytealg.MakeNoZero"], unfollowed := true, recurses := true, apart := false, narrowed := true }
def BootApartUptoSaid : Prop := bootApartUptoRow.holds Tryz.pinned (OpenSpec.upto bootApartSpec)

/-- 'estoverslaw47.BootOwns', WHERE WHAT IT READS IS OF BULK AT MOST 1048576: true; the input reads as it did. -/
def bootOwnsUptoRow : OpenClaim := { program := "ytfjeeggbdncodaagreat", sum := "f336be1c8df9bff4147353ac988026444e49f737ceb11f389305a2ea5525913c", func := "estovers/estoverslaw47.BootOwns", spec := "bootOwns", inPlace := ["slices.overlaps[int]", "internal/bytealg.MakeNoZero"], unfollowed := true, recurses := true, apart := false, narrowed := true }
def BootOwnsUptoSaid : Prop := bootOwnsUptoRow.holds Tryz.pinned (OpenSpec.upto bootOwnsSpec)

/-- 'estoverslaw47.BootStores', WHERE WHAT IT READS IS OF BULK AT MOST 1048576: true; the input reads as it did. -/
def bootStoresUptoRow : OpenClaim := { program := "ytfjeeggbdncodaagreat", sum := "f336be1c8df9bff4147353ac988026444e49f737ceb11f389305a2ea5525913c", func := "estovers/estoverslaw47.BootStores", spec := "bootStores", inPlace := ["slices.overlaps[int]", "internal/bytealg.MakeNoZero"], unfollowed := true, recurses := true, apart := false, narrowed := true }
def BootStoresUptoSaid : Prop := bootStoresUptoRow.holds Tryz.pinned (OpenSpec.upto bootStoresSpec)

/-- 'estoverslaw47.BootClones', WHERE WHAT IT READS IS OF BULK AT MOST 1048576: true; the input reads as it did. -/
def bootClonesUptoRow : OpenClaim := { program := "ytfjeeggbdncodaagreat", sum := "f336be1c8df9bff4147353ac988026444e49f737ceb11f389305a2ea5525913c", func := "estovers/estoverslaw47.BootClones", spec := "bootClones", inPlace := ["internal/bytealg.MakeNoZero", "slices.overlaps[int]"], unfollowed := true, recurses := true, apart := false, narrowed := true }
def BootClonesUptoSaid : Prop := bootClonesUptoRow.holds Tryz.pinned (OpenSpec.upto bootClonesSpec)

end Rows
end Go.Proofs.YtfjeeggbdncodaaGreat
