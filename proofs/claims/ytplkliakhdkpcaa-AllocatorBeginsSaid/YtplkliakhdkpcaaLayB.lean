/-
  The program bears the library's Insert and Delete; elements of lists.
-/
import Derived.Test.YtplkliakhdkpcaaAmX
import Derived.Test.YtplkliakhdkpcaaProg
set_option linter.unusedVariables false
set_option linter.unusedSimpArgs false
namespace Go.Proofs
open Go.Shelf
def Ytplkliakhdkpcaa.layIns_ren : Go.Shelf.Ren := ⟨fun | 21 => 83 | 27 => 98 | 28 => 99 | 35 => 103 | 39 => 105 | n => n, fun | 22 => 22 | 3 => 3 | 4 => 4 | 0 => 0 | n => n, fun | n => n⟩
theorem Ytplkliakhdkpcaa.layIns : Go.Proofs.Lays2.n21 Try.prog Ytplkliakhdkpcaa.layIns_ren := {
 mixed := by kernel_rfl,
 f21 := Try.func83.trans (congrArg some (by kernel_rfl)),
 f27 := Try.func98.trans (congrArg some (by kernel_rfl)),
 f28 := Try.func99.trans (congrArg some (by kernel_rfl)),
 f35 := Try.func103.trans (congrArg some (by kernel_rfl)),
 f39 := Try.func105.trans (congrArg some (by kernel_rfl)),
 t0 := Try.underlying0,
 a0 := Try.isAgg0,
 z0 := Try.sizeOf0,
 v0 := Try.zeroValue0,
 t3 := Try.underlying3,
 a3 := Try.isAgg3,
 z3 := Try.sizeOf3,
 v3 := Try.zeroValue3,
 t4 := Try.underlying4,
 a4 := Try.isAgg4,
 z4 := Try.sizeOf4,
 v4 := Try.zeroValue4,
 t22 := Try.underlying22,
 a22 := Try.isAgg22,
 z22 := Try.sizeOf22,
 v22 := Try.zeroValue22,
 i3 := by kernel_rfl }
def Ytplkliakhdkpcaa.layDel_ren : Go.Shelf.Ren := ⟨fun | 23 => 85 | n => n, fun | 22 => 22 | 3 => 3 | 4 => 4 | 0 => 0 | n => n, fun | n => n⟩
theorem Ytplkliakhdkpcaa.layDel : Go.Proofs.Lays2.n23 Try.prog Ytplkliakhdkpcaa.layDel_ren := {
 mixed := by kernel_rfl,
 f23 := Try.func85.trans (congrArg some (by kernel_rfl)),
 t0 := Try.underlying0,
 a0 := Try.isAgg0,
 z0 := Try.sizeOf0,
 v0 := Try.zeroValue0,
 t3 := Try.underlying3,
 a3 := Try.isAgg3,
 z3 := Try.sizeOf3,
 v3 := Try.zeroValue3,
 t4 := Try.underlying4,
 a4 := Try.isAgg4,
 z4 := Try.sizeOf4,
 v4 := Try.zeroValue4,
 t22 := Try.underlying22,
 a22 := Try.isAgg22,
 z22 := Try.sizeOf22,
 v22 := Try.zeroValue22,
 i3 := by kernel_rfl }
end Go.Proofs
namespace Go.Proofs.Ytplkliakhdkpcaa
open Go Go.RowKit Go.Wk Go.Proofs
theorem insertP {w : World} {g : Option Nat} {v : Value} {xs : List Int} {i vb vc : Nat} {x : Int} (h : OwnR w 3 1 g v (ints xs)) (hl : OwnR w 3 1 (some vb) (.slice (some ⟨vb, 0, none⟩) 1 vc) (ints [x])) (hne : g ≠ some vb) (hi : i ≤ xs.length) (hb : xs.length ≤ 1000000) :
    FnC Try.prog 83 #[v, .int .i64 (i : Int), .slice (some ⟨vb, 0, none⟩) 1 vc] w (InsR 3 w g (xs.take i ++ x :: xs.drop i)) := insert_c layIns h hl hne hi hb
theorem deleteP {w : World} {g : Option Nat} {v : Value} {xs : List Int} {i : Nat} (h : OwnR w 3 1 g v (ints xs)) (hi : i < xs.length) :
    FnC Try.prog 85 #[v, .int .i64 (i : Int), .int .i64 ((i + 1 : Nat) : Int)] w (InsR 3 w g (xs.eraseIdx i)) := delete_c layDel h hi
end Go.Proofs.Ytplkliakhdkpcaa
