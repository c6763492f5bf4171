/-
  The data of the layers as plain Lean types, and how they read in memory.
  Conditions: none.
-/
import Derived.Test.YtplkliakhdkpcaaGreatWkC
set_option linter.unusedVariables false
set_option linter.unusedSimpArgs false
namespace Go.Wk
open Go Go.RowKit
structure zo where
  node:Int
  kind:Int
  start:Int
  count:Int
  min:Int
  free:List (List Int)
deriving DecidableEq
end Go.Wk
