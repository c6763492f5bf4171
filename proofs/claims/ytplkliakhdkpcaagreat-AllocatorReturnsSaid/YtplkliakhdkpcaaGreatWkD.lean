/-
  The walker's own rules, part D: guards, small lemmas that the printed proofs name.
  Conditions: none: plain theorems over whatever program P.
-/
import Derived.Test.YtplkliakhdkpcaaGreatData
set_option linter.unusedVariables false
set_option linter.unusedSimpArgs false
namespace Go.Wk
open Go Go.RowKit
section
variable {P:Program} {n:Nat} {F:Env} {w w':World}
theorem zMp {s:TypeId} {x:Operand} {i b o off:Nat} {fs:Array Field} {f:Field} {z:Nat} (hs:P.underlying s=some (.struct fs)) (hf:fs[i]?=some f) (ho:f.offset=off) (hz:∀ w,(sizeOf f.type).run P w = .ok (z+1) w) (hx:ev n F x = .pointer (some ⟨b,o,none⟩)) :
    Val P n F w (.fieldAddr s x i) (.pointer (some ⟨b,o+off,none⟩)) w:=by
  subst ho
  exact zQj hs hf hz hx
structure Pl (w:World) (D:List Nat) (b o:Nat) (cs:List Value):Prop where
  c:Cells w b o cs
  nd:b ∉ D
  lt:b<w.heap.size
theorem zP2 {t ty:TypeId} {x:Operand} {b j:Nat} {cs:List Value} {v:Value} (ha:∀ w,(isAgg t).run P w = .ok false w) (hx:ev n F x = .pointer (some ⟨b,j,none⟩)) (hb:Blk w b ty cs) (hv:cs[j]?=some v):Val P n F w (.load t x) v w:=by
  refine zKp (o:=0) (j:=j) ha ?_ hb.cells hv
  rw [hx,Nat.zero_add]
theorem zGr {a:Int} (h0:0≤a) (h1:a≤18446744073709551615):IntKind.u64.wrap a=a:=by
  unfold IntKind.wrap
  simp only [IntKind.bits,IntKind.signed,Bool.false_and,Bool.false_eq_true,if_false]
  omega
theorem zSr {a:Int} (h0 : -9223372036854775808≤a) (h1:a≤9223372036854775807):IntKind.i64.wrap a=a:=by
  rw [IntKind.wrap_i64]; omega
end
end Go.Wk
