/-
  The program bears the library's Insert and Delete; elements of lists.
-/
import Derived.Test.YtplkliakhdkpcaaGreatAmX
import Derived.Test.YtplkliakhdkpcaaGreatProg
set_option linter.unusedVariables false
set_option linter.unusedSimpArgs false
namespace Go.Proofs
open Go.Shelf
def YtplkliakhdkpcaaGreat.layIns_ren:Go.Shelf.Ren:=⟨fun | 21=>119 | 27=>141 | 28=>142 | 35=>147 | 39=>149 | n=>n,fun | 22=>22 | 3=>3 | 4=>4 | 0=>0 | n=>n,fun | n=>n⟩
theorem YtplkliakhdkpcaaGreat.layIns:Go.Proofs.Lays2.n21 Tryz.prog YtplkliakhdkpcaaGreat.layIns_ren:={
 mixed:=by kernel_rfl,
 f21:=Tryz.func119.trans (congrArg some (by kernel_rfl)),
 f27:=Tryz.func141.trans (congrArg some (by kernel_rfl)),
 f28:=Tryz.func142.trans (congrArg some (by kernel_rfl)),
 f35:=Tryz.func147.trans (congrArg some (by kernel_rfl)),
 f39:=Tryz.func149.trans (congrArg some (by kernel_rfl)),
 t0:=Tryz.underlying0,
 a0:=Tryz.isAgg0,
 z0:=Tryz.sizeOf0,
 v0:=Tryz.zeroValue0,
 t3:=Tryz.underlying3,
 a3:=Tryz.isAgg3,
 z3:=Tryz.sizeOf3,
 v3:=Tryz.zeroValue3,
 t4:=Tryz.underlying4,
 a4:=Tryz.isAgg4,
 z4:=Tryz.sizeOf4,
 v4:=Tryz.zeroValue4,
 t22:=Tryz.underlying22,
 a22:=Tryz.isAgg22,
 z22:=Tryz.sizeOf22,
 v22:=Tryz.zeroValue22,
 i3:=by kernel_rfl }
def YtplkliakhdkpcaaGreat.layDel_ren:Go.Shelf.Ren:=⟨fun | 23=>130 | n=>n,fun | 22=>22 | 3=>3 | 4=>4 | 0=>0 | n=>n,fun | n=>n⟩
theorem YtplkliakhdkpcaaGreat.layDel:Go.Proofs.Lays2.n23 Tryz.prog YtplkliakhdkpcaaGreat.layDel_ren:={
 mixed:=by kernel_rfl,
 f23:=Tryz.func130.trans (congrArg some (by kernel_rfl)),
 t0:=Tryz.underlying0,
 a0:=Tryz.isAgg0,
 z0:=Tryz.sizeOf0,
 v0:=Tryz.zeroValue0,
 t3:=Tryz.underlying3,
 a3:=Tryz.isAgg3,
 z3:=Tryz.sizeOf3,
 v3:=Tryz.zeroValue3,
 t4:=Tryz.underlying4,
 a4:=Tryz.isAgg4,
 z4:=Tryz.sizeOf4,
 v4:=Tryz.zeroValue4,
 t22:=Tryz.underlying22,
 a22:=Tryz.isAgg22,
 z22:=Tryz.sizeOf22,
 v22:=Tryz.zeroValue22,
 i3:=by kernel_rfl }
end Go.Proofs
namespace Go.Proofs.YtplkliakhdkpcaaGreat
open Go Go.RowKit Go.Wk Go.Proofs
theorem zP3 {w:World} {g:Option Nat} {v:Value} {xs:List Int} {i vb vc:Nat} {x:Int} (h:zJN w 3 1 g v (zL1 xs)) (hl:zJN w 3 1 (some vb) (.slice (some ⟨vb,0,none⟩) 1 vc) (zL1 [x])) (hne:g≠some vb) (hi:i≤xs.length) (hb:xs.length≤1000000) :
    FnC Tryz.prog 119 #[v,.int .i64 (i:Int),.slice (some ⟨vb,0,none⟩) 1 vc] w (zSH 3 w g (xs.take i++x::xs.drop i)):=zRC layIns h hl hne hi hb
theorem zS2 {w:World} {g:Option Nat} {v:Value} {xs:List Int} {i:Nat} (h:zJN w 3 1 g v (zL1 xs)) (hi:i<xs.length) :
    FnC Tryz.prog 130 #[v,.int .i64 (i:Int),.int .i64 ((i+1:Nat):Int)] w (zSH 3 w g (xs.eraseIdx i)):=zRT layDel h hi
end Go.Proofs.YtplkliakhdkpcaaGreat
