/-
  The statement BootBlocks: the configuration's law, of whatever arguments.
-/
import Derived.Test.YtfjeeggbdncodaaGreatGc
import Derived.ProofKit
import Derived.SizedLaws
import Derived.Deep.Slices
import Derived.OpenShut
import Derived.Test.YtfjeeggbdncodaaGreatRows
set_option linter.unusedVariables false
set_option linter.constructorNameAsVariable false
set_option linter.unusedSimpArgs false
namespace Go.Bo
open Go Go.Hm Go.Ls Go.Proofs
abbrev ty148 : U := (.pair (.int .i64) (.pair (.int .i64) .un))
abbrev ty145 : U := (.pair (.int .i64) (.pair (.int .i64) ty148))
abbrev ty70 : U := (.pair (.int .i64) ty145)
abbrev ty25 : U := (.list ty70)
abbrev ty23 : U := (.list ty145)
abbrev ty68 : U := (.pair (.int .i64) (.pair (.list (.int .u8)) .un))
abbrev ty24 : U := (.list ty68)
abbrev ty73 : U := (.pair (.int .i64) ty70)
abbrev ty151 : U := (.pair (.int .i64) (.pair (.int .i64) ty73))
abbrev ty72 : U := (.list ty151)
abbrev ty98 : U := (.pair (.int .i64) (.pair ty72 .un))
abbrev ty26 : U := (.list ty98)
abbrev ty27 : U := (.pair (.list (.int .i64)) (.pair ty23 (.pair (.int .i64) (.pair (.int .i64) (.pair (.int .i64) (.pair (.int .i64) (.pair (.int .i64) (.pair (.int .i64) (.pair (.int .i64) (.pair (.int .i64) (.pair ty24 (.pair ty25 (.pair ty26 .un)))))))))))))
abbrev ty312 : U := (.pair ty151 (.pair ty151 .un))
noncomputable def hiBc : Tr (Tr (List Hi)) := ((((Tr.e).set 182 (((Tr.e).set 0 []).set 1 [.keep 0, .keep 1, .keep 7, .val 8 (.int .i64)])).set 106 (Tr.e)).set 179 (Tr.e)).set 107 (Tr.e)
/-- estoverslaw47.few -/
noncomputable def F10 (x : D (.pair ty27 .un)) : Option (D (.pair .bool .un)) := (cnd (ltI 20 (lenL x.1.1)) (some (false, ())) (cnd (ltI 20 (lenL x.1.2.1)) (some (false, ())) (cnd (ltI 20 (lenL x.1.2.2.2.2.2.2.2.2.2.2.1)) (some (false, ())) (cnd (ltI 20 (lenL x.1.2.2.2.2.2.2.2.2.2.2.2.1)) (some (false, ())) (cnd (ltI 20 (lenL x.1.2.2.2.2.2.2.2.2.2.2.2.2.1)) (some (false, ())) (bndS (loopS (fun d0 => (cnd (ltI d0.1 (lenL x.1.2.2.2.2.2.2.2.2.2.2.1)) (bnd (atL x.1.2.2.2.2.2.2.2.2.2.2.1 d0.1) (fun x1 => (cnd (ltI 1000 (lenL x1.2.1)) (inR (inR (some (false, ())))) (some (.inl ((addI .i64 d0.1 1), ())))))) (inR (some (.inl ()))))) 1000000000 (0, ())) (fun x2 => (bndS (loopS (fun d3 => (cnd (ltI d3.1 (lenL x.1.2.2.2.2.2.2.2.2.2.2.2.2.1)) (bnd (atL x.1.2.2.2.2.2.2.2.2.2.2.2.2.1 d3.1) (fun x4 => (cnd (ltI 100 (lenL x4.2.1)) (inR (inR (some (false, ())))) (some (.inl ((addI .i64 d3.1 1), ())))))) (inR (some (.inl ()))))) 1000000000 (0, ())) (fun x5 => (some (true, ())))))))))))
theorem x10 (x : D (.pair ty27 .un)) : fnS (cyF ct0 hiBc) 1000 (.pair ty27 .un) (.pair .bool .un) (((((Tr.e).set 0 [.keep 1]).set 1 [.keep 1, .keep 36, .keep 37, .val 38 (.int .i64)]).set 4 []).set 5 [.keep 48, .keep 49, .val 50 (.int .i64)]) Tryz.f10 x = F10 x := by kernel_rfl
theorem n10 : cxC.fn.get 10 = some Tryz.f10 := by kernel_rfl
theorem e10 : cxC.ext.get 10 = none := by kernel_rfl
noncomputable def ct10 : Tr Con := (ct0).set 10 ⟨(.pair ty27 .un), (.pair .bool .un), F10⟩
theorem k10 : CtOk ct10 := ct_set k0 (con_ok (cy := cyF ct0 hiBc) k0 n10 e10 x10)
/-- boot.within -/
noncomputable def F42 (x : D (.pair (.int .i64) ty148)) : Option (D (.pair .bool .un)) := (cnd (leI x.2.1 x.1) (some ((leI x.1 x.2.2.1), ())) (some (false, ())))
theorem x42 (x : D (.pair (.int .i64) ty148)) : fnS (cyF ct10 hiBc) 1000 (.pair (.int .i64) ty148) (.pair .bool .un) (Tr.e) Tryz.f42 x = F42 x := by kernel_rfl
theorem n42 : cxC.fn.get 42 = some Tryz.f42 := by kernel_rfl
theorem e42 : cxC.ext.get 42 = none := by kernel_rfl
noncomputable def ct42 : Tr Con := (ct10).set 42 ⟨(.pair (.int .i64) ty148), (.pair .bool .un), F42⟩
theorem k42 : CtOk ct42 := ct_set k10 (con_ok (cy := cyF ct10 hiBc) k10 n42 e42 x42)
/-- boot.processors -/
noncomputable def F30 (x : D (.pair ty27 .un)) : Option (D (.pair (.int .i64) .un)) := (bnd (F42 ((lenL x.1.1), (1, (4, ())))) (fun x0 => (cnd (notB x0.1) (some (1, ())) (bndS (loopS (fun d1 => (cnd (ltI d1.1 (lenL x.1.1)) (bnd (atL x.1.1 d1.1) (fun x2 => (bnd (F42 (x2, (0, (3, ())))) (fun x3 => (cnd (notB x3.1) (inR (inR (some (1, ())))) (some (.inl ((addI .i64 d1.1 1), ())))))))) (inR (some (.inl ()))))) 1000000000 (0, ())) (fun x4 => (some (0, ())))))))
theorem x30 (x : D (.pair ty27 .un)) : fnS (cyF ct42 hiBc) 1000 (.pair ty27 .un) (.pair (.int .i64) .un) (((Tr.e).set 0 []).set 1 [.keep 11, .keep 12, .val 13 (.int .i64)]) Tryz.f30 x = F30 x := by kernel_rfl
theorem n30 : cxC.fn.get 30 = some Tryz.f30 := by kernel_rfl
theorem e30 : cxC.ext.get 30 = none := by kernel_rfl
noncomputable def ct30 : Tr Con := (ct42).set 30 ⟨(.pair ty27 .un), (.pair (.int .i64) .un), F30⟩
theorem k30 : CtOk ct30 := ct_set k42 (con_ok (cy := cyF ct42 hiBc) k42 n30 e30 x30)
/-- boot.zones -/
noncomputable def F31 (x : D (.pair ty27 .un)) : Option (D (.pair (.int .i64) .un)) := (bnd (F42 ((lenL x.1.2.1), (1, (6, ())))) (fun x0 => (cnd (notB x0.1) (some (1, ())) (bndS (loopS (fun d1 => (cnd (ltI d1.2.2.1 (lenL x.1.2.1)) (bnd (atL x.1.2.1 d1.2.2.1) (fun x2 => (bnd (F42 (x2.1, (0, (3, ())))) (fun x3 => (cnd (notB x3.1) (inR (inR (some (1, ())))) (bnd (F42 (x2.2.1, (0, (1, ())))) (fun x4 => (cnd (notB x4.1) (inR (inR (some (1, ())))) (bnd (F42 (x2.2.2.1, (1, (256, ())))) (fun x5 => (cnd (notB x5.1) (inR (inR (some (1, ())))) (bnd (F42 (x2.2.2.2.1, (0, (x2.2.2.1, ())))) (fun x6 => (cnd (notB x6.1) (inR (inR (some (1, ())))) (cnd (eqI x2.2.1 0) (some (.inl ((addI .i64 d1.1 x2.2.2.1), ((addI .i64 d1.2.1 1), ((addI .i64 d1.2.2.1 1), ()))))) (some (.inl ((addI .i64 d1.1 x2.2.2.1), (d1.2.1, ((addI .i64 d1.2.2.1 1), ())))))))))))))))))))) (inR (some (.inl (d1.1, (d1.2.1, ()))))))) 1000000000 (0, (0, (0, ())))) (fun x7 => (cnd (eqI x7.2.1 0) (some (1, ())) (cnd (ltI 256 x7.1) (some (1, ())) (some (0, ())))))))))
theorem x31 (x : D (.pair ty27 .un)) : fnS (cyF ct30 hiBc) 1000 (.pair ty27 .un) (.pair (.int .i64) .un) (((Tr.e).set 0 [.val 3 (.int .i64), .val 4 (.int .i64)]).set 1 [.val 3 (.int .i64), .val 4 (.int .i64), .keep 13, .keep 14, .val 15 (.int .i64)]) Tryz.f31 x = F31 x := by kernel_rfl
theorem n31 : cxC.fn.get 31 = some Tryz.f31 := by kernel_rfl
theorem e31 : cxC.ext.get 31 = none := by kernel_rfl
noncomputable def ct31 : Tr Con := (ct30).set 31 ⟨(.pair ty27 .un), (.pair (.int .i64) .un), F31⟩
theorem k31 : CtOk ct31 := ct_set k30 (con_ok (cy := cyF ct30 hiBc) k30 n31 e31 x31)
/-- boot.sizes -/
noncomputable def F32 (x : D (.pair ty27 .un)) : Option (D (.pair (.int .i64) .un)) := (bnd (F42 (x.1.2.2.2.1, (1, (16, ())))) (fun x0 => (cnd x0.1 (bnd (F42 (x.1.2.2.1, (1, (x.1.2.2.2.1, ())))) (fun x1 => (cnd x1.1 (bnd (F42 (x.1.2.2.2.2.1, (1, (16, ())))) (fun x2 => (cnd x2.1 (bnd (F42 (x.1.2.2.2.2.2.1, (1, (16, ())))) (fun x3 => (cnd x3.1 (bnd (F42 (x.1.2.2.2.2.2.2.1, (0, (64, ())))) (fun x4 => (cnd x4.1 (bnd (F42 (x.1.2.2.2.2.2.2.2.1, (0, (32, ())))) (fun x5 => (cnd x5.1 (bnd (F42 (x.1.2.2.2.2.2.2.2.2.1, (1, (256, ())))) (fun x6 => (cnd x6.1 (bnd (F42 (x.1.2.2.2.2.2.2.2.2.2.1, (1, (32, ())))) (fun x7 => (cnd x7.1 (cnd (notB (leI (lenL x.1.2.2.2.2.2.2.2.2.2.2.1) 4)) (some (1, ())) (bndS (loopS (fun d8 => (cnd (ltI d8.1 (lenL x.1.2.2.2.2.2.2.2.2.2.2.1)) (bnd (atL x.1.2.2.2.2.2.2.2.2.2.2.1 d8.1) (fun x9 => (bnd (F42 (x9.1, (1, (16, ())))) (fun x10 => (cnd (notB x10.1) (inR (inR (some (1, ())))) (cnd (neI (remI .i64 (lenL x9.2.1) 32) 0) (inR (inR (some (1, ())))) (cnd (ltI (mulI .i64 x9.1 32) (lenL x9.2.1)) (inR (inR (some (1, ())))) (some (.inl ((addI .i64 d8.1 1), ())))))))))) (inR (some (.inl ()))))) 1000000000 (0, ())) (fun x11 => (some (0, ()))))) (some (1, ()))))) (some (1, ()))))) (some (1, ()))))) (some (1, ()))))) (some (1, ()))))) (some (1, ()))))) (some (1, ()))))) (some (1, ())))))
theorem x32 (x : D (.pair ty27 .un)) : fnS (cyF ct31 hiBc) 1000 (.pair ty27 .un) (.pair (.int .i64) .un) (((Tr.e).set 0 []).set 1 [.keep 55, .keep 56, .val 57 (.int .i64)]) Tryz.f32 x = F32 x := by kernel_rfl
theorem n32 : cxC.fn.get 32 = some Tryz.f32 := by kernel_rfl
theorem e32 : cxC.ext.get 32 = none := by kernel_rfl
noncomputable def ct32 : Tr Con := (ct31).set 32 ⟨(.pair ty27 .un), (.pair (.int .i64) .un), F32⟩
theorem k32 : CtOk ct32 := ct_set k31 (con_ok (cy := cyF ct31 hiBc) k31 n32 e32 x32)
/-- accounts.tree -/
noncomputable def F177 (x : D (.pair ty25 .un)) : Option (D (.pair .bool .un)) := (bndS (loopS (fun d0 => (cnd (ltI d0.1 (lenL x.1)) (bnd (atL x.1 d0.1) (fun x1 => (cnd (eqI d0.1 0) (cnd (neI x1.1 (-1)) (inR (inR (some (false, ())))) (cnd (ltI 0 d0.1) (cnd (ltI x1.1 0) (inR (inR (some (false, ())))) (cnd (leI d0.1 x1.1) (inR (inR (some (false, ())))) (some (.inl ((addI .i64 d0.1 1), ()))))) (some (.inl ((addI .i64 d0.1 1), ()))))) (cnd (ltI 0 d0.1) (cnd (ltI x1.1 0) (inR (inR (some (false, ())))) (cnd (leI d0.1 x1.1) (inR (inR (some (false, ())))) (some (.inl ((addI .i64 d0.1 1), ()))))) (some (.inl ((addI .i64 d0.1 1), ()))))))) (inR (some (.inl ()))))) 1000000000 (0, ())) (fun x2 => (some (true, ()))))
theorem x177 (x : D (.pair ty25 .un)) : fnS (cyF ct32 hiBc) 1000 (.pair ty25 .un) (.pair .bool .un) (((Tr.e).set 0 []).set 1 [.keep 5, .keep 6, .val 7 (.int .i64)]) Tryz.f177 x = F177 x := by kernel_rfl
theorem n177 : cxC.fn.get 177 = some Tryz.f177 := by kernel_rfl
theorem e177 : cxC.ext.get 177 = none := by kernel_rfl
noncomputable def ct177 : Tr Con := (ct32).set 177 ⟨(.pair ty25 .un), (.pair .bool .un), F177⟩
theorem k177 : CtOk ct177 := ct_set k32 (con_ok (cy := cyF ct32 hiBc) k32 n177 e177 x177)
/-- accounts.in -/
noncomputable def F226 (x : D (.pair (.int .i64) .un)) : Option (D (.pair .bool .un)) := (cnd (leI 0 x.1) (some ((leI x.1 1048576), ())) (some (false, ())))
theorem x226 (x : D (.pair (.int .i64) .un)) : fnS (cyF ct177 hiBc) 1000 (.pair (.int .i64) .un) (.pair .bool .un) (Tr.e) Tryz.f226 x = F226 x := by kernel_rfl
theorem n226 : cxC.fn.get 226 = some Tryz.f226 := by kernel_rfl
theorem e226 : cxC.ext.get 226 = none := by kernel_rfl
noncomputable def ct226 : Tr Con := (ct177).set 226 ⟨(.pair (.int .i64) .un), (.pair .bool .un), F226⟩
theorem k226 : CtOk ct226 := ct_set k177 (con_ok (cy := cyF ct177 hiBc) k177 n226 e226 x226)
/-- accounts.amounts -/
noncomputable def F178 (x : D (.pair ty25 .un)) : Option (D (.pair .bool .un)) := (bndS (loopS (fun d0 => (cnd (ltI d0.1 (lenL x.1)) (bnd (atL x.1 d0.1) (fun x1 => (bnd (F226 (x1.2.1, ())) (fun x2 => (cnd (notB x2.1) (inR (inR (some (false, ())))) (bnd (F226 (x1.2.2.1, ())) (fun x3 => (cnd (notB x3.1) (inR (inR (some (false, ())))) (bnd (F226 (x1.2.2.2.1, ())) (fun x4 => (cnd (notB x4.1) (inR (inR (some (false, ())))) (bnd (F226 (x1.2.2.2.2.1, ())) (fun x5 => (cnd (notB x5.1) (inR (inR (some (false, ())))) (some (.inl ((addI .i64 d0.1 1), ()))))))))))))))))) (inR (some (.inl ()))))) 1000000000 (0, ())) (fun x6 => (bnd (atL x.1 0) (fun x7 => (cnd (eqI x7.2.2.1 0) (bnd (atL x.1 0) (fun x8 => (some ((eqI x8.2.2.2.1 0), ())))) (some (false, ())))))))
theorem x178 (x : D (.pair ty25 .un)) : fnS (cyF ct226 hiBc) 1000 (.pair ty25 .un) (.pair .bool .un) (((Tr.e).set 0 [.keep 0]).set 1 [.keep 0, .keep 5, .keep 6, .val 7 (.int .i64)]) Tryz.f178 x = F178 x := by kernel_rfl
theorem n178 : cxC.fn.get 178 = some Tryz.f178 := by kernel_rfl
theorem e178 : cxC.ext.get 178 = none := by kernel_rfl
noncomputable def ct178 : Tr Con := (ct226).set 178 ⟨(.pair ty25 .un), (.pair .bool .un), F178⟩
theorem k178 : CtOk ct178 := ct_set k226 (con_ok (cy := cyF ct226 hiBc) k226 n178 e178 x178)
/-- accounts.own -/
noncomputable def F181 (x : D (.pair ty25 .un)) : Option (D (.pair (.list (.int .i64)) .un)) := (chk (okMk (lenL x.1) (lenL x.1) 8) (bndS (loopS (fun d0 => (cnd (ltI d0.2.1 (lenL x.1)) (bnd (atL x.1 d0.2.1) (fun x1 => (chk (inL? d0.1 d0.2.1) (bnd (atL d0.1 d0.2.1) (fun x2 => (chk (inL? d0.1 d0.2.1) (bnd (atL d0.1 d0.2.1) (fun x3 => (cnd (ltI 0 d0.2.1) (chk (inL? (setL d0.1 d0.2.1 (addI .i64 x2 x1.2.1)) x1.1) (bnd (atL (setL d0.1 d0.2.1 (addI .i64 x2 x1.2.1)) x1.1) (fun x4 => (chk (inL? (setL d0.1 d0.2.1 (addI .i64 x2 x1.2.1)) x1.1) (bnd (atL (setL d0.1 d0.2.1 (addI .i64 x2 x1.2.1)) x1.1) (fun x5 => (some (.inl ((setL (setL d0.1 d0.2.1 (addI .i64 x2 x1.2.1)) x1.1 (subI .i64 x4 x1.2.1)), ((addI .i64 d0.2.1 1), ())))))))))) (some (.inl ((setL d0.1 d0.2.1 (addI .i64 x2 x1.2.1)), ((addI .i64 d0.2.1 1), ()))))))))))))) (inR (some (.inl (d0.1, ())))))) 1000000000 ((rep (lenL x.1) 0), (0, ()))) (fun x6 => (some (x6.1, ())))))
theorem x181 (x : D (.pair ty25 .un)) : fnS (cyF ct178 hiBc) 1000 (.pair ty25 .un) (.pair (.list (.int .i64)) .un) (((Tr.e).set 0 [.own 3 (.int .i64)]).set 1 [.own 3 (.int .i64), .keep 9, .keep 10, .val 11 (.int .i64)]) Tryz.f181 x = F181 x := by kernel_rfl
theorem n181 : cxC.fn.get 181 = some Tryz.f181 := by kernel_rfl
theorem e181 : cxC.ext.get 181 = none := by kernel_rfl
noncomputable def ct181 : Tr Con := (ct178).set 181 ⟨(.pair ty25 .un), (.pair (.list (.int .i64)) .un), F181⟩
theorem k181 : CtOk ct181 := ct_set k178 (con_ok (cy := cyF ct178 hiBc) k178 n181 e181 x181)
/-- slices.Min[[]int,int] -/
noncomputable def F180 (x : D (.pair (.list (.int .i64)) .un)) : Option (D (.pair (.int .i64) .un)) := (cnd (ltI (lenL x.1) 1) none (bnd (atL x.1 0) (fun x0 => (bndS (loopS (fun d1 => (cnd (ltI d1.2.1 (lenL x.1)) (bnd (atL x.1 d1.2.1) (fun x2 => (some (.inl ((minI d1.1 x2), ((addI .i64 d1.2.1 1), ())))))) (inR (some (.inl (d1.1, ())))))) 1000000000 (x0, (1, ()))) (fun x3 => (some (x3.1, ())))))))
theorem x180 (x : D (.pair (.list (.int .i64)) .un)) : fnS (cyF ct181 hiBc) 1000 (.pair (.list (.int .i64)) .un) (.pair (.int .i64) .un) (((Tr.e).set 0 [.val 3 (.int .i64)]).set 1 [.keep 0, .val 3 (.int .i64), .val 4 (.int .i64)]) Tryz.f180 x = F180 x := by kernel_rfl
theorem n180 : cxC.fn.get 180 = some Tryz.f180 := by kernel_rfl
theorem e180 : cxC.ext.get 180 = none := by kernel_rfl
noncomputable def ct180 : Tr Con := (ct181).set 180 ⟨(.pair (.list (.int .i64)) .un), (.pair (.int .i64) .un), F180⟩
theorem k180 : CtOk ct180 := ct_set k181 (con_ok (cy := cyF ct181 hiBc) k181 n180 e180 x180)
/-- accounts.Check -/
noncomputable def F105 (x : D (.pair ty25 .un)) : Option (D (.pair (.int .i64) .un)) := (cnd (ltI (lenL x.1) 1) (some (9, ())) (cnd (ltI 8 (lenL x.1)) (some (9, ())) (bnd (F177 (x.1, ())) (fun x0 => (cnd (notB x0.1) (some (1, ())) (bnd (F178 (x.1, ())) (fun x1 => (cnd (notB x1.1) (some (2, ())) (bndS (loopS (fun d2 => (cnd (ltI d2.1 (lenL x.1)) (bnd (atL x.1 d2.1) (fun x3 => (cnd (ltI x3.2.2.2.2.1 x3.2.1) (inR (inR (cnd (leI 0 d2.1) (some (17, ())) (bnd (F181 (x.1, ())) (fun x4 => (bnd (F180 (x4.1, ())) (fun x5 => (cnd (ltI x5.1 0) (some (11, ())) (some (0, ())))))))))) (some (.inl ((addI .i64 d2.1 1), ())))))) (inR (some (.inl ()))))) 1000000000 (0, ())) (fun x6 => (bnd (F181 (x.1, ())) (fun x7 => (bnd (F180 (x7.1, ())) (fun x8 => (cnd (ltI x8.1 0) (some (11, ())) (some (0, ())))))))))))))))))
theorem x105 (x : D (.pair ty25 .un)) : fnS (cyF ct180 hiBc) 1000 (.pair ty25 .un) (.pair (.int .i64) .un) (Tr.e) Tryz.f105 x = F105 x := by kernel_rfl
theorem n105 : cxC.fn.get 105 = some Tryz.f105 := by kernel_rfl
theorem e105 : cxC.ext.get 105 = none := by kernel_rfl
noncomputable def ct105 : Tr Con := (ct180).set 105 ⟨(.pair ty25 .un), (.pair (.int .i64) .un), F105⟩
theorem k105 : CtOk ct105 := ct_set k180 (con_ok (cy := cyF ct180 hiBc) k180 n105 e105 x105)
/-- protection.Overcommit -/
noncomputable def F108 (x : D (.pair ty25 (.pair (.int .i64) .un))) : Option (D ty148) := (bnd (F105 (x.1, ())) (fun x0 => (cnd (neI x0.1 0) (some (0, (x0.1, ()))) (cnd (ltI x.2.1 0) (some (0, (2, ()))) (cnd (ltI 1048576 x.2.1) (some (0, (2, ()))) (chk (okMk (lenL x.1) (lenL x.1) 8) (chk (okCut 1 (lenL x.1) (lenL x.1)) (bndS (loopS (fun d1 => (cnd (ltI d1.2.1 (lenL (cutL x.1 1 (lenL x.1)))) (bnd (atL (cutL x.1 1 (lenL x.1)) d1.2.1) (fun x2 => (chk (inL? d1.1 x2.1) (bnd (atL d1.1 x2.1) (fun x3 => (chk (inL? d1.1 x2.1) (bnd (atL d1.1 x2.1) (fun x4 => (some (.inl ((setL d1.1 x2.1 (addI .i64 x3 x2.2.2.1)), ((addI .i64 d1.2.1 1), ())))))))))))) (inR (some (.inl (d1.1, ())))))) 1000000000 ((rep (lenL x.1) 0), (0, ()))) (fun x5 => (bndS (loopS (fun d6 => (cnd (ltI d6.1 (lenL x5.1)) (chk (inL? x5.1 d6.1) (bnd (atL x5.1 d6.1) (fun x7 => (cnd (eqI d6.1 0) (cnd (ltI x.2.1 x7) (inR (inR (some (d6.1, (0, ()))))) (cnd (ltI 0 d6.1) (bnd (atL x.1 d6.1) (fun x8 => (cnd (ltI x8.2.2.1 x7) (inR (inR (some (d6.1, (0, ()))))) (some (.inl ((addI .i64 d6.1 1), ())))))) (some (.inl ((addI .i64 d6.1 1), ()))))) (cnd (ltI 0 d6.1) (bnd (atL x.1 d6.1) (fun x9 => (cnd (ltI x9.2.2.1 x7) (inR (inR (some (d6.1, (0, ()))))) (some (.inl ((addI .i64 d6.1 1), ())))))) (some (.inl ((addI .i64 d6.1 1), ())))))))) (inR (some (.inl ()))))) 1000000000 (0, ())) (fun x10 => (some ((-1), (0, ()))))))))))))))
theorem x108 (x : D (.pair ty25 (.pair (.int .i64) .un))) : fnS (cyF ct105 hiBc) 1000 (.pair ty25 (.pair (.int .i64) .un)) ty148 (((((Tr.e).set 0 [.keep 0, .keep 1, .own 7 (.int .i64)]).set 1 [.keep 0, .keep 1, .own 7 (.int .i64), .keep 27, .keep 28, .val 29 (.int .i64)]).set 4 []).set 5 [.keep 0, .keep 1, .keep 43, .keep 44, .val 45 (.int .i64)]) Tryz.f108 x = F108 x := by kernel_rfl
theorem n108 : cxC.fn.get 108 = some Tryz.f108 := by kernel_rfl
theorem e108 : cxC.ext.get 108 = none := by kernel_rfl
noncomputable def ct108 : Tr Con := (ct105).set 108 ⟨(.pair ty25 (.pair (.int .i64) .un)), ty148, F108⟩
theorem k108 : CtOk ct108 := ct_set k105 (con_ok (cy := cyF ct105 hiBc) k105 n108 e108 x108)
/-- boot.tree -/
noncomputable def F33 (x : D (.pair ty27 .un)) : Option (D (.pair (.int .i64) .un)) := (bnd (F105 (x.1.2.2.2.2.2.2.2.2.2.2.2.1, ())) (fun x0 => (cnd (neI x0.1 0) (some (x0.1, ())) (bndS (loopS (fun d1 => (cnd (ltI d1.1 (lenL x.1.2.2.2.2.2.2.2.2.2.2.2.1)) (bnd (atL x.1.2.2.2.2.2.2.2.2.2.2.2.1 d1.1) (fun x2 => (cnd (neI x2.2.1 0) (inR (inR (cnd (leI 0 d1.1) (some (1, ())) (bndS (loopS (fun d3 => (cnd (ltI d3.2.1 (lenL x.1.2.1)) (bnd (atL x.1.2.1 d3.2.1) (fun x4 => (some (.inl ((addI .i64 d3.1 (subI .i64 x4.2.2.1 x4.2.2.2.1)), ((addI .i64 d3.2.1 1), ())))))) (inR (some (.inl (d3.1, ())))))) 1000000000 ((subI .i64 (negI .i64 x.1.2.2.2.2.2.2.2.1) 1), (0, ()))) (fun x5 => (cnd (ltI x5.1 0) (some (18, ())) (bnd (F108 (x.1.2.2.2.2.2.2.2.2.2.2.2.1, (x5.1, ()))) (fun x6 => (cnd (neI x6.2.1 0) (some (18, ())) (cnd (neI x6.1 (-1)) (some (18, ())) (some (0, ())))))))))))) (some (.inl ((addI .i64 d1.1 1), ())))))) (inR (some (.inl ()))))) 1000000000 (0, ())) (fun x7 => (bndS (loopS (fun d8 => (cnd (ltI d8.2.1 (lenL x.1.2.1)) (bnd (atL x.1.2.1 d8.2.1) (fun x9 => (some (.inl ((addI .i64 d8.1 (subI .i64 x9.2.2.1 x9.2.2.2.1)), ((addI .i64 d8.2.1 1), ())))))) (inR (some (.inl (d8.1, ())))))) 1000000000 ((subI .i64 (negI .i64 x.1.2.2.2.2.2.2.2.1) 1), (0, ()))) (fun x10 => (cnd (ltI x10.1 0) (some (18, ())) (bnd (F108 (x.1.2.2.2.2.2.2.2.2.2.2.2.1, (x10.1, ()))) (fun x11 => (cnd (neI x11.2.1 0) (some (18, ())) (cnd (neI x11.1 (-1)) (some (18, ())) (some (0, ()))))))))))))))
theorem x33 (x : D (.pair ty27 .un)) : fnS (cyF ct108 hiBc) 1000 (.pair ty27 .un) (.pair (.int .i64) .un) (((Tr.e).set 0 [.keep 1, .val 4 (.int .i64)]).set 1 [.keep 1, .val 4 (.int .i64), .keep 23, .keep 24, .val 25 (.int .i64)]) Tryz.f33 x = F33 x := by kernel_rfl
theorem n33 : cxC.fn.get 33 = some Tryz.f33 := by kernel_rfl
theorem e33 : cxC.ext.get 33 = none := by kernel_rfl
noncomputable def ct33 : Tr Con := (ct108).set 33 ⟨(.pair ty27 .un), (.pair (.int .i64) .un), F33⟩
theorem k33 : CtOk ct33 := ct_set k108 (con_ok (cy := cyF ct108 hiBc) k108 n33 e33 x33)
/-- program.of -/
noncomputable def F227 (x : D (.pair (.int .i64) .un)) : Option (D (.pair ty312 (.pair .bool .un))) := (cnd (eqI x.1 1) (some (((0, ((-1), (1, (0, (0, ((-1), (0, (0, ())))))))), ((0, (511, (512, (15, (0, (3, (3, (15, ())))))))), ())), (true, ()))) (cnd (eqI x.1 2) (some (((0, (0, (1, (0, (0, (0, (0, (0, ())))))))), ((0, (511, (512, (0, (0, (0, (0, (0, ())))))))), ())), (true, ()))) (cnd (eqI x.1 3) (some (((0, (0, (1, (0, (0, (0, (0, (0, ())))))))), ((0, (511, (512, (0, (0, (0, (3, (0, ())))))))), ())), (true, ()))) (cnd (eqI x.1 4) (some (((0, (0, (1, (0, (0, (0, (0, (0, ())))))))), ((0, (511, (512, (0, (1, (0, (0, (0, ())))))))), ())), (true, ()))) (cnd (eqI x.1 5) (cnd (eqI x.1 5) (cnd (eqI x.1 6) (some (((0, (0, (0, (0, (0, (0, (0, (0, ())))))))), ((0, (511, (0, (31, (255, (0, (0, (0, ())))))))), ())), (true, ()))) (some (((0, (0, (0, (0, (0, (0, (0, (0, ())))))))), ((0, (511, (0, (31, (0, (0, (0, (0, ())))))))), ())), (true, ())))) (cnd (eqI x.1 7) (cnd (eqI x.1 7) (cnd (eqI x.1 8) (some (((0, (0, (0, (0, (0, (0, (0, (0, ())))))))), ((0, (15, (0, (31, (255, (3, (0, (0, ())))))))), ())), (true, ()))) (some (((0, (0, (0, (0, (0, (0, (0, (0, ())))))))), ((0, (15, (0, (31, (0, (3, (0, (0, ())))))))), ())), (true, ())))) (cnd (eqI x.1 9) (some (((0, (0, (0, (0, (0, (0, (0, (0, ())))))))), ((0, (0, (16, (0, (0, (3, (0, (0, ())))))))), ())), (true, ()))) (cnd (eqI x.1 10) (some (((0, (0, (0, (0, (0, (0, (0, (0, ())))))))), ((0, (0, (0, (0, (0, (3, (0, (0, ())))))))), ())), (true, ()))) (cnd (eqI x.1 11) (some (((0, (0, (0, (0, (0, (0, (0, (0, ())))))))), ((0, (0, (0, (0, (48, (0, (0, (0, ())))))))), ())), (true, ()))) (cnd (eqI x.1 12) (some (((0, (0, (0, (0, (0, (0, (0, (0, ())))))))), ((0, (0, (0, (0, (0, (0, (0, (0, ())))))))), ())), (true, ()))) (some (((0, (0, (0, (0, (0, (0, (0, (0, ())))))))), ((0, (0, (0, (0, (0, (0, (0, (0, ())))))))), ())), (false, ())))))))) (cnd (eqI x.1 8) (cnd (eqI x.1 8) (some (((0, (0, (0, (0, (0, (0, (0, (0, ())))))))), ((0, (15, (0, (31, (255, (3, (0, (0, ())))))))), ())), (true, ()))) (some (((0, (0, (0, (0, (0, (0, (0, (0, ())))))))), ((0, (15, (0, (31, (0, (3, (0, (0, ())))))))), ())), (true, ())))) (cnd (eqI x.1 9) (some (((0, (0, (0, (0, (0, (0, (0, (0, ())))))))), ((0, (0, (16, (0, (0, (3, (0, (0, ())))))))), ())), (true, ()))) (cnd (eqI x.1 10) (some (((0, (0, (0, (0, (0, (0, (0, (0, ())))))))), ((0, (0, (0, (0, (0, (3, (0, (0, ())))))))), ())), (true, ()))) (cnd (eqI x.1 11) (some (((0, (0, (0, (0, (0, (0, (0, (0, ())))))))), ((0, (0, (0, (0, (48, (0, (0, (0, ())))))))), ())), (true, ()))) (cnd (eqI x.1 12) (some (((0, (0, (0, (0, (0, (0, (0, (0, ())))))))), ((0, (0, (0, (0, (0, (0, (0, (0, ())))))))), ())), (true, ()))) (some (((0, (0, (0, (0, (0, (0, (0, (0, ())))))))), ((0, (0, (0, (0, (0, (0, (0, (0, ())))))))), ())), (false, ())))))))))) (cnd (eqI x.1 6) (cnd (eqI x.1 6) (some (((0, (0, (0, (0, (0, (0, (0, (0, ())))))))), ((0, (511, (0, (31, (255, (0, (0, (0, ())))))))), ())), (true, ()))) (some (((0, (0, (0, (0, (0, (0, (0, (0, ())))))))), ((0, (511, (0, (31, (0, (0, (0, (0, ())))))))), ())), (true, ())))) (cnd (eqI x.1 7) (cnd (eqI x.1 7) (cnd (eqI x.1 8) (some (((0, (0, (0, (0, (0, (0, (0, (0, ())))))))), ((0, (15, (0, (31, (255, (3, (0, (0, ())))))))), ())), (true, ()))) (some (((0, (0, (0, (0, (0, (0, (0, (0, ())))))))), ((0, (15, (0, (31, (0, (3, (0, (0, ())))))))), ())), (true, ())))) (cnd (eqI x.1 9) (some (((0, (0, (0, (0, (0, (0, (0, (0, ())))))))), ((0, (0, (16, (0, (0, (3, (0, (0, ())))))))), ())), (true, ()))) (cnd (eqI x.1 10) (some (((0, (0, (0, (0, (0, (0, (0, (0, ())))))))), ((0, (0, (0, (0, (0, (3, (0, (0, ())))))))), ())), (true, ()))) (cnd (eqI x.1 11) (some (((0, (0, (0, (0, (0, (0, (0, (0, ())))))))), ((0, (0, (0, (0, (48, (0, (0, (0, ())))))))), ())), (true, ()))) (cnd (eqI x.1 12) (some (((0, (0, (0, (0, (0, (0, (0, (0, ())))))))), ((0, (0, (0, (0, (0, (0, (0, (0, ())))))))), ())), (true, ()))) (some (((0, (0, (0, (0, (0, (0, (0, (0, ())))))))), ((0, (0, (0, (0, (0, (0, (0, (0, ())))))))), ())), (false, ())))))))) (cnd (eqI x.1 8) (cnd (eqI x.1 8) (some (((0, (0, (0, (0, (0, (0, (0, (0, ())))))))), ((0, (15, (0, (31, (255, (3, (0, (0, ())))))))), ())), (true, ()))) (some (((0, (0, (0, (0, (0, (0, (0, (0, ())))))))), ((0, (15, (0, (31, (0, (3, (0, (0, ())))))))), ())), (true, ())))) (cnd (eqI x.1 9) (some (((0, (0, (0, (0, (0, (0, (0, (0, ())))))))), ((0, (0, (16, (0, (0, (3, (0, (0, ())))))))), ())), (true, ()))) (cnd (eqI x.1 10) (some (((0, (0, (0, (0, (0, (0, (0, (0, ())))))))), ((0, (0, (0, (0, (0, (3, (0, (0, ())))))))), ())), (true, ()))) (cnd (eqI x.1 11) (some (((0, (0, (0, (0, (0, (0, (0, (0, ())))))))), ((0, (0, (0, (0, (48, (0, (0, (0, ())))))))), ())), (true, ()))) (cnd (eqI x.1 12) (some (((0, (0, (0, (0, (0, (0, (0, (0, ())))))))), ((0, (0, (0, (0, (0, (0, (0, (0, ())))))))), ())), (true, ()))) (some (((0, (0, (0, (0, (0, (0, (0, (0, ())))))))), ((0, (0, (0, (0, (0, (0, (0, (0, ())))))))), ())), (false, ())))))))))))))))
theorem x227 (x : D (.pair (.int .i64) .un)) : fnS (cyF ct33 hiBc) 1000 (.pair (.int .i64) .un) (.pair ty312 (.pair .bool .un)) (Tr.e) Tryz.f227 x = F227 x := by kernel_rfl
theorem n227 : cxC.fn.get 227 = some Tryz.f227 := by kernel_rfl
theorem e227 : cxC.ext.get 227 = none := by kernel_rfl
noncomputable def ct227 : Tr Con := (ct33).set 227 ⟨(.pair (.int .i64) .un), (.pair ty312 (.pair .bool .un)), F227⟩
theorem k227 : CtOk ct227 := ct_set k33 (con_ok (cy := cyF ct33 hiBc) k33 n227 e227 x227)
/-- program.fields -/
noncomputable def F228 (x : D (.pair ty151 .un)) : Option (D (.pair (.arr 7 (.int .i64)) .un)) := (some ((x.1.2.1 :: (x.1.2.2.1 :: (x.1.2.2.2.1 :: (x.1.2.2.2.2.1 :: (x.1.2.2.2.2.2.1 :: (x.1.2.2.2.2.2.2.1 :: (x.1.2.2.2.2.2.2.2.1 :: []))))))), ()))
theorem x228 (x : D (.pair ty151 .un)) : fnS (cyF ct227 hiBc) 1000 (.pair ty151 .un) (.pair (.arr 7 (.int .i64)) .un) (Tr.e) Tryz.f228 x = F228 x := by kernel_rfl
theorem n228 : cxC.fn.get 228 = some Tryz.f228 := by kernel_rfl
theorem e228 : cxC.ext.get 228 = none := by kernel_rfl
noncomputable def ct228 : Tr Con := (ct227).set 228 ⟨(.pair ty151 .un), (.pair (.arr 7 (.int .i64)) .un), F228⟩
theorem k228 : CtOk ct228 := ct_set k227 (con_ok (cy := cyF ct227 hiBc) k227 n228 e228 x228)
/-- program.prots -/
noncomputable def F229 (x : D (.pair (.int .i64) .un)) : Option (D (.pair .bool .un)) := (cnd (eqI x.1 1) (some (true, ())) (some ((eqI x.1 3), ())))
theorem x229 (x : D (.pair (.int .i64) .un)) : fnS (cyF ct228 hiBc) 1000 (.pair (.int .i64) .un) (.pair .bool .un) (Tr.e) Tryz.f229 x = F229 x := by kernel_rfl
theorem n229 : cxC.fn.get 229 = some Tryz.f229 := by kernel_rfl
theorem e229 : cxC.ext.get 229 = none := by kernel_rfl
noncomputable def ct229 : Tr Con := (ct228).set 229 ⟨(.pair (.int .i64) .un), (.pair .bool .un), F229⟩
theorem k229 : CtOk ct229 := ct_set k228 (con_ok (cy := cyF ct228 hiBc) k228 n229 e229 x229)
/-- program.check -/
noncomputable def F183 (x : D (.pair ty151 .un)) : Option (D (.pair (.int .i64) .un)) := (bnd (F227 (x.1.1, ())) (fun x0 => (cnd (notB x0.2.1) (some (1, ())) (bnd (F228 (x.1, ())) (fun x1 => (bnd (F228 (x0.1.1, ())) (fun x2 => (bnd (F228 (x0.1.2.1, ())) (fun x3 => (bndS (cnd (ltI (nth 0 x1.1 0) (nth 0 x2.1 0)) (cnd (eqI (nth 0 x3.1 0) 0) (inR (some (1, ()))) (some (.inl (2, ())))) (cnd (ltI (nth 0 x3.1 0) (nth 0 x1.1 0)) (cnd (eqI (nth 0 x3.1 0) 0) (inR (some (1, ()))) (some (.inl (2, ())))) (some (.inl (0, ()))))) (fun x4 => (bndS (cnd (ltI (nth 0 x1.1 1) (nth 0 x2.1 1)) (cnd (eqI (nth 0 x3.1 1) 0) (inR (some (1, ()))) (some (.inl (2, ())))) (cnd (ltI (nth 0 x3.1 1) (nth 0 x1.1 1)) (cnd (eqI (nth 0 x3.1 1) 0) (inR (some (1, ()))) (some (.inl (2, ())))) (some (.inl (x4.1, ()))))) (fun x5 => (bndS (cnd (ltI (nth 0 x1.1 2) (nth 0 x2.1 2)) (cnd (eqI (nth 0 x3.1 2) 0) (inR (some (1, ()))) (some (.inl (2, ())))) (cnd (ltI (nth 0 x3.1 2) (nth 0 x1.1 2)) (cnd (eqI (nth 0 x3.1 2) 0) (inR (some (1, ()))) (some (.inl (2, ())))) (some (.inl (x5.1, ()))))) (fun x6 => (bndS (cnd (ltI (nth 0 x1.1 3) (nth 0 x2.1 3)) (cnd (eqI (nth 0 x3.1 3) 0) (inR (some (1, ()))) (some (.inl (2, ())))) (cnd (ltI (nth 0 x3.1 3) (nth 0 x1.1 3)) (cnd (eqI (nth 0 x3.1 3) 0) (inR (some (1, ()))) (some (.inl (2, ())))) (some (.inl (x6.1, ()))))) (fun x7 => (bndS (cnd (ltI (nth 0 x1.1 4) (nth 0 x2.1 4)) (cnd (eqI (nth 0 x3.1 4) 0) (inR (some (1, ()))) (some (.inl (2, ())))) (cnd (ltI (nth 0 x3.1 4) (nth 0 x1.1 4)) (cnd (eqI (nth 0 x3.1 4) 0) (inR (some (1, ()))) (some (.inl (2, ())))) (some (.inl (x7.1, ()))))) (fun x8 => (bndS (cnd (ltI (nth 0 x1.1 5) (nth 0 x2.1 5)) (cnd (eqI (nth 0 x3.1 5) 0) (inR (some (1, ()))) (some (.inl (2, ())))) (cnd (ltI (nth 0 x3.1 5) (nth 0 x1.1 5)) (cnd (eqI (nth 0 x3.1 5) 0) (inR (some (1, ()))) (some (.inl (2, ())))) (some (.inl (x8.1, ()))))) (fun x9 => (bndS (cnd (ltI (nth 0 x1.1 6) (nth 0 x2.1 6)) (cnd (eqI (nth 0 x3.1 6) 0) (inR (some (1, ()))) (some (.inl (2, ())))) (cnd (ltI (nth 0 x3.1 6) (nth 0 x1.1 6)) (cnd (eqI (nth 0 x3.1 6) 0) (inR (some (1, ()))) (some (.inl (2, ())))) (some (.inl (x9.1, ()))))) (fun x10 => (cnd (eqI x0.1.2.1.2.2.2.2.2.2.1 3) (bnd (F229 (x.1.2.2.2.2.2.2.1, ())) (fun x11 => (cnd (notB x11.1) (some (2, ())) (cnd (eqI x.1.1 1) (cnd (eqI x.1.2.2.2.2.2.1 (-1)) (cnd (neI x.1.2.2.2.1 0) (some (2, ())) (some (x10.1, ()))) (some (x10.1, ()))) (some (x10.1, ())))))) (cnd (eqI x.1.1 1) (cnd (eqI x.1.2.2.2.2.2.1 (-1)) (cnd (neI x.1.2.2.2.1 0) (some (2, ())) (some (x10.1, ()))) (some (x10.1, ()))) (some (x10.1, ())))))))))))))))))))))))))))
theorem x183 (x : D (.pair ty151 .un)) : fnS (cyF ct229 hiBc) 1000 (.pair ty151 .un) (.pair (.int .i64) .un) ((Tr.e).set 2 [.keep 1, .keep 3, .keep 6, .keep 7, .val 8 (.int .i64), .keep 27, .keep 28]) Tryz.f183 x = F183 x := by kernel_rfl
theorem n183 : cxC.fn.get 183 = some Tryz.f183 := by kernel_rfl
theorem e183 : cxC.ext.get 183 = none := by kernel_rfl
noncomputable def ct183 : Tr Con := (ct229).set 183 ⟨(.pair ty151 .un), (.pair (.int .i64) .un), F183⟩
theorem k183 : CtOk ct183 := ct_set k229 (con_ok (cy := cyF ct229 hiBc) k229 n183 e183 x183)
/-- program.Check -/
noncomputable def F109 (x : D (.pair ty72 .un)) : Option (D (.pair (.int .i64) .un)) := (cnd (ltI 48 (lenL x.1)) (some (9, ())) (bndS (loopS (fun d0 => (cnd (ltI d0.1 (lenL x.1)) (bnd (atL x.1 d0.1) (fun x1 => (bnd (F183 (x1, ())) (fun x2 => (cnd (neI x2.1 0) (inR (inR (some (x2.1, ())))) (some (.inl ((addI .i64 d0.1 1), ())))))))) (inR (some (.inl ()))))) 1000000000 (0, ())) (fun x3 => (some (0, ())))))
theorem x109 (x : D (.pair ty72 .un)) : fnS (cyF ct183 hiBc) 1000 (.pair ty72 .un) (.pair (.int .i64) .un) (((Tr.e).set 0 []).set 1 [.keep 9, .keep 10, .val 11 (.int .i64)]) Tryz.f109 x = F109 x := by kernel_rfl
theorem n109 : cxC.fn.get 109 = some Tryz.f109 := by kernel_rfl
theorem e109 : cxC.ext.get 109 = none := by kernel_rfl
noncomputable def ct109 : Tr Con := (ct183).set 109 ⟨(.pair ty72 .un), (.pair (.int .i64) .un), F109⟩
theorem k109 : CtOk ct109 := ct_set k183 (con_ok (cy := cyF ct183 hiBc) k183 n109 e109 x109)
/-- boot.programs -/
noncomputable def F34 (x : D (.pair ty27 .un)) : Option (D (.pair (.int .i64) .un)) := (bnd (F42 ((lenL x.1.2.2.2.2.2.2.2.2.2.2.2.2.1), (1, (8, ())))) (fun x0 => (cnd (notB x0.1) (some (1, ())) (bndS (loopS (fun d1 => (cnd (ltI d1.1 (lenL x.1.2.2.2.2.2.2.2.2.2.2.2.2.1)) (bnd (atL x.1.2.2.2.2.2.2.2.2.2.2.2.2.1 d1.1) (fun x2 => (bnd (F109 (x2.2.1, ())) (fun x3 => (cnd (neI x3.1 0) (inR (inR (some (x3.1, ())))) (bnd (F42 (x2.1, (0, ((subI .i64 (lenL x.1.2.2.2.2.2.2.2.2.2.2.2.1) 1), ())))) (fun x4 => (cnd (notB x4.1) (inR (inR (some (2, ())))) (some (.inl ((addI .i64 d1.1 1), ()))))))))))) (inR (some (.inl ()))))) 1000000000 (0, ())) (fun x5 => (some (0, ())))))))
theorem x34 (x : D (.pair ty27 .un)) : fnS (cyF ct109 hiBc) 1000 (.pair ty27 .un) (.pair (.int .i64) .un) (((Tr.e).set 0 []).set 1 [.keep 1, .keep 12, .keep 13, .val 14 (.int .i64)]) Tryz.f34 x = F34 x := by kernel_rfl
theorem n34 : cxC.fn.get 34 = some Tryz.f34 := by kernel_rfl
theorem e34 : cxC.ext.get 34 = none := by kernel_rfl
noncomputable def ct34 : Tr Con := (ct109).set 34 ⟨(.pair ty27 .un), (.pair (.int .i64) .un), F34⟩
theorem k34 : CtOk ct34 := ct_set k109 (con_ok (cy := cyF ct109 hiBc) k109 n34 e34 x34)
/-- boot.Check -/
noncomputable def F12 (x : D (.pair ty27 .un)) : Option (D (.pair (.int .i64) .un)) := (bnd (F30 (x.1, ())) (fun x0 => (cnd (neI x0.1 0) (some (x0.1, ())) (bnd (F31 (x.1, ())) (fun x1 => (cnd (neI x1.1 0) (some (x1.1, ())) (bnd (F32 (x.1, ())) (fun x2 => (cnd (neI x2.1 0) (some (x2.1, ())) (bnd (F33 (x.1, ())) (fun x3 => (cnd (neI x3.1 0) (some (x3.1, ())) (bnd (F34 (x.1, ())) (fun x4 => (cnd (neI x4.1 0) (some (x4.1, ())) (some (0, ())))))))))))))))))
theorem x12 (x : D (.pair ty27 .un)) : fnS (cyF ct34 hiBc) 1000 (.pair ty27 .un) (.pair (.int .i64) .un) (Tr.e) Tryz.f12 x = F12 x := by kernel_rfl
theorem n12 : cxC.fn.get 12 = some Tryz.f12 := by kernel_rfl
theorem e12 : cxC.ext.get 12 = none := by kernel_rfl
noncomputable def ct12 : Tr Con := (ct34).set 12 ⟨(.pair ty27 .un), (.pair (.int .i64) .un), F12⟩
theorem k12 : CtOk ct12 := ct_set k34 (con_ok (cy := cyF ct34 hiBc) k34 n12 e12 x12)
/-- estoversref47.machine -/
noncomputable def F35 (x : D (.pair ty27 .un)) : Option (D (.pair .bool .un)) := (cnd (ltI (lenL x.1.1) 1) (some (false, ())) (cnd (ltI 4 (lenL x.1.1)) (some (false, ())) (cnd (ltI (lenL x.1.2.1) 1) (some (false, ())) (cnd (ltI 6 (lenL x.1.2.1)) (some (false, ())) (bndS (loopS (fun d0 => (cnd (ltI d0.1 (lenL x.1.1)) (bnd (atL x.1.1 d0.1) (fun x1 => (cnd (ltI x1 0) (inR (inR (some (false, ())))) (cnd (leI 4 x1) (inR (inR (some (false, ())))) (some (.inl ((addI .i64 d0.1 1), ()))))))) (inR (some (.inl ()))))) 1000000000 (0, ())) (fun x2 => (bndS (loopS (fun d3 => (cnd (ltI d3.2.2.1 (lenL x.1.2.1)) (bnd (atL x.1.2.1 d3.2.2.1) (fun x4 => (cnd (ltI x4.1 0) (inR (inR (some (false, ())))) (cnd (leI 4 x4.1) (inR (inR (some (false, ())))) (cnd (neI x4.2.1 0) (cnd (neI x4.2.1 1) (inR (inR (some (false, ())))) (cnd (ltI x4.2.2.1 1) (inR (inR (some (false, ())))) (cnd (ltI 256 x4.2.2.1) (inR (inR (some (false, ())))) (cnd (ltI x4.2.2.2.1 0) (inR (inR (some (false, ())))) (cnd (ltI x4.2.2.1 x4.2.2.2.1) (inR (inR (some (false, ())))) (cnd d3.2.1 (some (.inl ((addI .i64 d3.1 x4.2.2.1), (true, ((addI .i64 d3.2.2.1 1), ()))))) (some (.inl ((addI .i64 d3.1 x4.2.2.1), ((eqI x4.2.1 0), ((addI .i64 d3.2.2.1 1), ()))))))))))) (cnd (ltI x4.2.2.1 1) (inR (inR (some (false, ())))) (cnd (ltI 256 x4.2.2.1) (inR (inR (some (false, ())))) (cnd (ltI x4.2.2.2.1 0) (inR (inR (some (false, ())))) (cnd (ltI x4.2.2.1 x4.2.2.2.1) (inR (inR (some (false, ())))) (cnd d3.2.1 (some (.inl ((addI .i64 d3.1 x4.2.2.1), (true, ((addI .i64 d3.2.2.1 1), ()))))) (some (.inl ((addI .i64 d3.1 x4.2.2.1), ((eqI x4.2.1 0), ((addI .i64 d3.2.2.1 1), ()))))))))))))))) (inR (some (.inl (d3.1, (d3.2.1, ()))))))) 1000000000 (0, (false, (0, ())))) (fun x5 => (cnd x5.2.1 (some ((leI x5.1 256), ())) (some (false, ())))))))))))
theorem x35 (x : D (.pair ty27 .un)) : fnS (cyF ct12 hiBc) 1000 (.pair ty27 .un) (.pair .bool .un) (((((Tr.e).set 0 [.keep 1]).set 1 [.keep 1, .keep 32, .keep 33, .val 34 (.int .i64)]).set 4 [.val 5 (.int .i64), .val 6 .bool]).set 5 [.val 5 (.int .i64), .val 6 .bool, .keep 46, .keep 47, .val 48 (.int .i64)]) Tryz.f35 x = F35 x := by kernel_rfl
theorem n35 : cxC.fn.get 35 = some Tryz.f35 := by kernel_rfl
theorem e35 : cxC.ext.get 35 = none := by kernel_rfl
noncomputable def ct35 : Tr Con := (ct12).set 35 ⟨(.pair ty27 .un), (.pair .bool .un), F35⟩
theorem k35 : CtOk ct35 := ct_set k12 (con_ok (cy := cyF ct12 hiBc) k12 n35 e35 x35)
/-- estoversref47.sizes -/
noncomputable def F36 (x : D (.pair ty27 .un)) : Option (D (.pair .bool .un)) := (cnd (ltI x.1.2.2.2.1 1) (some (false, ())) (cnd (ltI 16 x.1.2.2.2.1) (some (false, ())) (cnd (ltI x.1.2.2.1 1) (some (false, ())) (cnd (ltI x.1.2.2.2.1 x.1.2.2.1) (some (false, ())) (cnd (ltI x.1.2.2.2.2.1 1) (some (false, ())) (cnd (ltI 16 x.1.2.2.2.2.1) (some (false, ())) (cnd (ltI x.1.2.2.2.2.2.1 1) (some (false, ())) (cnd (ltI 16 x.1.2.2.2.2.2.1) (some (false, ())) (cnd (ltI x.1.2.2.2.2.2.2.1 0) (some (false, ())) (cnd (ltI 64 x.1.2.2.2.2.2.2.1) (some (false, ())) (cnd (ltI x.1.2.2.2.2.2.2.2.1 0) (some (false, ())) (cnd (ltI 32 x.1.2.2.2.2.2.2.2.1) (some (false, ())) (cnd (ltI x.1.2.2.2.2.2.2.2.2.1 1) (some (false, ())) (cnd (ltI 256 x.1.2.2.2.2.2.2.2.2.1) (some (false, ())) (cnd (ltI x.1.2.2.2.2.2.2.2.2.2.1 1) (some (false, ())) (cnd (ltI 32 x.1.2.2.2.2.2.2.2.2.2.1) (some (false, ())) (cnd (ltI 4 (lenL x.1.2.2.2.2.2.2.2.2.2.2.1)) (some (false, ())) (bndS (loopS (fun d0 => (cnd (ltI d0.1 (lenL x.1.2.2.2.2.2.2.2.2.2.2.1)) (bnd (atL x.1.2.2.2.2.2.2.2.2.2.2.1 d0.1) (fun x1 => (cnd (ltI x1.1 1) (inR (inR (some (false, ())))) (cnd (ltI 16 x1.1) (inR (inR (some (false, ())))) (cnd (neI (remI .i64 (lenL x1.2.1) 32) 0) (inR (inR (some (false, ())))) (cnd (ltI (mulI .i64 x1.1 32) (lenL x1.2.1)) (inR (inR (some (false, ())))) (some (.inl ((addI .i64 d0.1 1), ()))))))))) (inR (some (.inl ()))))) 1000000000 (0, ())) (fun x2 => (some (true, ())))))))))))))))))))))
theorem x36 (x : D (.pair ty27 .un)) : fnS (cyF ct35 hiBc) 1000 (.pair ty27 .un) (.pair .bool .un) (((Tr.e).set 0 []).set 1 [.keep 88, .keep 89, .val 90 (.int .i64)]) Tryz.f36 x = F36 x := by kernel_rfl
theorem n36 : cxC.fn.get 36 = some Tryz.f36 := by kernel_rfl
theorem e36 : cxC.ext.get 36 = none := by kernel_rfl
noncomputable def ct36 : Tr Con := (ct35).set 36 ⟨(.pair ty27 .un), (.pair .bool .un), F36⟩
theorem k36 : CtOk ct36 := ct_set k35 (con_ok (cy := cyF ct35 hiBc) k35 n36 e36 x36)
/-- estoversref19.in -/
noncomputable def F110 (x : D (.pair (.int .i64) .un)) : Option (D (.pair .bool .un)) := (cnd (leI 0 x.1) (some ((leI x.1 1048576), ())) (some (false, ())))
theorem x110 (x : D (.pair (.int .i64) .un)) : fnS (cyF ct36 hiBc) 1000 (.pair (.int .i64) .un) (.pair .bool .un) (Tr.e) Tryz.f110 x = F110 x := by kernel_rfl
theorem n110 : cxC.fn.get 110 = some Tryz.f110 := by kernel_rfl
theorem e110 : cxC.ext.get 110 = none := by kernel_rfl
noncomputable def ct110 : Tr Con := (ct36).set 110 ⟨(.pair (.int .i64) .un), (.pair .bool .un), F110⟩
theorem k110 : CtOk ct110 := ct_set k36 (con_ok (cy := cyF ct36 hiBc) k36 n110 e110 x110)
/-- estoversref19.kids -/
noncomputable def F111 (x : D (.pair ty25 (.pair (.int .i64) .un))) : Option (D (.pair (.int .i64) .un)) := (bndS (loopS (fun d0 => (cnd (ltI d0.2.1 (lenL x.1)) (bnd (atL x.1 d0.2.1) (fun x1 => (cnd (eqI x1.1 x.2.1) (bnd (atL x.1 d0.2.1) (fun x2 => (some (.inl ((addI .i64 d0.1 x2.2.1), ((addI .i64 d0.2.1 1), ())))))) (some (.inl (d0.1, ((addI .i64 d0.2.1 1), ()))))))) (inR (some (.inl (d0.1, ())))))) 1000000000 (0, (1, ()))) (fun x3 => (some (x3.1, ()))))
theorem x111 (x : D (.pair ty25 (.pair (.int .i64) .un))) : fnS (cyF ct110 hiBc) 1000 (.pair ty25 (.pair (.int .i64) .un)) (.pair (.int .i64) .un) (((Tr.e).set 0 [.val 5 (.int .i64)]).set 1 [.keep 0, .keep 1, .val 5 (.int .i64), .val 6 (.int .i64)]) Tryz.f111 x = F111 x := by kernel_rfl
theorem n111 : cxC.fn.get 111 = some Tryz.f111 := by kernel_rfl
theorem e111 : cxC.ext.get 111 = none := by kernel_rfl
noncomputable def ct111 : Tr Con := (ct110).set 111 ⟨(.pair ty25 (.pair (.int .i64) .un)), (.pair (.int .i64) .un), F111⟩
theorem k111 : CtOk ct111 := ct_set k110 (con_ok (cy := cyF ct110 hiBc) k110 n111 e111 x111)
/-- estoversref19.Check -/
noncomputable def F37 (x : D (.pair ty25 .un)) : Option (D (.pair (.int .i64) .un)) := (cnd (ltI (lenL x.1) 1) (some (9, ())) (cnd (ltI 8 (lenL x.1)) (some (9, ())) (bndS (loopS (fun d0 => (cnd (ltI d0.1 (lenL x.1)) (cnd (eqI d0.1 0) (bnd (atL x.1 d0.1) (fun x1 => (cnd (neI x1.1 (-1)) (inR (inR (some (1, ())))) (cnd (ltI 0 d0.1) (bnd (atL x.1 d0.1) (fun x2 => (cnd (ltI x2.1 0) (inR (inR (some (1, ())))) (bnd (atL x.1 d0.1) (fun x3 => (cnd (leI d0.1 x3.1) (inR (inR (some (1, ())))) (some (.inl ((addI .i64 d0.1 1), ()))))))))) (some (.inl ((addI .i64 d0.1 1), ()))))))) (cnd (ltI 0 d0.1) (bnd (atL x.1 d0.1) (fun x4 => (cnd (ltI x4.1 0) (inR (inR (some (1, ())))) (bnd (atL x.1 d0.1) (fun x5 => (cnd (leI d0.1 x5.1) (inR (inR (some (1, ())))) (some (.inl ((addI .i64 d0.1 1), ()))))))))) (some (.inl ((addI .i64 d0.1 1), ()))))) (inR (some (.inl ()))))) 1000000000 (0, ())) (fun x6 => (bndS (loopS (fun d7 => (cnd (ltI d7.1 (lenL x.1)) (bnd (atL x.1 d7.1) (fun x8 => (bnd (F110 (x8.2.1, ())) (fun x9 => (cnd (notB x9.1) (inR (inR (some (2, ())))) (bnd (atL x.1 d7.1) (fun x10 => (bnd (F110 (x10.2.2.1, ())) (fun x11 => (cnd (notB x11.1) (inR (inR (some (2, ())))) (bnd (atL x.1 d7.1) (fun x12 => (bnd (F110 (x12.2.2.2.1, ())) (fun x13 => (cnd (notB x13.1) (inR (inR (some (2, ())))) (bnd (atL x.1 d7.1) (fun x14 => (bnd (F110 (x14.2.2.2.2.1, ())) (fun x15 => (cnd (notB x15.1) (inR (inR (some (2, ())))) (some (.inl ((addI .i64 d7.1 1), ()))))))))))))))))))))))) (inR (some (.inl ()))))) 1000000000 (0, ())) (fun x16 => (bnd (atL x.1 0) (fun x17 => (cnd (neI x17.2.2.1 0) (some (2, ())) (bnd (atL x.1 0) (fun x18 => (cnd (neI x18.2.2.2.1 0) (some (2, ())) (bndS (loopS (fun d19 => (cnd (ltI d19.1 (lenL x.1)) (bnd (atL x.1 d19.1) (fun x20 => (bnd (atL x.1 d19.1) (fun x21 => (cnd (ltI x21.2.2.2.2.1 x20.2.1) (inR (inR (some (17, ())))) (some (.inl ((addI .i64 d19.1 1), ())))))))) (inR (some (.inl ()))))) 1000000000 (0, ())) (fun x22 => (bndS (loopS (fun d23 => (cnd (ltI d23.1 (lenL x.1)) (bnd (atL x.1 d23.1) (fun x24 => (bnd (F111 (x.1, (d23.1, ()))) (fun x25 => (cnd (ltI x24.2.1 x25.1) (inR (inR (some (11, ())))) (some (.inl ((addI .i64 d23.1 1), ())))))))) (inR (some (.inl ()))))) 1000000000 (0, ())) (fun x26 => (some (0, ()))))))))))))))))))
theorem x37 (x : D (.pair ty25 .un)) : fnS (cyF ct111 hiBc) 1000 (.pair ty25 .un) (.pair (.int .i64) .un) (((((((((Tr.e).set 0 [.keep 0]).set 1 [.keep 0, .val 3 (.int .i64)]).set 4 [.keep 0]).set 5 [.keep 0, .val 4 (.int .i64)]).set 8 [.keep 0]).set 9 [.keep 0, .val 5 (.int .i64)]).set 12 []).set 13 [.keep 0, .val 6 (.int .i64)]) Tryz.f37 x = F37 x := by kernel_rfl
theorem n37 : cxC.fn.get 37 = some Tryz.f37 := by kernel_rfl
theorem e37 : cxC.ext.get 37 = none := by kernel_rfl
noncomputable def ct37 : Tr Con := (ct111).set 37 ⟨(.pair ty25 .un), (.pair (.int .i64) .un), F37⟩
theorem k37 : CtOk ct37 := ct_set k111 (con_ok (cy := cyF ct111 hiBc) k111 n37 e37 x37)
/-- estoversref47.Total -/
noncomputable def F38 (x : D (.pair ty27 .un)) : Option (D ty148) := (bndS (loopS (fun d0 => (cnd (ltI d0.2.2.1 (lenL x.1.2.1)) (bnd (atL x.1.2.1 d0.2.2.1) (fun x1 => (some (.inl ((addI .i64 d0.1 x1.2.2.1), ((addI .i64 d0.2.1 (subI .i64 x1.2.2.1 x1.2.2.2.1)), ((addI .i64 d0.2.2.1 1), ()))))))) (inR (some (.inl (d0.1, (d0.2.1, ()))))))) 1000000000 (0, (0, (0, ())))) (fun x2 => (some (x2.1, (x2.2.1, ())))))
theorem x38 (x : D (.pair ty27 .un)) : fnS (cyF ct37 hiBc) 1000 (.pair ty27 .un) ty148 (((Tr.e).set 0 [.val 4 (.int .i64), .val 5 (.int .i64)]).set 1 [.val 4 (.int .i64), .val 5 (.int .i64), .keep 9, .keep 10, .val 11 (.int .i64)]) Tryz.f38 x = F38 x := by kernel_rfl
theorem n38 : cxC.fn.get 38 = some Tryz.f38 := by kernel_rfl
theorem e38 : cxC.ext.get 38 = none := by kernel_rfl
noncomputable def ct38 : Tr Con := (ct37).set 38 ⟨(.pair ty27 .un), ty148, F38⟩
theorem k38 : CtOk ct38 := ct_set k37 (con_ok (cy := cyF ct37 hiBc) k37 n38 e38 x38)
/-- estoversref20.Overcommit -/
noncomputable def F39 (x : D (.pair ty25 (.pair (.int .i64) .un))) : Option (D ty148) := (bnd (F37 (x.1, ())) (fun x0 => (cnd (neI x0.1 0) (some (0, (x0.1, ()))) (cnd (ltI x.2.1 0) (some (0, (2, ()))) (cnd (ltI 1048576 x.2.1) (some (0, (2, ()))) (bndS (loopS (fun d1 => (cnd (ltI d1.1 (lenL x.1)) (bndS (bndS (loopS (fun d2 => (cnd (ltI d2.2.1 (lenL x.1)) (bnd (atL x.1 d2.2.1) (fun x3 => (cnd (eqI x3.1 d1.1) (bnd (atL x.1 d2.2.1) (fun x4 => (some (.inl ((addI .i64 d2.1 x4.2.2.1), ((addI .i64 d2.2.1 1), ())))))) (some (.inl (d2.1, ((addI .i64 d2.2.1 1), ()))))))) (inR (some (.inl (d2.1, ())))))) 1000000000 (0, ((addI .i64 d1.1 1), ()))) (fun x5 => (cnd (eqI d1.1 0) (cnd (ltI x.2.1 x5.1) (inR (inR (inR (some (d1.1, (0, ())))))) (cnd (ltI 0 d1.1) (bnd (atL x.1 d1.1) (fun x6 => (cnd (ltI x6.2.2.1 x5.1) (inR (inR (inR (some (d1.1, (0, ())))))) (some (.inl ()))))) (some (.inl ())))) (cnd (ltI 0 d1.1) (bnd (atL x.1 d1.1) (fun x7 => (cnd (ltI x7.2.2.1 x5.1) (inR (inR (inR (some (d1.1, (0, ())))))) (some (.inl ()))))) (some (.inl ())))))) (fun x8 => (some (.inl ((addI .i64 d1.1 1), ()))))) (inR (some (.inl ()))))) 1000000000 (0, ())) (fun x9 => (some ((-1), (0, ()))))))))))
theorem x39 (x : D (.pair ty25 (.pair (.int .i64) .un))) : fnS (cyF ct38 hiBc) 1000 (.pair ty25 (.pair (.int .i64) .un)) ty148 ((((((Tr.e).set 0 []).set 1 [.keep 0, .keep 1, .val 7 (.int .i64)]).set 2 [.keep 0, .keep 1, .keep 7]).set 4 [.keep 0, .keep 1, .keep 7, .val 8 (.int .i64)]).set 5 [.keep 0, .keep 1, .keep 7, .val 8 (.int .i64), .val 9 (.int .i64)]) Tryz.f39 x = F39 x := by kernel_rfl
theorem n39 : cxC.fn.get 39 = some Tryz.f39 := by kernel_rfl
theorem e39 : cxC.ext.get 39 = none := by kernel_rfl
noncomputable def ct39 : Tr Con := (ct38).set 39 ⟨(.pair ty25 (.pair (.int .i64) .un)), ty148, F39⟩
theorem k39 : CtOk ct39 := ct_set k38 (con_ok (cy := cyF ct38 hiBc) k38 n39 e39 x39)
/-- estoversref45.in -/
noncomputable def F112 (x : D (.pair (.int .i64) ty148)) : Option (D (.pair .bool .un)) := (cnd (leI x.2.1 x.1) (some ((leI x.1 x.2.2.1), ())) (some (false, ())))
theorem x112 (x : D (.pair (.int .i64) ty148)) : fnS (cyF ct39 hiBc) 1000 (.pair (.int .i64) ty148) (.pair .bool .un) (Tr.e) Tryz.f112 x = F112 x := by kernel_rfl
theorem n112 : cxC.fn.get 112 = some Tryz.f112 := by kernel_rfl
theorem e112 : cxC.ext.get 112 = none := by kernel_rfl
noncomputable def ct112 : Tr Con := (ct39).set 112 ⟨(.pair (.int .i64) ty148), (.pair .bool .un), F112⟩
theorem k112 : CtOk ct112 := ct_set k39 (con_ok (cy := cyF ct39 hiBc) k39 n112 e112 x112)
/-- estoversref45.used -/
noncomputable def F113 (x : D (.pair ty151 .un)) : Option (D (.pair ty151 .un)) := (cnd (eqI x.1.1 1) (some ((x.1.1, (x.1.2.1, (x.1.2.2.1, (x.1.2.2.2.1, (0, (x.1.2.2.2.2.2.1, (x.1.2.2.2.2.2.2.1, (x.1.2.2.2.2.2.2.2.1, ())))))))), ())) (cnd (eqI x.1.1 2) (some ((x.1.1, (x.1.2.1, (x.1.2.2.1, (0, (0, (0, (0, (0, ())))))))), ())) (cnd (eqI x.1.1 3) (some ((x.1.1, (x.1.2.1, (x.1.2.2.1, (0, (0, (0, (x.1.2.2.2.2.2.2.1, (0, ())))))))), ())) (cnd (eqI x.1.1 4) (some ((x.1.1, (x.1.2.1, (x.1.2.2.1, (0, (x.1.2.2.2.2.1, (0, (0, (0, ())))))))), ())) (cnd (eqI x.1.1 5) (some ((x.1.1, (x.1.2.1, (0, (x.1.2.2.2.1, (0, (0, (0, (0, ())))))))), ())) (cnd (eqI x.1.1 6) (some ((x.1.1, (x.1.2.1, (0, (x.1.2.2.2.1, (x.1.2.2.2.2.1, (0, (0, (0, ())))))))), ())) (cnd (eqI x.1.1 7) (some ((x.1.1, (x.1.2.1, (0, (x.1.2.2.2.1, (0, (x.1.2.2.2.2.2.1, (0, (0, ())))))))), ())) (cnd (eqI x.1.1 8) (some ((x.1.1, (x.1.2.1, (0, (x.1.2.2.2.1, (x.1.2.2.2.2.1, (x.1.2.2.2.2.2.1, (0, (0, ())))))))), ())) (cnd (eqI x.1.1 9) (some ((x.1.1, (0, (x.1.2.2.1, (0, (0, (x.1.2.2.2.2.2.1, (0, (0, ())))))))), ())) (cnd (eqI x.1.1 10) (some ((x.1.1, (0, (0, (0, (0, (x.1.2.2.2.2.2.1, (0, (0, ())))))))), ())) (cnd (eqI x.1.1 11) (some ((x.1.1, (0, (0, (0, (x.1.2.2.2.2.1, (0, (0, (0, ())))))))), ())) (some ((x.1.1, (0, (0, (0, (0, (0, (0, (0, ())))))))), ())))))))))))))
theorem x113 (x : D (.pair ty151 .un)) : fnS (cyF ct112 hiBc) 1000 (.pair ty151 .un) (.pair ty151 .un) (Tr.e) Tryz.f113 x = F113 x := by kernel_rfl
theorem n113 : cxC.fn.get 113 = some Tryz.f113 := by kernel_rfl
theorem e113 : cxC.ext.get 113 = none := by kernel_rfl
noncomputable def ct113 : Tr Con := (ct112).set 113 ⟨(.pair ty151 .un), (.pair ty151 .un), F113⟩
theorem k113 : CtOk ct113 := ct_set k112 (con_ok (cy := cyF ct112 hiBc) k112 n113 e113 x113)
/-- estoversref45.memory -/
noncomputable def F184 (x : D (.pair ty151 .un)) : Option (D (.pair .bool .un)) := (bnd (F112 (x.1.2.1, (0, (511, ())))) (fun x0 => (bnd (F112 (x.1.2.2.1, (1, (512, ())))) (fun x1 => (cnd (eqI x.1.2.2.2.2.2.2.1 1) (cnd (eqI x.1.1 1) (bnd (F112 (x.1.2.2.2.2.2.1, ((-1), (3, ())))) (fun x2 => (cnd x2.1 (bnd (F112 (x.1.2.2.2.1, (0, (15, ())))) (fun x3 => (cnd x3.1 (cnd (leI 0 x.1.2.2.2.2.2.1) (bnd (F112 (x.1.2.1, ((-1), (511, ())))) (fun x4 => (cnd x4.1 (cnd x1.1 (bnd (F112 (x.1.2.2.2.2.2.2.2.1, (0, (15, ())))) (fun x5 => (cnd x5.1 (some (true, ())) (some (false, ()))))) (some (false, ()))) (some (false, ()))))) (bnd (F112 (x.1.2.1, ((-1), (511, ())))) (fun x6 => (cnd x6.1 (cnd x1.1 (bnd (F112 (x.1.2.2.2.2.2.2.2.1, (0, (15, ())))) (fun x7 => (cnd x7.1 (some ((eqI x.1.2.2.2.1 0), ())) (some (false, ()))))) (some (false, ()))) (some (false, ())))))) (bnd (F112 (x.1.2.1, ((-1), (511, ())))) (fun x8 => (cnd x8.1 (cnd x1.1 (bnd (F112 (x.1.2.2.2.2.2.2.2.1, (0, (15, ())))) (fun x9 => (cnd x9.1 (some (false, ())) (some (false, ()))))) (some (false, ()))) (some (false, ())))))))) (bnd (F112 (x.1.2.1, ((-1), (511, ())))) (fun x10 => (cnd x10.1 (cnd x1.1 (bnd (F112 (x.1.2.2.2.2.2.2.2.1, (0, (15, ())))) (fun x11 => (cnd x11.1 (some (false, ())) (some (false, ()))))) (some (false, ()))) (some (false, ())))))))) (cnd (eqI x.1.1 2) (cnd x0.1 (some (x1.1, ())) (some (false, ()))) (cnd (eqI x.1.1 3) (cnd x0.1 (cnd x1.1 (some (true, ())) (some (false, ()))) (some (false, ()))) (cnd (eqI x.1.1 4) (cnd x0.1 (cnd x1.1 (bnd (F112 (x.1.2.2.2.2.1, (0, (1, ())))) (fun x12 => (some (x12.1, ())))) (some (false, ()))) (some (false, ()))) (cnd (eqI x.1.1 5) (cnd x0.1 (bnd (F112 (x.1.2.2.2.1, (0, (31, ())))) (fun x13 => (some (x13.1, ())))) (some (false, ()))) (cnd x0.1 (bnd (F112 (x.1.2.2.2.1, (0, (31, ())))) (fun x14 => (cnd x14.1 (bnd (F112 (x.1.2.2.2.2.1, (0, (255, ())))) (fun x15 => (some (x15.1, ())))) (some (false, ()))))) (some (false, ())))))))) (cnd (eqI x.1.1 1) (bnd (F112 (x.1.2.2.2.2.2.1, ((-1), (3, ())))) (fun x16 => (cnd x16.1 (bnd (F112 (x.1.2.2.2.1, (0, (15, ())))) (fun x17 => (cnd x17.1 (cnd (leI 0 x.1.2.2.2.2.2.1) (bnd (F112 (x.1.2.1, ((-1), (511, ())))) (fun x18 => (cnd x18.1 (cnd x1.1 (cnd (eqI x.1.2.2.2.2.2.2.1 3) (bnd (F112 (x.1.2.2.2.2.2.2.2.1, (0, (15, ())))) (fun x19 => (cnd x19.1 (some (true, ())) (some (false, ()))))) (some (false, ()))) (some (false, ()))) (some (false, ()))))) (bnd (F112 (x.1.2.1, ((-1), (511, ())))) (fun x20 => (cnd x20.1 (cnd x1.1 (cnd (eqI x.1.2.2.2.2.2.2.1 3) (bnd (F112 (x.1.2.2.2.2.2.2.2.1, (0, (15, ())))) (fun x21 => (cnd x21.1 (some ((eqI x.1.2.2.2.1 0), ())) (some (false, ()))))) (some (false, ()))) (some (false, ()))) (some (false, ())))))) (bnd (F112 (x.1.2.1, ((-1), (511, ())))) (fun x22 => (cnd x22.1 (cnd x1.1 (cnd (eqI x.1.2.2.2.2.2.2.1 3) (bnd (F112 (x.1.2.2.2.2.2.2.2.1, (0, (15, ())))) (fun x23 => (cnd x23.1 (some (false, ())) (some (false, ()))))) (some (false, ()))) (some (false, ()))) (some (false, ())))))))) (bnd (F112 (x.1.2.1, ((-1), (511, ())))) (fun x24 => (cnd x24.1 (cnd x1.1 (cnd (eqI x.1.2.2.2.2.2.2.1 3) (bnd (F112 (x.1.2.2.2.2.2.2.2.1, (0, (15, ())))) (fun x25 => (cnd x25.1 (some (false, ())) (some (false, ()))))) (some (false, ()))) (some (false, ()))) (some (false, ())))))))) (cnd (eqI x.1.1 2) (cnd x0.1 (some (x1.1, ())) (some (false, ()))) (cnd (eqI x.1.1 3) (cnd x0.1 (cnd x1.1 (some ((eqI x.1.2.2.2.2.2.2.1 3), ())) (some (false, ()))) (some (false, ()))) (cnd (eqI x.1.1 4) (cnd x0.1 (cnd x1.1 (bnd (F112 (x.1.2.2.2.2.1, (0, (1, ())))) (fun x26 => (some (x26.1, ())))) (some (false, ()))) (some (false, ()))) (cnd (eqI x.1.1 5) (cnd x0.1 (bnd (F112 (x.1.2.2.2.1, (0, (31, ())))) (fun x27 => (some (x27.1, ())))) (some (false, ()))) (cnd x0.1 (bnd (F112 (x.1.2.2.2.1, (0, (31, ())))) (fun x28 => (cnd x28.1 (bnd (F112 (x.1.2.2.2.2.1, (0, (255, ())))) (fun x29 => (some (x29.1, ())))) (some (false, ()))))) (some (false, ())))))))))))))
theorem x184 (x : D (.pair ty151 .un)) : fnS (cyF ct113 hiBc) 1000 (.pair ty151 .un) (.pair .bool .un) (Tr.e) Tryz.f184 x = F184 x := by kernel_rfl
theorem n184 : cxC.fn.get 184 = some Tryz.f184 := by kernel_rfl
theorem e184 : cxC.ext.get 184 = none := by kernel_rfl
noncomputable def ct184 : Tr Con := (ct113).set 184 ⟨(.pair ty151 .un), (.pair .bool .un), F184⟩
theorem k184 : CtOk ct184 := ct_set k113 (con_ok (cy := cyF ct113 hiBc) k113 n184 e184 x184)
/-- estoversref45.ranges -/
noncomputable def F114 (x : D (.pair ty151 .un)) : Option (D (.pair .bool .un)) := (bnd (F112 (x.1.2.2.2.2.2.1, (0, (3, ())))) (fun x0 => (cnd x0.1 (bnd (F112 (x.1.2.1, (0, (15, ())))) (fun x1 => (cnd x1.1 (bnd (F112 (x.1.2.2.2.1, (0, (31, ())))) (fun x2 => (cnd (eqI x.1.1 7) (some (x2.1, ())) (cnd (eqI x.1.1 8) (cnd x2.1 (bnd (F112 (x.1.2.2.2.2.1, (0, (255, ())))) (fun x3 => (some (x3.1, ())))) (some (false, ()))) (cnd (eqI x.1.1 9) (cnd x0.1 (bnd (F112 (x.1.2.2.1, (0, (16, ())))) (fun x4 => (some (x4.1, ())))) (some (false, ()))) (cnd (eqI x.1.1 10) (some (x0.1, ())) (cnd (eqI x.1.1 11) (bnd (F112 (x.1.2.2.2.2.1, (0, (48, ())))) (fun x5 => (some (x5.1, ())))) (cnd (eqI x.1.1 12) (some (true, ())) (bnd (F184 (x.1, ())) (fun x6 => (some (x6.1, ())))))))))))) (cnd (eqI x.1.1 7) (some (false, ())) (cnd (eqI x.1.1 8) (some (false, ())) (cnd (eqI x.1.1 9) (cnd x0.1 (bnd (F112 (x.1.2.2.1, (0, (16, ())))) (fun x7 => (some (x7.1, ())))) (some (false, ()))) (cnd (eqI x.1.1 10) (some (x0.1, ())) (cnd (eqI x.1.1 11) (bnd (F112 (x.1.2.2.2.2.1, (0, (48, ())))) (fun x8 => (some (x8.1, ())))) (cnd (eqI x.1.1 12) (some (true, ())) (bnd (F184 (x.1, ())) (fun x9 => (some (x9.1, ()))))))))))))) (cnd (eqI x.1.1 7) (some (false, ())) (cnd (eqI x.1.1 8) (some (false, ())) (cnd (eqI x.1.1 9) (cnd x0.1 (bnd (F112 (x.1.2.2.1, (0, (16, ())))) (fun x10 => (some (x10.1, ())))) (some (false, ()))) (cnd (eqI x.1.1 10) (some (x0.1, ())) (cnd (eqI x.1.1 11) (bnd (F112 (x.1.2.2.2.2.1, (0, (48, ())))) (fun x11 => (some (x11.1, ())))) (cnd (eqI x.1.1 12) (some (true, ())) (bnd (F184 (x.1, ())) (fun x12 => (some (x12.1, ())))))))))))))
theorem x114 (x : D (.pair ty151 .un)) : fnS (cyF ct184 hiBc) 1000 (.pair ty151 .un) (.pair .bool .un) (Tr.e) Tryz.f114 x = F114 x := by kernel_rfl
theorem n114 : cxC.fn.get 114 = some Tryz.f114 := by kernel_rfl
theorem e114 : cxC.ext.get 114 = none := by kernel_rfl
noncomputable def ct114 : Tr Con := (ct184).set 114 ⟨(.pair ty151 .un), (.pair .bool .un), F114⟩
theorem k114 : CtOk ct114 := ct_set k184 (con_ok (cy := cyF ct184 hiBc) k184 n114 e114 x114)
/-- estoversref45.Check -/
noncomputable def F40 (x : D (.pair ty72 .un)) : Option (D (.pair (.int .i64) .un)) := (cnd (ltI 48 (lenL x.1)) (some (9, ())) (bndS (loopS (fun d0 => (cnd (ltI d0.1 (lenL x.1)) (bnd (atL x.1 d0.1) (fun x1 => (bnd (F112 (x1.1, (1, (12, ())))) (fun x2 => (cnd (notB x2.1) (inR (inR (some (1, ())))) (bnd (atL x.1 d0.1) (fun x3 => (bnd (atL x.1 d0.1) (fun x4 => (bnd (F113 (x3, ())) (fun x5 => (cnd (notB (andB (eqI x5.1.1 x4.1) (andB (eqI x5.1.2.1 x4.2.1) (andB (eqI x5.1.2.2.1 x4.2.2.1) (andB (eqI x5.1.2.2.2.1 x4.2.2.2.1) (andB (eqI x5.1.2.2.2.2.1 x4.2.2.2.2.1) (andB (eqI x5.1.2.2.2.2.2.1 x4.2.2.2.2.2.1) (andB (eqI x5.1.2.2.2.2.2.2.1 x4.2.2.2.2.2.2.1) (andB (eqI x5.1.2.2.2.2.2.2.2.1 x4.2.2.2.2.2.2.2.1) true))))))))) (inR (inR (some (1, ())))) (bnd (atL x.1 d0.1) (fun x6 => (bnd (F114 (x6, ())) (fun x7 => (cnd (notB x7.1) (inR (inR (some (2, ())))) (some (.inl ((addI .i64 d0.1 1), ())))))))))))))))))))) (inR (some (.inl ()))))) 1000000000 (0, ())) (fun x8 => (some (0, ())))))
theorem x40 (x : D (.pair ty72 .un)) : fnS (cyF ct114 hiBc) 1000 (.pair ty72 .un) (.pair (.int .i64) .un) (((Tr.e).set 0 []).set 1 [.keep 0, .val 3 (.int .i64)]) Tryz.f40 x = F40 x := by kernel_rfl
theorem n40 : cxC.fn.get 40 = some Tryz.f40 := by kernel_rfl
theorem e40 : cxC.ext.get 40 = none := by kernel_rfl
noncomputable def ct40 : Tr Con := (ct114).set 40 ⟨(.pair ty72 .un), (.pair (.int .i64) .un), F40⟩
theorem k40 : CtOk ct40 := ct_set k114 (con_ok (cy := cyF ct114 hiBc) k114 n40 e40 x40)
/-- estoversref47.Check -/
noncomputable def F13 (x : D (.pair ty27 .un)) : Option (D (.pair (.int .i64) .un)) := (bnd (F35 (x.1, ())) (fun x0 => (cnd (notB x0.1) (some (1, ())) (bnd (F36 (x.1, ())) (fun x1 => (cnd (notB x1.1) (some (1, ())) (bnd (F37 (x.1.2.2.2.2.2.2.2.2.2.2.2.1, ())) (fun x2 => (cnd (neI x2.1 0) (some (x2.1, ())) (bndS (loopS (fun d3 => (cnd (ltI d3.1 (lenL x.1.2.2.2.2.2.2.2.2.2.2.2.1)) (bnd (atL x.1.2.2.2.2.2.2.2.2.2.2.2.1 d3.1) (fun x4 => (cnd (neI x4.2.1 0) (inR (inR (some (1, ())))) (some (.inl ((addI .i64 d3.1 1), ())))))) (inR (some (.inl ()))))) 1000000000 (0, ())) (fun x5 => (bnd (F38 (x.1, ())) (fun x6 => (cnd (ltI (subI .i64 (subI .i64 x6.2.1 x.1.2.2.2.2.2.2.2.1) 1) 0) (some (18, ())) (bnd (F39 (x.1.2.2.2.2.2.2.2.2.2.2.2.1, ((subI .i64 (subI .i64 x6.2.1 x.1.2.2.2.2.2.2.2.1) 1), ()))) (fun x7 => (cnd (neI x7.2.1 0) (some (18, ())) (cnd (neI x7.1 (-1)) (some (18, ())) (cnd (ltI (lenL x.1.2.2.2.2.2.2.2.2.2.2.2.2.1) 1) (some (1, ())) (cnd (ltI 8 (lenL x.1.2.2.2.2.2.2.2.2.2.2.2.2.1)) (some (1, ())) (bndS (loopS (fun d8 => (cnd (ltI d8.1 (lenL x.1.2.2.2.2.2.2.2.2.2.2.2.2.1)) (bnd (atL x.1.2.2.2.2.2.2.2.2.2.2.2.2.1 d8.1) (fun x9 => (bnd (F40 (x9.2.1, ())) (fun x10 => (cnd (neI x10.1 0) (inR (inR (some (x10.1, ())))) (cnd (ltI x9.1 0) (inR (inR (some (2, ())))) (cnd (leI (lenL x.1.2.2.2.2.2.2.2.2.2.2.2.1) x9.1) (inR (inR (some (2, ())))) (some (.inl ((addI .i64 d8.1 1), ())))))))))) (inR (some (.inl ()))))) 1000000000 (0, ())) (fun x11 => (some (0, ()))))))))))))))))))))))))
theorem x13 (x : D (.pair ty27 .un)) : fnS (cyF ct40 hiBc) 1000 (.pair ty27 .un) (.pair (.int .i64) .un) (((((Tr.e).set 0 [.keep 1]).set 1 [.keep 1, .keep 29, .keep 30, .val 31 (.int .i64)]).set 4 []).set 5 [.keep 1, .keep 75, .keep 76, .val 77 (.int .i64)]) Tryz.f13 x = F13 x := by kernel_rfl
theorem n13 : cxC.fn.get 13 = some Tryz.f13 := by kernel_rfl
theorem e13 : cxC.ext.get 13 = none := by kernel_rfl
noncomputable def ct13 : Tr Con := (ct40).set 13 ⟨(.pair ty27 .un), (.pair (.int .i64) .un), F13⟩
theorem k13 : CtOk ct13 := ct_set k40 (con_ok (cy := cyF ct40 hiBc) k40 n13 e13 x13)
/-- estoverslaw47.BootChecks -/
noncomputable def F3 (x : D (.pair ty27 .un)) : Option (D (.pair .bool .un)) := (bnd (F10 (x.1, ())) (fun x0 => (cnd (notB x0.1) (some (true, ())) (bnd (F12 (x.1, ())) (fun x1 => (bnd (F13 (x.1, ())) (fun x2 => (cnd (eqI x1.1 x2.1) (some (true, ())) (some (false, ()))))))))))
theorem x3 (x : D (.pair ty27 .un)) : fnS (cyF ct13 hiBc) 1000 (.pair ty27 .un) (.pair .bool .un) (Tr.e) Tryz.f3 x = F3 x := by kernel_rfl
theorem n3 : cxC.fn.get 3 = some Tryz.f3 := by kernel_rfl
theorem e3 : cxC.ext.get 3 = none := by kernel_rfl
noncomputable def ct3 : Tr Con := (ct13).set 3 ⟨(.pair ty27 .un), (.pair .bool .un), F3⟩
theorem k3 : CtOk ct3 := ct_set k13 (con_ok (cy := cyF ct13 hiBc) k13 n3 e3 x3)
end Go.Bo
namespace Go.Bo
open Go Go.Hm Go.Ls Go.Proofs
noncomputable def hiBk : Tr (Tr (List Hi)) := ((((((Tr.e).set 182 (((Tr.e).set 0 []).set 1 [.keep 0, .keep 1, .keep 7, .val 8 (.int .i64)])).set 106 (Tr.e)).set 179 (Tr.e)).set 107 (Tr.e)).set 116 (((Tr.e).set 0 [.own 5 (.int .i64)]).set 1 [.keep 1, .own 5 (.int .i64), .keep 8, .keep 9, .val 10 (.int .i64)])).set 117 (Tr.e)
/-- inode.size -/
noncomputable def F185 (x : D (.pair (.int .i64) .un)) : Option (D (.pair .bool .un)) := (cnd (leI 0 x.1) (some ((leI x.1 16), ())) (some (false, ())))
theorem x185 (x : D (.pair (.int .i64) .un)) : fnS (cyF ct3 hiBk) 1000 (.pair (.int .i64) .un) (.pair .bool .un) (Tr.e) Tryz.f185 x = F185 x := by kernel_rfl
theorem n185 : cxC.fn.get 185 = some Tryz.f185 := by kernel_rfl
theorem e185 : cxC.ext.get 185 = none := by kernel_rfl
noncomputable def ct185 : Tr Con := (ct3).set 185 ⟨(.pair (.int .i64) .un), (.pair .bool .un), F185⟩
theorem k185 : CtOk ct185 := ct_set k3 (con_ok (cy := cyF ct3 hiBk) k3 n185 e185 x185)
/-- inode.Layout -/
noncomputable def F115 (x : D (.pair (.list (.int .i64)) (.pair (.int .i64) .un))) : Option (D (.pair (.list (.int .i64)) (.pair (.int .i64) .un))) := (cnd (ltI 4 (lenL x.1)) (some ([], (9, ()))) (bndS (loopS (fun d0 => (cnd (ltI d0.2.2.1 (lenL x.1)) (bnd (atL x.1 d0.2.2.1) (fun x1 => (cnd (ltI x1 1) (inR (inR (some ([], (2, ()))))) (bnd (F185 (x1, ())) (fun x2 => (cnd (notB x2.1) (inR (inR (some ([], (2, ()))))) (chk (roomL d0.2.1 (d0.1 :: []) 8) (some (.inl ((addI .i64 d0.1 (addI .i64 1 x1)), ((appL d0.2.1 (d0.1 :: [])), ((addI .i64 d0.2.2.1 1), ())))))))))))) (inR (some (.inl (d0.1, (d0.2.1, ()))))))) 1000000000 (0, ([], (0, ())))) (fun x3 => (cnd (ltI x.2.1 0) (some ([], (2, ()))) (cnd (ltI 64 x.2.1) (some ([], (2, ()))) (chk (roomL x3.2.1 (x3.1 :: ((addI .i64 x3.1 x.2.1) :: [])) 8) (some ((appL x3.2.1 (x3.1 :: ((addI .i64 x3.1 x.2.1) :: []))), (0, ())))))))))
theorem x115 (x : D (.pair (.list (.int .i64)) (.pair (.int .i64) .un))) : fnS (cyF ct185 hiBk) 1000 (.pair (.list (.int .i64)) (.pair (.int .i64) .un)) (.pair (.list (.int .i64)) (.pair (.int .i64) .un)) (((Tr.e).set 0 [.keep 1, .val 6 (.int .i64), .own 7 (.int .i64)]).set 1 [.keep 1, .val 6 (.int .i64), .own 7 (.int .i64), .keep 13, .keep 14, .val 15 (.int .i64)]) Tryz.f115 x = F115 x := by kernel_rfl
theorem n115 : cxC.fn.get 115 = some Tryz.f115 := by kernel_rfl
theorem e115 : cxC.ext.get 115 = none := by kernel_rfl
noncomputable def ct115 : Tr Con := (ct185).set 115 ⟨(.pair (.list (.int .i64)) (.pair (.int .i64) .un)), (.pair (.list (.int .i64)) (.pair (.int .i64) .un)), F115⟩
theorem k115 : CtOk ct115 := ct_set k185 (con_ok (cy := cyF ct185 hiBk) k185 n115 e115 x115)
/-- boot.layout -/
noncomputable def F41 (x : D (.pair ty27 .un)) : Option (D (.pair (.list (.int .i64)) .un)) := (bndS (loopS (fun d0 => (cnd (ltI d0.2.1 (lenL x.1.2.2.2.2.2.2.2.2.2.2.1)) (bnd (atL x.1.2.2.2.2.2.2.2.2.2.2.1 d0.2.1) (fun x1 => (chk (roomL d0.1 (x1.1 :: []) 8) (some (.inl ((appL d0.1 (x1.1 :: [])), ((addI .i64 d0.2.1 1), ()))))))) (inR (some (.inl (d0.1, ())))))) 1000000000 ([], (0, ()))) (fun x2 => (bnd (F115 (x2.1, (x.1.2.2.2.2.2.2.1, ()))) (fun x3 => (some (x3.1, ()))))))
theorem x41 (x : D (.pair ty27 .un)) : fnS (cyF ct115 hiBk) 1000 (.pair ty27 .un) (.pair (.list (.int .i64)) .un) (Tr.e) Tryz.f41 x = F41 x := by kernel_rfl
theorem n41 : cxC.fn.get 41 = some Tryz.f41 := by kernel_rfl
theorem e41 : cxC.ext.get 41 = none := by kernel_rfl
noncomputable def ct41 : Tr Con := (ct115).set 41 ⟨(.pair ty27 .un), (.pair (.list (.int .i64)) .un), F41⟩
theorem k41 : CtOk ct41 := ct_set k115 (con_ok (cy := cyF ct115 hiBk) k115 n41 e41 x41)
/-- boot.Inode -/
noncomputable def F17 (x : D (.pair ty27 (.pair (.int .i64) .un))) : Option (D (.pair (.int .i64) .un)) := (bnd (F12 (x.1, ())) (fun x0 => (cnd (neI x0.1 0) (some ((-1), ())) (bnd (F42 (x.2.1, (0, ((subI .i64 (lenL x.1.2.2.2.2.2.2.2.2.2.2.1) 1), ())))) (fun x1 => (cnd (notB x1.1) (some ((-1), ())) (bnd (F41 (x.1, ())) (fun x2 => (bnd (atL x2.1 x.2.1) (fun x3 => (some (x3, ()))))))))))))
theorem x17 (x : D (.pair ty27 (.pair (.int .i64) .un))) : fnS (cyF ct41 hiBk) 1000 (.pair ty27 (.pair (.int .i64) .un)) (.pair (.int .i64) .un) (Tr.e) Tryz.f17 x = F17 x := by kernel_rfl
theorem n17 : cxC.fn.get 17 = some Tryz.f17 := by kernel_rfl
theorem e17 : cxC.ext.get 17 = none := by kernel_rfl
noncomputable def ct17 : Tr Con := (ct41).set 17 ⟨(.pair ty27 (.pair (.int .i64) .un)), (.pair (.int .i64) .un), F17⟩
theorem k17 : CtOk ct17 := ct_set k41 (con_ok (cy := cyF ct41 hiBk) k41 n17 e17 x17)
/-- estoversref27.Layout -/
noncomputable def F140 (x : D (.pair (.list (.int .i64)) (.pair (.int .i64) .un))) : Option (D (.pair (.list (.int .i64)) (.pair (.int .i64) .un))) := (cnd (ltI 4 (lenL x.1)) (some ([], (9, ()))) (bndS (loopS (fun d0 => (cnd (ltI d0.2.2.1 (lenL x.1)) (bnd (atL x.1 d0.2.2.1) (fun x1 => (cnd (ltI x1 1) (inR (inR (some ([], (2, ()))))) (bnd (atL x.1 d0.2.2.1) (fun x2 => (cnd (ltI 16 x2) (inR (inR (some ([], (2, ()))))) (chk (roomL d0.1 (d0.2.1 :: []) 8) (bnd (atL x.1 d0.2.2.1) (fun x3 => (some (.inl ((appL d0.1 (d0.2.1 :: [])), ((addI .i64 d0.2.1 (addI .i64 1 x3)), ((addI .i64 d0.2.2.1 1), ())))))))))))))) (inR (some (.inl (d0.1, (d0.2.1, ()))))))) 1000000000 ([], (0, (0, ())))) (fun x4 => (cnd (ltI x.2.1 0) (some ([], (2, ()))) (cnd (ltI 64 x.2.1) (some ([], (2, ()))) (chk (roomL x4.1 (x4.2.1 :: ((addI .i64 x4.2.1 x.2.1) :: [])) 8) (some ((appL x4.1 (x4.2.1 :: ((addI .i64 x4.2.1 x.2.1) :: []))), (0, ())))))))))
theorem x140 (x : D (.pair (.list (.int .i64)) (.pair (.int .i64) .un))) : fnS (cyF ct17 hiBk) 1000 (.pair (.list (.int .i64)) (.pair (.int .i64) .un)) (.pair (.list (.int .i64)) (.pair (.int .i64) .un)) (((Tr.e).set 0 [.keep 1, .own 6 (.int .i64), .val 7 (.int .i64)]).set 1 [.keep 0, .keep 1, .own 6 (.int .i64), .val 7 (.int .i64), .val 8 (.int .i64)]) Tryz.f140 x = F140 x := by kernel_rfl
theorem n140 : cxC.fn.get 140 = some Tryz.f140 := by kernel_rfl
theorem e140 : cxC.ext.get 140 = none := by kernel_rfl
noncomputable def ct140 : Tr Con := (ct17).set 140 ⟨(.pair (.list (.int .i64)) (.pair (.int .i64) .un)), (.pair (.list (.int .i64)) (.pair (.int .i64) .un)), F140⟩
theorem k140 : CtOk ct140 := ct_set k17 (con_ok (cy := cyF ct17 hiBk) k17 n140 e140 x140)
/-- estoversref47.layout -/
noncomputable def F56 (x : D (.pair ty27 .un)) : Option (D (.pair (.list (.int .i64)) .un)) := (bndS (loopS (fun d0 => (cnd (ltI d0.2.1 (lenL x.1.2.2.2.2.2.2.2.2.2.2.1)) (bnd (atL x.1.2.2.2.2.2.2.2.2.2.2.1 d0.2.1) (fun x1 => (chk (roomL d0.1 (x1.1 :: []) 8) (some (.inl ((appL d0.1 (x1.1 :: [])), ((addI .i64 d0.2.1 1), ()))))))) (inR (some (.inl (d0.1, ())))))) 1000000000 ([], (0, ()))) (fun x2 => (bnd (F140 (x2.1, (x.1.2.2.2.2.2.2.1, ()))) (fun x3 => (some (x3.1, ()))))))
theorem x56 (x : D (.pair ty27 .un)) : fnS (cyF ct140 hiBk) 1000 (.pair ty27 .un) (.pair (.list (.int .i64)) .un) (((Tr.e).set 0 [.keep 1, .own 3 (.int .i64)]).set 1 [.keep 1, .own 3 (.int .i64), .keep 9, .keep 10, .val 11 (.int .i64)]) Tryz.f56 x = F56 x := by kernel_rfl
theorem n56 : cxC.fn.get 56 = some Tryz.f56 := by kernel_rfl
theorem e56 : cxC.ext.get 56 = none := by kernel_rfl
noncomputable def ct56 : Tr Con := (ct140).set 56 ⟨(.pair ty27 .un), (.pair (.list (.int .i64)) .un), F56⟩
theorem k56 : CtOk ct56 := ct_set k140 (con_ok (cy := cyF ct140 hiBk) k140 n56 e56 x56)
/-- estoversref47.Inode -/
noncomputable def F18 (x : D (.pair ty27 (.pair (.int .i64) .un))) : Option (D (.pair (.int .i64) .un)) := (bnd (F13 (x.1, ())) (fun x0 => (cnd (neI x0.1 0) (some ((-1), ())) (cnd (ltI x.2.1 0) (some ((-1), ())) (cnd (leI (lenL x.1.2.2.2.2.2.2.2.2.2.2.1) x.2.1) (some ((-1), ())) (bnd (F56 (x.1, ())) (fun x1 => (bnd (atL x1.1 x.2.1) (fun x2 => (some (x2, ())))))))))))
theorem x18 (x : D (.pair ty27 (.pair (.int .i64) .un))) : fnS (cyF ct56 hiBk) 1000 (.pair ty27 (.pair (.int .i64) .un)) (.pair (.int .i64) .un) (Tr.e) Tryz.f18 x = F18 x := by kernel_rfl
theorem n18 : cxC.fn.get 18 = some Tryz.f18 := by kernel_rfl
theorem e18 : cxC.ext.get 18 = none := by kernel_rfl
noncomputable def ct18 : Tr Con := (ct56).set 18 ⟨(.pair ty27 (.pair (.int .i64) .un)), (.pair (.int .i64) .un), F18⟩
theorem k18 : CtOk ct18 := ct_set k56 (con_ok (cy := cyF ct56 hiBk) k56 n18 e18 x18)
/-- boot.Page -/
noncomputable def F19 (x : D (.pair ty27 ty148)) : Option (D (.pair (.int .i64) .un)) := (bnd (F12 (x.1, ())) (fun x0 => (cnd (neI x0.1 0) (some ((-1), ())) (bnd (F42 (x.2.1, (0, ((subI .i64 (lenL x.1.2.2.2.2.2.2.2.2.2.2.1) 1), ())))) (fun x1 => (cnd (notB x1.1) (some ((-1), ())) (bnd (atL x.1.2.2.2.2.2.2.2.2.2.2.1 x.2.1) (fun x2 => (bnd (F42 (x.2.2.1, (0, ((subI .i64 x2.1 1), ())))) (fun x3 => (cnd (notB x3.1) (some ((-1), ())) (bnd (F41 (x.1, ())) (fun x4 => (bnd (atL x4.1 x.2.1) (fun x5 => (some ((addI .i64 (addI .i64 x5 1) x.2.2.1), ())))))))))))))))))
theorem x19 (x : D (.pair ty27 ty148)) : fnS (cyF ct18 hiBk) 1000 (.pair ty27 ty148) (.pair (.int .i64) .un) (Tr.e) Tryz.f19 x = F19 x := by kernel_rfl
theorem n19 : cxC.fn.get 19 = some Tryz.f19 := by kernel_rfl
theorem e19 : cxC.ext.get 19 = none := by kernel_rfl
noncomputable def ct19 : Tr Con := (ct18).set 19 ⟨(.pair ty27 ty148), (.pair (.int .i64) .un), F19⟩
theorem k19 : CtOk ct19 := ct_set k18 (con_ok (cy := cyF ct18 hiBk) k18 n19 e19 x19)
/-- estoversref47.Page -/
noncomputable def F20 (x : D (.pair ty27 ty148)) : Option (D (.pair (.int .i64) .un)) := (bnd (F18 (x.1, (x.2.1, ()))) (fun x0 => (cnd (ltI x0.1 0) (some ((-1), ())) (cnd (ltI x.2.2.1 0) (some ((-1), ())) (bnd (atL x.1.2.2.2.2.2.2.2.2.2.2.1 x.2.1) (fun x1 => (cnd (leI x1.1 x.2.2.1) (some ((-1), ())) (some ((addI .i64 (addI .i64 x0.1 1) x.2.2.1), ())))))))))
theorem x20 (x : D (.pair ty27 ty148)) : fnS (cyF ct19 hiBk) 1000 (.pair ty27 ty148) (.pair (.int .i64) .un) (Tr.e) Tryz.f20 x = F20 x := by kernel_rfl
theorem n20 : cxC.fn.get 20 = some Tryz.f20 := by kernel_rfl
theorem e20 : cxC.ext.get 20 = none := by kernel_rfl
noncomputable def ct20 : Tr Con := (ct19).set 20 ⟨(.pair ty27 ty148), (.pair (.int .i64) .un), F20⟩
theorem k20 : CtOk ct20 := ct_set k19 (con_ok (cy := cyF ct19 hiBk) k19 n20 e20 x20)
/-- boot.Swap -/
noncomputable def F21 (x : D (.pair ty27 (.pair (.int .i64) .un))) : Option (D (.pair (.int .i64) .un)) := (bnd (F12 (x.1, ())) (fun x0 => (cnd (neI x0.1 0) (some ((-1), ())) (bnd (F42 (x.2.1, (0, ((subI .i64 x.1.2.2.2.2.2.2.1 1), ())))) (fun x1 => (cnd (notB x1.1) (some ((-1), ())) (bnd (F41 (x.1, ())) (fun x2 => (bnd (atL x2.1 (lenL x.1.2.2.2.2.2.2.2.2.2.2.1)) (fun x3 => (some ((addI .i64 x3 x.2.1), ()))))))))))))
theorem x21 (x : D (.pair ty27 (.pair (.int .i64) .un))) : fnS (cyF ct20 hiBk) 1000 (.pair ty27 (.pair (.int .i64) .un)) (.pair (.int .i64) .un) (Tr.e) Tryz.f21 x = F21 x := by kernel_rfl
theorem n21 : cxC.fn.get 21 = some Tryz.f21 := by kernel_rfl
theorem e21 : cxC.ext.get 21 = none := by kernel_rfl
noncomputable def ct21 : Tr Con := (ct20).set 21 ⟨(.pair ty27 (.pair (.int .i64) .un)), (.pair (.int .i64) .un), F21⟩
theorem k21 : CtOk ct21 := ct_set k20 (con_ok (cy := cyF ct20 hiBk) k20 n21 e21 x21)
/-- estoversref47.Swap -/
noncomputable def F22 (x : D (.pair ty27 (.pair (.int .i64) .un))) : Option (D (.pair (.int .i64) .un)) := (bnd (F13 (x.1, ())) (fun x0 => (cnd (neI x0.1 0) (some ((-1), ())) (cnd (ltI x.2.1 0) (some ((-1), ())) (cnd (leI x.1.2.2.2.2.2.2.1 x.2.1) (some ((-1), ())) (bnd (F56 (x.1, ())) (fun x1 => (bnd (atL x1.1 (lenL x.1.2.2.2.2.2.2.2.2.2.2.1)) (fun x2 => (some ((addI .i64 x2 x.2.1), ())))))))))))
theorem x22 (x : D (.pair ty27 (.pair (.int .i64) .un))) : fnS (cyF ct21 hiBk) 1000 (.pair ty27 (.pair (.int .i64) .un)) (.pair (.int .i64) .un) (Tr.e) Tryz.f22 x = F22 x := by kernel_rfl
theorem n22 : cxC.fn.get 22 = some Tryz.f22 := by kernel_rfl
theorem e22 : cxC.ext.get 22 = none := by kernel_rfl
noncomputable def ct22 : Tr Con := (ct21).set 22 ⟨(.pair ty27 (.pair (.int .i64) .un)), (.pair (.int .i64) .un), F22⟩
theorem k22 : CtOk ct22 := ct_set k21 (con_ok (cy := cyF ct21 hiBk) k21 n22 e22 x22)
/-- estoverslaw47.BootBlocks -/
noncomputable def F5 (x : D (.pair ty27 ty148)) : Option (D (.pair .bool .un)) := (bnd (F10 (x.1, ())) (fun x0 => (cnd (notB x0.1) (some (true, ())) (bnd (F17 (x.1, (x.2.1, ()))) (fun x1 => (bnd (F18 (x.1, (x.2.1, ()))) (fun x2 => (cnd (eqI x1.1 x2.1) (bnd (F19 (x.1, (x.2.1, (x.2.2.1, ())))) (fun x3 => (bnd (F20 (x.1, (x.2.1, (x.2.2.1, ())))) (fun x4 => (cnd (eqI x3.1 x4.1) (bnd (F21 (x.1, (x.2.2.1, ()))) (fun x5 => (bnd (F22 (x.1, (x.2.2.1, ()))) (fun x6 => (cnd (eqI x5.1 x6.1) (some (true, ())) (some (false, ()))))))) (some (false, ()))))))) (some (false, ()))))))))))
theorem x5 (x : D (.pair ty27 ty148)) : fnS (cyF ct22 hiBk) 1000 (.pair ty27 ty148) (.pair .bool .un) (Tr.e) Tryz.f5 x = F5 x := by kernel_rfl
theorem n5 : cxC.fn.get 5 = some Tryz.f5 := by kernel_rfl
theorem e5 : cxC.ext.get 5 = none := by kernel_rfl
noncomputable def ct5 : Tr Con := (ct22).set 5 ⟨(.pair ty27 ty148), (.pair .bool .un), F5⟩
theorem k5 : CtOk ct5 := ct_set k22 (con_ok (cy := cyF ct22 hiBk) k22 n5 e5 x5)
end Go.Bo
namespace Go.Ls
open Go Go.Hm Go.RowKit Go.Wk Go.ChangeShapes Go.WideShapes Go.Deep
/-- Memory of the machine that is only read. -/
structure Inv (w : World) (hp : Tr Hm.Obj) (nx : Nat) (ρ : Rn) : Prop where
  rel : RelH ρ hp w
  fr : ∀ b, nx ≤ b → hp.get b = none
  un : ∀ b, nx ≤ b → ρ b = none
  ro : ∀ b o, hp.get b = some o → owned o = false
structure Mo (hp : Tr Hm.Obj) (nx : Nat) (ρ : Rn) (hp' : Tr Hm.Obj) (nx' : Nat) (ρ' : Rn) : Prop where
  le : nx ≤ nx'
  same : ∀ b, b < nx → hp'.get b = hp.get b
  rn : ∀ b, b < nx → ρ' b = ρ b
theorem Mo.refl {hp : Tr Hm.Obj} {nx : Nat} {ρ : Rn} : Mo hp nx ρ hp nx ρ := ⟨Nat.le_refl _, fun _ _ => rfl, fun _ _ => rfl⟩
theorem Mo.trans {hp hp1 hp2 : Tr Hm.Obj} {nx nx1 nx2 : Nat} {ρ ρ1 ρ2 : Rn} (a : Mo hp nx ρ hp1 nx1 ρ1) (b : Mo hp1 nx1 ρ1 hp2 nx2 ρ2) : Mo hp nx ρ hp2 nx2 ρ2 := ⟨Nat.le_trans a.le b.le, fun x hx => by rw [b.same x (Nat.lt_of_lt_of_le hx a.le), a.same x hx], fun x hx => by rw [b.rn x (Nat.lt_of_lt_of_le hx a.le), a.rn x hx]⟩
theorem Mo.ext {w : World} {hp hp1 : Tr Hm.Obj} {nx nx1 : Nat} {ρ ρ1 : Rn} (a : Mo hp nx ρ hp1 nx1 ρ1) (i : Inv w hp nx ρ) : Hm.Ext ρ ρ1 := by
  intro b r hr
  by_cases hb : b < nx
  · rw [a.rn b hb]; exact hr
  · rw [i.un b (by omega)] at hr; cases hr
/-- The blocks below n. -/
def Zl (n : Nat) : Nat → Prop := fun b => b < n
theorem Mo.rd {hp hp1 : Tr Hm.Obj} {nx nx1 : Nat} {ρ ρ1 : Rn} (a : Mo hp nx ρ hp1 nx1 ρ1) {u : U} {l : List HV} {x : D u} (h : RdC hp (Zl nx) u l x) : RdC hp1 (Zl nx1) u l x := h.mono (fun b hb => Nat.lt_of_lt_of_le hb a.le) a.same
/-- Numbers are of their kinds. -/
def Good : (u : U) → D u → Prop
  | .int k, x => (Lit.int k x).wf = true
  | .list e, xs => (∀ x, x ∈ xs → Good e x) ∧ xs.length ≤ 140737488355328
  | .pair a b, x => Good a x.1 ∧ Good b x.2
  | .arr n e, xs => xs.length = n ∧ ∀ x, x ∈ xs → Good e x
  | _, _ => True
/-- Cells of type t read as a value of code u. -/
def RdH (P : Program) (t : TypeId) (u : U) : Prop :=
  ∀ {H : Type} (enc : TypeId × Value → H) (w : World) (fuel : Nat) (cs : List Value) (x : DataW H × List MemPlace),
    DataW.trod enc P w 0 (fun _ => true) true fuel t cs = some x → (∀ n, n ∈ x.1.weights P t → n ≤ reachBytes) →
    ∀ hp nx ρ, Inv w hp nx ρ → ∃ hp' nx' ρ' l a, Inv w hp' nx' ρ' ∧ Mo hp nx ρ hp' nx' ρ' ∧ Hm.VRs ρ' l cs ∧ RdC hp' (Zl nx') u l a ∧ Good u a ∧ ∀ v, v ∈ cs → v.oneCell' = true
section
variable {P : Program} {t e : TypeId} {u : U}
theorem one_vrs {ρ : Rn} {a : HV} {v : Value} (h : Hm.VR ρ a v) : Hm.VRs ρ [a] [v] := by
  unfold Hm.VRs
  exact ⟨v, [], rfl, h, by unfold Hm.VRs; rfl⟩
theorem rdH_int {k : IntKind} (ht : P.underlying t = some (.int k)) : RdH P t (.int k) := by
  intro H enc w fuel cs x hx _ hp nx ρ hi
  obtain ⟨n, rfl, rfl, hn⟩ := DataW.trod_int ht hx
  exact ⟨hp, nx, ρ, [.int k n], n, hi, Mo.refl, one_vrs (by unfold Hm.VR; rfl), rfl, hn, fun v hv => by rw [List.mem_singleton] at hv; subst hv; rfl⟩
theorem rdH_bool (ht : P.underlying t = some .bool) : RdH P t .bool := by
  intro H enc w fuel cs x hx _ hp nx ρ hi
  obtain ⟨b, rfl, rfl⟩ := DataW.trod_bool ht hx
  exact ⟨hp, nx, ρ, [.bool b], b, hi, Mo.refl, one_vrs (by unfold Hm.VR; rfl), rfl, trivial, fun v hv => by rw [List.mem_singleton] at hv; subst hv; rfl⟩
theorem weightsAll_mem2 {H : Type} : ∀ {l : List (DataW H)} {d : DataW H}, d ∈ l → ∀ n ∈ d.weights P e, n ∈ DataW.weightsAll P e l
  | [], _, h, _, _ => by cases h
  | d0 :: l, d, h, n, hn => by
    unfold DataW.weightsAll
    rcases List.mem_cons.1 h with rfl | h
    · exact List.mem_append_left _ hn
    · exact List.mem_append_right _ (weightsAll_mem2 h n hn)
theorem addP2 (b o i : Nat) : (⟨b, o, none⟩ : Addr).add i = ⟨b, o + i, none⟩ := by
  unfold Addr.add
  split
  · rename_i h
    have h : i = 0 := by simpa using h
    rw [h]
    rfl
  · rfl
theorem cells2 (w : World) (b off i s : Nat) {cs : List Value} (h : w.cells? 0 ((⟨b, off, none⟩ : Addr).add (i * s)) s = some cs) : cs.length = s ∧ ∀ j v, cs[j]? = some v → w.cell? ⟨b, off + i * s + j, none⟩ = some v := by
  obtain ⟨_, hl, hc⟩ := World.cells?_some h
  refine ⟨hl, fun j v hv => ?_⟩
  have hj : j < s := by rw [← hl]; exact (List.getElem?_eq_some_iff.1 hv).1
  have := hc j hj
  rw [hv] at this
  rw [addP2, addP2] at this
  exact this
theorem Vrs_app {ρ : Rn} {a b : List HV} {x y : List Value} (h1 : Hm.VRs ρ a x) (h2 : Hm.VRs ρ b y) : Hm.VRs ρ (a ++ b) (x ++ y) := Hm.VRs_app h1 h2
/-- A block more that is only read. -/
theorem inv_new {w : World} {hp : Tr Hm.Obj} {nx : Nat} {ρ : Rn} (hi : Inv w hp nx ρ) {b off s len cap : Nat} {l : List HV} {vs : List Value} (hb : b < w.heap.size) (hl : Hm.VRs ρ l vs) (hlen : l.length = len * s) (hc : ∀ j v, vs[j]? = some v → w.cell? ⟨b, off + j, none⟩ = some v) (h1 : ∀ v, v ∈ vs → v.oneCell' = true) :
    Inv w (hp.set nx (.blk ⟨false, s, l.length, scatter .e 0 l⟩)) (nx + 1) (updR ρ nx ⟨b, off, len * s, s, off + cap * s⟩) ∧ Mo hp nx ρ (hp.set nx (.blk ⟨false, s, l.length, scatter .e 0 l⟩)) (nx + 1) (updR ρ nx ⟨b, off, len * s, s, off + cap * s⟩) := by
  have mo : Mo hp nx ρ (hp.set nx (.blk ⟨false, s, l.length, scatter .e 0 l⟩)) (nx + 1) (updR ρ nx ⟨b, off, len * s, s, off + cap * s⟩) := ⟨Nat.le_succ _, fun c hc => Tr.get_set_ne _ _ (by omega), fun c hc => updR_ne _ _ (by omega)⟩
  have ex := mo.ext hi
  have hro : ∀ c o, (hp.set nx (.blk ⟨false, s, l.length, scatter .e 0 l⟩)).get c = some o → owned o = false := by
    intro c o ho
    rw [Tr.get_set] at ho
    split at ho
    · cases ho; rfl
    · exact hi.ro c o ho
  refine ⟨⟨⟨fun c x r hx hr => ?_, fun c es r hx hr => ?_, fun c c' o o' r r' _ ho hown => ?_⟩, fun c hc => ?_, fun c hc => ?_, hro⟩, mo⟩
  · rw [Tr.get_set] at hx
    split at hx
    · rename_i hcn
      subst hcn
      cases hx
      rw [updR_same] at hr
      cases hr
      refine ⟨hlen, rfl, hb, fun i v hil hv => ?_, fun h => by cases h⟩
      have hil : i < l.length := hil
      have hv : (scatter .e 0 l).get i = some v := hv
      rw [scatter_get, if_pos (by omega), Nat.sub_zero] at hv
      obtain ⟨z, g1, g2⟩ := Hm.VRs_get hl i v hv
      exact ⟨z, hc i z g1, g2.ext ex, h1 z (List.mem_of_getElem? g1)⟩
    · rename_i hcn
      have hlt : c < nx := by
        rcases Nat.lt_or_ge c nx with h | h
        · exact h
        · rw [hi.fr c h] at hx; cases hx
      rw [mo.rn c hlt] at hr
      exact (hi.rel.blk c x r hx hr).mv ex (Nat.le_refl _) rfl
  · have := hro c _ hx
    cases this
  · have := hro c o ho
    rw [hown] at this; cases this
  · rw [Tr.get_set_ne _ _ (by omega)]
    exact hi.fr c (by omega)
  · rw [updR_ne _ _ (by omega)]
    exact hi.un c (by omega)
theorem rdH_slice (ht : P.underlying t = some (.slice e)) (hb : 1 ≤ P.bytesOf e) (hcz : P.cellsOf e = u.size) (hc : 1 ≤ u.size) (h : RdH P e u) : RdH P t (.list u) := by
  intro H enc w fuel cs x hx hw hp nx ρ hi
  rcases open_slice ht hx with ⟨rfl, rfl⟩ | ⟨a, len, cap, m, n, Dd, Pl, rfl, _, hl, hm, hmm, rfl, hall⟩
  · exact ⟨hp, nx, ρ, [.nils], [], hi, Mo.refl, one_vrs (by unfold Hm.VR; rfl), ⟨.nils, rfl, .inl ⟨rfl, .inl rfl⟩⟩, ⟨fun x hx => (by cases hx), Nat.zero_le _⟩, fun v hv => by rw [List.mem_singleton] at hv; subst hv; rfl⟩
  · rw [if_pos rfl] at hmm
    subst hmm
    have hreach : m ≤ 140737488351232 := by
      have := hw ((((List.range len).map Dd).length + ((List.range (m - len)).map fun j => Dd (len + j)).length) * P.bytesOf e) (by simp [DataW.weights, ht])
      simp only [List.length_map, List.length_range] at this
      unfold reachBytes at this
      have h2 : (len + (m - len)) * 1 ≤ (len + (m - len)) * P.bytesOf e := Nat.mul_le_mul_left _ hb
      omega
    have hone : ∀ i, i < len → ∃ cs', w.cells? 0 (a.add (i * P.cellsOf e)) (P.cellsOf e) = some cs' ∧ ∀ hp nx ρ, Inv w hp nx ρ → ∃ hp' nx' ρ' l a, Inv w hp' nx' ρ' ∧ Mo hp nx ρ hp' nx' ρ' ∧ Hm.VRs ρ' l cs' ∧ RdC hp' (Zl nx') u l a ∧ Good u a ∧ ∀ v, v ∈ cs' → v.oneCell' = true := by
      intro i hil
      obtain ⟨cs', h1, h2⟩ := hall i (by omega)
      exact ⟨cs', h1, h enc w n cs' _ h2 (fun k hk => hw k (by
        simp only [DataW.weights, ht]
        exact List.mem_cons_of_mem _ (List.mem_append_left _ (weightsAll_mem2 (List.mem_map.2 ⟨i, List.mem_range.2 hil, rfl⟩) k hk))))⟩
    rw [hcz] at hone
    by_cases h0 : len = 0
    · subst h0
      exact ⟨hp, nx, ρ, [.emp], [], hi, Mo.refl, one_vrs (by unfold Hm.VR; exact ⟨a, m, rfl, hm⟩), ⟨.emp, rfl, .inl ⟨rfl, .inr (.inr rfl)⟩⟩, ⟨fun x hx => (by cases hx), Nat.zero_le _⟩, fun v hv => by rw [List.mem_singleton] at hv; subst hv; rfl⟩
    · obtain ⟨b, off, spot⟩ := a
      obtain ⟨c0, hc0, _⟩ := hone 0 (by omega)
      obtain ⟨_, hl0, hcell⟩ := World.cells?_some hc0
      have hne : ∃ v, w.cell? ((⟨b, off, spot⟩ : Addr).add 0) = some v := by
        have := hcell 0 hc
        rw [List.getElem?_eq_getElem (by omega)] at this
        simp only [Nat.zero_mul] at this
        exact ⟨_, this⟩
      obtain ⟨v0, hv0⟩ := hne
      have hspot : spot = none := by simpa [Addr.add] using World.cell?_spot hv0
      subst hspot
      have hblt : b < w.heap.size := World.block_lt_of_cell? _ _ hv0
      have main : ∀ k i, i + k = len → ∀ hp nx ρ, Inv w hp nx ρ → ∃ hp' nx' ρ' l vs xs, Inv w hp' nx' ρ' ∧ Mo hp nx ρ hp' nx' ρ' ∧ Hm.VRs ρ' l vs ∧ RdA (RdC hp' (Zl nx') u) l xs ∧ xs.length = k ∧ (∀ x, x ∈ xs → Good u x) ∧ (∀ v, v ∈ vs → v.oneCell' = true) ∧ ∀ j v, vs[j]? = some v → w.cell? ⟨b, off + i * u.size + j, none⟩ = some v := by
        intro k
        induction k with
        | zero => exact fun i _ hp nx ρ hi => ⟨hp, nx, ρ, [], [], [], hi, Mo.refl, by unfold Hm.VRs; rfl, rfl, rfl, fun x hx => (by cases hx), fun x hx => (by cases hx), fun j v hv => (by simp at hv)⟩
        | succ k ih =>
          intro i hik hp nx ρ hi
          obtain ⟨cs', c1, c2⟩ := hone i (by omega)
          obtain ⟨hp1, nx1, ρ1, l1, a1, i1, m1, v1, r1, g1, o1⟩ := c2 hp nx ρ hi
          obtain ⟨hp2, nx2, ρ2, l2, vs2, xs2, i2, m2, v2, r2, n2, g2, o2, q2⟩ := ih (i + 1) (by omega) hp1 nx1 ρ1 i1
          obtain ⟨p1, p2⟩ := cells2 w b off i u.size c1
          refine ⟨hp2, nx2, ρ2, l1 ++ l2, cs' ++ vs2, a1 :: xs2, i2, m1.trans m2, Vrs_app (v1.ext (m2.ext i1)) v2, ⟨l1, l2, rfl, m2.rd r1, r2⟩, by simp [n2], fun x hx => ?_, fun v hv => ?_, fun j v hv => ?_⟩
          · rcases List.mem_cons.1 hx with rfl | hx
            · exact g1
            · exact g2 x hx
          · rcases List.mem_append.1 hv with hv | hv
            · exact o1 v hv
            · exact o2 v hv
          · by_cases hj : j < cs'.length
            · rw [List.getElem?_append_left hj] at hv
              exact p2 j v hv
            · rw [List.getElem?_append_right (by omega)] at hv
              have := q2 (j - cs'.length) v hv
              rw [Nat.add_mul, Nat.one_mul, show off + (i * u.size + u.size) + (j - cs'.length) = off + i * u.size + j by omega] at this
              exact this
      obtain ⟨hp1, nx1, ρ1, l, vs, xs, i1, m1, v1, r1, n1, g1, o1, q1⟩ := main len 0 (by omega) hp nx ρ hi
      rw [Nat.zero_mul, Nat.add_zero] at q1
      have hlen := RdA_len (z := u.size) (fun _ _ h => h.len) r1
      rw [n1] at hlen
      obtain ⟨i2, m2⟩ := inv_new (cap := m) i1 hblt v1 hlen q1 o1
      refine ⟨_, _, _, [.sl nx1 0 len], xs, i2, m1.trans m2, one_vrs ?_, ?_, ⟨g1, by omega⟩, fun v hv => by rw [List.mem_singleton] at hv; subst hv; rfl⟩
      · unfold Hm.VR
        have hmul : len * u.size ≤ m * u.size := Nat.mul_le_mul_right _ hl
        refine ⟨_, m, updR_same _ _ _, rfl, hl, ?_, ?_, hm, by omega⟩
        · show len * u.size ≤ 0 + m * u.size; omega
        · show off + 0 + m * u.size ≤ off + m * u.size; omega
      · refine ⟨_, rfl, .inr ⟨nx1, 0, _, ⟨by rw [n1], rfl⟩, Nat.lt_succ_self _, Tr.get_set_same _ _ _, ?_, by omega, fun i x hxi => ?_⟩⟩
        · show 0 + xs.length * u.size ≤ l.length
          rw [n1, hlen]; omega
        · obtain ⟨c1, c2, c3, k1, k2, k3, k4⟩ := RdA_get (z := u.size) (fun _ _ h => h.len) r1 hxi
          refine ⟨c2, ?_, m2.rd k4⟩
          have hg := gather_new (T := (.e : Tr HV)) (w := false) (z := u.size) (n := l.length) (p := 0) (c := l) (by omega)
          exact gather_sub hg k1 k2 k3
/-- The fields of a struct from cell o on. -/
def RdHF (P : Program) (tot o : Nat) (fs : List Field) (u : U) : Prop :=
  ∀ {H : Type} (enc : TypeId × Value → H) (w : World) (n : Nat) (cs : List Value) (xs : List (DataW H × List MemPlace)), cs.length = tot → xs.length = fs.length →
    (∀ (i : Nat) (fl : Field), fs[i]? = some fl → DataW.trod enc P w 0 (fun _ => true) true n fl.type ((cs.drop fl.offset).take (P.cellsOf fl.type)) = xs[i]?) →
    (∀ k, k ∈ DataW.weightsEach P (fs.map (·.type)) (xs.map (·.1)) → k ≤ reachBytes) →
    ∀ hp nx ρ, Inv w hp nx ρ → ∃ hp' nx' ρ' l a, Inv w hp' nx' ρ' ∧ Mo hp nx ρ hp' nx' ρ' ∧ Hm.VRs ρ' l (cs.drop o) ∧ RdC hp' (Zl nx') u l a ∧ Good u a ∧ ∀ v, v ∈ cs.drop o → v.oneCell' = true
theorem rdHF_nil {tot o : Nat} (ho : Nat.beq o tot = true) : RdHF P tot o [] .un := by
  intro H enc w n cs xs h1 h2 h3 h4 hp nx ρ hi
  have := Nat.eq_of_beq_eq_true ho
  have hd : cs.drop o = [] := List.drop_eq_nil_of_le (by omega)
  rw [hd]
  exact ⟨hp, nx, ρ, [], (), hi, Mo.refl, by unfold Hm.VRs; rfl, rfl, trivial, fun v hv => by cases hv⟩
theorem rdHF_cons {tot o s : Nat} {fl : Field} {fs : List Field} {u v : U} (h : RdH P fl.type u) (ho : Nat.beq fl.offset o = true) (hs : P.cellsOf fl.type = s) (r : RdHF P tot (o + s) fs v) : RdHF P tot o (fl :: fs) (.pair u v) := by
  intro H enc w n cs xs h1 h2 h3 h4 hp nx ρ hi
  have ho' := Nat.eq_of_beq_eq_true ho
  match xs, h2 with
  | x :: xs, h2 =>
    have h5 := h3 0 fl rfl
    rw [hs, ho'] at h5
    obtain ⟨hp1, nx1, ρ1, l1, a1, i1, m1, v1, r1, g1, o1⟩ := h enc w n _ _ h5 (fun k hk => h4 k (by
      show k ∈ DataW.weightsEach P (fl.type :: fs.map (·.type)) (x.1 :: xs.map (·.1))
      unfold DataW.weightsEach
      exact List.mem_append_left _ hk)) hp nx ρ hi
    obtain ⟨hp2, nx2, ρ2, l2, a2, i2, m2, v2, r2, g2, o2⟩ := r enc w n cs xs h1 (by simpa using h2) (fun i fl' hf => h3 (i + 1) fl' (by simpa using hf)) (fun k hk => h4 k (by
      show k ∈ DataW.weightsEach P (fl.type :: fs.map (·.type)) (x.1 :: xs.map (·.1))
      unfold DataW.weightsEach
      exact List.mem_append_right _ hk)) hp1 nx1 ρ1 i1
    have e1 : cs.drop o = (cs.drop o).take s ++ cs.drop (o + s) := by
      rw [← List.drop_drop]
      exact (List.take_append_drop s (cs.drop o)).symm
    refine ⟨hp2, nx2, ρ2, l1 ++ l2, (a1, a2), i2, m1.trans m2, ?_, ⟨l1, l2, rfl, m2.rd r1, r2⟩, ⟨g1, g2⟩, fun z hz => ?_⟩
    · rw [e1]
      exact Vrs_app (v1.ext (m2.ext i1)) v2
    · rw [e1] at hz
      rcases List.mem_append.1 hz with hz | hz
      · exact o1 z hz
      · exact o2 z hz
theorem rdH_struct {fs : Array Field} {tot : Nat} (ht : P.underlying t = some (.struct fs)) (hn : P.cellsOf t = tot) (r : RdHF P tot 0 fs.toList u) : RdH P t u := by
  intro H enc w fuel cs x hx hw hp nx ρ hi
  obtain ⟨xs, n, _, rfl, hl, hxl, hall⟩ := DataW.trod_struct ht hx
  exact r enc w n cs xs (by rw [hl, hn]) (by rw [hxl]; simp) (fun i fl hf => hall i fl (by simpa using hf)) (fun k hk => hw k (by
    simp only [DataW.weights, ht]
    exact hk)) hp nx ρ hi
/-- An argument. -/
theorem RdH.arg (h : RdH P t u) {H : Type} {enc : TypeId × Value → H} {w : World} {v : Value} {d : DataW H} {ps : List MemPlace} (hd : DataW.Trod enc P w 0 (fun _ => true) true t v d ps) (hw : ∀ n, n ∈ d.weights P t → n ≤ reachBytes) (hv : (u.ag = true ∧ ∃ xs, v = .agg xs) ∨ (u.ag = false ∧ v.cells.toList = [v])) :
    ∀ hp nx ρ, Inv w hp nx ρ → ∃ hp' nx' ρ' s a, Inv w hp' nx' ρ' ∧ Mo hp nx ρ hp' nx' ρ' ∧ Hm.VR ρ' s v ∧ RdV hp' (Zl nx') u s a ∧ Good u a := by
  intro hp nx ρ hi
  obtain ⟨fuel, hd⟩ := hd
  obtain ⟨hp1, nx1, ρ1, l, a, i1, m1, v1, r1, g1, o1⟩ := h enc w fuel _ _ hd hw hp nx ρ hi
  rcases hv with ⟨hu, xs, rfl⟩ | ⟨hu, hv⟩
  · refine ⟨hp1, nx1, ρ1, .agg l, a, i1, m1, ?_, ?_, g1⟩
    · unfold Hm.VR
      exact ⟨xs.toList, by simp, v1, o1⟩
    · unfold RdV
      rw [hu]
      exact ⟨l, rfl, r1⟩
  · rw [hv] at v1
    have hlen := r1.len
    have h1 : ∃ s, l = [s] := by
      have := Hm.VRs_len v1
      cases l with
      | nil => cases this
      | cons s l => cases l with
        | nil => exact ⟨s, rfl⟩
        | cons _ _ => cases this
    obtain ⟨s, rfl⟩ := h1
    unfold Hm.VRs at v1
    obtain ⟨z, zs, e1, e2, _⟩ := v1
    cases e1
    refine ⟨hp1, nx1, ρ1, s, a, i1, m1, e2, ?_, g1⟩
    unfold RdV
    rw [hu]
    exact r1
end
/-- A law that its function says of whatever arguments: the function gives true, and nothing has been changed. -/
theorem law_fn {P : Program} {cx : Cx} (hc : CxOk P cx) {f : FuncId} {fn : Func} (hf : cx.fn.get f = some fn) (hx : cx.ext.get f = none) {a : U} {F : D a → Option (D (.pair .bool .un))} (hk : COk cx f ⟨a, .pair .bool .un, F⟩) {w : World} {hp : Tr Hm.Obj} {nx : Nat} {ρ : Rn} (hi : Inv w hp nx ρ) {args : List HV} {us : List Value} {x : D a} (hr : Hm.VRs ρ args us) (ha : RdArgs hp (Zl nx) a args x) (hF : F x = some (true, ())) :
    FnC P f us.toArray w (fun v w' => v = .bool true ∧ Kp [] w w') := by
  obtain ⟨l, hp', nx', Z', ⟨k0, hcall⟩, b1, b2, b3, b4, b5, b6⟩ := hk ⟨0, .e, hp, nx, [], .undef⟩ (Zl nx) args x (true, ()) hi.fr (fun b hb => by cases hb) (fun b hb => hb) ha hF
  have hcall := hcall k0 (Nat.le_refl _)
  unfold RdArgs at b6
  obtain ⟨v, r, rfl, c1, c2⟩ := b6
  unfold RdArgs at c2
  subst c2
  have hv : v = .bool true := by
    unfold RdV at c1
    have c1 : RdC hp' Z' .bool [v] true := c1
    unfold RdC at c1
    simpa using c1
  subst hv
  refine FnC.mono (call_run hc k0 hf hx hcall hi.rel hi.fr (fun i h1 _ => hi.un i h1) hr) ?_
  rintro v w' ⟨ρ', h1, h2⟩
  have h1 : Hm.VR ρ' (.bool true) v := h1
  unfold Hm.VR at h1
  refine ⟨h1, h2.kp.os, h2.kp.tape, h2.kp.output, h2.kp.size, fun b hb _ => h2.kp.block b hb ?_⟩
  rintro ⟨c, o, r, q1, q2, _⟩
  have := hi.ro c o q1
  rw [q2] at this; cases this
theorem inv_empty (w : World) : Inv w .e 0 (fun _ => none) := by
  have no : ∀ (b : Nat) (o : Hm.Obj), (Tr.e : Tr Hm.Obj).get b = some o → False := fun b o h => by rw [Tr.get_e] at h; cases h
  exact ⟨⟨fun b x r h => (no b _ h).elim, fun b x r h => (no b _ h).elim, fun b b' o o' r r' _ h => (no b _ h).elim⟩, fun b _ => Tr.get_e b, fun _ _ => rfl, fun b o h => (no b o h).elim⟩
end Go.Ls
namespace Go.Ls
open Go Go.Hm
section
variable {α β : Type}
theorem cnd_t (x y : Option α) : cnd true x y = x := rfl
theorem cnd_f (x y : Option α) : cnd false x y = y := rfl
theorem chk_t (x : Option α) : chk true x = x := rfl
theorem bnd_s (x : α) (f : α → Option β) : bnd (some x) f = f x := rfl
theorem bndS_l (x : α) (f : α → Option β) : bndS (some (.inl x)) f = f x := rfl
theorem bndS_r (x : β) (f : α → Option β) : bndS (some (.inr x)) f = some x := rfl
theorem inR_s (x : β) : inR (α := α) (some x) = some (.inr x) := rfl
theorem cnd_if (b : Bool) (x y : Option α) : cnd b x y = if b = true then x else y := by cases b <;> rfl
theorem ltI_eq (a b : Int) : ltI a b = decide (a < b) := rfl
theorem leI_eq (a b : Int) : leI a b = decide (a ≤ b) := rfl
theorem eqI_eq (a b : Int) : eqI a b = decide (a = b) := rfl
theorem neI_eq (a b : Int) : neI a b = !decide (a = b) := rfl
theorem notB_eq (a : Bool) : notB a = !a := rfl
theorem andB_eq (a b : Bool) : andB a b = (a && b) := rfl
theorem lenL_eq (l : List α) : lenL l = (l.length : Int) := rfl
theorem wrap_ok {n : Int} (h1 : -9223372036854775808 ≤ n) (h2 : n ≤ 9223372036854775807) : wrapI .i64 n = n := by
  unfold wrapI intOk
  simp only [decide_eq_true h1, decide_eq_true h2, Bool.and_true, cond_true]
theorem addI_ok {a b : Int} (h1 : -9223372036854775808 ≤ a + b) (h2 : a + b ≤ 9223372036854775807) : addI .i64 a b = a + b := wrap_ok h1 h2
theorem subI_ok {a b : Int} (h1 : -9223372036854775808 ≤ a - b) (h2 : a - b ≤ 9223372036854775807) : subI .i64 a b = a - b := wrap_ok h1 h2
theorem addN {i : Nat} (h : i ≤ 140737488355328) : addI .i64 (i : Int) 1 = ((i + 1 : Nat) : Int) := by
  rw [addI_ok (by omega) (by omega)]; rfl
theorem at_nat {l : List α} {i : Nat} {x : α} (h : l[i]? = some x) : atL l (i : Int) = some x := h
theorem lt_nat {l : List α} {i : Nat} {x : α} (h : l[i]? = some x) : ltI (i : Int) (lenL l) = true := by
  have := (List.getElem?_eq_some_iff.1 h).1
  rw [ltI_eq, lenL_eq]
  exact decide_eq_true (by omega)
theorem lt_end {l : List α} : ltI (l.length : Int) (lenL l) = false := by
  rw [ltI_eq, lenL_eq]
  exact decide_eq_false (by omega)
theorem ix_le {l : List α} {i : Nat} {x : α} (h : l[i]? = some x) {n : Nat} (hl : l.length ≤ n) : i ≤ n := by
  have := (List.getElem?_eq_some_iff.1 h).1
  omega
end
section
variable {α β : Type}
theorem cnd_pos {b : Bool} (h : b = true) (x y : Option α) : cnd b x y = x := by rw [h]; rfl
theorem cnd_neg {b : Bool} (h : b = false) (x y : Option α) : cnd b x y = y := by rw [h]; rfl
theorem for_step {l : List α} {i : Nat} {x : α} (h : l[i]? = some x) {K : α → Option β} {e : Option β} : cnd (ltI (i : Int) (lenL l)) (bnd (atL l (i : Int)) K) e = K x := by
  rw [cnd_pos (lt_nat h), at_nat h]; rfl
theorem for_end {l : List α} {t e : Option β} : cnd (ltI (l.length : Int) (lenL l)) t e = e := cnd_neg lt_end _ _
/-- Is n from lo to hi? -/
def inR' (lo hi n : Int) : Bool := decide (lo ≤ n) && decide (n ≤ hi)
theorem range_chk (n lo hi : Int) (e r : Option α) : cnd (ltI n lo) e (cnd (ltI hi n) e r) = if inR' lo hi n = true then r else e := by
  rw [cnd_if, cnd_if, ltI_eq, ltI_eq]
  unfold inR'
  by_cases h1 : n < lo
  · have : ¬ lo ≤ n := by omega
    simp [h1, this]
  · have : lo ≤ n := by omega
    by_cases h2 : hi < n
    · have : ¬ n ≤ hi := by omega
      simp [h1, h2, this]
    · have : n ≤ hi := by omega
      simp [h1, h2, this, ‹lo ≤ n›]
theorem range_chk2 (n lo hi : Int) (e r : Option α) : cnd (ltI n lo) e (cnd (leI hi n) e r) = if inR' lo (hi - 1) n = true then r else e := by
  have h : leI hi n = ltI (hi - 1) n := by rw [ltI_eq, leI_eq]; congr 1; apply propext; omega
  rw [h, range_chk]
end
theorem if_and {α : Type} (a b : Bool) (x e : α) : (if a = true then (if b = true then x else e) else e) = if (a && b) = true then x else e := by cases a <;> cases b <;> rfl
/-- What a loop over a list makes of it. -/
def foldO {A B R X : Type} (g : Nat → B → X → Option (Sum B R)) (fin : B → A) : Nat → B → List X → Option (Sum A R)
  | _, b, [] => some (.inl (fin b))
  | i, b, x :: l => match g i b x with
    | some (.inl b') => foldO g fin (i + 1) b' l
    | some (.inr r) => some (.inr r)
    | none => none
def stepO {σ A B R X : Type} (st : B → Nat → σ) (g : Nat → B → X → Option (Sum B R)) (b : B) (i : Nat) (x : X) : Option (Sum σ (Sum A R)) := match g i b x with
  | some (.inl b') => some (.inl (st b' (i + 1)))
  | some (.inr r) => some (.inr (.inr r))
  | none => none
theorem step_if {σ A B R X : Type} {st : B → Nat → σ} {P : Nat → B → X → Bool} {s : Nat → B → X → B} {q : Nat → B → X → R} {b : B} {i : Nat} {x : X} : stepO (A := A) st (fun i b x => if P i b x = true then some (.inl (s i b x)) else some (.inr (q i b x))) b i x = if P i b x = true then some (.inl (st (s i b x) (i + 1))) else some (.inr (.inr (q i b x))) := by
  unfold stepO
  by_cases h : P i b x = true
  · simp only [h, if_true]
  · simp only [h, if_false]
    rfl
theorem loop_fold {σ A B R X : Type} {f : σ → Option (Sum σ (Sum A R))} {xs : List X} {st : B → Nat → σ} {g : Nat → B → X → Option (Sum B R)} {fin : B → A} (hs : ∀ b i x, xs[i]? = some x → f (st b i) = stepO st g b i x) (he : ∀ b, f (st b xs.length) = some (.inr (.inl (fin b)))) :
    ∀ (l : List X) (i : Nat) (b : B) (N : Nat), xs.drop i = l → i + l.length = xs.length → l.length < N → loopT f N (st b i) = foldO g fin i b l
  | [], i, b, N, hd, hl, hN => by
    cases N with
    | zero => omega
    | succ N =>
      show bndS (f (st b i)) (loopT f N) = _
      have : i = xs.length := by simpa using hl
      subst this
      rw [he b]
      rfl
  | x :: l, i, b, N, hd, hl, hN => by
    cases N with
    | zero => omega
    | succ N =>
      have hx : xs[i]? = some x := by
        have : (xs.drop i)[0]? = some x := by rw [hd]; rfl
        rw [List.getElem?_drop] at this
        simpa using this
      have hd2 : xs.drop (i + 1) = l := by
        rw [← List.drop_drop, hd]; rfl
      show bndS (f (st b i)) (loopT f N) = _
      rw [hs b i x hx]
      unfold stepO foldO
      cases hg : g i b x with
      | none => rfl
      | some q =>
        cases q with
        | inl b' => exact loop_fold hs he l (i + 1) b' N hd2 (by simp only [List.length_cons] at hl; omega) (by simp only [List.length_cons] at hN; omega)
        | inr r => rfl
theorem loop_of {σ A B R X : Type} {f : σ → Option (Sum σ (Sum A R))} {xs : List X} {st : B → Nat → σ} {g : Nat → B → X → Option (Sum B R)} {fin : B → A} {b : B} {N : Nat} {x0 : σ} (hs : ∀ b i x, xs[i]? = some x → f (st b i) = stepO st g b i x) (he : ∀ b, f (st b xs.length) = some (.inr (.inl (fin b)))) (h0 : x0 = st b 0) (hN : xs.length < N) : loopS f N x0 = foldO g fin 0 b xs := by
  rw [loopS_eq, h0]
  exact loop_fold hs he xs 0 b N rfl (by omega) hN
/-- All elements are looked at; the first that is bad ends it. -/
theorem fold_all {A R X : Type} {p : X → Bool} {r : R} {a : A} : ∀ (l : List X) (i : Nat), foldO (fun _ (_ : Unit) x => if p x = true then some (.inl ()) else some (.inr r)) (fun _ => a) i () l = if l.all p = true then some (.inl a) else some (.inr r)
  | [], i => rfl
  | x :: l, i => by
    unfold foldO
    by_cases h : p x = true
    · simp only [h, if_true, List.all_cons, Bool.true_and]
      exact fold_all l (i + 1)
    · simp only [h, if_false, List.all_cons, Bool.false_and]
      simp
/-- All elements are looked at and taken in; the first that is bad ends it. -/
theorem fold_acc {A B R X : Type} {p : X → Bool} {s : B → X → B} {r : R} {fin : B → A} : ∀ (l : List X) (i : Nat) (b : B), foldO (fun _ b x => if p x = true then some (.inl (s b x)) else some (.inr r)) fin i b l = if l.all p = true then some (.inl (fin (l.foldl s b))) else some (.inr r)
  | [], i, b => rfl
  | x :: l, i, b => by
    unfold foldO
    by_cases h : p x = true
    · simp only [h, if_true, List.all_cons, Bool.true_and, List.foldl_cons]
      exact fold_acc l (i + 1) (s b x)
    · simp only [h, if_false, List.all_cons, Bool.false_and]
      simp
/-- The same with places. -/
def allI {X : Type} (p : Nat → X → Bool) : Nat → List X → Bool
  | _, [] => true
  | i, x :: l => p i x && allI p (i + 1) l
theorem fold_ix {A R X : Type} {p : Nat → X → Bool} {r : R} {a : A} : ∀ (l : List X) (i : Nat), foldO (fun i (_ : Unit) x => if p i x = true then some (.inl ()) else some (.inr r)) (fun _ => a) i () l = if allI p i l = true then some (.inl a) else some (.inr r)
  | [], i => rfl
  | x :: l, i => by
    unfold foldO allI
    by_cases h : p i x = true
    · simp only [h, if_true, Bool.true_and]
      exact fold_ix l (i + 1)
    · simp only [h, if_false, Bool.false_and]
      simp
theorem allI_const {X : Type} {p : X → Bool} : ∀ (l : List X) (i : Nat), allI (fun _ x => p x) i l = l.all p
  | [], _ => rfl
  | x :: l, i => by unfold allI; rw [allI_const l (i + 1)]; rfl
theorem allI_and {X : Type} {p q : Nat → X → Bool} : ∀ (l : List X) (i : Nat), allI (fun i x => p i x && q i x) i l = (allI p i l && allI q i l)
  | [], _ => rfl
  | x :: l, i => by
    unfold allI
    rw [allI_and l (i + 1)]
    cases p i x <;> cases q i x <;> cases allI p (i + 1) l <;> simp
/-- Nothing ends it. -/
theorem fold_plain {A B R X : Type} {s : B → X → B} {fin : B → A} : ∀ (l : List X) (i : Nat) (b : B), foldO (R := R) (fun _ b x => some (.inl (s b x))) fin i b l = some (.inl (fin (l.foldl s b)))
  | [], i, b => rfl
  | x :: l, i, b => by
    unfold foldO
    exact fold_plain l (i + 1) (s b x)
end Go.Ls
namespace Go.Bo
open Go Go.Ls
theorem F42_eq (x : D (.pair (.int .i64) (.pair (.int .i64) (.pair (.int .i64) .un)))) : F42 x = some (inR' x.2.1 x.2.2.1 x.1, ()) := by
  unfold F42 inR'
  rw [leI_eq, leI_eq, cnd_if]
  by_cases h : x.2.1 ≤ x.1
  · simp [h]
  · simp [h]
def nodesOk (l : List Int) : Bool := inR' 1 4 l.length && l.all (inR' 0 3)
theorem F30_eq (x : D (.pair ty27 .un)) (h : x.1.1.length ≤ 20) : F30 x = some ((if nodesOk x.1.1 = true then 0 else 1), ()) := by
  unfold F30 nodesOk
  simp only [F42_eq, lenL_eq, bnd_s, notB_eq, cnd_if]
  by_cases h1 : inR' 1 4 (x.1.1.length : Int) = true
  · simp only [h1, Bool.not_true, Bool.true_and, Bool.false_eq_true, if_false]
    rw [loop_of (xs := x.1.1) (st := fun (_ : Unit) i => ((i : Int), ())) (g := fun _ _ x => if inR' 0 3 x = true then some (.inl ()) else some (.inr ((1 : Int), ()))) (fin := fun _ => ()) (b := ())]
    rotate_left
    · intro b i y hx
      have hl := lt_nat hx
      rw [lenL_eq] at hl
      simp only [hl, if_true, at_nat hx, bnd_s, addN (ix_le hx (Nat.le_trans h (by decide))), inR_s, stepO]
      by_cases h2 : inR' 0 3 y = true
      · simp [h2]
      · simp [h2]
    · intro b
      have hl := lt_end (l := x.1.1)
      rw [lenL_eq] at hl
      simp [hl, inR_s]
    · rfl
    · omega
    · rw [fold_all]
      by_cases h3 : x.1.1.all (inR' 0 3) = true
      · rw [if_pos h3, if_pos h3]; rfl
      · rw [if_neg h3, if_neg h3]; rfl
  · have h1 : inR' 1 4 (x.1.1.length : Int) = false := by simpa using h1
    simp [h1]
def zOk (z : D ty145) : Bool := inR' 0 3 z.1 && (inR' 0 1 z.2.1 && (inR' 1 256 z.2.2.1 && inR' 0 z.2.2.1 z.2.2.2.1))
def zAll (l : List (D ty145)) : Int := l.foldl (fun a z => addI .i64 a z.2.2.1) 0
def zNorm (l : List (D ty145)) : Bool := l.any (fun z => eqI z.2.1 0)
def zonesOk (l : List (D ty145)) : Bool := inR' 1 6 l.length && (l.all zOk && (zNorm l && decide (zAll l ≤ 256)))
theorem norm_count : ∀ (l : List (D ty145)) (a : Int) (k : Nat), k + l.length ≤ 1000 → (l.foldl (fun (b : Int × Int) z => (addI .i64 b.1 z.2.2.1, if z.2.1 = 0 then addI .i64 b.2 1 else b.2)) (a, (k : Int))) = (l.foldl (fun a z => addI .i64 a z.2.2.1) a, ((k + l.countP (fun z => eqI z.2.1 0) : Nat) : Int))
  | [], a, k, _ => by simp
  | z :: l, a, k, h => by
    simp only [List.foldl_cons, List.countP_cons]
    simp only [List.length_cons] at h
    by_cases hz : z.2.1 = 0
    · rw [if_pos hz, addN (by omega), norm_count l _ (k + 1) (by omega)]
      have : eqI z.2.1 0 = true := by rw [eqI_eq]; simpa using hz
      simp only [this, if_true]
      congr 2; omega
    · rw [if_neg hz, norm_count l _ k (by omega)]
      have : eqI z.2.1 0 = false := by rw [eqI_eq]; simpa using hz
      simp [this]
theorem norm_any : ∀ (l : List (D ty145)), (l.countP (fun z => eqI z.2.1 0) = 0) ↔ zNorm l = false := by
  intro l
  unfold zNorm
  rw [List.countP_eq_zero]
  simp
theorem norm_or : ∀ (l : List (D ty145)) (a : Int) (b : Bool), (l.foldl (fun (b : Int × Bool) z => (addI .i64 b.1 z.2.2.1, if b.2 = true then true else eqI z.2.1 0)) (a, b)) = (l.foldl (fun a z => addI .i64 a z.2.2.1) a, b || zNorm l)
  | [], a, b => by simp [zNorm]
  | z :: l, a, b => by
    simp only [List.foldl_cons]
    rw [norm_or l]
    unfold zNorm
    cases b <;> simp
theorem F31_eq (x : D (.pair ty27 .un)) (h : x.1.2.1.length ≤ 20) : F31 x = some ((if zonesOk x.1.2.1 = true then 0 else 1), ()) := by
  unfold F31 zonesOk
  simp only [F42_eq, lenL_eq, bnd_s, notB_eq, cnd_if]
  by_cases h1 : inR' 1 6 (x.1.2.1.length : Int) = true
  · simp only [h1, Bool.not_true, Bool.true_and, Bool.false_eq_true, if_false]
    rw [loop_of (xs := x.1.2.1) (st := fun (b : Int × Int) i => (b.1, (b.2, ((i : Int), ())))) (g := fun _ b z => if zOk z = true then some (.inl (addI .i64 b.1 z.2.2.1, if z.2.1 = 0 then addI .i64 b.2 1 else b.2)) else some (.inr ((1 : Int), ()))) (fin := fun b => (b.1, (b.2, ()))) (b := (0, 0))]
    rotate_left
    · intro b i y hx
      have hl := lt_nat hx
      rw [lenL_eq] at hl
      simp only [hl, if_true, at_nat hx, bnd_s, addN (ix_le hx (Nat.le_trans h (by decide))), inR_s, stepO]
      unfold zOk
      cases inR' 0 3 y.1 <;> cases inR' 0 1 y.2.1 <;> cases inR' 1 256 y.2.2.1 <;> cases inR' 0 y.2.2.1 y.2.2.2.1 <;> simp [eqI_eq]
      by_cases hk : y.2.1 = 0 <;> simp [hk]
    · intro b
      have hl := lt_end (l := x.1.2.1)
      rw [lenL_eq] at hl
      simp [hl, inR_s]
    · rfl
    · omega
    · rw [fold_acc]
      by_cases h3 : x.1.2.1.all zOk = true
      · rw [if_pos h3]
        have := norm_count x.1.2.1 0 0 (by omega)
        rw [show ((0 : Nat) : Int) = 0 from rfl] at this
        rw [this]
        have hz := norm_any x.1.2.1
        generalize x.1.2.1.countP (fun z => eqI z.2.1 0) = k at hz
        simp only [bndS_l, Nat.zero_add, h3, Bool.true_and, eqI_eq, ltI_eq]
        by_cases h4 : zNorm x.1.2.1 = true
        · have : ¬ (k = 0) := by rw [hz, h4]; simp
          have : ¬ ((k : Nat) : Int) = 0 := by omega
          simp only [this, h4, Bool.true_and]
          show _ = some ((if decide (zAll x.1.2.1 ≤ 256) = true then 0 else 1), ())
          unfold zAll
          by_cases h5 : (256 : Int) < List.foldl (fun a z => addI .i64 a z.2.2.1) 0 x.1.2.1
          · have h6 : ¬ List.foldl (fun a z => addI .i64 a z.2.2.1) 0 x.1.2.1 ≤ (256 : Int) := by omega
            simp [h5, h6]
          · have h6 : List.foldl (fun a z => addI .i64 a z.2.2.1) 0 x.1.2.1 ≤ (256 : Int) := by omega
            simp [h5, h6]
        · have h4 : zNorm x.1.2.1 = false := by simpa using h4
          have : k = 0 := by rw [hz, h4]
          simp [this, h4]
      · have h3' : x.1.2.1.all zOk = false := by simpa using h3
        rw [if_neg h3]
        simp [h3', bndS_r]
  · have h1 : inR' 1 6 (x.1.2.1.length : Int) = false := by simpa using h1
    simp [h1]
theorem z_step (y0 y1 y2 y3 b1 j : Int) (b2 : Bool) : ((cnd (ltI y0 0) (inR (inR (some (false, ())))) (cnd (leI 4 y0) (inR (inR (some (false, ())))) (cnd (neI y1 0) (cnd (neI y1 1) (inR (inR (some (false, ())))) (cnd (ltI y2 1) (inR (inR (some (false, ())))) (cnd (ltI 256 y2) (inR (inR (some (false, ())))) (cnd (ltI y3 0) (inR (inR (some (false, ())))) (cnd (ltI y2 y3) (inR (inR (some (false, ())))) (cnd b2 (some (.inl ((addI .i64 b1 y2), (true, (j, ()))))) (some (.inl ((addI .i64 b1 y2), ((eqI y1 0), (j, ()))))))))))) (cnd (ltI y2 1) (inR (inR (some (false, ())))) (cnd (ltI 256 y2) (inR (inR (some (false, ())))) (cnd (ltI y3 0) (inR (inR (some (false, ())))) (cnd (ltI y2 y3) (inR (inR (some (false, ())))) (cnd b2 (some (.inl ((addI .i64 b1 y2), (true, (j, ()))))) (some (.inl ((addI .i64 b1 y2), ((eqI y1 0), (j, ()))))))))))))) : Option (Sum (Int × (Bool × (Int × Unit))) (Sum (Int × (Bool × Unit)) (Bool × Unit)))) = if (inR' 0 3 y0 && (inR' 0 1 y1 && (inR' 1 256 y2 && inR' 0 y2 y3))) = true then some (.inl (addI .i64 b1 y2, (if b2 = true then true else eqI y1 0, (j, ())))) else some (.inr (.inr (false, ()))) := by
  simp only [cnd_if, ltI_eq, leI_eq, neI_eq, inR_s, decide_eq_true_eq]
  cases hz : (inR' 0 3 y0 && (inR' 0 1 y1 && (inR' 1 256 y2 && inR' 0 y2 y3)))
  · simp only [inR', Bool.and_eq_false_iff, decide_eq_false_iff_not] at hz
    simp only [Bool.false_eq_true, if_false, Bool.not_eq_true', decide_eq_false_iff_not]
    by_cases q1 : y0 < 0
    · simp [q1]
    by_cases q2 : 4 ≤ y0
    · simp [q1, q2]
    by_cases k1 : y1 = 0 <;> by_cases k2 : y1 = 1 <;> by_cases q3 : y2 < 1 <;> by_cases q4 : 256 < y2 <;> by_cases q5 : y3 < 0 <;> by_cases q6 : y2 < y3 <;> first | (exfalso; omega) | simp [q1, q2, k1, k2, q3, q4, q5, q6]
  · simp only [inR', Bool.and_eq_true, decide_eq_true_eq] at hz
    have q1 : ¬ y0 < 0 := by omega
    have q2 : ¬ 4 ≤ y0 := by omega
    have q3 : ¬ y2 < 1 := by omega
    have q4 : ¬ 256 < y2 := by omega
    have q5 : ¬ y3 < 0 := by omega
    have q6 : ¬ y2 < y3 := by omega
    by_cases k1 : y1 = 0
    · cases b2 <;> simp [q1, q2, q3, q4, q5, q6, k1]
    · have k2 : y1 = 1 := by omega
      cases b2 <;> simp [q1, q2, q3, q4, q5, q6, k2]
theorem F35_eq (x : D (.pair ty27 .un)) (h : x.1.1.length ≤ 20) (h' : x.1.2.1.length ≤ 20) : F35 x = some (nodesOk x.1.1 && zonesOk x.1.2.1, ()) := by
  unfold F35 nodesOk zonesOk
  rw [range_chk, range_chk, lenL_eq, lenL_eq]
  cases e1 : inR' 1 4 (x.1.1.length : Int)
  · rfl
  cases e2 : inR' 1 6 (x.1.2.1.length : Int)
  · simp only [if_true, Bool.false_eq_true, if_false, Bool.false_and, Bool.and_false]
  rw [if_pos rfl, if_pos rfl, Bool.true_and, Bool.true_and]
  rw [loop_of (xs := x.1.1) (st := fun (_ : Unit) i => ((i : Int), ())) (g := fun _ _ x => if inR' 0 3 x = true then some (.inl ()) else some (.inr (false, ()))) (fin := fun _ => ()) (b := ())]
  rotate_left
  · intro b i y hx
    refine (for_step hx).trans ?_
    refine (range_chk2 y 0 4 _ _).trans ?_
    rw [step_if]
    show (if inR' 0 3 y = true then some (Sum.inl (addI .i64 (i : Int) 1, ())) else some (Sum.inr (Sum.inr (false, ())))) = _
    rw [addN (ix_le hx (Nat.le_trans h (by decide)))]
  · exact fun b => for_end
  · rfl
  · omega
  rw [fold_all]
  cases q0 : x.1.1.all (inR' 0 3)
  · rfl
  rw [if_pos rfl, bndS_l, Bool.true_and]
  rw [loop_of (xs := x.1.2.1) (st := fun (b : Int × Bool) i => (b.1, (b.2, ((i : Int), ())))) (g := fun _ b z => if zOk z = true then some (.inl (addI .i64 b.1 z.2.2.1, if b.2 = true then true else eqI z.2.1 0)) else some (.inr (false, ()))) (fin := fun b => (b.1, (b.2, ()))) (b := (0, false))]
  rotate_left
  · intro b i y hx
    refine (for_step hx).trans ?_
    refine (z_step y.1 y.2.1 y.2.2.1 y.2.2.2.1 b.1 _ b.2).trans ?_
    rw [step_if]
    show (if zOk y = true then some (Sum.inl (addI .i64 b.1 y.2.2.1, ((if b.2 = true then true else eqI y.2.1 0), (addI .i64 (i : Int) 1, ())))) else some (Sum.inr (Sum.inr (false, ())))) = _
    rw [addN (ix_le hx (Nat.le_trans h' (by decide)))]
  · exact fun b => for_end
  · rfl
  · omega
  rw [fold_acc]
  cases q3 : x.1.2.1.all zOk
  · rfl
  rw [if_pos rfl, norm_or, bndS_l, Bool.true_and]
  cases hn : zNorm x.1.2.1
  · rfl
  · rfl
theorem chk42 (t : D (.pair (.int .i64) (.pair (.int .i64) (.pair (.int .i64) .un)))) {β : Type} (A e : Option β) : bnd (F42 t) (fun x0 => cnd x0.1 A e) = if inR' t.2.1 t.2.2.1 t.1 = true then A else e := by
  rw [F42_eq, bnd_s, cnd_if]
theorem chk42n (t : D (.pair (.int .i64) (.pair (.int .i64) (.pair (.int .i64) .un)))) {β : Type} (A e : Option β) : bnd (F42 t) (fun x0 => cnd (notB x0.1) e A) = if inR' t.2.1 t.2.2.1 t.1 = true then A else e := by
  rw [F42_eq, bnd_s, notB_eq]
  cases inR' t.2.1 t.2.2.1 t.1 <;> rfl
def fileOk (f : D ty68) : Bool := inR' 1 16 f.1 && (!neI (remI .i64 (lenL f.2.1) 32) 0 && !ltI (mulI .i64 f.1 32) (lenL f.2.1))
def sizes8 (c : D ty27) : Bool := inR' 1 16 c.2.2.2.1 && (inR' 1 c.2.2.2.1 c.2.2.1 && (inR' 1 16 c.2.2.2.2.1 && (inR' 1 16 c.2.2.2.2.2.1 && (inR' 0 64 c.2.2.2.2.2.2.1 && (inR' 0 32 c.2.2.2.2.2.2.2.1 && (inR' 1 256 c.2.2.2.2.2.2.2.2.1 && inR' 1 32 c.2.2.2.2.2.2.2.2.2.1))))))
def sizesOk (c : D ty27) : Bool := sizes8 c && (leI (lenL c.2.2.2.2.2.2.2.2.2.2.1) 4 && c.2.2.2.2.2.2.2.2.2.2.1.all fileOk)
theorem F32_eq (x : D (.pair ty27 .un)) (h : x.1.2.2.2.2.2.2.2.2.2.2.1.length ≤ 20) : F32 x = some ((if sizesOk x.1 = true then 0 else 1), ()) := by
  unfold F32
  rw [chk42, chk42, chk42, chk42, chk42, chk42, chk42, chk42]
  rw [loop_of (xs := x.1.2.2.2.2.2.2.2.2.2.2.1) (st := fun (_ : Unit) i => ((i : Int), ())) (g := fun _ _ f => if fileOk f = true then some (.inl ()) else some (.inr ((1 : Int), ()))) (fin := fun _ => ()) (b := ())]
  rotate_left
  · intro b i y hx
    refine (for_step hx).trans ?_
    rw [step_if]
    refine (chk42n (y.1, (1, (16, ()))) _ _).trans ?_
    show (if inR' 1 16 y.1 = true then cnd (neI (remI .i64 (lenL y.2.1) 32) 0) (some (Sum.inr (Sum.inr ((1 : Int), ())))) (cnd (ltI (mulI .i64 y.1 32) (lenL y.2.1)) (some (Sum.inr (Sum.inr ((1 : Int), ())))) (some (Sum.inl (addI .i64 (i : Int) 1, ())))) else some (Sum.inr (Sum.inr ((1 : Int), ())))) = _
    rw [addN (ix_le hx (Nat.le_trans h (by decide)))]
    unfold fileOk
    cases inR' 1 16 y.1 <;> cases neI (remI .i64 (lenL y.2.1) 32) 0 <;> cases ltI (mulI .i64 y.1 32) (lenL y.2.1) <;> rfl
  · exact fun b => for_end
  · rfl
  · omega
  rw [fold_all]
  simp only [if_and]
  unfold sizesOk
  have e8 : (inR' 1 16 x.1.2.2.2.1 && (inR' 1 x.1.2.2.2.1 x.1.2.2.1 && (inR' 1 16 x.1.2.2.2.2.1 && (inR' 1 16 x.1.2.2.2.2.2.1 && (inR' 0 64 x.1.2.2.2.2.2.2.1 && (inR' 0 32 x.1.2.2.2.2.2.2.2.1 && (inR' 1 256 x.1.2.2.2.2.2.2.2.2.1 && inR' 1 32 x.1.2.2.2.2.2.2.2.2.2.1))))))) = sizes8 x.1 := rfl
  rw [e8]
  cases sizes8 x.1
  · rfl
  rw [if_pos rfl, Bool.true_and]
  cases leI (lenL x.1.2.2.2.2.2.2.2.2.2.2.1) 4
  · rfl
  cases x.1.2.2.2.2.2.2.2.2.2.2.1.all fileOk <;> rfl
theorem F36_eq (x : D (.pair ty27 .un)) (h : x.1.2.2.2.2.2.2.2.2.2.2.1.length ≤ 20) : F36 x = some (sizesOk x.1, ()) := by
  unfold F36
  rw [range_chk, range_chk, range_chk, range_chk, range_chk, range_chk, range_chk, range_chk]
  rw [loop_of (xs := x.1.2.2.2.2.2.2.2.2.2.2.1) (st := fun (_ : Unit) i => ((i : Int), ())) (g := fun _ _ f => if fileOk f = true then some (.inl ()) else some (.inr (false, ()))) (fin := fun _ => ()) (b := ())]
  rotate_left
  · intro b i y hx
    refine (for_step hx).trans ?_
    rw [step_if]
    refine (range_chk y.1 1 16 _ _).trans ?_
    show (if inR' 1 16 y.1 = true then cnd (neI (remI .i64 (lenL y.2.1) 32) 0) (some (Sum.inr (Sum.inr (false, ())))) (cnd (ltI (mulI .i64 y.1 32) (lenL y.2.1)) (some (Sum.inr (Sum.inr (false, ())))) (some (Sum.inl (addI .i64 (i : Int) 1, ())))) else some (Sum.inr (Sum.inr (false, ())))) = _
    rw [addN (ix_le hx (Nat.le_trans h (by decide)))]
    unfold fileOk
    cases inR' 1 16 y.1 <;> cases neI (remI .i64 (lenL y.2.1) 32) 0 <;> cases ltI (mulI .i64 y.1 32) (lenL y.2.1) <;> rfl
  · exact fun b => for_end
  · rfl
  · omega
  rw [fold_all]
  simp only [if_and]
  unfold sizesOk
  have e8 : (inR' 1 16 x.1.2.2.2.1 && (inR' 1 x.1.2.2.2.1 x.1.2.2.1 && (inR' 1 16 x.1.2.2.2.2.1 && (inR' 1 16 x.1.2.2.2.2.2.1 && (inR' 0 64 x.1.2.2.2.2.2.2.1 && (inR' 0 32 x.1.2.2.2.2.2.2.2.1 && (inR' 1 256 x.1.2.2.2.2.2.2.2.2.1 && inR' 1 32 x.1.2.2.2.2.2.2.2.2.2.1))))))) = sizes8 x.1 := rfl
  rw [e8]
  cases sizes8 x.1
  · rfl
  rw [if_pos rfl, Bool.true_and]
  have e4 : ltI 4 (lenL x.1.2.2.2.2.2.2.2.2.2.2.1) = !leI (lenL x.1.2.2.2.2.2.2.2.2.2.2.1) 4 := by
    rw [ltI_eq, leI_eq]
    by_cases q : lenL x.1.2.2.2.2.2.2.2.2.2.2.1 ≤ 4
    · have : ¬ 4 < lenL x.1.2.2.2.2.2.2.2.2.2.2.1 := by omega
      simp [q, this]
    · have : 4 < lenL x.1.2.2.2.2.2.2.2.2.2.2.1 := by omega
      simp [q, this]
  rw [e4]
  cases leI (lenL x.1.2.2.2.2.2.2.2.2.2.2.1) 4
  · rfl
  cases x.1.2.2.2.2.2.2.2.2.2.2.1.all fileOk <;> rfl
end Go.Bo
namespace Go.Bo
open Go Go.Ls
abbrev Acc := D ty70
theorem F226_eq (x : D (.pair (.int .i64) .un)) : F226 x = some (inR' 0 1048576 x.1, ()) := by
  unfold F226 inR'
  rw [leI_eq, leI_eq, cnd_if]
  by_cases h : 0 ≤ x.1
  · simp [h]
  · simp [h]
theorem F110_eq (x : D (.pair (.int .i64) .un)) : F110 x = some (inR' 0 1048576 x.1, ()) := F226_eq x
/-- The parent of account i. -/
def tOk (i : Nat) (a : Acc) : Bool := bif Nat.beq i 0 then eqI a.1 (-1) else inR' 0 ((i : Int) - 1) a.1
def amt (a : Acc) : Bool := inR' 0 1048576 a.2.1 && (inR' 0 1048576 a.2.2.1 && (inR' 0 1048576 a.2.2.2.1 && inR' 0 1048576 a.2.2.2.2.1))
def within (a : Acc) : Bool := !ltI a.2.2.2.2.1 a.2.1
theorem t_step {α : Type} (i : Nat) (p : Int) (bad ok : Option α) : cnd (eqI (i : Int) 0) (cnd (neI p (-1)) bad (cnd (ltI 0 (i : Int)) (cnd (ltI p 0) bad (cnd (leI (i : Int) p) bad ok)) ok)) (cnd (ltI 0 (i : Int)) (cnd (ltI p 0) bad (cnd (leI (i : Int) p) bad ok)) ok) = if (bif Nat.beq i 0 then eqI p (-1) else inR' 0 ((i : Int) - 1) p) = true then ok else bad := by
  rw [range_chk2]
  cases i with
  | zero =>
    rw [cnd_pos (by rfl), cnd_neg (b := ltI 0 ((0 : Nat) : Int)) (by rfl), neI_eq, eqI_eq]
    show cnd (!decide (p = -1)) bad ok = if decide (p = -1) = true then ok else bad
    cases decide (p = -1) <;> rfl
  | succ i =>
    rw [cnd_neg (b := eqI ((i + 1 : Nat) : Int) 0) (by rw [eqI_eq]; exact decide_eq_false (by omega)), cnd_pos (by rw [ltI_eq]; exact decide_eq_true (by omega))]
    rfl
theorem F177_eq (x : D (.pair ty25 .un)) (h : x.1.length ≤ 8) : F177 x = some (allI tOk 0 x.1, ()) := by
  unfold F177
  rw [loop_of (xs := x.1) (st := fun (_ : Unit) i => ((i : Int), ())) (g := fun i _ a => if tOk i a = true then some (.inl ()) else some (.inr (false, ()))) (fin := fun _ => ()) (b := ())]
  rotate_left
  · intro b i y hx
    refine (for_step hx).trans ?_
    rw [step_if]
    refine (t_step i y.1 _ _).trans ?_
    show (if tOk i y = true then some (Sum.inl (addI .i64 (i : Int) 1, ())) else some (Sum.inr (Sum.inr (false, ())))) = _
    rw [addN (ix_le hx (Nat.le_trans h (by decide)))]
  · exact fun b => for_end
  · rfl
  · omega
  rw [fold_ix]
  cases allI tOk 0 x.1 <;> rfl
theorem chk226n (t : D (.pair (.int .i64) .un)) {β : Type} (A e : Option β) : bnd (F226 t) (fun x0 => cnd (notB x0.1) e A) = if inR' 0 1048576 t.1 = true then A else e := by
  rw [F226_eq, bnd_s, notB_eq]
  cases inR' 0 1048576 t.1 <;> rfl
theorem chk110n (t : D (.pair (.int .i64) .un)) {β : Type} (A e : Option β) : bnd (F110 t) (fun x0 => cnd (notB x0.1) e A) = if inR' 0 1048576 t.1 = true then A else e := chk226n t A e
def headOk (a : Acc) : Bool := eqI a.2.2.1 0 && eqI a.2.2.2.1 0
theorem F178_eq (a0 : Acc) (l : List Acc) (h : (a0 :: l).length ≤ 8) : F178 ((a0 :: l : List Acc), ()) = some ((a0 :: l).all amt && headOk a0, ()) := by
  unfold F178
  rw [loop_of (xs := a0 :: l) (st := fun (_ : Unit) i => ((i : Int), ())) (g := fun i _ a => if amt a = true then some (.inl ()) else some (.inr (false, ()))) (fin := fun _ => ()) (b := ())]
  rotate_left
  · intro b i y hx
    refine (for_step hx).trans ?_
    rw [step_if]
    refine (chk226n (y.2.1, ()) _ _).trans ?_
    rw [chk226n, chk226n, chk226n]
    simp only [if_and]
    show (if amt y = true then some (Sum.inl (addI .i64 (i : Int) 1, ())) else some (Sum.inr (Sum.inr (false, ())))) = _
    rw [addN (ix_le hx (Nat.le_trans h (by decide)))]
  · exact fun b => for_end
  · rfl
  · omega
  rw [fold_all]
  cases (a0 :: l).all amt
  · rfl
  rw [if_pos rfl, bndS_l, Bool.true_and]
  show cnd (eqI a0.2.2.1 0) (some (eqI a0.2.2.2.1 0, ())) (some (false, ())) = _
  unfold headOk
  cases eqI a0.2.2.1 0 <;> rfl
/- The own usages. -/
noncomputable def ownC {β : Type} (i : Nat) (n : List Int) (a : Acc) (K : List Int → Option β) : Option β :=
  chk (inL? n (i : Int)) (bnd (atL n (i : Int)) (fun x2 => chk (inL? n (i : Int)) (bnd (atL n (i : Int)) (fun x3 => cnd (ltI 0 (i : Int))
    (chk (inL? (setL n (i : Int) (addI .i64 x2 a.2.1)) a.1) (bnd (atL (setL n (i : Int) (addI .i64 x2 a.2.1)) a.1) (fun x4 => chk (inL? (setL n (i : Int) (addI .i64 x2 a.2.1)) a.1) (bnd (atL (setL n (i : Int) (addI .i64 x2 a.2.1)) a.1) (fun x5 => K (setL (setL n (i : Int) (addI .i64 x2 a.2.1)) a.1 (subI .i64 x4 a.2.1)))))))
    (K (setL n (i : Int) (addI .i64 x2 a.2.1)))))))
theorem ownC_eq {β : Type} (i : Nat) (n : List Int) (a : Acc) (K : List Int → Option β) : ownC i n a K = bnd (ownC i n a some) K := by
  unfold ownC
  cases inL? n (i : Int)
  · rfl
  cases atL n (i : Int) with
  | none => rfl
  | some v =>
    simp only [chk_t, bnd_s]
    cases ltI 0 (i : Int)
    · rfl
    simp only [cnd_t]
    cases inL? (setL n (i : Int) (addI .i64 v a.2.1)) a.1
    · rfl
    cases atL (setL n (i : Int) (addI .i64 v a.2.1)) a.1 <;> rfl
noncomputable def ownG (i : Nat) (n : List Int) (a : Acc) : Option (Sum (List Int) (List Int × Unit)) := bnd (ownC i n a some) (fun n' => some (.inl n'))
theorem in_nat {n : List Int} {i : Nat} {v : Int} (h : n[i]? = some v) : inL? n (i : Int) = true := by
  have := (List.getElem?_eq_some_iff.1 h).1
  unfold inL?
  simp only [Bool.and_eq_true, decide_eq_true_eq]
  exact ⟨by omega, Int.ofNat_lt.2 this⟩
theorem own_0 {n : List Int} {a : Acc} {v : Int} (h : n[0]? = some v) : ownC 0 n a some = some (n.set 0 (addI .i64 v a.2.1)) := by
  unfold ownC
  rw [in_nat h, at_nat h, chk_t, bnd_s, chk_t, bnd_s]
  rfl
theorem own_s {n : List Int} {a : Acc} {v v1 : Int} {k q : Nat} (hk : 0 < k) (h : n[k]? = some v) (hq : a.1 = (q : Int)) (h1 : (n.set k (addI .i64 v a.2.1))[q]? = some v1) : ownC k n a some = some ((n.set k (addI .i64 v a.2.1)).set q (subI .i64 v1 a.2.1)) := by
  unfold ownC
  rw [in_nat h, at_nat h, chk_t, bnd_s, chk_t, bnd_s, cnd_pos (by rw [ltI_eq]; exact decide_eq_true (by omega))]
  rw [hq]
  have e : setL n (k : Int) (addI .i64 v a.2.1) = n.set k (addI .i64 v a.2.1) := rfl
  rw [e, in_nat h1, at_nat h1, chk_t, bnd_s, chk_t, bnd_s]
  rfl
/-- What the accounts from place k on, behind the root, take from account i. -/
def kidsL (i : Nat) : List Acc → Int
  | [] => 0
  | a :: l => (if a.1 = (i : Int) then a.2.1 else 0) + kidsL i l
theorem kidsL_bd (i : Nat) : ∀ (l : List Acc), l.all amt = true → 0 ≤ kidsL i l ∧ kidsL i l ≤ 1048576 * l.length
  | [], _ => by simp [kidsL]
  | a :: l, h => by
    rw [List.all_cons, Bool.and_eq_true] at h
    obtain ⟨h1, h2⟩ := kidsL_bd i l h.2
    have h3 := h.1
    simp only [amt, inR', Bool.and_eq_true, decide_eq_true_eq] at h3
    unfold kidsL
    have h4 : (0 : Int) ≤ a.2.1 ∧ a.2.1 ≤ 1048576 := h3.1
    simp only [List.length_cons]
    split <;> constructor <;> omega
theorem F111_eq (l : List Acc) (i : Nat) (h : l.length ≤ 8) (ha : l.all amt = true) : F111 (l, ((i : Int), ())) = some (kidsL i (l.drop 1), ()) := by
  unfold F111
  have key : ∀ (s : List Acc) (k : Nat) (b : Int), l.drop k = s → k + s.length = l.length → 0 ≤ b → b ≤ 1048576 * k → foldO (R := Int × Unit) (fun _ b a => some (.inl (if a.1 = (i : Int) then addI .i64 b a.2.1 else b))) (fun b => (b, ())) k b s = some (.inl (b + kidsL i s, ())) := by
    intro s
    induction s with
    | nil => intro k b _ _ _ _; unfold foldO kidsL; rw [Int.add_zero]
    | cons a s ih =>
      intro k b hd hl h1 h2
      have hm : a ∈ l := by
        have : a ∈ l.drop k := by rw [hd]; simp
        exact List.mem_of_mem_drop this
      have hamt := List.all_eq_true.1 ha a hm
      simp only [amt, inR', Bool.and_eq_true, decide_eq_true_eq] at hamt
      have h4 : (0 : Int) ≤ a.2.1 ∧ a.2.1 ≤ 1048576 := hamt.1
      simp only [List.length_cons] at hl
      unfold foldO kidsL
      by_cases hp : a.1 = (i : Int)
      · simp only [hp, if_true]
        rw [addI_ok (by omega) (by omega)]
        rw [ih (k + 1) (b + a.2.1) (by rw [← List.drop_drop, hd]; rfl) (by omega) (by omega) (by omega)]
        congr 3; omega
      · simp only [hp, if_false]
        rw [ih (k + 1) b (by rw [← List.drop_drop, hd]; rfl) (by omega) (by omega) (by omega)]
        congr 3; omega
  have hl : loopS (fun d0 : Int × (Int × Unit) => cnd (ltI d0.2.1 (lenL l)) (bnd (atL l d0.2.1) (fun x1 : Acc => cnd (eqI x1.1 (i : Int)) (bnd (atL l d0.2.1) (fun x2 : Acc => some (.inl ((addI .i64 d0.1 x2.2.1), ((addI .i64 d0.2.1 1), ()))))) (some (.inl (d0.1, ((addI .i64 d0.2.1 1), ())))))) (inR (some (.inl (d0.1, ()))))) 1000000000 ((0 : Int), ((1 : Int), ())) = (some (.inl (kidsL i (l.drop 1), ())) : Option (Sum (Int × Unit) (Int × Unit))) := by
    by_cases h0 : l.length = 0
    · have : l = [] := List.length_eq_zero_iff.1 h0
      subst this
      rw [loopS_eq]
      rfl
    · rw [loopS_eq]
      have := loop_fold (f := fun d0 : Int × (Int × Unit) => cnd (ltI d0.2.1 (lenL l)) (bnd (atL l d0.2.1) (fun x1 : Acc => cnd (eqI x1.1 (i : Int)) (bnd (atL l d0.2.1) (fun x2 : Acc => some (.inl ((addI .i64 d0.1 x2.2.1), ((addI .i64 d0.2.1 1), ()))))) (some (.inl (d0.1, ((addI .i64 d0.2.1 1), ())))))) (inR (some (.inl (d0.1, ()))))) (xs := l) (st := fun (b : Int) j => (b, ((j : Int), ()))) (g := fun _ b a => some (.inl (if a.1 = (i : Int) then addI .i64 b a.2.1 else b))) (fin := fun b => (b, ())) (R := Int × Unit) (fun b j y hx => by
          refine (for_step hx).trans ?_
          show cnd (eqI y.1 (i : Int)) (bnd (atL l (j : Int)) _) _ = _
          rw [at_nat hx, bnd_s, addN (ix_le hx (Nat.le_trans h (by decide)))]
          unfold stepO
          rw [eqI_eq]
          by_cases hp : y.1 = (i : Int)
          · simp [hp, cnd_t]
          · simp [hp, cnd_f]) (fun b => for_end) (l.drop 1) 1 0 1000000000 rfl (by rw [List.length_drop]; omega) (by rw [List.length_drop]; omega)
      refine this.trans ?_
      rw [key (l.drop 1) 1 0 rfl (by rw [List.length_drop]; omega) (by omega) (by omega), Int.zero_add]
  refine (congrArg (fun o => bndS o _) hl).trans ?_
  rfl
/-- What account i has of its own. -/
def us (k i : Nat) (l : List Acc) : Int := if k ≤ i then ((l[i - k]?).map (·.2.1)).getD 0 else 0
def kd (k i : Nat) (l : List Acc) : Int := if k = 0 then kidsL i (l.drop 1) else kidsL i l
theorem own_fold : ∀ (l : List Acc) (k : Nat) (n : List Int), k + l.length = n.length → n.length ≤ 8 → allI tOk k l = true → l.all amt = true → (∀ (i : Nat) (v : Int), n[i]? = some v → -(1048576 * (k : Int)) ≤ v ∧ v ≤ 1048576 * (k : Int)) →
    ∃ n', foldO ownG (fun n => (n, ())) k n l = some (.inl (n', ())) ∧ n'.length = n.length ∧ ∀ (i : Nat) (v : Int), n[i]? = some v → n'[i]? = some (v + us k i l - kd k i l)
  | [], k, n, hl, h8, ht, ha, hb => by
    refine ⟨n, rfl, rfl, fun i v hv => ?_⟩
    have : us k i [] = 0 := by unfold us; split <;> simp
    have h2 : kd k i [] = 0 := by unfold kd; split <;> rfl
    rw [hv, this, h2]; simp
  | a :: l, k, n, hl, h8, ht, ha, hb => by
    rw [List.all_cons, Bool.and_eq_true] at ha
    have hamt := ha.1
    simp only [amt, inR', Bool.and_eq_true, decide_eq_true_eq] at hamt
    have hu : (0 : Int) ≤ a.2.1 ∧ a.2.1 ≤ 1048576 := hamt.1
    unfold allI at ht
    rw [Bool.and_eq_true] at ht
    simp only [List.length_cons] at hl
    have hk : k < n.length := by omega
    have h0 : n[k]? = some n[k] := List.getElem?_eq_getElem hk
    obtain ⟨b1, b2⟩ := hb k _ h0
    have hadd : addI .i64 n[k] a.2.1 = n[k] + a.2.1 := addI_ok (by omega) (by omega)
    have husk : ∀ i, us k i (a :: l) = (if i = k then a.2.1 else 0) + us (k + 1) i l := by
      intro i
      unfold us
      by_cases hik : i = k
      · subst hik
        rw [if_pos (Nat.le_refl _), if_pos rfl, if_neg (by omega), Nat.sub_self]
        simp
      · rw [if_neg hik]
        by_cases hki : k ≤ i
        · rw [if_pos hki, if_pos (by omega), show i - k = (i - (k + 1)) + 1 by omega, List.getElem?_cons_succ, Int.zero_add]
        · rw [if_neg hki, if_neg (by omega)]; rfl
    by_cases hk0 : k = 0
    · subst hk0
      have hg : ownG 0 n a = some (.inl (n.set 0 (n[0] + a.2.1))) := by
        unfold ownG
        rw [own_0 h0, hadd]; rfl
      obtain ⟨n', q1, q2, q3⟩ := own_fold l 1 (n.set 0 (n[0] + a.2.1)) (by rw [List.length_set]; omega) (by rw [List.length_set]; exact h8) ht.2 ha.2 (fun i v hv => by
        by_cases hi : i = 0
        · subst hi
          rw [List.getElem?_set_self hk] at hv
          cases hv; constructor <;> omega
        · rw [List.getElem?_set_ne (fun h => hi h.symm)] at hv
          obtain ⟨c1, c2⟩ := hb i v hv
          constructor <;> omega)
      refine ⟨n', by unfold foldO; rw [hg]; exact q1, by rw [q2, List.length_set], fun i v hv => ?_⟩
      have hkd : kd 0 i (a :: l) = kd 1 i l := rfl
      have hus1 : us 0 i (a :: l) = (if i = 0 then a.2.1 else 0) + us 1 i l := husk i
      rw [hus1, hkd]
      by_cases hi : i = 0
      · subst hi
        rw [h0] at hv
        cases hv
        have := q3 0 (n[0] + a.2.1) (by rw [List.getElem?_set_self hk])
        rw [this, if_pos rfl]
        congr 1; omega
      · have := q3 i v (by rw [List.getElem?_set_ne (fun h => hi h.symm)]; exact hv)
        rw [this, if_neg hi]
        congr 1; omega
    · have htk : inR' 0 ((k : Int) - 1) a.1 = true := by
        have := ht.1
        unfold tOk at this
        have hb0 : Nat.beq k 0 = false := by cases k with | zero => exact absurd rfl hk0 | succ k => rfl
        rw [hb0] at this
        exact this
      simp only [inR', Bool.and_eq_true, decide_eq_true_eq] at htk
      obtain ⟨q, hq⟩ : ∃ q : Nat, a.1 = (q : Int) := ⟨a.1.toNat, (Int.toNat_of_nonneg htk.1).symm⟩
      have hqk : q < k := by have := htk.2; rw [hq] at this; omega
      have h1 : (n.set k (addI .i64 n[k] a.2.1))[q]? = some n[q] := by
        rw [List.getElem?_set_ne (by omega)]
        exact List.getElem?_eq_getElem (by omega)
      have hq0 : n[q]? = some n[q] := List.getElem?_eq_getElem (by omega)
      obtain ⟨d1, d2⟩ := hb q _ hq0
      have hsub : subI .i64 n[q] a.2.1 = n[q] - a.2.1 := subI_ok (by omega) (by omega)
      have hg : ownG k n a = some (.inl ((n.set k (n[k] + a.2.1)).set q (n[q] - a.2.1))) := by
        unfold ownG
        rw [own_s (by omega) h0 hq h1, hadd, hsub]; rfl
      have hval : ∀ (i : Nat) (v : Int), n[i]? = some v → ((n.set k (n[k] + a.2.1)).set q (n[q] - a.2.1))[i]? = some (v + (if i = k then a.2.1 else 0) - (if a.1 = (i : Int) then a.2.1 else 0)) := by
        intro i v hv
        have hi : i < n.length := (List.getElem?_eq_some_iff.1 hv).1
        have hvi : n[i] = v := (List.getElem?_eq_some_iff.1 hv).2
        rw [List.getElem?_set, List.getElem?_set]
        by_cases hiq : q = i
        · subst hiq
          rw [if_pos rfl, if_pos (by rw [List.length_set]; omega), if_neg (c := q = k) (by omega), if_pos hq, hvi]
          congr 1; omega
        · rw [if_neg hiq, if_neg (c := a.1 = (i : Int)) (by rw [hq]; intro h; exact hiq (Int.ofNat_inj.1 h))]
          by_cases hik : k = i
          · subst hik
            rw [if_pos rfl, if_pos hi, if_pos rfl, hvi]
            congr 1; omega
          · rw [if_neg hik, if_neg (c := i = k) (by omega), hv]
            congr 1; omega
      obtain ⟨n', q1, q2, q3⟩ := own_fold l (k + 1) ((n.set k (n[k] + a.2.1)).set q (n[q] - a.2.1)) (by rw [List.length_set, List.length_set]; omega) (by rw [List.length_set, List.length_set]; exact h8) ht.2 ha.2 (fun i v hv => by
        have hi : i < n.length := by have := (List.getElem?_eq_some_iff.1 hv).1; simpa using this
        have hn : n[i]? = some n[i] := List.getElem?_eq_getElem hi
        rw [hval i _ hn] at hv
        cases hv
        obtain ⟨c1, c2⟩ := hb i _ hn
        have c3 : ((k + 1 : Nat) : Int) = (k : Int) + 1 := by omega
        rw [c3]
        split <;> split <;> constructor <;> omega)
      refine ⟨n', by unfold foldO; rw [hg]; exact q1, by rw [q2, List.length_set, List.length_set], fun i v hv => ?_⟩
      rw [q3 i _ (hval i v hv), husk i]
      have hkd : kd k i (a :: l) = (if a.1 = (i : Int) then a.2.1 else 0) + kd (k + 1) i l := by
        unfold kd
        rw [if_neg hk0, if_neg (Nat.succ_ne_zero k)]; rfl
      rw [hkd]
      congr 1; omega
theorem own_list (l : List Acc) (h8 : l.length ≤ 8) (ht : allI tOk 0 l = true) (ha : l.all amt = true) : ∃ n', F181 (l, ()) = some (n', ()) ∧ n'.length = l.length ∧ ∀ (i : Nat) (a : Acc), l[i]? = some a → n'[i]? = some (a.2.1 - kidsL i (l.drop 1)) := by
  have hrep : rep (lenL l) (0 : Int) = List.replicate l.length 0 := rfl
  obtain ⟨n', q1, q2, q3⟩ := own_fold l 0 (List.replicate l.length 0) (by simp) (by simpa using h8) ht ha (fun i v hv => by
    rw [List.getElem?_replicate] at hv
    split at hv
    · cases hv; constructor <;> decide
    · cases hv)
  refine ⟨n', ?_, by simpa using q2, fun i a hi => ?_⟩
  · unfold F181
    have hmk : okMk (lenL l) (lenL l) 8 = true := by
      unfold okMk Hm.roomOk
      rw [lenL_eq]
      simp only [Bool.and_eq_true, decide_eq_true_eq, Nat.ble_eq]
      refine ⟨by omega, by omega, ?_⟩
      show l.length * 8 ≤ 4294967296
      omega
    rw [hmk, chk_t, hrep]
    rw [loop_of (xs := l) (st := fun (b : List Int) i => (b, ((i : Int), ()))) (g := ownG) (fin := fun b => (b, ())) (b := List.replicate l.length 0)]
    rotate_left
    · intro b i y hx
      refine (for_step hx).trans ?_
      show ownC i b y (fun n' => some (Sum.inl (n', (addI .i64 (i : Int) 1, ())))) = _
      rw [ownC_eq, addN (ix_le hx (Nat.le_trans h8 (by decide)))]
      unfold stepO ownG
      cases ownC i b y some <;> rfl
    · exact fun b => for_end
    · rfl
    · omega
    rw [q1]
    rfl
  · have hlt := (List.getElem?_eq_some_iff.1 hi).1
    rw [q3 i 0 (by rw [List.getElem?_replicate, if_pos hlt])]
    unfold us kd
    rw [if_pos (Nat.zero_le _), if_pos rfl, Nat.sub_zero, hi]
    simp
end Go.Bo
namespace Go.Bo
open Go Go.Ls
theorem min_lt : ∀ (t : List Int) (h : Int), t.foldl minI h < 0 ↔ h < 0 ∨ ∃ v, v ∈ t ∧ v < 0
  | [], h => by simp
  | a :: t, h => by
    rw [List.foldl_cons, min_lt t]
    have hm : minI h a < 0 ↔ h < 0 ∨ a < 0 := by
      unfold minI
      by_cases q : h ≤ a
      · simp only [decide_eq_true q, cond_true]; omega
      · simp only [decide_eq_false q, cond_false]; omega
    rw [hm]
    constructor
    · rintro ((g | g) | ⟨v, g1, g2⟩)
      · exact .inl g
      · exact .inr ⟨a, by simp, g⟩
      · exact .inr ⟨v, by simp [g1], g2⟩
    · rintro (g | ⟨v, g1, g2⟩)
      · exact .inl (.inl g)
      · rcases List.mem_cons.1 g1 with rfl | g1
        · exact .inl (.inr g2)
        · exact .inr ⟨v, g1, g2⟩
theorem F180_eq (h : Int) (t : List Int) (h8 : (h :: t).length ≤ 8) : F180 ((h :: t : List Int), ()) = some (t.foldl minI h, ()) := by
  unfold F180
  have e1 : ltI (lenL (h :: t)) 1 = false := by
    rw [ltI_eq, lenL_eq]
    exact decide_eq_false (by simp only [List.length_cons]; omega)
  rw [cnd_neg e1]
  show bndS (loopS _ 1000000000 (h, ((1 : Int), ()))) _ = _
  rw [loopS_eq]
  have := loop_fold (f := fun d1 : Int × (Int × Unit) => cnd (ltI d1.2.1 (lenL (h :: t))) (bnd (atL (h :: t) d1.2.1) (fun x2 => some (.inl ((minI d1.1 x2), ((addI .i64 d1.2.1 1), ()))))) (inR (some (.inl (d1.1, ()))))) (xs := h :: t) (st := fun (b : Int) j => (b, ((j : Int), ()))) (g := fun _ b a => some (.inl (minI b a))) (fin := fun b => (b, ())) (R := Int × Unit) (fun b j y hx => by
      refine (for_step hx).trans ?_
      show some (Sum.inl (minI b y, (addI .i64 (j : Int) 1, ()))) = _
      rw [addN (ix_le hx (Nat.le_trans h8 (by decide)))]
      rfl) (fun b => for_end) t 1 h 1000000000 rfl (by simp only [List.length_cons]; omega) (by simp only [List.length_cons] at h8; omega)
  rw [fold_plain] at this
  refine (congrArg (fun o => bndS o _) this).trans ?_
  rfl
def ownOk (l : List Acc) : Bool := allI (fun i a => !ltI a.2.1 (kidsL i (l.drop 1))) 0 l
def accCode (l : List Acc) : Int :=
  if inR' 1 8 l.length = true then (if allI tOk 0 l = true then (if (l.all amt && (match l with | a0 :: _ => headOk a0 | [] => false)) = true then (if l.all within = true then (if ownOk l = true then 0 else 11) else 17) else 2) else 1) else 9
theorem allI_iff {X : Type} {p : Nat → X → Bool} : ∀ {l : List X} {k : Nat}, allI p k l = true ↔ ∀ i x, l[i]? = some x → p (k + i) x = true
  | [], k => by unfold allI; simp
  | a :: l, k => by
    unfold allI
    rw [Bool.and_eq_true, allI_iff]
    constructor
    · rintro ⟨h1, h2⟩ i x hx
      cases i with
      | zero => simp only [List.getElem?_cons_zero, Option.some.injEq] at hx; subst hx; exact h1
      | succ i =>
        simp only [List.getElem?_cons_succ] at hx
        have := h2 i x hx
        rw [show k + 1 + i = k + (i + 1) by omega] at this
        exact this
    · intro h
      refine ⟨h 0 a rfl, fun i x hx => ?_⟩
      have := h (i + 1) x (by simpa using hx)
      rw [show k + (i + 1) = k + 1 + i by omega] at this
      exact this
theorem ltI_sub (a b : Int) : ltI a b = decide (a - b < 0) := by
  rw [ltI_eq]
  congr 1
  apply propext
  omega
theorem min_own {l : List Acc} (h8 : l.length ≤ 8) (h1 : 1 ≤ l.length) (ht : allI tOk 0 l = true) (ha : l.all amt = true) : ∃ n' m, F181 (l, ()) = some (n', ()) ∧ F180 (n', ()) = some (m, ()) ∧ ltI m 0 = !ownOk l := by
  obtain ⟨n', q1, q2, q3⟩ := own_list l h8 ht ha
  cases n' with
  | nil => simp only [List.length_nil] at q2; omega
  | cons h t =>
    refine ⟨h :: t, t.foldl minI h, q1, F180_eq h t (by rw [q2]; exact h8), ?_⟩
    have key : (t.foldl minI h < 0) ↔ ownOk l = false := by
      rw [min_lt]
      unfold ownOk
      rw [← Bool.not_eq_true, allI_iff]
      constructor
      · intro hv hall
        have : ∃ (i : Nat) (v : Int), (h :: t)[i]? = some v ∧ v < 0 := by
          rcases hv with g | ⟨v, g1, g2⟩
          · exact ⟨0, h, rfl, g⟩
          · obtain ⟨j, hj⟩ := List.getElem?_of_mem g1
            exact ⟨j + 1, v, by simpa using hj, g2⟩
        obtain ⟨i, v, hi, hv0⟩ := this
        have hlt := (List.getElem?_eq_some_iff.1 hi).1
        rw [q2] at hlt
        have ha0 : l[i]? = some l[i] := List.getElem?_eq_getElem hlt
        have := q3 i l[i] ha0
        rw [hi] at this
        have hb := hall i l[i] ha0
        rw [Nat.zero_add, ltI_sub] at hb
        have e : v = (l[i]).2.1 - kidsL i (l.drop 1) := Option.some.inj this
        rw [← e, decide_eq_true hv0] at hb
        cases hb
      · intro hn
        by_cases hc : h < 0 ∨ ∃ v, v ∈ t ∧ v < 0
        · exact hc
        · exfalso
          apply hn
          intro i a hi
          rw [Nat.zero_add, ltI_sub]
          have hv := q3 i a hi
          have hv0 : ¬ (a.2.1 - kidsL i (l.drop 1)) < 0 := by
            intro hneg
            apply hc
            cases i with
            | zero => simp only [List.getElem?_cons_zero, Option.some.injEq] at hv; exact .inl (by rw [hv]; exact hneg)
            | succ i =>
              simp only [List.getElem?_cons_succ] at hv
              exact .inr ⟨_, List.mem_of_getElem? hv, hneg⟩
          rw [decide_eq_false hv0]
          rfl
    rw [ltI_eq]
    cases hq : ownOk l with
    | false => exact decide_eq_true (key.2 hq)
    | true => exact decide_eq_false (fun g => by rw [key.1 g] at hq; cases hq)
theorem F105_eq (l : List Acc) : F105 (l, ()) = some (accCode l, ()) := by
  unfold F105 accCode
  rw [range_chk, lenL_eq]
  cases e1 : inR' 1 8 (l.length : Int)
  · rfl
  have hlen : 1 ≤ l.length ∧ l.length ≤ 8 := by
    simp only [inR', Bool.and_eq_true, decide_eq_true_eq] at e1
    omega
  rw [if_pos rfl, if_pos rfl, F177_eq (l, ()) hlen.2, bnd_s, notB_eq]
  cases ht : allI tOk 0 l
  · rfl
  rw [cnd_neg (by rfl), if_pos rfl]
  cases l with
  | nil => simp only [List.length_nil] at hlen; omega
  | cons a0 l =>
    rw [F178_eq a0 l hlen.2, bnd_s, notB_eq]
    cases ha : (a0 :: l).all amt && headOk a0
    · rfl
    rw [cnd_neg (by rfl), if_pos rfl]
    rw [Bool.and_eq_true] at ha
    rw [loop_of (xs := a0 :: l) (st := fun (_ : Unit) i => ((i : Int), ())) (g := fun _ _ a => if within a = true then some (.inl ()) else some (.inr ((17 : Int), ()))) (fin := fun _ => ()) (b := ())]
    rotate_left
    · intro b i y hx
      refine (for_step hx).trans ?_
      rw [step_if]
      show cnd (ltI y.2.2.2.2.1 y.2.1) (inR (inR (cnd (leI 0 (i : Int)) (some ((17 : Int), ())) _))) (some (Sum.inl (addI .i64 (i : Int) 1, ()))) = _
      rw [cnd_pos (b := leI 0 (i : Int)) (by rw [leI_eq]; exact decide_eq_true (by omega)), addN (ix_le hx (Nat.le_trans hlen.2 (by decide)))]
      unfold within
      cases ltI y.2.2.2.2.1 y.2.1 <;> rfl
    · exact fun b => for_end
    · rfl
    · omega
    rw [fold_all]
    cases hw : (a0 :: l).all within
    · rfl
    rw [if_pos rfl, if_pos rfl, bndS_l]
    obtain ⟨n', m, q1, q2, q3⟩ := min_own hlen.2 hlen.1 ht ha.1
    rw [q1, bnd_s, q2, bnd_s, q3]
    cases ownOk (a0 :: l) <;> rfl
theorem F37_eq (l : List Acc) : F37 (l, ()) = some (accCode l, ()) := by
  unfold F37 accCode
  rw [range_chk, lenL_eq]
  cases e1 : inR' 1 8 (l.length : Int)
  · rfl
  have hlen : 1 ≤ l.length ∧ l.length ≤ 8 := by
    simp only [inR', Bool.and_eq_true, decide_eq_true_eq] at e1
    omega
  rw [if_pos rfl, if_pos rfl]
  rw [loop_of (xs := l) (st := fun (_ : Unit) i => ((i : Int), ())) (g := fun i _ a => if tOk i a = true then some (.inl ()) else some (.inr ((1 : Int), ()))) (fin := fun _ => ()) (b := ())]
  rotate_left
  · intro b i y hx
    refine (cnd_pos (lt_nat hx) _ _).trans ?_
    simp only [at_nat hx, bnd_s]
    rw [step_if]
    refine (t_step i y.1 _ _).trans ?_
    show (if tOk i y = true then some (Sum.inl (addI .i64 (i : Int) 1, ())) else some (Sum.inr (Sum.inr ((1 : Int), ())))) = _
    rw [addN (ix_le hx (Nat.le_trans hlen.2 (by decide)))]
  · exact fun b => for_end
  · rfl
  · omega
  rw [fold_ix]
  cases ht : allI tOk 0 l
  · rfl
  rw [if_pos rfl, if_pos rfl, bndS_l]
  rw [loop_of (xs := l) (st := fun (_ : Unit) i => ((i : Int), ())) (g := fun i _ a => if amt a = true then some (.inl ()) else some (.inr ((2 : Int), ()))) (fin := fun _ => ()) (b := ())]
  rotate_left
  · intro b i y hx
    refine (for_step hx).trans ?_
    simp only [at_nat hx, bnd_s]
    refine (chk110n (y.2.1, ()) _ _).trans ?_
    rw [chk110n, chk110n, chk110n]
    simp only [if_and]
    rw [step_if]
    show (if amt y = true then some (Sum.inl (addI .i64 (i : Int) 1, ())) else some (Sum.inr (Sum.inr ((2 : Int), ())))) = _
    rw [addN (ix_le hx (Nat.le_trans hlen.2 (by decide)))]
  · exact fun b => for_end
  · rfl
  · omega
  rw [fold_all]
  cases ha : l.all amt
  · rfl
  rw [if_pos rfl, bndS_l, Bool.true_and]
  cases l with
  | nil => simp only [List.length_nil] at hlen; omega
  | cons a0 l =>
    show cnd (neI a0.2.2.1 0) (some ((2 : Int), ())) (cnd (neI a0.2.2.2.1 0) (some ((2 : Int), ())) _) = some ((if headOk a0 = true then _ else 2), ())
    unfold headOk
    have e2 : ∀ q : Int, neI q 0 = !eqI q 0 := fun _ => rfl
    rw [e2, e2]
    cases eqI a0.2.2.1 0
    · rfl
    cases eqI a0.2.2.2.1 0
    · rfl
    rw [cnd_neg (by rfl), cnd_neg (by rfl), if_pos (by rfl)]
    rw [loop_of (xs := a0 :: l) (st := fun (_ : Unit) i => ((i : Int), ())) (g := fun _ _ a => if within a = true then some (.inl ()) else some (.inr ((17 : Int), ()))) (fin := fun _ => ()) (b := ())]
    rotate_left
    · intro b i y hx
      refine (for_step hx).trans ?_
      simp only [at_nat hx, bnd_s]
      rw [step_if]
      show cnd (ltI y.2.2.2.2.1 y.2.1) (some (Sum.inr (Sum.inr ((17 : Int), ())))) (some (Sum.inl (addI .i64 (i : Int) 1, ()))) = _
      rw [addN (ix_le hx (Nat.le_trans hlen.2 (by decide)))]
      unfold within
      cases ltI y.2.2.2.2.1 y.2.1 <;> rfl
    · exact fun b => for_end
    · rfl
    · omega
    rw [fold_all]
    cases hw : (a0 :: l).all within
    · rfl
    rw [if_pos rfl, if_pos rfl, bndS_l]
    rw [loop_of (xs := a0 :: l) (st := fun (_ : Unit) i => ((i : Int), ())) (g := fun i _ a => if (!ltI a.2.1 (kidsL i ((a0 :: l).drop 1))) = true then some (.inl ()) else some (.inr ((11 : Int), ()))) (fin := fun _ => ()) (b := ())]
    rotate_left
    · intro b i y hx
      refine (for_step hx).trans ?_
      rw [step_if]
      show bnd (F111 (a0 :: l, ((i : Int), ()))) (fun x25 => cnd (ltI y.2.1 x25.1) (inR (inR (some ((11 : Int), ())))) (some (Sum.inl (addI .i64 (i : Int) 1, ())))) = _
      rw [F111_eq (a0 :: l) i hlen.2 ha, bnd_s, addN (ix_le hx (Nat.le_trans hlen.2 (by decide)))]
      cases ltI y.2.1 (kidsL i ((a0 :: l).drop 1)) <;> rfl
    · exact fun b => for_end
    · rfl
    · omega
    rw [fold_ix]
    show bndS (if ownOk (a0 :: l) = true then some (Sum.inl ()) else some (Sum.inr ((11 : Int), ()))) _ = _
    cases ownOk (a0 :: l) <;> rfl
end Go.Bo
namespace Go.Bo
open Go Go.Ls
/-- The guarantees of account i's children. -/
def minsL (i : Nat) : List Acc → Int
  | [] => 0
  | a :: l => (if a.1 = (i : Int) then a.2.2.1 else 0) + minsL i l
theorem inR_le {lo hi n : Int} (h : inR' lo hi n = true) : lo ≤ n ∧ n ≤ hi := by
  simp only [inR', Bool.and_eq_true, decide_eq_true_eq] at h
  exact h
theorem acc0 {l : List Acc} (h : accCode l = 0) : l.length ≤ 8 ∧ 1 ≤ l.length ∧ allI tOk 0 l = true ∧ l.all amt = true := by
  cases l with
  | nil => exact absurd h (by decide)
  | cons a0 l =>
    unfold accCode at h
    by_cases h1 : inR' 1 8 ((a0 :: l).length : Int) = true
    · rw [if_pos h1] at h
      by_cases h2 : allI tOk 0 (a0 :: l) = true
      · rw [if_pos h2] at h
        by_cases h3 : ((a0 :: l).all amt && headOk a0) = true
        · rw [Bool.and_eq_true] at h3
          have h4 := inR_le h1
          exact ⟨by omega, by omega, h2, h3.1⟩
        · rw [if_neg h3] at h; cases h
      · rw [if_neg h2] at h; cases h
    · rw [if_neg h1] at h; cases h
theorem amt_min {a : Acc} (h : amt a = true) : (0 : Int) ≤ a.2.2.1 ∧ @LE.le Int _ a.2.2.1 1048576 := by
  unfold amt at h
  rw [Bool.and_eq_true, Bool.and_eq_true] at h
  exact inR_le h.2.1
theorem par_at {l : List Acc} (ht : allI tOk 0 l = true) {i : Nat} {a : Acc} (h : l[i]? = some a) (hi : 0 < i) : ∃ q : Nat, a.1 = (q : Int) ∧ q < i := by
  have := allI_iff.1 ht i a h
  rw [Nat.zero_add] at this
  unfold tOk at this
  have hb : Nat.beq i 0 = false := by cases i with | zero => omega | succ i => rfl
  rw [hb] at this
  simp only [cond_false, inR', Bool.and_eq_true, decide_eq_true_eq] at this
  refine ⟨a.1.toNat, (Int.toNat_of_nonneg this.1).symm, ?_⟩
  have h1 : (0 : Int) ≤ a.1 := this.1
  have h2 : (a.1 : Int) ≤ (i : Int) - 1 := this.2
  omega
noncomputable def sumC {β : Type} (n : List Int) (a : Acc) (K : List Int → Option β) : Option β := chk (inL? n a.1) (bnd (atL n a.1) (fun x3 => chk (inL? n a.1) (bnd (atL n a.1) (fun x4 => K (setL n a.1 (addI .i64 x3 a.2.2.1))))))
theorem sumC_eq {β : Type} (n : List Int) (a : Acc) (K : List Int → Option β) : sumC n a K = bnd (sumC n a some) K := by
  unfold sumC
  cases inL? n a.1
  · rfl
  cases atL n a.1 <;> rfl
noncomputable def sumG (_ : Nat) (n : List Int) (a : Acc) : Option (Sum (List Int) (D ty148)) := bnd (sumC n a some) (fun n' => some (.inl n'))
theorem sum_fold : ∀ (s : List Acc) (k : Nat) (n : List Int), (∀ a, a ∈ s → amt a = true ∧ ∃ q : Nat, a.1 = (q : Int) ∧ q < n.length) → (k + s.length ≤ 8) → (∀ (i : Nat) (v : Int), n[i]? = some v → 0 ≤ v ∧ v ≤ 1048576 * (k : Int)) →
    ∃ n', foldO sumG (fun n => (n, ())) k n s = some (.inl (n', ())) ∧ n'.length = n.length ∧ ∀ (i : Nat) (v : Int), n[i]? = some v → n'[i]? = some (v + minsL i s)
  | [], k, n, _, _, _ => ⟨n, rfl, rfl, fun i v hv => by rw [hv]; unfold minsL; simp⟩
  | a :: s, k, n, ha, h8, hb => by
    obtain ⟨h1, q, hq, hqn⟩ := ha a (by simp)
    have hm := amt_min h1
    have h0 : n[q]? = some n[q] := List.getElem?_eq_getElem hqn
    obtain ⟨b1, b2⟩ := hb q _ h0
    simp only [List.length_cons] at h8
    have hadd : addI .i64 n[q] a.2.2.1 = n[q] + a.2.2.1 := addI_ok (by omega) (by omega)
    have hg : sumG k n a = some (.inl (n.set q (n[q] + a.2.2.1))) := by
      unfold sumG sumC
      rw [hq, in_nat h0, at_nat h0, chk_t, bnd_s, chk_t, bnd_s, hadd]
      rfl
    obtain ⟨n', q1, q2, q3⟩ := sum_fold s (k + 1) (n.set q (n[q] + a.2.2.1)) (fun a' ha' => by rw [List.length_set]; exact ha a' (by simp [ha'])) (by omega) (fun i v hv => by
      have c3 : ((k + 1 : Nat) : Int) = (k : Int) + 1 := by omega
      rw [c3]
      by_cases hi : q = i
      · subst hi
        rw [List.getElem?_set_self hqn] at hv
        cases hv
        constructor <;> omega
      · rw [List.getElem?_set_ne hi] at hv
        obtain ⟨c1, c2⟩ := hb i v hv
        constructor <;> omega)
    refine ⟨n', by unfold foldO; rw [hg]; exact q1, by rw [q2, List.length_set], fun i v hv => ?_⟩
    unfold minsL
    by_cases hi : q = i
    · subst hi
      have hv' : n[q] = v := (List.getElem?_eq_some_iff.1 hv).2
      rw [q3 q _ (List.getElem?_set_self hqn), if_pos hq, hv']
      congr 1; omega
    · rw [q3 i v (by rw [List.getElem?_set_ne hi]; exact hv), if_neg (by rw [hq]; intro h; exact hi (Int.ofNat_inj.1 h))]
      congr 1; omega
theorem minsL_cons (i : Nat) (a : Acc) (l : List Acc) : minsL i (a :: l) = (if a.1 = (i : Int) then a.2.2.1 else 0) + minsL i l := rfl
theorem mins_drop {l : List Acc} (ht : allI tOk 0 l = true) (i : Nat) : ∀ d, d ≤ i → minsL i (l.drop (d + 1)) = minsL i (l.drop 1)
  | 0, _ => rfl
  | d + 1, h => by
    rw [← mins_drop ht i d (by omega)]
    by_cases hd : d + 1 < l.length
    · rw [List.drop_eq_getElem_cons hd]
      have ha : l[d + 1]? = some l[d + 1] := List.getElem?_eq_getElem hd
      obtain ⟨q, hq, hqd⟩ := par_at ht ha (by omega)
      rw [minsL_cons, if_neg (by rw [hq]; intro h2; have := Int.ofNat_inj.1 h2; omega), Int.zero_add]
    · rw [List.drop_eq_nil_of_le (by omega), List.drop_eq_nil_of_le (by omega)]
theorem o_step {α : Type} (i : Nat) (f m s : Int) (bad ok : Option α) : cnd (eqI (i : Int) 0) (cnd (ltI f s) bad (cnd (ltI 0 (i : Int)) (cnd (ltI m s) bad ok) ok)) (cnd (ltI 0 (i : Int)) (cnd (ltI m s) bad ok) ok) = if (bif Nat.beq i 0 then ltI f s else ltI m s) = true then bad else ok := by
  cases i with
  | zero =>
    rw [cnd_pos (by rfl), cnd_neg (b := ltI 0 ((0 : Nat) : Int)) (by rfl), cnd_if]
    rfl
  | succ i =>
    rw [cnd_neg (b := eqI ((i + 1 : Nat) : Int) 0) (by rw [eqI_eq]; exact decide_eq_false (by omega)), cnd_pos (by rw [ltI_eq]; exact decide_eq_true (by omega)), cnd_if]
    rfl
def over (f : Int) (l : List Acc) (i : Nat) (a : Acc) : Bool := bif Nat.beq i 0 then ltI f (minsL i (l.drop 1)) else ltI a.2.2.1 (minsL i (l.drop 1))
def overG (f : Int) (l : List Acc) (i : Nat) (_ : Unit) (a : Acc) : Option (Sum Unit (D ty148)) := if over f l i a = true then some (.inr ((i : Int), ((0 : Int), ()))) else some (.inl ())
noncomputable def overR (f : Int) (l : List Acc) : Option (D ty148) := bndS (foldO (overG f l) (fun _ => ()) 0 () l) (fun _ => some ((-1 : Int), ((0 : Int), ())))
theorem F108_eq (l : List Acc) (f : Int) : F108 (l, (f, ())) = if accCode l = 0 then (if inR' 0 1048576 f = true then overR f l else some ((0 : Int), ((2 : Int), ()))) else some ((0 : Int), (accCode l, ())) := by
  unfold F108
  rw [F105_eq, bnd_s]
  show cnd (neI (accCode l) 0) (some ((0 : Int), (accCode l, ()))) _ = _
  by_cases h0 : accCode l = 0
  · rw [cnd_neg (by rw [neI_eq, decide_eq_true h0]; rfl), if_pos h0, range_chk]
    cases hf : inR' 0 1048576 f
    · rfl
    rw [if_pos rfl, if_pos rfl]
    obtain ⟨h8, h1, ht, ha⟩ := acc0 h0
    have hmk : okMk (lenL l) (lenL l) 8 = true := by
      unfold okMk Hm.roomOk
      rw [lenL_eq]
      simp only [Bool.and_eq_true, decide_eq_true_eq, Nat.ble_eq]
      refine ⟨by omega, by omega, ?_⟩
      show l.length * 8 ≤ 4294967296
      omega
    have hcut : okCut 1 (lenL l) (lenL l) = true := by
      unfold okCut
      rw [lenL_eq]
      simp only [Bool.and_eq_true, decide_eq_true_eq]
      omega
    have hdrop : cutL l 1 (lenL l) = l.drop 1 := by
      unfold cutL
      rw [lenL_eq]
      show (l.drop 1).take (l.length - 1) = l.drop 1
      rw [List.take_of_length_le (by simp)]
    rw [hmk, chk_t, hcut, chk_t, hdrop]
    obtain ⟨n', q1, q2, q3⟩ := sum_fold (l.drop 1) 0 (List.replicate l.length 0) (fun a ha' => by
      refine ⟨List.all_eq_true.1 ha a (List.mem_of_mem_drop ha'), ?_⟩
      obtain ⟨j, hj⟩ := List.getElem?_of_mem ha'
      rw [List.getElem?_drop] at hj
      obtain ⟨q, hq, hqj⟩ := par_at ht hj (by omega)
      have := (List.getElem?_eq_some_iff.1 hj).1
      exact ⟨q, hq, by rw [List.length_replicate]; omega⟩) (by rw [List.length_drop]; omega) (fun i v hv => by
      rw [List.getElem?_replicate] at hv
      split at hv
      · cases hv; constructor <;> decide
      · cases hv)
    rw [loop_of (xs := l.drop 1) (st := fun (b : List Int) i => (b, ((i : Int), ()))) (g := sumG) (fin := fun b => (b, ())) (b := List.replicate l.length 0)]
    rotate_left
    · intro b i y hx
      refine (for_step hx).trans ?_
      show sumC b y (fun n' => some (Sum.inl (n', (addI .i64 (i : Int) 1, ())))) = _
      rw [sumC_eq, addN (ix_le hx (by rw [List.length_drop]; omega))]
      unfold stepO sumG
      cases sumC b y some <;> rfl
    · exact fun b => for_end
    · rfl
    · rw [List.length_drop]; omega
    rw [q1, bndS_l]
    have hlen : n'.length = l.length := by rw [q2]; simp
    have hln : lenL n' = lenL l := by rw [lenL_eq, lenL_eq, hlen]
    have hn : ∀ i, i < l.length → n'[i]? = some (minsL i (l.drop 1)) := fun i hi => by
      have := q3 i 0 (by rw [List.getElem?_replicate, if_pos hi])
      rw [Int.zero_add] at this; exact this
    show bndS (loopS (fun d6 : Int × Unit => cnd (ltI d6.1 (lenL n')) (chk (inL? n' d6.1) (bnd (atL n' d6.1) (fun x7 => _))) _) 1000000000 ((0 : Int), ())) _ = _
    rw [hln]
    rw [loop_of (xs := l) (st := fun (_ : Unit) i => ((i : Int), ())) (g := overG f l) (fin := fun _ => ()) (b := ())]
    rotate_left
    · intro b i y hx
      have hi := (List.getElem?_eq_some_iff.1 hx).1
      refine (cnd_pos (lt_nat hx) _ _).trans ?_
      rw [in_nat (hn i hi), chk_t, at_nat (hn i hi), bnd_s]
      simp only [at_nat hx, bnd_s]
      refine (o_step i f y.2.2.1 (minsL i (l.drop 1)) _ _).trans ?_
      show (if over f l i y = true then some (Sum.inr (Sum.inr ((i : Int), ((0 : Int), ())))) else some (Sum.inl (addI .i64 (i : Int) 1, ()))) = _
      rw [addN (ix_le hx (Nat.le_trans h8 (by decide)))]
      unfold stepO overG
      cases over f l i y <;> rfl
    · exact fun b => for_end
    · rfl
    · omega
    rfl
  · rw [cnd_pos (by rw [neI_eq, decide_eq_false h0]; rfl), if_neg h0]
theorem mins_loop (l : List Acc) (h8 : l.length ≤ 8) (ha : l.all amt = true) (i : Nat) (hi : i < l.length) {R : Type} : loopS (fun d2 : Int × (Int × Unit) => cnd (ltI d2.2.1 (lenL l)) (bnd (atL l d2.2.1) (fun x3 : Acc => cnd (eqI x3.1 (i : Int)) (bnd (atL l d2.2.1) (fun x4 : Acc => some (.inl ((addI .i64 d2.1 x4.2.2.1), ((addI .i64 d2.2.1 1), ()))))) (some (.inl (d2.1, ((addI .i64 d2.2.1 1), ())))))) (inR (some (.inl (d2.1, ()))))) 1000000000 ((0 : Int), (((i + 1 : Nat) : Int), ())) = (some (.inl (minsL i (l.drop (i + 1)), ())) : Option (Sum (Int × Unit) R)) := by
  have key : ∀ (s : List Acc) (k : Nat) (b : Int), l.drop k = s → k + s.length = l.length → 0 ≤ b → b ≤ 1048576 * k → foldO (R := R) (fun _ b (a : Acc) => some (.inl (if a.1 = (i : Int) then addI .i64 b a.2.2.1 else b))) (fun b => (b, ())) k b s = some (.inl (b + minsL i s, ())) := by
    intro s
    induction s with
    | nil => intro k b _ _ _ _; unfold foldO minsL; rw [Int.add_zero]
    | cons a s ih =>
      intro k b hd hl h1 h2
      have hm : a ∈ l := by
        have : a ∈ l.drop k := by rw [hd]; simp
        exact List.mem_of_mem_drop this
      have h4 := amt_min (List.all_eq_true.1 ha a hm)
      simp only [List.length_cons] at hl
      unfold foldO minsL
      by_cases hp : a.1 = (i : Int)
      · simp only [hp, if_true]
        rw [addI_ok (by omega) (by omega)]
        rw [ih (k + 1) (b + a.2.2.1) (by rw [← List.drop_drop, hd]; rfl) (by omega) (by omega) (by omega)]
        congr 3; omega
      · simp only [hp, if_false]
        rw [ih (k + 1) b (by rw [← List.drop_drop, hd]; rfl) (by omega) (by omega) (by omega)]
        congr 3; omega
  rw [loopS_eq]
  have := loop_fold (f := fun d2 : Int × (Int × Unit) => cnd (ltI d2.2.1 (lenL l)) (bnd (atL l d2.2.1) (fun x3 : Acc => cnd (eqI x3.1 (i : Int)) (bnd (atL l d2.2.1) (fun x4 : Acc => some (.inl ((addI .i64 d2.1 x4.2.2.1), ((addI .i64 d2.2.1 1), ()))))) (some (.inl (d2.1, ((addI .i64 d2.2.1 1), ())))))) (inR (some (.inl (d2.1, ()))))) (xs := l) (st := fun (b : Int) j => (b, ((j : Int), ()))) (g := fun _ b a => some (.inl (if a.1 = (i : Int) then addI .i64 b a.2.2.1 else b))) (fin := fun b => (b, ())) (R := R) (fun b j y hx => by
      refine (for_step hx).trans ?_
      show cnd (eqI y.1 (i : Int)) (bnd (atL l (j : Int)) _) _ = _
      rw [at_nat hx, bnd_s, addN (ix_le hx (Nat.le_trans h8 (by decide)))]
      unfold stepO
      rw [eqI_eq]
      by_cases hp : y.1 = (i : Int)
      · simp [hp, cnd_t]
      · simp [hp, cnd_f]) (fun b => for_end) (l.drop (i + 1)) (i + 1) 0 1000000000 rfl (by rw [List.length_drop]; omega) (by rw [List.length_drop]; omega)
  refine this.trans ?_
  rw [key (l.drop (i + 1)) (i + 1) 0 rfl (by rw [List.length_drop]; omega) (by omega) (by omega), Int.zero_add]
theorem F39_eq (l : List Acc) (f : Int) : F39 (l, (f, ())) = if accCode l = 0 then (if inR' 0 1048576 f = true then overR f l else some ((0 : Int), ((2 : Int), ()))) else some ((0 : Int), (accCode l, ())) := by
  unfold F39
  rw [F37_eq, bnd_s]
  show cnd (neI (accCode l) 0) (some ((0 : Int), (accCode l, ()))) _ = _
  by_cases h0 : accCode l = 0
  · rw [cnd_neg (by rw [neI_eq, decide_eq_true h0]; rfl), if_pos h0, range_chk]
    cases hf : inR' 0 1048576 f
    · rfl
    rw [if_pos rfl, if_pos rfl]
    obtain ⟨h8, h1, ht, ha⟩ := acc0 h0
    rw [loop_of (xs := l) (st := fun (_ : Unit) i => ((i : Int), ())) (g := overG f l) (fin := fun _ => ()) (b := ())]
    rotate_left
    · intro b i y hx
      have hi := (List.getElem?_eq_some_iff.1 hx).1
      refine (cnd_pos (lt_nat hx) _ _).trans ?_
      simp only [addN (ix_le hx (Nat.le_trans h8 (by decide)))]
      rw [mins_loop l h8 ha i hi, bndS_l, mins_drop ht i i (Nat.le_refl _)]
      simp only [at_nat hx, bnd_s]
      refine (congrArg (fun o => bndS o _) (o_step i f y.2.2.1 (minsL i (l.drop 1)) _ _)).trans ?_
      unfold stepO overG
      show bndS (if over f l i y = true then _ else _) _ = _
      cases over f l i y <;> rfl
    · exact fun b => for_end
    · rfl
    · omega
    rfl
  · rw [cnd_pos (by rw [neI_eq, decide_eq_false h0]; rfl), if_neg h0]
theorem over_same (l : List Acc) (f : Int) : F108 (l, (f, ())) = F39 (l, (f, ())) := (F108_eq l f).trans (F39_eq l f).symm
end Go.Bo
namespace Go.Bo
open Go Go.Ls
abbrev Ins := D ty151
theorem F112_eq (t : D (.pair (.int .i64) ty148)) : F112 t = some (inR' t.2.1 t.2.2.1 t.1, ()) := by
  unfold F112 inR'
  rw [leI_eq, leI_eq, cnd_if]
  by_cases h : (t.2.1 : Int) ≤ t.1
  · rw [decide_eq_true h]; rfl
  · rw [decide_eq_false h]; rfl
noncomputable def st (v lo hi acc : Int) : Option (Sum (Int × Unit) (Int × Unit)) := cnd (ltI v lo) (cnd (eqI hi 0) (inR (some (1, ()))) (some (.inl (2, ())))) (cnd (ltI hi v) (cnd (eqI hi 0) (inR (some (1, ()))) (some (.inl (2, ())))) (some (.inl (acc, ()))))
noncomputable def stepsC : Int → List (Int × Int × Int) → (Int × Unit → Option (Int × Unit)) → Option (Int × Unit)
  | acc, [], K => K (acc, ())
  | acc, q :: t, K => bndS (st q.1 q.2.1 q.2.2 acc) (fun x => stepsC x.1 t K)
def zr (q : Int × Int × Int) : Bool := !(eqI q.2.2 0) || inR' q.2.1 q.2.2 q.1
def rr (q : Int × Int × Int) : Bool := inR' q.2.1 q.2.2 q.1
theorem st_eq (v lo hi acc : Int) : st v lo hi acc = if inR' lo hi v = true then some (.inl (acc, ())) else if eqI hi 0 = true then some (.inr (1, ())) else some (.inl (2, ())) := by
  unfold st
  rw [range_chk]
  cases inR' lo hi v
  · rw [if_neg (by decide), if_neg (by decide), cnd_if]; rfl
  · rfl
theorem stepsC_eq (K : Int × Unit → Option (Int × Unit)) : ∀ (l : List (Int × Int × Int)) (acc : Int), stepsC acc l K = bif l.all zr then K (bif l.all rr then acc else 2, ()) else some (1, ())
  | [], acc => rfl
  | q :: t, acc => by
    unfold stepsC
    rw [st_eq, List.all_cons, List.all_cons]
    have hz : zr q = (!(eqI q.2.2 0) || inR' q.2.1 q.2.2 q.1) := rfl
    have hr : rr q = inR' q.2.1 q.2.2 q.1 := rfl
    rw [hz, hr]
    cases inR' q.2.1 q.2.2 q.1
    · cases eqI q.2.2 0
      · rw [if_neg (by decide), if_neg (by decide), bndS_l, stepsC_eq K t 2]
        show (bif t.all zr then K (bif t.all rr then 2 else 2, ()) else some (1, ())) = bif t.all zr then K (2, ()) else some (1, ())
        cases t.all rr <;> rfl
      · rfl
    · rw [if_pos rfl, bndS_l, stepsC_eq K t acc, Bool.or_true, Bool.true_and, Bool.true_and]
theorem eq0_in (d : Int) : eqI 0 d = inR' 0 0 d := by
  rw [eqI_eq]
  unfold inR'
  by_cases h : 0 = d
  · simp [← h]
  · have : ¬ (0 ≤ d ∧ d ≤ 0) := by omega
    simp [h]
    intro h1; omega
theorem eq_self (a : Int) : eqI a a = true := decide_eq_true rfl
theorem bnd_eta {o : Option (Bool × Unit)} : bnd o (fun x => some (x.1, ())) = o := by cases o <;> rfl
/-- One instruction, as the reference looks at it. -/
noncomputable def B40 {β : Type} (x : Ins) (e : Int → Option β) (nxt : Option β) : Option β := bnd (F112 (x.1, (1, (12, ())))) (fun x2 => cnd (notB x2.1) (e 1) (bnd (F113 (x, ())) (fun x5 => cnd (notB (andB (eqI x5.1.1 x.1) (andB (eqI x5.1.2.1 x.2.1) (andB (eqI x5.1.2.2.1 x.2.2.1) (andB (eqI x5.1.2.2.2.1 x.2.2.2.1) (andB (eqI x5.1.2.2.2.2.1 x.2.2.2.2.1) (andB (eqI x5.1.2.2.2.2.2.1 x.2.2.2.2.2.1) (andB (eqI x5.1.2.2.2.2.2.2.1 x.2.2.2.2.2.2.1) (andB (eqI x5.1.2.2.2.2.2.2.2.1 x.2.2.2.2.2.2.2.1) true))))))))) (e 1) (bnd (F114 (x, ())) (fun x7 => cnd (notB x7.1) (e 2) nxt)))))
def InsOk (x : Ins) : Prop := ∃ c : Int, F183 (x, ()) = some (c, ()) ∧ ∀ (β : Type) (e : Int → Option β) (nxt : Option β), B40 x e nxt = cnd (neI c 0) (e c) nxt
theorem f_rel (f : Int) : inR' 0 3 f = false → eqI f 1 = false ∧ eqI f 3 = false := by
  rw [eqI_eq, eqI_eq]
  intro h
  have h2 : ¬ (0 ≤ f ∧ f ≤ 3) := by
    intro h3
    unfold inR' at h
    rw [decide_eq_true h3.1, decide_eq_true h3.2] at h
    cases h
  exact ⟨decide_eq_false (by omega), decide_eq_false (by omega)⟩
theorem e_rel (e : Int) : inR' (-1) 3 e = true → leI 0 e = !eqI e (-1) := by
  intro h
  have := inR_le h
  rw [leI_eq, eqI_eq]
  by_cases h2 : e = -1
  · rw [decide_eq_true h2, decide_eq_false (by omega)]; rfl
  · rw [decide_eq_false h2, decide_eq_true (by omega)]; rfl
theorem one_bool (A B C E F G f1 f3 e0 em c0 : Bool) (h1 : F = false → f1 = false ∧ f3 = false) (h2 : E = true → e0 = !em) : (E && (C && ((e0 || c0) && (A && (B && ((f1 || f3) && G)))))) = (((f1 || f3) && !(em && !c0)) && (A && (B && (C && (true && (E && (F && (G && true)))))))) := by
  cases E
  · simp
  · rw [h2 rfl]
    cases F
    · rw [(h1 rfl).1, (h1 rfl).2]; simp
    · cases f1 <;> cases f3 <;> cases em <;> cases c0 <;> cases A <;> cases B <;> cases C <;> cases G <;> rfl
theorem ins_1 (a b c d e f g : Int) : InsOk (((1 : Int), (a, (b, (c, (d, (e, (f, (g, ())))))))) : Ins) := by
  have h1 : F183 ((((1 : Int), (a, (b, (c, (d, (e, (f, (g, ())))))))) : Ins), ()) = stepsC 0 [(a, -1, 511), (b, 1, 512), (c, 0, 15), (d, 0, 0), (e, -1, 3), (f, 0, 3), (g, 0, 15)] (fun x10 => bnd (F229 (f, ())) (fun x11 => cnd (notB x11.1) (some (2, ())) (cnd (eqI e (-1)) (cnd (neI c 0) (some (2, ())) (some (x10.1, ()))) (some (x10.1, ()))))) := rfl
  have h2 : F113 ((((1 : Int), (a, (b, (c, (d, (e, (f, (g, ())))))))) : Ins), ()) = some ((((1 : Int), (a, (b, (c, (0, (e, (f, (g, ())))))))) : Ins), ()) := rfl
  have h3 : F112 ((1 : Int), (1, (12, ()))) = some (true, ()) := rfl
  have h4 : F114 ((((1 : Int), (a, (b, (c, (d, (e, (f, (g, ())))))))) : Ins), ()) = F184 ((((1 : Int), (a, (b, (c, (d, (e, (f, (g, ())))))))) : Ins), ()) := by
    unfold F114
    simp only [F112_eq, bnd_s]
    cases inR' 0 3 e <;> cases inR' 0 15 a <;> exact bnd_eta
  have h5 : F184 ((((1 : Int), (a, (b, (c, (d, (e, (f, (g, ())))))))) : Ins), ()) = some (inR' (-1) 3 e && (inR' 0 15 c && ((leI 0 e || eqI c 0) && (inR' (-1) 511 a && (inR' 1 512 b && ((eqI f 1 || eqI f 3) && inR' 0 15 g))))), ()) := by
    unfold F184
    simp only [F112_eq, bnd_s]
    generalize inR' (-1) 3 e = pe
    generalize inR' 0 15 c = pc
    generalize leI 0 e = e0
    generalize eqI c 0 = c0
    generalize inR' (-1) 511 a = pa
    generalize inR' 1 512 b = pb
    generalize eqI f 1 = f1
    generalize eqI f 3 = f3
    generalize inR' 0 15 g = pg
    cases pe <;> cases pc <;> cases e0 <;> cases pa <;> cases pb <;> cases f1 <;> cases f3 <;> cases pg <;> cases c0 <;> rfl
  have h6 : ∀ n : Int, bnd (F229 (f, ())) (fun x11 => cnd (notB x11.1) (some ((2 : Int), ())) (cnd (eqI e (-1)) (cnd (neI c 0) (some (2, ())) (some (n, ()))) (some (n, ())))) = some (bif ((eqI f 1 || eqI f 3) && !(eqI e (-1) && !eqI c 0)) then n else 2, ()) := by
    intro n
    have e2 : neI c 0 = !eqI c 0 := rfl
    unfold F229
    rw [e2]
    cases eqI f 1 <;> cases eqI f 3 <;> cases eqI e (-1) <;> cases eqI c 0 <;> rfl
  have h7 := one_bool (inR' (-1) 511 a) (inR' 1 512 b) (inR' 0 15 c) (inR' (-1) 3 e) (inR' 0 3 f) (inR' 0 15 g) (eqI f 1) (eqI f 3) (leI 0 e) (eqI e (-1)) (eqI c 0) (f_rel f) (e_rel e)
  unfold InsOk B40
  rw [h1, stepsC_eq, h2, h3]
  simp only [F112_eq, bnd_s, List.all_cons, List.all_nil, zr, rr, eq0_in, eq_self, h6, h4, h5, h7]
  generalize ((eqI f 1 || eqI f 3) && !(eqI e (-1) && !eqI c 0)) = X
  cases inR' 0 0 d
  · exact ⟨_, rfl, fun _ _ _ => rfl⟩
  · generalize (inR' (-1) 511 a && (inR' 1 512 b && (inR' 0 15 c && (true && (inR' (-1) 3 e && (inR' 0 3 f && (inR' 0 15 g && true))))))) = R
    cases X <;> cases R <;> exact ⟨_, rfl, fun _ _ _ => rfl⟩
theorem ins_2 (a b c d e f g : Int) : InsOk (((2 : Int), (a, (b, (c, (d, (e, (f, (g, ())))))))) : Ins) := by
  have h1 : F183 ((((2 : Int), (a, (b, (c, (d, (e, (f, (g, ())))))))) : Ins), ()) = stepsC 0 [(a, 0, 511), (b, 1, 512), (c, 0, 0), (d, 0, 0), (e, 0, 0), (f, 0, 0), (g, 0, 0)] (fun x10 => some (x10.1, ())) := rfl
  have h2 : F113 ((((2 : Int), (a, (b, (c, (d, (e, (f, (g, ())))))))) : Ins), ()) = some ((((2 : Int), (a, (b, (0, (0, (0, (0, (0, ())))))))) : Ins), ()) := rfl
  have h3 : F112 ((2 : Int), (1, (12, ()))) = some (true, ()) := rfl
  have h4 : F114 ((((2 : Int), (a, (b, (c, (d, (e, (f, (g, ())))))))) : Ins), ()) = F184 ((((2 : Int), (a, (b, (c, (d, (e, (f, (g, ())))))))) : Ins), ()) := by
    unfold F114
    simp only [F112_eq, bnd_s]
    cases inR' 0 3 e <;> cases inR' 0 15 a <;> exact bnd_eta
  unfold InsOk B40
  rw [h1, stepsC_eq, h2, h3]
  simp only [bnd_s, h4]
  unfold F184
  simp only [F112_eq, bnd_s, List.all_cons, List.all_nil, zr, rr, eq0_in, eq_self]
  generalize inR' 0 511 a = pa
  generalize inR' 1 512 b = pb
  generalize inR' 0 0 c = pc
  generalize inR' 0 0 d = pd
  generalize inR' 0 0 e = pe
  generalize inR' 0 0 f = pf
  generalize inR' 0 0 g = pg
  cases eqI f 1 <;> cases pa <;> cases pb <;> cases pc <;> cases pd <;> cases pe <;> cases pf <;> cases pg <;> exact ⟨_, rfl, fun _ _ _ => rfl⟩
theorem ins_3 (a b c d e f g : Int) : InsOk (((3 : Int), (a, (b, (c, (d, (e, (f, (g, ())))))))) : Ins) := by
  have h1 : F183 ((((3 : Int), (a, (b, (c, (d, (e, (f, (g, ())))))))) : Ins), ()) = stepsC 0 [(a, 0, 511), (b, 1, 512), (c, 0, 0), (d, 0, 0), (e, 0, 0), (f, 0, 3), (g, 0, 0)] (fun x10 => bnd (F229 (f, ())) (fun x11 => cnd (notB x11.1) (some (2, ())) (some (x10.1, ())))) := rfl
  have h2 : F113 ((((3 : Int), (a, (b, (c, (d, (e, (f, (g, ())))))))) : Ins), ()) = some ((((3 : Int), (a, (b, (0, (0, (0, (f, (0, ())))))))) : Ins), ()) := rfl
  have h3 : F112 ((3 : Int), (1, (12, ()))) = some (true, ()) := rfl
  have h4 : F114 ((((3 : Int), (a, (b, (c, (d, (e, (f, (g, ())))))))) : Ins), ()) = F184 ((((3 : Int), (a, (b, (c, (d, (e, (f, (g, ())))))))) : Ins), ()) := by
    unfold F114
    simp only [F112_eq, bnd_s]
    cases inR' 0 3 e <;> cases inR' 0 15 a <;> exact bnd_eta
  unfold InsOk B40
  rw [h1, stepsC_eq, h2, h3]
  simp only [bnd_s, h4]
  unfold F184 F229
  simp only [F112_eq, bnd_s, List.all_cons, List.all_nil, zr, rr, eq0_in, eq_self]
  generalize inR' 0 511 a = pa
  generalize inR' 1 512 b = pb
  generalize inR' 0 0 c = pc
  generalize inR' 0 0 d = pd
  generalize inR' 0 0 e = pe
  generalize inR' 0 0 g = pg
  have hf := f_rel f
  revert hf
  generalize inR' 0 3 f = pf
  generalize eqI f 1 = f1
  generalize eqI f 3 = f3
  intro hf
  cases pf
  · rw [(hf rfl).1, (hf rfl).2]
    cases pa <;> cases pb <;> cases pc <;> cases pd <;> cases pe <;> cases pg <;> exact ⟨_, rfl, fun _ _ _ => rfl⟩
  · cases f1 <;> cases f3 <;> cases pa <;> cases pb <;> cases pc <;> cases pd <;> cases pe <;> cases pg <;> exact ⟨_, rfl, fun _ _ _ => rfl⟩
theorem ins_4 (a b c d e f g : Int) : InsOk (((4 : Int), (a, (b, (c, (d, (e, (f, (g, ())))))))) : Ins) := by
  have h1 : F183 ((((4 : Int), (a, (b, (c, (d, (e, (f, (g, ())))))))) : Ins), ()) = stepsC 0 [(a, 0, 511), (b, 1, 512), (c, 0, 0), (d, 0, 1), (e, 0, 0), (f, 0, 0), (g, 0, 0)] (fun x10 => some (x10.1, ())) := rfl
  have h2 : F113 ((((4 : Int), (a, (b, (c, (d, (e, (f, (g, ())))))))) : Ins), ()) = some ((((4 : Int), (a, (b, (0, (d, (0, (0, (0, ())))))))) : Ins), ()) := rfl
  have h3 : F112 ((4 : Int), (1, (12, ()))) = some (true, ()) := rfl
  have h4 : F114 ((((4 : Int), (a, (b, (c, (d, (e, (f, (g, ())))))))) : Ins), ()) = F184 ((((4 : Int), (a, (b, (c, (d, (e, (f, (g, ())))))))) : Ins), ()) := by
    unfold F114
    simp only [F112_eq, bnd_s]
    cases inR' 0 3 e <;> cases inR' 0 15 a <;> exact bnd_eta
  unfold InsOk B40
  rw [h1, stepsC_eq, h2, h3]
  simp only [bnd_s, h4]
  unfold F184
  simp only [F112_eq, bnd_s, List.all_cons, List.all_nil, zr, rr, eq0_in, eq_self]
  generalize inR' 0 511 a = pa
  generalize inR' 1 512 b = pb
  generalize inR' 0 0 c = pc
  generalize inR' 0 1 d = pd
  generalize inR' 0 0 e = pe
  generalize inR' 0 0 f = pf
  generalize inR' 0 0 g = pg
  cases eqI f 1 <;> cases pa <;> cases pb <;> cases pc <;> cases pd <;> cases pe <;> cases pf <;> cases pg <;> exact ⟨_, rfl, fun _ _ _ => rfl⟩
theorem ins_5 (a b c d e f g : Int) : InsOk (((5 : Int), (a, (b, (c, (d, (e, (f, (g, ())))))))) : Ins) := by
  have h1 : F183 ((((5 : Int), (a, (b, (c, (d, (e, (f, (g, ())))))))) : Ins), ()) = stepsC 0 [(a, 0, 511), (b, 0, 0), (c, 0, 31), (d, 0, 0), (e, 0, 0), (f, 0, 0), (g, 0, 0)] (fun x10 => some (x10.1, ())) := rfl
  have h2 : F113 ((((5 : Int), (a, (b, (c, (d, (e, (f, (g, ())))))))) : Ins), ()) = some ((((5 : Int), (a, (0, (c, (0, (0, (0, (0, ())))))))) : Ins), ()) := rfl
  have h3 : F112 ((5 : Int), (1, (12, ()))) = some (true, ()) := rfl
  have h4 : F114 ((((5 : Int), (a, (b, (c, (d, (e, (f, (g, ())))))))) : Ins), ()) = F184 ((((5 : Int), (a, (b, (c, (d, (e, (f, (g, ())))))))) : Ins), ()) := by
    unfold F114
    simp only [F112_eq, bnd_s]
    cases inR' 0 3 e <;> cases inR' 0 15 a <;> exact bnd_eta
  unfold InsOk B40
  rw [h1, stepsC_eq, h2, h3]
  simp only [bnd_s, h4]
  unfold F184
  simp only [F112_eq, bnd_s, List.all_cons, List.all_nil, zr, rr, eq0_in, eq_self]
  generalize inR' 0 511 a = pa
  generalize inR' 0 0 b = pb
  generalize inR' 0 31 c = pc
  generalize inR' 0 0 d = pd
  generalize inR' 0 0 e = pe
  generalize inR' 0 0 f = pf
  generalize inR' 0 0 g = pg
  cases eqI f 1 <;> cases pa <;> cases pb <;> cases pc <;> cases pd <;> cases pe <;> cases pf <;> cases pg <;> exact ⟨_, rfl, fun _ _ _ => rfl⟩
theorem ins_6 (a b c d e f g : Int) : InsOk (((6 : Int), (a, (b, (c, (d, (e, (f, (g, ())))))))) : Ins) := by
  have h1 : F183 ((((6 : Int), (a, (b, (c, (d, (e, (f, (g, ())))))))) : Ins), ()) = stepsC 0 [(a, 0, 511), (b, 0, 0), (c, 0, 31), (d, 0, 255), (e, 0, 0), (f, 0, 0), (g, 0, 0)] (fun x10 => some (x10.1, ())) := rfl
  have h2 : F113 ((((6 : Int), (a, (b, (c, (d, (e, (f, (g, ())))))))) : Ins), ()) = some ((((6 : Int), (a, (0, (c, (d, (0, (0, (0, ())))))))) : Ins), ()) := rfl
  have h3 : F112 ((6 : Int), (1, (12, ()))) = some (true, ()) := rfl
  have h4 : F114 ((((6 : Int), (a, (b, (c, (d, (e, (f, (g, ())))))))) : Ins), ()) = F184 ((((6 : Int), (a, (b, (c, (d, (e, (f, (g, ())))))))) : Ins), ()) := by
    unfold F114
    simp only [F112_eq, bnd_s]
    cases inR' 0 3 e <;> cases inR' 0 15 a <;> exact bnd_eta
  unfold InsOk B40
  rw [h1, stepsC_eq, h2, h3]
  simp only [bnd_s, h4]
  unfold F184
  simp only [F112_eq, bnd_s, List.all_cons, List.all_nil, zr, rr, eq0_in, eq_self]
  generalize inR' 0 511 a = pa
  generalize inR' 0 0 b = pb
  generalize inR' 0 31 c = pc
  generalize inR' 0 255 d = pd
  generalize inR' 0 0 e = pe
  generalize inR' 0 0 f = pf
  generalize inR' 0 0 g = pg
  cases eqI f 1 <;> cases pa <;> cases pb <;> cases pc <;> cases pd <;> cases pe <;> cases pf <;> cases pg <;> exact ⟨_, rfl, fun _ _ _ => rfl⟩
theorem ins_7 (a b c d e f g : Int) : InsOk (((7 : Int), (a, (b, (c, (d, (e, (f, (g, ())))))))) : Ins) := by
  have h1 : F183 ((((7 : Int), (a, (b, (c, (d, (e, (f, (g, ())))))))) : Ins), ()) = stepsC 0 [(a, 0, 15), (b, 0, 0), (c, 0, 31), (d, 0, 0), (e, 0, 3), (f, 0, 0), (g, 0, 0)] (fun x10 => some (x10.1, ())) := rfl
  have h2 : F113 ((((7 : Int), (a, (b, (c, (d, (e, (f, (g, ())))))))) : Ins), ()) = some ((((7 : Int), (a, (0, (c, (0, (e, (0, (0, ())))))))) : Ins), ()) := rfl
  have h3 : F112 ((7 : Int), (1, (12, ()))) = some (true, ()) := rfl
  unfold InsOk B40
  rw [h1, stepsC_eq, h2, h3]
  unfold F114
  
  simp only [F112_eq, bnd_s, List.all_cons, List.all_nil, zr, rr, eq0_in, eq_self]
  generalize inR' 0 15 a = pa
  generalize inR' 0 0 b = pb
  generalize inR' 0 31 c = pc
  generalize inR' 0 0 d = pd
  generalize inR' 0 3 e = pe
  generalize inR' 0 0 f = pf
  generalize inR' 0 0 g = pg
  cases pa <;> cases pb <;> cases pc <;> cases pd <;> cases pe <;> cases pf <;> cases pg <;> exact ⟨_, rfl, fun _ _ _ => rfl⟩
theorem ins_8 (a b c d e f g : Int) : InsOk (((8 : Int), (a, (b, (c, (d, (e, (f, (g, ())))))))) : Ins) := by
  have h1 : F183 ((((8 : Int), (a, (b, (c, (d, (e, (f, (g, ())))))))) : Ins), ()) = stepsC 0 [(a, 0, 15), (b, 0, 0), (c, 0, 31), (d, 0, 255), (e, 0, 3), (f, 0, 0), (g, 0, 0)] (fun x10 => some (x10.1, ())) := rfl
  have h2 : F113 ((((8 : Int), (a, (b, (c, (d, (e, (f, (g, ())))))))) : Ins), ()) = some ((((8 : Int), (a, (0, (c, (d, (e, (0, (0, ())))))))) : Ins), ()) := rfl
  have h3 : F112 ((8 : Int), (1, (12, ()))) = some (true, ()) := rfl
  unfold InsOk B40
  rw [h1, stepsC_eq, h2, h3]
  unfold F114
  
  simp only [F112_eq, bnd_s, List.all_cons, List.all_nil, zr, rr, eq0_in, eq_self]
  generalize inR' 0 15 a = pa
  generalize inR' 0 0 b = pb
  generalize inR' 0 31 c = pc
  generalize inR' 0 255 d = pd
  generalize inR' 0 3 e = pe
  generalize inR' 0 0 f = pf
  generalize inR' 0 0 g = pg
  cases pa <;> cases pb <;> cases pc <;> cases pd <;> cases pe <;> cases pf <;> cases pg <;> exact ⟨_, rfl, fun _ _ _ => rfl⟩
theorem ins_9 (a b c d e f g : Int) : InsOk (((9 : Int), (a, (b, (c, (d, (e, (f, (g, ())))))))) : Ins) := by
  have h1 : F183 ((((9 : Int), (a, (b, (c, (d, (e, (f, (g, ())))))))) : Ins), ()) = stepsC 0 [(a, 0, 0), (b, 0, 16), (c, 0, 0), (d, 0, 0), (e, 0, 3), (f, 0, 0), (g, 0, 0)] (fun x10 => some (x10.1, ())) := rfl
  have h2 : F113 ((((9 : Int), (a, (b, (c, (d, (e, (f, (g, ())))))))) : Ins), ()) = some ((((9 : Int), (0, (b, (0, (0, (e, (0, (0, ())))))))) : Ins), ()) := rfl
  have h3 : F112 ((9 : Int), (1, (12, ()))) = some (true, ()) := rfl
  unfold InsOk B40
  rw [h1, stepsC_eq, h2, h3]
  unfold F114
  
  simp only [F112_eq, bnd_s, List.all_cons, List.all_nil, zr, rr, eq0_in, eq_self]
  generalize inR' 0 0 a = pa
  generalize inR' 0 16 b = pb
  generalize inR' 0 0 c = pc
  generalize inR' 0 0 d = pd
  generalize inR' 0 3 e = pe
  generalize inR' 0 0 f = pf
  generalize inR' 0 0 g = pg
  generalize hqa : inR' 0 15 a = qa
  generalize hqc : inR' 0 31 c = qc
  cases qa <;> cases qc <;> cases pa <;> cases pb <;> cases pc <;> cases pd <;> cases pe <;> cases pf <;> cases pg <;> exact ⟨_, rfl, fun _ _ _ => rfl⟩
theorem ins_10 (a b c d e f g : Int) : InsOk (((10 : Int), (a, (b, (c, (d, (e, (f, (g, ())))))))) : Ins) := by
  have h1 : F183 ((((10 : Int), (a, (b, (c, (d, (e, (f, (g, ())))))))) : Ins), ()) = stepsC 0 [(a, 0, 0), (b, 0, 0), (c, 0, 0), (d, 0, 0), (e, 0, 3), (f, 0, 0), (g, 0, 0)] (fun x10 => some (x10.1, ())) := rfl
  have h2 : F113 ((((10 : Int), (a, (b, (c, (d, (e, (f, (g, ())))))))) : Ins), ()) = some ((((10 : Int), (0, (0, (0, (0, (e, (0, (0, ())))))))) : Ins), ()) := rfl
  have h3 : F112 ((10 : Int), (1, (12, ()))) = some (true, ()) := rfl
  unfold InsOk B40
  rw [h1, stepsC_eq, h2, h3]
  unfold F114
  
  simp only [F112_eq, bnd_s, List.all_cons, List.all_nil, zr, rr, eq0_in, eq_self]
  generalize inR' 0 0 a = pa
  generalize inR' 0 0 b = pb
  generalize inR' 0 0 c = pc
  generalize inR' 0 0 d = pd
  generalize inR' 0 3 e = pe
  generalize inR' 0 0 f = pf
  generalize inR' 0 0 g = pg
  generalize hqa : inR' 0 15 a = qa
  generalize hqc : inR' 0 31 c = qc
  cases qa <;> cases qc <;> cases pa <;> cases pb <;> cases pc <;> cases pd <;> cases pe <;> cases pf <;> cases pg <;> exact ⟨_, rfl, fun _ _ _ => rfl⟩
theorem ins_11 (a b c d e f g : Int) : InsOk (((11 : Int), (a, (b, (c, (d, (e, (f, (g, ())))))))) : Ins) := by
  have h1 : F183 ((((11 : Int), (a, (b, (c, (d, (e, (f, (g, ())))))))) : Ins), ()) = stepsC 0 [(a, 0, 0), (b, 0, 0), (c, 0, 0), (d, 0, 48), (e, 0, 0), (f, 0, 0), (g, 0, 0)] (fun x10 => some (x10.1, ())) := rfl
  have h2 : F113 ((((11 : Int), (a, (b, (c, (d, (e, (f, (g, ())))))))) : Ins), ()) = some ((((11 : Int), (0, (0, (0, (d, (0, (0, (0, ())))))))) : Ins), ()) := rfl
  have h3 : F112 ((11 : Int), (1, (12, ()))) = some (true, ()) := rfl
  unfold InsOk B40
  rw [h1, stepsC_eq, h2, h3]
  unfold F114
  
  simp only [F112_eq, bnd_s, List.all_cons, List.all_nil, zr, rr, eq0_in, eq_self]
  generalize inR' 0 0 a = pa
  generalize inR' 0 0 b = pb
  generalize inR' 0 0 c = pc
  generalize inR' 0 48 d = pd
  generalize inR' 0 0 e = pe
  generalize inR' 0 0 f = pf
  generalize inR' 0 0 g = pg
  generalize hqe : inR' 0 3 e = qe
  generalize hqa : inR' 0 15 a = qa
  generalize hqc : inR' 0 31 c = qc
  cases qe <;> cases qa <;> cases qc <;> cases pa <;> cases pb <;> cases pc <;> cases pd <;> cases pe <;> cases pf <;> cases pg <;> exact ⟨_, rfl, fun _ _ _ => rfl⟩
theorem ins_12 (a b c d e f g : Int) : InsOk (((12 : Int), (a, (b, (c, (d, (e, (f, (g, ())))))))) : Ins) := by
  have h1 : F183 ((((12 : Int), (a, (b, (c, (d, (e, (f, (g, ())))))))) : Ins), ()) = stepsC 0 [(a, 0, 0), (b, 0, 0), (c, 0, 0), (d, 0, 0), (e, 0, 0), (f, 0, 0), (g, 0, 0)] (fun x10 => some (x10.1, ())) := rfl
  have h2 : F113 ((((12 : Int), (a, (b, (c, (d, (e, (f, (g, ())))))))) : Ins), ()) = some ((((12 : Int), (0, (0, (0, (0, (0, (0, (0, ())))))))) : Ins), ()) := rfl
  have h3 : F112 ((12 : Int), (1, (12, ()))) = some (true, ()) := rfl
  unfold InsOk B40
  rw [h1, stepsC_eq, h2, h3]
  unfold F114
  
  simp only [F112_eq, bnd_s, List.all_cons, List.all_nil, zr, rr, eq0_in, eq_self]
  generalize inR' 0 0 a = pa
  generalize inR' 0 0 b = pb
  generalize inR' 0 0 c = pc
  generalize inR' 0 0 d = pd
  generalize inR' 0 0 e = pe
  generalize inR' 0 0 f = pf
  generalize inR' 0 0 g = pg
  generalize hqe : inR' 0 3 e = qe
  generalize hqa : inR' 0 15 a = qa
  generalize hqc : inR' 0 31 c = qc
  cases qe <;> cases qa <;> cases qc <;> cases pa <;> cases pb <;> cases pc <;> cases pd <;> cases pe <;> cases pf <;> cases pg <;> exact ⟨_, rfl, fun _ _ _ => rfl⟩
end Go.Bo
namespace Go.Bo
open Go Go.Ls
theorem eqI_out {n lo hi j : Int} (h : inR' lo hi n = false) (h1 : lo ≤ j) (h2 : j ≤ hi) : eqI n j = false := by
  rw [eqI_eq]
  refine decide_eq_false (fun h3 => ?_)
  subst h3
  unfold inR' at h
  rw [decide_eq_true h1, decide_eq_true h2] at h
  cases h
theorem in12 {k : Int} (h : inR' 1 12 k = true) : k = 1 ∨ k = 2 ∨ k = 3 ∨ k = 4 ∨ k = 5 ∨ k = 6 ∨ k = 7 ∨ k = 8 ∨ k = 9 ∨ k = 10 ∨ k = 11 ∨ k = 12 := by
  have := inR_le h
  omega
theorem ins_all (x : Ins) : InsOk x := by
  obtain ⟨k, a, b, c, d, e, f, g, ⟨⟩⟩ := x
  cases h : inR' 1 12 k
  · have e1 : ∀ j : Int, 1 ≤ j → j ≤ 12 → eqI k j = false := fun j h1 h2 => eqI_out h h1 h2
    refine ⟨1, ?_, fun β e2 nxt => ?_⟩
    · unfold F183 F227
      simp only [e1 1 (by decide) (by decide), e1 2 (by decide) (by decide), e1 3 (by decide) (by decide), e1 4 (by decide) (by decide), e1 5 (by decide) (by decide), e1 6 (by decide) (by decide), e1 7 (by decide) (by decide), e1 8 (by decide) (by decide), e1 9 (by decide) (by decide), e1 10 (by decide) (by decide), e1 11 (by decide) (by decide), e1 12 (by decide) (by decide), cnd_f]
      rfl
    · unfold B40
      rw [F112_eq, bnd_s]
      show cnd (notB (inR' 1 12 k)) _ _ = _
      rw [h]; rfl
  · have h2 := in12 h
    rcases h2 with h2 | h2 | h2 | h2 | h2 | h2 | h2 | h2 | h2 | h2 | h2 | h2 <;> cases h2
    · exact ins_1 a b c d e f g
    · exact ins_2 a b c d e f g
    · exact ins_3 a b c d e f g
    · exact ins_4 a b c d e f g
    · exact ins_5 a b c d e f g
    · exact ins_6 a b c d e f g
    · exact ins_7 a b c d e f g
    · exact ins_8 a b c d e f g
    · exact ins_9 a b c d e f g
    · exact ins_10 a b c d e f g
    · exact ins_11 a b c d e f g
    · exact ins_12 a b c d e f g
noncomputable def ins (x : Ins) : Int := Classical.choose (ins_all x)
theorem ins_a (x : Ins) : F183 (x, ()) = some (ins x, ()) := (Classical.choose_spec (ins_all x)).1
theorem ins_b (x : Ins) (β : Type) (e : Int → Option β) (nxt : Option β) : B40 x e nxt = cnd (neI (ins x) 0) (e (ins x)) nxt := (Classical.choose_spec (ins_all x)).2 β e nxt
/-- The first code that isn't zero. -/
def firstC {X : Type} (f : X → Int) : List X → Int
  | [] => 0
  | x :: t => if eqI (f x) 0 = true then firstC f t else f x
theorem fold_code {X : Type} (f : X → Int) : ∀ (l : List X) (i : Nat), bndS (foldO (fun _ (_ : Unit) x => if eqI (f x) 0 = true then some (.inl ()) else some (.inr (f x, ()))) (fun _ => ()) i () l) (fun _ => some ((0 : Int), ())) = some (firstC f l, ())
  | [], i => rfl
  | x :: l, i => by
    unfold foldO firstC
    by_cases h : eqI (f x) 0 = true
    · rw [if_pos h]
      simp only [h, if_true]
      exact fold_code f l (i + 1)
    · rw [if_neg h]
      simp only [h, if_false]
      rfl
noncomputable def progC (l : List Ins) : Int := if (48 : Int) < (l.length : Int) then 9 else firstC ins l
theorem F109_eq (l : List Ins) : F109 (l, ()) = some (progC l, ()) := by
  unfold F109 progC
  by_cases h : (48 : Int) < (l.length : Int)
  · rw [cnd_pos (by rw [ltI_eq, lenL_eq]; exact decide_eq_true h), if_pos h]
  · rw [cnd_neg (by rw [ltI_eq, lenL_eq]; exact decide_eq_false h), if_neg h]
    rw [loop_of (xs := l) (st := fun (_ : Unit) i => ((i : Int), ())) (g := fun _ _ a => if eqI (ins a) 0 = true then some (.inl ()) else some (.inr (ins a, ()))) (fin := fun _ => ()) (b := ())]
    rotate_left
    · intro b i y hx
      refine (for_step hx).trans ?_
      rw [step_if]
      show bnd (F183 (y, ())) (fun x2 => cnd (neI x2.1 0) (inR (inR (some (x2.1, ())))) (some (.inl (addI .i64 (i : Int) 1, ())))) = _
      rw [ins_a, bnd_s, addN (ix_le hx (show l.length ≤ 140737488355328 by omega))]
      show cnd (!eqI (ins y) 0) _ _ = _
      cases eqI (ins y) 0 <;> rfl
    · exact fun b => for_end
    · rfl
    · omega
    exact fold_code ins l 0
theorem F40_eq (l : List Ins) : F40 (l, ()) = some (progC l, ()) := by
  unfold F40 progC
  by_cases h : (48 : Int) < (l.length : Int)
  · rw [cnd_pos (by rw [ltI_eq, lenL_eq]; exact decide_eq_true h), if_pos h]
  · rw [cnd_neg (by rw [ltI_eq, lenL_eq]; exact decide_eq_false h), if_neg h]
    rw [loop_of (xs := l) (st := fun (_ : Unit) i => ((i : Int), ())) (g := fun _ _ a => if eqI (ins a) 0 = true then some (.inl ()) else some (.inr (ins a, ()))) (fin := fun _ => ()) (b := ())]
    rotate_left
    · intro b i y hx
      refine (cnd_pos (lt_nat hx) _ _).trans ?_
      simp only [at_nat hx, bnd_s]
      rw [step_if, addN (ix_le hx (show l.length ≤ 140737488355328 by omega))]
      refine (ins_b y _ (fun c => inR (inR (some (c, ())))) (some (Sum.inl (((i + 1 : Nat) : Int), ())))).trans ?_
      show cnd (!eqI (ins y) 0) _ _ = _
      cases eqI (ins y) 0 <;> rfl
    · exact fun b => for_end
    · rfl
    · omega
    exact fold_code ins l 0
/-- The zones' room. -/
def sumZ : List (D ty145) → Int
  | [] => 0
  | z :: l => (@HSub.hSub Int Int Int _ z.2.2.1 z.2.2.2.1) + sumZ l
theorem sumZ_cons (z : D ty145) (l : List (D ty145)) : sumZ (z :: l) = (@HSub.hSub Int Int Int _ z.2.2.1 z.2.2.2.1) + sumZ l := rfl
theorem sumZ_b : ∀ (l : List (D ty145)), l.all zOk = true → 0 ≤ sumZ l + 65536 * (l.length : Int) ∧ sumZ l ≤ 65536 * (l.length : Int)
  | [], _ => by unfold sumZ; simp
  | z :: l, h => by
    rw [List.all_cons, Bool.and_eq_true] at h
    have h1 := h.1
    unfold zOk at h1
    rw [Bool.and_eq_true, Bool.and_eq_true, Bool.and_eq_true] at h1
    have h2 := inR_le h1.2.2.1
    have h3 := inR_le h1.2.2.2
    have h4 := sumZ_b l h.2
    unfold sumZ
    rw [List.length_cons]
    constructor <;> omega
theorem sum_room : ∀ (l : List (D ty145)) (b : Int), l.all zOk = true → l.length ≤ 20 → -1000000000 ≤ b → b + 65536 * (l.length : Int) ≤ 1000000000 → -1000000000 ≤ b - 65536 * (l.length : Int) → l.foldl (fun b z => addI .i64 b (subI .i64 z.2.2.1 z.2.2.2.1)) b = b + sumZ l
  | [], b, _, _, _, _, _ => by unfold sumZ; simp
  | z :: l, b, h, hl, h5, h6, h7 => by
    rw [List.all_cons, Bool.and_eq_true] at h
    have h1 := h.1
    unfold zOk at h1
    rw [Bool.and_eq_true, Bool.and_eq_true, Bool.and_eq_true] at h1
    have h2 := inR_le h1.2.2.1
    have h3 := inR_le h1.2.2.2
    rw [List.length_cons] at h6 h7 hl
    have e1 : subI .i64 z.2.2.1 z.2.2.2.1 = @HSub.hSub Int Int Int _ z.2.2.1 z.2.2.2.1 := subI_ok (by omega) (by omega)
    have e2 : addI .i64 b (subI .i64 z.2.2.1 z.2.2.2.1) = b + @HSub.hSub Int Int Int _ z.2.2.1 z.2.2.2.1 := by rw [e1]; exact addI_ok (by omega) (by omega)
    rw [List.foldl_cons, e2, sum_room l _ h.2 (by omega) (by omega) (by omega) (by omega)]
    rw [sumZ_cons]
    omega
theorem F38_eq (c : D ty27) (h : c.2.1.length ≤ 20) : ∃ t : Int, F38 (c, ()) = some (t, (c.2.1.foldl (fun b z => addI .i64 b (subI .i64 z.2.2.1 z.2.2.2.1)) 0, ())) := by
  unfold F38
  rw [loop_of (xs := c.2.1) (st := fun (b : Int × Int) i => (b.1, (b.2, ((i : Int), ())))) (g := fun _ b z => some (.inl (addI .i64 b.1 z.2.2.1, addI .i64 b.2 (subI .i64 z.2.2.1 z.2.2.2.1)))) (fin := fun b => (b.1, (b.2, ()))) (b := (0, 0))]
  rotate_left
  · intro b i y hx
    refine (for_step hx).trans ?_
    rw [addN (ix_le hx (Nat.le_trans h (by decide)))]
    rfl
  · exact fun b => for_end
  · rfl
  · omega
  rw [fold_plain, bndS_l]
  have : ∀ (l : List (D ty145)) (a b : Int), (l.foldl (fun (b : Int × Int) z => (addI .i64 b.1 z.2.2.1, addI .i64 b.2 (subI .i64 z.2.2.1 z.2.2.2.1))) (a, b)).2 = l.foldl (fun b z => addI .i64 b (subI .i64 z.2.2.1 z.2.2.2.1)) b := by
    intro l
    induction l with
    | nil => intro a b; rfl
    | cons z l ih => intro a b; rw [List.foldl_cons, List.foldl_cons]; exact ih _ _
  exact ⟨_, by rw [← this c.2.1 0 0]⟩
theorem over_fold (f : Int) (l0 : List Acc) : ∀ (l : List Acc) (i : Nat), ∃ r, foldO (overG f l0) (fun _ => ()) i () l = some r
  | [], i => ⟨_, rfl⟩
  | a :: l, i => by
    unfold foldO overG
    by_cases h : over f l0 i a = true
    · rw [if_pos h]; exact ⟨_, rfl⟩
    · rw [if_neg h]; exact over_fold f l0 l (i + 1)
theorem F39_some (l : List Acc) (f : Int) : ∃ r, F39 (l, (f, ())) = some r := by
  rw [F39_eq]
  split
  · split
    · unfold overR
      obtain ⟨r, hr⟩ := over_fold f l l 0
      rw [hr]
      cases r with
      | inl r => exact ⟨_, rfl⟩
      | inr r => exact ⟨_, rfl⟩
    · exact ⟨_, rfl⟩
  · exact ⟨_, rfl⟩
/-- A program and where its account is. -/
noncomputable def pgC (n : Int) (p : D ty98) : Int := if eqI (progC p.2.1) 0 = true then (if inR' 0 (n - 1) p.1 = true then 0 else 2) else progC p.2.1
theorem F34_eq (c : D ty27) (h8 : c.2.2.2.2.2.2.2.2.2.2.2.1.length ≤ 20) : F34 (c, ()) = if inR' 1 8 (lenL c.2.2.2.2.2.2.2.2.2.2.2.2.1) = true then some (firstC (pgC (lenL c.2.2.2.2.2.2.2.2.2.2.2.1)) c.2.2.2.2.2.2.2.2.2.2.2.2.1, ()) else some (1, ()) := by
  unfold F34
  refine (chk42n _ _ _).trans ?_
  show (if inR' 1 8 (lenL c.2.2.2.2.2.2.2.2.2.2.2.2.1) = true then _ else _) = _
  by_cases hl : inR' 1 8 (lenL c.2.2.2.2.2.2.2.2.2.2.2.2.1) = true
  · rw [if_pos hl, if_pos hl]
    have hl2 := inR_le hl
    rw [lenL_eq] at hl2
    rw [loop_of (xs := c.2.2.2.2.2.2.2.2.2.2.2.2.1) (st := fun (_ : Unit) i => ((i : Int), ())) (g := fun _ _ a => if eqI (pgC (lenL c.2.2.2.2.2.2.2.2.2.2.2.1) a) 0 = true then some (.inl ()) else some (.inr (pgC (lenL c.2.2.2.2.2.2.2.2.2.2.2.1) a, ()))) (fin := fun _ => ()) (b := ())]
    rotate_left
    · intro b i y hx
      refine (for_step hx).trans ?_
      rw [step_if]
      show bnd (F109 (y.2.1, ())) (fun x3 => cnd (neI x3.1 0) (inR (inR (some (x3.1, ())))) (bnd (F42 (y.1, (0, ((subI .i64 (lenL c.2.2.2.2.2.2.2.2.2.2.2.1) 1), ())))) (fun x4 => cnd (notB x4.1) (inR (inR (some (2, ())))) (some (.inl (addI .i64 (i : Int) 1, ())))))) = _
      rw [F109_eq, bnd_s, chk42n, addN (ix_le hx (show c.2.2.2.2.2.2.2.2.2.2.2.2.1.length ≤ 140737488355328 by omega))]
      show cnd (!eqI (progC y.2.1) 0) (inR (inR (some (progC y.2.1, ())))) (if inR' 0 (subI .i64 (lenL c.2.2.2.2.2.2.2.2.2.2.2.1) 1) y.1 = true then _ else _) = _
      rw [subI_ok (by rw [lenL_eq]; omega) (by rw [lenL_eq]; omega)]
      by_cases hp : eqI (progC y.2.1) 0 = true
      · have hq : pgC (lenL c.2.2.2.2.2.2.2.2.2.2.2.1) y = (if inR' 0 (lenL c.2.2.2.2.2.2.2.2.2.2.2.1 - 1) y.1 = true then 0 else 2) := if_pos hp
        rw [hq, hp]
        cases inR' 0 (lenL c.2.2.2.2.2.2.2.2.2.2.2.1 - 1) y.1 <;> rfl
      · have hq : pgC (lenL c.2.2.2.2.2.2.2.2.2.2.2.1) y = progC y.2.1 := if_neg hp
        rw [hq, if_neg hp, cnd_pos (b := !eqI (progC y.2.1) 0) (by rw [Bool.not_eq_true] at hp; rw [hp]; rfl)]
        rfl
    · exact fun b => for_end
    · rfl
    · omega
    exact fold_code _ _ 0
  · rw [if_neg hl, if_neg hl]
end Go.Bo
namespace Go.Bo
open Go Go.Ls
theorem len20 {α : Type} {l : List α} (h : ltI 20 (lenL l) = false) : l.length ≤ 20 := by
  rw [ltI_eq, lenL_eq] at h
  have := of_decide_eq_false h
  omega
theorem F10_eq (c : D ty27) : ∃ b, F10 (c, ()) = some (b, ()) ∧ (b = true → c.1.length ≤ 20 ∧ c.2.1.length ≤ 20 ∧ c.2.2.2.2.2.2.2.2.2.2.1.length ≤ 20 ∧ c.2.2.2.2.2.2.2.2.2.2.2.1.length ≤ 20 ∧ c.2.2.2.2.2.2.2.2.2.2.2.2.1.length ≤ 20) := by
  unfold F10
  show ∃ b, cnd (ltI 20 (lenL c.1)) _ (cnd (ltI 20 (lenL c.2.1)) _ (cnd (ltI 20 (lenL c.2.2.2.2.2.2.2.2.2.2.1)) _ (cnd (ltI 20 (lenL c.2.2.2.2.2.2.2.2.2.2.2.1)) _ (cnd (ltI 20 (lenL c.2.2.2.2.2.2.2.2.2.2.2.2.1)) _ _)))) = some (b, ()) ∧ _
  cases e1 : ltI 20 (lenL c.1)
  rotate_left
  · exact ⟨false, rfl, fun h => by cases h⟩
  cases e2 : ltI 20 (lenL c.2.1)
  rotate_left
  · exact ⟨false, rfl, fun h => by cases h⟩
  cases e3 : ltI 20 (lenL c.2.2.2.2.2.2.2.2.2.2.1)
  rotate_left
  · exact ⟨false, rfl, fun h => by cases h⟩
  cases e4 : ltI 20 (lenL c.2.2.2.2.2.2.2.2.2.2.2.1)
  rotate_left
  · exact ⟨false, rfl, fun h => by cases h⟩
  cases e5 : ltI 20 (lenL c.2.2.2.2.2.2.2.2.2.2.2.2.1)
  rotate_left
  · exact ⟨false, rfl, fun h => by cases h⟩
  have h3 := len20 e3
  have h5 := len20 e5
  rw [cnd_f, cnd_f, cnd_f, cnd_f, cnd_f]
  rw [loop_of (xs := c.2.2.2.2.2.2.2.2.2.2.1) (st := fun (_ : Unit) i => ((i : Int), ())) (g := fun _ _ a => if (!ltI 1000 (lenL a.2.1)) = true then some (.inl ()) else some (.inr (false, ()))) (fin := fun _ => ()) (b := ())]
  rotate_left
  · intro b i y hx
    refine (for_step hx).trans ?_
    rw [step_if]
    show cnd (ltI 1000 (lenL y.2.1)) (inR (inR (some (false, ())))) (some (.inl (addI .i64 (i : Int) 1, ()))) = _
    rw [addN (ix_le hx (Nat.le_trans h3 (by decide)))]
    cases ltI 1000 (lenL y.2.1) <;> rfl
  · exact fun b => for_end
  · rfl
  · omega
  rw [fold_all]
  cases c.2.2.2.2.2.2.2.2.2.2.1.all (fun a => !ltI 1000 (lenL a.2.1))
  · exact ⟨false, rfl, fun h => by cases h⟩
  rw [if_pos rfl, bndS_l]
  rw [loop_of (xs := c.2.2.2.2.2.2.2.2.2.2.2.2.1) (st := fun (_ : Unit) i => ((i : Int), ())) (g := fun _ _ a => if (!ltI 100 (lenL a.2.1)) = true then some (.inl ()) else some (.inr (false, ()))) (fin := fun _ => ()) (b := ())]
  rotate_left
  · intro b i y hx
    refine (for_step hx).trans ?_
    rw [step_if]
    show cnd (ltI 100 (lenL y.2.1)) (inR (inR (some (false, ())))) (some (.inl (addI .i64 (i : Int) 1, ()))) = _
    rw [addN (ix_le hx (Nat.le_trans h5 (by decide)))]
    cases ltI 100 (lenL y.2.1) <;> rfl
  · exact fun b => for_end
  · rfl
  · omega
  rw [fold_all]
  cases c.2.2.2.2.2.2.2.2.2.2.2.2.1.all (fun a => !ltI 100 (lenL a.2.1))
  · exact ⟨false, rfl, fun h => by cases h⟩
  exact ⟨true, rfl, fun _ => ⟨len20 e1, len20 e2, h3, len20 e4, h5⟩⟩
/-- Nothing is used yet. -/
def noUse (l : List Acc) : Bool := l.all (fun a => eqI a.2.1 0)
/-- What is left for the accounts. -/
def left (c : D ty27) : Int := sumZ c.2.1 - c.2.2.2.2.2.2.2.1 - 1
theorem room33 (c : D ty27) (h : c.2.1.length ≤ 20) {R : Type} : loopS (fun d3 : Int × (Int × Unit) => cnd (ltI d3.2.1 (lenL c.2.1)) (bnd (atL c.2.1 d3.2.1) (fun x4 => some (.inl ((addI .i64 d3.1 (subI .i64 x4.2.2.1 x4.2.2.2.1)), ((addI .i64 d3.2.1 1), ()))))) (inR (some (.inl (d3.1, ()))))) 1000000000 ((subI .i64 (negI .i64 c.2.2.2.2.2.2.2.1) 1), (0, ())) = (some (.inl (c.2.1.foldl (fun b z => addI .i64 b (subI .i64 z.2.2.1 z.2.2.2.1)) (subI .i64 (negI .i64 c.2.2.2.2.2.2.2.1) 1), ())) : Option (Sum (Int × Unit) R)) := by
  rw [loop_of (xs := c.2.1) (st := fun (b : Int) i => (b, ((i : Int), ()))) (g := fun _ b z => some (.inl (addI .i64 b (subI .i64 z.2.2.1 z.2.2.2.1)))) (fin := fun b => (b, ())) (b := subI .i64 (negI .i64 c.2.2.2.2.2.2.2.1) 1)]
  rotate_left
  · intro b i y hx
    refine (for_step hx).trans ?_
    rw [addN (ix_le hx (Nat.le_trans h (by decide)))]
    rfl
  · exact fun b => for_end
  · rfl
  · omega
  rw [fold_plain]
theorem sizes_pool {c : D ty27} (h : sizesOk c = true) : inR' 0 32 c.2.2.2.2.2.2.2.1 = true := by
  unfold sizesOk sizes8 at h
  simp only [Bool.and_eq_true] at h
  exact h.1.2.2.2.2.2.1
theorem left_a (l : List (D ty145)) (p : Int) (h : l.length ≤ 20) (hz : l.all zOk = true) (hp : inR' 0 32 p = true) : l.foldl (fun b z => addI .i64 b (subI .i64 z.2.2.1 z.2.2.2.1)) (subI .i64 (negI .i64 p) 1) = sumZ l - p - 1 := by
  have h1 := inR_le hp
  have e1 : negI .i64 p = 0 - p := subI_ok (a := 0) (b := p) (by omega) (by omega)
  have e2 : subI .i64 (negI .i64 p) 1 = 0 - p - 1 := by rw [e1]; exact subI_ok (by omega) (by omega)
  rw [e2, sum_room _ _ hz h (by omega) (by omega) (by omega)]
  omega
theorem left_b (l : List (D ty145)) (p : Int) (h : l.length ≤ 20) (hz : l.all zOk = true) (hp : inR' 0 32 p = true) : subI .i64 (subI .i64 (l.foldl (fun b z => addI .i64 b (subI .i64 z.2.2.1 z.2.2.2.1)) 0) p) 1 = sumZ l - p - 1 := by
  have h1 := inR_le hp
  have h2 := sumZ_b l hz
  rw [sum_room _ _ hz h (by omega) (by omega) (by omega), Int.zero_add]
  have e1 : subI .i64 (sumZ l) p = sumZ l - p := subI_ok (by omega) (by omega)
  rw [e1]
  exact subI_ok (by omega) (by omega)
theorem left33 (c : D ty27) (h : c.2.1.length ≤ 20) (hz : c.2.1.all zOk = true) (hs : sizesOk c = true) : c.2.1.foldl (fun b z => addI .i64 b (subI .i64 z.2.2.1 z.2.2.2.1)) (subI .i64 (negI .i64 c.2.2.2.2.2.2.2.1) 1) = left c := left_a _ _ h hz (sizes_pool hs)
theorem left38 (c : D ty27) (h : c.2.1.length ≤ 20) (hz : c.2.1.all zOk = true) (hs : sizesOk c = true) : subI .i64 (subI .i64 (c.2.1.foldl (fun b z => addI .i64 b (subI .i64 z.2.2.1 z.2.2.2.1)) 0) c.2.2.2.2.2.2.2.1) 1 = left c := left_b _ _ h hz (sizes_pool hs)
/-- What is said of the accounts. -/
noncomputable def treeO (c : D ty27) : Option (Int × Unit) := if noUse c.2.2.2.2.2.2.2.2.2.2.2.1 = true then (cnd (ltI (left c) 0) (some (18, ())) (bnd (F39 (c.2.2.2.2.2.2.2.2.2.2.2.1, (left c, ()))) (fun x6 => (cnd (neI x6.2.1 0) (some (18, ())) (cnd (neI x6.1 (-1)) (some (18, ())) (some (0, ()))))))) else some (1, ())
theorem F33_eq (c : D ty27) (h : c.2.1.length ≤ 20) (ha : c.2.2.2.2.2.2.2.2.2.2.2.1.length ≤ 20) (hz : c.2.1.all zOk = true) (hs : sizesOk c = true) : F33 (c, ()) = if accCode c.2.2.2.2.2.2.2.2.2.2.2.1 = 0 then treeO c else some (accCode c.2.2.2.2.2.2.2.2.2.2.2.1, ()) := by
  unfold F33
  show bnd (F105 (c.2.2.2.2.2.2.2.2.2.2.2.1, ())) _ = _
  rw [F105_eq, bnd_s]
  show cnd (neI (accCode c.2.2.2.2.2.2.2.2.2.2.2.1) 0) (some (accCode c.2.2.2.2.2.2.2.2.2.2.2.1, ())) _ = _
  by_cases h0 : accCode c.2.2.2.2.2.2.2.2.2.2.2.1 = 0
  · rw [cnd_neg (by rw [neI_eq, decide_eq_true h0]; rfl), if_pos h0]
    rw [loop_of (xs := c.2.2.2.2.2.2.2.2.2.2.2.1) (st := fun (_ : Unit) i => ((i : Int), ())) (g := fun _ _ a => if eqI a.2.1 0 = true then some (.inl ()) else some (.inr ((1 : Int), ()))) (fin := fun _ => ()) (b := ())]
    rotate_left
    · intro b i y hx
      refine (for_step hx).trans ?_
      rw [step_if]
      show cnd (!eqI y.2.1 0) (inR (inR (cnd (leI 0 (i : Int)) (some ((1 : Int), ())) _))) (some (.inl (addI .i64 (i : Int) 1, ()))) = _
      rw [cnd_pos (b := leI 0 (i : Int)) (by rw [leI_eq]; exact decide_eq_true (by omega)), addN (ix_le hx (Nat.le_trans ha (by decide)))]
      cases eqI y.2.1 0 <;> rfl
    · exact fun b => for_end
    · rfl
    · omega
    rw [fold_all]
    unfold treeO noUse
    cases c.2.2.2.2.2.2.2.2.2.2.2.1.all (fun a => eqI a.2.1 0)
    · rfl
    rw [if_pos rfl, if_pos rfl, bndS_l]
    refine (congrArg (fun o => bndS o _) (room33 c h)).trans ?_
    rw [left33 c h hz hs, bndS_l]
    show cnd (ltI (left c) 0) _ (bnd (F108 (c.2.2.2.2.2.2.2.2.2.2.2.1, (left c, ()))) _) = _
    rw [over_same]
  · rw [cnd_pos (by rw [neI_eq, decide_eq_false h0]; rfl), if_neg h0]
theorem zones_all {l : List (D ty145)} (h : zonesOk l = true) : l.all zOk = true := by
  unfold zonesOk at h
  simp only [Bool.and_eq_true] at h
  exact h.2.1
theorem F12_eq (c : D ty27) (h0 : c.1.length ≤ 20) (h1 : c.2.1.length ≤ 20) (h2 : c.2.2.2.2.2.2.2.2.2.2.1.length ≤ 20) (h3 : c.2.2.2.2.2.2.2.2.2.2.2.1.length ≤ 20) : ∃ n, F12 (c, ()) = some (n, ()) ∧ F13 (c, ()) = some (n, ()) := by
  unfold F12 F13
  rw [F30_eq (c, ()) h0, F35_eq (c, ()) h0 h1, bnd_s, bnd_s]
  show ∃ n, cnd (neI (if nodesOk c.1 = true then 0 else 1) 0) (some ((if nodesOk c.1 = true then 0 else 1), ())) _ = _ ∧ cnd (notB (nodesOk c.1 && zonesOk c.2.1)) _ _ = _
  cases hn : nodesOk c.1
  · exact ⟨_, rfl, rfl⟩
  rw [if_pos rfl, cnd_neg (b := neI 0 0) (by rfl), F31_eq (c, ()) h1, bnd_s]
  show ∃ n, cnd (neI (if zonesOk c.2.1 = true then 0 else 1) 0) (some ((if zonesOk c.2.1 = true then 0 else 1), ())) _ = _ ∧ _
  cases hz : zonesOk c.2.1
  · exact ⟨_, rfl, rfl⟩
  rw [if_pos rfl, cnd_neg (b := neI 0 0) (by rfl), F32_eq (c, ()) h2, bnd_s, cnd_neg (b := notB (true && true)) (by rfl), F36_eq (c, ()) h2, bnd_s]
  show ∃ n, cnd (neI (if sizesOk c = true then 0 else 1) 0) (some ((if sizesOk c = true then 0 else 1), ())) _ = _ ∧ cnd (notB (sizesOk c)) _ _ = _
  cases hs : sizesOk c
  · exact ⟨_, rfl, rfl⟩
  rw [if_pos rfl, cnd_neg (b := neI 0 0) (by rfl), cnd_neg (b := notB true) (by rfl)]
  rw [F33_eq c h1 h3 (zones_all hz) hs]
  show ∃ n, _ ∧ bnd (F37 (c.2.2.2.2.2.2.2.2.2.2.2.1, ())) _ = _
  rw [F37_eq, bnd_s]
  show ∃ n, _ ∧ cnd (neI (accCode c.2.2.2.2.2.2.2.2.2.2.2.1) 0) (some (accCode c.2.2.2.2.2.2.2.2.2.2.2.1, ())) _ = _
  by_cases ha : accCode c.2.2.2.2.2.2.2.2.2.2.2.1 = 0
  rotate_left
  · rw [if_neg ha, bnd_s]
    have hb : neI (accCode c.2.2.2.2.2.2.2.2.2.2.2.1) 0 = true := by rw [neI_eq, decide_eq_false ha]; rfl
    rw [cnd_pos hb]
    exact ⟨_, rfl, cnd_pos hb _ _⟩
  rw [if_pos ha, cnd_neg (b := neI (accCode c.2.2.2.2.2.2.2.2.2.2.2.1) 0) (by rw [neI_eq, decide_eq_true ha]; rfl)]
  rw [loop_of (xs := c.2.2.2.2.2.2.2.2.2.2.2.1) (st := fun (_ : Unit) i => ((i : Int), ())) (g := fun _ _ a => if eqI a.2.1 0 = true then some (.inl ()) else some (.inr ((1 : Int), ()))) (fin := fun _ => ()) (b := ())]
  rotate_left
  · intro b i y hx
    refine (for_step hx).trans ?_
    rw [step_if]
    show cnd (!eqI y.2.1 0) (inR (inR (some ((1 : Int), ())))) (some (.inl (addI .i64 (i : Int) 1, ()))) = _
    rw [addN (ix_le hx (Nat.le_trans h3 (by decide)))]
    cases eqI y.2.1 0 <;> rfl
  · exact fun b => for_end
  · rfl
  · omega
  rw [fold_all]
  unfold treeO noUse
  cases c.2.2.2.2.2.2.2.2.2.2.2.1.all (fun a => eqI a.2.1 0)
  · exact ⟨_, rfl, rfl⟩
  rw [if_pos rfl, if_pos rfl, bndS_l]
  obtain ⟨t, ht⟩ := F38_eq c h1
  show ∃ n, _ ∧ bnd (F38 (c, ())) _ = _
  rw [ht, bnd_s]
  show ∃ n, _ ∧ cnd (ltI (subI .i64 (subI .i64 (c.2.1.foldl (fun b z => addI .i64 b (subI .i64 z.2.2.1 z.2.2.2.1)) 0) c.2.2.2.2.2.2.2.1) 1) 0) (some (18, ())) (bnd (F39 (c.2.2.2.2.2.2.2.2.2.2.2.1, (subI .i64 (subI .i64 (c.2.1.foldl (fun b z => addI .i64 b (subI .i64 z.2.2.1 z.2.2.2.1)) 0) c.2.2.2.2.2.2.2.1) 1, ()))) _) = _
  rw [left38 c h1 (zones_all hz) hs]
  cases ltI (left c) 0
  rotate_left
  · exact ⟨_, rfl, rfl⟩
  obtain ⟨r, hr⟩ := F39_some c.2.2.2.2.2.2.2.2.2.2.2.1 (left c)
  rw [cnd_f, cnd_f, hr, bnd_s, bnd_s]
  cases neI r.2.1 0
  rotate_left
  · exact ⟨_, rfl, rfl⟩
  cases neI r.1 (-1)
  rotate_left
  · exact ⟨_, rfl, rfl⟩
  rw [cnd_f, cnd_f, cnd_f, cnd_f, bnd_s, cnd_neg (b := neI 0 0) (by rfl), F34_eq c h3]
  show ∃ n, _ ∧ cnd (ltI (lenL c.2.2.2.2.2.2.2.2.2.2.2.2.1) 1) _ (cnd (ltI 8 (lenL c.2.2.2.2.2.2.2.2.2.2.2.2.1)) _ _) = _
  rw [range_chk]
  by_cases hl : inR' 1 8 (lenL c.2.2.2.2.2.2.2.2.2.2.2.2.1) = true
  rotate_left
  · rw [if_neg hl, if_neg hl]; exact ⟨_, rfl, rfl⟩
  rw [if_pos hl, if_pos hl, bnd_s]
  have hl2 := inR_le hl
  rw [lenL_eq] at hl2
  rw [loop_of (xs := c.2.2.2.2.2.2.2.2.2.2.2.2.1) (st := fun (_ : Unit) i => ((i : Int), ())) (g := fun _ _ a => if eqI (pgC (lenL c.2.2.2.2.2.2.2.2.2.2.2.1) a) 0 = true then some (.inl ()) else some (.inr (pgC (lenL c.2.2.2.2.2.2.2.2.2.2.2.1) a, ()))) (fin := fun _ => ()) (b := ())]
  rotate_left
  · intro b i y hx
    refine (for_step hx).trans ?_
    rw [step_if]
    show bnd (F40 (y.2.1, ())) (fun x3 => cnd (neI x3.1 0) (inR (inR (some (x3.1, ())))) (cnd (ltI y.1 0) (inR (inR (some (2, ())))) (cnd (leI (lenL c.2.2.2.2.2.2.2.2.2.2.2.1) y.1) (inR (inR (some (2, ())))) (some (.inl (addI .i64 (i : Int) 1, ())))))) = _
    rw [F40_eq, bnd_s, range_chk2, addN (ix_le hx (show c.2.2.2.2.2.2.2.2.2.2.2.2.1.length ≤ 140737488355328 by omega))]
    show cnd (!eqI (progC y.2.1) 0) (inR (inR (some (progC y.2.1, ())))) (if inR' 0 (lenL c.2.2.2.2.2.2.2.2.2.2.2.1 - 1) y.1 = true then _ else _) = _
    by_cases hp : eqI (progC y.2.1) 0 = true
    · have hq : pgC (lenL c.2.2.2.2.2.2.2.2.2.2.2.1) y = (if inR' 0 (lenL c.2.2.2.2.2.2.2.2.2.2.2.1 - 1) y.1 = true then 0 else 2) := if_pos hp
      rw [hq, hp]
      cases inR' 0 (lenL c.2.2.2.2.2.2.2.2.2.2.2.1 - 1) y.1 <;> rfl
    · have hq : pgC (lenL c.2.2.2.2.2.2.2.2.2.2.2.1) y = progC y.2.1 := if_neg hp
      rw [hq, if_neg hp, cnd_pos (b := !eqI (progC y.2.1) 0) (by rw [Bool.not_eq_true] at hp; rw [hp]; rfl)]
      rfl
  · exact fun b => for_end
  · rfl
  · omega
  refine ⟨firstC (pgC (lenL c.2.2.2.2.2.2.2.2.2.2.2.1)) c.2.2.2.2.2.2.2.2.2.2.2.2.1, ?_, fold_code _ _ 0⟩
  rw [cnd_if]
  show (if (!eqI (firstC (pgC (lenL c.2.2.2.2.2.2.2.2.2.2.2.1)) c.2.2.2.2.2.2.2.2.2.2.2.2.1) 0) = true then some (firstC (pgC (lenL c.2.2.2.2.2.2.2.2.2.2.2.1)) c.2.2.2.2.2.2.2.2.2.2.2.2.1, ()) else some (0, ())) = _
  by_cases hf : firstC (pgC (lenL c.2.2.2.2.2.2.2.2.2.2.2.1)) c.2.2.2.2.2.2.2.2.2.2.2.2.1 = 0
  · rw [hf]; rfl
  · rw [eqI_eq, decide_eq_false hf]; rfl
theorem law3_true (c : D ty27) (g : Ls.Good ty27 c) : F3 (c, ()) = some (true, ()) := by
  unfold F3
  obtain ⟨b, h1, h2⟩ := F10_eq c
  show bnd (F10 (c, ())) _ = _
  rw [h1, bnd_s]
  cases b
  · rfl
  obtain ⟨q0, q1, q2, q3, q4⟩ := h2 rfl
  obtain ⟨n, h3, h4⟩ := F12_eq c q0 q1 q2 q3
  show bnd (F12 (c, ())) (fun x1 => bnd (F13 (c, ())) _) = _
  rw [h3, bnd_s, h4, bnd_s]
  show cnd (eqI n n) _ _ = _
  rw [eq_self]; rfl
end Go.Bo
namespace Go.Bo
open Go Go.Ls
/-- The first blocks of files that lie behind each other, and what is behind them. -/
def starts : Int → List Int → List Int
  | _, [] => []
  | a, n :: l => a :: starts (a + (1 + n)) l
def endOf : Int → List Int → Int
  | a, [] => a
  | a, n :: l => endOf (a + (1 + n)) l
def layL (l : List Int) (s : Int) : List Int := starts 0 l ++ [endOf 0 l, endOf 0 l + s]
theorem roomL_ok (l r : List Int) (h : l.length + r.length ≤ 1000) : roomL l r 8 = true := by
  show Nat.ble (Nat.mul (l.length + r.length) 8) 4294967296 = true
  rw [Nat.ble_eq]
  show (l.length + r.length) * 8 ≤ 4294967296
  omega
theorem starts_len : ∀ (l : List Int) (a : Int), (starts a l).length = l.length
  | [], _ => rfl
  | n :: l, a => by unfold starts; simp [starts_len l]
theorem endOf_b : ∀ (l : List Int) (a : Int), l.all (inR' 1 16) = true → a ≤ endOf a l ∧ endOf a l ≤ a + 17 * l.length
  | [], a, _ => by unfold endOf; simp
  | n :: l, a, h => by
    simp only [List.all_cons, Bool.and_eq_true] at h
    have h1 := inR_le h.1
    have h2 := endOf_b l (a + (1 + n)) h.2
    unfold endOf
    simp only [List.length_cons]
    omega
theorem starts_b : ∀ (l : List Int) (a : Int), l.all (inR' 1 16) = true → ∀ x, x ∈ starts a l → a ≤ x ∧ x ≤ a + 17 * l.length
  | [], a, _, x, hx => by unfold starts at hx; cases hx
  | n :: l, a, h, x, hx => by
    simp only [List.all_cons, Bool.and_eq_true] at h
    have h1 := inR_le h.1
    unfold starts at hx
    simp only [List.length_cons]
    rcases List.mem_cons.1 hx with rfl | hx
    · omega
    · have h2 := starts_b l (a + (1 + n)) h.2 x hx
      omega
theorem stepA {at_ n : Int} (h1 : 0 ≤ at_ ∧ at_ ≤ 1000) (h2 : 1 ≤ n ∧ n ≤ 16) : addI .i64 at_ (addI .i64 1 n) = at_ + (1 + n) := by
  rw [addI_ok (a := 1) (b := n) (by omega) (by omega), addI_ok (by omega) (by omega)]
/-- One round: a file's place, and the next. -/
noncomputable def layG (b : Int × List Int) (x : Int) : Option (Sum (Int × List Int) (List Int × (Int × Unit))) := chk (roomL b.2 [b.1] 8) (some (.inl (addI .i64 b.1 (addI .i64 1 x), b.2 ++ [b.1])))
theorem layFold {A : Type} {fin : Int × List Int → A} : ∀ (l : List Int) (i : Nat) (a : Int) (acc : List Int), l.all (inR' 1 16) = true → 0 ≤ a → a + 17 * l.length ≤ 1000 → acc.length + l.length ≤ 500 → foldO (fun _ b x => layG b x) fin i (a, acc) l = some (.inl (fin (endOf a l, acc ++ starts a l)))
  | [], i, a, acc, _, _, _, _ => by unfold foldO endOf starts; rw [List.append_nil]
  | n :: l, i, a, acc, h, h0, h1, h2 => by
    simp only [List.all_cons, Bool.and_eq_true] at h
    simp only [List.length_cons] at h1 h2
    have hn := inR_le h.1
    have e : layG (a, acc) n = some (.inl (a + (1 + n), acc ++ [a])) := by
      show chk (roomL acc [a] 8) (some (Sum.inl (addI .i64 a (addI .i64 1 n), acc ++ [a]))) = _
      rw [roomL_ok acc [a] (by simp; omega), chk_t, stepA ⟨h0, by omega⟩ hn]
    unfold foldO
    simp only [e]
    rw [layFold l (i + 1) _ _ h.2 (by omega) (by omega) (by simp; omega)]
    have e1 : endOf a (n :: l) = endOf (a + (1 + n)) l := by rw [endOf]
    have e2 : starts a (n :: l) = a :: starts (a + (1 + n)) l := by rw [starts]
    rw [e1, e2, List.append_assoc]
    rfl
theorem lay_end {l : List Int} {s : Int} (h : l.all (inR' 1 16) = true) (h4 : l.length ≤ 4) (hs : inR' 0 64 s = true) (a : Int) (ha : a = endOf 0 l) : cnd (ltI s 0) (some (([] : List Int), ((2 : Int), ()))) (cnd (ltI 64 s) (some ([], (2, ()))) (chk (roomL (starts 0 l) (a :: (addI .i64 a s) :: []) 8) (some (appL (starts 0 l) (a :: (addI .i64 a s) :: []), (0, ()))))) = some (layL l s, (0, ())) := by
  have h1 := inR_le hs
  have h2 := endOf_b l 0 h
  subst ha
  rw [cnd_neg (b := ltI s 0) (by rw [ltI_eq]; exact decide_eq_false (by omega)), cnd_neg (b := ltI 64 s) (by rw [ltI_eq]; exact decide_eq_false (by omega)), roomL_ok _ _ (by rw [starts_len]; simp; omega), chk_t, addI_ok (by omega) (by omega)]
  rfl
theorem mem_in {l : List Int} (h : l.all (inR' 1 16) = true) {i : Nat} {y : Int} (hx : l[i]? = some y) : 1 ≤ y ∧ y ≤ 16 := inR_le (List.all_eq_true.1 h y (List.mem_of_getElem? hx))
theorem F115_eq (l : List Int) (s : Int) (h : l.all (inR' 1 16) = true) (h4 : l.length ≤ 4) (hs : inR' 0 64 s = true) : F115 (l, (s, ())) = some (layL l s, (0, ())) := by
  unfold F115
  show cnd (ltI 4 (lenL l)) _ _ = _
  rw [cnd_neg (b := ltI 4 (lenL l)) (by rw [ltI_eq, lenL_eq]; exact decide_eq_false (by omega))]
  rw [loop_of (xs := l) (st := fun (b : Int × List Int) i => (b.1, (b.2, ((i : Int), ())))) (g := fun _ b x => layG b x) (fin := fun b => (b.1, (b.2, ()))) (b := ((0 : Int), ([] : List Int)))]
  rotate_left
  · intro b i y hx
    have hy := mem_in h hx
    refine (for_step hx).trans ?_
    rw [cnd_neg (b := ltI y 1) (by rw [ltI_eq]; exact decide_eq_false (by omega))]
    have e : F185 (y, ()) = some (true, ()) := by
      unfold F185
      show cnd (leI 0 y) (some (leI y 16, ())) _ = _
      rw [cnd_pos (b := leI 0 y) (by rw [leI_eq]; exact decide_eq_true (by omega)), leI_eq, decide_eq_true (by omega)]
    rw [e, bnd_s, cnd_neg (b := notB true) rfl, addN (ix_le hx (Nat.le_trans h4 (by decide)))]
    unfold stepO layG
    dsimp only
    show chk (roomL b.2 [b.1] 8) (some (Sum.inl (addI .i64 b.1 (addI .i64 1 y), (b.2 ++ [b.1], (((i + 1 : Nat) : Int), ()))))) = _
    cases roomL b.2 [b.1] 8 <;> rfl
  · exact fun b => for_end
  · rfl
  · omega
  rw [layFold l 0 0 [] h (by omega) (by omega) (by simp; omega), bndS_l]
  exact lay_end h h4 hs _ rfl
theorem F140_eq (l : List Int) (s : Int) (h : l.all (inR' 1 16) = true) (h4 : l.length ≤ 4) (hs : inR' 0 64 s = true) : F140 (l, (s, ())) = some (layL l s, (0, ())) := by
  unfold F140
  show cnd (ltI 4 (lenL l)) _ _ = _
  rw [cnd_neg (b := ltI 4 (lenL l)) (by rw [ltI_eq, lenL_eq]; exact decide_eq_false (by omega))]
  rw [loop_of (xs := l) (st := fun (b : Int × List Int) i => (b.2, (b.1, ((i : Int), ())))) (g := fun _ b x => layG b x) (fin := fun b => (b.2, (b.1, ()))) (b := ((0 : Int), ([] : List Int)))]
  rotate_left
  · intro b i y hx
    have hy := mem_in h hx
    refine (for_step hx).trans ?_
    rw [cnd_neg (b := ltI y 1) (by rw [ltI_eq]; exact decide_eq_false (by omega)), at_nat hx, bnd_s, cnd_neg (b := ltI 16 y) (by rw [ltI_eq]; exact decide_eq_false (by omega)), bnd_s, addN (ix_le hx (Nat.le_trans h4 (by decide)))]
    unfold stepO layG
    dsimp only
    show chk (roomL b.2 [b.1] 8) (some (Sum.inl (b.2 ++ [b.1], (addI .i64 b.1 (addI .i64 1 y), (((i + 1 : Nat) : Int), ()))))) = _
    cases roomL b.2 [b.1] 8 <;> rfl
  · exact fun b => for_end
  · rfl
  · omega
  rw [layFold l 0 0 [] h (by omega) (by omega) (by simp; omega), bndS_l]
  exact lay_end h h4 hs _ rfl
/-- The numbers of pages of the files. -/
def pgs (c : D ty27) : List Int := c.2.2.2.2.2.2.2.2.2.2.1.map (fun f => f.1)
def lay (c : D ty27) : List Int := layL (pgs c) c.2.2.2.2.2.2.1
theorem pgsFold {A R : Type} {fin : List Int → A} : ∀ (l : List (D ty68)) (i : Nat) (acc : List Int), acc.length + l.length ≤ 500 → foldO (R := R) (fun _ b (f : D ty68) => chk (roomL b [f.1] 8) (some (.inl (b ++ [f.1])))) fin i acc l = some (.inl (fin (acc ++ l.map (fun f => f.1))))
  | [], i, acc, _ => by unfold foldO; simp
  | f :: l, i, acc, h => by
    simp only [List.length_cons] at h
    have e : (chk (roomL acc [f.1] 8) (some (.inl (acc ++ [f.1]))) : Option (Sum (List Int) R)) = some (.inl (acc ++ [f.1])) := by
      rw [roomL_ok acc [f.1] (by simp; omega), chk_t]
    unfold foldO
    simp only [e]
    rw [pgsFold l (i + 1) _ (by simp; omega)]
    simp
theorem files_ok {c : D ty27} (h : sizesOk c = true) : (pgs c).all (inR' 1 16) = true ∧ (pgs c).length ≤ 4 ∧ inR' 0 64 c.2.2.2.2.2.2.1 = true := by
  unfold sizesOk sizes8 at h
  simp only [Bool.and_eq_true] at h
  refine ⟨?_, ?_, h.1.2.2.2.2.1⟩
  · unfold pgs
    rw [List.all_map, List.all_eq_true]
    intro f hf
    have := List.all_eq_true.1 h.2.2 f hf
    unfold fileOk at this
    simp only [Bool.and_eq_true] at this
    exact this.1
  · have := h.2.1
    rw [leI_eq, lenL_eq] at this
    have := of_decide_eq_true this
    unfold pgs
    rw [List.length_map]
    omega
theorem pgs_len (c : D ty27) : (pgs c).length = c.2.2.2.2.2.2.2.2.2.2.1.length := List.length_map ..
theorem layLoop (c : D ty27) (h : c.2.2.2.2.2.2.2.2.2.2.1.length ≤ 20) {R : Type} : loopS (fun d0 : List Int × (Int × Unit) => cnd (ltI d0.2.1 (lenL c.2.2.2.2.2.2.2.2.2.2.1)) (bnd (atL c.2.2.2.2.2.2.2.2.2.2.1 d0.2.1) (fun x1 => (chk (roomL d0.1 (x1.1 :: []) 8) (some (.inl ((appL d0.1 (x1.1 :: [])), ((addI .i64 d0.2.1 1), ()))))))) (inR (some (.inl (d0.1, ()))))) 1000000000 ([], (0, ())) = (some (.inl (pgs c, ())) : Option (Sum (List Int × Unit) R)) := by
  rw [loop_of (xs := c.2.2.2.2.2.2.2.2.2.2.1) (st := fun (b : List Int) i => (b, ((i : Int), ()))) (g := fun _ b (f : D ty68) => chk (roomL b [f.1] 8) (some (.inl (b ++ [f.1])))) (fin := fun b => (b, ())) (b := ([] : List Int))]
  rotate_left
  · intro b i y hx
    refine (for_step hx).trans ?_
    rw [addN (ix_le hx (Nat.le_trans h (by decide)))]
    unfold stepO
    dsimp only
    show chk (roomL b [y.1] 8) (some (Sum.inl (b ++ [y.1], (((i + 1 : Nat) : Int), ())))) = _
    cases roomL b [y.1] 8 <;> rfl
  · exact fun b => for_end
  · rfl
  · omega
  rw [pgsFold _ _ _ (by simp; omega)]
  rfl
theorem F41_eq (c : D ty27) (h : sizesOk c = true) : F41 (c, ()) = some (lay c, ()) := by
  obtain ⟨h1, h2, h3⟩ := files_ok h
  unfold F41
  refine (congrArg (fun o => bndS o _) (layLoop c (by rw [← pgs_len]; omega))).trans ?_
  rw [bndS_l]
  show bnd (F115 (pgs c, (c.2.2.2.2.2.2.1, ()))) _ = _
  rw [F115_eq _ _ h1 h2 h3]; rfl
theorem F56_eq (c : D ty27) (h : sizesOk c = true) : F56 (c, ()) = some (lay c, ()) := by
  obtain ⟨h1, h2, h3⟩ := files_ok h
  unfold F56
  refine (congrArg (fun o => bndS o _) (layLoop c (by rw [← pgs_len]; omega))).trans ?_
  rw [bndS_l]
  show bnd (F140 (pgs c, (c.2.2.2.2.2.2.1, ()))) _ = _
  rw [F140_eq _ _ h1 h2 h3]; rfl
theorem sizes_of (c : D ty27) (h0 : c.1.length ≤ 20) (h1 : c.2.1.length ≤ 20) (h2 : c.2.2.2.2.2.2.2.2.2.2.1.length ≤ 20) (h : F12 (c, ()) = some (0, ())) : sizesOk c = true := by
  unfold F12 at h
  rw [F30_eq (c, ()) h0, bnd_s] at h
  cases hs : sizesOk c
  rotate_left
  · rfl
  exfalso
  revert h
  show ¬ cnd (neI (if nodesOk c.1 = true then 0 else 1) 0) (some ((if nodesOk c.1 = true then (0 : Int) else 1), ())) _ = some (0, ())
  cases nodesOk c.1
  · intro h; cases h
  rw [if_pos rfl, cnd_neg (b := neI 0 0) (by rfl), F31_eq (c, ()) h1, bnd_s]
  show ¬ cnd (neI (if zonesOk c.2.1 = true then 0 else 1) 0) (some ((if zonesOk c.2.1 = true then (0 : Int) else 1), ())) _ = some (0, ())
  cases zonesOk c.2.1
  · intro h; cases h
  rw [if_pos rfl, cnd_neg (b := neI 0 0) (by rfl), F32_eq (c, ()) h2, bnd_s]
  show ¬ cnd (neI (if sizesOk c = true then 0 else 1) 0) (some ((if sizesOk c = true then (0 : Int) else 1), ())) _ = some (0, ())
  rw [hs]
  intro h; cases h
theorem atL_in {α : Type} {l : List α} {i : Int} (h0 : 0 ≤ i) (h1 : i < l.length) : ∃ x, atL l i = some x ∧ x ∈ l := by
  obtain ⟨n, rfl⟩ := Int.eq_ofNat_of_zero_le h0
  have hn : n < l.length := by omega
  exact ⟨l[n], List.getElem?_eq_getElem hn, List.getElem_mem hn⟩
theorem atL_left {α : Type} {l r : List α} {i : Int} {x : α} (h : atL l i = some x) : atL (l ++ r) i = some x := by
  cases i with
  | ofNat n =>
    have h : l[n]? = some x := h
    have hn := (List.getElem?_eq_some_iff.1 h).1
    show (l ++ r)[n]? = some x
    rw [List.getElem?_append_left hn]; exact h
  | negSucc n => cases h
/-- What is known of a configuration that is valid: its files' blocks. -/
theorem lay_at {c : D ty27} (h : sizesOk c = true) {i : Int} (h0 : 0 ≤ i) (h1 : i < c.2.2.2.2.2.2.2.2.2.2.1.length) : ∃ x : Int, atL (lay c) i = some x ∧ 0 ≤ x ∧ x ≤ 100 := by
  obtain ⟨g1, g2, g3⟩ := files_ok h
  obtain ⟨x, e, hx⟩ := atL_in (l := starts 0 (pgs c)) h0 (by rw [starts_len, pgs_len]; exact h1)
  have := starts_b _ _ g1 x hx
  refine ⟨x, atL_left e, ?_, ?_⟩ <;> omega
theorem lay_swap {c : D ty27} (h : sizesOk c = true) : ∃ x, atL (lay c) (lenL c.2.2.2.2.2.2.2.2.2.2.1) = some x := by
  refine ⟨endOf 0 (pgs c), ?_⟩
  rw [lenL_eq, ← pgs_len c]
  show (starts 0 (pgs c) ++ _)[(pgs c).length]? = _
  rw [List.getElem?_append_right (by rw [starts_len]; exact Nat.le_refl _), starts_len, Nat.sub_self]
  rfl
section
variable {c : D ty27}
theorem inodes (n : Int) (h12 : F12 (c, ()) = some (n, ())) (h13 : F13 (c, ()) = some (n, ())) (hs : n = 0 → sizesOk c = true) (i : Int) : ∃ r : Int, F17 (c, (i, ())) = some (r, ()) ∧ F18 (c, (i, ())) = some (r, ()) ∧ (n = 0 → 0 ≤ i → i < c.2.2.2.2.2.2.2.2.2.2.1.length → atL (lay c) i = some r ∧ 0 ≤ r ∧ r ≤ 100) ∧ (¬ (n = 0 ∧ 0 ≤ i ∧ i < c.2.2.2.2.2.2.2.2.2.2.1.length) → r = -1) := by
  unfold F17 F18
  show ∃ r, bnd (F12 (c, ())) _ = _ ∧ bnd (F13 (c, ())) _ = _ ∧ _
  rw [h12, h13, bnd_s, bnd_s]
  show ∃ r, cnd (neI n 0) (some (-1, ())) _ = _ ∧ cnd (neI n 0) (some (-1, ())) _ = _ ∧ _
  by_cases h0 : n = 0
  rotate_left
  · have hb : neI n 0 = true := by rw [neI_eq, decide_eq_false h0]; rfl
    exact ⟨-1, cnd_pos hb _ _, cnd_pos hb _ _, fun h => absurd h h0, fun _ => rfl⟩
  have hb : neI n 0 = false := by rw [neI_eq, decide_eq_true h0]; rfl
  have hz := hs h0
  have h4 := (files_ok hz).2.1
  rw [pgs_len] at h4
  rw [cnd_neg hb, cnd_neg hb]
  show ∃ r, bnd (F42 (i, (0, (subI .i64 (lenL c.2.2.2.2.2.2.2.2.2.2.1) 1, ())))) _ = _ ∧ cnd (ltI i 0) _ (cnd (leI (lenL c.2.2.2.2.2.2.2.2.2.2.1) i) _ _) = _ ∧ _
  rw [F42_eq, bnd_s]
  show ∃ r, cnd (notB (inR' 0 (subI .i64 (lenL c.2.2.2.2.2.2.2.2.2.2.1) 1) i)) (some (-1, ())) _ = _ ∧ _
  rw [range_chk2, subI_ok (by rw [lenL_eq]; omega) (by rw [lenL_eq]; omega)]
  cases hr : inR' 0 (lenL c.2.2.2.2.2.2.2.2.2.2.1 - 1) i
  · refine ⟨-1, rfl, rfl, fun _ g1 g2 => ?_, fun _ => rfl⟩
    exfalso
    unfold inR' at hr
    rw [lenL_eq, decide_eq_true g1, Bool.true_and] at hr
    have := of_decide_eq_false hr
    omega
  · have hi := inR_le hr
    rw [lenL_eq] at hi
    obtain ⟨r, e, g1, g2⟩ := lay_at hz (i := i) hi.1 (by omega)
    rw [cnd_neg (b := notB true) rfl, if_pos rfl]
    refine ⟨r, ?_, ?_, fun _ _ _ => ⟨e, g1, g2⟩, fun h => absurd ⟨h0, hi.1, by omega⟩ h⟩
    · show bnd (F41 (c, ())) _ = _
      rw [F41_eq c hz, bnd_s]
      show bnd (atL (lay c) i) _ = _
      rw [e]; rfl
    · show bnd (F56 (c, ())) _ = _
      rw [F56_eq c hz, bnd_s]
      show bnd (atL (lay c) i) _ = _
      rw [e]; rfl
theorem pages (n : Int) (h12 : F12 (c, ()) = some (n, ())) (h13 : F13 (c, ()) = some (n, ())) (hs : n = 0 → sizesOk c = true) (i j : Int) : ∃ r : Int, F19 (c, (i, (j, ()))) = some (r, ()) ∧ F20 (c, (i, (j, ()))) = some (r, ()) := by
  obtain ⟨b, _, hb, hy, hn⟩ := inodes n h12 h13 hs i
  unfold F19 F20
  show ∃ r, bnd (F12 (c, ())) _ = _ ∧ bnd (F18 (c, (i, ()))) _ = _
  rw [h12, hb, bnd_s, bnd_s]
  show ∃ r, cnd (neI n 0) (some (-1, ())) _ = _ ∧ cnd (ltI b 0) (some (-1, ())) _ = _
  by_cases h0 : n = 0
  rotate_left
  · have h1 : neI n 0 = true := by rw [neI_eq, decide_eq_false h0]; rfl
    have h2 : b = -1 := hn (fun h => h0 h.1)
    subst h2
    exact ⟨-1, cnd_pos h1 _ _, cnd_pos (b := ltI (-1) 0) (by rfl) _ _⟩
  have h1 : neI n 0 = false := by rw [neI_eq, decide_eq_true h0]; rfl
  have hz := hs h0
  have h4 := (files_ok hz).2.1
  rw [pgs_len] at h4
  rw [cnd_neg h1]
  show ∃ r, bnd (F42 (i, (0, (subI .i64 (lenL c.2.2.2.2.2.2.2.2.2.2.1) 1, ())))) _ = _ ∧ _
  rw [F42_eq, bnd_s]
  show ∃ r, cnd (notB (inR' 0 (subI .i64 (lenL c.2.2.2.2.2.2.2.2.2.2.1) 1) i)) (some (-1, ())) _ = _ ∧ _
  rw [subI_ok (by rw [lenL_eq]; omega) (by rw [lenL_eq]; omega)]
  cases hr : inR' 0 (lenL c.2.2.2.2.2.2.2.2.2.2.1 - 1) i
  · have h2 : b = -1 := hn (fun ⟨_, g1, g2⟩ => by
      unfold inR' at hr
      rw [lenL_eq, decide_eq_true g1, Bool.true_and] at hr
      have := of_decide_eq_false hr
      omega)
    subst h2
    exact ⟨-1, rfl, cnd_pos (b := ltI (-1) 0) (by rfl) _ _⟩
  have hi := inR_le hr
  rw [lenL_eq] at hi
  obtain ⟨e, g1, g2⟩ := hy h0 hi.1 (by omega)
  rw [cnd_neg (b := notB true) rfl, cnd_neg (b := ltI b 0) (by rw [ltI_eq]; exact decide_eq_false (by omega))]
  obtain ⟨f, ef, hf⟩ := atL_in (l := c.2.2.2.2.2.2.2.2.2.2.1) hi.1 (by omega)
  show ∃ r, bnd (atL c.2.2.2.2.2.2.2.2.2.2.1 i) _ = _ ∧ cnd (ltI j 0) _ (bnd (atL c.2.2.2.2.2.2.2.2.2.2.1 i) _) = _
  rw [ef, bnd_s, bnd_s]
  have hp : (1 : Int) ≤ f.1 ∧ (16 : Int) ≥ f.1 := inR_le (List.all_eq_true.1 (files_ok hz).1 f.1 (List.mem_map_of_mem hf))
  show ∃ r, bnd (F42 (j, (0, (subI .i64 f.1 1, ())))) _ = _ ∧ cnd (ltI j 0) (some (-1, ())) (cnd (leI f.1 j) (some (-1, ())) _) = _
  rw [F42_eq, bnd_s, range_chk2, subI_ok (by omega) (by omega)]
  show ∃ r, cnd (notB (inR' 0 (f.1 - 1) j)) (some (-1, ())) _ = _ ∧ _
  cases inR' 0 (f.1 - 1) j
  · exact ⟨-1, rfl, rfl⟩
  rw [cnd_neg (b := notB true) rfl, if_pos rfl]
  refine ⟨addI .i64 (addI .i64 b 1) j, ?_, rfl⟩
  show bnd (F41 (c, ())) _ = _
  rw [F41_eq c hz, bnd_s]
  show bnd (atL (lay c) i) _ = _
  rw [e]; rfl
theorem swaps (n : Int) (h12 : F12 (c, ()) = some (n, ())) (h13 : F13 (c, ()) = some (n, ())) (hs : n = 0 → sizesOk c = true) (j : Int) : ∃ r : Int, F21 (c, (j, ())) = some (r, ()) ∧ F22 (c, (j, ())) = some (r, ()) := by
  unfold F21 F22
  show ∃ r, bnd (F12 (c, ())) _ = _ ∧ bnd (F13 (c, ())) _ = _
  rw [h12, h13, bnd_s, bnd_s]
  show ∃ r, cnd (neI n 0) (some (-1, ())) _ = _ ∧ cnd (neI n 0) (some (-1, ())) _ = _
  by_cases h0 : n = 0
  rotate_left
  · have h1 : neI n 0 = true := by rw [neI_eq, decide_eq_false h0]; rfl
    exact ⟨-1, cnd_pos h1 _ _, cnd_pos h1 _ _⟩
  have h1 : neI n 0 = false := by rw [neI_eq, decide_eq_true h0]; rfl
  have hz := hs h0
  have h3 := inR_le (files_ok hz).2.2
  rw [cnd_neg h1, cnd_neg h1]
  show ∃ r, bnd (F42 (j, (0, (subI .i64 c.2.2.2.2.2.2.1 1, ())))) _ = _ ∧ cnd (ltI j 0) (some (-1, ())) (cnd (leI c.2.2.2.2.2.2.1 j) (some (-1, ())) _) = _
  rw [F42_eq, bnd_s, range_chk2, subI_ok (by omega) (by omega)]
  show ∃ r, cnd (notB (inR' 0 (c.2.2.2.2.2.2.1 - 1) j)) (some (-1, ())) _ = _ ∧ _
  cases inR' 0 (c.2.2.2.2.2.2.1 - 1) j
  · exact ⟨-1, rfl, rfl⟩
  rw [cnd_neg (b := notB true) rfl, if_pos rfl]
  obtain ⟨x, e⟩ := lay_swap hz
  refine ⟨addI .i64 x j, ?_, ?_⟩
  · show bnd (F41 (c, ())) _ = _
    rw [F41_eq c hz, bnd_s]
    show bnd (atL (lay c) (lenL c.2.2.2.2.2.2.2.2.2.2.1)) _ = _
    rw [e]; rfl
  · show bnd (F56 (c, ())) _ = _
    rw [F56_eq c hz, bnd_s]
    show bnd (atL (lay c) (lenL c.2.2.2.2.2.2.2.2.2.2.1)) _ = _
    rw [e]; rfl
end
theorem law5_true (c : D ty27) (i j : Int) (g : Ls.Good ty27 c) (gi : Ls.Good (.int .i64) i) (gj : Ls.Good (.int .i64) j) : F5 (c, (i, (j, ()))) = some (true, ()) := by
  unfold F5
  obtain ⟨b, h1, h2⟩ := F10_eq c
  show bnd (F10 (c, ())) _ = _
  rw [h1, bnd_s]
  cases b
  · rfl
  obtain ⟨q0, q1, q2, q3, q4⟩ := h2 rfl
  obtain ⟨n, h3, h4⟩ := F12_eq c q0 q1 q2 q3
  have hs : n = 0 → sizesOk c = true := fun h => sizes_of c q0 q1 q2 (by rw [← h]; exact h3)
  obtain ⟨r1, a1, a2, _⟩ := inodes n h3 h4 hs i
  obtain ⟨r2, a3, a4⟩ := pages n h3 h4 hs i j
  obtain ⟨r3, a5, a6⟩ := swaps n h3 h4 hs j
  rw [cnd_neg (b := notB (true, ()).1) rfl]
  show bnd (F17 (c, (i, ()))) (fun x1 => bnd (F18 (c, (i, ()))) _) = _
  rw [a1, bnd_s, a2, bnd_s]
  show cnd (eqI r1 r1) (bnd (F19 (c, (i, (j, ())))) (fun x1 => bnd (F20 (c, (i, (j, ())))) _)) _ = _
  rw [eq_self, cnd_t, a3, bnd_s, a4, bnd_s]
  show cnd (eqI r2 r2) (bnd (F21 (c, (j, ()))) (fun x1 => bnd (F22 (c, (j, ()))) _)) _ = _
  rw [eq_self, cnd_t, a5, bnd_s, a6, bnd_s]
  show cnd (eqI r3 r3) _ _ = _
  rw [eq_self]; rfl
end Go.Bo
namespace Go.Proofs.YtfjeeggbdncodaaGreat
open Go Go.Hm Go.Ls Go.Bo Go.ChangeShapes Go.WideShapes Go.ChangeAt Go.RowKit Go.Wk

theorem own : ownKnob Tryz.prog.godebug = none := by kernel_rfl
theorem laidOut : laidOutB Tryz.prog = true := by kernel_rfl
theorem r3 : RdH Tryz.prog 3 (.int .i64) := rdH_int Tryz.underlying3
theorem r22 : RdH Tryz.prog 22 (.list (.int .i64)) := rdH_slice Tryz.underlying22 (of_decide_eq_true (by kernel_rfl)) (by kernel_rfl) (of_decide_eq_true (by kernel_rfl)) r3
theorem r206 : RdH Tryz.prog 206 (.pair (.int .i64) (.pair (.int .i64) (.pair (.int .i64) (.pair (.int .i64) .un)))) := rdH_struct (tot := 4) Tryz.underlying206 (by kernel_rfl) (rdHF_cons (s := 1) r3 rfl (by kernel_rfl) (rdHF_cons (s := 1) r3 rfl (by kernel_rfl) (rdHF_cons (s := 1) r3 rfl (by kernel_rfl) (rdHF_cons (s := 1) r3 rfl (by kernel_rfl) (rdHF_nil rfl)))))
theorem r23 : RdH Tryz.prog 23 (.list (.pair (.int .i64) (.pair (.int .i64) (.pair (.int .i64) (.pair (.int .i64) .un))))) := rdH_slice Tryz.underlying23 (of_decide_eq_true (by kernel_rfl)) (by kernel_rfl) (of_decide_eq_true (by kernel_rfl)) r206
theorem r5 : RdH Tryz.prog 5 (.int .u8) := rdH_int Tryz.underlying5
theorem r67 : RdH Tryz.prog 67 (.list (.int .u8)) := rdH_slice Tryz.underlying67 (of_decide_eq_true (by kernel_rfl)) (by kernel_rfl) (of_decide_eq_true (by kernel_rfl)) r5
theorem r69 : RdH Tryz.prog 69 (.pair (.int .i64) (.pair (.list (.int .u8)) .un)) := rdH_struct (tot := 2) Tryz.underlying69 (by kernel_rfl) (rdHF_cons (s := 1) r3 rfl (by kernel_rfl) (rdHF_cons (s := 1) r67 rfl (by kernel_rfl) (rdHF_nil rfl)))
theorem r24 : RdH Tryz.prog 24 (.list (.pair (.int .i64) (.pair (.list (.int .u8)) .un))) := rdH_slice Tryz.underlying24 (of_decide_eq_true (by kernel_rfl)) (by kernel_rfl) (of_decide_eq_true (by kernel_rfl)) r69
theorem r71 : RdH Tryz.prog 71 (.pair (.int .i64) (.pair (.int .i64) (.pair (.int .i64) (.pair (.int .i64) (.pair (.int .i64) .un))))) := rdH_struct (tot := 5) Tryz.underlying71 (by kernel_rfl) (rdHF_cons (s := 1) r3 rfl (by kernel_rfl) (rdHF_cons (s := 1) r3 rfl (by kernel_rfl) (rdHF_cons (s := 1) r3 rfl (by kernel_rfl) (rdHF_cons (s := 1) r3 rfl (by kernel_rfl) (rdHF_cons (s := 1) r3 rfl (by kernel_rfl) (rdHF_nil rfl))))))
theorem r25 : RdH Tryz.prog 25 (.list (.pair (.int .i64) (.pair (.int .i64) (.pair (.int .i64) (.pair (.int .i64) (.pair (.int .i64) .un)))))) := rdH_slice Tryz.underlying25 (of_decide_eq_true (by kernel_rfl)) (by kernel_rfl) (of_decide_eq_true (by kernel_rfl)) r71
theorem r152 : RdH Tryz.prog 152 (.pair (.int .i64) (.pair (.int .i64) (.pair (.int .i64) (.pair (.int .i64) (.pair (.int .i64) (.pair (.int .i64) (.pair (.int .i64) (.pair (.int .i64) .un)))))))) := rdH_struct (tot := 8) Tryz.underlying152 (by kernel_rfl) (rdHF_cons (s := 1) r3 rfl (by kernel_rfl) (rdHF_cons (s := 1) r3 rfl (by kernel_rfl) (rdHF_cons (s := 1) r3 rfl (by kernel_rfl) (rdHF_cons (s := 1) r3 rfl (by kernel_rfl) (rdHF_cons (s := 1) r3 rfl (by kernel_rfl) (rdHF_cons (s := 1) r3 rfl (by kernel_rfl) (rdHF_cons (s := 1) r3 rfl (by kernel_rfl) (rdHF_cons (s := 1) r3 rfl (by kernel_rfl) (rdHF_nil rfl)))))))))
theorem r72 : RdH Tryz.prog 72 (.list (.pair (.int .i64) (.pair (.int .i64) (.pair (.int .i64) (.pair (.int .i64) (.pair (.int .i64) (.pair (.int .i64) (.pair (.int .i64) (.pair (.int .i64) .un))))))))) := rdH_slice Tryz.underlying72 (of_decide_eq_true (by kernel_rfl)) (by kernel_rfl) (of_decide_eq_true (by kernel_rfl)) r152
theorem r99 : RdH Tryz.prog 99 (.pair (.int .i64) (.pair (.list (.pair (.int .i64) (.pair (.int .i64) (.pair (.int .i64) (.pair (.int .i64) (.pair (.int .i64) (.pair (.int .i64) (.pair (.int .i64) (.pair (.int .i64) .un))))))))) .un)) := rdH_struct (tot := 2) Tryz.underlying99 (by kernel_rfl) (rdHF_cons (s := 1) r3 rfl (by kernel_rfl) (rdHF_cons (s := 1) r72 rfl (by kernel_rfl) (rdHF_nil rfl)))
theorem r26 : RdH Tryz.prog 26 (.list (.pair (.int .i64) (.pair (.list (.pair (.int .i64) (.pair (.int .i64) (.pair (.int .i64) (.pair (.int .i64) (.pair (.int .i64) (.pair (.int .i64) (.pair (.int .i64) (.pair (.int .i64) .un))))))))) .un))) := rdH_slice Tryz.underlying26 (of_decide_eq_true (by kernel_rfl)) (by kernel_rfl) (of_decide_eq_true (by kernel_rfl)) r99
theorem r28 : RdH Tryz.prog 28 (.pair (.list (.int .i64)) (.pair (.list (.pair (.int .i64) (.pair (.int .i64) (.pair (.int .i64) (.pair (.int .i64) .un))))) (.pair (.int .i64) (.pair (.int .i64) (.pair (.int .i64) (.pair (.int .i64) (.pair (.int .i64) (.pair (.int .i64) (.pair (.int .i64) (.pair (.int .i64) (.pair (.list (.pair (.int .i64) (.pair (.list (.int .u8)) .un))) (.pair (.list (.pair (.int .i64) (.pair (.int .i64) (.pair (.int .i64) (.pair (.int .i64) (.pair (.int .i64) .un)))))) (.pair (.list (.pair (.int .i64) (.pair (.list (.pair (.int .i64) (.pair (.int .i64) (.pair (.int .i64) (.pair (.int .i64) (.pair (.int .i64) (.pair (.int .i64) (.pair (.int .i64) (.pair (.int .i64) .un))))))))) .un))) .un))))))))))))) := rdH_struct (tot := 13) Tryz.underlying28 (by kernel_rfl) (rdHF_cons (s := 1) r22 rfl (by kernel_rfl) (rdHF_cons (s := 1) r23 rfl (by kernel_rfl) (rdHF_cons (s := 1) r3 rfl (by kernel_rfl) (rdHF_cons (s := 1) r3 rfl (by kernel_rfl) (rdHF_cons (s := 1) r3 rfl (by kernel_rfl) (rdHF_cons (s := 1) r3 rfl (by kernel_rfl) (rdHF_cons (s := 1) r3 rfl (by kernel_rfl) (rdHF_cons (s := 1) r3 rfl (by kernel_rfl) (rdHF_cons (s := 1) r3 rfl (by kernel_rfl) (rdHF_cons (s := 1) r3 rfl (by kernel_rfl) (rdHF_cons (s := 1) r24 rfl (by kernel_rfl) (rdHF_cons (s := 1) r25 rfl (by kernel_rfl) (rdHF_cons (s := 1) r26 rfl (by kernel_rfl) (rdHF_nil rfl))))))))))))))
set_option maxRecDepth 100000 in
theorem bootBlocks_lifted (os : Os) (started : os.Started) (H : Type) (enc : TypeId × Value → H) :
    ReturnsInHanded {} Tryz.checked os 5 .any (Rows.bootBlocksSpec.pre6 enc Tryz.prog Tryz.f5 Rows.bootBlocksRow.domain false) (Rows.bootBlocksSpec.post enc Tryz.prog Tryz.f5 false true false false) := by
  refine returnsInHanded_of_change_sized (C := Tryz.checked) own started (by kernel_rfl) Tryz.func5
    (ChangeSpec.witness6 (enc := enc) (C := Tryz.checked) false ⟨#[], #[.agg #[.slice none 0 0, .slice none 0 0, .int .i64 0, .int .i64 0, .int .i64 0, .int .i64 0, .int .i64 0, .int .i64 0, .int .i64 0, .int .i64 0, .slice none 0 0, .slice none 0 0, .slice none 0 0], .int .i64 0, .int .i64 0], []⟩ 8 (by kernel_rfl) (by kernel_rfl) (by kernel_rfl) (by kernel_rfl)) ?_
  intro W base args ds gs before hval0 hW hcnd0 hsz0 _
  have hsz : (DataW.weightsEach Tryz.prog (Tryz.f5.params.toList ++ Rows.bootBlocksSpec.plain.varTypes Tryz.prog) (ds ++ gs)).all (· ≤ reachBytes) = true := hsz0
  have hval : ∀ (j : Nat) t v, Tryz.f5.params[j]? = some t → args[j]? = some v → Value.okWide Tryz.prog W .any base t v := hval0
  clear hcnd0 hsz0 hval0
  have hW' := hW
  obtain ⟨p, q, hA0, hV, rfl, hfz, hnd⟩ := hW
  have hA : DataW.TrodAll enc Tryz.prog W 0 (fun _ => true) true Tryz.f5.params.toList args.toList ds p := hA0
  clear hA0
  rw [Tryz.params5] at hA hval hsz
  obtain ⟨v0, v1, v2, d0, d1, d2, p0, p1, p2, rfl, rfl, rfl, h0, h1, h2⟩ := trodAll_three hA
  obtain ⟨rfl, rfl⟩ := trodVars_none hV
  simp only [List.append_nil] at hW' hsz
  have hlt := hW'.lt
  have hwt : ∀ (j : Nat) (t : TypeId) (d : DataW H), ([28, 3, 3] : List TypeId)[j]? = some t → [d0, d1, d2][j]? = some d → ∀ n, n ∈ d.weights Tryz.prog t → n ≤ reachBytes := by
    intro j t d ht hd n hn
    have := List.all_eq_true.1 hsz n (DataW.weights_mem_each (ts := [28, 3, 3] ++ Rows.bootBlocksSpec.plain.varTypes Tryz.prog) (by rw [List.getElem?_append_left (by have := (List.getElem?_eq_some_iff.1 ht).1; exact this)]; exact ht) hd n hn)
    simpa using this
  obtain ⟨xs0, rfl, hxs0⟩ := okWide_struct Tryz.underlying28 (hval 0 28 v0 rfl rfl)
  obtain ⟨x1, rfl⟩ := okWide_int Tryz.underlying3 (hval 1 3 v1 rfl rfl)
  obtain ⟨x2, rfl⟩ := okWide_int Tryz.underlying3 (hval 2 3 v2 rfl rfl)
  have i_0 := inv_empty W
  obtain ⟨hp1, nx1, ρ1, s0, a0, i_1, m0, y0, z0, g0⟩ := r28.arg h0 (hwt 0 28 d0 rfl rfl) (.inl ⟨rfl, _, rfl⟩) .e 0 (fun _ => none) i_0
  obtain ⟨hp2, nx2, ρ2, s1, a1, i_2, m1, y1, z1, g1⟩ := r3.arg h1 (hwt 1 3 d1 rfl rfl) (.inr ⟨rfl, rfl⟩) _ _ _ i_1
  obtain ⟨hp3, nx3, ρ3, s2, a2, i_3, m2, y2, z2, g2⟩ := r3.arg h2 (hwt 2 3 d2 rfl rfl) (.inr ⟨rfl, rfl⟩) _ _ _ i_2
  have hk : ∀ (W' : World), Below W.heap.size W W' → ∀ (t : TypeId) (v : Value) (d : DataW H) (ps : List MemPlace), Tryz.prog.readableRec t = true → t < Tryz.prog.types.size → DataW.Trod enc Tryz.prog W 0 (fun _ => true) true t v d ps → (∀ x ∈ ps, x.block < W.heap.size) → DataW.Trod enc Tryz.prog W' 0 (fun b => decide (b < W.heap.size)) true t v d ps :=
    fun W' hb t v d ps hr hs h hl => Below.trod laidOut hr hs h hb hl
  refine (law_fn cxC_ok n5 e5 (k5 5 _ (Tr.get_set_same _ _ _)) i_3 (args := [s0, s1, s2]) (x := (a0, (a1, (a2, ())))) (by unfold Hm.VRs; exact ⟨_, _, rfl, ((y0.ext (m1.ext i_1)).ext (m2.ext i_2)), by unfold Hm.VRs; exact ⟨_, _, rfl, (y1.ext (m2.ext i_2)), by unfold Hm.VRs; exact ⟨_, _, rfl, y2, by unfold Hm.VRs; rfl⟩⟩⟩) ⟨_, _, rfl, (RdV.mono (fun b hb => Nat.lt_of_lt_of_le hb m2.le) m2.same (RdV.mono (fun b hb => Nat.lt_of_lt_of_le hb m1.le) m1.same z0)), ⟨_, _, rfl, (RdV.mono (fun b hb => Nat.lt_of_lt_of_le hb m2.le) m2.same z1), ⟨_, _, rfl, z2, rfl⟩⟩⟩ (law5_true a0 a1 a2 g0 g1 g2)).mono ?_
  rintro v W' ⟨rfl, kp⟩
  have hb : Below W.heap.size W W' := ⟨kp.os, kp.tape, kp.output, kp.size, fun k hk => kp.block k hk (by simp)⟩
  refine ⟨_, _, _, [], _, [], hW', trodAll_mk1 (shut_bool Tryz.underlying4 true), trodAll_mk3 (hk W' hb _ _ _ _ (by kernel_rfl) (of_decide_eq_true (by kernel_rfl)) h0 (fun x hx => hlt x (by simp [hx]))) (hk W' hb _ _ _ _ (by kernel_rfl) (of_decide_eq_true (by kernel_rfl)) h1 (fun x hx => hlt x (by simp [hx]))) (hk W' hb _ _ _ _ (by kernel_rfl) (of_decide_eq_true (by kernel_rfl)) h2 (fun x hx => hlt x (by simp [hx]))), rfl, hb.frame _, fun h => by cases h⟩
theorem and2 {a b : Bool} (h : a = true) (k : b = true) : (a && b) = true := by rw [h, k]; rfl
theorem j0 : (Rows.bootBlocksRow.wf (OpenSpec.ofChange Rows.bootBlocksSpec)) = true := by kernel_rfl
theorem j1 : (laidOutB Tryz.pinned.checked.prog) = true := by kernel_rfl
theorem j2 : (mapsRowed Tryz.pinned.checked.prog) = true := by kernel_rfl
theorem j3 : (Tryz.f5.params.all (Tryz.pinned.checked.prog.readableRec ·)) = true := by kernel_rfl
theorem j4 : (namedTie Tryz.pinned.checked.prog Rows.bootBlocksRow.named Rows.bootBlocksSpec.vars) = true := by kernel_rfl
theorem j5 : ((Rows.bootBlocksRow.stops == [])) = true := by kernel_rfl
theorem j6 : ((Tryz.pinned.checked.prog.stops == [])) = true := by kernel_rfl
theorem j7 : ((Rows.bootBlocksRow.knobs == [])) = true := by kernel_rfl
theorem j8 : ((Tryz.pinned.checked.prog.stopKnobs == [])) = true := by kernel_rfl
theorem j9 : ((Rows.bootBlocksRow.inPlace == Tryz.pinned.checked.prog.inPlace 5)) = true := by kernel_rfl
theorem j10 : ((Rows.bootBlocksRow.unfollowed == Tryz.pinned.checked.prog.unfollowed 5)) = true := by kernel_rfl
theorem j11 : ((Rows.bootBlocksRow.recurses == Tryz.pinned.checked.prog.recurses 5)) = true := by kernel_rfl
theorem j12 : ((Rows.bootBlocksRow.named == Tryz.pinned.checked.prog.varsNamed 5)) = true := by kernel_rfl
theorem j13 : ((Rows.bootBlocksRow.maps == (Tryz.f5.params.toList ++ Rows.bootBlocksSpec.plain.varTypes Tryz.pinned.checked.prog).any (Tryz.pinned.checked.prog.mapsRec ·))) = true := by kernel_rfl
theorem j14 : ((Rows.bootBlocksRow.ifaces == (Tryz.f5.params.toList ++ Rows.bootBlocksSpec.plain.varTypes Tryz.pinned.checked.prog).any (Tryz.pinned.checked.prog.ifacesRec ·))) = true := by kernel_rfl
theorem j15 : ((Rows.bootBlocksRow.mapsOut == Tryz.pinned.checked.prog.mapsAmong Tryz.f5.resultTypes.toList)) = true := by kernel_rfl
theorem j16 : ((Rows.bootBlocksRow.loops == (Tryz.f5.params.toList ++ Rows.bootBlocksSpec.plain.varTypes Tryz.pinned.checked.prog).any (Tryz.pinned.checked.prog.loopsFrom ·))) = true := by kernel_rfl
theorem j17 : ((Rows.bootBlocksRow.wideKeys == (Tryz.f5.params.toList ++ Rows.bootBlocksSpec.plain.varTypes Tryz.pinned.checked.prog ++ Tryz.f5.resultTypes.toList).any (Tryz.pinned.checked.prog.wideKeysFrom ·))) = true := by kernel_rfl
theorem j18 : (Rows.bootBlocksSpec.vars.all (Tryz.pinned.checked.prog.varReadable ·)) = true := by kernel_rfl
theorem j19 : (Tryz.f5.resultTypes.all (fun t => Tryz.pinned.checked.prog.readableRec t && decide (t < Tryz.pinned.checked.prog.types.size))) = true := by kernel_rfl
theorem j20 : ((Rows.bootBlocksRow.ifacesOut == Tryz.f5.resultTypes.toList.any (Tryz.pinned.checked.prog.ifacesRec ·))) = true := by kernel_rfl
theorem j21 : ((Rows.bootBlocksRow.loopsOut == Tryz.f5.resultTypes.toList.any (Tryz.pinned.checked.prog.loopsFrom ·))) = true := by kernel_rfl
theorem j22 : ((Rows.bootBlocksRow.plainKeys == Tryz.pinned.checked.prog.plainKeys)) = true := by kernel_rfl
theorem j23 : (Rows.bootBlocksRow.shortTexts.isNone) = true := by kernel_rfl
theorem j24 : (Tryz.pinned.checked.prog.stopsHeard) = true := by kernel_rfl
theorem j25 : (Tryz.pinned.checked.prog.mayEnter) = true := by kernel_rfl
theorem j26 : ((Rows.bootBlocksRow.lifted == Tryz.pinned.checked.prog.liftsFinal)) = true := by kernel_rfl
theorem j27 : ((Tryz.pinned.checked.prog.make == some Rows.bootBlocksRow.make)) = true := by kernel_rfl
theorem j29 : ((Rows.bootBlocksRow.pinned == Rows.bootBlocksRow.pinnedBy)) = true := by kernel_rfl
theorem j30 : ((Rows.bootBlocksRow.veiled == (Tryz.f5.params.toList ++ Rows.bootBlocksSpec.plain.varTypes Tryz.pinned.checked.prog ++ Tryz.f5.resultTypes.toList).any (Tryz.pinned.checked.prog.veiledRec ·))) = true := by kernel_rfl
theorem j31 : (Rows.bootBlocksRow.veiledFits Tryz.pinned.checked.prog Tryz.f5.params.toList (Tryz.f5.params.toList ++ Rows.bootBlocksSpec.plain.varTypes Tryz.pinned.checked.prog ++ Tryz.f5.resultTypes.toList)) = true := by kernel_rfl
theorem jn : Tryz.pinned.checked.prog.funcNamed Rows.bootBlocksRow.func = some 5 := by kernel_rfl
theorem ji : Tryz.f5.isInstance Tryz.pinned.checked.prog Rows.bootBlocksRow.origin Rows.bootBlocksRow.targs := of_decide_eq_true (by kernel_rfl)
theorem jw : Tryz.f5.isWrapper Tryz.pinned.checked.prog Rows.bootBlocksRow.wrapper Rows.bootBlocksRow.mainSum := by unfold Func.isWrapper; first | (rw [if_pos (by decide +kernel)]; kernel_rfl) | (rw [if_neg (by decide +kernel)]; exact ⟨rfl, rfl⟩)
theorem bootBlocks_holds : Rows.BootBlocksSaid :=
  OpenClaim.holds_of_wide 5 Tryz.f5 rfl rfl rfl rfl rfl rfl rfl ⟨rfl, rfl, rfl, rfl, rfl⟩ rfl rfl rfl rfl rfl jn Tryz.func5 (and2 (and2 (and2 (and2 (and2 (and2 (and2 (and2 (and2 (and2 (and2 (and2 (and2 (and2 (and2 (and2 (and2 (and2 (and2 (and2 (and2 (and2 (and2 (and2 (and2 (and2 (and2 (and2 (and2 (and2 (and2 j0 j1) j2) j3) j4) j5) j6) j7) j8) j9) j10) j11) j12) j13) j14) j15) j16) j17) j18) j19) j20) j21) j22) j23) j24) j25) j26) j27) (by kernel_rfl)) j29) j30) j31)
    ji jw
    (fun os started H enc _ => bootBlocks_lifted os started H enc)
#print axioms bootBlocks_holds
end Go.Proofs.YtfjeeggbdncodaaGreat
