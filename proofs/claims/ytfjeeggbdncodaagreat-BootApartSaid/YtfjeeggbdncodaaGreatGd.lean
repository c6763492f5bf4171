/-
  Rules, functions and laws for the last text, part d.
-/
import Derived.Test.YtfjeeggbdncodaaGreatGc
import Derived.ProofKit
import Derived.SizedLaws
import Derived.Deep.Slices
import Derived.OpenShut
set_option linter.unusedVariables false
set_option linter.unusedSimpArgs false
set_option linter.constructorNameAsVariable false
namespace Go.Bo
open Go Go.Hm Go.Ls Go.Proofs
abbrev ty148:U:=(.pair (.int .i64) (.pair (.int .i64) .un))
abbrev ty145:U:=(.pair (.int .i64) (.pair (.int .i64) ty148))
abbrev ty70:U:=(.pair (.int .i64) ty145)
abbrev ty25:U:=(.list ty70)
abbrev ty23:U:=(.list ty145)
abbrev ty68:U:=(.pair (.int .i64) (.pair (.list (.int .u8)) .un))
abbrev ty24:U:=(.list ty68)
abbrev ty73:U:=(.pair (.int .i64) ty70)
abbrev ty151:U:=(.pair (.int .i64) (.pair (.int .i64) ty73))
abbrev ty72:U:=(.list ty151)
abbrev ty98:U:=(.pair (.int .i64) (.pair ty72 .un))
abbrev ty26:U:=(.list ty98)
abbrev ty27:U:=(.pair (.list (.int .i64)) (.pair ty23 (.pair (.int .i64) (.pair (.int .i64) (.pair (.int .i64) (.pair (.int .i64) (.pair (.int .i64) (.pair (.int .i64) (.pair (.int .i64) (.pair (.int .i64) (.pair ty24 (.pair ty25 (.pair ty26 .un)))))))))))))
abbrev ty312:U:=(.pair ty151 (.pair ty151 .un))
noncomputable def hiBc:Tr (Tr (List Hi)):=((((Tr.e).set 182 (((Tr.e).set 0 []).set 1 [.keep 0,.keep 1,.keep 7,.val 8 (.int .i64)])).set 106 (Tr.e)).set 179 (Tr.e)).set 107 (Tr.e)
noncomputable def F10 (x:D (.pair ty27 .un)):Option (D (.pair .bool .un)):=(cnd (ltI 20 (lenL x.1.1)) (some (false,())) (cnd (ltI 20 (lenL x.1.2.1)) (some (false,())) (cnd (ltI 20 (lenL x.1.2.2.2.2.2.2.2.2.2.2.1)) (some (false,())) (cnd (ltI 20 (lenL x.1.2.2.2.2.2.2.2.2.2.2.2.1)) (some (false,())) (cnd (ltI 20 (lenL x.1.2.2.2.2.2.2.2.2.2.2.2.2.1)) (some (false,())) (bndS (loopS (fun d0=>(cnd (ltI d0.1 (lenL x.1.2.2.2.2.2.2.2.2.2.2.1)) (bnd (atL x.1.2.2.2.2.2.2.2.2.2.2.1 d0.1) (fun x1=>(cnd (ltI 1000 (lenL x1.2.1)) (inR (inR (some (false,())))) (some (.inl ((addI .i64 d0.1 1),())))))) (inR (some (.inl ()))))) 1000000000 (0,())) (fun x2=>(bndS (loopS (fun d3=>(cnd (ltI d3.1 (lenL x.1.2.2.2.2.2.2.2.2.2.2.2.2.1)) (bnd (atL x.1.2.2.2.2.2.2.2.2.2.2.2.2.1 d3.1) (fun x4=>(cnd (ltI 100 (lenL x4.2.1)) (inR (inR (some (false,())))) (some (.inl ((addI .i64 d3.1 1),())))))) (inR (some (.inl ()))))) 1000000000 (0,())) (fun x5=>(some (true,())))))))))))
theorem x10 (x:D (.pair ty27 .un)):fnS (cyF ct0 hiBc) 1000 (.pair ty27 .un) (.pair .bool .un) (((((Tr.e).set 0 [.keep 1]).set 1 [.keep 1,.keep 36,.keep 37,.val 38 (.int .i64)]).set 4 []).set 5 [.keep 48,.keep 49,.val 50 (.int .i64)]) Tryz.f10 x=F10 x:=by kernel_rfl
theorem n10:cxC.fn.get 10=some Tryz.f10:=by kernel_rfl
theorem e10:cxC.ext.get 10=none:=by kernel_rfl
noncomputable def ct10:Tr Con:=(ct0).set 10 ⟨.pair ty27 .un,.pair .bool .un,F10⟩
theorem k10:CtOk ct10:=ct_set k0 (conB (hi:=hiBc) k0 n10 e10 x10)
noncomputable def F42 (x:D (.pair (.int .i64) ty148)):Option (D (.pair .bool .un)):=(cnd (leI x.2.1 x.1) (some ((leI x.1 x.2.2.1),())) (some (false,())))
theorem x42 (x:D (.pair (.int .i64) ty148)):fnS (cyF ct10 hiBc) 1000 (.pair (.int .i64) ty148) (.pair .bool .un) (Tr.e) Tryz.f42 x=F42 x:=by kernel_rfl
theorem n42:cxC.fn.get 42=some Tryz.f42:=by kernel_rfl
theorem e42:cxC.ext.get 42=none:=by kernel_rfl
noncomputable def ct42:Tr Con:=(ct10).set 42 ⟨(.pair (.int .i64) ty148),.pair .bool .un,F42⟩
theorem k42:CtOk ct42:=ct_set k10 (conB (hi:=hiBc) k10 n42 e42 x42)
noncomputable def F30 (x:D (.pair ty27 .un)):Option (D (.pair (.int .i64) .un)):=(bnd (F42 ((lenL x.1.1),(1,(4,())))) (fun x0=>(cnd (notB x0.1) (some (1,())) (bndS (loopS (fun d1=>(cnd (ltI d1.1 (lenL x.1.1)) (bnd (atL x.1.1 d1.1) (fun x2=>(bnd (F42 (x2,(0,(3,())))) (fun x3=>(cnd (notB x3.1) (inR (inR (some (1,())))) (some (.inl ((addI .i64 d1.1 1),())))))))) (inR (some (.inl ()))))) 1000000000 (0,())) (fun x4=>(some (0,())))))))
theorem x30 (x:D (.pair ty27 .un)):fnS (cyF ct42 hiBc) 1000 (.pair ty27 .un) (.pair (.int .i64) .un) (((Tr.e).set 0 []).set 1 [.keep 11,.keep 12,.val 13 (.int .i64)]) Tryz.f30 x=F30 x:=by kernel_rfl
theorem n30:cxC.fn.get 30=some Tryz.f30:=by kernel_rfl
theorem e30:cxC.ext.get 30=none:=by kernel_rfl
noncomputable def ct30:Tr Con:=(ct42).set 30 ⟨.pair ty27 .un,(.pair (.int .i64) .un),F30⟩
theorem k30:CtOk ct30:=ct_set k42 (conB (hi:=hiBc) k42 n30 e30 x30)
noncomputable def F31 (x:D (.pair ty27 .un)):Option (D (.pair (.int .i64) .un)):=(bnd (F42 ((lenL x.1.2.1),(1,(6,())))) (fun x0=>(cnd (notB x0.1) (some (1,())) (bndS (loopS (fun d1=>(cnd (ltI d1.2.2.1 (lenL x.1.2.1)) (bnd (atL x.1.2.1 d1.2.2.1) (fun x2=>(bnd (F42 (x2.1,(0,(3,())))) (fun x3=>(cnd (notB x3.1) (inR (inR (some (1,())))) (bnd (F42 (x2.2.1,(0,(1,())))) (fun x4=>(cnd (notB x4.1) (inR (inR (some (1,())))) (bnd (F42 (x2.2.2.1,(1,(256,())))) (fun x5=>(cnd (notB x5.1) (inR (inR (some (1,())))) (bnd (F42 (x2.2.2.2.1,(0,(x2.2.2.1,())))) (fun x6=>(cnd (notB x6.1) (inR (inR (some (1,())))) (cnd (eqI x2.2.1 0) (some (.inl ((addI .i64 d1.1 x2.2.2.1),((addI .i64 d1.2.1 1),((addI .i64 d1.2.2.1 1),()))))) (some (.inl ((addI .i64 d1.1 x2.2.2.1),(d1.2.1,((addI .i64 d1.2.2.1 1),())))))))))))))))))))) (inR (some (.inl (d1.1,(d1.2.1,()))))))) 1000000000 (0,(0,(0,())))) (fun x7=>(cnd (eqI x7.2.1 0) (some (1,())) (cnd (ltI 256 x7.1) (some (1,())) (some (0,())))))))))
theorem x31 (x:D (.pair ty27 .un)):fnS (cyF ct30 hiBc) 1000 (.pair ty27 .un) (.pair (.int .i64) .un) (((Tr.e).set 0 [.val 3 (.int .i64),.val 4 (.int .i64)]).set 1 [.val 3 (.int .i64),.val 4 (.int .i64),.keep 13,.keep 14,.val 15 (.int .i64)]) Tryz.f31 x=F31 x:=by kernel_rfl
theorem n31:cxC.fn.get 31=some Tryz.f31:=by kernel_rfl
theorem e31:cxC.ext.get 31=none:=by kernel_rfl
noncomputable def ct31:Tr Con:=(ct30).set 31 ⟨.pair ty27 .un,(.pair (.int .i64) .un),F31⟩
theorem k31:CtOk ct31:=ct_set k30 (conB (hi:=hiBc) k30 n31 e31 x31)
noncomputable def F32 (x:D (.pair ty27 .un)):Option (D (.pair (.int .i64) .un)):=(bnd (F42 (x.1.2.2.2.1,(1,(16,())))) (fun x0=>(cnd x0.1 (bnd (F42 (x.1.2.2.1,(1,(x.1.2.2.2.1,())))) (fun x1=>(cnd x1.1 (bnd (F42 (x.1.2.2.2.2.1,(1,(16,())))) (fun x2=>(cnd x2.1 (bnd (F42 (x.1.2.2.2.2.2.1,(1,(16,())))) (fun x3=>(cnd x3.1 (bnd (F42 (x.1.2.2.2.2.2.2.1,(0,(64,())))) (fun x4=>(cnd x4.1 (bnd (F42 (x.1.2.2.2.2.2.2.2.1,(0,(32,())))) (fun x5=>(cnd x5.1 (bnd (F42 (x.1.2.2.2.2.2.2.2.2.1,(1,(256,())))) (fun x6=>(cnd x6.1 (bnd (F42 (x.1.2.2.2.2.2.2.2.2.2.1,(1,(32,())))) (fun x7=>(cnd x7.1 (cnd (notB (leI (lenL x.1.2.2.2.2.2.2.2.2.2.2.1) 4)) (some (1,())) (bndS (loopS (fun d8=>(cnd (ltI d8.1 (lenL x.1.2.2.2.2.2.2.2.2.2.2.1)) (bnd (atL x.1.2.2.2.2.2.2.2.2.2.2.1 d8.1) (fun x9=>(bnd (F42 (x9.1,(1,(16,())))) (fun x10=>(cnd (notB x10.1) (inR (inR (some (1,())))) (cnd (neI (remI .i64 (lenL x9.2.1) 32) 0) (inR (inR (some (1,())))) (cnd (ltI (mulI .i64 x9.1 32) (lenL x9.2.1)) (inR (inR (some (1,())))) (some (.inl ((addI .i64 d8.1 1),())))))))))) (inR (some (.inl ()))))) 1000000000 (0,())) (fun x11=>(some (0,()))))) (some (1,()))))) (some (1,()))))) (some (1,()))))) (some (1,()))))) (some (1,()))))) (some (1,()))))) (some (1,()))))) (some (1,())))))
theorem x32 (x:D (.pair ty27 .un)):fnS (cyF ct31 hiBc) 1000 (.pair ty27 .un) (.pair (.int .i64) .un) (((Tr.e).set 0 []).set 1 [.keep 55,.keep 56,.val 57 (.int .i64)]) Tryz.f32 x=F32 x:=by kernel_rfl
theorem n32:cxC.fn.get 32=some Tryz.f32:=by kernel_rfl
theorem e32:cxC.ext.get 32=none:=by kernel_rfl
noncomputable def ct32:Tr Con:=(ct31).set 32 ⟨.pair ty27 .un,(.pair (.int .i64) .un),F32⟩
theorem k32:CtOk ct32:=ct_set k31 (conB (hi:=hiBc) k31 n32 e32 x32)
noncomputable def F177 (x:D (.pair ty25 .un)):Option (D (.pair .bool .un)):=(bndS (loopS (fun d0=>(cnd (ltI d0.1 (lenL x.1)) (bnd (atL x.1 d0.1) (fun x1=>(cnd (eqI d0.1 0) (cnd (neI x1.1 (-1)) (inR (inR (some (false,())))) (cnd (ltI 0 d0.1) (cnd (ltI x1.1 0) (inR (inR (some (false,())))) (cnd (leI d0.1 x1.1) (inR (inR (some (false,())))) (some (.inl ((addI .i64 d0.1 1),()))))) (some (.inl ((addI .i64 d0.1 1),()))))) (cnd (ltI 0 d0.1) (cnd (ltI x1.1 0) (inR (inR (some (false,())))) (cnd (leI d0.1 x1.1) (inR (inR (some (false,())))) (some (.inl ((addI .i64 d0.1 1),()))))) (some (.inl ((addI .i64 d0.1 1),()))))))) (inR (some (.inl ()))))) 1000000000 (0,())) (fun x2=>(some (true,()))))
theorem x177 (x:D (.pair ty25 .un)):fnS (cyF ct32 hiBc) 1000 (.pair ty25 .un) (.pair .bool .un) (((Tr.e).set 0 []).set 1 [.keep 5,.keep 6,.val 7 (.int .i64)]) Tryz.f177 x=F177 x:=by kernel_rfl
theorem n177:cxC.fn.get 177=some Tryz.f177:=by kernel_rfl
theorem e177:cxC.ext.get 177=none:=by kernel_rfl
noncomputable def ct177:Tr Con:=(ct32).set 177 ⟨.pair ty25 .un,.pair .bool .un,F177⟩
theorem k177:CtOk ct177:=ct_set k32 (conB (hi:=hiBc) k32 n177 e177 x177)
noncomputable def F226 (x:D (.pair (.int .i64) .un)):Option (D (.pair .bool .un)):=(cnd (leI 0 x.1) (some ((leI x.1 1048576),())) (some (false,())))
theorem x226 (x:D (.pair (.int .i64) .un)):fnS (cyF ct177 hiBc) 1000 (.pair (.int .i64) .un) (.pair .bool .un) (Tr.e) Tryz.f226 x=F226 x:=by kernel_rfl
theorem n226:cxC.fn.get 226=some Tryz.f226:=by kernel_rfl
theorem e226:cxC.ext.get 226=none:=by kernel_rfl
noncomputable def ct226:Tr Con:=(ct177).set 226 ⟨(.pair (.int .i64) .un),.pair .bool .un,F226⟩
theorem k226:CtOk ct226:=ct_set k177 (conB (hi:=hiBc) k177 n226 e226 x226)
noncomputable def F178 (x:D (.pair ty25 .un)):Option (D (.pair .bool .un)):=(bndS (loopS (fun d0=>(cnd (ltI d0.1 (lenL x.1)) (bnd (atL x.1 d0.1) (fun x1=>(bnd (F226 (x1.2.1,())) (fun x2=>(cnd (notB x2.1) (inR (inR (some (false,())))) (bnd (F226 (x1.2.2.1,())) (fun x3=>(cnd (notB x3.1) (inR (inR (some (false,())))) (bnd (F226 (x1.2.2.2.1,())) (fun x4=>(cnd (notB x4.1) (inR (inR (some (false,())))) (bnd (F226 (x1.2.2.2.2.1,())) (fun x5=>(cnd (notB x5.1) (inR (inR (some (false,())))) (some (.inl ((addI .i64 d0.1 1),()))))))))))))))))) (inR (some (.inl ()))))) 1000000000 (0,())) (fun x6=>(bnd (atL x.1 0) (fun x7=>(cnd (eqI x7.2.2.1 0) (bnd (atL x.1 0) (fun x8=>(some ((eqI x8.2.2.2.1 0),())))) (some (false,())))))))
theorem x178 (x:D (.pair ty25 .un)):fnS (cyF ct226 hiBc) 1000 (.pair ty25 .un) (.pair .bool .un) (((Tr.e).set 0 [.keep 0]).set 1 [.keep 0,.keep 5,.keep 6,.val 7 (.int .i64)]) Tryz.f178 x=F178 x:=by kernel_rfl
theorem n178:cxC.fn.get 178=some Tryz.f178:=by kernel_rfl
theorem e178:cxC.ext.get 178=none:=by kernel_rfl
noncomputable def ct178:Tr Con:=(ct226).set 178 ⟨.pair ty25 .un,.pair .bool .un,F178⟩
theorem k178:CtOk ct178:=ct_set k226 (conB (hi:=hiBc) k226 n178 e178 x178)
noncomputable def F181 (x:D (.pair ty25 .un)):Option (D (.pair (.list (.int .i64)) .un)):=(chk (okMk (lenL x.1) (lenL x.1) 8) (bndS (loopS (fun d0=>(cnd (ltI d0.2.1 (lenL x.1)) (bnd (atL x.1 d0.2.1) (fun x1=>(chk (inL? d0.1 d0.2.1) (bnd (atL d0.1 d0.2.1) (fun x2=>(chk (inL? d0.1 d0.2.1) (bnd (atL d0.1 d0.2.1) (fun x3=>(cnd (ltI 0 d0.2.1) (chk (inL? (setL d0.1 d0.2.1 (addI .i64 x2 x1.2.1)) x1.1) (bnd (atL (setL d0.1 d0.2.1 (addI .i64 x2 x1.2.1)) x1.1) (fun x4=>(chk (inL? (setL d0.1 d0.2.1 (addI .i64 x2 x1.2.1)) x1.1) (bnd (atL (setL d0.1 d0.2.1 (addI .i64 x2 x1.2.1)) x1.1) (fun x5=>(some (.inl ((setL (setL d0.1 d0.2.1 (addI .i64 x2 x1.2.1)) x1.1 (subI .i64 x4 x1.2.1)),((addI .i64 d0.2.1 1),())))))))))) (some (.inl ((setL d0.1 d0.2.1 (addI .i64 x2 x1.2.1)),((addI .i64 d0.2.1 1),()))))))))))))) (inR (some (.inl (d0.1,())))))) 1000000000 ((rep (lenL x.1) 0),(0,()))) (fun x6=>(some (x6.1,())))))
theorem x181 (x:D (.pair ty25 .un)):fnS (cyF ct178 hiBc) 1000 (.pair ty25 .un) (.pair (.list (.int .i64)) .un) (((Tr.e).set 0 [.own 3 (.int .i64)]).set 1 [.own 3 (.int .i64),.keep 9,.keep 10,.val 11 (.int .i64)]) Tryz.f181 x=F181 x:=by kernel_rfl
theorem n181:cxC.fn.get 181=some Tryz.f181:=by kernel_rfl
theorem e181:cxC.ext.get 181=none:=by kernel_rfl
noncomputable def ct181:Tr Con:=(ct178).set 181 ⟨.pair ty25 .un,(.pair (.list (.int .i64)) .un),F181⟩
theorem k181:CtOk ct181:=ct_set k178 (conB (hi:=hiBc) k178 n181 e181 x181)
noncomputable def F180 (x:D (.pair (.list (.int .i64)) .un)):Option (D (.pair (.int .i64) .un)):=(cnd (ltI (lenL x.1) 1) none (bnd (atL x.1 0) (fun x0=>(bndS (loopS (fun d1=>(cnd (ltI d1.2.1 (lenL x.1)) (bnd (atL x.1 d1.2.1) (fun x2=>(some (.inl ((minI d1.1 x2),((addI .i64 d1.2.1 1),())))))) (inR (some (.inl (d1.1,())))))) 1000000000 (x0,(1,()))) (fun x3=>(some (x3.1,())))))))
theorem x180 (x:D (.pair (.list (.int .i64)) .un)):fnS (cyF ct181 hiBc) 1000 (.pair (.list (.int .i64)) .un) (.pair (.int .i64) .un) (((Tr.e).set 0 [.val 3 (.int .i64)]).set 1 [.keep 0,.val 3 (.int .i64),.val 4 (.int .i64)]) Tryz.f180 x=F180 x:=by kernel_rfl
theorem n180:cxC.fn.get 180=some Tryz.f180:=by kernel_rfl
theorem e180:cxC.ext.get 180=none:=by kernel_rfl
noncomputable def ct180:Tr Con:=(ct181).set 180 ⟨(.pair (.list (.int .i64)) .un),(.pair (.int .i64) .un),F180⟩
theorem k180:CtOk ct180:=ct_set k181 (conB (hi:=hiBc) k181 n180 e180 x180)
noncomputable def F105 (x:D (.pair ty25 .un)):Option (D (.pair (.int .i64) .un)):=(cnd (ltI (lenL x.1) 1) (some (9,())) (cnd (ltI 8 (lenL x.1)) (some (9,())) (bnd (F177 (x.1,())) (fun x0=>(cnd (notB x0.1) (some (1,())) (bnd (F178 (x.1,())) (fun x1=>(cnd (notB x1.1) (some (2,())) (bndS (loopS (fun d2=>(cnd (ltI d2.1 (lenL x.1)) (bnd (atL x.1 d2.1) (fun x3=>(cnd (ltI x3.2.2.2.2.1 x3.2.1) (inR (inR (cnd (leI 0 d2.1) (some (17,())) (bnd (F181 (x.1,())) (fun x4=>(bnd (F180 (x4.1,())) (fun x5=>(cnd (ltI x5.1 0) (some (11,())) (some (0,())))))))))) (some (.inl ((addI .i64 d2.1 1),())))))) (inR (some (.inl ()))))) 1000000000 (0,())) (fun x6=>(bnd (F181 (x.1,())) (fun x7=>(bnd (F180 (x7.1,())) (fun x8=>(cnd (ltI x8.1 0) (some (11,())) (some (0,())))))))))))))))))
theorem x105 (x:D (.pair ty25 .un)):fnS (cyF ct180 hiBc) 1000 (.pair ty25 .un) (.pair (.int .i64) .un) (Tr.e) Tryz.f105 x=F105 x:=by kernel_rfl
theorem n105:cxC.fn.get 105=some Tryz.f105:=by kernel_rfl
theorem e105:cxC.ext.get 105=none:=by kernel_rfl
noncomputable def ct105:Tr Con:=(ct180).set 105 ⟨.pair ty25 .un,(.pair (.int .i64) .un),F105⟩
theorem k105:CtOk ct105:=ct_set k180 (conB (hi:=hiBc) k180 n105 e105 x105)
noncomputable def F108 (x:D (.pair ty25 (.pair (.int .i64) .un))):Option (D ty148):=(bnd (F105 (x.1,())) (fun x0=>(cnd (neI x0.1 0) (some (0,(x0.1,()))) (cnd (ltI x.2.1 0) (some (0,(2,()))) (cnd (ltI 1048576 x.2.1) (some (0,(2,()))) (chk (okMk (lenL x.1) (lenL x.1) 8) (chk (okCut 1 (lenL x.1) (lenL x.1)) (bndS (loopS (fun d1=>(cnd (ltI d1.2.1 (lenL (cutL x.1 1 (lenL x.1)))) (bnd (atL (cutL x.1 1 (lenL x.1)) d1.2.1) (fun x2=>(chk (inL? d1.1 x2.1) (bnd (atL d1.1 x2.1) (fun x3=>(chk (inL? d1.1 x2.1) (bnd (atL d1.1 x2.1) (fun x4=>(some (.inl ((setL d1.1 x2.1 (addI .i64 x3 x2.2.2.1)),((addI .i64 d1.2.1 1),())))))))))))) (inR (some (.inl (d1.1,())))))) 1000000000 ((rep (lenL x.1) 0),(0,()))) (fun x5=>(bndS (loopS (fun d6=>(cnd (ltI d6.1 (lenL x5.1)) (chk (inL? x5.1 d6.1) (bnd (atL x5.1 d6.1) (fun x7=>(cnd (eqI d6.1 0) (cnd (ltI x.2.1 x7) (inR (inR (some (d6.1,(0,()))))) (cnd (ltI 0 d6.1) (bnd (atL x.1 d6.1) (fun x8=>(cnd (ltI x8.2.2.1 x7) (inR (inR (some (d6.1,(0,()))))) (some (.inl ((addI .i64 d6.1 1),())))))) (some (.inl ((addI .i64 d6.1 1),()))))) (cnd (ltI 0 d6.1) (bnd (atL x.1 d6.1) (fun x9=>(cnd (ltI x9.2.2.1 x7) (inR (inR (some (d6.1,(0,()))))) (some (.inl ((addI .i64 d6.1 1),())))))) (some (.inl ((addI .i64 d6.1 1),())))))))) (inR (some (.inl ()))))) 1000000000 (0,())) (fun x10=>(some ((-1),(0,()))))))))))))))
theorem x108 (x:D (.pair ty25 (.pair (.int .i64) .un))):fnS (cyF ct105 hiBc) 1000 (.pair ty25 (.pair (.int .i64) .un)) ty148 (((((Tr.e).set 0 [.keep 0,.keep 1,.own 7 (.int .i64)]).set 1 [.keep 0,.keep 1,.own 7 (.int .i64),.keep 27,.keep 28,.val 29 (.int .i64)]).set 4 []).set 5 [.keep 0,.keep 1,.keep 43,.keep 44,.val 45 (.int .i64)]) Tryz.f108 x=F108 x:=by kernel_rfl
theorem n108:cxC.fn.get 108=some Tryz.f108:=by kernel_rfl
theorem e108:cxC.ext.get 108=none:=by kernel_rfl
noncomputable def ct108:Tr Con:=(ct105).set 108 ⟨(.pair ty25 (.pair (.int .i64) .un)),ty148,F108⟩
theorem k108:CtOk ct108:=ct_set k105 (conB (hi:=hiBc) k105 n108 e108 x108)
noncomputable def F33 (x:D (.pair ty27 .un)):Option (D (.pair (.int .i64) .un)):=(bnd (F105 (x.1.2.2.2.2.2.2.2.2.2.2.2.1,())) (fun x0=>(cnd (neI x0.1 0) (some (x0.1,())) (bndS (loopS (fun d1=>(cnd (ltI d1.1 (lenL x.1.2.2.2.2.2.2.2.2.2.2.2.1)) (bnd (atL x.1.2.2.2.2.2.2.2.2.2.2.2.1 d1.1) (fun x2=>(cnd (neI x2.2.1 0) (inR (inR (cnd (leI 0 d1.1) (some (1,())) (bndS (loopS (fun d3=>(cnd (ltI d3.2.1 (lenL x.1.2.1)) (bnd (atL x.1.2.1 d3.2.1) (fun x4=>(some (.inl ((addI .i64 d3.1 (subI .i64 x4.2.2.1 x4.2.2.2.1)),((addI .i64 d3.2.1 1),())))))) (inR (some (.inl (d3.1,())))))) 1000000000 ((subI .i64 (negI .i64 x.1.2.2.2.2.2.2.2.1) 1),(0,()))) (fun x5=>(cnd (ltI x5.1 0) (some (18,())) (bnd (F108 (x.1.2.2.2.2.2.2.2.2.2.2.2.1,(x5.1,()))) (fun x6=>(cnd (neI x6.2.1 0) (some (18,())) (cnd (neI x6.1 (-1)) (some (18,())) (some (0,())))))))))))) (some (.inl ((addI .i64 d1.1 1),())))))) (inR (some (.inl ()))))) 1000000000 (0,())) (fun x7=>(bndS (loopS (fun d8=>(cnd (ltI d8.2.1 (lenL x.1.2.1)) (bnd (atL x.1.2.1 d8.2.1) (fun x9=>(some (.inl ((addI .i64 d8.1 (subI .i64 x9.2.2.1 x9.2.2.2.1)),((addI .i64 d8.2.1 1),())))))) (inR (some (.inl (d8.1,())))))) 1000000000 ((subI .i64 (negI .i64 x.1.2.2.2.2.2.2.2.1) 1),(0,()))) (fun x10=>(cnd (ltI x10.1 0) (some (18,())) (bnd (F108 (x.1.2.2.2.2.2.2.2.2.2.2.2.1,(x10.1,()))) (fun x11=>(cnd (neI x11.2.1 0) (some (18,())) (cnd (neI x11.1 (-1)) (some (18,())) (some (0,()))))))))))))))
theorem x33 (x:D (.pair ty27 .un)):fnS (cyF ct108 hiBc) 1000 (.pair ty27 .un) (.pair (.int .i64) .un) (((Tr.e).set 0 [.keep 1,.val 4 (.int .i64)]).set 1 [.keep 1,.val 4 (.int .i64),.keep 23,.keep 24,.val 25 (.int .i64)]) Tryz.f33 x=F33 x:=by kernel_rfl
theorem n33:cxC.fn.get 33=some Tryz.f33:=by kernel_rfl
theorem e33:cxC.ext.get 33=none:=by kernel_rfl
noncomputable def ct33:Tr Con:=(ct108).set 33 ⟨.pair ty27 .un,(.pair (.int .i64) .un),F33⟩
theorem k33:CtOk ct33:=ct_set k108 (conB (hi:=hiBc) k108 n33 e33 x33)
noncomputable def F227 (x:D (.pair (.int .i64) .un)):Option (D (.pair ty312 (.pair .bool .un))):=(cnd (eqI x.1 1) (some (((0,((-1),(1,(0,(0,((-1),(0,(0,())))))))),((0,(511,(512,(15,(0,(3,(3,(15,())))))))),())),(true,()))) (cnd (eqI x.1 2) (some (((0,(0,(1,(0,(0,(0,(0,(0,())))))))),((0,(511,(512,(0,(0,(0,(0,(0,())))))))),())),(true,()))) (cnd (eqI x.1 3) (some (((0,(0,(1,(0,(0,(0,(0,(0,())))))))),((0,(511,(512,(0,(0,(0,(3,(0,())))))))),())),(true,()))) (cnd (eqI x.1 4) (some (((0,(0,(1,(0,(0,(0,(0,(0,())))))))),((0,(511,(512,(0,(1,(0,(0,(0,())))))))),())),(true,()))) (cnd (eqI x.1 5) (cnd (eqI x.1 5) (cnd (eqI x.1 6) (some (((0,(0,(0,(0,(0,(0,(0,(0,())))))))),((0,(511,(0,(31,(255,(0,(0,(0,())))))))),())),(true,()))) (some (((0,(0,(0,(0,(0,(0,(0,(0,())))))))),((0,(511,(0,(31,(0,(0,(0,(0,())))))))),())),(true,())))) (cnd (eqI x.1 7) (cnd (eqI x.1 7) (cnd (eqI x.1 8) (some (((0,(0,(0,(0,(0,(0,(0,(0,())))))))),((0,(15,(0,(31,(255,(3,(0,(0,())))))))),())),(true,()))) (some (((0,(0,(0,(0,(0,(0,(0,(0,())))))))),((0,(15,(0,(31,(0,(3,(0,(0,())))))))),())),(true,())))) (cnd (eqI x.1 9) (some (((0,(0,(0,(0,(0,(0,(0,(0,())))))))),((0,(0,(16,(0,(0,(3,(0,(0,())))))))),())),(true,()))) (cnd (eqI x.1 10) (some (((0,(0,(0,(0,(0,(0,(0,(0,())))))))),((0,(0,(0,(0,(0,(3,(0,(0,())))))))),())),(true,()))) (cnd (eqI x.1 11) (some (((0,(0,(0,(0,(0,(0,(0,(0,())))))))),((0,(0,(0,(0,(48,(0,(0,(0,())))))))),())),(true,()))) (cnd (eqI x.1 12) (some (((0,(0,(0,(0,(0,(0,(0,(0,())))))))),((0,(0,(0,(0,(0,(0,(0,(0,())))))))),())),(true,()))) (some (((0,(0,(0,(0,(0,(0,(0,(0,())))))))),((0,(0,(0,(0,(0,(0,(0,(0,())))))))),())),(false,())))))))) (cnd (eqI x.1 8) (cnd (eqI x.1 8) (some (((0,(0,(0,(0,(0,(0,(0,(0,())))))))),((0,(15,(0,(31,(255,(3,(0,(0,())))))))),())),(true,()))) (some (((0,(0,(0,(0,(0,(0,(0,(0,())))))))),((0,(15,(0,(31,(0,(3,(0,(0,())))))))),())),(true,())))) (cnd (eqI x.1 9) (some (((0,(0,(0,(0,(0,(0,(0,(0,())))))))),((0,(0,(16,(0,(0,(3,(0,(0,())))))))),())),(true,()))) (cnd (eqI x.1 10) (some (((0,(0,(0,(0,(0,(0,(0,(0,())))))))),((0,(0,(0,(0,(0,(3,(0,(0,())))))))),())),(true,()))) (cnd (eqI x.1 11) (some (((0,(0,(0,(0,(0,(0,(0,(0,())))))))),((0,(0,(0,(0,(48,(0,(0,(0,())))))))),())),(true,()))) (cnd (eqI x.1 12) (some (((0,(0,(0,(0,(0,(0,(0,(0,())))))))),((0,(0,(0,(0,(0,(0,(0,(0,())))))))),())),(true,()))) (some (((0,(0,(0,(0,(0,(0,(0,(0,())))))))),((0,(0,(0,(0,(0,(0,(0,(0,())))))))),())),(false,())))))))))) (cnd (eqI x.1 6) (cnd (eqI x.1 6) (some (((0,(0,(0,(0,(0,(0,(0,(0,())))))))),((0,(511,(0,(31,(255,(0,(0,(0,())))))))),())),(true,()))) (some (((0,(0,(0,(0,(0,(0,(0,(0,())))))))),((0,(511,(0,(31,(0,(0,(0,(0,())))))))),())),(true,())))) (cnd (eqI x.1 7) (cnd (eqI x.1 7) (cnd (eqI x.1 8) (some (((0,(0,(0,(0,(0,(0,(0,(0,())))))))),((0,(15,(0,(31,(255,(3,(0,(0,())))))))),())),(true,()))) (some (((0,(0,(0,(0,(0,(0,(0,(0,())))))))),((0,(15,(0,(31,(0,(3,(0,(0,())))))))),())),(true,())))) (cnd (eqI x.1 9) (some (((0,(0,(0,(0,(0,(0,(0,(0,())))))))),((0,(0,(16,(0,(0,(3,(0,(0,())))))))),())),(true,()))) (cnd (eqI x.1 10) (some (((0,(0,(0,(0,(0,(0,(0,(0,())))))))),((0,(0,(0,(0,(0,(3,(0,(0,())))))))),())),(true,()))) (cnd (eqI x.1 11) (some (((0,(0,(0,(0,(0,(0,(0,(0,())))))))),((0,(0,(0,(0,(48,(0,(0,(0,())))))))),())),(true,()))) (cnd (eqI x.1 12) (some (((0,(0,(0,(0,(0,(0,(0,(0,())))))))),((0,(0,(0,(0,(0,(0,(0,(0,())))))))),())),(true,()))) (some (((0,(0,(0,(0,(0,(0,(0,(0,())))))))),((0,(0,(0,(0,(0,(0,(0,(0,())))))))),())),(false,())))))))) (cnd (eqI x.1 8) (cnd (eqI x.1 8) (some (((0,(0,(0,(0,(0,(0,(0,(0,())))))))),((0,(15,(0,(31,(255,(3,(0,(0,())))))))),())),(true,()))) (some (((0,(0,(0,(0,(0,(0,(0,(0,())))))))),((0,(15,(0,(31,(0,(3,(0,(0,())))))))),())),(true,())))) (cnd (eqI x.1 9) (some (((0,(0,(0,(0,(0,(0,(0,(0,())))))))),((0,(0,(16,(0,(0,(3,(0,(0,())))))))),())),(true,()))) (cnd (eqI x.1 10) (some (((0,(0,(0,(0,(0,(0,(0,(0,())))))))),((0,(0,(0,(0,(0,(3,(0,(0,())))))))),())),(true,()))) (cnd (eqI x.1 11) (some (((0,(0,(0,(0,(0,(0,(0,(0,())))))))),((0,(0,(0,(0,(48,(0,(0,(0,())))))))),())),(true,()))) (cnd (eqI x.1 12) (some (((0,(0,(0,(0,(0,(0,(0,(0,())))))))),((0,(0,(0,(0,(0,(0,(0,(0,())))))))),())),(true,()))) (some (((0,(0,(0,(0,(0,(0,(0,(0,())))))))),((0,(0,(0,(0,(0,(0,(0,(0,())))))))),())),(false,())))))))))))))))
theorem x227 (x:D (.pair (.int .i64) .un)):fnS (cyF ct33 hiBc) 1000 (.pair (.int .i64) .un) (.pair ty312 (.pair .bool .un)) (Tr.e) Tryz.f227 x=F227 x:=by kernel_rfl
theorem n227:cxC.fn.get 227=some Tryz.f227:=by kernel_rfl
theorem e227:cxC.ext.get 227=none:=by kernel_rfl
noncomputable def ct227:Tr Con:=(ct33).set 227 ⟨(.pair (.int .i64) .un),(.pair ty312 (.pair .bool .un)),F227⟩
theorem k227:CtOk ct227:=ct_set k33 (conB (hi:=hiBc) k33 n227 e227 x227)
noncomputable def F228 (x:D (.pair ty151 .un)):Option (D (.pair (.arr 7 (.int .i64)) .un)):=(some ((x.1.2.1::(x.1.2.2.1::(x.1.2.2.2.1::(x.1.2.2.2.2.1::(x.1.2.2.2.2.2.1::(x.1.2.2.2.2.2.2.1::(x.1.2.2.2.2.2.2.2.1::[]))))))),()))
theorem x228 (x:D (.pair ty151 .un)):fnS (cyF ct227 hiBc) 1000 (.pair ty151 .un) (.pair (.arr 7 (.int .i64)) .un) (Tr.e) Tryz.f228 x=F228 x:=by kernel_rfl
theorem n228:cxC.fn.get 228=some Tryz.f228:=by kernel_rfl
theorem e228:cxC.ext.get 228=none:=by kernel_rfl
noncomputable def ct228:Tr Con:=(ct227).set 228 ⟨.pair ty151 .un,(.pair (.arr 7 (.int .i64)) .un),F228⟩
theorem k228:CtOk ct228:=ct_set k227 (conB (hi:=hiBc) k227 n228 e228 x228)
noncomputable def F229 (x:D (.pair (.int .i64) .un)):Option (D (.pair .bool .un)):=(cnd (eqI x.1 1) (some (true,())) (some ((eqI x.1 3),())))
theorem x229 (x:D (.pair (.int .i64) .un)):fnS (cyF ct228 hiBc) 1000 (.pair (.int .i64) .un) (.pair .bool .un) (Tr.e) Tryz.f229 x=F229 x:=by kernel_rfl
theorem n229:cxC.fn.get 229=some Tryz.f229:=by kernel_rfl
theorem e229:cxC.ext.get 229=none:=by kernel_rfl
noncomputable def ct229:Tr Con:=(ct228).set 229 ⟨(.pair (.int .i64) .un),.pair .bool .un,F229⟩
theorem k229:CtOk ct229:=ct_set k228 (conB (hi:=hiBc) k228 n229 e229 x229)
noncomputable def F183 (x:D (.pair ty151 .un)):Option (D (.pair (.int .i64) .un)):=(bnd (F227 (x.1.1,())) (fun x0=>(cnd (notB x0.2.1) (some (1,())) (bnd (F228 (x.1,())) (fun x1=>(bnd (F228 (x0.1.1,())) (fun x2=>(bnd (F228 (x0.1.2.1,())) (fun x3=>(bndS (cnd (ltI (nth 0 x1.1 0) (nth 0 x2.1 0)) (cnd (eqI (nth 0 x3.1 0) 0) (inR (some (1,()))) (some (.inl (2,())))) (cnd (ltI (nth 0 x3.1 0) (nth 0 x1.1 0)) (cnd (eqI (nth 0 x3.1 0) 0) (inR (some (1,()))) (some (.inl (2,())))) (some (.inl (0,()))))) (fun x4=>(bndS (cnd (ltI (nth 0 x1.1 1) (nth 0 x2.1 1)) (cnd (eqI (nth 0 x3.1 1) 0) (inR (some (1,()))) (some (.inl (2,())))) (cnd (ltI (nth 0 x3.1 1) (nth 0 x1.1 1)) (cnd (eqI (nth 0 x3.1 1) 0) (inR (some (1,()))) (some (.inl (2,())))) (some (.inl (x4.1,()))))) (fun x5=>(bndS (cnd (ltI (nth 0 x1.1 2) (nth 0 x2.1 2)) (cnd (eqI (nth 0 x3.1 2) 0) (inR (some (1,()))) (some (.inl (2,())))) (cnd (ltI (nth 0 x3.1 2) (nth 0 x1.1 2)) (cnd (eqI (nth 0 x3.1 2) 0) (inR (some (1,()))) (some (.inl (2,())))) (some (.inl (x5.1,()))))) (fun x6=>(bndS (cnd (ltI (nth 0 x1.1 3) (nth 0 x2.1 3)) (cnd (eqI (nth 0 x3.1 3) 0) (inR (some (1,()))) (some (.inl (2,())))) (cnd (ltI (nth 0 x3.1 3) (nth 0 x1.1 3)) (cnd (eqI (nth 0 x3.1 3) 0) (inR (some (1,()))) (some (.inl (2,())))) (some (.inl (x6.1,()))))) (fun x7=>(bndS (cnd (ltI (nth 0 x1.1 4) (nth 0 x2.1 4)) (cnd (eqI (nth 0 x3.1 4) 0) (inR (some (1,()))) (some (.inl (2,())))) (cnd (ltI (nth 0 x3.1 4) (nth 0 x1.1 4)) (cnd (eqI (nth 0 x3.1 4) 0) (inR (some (1,()))) (some (.inl (2,())))) (some (.inl (x7.1,()))))) (fun x8=>(bndS (cnd (ltI (nth 0 x1.1 5) (nth 0 x2.1 5)) (cnd (eqI (nth 0 x3.1 5) 0) (inR (some (1,()))) (some (.inl (2,())))) (cnd (ltI (nth 0 x3.1 5) (nth 0 x1.1 5)) (cnd (eqI (nth 0 x3.1 5) 0) (inR (some (1,()))) (some (.inl (2,())))) (some (.inl (x8.1,()))))) (fun x9=>(bndS (cnd (ltI (nth 0 x1.1 6) (nth 0 x2.1 6)) (cnd (eqI (nth 0 x3.1 6) 0) (inR (some (1,()))) (some (.inl (2,())))) (cnd (ltI (nth 0 x3.1 6) (nth 0 x1.1 6)) (cnd (eqI (nth 0 x3.1 6) 0) (inR (some (1,()))) (some (.inl (2,())))) (some (.inl (x9.1,()))))) (fun x10=>(cnd (eqI x0.1.2.1.2.2.2.2.2.2.1 3) (bnd (F229 (x.1.2.2.2.2.2.2.1,())) (fun x11=>(cnd (notB x11.1) (some (2,())) (cnd (eqI x.1.1 1) (cnd (eqI x.1.2.2.2.2.2.1 (-1)) (cnd (neI x.1.2.2.2.1 0) (some (2,())) (some (x10.1,()))) (some (x10.1,()))) (some (x10.1,())))))) (cnd (eqI x.1.1 1) (cnd (eqI x.1.2.2.2.2.2.1 (-1)) (cnd (neI x.1.2.2.2.1 0) (some (2,())) (some (x10.1,()))) (some (x10.1,()))) (some (x10.1,())))))))))))))))))))))))))))
theorem x183 (x:D (.pair ty151 .un)):fnS (cyF ct229 hiBc) 1000 (.pair ty151 .un) (.pair (.int .i64) .un) ((Tr.e).set 2 [.keep 1,.keep 3,.keep 6,.keep 7,.val 8 (.int .i64),.keep 27,.keep 28]) Tryz.f183 x=F183 x:=by kernel_rfl
theorem n183:cxC.fn.get 183=some Tryz.f183:=by kernel_rfl
theorem e183:cxC.ext.get 183=none:=by kernel_rfl
noncomputable def ct183:Tr Con:=(ct229).set 183 ⟨.pair ty151 .un,(.pair (.int .i64) .un),F183⟩
theorem k183:CtOk ct183:=ct_set k229 (conB (hi:=hiBc) k229 n183 e183 x183)
noncomputable def F109 (x:D (.pair ty72 .un)):Option (D (.pair (.int .i64) .un)):=(cnd (ltI 48 (lenL x.1)) (some (9,())) (bndS (loopS (fun d0=>(cnd (ltI d0.1 (lenL x.1)) (bnd (atL x.1 d0.1) (fun x1=>(bnd (F183 (x1,())) (fun x2=>(cnd (neI x2.1 0) (inR (inR (some (x2.1,())))) (some (.inl ((addI .i64 d0.1 1),())))))))) (inR (some (.inl ()))))) 1000000000 (0,())) (fun x3=>(some (0,())))))
theorem x109 (x:D (.pair ty72 .un)):fnS (cyF ct183 hiBc) 1000 (.pair ty72 .un) (.pair (.int .i64) .un) (((Tr.e).set 0 []).set 1 [.keep 9,.keep 10,.val 11 (.int .i64)]) Tryz.f109 x=F109 x:=by kernel_rfl
theorem n109:cxC.fn.get 109=some Tryz.f109:=by kernel_rfl
theorem e109:cxC.ext.get 109=none:=by kernel_rfl
noncomputable def ct109:Tr Con:=(ct183).set 109 ⟨.pair ty72 .un,(.pair (.int .i64) .un),F109⟩
theorem k109:CtOk ct109:=ct_set k183 (conB (hi:=hiBc) k183 n109 e109 x109)
noncomputable def F34 (x:D (.pair ty27 .un)):Option (D (.pair (.int .i64) .un)):=(bnd (F42 ((lenL x.1.2.2.2.2.2.2.2.2.2.2.2.2.1),(1,(8,())))) (fun x0=>(cnd (notB x0.1) (some (1,())) (bndS (loopS (fun d1=>(cnd (ltI d1.1 (lenL x.1.2.2.2.2.2.2.2.2.2.2.2.2.1)) (bnd (atL x.1.2.2.2.2.2.2.2.2.2.2.2.2.1 d1.1) (fun x2=>(bnd (F109 (x2.2.1,())) (fun x3=>(cnd (neI x3.1 0) (inR (inR (some (x3.1,())))) (bnd (F42 (x2.1,(0,((subI .i64 (lenL x.1.2.2.2.2.2.2.2.2.2.2.2.1) 1),())))) (fun x4=>(cnd (notB x4.1) (inR (inR (some (2,())))) (some (.inl ((addI .i64 d1.1 1),()))))))))))) (inR (some (.inl ()))))) 1000000000 (0,())) (fun x5=>(some (0,())))))))
theorem x34 (x:D (.pair ty27 .un)):fnS (cyF ct109 hiBc) 1000 (.pair ty27 .un) (.pair (.int .i64) .un) (((Tr.e).set 0 []).set 1 [.keep 1,.keep 12,.keep 13,.val 14 (.int .i64)]) Tryz.f34 x=F34 x:=by kernel_rfl
theorem n34:cxC.fn.get 34=some Tryz.f34:=by kernel_rfl
theorem e34:cxC.ext.get 34=none:=by kernel_rfl
noncomputable def ct34:Tr Con:=(ct109).set 34 ⟨.pair ty27 .un,(.pair (.int .i64) .un),F34⟩
theorem k34:CtOk ct34:=ct_set k109 (conB (hi:=hiBc) k109 n34 e34 x34)
noncomputable def F12 (x:D (.pair ty27 .un)):Option (D (.pair (.int .i64) .un)):=(bnd (F30 (x.1,())) (fun x0=>(cnd (neI x0.1 0) (some (x0.1,())) (bnd (F31 (x.1,())) (fun x1=>(cnd (neI x1.1 0) (some (x1.1,())) (bnd (F32 (x.1,())) (fun x2=>(cnd (neI x2.1 0) (some (x2.1,())) (bnd (F33 (x.1,())) (fun x3=>(cnd (neI x3.1 0) (some (x3.1,())) (bnd (F34 (x.1,())) (fun x4=>(cnd (neI x4.1 0) (some (x4.1,())) (some (0,())))))))))))))))))
theorem x12 (x:D (.pair ty27 .un)):fnS (cyF ct34 hiBc) 1000 (.pair ty27 .un) (.pair (.int .i64) .un) (Tr.e) Tryz.f12 x=F12 x:=by kernel_rfl
theorem n12:cxC.fn.get 12=some Tryz.f12:=by kernel_rfl
theorem e12:cxC.ext.get 12=none:=by kernel_rfl
noncomputable def ct12:Tr Con:=(ct34).set 12 ⟨.pair ty27 .un,(.pair (.int .i64) .un),F12⟩
theorem k12:CtOk ct12:=ct_set k34 (conB (hi:=hiBc) k34 n12 e12 x12)
noncomputable def F35 (x:D (.pair ty27 .un)):Option (D (.pair .bool .un)):=(cnd (ltI (lenL x.1.1) 1) (some (false,())) (cnd (ltI 4 (lenL x.1.1)) (some (false,())) (cnd (ltI (lenL x.1.2.1) 1) (some (false,())) (cnd (ltI 6 (lenL x.1.2.1)) (some (false,())) (bndS (loopS (fun d0=>(cnd (ltI d0.1 (lenL x.1.1)) (bnd (atL x.1.1 d0.1) (fun x1=>(cnd (ltI x1 0) (inR (inR (some (false,())))) (cnd (leI 4 x1) (inR (inR (some (false,())))) (some (.inl ((addI .i64 d0.1 1),()))))))) (inR (some (.inl ()))))) 1000000000 (0,())) (fun x2=>(bndS (loopS (fun d3=>(cnd (ltI d3.2.2.1 (lenL x.1.2.1)) (bnd (atL x.1.2.1 d3.2.2.1) (fun x4=>(cnd (ltI x4.1 0) (inR (inR (some (false,())))) (cnd (leI 4 x4.1) (inR (inR (some (false,())))) (cnd (neI x4.2.1 0) (cnd (neI x4.2.1 1) (inR (inR (some (false,())))) (cnd (ltI x4.2.2.1 1) (inR (inR (some (false,())))) (cnd (ltI 256 x4.2.2.1) (inR (inR (some (false,())))) (cnd (ltI x4.2.2.2.1 0) (inR (inR (some (false,())))) (cnd (ltI x4.2.2.1 x4.2.2.2.1) (inR (inR (some (false,())))) (cnd d3.2.1 (some (.inl ((addI .i64 d3.1 x4.2.2.1),(true,((addI .i64 d3.2.2.1 1),()))))) (some (.inl ((addI .i64 d3.1 x4.2.2.1),((eqI x4.2.1 0),((addI .i64 d3.2.2.1 1),()))))))))))) (cnd (ltI x4.2.2.1 1) (inR (inR (some (false,())))) (cnd (ltI 256 x4.2.2.1) (inR (inR (some (false,())))) (cnd (ltI x4.2.2.2.1 0) (inR (inR (some (false,())))) (cnd (ltI x4.2.2.1 x4.2.2.2.1) (inR (inR (some (false,())))) (cnd d3.2.1 (some (.inl ((addI .i64 d3.1 x4.2.2.1),(true,((addI .i64 d3.2.2.1 1),()))))) (some (.inl ((addI .i64 d3.1 x4.2.2.1),((eqI x4.2.1 0),((addI .i64 d3.2.2.1 1),()))))))))))))))) (inR (some (.inl (d3.1,(d3.2.1,()))))))) 1000000000 (0,(false,(0,())))) (fun x5=>(cnd x5.2.1 (some ((leI x5.1 256),())) (some (false,())))))))))))
theorem x35 (x:D (.pair ty27 .un)):fnS (cyF ct12 hiBc) 1000 (.pair ty27 .un) (.pair .bool .un) (((((Tr.e).set 0 [.keep 1]).set 1 [.keep 1,.keep 32,.keep 33,.val 34 (.int .i64)]).set 4 [.val 5 (.int .i64),.val 6 .bool]).set 5 [.val 5 (.int .i64),.val 6 .bool,.keep 46,.keep 47,.val 48 (.int .i64)]) Tryz.f35 x=F35 x:=by kernel_rfl
theorem n35:cxC.fn.get 35=some Tryz.f35:=by kernel_rfl
theorem e35:cxC.ext.get 35=none:=by kernel_rfl
noncomputable def ct35:Tr Con:=(ct12).set 35 ⟨.pair ty27 .un,.pair .bool .un,F35⟩
theorem k35:CtOk ct35:=ct_set k12 (conB (hi:=hiBc) k12 n35 e35 x35)
noncomputable def F36 (x:D (.pair ty27 .un)):Option (D (.pair .bool .un)):=(cnd (ltI x.1.2.2.2.1 1) (some (false,())) (cnd (ltI 16 x.1.2.2.2.1) (some (false,())) (cnd (ltI x.1.2.2.1 1) (some (false,())) (cnd (ltI x.1.2.2.2.1 x.1.2.2.1) (some (false,())) (cnd (ltI x.1.2.2.2.2.1 1) (some (false,())) (cnd (ltI 16 x.1.2.2.2.2.1) (some (false,())) (cnd (ltI x.1.2.2.2.2.2.1 1) (some (false,())) (cnd (ltI 16 x.1.2.2.2.2.2.1) (some (false,())) (cnd (ltI x.1.2.2.2.2.2.2.1 0) (some (false,())) (cnd (ltI 64 x.1.2.2.2.2.2.2.1) (some (false,())) (cnd (ltI x.1.2.2.2.2.2.2.2.1 0) (some (false,())) (cnd (ltI 32 x.1.2.2.2.2.2.2.2.1) (some (false,())) (cnd (ltI x.1.2.2.2.2.2.2.2.2.1 1) (some (false,())) (cnd (ltI 256 x.1.2.2.2.2.2.2.2.2.1) (some (false,())) (cnd (ltI x.1.2.2.2.2.2.2.2.2.2.1 1) (some (false,())) (cnd (ltI 32 x.1.2.2.2.2.2.2.2.2.2.1) (some (false,())) (cnd (ltI 4 (lenL x.1.2.2.2.2.2.2.2.2.2.2.1)) (some (false,())) (bndS (loopS (fun d0=>(cnd (ltI d0.1 (lenL x.1.2.2.2.2.2.2.2.2.2.2.1)) (bnd (atL x.1.2.2.2.2.2.2.2.2.2.2.1 d0.1) (fun x1=>(cnd (ltI x1.1 1) (inR (inR (some (false,())))) (cnd (ltI 16 x1.1) (inR (inR (some (false,())))) (cnd (neI (remI .i64 (lenL x1.2.1) 32) 0) (inR (inR (some (false,())))) (cnd (ltI (mulI .i64 x1.1 32) (lenL x1.2.1)) (inR (inR (some (false,())))) (some (.inl ((addI .i64 d0.1 1),()))))))))) (inR (some (.inl ()))))) 1000000000 (0,())) (fun x2=>(some (true,())))))))))))))))))))))
theorem x36 (x:D (.pair ty27 .un)):fnS (cyF ct35 hiBc) 1000 (.pair ty27 .un) (.pair .bool .un) (((Tr.e).set 0 []).set 1 [.keep 88,.keep 89,.val 90 (.int .i64)]) Tryz.f36 x=F36 x:=by kernel_rfl
theorem n36:cxC.fn.get 36=some Tryz.f36:=by kernel_rfl
theorem e36:cxC.ext.get 36=none:=by kernel_rfl
noncomputable def ct36:Tr Con:=(ct35).set 36 ⟨.pair ty27 .un,.pair .bool .un,F36⟩
theorem k36:CtOk ct36:=ct_set k35 (conB (hi:=hiBc) k35 n36 e36 x36)
noncomputable def F110 (x:D (.pair (.int .i64) .un)):Option (D (.pair .bool .un)):=(cnd (leI 0 x.1) (some ((leI x.1 1048576),())) (some (false,())))
theorem x110 (x:D (.pair (.int .i64) .un)):fnS (cyF ct36 hiBc) 1000 (.pair (.int .i64) .un) (.pair .bool .un) (Tr.e) Tryz.f110 x=F110 x:=by kernel_rfl
theorem n110:cxC.fn.get 110=some Tryz.f110:=by kernel_rfl
theorem e110:cxC.ext.get 110=none:=by kernel_rfl
noncomputable def ct110:Tr Con:=(ct36).set 110 ⟨(.pair (.int .i64) .un),.pair .bool .un,F110⟩
theorem k110:CtOk ct110:=ct_set k36 (conB (hi:=hiBc) k36 n110 e110 x110)
noncomputable def F111 (x:D (.pair ty25 (.pair (.int .i64) .un))):Option (D (.pair (.int .i64) .un)):=(bndS (loopS (fun d0=>(cnd (ltI d0.2.1 (lenL x.1)) (bnd (atL x.1 d0.2.1) (fun x1=>(cnd (eqI x1.1 x.2.1) (bnd (atL x.1 d0.2.1) (fun x2=>(some (.inl ((addI .i64 d0.1 x2.2.1),((addI .i64 d0.2.1 1),())))))) (some (.inl (d0.1,((addI .i64 d0.2.1 1),()))))))) (inR (some (.inl (d0.1,())))))) 1000000000 (0,(1,()))) (fun x3=>(some (x3.1,()))))
theorem x111 (x:D (.pair ty25 (.pair (.int .i64) .un))):fnS (cyF ct110 hiBc) 1000 (.pair ty25 (.pair (.int .i64) .un)) (.pair (.int .i64) .un) (((Tr.e).set 0 [.val 5 (.int .i64)]).set 1 [.keep 0,.keep 1,.val 5 (.int .i64),.val 6 (.int .i64)]) Tryz.f111 x=F111 x:=by kernel_rfl
theorem n111:cxC.fn.get 111=some Tryz.f111:=by kernel_rfl
theorem e111:cxC.ext.get 111=none:=by kernel_rfl
noncomputable def ct111:Tr Con:=(ct110).set 111 ⟨(.pair ty25 (.pair (.int .i64) .un)),(.pair (.int .i64) .un),F111⟩
theorem k111:CtOk ct111:=ct_set k110 (conB (hi:=hiBc) k110 n111 e111 x111)
noncomputable def F37 (x:D (.pair ty25 .un)):Option (D (.pair (.int .i64) .un)):=(cnd (ltI (lenL x.1) 1) (some (9,())) (cnd (ltI 8 (lenL x.1)) (some (9,())) (bndS (loopS (fun d0=>(cnd (ltI d0.1 (lenL x.1)) (cnd (eqI d0.1 0) (bnd (atL x.1 d0.1) (fun x1=>(cnd (neI x1.1 (-1)) (inR (inR (some (1,())))) (cnd (ltI 0 d0.1) (bnd (atL x.1 d0.1) (fun x2=>(cnd (ltI x2.1 0) (inR (inR (some (1,())))) (bnd (atL x.1 d0.1) (fun x3=>(cnd (leI d0.1 x3.1) (inR (inR (some (1,())))) (some (.inl ((addI .i64 d0.1 1),()))))))))) (some (.inl ((addI .i64 d0.1 1),()))))))) (cnd (ltI 0 d0.1) (bnd (atL x.1 d0.1) (fun x4=>(cnd (ltI x4.1 0) (inR (inR (some (1,())))) (bnd (atL x.1 d0.1) (fun x5=>(cnd (leI d0.1 x5.1) (inR (inR (some (1,())))) (some (.inl ((addI .i64 d0.1 1),()))))))))) (some (.inl ((addI .i64 d0.1 1),()))))) (inR (some (.inl ()))))) 1000000000 (0,())) (fun x6=>(bndS (loopS (fun d7=>(cnd (ltI d7.1 (lenL x.1)) (bnd (atL x.1 d7.1) (fun x8=>(bnd (F110 (x8.2.1,())) (fun x9=>(cnd (notB x9.1) (inR (inR (some (2,())))) (bnd (atL x.1 d7.1) (fun x10=>(bnd (F110 (x10.2.2.1,())) (fun x11=>(cnd (notB x11.1) (inR (inR (some (2,())))) (bnd (atL x.1 d7.1) (fun x12=>(bnd (F110 (x12.2.2.2.1,())) (fun x13=>(cnd (notB x13.1) (inR (inR (some (2,())))) (bnd (atL x.1 d7.1) (fun x14=>(bnd (F110 (x14.2.2.2.2.1,())) (fun x15=>(cnd (notB x15.1) (inR (inR (some (2,())))) (some (.inl ((addI .i64 d7.1 1),()))))))))))))))))))))))) (inR (some (.inl ()))))) 1000000000 (0,())) (fun x16=>(bnd (atL x.1 0) (fun x17=>(cnd (neI x17.2.2.1 0) (some (2,())) (bnd (atL x.1 0) (fun x18=>(cnd (neI x18.2.2.2.1 0) (some (2,())) (bndS (loopS (fun d19=>(cnd (ltI d19.1 (lenL x.1)) (bnd (atL x.1 d19.1) (fun x20=>(bnd (atL x.1 d19.1) (fun x21=>(cnd (ltI x21.2.2.2.2.1 x20.2.1) (inR (inR (some (17,())))) (some (.inl ((addI .i64 d19.1 1),())))))))) (inR (some (.inl ()))))) 1000000000 (0,())) (fun x22=>(bndS (loopS (fun d23=>(cnd (ltI d23.1 (lenL x.1)) (bnd (atL x.1 d23.1) (fun x24=>(bnd (F111 (x.1,(d23.1,()))) (fun x25=>(cnd (ltI x24.2.1 x25.1) (inR (inR (some (11,())))) (some (.inl ((addI .i64 d23.1 1),())))))))) (inR (some (.inl ()))))) 1000000000 (0,())) (fun x26=>(some (0,()))))))))))))))))))
theorem x37 (x:D (.pair ty25 .un)):fnS (cyF ct111 hiBc) 1000 (.pair ty25 .un) (.pair (.int .i64) .un) (((((((((Tr.e).set 0 [.keep 0]).set 1 [.keep 0,.val 3 (.int .i64)]).set 4 [.keep 0]).set 5 [.keep 0,.val 4 (.int .i64)]).set 8 [.keep 0]).set 9 [.keep 0,.val 5 (.int .i64)]).set 12 []).set 13 [.keep 0,.val 6 (.int .i64)]) Tryz.f37 x=F37 x:=by kernel_rfl
theorem n37:cxC.fn.get 37=some Tryz.f37:=by kernel_rfl
theorem e37:cxC.ext.get 37=none:=by kernel_rfl
noncomputable def ct37:Tr Con:=(ct111).set 37 ⟨.pair ty25 .un,(.pair (.int .i64) .un),F37⟩
theorem k37:CtOk ct37:=ct_set k111 (conB (hi:=hiBc) k111 n37 e37 x37)
noncomputable def F38 (x:D (.pair ty27 .un)):Option (D ty148):=(bndS (loopS (fun d0=>(cnd (ltI d0.2.2.1 (lenL x.1.2.1)) (bnd (atL x.1.2.1 d0.2.2.1) (fun x1=>(some (.inl ((addI .i64 d0.1 x1.2.2.1),((addI .i64 d0.2.1 (subI .i64 x1.2.2.1 x1.2.2.2.1)),((addI .i64 d0.2.2.1 1),()))))))) (inR (some (.inl (d0.1,(d0.2.1,()))))))) 1000000000 (0,(0,(0,())))) (fun x2=>(some (x2.1,(x2.2.1,())))))
theorem x38 (x:D (.pair ty27 .un)):fnS (cyF ct37 hiBc) 1000 (.pair ty27 .un) ty148 (((Tr.e).set 0 [.val 4 (.int .i64),.val 5 (.int .i64)]).set 1 [.val 4 (.int .i64),.val 5 (.int .i64),.keep 9,.keep 10,.val 11 (.int .i64)]) Tryz.f38 x=F38 x:=by kernel_rfl
theorem n38:cxC.fn.get 38=some Tryz.f38:=by kernel_rfl
theorem e38:cxC.ext.get 38=none:=by kernel_rfl
noncomputable def ct38:Tr Con:=(ct37).set 38 ⟨.pair ty27 .un,ty148,F38⟩
theorem k38:CtOk ct38:=ct_set k37 (conB (hi:=hiBc) k37 n38 e38 x38)
noncomputable def F39 (x:D (.pair ty25 (.pair (.int .i64) .un))):Option (D ty148):=(bnd (F37 (x.1,())) (fun x0=>(cnd (neI x0.1 0) (some (0,(x0.1,()))) (cnd (ltI x.2.1 0) (some (0,(2,()))) (cnd (ltI 1048576 x.2.1) (some (0,(2,()))) (bndS (loopS (fun d1=>(cnd (ltI d1.1 (lenL x.1)) (bndS (bndS (loopS (fun d2=>(cnd (ltI d2.2.1 (lenL x.1)) (bnd (atL x.1 d2.2.1) (fun x3=>(cnd (eqI x3.1 d1.1) (bnd (atL x.1 d2.2.1) (fun x4=>(some (.inl ((addI .i64 d2.1 x4.2.2.1),((addI .i64 d2.2.1 1),())))))) (some (.inl (d2.1,((addI .i64 d2.2.1 1),()))))))) (inR (some (.inl (d2.1,())))))) 1000000000 (0,((addI .i64 d1.1 1),()))) (fun x5=>(cnd (eqI d1.1 0) (cnd (ltI x.2.1 x5.1) (inR (inR (inR (some (d1.1,(0,())))))) (cnd (ltI 0 d1.1) (bnd (atL x.1 d1.1) (fun x6=>(cnd (ltI x6.2.2.1 x5.1) (inR (inR (inR (some (d1.1,(0,())))))) (some (.inl ()))))) (some (.inl ())))) (cnd (ltI 0 d1.1) (bnd (atL x.1 d1.1) (fun x7=>(cnd (ltI x7.2.2.1 x5.1) (inR (inR (inR (some (d1.1,(0,())))))) (some (.inl ()))))) (some (.inl ())))))) (fun x8=>(some (.inl ((addI .i64 d1.1 1),()))))) (inR (some (.inl ()))))) 1000000000 (0,())) (fun x9=>(some ((-1),(0,()))))))))))
theorem x39 (x:D (.pair ty25 (.pair (.int .i64) .un))):fnS (cyF ct38 hiBc) 1000 (.pair ty25 (.pair (.int .i64) .un)) ty148 ((((((Tr.e).set 0 []).set 1 [.keep 0,.keep 1,.val 7 (.int .i64)]).set 2 [.keep 0,.keep 1,.keep 7]).set 4 [.keep 0,.keep 1,.keep 7,.val 8 (.int .i64)]).set 5 [.keep 0,.keep 1,.keep 7,.val 8 (.int .i64),.val 9 (.int .i64)]) Tryz.f39 x=F39 x:=by kernel_rfl
theorem n39:cxC.fn.get 39=some Tryz.f39:=by kernel_rfl
theorem e39:cxC.ext.get 39=none:=by kernel_rfl
noncomputable def ct39:Tr Con:=(ct38).set 39 ⟨(.pair ty25 (.pair (.int .i64) .un)),ty148,F39⟩
theorem k39:CtOk ct39:=ct_set k38 (conB (hi:=hiBc) k38 n39 e39 x39)
noncomputable def F112 (x:D (.pair (.int .i64) ty148)):Option (D (.pair .bool .un)):=(cnd (leI x.2.1 x.1) (some ((leI x.1 x.2.2.1),())) (some (false,())))
theorem x112 (x:D (.pair (.int .i64) ty148)):fnS (cyF ct39 hiBc) 1000 (.pair (.int .i64) ty148) (.pair .bool .un) (Tr.e) Tryz.f112 x=F112 x:=by kernel_rfl
theorem n112:cxC.fn.get 112=some Tryz.f112:=by kernel_rfl
theorem e112:cxC.ext.get 112=none:=by kernel_rfl
noncomputable def ct112:Tr Con:=(ct39).set 112 ⟨(.pair (.int .i64) ty148),.pair .bool .un,F112⟩
theorem k112:CtOk ct112:=ct_set k39 (conB (hi:=hiBc) k39 n112 e112 x112)
noncomputable def F113 (x:D (.pair ty151 .un)):Option (D (.pair ty151 .un)):=(cnd (eqI x.1.1 1) (some ((x.1.1,(x.1.2.1,(x.1.2.2.1,(x.1.2.2.2.1,(0,(x.1.2.2.2.2.2.1,(x.1.2.2.2.2.2.2.1,(x.1.2.2.2.2.2.2.2.1,())))))))),())) (cnd (eqI x.1.1 2) (some ((x.1.1,(x.1.2.1,(x.1.2.2.1,(0,(0,(0,(0,(0,())))))))),())) (cnd (eqI x.1.1 3) (some ((x.1.1,(x.1.2.1,(x.1.2.2.1,(0,(0,(0,(x.1.2.2.2.2.2.2.1,(0,())))))))),())) (cnd (eqI x.1.1 4) (some ((x.1.1,(x.1.2.1,(x.1.2.2.1,(0,(x.1.2.2.2.2.1,(0,(0,(0,())))))))),())) (cnd (eqI x.1.1 5) (some ((x.1.1,(x.1.2.1,(0,(x.1.2.2.2.1,(0,(0,(0,(0,())))))))),())) (cnd (eqI x.1.1 6) (some ((x.1.1,(x.1.2.1,(0,(x.1.2.2.2.1,(x.1.2.2.2.2.1,(0,(0,(0,())))))))),())) (cnd (eqI x.1.1 7) (some ((x.1.1,(x.1.2.1,(0,(x.1.2.2.2.1,(0,(x.1.2.2.2.2.2.1,(0,(0,())))))))),())) (cnd (eqI x.1.1 8) (some ((x.1.1,(x.1.2.1,(0,(x.1.2.2.2.1,(x.1.2.2.2.2.1,(x.1.2.2.2.2.2.1,(0,(0,())))))))),())) (cnd (eqI x.1.1 9) (some ((x.1.1,(0,(x.1.2.2.1,(0,(0,(x.1.2.2.2.2.2.1,(0,(0,())))))))),())) (cnd (eqI x.1.1 10) (some ((x.1.1,(0,(0,(0,(0,(x.1.2.2.2.2.2.1,(0,(0,())))))))),())) (cnd (eqI x.1.1 11) (some ((x.1.1,(0,(0,(0,(x.1.2.2.2.2.1,(0,(0,(0,())))))))),())) (some ((x.1.1,(0,(0,(0,(0,(0,(0,(0,())))))))),())))))))))))))
theorem x113 (x:D (.pair ty151 .un)):fnS (cyF ct112 hiBc) 1000 (.pair ty151 .un) (.pair ty151 .un) (Tr.e) Tryz.f113 x=F113 x:=by kernel_rfl
theorem n113:cxC.fn.get 113=some Tryz.f113:=by kernel_rfl
theorem e113:cxC.ext.get 113=none:=by kernel_rfl
noncomputable def ct113:Tr Con:=(ct112).set 113 ⟨.pair ty151 .un,.pair ty151 .un,F113⟩
theorem k113:CtOk ct113:=ct_set k112 (conB (hi:=hiBc) k112 n113 e113 x113)
noncomputable def F184 (x:D (.pair ty151 .un)):Option (D (.pair .bool .un)):=(bnd (F112 (x.1.2.1,(0,(511,())))) (fun x0=>(bnd (F112 (x.1.2.2.1,(1,(512,())))) (fun x1=>(cnd (eqI x.1.2.2.2.2.2.2.1 1) (cnd (eqI x.1.1 1) (bnd (F112 (x.1.2.2.2.2.2.1,((-1),(3,())))) (fun x2=>(cnd x2.1 (bnd (F112 (x.1.2.2.2.1,(0,(15,())))) (fun x3=>(cnd x3.1 (cnd (leI 0 x.1.2.2.2.2.2.1) (bnd (F112 (x.1.2.1,((-1),(511,())))) (fun x4=>(cnd x4.1 (cnd x1.1 (bnd (F112 (x.1.2.2.2.2.2.2.2.1,(0,(15,())))) (fun x5=>(cnd x5.1 (some (true,())) (some (false,()))))) (some (false,()))) (some (false,()))))) (bnd (F112 (x.1.2.1,((-1),(511,())))) (fun x6=>(cnd x6.1 (cnd x1.1 (bnd (F112 (x.1.2.2.2.2.2.2.2.1,(0,(15,())))) (fun x7=>(cnd x7.1 (some ((eqI x.1.2.2.2.1 0),())) (some (false,()))))) (some (false,()))) (some (false,())))))) (bnd (F112 (x.1.2.1,((-1),(511,())))) (fun x8=>(cnd x8.1 (cnd x1.1 (bnd (F112 (x.1.2.2.2.2.2.2.2.1,(0,(15,())))) (fun x9=>(cnd x9.1 (some (false,())) (some (false,()))))) (some (false,()))) (some (false,())))))))) (bnd (F112 (x.1.2.1,((-1),(511,())))) (fun x10=>(cnd x10.1 (cnd x1.1 (bnd (F112 (x.1.2.2.2.2.2.2.2.1,(0,(15,())))) (fun x11=>(cnd x11.1 (some (false,())) (some (false,()))))) (some (false,()))) (some (false,())))))))) (cnd (eqI x.1.1 2) (cnd x0.1 (some (x1.1,())) (some (false,()))) (cnd (eqI x.1.1 3) (cnd x0.1 (cnd x1.1 (some (true,())) (some (false,()))) (some (false,()))) (cnd (eqI x.1.1 4) (cnd x0.1 (cnd x1.1 (bnd (F112 (x.1.2.2.2.2.1,(0,(1,())))) (fun x12=>(some (x12.1,())))) (some (false,()))) (some (false,()))) (cnd (eqI x.1.1 5) (cnd x0.1 (bnd (F112 (x.1.2.2.2.1,(0,(31,())))) (fun x13=>(some (x13.1,())))) (some (false,()))) (cnd x0.1 (bnd (F112 (x.1.2.2.2.1,(0,(31,())))) (fun x14=>(cnd x14.1 (bnd (F112 (x.1.2.2.2.2.1,(0,(255,())))) (fun x15=>(some (x15.1,())))) (some (false,()))))) (some (false,())))))))) (cnd (eqI x.1.1 1) (bnd (F112 (x.1.2.2.2.2.2.1,((-1),(3,())))) (fun x16=>(cnd x16.1 (bnd (F112 (x.1.2.2.2.1,(0,(15,())))) (fun x17=>(cnd x17.1 (cnd (leI 0 x.1.2.2.2.2.2.1) (bnd (F112 (x.1.2.1,((-1),(511,())))) (fun x18=>(cnd x18.1 (cnd x1.1 (cnd (eqI x.1.2.2.2.2.2.2.1 3) (bnd (F112 (x.1.2.2.2.2.2.2.2.1,(0,(15,())))) (fun x19=>(cnd x19.1 (some (true,())) (some (false,()))))) (some (false,()))) (some (false,()))) (some (false,()))))) (bnd (F112 (x.1.2.1,((-1),(511,())))) (fun x20=>(cnd x20.1 (cnd x1.1 (cnd (eqI x.1.2.2.2.2.2.2.1 3) (bnd (F112 (x.1.2.2.2.2.2.2.2.1,(0,(15,())))) (fun x21=>(cnd x21.1 (some ((eqI x.1.2.2.2.1 0),())) (some (false,()))))) (some (false,()))) (some (false,()))) (some (false,())))))) (bnd (F112 (x.1.2.1,((-1),(511,())))) (fun x22=>(cnd x22.1 (cnd x1.1 (cnd (eqI x.1.2.2.2.2.2.2.1 3) (bnd (F112 (x.1.2.2.2.2.2.2.2.1,(0,(15,())))) (fun x23=>(cnd x23.1 (some (false,())) (some (false,()))))) (some (false,()))) (some (false,()))) (some (false,())))))))) (bnd (F112 (x.1.2.1,((-1),(511,())))) (fun x24=>(cnd x24.1 (cnd x1.1 (cnd (eqI x.1.2.2.2.2.2.2.1 3) (bnd (F112 (x.1.2.2.2.2.2.2.2.1,(0,(15,())))) (fun x25=>(cnd x25.1 (some (false,())) (some (false,()))))) (some (false,()))) (some (false,()))) (some (false,())))))))) (cnd (eqI x.1.1 2) (cnd x0.1 (some (x1.1,())) (some (false,()))) (cnd (eqI x.1.1 3) (cnd x0.1 (cnd x1.1 (some ((eqI x.1.2.2.2.2.2.2.1 3),())) (some (false,()))) (some (false,()))) (cnd (eqI x.1.1 4) (cnd x0.1 (cnd x1.1 (bnd (F112 (x.1.2.2.2.2.1,(0,(1,())))) (fun x26=>(some (x26.1,())))) (some (false,()))) (some (false,()))) (cnd (eqI x.1.1 5) (cnd x0.1 (bnd (F112 (x.1.2.2.2.1,(0,(31,())))) (fun x27=>(some (x27.1,())))) (some (false,()))) (cnd x0.1 (bnd (F112 (x.1.2.2.2.1,(0,(31,())))) (fun x28=>(cnd x28.1 (bnd (F112 (x.1.2.2.2.2.1,(0,(255,())))) (fun x29=>(some (x29.1,())))) (some (false,()))))) (some (false,())))))))))))))
theorem x184 (x:D (.pair ty151 .un)):fnS (cyF ct113 hiBc) 1000 (.pair ty151 .un) (.pair .bool .un) (Tr.e) Tryz.f184 x=F184 x:=by kernel_rfl
theorem n184:cxC.fn.get 184=some Tryz.f184:=by kernel_rfl
theorem e184:cxC.ext.get 184=none:=by kernel_rfl
noncomputable def ct184:Tr Con:=(ct113).set 184 ⟨.pair ty151 .un,.pair .bool .un,F184⟩
theorem k184:CtOk ct184:=ct_set k113 (conB (hi:=hiBc) k113 n184 e184 x184)
noncomputable def F114 (x:D (.pair ty151 .un)):Option (D (.pair .bool .un)):=(bnd (F112 (x.1.2.2.2.2.2.1,(0,(3,())))) (fun x0=>(cnd x0.1 (bnd (F112 (x.1.2.1,(0,(15,())))) (fun x1=>(cnd x1.1 (bnd (F112 (x.1.2.2.2.1,(0,(31,())))) (fun x2=>(cnd (eqI x.1.1 7) (some (x2.1,())) (cnd (eqI x.1.1 8) (cnd x2.1 (bnd (F112 (x.1.2.2.2.2.1,(0,(255,())))) (fun x3=>(some (x3.1,())))) (some (false,()))) (cnd (eqI x.1.1 9) (cnd x0.1 (bnd (F112 (x.1.2.2.1,(0,(16,())))) (fun x4=>(some (x4.1,())))) (some (false,()))) (cnd (eqI x.1.1 10) (some (x0.1,())) (cnd (eqI x.1.1 11) (bnd (F112 (x.1.2.2.2.2.1,(0,(48,())))) (fun x5=>(some (x5.1,())))) (cnd (eqI x.1.1 12) (some (true,())) (bnd (F184 (x.1,())) (fun x6=>(some (x6.1,())))))))))))) (cnd (eqI x.1.1 7) (some (false,())) (cnd (eqI x.1.1 8) (some (false,())) (cnd (eqI x.1.1 9) (cnd x0.1 (bnd (F112 (x.1.2.2.1,(0,(16,())))) (fun x7=>(some (x7.1,())))) (some (false,()))) (cnd (eqI x.1.1 10) (some (x0.1,())) (cnd (eqI x.1.1 11) (bnd (F112 (x.1.2.2.2.2.1,(0,(48,())))) (fun x8=>(some (x8.1,())))) (cnd (eqI x.1.1 12) (some (true,())) (bnd (F184 (x.1,())) (fun x9=>(some (x9.1,()))))))))))))) (cnd (eqI x.1.1 7) (some (false,())) (cnd (eqI x.1.1 8) (some (false,())) (cnd (eqI x.1.1 9) (cnd x0.1 (bnd (F112 (x.1.2.2.1,(0,(16,())))) (fun x10=>(some (x10.1,())))) (some (false,()))) (cnd (eqI x.1.1 10) (some (x0.1,())) (cnd (eqI x.1.1 11) (bnd (F112 (x.1.2.2.2.2.1,(0,(48,())))) (fun x11=>(some (x11.1,())))) (cnd (eqI x.1.1 12) (some (true,())) (bnd (F184 (x.1,())) (fun x12=>(some (x12.1,())))))))))))))
theorem x114 (x:D (.pair ty151 .un)):fnS (cyF ct184 hiBc) 1000 (.pair ty151 .un) (.pair .bool .un) (Tr.e) Tryz.f114 x=F114 x:=by kernel_rfl
theorem n114:cxC.fn.get 114=some Tryz.f114:=by kernel_rfl
theorem e114:cxC.ext.get 114=none:=by kernel_rfl
noncomputable def ct114:Tr Con:=(ct184).set 114 ⟨.pair ty151 .un,.pair .bool .un,F114⟩
theorem k114:CtOk ct114:=ct_set k184 (conB (hi:=hiBc) k184 n114 e114 x114)
noncomputable def F40 (x:D (.pair ty72 .un)):Option (D (.pair (.int .i64) .un)):=(cnd (ltI 48 (lenL x.1)) (some (9,())) (bndS (loopS (fun d0=>(cnd (ltI d0.1 (lenL x.1)) (bnd (atL x.1 d0.1) (fun x1=>(bnd (F112 (x1.1,(1,(12,())))) (fun x2=>(cnd (notB x2.1) (inR (inR (some (1,())))) (bnd (atL x.1 d0.1) (fun x3=>(bnd (atL x.1 d0.1) (fun x4=>(bnd (F113 (x3,())) (fun x5=>(cnd (notB (andB (eqI x5.1.1 x4.1) (andB (eqI x5.1.2.1 x4.2.1) (andB (eqI x5.1.2.2.1 x4.2.2.1) (andB (eqI x5.1.2.2.2.1 x4.2.2.2.1) (andB (eqI x5.1.2.2.2.2.1 x4.2.2.2.2.1) (andB (eqI x5.1.2.2.2.2.2.1 x4.2.2.2.2.2.1) (andB (eqI x5.1.2.2.2.2.2.2.1 x4.2.2.2.2.2.2.1) (andB (eqI x5.1.2.2.2.2.2.2.2.1 x4.2.2.2.2.2.2.2.1) true))))))))) (inR (inR (some (1,())))) (bnd (atL x.1 d0.1) (fun x6=>(bnd (F114 (x6,())) (fun x7=>(cnd (notB x7.1) (inR (inR (some (2,())))) (some (.inl ((addI .i64 d0.1 1),())))))))))))))))))))) (inR (some (.inl ()))))) 1000000000 (0,())) (fun x8=>(some (0,())))))
theorem x40 (x:D (.pair ty72 .un)):fnS (cyF ct114 hiBc) 1000 (.pair ty72 .un) (.pair (.int .i64) .un) (((Tr.e).set 0 []).set 1 [.keep 0,.val 3 (.int .i64)]) Tryz.f40 x=F40 x:=by kernel_rfl
theorem n40:cxC.fn.get 40=some Tryz.f40:=by kernel_rfl
theorem e40:cxC.ext.get 40=none:=by kernel_rfl
noncomputable def ct40:Tr Con:=(ct114).set 40 ⟨.pair ty72 .un,(.pair (.int .i64) .un),F40⟩
theorem k40:CtOk ct40:=ct_set k114 (conB (hi:=hiBc) k114 n40 e40 x40)
noncomputable def F13 (x:D (.pair ty27 .un)):Option (D (.pair (.int .i64) .un)):=(bnd (F35 (x.1,())) (fun x0=>(cnd (notB x0.1) (some (1,())) (bnd (F36 (x.1,())) (fun x1=>(cnd (notB x1.1) (some (1,())) (bnd (F37 (x.1.2.2.2.2.2.2.2.2.2.2.2.1,())) (fun x2=>(cnd (neI x2.1 0) (some (x2.1,())) (bndS (loopS (fun d3=>(cnd (ltI d3.1 (lenL x.1.2.2.2.2.2.2.2.2.2.2.2.1)) (bnd (atL x.1.2.2.2.2.2.2.2.2.2.2.2.1 d3.1) (fun x4=>(cnd (neI x4.2.1 0) (inR (inR (some (1,())))) (some (.inl ((addI .i64 d3.1 1),())))))) (inR (some (.inl ()))))) 1000000000 (0,())) (fun x5=>(bnd (F38 (x.1,())) (fun x6=>(cnd (ltI (subI .i64 (subI .i64 x6.2.1 x.1.2.2.2.2.2.2.2.1) 1) 0) (some (18,())) (bnd (F39 (x.1.2.2.2.2.2.2.2.2.2.2.2.1,((subI .i64 (subI .i64 x6.2.1 x.1.2.2.2.2.2.2.2.1) 1),()))) (fun x7=>(cnd (neI x7.2.1 0) (some (18,())) (cnd (neI x7.1 (-1)) (some (18,())) (cnd (ltI (lenL x.1.2.2.2.2.2.2.2.2.2.2.2.2.1) 1) (some (1,())) (cnd (ltI 8 (lenL x.1.2.2.2.2.2.2.2.2.2.2.2.2.1)) (some (1,())) (bndS (loopS (fun d8=>(cnd (ltI d8.1 (lenL x.1.2.2.2.2.2.2.2.2.2.2.2.2.1)) (bnd (atL x.1.2.2.2.2.2.2.2.2.2.2.2.2.1 d8.1) (fun x9=>(bnd (F40 (x9.2.1,())) (fun x10=>(cnd (neI x10.1 0) (inR (inR (some (x10.1,())))) (cnd (ltI x9.1 0) (inR (inR (some (2,())))) (cnd (leI (lenL x.1.2.2.2.2.2.2.2.2.2.2.2.1) x9.1) (inR (inR (some (2,())))) (some (.inl ((addI .i64 d8.1 1),())))))))))) (inR (some (.inl ()))))) 1000000000 (0,())) (fun x11=>(some (0,()))))))))))))))))))))))))
theorem x13 (x:D (.pair ty27 .un)):fnS (cyF ct40 hiBc) 1000 (.pair ty27 .un) (.pair (.int .i64) .un) (((((Tr.e).set 0 [.keep 1]).set 1 [.keep 1,.keep 29,.keep 30,.val 31 (.int .i64)]).set 4 []).set 5 [.keep 1,.keep 75,.keep 76,.val 77 (.int .i64)]) Tryz.f13 x=F13 x:=by kernel_rfl
theorem n13:cxC.fn.get 13=some Tryz.f13:=by kernel_rfl
theorem e13:cxC.ext.get 13=none:=by kernel_rfl
noncomputable def ct13:Tr Con:=(ct40).set 13 ⟨.pair ty27 .un,(.pair (.int .i64) .un),F13⟩
theorem k13:CtOk ct13:=ct_set k40 (conB (hi:=hiBc) k40 n13 e13 x13)
noncomputable def F3 (x:D (.pair ty27 .un)):Option (D (.pair .bool .un)):=(bnd (F10 (x.1,())) (fun x0=>(cnd (notB x0.1) (some (true,())) (bnd (F12 (x.1,())) (fun x1=>(bnd (F13 (x.1,())) (fun x2=>(cnd (eqI x1.1 x2.1) (some (true,())) (some (false,()))))))))))
theorem x3 (x:D (.pair ty27 .un)):fnS (cyF ct13 hiBc) 1000 (.pair ty27 .un) (.pair .bool .un) (Tr.e) Tryz.f3 x=F3 x:=by kernel_rfl
theorem n3:cxC.fn.get 3=some Tryz.f3:=by kernel_rfl
theorem e3:cxC.ext.get 3=none:=by kernel_rfl
noncomputable def ct3:Tr Con:=(ct13).set 3 ⟨.pair ty27 .un,.pair .bool .un,F3⟩
theorem k3:CtOk ct3:=ct_set k13 (conB (hi:=hiBc) k13 n3 e3 x3)
end Go.Bo
namespace Go.Bo
open Go Go.Hm Go.Ls Go.Proofs
abbrev ty96:U:=(.pair (.int .i64) (.pair (.int .i64) (.pair (.int .i64) (.pair (.int .i64) (.pair (.int .i64) (.pair (.arr 5 (.list (.int .i64))) .un))))))
abbrev ty34:U:=(.list ty96)
abbrev ty230:U:=(.pair (.list (.list (.int .i64))) .un)
abbrev ty35:U:=(.list ty230)
abbrev ty36:U:=(.pair (.list (.int .i64)) (.pair (.int .i64) (.pair (.int .i64) (.pair ty34 (.pair ty35 .un)))))
abbrev ty169:U:=(.pair (.int .i64) (.pair (.list .bool) .un))
abbrev ty39:U:=(.list ty169)
abbrev ty40:U:=(.pair (.int .i64) (.pair ty39 .un))
abbrev ty44:U:=(.list ty148)
abbrev ty177:U:=(.arr 2 ty68)
abbrev ty178:U:=(.pair (.int .i64) (.pair ty177 .un))
abbrev ty45:U:=(.list ty178)
abbrev ty46:U:=(.pair (.int .i64) (.pair ty45 .un))
abbrev ty182:U:=(.pair (.int .i64) (.pair .bool .un))
abbrev ty187:U:=(.pair (.arr 8 (.int .i64)) (.pair (.arr 2 (.int .i64)) (.pair .nil .un)))
abbrev ty189:U:=(.pair (.int .i64) (.pair ty187 .un))
abbrev ty191:U:=(.pair (.int .i64) (.pair (.int .i64) (.pair (.int .i64) (.pair (.int .i64) (.pair (.int .i64) (.pair .bool (.pair ty182 (.pair ty189 (.pair (.list .bool) .un)))))))))
abbrev ty48:U:=(.list ty191)
abbrev ty250:U:=(.pair (.int .i64) (.pair (.int .i64) ty68))
abbrev ty51:U:=(.list ty250)
abbrev ty52:U:=(.pair (.int .i64) (.pair (.int .i64) (.pair (.list (.list (.int .u8))) (.pair ty24 (.pair ty51 .un)))))
abbrev ty153:U:=(.pair (.int .i64) (.pair ty151 ty148))
abbrev ty55:U:=(.list ty153)
abbrev ty202:U:=(.pair (.int .i64) (.pair (.int .i64) (.pair (.int .i64) (.pair (.int .i64) (.pair (.int .i64) (.pair .bool (.pair .bool .un)))))))
abbrev ty198:U:=(.list ty202)
abbrev ty199:U:=(.pair (.int .i64) (.pair (.int .i64) (.pair .bool (.pair (.int .i64) (.pair ty198 .un)))))
abbrev ty56:U:=(.list ty199)
abbrev ty157:U:=(.pair (.int .i64) (.pair (.int .i64) (.pair (.int .u64) .un)))
abbrev ty112:U:=(.list ty157)
abbrev ty113:U:=(.pair (.int .i64) (.pair ty112 .un))
abbrev ty32:U:=(.list ty113)
abbrev ty163:U:=(.pair (.int .i64) ty182)
abbrev ty161:U:=(.list ty163)
abbrev ty33:U:=(.list ty161)
abbrev ty85:U:=(.pair (.int .i64) (.pair (.int .i64) (.pair (.int .i64) (.pair (.int .i64) (.pair (.int .i64) (.pair (.int .i64) (.pair (.int .i64) (.pair (.int .i64) (.pair (.int .i64) (.pair (.int .i64) (.pair .bool (.pair .bool (.pair .bool (.pair (.int .i64) (.pair ty44 (.pair (.list (.int .u8)) .un))))))))))))))))
abbrev ty38:U:=(.list ty85)
abbrev ty76:U:=(.pair (.int .i64) (.pair (.int .i64) (.pair (.int .i64) (.pair (.int .i64) (.pair ty73 (.pair .nil .un))))))
abbrev ty93:U:=(.pair (.int .i64) (.pair (.arr 8 (.int .u64)) .un))
abbrev ty78:U:=(.list ty93)
abbrev ty80:U:=(.pair (.int .i64) (.pair ty78 (.pair ty44 .un)))
abbrev ty82:U:=(.pair (.int .i64) (.pair (.int .i64) (.pair (.int .i64) (.pair (.int .i64) (.pair (.int .i64) (.pair ty72 (.pair ty76 (.pair ty80 (.pair (.list (.int .i64)) (.pair (.list (.int .i64)) (.pair (.list (.int .i64)) (.pair (.list (.int .i64)) ty70))))))))))))
abbrev ty54:U:=(.list ty82)
abbrev ty57:U:=(.pair ty27 (.pair (.int .i64) (.pair (.int .i64) (.pair (.list (.int .i64)) (.pair ty32 (.pair ty33 (.pair ty36 (.pair ty38 (.pair ty40 (.pair ty25 (.pair ty23 (.pair (.list (.list (.int .i64))) (.pair ty44 (.pair ty46 (.pair ty48 (.pair ty52 (.pair (.list (.int .i64)) (.pair ty54 (.pair ty55 (.pair ty56 .un))))))))))))))))))))
noncomputable def ct294:Tr Con:=(ct3).set 294 ⟨.un,.un,fun _=>none⟩
theorem k294:CtOk ct294:=ct_set k3 (fun h Z args x y _ _ _ _ hy=>by cases hy)
noncomputable def hiBn:Tr (Tr (List Hi)):=(((((((((((((((((((((((((((((((((Tr.e).set 182 (((Tr.e).set 0 []).set 1 [.keep 0,.keep 1,.keep 7,.val 8 (.int .i64)])).set 106 (Tr.e)).set 179 (Tr.e)).set 107 (Tr.e)).set 116 (((Tr.e).set 0 [.own 5 (.int .i64)]).set 1 [.keep 1,.own 5 (.int .i64),.keep 8,.keep 9,.val 10 (.int .i64)])).set 117 (Tr.e)).set 119 (((Tr.e).set 0 [.own 5 ty68]).set 1 [.keep 1,.own 5 ty68,.keep 8,.keep 9,.val 10 (.int .i64)])).set 120 (Tr.e)).set 122 (((Tr.e).set 0 [.own 5 ty98]).set 1 [.keep 1,.own 5 ty98,.keep 8,.keep 9,.val 10 (.int .i64)])).set 123 (Tr.e)).set 230 (((Tr.e).set 0 []).set 1 [.keep 0,.keep 1,.keep 7,.val 8 (.int .i64)])).set 186 (Tr.e)).set 187 (Tr.e)).set 237 (((Tr.e).set 0 []).set 1 [.keep 0,.keep 1,.keep 7,.val 8 (.int .i64)])).set 238 (Tr.e)).set 189 (Tr.e)).set 236 ((((((Tr.e).set 0 [.mp 3]).set 1 [.mp 3,.keep 10,.keep 11,.val 12 (.int .i64)]).set 2 [.mp 3,.keep 10,.keep 11,.keep 12]).set 4 [.mp 3,.keep 10,.keep 11,.keep 12]).set 5 [.mp 3,.keep 10,.keep 11,.keep 12,.keep 16,.keep 17,.val 18 (.int .i64)])).set 293 ((((((Tr.e).set 0 [.rw 0 (.int .i64)]).set 1 [.rw 0 (.int .i64),.keep 1,.keep 2,.keep 3,.val 8 (.int .i64)]).set 2 [.rw 0 (.int .i64),.keep 1,.keep 2,.keep 3,.keep 8]).set 4 [.rw 0 (.int .i64),.keep 1,.keep 2,.keep 3,.keep 8]).set 5 [.rw 0 (.int .i64),.keep 1,.keep 2,.keep 3,.keep 8,.val 9 (.int .i64)])).set 275 ((((((((Tr.e).set 0 [.rw 0 (.int .i64),.keep 1,.keep 2,.keep 6,.val 7 (.int .i64)]).set 1 [.rw 0 (.int .i64),.keep 1,.keep 2,.keep 6,.val 7 (.int .i64),.val 8 (.int .i64)]).set 4 [.rw 0 (.int .i64)]).set 5 [.rw 0 (.int .i64),.keep 1,.keep 2,.val 6 (.int .i64)]).set 6 [.rw 0 (.int .i64),.keep 1,.keep 2,.val 6 (.int .i64)]).set 8 [.rw 0 (.int .i64),.keep 1,.keep 2,.keep 6,.val 7 (.int .i64)]).set 9 [.rw 0 (.int .i64),.keep 1,.keep 2,.keep 6,.val 7 (.int .i64),.val 8 (.int .i64)])).set 244 (Tr.e)).set 242 (Tr.e)).set 245 (Tr.e)).set 279 (Tr.e)).set 204 ((((((((((Tr.e).set 0 [.box 1 [.v (.list (.int .i64)),.v (.int .i64),.v (.int .i64),.o ty96,.o ty230],.keep 2]).set 1 [.box 1 [.v (.list (.int .i64)),.v (.int .i64),.v (.int .i64),.o ty96,.o ty230],.keep 2,.keep 22,.val 23 (.int .i64)]).set 2 [.box 1 [.v (.list (.int .i64)),.v (.int .i64),.v (.int .i64),.o ty96,.o ty230],.keep 2,.keep 22,.keep 23]).set 6 [.box 1 [.v (.list (.int .i64)),.v (.int .i64),.v (.int .i64),.o ty96,.o ty230],.keep 2,.keep 3,.keep 22,.keep 23,.keep 26]).set 8 [.box 1 [.v (.list (.int .i64)),.v (.int .i64),.v (.int .i64),.o ty96,.o ty230],.keep 2]).set 9 [.box 1 [.v (.list (.int .i64)),.v (.int .i64),.v (.int .i64),.o ty96,.o ty230],.keep 2,.keep 49,.val 50 (.int .i64)]).set 10 [.box 1 [.v (.list (.int .i64)),.v (.int .i64),.v (.int .i64),.o ty96,.o ty230],.keep 2,.keep 49,.keep 50]).set 12 [.keep 1,.keep 2,.keep 5,.own 6 (.list (.int .i64)),.keep 49,.keep 50]).set 13 [.keep 1,.keep 2,.keep 5,.own 6 (.list (.int .i64)),.keep 49,.keep 50,.keep 61,.val 62 (.int .i64)])).set 205 (((Tr.e).set 0 [.box 0 [.v (.list (.int .i64)),.v (.int .i64),.v (.int .i64),.o ty96,.o ty230],.keep 1,.keep 2,.own 7 (.int .i64)]).set 1 [.box 0 [.v (.list (.int .i64)),.v (.int .i64),.v (.int .i64),.o ty96,.o ty230],.keep 1,.keep 2,.own 7 (.int .i64),.keep 16,.val 17 (.int .i64)])).set 206 (Tr.e)).set 254 (((Tr.e).set 0 [.box 0 [.v (.list (.int .i64)),.v (.int .i64),.v (.int .i64),.o ty96,.o ty230]]).set 1 [.box 0 [.v (.list (.int .i64)),.v (.int .i64),.v (.int .i64),.o ty96,.o ty230],.keep 1,.keep 10,.keep 11,.val 12 (.int .i64)])).set 137 (((Tr.e).set 0 [.own 5 (.int .i64)]).set 1 [.keep 1,.own 5 (.int .i64),.keep 8,.keep 9,.val 10 (.int .i64)])).set 138 (Tr.e)).set 55 (Tr.e)).set 234 (Tr.e)).set 277 (Tr.e)).set 252 (((((Tr.e).set 0 [.keep 1,.keep 2,.keep 3,.box 6 [.v ty230],.mp 9]).set 1 [.keep 1,.keep 2,.keep 3,.box 6 [.v ty230],.mp 9,.keep 23,.keep 24,.val 25 (.int .i64)]).set 4 [.keep 1,.keep 3,.keep 6,.own 12 (.int .i64)]).set 5 [.keep 1,.keep 2,.keep 3,.keep 6,.own 12 (.int .i64),.keep 55,.val 56 (.int .i64)])
noncomputable def F185 (x:D (.pair (.int .i64) .un)):Option (D (.pair .bool .un)):=(cnd (leI 0 x.1) (some ((leI x.1 16),())) (some (false,())))
theorem x185 (x:D (.pair (.int .i64) .un)):fnS (cyF ct294 hiBn) 1000 (.pair (.int .i64) .un) (.pair .bool .un) (Tr.e) Tryz.f185 x=F185 x:=by kernel_rfl
theorem n185:cxC.fn.get 185=some Tryz.f185:=by kernel_rfl
theorem e185:cxC.ext.get 185=none:=by kernel_rfl
noncomputable def ct185:Tr Con:=(ct294).set 185 ⟨(.pair (.int .i64) .un),.pair .bool .un,F185⟩
theorem k185:CtOk ct185:=ct_set k294 (conB (hi:=hiBn) k294 n185 e185 x185)
noncomputable def F115 (x:D (.pair (.list (.int .i64)) (.pair (.int .i64) .un))):Option (D (.pair (.list (.int .i64)) (.pair (.int .i64) .un))):=(cnd (ltI 4 (lenL x.1)) (some ([],(9,()))) (bndS (loopS (fun d0=>(cnd (ltI d0.2.2.1 (lenL x.1)) (bnd (atL x.1 d0.2.2.1) (fun x1=>(cnd (ltI x1 1) (inR (inR (some ([],(2,()))))) (bnd (F185 (x1,())) (fun x2=>(cnd (notB x2.1) (inR (inR (some ([],(2,()))))) (chk (roomL d0.2.1 (d0.1::[]) 8) (some (.inl ((addI .i64 d0.1 (addI .i64 1 x1)),((appL d0.2.1 (d0.1::[])),((addI .i64 d0.2.2.1 1),())))))))))))) (inR (some (.inl (d0.1,(d0.2.1,()))))))) 1000000000 (0,([],(0,())))) (fun x3=>(cnd (ltI x.2.1 0) (some ([],(2,()))) (cnd (ltI 64 x.2.1) (some ([],(2,()))) (chk (roomL x3.2.1 (x3.1::((addI .i64 x3.1 x.2.1)::[])) 8) (some ((appL x3.2.1 (x3.1::((addI .i64 x3.1 x.2.1)::[]))),(0,())))))))))
theorem x115 (x:D (.pair (.list (.int .i64)) (.pair (.int .i64) .un))):fnS (cyF ct185 hiBn) 1000 (.pair (.list (.int .i64)) (.pair (.int .i64) .un)) (.pair (.list (.int .i64)) (.pair (.int .i64) .un)) (((Tr.e).set 0 [.keep 1,.val 6 (.int .i64),.own 7 (.int .i64)]).set 1 [.keep 1,.val 6 (.int .i64),.own 7 (.int .i64),.keep 13,.keep 14,.val 15 (.int .i64)]) Tryz.f115 x=F115 x:=by kernel_rfl
theorem n115:cxC.fn.get 115=some Tryz.f115:=by kernel_rfl
theorem e115:cxC.ext.get 115=none:=by kernel_rfl
noncomputable def ct115:Tr Con:=(ct185).set 115 ⟨(.pair (.list (.int .i64)) (.pair (.int .i64) .un)),(.pair (.list (.int .i64)) (.pair (.int .i64) .un)),F115⟩
theorem k115:CtOk ct115:=ct_set k185 (conB (hi:=hiBn) k185 n115 e115 x115)
noncomputable def F41 (x:D (.pair ty27 .un)):Option (D (.pair (.list (.int .i64)) .un)):=(bndS (loopS (fun d0=>(cnd (ltI d0.2.1 (lenL x.1.2.2.2.2.2.2.2.2.2.2.1)) (bnd (atL x.1.2.2.2.2.2.2.2.2.2.2.1 d0.2.1) (fun x1=>(chk (roomL d0.1 (x1.1::[]) 8) (some (.inl ((appL d0.1 (x1.1::[])),((addI .i64 d0.2.1 1),()))))))) (inR (some (.inl (d0.1,())))))) 1000000000 ([],(0,()))) (fun x2=>(bnd (F115 (x2.1,(x.1.2.2.2.2.2.2.1,()))) (fun x3=>(some (x3.1,()))))))
theorem x41 (x:D (.pair ty27 .un)):fnS (cyF ct115 hiBn) 1000 (.pair ty27 .un) (.pair (.list (.int .i64)) .un) (Tr.e) Tryz.f41 x=F41 x:=by kernel_rfl
theorem n41:cxC.fn.get 41=some Tryz.f41:=by kernel_rfl
theorem e41:cxC.ext.get 41=none:=by kernel_rfl
noncomputable def ct41:Tr Con:=(ct115).set 41 ⟨.pair ty27 .un,(.pair (.list (.int .i64)) .un),F41⟩
theorem k41:CtOk ct41:=ct_set k115 (conB (hi:=hiBn) k115 n41 e41 x41)
noncomputable def F43 (x:D (.pair ty27 .un)):Option (D (.pair ty27 .un)):=(chk (roomL [] x.1.1 8) (chk (roomL [] x.1.2.1 32) (chk (roomL [] x.1.2.2.2.2.2.2.2.2.2.2.2.1 40) (bndS (loopS (fun d0=>(cnd (ltI d0.2.1 (lenL x.1.2.2.2.2.2.2.2.2.2.2.1)) (bnd (atL x.1.2.2.2.2.2.2.2.2.2.2.1 d0.2.1) (fun x1=>(chk (roomL [] x1.2.1 1) (chk (roomL d0.1 ((x1.1,((appL [] x1.2.1),()))::[]) 32) (some (.inl ((appL d0.1 ((x1.1,((appL [] x1.2.1),()))::[])),((addI .i64 d0.2.1 1),())))))))) (inR (some (.inl (d0.1,())))))) 1000000000 ([],(0,()))) (fun x2=>(bndS (loopS (fun d3=>(cnd (ltI d3.2.1 (lenL x.1.2.2.2.2.2.2.2.2.2.2.2.2.1)) (bnd (atL x.1.2.2.2.2.2.2.2.2.2.2.2.2.1 d3.2.1) (fun x4=>(chk (roomL [] x4.2.1 64) (chk (roomL d3.1 ((x4.1,((appL [] x4.2.1),()))::[]) 32) (some (.inl ((appL d3.1 ((x4.1,((appL [] x4.2.1),()))::[])),((addI .i64 d3.2.1 1),())))))))) (inR (some (.inl (d3.1,())))))) 1000000000 ([],(0,()))) (fun x5=>(some (((appL [] x.1.1),((appL [] x.1.2.1),(x.1.2.2.1,(x.1.2.2.2.1,(x.1.2.2.2.2.1,(x.1.2.2.2.2.2.1,(x.1.2.2.2.2.2.2.1,(x.1.2.2.2.2.2.2.2.1,(x.1.2.2.2.2.2.2.2.2.1,(x.1.2.2.2.2.2.2.2.2.2.1,(x2.1,((appL [] x.1.2.2.2.2.2.2.2.2.2.2.2.1),(x5.1,()))))))))))))),())))))))))
theorem x43 (x:D (.pair ty27 .un)):fnS (cyF ct41 hiBn) 1000 (.pair ty27 .un) (.pair ty27 .un) (Tr.e) Tryz.f43 x=F43 x:=by kernel_rfl
theorem n43:cxC.fn.get 43=some Tryz.f43:=by kernel_rfl
theorem e43:cxC.ext.get 43=none:=by kernel_rfl
noncomputable def ct43:Tr Con:=(ct41).set 43 ⟨.pair ty27 .un,.pair ty27 .un,F43⟩
theorem k43:CtOk ct43:=ct_set k41 (conB (hi:=hiBn) k41 n43 e43 x43)
noncomputable def F44 (x:D (.pair (.int .i64) .un)):Option (D (.pair ty113 (.pair (.int .i64) .un))):=(cnd (ltI x.1 1) (some ((0,([],())),(1,()))) (cnd (ltI 16 x.1) (some ((0,([],())),(1,()))) (some ((x.1,([],())),(0,())))))
theorem x44 (x:D (.pair (.int .i64) .un)):fnS (cyF ct43 hiBn) 1000 (.pair (.int .i64) .un) (.pair ty113 (.pair (.int .i64) .un)) (Tr.e) Tryz.f44 x=F44 x:=by kernel_rfl
theorem n44:cxC.fn.get 44=some Tryz.f44:=by kernel_rfl
theorem e44:cxC.ext.get 44=none:=by kernel_rfl
noncomputable def ct44:Tr Con:=(ct43).set 44 ⟨(.pair (.int .i64) .un),(.pair ty113 (.pair (.int .i64) .un)),F44⟩
theorem k44:CtOk ct44:=ct_set k43 (conB (hi:=hiBn) k43 n44 e44 x44)
noncomputable def F125 (x:D (.pair ty36 .un)):Option (D (.pair .bool .un)):=(cnd (ltI (lenL x.1.1) 1) (some (false,())) (cnd (ltI 4 (lenL x.1.1)) (some (false,())) (cnd (ltI 64 x.1.2.2.1) (some (false,())) (cnd (ltI x.1.2.1 1) (some (false,())) (cnd (ltI x.1.2.2.1 x.1.2.1) (some (false,())) (cnd (ltI (lenL x.1.2.2.2.1) 1) (some (false,())) (cnd (ltI 6 (lenL x.1.2.2.2.1)) (some (false,())) (bndS (loopS (fun d0=>(cnd (ltI d0.1 (lenL x.1.1)) (bnd (atL x.1.1 d0.1) (fun x1=>(cnd (ltI x1 0) (inR (inR (some ((notB (leI 0 d0.1)),())))) (cnd (leI 4 x1) (inR (inR (some ((notB (leI 0 d0.1)),())))) (some (.inl ((addI .i64 d0.1 1),()))))))) (inR (some (.inl ()))))) 1000000000 (0,())) (fun x2=>(some (true,())))))))))))
theorem x125 (x:D (.pair ty36 .un)):fnS (cyF ct44 hiBn) 1000 (.pair ty36 .un) (.pair .bool .un) (Tr.e) Tryz.f125 x=F125 x:=by kernel_rfl
theorem n125:cxC.fn.get 125=some Tryz.f125:=by kernel_rfl
theorem e125:cxC.ext.get 125=none:=by kernel_rfl
noncomputable def ct125:Tr Con:=(ct44).set 125 ⟨.pair ty36 .un,.pair .bool .un,F125⟩
theorem k125:CtOk ct125:=ct_set k44 (conB (hi:=hiBn) k44 n125 e125 x125)
noncomputable def F188 (x:D (.pair ty96 .un)):Option (D (.pair .bool .un)):=(cnd (leI 0 x.1.1) (cnd (ltI x.1.1 4) (cnd (eqI x.1.2.1 0) (cnd (leI 0 x.1.2.2.1) (cnd (ltI x.1.2.2.1 256) (cnd (leI 1 x.1.2.2.2.1) (cnd (leI x.1.2.2.2.1 (subI .i64 256 x.1.2.2.1)) (cnd (leI 0 x.1.2.2.2.2.1) (some ((leI x.1.2.2.2.2.1 x.1.2.2.2.1),())) (some (false,()))) (some (false,()))) (some (false,()))) (some (false,()))) (some (false,()))) (cnd (eqI x.1.2.1 1) (cnd (leI 0 x.1.2.2.1) (cnd (ltI x.1.2.2.1 256) (cnd (leI 1 x.1.2.2.2.1) (cnd (leI x.1.2.2.2.1 (subI .i64 256 x.1.2.2.1)) (cnd (leI 0 x.1.2.2.2.2.1) (some ((leI x.1.2.2.2.2.1 x.1.2.2.2.1),())) (some (false,()))) (some (false,()))) (some (false,()))) (some (false,()))) (some (false,()))) (some (false,())))) (some (false,()))) (some (false,())))
theorem x188 (x:D (.pair ty96 .un)):fnS (cyF ct125 hiBn) 1000 (.pair ty96 .un) (.pair .bool .un) (Tr.e) Tryz.f188 x=F188 x:=by kernel_rfl
theorem n188:cxC.fn.get 188=some Tryz.f188:=by kernel_rfl
theorem e188:cxC.ext.get 188=none:=by kernel_rfl
noncomputable def ct188:Tr Con:=(ct125).set 188 ⟨.pair ty96 .un,.pair .bool .un,F188⟩
theorem k188:CtOk ct188:=ct_set k125 (conB (hi:=hiBn) k125 n188 e188 x188)
noncomputable def F276 (x:D (.pair (.int .i64) .un)):Option (D (.pair .bool .un)):=(some ((neI x.1 x.1),()))
theorem x276 (x:D (.pair (.int .i64) .un)):fnS (cyF ct188 hiBn) 1000 (.pair (.int .i64) .un) (.pair .bool .un) (Tr.e) Tryz.f276 x=F276 x:=by kernel_rfl
theorem n276:cxC.fn.get 276=some Tryz.f276:=by kernel_rfl
theorem e276:cxC.ext.get 276=none:=by kernel_rfl
noncomputable def ct276:Tr Con:=(ct188).set 276 ⟨(.pair (.int .i64) .un),.pair .bool .un,F276⟩
theorem k276:CtOk ct276:=ct_set k188 (conB (hi:=hiBn) k188 n276 e276 x276)
noncomputable def F270 (x:D ty148):Option (D (.pair .bool .un)):=(bnd (F276 (x.1,())) (fun x0=>(cnd x0.1 (bnd (F276 (x.2.1,())) (fun x1=>(cnd (notB x1.1) (some (true,())) (some ((ltI x.1 x.2.1),()))))) (some ((ltI x.1 x.2.1),())))))
theorem x270 (x:D ty148):fnS (cyF ct276 hiBn) 1000 ty148 (.pair .bool .un) (Tr.e) Tryz.f270 x=F270 x:=by kernel_rfl
theorem n270:cxC.fn.get 270=some Tryz.f270:=by kernel_rfl
theorem e270:cxC.ext.get 270=none:=by kernel_rfl
noncomputable def ct270:Tr Con:=(ct276).set 270 ⟨ty148,.pair .bool .un,F270⟩
theorem k270:CtOk ct270:=ct_set k276 (conB (hi:=hiBn) k276 n270 e270 x270)
noncomputable def F271 (x:D (.pair (.int .i64) .un)):Option (D (.pair .bool .un)):=(some ((neI x.1 x.1),()))
theorem x271 (x:D (.pair (.int .i64) .un)):fnS (cyF ct270 hiBn) 1000 (.pair (.int .i64) .un) (.pair .bool .un) (Tr.e) Tryz.f271 x=F271 x:=by kernel_rfl
theorem n271:cxC.fn.get 271=some Tryz.f271:=by kernel_rfl
theorem e271:cxC.ext.get 271=none:=by kernel_rfl
noncomputable def ct271:Tr Con:=(ct270).set 271 ⟨(.pair (.int .i64) .un),.pair .bool .un,F271⟩
theorem k271:CtOk ct271:=ct_set k270 (conB (hi:=hiBn) k270 n271 e271 x271)
noncomputable def F231 (x:D (.pair (.list (.int .i64)) (.pair (.int .i64) .un))):Option (D ty182):=(bndS (loopS (fun d0=>(cnd (ltI d0.1 d0.2.1) (bnd (atL x.1 (wrp .i64 (shrI .u64 (wrp .u64 (addI .i64 d0.1 d0.2.1)) 1))) (fun x1=>(bnd (F270 (x1,(x.2.1,()))) (fun x2=>(cnd x2.1 (some (.inl ((addI .i64 (wrp .i64 (shrI .u64 (wrp .u64 (addI .i64 d0.1 d0.2.1)) 1)) 1),(d0.2.1,())))) (some (.inl (d0.1,((wrp .i64 (shrI .u64 (wrp .u64 (addI .i64 d0.1 d0.2.1)) 1)),()))))))))) (inR (some (.inl (d0.1,())))))) 1000000000 (0,((lenL x.1),()))) (fun x3=>(cnd (ltI x3.1 (lenL x.1)) (bnd (atL x.1 x3.1) (fun x4=>(cnd (eqI x4 x.2.1) (some (x3.1,(true,()))) (bnd (atL x.1 x3.1) (fun x5=>(bnd (F271 (x5,())) (fun x6=>(cnd x6.1 (bnd (F271 (x.2.1,())) (fun x7=>(some (x3.1,(x7.1,()))))) (some (x3.1,(false,()))))))))))) (some (x3.1,(false,()))))))
theorem x231 (x:D (.pair (.list (.int .i64)) (.pair (.int .i64) .un))):fnS (cyF ct271 hiBn) 1000 (.pair (.list (.int .i64)) (.pair (.int .i64) .un)) ty182 (((Tr.e).set 0 [.keep 0,.keep 1,.keep 6,.val 7 (.int .i64)]).set 1 [.keep 0,.keep 1,.keep 6,.val 7 (.int .i64),.val 8 (.int .i64)]) Tryz.f231 x=F231 x:=by kernel_rfl
theorem n231:cxC.fn.get 231=some Tryz.f231:=by kernel_rfl
theorem e231:cxC.ext.get 231=none:=by kernel_rfl
noncomputable def ct231:Tr Con:=(ct271).set 231 ⟨(.pair (.list (.int .i64)) (.pair (.int .i64) .un)),ty182,F231⟩
theorem k231:CtOk ct231:=ct_set k271 (conB (hi:=hiBn) k271 n231 e231 x231)
noncomputable def F232 (x:D (.pair ty96 ty148)):Option (D (.pair .bool .un)):=(chk (nonneg x.2.2.1) (cnd (leI x.1.2.2.1 x.2.1) (chk (neI (shlI .i64 1 x.2.2.1) 0) (cnd (eqI (remI .i64 x.2.1 (shlI .i64 1 x.2.2.1)) 0) (cnd (leI (shlI .i64 1 x.2.2.1) x.1.2.2.2.1) (some ((leI x.2.1 (subI .i64 (addI .i64 x.1.2.2.1 x.1.2.2.2.1) (shlI .i64 1 x.2.2.1))),())) (some (false,()))) (some (false,())))) (some (false,()))))
theorem x232 (x:D (.pair ty96 ty148)):fnS (cyF ct231 hiBn) 1000 (.pair ty96 ty148) (.pair .bool .un) (Tr.e) Tryz.f232 x=F232 x:=by kernel_rfl
theorem n232:cxC.fn.get 232=some Tryz.f232:=by kernel_rfl
theorem e232:cxC.ext.get 232=none:=by kernel_rfl
noncomputable def ct232:Tr Con:=(ct231).set 232 ⟨.pair ty96 ty148,.pair .bool .un,F232⟩
theorem k232:CtOk ct232:=ct_set k231 (conB (hi:=hiBn) k231 n232 e232 x232)
noncomputable def F126 (x:D ty70):Option (D (.pair ty96 (.pair (.int .i64) .un))):=(bnd (F188 ((x.1,(x.2.1,(x.2.2.1,(x.2.2.2.1,(x.2.2.2.2.1,(([]::([]::([]::([]::([]::[]))))),())))))),())) (fun x0=>(cnd (notB x0.1) (some ((0,(0,(0,(0,(0,(([]::([]::([]::([]::([]::[]))))),())))))),(2,()))) (bndS (loopS (fun d1=>(cnd (ltI d1.2.1 (addI .i64 x.2.2.1 x.2.2.2.1)) (bnd (F231 (d1.1.2.2.2.2.2.1,((xorI .i64 d1.2.1 1),()))) (fun x2=>(cnd (notB x2.2.1) (bnd (F231 (d1.1.2.2.2.2.2.1,(d1.2.1,()))) (fun x3=>(chk (okCut x3.1 (lenL d1.1.2.2.2.2.2.1) (lenL d1.1.2.2.2.2.2.1)) (cnd (eqI x3.1 (lenL d1.1.2.2.2.2.2.1)) (chk (roomL d1.1.2.2.2.2.2.1 (d1.2.1::[]) 8) (some (.inl ((d1.1.1,(d1.1.2.1,(d1.1.2.2.1,(d1.1.2.2.2.1,(d1.1.2.2.2.2.1,((appL d1.1.2.2.2.2.2.1 (d1.2.1::[])),(d1.1.2.2.2.2.2.2.1,(d1.1.2.2.2.2.2.2.2.1,(d1.1.2.2.2.2.2.2.2.2.1,(d1.1.2.2.2.2.2.2.2.2.2.1,())))))))))),((addI .i64 d1.2.1 1),()))))) none)))) (bnd (F232 ((d1.1.1,(d1.1.2.1,(d1.1.2.2.1,(d1.1.2.2.2.1,(d1.1.2.2.2.2.1,((d1.1.2.2.2.2.2.1::(d1.1.2.2.2.2.2.2.1::(d1.1.2.2.2.2.2.2.2.1::(d1.1.2.2.2.2.2.2.2.2.1::(d1.1.2.2.2.2.2.2.2.2.2.1::[]))))),())))))),((minI d1.2.1 (xorI .i64 d1.2.1 1)),(1,())))) (fun x4=>(cnd (notB x4.1) (bnd (F231 (d1.1.2.2.2.2.2.1,(d1.2.1,()))) (fun x5=>(chk (okCut x5.1 (lenL d1.1.2.2.2.2.2.1) (lenL d1.1.2.2.2.2.2.1)) (cnd (eqI x5.1 (lenL d1.1.2.2.2.2.2.1)) (chk (roomL d1.1.2.2.2.2.2.1 (d1.2.1::[]) 8) (some (.inl ((d1.1.1,(d1.1.2.1,(d1.1.2.2.1,(d1.1.2.2.2.1,(d1.1.2.2.2.2.1,((appL d1.1.2.2.2.2.2.1 (d1.2.1::[])),(d1.1.2.2.2.2.2.2.1,(d1.1.2.2.2.2.2.2.2.1,(d1.1.2.2.2.2.2.2.2.2.1,(d1.1.2.2.2.2.2.2.2.2.2.1,())))))))))),((addI .i64 d1.2.1 1),()))))) none)))) (chk (inL? d1.1.2.2.2.2.2.1 x2.1) (chk (eqI (addI .i64 x2.1 1) (addI .i64 x2.1 1)) (chk (roomL [] d1.1.2.2.2.2.2.1 8) (bnd (F231 (d1.1.2.2.2.2.2.2.1,((xorI .i64 (minI d1.2.1 (xorI .i64 d1.2.1 1)) 2),()))) (fun x6=>(cnd (notB x6.2.1) (bnd (F231 (d1.1.2.2.2.2.2.2.1,((minI d1.2.1 (xorI .i64 d1.2.1 1)),()))) (fun x7=>(chk (okCut x7.1 (lenL d1.1.2.2.2.2.2.2.1) (lenL d1.1.2.2.2.2.2.2.1)) (cnd (eqI x7.1 (lenL d1.1.2.2.2.2.2.2.1)) (chk (roomL d1.1.2.2.2.2.2.2.1 ((minI d1.2.1 (xorI .i64 d1.2.1 1))::[]) 8) (some (.inl ((d1.1.1,(d1.1.2.1,(d1.1.2.2.1,(d1.1.2.2.2.1,(d1.1.2.2.2.2.1,((delL d1.1.2.2.2.2.2.1 x2.1),((appL d1.1.2.2.2.2.2.2.1 ((minI d1.2.1 (xorI .i64 d1.2.1 1))::[])),(d1.1.2.2.2.2.2.2.2.1,(d1.1.2.2.2.2.2.2.2.2.1,(d1.1.2.2.2.2.2.2.2.2.2.1,())))))))))),((addI .i64 d1.2.1 1),()))))) none)))) (bnd (F232 ((d1.1.1,(d1.1.2.1,(d1.1.2.2.1,(d1.1.2.2.2.1,(d1.1.2.2.2.2.1,(((delL d1.1.2.2.2.2.2.1 x2.1)::(d1.1.2.2.2.2.2.2.1::(d1.1.2.2.2.2.2.2.2.1::(d1.1.2.2.2.2.2.2.2.2.1::(d1.1.2.2.2.2.2.2.2.2.2.1::[]))))),())))))),((minI (minI d1.2.1 (xorI .i64 d1.2.1 1)) (xorI .i64 (minI d1.2.1 (xorI .i64 d1.2.1 1)) 2)),(2,())))) (fun x8=>(cnd (notB x8.1) (bnd (F231 (d1.1.2.2.2.2.2.2.1,((minI d1.2.1 (xorI .i64 d1.2.1 1)),()))) (fun x9=>(chk (okCut x9.1 (lenL d1.1.2.2.2.2.2.2.1) (lenL d1.1.2.2.2.2.2.2.1)) (cnd (eqI x9.1 (lenL d1.1.2.2.2.2.2.2.1)) (chk (roomL d1.1.2.2.2.2.2.2.1 ((minI d1.2.1 (xorI .i64 d1.2.1 1))::[]) 8) (some (.inl ((d1.1.1,(d1.1.2.1,(d1.1.2.2.1,(d1.1.2.2.2.1,(d1.1.2.2.2.2.1,((delL d1.1.2.2.2.2.2.1 x2.1),((appL d1.1.2.2.2.2.2.2.1 ((minI d1.2.1 (xorI .i64 d1.2.1 1))::[])),(d1.1.2.2.2.2.2.2.2.1,(d1.1.2.2.2.2.2.2.2.2.1,(d1.1.2.2.2.2.2.2.2.2.2.1,())))))))))),((addI .i64 d1.2.1 1),()))))) none)))) (chk (inL? d1.1.2.2.2.2.2.2.1 x6.1) (chk (eqI (addI .i64 x6.1 1) (addI .i64 x6.1 1)) (chk (roomL [] d1.1.2.2.2.2.2.2.1 8) (bnd (F231 (d1.1.2.2.2.2.2.2.2.1,((xorI .i64 (minI (minI d1.2.1 (xorI .i64 d1.2.1 1)) (xorI .i64 (minI d1.2.1 (xorI .i64 d1.2.1 1)) 2)) 4),()))) (fun x10=>(cnd (notB x10.2.1) (bnd (F231 (d1.1.2.2.2.2.2.2.2.1,((minI (minI d1.2.1 (xorI .i64 d1.2.1 1)) (xorI .i64 (minI d1.2.1 (xorI .i64 d1.2.1 1)) 2)),()))) (fun x11=>(chk (okCut x11.1 (lenL d1.1.2.2.2.2.2.2.2.1) (lenL d1.1.2.2.2.2.2.2.2.1)) (cnd (eqI x11.1 (lenL d1.1.2.2.2.2.2.2.2.1)) (chk (roomL d1.1.2.2.2.2.2.2.2.1 ((minI (minI d1.2.1 (xorI .i64 d1.2.1 1)) (xorI .i64 (minI d1.2.1 (xorI .i64 d1.2.1 1)) 2))::[]) 8) (some (.inl ((d1.1.1,(d1.1.2.1,(d1.1.2.2.1,(d1.1.2.2.2.1,(d1.1.2.2.2.2.1,((delL d1.1.2.2.2.2.2.1 x2.1),((delL d1.1.2.2.2.2.2.2.1 x6.1),((appL d1.1.2.2.2.2.2.2.2.1 ((minI (minI d1.2.1 (xorI .i64 d1.2.1 1)) (xorI .i64 (minI d1.2.1 (xorI .i64 d1.2.1 1)) 2))::[])),(d1.1.2.2.2.2.2.2.2.2.1,(d1.1.2.2.2.2.2.2.2.2.2.1,())))))))))),((addI .i64 d1.2.1 1),()))))) none)))) (bnd (F232 ((d1.1.1,(d1.1.2.1,(d1.1.2.2.1,(d1.1.2.2.2.1,(d1.1.2.2.2.2.1,(((delL d1.1.2.2.2.2.2.1 x2.1)::((delL d1.1.2.2.2.2.2.2.1 x6.1)::(d1.1.2.2.2.2.2.2.2.1::(d1.1.2.2.2.2.2.2.2.2.1::(d1.1.2.2.2.2.2.2.2.2.2.1::[]))))),())))))),((minI (minI (minI d1.2.1 (xorI .i64 d1.2.1 1)) (xorI .i64 (minI d1.2.1 (xorI .i64 d1.2.1 1)) 2)) (xorI .i64 (minI (minI d1.2.1 (xorI .i64 d1.2.1 1)) (xorI .i64 (minI d1.2.1 (xorI .i64 d1.2.1 1)) 2)) 4)),(3,())))) (fun x12=>(cnd (notB x12.1) (bnd (F231 (d1.1.2.2.2.2.2.2.2.1,((minI (minI d1.2.1 (xorI .i64 d1.2.1 1)) (xorI .i64 (minI d1.2.1 (xorI .i64 d1.2.1 1)) 2)),()))) (fun x13=>(chk (okCut x13.1 (lenL d1.1.2.2.2.2.2.2.2.1) (lenL d1.1.2.2.2.2.2.2.2.1)) (cnd (eqI x13.1 (lenL d1.1.2.2.2.2.2.2.2.1)) (chk (roomL d1.1.2.2.2.2.2.2.2.1 ((minI (minI d1.2.1 (xorI .i64 d1.2.1 1)) (xorI .i64 (minI d1.2.1 (xorI .i64 d1.2.1 1)) 2))::[]) 8) (some (.inl ((d1.1.1,(d1.1.2.1,(d1.1.2.2.1,(d1.1.2.2.2.1,(d1.1.2.2.2.2.1,((delL d1.1.2.2.2.2.2.1 x2.1),((delL d1.1.2.2.2.2.2.2.1 x6.1),((appL d1.1.2.2.2.2.2.2.2.1 ((minI (minI d1.2.1 (xorI .i64 d1.2.1 1)) (xorI .i64 (minI d1.2.1 (xorI .i64 d1.2.1 1)) 2))::[])),(d1.1.2.2.2.2.2.2.2.2.1,(d1.1.2.2.2.2.2.2.2.2.2.1,())))))))))),((addI .i64 d1.2.1 1),()))))) none)))) (chk (inL? d1.1.2.2.2.2.2.2.2.1 x10.1) (chk (eqI (addI .i64 x10.1 1) (addI .i64 x10.1 1)) (chk (roomL [] d1.1.2.2.2.2.2.2.2.1 8) (bnd (F231 (d1.1.2.2.2.2.2.2.2.2.1,((xorI .i64 (minI (minI (minI d1.2.1 (xorI .i64 d1.2.1 1)) (xorI .i64 (minI d1.2.1 (xorI .i64 d1.2.1 1)) 2)) (xorI .i64 (minI (minI d1.2.1 (xorI .i64 d1.2.1 1)) (xorI .i64 (minI d1.2.1 (xorI .i64 d1.2.1 1)) 2)) 4)) 8),()))) (fun x14=>(cnd (notB x14.2.1) (bnd (F231 (d1.1.2.2.2.2.2.2.2.2.1,((minI (minI (minI d1.2.1 (xorI .i64 d1.2.1 1)) (xorI .i64 (minI d1.2.1 (xorI .i64 d1.2.1 1)) 2)) (xorI .i64 (minI (minI d1.2.1 (xorI .i64 d1.2.1 1)) (xorI .i64 (minI d1.2.1 (xorI .i64 d1.2.1 1)) 2)) 4)),()))) (fun x15=>(chk (okCut x15.1 (lenL d1.1.2.2.2.2.2.2.2.2.1) (lenL d1.1.2.2.2.2.2.2.2.2.1)) (cnd (eqI x15.1 (lenL d1.1.2.2.2.2.2.2.2.2.1)) (chk (roomL d1.1.2.2.2.2.2.2.2.2.1 ((minI (minI (minI d1.2.1 (xorI .i64 d1.2.1 1)) (xorI .i64 (minI d1.2.1 (xorI .i64 d1.2.1 1)) 2)) (xorI .i64 (minI (minI d1.2.1 (xorI .i64 d1.2.1 1)) (xorI .i64 (minI d1.2.1 (xorI .i64 d1.2.1 1)) 2)) 4))::[]) 8) (some (.inl ((d1.1.1,(d1.1.2.1,(d1.1.2.2.1,(d1.1.2.2.2.1,(d1.1.2.2.2.2.1,((delL d1.1.2.2.2.2.2.1 x2.1),((delL d1.1.2.2.2.2.2.2.1 x6.1),((delL d1.1.2.2.2.2.2.2.2.1 x10.1),((appL d1.1.2.2.2.2.2.2.2.2.1 ((minI (minI (minI d1.2.1 (xorI .i64 d1.2.1 1)) (xorI .i64 (minI d1.2.1 (xorI .i64 d1.2.1 1)) 2)) (xorI .i64 (minI (minI d1.2.1 (xorI .i64 d1.2.1 1)) (xorI .i64 (minI d1.2.1 (xorI .i64 d1.2.1 1)) 2)) 4))::[])),(d1.1.2.2.2.2.2.2.2.2.2.1,())))))))))),((addI .i64 d1.2.1 1),()))))) none)))) (bnd (F232 ((d1.1.1,(d1.1.2.1,(d1.1.2.2.1,(d1.1.2.2.2.1,(d1.1.2.2.2.2.1,(((delL d1.1.2.2.2.2.2.1 x2.1)::((delL d1.1.2.2.2.2.2.2.1 x6.1)::((delL d1.1.2.2.2.2.2.2.2.1 x10.1)::(d1.1.2.2.2.2.2.2.2.2.1::(d1.1.2.2.2.2.2.2.2.2.2.1::[]))))),())))))),((minI (minI (minI (minI d1.2.1 (xorI .i64 d1.2.1 1)) (xorI .i64 (minI d1.2.1 (xorI .i64 d1.2.1 1)) 2)) (xorI .i64 (minI (minI d1.2.1 (xorI .i64 d1.2.1 1)) (xorI .i64 (minI d1.2.1 (xorI .i64 d1.2.1 1)) 2)) 4)) (xorI .i64 (minI (minI (minI d1.2.1 (xorI .i64 d1.2.1 1)) (xorI .i64 (minI d1.2.1 (xorI .i64 d1.2.1 1)) 2)) (xorI .i64 (minI (minI d1.2.1 (xorI .i64 d1.2.1 1)) (xorI .i64 (minI d1.2.1 (xorI .i64 d1.2.1 1)) 2)) 4)) 8)),(4,())))) (fun x16=>(cnd (notB x16.1) (bnd (F231 (d1.1.2.2.2.2.2.2.2.2.1,((minI (minI (minI d1.2.1 (xorI .i64 d1.2.1 1)) (xorI .i64 (minI d1.2.1 (xorI .i64 d1.2.1 1)) 2)) (xorI .i64 (minI (minI d1.2.1 (xorI .i64 d1.2.1 1)) (xorI .i64 (minI d1.2.1 (xorI .i64 d1.2.1 1)) 2)) 4)),()))) (fun x17=>(chk (okCut x17.1 (lenL d1.1.2.2.2.2.2.2.2.2.1) (lenL d1.1.2.2.2.2.2.2.2.2.1)) (cnd (eqI x17.1 (lenL d1.1.2.2.2.2.2.2.2.2.1)) (chk (roomL d1.1.2.2.2.2.2.2.2.2.1 ((minI (minI (minI d1.2.1 (xorI .i64 d1.2.1 1)) (xorI .i64 (minI d1.2.1 (xorI .i64 d1.2.1 1)) 2)) (xorI .i64 (minI (minI d1.2.1 (xorI .i64 d1.2.1 1)) (xorI .i64 (minI d1.2.1 (xorI .i64 d1.2.1 1)) 2)) 4))::[]) 8) (some (.inl ((d1.1.1,(d1.1.2.1,(d1.1.2.2.1,(d1.1.2.2.2.1,(d1.1.2.2.2.2.1,((delL d1.1.2.2.2.2.2.1 x2.1),((delL d1.1.2.2.2.2.2.2.1 x6.1),((delL d1.1.2.2.2.2.2.2.2.1 x10.1),((appL d1.1.2.2.2.2.2.2.2.2.1 ((minI (minI (minI d1.2.1 (xorI .i64 d1.2.1 1)) (xorI .i64 (minI d1.2.1 (xorI .i64 d1.2.1 1)) 2)) (xorI .i64 (minI (minI d1.2.1 (xorI .i64 d1.2.1 1)) (xorI .i64 (minI d1.2.1 (xorI .i64 d1.2.1 1)) 2)) 4))::[])),(d1.1.2.2.2.2.2.2.2.2.2.1,())))))))))),((addI .i64 d1.2.1 1),()))))) none)))) (chk (inL? d1.1.2.2.2.2.2.2.2.2.1 x14.1) (chk (eqI (addI .i64 x14.1 1) (addI .i64 x14.1 1)) (chk (roomL [] d1.1.2.2.2.2.2.2.2.2.1 8) (bnd (F231 (d1.1.2.2.2.2.2.2.2.2.2.1,((minI (minI (minI (minI d1.2.1 (xorI .i64 d1.2.1 1)) (xorI .i64 (minI d1.2.1 (xorI .i64 d1.2.1 1)) 2)) (xorI .i64 (minI (minI d1.2.1 (xorI .i64 d1.2.1 1)) (xorI .i64 (minI d1.2.1 (xorI .i64 d1.2.1 1)) 2)) 4)) (xorI .i64 (minI (minI (minI d1.2.1 (xorI .i64 d1.2.1 1)) (xorI .i64 (minI d1.2.1 (xorI .i64 d1.2.1 1)) 2)) (xorI .i64 (minI (minI d1.2.1 (xorI .i64 d1.2.1 1)) (xorI .i64 (minI d1.2.1 (xorI .i64 d1.2.1 1)) 2)) 4)) 8)),()))) (fun x18=>(chk (okCut x18.1 (lenL d1.1.2.2.2.2.2.2.2.2.2.1) (lenL d1.1.2.2.2.2.2.2.2.2.2.1)) (cnd (eqI x18.1 (lenL d1.1.2.2.2.2.2.2.2.2.2.1)) (chk (roomL d1.1.2.2.2.2.2.2.2.2.2.1 ((minI (minI (minI (minI d1.2.1 (xorI .i64 d1.2.1 1)) (xorI .i64 (minI d1.2.1 (xorI .i64 d1.2.1 1)) 2)) (xorI .i64 (minI (minI d1.2.1 (xorI .i64 d1.2.1 1)) (xorI .i64 (minI d1.2.1 (xorI .i64 d1.2.1 1)) 2)) 4)) (xorI .i64 (minI (minI (minI d1.2.1 (xorI .i64 d1.2.1 1)) (xorI .i64 (minI d1.2.1 (xorI .i64 d1.2.1 1)) 2)) (xorI .i64 (minI (minI d1.2.1 (xorI .i64 d1.2.1 1)) (xorI .i64 (minI d1.2.1 (xorI .i64 d1.2.1 1)) 2)) 4)) 8))::[]) 8) (some (.inl ((d1.1.1,(d1.1.2.1,(d1.1.2.2.1,(d1.1.2.2.2.1,(d1.1.2.2.2.2.1,((delL d1.1.2.2.2.2.2.1 x2.1),((delL d1.1.2.2.2.2.2.2.1 x6.1),((delL d1.1.2.2.2.2.2.2.2.1 x10.1),((delL d1.1.2.2.2.2.2.2.2.2.1 x14.1),((appL d1.1.2.2.2.2.2.2.2.2.2.1 ((minI (minI (minI (minI d1.2.1 (xorI .i64 d1.2.1 1)) (xorI .i64 (minI d1.2.1 (xorI .i64 d1.2.1 1)) 2)) (xorI .i64 (minI (minI d1.2.1 (xorI .i64 d1.2.1 1)) (xorI .i64 (minI d1.2.1 (xorI .i64 d1.2.1 1)) 2)) 4)) (xorI .i64 (minI (minI (minI d1.2.1 (xorI .i64 d1.2.1 1)) (xorI .i64 (minI d1.2.1 (xorI .i64 d1.2.1 1)) 2)) (xorI .i64 (minI (minI d1.2.1 (xorI .i64 d1.2.1 1)) (xorI .i64 (minI d1.2.1 (xorI .i64 d1.2.1 1)) 2)) 4)) 8))::[])),())))))))))),((addI .i64 d1.2.1 1),()))))) none)))))))))))))))))))))))))))))))))))))))) (inR (some (.inl ((d1.1.1,(d1.1.2.1,(d1.1.2.2.1,(d1.1.2.2.2.1,(d1.1.2.2.2.2.1,(d1.1.2.2.2.2.2.1,(d1.1.2.2.2.2.2.2.1,(d1.1.2.2.2.2.2.2.2.1,(d1.1.2.2.2.2.2.2.2.2.1,(d1.1.2.2.2.2.2.2.2.2.2.1,())))))))))),())))))) 1000000000 ((x.1,(x.2.1,(x.2.2.1,(x.2.2.2.1,(x.2.2.2.2.1,([],([],([],([],([],())))))))))),(x.2.2.1,()))) (fun x19=>(some ((x19.1.1,(x19.1.2.1,(x19.1.2.2.1,(x19.1.2.2.2.1,(x19.1.2.2.2.2.1,((x19.1.2.2.2.2.2.1::(x19.1.2.2.2.2.2.2.1::(x19.1.2.2.2.2.2.2.2.1::(x19.1.2.2.2.2.2.2.2.2.1::(x19.1.2.2.2.2.2.2.2.2.2.1::[]))))),())))))),(0,()))))))))
theorem x126 (x:D ty70):fnS (cyF ct232 hiBn) 1000 ty70 (.pair ty96 (.pair (.int .i64) .un)) (((Tr.e).set 0 [.keep 10,.box 12 [.v (.int .i64),.v (.int .i64),.v (.int .i64),.v (.int .i64),.v (.int .i64),.o (.int .i64),.o (.int .i64),.o (.int .i64),.o (.int .i64),.o (.int .i64)]]).set 1 [.keep 2,.keep 3,.keep 10,.box 12 [.v (.int .i64),.v (.int .i64),.v (.int .i64),.v (.int .i64),.v (.int .i64),.o (.int .i64),.o (.int .i64),.o (.int .i64),.o (.int .i64),.o (.int .i64)],.val 13 (.int .i64)]) Tryz.f126 x=F126 x:=by kernel_rfl
theorem n126:cxC.fn.get 126=some Tryz.f126:=by kernel_rfl
theorem e126:cxC.ext.get 126=none:=by kernel_rfl
noncomputable def ct126:Tr Con:=(ct232).set 126 ⟨ty70,(.pair ty96 (.pair (.int .i64) .un)),F126⟩
theorem k126:CtOk ct126:=ct_set k232 (conB (hi:=hiBn) k232 n126 e126 x126)
noncomputable def F127 (x:D (.pair (.int .i64) .un)):Option (D (.pair ty230 (.pair (.int .i64) .un))):=(cnd (ltI x.1 1) (some (([],()),(1,()))) (cnd (ltI 6 x.1) (some (([],()),(1,()))) (chk (okMk x.1 x.1 24) (some (((rep x.1 []),()),(0,()))))))
theorem x127 (x:D (.pair (.int .i64) .un)):fnS (cyF ct126 hiBn) 1000 (.pair (.int .i64) .un) (.pair ty230 (.pair (.int .i64) .un)) (Tr.e) Tryz.f127 x=F127 x:=by kernel_rfl
theorem n127:cxC.fn.get 127=some Tryz.f127:=by kernel_rfl
theorem e127:cxC.ext.get 127=none:=by kernel_rfl
noncomputable def ct127:Tr Con:=(ct126).set 127 ⟨(.pair (.int .i64) .un),(.pair ty230 (.pair (.int .i64) .un)),F127⟩
theorem k127:CtOk ct127:=ct_set k126 (conB (hi:=hiBn) k126 n127 e127 x127)
noncomputable def F45 (x:D (.pair (.list (.int .i64)) (.pair (.int .i64) (.pair (.int .i64) (.pair ty23 .un))))):Option (D (.pair ty36 (.pair (.int .i64) .un))):=(chk (roomL [] x.1 8) (chk (okMk (lenL x.2.2.2.1) (lenL x.2.2.2.1) 160) (bnd (F125 (((appL [] x.1),(x.2.1,(x.2.2.1,((rep (lenL x.2.2.2.1) (0,(0,(0,(0,(0,(([]::([]::([]::([]::([]::[]))))),()))))))),([],()))))),())) (fun x0=>(cnd (notB x0.1) (some (([],(0,(0,([],([],()))))),(2,()))) (bndS (loopS (α:=D (.pair (.pair ty36 .un) (.pair ty36 ty148))) (fun d1=>(cnd (ltI d1.2.2.2.1 (lenL x.2.2.2.1)) (bnd (atL x.2.2.2.1 d1.2.2.2.1) (fun x2=>(bnd (F126 (x2.1,(x2.2.1,(d1.2.2.1,(x2.2.2.1,(x2.2.2.2.1,())))))) (fun x3=>(cnd (neI x3.2.1 0) (inR (inR (some (([],(0,(0,([],([],()))))),(x3.2.1,()))))) (chk (inL? d1.2.1.2.2.2.1 d1.2.2.2.1) (bnd (atL d1.2.1.2.2.2.1 d1.2.2.2.1) (fun x4=>(some (.inl ((d1.1.1,()),((d1.2.1.1,(d1.2.1.2.1,(d1.2.1.2.2.1,((setL d1.2.1.2.2.2.1 d1.2.2.2.1 x3.1),(d1.2.1.2.2.2.2.1,()))))),((addI .i64 d1.2.2.1 x2.2.2.1),((addI .i64 d1.2.2.2.1 1),())))))))))))))) (inR (some (.inl ((d1.1.1,()),((d1.2.1.1,(d1.2.1.2.1,(d1.2.1.2.2.1,(d1.2.1.2.2.2.1,(d1.2.1.2.2.2.2.1,()))))),()))))))) 1000000000 ((([],(0,(0,([],([],()))))),()),(((appL [] x.1),(x.2.1,(x.2.2.1,((rep (lenL x.2.2.2.1) (0,(0,(0,(0,(0,(([]::([]::([]::([]::([]::[]))))),()))))))),([],()))))),(0,(0,()))))) (fun x5=>(bndS (loopS (α:=D (.pair ty36 (.pair (.int .i64) .un))) (fun d6=>(cnd (ltI d6.2.1 (lenL x.1)) (bnd (F127 ((lenL x.2.2.2.1),())) (fun x7=>(chk (roomL d6.1.2.2.2.2.1 ((x7.1.1,())::[]) 24) (some (.inl ((d6.1.1,(d6.1.2.1,(d6.1.2.2.1,(d6.1.2.2.2.1,((appL d6.1.2.2.2.2.1 ((x7.1.1,())::[])),()))))),((addI .i64 d6.2.1 1),()))))))) (inR (some (.inl ((d6.1.1,(d6.1.2.1,(d6.1.2.2.1,(d6.1.2.2.2.1,(d6.1.2.2.2.2.1,()))))),())))))) 1000000000 ((x5.2.1.1,(x5.2.1.2.1,(x5.2.1.2.2.1,(x5.2.1.2.2.2.1,(x5.2.1.2.2.2.2.1,()))))),(0,()))) (fun x8=>(some ((x8.1.1,(x8.1.2.1,(x8.1.2.2.1,(x8.1.2.2.2.1,(x8.1.2.2.2.2.1,()))))),(0,()))))))))))))
theorem x45 (x:D (.pair (.list (.int .i64)) (.pair (.int .i64) (.pair (.int .i64) (.pair ty23 .un))))):fnS (cyF ct127 hiBn) 1000 (.pair (.list (.int .i64)) (.pair (.int .i64) (.pair (.int .i64) (.pair ty23 .un)))) (.pair ty36 (.pair (.int .i64) .un)) (((((Tr.e).set 0 [.keep 0,.keep 3,.box 8 [.v ty36],.box 10 [.v (.list (.int .i64)),.v (.int .i64),.v (.int .i64),.o ty96,.o ty230]]).set 1 [.keep 0,.keep 3,.box 8 [.v ty36],.box 10 [.v (.list (.int .i64)),.v (.int .i64),.v (.int .i64),.o ty96,.o ty230],.val 11 (.int .i64),.keep 30,.keep 31,.val 32 (.int .i64)]).set 4 [.keep 8,.box 10 [.v (.list (.int .i64)),.v (.int .i64),.v (.int .i64),.o ty96,.o ty230]]).set 5 [.keep 3,.keep 8,.box 10 [.v (.list (.int .i64)),.v (.int .i64),.v (.int .i64),.o ty96,.o ty230],.keep 65,.val 66 (.int .i64)]) Tryz.f45 x=F45 x:=by kernel_rfl
theorem n45:cxC.fn.get 45=some Tryz.f45:=by kernel_rfl
theorem e45:cxC.ext.get 45=none:=by kernel_rfl
noncomputable def ct45:Tr Con:=(ct127).set 45 ⟨(.pair (.list (.int .i64)) (.pair (.int .i64) (.pair (.int .i64) (.pair ty23 .un)))),(.pair ty36 (.pair (.int .i64) .un)),F45⟩
theorem k45:CtOk ct45:=ct_set k127 (conB (hi:=hiBn) k127 n45 e45 x45)
noncomputable def F190 (x:D (.pair ty96 .un)):Option (D (.pair (.int .i64) .un)):=(bnd (F188 (x.1,())) (fun x0=>(cnd (notB x0.1) (some (2,())) (bndS (loopS (fun d1=>(cnd (ltI d1.1 (lenL (nth [] x.1.2.2.2.2.2.1 0))) (bnd (atL (nth [] x.1.2.2.2.2.2.1 0) d1.1) (fun x2=>(bnd (F232 (x.1,(x2,(0,())))) (fun x3=>(cnd (notB x3.1) (inR (inR (some (3,())))) (cnd (ltI 0 d1.1) (bnd (atL (nth [] x.1.2.2.2.2.2.1 0) (subI .i64 d1.1 1)) (fun x4=>(cnd (leI x2 x4) (inR (inR (some (10,())))) (some (.inl ((addI .i64 d1.1 1),())))))) (some (.inl ((addI .i64 d1.1 1),()))))))))) (inR (some (.inl ()))))) 1000000000 (0,())) (fun x5=>(bndS (loopS (fun d6=>(cnd (ltI d6.1 (lenL (nth [] x.1.2.2.2.2.2.1 1))) (bnd (atL (nth [] x.1.2.2.2.2.2.1 1) d6.1) (fun x7=>(bnd (F232 (x.1,(x7,(1,())))) (fun x8=>(cnd (notB x8.1) (inR (inR (some (3,())))) (cnd (ltI 0 d6.1) (bnd (atL (nth [] x.1.2.2.2.2.2.1 1) (subI .i64 d6.1 1)) (fun x9=>(cnd (leI x7 x9) (inR (inR (some (10,())))) (some (.inl ((addI .i64 d6.1 1),())))))) (some (.inl ((addI .i64 d6.1 1),()))))))))) (inR (some (.inl ()))))) 1000000000 (0,())) (fun x10=>(bndS (loopS (fun d11=>(cnd (ltI d11.1 (lenL (nth [] x.1.2.2.2.2.2.1 2))) (bnd (atL (nth [] x.1.2.2.2.2.2.1 2) d11.1) (fun x12=>(bnd (F232 (x.1,(x12,(2,())))) (fun x13=>(cnd (notB x13.1) (inR (inR (some (3,())))) (cnd (ltI 0 d11.1) (bnd (atL (nth [] x.1.2.2.2.2.2.1 2) (subI .i64 d11.1 1)) (fun x14=>(cnd (leI x12 x14) (inR (inR (some (10,())))) (some (.inl ((addI .i64 d11.1 1),())))))) (some (.inl ((addI .i64 d11.1 1),()))))))))) (inR (some (.inl ()))))) 1000000000 (0,())) (fun x15=>(bndS (loopS (fun d16=>(cnd (ltI d16.1 (lenL (nth [] x.1.2.2.2.2.2.1 3))) (bnd (atL (nth [] x.1.2.2.2.2.2.1 3) d16.1) (fun x17=>(bnd (F232 (x.1,(x17,(3,())))) (fun x18=>(cnd (notB x18.1) (inR (inR (some (3,())))) (cnd (ltI 0 d16.1) (bnd (atL (nth [] x.1.2.2.2.2.2.1 3) (subI .i64 d16.1 1)) (fun x19=>(cnd (leI x17 x19) (inR (inR (some (10,())))) (some (.inl ((addI .i64 d16.1 1),())))))) (some (.inl ((addI .i64 d16.1 1),()))))))))) (inR (some (.inl ()))))) 1000000000 (0,())) (fun x20=>(bndS (loopS (fun d21=>(cnd (ltI d21.1 (lenL (nth [] x.1.2.2.2.2.2.1 4))) (bnd (atL (nth [] x.1.2.2.2.2.2.1 4) d21.1) (fun x22=>(bnd (F232 (x.1,(x22,(4,())))) (fun x23=>(cnd (notB x23.1) (inR (inR (some (3,())))) (cnd (ltI 0 d21.1) (bnd (atL (nth [] x.1.2.2.2.2.2.1 4) (subI .i64 d21.1 1)) (fun x24=>(cnd (leI x22 x24) (inR (inR (some (10,())))) (some (.inl ((addI .i64 d21.1 1),())))))) (some (.inl ((addI .i64 d21.1 1),()))))))))) (inR (some (.inl ()))))) 1000000000 (0,())) (fun x25=>(bndS (loopS (fun d26=>(cnd (ltI d26.2.1 (lenL (nth [] x.1.2.2.2.2.2.1 0))) (bndS (bnd (atL (nth [] x.1.2.2.2.2.2.1 0) d26.2.1) (fun x27=>(bndS (loopS (fun d28=>(cnd (ltI d28.2.1 (addI .i64 x27 1)) (chk (nonneg d28.2.1) (chk (ltI d28.2.1 256) (bnd (atL d28.1.1 d28.2.1) (fun x29=>(cnd x29 (inR (inR (inR (inR (inR (some (7,()))))))) (chk (nonneg d28.2.1) (chk (ltI d28.2.1 256) (bnd (atL d28.1.1 d28.2.1) (fun x30=>(some (.inl (((setL d28.1.1 d28.2.1 true),()),((addI .i64 d28.2.1 1),()))))))))))))) (inR (some (.inl ((d28.1.1,()),())))))) 1000000000 ((d26.1.1,()),(x27,()))) (fun x31=>(some (.inl ((x31.1.1,()),()))))))) (fun x32=>(some (.inl ((x32.1.1,()),((addI .i64 d26.2.1 1),())))))) (inR (some (.inl ((d26.1.1,()),())))))) 1000000000 (((List.replicate 256 false),()),(0,()))) (fun x33=>(bndS (loopS (fun d34=>(cnd (ltI d34.2.1 (lenL (nth [] x.1.2.2.2.2.2.1 1))) (bndS (bnd (atL (nth [] x.1.2.2.2.2.2.1 1) d34.2.1) (fun x35=>(bndS (loopS (fun d36=>(cnd (ltI d36.2.1 (addI .i64 x35 2)) (chk (nonneg d36.2.1) (chk (ltI d36.2.1 256) (bnd (atL d36.1.1 d36.2.1) (fun x37=>(cnd x37 (inR (inR (inR (inR (inR (some (7,()))))))) (chk (nonneg d36.2.1) (chk (ltI d36.2.1 256) (bnd (atL d36.1.1 d36.2.1) (fun x38=>(some (.inl (((setL d36.1.1 d36.2.1 true),()),((addI .i64 d36.2.1 1),()))))))))))))) (inR (some (.inl ((d36.1.1,()),())))))) 1000000000 ((d34.1.1,()),(x35,()))) (fun x39=>(some (.inl ((x39.1.1,()),()))))))) (fun x40=>(some (.inl ((x40.1.1,()),((addI .i64 d34.2.1 1),())))))) (inR (some (.inl ((d34.1.1,()),())))))) 1000000000 ((x33.1.1,()),(0,()))) (fun x41=>(bndS (loopS (fun d42=>(cnd (ltI d42.2.1 (lenL (nth [] x.1.2.2.2.2.2.1 2))) (bndS (bnd (atL (nth [] x.1.2.2.2.2.2.1 2) d42.2.1) (fun x43=>(bndS (loopS (fun d44=>(cnd (ltI d44.2.1 (addI .i64 x43 4)) (chk (nonneg d44.2.1) (chk (ltI d44.2.1 256) (bnd (atL d44.1.1 d44.2.1) (fun x45=>(cnd x45 (inR (inR (inR (inR (inR (some (7,()))))))) (chk (nonneg d44.2.1) (chk (ltI d44.2.1 256) (bnd (atL d44.1.1 d44.2.1) (fun x46=>(some (.inl (((setL d44.1.1 d44.2.1 true),()),((addI .i64 d44.2.1 1),()))))))))))))) (inR (some (.inl ((d44.1.1,()),())))))) 1000000000 ((d42.1.1,()),(x43,()))) (fun x47=>(some (.inl ((x47.1.1,()),()))))))) (fun x48=>(some (.inl ((x48.1.1,()),((addI .i64 d42.2.1 1),())))))) (inR (some (.inl ((d42.1.1,()),())))))) 1000000000 ((x41.1.1,()),(0,()))) (fun x49=>(bndS (loopS (fun d50=>(cnd (ltI d50.2.1 (lenL (nth [] x.1.2.2.2.2.2.1 3))) (bndS (bnd (atL (nth [] x.1.2.2.2.2.2.1 3) d50.2.1) (fun x51=>(bndS (loopS (fun d52=>(cnd (ltI d52.2.1 (addI .i64 x51 8)) (chk (nonneg d52.2.1) (chk (ltI d52.2.1 256) (bnd (atL d52.1.1 d52.2.1) (fun x53=>(cnd x53 (inR (inR (inR (inR (inR (some (7,()))))))) (chk (nonneg d52.2.1) (chk (ltI d52.2.1 256) (bnd (atL d52.1.1 d52.2.1) (fun x54=>(some (.inl (((setL d52.1.1 d52.2.1 true),()),((addI .i64 d52.2.1 1),()))))))))))))) (inR (some (.inl ((d52.1.1,()),())))))) 1000000000 ((d50.1.1,()),(x51,()))) (fun x55=>(some (.inl ((x55.1.1,()),()))))))) (fun x56=>(some (.inl ((x56.1.1,()),((addI .i64 d50.2.1 1),())))))) (inR (some (.inl ((d50.1.1,()),())))))) 1000000000 ((x49.1.1,()),(0,()))) (fun x57=>(bndS (loopS (fun d58=>(cnd (ltI d58.2.1 (lenL (nth [] x.1.2.2.2.2.2.1 4))) (bndS (bnd (atL (nth [] x.1.2.2.2.2.2.1 4) d58.2.1) (fun x59=>(bndS (loopS (fun d60=>(cnd (ltI d60.2.1 (addI .i64 x59 16)) (chk (nonneg d60.2.1) (chk (ltI d60.2.1 256) (bnd (atL d60.1.1 d60.2.1) (fun x61=>(cnd x61 (inR (inR (inR (inR (inR (some (7,()))))))) (chk (nonneg d60.2.1) (chk (ltI d60.2.1 256) (bnd (atL d60.1.1 d60.2.1) (fun x62=>(some (.inl (((setL d60.1.1 d60.2.1 true),()),((addI .i64 d60.2.1 1),()))))))))))))) (inR (some (.inl ((d60.1.1,()),())))))) 1000000000 ((d58.1.1,()),(x59,()))) (fun x63=>(some (.inl ((x63.1.1,()),()))))))) (fun x64=>(some (.inl ((x64.1.1,()),((addI .i64 d58.2.1 1),())))))) (inR (some (.inl ((d58.1.1,()),())))))) 1000000000 ((x57.1.1,()),(0,()))) (fun x65=>(bndS (loopS (fun d66=>(cnd (ltI d66.1 (lenL (nth [] x.1.2.2.2.2.2.1 0))) (bnd (atL (nth [] x.1.2.2.2.2.2.1 0) d66.1) (fun x67=>(bnd (F231 ((nth [] x.1.2.2.2.2.2.1 0),((xorI .i64 x67 1),()))) (fun x68=>(cnd x68.2.1 (bnd (F232 (x.1,((minI x67 (xorI .i64 x67 1)),(1,())))) (fun x69=>(cnd x69.1 (inR (inR (some (11,())))) (some (.inl ((addI .i64 d66.1 1),())))))) (some (.inl ((addI .i64 d66.1 1),())))))))) (inR (some (.inl ()))))) 1000000000 (0,())) (fun x70=>(bndS (loopS (fun d71=>(cnd (ltI d71.1 (lenL (nth [] x.1.2.2.2.2.2.1 1))) (bnd (atL (nth [] x.1.2.2.2.2.2.1 1) d71.1) (fun x72=>(bnd (F231 ((nth [] x.1.2.2.2.2.2.1 1),((xorI .i64 x72 2),()))) (fun x73=>(cnd x73.2.1 (bnd (F232 (x.1,((minI x72 (xorI .i64 x72 2)),(2,())))) (fun x74=>(cnd x74.1 (inR (inR (some (11,())))) (some (.inl ((addI .i64 d71.1 1),())))))) (some (.inl ((addI .i64 d71.1 1),())))))))) (inR (some (.inl ()))))) 1000000000 (0,())) (fun x75=>(bndS (loopS (fun d76=>(cnd (ltI d76.1 (lenL (nth [] x.1.2.2.2.2.2.1 2))) (bnd (atL (nth [] x.1.2.2.2.2.2.1 2) d76.1) (fun x77=>(bnd (F231 ((nth [] x.1.2.2.2.2.2.1 2),((xorI .i64 x77 4),()))) (fun x78=>(cnd x78.2.1 (bnd (F232 (x.1,((minI x77 (xorI .i64 x77 4)),(3,())))) (fun x79=>(cnd x79.1 (inR (inR (some (11,())))) (some (.inl ((addI .i64 d76.1 1),())))))) (some (.inl ((addI .i64 d76.1 1),())))))))) (inR (some (.inl ()))))) 1000000000 (0,())) (fun x80=>(bndS (loopS (fun d81=>(cnd (ltI d81.1 (lenL (nth [] x.1.2.2.2.2.2.1 3))) (bnd (atL (nth [] x.1.2.2.2.2.2.1 3) d81.1) (fun x82=>(bnd (F231 ((nth [] x.1.2.2.2.2.2.1 3),((xorI .i64 x82 8),()))) (fun x83=>(cnd x83.2.1 (bnd (F232 (x.1,((minI x82 (xorI .i64 x82 8)),(4,())))) (fun x84=>(cnd x84.1 (inR (inR (some (11,())))) (some (.inl ((addI .i64 d81.1 1),())))))) (some (.inl ((addI .i64 d81.1 1),())))))))) (inR (some (.inl ()))))) 1000000000 (0,())) (fun x85=>(some (0,())))))))))))))))))))))))))))))))))
theorem x190 (x:D (.pair ty96 .un)):fnS (cyF ct45 hiBn) 1000 (.pair ty96 .un) (.pair (.int .i64) .un) ((((((((((Tr.e).set 4 [.keep 1,.keep 23,.keep 24]).set 5 [.keep 1,.keep 3,.keep 4,.keep 23,.keep 24,.keep 28,.keep 29,.val 30 (.int .i64)]).set 12 [.keep 1,.box 7 [.v (.arr 256 .bool)],.keep 54,.keep 55]).set 13 [.keep 1,.box 7 [.v (.arr 256 .bool)],.keep 8,.keep 54,.keep 55,.keep 59,.keep 60,.val 61 (.int .i64)]).set 14 [.keep 1,.box 7 [.v (.arr 256 .bool)],.keep 8,.keep 54,.keep 55,.keep 59,.keep 60,.keep 61]).set 16 [.keep 1,.box 7 [.v (.arr 256 .bool)],.keep 8,.keep 54,.keep 55,.keep 59,.keep 60,.keep 61]).set 17 [.keep 1,.box 7 [.v (.arr 256 .bool)],.keep 8,.keep 11,.val 12 (.int .i64),.keep 54,.keep 55,.keep 59,.keep 60,.keep 61]).set 24 [.keep 1,.keep 81]).set 25 [.keep 1,.keep 13,.keep 81,.keep 87,.keep 88,.val 89 (.int .i64)]) Tryz.f190 x=F190 x:=by kernel_rfl
theorem n190:cxC.fn.get 190=some Tryz.f190:=by kernel_rfl
theorem e190:cxC.ext.get 190=none:=by kernel_rfl
noncomputable def ct190:Tr Con:=(ct45).set 190 ⟨.pair ty96 .un,(.pair (.int .i64) .un),F190⟩
theorem k190:CtOk ct190:=ct_set k45 (conB (hi:=hiBn) k45 n190 e190 x190)
noncomputable def F235 (x:D (.pair (.int .i64) .un)):Option (D (.pair .bool .un)):=(cnd (leI 0 x.1) (some ((ltI x.1 256),())) (some (false,())))
theorem x235 (x:D (.pair (.int .i64) .un)):fnS (cyF ct190 hiBn) 1000 (.pair (.int .i64) .un) (.pair .bool .un) (Tr.e) Tryz.f235 x=F235 x:=by kernel_rfl
theorem n235:cxC.fn.get 235=some Tryz.f235:=by kernel_rfl
theorem e235:cxC.ext.get 235=none:=by kernel_rfl
noncomputable def ct235:Tr Con:=(ct190).set 235 ⟨(.pair (.int .i64) .un),.pair .bool .un,F235⟩
theorem k235:CtOk ct235:=ct_set k190 (conB (hi:=hiBn) k190 n235 e235 x235)
noncomputable def F191 (x:D (.pair ty230 (.pair (.int .i64) .un))):Option (D (.pair (.int .i64) .un)):=(cnd (ltI x.2.1 1) (some (1,())) (cnd (ltI 6 x.2.1) (some (1,())) (cnd (neI (lenL x.1.1) x.2.1) (some (3,())) (bndS (loopS (fun d0=>(cnd (ltI d0.2.1 (lenL x.1.1)) (bndS (bnd (atL x.1.1 d0.2.1) (fun x1=>(bndS (loopS (fun d2=>(cnd (ltI d2.1 (lenL x1)) (bnd (atL x1 d2.1) (fun x3=>(bnd (F235 (x3,())) (fun x4=>(cnd (notB x4.1) (inR (inR (inR (inR (inR (some (2,()))))))) (some (.inl ((addI .i64 d2.1 1),())))))))) (inR (some (.inl ()))))) 1000000000 (0,())) (fun x5=>(some (.inl ((addI .i64 d0.1 (lenL x1)),()))))))) (fun x6=>(some (.inl (x6.1,((addI .i64 d0.2.1 1),())))))) (inR (some (.inl (d0.1,())))))) 1000000000 (0,(0,()))) (fun x7=>(bndS (loopS (fun d8=>(cnd (ltI d8.2.1 (lenL x.1.1)) (bndS (bnd (atL x.1.1 d8.2.1) (fun x9=>(bndS (loopS (fun d10=>(cnd (ltI d10.2.1 (lenL x9)) (bnd (atL x9 d10.2.1) (fun x11=>(some (.inl ((mPut d10.1 x11 true),((addI .i64 d10.2.1 1),())))))) (inR (some (.inl (d10.1,())))))) 1000000000 (d8.1,(0,()))) (fun x12=>(some (.inl (x12.1,()))))))) (fun x13=>(some (.inl (x13.1,((addI .i64 d8.2.1 1),())))))) (inR (some (.inl (d8.1,())))))) 1000000000 ([],(0,()))) (fun x14=>(cnd (neI (lenL x14.1) x7.1) (some (7,())) (some (0,()))))))))))
theorem x191 (x:D (.pair ty230 (.pair (.int .i64) .un))):fnS (cyF ct235 hiBn) 1000 (.pair ty230 (.pair (.int .i64) .un)) (.pair (.int .i64) .un) ((((((Tr.e).set 0 [.keep 2,.val 5 (.int .i64)]).set 1 [.keep 2,.val 5 (.int .i64),.keep 22,.keep 23,.val 24 (.int .i64)]).set 2 [.keep 2,.val 5 (.int .i64),.keep 22,.keep 23,.keep 24]).set 4 [.keep 2,.keep 5,.keep 7,.keep 22,.keep 23,.keep 24]).set 5 [.keep 2,.keep 5,.keep 7,.keep 22,.keep 23,.keep 24,.keep 28,.keep 29,.val 30 (.int .i64)]) Tryz.f191 x=F191 x:=by kernel_rfl
theorem n191:cxC.fn.get 191=some Tryz.f191:=by kernel_rfl
theorem e191:cxC.ext.get 191=none:=by kernel_rfl
noncomputable def ct191:Tr Con:=(ct235).set 191 ⟨(.pair ty230 (.pair (.int .i64) .un)),(.pair (.int .i64) .un),F191⟩
theorem k191:CtOk ct191:=ct_set k235 (conB (hi:=hiBn) k235 n191 e191 x191)
noncomputable def F192 (x:D (.pair ty36 (.pair (.int .i64) .un))):Option (D (.pair (.int .i64) .un)):=(bndS (loopS (fun d0=>(cnd (ltI d0.1 (lenL x.1.2.2.2.1)) (bnd (atL x.1.2.2.2.1 d0.1) (fun x1=>(cnd (leI x1.2.2.1 x.2.1) (cnd (ltI x.2.1 (addI .i64 x1.2.2.1 x1.2.2.2.1)) (inR (inR (some (d0.1,())))) (some (.inl ((addI .i64 d0.1 1),())))) (some (.inl ((addI .i64 d0.1 1),())))))) (inR (some (.inl ()))))) 1000000000 (0,())) (fun x2=>(some ((-1),()))))
theorem x192 (x:D (.pair ty36 (.pair (.int .i64) .un))):fnS (cyF ct191 hiBn) 1000 (.pair ty36 (.pair (.int .i64) .un)) (.pair (.int .i64) .un) (Tr.e) Tryz.f192 x=F192 x:=by kernel_rfl
theorem n192:cxC.fn.get 192=some Tryz.f192:=by kernel_rfl
theorem e192:cxC.ext.get 192=none:=by kernel_rfl
noncomputable def ct192:Tr Con:=(ct191).set 192 ⟨(.pair ty36 (.pair (.int .i64) .un)),(.pair (.int .i64) .un),F192⟩
theorem k192:CtOk ct192:=ct_set k191 (conB (hi:=hiBn) k191 n192 e192 x192)
noncomputable def F239 (x:D (.pair ty96 (.pair (.int .i64) .un))):Option (D ty148):=(bnd (F231 ((nth [] x.1.2.2.2.2.2.1 0),((anotI .i64 x.2.1 0),()))) (fun x0=>(cnd x0.2.1 (some (0,((anotI .i64 x.2.1 0),()))) (bnd (F231 ((nth [] x.1.2.2.2.2.2.1 1),((anotI .i64 x.2.1 1),()))) (fun x1=>(cnd x1.2.1 (some (1,((anotI .i64 x.2.1 1),()))) (bnd (F231 ((nth [] x.1.2.2.2.2.2.1 2),((anotI .i64 x.2.1 3),()))) (fun x2=>(cnd x2.2.1 (some (2,((anotI .i64 x.2.1 3),()))) (bnd (F231 ((nth [] x.1.2.2.2.2.2.1 3),((anotI .i64 x.2.1 7),()))) (fun x3=>(cnd x3.2.1 (some (3,((anotI .i64 x.2.1 7),()))) (bnd (F231 ((nth [] x.1.2.2.2.2.2.1 4),((anotI .i64 x.2.1 15),()))) (fun x4=>(cnd x4.2.1 (some (4,((anotI .i64 x.2.1 15),()))) (some ((-1),(0,()))))))))))))))))))
theorem x239 (x:D (.pair ty96 (.pair (.int .i64) .un))):fnS (cyF ct192 hiBn) 1000 (.pair ty96 (.pair (.int .i64) .un)) ty148 (Tr.e) Tryz.f239 x=F239 x:=by kernel_rfl
theorem n239:cxC.fn.get 239=some Tryz.f239:=by kernel_rfl
theorem e239:cxC.ext.get 239=none:=by kernel_rfl
noncomputable def ct239:Tr Con:=(ct192).set 239 ⟨(.pair ty96 (.pair (.int .i64) .un)),ty148,F239⟩
theorem k239:CtOk ct239:=ct_set k192 (conB (hi:=hiBn) k192 n239 e239 x239)
noncomputable def F193 (x:D (.pair ty96 (.pair (.int .i64) .un))):Option (D (.pair .bool .un)):=(bnd (F190 (x.1,())) (fun x0=>(cnd (neI x0.1 0) (some (false,())) (bnd (F232 (x.1,(x.2.1,(0,())))) (fun x1=>(cnd (notB x1.1) (some (false,())) (bnd (F239 (x.1,(x.2.1,()))) (fun x2=>(some ((leI 0 x2.1),()))))))))))
theorem x193 (x:D (.pair ty96 (.pair (.int .i64) .un))):fnS (cyF ct239 hiBn) 1000 (.pair ty96 (.pair (.int .i64) .un)) (.pair .bool .un) (Tr.e) Tryz.f193 x=F193 x:=by kernel_rfl
theorem n193:cxC.fn.get 193=some Tryz.f193:=by kernel_rfl
theorem e193:cxC.ext.get 193=none:=by kernel_rfl
noncomputable def ct193:Tr Con:=(ct239).set 193 ⟨(.pair ty96 (.pair (.int .i64) .un)),.pair .bool .un,F193⟩
theorem k193:CtOk ct193:=ct_set k239 (conB (hi:=hiBn) k239 n193 e193 x193)
noncomputable def F128 (x:D (.pair ty36 .un)):Option (D (.pair (.int .i64) .un)):=(bnd (F125 (x.1,())) (fun x0=>(cnd (notB x0.1) (some (2,())) (bndS (loopS (fun d1=>(cnd (ltI d1.2.1 (lenL x.1.2.2.2.1)) (bnd (atL x.1.2.2.2.1 d1.2.1) (fun x2=>(bnd (F190 (x2,())) (fun x3=>(cnd (neI x3.1 0) (inR (inR (some (x3.1,())))) (cnd (neI x2.2.2.1 d1.1) (inR (inR (some (10,())))) (some (.inl ((addI .i64 d1.1 x2.2.2.2.1),((addI .i64 d1.2.1 1),())))))))))) (inR (some (.inl ()))))) 1000000000 (0,(0,()))) (fun x4=>(cnd (neI (lenL x.1.2.2.2.2.1) (lenL x.1.1)) (some (3,())) (bndS (loopS (fun d5=>(cnd (ltI d5.1 (lenL x.1.2.2.2.2.1)) (bndS (bnd (atL x.1.2.2.2.2.1 d5.1) (fun x6=>(bnd (F191 ((x6.1,()),((lenL x.1.2.2.2.1),()))) (fun x7=>(cnd (neI x7.1 0) (inR (inR (inR (some (x7.1,()))))) (bndS (loopS (fun d8=>(cnd (ltI d8.1 (lenL x6.1)) (bnd (atL x6.1 d8.1) (fun x9=>(cnd (ltI x.1.2.2.1 (lenL x9)) (inR (inR (inR (inR (inR (some (9,()))))))) (some (.inl ((addI .i64 d8.1 1),())))))) (inR (some (.inl ()))))) 1000000000 (0,())) (fun x10=>(some (.inl ()))))))))) (fun x11=>(some (.inl ((addI .i64 d5.1 1),()))))) (inR (some (.inl ()))))) 1000000000 (0,())) (fun x12=>(bndS (loopS (fun d13=>(cnd (ltI d13.2.1 (lenL x.1.2.2.2.2.1)) (bndS (bnd (atL x.1.2.2.2.2.1 d13.2.1) (fun x14=>(bndS (loopS (fun d15=>(cnd (ltI d15.2.1 (lenL x14.1)) (bndS (bnd (atL x14.1 d15.2.1) (fun x16=>(bndS (loopS (fun d17=>(cnd (ltI d17.2.1 (lenL x16)) (bnd (atL x16 d17.2.1) (fun x18=>(bnd (F192 (x.1,(x18,()))) (fun x19=>(cnd (neI x19.1 d15.2.1) (inR (inR (inR (inR (inR (inR (inR (inR (some (2,())))))))))) (cnd (mGet d17.1 x18) (inR (inR (inR (inR (inR (inR (inR (inR (some (7,())))))))))) (bnd (atL x.1.2.2.2.1 d15.2.1) (fun x20=>(bnd (F193 (x20,(x18,()))) (fun x21=>(cnd x21.1 (inR (inR (inR (inR (inR (inR (inR (inR (some (7,())))))))))) (some (.inl ((mPut d17.1 x18 true),((addI .i64 d17.2.1 1),()))))))))))))))) (inR (some (.inl (d17.1,())))))) 1000000000 (d15.1,(0,()))) (fun x22=>(some (.inl (x22.1,()))))))) (fun x23=>(some (.inl (x23.1,((addI .i64 d15.2.1 1),())))))) (inR (some (.inl (d15.1,())))))) 1000000000 (d13.1,(0,()))) (fun x24=>(some (.inl (x24.1,()))))))) (fun x25=>(some (.inl (x25.1,((addI .i64 d13.2.1 1),())))))) (inR (some (.inl (d13.1,())))))) 1000000000 ([],(0,()))) (fun x26=>(some (0,()))))))))))))
theorem x128 (x:D (.pair ty36 .un)):fnS (cyF ct193 hiBn) 1000 (.pair ty36 .un) (.pair (.int .i64) .un) ((((((((((((((((Tr.e).set 0 [.keep 1]).set 1 [.keep 1,.val 3 (.int .i64),.keep 23,.keep 24,.val 25 (.int .i64)]).set 4 [.keep 1]).set 5 [.keep 1,.keep 51,.keep 52,.val 53 (.int .i64)]).set 6 [.keep 1,.keep 51,.keep 52,.keep 53]).set 8 [.keep 1,.keep 51,.keep 52,.keep 53]).set 9 [.keep 1,.keep 51,.keep 52,.keep 53,.keep 66,.keep 67,.val 68 (.int .i64)]).set 12 [.mp 12]).set 13 [.keep 1,.mp 12,.keep 81,.keep 82,.val 83 (.int .i64)]).set 14 [.keep 1,.mp 12,.keep 81,.keep 82,.keep 83]).set 16 [.keep 1,.mp 12,.keep 81,.keep 82,.keep 83]).set 17 [.keep 1,.mp 12,.keep 81,.keep 82,.keep 83,.keep 88,.keep 89,.val 90 (.int .i64)]).set 18 [.keep 1,.mp 12,.keep 81,.keep 82,.keep 83,.keep 88,.keep 89,.keep 90]).set 20 [.keep 1,.mp 12,.keep 81,.keep 82,.keep 83,.keep 88,.keep 89,.keep 90]).set 21 [.keep 1,.mp 12,.keep 15,.keep 81,.keep 82,.keep 83,.keep 88,.keep 89,.keep 90,.keep 95,.keep 96,.val 97 (.int .i64)]) Tryz.f128 x=F128 x:=by kernel_rfl
theorem n128:cxC.fn.get 128=some Tryz.f128:=by kernel_rfl
theorem e128:cxC.ext.get 128=none:=by kernel_rfl
noncomputable def ct128:Tr Con:=(ct193).set 128 ⟨.pair ty36 .un,(.pair (.int .i64) .un),F128⟩
theorem k128:CtOk ct128:=ct_set k193 (conB (hi:=hiBn) k193 n128 e128 x128)
noncomputable def F46 (x:D (.pair ty36 .un)):Option (D (.pair (.int .i64) .un)):=(bnd (F128 (x.1,())) (fun x0=>(cnd (neI x0.1 0) (some (0,())) (bnd (atL x.1.2.2.2.1 (subI .i64 (lenL x.1.2.2.2.1) 1)) (fun x1=>(some ((addI .i64 x1.2.2.1 x1.2.2.2.1),())))))))
theorem x46 (x:D (.pair ty36 .un)):fnS (cyF ct128 hiBn) 1000 (.pair ty36 .un) (.pair (.int .i64) .un) (Tr.e) Tryz.f46 x=F46 x:=by kernel_rfl
theorem n46:cxC.fn.get 46=some Tryz.f46:=by kernel_rfl
theorem e46:cxC.ext.get 46=none:=by kernel_rfl
noncomputable def ct46:Tr Con:=(ct128).set 46 ⟨.pair ty36 .un,(.pair (.int .i64) .un),F46⟩
theorem k46:CtOk ct46:=ct_set k128 (conB (hi:=hiBn) k128 n46 e46 x46)
noncomputable def F47 (x:D .un):Option (D (.pair ty85 .un)):=(some ((0,(0,((-1),((-1),((-1),((-1),((-1),((-1),((-1),(0,(false,(false,(false,(0,([],([],())))))))))))))))),()))
theorem x47 (x:D .un):fnS (cyF ct46 hiBn) 1000 .un (.pair ty85 .un) (Tr.e) Tryz.f47 x=F47 x:=by kernel_rfl
theorem n47:cxC.fn.get 47=some Tryz.f47:=by kernel_rfl
theorem e47:cxC.ext.get 47=none:=by kernel_rfl
noncomputable def ct47:Tr Con:=(ct46).set 47 ⟨.un,.pair ty85 .un,F47⟩
theorem k47:CtOk ct47:=ct_set k46 (conB (hi:=hiBn) k46 n47 e47 x47)
noncomputable def F48 (x:D (.pair (.int .i64) .un)):Option (D (.pair ty40 (.pair (.int .i64) .un))):=(cnd (ltI x.1 1) (some ((0,([],())),(1,()))) (cnd (ltI 32 x.1) (some ((0,([],())),(1,()))) (some ((x.1,([],())),(0,())))))
theorem x48 (x:D (.pair (.int .i64) .un)):fnS (cyF ct47 hiBn) 1000 (.pair (.int .i64) .un) (.pair ty40 (.pair (.int .i64) .un)) (Tr.e) Tryz.f48 x=F48 x:=by kernel_rfl
theorem n48:cxC.fn.get 48=some Tryz.f48:=by kernel_rfl
theorem e48:cxC.ext.get 48=none:=by kernel_rfl
noncomputable def ct48:Tr Con:=(ct47).set 48 ⟨(.pair (.int .i64) .un),(.pair ty40 (.pair (.int .i64) .un)),F48⟩
theorem k48:CtOk ct48:=ct_set k47 (conB (hi:=hiBn) k47 n48 e48 x48)
noncomputable def F50 (x:D .un):Option (D ty230):=(chk (okMk 4 4 24) (some ((rep 4 []),())))
theorem x50 (x:D .un):fnS (cyF ct48 hiBn) 1000 .un ty230 (Tr.e) Tryz.f50 x=F50 x:=by kernel_rfl
theorem n50:cxC.fn.get 50=some Tryz.f50:=by kernel_rfl
theorem e50:cxC.ext.get 50=none:=by kernel_rfl
noncomputable def ct50:Tr Con:=(ct48).set 50 ⟨.un,ty230,F50⟩
theorem k50:CtOk ct50:=ct_set k48 (conB (hi:=hiBn) k48 n50 e50 x50)
noncomputable def F51 (x:D (.pair (.int .i64) .un)):Option (D (.pair ty44 (.pair (.int .i64) .un))):=(cnd (ltI x.1 0) (some ([],(2,()))) (cnd (ltI 64 x.1) (some ([],(2,()))) (chk (okMk x.1 x.1 16) (some ((rep x.1 (0,(0,()))),(0,()))))))
theorem x51 (x:D (.pair (.int .i64) .un)):fnS (cyF ct50 hiBn) 1000 (.pair (.int .i64) .un) (.pair ty44 (.pair (.int .i64) .un)) (Tr.e) Tryz.f51 x=F51 x:=by kernel_rfl
theorem n51:cxC.fn.get 51=some Tryz.f51:=by kernel_rfl
theorem e51:cxC.ext.get 51=none:=by kernel_rfl
noncomputable def ct51:Tr Con:=(ct50).set 51 ⟨(.pair (.int .i64) .un),(.pair ty44 (.pair (.int .i64) .un)),F51⟩
theorem k51:CtOk ct51:=ct_set k50 (conB (hi:=hiBn) k50 n51 e51 x51)
noncomputable def F52 (x:D (.pair (.int .i64) .un)):Option (D (.pair ty46 (.pair (.int .i64) .un))):=(cnd (ltI x.1 0) (some ((0,([],())),(2,()))) (cnd (ltI 32 x.1) (some ((0,([],())),(2,()))) (some ((x.1,([],())),(0,())))))
theorem x52 (x:D (.pair (.int .i64) .un)):fnS (cyF ct51 hiBn) 1000 (.pair (.int .i64) .un) (.pair ty46 (.pair (.int .i64) .un)) (Tr.e) Tryz.f52 x=F52 x:=by kernel_rfl
theorem n52:cxC.fn.get 52=some Tryz.f52:=by kernel_rfl
theorem e52:cxC.ext.get 52=none:=by kernel_rfl
noncomputable def ct52:Tr Con:=(ct51).set 52 ⟨(.pair (.int .i64) .un),(.pair ty46 (.pair (.int .i64) .un)),F52⟩
theorem k52:CtOk ct52:=ct_set k51 (conB (hi:=hiBn) k51 n52 e52 x52)
noncomputable def F129 (x:D .un):Option (D (.pair ty182 .un)):=(some ((0,(false,())),()))
theorem x129 (x:D .un):fnS (cyF ct52 hiBn) 1000 .un (.pair ty182 .un) (Tr.e) Tryz.f129 x=F129 x:=by kernel_rfl
theorem n129:cxC.fn.get 129=some Tryz.f129:=by kernel_rfl
theorem e129:cxC.ext.get 129=none:=by kernel_rfl
noncomputable def ct129:Tr Con:=(ct52).set 129 ⟨.un,.pair ty182 .un,F129⟩
theorem k129:CtOk ct129:=ct_set k52 (conB (hi:=hiBn) k52 n129 e129 x129)
noncomputable def F130 (x:D (.pair (.list .bool) .un)):Option (D ty148):=(cnd (ltI 16 (lenL x.1)) (some (0,(9,()))) (bndS (loopS (fun d0=>(cnd (ltI d0.2.1 (lenL x.1)) (bnd (atL x.1 d0.2.1) (fun x1=>(cnd x1 (chk (nonneg d0.2.1) (some (.inl ((orI .i64 d0.1 (shlI .i64 1 d0.2.1)),((addI .i64 d0.2.1 1),()))))) (some (.inl (d0.1,((addI .i64 d0.2.1 1),()))))))) (inR (some (.inl (d0.1,())))))) 1000000000 (0,(0,()))) (fun x2=>(some (x2.1,(0,()))))))
theorem x130 (x:D (.pair (.list .bool) .un)):fnS (cyF ct129 hiBn) 1000 (.pair (.list .bool) .un) ty148 (((Tr.e).set 0 [.val 4 (.int .i64)]).set 1 [.val 4 (.int .i64),.keep 10,.keep 11,.val 12 (.int .i64)]) Tryz.f130 x=F130 x:=by kernel_rfl
theorem n130:cxC.fn.get 130=some Tryz.f130:=by kernel_rfl
theorem e130:cxC.ext.get 130=none:=by kernel_rfl
noncomputable def ct130:Tr Con:=(ct129).set 130 ⟨(.pair (.list .bool) .un),ty148,F130⟩
theorem k130:CtOk ct130:=ct_set k129 (conB (hi:=hiBn) k129 n130 e130 x130)
noncomputable def F194 (x:D ty148):Option (D (.pair .bool .un)):=(cnd (leI 0 x.1) (chk (nonneg x.2.1) (some ((ltI x.1 (shlI .i64 1 x.2.1)),()))) (some (false,())))
theorem x194 (x:D ty148):fnS (cyF ct130 hiBn) 1000 ty148 (.pair .bool .un) (Tr.e) Tryz.f194 x=F194 x:=by kernel_rfl
theorem n194:cxC.fn.get 194=some Tryz.f194:=by kernel_rfl
theorem e194:cxC.ext.get 194=none:=by kernel_rfl
noncomputable def ct194:Tr Con:=(ct130).set 194 ⟨ty148,.pair .bool .un,F194⟩
theorem k194:CtOk ct194:=ct_set k130 (conB (hi:=hiBn) k130 n194 e194 x194)
noncomputable def F131 (x:D ty148):Option (D (.pair (.list (.int .u8)) (.pair (.int .i64) .un))):=(bnd (F185 (x.1,())) (fun x0=>(cnd (notB x0.1) (some ([],(2,()))) (bnd (F194 (x.2.1,(x.1,()))) (fun x1=>(cnd (notB x1.1) (some ([],(3,()))) (chk (okMk 32 32 1) (chk (leI (lenL (73::(78::(79::(68::[]))))) (lenL (rep 32 0))) (chk (inL? (copyL (rep 32 0) (73::(78::(79::(68::[]))))) 4) (bnd (atL (copyL (rep 32 0) (73::(78::(79::(68::[]))))) 4) (fun x2=>(chk (inL? (setL (copyL (rep 32 0) (73::(78::(79::(68::[]))))) 4 (wrp .u8 x.1)) 5) (bnd (atL (setL (copyL (rep 32 0) (73::(78::(79::(68::[]))))) 4 (wrp .u8 x.1)) 5) (fun x3=>(chk (inL? (setL (setL (copyL (rep 32 0) (73::(78::(79::(68::[]))))) 4 (wrp .u8 x.1)) 5 (wrp .u8 x.2.1)) 6) (bnd (atL (setL (setL (copyL (rep 32 0) (73::(78::(79::(68::[]))))) 4 (wrp .u8 x.1)) 5 (wrp .u8 x.2.1)) 6) (fun x4=>(chk (okCut 0 7 (lenL (setL (setL (setL (copyL (rep 32 0) (73::(78::(79::(68::[]))))) 4 (wrp .u8 x.1)) 5 (wrp .u8 x.2.1)) 6 (wrp .u8 (shrI .i64 x.2.1 8))))) (bndS (loopS (fun d5=>(cnd (ltI d5.2.1 7) (chk (inL? (cutL (setL (setL (setL (copyL (rep 32 0) (73::(78::(79::(68::[]))))) 4 (wrp .u8 x.1)) 5 (wrp .u8 x.2.1)) 6 (wrp .u8 (shrI .i64 x.2.1 8))) 0 7) d5.2.1) (bnd (atL (setL (setL (setL (copyL (rep 32 0) (73::(78::(79::(68::[]))))) 4 (wrp .u8 x.1)) 5 (wrp .u8 x.2.1)) 6 (wrp .u8 (shrI .i64 x.2.1 8))) d5.2.1) (fun x6=>(some (.inl ((addI .i64 d5.1 (wrp .i64 x6)),((addI .i64 d5.2.1 1),()))))))) (inR (some (.inl (d5.1,())))))) 1000000000 (0,(0,()))) (fun x7=>(chk (inL? (setL (setL (setL (copyL (rep 32 0) (73::(78::(79::(68::[]))))) 4 (wrp .u8 x.1)) 5 (wrp .u8 x.2.1)) 6 (wrp .u8 (shrI .i64 x.2.1 8))) 7) (bnd (atL (setL (setL (setL (copyL (rep 32 0) (73::(78::(79::(68::[]))))) 4 (wrp .u8 x.1)) 5 (wrp .u8 x.2.1)) 6 (wrp .u8 (shrI .i64 x.2.1 8))) 7) (fun x8=>(some ((setL (setL (setL (setL (copyL (rep 32 0) (73::(78::(79::(68::[]))))) 4 (wrp .u8 x.1)) 5 (wrp .u8 x.2.1)) 6 (wrp .u8 (shrI .i64 x.2.1 8))) 7 (wrp .u8 (remI .i64 x7.1 251))),(0,()))))))))))))))))))))))))))
theorem x131 (x:D ty148):fnS (cyF ct194 hiBn) 1000 ty148 (.pair (.list (.int .u8)) (.pair (.int .i64) .un)) (((Tr.e).set 0 [.keep 6,.val 7 (.int .i64)]).set 1 [.keep 6,.val 7 (.int .i64),.keep 34,.keep 35,.val 36 (.int .i64)]) Tryz.f131 x=F131 x:=by kernel_rfl
theorem n131:cxC.fn.get 131=some Tryz.f131:=by kernel_rfl
theorem e131:cxC.ext.get 131=none:=by kernel_rfl
noncomputable def ct131:Tr Con:=(ct194).set 131 ⟨ty148,(.pair (.list (.int .u8)) (.pair (.int .i64) .un)),F131⟩
theorem k131:CtOk ct131:=ct_set k194 (conB (hi:=hiBn) k194 n131 e131 x131)
noncomputable def F53 (x:D (.pair ty27 .un)):Option (D (.pair ty48 (.pair (.list (.list (.int .u8))) .un))):=(bnd (F41 (x.1,())) (fun x0=>(bnd (atL x0.1 (subI .i64 (lenL x0.1) 1)) (fun x1=>(chk (okMk x1 x1 24) (bndS (loopS (fun d2=>(cnd (ltI d2.2.1 (lenL (rep (α:=List Int) x1 []))) (chk (okMk 32 32 1) (chk (inL? d2.1 d2.2.1) (chk (inL? d2.1 d2.2.1) (some (.inl ((setL d2.1 d2.2.1 (rep 32 0)),((addI .i64 d2.2.1 1),()))))))) (inR (some (.inl (d2.1,())))))) 1000000000 ((rep (α:=List Int) x1 []),(0,()))) (fun x3=>(bndS (loopS (fun d4=>(cnd (ltI d4.2.2.1 (lenL x.1.2.2.2.2.2.2.2.2.2.2.1)) (bndS (bnd (atL x.1.2.2.2.2.2.2.2.2.2.2.1 d4.2.2.1) (fun x5=>(bnd (atL x0.1 d4.2.2.1) (fun x6=>(bnd (F129 ()) (fun x7=>(chk (okMk x5.1 x5.1 1) (bndS (loopS (fun d8=>(cnd (ltI d8.2.2.1 (quoI .i64 (lenL x5.2.1) 32)) (chk (inL? d8.2.1.2.2.2.2.2.2.2.2.1 d8.2.2.1) (bnd (atL d8.2.1.2.2.2.2.2.2.2.2.1 d8.2.2.1) (fun x9=>(bnd (atL x0.1 d4.2.2.1) (fun x10=>(chk (inL? d8.1 (addI .i64 (addI .i64 x10 1) d8.2.2.1)) (chk (inL? d8.1 (addI .i64 (addI .i64 x10 1) d8.2.2.1)) (chk (okCut (mulI .i64 d8.2.2.1 32) (lenL x5.2.1) (lenL x5.2.1)) (bnd (atL d8.1 (addI .i64 (addI .i64 x10 1) d8.2.2.1)) (fun x11=>(some (.inl ((setL d8.1 (addI .i64 (addI .i64 x10 1) d8.2.2.1) (copyL x11 (cutL x5.2.1 (mulI .i64 d8.2.2.1 32) (lenL x5.2.1)))),((d8.2.1.1,(d8.2.1.2.1,(d8.2.1.2.2.1,(d8.2.1.2.2.2.1,(d8.2.1.2.2.2.2.1,(d8.2.1.2.2.2.2.2.1,(d8.2.1.2.2.2.2.2.2.1,(d8.2.1.2.2.2.2.2.2.2.1,((setL d8.2.1.2.2.2.2.2.2.2.2.1 d8.2.2.1 true),()))))))))),((addI .i64 d8.2.2.1 1),()))))))))))))))) (inR (some (.inl (d8.1,((d8.2.1.1,(d8.2.1.2.1,(d8.2.1.2.2.1,(d8.2.1.2.2.2.1,(d8.2.1.2.2.2.2.1,(d8.2.1.2.2.2.2.2.1,(d8.2.1.2.2.2.2.2.2.1,(d8.2.1.2.2.2.2.2.2.2.1,(d8.2.1.2.2.2.2.2.2.2.2.1,()))))))))),()))))))) 1000000000 (d4.1,((x5.1,((quoI .i64 (lenL x5.2.1) 32),(x6,((-1),((-1),(false,(x7.1,((0,(((0::(0::(0::(0::(0::(0::(0::(0::[])))))))),((0::(0::[])),((),()))),())),((rep x5.1 false),()))))))))),(0,())))) (fun x12=>(bnd (F130 (x12.2.1.2.2.2.2.2.2.2.2.1,())) (fun x13=>(bnd (F131 (x12.2.1.2.1,(x13.1,()))) (fun x14=>(bnd (atL x0.1 d4.2.2.1) (fun x15=>(chk (inL? x12.1 x15) (chk (inL? x12.1 x15) (bnd (atL x12.1 x15) (fun x16=>(chk (roomL d4.2.1 ((x12.2.1.1,(x12.2.1.2.1,(x12.2.1.2.2.1,(x12.2.1.2.2.2.1,(x12.2.1.2.2.2.2.1,(x12.2.1.2.2.2.2.2.1,(x12.2.1.2.2.2.2.2.2.1,(x12.2.1.2.2.2.2.2.2.2.1,(x12.2.1.2.2.2.2.2.2.2.2.1,())))))))))::[]) 200) (some (.inl ((setL x12.1 x15 (copyL x16 x14.1)),((appL d4.2.1 ((x12.2.1.1,(x12.2.1.2.1,(x12.2.1.2.2.1,(x12.2.1.2.2.2.1,(x12.2.1.2.2.2.2.1,(x12.2.1.2.2.2.2.2.1,(x12.2.1.2.2.2.2.2.2.1,(x12.2.1.2.2.2.2.2.2.2.1,(x12.2.1.2.2.2.2.2.2.2.2.1,())))))))))::[])),())))))))))))))))))))))))) (fun x17=>(some (.inl (x17.1,(x17.2.1,((addI .i64 d4.2.2.1 1),()))))))) (inR (some (.inl (d4.1,(d4.2.1,()))))))) 1000000000 (x3.1,([],(0,())))) (fun x18=>(some (x18.2.1,(x18.1,()))))))))))))
theorem x53 (x:D (.pair ty27 .un)):fnS (cyF ct131 hiBn) 1000 (.pair ty27 .un) (.pair ty48 (.pair (.list (.list (.int .u8))) .un)) ((((((((Tr.e).set 0 [.keep 1,.keep 4,.owns 5 (.int .u8)]).set 1 [.keep 1,.keep 4,.owns 5 (.int .u8),.keep 26,.val 27 (.int .i64)]).set 4 [.owns 5 (.int .u8),.own 7 ty191]).set 5 [.keep 4,.owns 5 (.int .u8),.own 7 ty191,.keep 36,.keep 37,.val 38 (.int .i64)]).set 6 [.keep 4,.owns 5 (.int .u8),.own 7 ty191,.keep 36,.keep 37,.keep 38]).set 8 [.keep 4,.owns 5 (.int .u8),.keep 7,.keep 8,.box 10 [.v (.int .i64),.v (.int .i64),.v (.int .i64),.v (.int .i64),.v (.int .i64),.v .bool,.v ty182,.v ty189,.o .bool],.keep 36,.keep 37,.keep 38]).set 9 [.keep 4,.owns 5 (.int .u8),.keep 7,.keep 8,.keep 9,.box 10 [.v (.int .i64),.v (.int .i64),.v (.int .i64),.v (.int .i64),.v (.int .i64),.v .bool,.v ty182,.v ty189,.o .bool],.keep 36,.keep 37,.keep 38,.keep 59,.val 60 (.int .i64)]) Tryz.f53 x=F53 x:=by kernel_rfl
theorem n53:cxC.fn.get 53=some Tryz.f53:=by kernel_rfl
theorem e53:cxC.ext.get 53=none:=by kernel_rfl
noncomputable def ct53:Tr Con:=(ct131).set 53 ⟨.pair ty27 .un,(.pair ty48 (.pair (.list (.list (.int .u8))) .un)),F53⟩
theorem k53:CtOk ct53:=ct_set k131 (conB (hi:=hiBn) k131 n53 e53 x53)
noncomputable def F195 (x:D (.pair (.list (.int .u8)) .un)):Option (D (.pair .bool .un)):=(some ((eqI (lenL x.1) 32),()))
theorem x195 (x:D (.pair (.list (.int .u8)) .un)):fnS (cyF ct53 hiBn) 1000 (.pair (.list (.int .u8)) .un) (.pair .bool .un) (Tr.e) Tryz.f195 x=F195 x:=by kernel_rfl
theorem n195:cxC.fn.get 195=some Tryz.f195:=by kernel_rfl
theorem e195:cxC.ext.get 195=none:=by kernel_rfl
noncomputable def ct195:Tr Con:=(ct53).set 195 ⟨(.pair (.list (.int .u8)) .un),.pair .bool .un,F195⟩
theorem k195:CtOk ct195:=ct_set k53 (conB (hi:=hiBn) k53 n195 e195 x195)
noncomputable def F196 (x:D (.pair ty52 (.pair ty250 .un))):Option (D (.pair (.int .i64) .un)):=(cnd (eqI x.2.1.2.1 1) (cnd (eqI x.2.1.2.1 1) (cnd (ltI x.2.1.2.2.1 0) (some (2,())) (cnd (leI (lenL x.1.2.2.1) x.2.1.2.2.1) (some (2,())) (cnd (eqI x.2.1.2.1 2) (bnd (F195 (x.2.1.2.2.2.1,())) (fun x0=>(cnd (notB x0.1) (some (3,())) (cnd (neI x.2.1.2.1 2) (cnd (neI (lenL x.2.1.2.2.2.1) 0) (some (3,())) (some (0,()))) (some (0,())))))) (cnd (neI x.2.1.2.1 2) (cnd (neI (lenL x.2.1.2.2.2.1) 0) (some (3,())) (some (0,()))) (some (0,())))))) (cnd (eqI x.2.1.2.1 3) (cnd (neI x.2.1.2.2.1 0) (some (2,())) (cnd (eqI x.2.1.2.1 2) (bnd (F195 (x.2.1.2.2.2.1,())) (fun x1=>(cnd (notB x1.1) (some (3,())) (cnd (neI x.2.1.2.1 2) (cnd (neI (lenL x.2.1.2.2.2.1) 0) (some (3,())) (some (0,()))) (some (0,())))))) (cnd (neI x.2.1.2.1 2) (cnd (neI (lenL x.2.1.2.2.2.1) 0) (some (3,())) (some (0,()))) (some (0,()))))) (some (1,())))) (cnd (eqI x.2.1.2.1 2) (cnd (ltI x.2.1.2.2.1 0) (some (2,())) (cnd (leI (lenL x.1.2.2.1) x.2.1.2.2.1) (some (2,())) (cnd (eqI x.2.1.2.1 2) (bnd (F195 (x.2.1.2.2.2.1,())) (fun x2=>(cnd (notB x2.1) (some (3,())) (cnd (neI x.2.1.2.1 2) (cnd (neI (lenL x.2.1.2.2.2.1) 0) (some (3,())) (some (0,()))) (some (0,())))))) (cnd (neI x.2.1.2.1 2) (cnd (neI (lenL x.2.1.2.2.2.1) 0) (some (3,())) (some (0,()))) (some (0,())))))) (cnd (eqI x.2.1.2.1 3) (cnd (neI x.2.1.2.2.1 0) (some (2,())) (cnd (eqI x.2.1.2.1 2) (bnd (F195 (x.2.1.2.2.2.1,())) (fun x3=>(cnd (notB x3.1) (some (3,())) (cnd (neI x.2.1.2.1 2) (cnd (neI (lenL x.2.1.2.2.2.1) 0) (some (3,())) (some (0,()))) (some (0,())))))) (cnd (neI x.2.1.2.1 2) (cnd (neI (lenL x.2.1.2.2.2.1) 0) (some (3,())) (some (0,()))) (some (0,()))))) (some (1,())))))
theorem x196 (x:D (.pair ty52 (.pair ty250 .un))):fnS (cyF ct195 hiBn) 1000 (.pair ty52 (.pair ty250 .un)) (.pair (.int .i64) .un) (Tr.e) Tryz.f196 x=F196 x:=by kernel_rfl
theorem n196:cxC.fn.get 196=some Tryz.f196:=by kernel_rfl
theorem e196:cxC.ext.get 196=none:=by kernel_rfl
noncomputable def ct196:Tr Con:=(ct195).set 196 ⟨(.pair ty52 (.pair ty250 .un)),(.pair (.int .i64) .un),F196⟩
theorem k196:CtOk ct196:=ct_set k195 (conB (hi:=hiBn) k195 n196 e196 x196)
noncomputable def F132 (x:D (.pair ty52 .un)):Option (D (.pair (.int .i64) .un)):=(cnd (ltI x.1.1 1) (some (2,())) (cnd (ltI 16 x.1.1) (some (2,())) (cnd (ltI x.1.2.1 0) (some (2,())) (cnd (ltI 1099511627776 x.1.2.1) (some (2,())) (cnd (ltI (lenL x.1.2.2.1) 1) (some (2,())) (cnd (ltI 256 (lenL x.1.2.2.1)) (some (2,())) (bndS (loopS (fun d0=>(cnd (ltI d0.1 (lenL x.1.2.2.1)) (bnd (atL x.1.2.2.1 d0.1) (fun x1=>(bnd (F195 (x1,())) (fun x2=>(cnd (notB x2.1) (inR (inR (some (3,())))) (some (.inl ((addI .i64 d0.1 1),())))))))) (inR (some (.inl ()))))) 1000000000 (0,())) (fun x3=>(bndS (loopS (fun d4=>(cnd (ltI d4.2.1 (lenL x.1.2.2.2.1)) (bnd (atL x.1.2.2.2.1 d4.2.1) (fun x5=>(cnd (leI x5.1 d4.1) (inR (inR (some (10,())))) (cnd (leI (lenL x.1.2.2.1) x5.1) (inR (inR (some (10,())))) (some (.inl (x5.1,((addI .i64 d4.2.1 1),())))))))) (inR (some (.inl ()))))) 1000000000 ((-1),(0,()))) (fun x6=>(bndS (loopS (fun d7=>(cnd (ltI d7.1 (lenL x.1.2.2.2.1)) (bnd (atL x.1.2.2.2.1 d7.1) (fun x8=>(bnd (F195 (x8.2.1,())) (fun x9=>(cnd (notB x9.1) (inR (inR (some (3,())))) (some (.inl ((addI .i64 d7.1 1),())))))))) (inR (some (.inl ()))))) 1000000000 (0,())) (fun x10=>(cnd (ltI x.1.1 (lenL x.1.2.2.2.2.1)) (some (8,())) (bndS (loopS (fun d11=>(cnd (ltI d11.2.1 (lenL x.1.2.2.2.2.1)) (bnd (atL x.1.2.2.2.2.1 d11.2.1) (fun x12=>(bnd (F196 (x.1,(x12,()))) (fun x13=>(cnd (neI x13.1 0) (inR (inR (some (x13.1,())))) (cnd (leI x12.1 d11.1) (inR (inR (some (10,())))) (cnd (leI x.1.2.1 x12.1) (inR (inR (some (10,())))) (some (.inl (x12.1,((addI .i64 d11.2.1 1),()))))))))))) (inR (some (.inl ()))))) 1000000000 ((-1),(0,()))) (fun x14=>(some (0,())))))))))))))))))
theorem x132 (x:D (.pair ty52 .un)):fnS (cyF ct196 hiBn) 1000 (.pair ty52 .un) (.pair (.int .i64) .un) (((((((((Tr.e).set 0 [.keep 1]).set 1 [.keep 1,.keep 44,.keep 45,.val 46 (.int .i64)]).set 4 [.keep 1]).set 5 [.keep 1,.val 5 (.int .i64),.keep 55,.keep 56,.val 57 (.int .i64)]).set 8 [.keep 1]).set 9 [.keep 1,.keep 77,.keep 78,.val 79 (.int .i64)]).set 12 []).set 13 [.keep 1,.val 5 (.int .i64),.keep 95,.keep 96,.val 97 (.int .i64)]) Tryz.f132 x=F132 x:=by kernel_rfl
theorem n132:cxC.fn.get 132=some Tryz.f132:=by kernel_rfl
theorem e132:cxC.ext.get 132=none:=by kernel_rfl
noncomputable def ct132:Tr Con:=(ct196).set 132 ⟨.pair ty52 .un,(.pair (.int .i64) .un),F132⟩
theorem k132:CtOk ct132:=ct_set k196 (conB (hi:=hiBn) k196 n132 e132 x132)
noncomputable def F133 (x:D (.pair ty52 .un)):Option (D (.pair ty52 .un)):=(bndS (loopS (fun d0=>(cnd (ltI d0.2.1 (lenL x.1.2.2.1)) (bnd (atL x.1.2.2.1 d0.2.1) (fun x1=>(chk (roomL [] x1 1) (chk (roomL d0.1.2.2.1 ((appL [] x1)::[]) 24) (some (.inl ((d0.1.1,(d0.1.2.1,((appL d0.1.2.2.1 ((appL [] x1)::[])),(d0.1.2.2.2.1,(d0.1.2.2.2.2.1,()))))),((addI .i64 d0.2.1 1),())))))))) (inR (some (.inl ((d0.1.1,(d0.1.2.1,(d0.1.2.2.1,(d0.1.2.2.2.1,(d0.1.2.2.2.2.1,()))))),())))))) 1000000000 ((x.1.1,(x.1.2.1,([],([],([],()))))),(0,()))) (fun x2=>(bndS (loopS (fun d3=>(cnd (ltI d3.2.1 (lenL x.1.2.2.2.1)) (bnd (atL x.1.2.2.2.1 d3.2.1) (fun x4=>(chk (roomL [] x4.2.1 1) (chk (roomL d3.1.2.2.2.1 ((x4.1,((appL [] x4.2.1),()))::[]) 32) (some (.inl ((d3.1.1,(d3.1.2.1,(d3.1.2.2.1,((appL d3.1.2.2.2.1 ((x4.1,((appL [] x4.2.1),()))::[])),(d3.1.2.2.2.2.1,()))))),((addI .i64 d3.2.1 1),())))))))) (inR (some (.inl ((d3.1.1,(d3.1.2.1,(d3.1.2.2.1,(d3.1.2.2.2.1,(d3.1.2.2.2.2.1,()))))),())))))) 1000000000 ((x2.1.1,(x2.1.2.1,(x2.1.2.2.1,(x2.1.2.2.2.1,(x2.1.2.2.2.2.1,()))))),(0,()))) (fun x5=>(bndS (loopS (fun d6=>(cnd (ltI d6.2.1 (lenL x.1.2.2.2.2.1)) (bnd (atL x.1.2.2.2.2.1 d6.2.1) (fun x7=>(chk (roomL [] x7.2.2.2.1 1) (chk (roomL d6.1.2.2.2.2.1 ((x7.1,(x7.2.1,(x7.2.2.1,((appL [] x7.2.2.2.1),()))))::[]) 48) (some (.inl ((d6.1.1,(d6.1.2.1,(d6.1.2.2.1,(d6.1.2.2.2.1,((appL d6.1.2.2.2.2.1 ((x7.1,(x7.2.1,(x7.2.2.1,((appL [] x7.2.2.2.1),()))))::[])),()))))),((addI .i64 d6.2.1 1),())))))))) (inR (some (.inl ((d6.1.1,(d6.1.2.1,(d6.1.2.2.1,(d6.1.2.2.2.1,(d6.1.2.2.2.2.1,()))))),())))))) 1000000000 ((x5.1.1,(x5.1.2.1,(x5.1.2.2.1,(x5.1.2.2.2.1,(x5.1.2.2.2.2.1,()))))),(0,()))) (fun x8=>(some ((x8.1.1,(x8.1.2.1,(x8.1.2.2.1,(x8.1.2.2.2.1,(x8.1.2.2.2.2.1,()))))),()))))))))
theorem x133 (x:D (.pair ty52 .un)):fnS (cyF ct132 hiBn) 1000 (.pair ty52 .un) (.pair ty52 .un) (((((((Tr.e).set 0 [.keep 1,.keep 2,.box 3 [.v (.int .i64),.v (.int .i64),.o (.list (.int .u8)),.o ty68,.o ty250]]).set 1 [.keep 1,.keep 2,.box 3 [.v (.int .i64),.v (.int .i64),.o (.list (.int .u8)),.o ty68,.o ty250],.keep 16,.keep 17,.val 18 (.int .i64)]).set 4 [.keep 1,.keep 2,.box 3 [.v (.int .i64),.v (.int .i64),.o (.list (.int .u8)),.o ty68,.o ty250]]).set 5 [.keep 1,.keep 2,.box 3 [.v (.int .i64),.v (.int .i64),.o (.list (.int .u8)),.o ty68,.o ty250],.keep 31,.keep 32,.val 33 (.int .i64)]).set 8 [.keep 2,.box 3 [.v (.int .i64),.v (.int .i64),.o (.list (.int .u8)),.o ty68,.o ty250]]).set 9 [.keep 2,.box 3 [.v (.int .i64),.v (.int .i64),.o (.list (.int .u8)),.o ty68,.o ty250],.keep 50,.keep 51,.val 52 (.int .i64)]) Tryz.f133 x=F133 x:=by kernel_rfl
theorem n133:cxC.fn.get 133=some Tryz.f133:=by kernel_rfl
theorem e133:cxC.ext.get 133=none:=by kernel_rfl
noncomputable def ct133:Tr Con:=(ct132).set 133 ⟨.pair ty52 .un,.pair ty52 .un,F133⟩
theorem k133:CtOk ct133:=ct_set k132 (conB (hi:=hiBn) k132 n133 e133 x133)
noncomputable def F54 (x:D (.pair (.int .i64) (.pair (.list (.list (.int .u8))) .un))):Option (D (.pair ty52 (.pair (.int .i64) .un))):=(bnd (F132 ((x.1,(0,(x.2.1,([],([],()))))),())) (fun x0=>(cnd (neI x0.1 0) (some ((0,(0,([],([],([],()))))),(x0.1,()))) (bnd (F133 ((x.1,(0,(x.2.1,([],([],()))))),())) (fun x1=>(some (x1.1,(0,()))))))))
theorem x54 (x:D (.pair (.int .i64) (.pair (.list (.list (.int .u8))) .un))):fnS (cyF ct133 hiBn) 1000 (.pair (.int .i64) (.pair (.list (.list (.int .u8))) .un)) (.pair ty52 (.pair (.int .i64) .un)) (Tr.e) Tryz.f54 x=F54 x:=by kernel_rfl
theorem n54:cxC.fn.get 54=some Tryz.f54:=by kernel_rfl
theorem e54:cxC.ext.get 54=none:=by kernel_rfl
noncomputable def ct54:Tr Con:=(ct133).set 54 ⟨(.pair (.int .i64) (.pair (.list (.list (.int .u8))) .un)),(.pair ty52 (.pair (.int .i64) .un)),F54⟩
theorem k54:CtOk ct54:=ct_set k133 (conB (hi:=hiBn) k133 n54 e54 x54)
noncomputable def F240 (x:D (.pair ty25 (.pair (.int .i64) .un))):Option (D (.pair .bool .un)):=(bnd (F105 (x.1,())) (fun x0=>(cnd (eqI x0.1 0) (cnd (leI 0 x.2.1) (some ((ltI x.2.1 (lenL x.1)),())) (some (false,()))) (some (false,())))))
theorem x240 (x:D (.pair ty25 (.pair (.int .i64) .un))):fnS (cyF ct54 hiBn) 1000 (.pair ty25 (.pair (.int .i64) .un)) (.pair .bool .un) (Tr.e) Tryz.f240 x=F240 x:=by kernel_rfl
theorem n240:cxC.fn.get 240=some Tryz.f240:=by kernel_rfl
theorem e240:cxC.ext.get 240=none:=by kernel_rfl
noncomputable def ct240:Tr Con:=(ct54).set 240 ⟨(.pair ty25 (.pair (.int .i64) .un)),.pair .bool .un,F240⟩
theorem k240:CtOk ct240:=ct_set k54 (conB (hi:=hiBn) k54 n240 e240 x240)
noncomputable def F198 (x:D (.pair ty25 ty148)):Option (D (.pair (.int .i64) .un)):=(bnd (F105 (x.1,())) (fun x0=>(cnd (neI x0.1 0) (some (x0.1,())) (bnd (F240 (x.1,(x.2.1,()))) (fun x1=>(cnd (notB x1.1) (some (6,())) (bnd (F226 (x.2.2.1,())) (fun x2=>(cnd (notB x2.1) (some (2,())) (some (0,())))))))))))
theorem x198 (x:D (.pair ty25 ty148)):fnS (cyF ct240 hiBn) 1000 (.pair ty25 ty148) (.pair (.int .i64) .un) (Tr.e) Tryz.f198 x=F198 x:=by kernel_rfl
theorem n198:cxC.fn.get 198=some Tryz.f198:=by kernel_rfl
theorem e198:cxC.ext.get 198=none:=by kernel_rfl
noncomputable def ct198:Tr Con:=(ct240).set 198 ⟨.pair ty25 ty148,(.pair (.int .i64) .un),F198⟩
theorem k198:CtOk ct198:=ct_set k240 (conB (hi:=hiBn) k240 n198 e198 x198)
noncomputable def F199 (x:D (.pair ty25 (.pair (.int .i64) .un))):Option (D (.pair (.list (.int .i64)) .un)):=(bnd (F240 (x.1,(x.2.1,()))) (fun x0=>(cnd (notB x0.1) (some ([],())) (bndS (loopS (fun d1=>(cnd (leI 0 d1.2.1) (chk (roomL d1.1 (d1.2.1::[]) 8) (bnd (atL x.1 d1.2.1) (fun x2=>(some (.inl ((appL d1.1 (d1.2.1::[])),(x2.1,()))))))) (inR (some (.inl (d1.1,())))))) 1000000000 ([],(x.2.1,()))) (fun x3=>(some (x3.1,())))))))
theorem x199 (x:D (.pair ty25 (.pair (.int .i64) .un))):fnS (cyF ct198 hiBn) 1000 (.pair ty25 (.pair (.int .i64) .un)) (.pair (.list (.int .i64)) .un) (((Tr.e).set 0 [.own 5 (.int .i64)]).set 1 [.keep 0,.own 5 (.int .i64),.val 6 (.int .i64)]) Tryz.f199 x=F199 x:=by kernel_rfl
theorem n199:cxC.fn.get 199=some Tryz.f199:=by kernel_rfl
theorem e199:cxC.ext.get 199=none:=by kernel_rfl
noncomputable def ct199:Tr Con:=(ct198).set 199 ⟨(.pair ty25 (.pair (.int .i64) .un)),(.pair (.list (.int .i64)) .un),F199⟩
theorem k199:CtOk ct199:=ct_set k198 (conB (hi:=hiBn) k198 n199 e199 x199)
noncomputable def F200 (x:D (.pair ty25 ty148)):Option (D (.pair ty25 .un)):=(chk (roomL [] x.1 40) (bnd (F199 (x.1,(x.2.1,()))) (fun x0=>(bndS (loopS (fun d1=>(cnd (ltI d1.2.1 (lenL x0.1)) (bnd (atL x0.1 d1.2.1) (fun x2=>(chk (inL? d1.1 x2) (bnd (atL d1.1 x2) (fun x3=>(chk (inL? d1.1 x2) (bnd (atL d1.1 x2) (fun x4=>(some (.inl ((setL d1.1 x2 (x4.1,((addI .i64 x3.2.1 x.2.2.1),x4.2.2))),((addI .i64 d1.2.1 1),())))))))))))) (inR (some (.inl (d1.1,())))))) 1000000000 ((appL [] x.1),(0,()))) (fun x5=>(some (x5.1,())))))))
theorem x200 (x:D (.pair ty25 ty148)):fnS (cyF ct199 hiBn) 1000 (.pair ty25 ty148) (.pair ty25 .un) (((Tr.e).set 0 [.own 7 ty70]).set 1 [.keep 2,.own 7 ty70,.keep 14,.keep 15,.val 16 (.int .i64)]) Tryz.f200 x=F200 x:=by kernel_rfl
theorem n200:cxC.fn.get 200=some Tryz.f200:=by kernel_rfl
theorem e200:cxC.ext.get 200=none:=by kernel_rfl
noncomputable def ct200:Tr Con:=(ct199).set 200 ⟨.pair ty25 ty148,.pair ty25 .un,F200⟩
theorem k200:CtOk ct200:=ct_set k199 (conB (hi:=hiBn) k199 n200 e200 x200)
noncomputable def F134 (x:D (.pair ty25 ty148)):Option (D (.pair ty25 ty148)):=(bnd (F198 (x.1,(x.2.1,(x.2.2.1,())))) (fun x0=>(cnd (neI x0.1 0) (some ([],((-1),(x0.1,())))) (bnd (F199 (x.1,(x.2.1,()))) (fun x1=>(bndS (loopS (fun d2=>(cnd (ltI d2.1 (lenL x1.1)) (bnd (atL x1.1 d2.1) (fun x3=>(bnd (atL x.1 x3) (fun x4=>(bnd (atL x.1 x3) (fun x5=>(cnd (ltI x5.2.2.2.2.1 (addI .i64 x4.2.1 x.2.2.1)) (inR (inR (some ([],(x3,(17,())))))) (some (.inl ((addI .i64 d2.1 1),())))))))))) (inR (some (.inl ()))))) 1000000000 (0,())) (fun x6=>(bnd (F200 (x.1,(x.2.1,(x.2.2.1,())))) (fun x7=>(some (x7.1,((-1),(0,())))))))))))))
theorem x134 (x:D (.pair ty25 ty148)):fnS (cyF ct200 hiBn) 1000 (.pair ty25 ty148) (.pair ty25 ty148) (((Tr.e).set 0 [.keep 0,.keep 1,.keep 2]).set 1 [.keep 0,.keep 1,.keep 2,.keep 21,.keep 22,.val 23 (.int .i64)]) Tryz.f134 x=F134 x:=by kernel_rfl
theorem n134:cxC.fn.get 134=some Tryz.f134:=by kernel_rfl
theorem e134:cxC.ext.get 134=none:=by kernel_rfl
noncomputable def ct134:Tr Con:=(ct200).set 134 ⟨.pair ty25 ty148,.pair ty25 ty148,F134⟩
theorem k134:CtOk ct134:=ct_set k200 (conB (hi:=hiBn) k200 n134 e134 x134)
noncomputable def F274 (x:D (.pair ty34 .un)):Option (D (.pair (.int .i64) .un)):=(cnd (ltI 6 (lenL x.1)) (some (9,())) (bndS (loopS (fun d0=>(cnd (ltI d0.1 (lenL x.1)) (bnd (atL x.1 d0.1) (fun x1=>(cnd (ltI x1.1 0) (inR (inR (some (2,())))) (cnd (leI 4 x1.1) (inR (inR (some (2,())))) (cnd (neI x1.2.1 0) (cnd (neI x1.2.1 1) (inR (inR (some (1,())))) (some (.inl ((addI .i64 d0.1 1),())))) (some (.inl ((addI .i64 d0.1 1),())))))))) (inR (some (.inl ()))))) 1000000000 (0,())) (fun x2=>(some (0,())))))
theorem x274 (x:D (.pair ty34 .un)):fnS (cyF ct134 hiBn) 1000 (.pair ty34 .un) (.pair (.int .i64) .un) (((Tr.e).set 0 []).set 1 [.keep 8,.keep 9,.val 10 (.int .i64)]) Tryz.f274 x=F274 x:=by kernel_rfl
theorem n274:cxC.fn.get 274=some Tryz.f274:=by kernel_rfl
theorem e274:cxC.ext.get 274=none:=by kernel_rfl
noncomputable def ct274:Tr Con:=(ct134).set 274 ⟨.pair ty34 .un,(.pair (.int .i64) .un),F274⟩
theorem k274:CtOk ct274:=ct_set k134 (conB (hi:=hiBn) k134 n274 e274 x274)
noncomputable def F241 (x:D (.pair ty34 (.pair (.int .i64) .un))):Option (D (.pair (.int .i64) .un)):=(bnd (F274 (x.1,())) (fun x0=>(cnd (neI x0.1 0) (some (x0.1,())) (cnd (ltI x.2.1 0) (some (2,())) (cnd (leI 4 x.2.1) (some (2,())) (some (0,())))))))
theorem x241 (x:D (.pair ty34 (.pair (.int .i64) .un))):fnS (cyF ct274 hiBn) 1000 (.pair ty34 (.pair (.int .i64) .un)) (.pair (.int .i64) .un) (Tr.e) Tryz.f241 x=F241 x:=by kernel_rfl
theorem n241:cxC.fn.get 241=some Tryz.f241:=by kernel_rfl
theorem e241:cxC.ext.get 241=none:=by kernel_rfl
noncomputable def ct241:Tr Con:=(ct274).set 241 ⟨(.pair ty34 (.pair (.int .i64) .un)),(.pair (.int .i64) .un),F241⟩
theorem k241:CtOk ct241:=ct_set k274 (conB (hi:=hiBn) k274 n241 e241 x241)
noncomputable def F243 (x:D ty148):Option (D (.pair (.int .i64) .un)):=(cnd (ltI x.2.1 x.1) (some ((mulI .i64 2 (subI .i64 x.1 x.2.1)),())) (some ((addI .i64 (mulI .i64 2 (subI .i64 x.2.1 x.1)) 1),())))
theorem x243 (x:D ty148):fnS (cyF ct241 hiBn) 1000 ty148 (.pair (.int .i64) .un) (Tr.e) Tryz.f243 x=F243 x:=by kernel_rfl
theorem n243:cxC.fn.get 243=some Tryz.f243:=by kernel_rfl
theorem e243:cxC.ext.get 243=none:=by kernel_rfl
noncomputable def ct243:Tr Con:=(ct241).set 243 ⟨ty148,(.pair (.int .i64) .un),F243⟩
theorem k243:CtOk ct243:=ct_set k241 (conB (hi:=hiBn) k241 n243 e243 x243)
noncomputable def F246 (x:D ty148):Option (D (.pair (.int .i64) .un)):=(bnd (F276 (x.1,())) (fun x0=>(bnd (F276 (x.2.1,())) (fun x1=>(cnd x0.1 (cnd x1.1 (some (0,())) (some ((-1),()))) (cnd x1.1 (some (1,())) (cnd (ltI x.1 x.2.1) (some ((-1),())) (cnd (ltI x.2.1 x.1) (some (1,())) (some (0,()))))))))))
theorem x246 (x:D ty148):fnS (cyF ct243 hiBn) 1000 ty148 (.pair (.int .i64) .un) (Tr.e) Tryz.f246 x=F246 x:=by kernel_rfl
theorem n246:cxC.fn.get 246=some Tryz.f246:=by kernel_rfl
theorem e246:cxC.ext.get 246=none:=by kernel_rfl
noncomputable def ct246:Tr Con:=(ct243).set 246 ⟨ty148,(.pair (.int .i64) .un),F246⟩
theorem k246:CtOk ct246:=ct_set k243 (conB (hi:=hiBn) k243 n246 e246 x246)
noncomputable def F201 (x:D (.pair ty34 ty182)):Option (D (.pair (.list (.int .i64)) (.pair (.int .i64) .un))):=(bnd (F241 (x.1,(x.2.1,()))) (fun x0=>(cnd (neI x0.1 0) (some ([],(x0.1,()))) (bndS (loopS (fun d1=>(cnd (ltI d1.2.1 (lenL x.1)) (bnd (atL x.1 d1.2.1) (fun x2=>(cnd (notB x.2.2.1) (chk (roomL d1.1 (d1.2.1::[]) 8) (some (.inl ((appL d1.1 (d1.2.1::[])),((addI .i64 d1.2.1 1),()))))) (cnd (eqI x2.2.1 0) (chk (roomL d1.1 (d1.2.1::[]) 8) (some (.inl ((appL d1.1 (d1.2.1::[])),((addI .i64 d1.2.1 1),()))))) (some (.inl (d1.1,((addI .i64 d1.2.1 1),())))))))) (inR (some (.inl (d1.1,())))))) 1000000000 ([],(0,()))) (fun x3=>(bndS (loopS (fun d4=>(cnd (leI d4.2.2.1 (lenL x3.1)) (bndS (loopS (fun d5=>(cnd (ltI d5.2.1 d4.2.2.1) (bndS (bndS (loopS (fun d6=>(cnd (ltI d4.2.1 d6.2.1) (chk (inL? d6.1 d6.2.1) (bnd (atL d6.1 d6.2.1) (fun x7=>(chk (inL? d6.1 (subI .i64 d6.2.1 1)) (bnd (atL d6.1 (subI .i64 d6.2.1 1)) (fun x8=>(bnd (atL x.1 x7) (fun x9=>(bnd (F243 (x.2.1,(x9.1,()))) (fun x10=>(bnd (atL x.1 x7) (fun x11=>(cnd (eqI x11.2.1 0) (bnd (atL x.1 x8) (fun x12=>(bnd (F243 (x.2.1,(x12.1,()))) (fun x13=>(bnd (atL x.1 x8) (fun x14=>(cnd (eqI x14.2.1 0) (bnd (F246 ((addI .i64 (mulI .i64 2 x10.1) 1),((addI .i64 (mulI .i64 2 x13.1) 1),()))) (fun x15=>(cnd (ltI x15.1 0) (chk (inL? d6.1 (subI .i64 d6.2.1 1)) (bnd (atL d6.1 (subI .i64 d6.2.1 1)) (fun x16=>(chk (inL? d6.1 d6.2.1) (bnd (atL d6.1 d6.2.1) (fun x17=>(chk (inL? d6.1 d6.2.1) (bnd (atL d6.1 d6.2.1) (fun x18=>(chk (inL? (setL d6.1 d6.2.1 x16) (subI .i64 d6.2.1 1)) (bnd (atL (setL d6.1 d6.2.1 x16) (subI .i64 d6.2.1 1)) (fun x19=>(some (.inl ((setL (setL d6.1 d6.2.1 x16) (subI .i64 d6.2.1 1) x17),((subI .i64 d6.2.1 1),())))))))))))))))) (inR (some (.inl (d6.1,()))))))) (bnd (F246 ((addI .i64 (mulI .i64 2 x10.1) 1),((mulI .i64 2 x13.1),()))) (fun x20=>(cnd (ltI x20.1 0) (chk (inL? d6.1 (subI .i64 d6.2.1 1)) (bnd (atL d6.1 (subI .i64 d6.2.1 1)) (fun x21=>(chk (inL? d6.1 d6.2.1) (bnd (atL d6.1 d6.2.1) (fun x22=>(chk (inL? d6.1 d6.2.1) (bnd (atL d6.1 d6.2.1) (fun x23=>(chk (inL? (setL d6.1 d6.2.1 x21) (subI .i64 d6.2.1 1)) (bnd (atL (setL d6.1 d6.2.1 x21) (subI .i64 d6.2.1 1)) (fun x24=>(some (.inl ((setL (setL d6.1 d6.2.1 x21) (subI .i64 d6.2.1 1) x22),((subI .i64 d6.2.1 1),())))))))))))))))) (inR (some (.inl (d6.1,())))))))))))))) (bnd (atL x.1 x8) (fun x25=>(bnd (F243 (x.2.1,(x25.1,()))) (fun x26=>(bnd (atL x.1 x8) (fun x27=>(cnd (eqI x27.2.1 0) (bnd (F246 ((mulI .i64 2 x10.1),((addI .i64 (mulI .i64 2 x26.1) 1),()))) (fun x28=>(cnd (ltI x28.1 0) (chk (inL? d6.1 (subI .i64 d6.2.1 1)) (bnd (atL d6.1 (subI .i64 d6.2.1 1)) (fun x29=>(chk (inL? d6.1 d6.2.1) (bnd (atL d6.1 d6.2.1) (fun x30=>(chk (inL? d6.1 d6.2.1) (bnd (atL d6.1 d6.2.1) (fun x31=>(chk (inL? (setL d6.1 d6.2.1 x29) (subI .i64 d6.2.1 1)) (bnd (atL (setL d6.1 d6.2.1 x29) (subI .i64 d6.2.1 1)) (fun x32=>(some (.inl ((setL (setL d6.1 d6.2.1 x29) (subI .i64 d6.2.1 1) x30),((subI .i64 d6.2.1 1),())))))))))))))))) (inR (some (.inl (d6.1,()))))))) (bnd (F246 ((mulI .i64 2 x10.1),((mulI .i64 2 x26.1),()))) (fun x33=>(cnd (ltI x33.1 0) (chk (inL? d6.1 (subI .i64 d6.2.1 1)) (bnd (atL d6.1 (subI .i64 d6.2.1 1)) (fun x34=>(chk (inL? d6.1 d6.2.1) (bnd (atL d6.1 d6.2.1) (fun x35=>(chk (inL? d6.1 d6.2.1) (bnd (atL d6.1 d6.2.1) (fun x36=>(chk (inL? (setL d6.1 d6.2.1 x34) (subI .i64 d6.2.1 1)) (bnd (atL (setL d6.1 d6.2.1 x34) (subI .i64 d6.2.1 1)) (fun x37=>(some (.inl ((setL (setL d6.1 d6.2.1 x34) (subI .i64 d6.2.1 1) x35),((subI .i64 d6.2.1 1),())))))))))))))))) (inR (some (.inl (d6.1,()))))))))))))))))))))))))))) (inR (some (.inl (d6.1,())))))) 1000000000 (d5.1,(d5.2.1,()))) (fun x38=>(some (.inl (x38.1,()))))) (fun x39=>(some (.inl (x39.1,((addI .i64 d5.2.1 1),())))))) (inR (some (.inl (d5.1,())))))) 1000000000 (d4.1,((addI .i64 d4.2.1 1),()))) (fun x40=>(some (.inl (x40.1,(d4.2.2.1,((addI .i64 d4.2.2.1 20),()))))))) (inR (some (.inl (d4.1,(d4.2.1,()))))))) 1000000000 (x3.1,(0,(20,())))) (fun x41=>(bndS (loopS (fun d42=>(cnd (ltI d42.2.1 (lenL x3.1)) (bndS (bndS (loopS (fun d43=>(cnd (ltI x41.2.1 d43.2.1) (chk (inL? d43.1 d43.2.1) (bnd (atL d43.1 d43.2.1) (fun x44=>(chk (inL? d43.1 (subI .i64 d43.2.1 1)) (bnd (atL d43.1 (subI .i64 d43.2.1 1)) (fun x45=>(bnd (atL x.1 x44) (fun x46=>(bnd (F243 (x.2.1,(x46.1,()))) (fun x47=>(bnd (atL x.1 x44) (fun x48=>(cnd (eqI x48.2.1 0) (bnd (atL x.1 x45) (fun x49=>(bnd (F243 (x.2.1,(x49.1,()))) (fun x50=>(bnd (atL x.1 x45) (fun x51=>(cnd (eqI x51.2.1 0) (bnd (F246 ((addI .i64 (mulI .i64 2 x47.1) 1),((addI .i64 (mulI .i64 2 x50.1) 1),()))) (fun x52=>(cnd (ltI x52.1 0) (chk (inL? d43.1 (subI .i64 d43.2.1 1)) (bnd (atL d43.1 (subI .i64 d43.2.1 1)) (fun x53=>(chk (inL? d43.1 d43.2.1) (bnd (atL d43.1 d43.2.1) (fun x54=>(chk (inL? d43.1 d43.2.1) (bnd (atL d43.1 d43.2.1) (fun x55=>(chk (inL? (setL d43.1 d43.2.1 x53) (subI .i64 d43.2.1 1)) (bnd (atL (setL d43.1 d43.2.1 x53) (subI .i64 d43.2.1 1)) (fun x56=>(some (.inl ((setL (setL d43.1 d43.2.1 x53) (subI .i64 d43.2.1 1) x54),((subI .i64 d43.2.1 1),())))))))))))))))) (inR (some (.inl (d43.1,()))))))) (bnd (F246 ((addI .i64 (mulI .i64 2 x47.1) 1),((mulI .i64 2 x50.1),()))) (fun x57=>(cnd (ltI x57.1 0) (chk (inL? d43.1 (subI .i64 d43.2.1 1)) (bnd (atL d43.1 (subI .i64 d43.2.1 1)) (fun x58=>(chk (inL? d43.1 d43.2.1) (bnd (atL d43.1 d43.2.1) (fun x59=>(chk (inL? d43.1 d43.2.1) (bnd (atL d43.1 d43.2.1) (fun x60=>(chk (inL? (setL d43.1 d43.2.1 x58) (subI .i64 d43.2.1 1)) (bnd (atL (setL d43.1 d43.2.1 x58) (subI .i64 d43.2.1 1)) (fun x61=>(some (.inl ((setL (setL d43.1 d43.2.1 x58) (subI .i64 d43.2.1 1) x59),((subI .i64 d43.2.1 1),())))))))))))))))) (inR (some (.inl (d43.1,())))))))))))))) (bnd (atL x.1 x45) (fun x62=>(bnd (F243 (x.2.1,(x62.1,()))) (fun x63=>(bnd (atL x.1 x45) (fun x64=>(cnd (eqI x64.2.1 0) (bnd (F246 ((mulI .i64 2 x47.1),((addI .i64 (mulI .i64 2 x63.1) 1),()))) (fun x65=>(cnd (ltI x65.1 0) (chk (inL? d43.1 (subI .i64 d43.2.1 1)) (bnd (atL d43.1 (subI .i64 d43.2.1 1)) (fun x66=>(chk (inL? d43.1 d43.2.1) (bnd (atL d43.1 d43.2.1) (fun x67=>(chk (inL? d43.1 d43.2.1) (bnd (atL d43.1 d43.2.1) (fun x68=>(chk (inL? (setL d43.1 d43.2.1 x66) (subI .i64 d43.2.1 1)) (bnd (atL (setL d43.1 d43.2.1 x66) (subI .i64 d43.2.1 1)) (fun x69=>(some (.inl ((setL (setL d43.1 d43.2.1 x66) (subI .i64 d43.2.1 1) x67),((subI .i64 d43.2.1 1),())))))))))))))))) (inR (some (.inl (d43.1,()))))))) (bnd (F246 ((mulI .i64 2 x47.1),((mulI .i64 2 x63.1),()))) (fun x70=>(cnd (ltI x70.1 0) (chk (inL? d43.1 (subI .i64 d43.2.1 1)) (bnd (atL d43.1 (subI .i64 d43.2.1 1)) (fun x71=>(chk (inL? d43.1 d43.2.1) (bnd (atL d43.1 d43.2.1) (fun x72=>(chk (inL? d43.1 d43.2.1) (bnd (atL d43.1 d43.2.1) (fun x73=>(chk (inL? (setL d43.1 d43.2.1 x71) (subI .i64 d43.2.1 1)) (bnd (atL (setL d43.1 d43.2.1 x71) (subI .i64 d43.2.1 1)) (fun x74=>(some (.inl ((setL (setL d43.1 d43.2.1 x71) (subI .i64 d43.2.1 1) x72),((subI .i64 d43.2.1 1),())))))))))))))))) (inR (some (.inl (d43.1,()))))))))))))))))))))))))))) (inR (some (.inl (d43.1,())))))) 1000000000 (d42.1,(d42.2.1,()))) (fun x75=>(some (.inl (x75.1,()))))) (fun x76=>(some (.inl (x76.1,((addI .i64 d42.2.1 1),())))))) (inR (some (.inl (d42.1,())))))) 1000000000 (x41.1,((addI .i64 x41.2.1 1),()))) (fun x77=>(bndS (loopS (fun d78=>(cnd (ltI d78.2.1 (lenL x3.1)) (bndS (bndS (loopS (fun d79=>(cnd (leI d79.2.2.1 (lenL x3.1)) none (inR (some (.inl (d79.1,(d79.2.1,()))))))) 1000000000 (d78.1,(0,((mulI .i64 2 d78.2.1),())))) (fun x80=>(cnd (ltI (addI .i64 x80.2.1 d78.2.1) (lenL x3.1)) none (some (.inl (x80.1,((mulI .i64 d78.2.1 2),()))))))) (fun x81=>(some (.inl (x81.1,(x81.2.1,())))))) (inR (some (.inl (d78.1,())))))) 1000000000 (x77.1,(20,()))) (fun x82=>(some (x82.1,(0,()))))))))))))))
theorem x201 (x:D (.pair ty34 ty182)):fnS (cyF ct246 hiBn) 1000 (.pair ty34 ty182) (.pair (.list (.int .i64)) (.pair (.int .i64) .un)) (((Tr.e).set 0 [.keep 3,.keep 4,.own 9 (.int .i64)]).set 1 [.keep 2,.keep 3,.keep 4,.own 9 (.int .i64),.keep 19,.keep 20,.val 21 (.int .i64)]) Tryz.f201 x=F201 x:=by kernel_rfl
theorem n201:cxC.fn.get 201=some Tryz.f201:=by kernel_rfl
theorem e201:cxC.ext.get 201=none:=by kernel_rfl
noncomputable def ct201:Tr Con:=(ct246).set 201 ⟨.pair ty34 ty182,(.pair (.list (.int .i64)) (.pair (.int .i64) .un)),F201⟩
theorem k201:CtOk ct201:=ct_set k246 (conB (hi:=hiBn) k246 n201 e201 x201)
noncomputable def F278 (x:D (.pair ty96 .un)):Option (D (.pair (.int .i64) .un)):=(bnd (F190 (x.1,())) (fun x0=>(cnd (neI x0.1 0) (some (0,())) (some ((shlI .i64 (lenL (nth [] x.1.2.2.2.2.2.1 4)) 4),())))))
theorem x278 (x:D (.pair ty96 .un)):fnS (cyF ct201 hiBn) 1000 (.pair ty96 .un) (.pair (.int .i64) .un) (Tr.e) Tryz.f278 x=F278 x:=by kernel_rfl
theorem n278:cxC.fn.get 278=some Tryz.f278:=by kernel_rfl
theorem e278:cxC.ext.get 278=none:=by kernel_rfl
noncomputable def ct278:Tr Con:=(ct201).set 278 ⟨.pair ty96 .un,(.pair (.int .i64) .un),F278⟩
theorem k278:CtOk ct278:=ct_set k201 (conB (hi:=hiBn) k201 n278 e278 x278)
noncomputable def F247 (x:D (.pair ty96 .un)):Option (D (.pair (.int .i64) .un)):=(bnd (F190 (x.1,())) (fun x0=>(cnd (neI x0.1 0) (bnd (F278 (x.1,())) (fun x1=>(some ((addI .i64 0 x1.1),())))) (bnd (F278 (x.1,())) (fun x2=>(some ((addI .i64 (addI .i64 (addI .i64 (addI .i64 (addI .i64 0 (shlI .i64 (lenL (nth [] x.1.2.2.2.2.2.1 0)) 0)) (shlI .i64 (lenL (nth [] x.1.2.2.2.2.2.1 1)) 1)) (shlI .i64 (lenL (nth [] x.1.2.2.2.2.2.1 2)) 2)) (shlI .i64 (lenL (nth [] x.1.2.2.2.2.2.1 3)) 3)) x2.1),())))))))
theorem x247 (x:D (.pair ty96 .un)):fnS (cyF ct278 hiBn) 1000 (.pair ty96 .un) (.pair (.int .i64) .un) (Tr.e) Tryz.f247 x=F247 x:=by kernel_rfl
theorem n247:cxC.fn.get 247=some Tryz.f247:=by kernel_rfl
theorem e247:cxC.ext.get 247=none:=by kernel_rfl
noncomputable def ct247:Tr Con:=(ct278).set 247 ⟨.pair ty96 .un,(.pair (.int .i64) .un),F247⟩
theorem k247:CtOk ct247:=ct_set k278 (conB (hi:=hiBn) k278 n247 e247 x247)
noncomputable def F202 (x:D (.pair ty36 (.pair (.int .i64) .un))):Option (D (.pair (.int .i64) .un)):=(bnd (atL x.1.2.2.2.1 x.2.1) (fun x0=>(bnd (F247 (x0,())) (fun x1=>(bndS (loopS (fun d2=>(cnd (ltI d2.2.1 (lenL x.1.2.2.2.2.1)) (bnd (atL x.1.2.2.2.2.1 d2.2.1) (fun x3=>(bnd (atL x3.1 x.2.1) (fun x4=>(some (.inl ((addI .i64 d2.1 (lenL x4)),((addI .i64 d2.2.1 1),())))))))) (inR (some (.inl (d2.1,())))))) 1000000000 (x1.1,(0,()))) (fun x5=>(some (x5.1,()))))))))
theorem x202 (x:D (.pair ty36 (.pair (.int .i64) .un))):fnS (cyF ct247 hiBn) 1000 (.pair ty36 (.pair (.int .i64) .un)) (.pair (.int .i64) .un) (((Tr.e).set 0 [.val 5 (.int .i64)]).set 1 [.keep 1,.val 5 (.int .i64),.keep 15,.keep 16,.val 17 (.int .i64)]) Tryz.f202 x=F202 x:=by kernel_rfl
theorem n202:cxC.fn.get 202=some Tryz.f202:=by kernel_rfl
theorem e202:cxC.ext.get 202=none:=by kernel_rfl
noncomputable def ct202:Tr Con:=(ct247).set 202 ⟨(.pair ty36 (.pair (.int .i64) .un)),(.pair (.int .i64) .un),F202⟩
theorem k202:CtOk ct202:=ct_set k247 (conB (hi:=hiBn) k247 n202 e202 x202)
noncomputable def F203 (x:D (.pair ty36 (.pair (.int .i64) .un))):Option (D (.pair (.int .i64) .un)):=(bnd (atL x.1.2.2.2.1 x.2.1) (fun x0=>(bnd (F202 (x.1,(x.2.1,()))) (fun x1=>(some ((subI .i64 x1.1 x0.2.2.2.2.1),()))))))
theorem x203 (x:D (.pair ty36 (.pair (.int .i64) .un))):fnS (cyF ct202 hiBn) 1000 (.pair ty36 (.pair (.int .i64) .un)) (.pair (.int .i64) .un) (Tr.e) Tryz.f203 x=F203 x:=by kernel_rfl
theorem n203:cxC.fn.get 203=some Tryz.f203:=by kernel_rfl
theorem e203:cxC.ext.get 203=none:=by kernel_rfl
noncomputable def ct203:Tr Con:=(ct202).set 203 ⟨(.pair ty36 (.pair (.int .i64) .un)),(.pair (.int .i64) .un),F203⟩
theorem k203:CtOk ct203:=ct_set k202 (conB (hi:=hiBn) k202 n203 e203 x203)
noncomputable def G251 (x:D (.pair ty96 (.pair (.int .i64) .un))):Option (D (.pair ty96 ty148)):=(bnd (F190 (x.1,())) (fun x0=>(cnd (neI x0.1 0) (some ((0,(0,(0,(0,(0,(([]::([]::([]::([]::([]::[]))))),())))))),(0,(x0.1,())))) (cnd (eqI (lenL (nth [] x.1.2.2.2.2.2.1 0)) 0) (cnd (eqI (lenL (nth [] x.1.2.2.2.2.2.1 1)) 0) (cnd (eqI (lenL (nth [] x.1.2.2.2.2.2.1 2)) 0) (cnd (eqI (lenL (nth [] x.1.2.2.2.2.2.1 3)) 0) (cnd (eqI (lenL (nth [] x.1.2.2.2.2.2.1 4)) 0) (some ((0,(0,(0,(0,(0,(([]::([]::([]::([]::([]::[]))))),())))))),(0,(16,())))) (chk (roomL [] (nth [] x.1.2.2.2.2.2.1 0) 8) (chk (roomL [] (nth [] x.1.2.2.2.2.2.1 1) 8) (chk (roomL [] (nth [] x.1.2.2.2.2.2.1 2) 8) (chk (roomL [] (nth [] x.1.2.2.2.2.2.1 3) 8) (chk (roomL [] (nth [] x.1.2.2.2.2.2.1 4) 8) (chk (inL? (appL [] (nth [] x.1.2.2.2.2.2.1 4)) 0) (bnd (atL (appL [] (nth [] x.1.2.2.2.2.2.1 4)) 0) (fun x1=>(chk (okCut 1 (lenL (appL [] (nth [] x.1.2.2.2.2.2.1 4))) (lenL (appL [] (nth [] x.1.2.2.2.2.2.1 4)))) (bnd (F231 ((appL [] (nth [] x.1.2.2.2.2.2.1 3)),((addI .i64 x1 8),()))) (fun x2=>(chk (okCut x2.1 (lenL (appL [] (nth [] x.1.2.2.2.2.2.1 3))) (lenL (appL [] (nth [] x.1.2.2.2.2.2.1 3)))) (cnd (eqI x2.1 (lenL (appL [] (nth [] x.1.2.2.2.2.2.1 3)))) (chk (roomL (appL [] (nth [] x.1.2.2.2.2.2.1 3)) ((addI .i64 x1 8)::[]) 8) (bnd (F231 ((appL [] (nth [] x.1.2.2.2.2.2.1 2)),((addI .i64 x1 4),()))) (fun x3=>(chk (okCut x3.1 (lenL (appL [] (nth [] x.1.2.2.2.2.2.1 2))) (lenL (appL [] (nth [] x.1.2.2.2.2.2.1 2)))) (cnd (eqI x3.1 (lenL (appL [] (nth [] x.1.2.2.2.2.2.1 2)))) (chk (roomL (appL [] (nth [] x.1.2.2.2.2.2.1 2)) ((addI .i64 x1 4)::[]) 8) (bnd (F231 ((appL [] (nth [] x.1.2.2.2.2.2.1 1)),((addI .i64 x1 2),()))) (fun x4=>(chk (okCut x4.1 (lenL (appL [] (nth [] x.1.2.2.2.2.2.1 1))) (lenL (appL [] (nth [] x.1.2.2.2.2.2.1 1)))) (cnd (eqI x4.1 (lenL (appL [] (nth [] x.1.2.2.2.2.2.1 1)))) (chk (roomL (appL [] (nth [] x.1.2.2.2.2.2.1 1)) ((addI .i64 x1 2)::[]) 8) (bnd (F231 ((appL [] (nth [] x.1.2.2.2.2.2.1 0)),((addI .i64 x1 1),()))) (fun x5=>(chk (okCut x5.1 (lenL (appL [] (nth [] x.1.2.2.2.2.2.1 0))) (lenL (appL [] (nth [] x.1.2.2.2.2.2.1 0)))) (cnd (eqI x5.1 (lenL (appL [] (nth [] x.1.2.2.2.2.2.1 0)))) (chk (roomL (appL [] (nth [] x.1.2.2.2.2.2.1 0)) ((addI .i64 x1 1)::[]) 8) (some ((x.1.1,(x.1.2.1,(x.1.2.2.1,(x.1.2.2.2.1,(x.1.2.2.2.2.1,(((appL (appL [] (nth [] x.1.2.2.2.2.2.1 0)) ((addI .i64 x1 1)::[]))::((appL (appL [] (nth [] x.1.2.2.2.2.2.1 1)) ((addI .i64 x1 2)::[]))::((appL (appL [] (nth [] x.1.2.2.2.2.2.1 2)) ((addI .i64 x1 4)::[]))::((appL (appL [] (nth [] x.1.2.2.2.2.2.1 3)) ((addI .i64 x1 8)::[]))::((cutL (appL [] (nth [] x.1.2.2.2.2.2.1 4)) 1 (lenL (appL [] (nth [] x.1.2.2.2.2.2.1 4))))::[]))))),())))))),(x1,(0,()))))) none))))) none))))) none))))) none)))))))))))))) (chk (roomL [] (nth [] x.1.2.2.2.2.2.1 0) 8) (chk (roomL [] (nth [] x.1.2.2.2.2.2.1 1) 8) (chk (roomL [] (nth [] x.1.2.2.2.2.2.1 2) 8) (chk (roomL [] (nth [] x.1.2.2.2.2.2.1 3) 8) (chk (roomL [] (nth [] x.1.2.2.2.2.2.1 4) 8) (chk (inL? (appL [] (nth [] x.1.2.2.2.2.2.1 3)) 0) (bnd (atL (appL [] (nth [] x.1.2.2.2.2.2.1 3)) 0) (fun x6=>(chk (okCut 1 (lenL (appL [] (nth [] x.1.2.2.2.2.2.1 3))) (lenL (appL [] (nth [] x.1.2.2.2.2.2.1 3)))) (bnd (F231 ((appL [] (nth [] x.1.2.2.2.2.2.1 2)),((addI .i64 x6 4),()))) (fun x7=>(chk (okCut x7.1 (lenL (appL [] (nth [] x.1.2.2.2.2.2.1 2))) (lenL (appL [] (nth [] x.1.2.2.2.2.2.1 2)))) (cnd (eqI x7.1 (lenL (appL [] (nth [] x.1.2.2.2.2.2.1 2)))) (chk (roomL (appL [] (nth [] x.1.2.2.2.2.2.1 2)) ((addI .i64 x6 4)::[]) 8) (bnd (F231 ((appL [] (nth [] x.1.2.2.2.2.2.1 1)),((addI .i64 x6 2),()))) (fun x8=>(chk (okCut x8.1 (lenL (appL [] (nth [] x.1.2.2.2.2.2.1 1))) (lenL (appL [] (nth [] x.1.2.2.2.2.2.1 1)))) (cnd (eqI x8.1 (lenL (appL [] (nth [] x.1.2.2.2.2.2.1 1)))) (chk (roomL (appL [] (nth [] x.1.2.2.2.2.2.1 1)) ((addI .i64 x6 2)::[]) 8) (bnd (F231 ((appL [] (nth [] x.1.2.2.2.2.2.1 0)),((addI .i64 x6 1),()))) (fun x9=>(chk (okCut x9.1 (lenL (appL [] (nth [] x.1.2.2.2.2.2.1 0))) (lenL (appL [] (nth [] x.1.2.2.2.2.2.1 0)))) (cnd (eqI x9.1 (lenL (appL [] (nth [] x.1.2.2.2.2.2.1 0)))) (chk (roomL (appL [] (nth [] x.1.2.2.2.2.2.1 0)) ((addI .i64 x6 1)::[]) 8) (some ((x.1.1,(x.1.2.1,(x.1.2.2.1,(x.1.2.2.2.1,(x.1.2.2.2.2.1,(((appL (appL [] (nth [] x.1.2.2.2.2.2.1 0)) ((addI .i64 x6 1)::[]))::((appL (appL [] (nth [] x.1.2.2.2.2.2.1 1)) ((addI .i64 x6 2)::[]))::((appL (appL [] (nth [] x.1.2.2.2.2.2.1 2)) ((addI .i64 x6 4)::[]))::((cutL (appL [] (nth [] x.1.2.2.2.2.2.1 3)) 1 (lenL (appL [] (nth [] x.1.2.2.2.2.2.1 3))))::((appL [] (nth [] x.1.2.2.2.2.2.1 4))::[]))))),())))))),(x6,(0,()))))) none))))) none))))) none)))))))))))))) (chk (roomL [] (nth [] x.1.2.2.2.2.2.1 0) 8) (chk (roomL [] (nth [] x.1.2.2.2.2.2.1 1) 8) (chk (roomL [] (nth [] x.1.2.2.2.2.2.1 2) 8) (chk (roomL [] (nth [] x.1.2.2.2.2.2.1 3) 8) (chk (roomL [] (nth [] x.1.2.2.2.2.2.1 4) 8) (chk (inL? (appL [] (nth [] x.1.2.2.2.2.2.1 2)) 0) (bnd (atL (appL [] (nth [] x.1.2.2.2.2.2.1 2)) 0) (fun x10=>(chk (okCut 1 (lenL (appL [] (nth [] x.1.2.2.2.2.2.1 2))) (lenL (appL [] (nth [] x.1.2.2.2.2.2.1 2)))) (bnd (F231 ((appL [] (nth [] x.1.2.2.2.2.2.1 1)),((addI .i64 x10 2),()))) (fun x11=>(chk (okCut x11.1 (lenL (appL [] (nth [] x.1.2.2.2.2.2.1 1))) (lenL (appL [] (nth [] x.1.2.2.2.2.2.1 1)))) (cnd (eqI x11.1 (lenL (appL [] (nth [] x.1.2.2.2.2.2.1 1)))) (chk (roomL (appL [] (nth [] x.1.2.2.2.2.2.1 1)) ((addI .i64 x10 2)::[]) 8) (bnd (F231 ((appL [] (nth [] x.1.2.2.2.2.2.1 0)),((addI .i64 x10 1),()))) (fun x12=>(chk (okCut x12.1 (lenL (appL [] (nth [] x.1.2.2.2.2.2.1 0))) (lenL (appL [] (nth [] x.1.2.2.2.2.2.1 0)))) (cnd (eqI x12.1 (lenL (appL [] (nth [] x.1.2.2.2.2.2.1 0)))) (chk (roomL (appL [] (nth [] x.1.2.2.2.2.2.1 0)) ((addI .i64 x10 1)::[]) 8) (some ((x.1.1,(x.1.2.1,(x.1.2.2.1,(x.1.2.2.2.1,(x.1.2.2.2.2.1,(((appL (appL [] (nth [] x.1.2.2.2.2.2.1 0)) ((addI .i64 x10 1)::[]))::((appL (appL [] (nth [] x.1.2.2.2.2.2.1 1)) ((addI .i64 x10 2)::[]))::((cutL (appL [] (nth [] x.1.2.2.2.2.2.1 2)) 1 (lenL (appL [] (nth [] x.1.2.2.2.2.2.1 2))))::((appL [] (nth [] x.1.2.2.2.2.2.1 3))::((appL [] (nth [] x.1.2.2.2.2.2.1 4))::[]))))),())))))),(x10,(0,()))))) none))))) none)))))))))))))) (chk (roomL [] (nth [] x.1.2.2.2.2.2.1 0) 8) (chk (roomL [] (nth [] x.1.2.2.2.2.2.1 1) 8) (chk (roomL [] (nth [] x.1.2.2.2.2.2.1 2) 8) (chk (roomL [] (nth [] x.1.2.2.2.2.2.1 3) 8) (chk (roomL [] (nth [] x.1.2.2.2.2.2.1 4) 8) (chk (inL? (appL [] (nth [] x.1.2.2.2.2.2.1 1)) 0) (bnd (atL (appL [] (nth [] x.1.2.2.2.2.2.1 1)) 0) (fun x13=>(chk (okCut 1 (lenL (appL [] (nth [] x.1.2.2.2.2.2.1 1))) (lenL (appL [] (nth [] x.1.2.2.2.2.2.1 1)))) (bnd (F231 ((appL [] (nth [] x.1.2.2.2.2.2.1 0)),((addI .i64 x13 1),()))) (fun x14=>(chk (okCut x14.1 (lenL (appL [] (nth [] x.1.2.2.2.2.2.1 0))) (lenL (appL [] (nth [] x.1.2.2.2.2.2.1 0)))) (cnd (eqI x14.1 (lenL (appL [] (nth [] x.1.2.2.2.2.2.1 0)))) (chk (roomL (appL [] (nth [] x.1.2.2.2.2.2.1 0)) ((addI .i64 x13 1)::[]) 8) (some ((x.1.1,(x.1.2.1,(x.1.2.2.1,(x.1.2.2.2.1,(x.1.2.2.2.2.1,(((appL (appL [] (nth [] x.1.2.2.2.2.2.1 0)) ((addI .i64 x13 1)::[]))::((cutL (appL [] (nth [] x.1.2.2.2.2.2.1 1)) 1 (lenL (appL [] (nth [] x.1.2.2.2.2.2.1 1))))::((appL [] (nth [] x.1.2.2.2.2.2.1 2))::((appL [] (nth [] x.1.2.2.2.2.2.1 3))::((appL [] (nth [] x.1.2.2.2.2.2.1 4))::[]))))),())))))),(x13,(0,()))))) none)))))))))))))) (chk (roomL [] (nth [] x.1.2.2.2.2.2.1 0) 8) (chk (roomL [] (nth [] x.1.2.2.2.2.2.1 1) 8) (chk (roomL [] (nth [] x.1.2.2.2.2.2.1 2) 8) (chk (roomL [] (nth [] x.1.2.2.2.2.2.1 3) 8) (chk (roomL [] (nth [] x.1.2.2.2.2.2.1 4) 8) (chk (inL? (appL [] (nth [] x.1.2.2.2.2.2.1 0)) 0) (bnd (atL (appL [] (nth [] x.1.2.2.2.2.2.1 0)) 0) (fun x15=>(chk (okCut 1 (lenL (appL [] (nth [] x.1.2.2.2.2.2.1 0))) (lenL (appL [] (nth [] x.1.2.2.2.2.2.1 0)))) (some ((x.1.1,(x.1.2.1,(x.1.2.2.1,(x.1.2.2.2.1,(x.1.2.2.2.2.1,(((cutL (appL [] (nth [] x.1.2.2.2.2.2.1 0)) 1 (lenL (appL [] (nth [] x.1.2.2.2.2.2.1 0))))::((appL [] (nth [] x.1.2.2.2.2.2.1 1))::((appL [] (nth [] x.1.2.2.2.2.2.1 2))::((appL [] (nth [] x.1.2.2.2.2.2.1 3))::((appL [] (nth [] x.1.2.2.2.2.2.1 4))::[]))))),())))))),(x15,(0,())))))))))))))))))
noncomputable def F251 (x:D (.pair ty96 (.pair (.int .i64) .un))):Option (D (.pair ty96 ty148)):=cnd (eqI x.2.1 0) (G251 x) none
theorem x251 (x:D (.pair ty96 (.pair (.int .i64) .un))):fnL (cyF ct203 hiBn) [false,true] 1000 (.pair ty96 (.pair (.int .i64) .un)) (.pair ty96 ty148) (Tr.e) Tryz.f251 (x.1,((0:Int),()))=G251 x:=by kernel_rfl
theorem q251 (x:D (.pair ty96 (.pair (.int .i64) .un))) (h:(eqI x.2.1 0)=true):(x.1,((0:Int),()))=x:=by
  have h:x.2.1=0:=of_decide_eq_true h
  obtain ⟨a,b,u⟩:=x
  cases h; rfl
theorem n251:cxC.fn.get 251=some Tryz.f251:=by kernel_rfl
theorem e251:cxC.ext.get 251=none:=by kernel_rfl
noncomputable def ct251:Tr Con:=(ct203).set 251 ⟨(.pair ty96 (.pair (.int .i64) .un)),.pair ty96 ty148,F251⟩
theorem k251:CtOk ct251:=ct_set k203 (conL (hi:=hiBn) k203 n251 e251 (litF (b:=fun (x:D (.pair ty96 (.pair (.int .i64) .un)))=>eqI x.2.1 0) (q:=fun (x:D (.pair ty96 (.pair (.int .i64) .un)))=>(x.1,((0:Int),()))) q251 x251))
noncomputable def F255 (x:D (.pair ty230 (.pair (.int .i64) .un))):Option (D (.pair (.int .i64) .un)):=(bnd (F191 ((x.1.1,()),((lenL x.1.1),()))) (fun x0=>(cnd (neI x0.1 0) (some (x0.1,())) (cnd (ltI x.2.1 0) (some (2,())) (cnd (leI (lenL x.1.1) x.2.1) (some (2,())) (some (0,())))))))
theorem x255 (x:D (.pair ty230 (.pair (.int .i64) .un))):fnS (cyF ct251 hiBn) 1000 (.pair ty230 (.pair (.int .i64) .un)) (.pair (.int .i64) .un) (Tr.e) Tryz.f255 x=F255 x:=by kernel_rfl
theorem n255:cxC.fn.get 255=some Tryz.f255:=by kernel_rfl
theorem e255:cxC.ext.get 255=none:=by kernel_rfl
noncomputable def ct255:Tr Con:=(ct251).set 255 ⟨(.pair ty230 (.pair (.int .i64) .un)),(.pair (.int .i64) .un),F255⟩
theorem k255:CtOk ct255:=ct_set k251 (conB (hi:=hiBn) k251 n255 e255 x255)
noncomputable def F256 (x:D (.pair ty230 (.pair (.int .i64) (.pair (.list (.int .i64)) .un)))):Option (D (.pair ty230 .un)):=(chk (okMk (lenL x.1.1) (lenL x.1.1) 24) (bndS (loopS (fun d0=>(cnd (ltI d0.2.1 (lenL x.1.1)) (bnd (atL x.1.1 d0.2.1) (fun x1=>(cnd (eqI d0.2.1 x.2.1) (chk (okMk (lenL x.2.2.1) (lenL x.2.2.1) 8) (chk (inL? d0.1.1 d0.2.1) (chk (inL? d0.1.1 d0.2.1) (chk (inL? (setL d0.1.1 d0.2.1 (rep (lenL x.2.2.1) 0)) d0.2.1) (chk (inL? (setL d0.1.1 d0.2.1 (rep (lenL x.2.2.1) 0)) d0.2.1) (bnd (atL (setL d0.1.1 d0.2.1 (rep (lenL x.2.2.1) 0)) d0.2.1) (fun x2=>(some (.inl (((setL (setL d0.1.1 d0.2.1 (rep (lenL x.2.2.1) 0)) d0.2.1 (copyL x2 x.2.2.1)),()),((addI .i64 d0.2.1 1),()))))))))))) (chk (okMk (lenL x1) (lenL x1) 8) (chk (inL? d0.1.1 d0.2.1) (chk (inL? d0.1.1 d0.2.1) (chk (inL? (setL d0.1.1 d0.2.1 (rep (lenL x1) 0)) d0.2.1) (chk (inL? (setL d0.1.1 d0.2.1 (rep (lenL x1) 0)) d0.2.1) (bnd (atL (setL d0.1.1 d0.2.1 (rep (lenL x1) 0)) d0.2.1) (fun x3=>(some (.inl (((setL (setL d0.1.1 d0.2.1 (rep (lenL x1) 0)) d0.2.1 (copyL x3 x1)),()),((addI .i64 d0.2.1 1),())))))))))))))) (inR (some (.inl ((d0.1.1,()),())))))) 1000000000 (((rep (lenL x.1.1) []),()),(0,()))) (fun x4=>(some ((x4.1.1,()),())))))
theorem x256 (x:D (.pair ty230 (.pair (.int .i64) (.pair (.list (.int .i64)) .un)))):fnS (cyF ct255 hiBn) 1000 (.pair ty230 (.pair (.int .i64) (.pair (.list (.int .i64)) .un))) (.pair ty230 .un) (((Tr.e).set 0 [.keep 6,.box 7 [.s (.int .i64)]]).set 1 [.keep 1,.keep 2,.keep 3,.keep 6,.box 7 [.s (.int .i64)],.keep 17,.val 18 (.int .i64)]) Tryz.f256 x=F256 x:=by kernel_rfl
theorem n256:cxC.fn.get 256=some Tryz.f256:=by kernel_rfl
theorem e256:cxC.ext.get 256=none:=by kernel_rfl
noncomputable def ct256:Tr Con:=(ct255).set 256 ⟨(.pair ty230 (.pair (.int .i64) (.pair (.list (.int .i64)) .un))),.pair ty230 .un,F256⟩
theorem k256:CtOk ct256:=ct_set k255 (conB (hi:=hiBn) k255 n256 e256 x256)
noncomputable def F253 (x:D (.pair ty230 (.pair (.int .i64) .un))):Option (D (.pair ty230 (.pair (.list (.int .i64)) (.pair (.int .i64) .un)))):=(bnd (F255 ((x.1.1,()),(x.2.1,()))) (fun x0=>(cnd (neI x0.1 0) (some (([],()),([],(x0.1,())))) (bnd (atL x.1.1 x.2.1) (fun x1=>(chk (okMk (lenL x1) (lenL x1) 8) (bnd (atL x.1.1 x.2.1) (fun x2=>(bnd (F256 ((x.1.1,()),(x.2.1,([],())))) (fun x3=>(some ((x3.1.1,()),((copyL (rep (lenL x1) 0) x2),(0,()))))))))))))))
theorem x253 (x:D (.pair ty230 (.pair (.int .i64) .un))):fnS (cyF ct256 hiBn) 1000 (.pair ty230 (.pair (.int .i64) .un)) (.pair ty230 (.pair (.list (.int .i64)) (.pair (.int .i64) .un))) (Tr.e) Tryz.f253 x=F253 x:=by kernel_rfl
theorem n253:cxC.fn.get 253=some Tryz.f253:=by kernel_rfl
theorem e253:cxC.ext.get 253=none:=by kernel_rfl
noncomputable def ct253:Tr Con:=(ct256).set 253 ⟨(.pair ty230 (.pair (.int .i64) .un)),(.pair ty230 (.pair (.list (.int .i64)) (.pair (.int .i64) .un))),F253⟩
theorem k253:CtOk ct253:=ct_set k256 (conB (hi:=hiBn) k256 n253 e253 x253)
noncomputable def G280 (x:D (.pair ty96 ty148)):Option (D (.pair ty96 (.pair (.int .i64) .un))):=(bnd (F190 (x.1,())) (fun x0=>(cnd (neI x0.1 0) (some ((0,(0,(0,(0,(0,(([]::([]::([]::([]::([]::[]))))),())))))),(x0.1,()))) (bnd (F232 (x.1,(x.2.1,(0,())))) (fun x1=>(cnd (notB x1.1) (some ((0,(0,(0,(0,(0,(([]::([]::([]::([]::([]::[]))))),())))))),(2,()))) (bndS (loopS (α:=D (.pair (.pair ty96 .un) (.pair (.int .i64) .un))) (fun d2=>(cnd (ltI d2.2.1 (addI .i64 x.2.1 1)) (bnd (F239 (x.1,(d2.2.1,()))) (fun x3=>(cnd (leI 0 x3.1) (inR (inR (some ((0,(0,(0,(0,(0,(([]::([]::([]::([]::([]::[]))))),())))))),(7,()))))) (some (.inl ((d2.1.1,()),((addI .i64 d2.2.1 1),()))))))) (inR (some (.inl ((d2.1.1,()),())))))) 1000000000 (((0,(0,(0,(0,(0,(([]::([]::([]::([]::([]::[]))))),())))))),()),(x.2.1,()))) (fun x4=>(chk (roomL [] (nth [] x.1.2.2.2.2.2.1 0) 8) (chk (roomL [] (nth [] x.1.2.2.2.2.2.1 1) 8) (chk (roomL [] (nth [] x.1.2.2.2.2.2.1 2) 8) (chk (roomL [] (nth [] x.1.2.2.2.2.2.1 3) 8) (chk (roomL [] (nth [] x.1.2.2.2.2.2.1 4) 8) (bnd (F231 ((appL [] (nth [] x.1.2.2.2.2.2.1 0)),((xorI .i64 x.2.1 1),()))) (fun x5=>(cnd (notB x5.2.1) (bnd (F231 ((appL [] (nth [] x.1.2.2.2.2.2.1 0)),(x.2.1,()))) (fun x6=>(chk (okCut x6.1 (lenL (appL [] (nth [] x.1.2.2.2.2.2.1 0))) (lenL (appL [] (nth [] x.1.2.2.2.2.2.1 0)))) (cnd (eqI x6.1 (lenL (appL [] (nth [] x.1.2.2.2.2.2.1 0)))) (chk (roomL (appL [] (nth [] x.1.2.2.2.2.2.1 0)) (x.2.1::[]) 8) (some ((x.1.1,(x.1.2.1,(x.1.2.2.1,(x.1.2.2.2.1,(x.1.2.2.2.2.1,(((appL (appL [] (nth [] x.1.2.2.2.2.2.1 0)) (x.2.1::[]))::((appL [] (nth [] x.1.2.2.2.2.2.1 1))::((appL [] (nth [] x.1.2.2.2.2.2.1 2))::((appL [] (nth [] x.1.2.2.2.2.2.1 3))::((appL [] (nth [] x.1.2.2.2.2.2.1 4))::[]))))),())))))),(0,())))) none)))) (bnd (F232 ((x.1.1,(x.1.2.1,(x.1.2.2.1,(x.1.2.2.2.1,(x.1.2.2.2.2.1,(((appL [] (nth [] x.1.2.2.2.2.2.1 0))::((appL [] (nth [] x.1.2.2.2.2.2.1 1))::((appL [] (nth [] x.1.2.2.2.2.2.1 2))::((appL [] (nth [] x.1.2.2.2.2.2.1 3))::((appL [] (nth [] x.1.2.2.2.2.2.1 4))::[]))))),())))))),((minI x.2.1 (xorI .i64 x.2.1 1)),(1,())))) (fun x7=>(cnd (notB x7.1) (bnd (F231 ((appL [] (nth [] x.1.2.2.2.2.2.1 0)),(x.2.1,()))) (fun x8=>(chk (okCut x8.1 (lenL (appL [] (nth [] x.1.2.2.2.2.2.1 0))) (lenL (appL [] (nth [] x.1.2.2.2.2.2.1 0)))) (cnd (eqI x8.1 (lenL (appL [] (nth [] x.1.2.2.2.2.2.1 0)))) (chk (roomL (appL [] (nth [] x.1.2.2.2.2.2.1 0)) (x.2.1::[]) 8) (some ((x.1.1,(x.1.2.1,(x.1.2.2.1,(x.1.2.2.2.1,(x.1.2.2.2.2.1,(((appL (appL [] (nth [] x.1.2.2.2.2.2.1 0)) (x.2.1::[]))::((appL [] (nth [] x.1.2.2.2.2.2.1 1))::((appL [] (nth [] x.1.2.2.2.2.2.1 2))::((appL [] (nth [] x.1.2.2.2.2.2.1 3))::((appL [] (nth [] x.1.2.2.2.2.2.1 4))::[]))))),())))))),(0,())))) none)))) (chk (inL? (appL [] (nth [] x.1.2.2.2.2.2.1 0)) x5.1) (chk (eqI (addI .i64 x5.1 1) (addI .i64 x5.1 1)) (chk (roomL [] (appL [] (nth [] x.1.2.2.2.2.2.1 0)) 8) (bnd (F231 ((appL [] (nth [] x.1.2.2.2.2.2.1 1)),((xorI .i64 (minI x.2.1 (xorI .i64 x.2.1 1)) 2),()))) (fun x9=>(cnd (notB x9.2.1) (bnd (F231 ((appL [] (nth [] x.1.2.2.2.2.2.1 1)),((minI x.2.1 (xorI .i64 x.2.1 1)),()))) (fun x10=>(chk (okCut x10.1 (lenL (appL [] (nth [] x.1.2.2.2.2.2.1 1))) (lenL (appL [] (nth [] x.1.2.2.2.2.2.1 1)))) (cnd (eqI x10.1 (lenL (appL [] (nth [] x.1.2.2.2.2.2.1 1)))) (chk (roomL (appL [] (nth [] x.1.2.2.2.2.2.1 1)) ((minI x.2.1 (xorI .i64 x.2.1 1))::[]) 8) (some ((x.1.1,(x.1.2.1,(x.1.2.2.1,(x.1.2.2.2.1,(x.1.2.2.2.2.1,(((delL (appL [] (nth [] x.1.2.2.2.2.2.1 0)) x5.1)::((appL (appL [] (nth [] x.1.2.2.2.2.2.1 1)) ((minI x.2.1 (xorI .i64 x.2.1 1))::[]))::((appL [] (nth [] x.1.2.2.2.2.2.1 2))::((appL [] (nth [] x.1.2.2.2.2.2.1 3))::((appL [] (nth [] x.1.2.2.2.2.2.1 4))::[]))))),())))))),(0,())))) none)))) (bnd (F232 ((x.1.1,(x.1.2.1,(x.1.2.2.1,(x.1.2.2.2.1,(x.1.2.2.2.2.1,(((delL (appL [] (nth [] x.1.2.2.2.2.2.1 0)) x5.1)::((appL [] (nth [] x.1.2.2.2.2.2.1 1))::((appL [] (nth [] x.1.2.2.2.2.2.1 2))::((appL [] (nth [] x.1.2.2.2.2.2.1 3))::((appL [] (nth [] x.1.2.2.2.2.2.1 4))::[]))))),())))))),((minI (minI x.2.1 (xorI .i64 x.2.1 1)) (xorI .i64 (minI x.2.1 (xorI .i64 x.2.1 1)) 2)),(2,())))) (fun x11=>(cnd (notB x11.1) (bnd (F231 ((appL [] (nth [] x.1.2.2.2.2.2.1 1)),((minI x.2.1 (xorI .i64 x.2.1 1)),()))) (fun x12=>(chk (okCut x12.1 (lenL (appL [] (nth [] x.1.2.2.2.2.2.1 1))) (lenL (appL [] (nth [] x.1.2.2.2.2.2.1 1)))) (cnd (eqI x12.1 (lenL (appL [] (nth [] x.1.2.2.2.2.2.1 1)))) (chk (roomL (appL [] (nth [] x.1.2.2.2.2.2.1 1)) ((minI x.2.1 (xorI .i64 x.2.1 1))::[]) 8) (some ((x.1.1,(x.1.2.1,(x.1.2.2.1,(x.1.2.2.2.1,(x.1.2.2.2.2.1,(((delL (appL [] (nth [] x.1.2.2.2.2.2.1 0)) x5.1)::((appL (appL [] (nth [] x.1.2.2.2.2.2.1 1)) ((minI x.2.1 (xorI .i64 x.2.1 1))::[]))::((appL [] (nth [] x.1.2.2.2.2.2.1 2))::((appL [] (nth [] x.1.2.2.2.2.2.1 3))::((appL [] (nth [] x.1.2.2.2.2.2.1 4))::[]))))),())))))),(0,())))) none)))) (chk (inL? (appL [] (nth [] x.1.2.2.2.2.2.1 1)) x9.1) (chk (eqI (addI .i64 x9.1 1) (addI .i64 x9.1 1)) (chk (roomL [] (appL [] (nth [] x.1.2.2.2.2.2.1 1)) 8) (bnd (F231 ((appL [] (nth [] x.1.2.2.2.2.2.1 2)),((xorI .i64 (minI (minI x.2.1 (xorI .i64 x.2.1 1)) (xorI .i64 (minI x.2.1 (xorI .i64 x.2.1 1)) 2)) 4),()))) (fun x13=>(cnd (notB x13.2.1) (bnd (F231 ((appL [] (nth [] x.1.2.2.2.2.2.1 2)),((minI (minI x.2.1 (xorI .i64 x.2.1 1)) (xorI .i64 (minI x.2.1 (xorI .i64 x.2.1 1)) 2)),()))) (fun x14=>(chk (okCut x14.1 (lenL (appL [] (nth [] x.1.2.2.2.2.2.1 2))) (lenL (appL [] (nth [] x.1.2.2.2.2.2.1 2)))) (cnd (eqI x14.1 (lenL (appL [] (nth [] x.1.2.2.2.2.2.1 2)))) (chk (roomL (appL [] (nth [] x.1.2.2.2.2.2.1 2)) ((minI (minI x.2.1 (xorI .i64 x.2.1 1)) (xorI .i64 (minI x.2.1 (xorI .i64 x.2.1 1)) 2))::[]) 8) (some ((x.1.1,(x.1.2.1,(x.1.2.2.1,(x.1.2.2.2.1,(x.1.2.2.2.2.1,(((delL (appL [] (nth [] x.1.2.2.2.2.2.1 0)) x5.1)::((delL (appL [] (nth [] x.1.2.2.2.2.2.1 1)) x9.1)::((appL (appL [] (nth [] x.1.2.2.2.2.2.1 2)) ((minI (minI x.2.1 (xorI .i64 x.2.1 1)) (xorI .i64 (minI x.2.1 (xorI .i64 x.2.1 1)) 2))::[]))::((appL [] (nth [] x.1.2.2.2.2.2.1 3))::((appL [] (nth [] x.1.2.2.2.2.2.1 4))::[]))))),())))))),(0,())))) none)))) (bnd (F232 ((x.1.1,(x.1.2.1,(x.1.2.2.1,(x.1.2.2.2.1,(x.1.2.2.2.2.1,(((delL (appL [] (nth [] x.1.2.2.2.2.2.1 0)) x5.1)::((delL (appL [] (nth [] x.1.2.2.2.2.2.1 1)) x9.1)::((appL [] (nth [] x.1.2.2.2.2.2.1 2))::((appL [] (nth [] x.1.2.2.2.2.2.1 3))::((appL [] (nth [] x.1.2.2.2.2.2.1 4))::[]))))),())))))),((minI (minI (minI x.2.1 (xorI .i64 x.2.1 1)) (xorI .i64 (minI x.2.1 (xorI .i64 x.2.1 1)) 2)) (xorI .i64 (minI (minI x.2.1 (xorI .i64 x.2.1 1)) (xorI .i64 (minI x.2.1 (xorI .i64 x.2.1 1)) 2)) 4)),(3,())))) (fun x15=>(cnd (notB x15.1) (bnd (F231 ((appL [] (nth [] x.1.2.2.2.2.2.1 2)),((minI (minI x.2.1 (xorI .i64 x.2.1 1)) (xorI .i64 (minI x.2.1 (xorI .i64 x.2.1 1)) 2)),()))) (fun x16=>(chk (okCut x16.1 (lenL (appL [] (nth [] x.1.2.2.2.2.2.1 2))) (lenL (appL [] (nth [] x.1.2.2.2.2.2.1 2)))) (cnd (eqI x16.1 (lenL (appL [] (nth [] x.1.2.2.2.2.2.1 2)))) (chk (roomL (appL [] (nth [] x.1.2.2.2.2.2.1 2)) ((minI (minI x.2.1 (xorI .i64 x.2.1 1)) (xorI .i64 (minI x.2.1 (xorI .i64 x.2.1 1)) 2))::[]) 8) (some ((x.1.1,(x.1.2.1,(x.1.2.2.1,(x.1.2.2.2.1,(x.1.2.2.2.2.1,(((delL (appL [] (nth [] x.1.2.2.2.2.2.1 0)) x5.1)::((delL (appL [] (nth [] x.1.2.2.2.2.2.1 1)) x9.1)::((appL (appL [] (nth [] x.1.2.2.2.2.2.1 2)) ((minI (minI x.2.1 (xorI .i64 x.2.1 1)) (xorI .i64 (minI x.2.1 (xorI .i64 x.2.1 1)) 2))::[]))::((appL [] (nth [] x.1.2.2.2.2.2.1 3))::((appL [] (nth [] x.1.2.2.2.2.2.1 4))::[]))))),())))))),(0,())))) none)))) (chk (inL? (appL [] (nth [] x.1.2.2.2.2.2.1 2)) x13.1) (chk (eqI (addI .i64 x13.1 1) (addI .i64 x13.1 1)) (chk (roomL [] (appL [] (nth [] x.1.2.2.2.2.2.1 2)) 8) (bnd (F231 ((appL [] (nth [] x.1.2.2.2.2.2.1 3)),((xorI .i64 (minI (minI (minI x.2.1 (xorI .i64 x.2.1 1)) (xorI .i64 (minI x.2.1 (xorI .i64 x.2.1 1)) 2)) (xorI .i64 (minI (minI x.2.1 (xorI .i64 x.2.1 1)) (xorI .i64 (minI x.2.1 (xorI .i64 x.2.1 1)) 2)) 4)) 8),()))) (fun x17=>(cnd (notB x17.2.1) (bnd (F231 ((appL [] (nth [] x.1.2.2.2.2.2.1 3)),((minI (minI (minI x.2.1 (xorI .i64 x.2.1 1)) (xorI .i64 (minI x.2.1 (xorI .i64 x.2.1 1)) 2)) (xorI .i64 (minI (minI x.2.1 (xorI .i64 x.2.1 1)) (xorI .i64 (minI x.2.1 (xorI .i64 x.2.1 1)) 2)) 4)),()))) (fun x18=>(chk (okCut x18.1 (lenL (appL [] (nth [] x.1.2.2.2.2.2.1 3))) (lenL (appL [] (nth [] x.1.2.2.2.2.2.1 3)))) (cnd (eqI x18.1 (lenL (appL [] (nth [] x.1.2.2.2.2.2.1 3)))) (chk (roomL (appL [] (nth [] x.1.2.2.2.2.2.1 3)) ((minI (minI (minI x.2.1 (xorI .i64 x.2.1 1)) (xorI .i64 (minI x.2.1 (xorI .i64 x.2.1 1)) 2)) (xorI .i64 (minI (minI x.2.1 (xorI .i64 x.2.1 1)) (xorI .i64 (minI x.2.1 (xorI .i64 x.2.1 1)) 2)) 4))::[]) 8) (some ((x.1.1,(x.1.2.1,(x.1.2.2.1,(x.1.2.2.2.1,(x.1.2.2.2.2.1,(((delL (appL [] (nth [] x.1.2.2.2.2.2.1 0)) x5.1)::((delL (appL [] (nth [] x.1.2.2.2.2.2.1 1)) x9.1)::((delL (appL [] (nth [] x.1.2.2.2.2.2.1 2)) x13.1)::((appL (appL [] (nth [] x.1.2.2.2.2.2.1 3)) ((minI (minI (minI x.2.1 (xorI .i64 x.2.1 1)) (xorI .i64 (minI x.2.1 (xorI .i64 x.2.1 1)) 2)) (xorI .i64 (minI (minI x.2.1 (xorI .i64 x.2.1 1)) (xorI .i64 (minI x.2.1 (xorI .i64 x.2.1 1)) 2)) 4))::[]))::((appL [] (nth [] x.1.2.2.2.2.2.1 4))::[]))))),())))))),(0,())))) none)))) (bnd (F232 ((x.1.1,(x.1.2.1,(x.1.2.2.1,(x.1.2.2.2.1,(x.1.2.2.2.2.1,(((delL (appL [] (nth [] x.1.2.2.2.2.2.1 0)) x5.1)::((delL (appL [] (nth [] x.1.2.2.2.2.2.1 1)) x9.1)::((delL (appL [] (nth [] x.1.2.2.2.2.2.1 2)) x13.1)::((appL [] (nth [] x.1.2.2.2.2.2.1 3))::((appL [] (nth [] x.1.2.2.2.2.2.1 4))::[]))))),())))))),((minI (minI (minI (minI x.2.1 (xorI .i64 x.2.1 1)) (xorI .i64 (minI x.2.1 (xorI .i64 x.2.1 1)) 2)) (xorI .i64 (minI (minI x.2.1 (xorI .i64 x.2.1 1)) (xorI .i64 (minI x.2.1 (xorI .i64 x.2.1 1)) 2)) 4)) (xorI .i64 (minI (minI (minI x.2.1 (xorI .i64 x.2.1 1)) (xorI .i64 (minI x.2.1 (xorI .i64 x.2.1 1)) 2)) (xorI .i64 (minI (minI x.2.1 (xorI .i64 x.2.1 1)) (xorI .i64 (minI x.2.1 (xorI .i64 x.2.1 1)) 2)) 4)) 8)),(4,())))) (fun x19=>(cnd (notB x19.1) (bnd (F231 ((appL [] (nth [] x.1.2.2.2.2.2.1 3)),((minI (minI (minI x.2.1 (xorI .i64 x.2.1 1)) (xorI .i64 (minI x.2.1 (xorI .i64 x.2.1 1)) 2)) (xorI .i64 (minI (minI x.2.1 (xorI .i64 x.2.1 1)) (xorI .i64 (minI x.2.1 (xorI .i64 x.2.1 1)) 2)) 4)),()))) (fun x20=>(chk (okCut x20.1 (lenL (appL [] (nth [] x.1.2.2.2.2.2.1 3))) (lenL (appL [] (nth [] x.1.2.2.2.2.2.1 3)))) (cnd (eqI x20.1 (lenL (appL [] (nth [] x.1.2.2.2.2.2.1 3)))) (chk (roomL (appL [] (nth [] x.1.2.2.2.2.2.1 3)) ((minI (minI (minI x.2.1 (xorI .i64 x.2.1 1)) (xorI .i64 (minI x.2.1 (xorI .i64 x.2.1 1)) 2)) (xorI .i64 (minI (minI x.2.1 (xorI .i64 x.2.1 1)) (xorI .i64 (minI x.2.1 (xorI .i64 x.2.1 1)) 2)) 4))::[]) 8) (some ((x.1.1,(x.1.2.1,(x.1.2.2.1,(x.1.2.2.2.1,(x.1.2.2.2.2.1,(((delL (appL [] (nth [] x.1.2.2.2.2.2.1 0)) x5.1)::((delL (appL [] (nth [] x.1.2.2.2.2.2.1 1)) x9.1)::((delL (appL [] (nth [] x.1.2.2.2.2.2.1 2)) x13.1)::((appL (appL [] (nth [] x.1.2.2.2.2.2.1 3)) ((minI (minI (minI x.2.1 (xorI .i64 x.2.1 1)) (xorI .i64 (minI x.2.1 (xorI .i64 x.2.1 1)) 2)) (xorI .i64 (minI (minI x.2.1 (xorI .i64 x.2.1 1)) (xorI .i64 (minI x.2.1 (xorI .i64 x.2.1 1)) 2)) 4))::[]))::((appL [] (nth [] x.1.2.2.2.2.2.1 4))::[]))))),())))))),(0,())))) none)))) (chk (inL? (appL [] (nth [] x.1.2.2.2.2.2.1 3)) x17.1) (chk (eqI (addI .i64 x17.1 1) (addI .i64 x17.1 1)) (chk (roomL [] (appL [] (nth [] x.1.2.2.2.2.2.1 3)) 8) (bnd (F231 ((appL [] (nth [] x.1.2.2.2.2.2.1 4)),((minI (minI (minI (minI x.2.1 (xorI .i64 x.2.1 1)) (xorI .i64 (minI x.2.1 (xorI .i64 x.2.1 1)) 2)) (xorI .i64 (minI (minI x.2.1 (xorI .i64 x.2.1 1)) (xorI .i64 (minI x.2.1 (xorI .i64 x.2.1 1)) 2)) 4)) (xorI .i64 (minI (minI (minI x.2.1 (xorI .i64 x.2.1 1)) (xorI .i64 (minI x.2.1 (xorI .i64 x.2.1 1)) 2)) (xorI .i64 (minI (minI x.2.1 (xorI .i64 x.2.1 1)) (xorI .i64 (minI x.2.1 (xorI .i64 x.2.1 1)) 2)) 4)) 8)),()))) (fun x21=>(chk (okCut x21.1 (lenL (appL [] (nth [] x.1.2.2.2.2.2.1 4))) (lenL (appL [] (nth [] x.1.2.2.2.2.2.1 4)))) (cnd (eqI x21.1 (lenL (appL [] (nth [] x.1.2.2.2.2.2.1 4)))) (chk (roomL (appL [] (nth [] x.1.2.2.2.2.2.1 4)) ((minI (minI (minI (minI x.2.1 (xorI .i64 x.2.1 1)) (xorI .i64 (minI x.2.1 (xorI .i64 x.2.1 1)) 2)) (xorI .i64 (minI (minI x.2.1 (xorI .i64 x.2.1 1)) (xorI .i64 (minI x.2.1 (xorI .i64 x.2.1 1)) 2)) 4)) (xorI .i64 (minI (minI (minI x.2.1 (xorI .i64 x.2.1 1)) (xorI .i64 (minI x.2.1 (xorI .i64 x.2.1 1)) 2)) (xorI .i64 (minI (minI x.2.1 (xorI .i64 x.2.1 1)) (xorI .i64 (minI x.2.1 (xorI .i64 x.2.1 1)) 2)) 4)) 8))::[]) 8) (some ((x.1.1,(x.1.2.1,(x.1.2.2.1,(x.1.2.2.2.1,(x.1.2.2.2.2.1,(((delL (appL [] (nth [] x.1.2.2.2.2.2.1 0)) x5.1)::((delL (appL [] (nth [] x.1.2.2.2.2.2.1 1)) x9.1)::((delL (appL [] (nth [] x.1.2.2.2.2.2.1 2)) x13.1)::((delL (appL [] (nth [] x.1.2.2.2.2.2.1 3)) x17.1)::((appL (appL [] (nth [] x.1.2.2.2.2.2.1 4)) ((minI (minI (minI (minI x.2.1 (xorI .i64 x.2.1 1)) (xorI .i64 (minI x.2.1 (xorI .i64 x.2.1 1)) 2)) (xorI .i64 (minI (minI x.2.1 (xorI .i64 x.2.1 1)) (xorI .i64 (minI x.2.1 (xorI .i64 x.2.1 1)) 2)) 4)) (xorI .i64 (minI (minI (minI x.2.1 (xorI .i64 x.2.1 1)) (xorI .i64 (minI x.2.1 (xorI .i64 x.2.1 1)) 2)) (xorI .i64 (minI (minI x.2.1 (xorI .i64 x.2.1 1)) (xorI .i64 (minI x.2.1 (xorI .i64 x.2.1 1)) 2)) 4)) 8))::[]))::[]))))),())))))),(0,())))) none)))))))))))))))))))))))))))))))))))))))))))))))))))))
noncomputable def F280 (x:D (.pair ty96 ty148)):Option (D (.pair ty96 (.pair (.int .i64) .un))):=cnd (eqI x.2.2.1 0) (G280 x) none
theorem x280 (x:D (.pair ty96 ty148)):fnL (cyF ct253 hiBn) [false,false,true] 1000 (.pair ty96 ty148) (.pair ty96 (.pair (.int .i64) .un)) (((Tr.e).set 0 [.keep 1,.keep 2,.keep 3,.box 6 [.v ty96]]).set 1 [.keep 1,.keep 2,.keep 3,.box 6 [.v ty96],.val 9 (.int .i64)]) Tryz.f280 (x.1,(x.2.1,((0:Int),())))=G280 x:=by kernel_rfl
theorem q280 (x:D (.pair ty96 ty148)) (h:(eqI x.2.2.1 0)=true):(x.1,(x.2.1,((0:Int),())))=x:=by
  have h:x.2.2.1=0:=of_decide_eq_true h
  obtain ⟨a,b,c,u⟩:=x
  cases h; rfl
theorem n280:cxC.fn.get 280=some Tryz.f280:=by kernel_rfl
theorem e280:cxC.ext.get 280=none:=by kernel_rfl
noncomputable def ct280:Tr Con:=(ct253).set 280 ⟨.pair ty96 ty148,(.pair ty96 (.pair (.int .i64) .un)),F280⟩
theorem k280:CtOk ct280:=ct_set k253 (conL (hi:=hiBn) k253 n280 e280 (litF (b:=fun (x:D (.pair ty96 ty148))=>eqI x.2.2.1 0) (q:=fun (x:D (.pair ty96 ty148))=>(x.1,(x.2.1,((0:Int),())))) q280 x280))
noncomputable def F207 (x:D (.pair ty230 (.pair (.int .i64) .un))):Option (D (.pair ty230 ty148)):=(bnd (F255 ((x.1.1,()),(x.2.1,()))) (fun x0=>(cnd (neI x0.1 0) (some (([],()),(0,(x0.1,())))) (bnd (atL x.1.1 x.2.1) (fun x1=>(cnd (eqI (lenL x1) 0) (some (([],()),(0,(6,())))) (chk (okCut 0 (subI .i64 (lenL x1) 1) (lenL x1)) (bnd (atL x1 (subI .i64 (lenL x1) 1)) (fun x2=>(bnd (F256 ((x.1.1,()),(x.2.1,((cutL x1 0 (subI .i64 (lenL x1) 1)),())))) (fun x3=>(some ((x3.1.1,()),(x2,(0,())))))))))))))))
theorem x207 (x:D (.pair ty230 (.pair (.int .i64) .un))):fnS (cyF ct280 hiBn) 1000 (.pair ty230 (.pair (.int .i64) .un)) (.pair ty230 ty148) (Tr.e) Tryz.f207 x=F207 x:=by kernel_rfl
theorem n207:cxC.fn.get 207=some Tryz.f207:=by kernel_rfl
theorem e207:cxC.ext.get 207=none:=by kernel_rfl
noncomputable def ct207:Tr Con:=(ct280).set 207 ⟨(.pair ty230 (.pair (.int .i64) .un)),.pair ty230 ty148,F207⟩
theorem k207:CtOk ct207:=ct_set k280 (conB (hi:=hiBn) k280 n207 e207 x207)
noncomputable def G135 (x:D (.pair ty36 (.pair (.int .i64) (.pair .bool (.pair .bool .un))))):Option (D (.pair ty36 ty148)):=(bnd (F128 (x.1,())) (fun x0=>(cnd (neI x0.1 0) (some (([],(0,(0,([],([],()))))),(0,(x0.1,())))) (cnd (ltI x.2.1 0) (some (([],(0,(0,([],([],()))))),(0,(2,())))) (cnd (leI (lenL x.1.1) x.2.1) (some (([],(0,(0,([],([],()))))),(0,(2,())))) (bnd (atL x.1.1 x.2.1) (fun x1=>(bnd (F201 (x.1.2.2.2.1,(x1,(x.2.2.1,())))) (fun x2=>(bndS (loopS (α:=D (.pair (.pair ty36 .un) (.pair (.int .i64) .un))) (fun d3=>(cnd (ltI d3.2.1 (lenL x2.1)) (bndS (bnd (atL x2.1 d3.2.1) (fun x4=>(bnd (F203 (x.1,(x4,()))) (fun x5=>(cnd (ltI x5.1 1) (some (.inl ((d3.1.1,()),()))) (chk (roomL [] x.1.1 8) (chk (roomL [] x.1.2.2.2.1 160) (chk (roomL [] x.1.2.2.2.2.1 24) (bndS (loopS (α:=D (.pair ty36 (.pair (.int .i64) .un))) (fun d6=>(cnd (ltI d6.2.1 (lenL (appL [] x.1.2.2.2.1))) (bndS (bndS (chk (inL? d6.1.2.2.2.1 d6.2.1) (bnd (atL d6.1.2.2.2.1 d6.2.1) (fun x7=>(chk (roomL [] (nth [] x7.2.2.2.2.2.1 0) 8) (chk (inL? d6.1.2.2.2.1 d6.2.1) (bnd (atL d6.1.2.2.2.1 d6.2.1) (fun x8=>(some (.inl ((d6.1.1,(d6.1.2.1,(d6.1.2.2.1,((setL d6.1.2.2.2.1 d6.2.1 (x8.1,(x8.2.1,(x8.2.2.1,(x8.2.2.2.1,(x8.2.2.2.2.1,(((appL [] (nth [] x7.2.2.2.2.2.1 0))::((nth [] x8.2.2.2.2.2.1 1)::((nth [] x8.2.2.2.2.2.1 2)::((nth [] x8.2.2.2.2.2.1 3)::((nth [] x8.2.2.2.2.2.1 4)::[]))))),x8.2.2.2.2.2.2))))))),(d6.1.2.2.2.2.1,()))))),())))))))))) (fun x9=>(bndS (chk (inL? x9.1.2.2.2.1 d6.2.1) (bnd (atL x9.1.2.2.2.1 d6.2.1) (fun x10=>(chk (roomL [] (nth [] x10.2.2.2.2.2.1 1) 8) (chk (inL? x9.1.2.2.2.1 d6.2.1) (bnd (atL x9.1.2.2.2.1 d6.2.1) (fun x11=>(some (.inl ((x9.1.1,(x9.1.2.1,(x9.1.2.2.1,((setL x9.1.2.2.2.1 d6.2.1 (x11.1,(x11.2.1,(x11.2.2.1,(x11.2.2.2.1,(x11.2.2.2.2.1,(((nth [] x11.2.2.2.2.2.1 0)::((appL [] (nth [] x10.2.2.2.2.2.1 1))::((nth [] x11.2.2.2.2.2.1 2)::((nth [] x11.2.2.2.2.2.1 3)::((nth [] x11.2.2.2.2.2.1 4)::[]))))),x11.2.2.2.2.2.2))))))),(x9.1.2.2.2.2.1,()))))),())))))))))) (fun x12=>(bndS (chk (inL? x12.1.2.2.2.1 d6.2.1) (bnd (atL x12.1.2.2.2.1 d6.2.1) (fun x13=>(chk (roomL [] (nth [] x13.2.2.2.2.2.1 2) 8) (chk (inL? x12.1.2.2.2.1 d6.2.1) (bnd (atL x12.1.2.2.2.1 d6.2.1) (fun x14=>(some (.inl ((x12.1.1,(x12.1.2.1,(x12.1.2.2.1,((setL x12.1.2.2.2.1 d6.2.1 (x14.1,(x14.2.1,(x14.2.2.1,(x14.2.2.2.1,(x14.2.2.2.2.1,(((nth [] x14.2.2.2.2.2.1 0)::((nth [] x14.2.2.2.2.2.1 1)::((appL [] (nth [] x13.2.2.2.2.2.1 2))::((nth [] x14.2.2.2.2.2.1 3)::((nth [] x14.2.2.2.2.2.1 4)::[]))))),x14.2.2.2.2.2.2))))))),(x12.1.2.2.2.2.1,()))))),())))))))))) (fun x15=>(bndS (chk (inL? x15.1.2.2.2.1 d6.2.1) (bnd (atL x15.1.2.2.2.1 d6.2.1) (fun x16=>(chk (roomL [] (nth [] x16.2.2.2.2.2.1 3) 8) (chk (inL? x15.1.2.2.2.1 d6.2.1) (bnd (atL x15.1.2.2.2.1 d6.2.1) (fun x17=>(some (.inl ((x15.1.1,(x15.1.2.1,(x15.1.2.2.1,((setL x15.1.2.2.2.1 d6.2.1 (x17.1,(x17.2.1,(x17.2.2.1,(x17.2.2.2.1,(x17.2.2.2.2.1,(((nth [] x17.2.2.2.2.2.1 0)::((nth [] x17.2.2.2.2.2.1 1)::((nth [] x17.2.2.2.2.2.1 2)::((appL [] (nth [] x16.2.2.2.2.2.1 3))::((nth [] x17.2.2.2.2.2.1 4)::[]))))),x17.2.2.2.2.2.2))))))),(x15.1.2.2.2.2.1,()))))),())))))))))) (fun x18=>(bndS (chk (inL? x18.1.2.2.2.1 d6.2.1) (bnd (atL x18.1.2.2.2.1 d6.2.1) (fun x19=>(chk (roomL [] (nth [] x19.2.2.2.2.2.1 4) 8) (chk (inL? x18.1.2.2.2.1 d6.2.1) (bnd (atL x18.1.2.2.2.1 d6.2.1) (fun x20=>(some (.inl ((x18.1.1,(x18.1.2.1,(x18.1.2.2.1,((setL x18.1.2.2.2.1 d6.2.1 (x20.1,(x20.2.1,(x20.2.2.1,(x20.2.2.2.1,(x20.2.2.2.2.1,(((nth [] x20.2.2.2.2.2.1 0)::((nth [] x20.2.2.2.2.2.1 1)::((nth [] x20.2.2.2.2.2.1 2)::((nth [] x20.2.2.2.2.2.1 3)::((appL [] (nth [] x19.2.2.2.2.2.1 4))::[]))))),x20.2.2.2.2.2.2))))))),(x18.1.2.2.2.2.1,()))))),())))))))))) (fun x21=>(some (.inl ((x21.1.1,(x21.1.2.1,(x21.1.2.2.1,(x21.1.2.2.2.1,(x21.1.2.2.2.2.1,()))))),()))))))))))))) (fun x22=>(some (.inl ((x22.1.1,(x22.1.2.1,(x22.1.2.2.1,(x22.1.2.2.2.1,(x22.1.2.2.2.2.1,()))))),((addI .i64 d6.2.1 1),())))))) (inR (some (.inl ((d6.1.1,(d6.1.2.1,(d6.1.2.2.1,(d6.1.2.2.2.1,(d6.1.2.2.2.2.1,()))))),())))))) 1000000000 (((appL [] x.1.1),(x.1.2.1,(x.1.2.2.1,((appL [] x.1.2.2.2.1),((appL [] x.1.2.2.2.2.1),()))))),(0,()))) (fun x23=>(bndS (loopS (α:=D (.pair ty36 (.pair (.int .i64) .un))) (fun d24=>(cnd (ltI d24.2.1 (lenL x23.1.2.2.2.2.1)) (bndS (chk (inL? d24.1.2.2.2.2.1 d24.2.1) (bnd (atL d24.1.2.2.2.2.1 d24.2.1) (fun x25=>(chk (roomL [] x25.1 24) (bndS (loopS (α:=D (.pair (.list (.list (.int .i64))) (.pair (.int .i64) .un))) (fun d26=>(cnd (ltI d26.2.1 (lenL (appL [] x25.1))) (chk (inL? d26.1 d26.2.1) (bnd (atL d26.1 d26.2.1) (fun x27=>(chk (roomL [] x27 8) (chk (inL? d26.1 d26.2.1) (bnd (atL d26.1 d26.2.1) (fun x28=>(some (.inl ((setL d26.1 d26.2.1 (appL [] x27)),((addI .i64 d26.2.1 1),()))))))))))) (inR (some (.inl (d26.1,())))))) 1000000000 ((appL [] x25.1),(0,()))) (fun x29=>(chk (inL? d24.1.2.2.2.2.1 d24.2.1) (bnd (atL d24.1.2.2.2.2.1 d24.2.1) (fun x30=>(some (.inl ((d24.1.1,(d24.1.2.1,(d24.1.2.2.1,(d24.1.2.2.2.1,((setL d24.1.2.2.2.2.1 d24.2.1 (x29.1,())),()))))),())))))))))))) (fun x31=>(some (.inl ((x31.1.1,(x31.1.2.1,(x31.1.2.2.1,(x31.1.2.2.2.1,(x31.1.2.2.2.2.1,()))))),((addI .i64 d24.2.1 1),())))))) (inR (some (.inl ((d24.1.1,(d24.1.2.1,(d24.1.2.2.1,(d24.1.2.2.2.1,(d24.1.2.2.2.2.1,()))))),())))))) 1000000000 ((x23.1.1,(x23.1.2.1,(x23.1.2.2.1,(x23.1.2.2.2.1,(x23.1.2.2.2.2.1,()))))),(0,()))) (fun x32=>(chk (inL? x32.1.2.2.2.2.1 x.2.1) (bnd (atL x32.1.2.2.2.2.1 x.2.1) (fun x33=>(bnd (atL x33.1 x4) (fun x34=>(cnd (eqI (lenL x34) 0) (bnd (bndS (loopS (α:=D (.pair ty36 (.pair (.list (.int .i64)) (.pair (.int .i64) .un)))) (fun d35=>(cnd (ltI d35.2.2.1 x32.1.2.1) (chk (inL? d35.1.2.2.2.1 x4) (bnd (atL d35.1.2.2.2.1 x4) (fun x36=>(bnd (F251 (x36,(0,()))) (fun x37=>(cnd (neI x37.2.2.1 0) (inR (some (.inl ((d35.1.1,(d35.1.2.1,(d35.1.2.2.1,(d35.1.2.2.2.1,(d35.1.2.2.2.2.1,()))))),(d35.2.1,()))))) (chk (inL? d35.1.2.2.2.1 x4) (bnd (atL d35.1.2.2.2.1 x4) (fun x38=>(chk (roomL d35.2.1 (x37.2.1::[]) 8) (some (.inl ((d35.1.1,(d35.1.2.1,(d35.1.2.2.1,((setL d35.1.2.2.2.1 x4 x37.1),(d35.1.2.2.2.2.1,()))))),((appL d35.2.1 (x37.2.1::[])),((addI .i64 d35.2.2.1 1),()))))))))))))))) (inR (some (.inl ((d35.1.1,(d35.1.2.1,(d35.1.2.2.1,(d35.1.2.2.2.1,(d35.1.2.2.2.2.1,()))))),(d35.2.1,()))))))) 1000000000 ((x32.1.1,(x32.1.2.1,(x32.1.2.2.1,(x32.1.2.2.2.1,(x32.1.2.2.2.2.1,()))))),([],(0,())))) (fun x39=>(chk (inL? x39.1.2.2.2.2.1 x.2.1) (bnd (atL x39.1.2.2.2.2.1 x.2.1) (fun x40=>(bnd (bnd (F255 ((x40.1,()),(x4,()))) (fun x41=>(cnd (neI x41.1 0) (some (([],()),(x41.1,()))) (bndS (loopS (α:=D (.pair (.list ty182) (.pair (.int .i64) .un))) (fun d42=>(cnd (ltI d42.2.1 (lenL x40.1)) (bndS (bnd (atL x40.1 d42.2.1) (fun x43=>(bndS (loopS (α:=D (.pair (.list ty182) (.pair (.int .i64) .un))) (fun d44=>(cnd (ltI d44.2.1 (lenL x43)) (bnd (atL x43 d44.2.1) (fun x45=>(some (.inl ((mPut d44.1 x45 true),((addI .i64 d44.2.1 1),())))))) (inR (some (.inl (d44.1,())))))) 1000000000 (d42.1,(0,()))) (fun x46=>(some (.inl (x46.1,()))))))) (fun x47=>(some (.inl (x47.1,((addI .i64 d42.2.1 1),())))))) (inR (some (.inl (d42.1,())))))) 1000000000 ([],(0,()))) (fun x48=>(bndS (loopS (α:=D (.pair (.pair ty230 .un) (.pair (.list ty182) (.pair (.int .i64) .un)))) (fun d49=>(cnd (ltI d49.2.2.1 (lenL x39.2.1)) (chk (inL? x39.2.1 d49.2.2.1) (bnd (atL x39.2.1 d49.2.2.1) (fun x50=>(bnd (F235 (x50,())) (fun x51=>(cnd (notB x51.1) (inR (inR (some (([],()),(2,()))))) (cnd (mGet d49.2.1 x50) (inR (inR (some (([],()),(7,()))))) (some (.inl ((d49.1.1,()),((mPut d49.2.1 x50 true),((addI .i64 d49.2.2.1 1),())))))))))))) (inR (some (.inl ((d49.1.1,()),(d49.2.1,()))))))) 1000000000 ((([],()),()),(x48.1,(0,())))) (fun x52=>(bnd (atL x40.1 x4) (fun x53=>(chk (okMk (lenL x53) (lenL x53) 8) (bnd (atL x40.1 x4) (fun x54=>(bndS (loopS (α:=D (.pair (.list (.int .i64)) (.pair (.int .i64) .un))) (fun d55=>(cnd (ltI d55.2.1 (lenL x39.2.1)) (chk (inL? x39.2.1 (subI .i64 (subI .i64 (lenL x39.2.1) 1) d55.2.1)) (bnd (atL x39.2.1 (subI .i64 (subI .i64 (lenL x39.2.1) 1) d55.2.1)) (fun x56=>(chk (roomL d55.1 (x56::[]) 8) (some (.inl ((appL d55.1 (x56::[])),((addI .i64 d55.2.1 1),())))))))) (inR (some (.inl (d55.1,())))))) 1000000000 ((copyL (rep (lenL x53) 0) x54),(0,()))) (fun x57=>(bnd (F256 ((x40.1,()),(x4,(x57.1,())))) (fun x58=>(some (x58.1,(0,()))))))))))))))))))) (fun x59=>(cnd (eqI x59.2.1 0) (chk (inL? x39.1.2.2.2.2.1 x.2.1) (bnd (atL x39.1.2.2.2.2.1 x.2.1) (fun x60=>(some ((x39.1.1,(x39.1.2.1,(x39.1.2.2.1,(x39.1.2.2.2.1,((setL x39.1.2.2.2.2.1 x.2.1 (x59.1.1,())),()))))),((ltI 0 (lenL x39.2.1)),())))))) (some ((x39.1.1,(x39.1.2.1,(x39.1.2.2.1,(x39.1.2.2.2.1,(x39.1.2.2.2.2.1,()))))),((ltI 0 (lenL x39.2.1)),()))))))))))) (fun x61=>(cnd (notB x61.2.1) (bndS (loopS (α:=D (.pair ty36 (.pair (.int .i64) .un))) (fun d62=>(cnd (ltI d62.2.1 (lenL x61.1.2.2.2.2.1)) (cnd (neI d62.2.1 x.2.1) (chk (inL? d62.1.2.2.2.2.1 d62.2.1) (bnd (atL d62.1.2.2.2.2.1 d62.2.1) (fun x63=>(bnd (F253 ((x63.1,()),(x4,()))) (fun x64=>(cnd (eqI x64.2.2.1 0) (chk (inL? d62.1.2.2.2.2.1 d62.2.1) (bnd (atL d62.1.2.2.2.2.1 d62.2.1) (fun x65=>(bndS (loopS (α:=D (.pair ty36 (.pair (.int .i64) .un))) (fun d66=>(cnd (ltI d66.2.1 (lenL x64.2.1)) (bnd (atL x64.2.1 d66.2.1) (fun x67=>(chk (inL? d66.1.2.2.2.1 x4) (bnd (atL d66.1.2.2.2.1 x4) (fun x68=>(bnd (F280 (x68,(x67,(0,())))) (fun x69=>(cnd (eqI x69.2.1 0) (chk (inL? d66.1.2.2.2.1 x4) (bnd (atL d66.1.2.2.2.1 x4) (fun x70=>(some (.inl ((d66.1.1,(d66.1.2.1,(d66.1.2.2.1,((setL d66.1.2.2.2.1 x4 x69.1),(d66.1.2.2.2.2.1,()))))),((addI .i64 d66.2.1 1),()))))))) (some (.inl ((d66.1.1,(d66.1.2.1,(d66.1.2.2.1,(d66.1.2.2.2.1,(d66.1.2.2.2.2.1,()))))),((addI .i64 d66.2.1 1),())))))))))))) (inR (some (.inl ((d66.1.1,(d66.1.2.1,(d66.1.2.2.1,(d66.1.2.2.2.1,(d66.1.2.2.2.2.1,()))))),())))))) 1000000000 ((d62.1.1,(d62.1.2.1,(d62.1.2.2.1,(d62.1.2.2.2.1,((setL d62.1.2.2.2.2.1 d62.2.1 (x64.1.1,())),()))))),(0,()))) (fun x71=>(some (.inl ((x71.1.1,(x71.1.2.1,(x71.1.2.2.1,(x71.1.2.2.2.1,(x71.1.2.2.2.2.1,()))))),((addI .i64 d62.2.1 1),()))))))))) (some (.inl ((d62.1.1,(d62.1.2.1,(d62.1.2.2.1,(d62.1.2.2.2.1,(d62.1.2.2.2.2.1,()))))),((addI .i64 d62.2.1 1),())))))))))) (some (.inl ((d62.1.1,(d62.1.2.1,(d62.1.2.2.1,(d62.1.2.2.2.1,(d62.1.2.2.2.2.1,()))))),((addI .i64 d62.2.1 1),()))))) (inR (some (.inl ((d62.1.1,(d62.1.2.1,(d62.1.2.2.1,(d62.1.2.2.2.1,(d62.1.2.2.2.2.1,()))))),())))))) 1000000000 ((x61.1.1,(x61.1.2.1,(x61.1.2.2.1,(x61.1.2.2.2.1,(x61.1.2.2.2.2.1,()))))),(0,()))) (fun x72=>(bnd (bndS (loopS (α:=D (.pair ty36 (.pair (.list (.int .i64)) (.pair (.int .i64) .un)))) (fun d73=>(cnd (ltI d73.2.2.1 x72.1.2.1) (chk (inL? d73.1.2.2.2.1 x4) (bnd (atL d73.1.2.2.2.1 x4) (fun x74=>(bnd (F251 (x74,(0,()))) (fun x75=>(cnd (neI x75.2.2.1 0) (inR (some (.inl ((d73.1.1,(d73.1.2.1,(d73.1.2.2.1,(d73.1.2.2.2.1,(d73.1.2.2.2.2.1,()))))),(d73.2.1,()))))) (chk (inL? d73.1.2.2.2.1 x4) (bnd (atL d73.1.2.2.2.1 x4) (fun x76=>(chk (roomL d73.2.1 (x75.2.1::[]) 8) (some (.inl ((d73.1.1,(d73.1.2.1,(d73.1.2.2.1,((setL d73.1.2.2.2.1 x4 x75.1),(d73.1.2.2.2.2.1,()))))),((appL d73.2.1 (x75.2.1::[])),((addI .i64 d73.2.2.1 1),()))))))))))))))) (inR (some (.inl ((d73.1.1,(d73.1.2.1,(d73.1.2.2.1,(d73.1.2.2.2.1,(d73.1.2.2.2.2.1,()))))),(d73.2.1,()))))))) 1000000000 ((x72.1.1,(x72.1.2.1,(x72.1.2.2.1,(x72.1.2.2.2.1,(x72.1.2.2.2.2.1,()))))),([],(0,())))) (fun x77=>(chk (inL? x77.1.2.2.2.2.1 x.2.1) (bnd (atL x77.1.2.2.2.2.1 x.2.1) (fun x78=>(bnd (bnd (F255 ((x78.1,()),(x4,()))) (fun x79=>(cnd (neI x79.1 0) (some (([],()),(x79.1,()))) (bndS (loopS (α:=D (.pair (.list ty182) (.pair (.int .i64) .un))) (fun d80=>(cnd (ltI d80.2.1 (lenL x78.1)) (bndS (bnd (atL x78.1 d80.2.1) (fun x81=>(bndS (loopS (α:=D (.pair (.list ty182) (.pair (.int .i64) .un))) (fun d82=>(cnd (ltI d82.2.1 (lenL x81)) (bnd (atL x81 d82.2.1) (fun x83=>(some (.inl ((mPut d82.1 x83 true),((addI .i64 d82.2.1 1),())))))) (inR (some (.inl (d82.1,())))))) 1000000000 (d80.1,(0,()))) (fun x84=>(some (.inl (x84.1,()))))))) (fun x85=>(some (.inl (x85.1,((addI .i64 d80.2.1 1),())))))) (inR (some (.inl (d80.1,())))))) 1000000000 ([],(0,()))) (fun x86=>(bndS (loopS (α:=D (.pair (.pair ty230 .un) (.pair (.list ty182) (.pair (.int .i64) .un)))) (fun d87=>(cnd (ltI d87.2.2.1 (lenL x77.2.1)) (chk (inL? x77.2.1 d87.2.2.1) (bnd (atL x77.2.1 d87.2.2.1) (fun x88=>(bnd (F235 (x88,())) (fun x89=>(cnd (notB x89.1) (inR (inR (some (([],()),(2,()))))) (cnd (mGet d87.2.1 x88) (inR (inR (some (([],()),(7,()))))) (some (.inl ((d87.1.1,()),((mPut d87.2.1 x88 true),((addI .i64 d87.2.2.1 1),())))))))))))) (inR (some (.inl ((d87.1.1,()),(d87.2.1,()))))))) 1000000000 ((([],()),()),(x86.1,(0,())))) (fun x90=>(bnd (atL x78.1 x4) (fun x91=>(chk (okMk (lenL x91) (lenL x91) 8) (bnd (atL x78.1 x4) (fun x92=>(bndS (loopS (α:=D (.pair (.list (.int .i64)) (.pair (.int .i64) .un))) (fun d93=>(cnd (ltI d93.2.1 (lenL x77.2.1)) (chk (inL? x77.2.1 (subI .i64 (subI .i64 (lenL x77.2.1) 1) d93.2.1)) (bnd (atL x77.2.1 (subI .i64 (subI .i64 (lenL x77.2.1) 1) d93.2.1)) (fun x94=>(chk (roomL d93.1 (x94::[]) 8) (some (.inl ((appL d93.1 (x94::[])),((addI .i64 d93.2.1 1),())))))))) (inR (some (.inl (d93.1,())))))) 1000000000 ((copyL (rep (lenL x91) 0) x92),(0,()))) (fun x95=>(bnd (F256 ((x78.1,()),(x4,(x95.1,())))) (fun x96=>(some (x96.1,(0,()))))))))))))))))))) (fun x97=>(cnd (eqI x97.2.1 0) (chk (inL? x77.1.2.2.2.2.1 x.2.1) (bnd (atL x77.1.2.2.2.2.1 x.2.1) (fun x98=>(some ((x77.1.1,(x77.1.2.1,(x77.1.2.2.1,(x77.1.2.2.2.1,((setL x77.1.2.2.2.2.1 x.2.1 (x97.1.1,())),()))))),((ltI 0 (lenL x77.2.1)),())))))) (some ((x77.1.1,(x77.1.2.1,(x77.1.2.2.1,(x77.1.2.2.2.1,(x77.1.2.2.2.2.1,()))))),((ltI 0 (lenL x77.2.1)),()))))))))))) (fun x99=>(chk (inL? x99.1.2.2.2.2.1 x.2.1) (bnd (atL x99.1.2.2.2.2.1 x.2.1) (fun x100=>(bnd (F207 ((x100.1,()),(x4,()))) (fun x101=>(cnd (neI x101.2.2.1 0) (inR (inR (inR (some (([],(0,(0,([],([],()))))),(0,(x101.2.2.1,()))))))) (chk (inL? x99.1.2.2.2.2.1 x.2.1) (bnd (atL x99.1.2.2.2.2.1 x.2.1) (fun x102=>(inR (inR (inR (some ((x99.1.1,(x99.1.2.1,(x99.1.2.2.1,(x99.1.2.2.2.1,((setL x99.1.2.2.2.2.1 x.2.1 (x101.1.1,())),()))))),(x101.2.1,(0,())))))))))))))))))))) (chk (inL? x61.1.2.2.2.2.1 x.2.1) (bnd (atL x61.1.2.2.2.2.1 x.2.1) (fun x103=>(bnd (F207 ((x103.1,()),(x4,()))) (fun x104=>(cnd (neI x104.2.2.1 0) (inR (inR (inR (some (([],(0,(0,([],([],()))))),(0,(x104.2.2.1,()))))))) (chk (inL? x61.1.2.2.2.2.1 x.2.1) (bnd (atL x61.1.2.2.2.2.1 x.2.1) (fun x105=>(inR (inR (inR (some ((x61.1.1,(x61.1.2.1,(x61.1.2.2.1,(x61.1.2.2.2.1,((setL x61.1.2.2.2.2.1 x.2.1 (x104.1.1,())),()))))),(x104.2.1,(0,()))))))))))))))))))) (chk (inL? x32.1.2.2.2.2.1 x.2.1) (bnd (atL x32.1.2.2.2.2.1 x.2.1) (fun x106=>(bnd (F207 ((x106.1,()),(x4,()))) (fun x107=>(cnd (neI x107.2.2.1 0) (inR (inR (inR (some (([],(0,(0,([],([],()))))),(0,(x107.2.2.1,()))))))) (chk (inL? x32.1.2.2.2.2.1 x.2.1) (bnd (atL x32.1.2.2.2.2.1 x.2.1) (fun x108=>(inR (inR (inR (some ((x32.1.1,(x32.1.2.1,(x32.1.2.2.1,(x32.1.2.2.2.1,((setL x32.1.2.2.2.2.1 x.2.1 (x107.1.1,())),()))))),(x107.2.1,(0,())))))))))))))))))))))))))))))))))) (fun x109=>(some (.inl ((x109.1.1,()),((addI .i64 d3.2.1 1),())))))) (inR (some (.inl ((d3.1.1,()),())))))) 1000000000 ((([],(0,(0,([],([],()))))),()),(0,()))) (fun x110=>(some (([],(0,(0,([],([],()))))),(0,(16,())))))))))))))))
noncomputable def F135 (x:D (.pair ty36 (.pair (.int .i64) (.pair .bool (.pair .bool .un))))):Option (D (.pair ty36 ty148)):=cnd (notB x.2.2.2.1) (G135 x) none
theorem x135 (x:D (.pair ty36 (.pair (.int .i64) (.pair .bool (.pair .bool .un))))):fnL (cyF ct207 hiBn) [false,false,false,true] 1000 (.pair ty36 (.pair (.int .i64) (.pair .bool (.pair .bool .un)))) (.pair ty36 ty148) ((((((Tr.e).set 0 [.box 8 [.v ty36]]).set 1 [.keep 1,.keep 3,.keep 4,.box 8 [.v ty36],.keep 49,.keep 50,.val 51 (.int .i64)]).set 2 [.keep 1,.keep 3,.keep 4,.box 8 [.v ty36],.keep 49,.keep 50,.keep 51]).set 4 [.keep 1,.keep 8,.keep 15,.box 16 [.v (.list (.int .i64)),.v (.int .i64),.v (.int .i64),.o ty96,.o ty230]]).set 5 [.keep 1,.keep 8,.keep 15,.box 16 [.v (.list (.int .i64)),.v (.int .i64),.v (.int .i64),.o ty96,.o ty230],.keep 93,.val 94 (.int .i64)]) Tryz.f135 (x.1,(x.2.1,(x.2.2.1,(false,()))))=G135 x:=by kernel_rfl
theorem q135 (x:D (.pair ty36 (.pair (.int .i64) (.pair .bool (.pair .bool .un))))) (h:(notB x.2.2.2.1)=true):(x.1,(x.2.1,(x.2.2.1,(false,()))))=x:=by
  obtain ⟨a,b,c,d,u⟩:=x
  cases d with
  | false=>rfl
  | true=>cases h
theorem n135:cxC.fn.get 135=some Tryz.f135:=by kernel_rfl
theorem e135:cxC.ext.get 135=none:=by kernel_rfl
noncomputable def ct135:Tr Con:=(ct207).set 135 ⟨(.pair ty36 (.pair (.int .i64) (.pair .bool (.pair .bool .un)))),.pair ty36 ty148,F135⟩
theorem k135:CtOk ct135:=ct_set k207 (conL (hi:=hiBn) k207 n135 e135 (litF (b:=fun (x:D (.pair ty36 (.pair (.int .i64) (.pair .bool (.pair .bool .un)))))=>notB x.2.2.2.1) (q:=fun (x:D (.pair ty36 (.pair (.int .i64) (.pair .bool (.pair .bool .un)))))=>(x.1,(x.2.1,(x.2.2.1,(false,()))))) q135 x135))
noncomputable def F208 (x:D (.pair (.int .i64) .un)):Option (D (.pair .bool .un)):=(cnd (leI 0 x.1) (some ((leI x.1 4294967295),())) (some (false,())))
theorem x208 (x:D (.pair (.int .i64) .un)):fnS (cyF ct135 hiBn) 1000 (.pair (.int .i64) .un) (.pair .bool .un) (Tr.e) Tryz.f208 x=F208 x:=by kernel_rfl
theorem n208:cxC.fn.get 208=some Tryz.f208:=by kernel_rfl
theorem e208:cxC.ext.get 208=none:=by kernel_rfl
noncomputable def ct208:Tr Con:=(ct135).set 208 ⟨(.pair (.int .i64) .un),.pair .bool .un,F208⟩
theorem k208:CtOk ct208:=ct_set k135 (conB (hi:=hiBn) k135 n208 e208 x208)
noncomputable def F136 (x:D (.pair (.int .i64) .un)):Option (D (.pair ty80 (.pair (.int .i64) .un))):=(bnd (F208 (x.1,())) (fun x0=>(cnd (notB x0.1) (some ((0,([],([],()))),(2,()))) (some ((x.1,(((x.1,((0::(0::(0::(0::(0::(0::(0::(0::[])))))))),()))::[]),([],()))),(0,()))))))
theorem x136 (x:D (.pair (.int .i64) .un)):fnS (cyF ct208 hiBn) 1000 (.pair (.int .i64) .un) (.pair ty80 (.pair (.int .i64) .un)) (Tr.e) Tryz.f136 x=F136 x:=by kernel_rfl
theorem n136:cxC.fn.get 136=some Tryz.f136:=by kernel_rfl
theorem e136:cxC.ext.get 136=none:=by kernel_rfl
noncomputable def ct136:Tr Con:=(ct208).set 136 ⟨(.pair (.int .i64) .un),(.pair ty80 (.pair (.int .i64) .un)),F136⟩
theorem k136:CtOk ct136:=ct_set k208 (conB (hi:=hiBn) k208 n136 e136 x136)
noncomputable def F209 (x:D (.pair ty182 .un)):Option (D (.pair .bool .un)):=(cnd (leI 0 x.1.1) (cnd (leI x.1.1 1073741824) (cnd x.1.2.1 (some ((notB (eqI x.1.1 0)),())) (some (true,()))) (some (false,()))) (some (false,())))
theorem x209 (x:D (.pair ty182 .un)):fnS (cyF ct136 hiBn) 1000 (.pair ty182 .un) (.pair .bool .un) (Tr.e) Tryz.f209 x=F209 x:=by kernel_rfl
theorem n209:cxC.fn.get 209=some Tryz.f209:=by kernel_rfl
theorem e209:cxC.ext.get 209=none:=by kernel_rfl
noncomputable def ct209:Tr Con:=(ct136).set 209 ⟨.pair ty182 .un,.pair .bool .un,F209⟩
theorem k209:CtOk ct209:=ct_set k136 (conB (hi:=hiBn) k136 n209 e209 x209)
noncomputable def F210 (x:D (.pair ty182 .un)):Option (D (.pair .bool .un)):=(cnd (ltI 0 x.1.1) (some ((notB x.1.2.1),())) (some (false,())))
theorem x210 (x:D (.pair ty182 .un)):fnS (cyF ct209 hiBn) 1000 (.pair ty182 .un) (.pair .bool .un) (Tr.e) Tryz.f210 x=F210 x:=by kernel_rfl
theorem n210:cxC.fn.get 210=some Tryz.f210:=by kernel_rfl
theorem e210:cxC.ext.get 210=none:=by kernel_rfl
noncomputable def ct210:Tr Con:=(ct209).set 210 ⟨.pair ty182 .un,.pair .bool .un,F210⟩
theorem k210:CtOk ct210:=ct_set k209 (conB (hi:=hiBn) k209 n210 e210 x210)
noncomputable def F139 (x:D (.pair ty182 .un)):Option (D ty148):=(bnd (F209 (x.1,())) (fun x0=>(cnd (notB x0.1) (some (0,(1,()))) (bnd (F210 (x.1,())) (fun x1=>(cnd x1.1 (some ((subI .i64 x.1.1 1),(0,()))) (some (x.1.1,(0,())))))))))
theorem x139 (x:D (.pair ty182 .un)):fnS (cyF ct210 hiBn) 1000 (.pair ty182 .un) ty148 (Tr.e) Tryz.f139 x=F139 x:=by kernel_rfl
theorem n139:cxC.fn.get 139=some Tryz.f139:=by kernel_rfl
theorem e139:cxC.ext.get 139=none:=by kernel_rfl
noncomputable def ct139:Tr Con:=(ct210).set 139 ⟨.pair ty182 .un,ty148,F139⟩
theorem k139:CtOk ct139:=ct_set k210 (conB (hi:=hiBn) k210 n139 e139 x139)
noncomputable def F14 (x:D (.pair ty27 .un)):Option (D (.pair ty57 (.pair (.int .i64) .un))):=(bnd (F12 (x.1,())) (fun x0=>(cnd (neI x0.1 0) (some ((([],([],(0,(0,(0,(0,(0,(0,(0,(0,([],([],([],()))))))))))))),(0,(0,([],([],([],(([],(0,(0,([],([],()))))),([],((0,([],())),([],([],([],([],((0,([],())),([],((0,(0,([],([],([],()))))),([],([],([],([],())))))))))))))))))))),(x0.1,()))) (bnd (F41 (x.1,())) (fun x1=>(bnd (atL x1.1 (subI .i64 (lenL x1.1) 1)) (fun x2=>(bnd (F42 (x2,(1,(256,())))) (fun x3=>(cnd (notB x3.1) (some ((([],([],(0,(0,(0,(0,(0,(0,(0,(0,([],([],([],()))))))))))))),(0,(0,([],([],([],(([],(0,(0,([],([],()))))),([],((0,([],())),([],([],([],([],((0,([],())),([],((0,(0,([],([],([],()))))),([],([],([],([],())))))))))))))))))))),(9,()))) (bnd (F43 (x.1,())) (fun x4=>(bndS (loopS (α:=D (.pair ty57 (.pair (.int .i64) .un))) (fun d5=>(cnd (ltI d5.2.1 (lenL x.1.1)) (bnd (F44 (x.1.2.2.2.2.1,())) (fun x6=>(chk (roomL d5.1.2.2.2.1 ((-1)::[]) 8) (chk (roomL d5.1.2.2.2.2.1 (x6.1::[]) 32) (chk (roomL d5.1.2.2.2.2.2.1 ([]::[]) 24) (some (.inl ((d5.1.1,(d5.1.2.1,(d5.1.2.2.1,((appL d5.1.2.2.2.1 ((-1)::[])),((appL d5.1.2.2.2.2.1 (x6.1::[])),((appL d5.1.2.2.2.2.2.1 ([]::[])),(d5.1.2.2.2.2.2.2.1,(d5.1.2.2.2.2.2.2.2.1,(d5.1.2.2.2.2.2.2.2.2.1,(d5.1.2.2.2.2.2.2.2.2.2.1,(d5.1.2.2.2.2.2.2.2.2.2.2.1,(d5.1.2.2.2.2.2.2.2.2.2.2.2.1,(d5.1.2.2.2.2.2.2.2.2.2.2.2.2.1,(d5.1.2.2.2.2.2.2.2.2.2.2.2.2.2.1,(d5.1.2.2.2.2.2.2.2.2.2.2.2.2.2.2.1,(d5.1.2.2.2.2.2.2.2.2.2.2.2.2.2.2.2.1,(d5.1.2.2.2.2.2.2.2.2.2.2.2.2.2.2.2.2.1,(d5.1.2.2.2.2.2.2.2.2.2.2.2.2.2.2.2.2.2.1,(d5.1.2.2.2.2.2.2.2.2.2.2.2.2.2.2.2.2.2.2.1,(d5.1.2.2.2.2.2.2.2.2.2.2.2.2.2.2.2.2.2.2.2.1,())))))))))))))))))))),((addI .i64 d5.2.1 1),()))))))))) (inR (some (.inl ((d5.1.1,(d5.1.2.1,(d5.1.2.2.1,(d5.1.2.2.2.1,(d5.1.2.2.2.2.1,(d5.1.2.2.2.2.2.1,(d5.1.2.2.2.2.2.2.1,(d5.1.2.2.2.2.2.2.2.1,(d5.1.2.2.2.2.2.2.2.2.1,(d5.1.2.2.2.2.2.2.2.2.2.1,(d5.1.2.2.2.2.2.2.2.2.2.2.1,(d5.1.2.2.2.2.2.2.2.2.2.2.2.1,(d5.1.2.2.2.2.2.2.2.2.2.2.2.2.1,(d5.1.2.2.2.2.2.2.2.2.2.2.2.2.2.1,(d5.1.2.2.2.2.2.2.2.2.2.2.2.2.2.2.1,(d5.1.2.2.2.2.2.2.2.2.2.2.2.2.2.2.2.1,(d5.1.2.2.2.2.2.2.2.2.2.2.2.2.2.2.2.2.1,(d5.1.2.2.2.2.2.2.2.2.2.2.2.2.2.2.2.2.2.1,(d5.1.2.2.2.2.2.2.2.2.2.2.2.2.2.2.2.2.2.2.1,(d5.1.2.2.2.2.2.2.2.2.2.2.2.2.2.2.2.2.2.2.2.1,())))))))))))))))))))),())))))) 1000000000 ((x4.1,(0,(0,([],([],([],(([],(0,(0,([],([],()))))),([],((0,([],())),([],([],([],([],((0,([],())),([],((0,(0,([],([],([],()))))),([],([],([],([],())))))))))))))))))))),(0,()))) (fun x7=>(bnd (F45 (x.1.1,(x.1.2.2.1,(x.1.2.2.2.1,(x.1.2.1,()))))) (fun x8=>(bnd (F46 (x8.1,())) (fun x9=>(bndS (loopS (α:=D (.pair ty57 (.pair (.int .i64) .un))) (fun d10=>(cnd (ltI d10.2.1 x9.1) (bnd (F47 ()) (fun x11=>(chk (roomL d10.1.2.2.2.2.2.2.2.1 (x11.1::[]) 144) (some (.inl ((d10.1.1,(d10.1.2.1,(d10.1.2.2.1,(d10.1.2.2.2.1,(d10.1.2.2.2.2.1,(d10.1.2.2.2.2.2.1,(d10.1.2.2.2.2.2.2.1,((appL d10.1.2.2.2.2.2.2.2.1 (x11.1::[])),(d10.1.2.2.2.2.2.2.2.2.1,(d10.1.2.2.2.2.2.2.2.2.2.1,(d10.1.2.2.2.2.2.2.2.2.2.2.1,(d10.1.2.2.2.2.2.2.2.2.2.2.2.1,(d10.1.2.2.2.2.2.2.2.2.2.2.2.2.1,(d10.1.2.2.2.2.2.2.2.2.2.2.2.2.2.1,(d10.1.2.2.2.2.2.2.2.2.2.2.2.2.2.2.1,(d10.1.2.2.2.2.2.2.2.2.2.2.2.2.2.2.2.1,(d10.1.2.2.2.2.2.2.2.2.2.2.2.2.2.2.2.2.1,(d10.1.2.2.2.2.2.2.2.2.2.2.2.2.2.2.2.2.2.1,(d10.1.2.2.2.2.2.2.2.2.2.2.2.2.2.2.2.2.2.2.1,(d10.1.2.2.2.2.2.2.2.2.2.2.2.2.2.2.2.2.2.2.2.1,())))))))))))))))))))),((addI .i64 d10.2.1 1),()))))))) (inR (some (.inl ((d10.1.1,(d10.1.2.1,(d10.1.2.2.1,(d10.1.2.2.2.1,(d10.1.2.2.2.2.1,(d10.1.2.2.2.2.2.1,(d10.1.2.2.2.2.2.2.1,(d10.1.2.2.2.2.2.2.2.1,(d10.1.2.2.2.2.2.2.2.2.1,(d10.1.2.2.2.2.2.2.2.2.2.1,(d10.1.2.2.2.2.2.2.2.2.2.2.1,(d10.1.2.2.2.2.2.2.2.2.2.2.2.1,(d10.1.2.2.2.2.2.2.2.2.2.2.2.2.1,(d10.1.2.2.2.2.2.2.2.2.2.2.2.2.2.1,(d10.1.2.2.2.2.2.2.2.2.2.2.2.2.2.2.1,(d10.1.2.2.2.2.2.2.2.2.2.2.2.2.2.2.2.1,(d10.1.2.2.2.2.2.2.2.2.2.2.2.2.2.2.2.2.1,(d10.1.2.2.2.2.2.2.2.2.2.2.2.2.2.2.2.2.2.1,(d10.1.2.2.2.2.2.2.2.2.2.2.2.2.2.2.2.2.2.2.1,(d10.1.2.2.2.2.2.2.2.2.2.2.2.2.2.2.2.2.2.2.2.1,())))))))))))))))))))),())))))) 1000000000 ((x7.1.1,(x7.1.2.1,(x7.1.2.2.1,(x7.1.2.2.2.1,(x7.1.2.2.2.2.1,(x7.1.2.2.2.2.2.1,(x8.1,(x7.1.2.2.2.2.2.2.2.1,(x7.1.2.2.2.2.2.2.2.2.1,(x7.1.2.2.2.2.2.2.2.2.2.1,(x7.1.2.2.2.2.2.2.2.2.2.2.1,(x7.1.2.2.2.2.2.2.2.2.2.2.2.1,(x7.1.2.2.2.2.2.2.2.2.2.2.2.2.1,(x7.1.2.2.2.2.2.2.2.2.2.2.2.2.2.1,(x7.1.2.2.2.2.2.2.2.2.2.2.2.2.2.2.1,(x7.1.2.2.2.2.2.2.2.2.2.2.2.2.2.2.2.1,(x7.1.2.2.2.2.2.2.2.2.2.2.2.2.2.2.2.2.1,(x7.1.2.2.2.2.2.2.2.2.2.2.2.2.2.2.2.2.2.1,(x7.1.2.2.2.2.2.2.2.2.2.2.2.2.2.2.2.2.2.2.1,(x7.1.2.2.2.2.2.2.2.2.2.2.2.2.2.2.2.2.2.2.2.1,())))))))))))))))))))),(0,()))) (fun x12=>(bnd (F48 (x.1.2.2.2.2.2.2.2.2.2.1,())) (fun x13=>(chk (roomL [] x.1.2.2.2.2.2.2.2.2.2.2.2.1 40) (bnd (F50 ()) (fun x14=>(bnd (F51 (x.1.2.2.2.2.2.2.1,())) (fun x15=>(bnd (F52 (x.1.2.2.2.2.2.2.2.1,())) (fun x16=>(bnd (F53 (x.1,())) (fun x17=>(bnd (F54 (x.1.2.2.2.2.2.1,(x17.2.1,()))) (fun x18=>(bndS (loopS (α:=D (.pair (.pair ty57 .un) (.pair ty57 (.pair (.int .i64) .un)))) (fun d19=>(cnd (ltI d19.2.2.1 (lenL x.1.2.2.2.2.2.2.2.2.2.2.2.2.1)) (bnd (atL d19.2.1.1.2.2.2.2.2.2.2.2.2.2.2.2.1 d19.2.2.1) (fun x20=>(bnd (F134 (d19.2.1.2.2.2.2.2.2.2.2.2.1,(x20.1,(1,())))) (fun x21=>(cnd (neI x21.2.2.1 0) (inR (inR (some ((([],([],(0,(0,(0,(0,(0,(0,(0,(0,([],([],([],()))))))))))))),(0,(0,([],([],([],(([],(0,(0,([],([],()))))),([],((0,([],())),([],([],([],([],((0,([],())),([],((0,(0,([],([],([],()))))),([],([],([],([],())))))))))))))))))))),(17,()))))) (bnd (F135 (d19.2.1.2.2.2.2.2.2.1,(0,(true,(false,()))))) (fun x22=>(cnd (neI x22.2.2.1 0) (inR (inR (some ((([],([],(0,(0,(0,(0,(0,(0,(0,(0,([],([],([],()))))))))))))),(0,(0,([],([],([],(([],(0,(0,([],([],()))))),([],((0,([],())),([],([],([],([],((0,([],())),([],((0,(0,([],([],([],()))))),([],([],([],([],())))))))))))))))))))),(16,()))))) (chk (inL? d19.2.1.2.2.2.2.2.2.2.1 x22.2.1) (bnd (atL d19.2.1.2.2.2.2.2.2.2.1 x22.2.1) (fun x23=>(chk (inL? (setL d19.2.1.2.2.2.2.2.2.2.1 x22.2.1 (1,x23.2)) x22.2.1) (bnd (atL (setL d19.2.1.2.2.2.2.2.2.2.1 x22.2.1 (1,x23.2)) x22.2.1) (fun x24=>(chk (inL? (setL (setL d19.2.1.2.2.2.2.2.2.2.1 x22.2.1 (1,x23.2)) x22.2.1 (x24.1,(x24.2.1,(x20.1,x24.2.2.2)))) x22.2.1) (bnd (atL (setL (setL d19.2.1.2.2.2.2.2.2.2.1 x22.2.1 (1,x23.2)) x22.2.1 (x24.1,(x24.2.1,(x20.1,x24.2.2.2)))) x22.2.1) (fun x25=>(bnd (F136 (x22.2.1,())) (fun x26=>(bndS (loopS (α:=D (.pair (.list (.int .i64)) (.pair (.int .i64) .un))) (fun d27=>(cnd (ltI d27.2.1 (lenL d19.2.1.2.2.2.2.2.2.2.2.2.2.2.2.2.2.1)) (bnd (atL d19.2.1.2.2.2.2.2.2.2.2.2.2.2.2.2.2.1 d27.2.1) (fun x28=>(bnd (F139 (x28.2.2.2.2.2.2.1,())) (fun x29=>(chk (roomL d27.1 (x29.1::[]) 8) (some (.inl ((appL d27.1 (x29.1::[])),((addI .i64 d27.2.1 1),()))))))))) (inR (some (.inl (d27.1,())))))) 1000000000 ([],(0,()))) (fun x30=>(chk (roomL [] x20.2.1 64) (chk (roomL d19.2.1.2.2.2.2.2.2.2.2.2.2.2.2.2.2.2.2.2.1 ((0,(0,((-1),(0,(x20.1,((appL [] x20.2.1),((0,(0,(0,(0,((0,(0,(0,(0,(0,(0,())))))),((),())))))),(x26.1,([],([],([],(x30.1,(0,(0,(0,(0,((-1),())))))))))))))))))::[]) 360) (some (.inl ((d19.1.1,()),((d19.2.1.1,(d19.2.1.2.1,(d19.2.1.2.2.1,(d19.2.1.2.2.2.1,(d19.2.1.2.2.2.2.1,(d19.2.1.2.2.2.2.2.1,(x22.1,((setL (setL (setL d19.2.1.2.2.2.2.2.2.2.1 x22.2.1 (1,x23.2)) x22.2.1 (x24.1,(x24.2.1,(x20.1,x24.2.2.2)))) x22.2.1 (x25.1,(x25.2.1,(x25.2.2.1,(d19.2.2.1,x25.2.2.2.2))))),(d19.2.1.2.2.2.2.2.2.2.2.1,(x21.1,(d19.2.1.2.2.2.2.2.2.2.2.2.2.1,(d19.2.1.2.2.2.2.2.2.2.2.2.2.2.1,(d19.2.1.2.2.2.2.2.2.2.2.2.2.2.2.1,(d19.2.1.2.2.2.2.2.2.2.2.2.2.2.2.2.1,(d19.2.1.2.2.2.2.2.2.2.2.2.2.2.2.2.2.1,(d19.2.1.2.2.2.2.2.2.2.2.2.2.2.2.2.2.2.1,(d19.2.1.2.2.2.2.2.2.2.2.2.2.2.2.2.2.2.2.1,((appL d19.2.1.2.2.2.2.2.2.2.2.2.2.2.2.2.2.2.2.2.1 ((0,(0,((-1),(0,(x20.1,((appL [] x20.2.1),((0,(0,(0,(0,((0,(0,(0,(0,(0,(0,())))))),((),())))))),(x26.1,([],([],([],(x30.1,(0,(0,(0,(0,((-1),())))))))))))))))))::[])),(d19.2.1.2.2.2.2.2.2.2.2.2.2.2.2.2.2.2.2.2.2.1,(d19.2.1.2.2.2.2.2.2.2.2.2.2.2.2.2.2.2.2.2.2.2.1,())))))))))))))))))))),((addI .i64 d19.2.2.1 1),())))))))))))))))))))))))))))) (inR (some (.inl ((d19.1.1,()),((d19.2.1.1,(d19.2.1.2.1,(d19.2.1.2.2.1,(d19.2.1.2.2.2.1,(d19.2.1.2.2.2.2.1,(d19.2.1.2.2.2.2.2.1,(d19.2.1.2.2.2.2.2.2.1,(d19.2.1.2.2.2.2.2.2.2.1,(d19.2.1.2.2.2.2.2.2.2.2.1,(d19.2.1.2.2.2.2.2.2.2.2.2.1,(d19.2.1.2.2.2.2.2.2.2.2.2.2.1,(d19.2.1.2.2.2.2.2.2.2.2.2.2.2.1,(d19.2.1.2.2.2.2.2.2.2.2.2.2.2.2.1,(d19.2.1.2.2.2.2.2.2.2.2.2.2.2.2.2.1,(d19.2.1.2.2.2.2.2.2.2.2.2.2.2.2.2.2.1,(d19.2.1.2.2.2.2.2.2.2.2.2.2.2.2.2.2.2.1,(d19.2.1.2.2.2.2.2.2.2.2.2.2.2.2.2.2.2.2.1,(d19.2.1.2.2.2.2.2.2.2.2.2.2.2.2.2.2.2.2.2.1,(d19.2.1.2.2.2.2.2.2.2.2.2.2.2.2.2.2.2.2.2.2.1,(d19.2.1.2.2.2.2.2.2.2.2.2.2.2.2.2.2.2.2.2.2.2.1,())))))))))))))))))))),()))))))) 1000000000 (((([],([],(0,(0,(0,(0,(0,(0,(0,(0,([],([],([],()))))))))))))),(0,(0,([],([],([],(([],(0,(0,([],([],()))))),([],((0,([],())),([],([],([],([],((0,([],())),([],((0,(0,([],([],([],()))))),([],([],([],([],())))))))))))))))))))),()),((x12.1.1,(x12.1.2.1,(x12.1.2.2.1,(x12.1.2.2.2.1,(x12.1.2.2.2.2.1,(x12.1.2.2.2.2.2.1,(x12.1.2.2.2.2.2.2.1,(x12.1.2.2.2.2.2.2.2.1,(x13.1,((appL [] x.1.2.2.2.2.2.2.2.2.2.2.2.1),(x12.1.2.2.2.2.2.2.2.2.2.2.1,(x14.1,(x15.1,(x16.1,(x17.1,(x18.1,(x12.1.2.2.2.2.2.2.2.2.2.2.2.2.2.2.2.2.1,(x12.1.2.2.2.2.2.2.2.2.2.2.2.2.2.2.2.2.2.1,(x12.1.2.2.2.2.2.2.2.2.2.2.2.2.2.2.2.2.2.2.1,(x12.1.2.2.2.2.2.2.2.2.2.2.2.2.2.2.2.2.2.2.2.1,())))))))))))))))))))),(0,())))) (fun x31=>(some ((x31.2.1.1,(x31.2.1.2.1,(x31.2.1.2.2.1,(x31.2.1.2.2.2.1,(x31.2.1.2.2.2.2.1,(x31.2.1.2.2.2.2.2.1,(x31.2.1.2.2.2.2.2.2.1,(x31.2.1.2.2.2.2.2.2.2.1,(x31.2.1.2.2.2.2.2.2.2.2.1,(x31.2.1.2.2.2.2.2.2.2.2.2.1,(x31.2.1.2.2.2.2.2.2.2.2.2.2.1,(x31.2.1.2.2.2.2.2.2.2.2.2.2.2.1,(x31.2.1.2.2.2.2.2.2.2.2.2.2.2.2.1,(x31.2.1.2.2.2.2.2.2.2.2.2.2.2.2.2.1,(x31.2.1.2.2.2.2.2.2.2.2.2.2.2.2.2.2.1,(x31.2.1.2.2.2.2.2.2.2.2.2.2.2.2.2.2.2.1,(x31.2.1.2.2.2.2.2.2.2.2.2.2.2.2.2.2.2.2.1,(x31.2.1.2.2.2.2.2.2.2.2.2.2.2.2.2.2.2.2.2.1,(x31.2.1.2.2.2.2.2.2.2.2.2.2.2.2.2.2.2.2.2.2.1,(x31.2.1.2.2.2.2.2.2.2.2.2.2.2.2.2.2.2.2.2.2.2.1,())))))))))))))))))))),(0,()))))))))))))))))))))))))))))))))))))))
theorem x14 (x:D (.pair ty27 .un)):fnS (cyF ct139 hiBn) 1000 (.pair ty27 .un) (.pair ty57 (.pair (.int .i64) .un)) (((((((Tr.e).set 0 [.keep 1,.keep 2,.box 6 [.v ty27,.v (.int .i64),.v (.int .i64),.o (.int .i64),.o ty113,.o ty161,.v ty36,.o ty85,.v ty40,.v ty25,.v ty23,.v (.list (.list (.int .i64))),.v ty44,.v ty46,.v ty48,.v ty52,.v (.list (.int .i64)),.o ty82,.v ty55,.v ty56]]).set 1 [.keep 1,.keep 2,.box 6 [.v ty27,.v (.int .i64),.v (.int .i64),.o (.int .i64),.o ty113,.o ty161,.v ty36,.o ty85,.v ty40,.v ty25,.v ty23,.v (.list (.list (.int .i64))),.v ty44,.v ty46,.v ty48,.v ty52,.v (.list (.int .i64)),.o ty82,.v ty55,.v ty56],.keep 35,.val 36 (.int .i64)]).set 4 [.keep 1,.keep 2,.box 6 [.v ty27,.v (.int .i64),.v (.int .i64),.o (.int .i64),.o ty113,.o ty161,.v ty36,.o ty85,.v ty40,.v ty25,.v ty23,.v (.list (.list (.int .i64))),.v ty44,.v ty46,.v ty48,.v ty52,.v (.list (.int .i64)),.o ty82,.v ty55,.v ty56]]).set 5 [.keep 1,.keep 2,.box 6 [.v ty27,.v (.int .i64),.v (.int .i64),.o (.int .i64),.o ty113,.o ty161,.v ty36,.o ty85,.v ty40,.v ty25,.v ty23,.v (.list (.list (.int .i64))),.v ty44,.v ty46,.v ty48,.v ty52,.v (.list (.int .i64)),.o ty82,.v ty55,.v ty56],.keep 76,.val 77 (.int .i64)]).set 8 [.box 2 [.v ty57],.box 6 [.v ty27,.v (.int .i64),.v (.int .i64),.o (.int .i64),.o ty113,.o ty161,.v ty36,.o ty85,.v ty40,.v ty25,.v ty23,.v (.list (.list (.int .i64))),.v ty44,.v ty46,.v ty48,.v ty52,.v (.list (.int .i64)),.o ty82,.v ty55,.v ty56]]).set 9 [.box 2 [.v ty57],.box 6 [.v ty27,.v (.int .i64),.v (.int .i64),.o (.int .i64),.o ty113,.o ty161,.v ty36,.o ty85,.v ty40,.v ty25,.v ty23,.v (.list (.list (.int .i64))),.v ty44,.v ty46,.v ty48,.v ty52,.v (.list (.int .i64)),.o ty82,.v ty55,.v ty56],.keep 130,.val 131 (.int .i64)]) Tryz.f14 x=F14 x:=by kernel_rfl
theorem n14:cxC.fn.get 14=some Tryz.f14:=by kernel_rfl
theorem e14:cxC.ext.get 14=none:=by kernel_rfl
noncomputable def ct14:Tr Con:=(ct139).set 14 ⟨.pair ty27 .un,(.pair ty57 (.pair (.int .i64) .un)),F14⟩
theorem k14:CtOk ct14:=ct_set k139 (conB (hi:=hiBn) k139 n14 e14 x14)
end Go.Bo
namespace Go.Bo
open Go Go.Hm Go.Ls Go.Proofs
noncomputable def hiBp:Tr (Tr (List Hi)):=((((((((((((((((((((((((((((((((((Tr.e).set 182 (((Tr.e).set 0 []).set 1 [.keep 0,.keep 1,.keep 7,.val 8 (.int .i64)])).set 106 (Tr.e)).set 179 (Tr.e)).set 107 (Tr.e)).set 116 (((Tr.e).set 0 [.own 5 (.int .i64)]).set 1 [.keep 1,.own 5 (.int .i64),.keep 8,.keep 9,.val 10 (.int .i64)])).set 117 (Tr.e)).set 119 (((Tr.e).set 0 [.own 5 ty68]).set 1 [.keep 1,.own 5 ty68,.keep 8,.keep 9,.val 10 (.int .i64)])).set 120 (Tr.e)).set 122 (((Tr.e).set 0 [.own 5 ty98]).set 1 [.keep 1,.own 5 ty98,.keep 8,.keep 9,.val 10 (.int .i64)])).set 123 (Tr.e)).set 230 (((Tr.e).set 0 []).set 1 [.keep 0,.keep 1,.keep 7,.val 8 (.int .i64)])).set 186 (Tr.e)).set 187 (Tr.e)).set 237 (((Tr.e).set 0 []).set 1 [.keep 0,.keep 1,.keep 7,.val 8 (.int .i64)])).set 238 (Tr.e)).set 189 (Tr.e)).set 236 ((((((Tr.e).set 0 [.mp 3]).set 1 [.mp 3,.keep 10,.keep 11,.val 12 (.int .i64)]).set 2 [.mp 3,.keep 10,.keep 11,.keep 12]).set 4 [.mp 3,.keep 10,.keep 11,.keep 12]).set 5 [.mp 3,.keep 10,.keep 11,.keep 12,.keep 16,.keep 17,.val 18 (.int .i64)])).set 293 ((((((Tr.e).set 0 [.rw 0 (.int .i64)]).set 1 [.rw 0 (.int .i64),.keep 1,.keep 2,.keep 3,.val 8 (.int .i64)]).set 2 [.rw 0 (.int .i64),.keep 1,.keep 2,.keep 3,.keep 8]).set 4 [.rw 0 (.int .i64),.keep 1,.keep 2,.keep 3,.keep 8]).set 5 [.rw 0 (.int .i64),.keep 1,.keep 2,.keep 3,.keep 8,.val 9 (.int .i64)])).set 275 ((((((((Tr.e).set 0 [.rw 0 (.int .i64),.keep 1,.keep 2,.keep 6,.val 7 (.int .i64)]).set 1 [.rw 0 (.int .i64),.keep 1,.keep 2,.keep 6,.val 7 (.int .i64),.val 8 (.int .i64)]).set 4 [.rw 0 (.int .i64)]).set 5 [.rw 0 (.int .i64),.keep 1,.keep 2,.val 6 (.int .i64)]).set 6 [.rw 0 (.int .i64),.keep 1,.keep 2,.val 6 (.int .i64)]).set 8 [.rw 0 (.int .i64),.keep 1,.keep 2,.keep 6,.val 7 (.int .i64)]).set 9 [.rw 0 (.int .i64),.keep 1,.keep 2,.keep 6,.val 7 (.int .i64),.val 8 (.int .i64)])).set 244 (Tr.e)).set 242 (Tr.e)).set 245 (Tr.e)).set 279 (Tr.e)).set 204 ((((((((((Tr.e).set 0 [.box 1 [.v (.list (.int .i64)),.v (.int .i64),.v (.int .i64),.o ty96,.o ty230],.keep 2]).set 1 [.box 1 [.v (.list (.int .i64)),.v (.int .i64),.v (.int .i64),.o ty96,.o ty230],.keep 2,.keep 22,.val 23 (.int .i64)]).set 2 [.box 1 [.v (.list (.int .i64)),.v (.int .i64),.v (.int .i64),.o ty96,.o ty230],.keep 2,.keep 22,.keep 23]).set 6 [.box 1 [.v (.list (.int .i64)),.v (.int .i64),.v (.int .i64),.o ty96,.o ty230],.keep 2,.keep 3,.keep 22,.keep 23,.keep 26]).set 8 [.box 1 [.v (.list (.int .i64)),.v (.int .i64),.v (.int .i64),.o ty96,.o ty230],.keep 2]).set 9 [.box 1 [.v (.list (.int .i64)),.v (.int .i64),.v (.int .i64),.o ty96,.o ty230],.keep 2,.keep 49,.val 50 (.int .i64)]).set 10 [.box 1 [.v (.list (.int .i64)),.v (.int .i64),.v (.int .i64),.o ty96,.o ty230],.keep 2,.keep 49,.keep 50]).set 12 [.keep 1,.keep 2,.keep 5,.own 6 (.list (.int .i64)),.keep 49,.keep 50]).set 13 [.keep 1,.keep 2,.keep 5,.own 6 (.list (.int .i64)),.keep 49,.keep 50,.keep 61,.val 62 (.int .i64)])).set 205 (((Tr.e).set 0 [.box 0 [.v (.list (.int .i64)),.v (.int .i64),.v (.int .i64),.o ty96,.o ty230],.keep 1,.keep 2,.own 7 (.int .i64)]).set 1 [.box 0 [.v (.list (.int .i64)),.v (.int .i64),.v (.int .i64),.o ty96,.o ty230],.keep 1,.keep 2,.own 7 (.int .i64),.keep 16,.val 17 (.int .i64)])).set 206 (Tr.e)).set 254 (((Tr.e).set 0 [.box 0 [.v (.list (.int .i64)),.v (.int .i64),.v (.int .i64),.o ty96,.o ty230]]).set 1 [.box 0 [.v (.list (.int .i64)),.v (.int .i64),.v (.int .i64),.o ty96,.o ty230],.keep 1,.keep 10,.keep 11,.val 12 (.int .i64)])).set 137 (((Tr.e).set 0 [.own 5 (.int .i64)]).set 1 [.keep 1,.own 5 (.int .i64),.keep 8,.keep 9,.val 10 (.int .i64)])).set 138 (Tr.e)).set 55 (Tr.e)).set 234 (Tr.e)).set 277 (Tr.e)).set 252 (((((Tr.e).set 0 [.keep 1,.keep 2,.keep 3,.box 6 [.v ty230],.mp 9]).set 1 [.keep 1,.keep 2,.keep 3,.box 6 [.v ty230],.mp 9,.keep 23,.keep 24,.val 25 (.int .i64)]).set 4 [.keep 1,.keep 3,.keep 6,.own 12 (.int .i64)]).set 5 [.keep 1,.keep 2,.keep 3,.keep 6,.own 12 (.int .i64),.keep 55,.val 56 (.int .i64)])).set 23 (Tr.e)
noncomputable def F17 (x:D (.pair ty27 (.pair (.int .i64) .un))):Option (D (.pair (.int .i64) .un)):=(bnd (F12 (x.1,())) (fun x0=>(cnd (neI x0.1 0) (some ((-1),())) (bnd (F42 (x.2.1,(0,((subI .i64 (lenL x.1.2.2.2.2.2.2.2.2.2.2.1) 1),())))) (fun x1=>(cnd (notB x1.1) (some ((-1),())) (bnd (F41 (x.1,())) (fun x2=>(bnd (atL x2.1 x.2.1) (fun x3=>(some (x3,()))))))))))))
theorem x17 (x:D (.pair ty27 (.pair (.int .i64) .un))):fnS (cyF ct14 hiBp) 1000 (.pair ty27 (.pair (.int .i64) .un)) (.pair (.int .i64) .un) (Tr.e) Tryz.f17 x=F17 x:=by kernel_rfl
theorem n17:cxC.fn.get 17=some Tryz.f17:=by kernel_rfl
theorem e17:cxC.ext.get 17=none:=by kernel_rfl
noncomputable def ct17:Tr Con:=(ct14).set 17 ⟨(.pair ty27 (.pair (.int .i64) .un)),(.pair (.int .i64) .un),F17⟩
theorem k17:CtOk ct17:=ct_set k14 (conB (hi:=hiBp) k14 n17 e17 x17)
noncomputable def F19 (x:D (.pair ty27 ty148)):Option (D (.pair (.int .i64) .un)):=(bnd (F12 (x.1,())) (fun x0=>(cnd (neI x0.1 0) (some ((-1),())) (bnd (F42 (x.2.1,(0,((subI .i64 (lenL x.1.2.2.2.2.2.2.2.2.2.2.1) 1),())))) (fun x1=>(cnd (notB x1.1) (some ((-1),())) (bnd (atL x.1.2.2.2.2.2.2.2.2.2.2.1 x.2.1) (fun x2=>(bnd (F42 (x.2.2.1,(0,((subI .i64 x2.1 1),())))) (fun x3=>(cnd (notB x3.1) (some ((-1),())) (bnd (F41 (x.1,())) (fun x4=>(bnd (atL x4.1 x.2.1) (fun x5=>(some ((addI .i64 (addI .i64 x5 1) x.2.2.1),())))))))))))))))))
theorem x19 (x:D (.pair ty27 ty148)):fnS (cyF ct17 hiBp) 1000 (.pair ty27 ty148) (.pair (.int .i64) .un) (Tr.e) Tryz.f19 x=F19 x:=by kernel_rfl
theorem n19:cxC.fn.get 19=some Tryz.f19:=by kernel_rfl
theorem e19:cxC.ext.get 19=none:=by kernel_rfl
noncomputable def ct19:Tr Con:=(ct17).set 19 ⟨.pair ty27 ty148,(.pair (.int .i64) .un),F19⟩
theorem k19:CtOk ct19:=ct_set k17 (conB (hi:=hiBp) k17 n19 e19 x19)
noncomputable def F21 (x:D (.pair ty27 (.pair (.int .i64) .un))):Option (D (.pair (.int .i64) .un)):=(bnd (F12 (x.1,())) (fun x0=>(cnd (neI x0.1 0) (some ((-1),())) (bnd (F42 (x.2.1,(0,((subI .i64 x.1.2.2.2.2.2.2.1 1),())))) (fun x1=>(cnd (notB x1.1) (some ((-1),())) (bnd (F41 (x.1,())) (fun x2=>(bnd (atL x2.1 (lenL x.1.2.2.2.2.2.2.2.2.2.2.1)) (fun x3=>(some ((addI .i64 x3 x.2.1),()))))))))))))
theorem x21 (x:D (.pair ty27 (.pair (.int .i64) .un))):fnS (cyF ct19 hiBp) 1000 (.pair ty27 (.pair (.int .i64) .un)) (.pair (.int .i64) .un) (Tr.e) Tryz.f21 x=F21 x:=by kernel_rfl
theorem n21:cxC.fn.get 21=some Tryz.f21:=by kernel_rfl
theorem e21:cxC.ext.get 21=none:=by kernel_rfl
noncomputable def ct21:Tr Con:=(ct19).set 21 ⟨(.pair ty27 (.pair (.int .i64) .un)),(.pair (.int .i64) .un),F21⟩
theorem k21:CtOk ct21:=ct_set k19 (conB (hi:=hiBp) k19 n21 e21 x21)
noncomputable def F6 (x:D (.pair ty27 .un)):Option (D (.pair .bool .un)):=(bnd (F14 (x.1,())) (fun x0=>(bnd (F10 (x.1,())) (fun x1=>(cnd (notB x1.1) (some (true,())) (cnd (neI x0.2.1 0) (some (true,())) (chk (okMk (lenL x0.1.2.2.2.2.2.2.2.2.2.2.2.2.2.2.2.1.2.2.1) (lenL x0.1.2.2.2.2.2.2.2.2.2.2.2.2.2.2.2.1.2.2.1) 1) (bndS (loopS (fun d2=>(cnd (ltI d2.2.1 (lenL x.1.2.2.2.2.2.2.2.2.2.2.1)) (bndS (bnd (atL x.1.2.2.2.2.2.2.2.2.2.2.1 d2.2.1) (fun x3=>(bnd (F17 (x.1,(d2.2.1,()))) (fun x4=>(cnd (ltI x4.1 0) (inR (inR (inR (some (false,()))))) (cnd (leI (lenL d2.1.1) x4.1) (inR (inR (inR (some (false,()))))) (chk (inL? d2.1.1 x4.1) (bnd (atL d2.1.1 x4.1) (fun x5=>(cnd x5 (inR (inR (inR (some (false,()))))) (chk (inL? d2.1.1 x4.1) (bnd (atL d2.1.1 x4.1) (fun x6=>(cnd (ltI 16 x3.1) (inR (inR (inR (some (false,()))))) (bndS (loopS (fun d7=>(cnd (ltI d7.2.1 x3.1) (bnd (F19 (x.1,(d2.2.1,(d7.2.1,())))) (fun x8=>(cnd (ltI x8.1 0) (inR (inR (inR (inR (inR (some (false,()))))))) (cnd (leI (lenL d7.1.1) x8.1) (inR (inR (inR (inR (inR (some (false,()))))))) (chk (inL? d7.1.1 x8.1) (bnd (atL d7.1.1 x8.1) (fun x9=>(cnd x9 (inR (inR (inR (inR (inR (some (false,()))))))) (chk (inL? d7.1.1 x8.1) (bnd (atL d7.1.1 x8.1) (fun x10=>(some (.inl (((setL d7.1.1 x8.1 true),()),((addI .i64 d7.2.1 1),()))))))))))))))) (inR (some (.inl ((d7.1.1,()),())))))) 1000000000 (((setL d2.1.1 x4.1 true),()),(0,()))) (fun x11=>(some (.inl ((x11.1.1,()),()))))))))))))))))))) (fun x12=>(some (.inl ((x12.1.1,()),((addI .i64 d2.2.1 1),())))))) (inR (some (.inl ((d2.1.1,()),())))))) 1000000000 (((rep (lenL x0.1.2.2.2.2.2.2.2.2.2.2.2.2.2.2.2.1.2.2.1) false),()),(0,()))) (fun x13=>(cnd (ltI 64 x.1.2.2.2.2.2.2.1) (some (false,())) (bndS (loopS (fun d14=>(cnd (ltI d14.2.1 x.1.2.2.2.2.2.2.1) (bnd (F21 (x.1,(d14.2.1,()))) (fun x15=>(cnd (ltI x15.1 0) (inR (inR (some (false,())))) (cnd (leI (lenL d14.1.1) x15.1) (inR (inR (some (false,())))) (chk (inL? d14.1.1 x15.1) (bnd (atL d14.1.1 x15.1) (fun x16=>(cnd x16 (inR (inR (some (false,())))) (chk (inL? d14.1.1 x15.1) (bnd (atL d14.1.1 x15.1) (fun x17=>(some (.inl (((setL d14.1.1 x15.1 true),()),((addI .i64 d14.2.1 1),()))))))))))))))) (inR (some (.inl ((d14.1.1,()),())))))) 1000000000 ((x13.1.1,()),(0,()))) (fun x18=>(some (true,()))))))))))))))
theorem x6 (x:D (.pair ty27 .un)):fnS (cyF ct21 hiBp) 1000 (.pair ty27 .un) (.pair .bool .un) ((((((((Tr.e).set 0 [.keep 1,.box 5 [.o .bool],.keep 6]).set 1 [.keep 1,.box 5 [.o .bool],.keep 6,.keep 31,.keep 32,.val 33 (.int .i64)]).set 2 [.keep 1,.box 5 [.o .bool],.keep 6,.keep 31,.keep 32,.keep 33]).set 4 [.keep 1,.box 5 [.o .bool],.keep 6,.keep 31,.keep 32,.keep 33]).set 5 [.keep 1,.box 5 [.o .bool],.keep 6,.keep 7,.keep 31,.keep 32,.keep 33,.keep 50,.val 51 (.int .i64)]).set 8 [.box 5 [.o .bool]]).set 9 [.keep 1,.box 5 [.o .bool],.keep 6,.keep 67,.val 68 (.int .i64)]) Tryz.f6 x=F6 x:=by kernel_rfl
theorem n6:cxC.fn.get 6=some Tryz.f6:=by kernel_rfl
theorem e6:cxC.ext.get 6=none:=by kernel_rfl
noncomputable def ct6:Tr Con:=(ct21).set 6 ⟨.pair ty27 .un,.pair .bool .un,F6⟩
theorem k6:CtOk ct6:=ct_set k21 (conB (hi:=hiBp) k21 n6 e6 x6)
noncomputable def F7 (x:D (.pair ty27 .un)):Option (D (.pair .bool .un)):=(bnd (F14 (x.1,())) (fun x0=>(bnd (F10 (x.1,())) (fun x1=>(cnd (notB x1.1) (some (true,())) (cnd (neI x0.2.1 0) (some (true,())) (cnd (neI (lenL x0.1.2.2.2.2.2.2.2.2.2.2.2.2.2.2.2.2.2.1) (lenL x.1.2.2.2.2.2.2.2.2.2.2.2.2.1)) (some (false,())) (cnd (eqI (lenL x0.1.2.2.2.2.2.2.2.2.2.1) 0) (some (false,())) (bnd (atL x0.1.2.2.2.2.2.2.2.2.2.1 0) (fun x2=>(cnd (neI x2.2.1 (lenL x0.1.2.2.2.2.2.2.2.2.2.2.2.2.2.2.2.2.2.1)) (some (false,())) (chk (okMk (lenL x0.1.2.2.2.2.2.2.2.1) (lenL x0.1.2.2.2.2.2.2.2.1) 8) (bndS (loopS (fun d3=>(cnd (ltI d3.2.1 (lenL x0.1.2.2.2.2.2.2.2.2.2.2.2.2.2.2.2.2.2.1)) (bnd (atL x0.1.2.2.2.2.2.2.2.2.2.2.2.2.2.2.2.2.2.1 d3.2.1) (fun x4=>(cnd (ltI x4.2.2.2.2.2.2.2.1.1 0) (inR (inR (some (false,())))) (cnd (leI (lenL d3.1) x4.2.2.2.2.2.2.2.1.1) (inR (inR (some (false,())))) (bnd (atL x0.1.2.2.2.2.2.2.2.1 x4.2.2.2.2.2.2.2.1.1) (fun x5=>(cnd (neI x5.1 1) (inR (inR (some (false,())))) (bnd (atL x0.1.2.2.2.2.2.2.2.1 x4.2.2.2.2.2.2.2.1.1) (fun x6=>(cnd (neI x6.2.2.2.1 d3.2.1) (inR (inR (some (false,())))) (bnd (atL x0.1.2.2.2.2.2.2.2.1 x4.2.2.2.2.2.2.2.1.1) (fun x7=>(cnd (neI x7.2.2.1 x4.2.2.2.2.1) (inR (inR (some (false,())))) (chk (inL? d3.1 x4.2.2.2.2.2.2.2.1.1) (bnd (atL d3.1 x4.2.2.2.2.2.2.2.1.1) (fun x8=>(chk (inL? d3.1 x4.2.2.2.2.2.2.2.1.1) (bnd (atL d3.1 x4.2.2.2.2.2.2.2.1.1) (fun x9=>(some (.inl ((setL d3.1 x4.2.2.2.2.2.2.2.1.1 (addI .i64 x8 1)),((addI .i64 d3.2.1 1),()))))))))))))))))))))))) (inR (some (.inl (d3.1,())))))) 1000000000 ((rep (lenL x0.1.2.2.2.2.2.2.2.1) 0),(0,()))) (fun x10=>(bndS (loopS (fun d11=>(cnd (ltI d11.1 (lenL x0.1.2.2.2.2.2.2.2.1)) (bnd (atL x0.1.2.2.2.2.2.2.2.1 d11.1) (fun x12=>(chk (inL? x10.1 d11.1) (bnd (atL x10.1 d11.1) (fun x13=>(cnd (ltI 1 x13) (inR (inR (some (false,())))) (chk (inL? x10.1 d11.1) (bnd (atL x10.1 d11.1) (fun x14=>(cnd (notB (eqB (eqI x14 0) (eqI x12.1 0))) (inR (inR (some (false,())))) (chk (inL? x10.1 d11.1) (bnd (atL x10.1 d11.1) (fun x15=>(cnd (eqI x15 0) (cnd (neI x12.2.2.1 (-1)) (inR (inR (some (false,())))) (some (.inl ((addI .i64 d11.1 1),())))) (some (.inl ((addI .i64 d11.1 1),()))))))))))))))))) (inR (some (.inl ()))))) 1000000000 (0,())) (fun x16=>(some (true,()))))))))))))))))))
theorem x7 (x:D (.pair ty27 .un)):fnS (cyF ct6 hiBp) 1000 (.pair ty27 .un) (.pair .bool .un) (((((Tr.e).set 0 [.keep 3,.own 5 (.int .i64)]).set 1 [.keep 3,.own 5 (.int .i64),.keep 53,.keep 54,.val 55 (.int .i64)]).set 4 []).set 5 [.keep 5,.keep 109,.keep 110,.val 111 (.int .i64)]) Tryz.f7 x=F7 x:=by kernel_rfl
theorem n7:cxC.fn.get 7=some Tryz.f7:=by kernel_rfl
theorem e7:cxC.ext.get 7=none:=by kernel_rfl
noncomputable def ct7:Tr Con:=(ct6).set 7 ⟨.pair ty27 .un,.pair .bool .un,F7⟩
theorem k7:CtOk ct7:=ct_set k6 (conB (hi:=hiBp) k6 n7 e7 x7)
noncomputable def F160 (x:D ty148):Option (D (.pair .bool .un)):=(cnd (leI 0 x.1) (chk (nonneg (wrp .u64 x.2.1)) (some ((ltI x.1 (shlI .i64 1 (wrp .u64 x.2.1))),()))) (some (false,())))
theorem x160 (x:D ty148):fnS (cyF ct7 hiBp) 1000 ty148 (.pair .bool .un) (Tr.e) Tryz.f160 x=F160 x:=by kernel_rfl
theorem n160:cxC.fn.get 160=some Tryz.f160:=by kernel_rfl
theorem e160:cxC.ext.get 160=none:=by kernel_rfl
noncomputable def ct160:Tr Con:=(ct7).set 160 ⟨ty148,.pair .bool .un,F160⟩
theorem k160:CtOk ct160:=ct_set k7 (conB (hi:=hiBp) k7 n160 e160 x160)
noncomputable def F76 (x:D ty148):Option (D (.pair (.list (.int .u8)) (.pair (.int .i64) .un))):=(cnd (ltI x.1 0) (some ([],(2,()))) (cnd (ltI 16 x.1) (some ([],(2,()))) (bnd (F160 (x.2.1,(x.1,()))) (fun x0=>(cnd (notB x0.1) (some ([],(3,()))) (chk (okMk 32 32 1) (chk (inL? (rep 32 0) 0) (bnd (atL (rep 32 0) 0) (fun x1=>(chk (inL? (setL (rep 32 0) 0 73) 1) (bnd (atL (setL (rep 32 0) 0 73) 1) (fun x2=>(chk (inL? (setL (setL (rep 32 0) 0 73) 1 78) 2) (bnd (atL (setL (setL (rep 32 0) 0 73) 1 78) 2) (fun x3=>(chk (inL? (setL (setL (setL (rep 32 0) 0 73) 1 78) 2 79) 3) (bnd (atL (setL (setL (setL (rep 32 0) 0 73) 1 78) 2 79) 3) (fun x4=>(chk (inL? (setL (setL (setL (setL (rep 32 0) 0 73) 1 78) 2 79) 3 68) 4) (bnd (atL (setL (setL (setL (setL (rep 32 0) 0 73) 1 78) 2 79) 3 68) 4) (fun x5=>(chk (inL? (setL (setL (setL (setL (setL (rep 32 0) 0 73) 1 78) 2 79) 3 68) 4 (wrp .u8 x.1)) 5) (bnd (atL (setL (setL (setL (setL (setL (rep 32 0) 0 73) 1 78) 2 79) 3 68) 4 (wrp .u8 x.1)) 5) (fun x6=>(chk (inL? (setL (setL (setL (setL (setL (setL (rep 32 0) 0 73) 1 78) 2 79) 3 68) 4 (wrp .u8 x.1)) 5 (wrp .u8 (remI .i64 x.2.1 256))) 6) (bnd (atL (setL (setL (setL (setL (setL (setL (rep 32 0) 0 73) 1 78) 2 79) 3 68) 4 (wrp .u8 x.1)) 5 (wrp .u8 (remI .i64 x.2.1 256))) 6) (fun x7=>(bndS (loopS (fun d8=>(cnd (ltI d8.2.1 7) (chk (inL? (setL (setL (setL (setL (setL (setL (setL (rep 32 0) 0 73) 1 78) 2 79) 3 68) 4 (wrp .u8 x.1)) 5 (wrp .u8 (remI .i64 x.2.1 256))) 6 (wrp .u8 (quoI .i64 x.2.1 256))) d8.2.1) (bnd (atL (setL (setL (setL (setL (setL (setL (setL (rep 32 0) 0 73) 1 78) 2 79) 3 68) 4 (wrp .u8 x.1)) 5 (wrp .u8 (remI .i64 x.2.1 256))) 6 (wrp .u8 (quoI .i64 x.2.1 256))) d8.2.1) (fun x9=>(some (.inl ((addI .i64 d8.1 (wrp .i64 x9)),((addI .i64 d8.2.1 1),()))))))) (inR (some (.inl (d8.1,())))))) 1000000000 (0,(0,()))) (fun x10=>(chk (inL? (setL (setL (setL (setL (setL (setL (setL (rep 32 0) 0 73) 1 78) 2 79) 3 68) 4 (wrp .u8 x.1)) 5 (wrp .u8 (remI .i64 x.2.1 256))) 6 (wrp .u8 (quoI .i64 x.2.1 256))) 7) (bnd (atL (setL (setL (setL (setL (setL (setL (setL (rep 32 0) 0 73) 1 78) 2 79) 3 68) 4 (wrp .u8 x.1)) 5 (wrp .u8 (remI .i64 x.2.1 256))) 6 (wrp .u8 (quoI .i64 x.2.1 256))) 7) (fun x11=>(some ((setL (setL (setL (setL (setL (setL (setL (setL (rep 32 0) 0 73) 1 78) 2 79) 3 68) 4 (wrp .u8 x.1)) 5 (wrp .u8 (remI .i64 x.2.1 256))) 6 (wrp .u8 (quoI .i64 x.2.1 256))) 7 (wrp .u8 (remI .i64 x10.1 251))),(0,())))))))))))))))))))))))))))))))))))
theorem x76 (x:D ty148):fnS (cyF ct160 hiBp) 1000 ty148 (.pair (.list (.int .u8)) (.pair (.int .i64) .un)) (((Tr.e).set 0 [.keep 6,.val 7 (.int .i64)]).set 1 [.keep 6,.val 7 (.int .i64),.val 8 (.int .i64)]) Tryz.f76 x=F76 x:=by kernel_rfl
theorem n76:cxC.fn.get 76=some Tryz.f76:=by kernel_rfl
theorem e76:cxC.ext.get 76=none:=by kernel_rfl
noncomputable def ct76:Tr Con:=(ct160).set 76 ⟨ty148,(.pair (.list (.int .u8)) (.pair (.int .i64) .un)),F76⟩
theorem k76:CtOk ct76:=ct_set k160 (conB (hi:=hiBp) k160 n76 e76 x76)
noncomputable def F24 (x:D (.pair (.list (.int .u8)) .un)):Option (D (.pair (.int .i64) ty148)):=(cnd (neI (lenL x.1) 32) (some (0,(0,(3,())))) (bnd (atL x.1 4) (fun x0=>(bnd (atL x.1 5) (fun x1=>(bnd (atL x.1 6) (fun x2=>(bnd (F76 ((wrp .i64 x0),((addI .i64 (wrp .i64 x1) (mulI .i64 256 (wrp .i64 x2))),()))) (fun x3=>(cnd (neI x3.2.1 0) (some (0,(0,(22,())))) (bndS (loopS (fun d4=>(cnd (ltI d4.1 (lenL x.1)) (bnd (atL x.1 d4.1) (fun x5=>(bnd (atL x3.1 d4.1) (fun x6=>(cnd (neI x5 x6) (inR (inR (some (0,(0,(22,())))))) (some (.inl ((addI .i64 d4.1 1),())))))))) (inR (some (.inl ()))))) 1000000000 (0,())) (fun x7=>(some ((wrp .i64 x0),((addI .i64 (wrp .i64 x1) (mulI .i64 256 (wrp .i64 x2))),(0,()))))))))))))))))
theorem x24 (x:D (.pair (.list (.int .u8)) .un)):fnS (cyF ct76 hiBp) 1000 (.pair (.list (.int .u8)) .un) (.pair (.int .i64) ty148) (((Tr.e).set 0 [.keep 5,.keep 6]).set 1 [.keep 0,.keep 5,.keep 6,.keep 7,.val 9 (.int .i64)]) Tryz.f24 x=F24 x:=by kernel_rfl
theorem n24:cxC.fn.get 24=some Tryz.f24:=by kernel_rfl
theorem e24:cxC.ext.get 24=none:=by kernel_rfl
noncomputable def ct24:Tr Con:=(ct76).set 24 ⟨(.pair (.list (.int .u8)) .un),(.pair (.int .i64) ty148),F24⟩
theorem k24:CtOk ct24:=ct_set k76 (conB (hi:=hiBp) k76 n24 e24 x24)
noncomputable def F25 (x:D (.pair (.list (.int .u8)) (.pair (.list (.int .u8)) .un))):Option (D (.pair .bool .un)):=(chk (okB x.1) (chk (okB x.2.1) (some ((eqS (strS x.1) (strS x.2.1)),()))))
theorem x25 (x:D (.pair (.list (.int .u8)) (.pair (.list (.int .u8)) .un))):fnS (cyF ct24 hiBp) 1000 (.pair (.list (.int .u8)) (.pair (.list (.int .u8)) .un)) (.pair .bool .un) (Tr.e) Tryz.f25 x=F25 x:=by kernel_rfl
theorem n25:cxC.fn.get 25=some Tryz.f25:=by kernel_rfl
theorem e25:cxC.ext.get 25=none:=by kernel_rfl
noncomputable def ct25:Tr Con:=(ct24).set 25 ⟨(.pair (.list (.int .u8)) (.pair (.list (.int .u8)) .un)),.pair .bool .un,F25⟩
theorem k25:CtOk ct25:=ct_set k24 (conB (hi:=hiBp) k24 n25 e25 x25)
noncomputable def F8 (x:D (.pair ty27 .un)):Option (D (.pair .bool .un)):=(bnd (F14 (x.1,())) (fun x0=>(bnd (F10 (x.1,())) (fun x1=>(cnd (notB x1.1) (some (true,())) (cnd (neI x0.2.1 0) (some (true,())) (bndS (loopS (fun d2=>(cnd (ltI d2.1 (lenL x.1.2.2.2.2.2.2.2.2.2.2.1)) (bndS (bnd (atL x.1.2.2.2.2.2.2.2.2.2.2.1 d2.1) (fun x3=>(bnd (F17 (x.1,(d2.1,()))) (fun x4=>(cnd (ltI x4.1 0) (inR (inR (inR (some (false,()))))) (cnd (leI (lenL x0.1.2.2.2.2.2.2.2.2.2.2.2.2.2.2.2.1.2.2.1) x4.1) (inR (inR (inR (some (false,()))))) (bnd (atL x0.1.2.2.2.2.2.2.2.2.2.2.2.2.2.2.2.1.2.2.1 x4.1) (fun x5=>(bnd (F24 (x5,())) (fun x6=>(cnd (neI x6.2.2.1 0) (inR (inR (inR (some (false,()))))) (cnd (neI x6.1 (quoI .i64 (lenL x3.2.1) 32)) (inR (inR (inR (some (false,()))))) (chk (nonneg x6.1) (cnd (neI x6.2.1 (subI .i64 (shlI .i64 1 x6.1) 1)) (inR (inR (inR (some (false,()))))) (bndS (loopS (fun d7=>(cnd (ltI d7.1 x6.1) (bnd (F19 (x.1,(d2.1,(d7.1,())))) (fun x8=>(cnd (ltI x8.1 0) (inR (inR (inR (inR (inR (some (false,()))))))) (cnd (leI (lenL x0.1.2.2.2.2.2.2.2.2.2.2.2.2.2.2.2.1.2.2.1) x8.1) (inR (inR (inR (inR (inR (some (false,()))))))) (bnd (atL x0.1.2.2.2.2.2.2.2.2.2.2.2.2.2.2.2.1.2.2.1 x8.1) (fun x9=>(chk (okCut (mulI .i64 d7.1 32) (mulI .i64 (addI .i64 d7.1 1) 32) (lenL x3.2.1)) (bnd (F25 (x9,((cutL x3.2.1 (mulI .i64 d7.1 32) (mulI .i64 (addI .i64 d7.1 1) 32)),()))) (fun x10=>(cnd (notB x10.1) (inR (inR (inR (inR (inR (some (false,()))))))) (some (.inl ((addI .i64 d7.1 1),()))))))))))))) (inR (some (.inl ()))))) 1000000000 (0,())) (fun x11=>(some (.inl ())))))))))))))))))) (fun x12=>(some (.inl ((addI .i64 d2.1 1),()))))) (inR (some (.inl ()))))) 1000000000 (0,())) (fun x13=>(some (true,()))))))))))
theorem x8 (x:D (.pair ty27 .un)):fnS (cyF ct25 hiBp) 1000 (.pair ty27 .un) (.pair .bool .un) ((((((Tr.e).set 0 []).set 1 [.keep 1,.keep 3,.keep 27,.keep 28,.val 29 (.int .i64)]).set 2 [.keep 1,.keep 3,.keep 27,.keep 28,.keep 29]).set 4 [.keep 1,.keep 3,.keep 27,.keep 28,.keep 29]).set 5 [.keep 1,.keep 3,.keep 5,.keep 6,.keep 27,.keep 28,.keep 29,.keep 75,.val 76 (.int .i64)]) Tryz.f8 x=F8 x:=by kernel_rfl
theorem n8:cxC.fn.get 8=some Tryz.f8:=by kernel_rfl
theorem e8:cxC.ext.get 8=none:=by kernel_rfl
noncomputable def ct8:Tr Con:=(ct25).set 8 ⟨.pair ty27 .un,.pair .bool .un,F8⟩
theorem k8:CtOk ct8:=ct_set k25 (conB (hi:=hiBp) k25 n8 e8 x8)
end Go.Bo
namespace Go.Ls
open Go Go.Hm Go.RowKit Go.Wk Go.ChangeShapes Go.WideShapes Go.Deep
structure Inv (w:World) (hp:Tr Hm.Obj) (nx:Nat) (ρ:Rn):Prop where
  rel:RelH ρ hp w
  fr:∀ b,nx≤b→hp.get b=none
  un:∀ b,nx≤b→ρ b=none
  ro:∀ b o,hp.get b=some o→owned o=false
structure Mo (hp:Tr Hm.Obj) (nx:Nat) (ρ:Rn) (hp':Tr Hm.Obj) (nx':Nat) (ρ':Rn):Prop where
  le:nx≤nx'
  same:∀ b,b<nx→hp'.get b=hp.get b
  rn:∀ b,b<nx→ρ' b=ρ b
theorem Mo.refl {hp:Tr Hm.Obj} {nx:Nat} {ρ:Rn}:Mo hp nx ρ hp nx ρ:=⟨Nat.le_refl _,fun _ _=>rfl,fun _ _=>rfl⟩
theorem Mo.trans {hp hp1 hp2:Tr Hm.Obj} {nx nx1 nx2:Nat} {ρ ρ1 ρ2:Rn} (a:Mo hp nx ρ hp1 nx1 ρ1) (b:Mo hp1 nx1 ρ1 hp2 nx2 ρ2):Mo hp nx ρ hp2 nx2 ρ2:=⟨Nat.le_trans a.le b.le,fun x hx=>by rw [b.same x (Nat.lt_of_lt_of_le hx a.le),a.same x hx],fun x hx=>by rw [b.rn x (Nat.lt_of_lt_of_le hx a.le),a.rn x hx]⟩
theorem Mo.ext {w:World} {hp hp1:Tr Hm.Obj} {nx nx1:Nat} {ρ ρ1:Rn} (a:Mo hp nx ρ hp1 nx1 ρ1) (i:Inv w hp nx ρ):Hm.Ext ρ ρ1:=by
  intro b r hr
  by_cases hb:b<nx
  · rw [a.rn b hb]; exact hr
  · rw [i.un b (by omega)] at hr; cases hr
def Zl (n:Nat):Nat→Prop:=fun b=>b<n
theorem Mo.rd {hp hp1:Tr Hm.Obj} {nx nx1:Nat} {ρ ρ1:Rn} (a:Mo hp nx ρ hp1 nx1 ρ1) {u:U} {l:List HV} {x:D u} (h:RdC hp (Zl nx) u l x):RdC hp1 (Zl nx1) u l x:=h.mono (fun b hb=>Nat.lt_of_lt_of_le hb a.le) a.same
def Good:(u:U)→D u→Prop
  | .int k,x=>(Lit.int k x).wf=true
  | .list e,xs=>(∀ x,x∈xs→Good e x)∧xs.length≤140737488355328
  | .pair a b,x=>Good a x.1∧Good b x.2
  | .arr n e,xs=>xs.length=n ∧ ∀ x,x∈xs→Good e x
  | _,_=>True
def RdH (P:Program) (t:TypeId) (u:U):Prop :=
  ∀ {H:Type} (enc:TypeId×Value→H) (w:World) (fuel:Nat) (cs:List Value) (x:DataW H×List MemPlace),
    DataW.trod enc P w 0 (fun _=>true) true fuel t cs=some x→(∀ n,n∈x.1.weights P t→n≤reachBytes) →
    ∀ hp nx ρ,Inv w hp nx ρ → ∃ hp' nx' ρ' l a,Inv w hp' nx' ρ'∧Mo hp nx ρ hp' nx' ρ'∧Hm.VRs ρ' l cs∧RdC hp' (Zl nx') u l a∧Good u a ∧ ∀ v,v∈cs→v.oneCell'=true
section
variable {P:Program} {t e:TypeId} {u:U}
theorem one_vrs {ρ:Rn} {a:HV} {v:Value} (h:Hm.VR ρ a v):Hm.VRs ρ [a] [v]:=by
  unfold Hm.VRs
  exact ⟨v,[],rfl,h,by unfold Hm.VRs; rfl⟩
theorem rdH_int {k:IntKind} (ht:P.underlying t=some (.int k)):RdH P t (.int k):=by
  intro H enc w fuel cs x hx _ hp nx ρ hi
  obtain ⟨n,rfl,rfl,hn⟩:=DataW.trod_int ht hx
  exact ⟨hp,nx,ρ,[.int k n],n,hi,Mo.refl,one_vrs (by unfold Hm.VR; rfl),rfl,hn,fun v hv=>by rw [List.mem_singleton] at hv; subst hv; rfl⟩
theorem weightsAll_mem2 {H:Type}:∀ {l:List (DataW H)} {d:DataW H},d∈l → ∀ n∈d.weights P e,n∈DataW.weightsAll P e l
  | [],_,h,_,_=>by cases h
  | d0::l,d,h,n,hn=>by
    unfold DataW.weightsAll
    rcases List.mem_cons.1 h with rfl | h
    · exact List.mem_append_left _ hn
    · exact List.mem_append_right _ (weightsAll_mem2 h n hn)
theorem addP2 (b o i:Nat):(⟨b,o,none⟩:Addr).add i=⟨b,o+i,none⟩:=by
  unfold Addr.add
  split
  · rename_i h
    have h:i=0:=by simpa using h
    rw [h]
    rfl
  · rfl
theorem cells2 (w:World) (b off i s:Nat) {cs:List Value} (h:w.cells? 0 ((⟨b,off,none⟩:Addr).add (i*s)) s=some cs):cs.length=s ∧ ∀ j v,cs[j]?=some v→w.cell? ⟨b,off+i*s+j,none⟩=some v:=by
  obtain ⟨_,hl,hc⟩:=World.cells?_some h
  refine ⟨hl,fun j v hv => ?_⟩
  have hj:j<s:=by rw [← hl]; exact (List.getElem?_eq_some_iff.1 hv).1
  have:=hc j hj
  rw [hv] at this
  rw [addP2,addP2] at this
  exact this
theorem Vrs_app {ρ:Rn} {a b:List HV} {x y:List Value} (h1:Hm.VRs ρ a x) (h2:Hm.VRs ρ b y):Hm.VRs ρ (a++b) (x++y):=Hm.VRs_app h1 h2
theorem inv_new {w:World} {hp:Tr Hm.Obj} {nx:Nat} {ρ:Rn} (hi:Inv w hp nx ρ) {b off s len cap:Nat} {l:List HV} {vs:List Value} (hb:b<w.heap.size) (hl:Hm.VRs ρ l vs) (hlen:l.length=len*s) (hc:∀ j v,vs[j]?=some v→w.cell? ⟨b,off+j,none⟩=some v) (h1:∀ v,v∈vs→v.oneCell'=true) :
    Inv w (hp.set nx (.blk ⟨false,s,l.length,scatter .e 0 l⟩)) (nx+1) (updR ρ nx ⟨b,off,len*s,s,off+cap*s⟩)∧Mo hp nx ρ (hp.set nx (.blk ⟨false,s,l.length,scatter .e 0 l⟩)) (nx+1) (updR ρ nx ⟨b,off,len*s,s,off+cap*s⟩):=by
  have mo:Mo hp nx ρ (hp.set nx (.blk ⟨false,s,l.length,scatter .e 0 l⟩)) (nx+1) (updR ρ nx ⟨b,off,len*s,s,off+cap*s⟩):=⟨Nat.le_succ _,fun c hc=>Tr.get_set_ne _ _ (by omega),fun c hc=>updR_ne _ _ (by omega)⟩
  have ex:=mo.ext hi
  have hro:∀ c o,(hp.set nx (.blk ⟨false,s,l.length,scatter .e 0 l⟩)).get c=some o→owned o=false:=by
    intro c o ho
    rw [Tr.get_set] at ho
    split at ho
    · cases ho; rfl
    · exact hi.ro c o ho
  refine ⟨⟨⟨fun c x r hx hr => ?_,fun c es r hx hr => ?_,fun c c' o o' r r' _ ho hown => ?_⟩,fun c hc => ?_,fun c hc => ?_,hro⟩,mo⟩
  · rw [Tr.get_set] at hx
    split at hx
    · rename_i hcn
      subst hcn
      cases hx
      rw [updR_same] at hr
      cases hr
      refine ⟨hlen,rfl,hb,fun i v hil hv => ?_,fun h=>by cases h⟩
      have hil:i<l.length:=hil
      have hv:(scatter .e 0 l).get i=some v:=hv
      rw [scatter_get,if_pos (by omega),Nat.sub_zero] at hv
      obtain ⟨z,g1,g2⟩:=Hm.VRs_get hl i v hv
      exact ⟨z,hc i z g1,g2.ext ex,h1 z (List.mem_of_getElem? g1)⟩
    · rename_i hcn
      have hlt:c<nx:=by
        rcases Nat.lt_or_ge c nx with h | h
        · exact h
        · rw [hi.fr c h] at hx; cases hx
      rw [mo.rn c hlt] at hr
      exact (hi.rel.blk c x r hx hr).mv ex (Nat.le_refl _) rfl
  · have:=hro c _ hx
    cases this
  · have:=hro c o ho
    rw [hown] at this; cases this
  · rw [Tr.get_set_ne _ _ (by omega)]
    exact hi.fr c (by omega)
  · rw [updR_ne _ _ (by omega)]
    exact hi.un c (by omega)
theorem rdH_slice (ht:P.underlying t=some (.slice e)) (hb:1≤P.bytesOf e) (hcz:P.cellsOf e=u.size) (hc:1≤u.size) (h:RdH P e u):RdH P t (.list u):=by
  intro H enc w fuel cs x hx hw hp nx ρ hi
  rcases open_slice ht hx with ⟨rfl,rfl⟩ | ⟨a,len,cap,m,n,Dd,Pl,rfl,_,hl,hm,hmm,rfl,hall⟩
  · exact ⟨hp,nx,ρ,[.nils],[],hi,Mo.refl,one_vrs (by unfold Hm.VR; rfl),⟨.nils,rfl,.inl ⟨rfl,.inl rfl⟩⟩,⟨fun x hx=>(by cases hx),Nat.zero_le _⟩,fun v hv=>by rw [List.mem_singleton] at hv; subst hv; rfl⟩
  · rw [if_pos rfl] at hmm
    subst hmm
    have hreach:m≤140737488351232:=by
      have:=hw ((((List.range len).map Dd).length+((List.range (m - len)).map fun j=>Dd (len+j)).length)*P.bytesOf e) (by simp [DataW.weights,ht])
      simp only [List.length_map,List.length_range] at this
      unfold reachBytes at this
      have h2:(len+(m - len))*1≤(len+(m - len))*P.bytesOf e:=Nat.mul_le_mul_left _ hb
      omega
    have hone:∀ i,i<len → ∃ cs',w.cells? 0 (a.add (i*P.cellsOf e)) (P.cellsOf e)=some cs' ∧ ∀ hp nx ρ,Inv w hp nx ρ → ∃ hp' nx' ρ' l a,Inv w hp' nx' ρ'∧Mo hp nx ρ hp' nx' ρ'∧Hm.VRs ρ' l cs'∧RdC hp' (Zl nx') u l a∧Good u a ∧ ∀ v,v∈cs'→v.oneCell'=true:=by
      intro i hil
      obtain ⟨cs',h1,h2⟩:=hall i (by omega)
      exact ⟨cs',h1,h enc w n cs' _ h2 (fun k hk=>hw k (by
        simp only [DataW.weights,ht]
        exact List.mem_cons_of_mem _ (List.mem_append_left _ (weightsAll_mem2 (List.mem_map.2 ⟨i,List.mem_range.2 hil,rfl⟩) k hk))))⟩
    rw [hcz] at hone
    by_cases h0:len=0
    · subst h0
      exact ⟨hp,nx,ρ,[.emp],[],hi,Mo.refl,one_vrs (by unfold Hm.VR; exact ⟨a,m,rfl,hm⟩),⟨.emp,rfl,.inl ⟨rfl,.inr (.inr rfl)⟩⟩,⟨fun x hx=>(by cases hx),Nat.zero_le _⟩,fun v hv=>by rw [List.mem_singleton] at hv; subst hv; rfl⟩
    · obtain ⟨b,off,spot⟩:=a
      obtain ⟨c0,hc0,_⟩:=hone 0 (by omega)
      obtain ⟨_,hl0,hcell⟩:=World.cells?_some hc0
      have hne:∃ v,w.cell? ((⟨b,off,spot⟩:Addr).add 0)=some v:=by
        have:=hcell 0 hc
        rw [List.getElem?_eq_getElem (by omega)] at this
        simp only [Nat.zero_mul] at this
        exact ⟨_,this⟩
      obtain ⟨v0,hv0⟩:=hne
      have hspot:spot=none:=by simpa [Addr.add] using World.cell?_spot hv0
      subst hspot
      have hblt:b<w.heap.size:=World.block_lt_of_cell? _ _ hv0
      have main:∀ k i,i+k=len → ∀ hp nx ρ,Inv w hp nx ρ → ∃ hp' nx' ρ' l vs xs,Inv w hp' nx' ρ'∧Mo hp nx ρ hp' nx' ρ'∧Hm.VRs ρ' l vs∧RdA (RdC hp' (Zl nx') u) l xs∧xs.length=k∧(∀ x,x∈xs→Good u x)∧(∀ v,v∈vs→v.oneCell'=true) ∧ ∀ j v,vs[j]?=some v→w.cell? ⟨b,off+i*u.size+j,none⟩=some v:=by
        intro k
        induction k with
        | zero=>exact fun i _ hp nx ρ hi=>⟨hp,nx,ρ,[],[],[],hi,Mo.refl,by unfold Hm.VRs; rfl,rfl,rfl,fun x hx=>(by cases hx),fun x hx=>(by cases hx),fun j v hv=>(by simp at hv)⟩
        | succ k ih =>
          intro i hik hp nx ρ hi
          obtain ⟨cs',c1,c2⟩:=hone i (by omega)
          obtain ⟨hp1,nx1,ρ1,l1,a1,i1,m1,v1,r1,g1,o1⟩:=c2 hp nx ρ hi
          obtain ⟨hp2,nx2,ρ2,l2,vs2,xs2,i2,m2,v2,r2,n2,g2,o2,q2⟩:=ih (i+1) (by omega) hp1 nx1 ρ1 i1
          obtain ⟨p1,p2⟩:=cells2 w b off i u.size c1
          refine ⟨hp2,nx2,ρ2,l1++l2,cs'++vs2,a1::xs2,i2,m1.trans m2,Vrs_app (v1.ext (m2.ext i1)) v2,⟨l1,l2,rfl,m2.rd r1,r2⟩,by simp [n2],fun x hx => ?_,fun v hv => ?_,fun j v hv => ?_⟩
          · rcases List.mem_cons.1 hx with rfl | hx
            · exact g1
            · exact g2 x hx
          · rcases List.mem_append.1 hv with hv | hv
            · exact o1 v hv
            · exact o2 v hv
          · by_cases hj:j<cs'.length
            · rw [List.getElem?_append_left hj] at hv
              exact p2 j v hv
            · rw [List.getElem?_append_right (by omega)] at hv
              have:=q2 (j - cs'.length) v hv
              rw [Nat.add_mul,Nat.one_mul,show off+(i*u.size+u.size)+(j - cs'.length)=off+i*u.size+j by omega] at this
              exact this
      obtain ⟨hp1,nx1,ρ1,l,vs,xs,i1,m1,v1,r1,n1,g1,o1,q1⟩:=main len 0 (by omega) hp nx ρ hi
      rw [Nat.zero_mul,Nat.add_zero] at q1
      have hlen:=RdA_len (z:=u.size) (fun _ _ h=>h.len) r1
      rw [n1] at hlen
      obtain ⟨i2,m2⟩:=inv_new (cap:=m) i1 hblt v1 hlen q1 o1
      refine ⟨_,_,_,[.sl nx1 0 len],xs,i2,m1.trans m2,one_vrs ?_,?_,⟨g1,by omega⟩,fun v hv=>by rw [List.mem_singleton] at hv; subst hv; rfl⟩
      · unfold Hm.VR
        have hmul:len*u.size≤m*u.size:=Nat.mul_le_mul_right _ hl
        refine ⟨_,m,updR_same _ _ _,rfl,hl,?_,?_,hm,by omega⟩
        · show len*u.size≤0+m*u.size; omega
        · show off+0+m*u.size≤off+m*u.size; omega
      · refine ⟨_,rfl,.inr ⟨nx1,0,_,⟨by rw [n1],rfl⟩,Nat.lt_succ_self _,Tr.get_set_same _ _ _,?_,by omega,fun i x hxi => ?_⟩⟩
        · show 0+xs.length*u.size≤l.length
          rw [n1,hlen]; omega
        · obtain ⟨c1,c2,c3,k1,k2,k3,k4⟩:=RdA_get (z:=u.size) (fun _ _ h=>h.len) r1 hxi
          refine ⟨c2,?_,m2.rd k4⟩
          have hg:=gather_new (T:=(.e:Tr HV)) (w:=false) (z:=u.size) (n:=l.length) (p:=0) (c:=l) (by omega)
          exact gather_sub hg k1 k2 k3
def RdHF (P:Program) (tot o:Nat) (fs:List Field) (u:U):Prop :=
  ∀ {H:Type} (enc:TypeId×Value→H) (w:World) (n:Nat) (cs:List Value) (xs:List (DataW H×List MemPlace)),cs.length=tot→xs.length=fs.length →
    (∀ (i:Nat) (fl:Field),fs[i]?=some fl→DataW.trod enc P w 0 (fun _=>true) true n fl.type ((cs.drop fl.offset).take (P.cellsOf fl.type))=xs[i]?) →
    (∀ k,k∈DataW.weightsEach P (fs.map (·.type)) (xs.map (·.1))→k≤reachBytes) →
    ∀ hp nx ρ,Inv w hp nx ρ → ∃ hp' nx' ρ' l a,Inv w hp' nx' ρ'∧Mo hp nx ρ hp' nx' ρ'∧Hm.VRs ρ' l (cs.drop o)∧RdC hp' (Zl nx') u l a∧Good u a ∧ ∀ v,v∈cs.drop o→v.oneCell'=true
theorem rdHF_nil {tot o:Nat} (ho:Nat.beq o tot=true):RdHF P tot o [] .un:=by
  intro H enc w n cs xs h1 h2 h3 h4 hp nx ρ hi
  have:=Nat.eq_of_beq_eq_true ho
  have hd:cs.drop o=[]:=List.drop_eq_nil_of_le (by omega)
  rw [hd]
  exact ⟨hp,nx,ρ,[],(),hi,Mo.refl,by unfold Hm.VRs; rfl,rfl,trivial,fun v hv=>by cases hv⟩
theorem rdHF_cons {tot o s:Nat} {fl:Field} {fs:List Field} {u v:U} (h:RdH P fl.type u) (ho:Nat.beq fl.offset o=true) (hs:P.cellsOf fl.type=s) (r:RdHF P tot (o+s) fs v):RdHF P tot o (fl::fs) (.pair u v):=by
  intro H enc w n cs xs h1 h2 h3 h4 hp nx ρ hi
  have ho':=Nat.eq_of_beq_eq_true ho
  match xs,h2 with
  | x::xs,h2 =>
    have h5:=h3 0 fl rfl
    rw [hs,ho'] at h5
    obtain ⟨hp1,nx1,ρ1,l1,a1,i1,m1,v1,r1,g1,o1⟩:=h enc w n _ _ h5 (fun k hk=>h4 k (by
      show k∈DataW.weightsEach P (fl.type::fs.map (·.type)) (x.1::xs.map (·.1))
      unfold DataW.weightsEach
      exact List.mem_append_left _ hk)) hp nx ρ hi
    obtain ⟨hp2,nx2,ρ2,l2,a2,i2,m2,v2,r2,g2,o2⟩:=r enc w n cs xs h1 (by simpa using h2) (fun i fl' hf=>h3 (i+1) fl' (by simpa using hf)) (fun k hk=>h4 k (by
      show k∈DataW.weightsEach P (fl.type::fs.map (·.type)) (x.1::xs.map (·.1))
      unfold DataW.weightsEach
      exact List.mem_append_right _ hk)) hp1 nx1 ρ1 i1
    have e1:cs.drop o=(cs.drop o).take s++cs.drop (o+s):=by
      rw [← List.drop_drop]
      exact (List.take_append_drop s (cs.drop o)).symm
    refine ⟨hp2,nx2,ρ2,l1++l2,(a1,a2),i2,m1.trans m2,?_,⟨l1,l2,rfl,m2.rd r1,r2⟩,⟨g1,g2⟩,fun z hz => ?_⟩
    · rw [e1]
      exact Vrs_app (v1.ext (m2.ext i1)) v2
    · rw [e1] at hz
      rcases List.mem_append.1 hz with hz | hz
      · exact o1 z hz
      · exact o2 z hz
theorem rdH_struct {fs:Array Field} {tot:Nat} (ht:P.underlying t=some (.struct fs)) (hn:P.cellsOf t=tot) (r:RdHF P tot 0 fs.toList u):RdH P t u:=by
  intro H enc w fuel cs x hx hw hp nx ρ hi
  obtain ⟨xs,n,_,rfl,hl,hxl,hall⟩:=DataW.trod_struct ht hx
  exact r enc w n cs xs (by rw [hl,hn]) (by rw [hxl]; simp) (fun i fl hf=>hall i fl (by simpa using hf)) (fun k hk=>hw k (by
    simp only [DataW.weights,ht]
    exact hk)) hp nx ρ hi
theorem RdH.arg (h:RdH P t u) {H:Type} {enc:TypeId×Value→H} {w:World} {v:Value} {d:DataW H} {ps:List MemPlace} (hd:DataW.Trod enc P w 0 (fun _=>true) true t v d ps) (hw:∀ n,n∈d.weights P t→n≤reachBytes) (hv:(u.ag=true ∧ ∃ xs,v = .agg xs)∨(u.ag=false∧v.cells.toList=[v])) :
    ∀ hp nx ρ,Inv w hp nx ρ → ∃ hp' nx' ρ' s a,Inv w hp' nx' ρ'∧Mo hp nx ρ hp' nx' ρ'∧Hm.VR ρ' s v∧RdV hp' (Zl nx') u s a∧Good u a:=by
  intro hp nx ρ hi
  obtain ⟨fuel,hd⟩:=hd
  obtain ⟨hp1,nx1,ρ1,l,a,i1,m1,v1,r1,g1,o1⟩:=h enc w fuel _ _ hd hw hp nx ρ hi
  rcases hv with ⟨hu,xs,rfl⟩ | ⟨hu,hv⟩
  · refine ⟨hp1,nx1,ρ1,.agg l,a,i1,m1,?_,?_,g1⟩
    · unfold Hm.VR
      exact ⟨xs.toList,by simp,v1,o1⟩
    · unfold RdV
      rw [hu]
      exact ⟨l,rfl,r1⟩
  · rw [hv] at v1
    have hlen:=r1.len
    have h1:∃ s,l=[s]:=by
      have:=Hm.VRs_len v1
      cases l with
      | nil=>cases this
      | cons s l=>cases l with
        | nil=>exact ⟨s,rfl⟩
        | cons _ _=>cases this
    obtain ⟨s,rfl⟩:=h1
    unfold Hm.VRs at v1
    obtain ⟨z,zs,e1,e2,_⟩:=v1
    cases e1
    refine ⟨hp1,nx1,ρ1,s,a,i1,m1,e2,?_,g1⟩
    unfold RdV
    rw [hu]
    exact r1
end
theorem law_fn {P:Program} {cx:Cx} (hc:CxOk P cx) {f:FuncId} {fn:Func} (hf:cx.fn.get f=some fn) (hx:cx.ext.get f=none) {a:U} {F:D a→Option (D (.pair .bool .un))} (hk:COk cx f ⟨a,.pair .bool .un,F⟩) {w:World} {hp:Tr Hm.Obj} {nx:Nat} {ρ:Rn} (hi:Inv w hp nx ρ) {args:List HV} {us:List Value} {x:D a} (hr:Hm.VRs ρ args us) (ha:RdArgs hp (Zl nx) a args x) (hF:F x=some (true,())) :
    FnC P f us.toArray w (fun v w'=>v = .bool true∧Kp [] w w'):=by
  obtain ⟨l,hp',nx',Z',⟨k0,hcall⟩,b1,b2,b3,b4,b5,b6⟩:=hk ⟨0,.e,hp,nx,[],.undef⟩ (Zl nx) args x (true,()) hi.fr (fun b hb=>by cases hb) (fun b hb=>hb) ha hF
  have hcall:=hcall k0 (Nat.le_refl _)
  unfold RdArgs at b6
  obtain ⟨v,r,rfl,c1,c2⟩:=b6
  unfold RdArgs at c2
  subst c2
  have hv:v = .bool true:=by
    unfold RdV at c1
    have c1:RdC hp' Z' .bool [v] true:=c1
    unfold RdC at c1
    simpa using c1
  subst hv
  refine FnC.mono (call_run hc k0 hf hx hcall hi.rel hi.fr (fun i h1 _=>hi.un i h1) hr) ?_
  rintro v w' ⟨ρ',h1,h2⟩
  have h1:Hm.VR ρ' (.bool true) v:=h1
  unfold Hm.VR at h1
  refine ⟨h1,h2.kp.os,h2.kp.tape,h2.kp.output,h2.kp.size,fun b hb _=>h2.kp.block b hb ?_⟩
  rintro ⟨c,o,r,q1,q2,_⟩
  have:=hi.ro c o q1
  rw [q2] at this; cases this
theorem inv_empty (w:World):Inv w .e 0 (fun _=>none):=by
  have no:∀ (b:Nat) (o:Hm.Obj),(Tr.e:Tr Hm.Obj).get b=some o→False:=fun b o h=>by rw [Tr.get_e] at h; cases h
  exact ⟨⟨fun b x r h=>(no b _ h).elim,fun b x r h=>(no b _ h).elim,fun b b' o o' r r' _ h=>(no b _ h).elim⟩,fun b _=>Tr.get_e b,fun _ _=>rfl,fun b o h=>(no b o h).elim⟩
end Go.Ls
namespace Go.Ls
open Go Go.Hm
section
variable {α β:Type}
theorem cnd_t (x y:Option α):cnd true x y=x:=rfl
theorem cnd_f (x y:Option α):cnd false x y=y:=rfl
theorem chk_t (x:Option α):chk true x=x:=rfl
theorem bnd_s (x:α) (f:α→Option β):bnd (some x) f=f x:=rfl
theorem bndS_l (x:α) (f:α→Option β):bndS (some (.inl x)) f=f x:=rfl
theorem bndS_r (x:β) (f:α→Option β):bndS (some (.inr x)) f=some x:=rfl
theorem inR_s (x:β):inR (α:=α) (some x)=some (.inr x):=rfl
theorem cnd_if (b:Bool) (x y:Option α):cnd b x y=if b=true then x else y:=by cases b <;> rfl
theorem ltI_eq (a b:Int):ltI a b=decide (a<b):=rfl
theorem leI_eq (a b:Int):leI a b=decide (a≤b):=rfl
theorem eqI_eq (a b:Int):eqI a b=decide (a=b):=rfl
theorem neI_eq (a b:Int):neI a b = !decide (a=b):=rfl
theorem notB_eq (a:Bool):notB a = !a:=rfl
theorem lenL_eq (l:List α):lenL l=(l.length:Int):=rfl
theorem wrap_ok {n:Int} (h1 : -9223372036854775808≤n) (h2:n≤9223372036854775807):wrapI .i64 n=n:=by
  unfold wrapI intOk
  simp only [decide_eq_true h1,decide_eq_true h2,Bool.and_true,cond_true]
theorem addI_ok {a b:Int} (h1 : -9223372036854775808≤a+b) (h2:a+b≤9223372036854775807):addI .i64 a b=a+b:=wrap_ok h1 h2
theorem subI_ok {a b:Int} (h1 : -9223372036854775808≤a - b) (h2:a - b≤9223372036854775807):subI .i64 a b=a - b:=wrap_ok h1 h2
theorem addN {i:Nat} (h:i≤140737488355328):addI .i64 (i:Int) 1=((i+1:Nat):Int):=by
  rw [addI_ok (by omega) (by omega)]; rfl
theorem at_nat {l:List α} {i:Nat} {x:α} (h:l[i]?=some x):atL l (i:Int)=some x:=h
theorem lt_nat {l:List α} {i:Nat} {x:α} (h:l[i]?=some x):ltI (i:Int) (lenL l)=true:=by
  have:=(List.getElem?_eq_some_iff.1 h).1
  rw [ltI_eq,lenL_eq]
  exact decide_eq_true (by omega)
theorem lt_end {l:List α}:ltI (l.length:Int) (lenL l)=false:=by
  rw [ltI_eq,lenL_eq]
  exact decide_eq_false (by omega)
theorem ix_le {l:List α} {i:Nat} {x:α} (h:l[i]?=some x) {n:Nat} (hl:l.length≤n):i≤n:=by
  have:=(List.getElem?_eq_some_iff.1 h).1
  omega
end
section
variable {α β:Type}
theorem cnd_pos {b:Bool} (h:b=true) (x y:Option α):cnd b x y=x:=by rw [h]; rfl
theorem cnd_neg {b:Bool} (h:b=false) (x y:Option α):cnd b x y=y:=by rw [h]; rfl
theorem for_step {l:List α} {i:Nat} {x:α} (h:l[i]?=some x) {K:α→Option β} {e:Option β}:cnd (ltI (i:Int) (lenL l)) (bnd (atL l (i:Int)) K) e=K x:=by
  rw [cnd_pos (lt_nat h),at_nat h]; rfl
theorem for_end {l:List α} {t e:Option β}:cnd (ltI (l.length:Int) (lenL l)) t e=e:=cnd_neg lt_end _ _
def inR' (lo hi n:Int):Bool:=decide (lo≤n)&&decide (n≤hi)
theorem range_chk (n lo hi:Int) (e r:Option α):cnd (ltI n lo) e (cnd (ltI hi n) e r)=if inR' lo hi n=true then r else e:=by
  rw [cnd_if,cnd_if,ltI_eq,ltI_eq]
  unfold inR'
  by_cases h1:n<lo
  · have:¬ lo≤n:=by omega
    simp [h1,this]
  · have:lo≤n:=by omega
    by_cases h2:hi<n
    · have:¬ n≤hi:=by omega
      simp [h1,h2,this]
    · have:n≤hi:=by omega
      simp [h1,h2,this, ‹lo≤n›]
theorem range_chk2 (n lo hi:Int) (e r:Option α):cnd (ltI n lo) e (cnd (leI hi n) e r)=if inR' lo (hi - 1) n=true then r else e:=by
  have h:leI hi n=ltI (hi - 1) n:=by rw [ltI_eq,leI_eq]; congr 1; apply propext; omega
  rw [h,range_chk]
end
theorem if_and {α:Type} (a b:Bool) (x e:α):(if a=true then (if b=true then x else e) else e)=if (a&&b)=true then x else e:=by cases a <;> cases b <;> rfl
def foldO {A B R X:Type} (g:Nat→B→X→Option (Sum B R)) (fin:B→A):Nat→B→List X→Option (Sum A R)
  | _,b,[]=>some (.inl (fin b))
  | i,b,x::l=>match g i b x with
    | some (.inl b')=>foldO g fin (i+1) b' l
    | some (.inr r)=>some (.inr r)
    | none=>none
def stepO {σ A B R X:Type} (st:B→Nat→σ) (g:Nat→B→X→Option (Sum B R)) (b:B) (i:Nat) (x:X):Option (Sum σ (Sum A R)):=match g i b x with
  | some (.inl b')=>some (.inl (st b' (i+1)))
  | some (.inr r)=>some (.inr (.inr r))
  | none=>none
theorem step_if {σ A B R X:Type} {st:B→Nat→σ} {P:Nat→B→X→Bool} {s:Nat→B→X→B} {q:Nat→B→X→R} {b:B} {i:Nat} {x:X}:stepO (A:=A) st (fun i b x=>if P i b x=true then some (.inl (s i b x)) else some (.inr (q i b x))) b i x=if P i b x=true then some (.inl (st (s i b x) (i+1))) else some (.inr (.inr (q i b x))):=by
  unfold stepO
  by_cases h:P i b x=true
  · simp only [h,if_true]
  · simp only [h,if_false]
    rfl
theorem loop_fold {σ A B R X:Type} {f:σ→Option (Sum σ (Sum A R))} {xs:List X} {st:B→Nat→σ} {g:Nat→B→X→Option (Sum B R)} {fin:B→A} (hs:∀ b i x,xs[i]?=some x→f (st b i)=stepO st g b i x) (he:∀ b,f (st b xs.length)=some (.inr (.inl (fin b)))) :
    ∀ (l:List X) (i:Nat) (b:B) (N:Nat),xs.drop i=l→i+l.length=xs.length→l.length<N→loopT f N (st b i)=foldO g fin i b l
  | [],i,b,N,hd,hl,hN=>by
    cases N with
    | zero=>omega
    | succ N =>
      show bndS (f (st b i)) (loopT f N)=_
      have:i=xs.length:=by simpa using hl
      subst this
      rw [he b]
      rfl
  | x::l,i,b,N,hd,hl,hN=>by
    cases N with
    | zero=>omega
    | succ N =>
      have hx:xs[i]?=some x:=by
        have:(xs.drop i)[0]?=some x:=by rw [hd]; rfl
        rw [List.getElem?_drop] at this
        simpa using this
      have hd2:xs.drop (i+1)=l:=by
        rw [← List.drop_drop,hd]; rfl
      show bndS (f (st b i)) (loopT f N)=_
      rw [hs b i x hx]
      unfold stepO foldO
      cases hg:g i b x with
      | none=>rfl
      | some q =>
        cases q with
        | inl b'=>exact loop_fold hs he l (i+1) b' N hd2 (by simp only [List.length_cons] at hl; omega) (by simp only [List.length_cons] at hN; omega)
        | inr r=>rfl
theorem loop_of {σ A B R X:Type} {f:σ→Option (Sum σ (Sum A R))} {xs:List X} {st:B→Nat→σ} {g:Nat→B→X→Option (Sum B R)} {fin:B→A} {b:B} {N:Nat} {x0:σ} (hs:∀ b i x,xs[i]?=some x→f (st b i)=stepO st g b i x) (he:∀ b,f (st b xs.length)=some (.inr (.inl (fin b)))) (h0:x0=st b 0) (hN:xs.length<N):loopS f N x0=foldO g fin 0 b xs:=by
  rw [loopS_eq,h0]
  exact loop_fold hs he xs 0 b N rfl (by omega) hN
theorem fold_all {A R X:Type} {p:X→Bool} {r:R} {a:A}:∀ (l:List X) (i:Nat),foldO (fun _ (_:Unit) x=>if p x=true then some (.inl ()) else some (.inr r)) (fun _=>a) i () l=if l.all p=true then some (.inl a) else some (.inr r)
  | [],i=>rfl
  | x::l,i=>by
    unfold foldO
    by_cases h:p x=true
    · simp only [h,if_true,List.all_cons,Bool.true_and]
      exact fold_all l (i+1)
    · simp only [h,if_false,List.all_cons,Bool.false_and]
      simp
theorem fold_acc {A B R X:Type} {p:X→Bool} {s:B→X→B} {r:R} {fin:B→A}:∀ (l:List X) (i:Nat) (b:B),foldO (fun _ b x=>if p x=true then some (.inl (s b x)) else some (.inr r)) fin i b l=if l.all p=true then some (.inl (fin (l.foldl s b))) else some (.inr r)
  | [],i,b=>rfl
  | x::l,i,b=>by
    unfold foldO
    by_cases h:p x=true
    · simp only [h,if_true,List.all_cons,Bool.true_and,List.foldl_cons]
      exact fold_acc l (i+1) (s b x)
    · simp only [h,if_false,List.all_cons,Bool.false_and]
      simp
def allI {X:Type} (p:Nat→X→Bool):Nat→List X→Bool
  | _,[]=>true
  | i,x::l=>p i x&&allI p (i+1) l
theorem fold_ix {A R X:Type} {p:Nat→X→Bool} {r:R} {a:A}:∀ (l:List X) (i:Nat),foldO (fun i (_:Unit) x=>if p i x=true then some (.inl ()) else some (.inr r)) (fun _=>a) i () l=if allI p i l=true then some (.inl a) else some (.inr r)
  | [],i=>rfl
  | x::l,i=>by
    unfold foldO allI
    by_cases h:p i x=true
    · simp only [h,if_true,Bool.true_and]
      exact fold_ix l (i+1)
    · simp only [h,if_false,Bool.false_and]
      simp
theorem fold_plain {A B R X:Type} {s:B→X→B} {fin:B→A}:∀ (l:List X) (i:Nat) (b:B),foldO (R:=R) (fun _ b x=>some (.inl (s b x))) fin i b l=some (.inl (fin (l.foldl s b)))
  | [],i,b=>rfl
  | x::l,i,b=>by
    unfold foldO
    exact fold_plain l (i+1) (s b x)
end Go.Ls
namespace Go.Bo
open Go Go.Ls
theorem F42_eq (x:D (.pair (.int .i64) (.pair (.int .i64) (.pair (.int .i64) .un)))):F42 x=some (inR' x.2.1 x.2.2.1 x.1,()):=by
  unfold F42 inR'
  rw [leI_eq,leI_eq,cnd_if]
  by_cases h:x.2.1≤x.1
  · simp [h]
  · simp [h]
def nodesOk (l:List Int):Bool:=inR' 1 4 l.length&&l.all (inR' 0 3)
theorem F30_eq (x:D (.pair ty27 .un)) (h:x.1.1.length≤20):F30 x=some ((if nodesOk x.1.1=true then 0 else 1),()):=by
  unfold F30 nodesOk
  simp only [F42_eq,lenL_eq,bnd_s,notB_eq,cnd_if]
  by_cases h1:inR' 1 4 (x.1.1.length:Int)=true
  · simp only [h1,Bool.not_true,Bool.true_and,Bool.false_eq_true,if_false]
    rw [loop_of (xs:=x.1.1) (st:=fun (_:Unit) i=>((i:Int),())) (g:=fun _ _ x=>if inR' 0 3 x=true then some (.inl ()) else some (.inr ((1:Int),()))) (fin:=fun _=>()) (b:=())]
    rotate_left
    · intro b i y hx
      have hl:=lt_nat hx
      rw [lenL_eq] at hl
      simp only [hl,if_true,at_nat hx,bnd_s,addN (ix_le hx (Nat.le_trans h (by decide))),inR_s,stepO]
      by_cases h2:inR' 0 3 y=true
      · simp [h2]
      · simp [h2]
    · intro b
      have hl:=lt_end (l:=x.1.1)
      rw [lenL_eq] at hl
      simp [hl,inR_s]
    · rfl
    · omega
    · rw [fold_all]
      by_cases h3:x.1.1.all (inR' 0 3)=true
      · rw [if_pos h3,if_pos h3]; rfl
      · rw [if_neg h3,if_neg h3]; rfl
  · have h1:inR' 1 4 (x.1.1.length:Int)=false:=by simpa using h1
    simp [h1]
def zOk (z:D ty145):Bool:=inR' 0 3 z.1&&(inR' 0 1 z.2.1&&(inR' 1 256 z.2.2.1&&inR' 0 z.2.2.1 z.2.2.2.1))
def zAll (l:List (D ty145)):Int:=l.foldl (fun a z=>addI .i64 a z.2.2.1) 0
def zNorm (l:List (D ty145)):Bool:=l.any (fun z=>eqI z.2.1 0)
def zonesOk (l:List (D ty145)):Bool:=inR' 1 6 l.length&&(l.all zOk&&(zNorm l&&decide (zAll l≤256)))
theorem norm_count:∀ (l:List (D ty145)) (a:Int) (k:Nat),k+l.length≤1000→(l.foldl (fun (b:Int×Int) z=>(addI .i64 b.1 z.2.2.1,if z.2.1=0 then addI .i64 b.2 1 else b.2)) (a,(k:Int)))=(l.foldl (fun a z=>addI .i64 a z.2.2.1) a,((k+l.countP (fun z=>eqI z.2.1 0):Nat):Int))
  | [],a,k,_=>by simp
  | z::l,a,k,h=>by
    simp only [List.foldl_cons,List.countP_cons]
    simp only [List.length_cons] at h
    by_cases hz:z.2.1=0
    · rw [if_pos hz,addN (by omega),norm_count l _ (k+1) (by omega)]
      have:eqI z.2.1 0=true:=by rw [eqI_eq]; simpa using hz
      simp only [this,if_true]
      congr 2; omega
    · rw [if_neg hz,norm_count l _ k (by omega)]
      have:eqI z.2.1 0=false:=by rw [eqI_eq]; simpa using hz
      simp [this]
theorem norm_any:∀ (l:List (D ty145)),(l.countP (fun z=>eqI z.2.1 0)=0)↔zNorm l=false:=by
  intro l
  unfold zNorm
  rw [List.countP_eq_zero]
  simp
theorem F31_eq (x:D (.pair ty27 .un)) (h:x.1.2.1.length≤20):F31 x=some ((if zonesOk x.1.2.1=true then 0 else 1),()):=by
  unfold F31 zonesOk
  simp only [F42_eq,lenL_eq,bnd_s,notB_eq,cnd_if]
  by_cases h1:inR' 1 6 (x.1.2.1.length:Int)=true
  · simp only [h1,Bool.not_true,Bool.true_and,Bool.false_eq_true,if_false]
    rw [loop_of (xs:=x.1.2.1) (st:=fun (b:Int×Int) i=>(b.1,(b.2,((i:Int),())))) (g:=fun _ b z=>if zOk z=true then some (.inl (addI .i64 b.1 z.2.2.1,if z.2.1=0 then addI .i64 b.2 1 else b.2)) else some (.inr ((1:Int),()))) (fin:=fun b=>(b.1,(b.2,()))) (b:=(0,0))]
    rotate_left
    · intro b i y hx
      have hl:=lt_nat hx
      rw [lenL_eq] at hl
      simp only [hl,if_true,at_nat hx,bnd_s,addN (ix_le hx (Nat.le_trans h (by decide))),inR_s,stepO]
      unfold zOk
      cases inR' 0 3 y.1 <;> cases inR' 0 1 y.2.1 <;> cases inR' 1 256 y.2.2.1 <;> cases inR' 0 y.2.2.1 y.2.2.2.1 <;> simp [eqI_eq]
      by_cases hk:y.2.1=0 <;> simp [hk]
    · intro b
      have hl:=lt_end (l:=x.1.2.1)
      rw [lenL_eq] at hl
      simp [hl,inR_s]
    · rfl
    · omega
    · rw [fold_acc]
      by_cases h3:x.1.2.1.all zOk=true
      · rw [if_pos h3]
        have:=norm_count x.1.2.1 0 0 (by omega)
        rw [show ((0:Nat):Int)=0 from rfl] at this
        rw [this]
        have hz:=norm_any x.1.2.1
        generalize x.1.2.1.countP (fun z=>eqI z.2.1 0)=k at hz
        simp only [bndS_l,Nat.zero_add,h3,Bool.true_and,eqI_eq,ltI_eq]
        by_cases h4:zNorm x.1.2.1=true
        · have:¬ (k=0):=by rw [hz,h4]; simp
          have:¬ ((k:Nat):Int)=0:=by omega
          simp only [this,h4,Bool.true_and]
          show _=some ((if decide (zAll x.1.2.1≤256)=true then 0 else 1),())
          unfold zAll
          by_cases h5:(256:Int)<List.foldl (fun a z=>addI .i64 a z.2.2.1) 0 x.1.2.1
          · have h6:¬ List.foldl (fun a z=>addI .i64 a z.2.2.1) 0 x.1.2.1≤(256:Int):=by omega
            simp [h5,h6]
          · have h6:List.foldl (fun a z=>addI .i64 a z.2.2.1) 0 x.1.2.1≤(256:Int):=by omega
            simp [h5,h6]
        · have h4:zNorm x.1.2.1=false:=by simpa using h4
          have:k=0:=by rw [hz,h4]
          simp [this,h4]
      · have h3':x.1.2.1.all zOk=false:=by simpa using h3
        rw [if_neg h3]
        simp [h3',bndS_r]
  · have h1:inR' 1 6 (x.1.2.1.length:Int)=false:=by simpa using h1
    simp [h1]
theorem chk42 (t:D (.pair (.int .i64) (.pair (.int .i64) (.pair (.int .i64) .un)))) {β:Type} (A e:Option β):bnd (F42 t) (fun x0=>cnd x0.1 A e)=if inR' t.2.1 t.2.2.1 t.1=true then A else e:=by
  rw [F42_eq,bnd_s,cnd_if]
theorem chk42n (t:D (.pair (.int .i64) (.pair (.int .i64) (.pair (.int .i64) .un)))) {β:Type} (A e:Option β):bnd (F42 t) (fun x0=>cnd (notB x0.1) e A)=if inR' t.2.1 t.2.2.1 t.1=true then A else e:=by
  rw [F42_eq,bnd_s,notB_eq]
  cases inR' t.2.1 t.2.2.1 t.1 <;> rfl
def fileOk (f:D ty68):Bool:=inR' 1 16 f.1&&(!neI (remI .i64 (lenL f.2.1) 32) 0 && !ltI (mulI .i64 f.1 32) (lenL f.2.1))
def sizes8 (c:D ty27):Bool:=inR' 1 16 c.2.2.2.1&&(inR' 1 c.2.2.2.1 c.2.2.1&&(inR' 1 16 c.2.2.2.2.1&&(inR' 1 16 c.2.2.2.2.2.1&&(inR' 0 64 c.2.2.2.2.2.2.1&&(inR' 0 32 c.2.2.2.2.2.2.2.1&&(inR' 1 256 c.2.2.2.2.2.2.2.2.1&&inR' 1 32 c.2.2.2.2.2.2.2.2.2.1))))))
def sizesOk (c:D ty27):Bool:=sizes8 c&&(leI (lenL c.2.2.2.2.2.2.2.2.2.2.1) 4&&c.2.2.2.2.2.2.2.2.2.2.1.all fileOk)
theorem F32_eq (x:D (.pair ty27 .un)) (h:x.1.2.2.2.2.2.2.2.2.2.2.1.length≤20):F32 x=some ((if sizesOk x.1=true then 0 else 1),()):=by
  unfold F32
  rw [chk42,chk42,chk42,chk42,chk42,chk42,chk42,chk42]
  rw [loop_of (xs:=x.1.2.2.2.2.2.2.2.2.2.2.1) (st:=fun (_:Unit) i=>((i:Int),())) (g:=fun _ _ f=>if fileOk f=true then some (.inl ()) else some (.inr ((1:Int),()))) (fin:=fun _=>()) (b:=())]
  rotate_left
  · intro b i y hx
    refine (for_step hx).trans ?_
    rw [step_if]
    refine (chk42n (y.1,(1,(16,()))) _ _).trans ?_
    show (if inR' 1 16 y.1=true then cnd (neI (remI .i64 (lenL y.2.1) 32) 0) (some (Sum.inr (Sum.inr ((1:Int),())))) (cnd (ltI (mulI .i64 y.1 32) (lenL y.2.1)) (some (Sum.inr (Sum.inr ((1:Int),())))) (some (Sum.inl (addI .i64 (i:Int) 1,())))) else some (Sum.inr (Sum.inr ((1:Int),()))))=_
    rw [addN (ix_le hx (Nat.le_trans h (by decide)))]
    unfold fileOk
    cases inR' 1 16 y.1 <;> cases neI (remI .i64 (lenL y.2.1) 32) 0 <;> cases ltI (mulI .i64 y.1 32) (lenL y.2.1) <;> rfl
  · exact fun b=>for_end
  · rfl
  · omega
  rw [fold_all]
  simp only [if_and]
  unfold sizesOk
  have e8:(inR' 1 16 x.1.2.2.2.1&&(inR' 1 x.1.2.2.2.1 x.1.2.2.1&&(inR' 1 16 x.1.2.2.2.2.1&&(inR' 1 16 x.1.2.2.2.2.2.1&&(inR' 0 64 x.1.2.2.2.2.2.2.1&&(inR' 0 32 x.1.2.2.2.2.2.2.2.1&&(inR' 1 256 x.1.2.2.2.2.2.2.2.2.1&&inR' 1 32 x.1.2.2.2.2.2.2.2.2.2.1)))))))=sizes8 x.1:=rfl
  rw [e8]
  cases sizes8 x.1
  · rfl
  rw [if_pos rfl,Bool.true_and]
  cases leI (lenL x.1.2.2.2.2.2.2.2.2.2.2.1) 4
  · rfl
  cases x.1.2.2.2.2.2.2.2.2.2.2.1.all fileOk <;> rfl
end Go.Bo
namespace Go.Bo
open Go Go.Ls
abbrev Acc:=D ty70
theorem F226_eq (x:D (.pair (.int .i64) .un)):F226 x=some (inR' 0 1048576 x.1,()):=by
  unfold F226 inR'
  rw [leI_eq,leI_eq,cnd_if]
  by_cases h:0≤x.1
  · simp [h]
  · simp [h]
def tOk (i:Nat) (a:Acc):Bool:=bif Nat.beq i 0 then eqI a.1 (-1) else inR' 0 ((i:Int) - 1) a.1
def amt (a:Acc):Bool:=inR' 0 1048576 a.2.1&&(inR' 0 1048576 a.2.2.1&&(inR' 0 1048576 a.2.2.2.1&&inR' 0 1048576 a.2.2.2.2.1))
def within (a:Acc):Bool := !ltI a.2.2.2.2.1 a.2.1
theorem t_step {α:Type} (i:Nat) (p:Int) (bad ok:Option α):cnd (eqI (i:Int) 0) (cnd (neI p (-1)) bad (cnd (ltI 0 (i:Int)) (cnd (ltI p 0) bad (cnd (leI (i:Int) p) bad ok)) ok)) (cnd (ltI 0 (i:Int)) (cnd (ltI p 0) bad (cnd (leI (i:Int) p) bad ok)) ok)=if (bif Nat.beq i 0 then eqI p (-1) else inR' 0 ((i:Int) - 1) p)=true then ok else bad:=by
  rw [range_chk2]
  cases i with
  | zero =>
    rw [cnd_pos (by rfl),cnd_neg (b:=ltI 0 ((0:Nat):Int)) (by rfl),neI_eq,eqI_eq]
    show cnd (!decide (p = -1)) bad ok=if decide (p = -1)=true then ok else bad
    cases decide (p = -1) <;> rfl
  | succ i =>
    rw [cnd_neg (b:=eqI ((i+1:Nat):Int) 0) (by rw [eqI_eq]; exact decide_eq_false (by omega)),cnd_pos (by rw [ltI_eq]; exact decide_eq_true (by omega))]
    rfl
theorem F177_eq (x:D (.pair ty25 .un)) (h:x.1.length≤8):F177 x=some (allI tOk 0 x.1,()):=by
  unfold F177
  rw [loop_of (xs:=x.1) (st:=fun (_:Unit) i=>((i:Int),())) (g:=fun i _ a=>if tOk i a=true then some (.inl ()) else some (.inr (false,()))) (fin:=fun _=>()) (b:=())]
  rotate_left
  · intro b i y hx
    refine (for_step hx).trans ?_
    rw [step_if]
    refine (t_step i y.1 _ _).trans ?_
    show (if tOk i y=true then some (Sum.inl (addI .i64 (i:Int) 1,())) else some (Sum.inr (Sum.inr (false,()))))=_
    rw [addN (ix_le hx (Nat.le_trans h (by decide)))]
  · exact fun b=>for_end
  · rfl
  · omega
  rw [fold_ix]
  cases allI tOk 0 x.1 <;> rfl
theorem chk226n (t:D (.pair (.int .i64) .un)) {β:Type} (A e:Option β):bnd (F226 t) (fun x0=>cnd (notB x0.1) e A)=if inR' 0 1048576 t.1=true then A else e:=by
  rw [F226_eq,bnd_s,notB_eq]
  cases inR' 0 1048576 t.1 <;> rfl
theorem chk110n (t:D (.pair (.int .i64) .un)) {β:Type} (A e:Option β):bnd (F110 t) (fun x0=>cnd (notB x0.1) e A)=if inR' 0 1048576 t.1=true then A else e:=chk226n t A e
def headOk (a:Acc):Bool:=eqI a.2.2.1 0&&eqI a.2.2.2.1 0
theorem F178_eq (a0:Acc) (l:List Acc) (h:(a0::l).length≤8):F178 ((a0::l:List Acc),())=some ((a0::l).all amt&&headOk a0,()):=by
  unfold F178
  rw [loop_of (xs:=a0::l) (st:=fun (_:Unit) i=>((i:Int),())) (g:=fun i _ a=>if amt a=true then some (.inl ()) else some (.inr (false,()))) (fin:=fun _=>()) (b:=())]
  rotate_left
  · intro b i y hx
    refine (for_step hx).trans ?_
    rw [step_if]
    refine (chk226n (y.2.1,()) _ _).trans ?_
    rw [chk226n,chk226n,chk226n]
    simp only [if_and]
    show (if amt y=true then some (Sum.inl (addI .i64 (i:Int) 1,())) else some (Sum.inr (Sum.inr (false,()))))=_
    rw [addN (ix_le hx (Nat.le_trans h (by decide)))]
  · exact fun b=>for_end
  · rfl
  · omega
  rw [fold_all]
  cases (a0::l).all amt
  · rfl
  rw [if_pos rfl,bndS_l,Bool.true_and]
  show cnd (eqI a0.2.2.1 0) (some (eqI a0.2.2.2.1 0,())) (some (false,()))=_
  unfold headOk
  cases eqI a0.2.2.1 0 <;> rfl
noncomputable def ownC {β:Type} (i:Nat) (n:List Int) (a:Acc) (K:List Int→Option β):Option β :=
  chk (inL? n (i:Int)) (bnd (atL n (i:Int)) (fun x2=>chk (inL? n (i:Int)) (bnd (atL n (i:Int)) (fun x3=>cnd (ltI 0 (i:Int))
    (chk (inL? (setL n (i:Int) (addI .i64 x2 a.2.1)) a.1) (bnd (atL (setL n (i:Int) (addI .i64 x2 a.2.1)) a.1) (fun x4=>chk (inL? (setL n (i:Int) (addI .i64 x2 a.2.1)) a.1) (bnd (atL (setL n (i:Int) (addI .i64 x2 a.2.1)) a.1) (fun x5=>K (setL (setL n (i:Int) (addI .i64 x2 a.2.1)) a.1 (subI .i64 x4 a.2.1)))))))
    (K (setL n (i:Int) (addI .i64 x2 a.2.1)))))))
theorem ownC_eq {β:Type} (i:Nat) (n:List Int) (a:Acc) (K:List Int→Option β):ownC i n a K=bnd (ownC i n a some) K:=by
  unfold ownC
  cases inL? n (i:Int)
  · rfl
  cases atL n (i:Int) with
  | none=>rfl
  | some v =>
    simp only [chk_t,bnd_s]
    cases ltI 0 (i:Int)
    · rfl
    simp only [cnd_t]
    cases inL? (setL n (i:Int) (addI .i64 v a.2.1)) a.1
    · rfl
    cases atL (setL n (i:Int) (addI .i64 v a.2.1)) a.1 <;> rfl
noncomputable def ownG (i:Nat) (n:List Int) (a:Acc):Option (Sum (List Int) (List Int×Unit)):=bnd (ownC i n a some) (fun n'=>some (.inl n'))
theorem in_nat {n:List Int} {i:Nat} {v:Int} (h:n[i]?=some v):inL? n (i:Int)=true:=by
  have:=(List.getElem?_eq_some_iff.1 h).1
  unfold inL?
  simp only [Bool.and_eq_true,decide_eq_true_eq]
  exact ⟨by omega,Int.ofNat_lt.2 this⟩
theorem own_0 {n:List Int} {a:Acc} {v:Int} (h:n[0]?=some v):ownC 0 n a some=some (n.set 0 (addI .i64 v a.2.1)):=by
  unfold ownC
  rw [in_nat h,at_nat h,chk_t,bnd_s,chk_t,bnd_s]
  rfl
theorem own_s {n:List Int} {a:Acc} {v v1:Int} {k q:Nat} (hk:0<k) (h:n[k]?=some v) (hq:a.1=(q:Int)) (h1:(n.set k (addI .i64 v a.2.1))[q]?=some v1):ownC k n a some=some ((n.set k (addI .i64 v a.2.1)).set q (subI .i64 v1 a.2.1)):=by
  unfold ownC
  rw [in_nat h,at_nat h,chk_t,bnd_s,chk_t,bnd_s,cnd_pos (by rw [ltI_eq]; exact decide_eq_true (by omega))]
  rw [hq]
  have e:setL n (k:Int) (addI .i64 v a.2.1)=n.set k (addI .i64 v a.2.1):=rfl
  rw [e,in_nat h1,at_nat h1,chk_t,bnd_s,chk_t,bnd_s]
  rfl
def kidsL (i:Nat):List Acc→Int
  | []=>0
  | a::l=>(if a.1=(i:Int) then a.2.1 else 0)+kidsL i l
theorem F111_eq (l:List Acc) (i:Nat) (h:l.length≤8) (ha:l.all amt=true):F111 (l,((i:Int),()))=some (kidsL i (l.drop 1),()):=by
  unfold F111
  have key:∀ (s:List Acc) (k:Nat) (b:Int),l.drop k=s→k+s.length=l.length→0≤b→b≤1048576*k→foldO (R:=Int×Unit) (fun _ b a=>some (.inl (if a.1=(i:Int) then addI .i64 b a.2.1 else b))) (fun b=>(b,())) k b s=some (.inl (b+kidsL i s,())):=by
    intro s
    induction s with
    | nil=>intro k b _ _ _ _; unfold foldO kidsL; rw [Int.add_zero]
    | cons a s ih =>
      intro k b hd hl h1 h2
      have hm:a∈l:=by
        have:a∈l.drop k:=by rw [hd]; simp
        exact List.mem_of_mem_drop this
      have hamt:=List.all_eq_true.1 ha a hm
      simp only [amt,inR',Bool.and_eq_true,decide_eq_true_eq] at hamt
      have h4:(0:Int)≤a.2.1∧a.2.1≤1048576:=hamt.1
      simp only [List.length_cons] at hl
      unfold foldO kidsL
      by_cases hp:a.1=(i:Int)
      · simp only [hp,if_true]
        rw [addI_ok (by omega) (by omega)]
        rw [ih (k+1) (b+a.2.1) (by rw [← List.drop_drop,hd]; rfl) (by omega) (by omega) (by omega)]
        congr 3; omega
      · simp only [hp,if_false]
        rw [ih (k+1) b (by rw [← List.drop_drop,hd]; rfl) (by omega) (by omega) (by omega)]
        congr 3; omega
  have hl:loopS (fun d0:Int×(Int×Unit)=>cnd (ltI d0.2.1 (lenL l)) (bnd (atL l d0.2.1) (fun x1:Acc=>cnd (eqI x1.1 (i:Int)) (bnd (atL l d0.2.1) (fun x2:Acc=>some (.inl ((addI .i64 d0.1 x2.2.1),((addI .i64 d0.2.1 1),()))))) (some (.inl (d0.1,((addI .i64 d0.2.1 1),())))))) (inR (some (.inl (d0.1,()))))) 1000000000 ((0:Int),((1:Int),()))=(some (.inl (kidsL i (l.drop 1),())):Option (Sum (Int×Unit) (Int×Unit))):=by
    by_cases h0:l.length=0
    · have:l=[]:=List.length_eq_zero_iff.1 h0
      subst this
      rw [loopS_eq]
      rfl
    · rw [loopS_eq]
      have:=loop_fold (f:=fun d0:Int×(Int×Unit)=>cnd (ltI d0.2.1 (lenL l)) (bnd (atL l d0.2.1) (fun x1:Acc=>cnd (eqI x1.1 (i:Int)) (bnd (atL l d0.2.1) (fun x2:Acc=>some (.inl ((addI .i64 d0.1 x2.2.1),((addI .i64 d0.2.1 1),()))))) (some (.inl (d0.1,((addI .i64 d0.2.1 1),())))))) (inR (some (.inl (d0.1,()))))) (xs:=l) (st:=fun (b:Int) j=>(b,((j:Int),()))) (g:=fun _ b a=>some (.inl (if a.1=(i:Int) then addI .i64 b a.2.1 else b))) (fin:=fun b=>(b,())) (R:=Int×Unit) (fun b j y hx=>by
          refine (for_step hx).trans ?_
          show cnd (eqI y.1 (i:Int)) (bnd (atL l (j:Int)) _) _=_
          rw [at_nat hx,bnd_s,addN (ix_le hx (Nat.le_trans h (by decide)))]
          unfold stepO
          rw [eqI_eq]
          by_cases hp:y.1=(i:Int)
          · simp [hp,cnd_t]
          · simp [hp,cnd_f]) (fun b=>for_end) (l.drop 1) 1 0 1000000000 rfl (by rw [List.length_drop]; omega) (by rw [List.length_drop]; omega)
      refine this.trans ?_
      rw [key (l.drop 1) 1 0 rfl (by rw [List.length_drop]; omega) (by omega) (by omega),Int.zero_add]
  refine (congrArg (fun o=>bndS o _) hl).trans ?_
  rfl
def us (k i:Nat) (l:List Acc):Int:=if k≤i then ((l[i - k]?).map (·.2.1)).getD 0 else 0
def kd (k i:Nat) (l:List Acc):Int:=if k=0 then kidsL i (l.drop 1) else kidsL i l
theorem own_fold:∀ (l:List Acc) (k:Nat) (n:List Int),k+l.length=n.length→n.length≤8→allI tOk k l=true→l.all amt=true→(∀ (i:Nat) (v:Int),n[i]?=some v → -(1048576*(k:Int))≤v∧v≤1048576*(k:Int)) →
    ∃ n',foldO ownG (fun n=>(n,())) k n l=some (.inl (n',()))∧n'.length=n.length ∧ ∀ (i:Nat) (v:Int),n[i]?=some v→n'[i]?=some (v+us k i l - kd k i l)
  | [],k,n,hl,h8,ht,ha,hb=>by
    refine ⟨n,rfl,rfl,fun i v hv => ?_⟩
    have:us k i []=0:=by unfold us; split <;> simp
    have h2:kd k i []=0:=by unfold kd; split <;> rfl
    rw [hv,this,h2]; simp
  | a::l,k,n,hl,h8,ht,ha,hb=>by
    rw [List.all_cons,Bool.and_eq_true] at ha
    have hamt:=ha.1
    simp only [amt,inR',Bool.and_eq_true,decide_eq_true_eq] at hamt
    have hu:(0:Int)≤a.2.1∧a.2.1≤1048576:=hamt.1
    unfold allI at ht
    rw [Bool.and_eq_true] at ht
    simp only [List.length_cons] at hl
    have hk:k<n.length:=by omega
    have h0:n[k]?=some n[k]:=List.getElem?_eq_getElem hk
    obtain ⟨b1,b2⟩:=hb k _ h0
    have hadd:addI .i64 n[k] a.2.1=n[k]+a.2.1:=addI_ok (by omega) (by omega)
    have husk:∀ i,us k i (a::l)=(if i=k then a.2.1 else 0)+us (k+1) i l:=by
      intro i
      unfold us
      by_cases hik:i=k
      · subst hik
        rw [if_pos (Nat.le_refl _),if_pos rfl,if_neg (by omega),Nat.sub_self]
        simp
      · rw [if_neg hik]
        by_cases hki:k≤i
        · rw [if_pos hki,if_pos (by omega),show i - k=(i - (k+1))+1 by omega,List.getElem?_cons_succ,Int.zero_add]
        · rw [if_neg hki,if_neg (by omega)]; rfl
    by_cases hk0:k=0
    · subst hk0
      have hg:ownG 0 n a=some (.inl (n.set 0 (n[0]+a.2.1))):=by
        unfold ownG
        rw [own_0 h0,hadd]; rfl
      obtain ⟨n',q1,q2,q3⟩:=own_fold l 1 (n.set 0 (n[0]+a.2.1)) (by rw [List.length_set]; omega) (by rw [List.length_set]; exact h8) ht.2 ha.2 (fun i v hv=>by
        by_cases hi:i=0
        · subst hi
          rw [List.getElem?_set_self hk] at hv
          cases hv; constructor <;> omega
        · rw [List.getElem?_set_ne (fun h=>hi h.symm)] at hv
          obtain ⟨c1,c2⟩:=hb i v hv
          constructor <;> omega)
      refine ⟨n',by unfold foldO; rw [hg]; exact q1,by rw [q2,List.length_set],fun i v hv => ?_⟩
      have hkd:kd 0 i (a::l)=kd 1 i l:=rfl
      have hus1:us 0 i (a::l)=(if i=0 then a.2.1 else 0)+us 1 i l:=husk i
      rw [hus1,hkd]
      by_cases hi:i=0
      · subst hi
        rw [h0] at hv
        cases hv
        have:=q3 0 (n[0]+a.2.1) (by rw [List.getElem?_set_self hk])
        rw [this,if_pos rfl]
        congr 1; omega
      · have:=q3 i v (by rw [List.getElem?_set_ne (fun h=>hi h.symm)]; exact hv)
        rw [this,if_neg hi]
        congr 1; omega
    · have htk:inR' 0 ((k:Int) - 1) a.1=true:=by
        have:=ht.1
        unfold tOk at this
        have hb0:Nat.beq k 0=false:=by cases k with | zero=>exact absurd rfl hk0 | succ k=>rfl
        rw [hb0] at this
        exact this
      simp only [inR',Bool.and_eq_true,decide_eq_true_eq] at htk
      obtain ⟨q,hq⟩:∃ q:Nat,a.1=(q:Int):=⟨a.1.toNat,(Int.toNat_of_nonneg htk.1).symm⟩
      have hqk:q<k:=by have:=htk.2; rw [hq] at this; omega
      have h1:(n.set k (addI .i64 n[k] a.2.1))[q]?=some n[q]:=by
        rw [List.getElem?_set_ne (by omega)]
        exact List.getElem?_eq_getElem (by omega)
      have hq0:n[q]?=some n[q]:=List.getElem?_eq_getElem (by omega)
      obtain ⟨d1,d2⟩:=hb q _ hq0
      have hsub:subI .i64 n[q] a.2.1=n[q] - a.2.1:=subI_ok (by omega) (by omega)
      have hg:ownG k n a=some (.inl ((n.set k (n[k]+a.2.1)).set q (n[q] - a.2.1))):=by
        unfold ownG
        rw [own_s (by omega) h0 hq h1,hadd,hsub]; rfl
      have hval:∀ (i:Nat) (v:Int),n[i]?=some v→((n.set k (n[k]+a.2.1)).set q (n[q] - a.2.1))[i]?=some (v+(if i=k then a.2.1 else 0) - (if a.1=(i:Int) then a.2.1 else 0)):=by
        intro i v hv
        have hi:i<n.length:=(List.getElem?_eq_some_iff.1 hv).1
        have hvi:n[i]=v:=(List.getElem?_eq_some_iff.1 hv).2
        rw [List.getElem?_set,List.getElem?_set]
        by_cases hiq:q=i
        · subst hiq
          rw [if_pos rfl,if_pos (by rw [List.length_set]; omega),if_neg (c:=q=k) (by omega),if_pos hq,hvi]
          congr 1; omega
        · rw [if_neg hiq,if_neg (c:=a.1=(i:Int)) (by rw [hq]; intro h; exact hiq (Int.ofNat_inj.1 h))]
          by_cases hik:k=i
          · subst hik
            rw [if_pos rfl,if_pos hi,if_pos rfl,hvi]
            congr 1; omega
          · rw [if_neg hik,if_neg (c:=i=k) (by omega),hv]
            congr 1; omega
      obtain ⟨n',q1,q2,q3⟩:=own_fold l (k+1) ((n.set k (n[k]+a.2.1)).set q (n[q] - a.2.1)) (by rw [List.length_set,List.length_set]; omega) (by rw [List.length_set,List.length_set]; exact h8) ht.2 ha.2 (fun i v hv=>by
        have hi:i<n.length:=by have:=(List.getElem?_eq_some_iff.1 hv).1; simpa using this
        have hn:n[i]?=some n[i]:=List.getElem?_eq_getElem hi
        rw [hval i _ hn] at hv
        cases hv
        obtain ⟨c1,c2⟩:=hb i _ hn
        have c3:((k+1:Nat):Int)=(k:Int)+1:=by omega
        rw [c3]
        split <;> split <;> constructor <;> omega)
      refine ⟨n',by unfold foldO; rw [hg]; exact q1,by rw [q2,List.length_set,List.length_set],fun i v hv => ?_⟩
      rw [q3 i _ (hval i v hv),husk i]
      have hkd:kd k i (a::l)=(if a.1=(i:Int) then a.2.1 else 0)+kd (k+1) i l:=by
        unfold kd
        rw [if_neg hk0,if_neg (Nat.succ_ne_zero k)]; rfl
      rw [hkd]
      congr 1; omega
theorem own_list (l:List Acc) (h8:l.length≤8) (ht:allI tOk 0 l=true) (ha:l.all amt=true):∃ n',F181 (l,())=some (n',())∧n'.length=l.length ∧ ∀ (i:Nat) (a:Acc),l[i]?=some a→n'[i]?=some (a.2.1 - kidsL i (l.drop 1)):=by
  have hrep:rep (lenL l) (0:Int)=List.replicate l.length 0:=rfl
  obtain ⟨n',q1,q2,q3⟩:=own_fold l 0 (List.replicate l.length 0) (by simp) (by simpa using h8) ht ha (fun i v hv=>by
    rw [List.getElem?_replicate] at hv
    split at hv
    · cases hv; constructor <;> decide
    · cases hv)
  refine ⟨n',?_,by simpa using q2,fun i a hi => ?_⟩
  · unfold F181
    have hmk:okMk (lenL l) (lenL l) 8=true:=by
      unfold okMk Hm.roomOk
      rw [lenL_eq]
      simp only [Bool.and_eq_true,decide_eq_true_eq,Nat.ble_eq]
      refine ⟨by omega,by omega,?_⟩
      show l.length*8≤4294967296
      omega
    rw [hmk,chk_t,hrep]
    rw [loop_of (xs:=l) (st:=fun (b:List Int) i=>(b,((i:Int),()))) (g:=ownG) (fin:=fun b=>(b,())) (b:=List.replicate l.length 0)]
    rotate_left
    · intro b i y hx
      refine (for_step hx).trans ?_
      show ownC i b y (fun n'=>some (Sum.inl (n',(addI .i64 (i:Int) 1,()))))=_
      rw [ownC_eq,addN (ix_le hx (Nat.le_trans h8 (by decide)))]
      unfold stepO ownG
      cases ownC i b y some <;> rfl
    · exact fun b=>for_end
    · rfl
    · omega
    rw [q1]
    rfl
  · have hlt:=(List.getElem?_eq_some_iff.1 hi).1
    rw [q3 i 0 (by rw [List.getElem?_replicate,if_pos hlt])]
    unfold us kd
    rw [if_pos (Nat.zero_le _),if_pos rfl,Nat.sub_zero,hi]
    simp
end Go.Bo
