/-
  Rules, functions and laws for the last text, part d.
-/
import Derived.Test.YtfjeeggbdncodaaGreatGc
import Derived.ProofKit
import Derived.SizedLaws
import Derived.Deep.Slices
import Derived.OpenShut
set_option linter.unusedVariables false
set_option linter.unusedSimpArgs false
set_option linter.constructorNameAsVariable false
set_option linter.unusedSectionVars false
noncomputable section
namespace Go.Bo
open Go Go.Hm Go.Ls Go.Proofs
def b9:List Kd:=[.v iT,.v iT,.v iT,.v iT,.v iT,.v zP,.v F1,.v sB,.v lI,.v lI,.v lI,.o iT,.v iT,.v iT,.v iT,.v iT,.v iT]
def J4:List Kd:=[.o iT,.v iT,.v iT,.o eI,.o fA]
def NU:List Kd:=[.v lI,.v zQ,.v iT,.v iT,.v iT,.v iT,.v iT,.v iT,.v iT,.v iT,.o pW,.v jH,.o vW]
def NT:List Kd:=[.v ce,.v iT,.v iT,.o iT,.o mw,.o zR,.v de,.o yo,.v yq,.o qP,.v zQ,.v (.bw lI),.v sY,.v yp,.v CI,.v mJ,.v lI,.o zO,.v ON,.v OK]
def dL:Tr (Tr (List Hi)):=hu dX [(23,Tr.e),(264,hs [(0,.box 0 b0::kp [1,2] [.own 6 iT]),(1,.box 0 b0::kp [1,2] [.own 6 iT])]),(290,hs [(0,[.box 0 b0]),(1,.box 0 b0::kp [1,2] [.val 6 iT])]),(265,Tr.e),(221,hs [(0,.box 0 b0::kp [1,2] []),(1,.box 0 b0::kp [1,2] [.val 7 iT])]),(67,hs [(0,[.bE 0,.box 13 b9]),(1,[.bE 0,.box 13 b9,.bE 100,.val 101 iT])]),(259,hs [(0,[.own 3 qP]),(1,[.bE 0,.own 3 qP,.val 4 iT])]),(263,hs [(0,[.bE 2,.box 3 [.o lI]]),(1,.bE 2:: .box 3 [.o lI]::kp [8,9] [.val 10 iT])]),(220,hs [(0,kp [1,2] [.box 3 J4]),(1,kp [1,2] [.box 3 J4,.val 4 iT]),(2,kp [1,2] [.box 3 J4,.bE 4]),(4,kp [1,2,3,4] [.box 5 b7]),(5,kp [1,2,3,4] [.box 5 b7,.val 6 iT]),(8,[.bE 2,.box 3 J4]),(9,kp [1,2] [.box 3 J4,.val 8 iT])]),(282,hs [(0,[.own 3 iT]),(1,[.bE 1,.own 3 iT,.val 4 iT]),(2,[.bE 1,.own 3 iT,.bE 4]),(4,[.bE 1,.own 3 iT,.bE 4]),(5,[.bE 1,.own 3 iT,.bE 4,.val 5 iT]),(6,.bE 1:: .own 3 iT::kp [4,5] []),(8,.bE 1:: .own 3 iT::kp [4,5] []),(9,.bE 1:: .own 3 iT::kp [4,5] [.val 6 iT])])]
def aax:Tr (Tr (List Hi)):=(dL).set 263 (hs [(0,[.bE 2,.box 3 b6]),(1,.bE 2:: .box 3 b6::kp [8,9] [.val 10 iT])])
def Ir(x:D (.ai lI iU)):Option (D (.ai lI iU)):=ad (ay 4 (ak x.1)) (some ([],9,())) (aE (aF (α:=D (.ai lI cQ)) (λa=>ad (ay a.2.2.1 (ak x.1)) (am (az x.1 a.2.2.1) λc=>ad (ay c 1) (ao (ao (some ([],2,())))) (am (az x.1 a.2.2.1) λd=>ad (ay 16 d) (ao (ao (some ([],2,())))) (aC (a4 a.1 (a.2.1::[]) 8) (am (az x.1 a.2.2.1) λe=>some (.inl (aX a.1 (a.2.1::[]),ah .i64 a.2.1 (ah .i64 1 e),ah .i64 a.2.2.1 1,())))))) (ao (some (.inl (a.1,a.2.1,()))))) 1000000000 ([],0,0,())) λb=>ad (ay x.2.1 0) (some ([],2,())) (ad (ay 64 x.2.1) (some ([],2,())) (aC (a4 b.1 (b.2.1::ah .i64 b.2.1 x.2.1::[]) 8) (some (aX b.1 (b.2.1::ah .i64 b.2.1 x.2.1::[]),0,())))))
def Z7:=kB dL Yv 140 Tryz.f140 (hs [(0,[.bE 1,.own 6 iT,.val 7 iT]),(1,kp [0,1] [.own 6 iT,.val 7 iT,.val 8 iT])]) Ir
def Ua(x:D (.ai ce .un)):Option (D (.ai lI .un)):=aE (aF (α:=D (.ai lI iU)) (λa=>ad (ay a.2.1 (ak x.1.2.2.2.2.2.2.2.2.2.2.1)) (am (az x.1.2.2.2.2.2.2.2.2.2.2.1 a.2.1) λb=>aC (a4 a.1 (b.1::[]) 8) (some (.inl (aX a.1 (b.1::[]),ah .i64 a.2.1 1,())))) (ao (some (.inl (a.1,()))))) 1000000000 ([],0,())) λc=>am (Ir (c.1,x.1.2.2.2.2.2.2.1,())) λd=>some (d.1,())
def k56:=kB dL Z7 56 Tryz.f56 (hs [(0,[.bE 1,.own 3 iT]),(1,.bE 1:: .own 3 iT::kp [9,10] [.val 11 iT])]) Ua
def RP(x:D (.ai lI .un)):Option (D (.ai lI .un)):=aC (a4 [] x.1 8) (some (aX [] x.1,()))
def Z6:=kB dL k56 141 Tryz.f141 Tr.e RP
def RO(x:D (.ai (.bw (.int .u8)) .un)):Option (D (.ai (.bw (.int .u8)) .un)):=aC (a4 [] x.1 1) (some (aX [] x.1,()))
def Z4:=kB dL Z6 142 Tryz.f142 Tr.e RO
def Iq(x:D (.ai zP .un)):Option (D (.ai zP .un)):=aC (a4 [] x.1 64) (some (aX [] x.1,()))
def Z3:=kB dL Z4 143 Tryz.f143 Tr.e Iq
def T9(x:D (.ai ce .un)):Option (D (.ai ce .un)):=am (RP (x.1.1,())) λg=>aC (a4 [] x.1.2.1 32) (aC (a4 [] x.1.2.2.2.2.2.2.2.2.2.2.2.1 40) (aE (aF (α:=D (.ai ce iU)) (λa=>ad (ay a.2.1 (ak x.1.2.2.2.2.2.2.2.2.2.2.1)) (am (az x.1.2.2.2.2.2.2.2.2.2.2.1 a.2.1) λc=>am (RO (c.2.1,())) λe=>aC (a4 a.1.2.2.2.2.2.2.2.2.2.2.1 ((c.1,e.1,())::[]) 32) (some (.inl ((a.1.1,a.1.2.1,a.1.2.2.1,a.1.2.2.2.1,a.1.2.2.2.2.1,a.1.2.2.2.2.2.1,a.1.2.2.2.2.2.2.1,a.1.2.2.2.2.2.2.2.1,a.1.2.2.2.2.2.2.2.2.1,a.1.2.2.2.2.2.2.2.2.2.1,aX a.1.2.2.2.2.2.2.2.2.2.2.1 ((c.1,e.1,())::[]),a.1.2.2.2.2.2.2.2.2.2.2.2.1,a.1.2.2.2.2.2.2.2.2.2.2.2.2.1,()),ah .i64 a.2.1 1,())))) (ao (some (.inl (a.1,()))))) 1000000000 ((g.1,aX [] x.1.2.1,x.1.2.2.1,x.1.2.2.2.1,x.1.2.2.2.2.1,x.1.2.2.2.2.2.1,x.1.2.2.2.2.2.2.1,x.1.2.2.2.2.2.2.2.1,x.1.2.2.2.2.2.2.2.2.1,x.1.2.2.2.2.2.2.2.2.2.1,[],aX [] x.1.2.2.2.2.2.2.2.2.2.2.2.1,[],()),0,())) λh=>aE (aF (α:=D (.ai ce iU)) (λb=>ad (ay b.2.1 (ak x.1.2.2.2.2.2.2.2.2.2.2.2.2.1)) (am (az x.1.2.2.2.2.2.2.2.2.2.2.2.2.1 b.2.1) λd=>am (Iq (d.2.1,())) λf=>aC (a4 b.1.2.2.2.2.2.2.2.2.2.2.2.2.1 ((d.1,f.1,())::[]) 32) (some (.inl ((b.1.1,b.1.2.1,b.1.2.2.1,b.1.2.2.2.1,b.1.2.2.2.2.1,b.1.2.2.2.2.2.1,b.1.2.2.2.2.2.2.1,b.1.2.2.2.2.2.2.2.1,b.1.2.2.2.2.2.2.2.2.1,b.1.2.2.2.2.2.2.2.2.2.1,b.1.2.2.2.2.2.2.2.2.2.2.1,b.1.2.2.2.2.2.2.2.2.2.2.2.1,aX b.1.2.2.2.2.2.2.2.2.2.2.2.2.1 ((d.1,f.1,())::[]),()),ah .i64 b.2.1 1,())))) (ao (some (.inl (b.1,()))))) 1000000000 (h.1,0,())) λi=>some (i.1,())))
def k57:=kB dL Z3 57 Tryz.f57 (hs [(0,kp [1,2] [.box 3 NU]),(1,kp [1,2] (.box 3 NU::kp [26,27] [.val 28 iT])),(4,[.bE 2,.box 3 NU]),(5,.bE 2:: .box 3 NU::kp [45,46] [.val 47 iT])]) T9
def F58(x:D iU):Option (D (.ai mw iU)):=ad (ay x.1 1) (some ((0,[],()),1,())) (ad (ay 16 x.1) (some ((0,[],()),1,())) (some ((x.1,[],()),0,())))
def k58:=kB dL k57 58 Tryz.f58 Tr.e F58
def D6(x:D (.ai lI (.ai iT cQ))):Option (D bU):=ad (ay (ak x.1) 1) (some (false,())) (ad (ay 4 (ak x.1)) (some (false,())) (ad (ay x.2.1 1) (some (false,())) (ad (ay x.2.2.1 x.2.1) (some (false,())) (ad (ay 64 x.2.2.1) (some (false,())) (ad (ay x.2.2.2.1 1) (some (false,())) (ad (ay 6 x.2.2.2.1) (some (false,())) (aE (aF (α:=D iU) (λa=>ad (ay a.1 (ak x.1)) (am (az x.1 a.1) λb=>ad (ay b 0) (ao (ao (some (false,())))) (am (az x.1 a.1) λc=>ad (cH 4 c) (ao (ao (some (false,())))) (some (.inl (ah .i64 a.1 1,()))))) (ao (some (.inl ())))) 1000000000 (0,())) λd=>some (true,()))))))))
def Z1:=kB dL k58 144 Tryz.f144 (hs [(0,[]),(1,[.bE 0,.val 9 iT])]) D6
def Ie(x:D (.ai eI .un)):Option (D bU):=ad (ay x.1.1 0) (some (false,())) (ad (cH 4 x.1.1) (some (false,())) (ad (bF x.1.2.1 0) (ad (bF x.1.2.1 1) (some (false,())) (ad (cH 0 x.1.2.2.1) (ad (cH 1 x.1.2.2.2.1) (ad (cH x.1.2.2.2.1 256) (ad (cH x.1.2.2.1 (bb .i64 256 x.1.2.2.2.1)) (ad (cH 0 x.1.2.2.2.2.1) (some (cH x.1.2.2.2.2.1 x.1.2.2.2.1,())) (some (false,()))) (some (false,()))) (some (false,()))) (some (false,()))) (some (false,())))) (ad (cH 0 x.1.2.2.1) (ad (cH 1 x.1.2.2.2.1) (ad (cH x.1.2.2.2.1 256) (ad (cH x.1.2.2.1 (bb .i64 256 x.1.2.2.2.1)) (ad (cH 0 x.1.2.2.2.2.1) (some (cH x.1.2.2.2.2.1 x.1.2.2.2.1,())) (some (false,()))) (some (false,()))) (some (false,()))) (some (false,()))) (some (false,())))))
def Zi:=kB dL Z1 211 Tryz.f211 Tr.e Ie
def rz(x:D (.ai eI cQ)):Option (D bU):=ad (ay x.2.2.1 0) (some (false,())) (ad (ay 4 x.2.2.1) (some (false,())) (ad (ay x.2.1 x.1.2.2.1) (some (false,())) (ad (cH (ah .i64 x.1.2.2.1 x.1.2.2.2.1) x.2.1) (some (false,())) (aC (cR (ee .u64 x.2.2.1)) (aC (bF (fj .i64 1 (ee .u64 x.2.2.1)) 0) (ad (aY (lf .i64 x.2.1 (fj .i64 1 (ee .u64 x.2.2.1))) 0) (aC (cR (ee .u64 x.2.2.1)) (some (cH (ah .i64 x.2.1 (fj .i64 1 (ee .u64 x.2.2.1))) (ah .i64 x.1.2.2.1 x.1.2.2.2.1),()))) (some (false,()))))))))
def YS:=kB dL Zi 257 Tryz.f257 Tr.e rz
def xc(x:D (.ai lI cQ)):Option (D bU):=aE (aF (α:=D iU) (λa=>aC (cR (ee .u64 x.2.2.1)) (ad (ay a.1 (ah .i64 x.2.1 (fj .i64 1 (ee .u64 x.2.2.1)))) (am (az x.1 a.1) λb=>ad (aY b 0) (ao (ao (some (false,())))) (some (.inl (ah .i64 a.1 1,())))) (ao (some (.inl ()))))) 1000000000 (x.2.1,())) λc=>some (true,())
def YR:=kB dL YS 258 Tryz.f258 (hs [(0,[]),(1,kp [0,1,2] [.val 7 iT])]) xc
def Ib(x:D (.ai eI (.ai lI .un))):Option (D (.ai eI .un)):=aC (gw (ak x.2.1) (ak x.2.1) 8) (aE (aF (α:=D (.ai lI iU)) (λf=>ad (ay f.2.1 (ak x.2.1)) (am (az x.2.1 f.2.1) λB=>aC (aU f.1 f.2.1) (am (az f.1 f.2.1) λj0=>some (.inl (aG f.1 f.2.1 B,ah .i64 f.2.1 1,())))) (ao (some (.inl (f.1,()))))) 1000000000 (eh (α:=Int) (ak x.2.1) 0,0,())) λu0=>aE (aE (aF (α:=D (.ai (.ai iT (.ai iT (.ai iT (.ai iT (.ai iT (.ai lI (.ai lI (.ai lI (.ai lI (.ai lI .un)))))))))) (.ai lI iU))) (λd=>ad (ay d.2.2.1 (ah .i64 x.1.2.2.1 x.1.2.2.2.1)) (aE (am (rz (x.1,d.2.2.1,4,())) λn0=>ad n0.1 (am (xc (d.2.1,d.2.2.1,4,())) λm0=>ad m0.1 (aC (a4 d.1.2.2.2.2.2.2.2.2.2.1 (d.2.2.1::[]) 8) (aE (aF (α:=D (.ai lI iU)) (λl=>ad (ay l.2.1 (ah .i64 d.2.2.1 16)) (aC (aU l.1 l.2.1) (am (az l.1 l.2.1) λf0=>some (.inl (aG l.1 l.2.1 0,ah .i64 l.2.1 1,())))) (ao (some (.inl (l.1,()))))) 1000000000 (d.2.1,d.2.2.1,())) λl0=>some (.inl ((d.1.1,d.1.2.1,d.1.2.2.1,d.1.2.2.2.1,d.1.2.2.2.2.1,d.1.2.2.2.2.2.1,d.1.2.2.2.2.2.2.1,d.1.2.2.2.2.2.2.2.1,d.1.2.2.2.2.2.2.2.2.1,aX d.1.2.2.2.2.2.2.2.2.2.1 (d.2.2.1::[]),()),l0.1,())))) (some (.inl (d.1,d.2.1,())))) (some (.inl (d.1,d.2.1,())))) λm=>some (.inl (m.1,m.2.1,ah .i64 d.2.2.1 1,()))) (ao (some (.inl (d.1,d.2.1,()))))) 1000000000 ((x.1.1,x.1.2.1,x.1.2.2.1,x.1.2.2.2.1,x.1.2.2.2.2.1,[],[],[],[],[],()),u0.1,x.1.2.2.1,())) λn=>some (.inl (n.1,n.2.1,()))) λo=>aE (aE (aF (α:=D (.ai (.ai iT (.ai iT (.ai iT (.ai iT (.ai iT (.ai lI (.ai lI (.ai lI (.ai lI (.ai lI .un)))))))))) (.ai lI iU))) (λa=>ad (ay a.2.2.1 (ah .i64 x.1.2.2.1 x.1.2.2.2.1)) (aE (am (rz (x.1,a.2.2.1,3,())) λC=>ad C.1 (am (xc (a.2.1,a.2.2.1,3,())) λz0=>ad z0.1 (aC (a4 a.1.2.2.2.2.2.2.2.2.1 (a.2.2.1::[]) 8) (aE (aF (α:=D (.ai lI iU)) (λh=>ad (ay h.2.1 (ah .i64 a.2.2.1 8)) (aC (aU h.1 h.2.1) (am (az h.1 h.2.1) λk0=>some (.inl (aG h.1 h.2.1 0,ah .i64 h.2.1 1,())))) (ao (some (.inl (h.1,()))))) 1000000000 (a.2.1,a.2.2.1,())) λy0=>some (.inl ((a.1.1,a.1.2.1,a.1.2.2.1,a.1.2.2.2.1,a.1.2.2.2.2.1,a.1.2.2.2.2.2.1,a.1.2.2.2.2.2.2.1,a.1.2.2.2.2.2.2.2.1,aX a.1.2.2.2.2.2.2.2.2.1 (a.2.2.1::[]),a.1.2.2.2.2.2.2.2.2.2.1,()),y0.1,())))) (some (.inl (a.1,a.2.1,())))) (some (.inl (a.1,a.2.1,())))) λp=>some (.inl (p.1,p.2.1,ah .i64 a.2.2.1 1,()))) (ao (some (.inl (a.1,a.2.1,()))))) 1000000000 (o.1,o.2.1,x.1.2.2.1,())) λq=>some (.inl (q.1,q.2.1,()))) λr=>aE (aE (aF (α:=D (.ai (.ai iT (.ai iT (.ai iT (.ai iT (.ai iT (.ai lI (.ai lI (.ai lI (.ai lI (.ai lI .un)))))))))) (.ai lI iU))) (λb=>ad (ay b.2.2.1 (ah .i64 x.1.2.2.1 x.1.2.2.2.1)) (aE (am (rz (x.1,b.2.2.1,2,())) λx0=>ad x0.1 (am (xc (b.2.1,b.2.2.1,2,())) λw0=>ad w0.1 (aC (a4 b.1.2.2.2.2.2.2.2.1 (b.2.2.1::[]) 8) (aE (aF (α:=D (.ai lI iU)) (λi=>ad (ay i.2.1 (ah .i64 b.2.2.1 4)) (aC (aU i.1 i.2.1) (am (az i.1 i.2.1) λi0=>some (.inl (aG i.1 i.2.1 0,ah .i64 i.2.1 1,())))) (ao (some (.inl (i.1,()))))) 1000000000 (b.2.1,b.2.2.1,())) λv0=>some (.inl ((b.1.1,b.1.2.1,b.1.2.2.1,b.1.2.2.2.1,b.1.2.2.2.2.1,b.1.2.2.2.2.2.1,b.1.2.2.2.2.2.2.1,aX b.1.2.2.2.2.2.2.2.1 (b.2.2.1::[]),b.1.2.2.2.2.2.2.2.2.1,b.1.2.2.2.2.2.2.2.2.2.1,()),v0.1,())))) (some (.inl (b.1,b.2.1,())))) (some (.inl (b.1,b.2.1,())))) λs=>some (.inl (s.1,s.2.1,ah .i64 b.2.2.1 1,()))) (ao (some (.inl (b.1,b.2.1,()))))) 1000000000 (r.1,r.2.1,x.1.2.2.1,())) λt=>some (.inl (t.1,t.2.1,()))) λu=>aE (aE (aF (α:=D (.ai (.ai iT (.ai iT (.ai iT (.ai iT (.ai iT (.ai lI (.ai lI (.ai lI (.ai lI (.ai lI .un)))))))))) (.ai lI iU))) (λc=>ad (ay c.2.2.1 (ah .i64 x.1.2.2.1 x.1.2.2.2.1)) (aE (am (rz (x.1,c.2.2.1,1,())) λt0=>ad t0.1 (am (xc (c.2.1,c.2.2.1,1,())) λs0=>ad s0.1 (aC (a4 c.1.2.2.2.2.2.2.1 (c.2.2.1::[]) 8) (aE (aF (α:=D (.ai lI iU)) (λj=>ad (ay j.2.1 (ah .i64 c.2.2.1 2)) (aC (aU j.1 j.2.1) (am (az j.1 j.2.1) λh0=>some (.inl (aG j.1 j.2.1 0,ah .i64 j.2.1 1,())))) (ao (some (.inl (j.1,()))))) 1000000000 (c.2.1,c.2.2.1,())) λr0=>some (.inl ((c.1.1,c.1.2.1,c.1.2.2.1,c.1.2.2.2.1,c.1.2.2.2.2.1,c.1.2.2.2.2.2.1,aX c.1.2.2.2.2.2.2.1 (c.2.2.1::[]),c.1.2.2.2.2.2.2.2.1,c.1.2.2.2.2.2.2.2.2.1,c.1.2.2.2.2.2.2.2.2.2.1,()),r0.1,())))) (some (.inl (c.1,c.2.1,())))) (some (.inl (c.1,c.2.1,())))) λv=>some (.inl (v.1,v.2.1,ah .i64 c.2.2.1 1,()))) (ao (some (.inl (c.1,c.2.1,()))))) 1000000000 (u.1,u.2.1,x.1.2.2.1,())) λw=>some (.inl (w.1,w.2.1,()))) λy=>aE (aE (aF (α:=D (.ai (.ai iT (.ai iT (.ai iT (.ai iT (.ai iT (.ai lI (.ai lI (.ai lI (.ai lI (.ai lI .un)))))))))) (.ai lI iU))) (λe=>ad (ay e.2.2.1 (ah .i64 x.1.2.2.1 x.1.2.2.2.1)) (aE (am (rz (x.1,e.2.2.1,0,())) λq0=>ad q0.1 (am (xc (e.2.1,e.2.2.1,0,())) λp0=>ad p0.1 (aC (a4 e.1.2.2.2.2.2.1 (e.2.2.1::[]) 8) (aE (aF (α:=D (.ai lI iU)) (λk=>ad (ay k.2.1 (ah .i64 e.2.2.1 1)) (aC (aU k.1 k.2.1) (am (az k.1 k.2.1) λg0=>some (.inl (aG k.1 k.2.1 0,ah .i64 k.2.1 1,())))) (ao (some (.inl (k.1,()))))) 1000000000 (e.2.1,e.2.2.1,())) λo0=>some (.inl ((e.1.1,e.1.2.1,e.1.2.2.1,e.1.2.2.2.1,e.1.2.2.2.2.1,aX e.1.2.2.2.2.2.1 (e.2.2.1::[]),e.1.2.2.2.2.2.2.1,e.1.2.2.2.2.2.2.2.1,e.1.2.2.2.2.2.2.2.2.1,e.1.2.2.2.2.2.2.2.2.2.1,()),o0.1,())))) (some (.inl (e.1,e.2.1,())))) (some (.inl (e.1,e.2.1,())))) λz=>some (.inl (z.1,z.2.1,ah .i64 e.2.2.1 1,()))) (ao (some (.inl (e.1,e.2.1,()))))) 1000000000 (y.1,y.2.1,x.1.2.2.1,())) λA=>some (.inl (A.1,A.2.1,()))) λg=>some ((g.1.1,g.1.2.1,g.1.2.2.1,g.1.2.2.2.1,g.1.2.2.2.2.1,g.1.2.2.2.2.2.1::g.1.2.2.2.2.2.2.1::g.1.2.2.2.2.2.2.2.1::g.1.2.2.2.2.2.2.2.2.1::g.1.2.2.2.2.2.2.2.2.2.1::[],()),()))
def Zh:=kB dL YR 212 Tryz.f212 (hs [(0,kp [2,4,5] [.own 6 iT]),(1,kp [1,2,4,5] [.own 6 iT,.val 7 iT]),(6,kp [2,4] [.box 5 b2,.own 6 iT,.bE 8]),(8,kp [2,4] [.box 5 b2,.own 6 iT,.bE 8]),(9,kp [2,4] [.box 5 b2,.own 6 iT,.bE 8,.val 9 iT]),(10,kp [2,4] (.box 5 b2:: .own 6 iT::kp [8,9] [])),(12,kp [2,4,5] (.own 6 iT::kp [8,9] [])),(13,kp [2,4,5] (.own 6 iT::kp [8,9] [.val 10 iT]))]) Ib
def ML(x:D qP):Option (D (.ai eI iU)):=am (Ie ((x.1,x.2.1,x.2.2.1,x.2.2.2.1,x.2.2.2.2.1,[]::[]::[]::[]::[]::[],()),())) λb=>ad (bI b.1) (some ((0,0,0,0,0,[]::[]::[]::[]::[]::[],()),2,())) (aC (gw 256 256 8) (aE (aF (α:=D (.ai lI iU)) (λa=>ad (ay a.2.1 (ah .i64 x.2.2.1 x.2.2.2.1)) (aC (aU a.1 a.2.1) (am (az a.1 a.2.1) λe=>some (.inl (aG a.1 a.2.1 1,ah .i64 a.2.1 1,())))) (ao (some (.inl (a.1,()))))) 1000000000 (eh 256 0,x.2.2.1,())) λc=>am (Ib ((x.1,x.2.1,x.2.2.1,x.2.2.2.1,x.2.2.2.2.1,[]::[]::[]::[]::[]::[],()),c.1,())) λd=>some (d.1,0,())))
def Z0:=kB dL Zh 145 Tryz.f145 (hs [(0,kp [10,12] [.own 13 iT]),(1,kp [2,3,10,12] [.own 13 iT,.val 14 iT])]) ML
def T7(x:D (.ai lI (.ai iT (.ai iT (.ai zQ .un))))):Option (D (.ai de iU)):=am (D6 (x.1,x.2.1,x.2.2.1,ak x.2.2.2.1,())) λd=>ad (bI d.1) (some (([],0,0,[],[],()),2,())) (aC (a4 [] x.1 8) (aE (aF (α:=D (.ai de (.ai de cQ))) (λa=>ad (ay a.2.2.2.1 (ak x.2.2.2.1)) (am (az x.2.2.2.1 a.2.2.2.1) λf=>am (az x.2.2.2.1 a.2.2.2.1) λg=>am (az x.2.2.2.1 a.2.2.2.1) λh=>am (az x.2.2.2.1 a.2.2.2.1) λi=>am (ML (f.1,g.2.1,a.2.2.1,h.2.2.1,i.2.2.2.1,())) λc=>ad (bF c.2.1 0) (ao (ao (some (([],0,0,[],[],()),c.2.1,())))) (aC (a4 a.2.1.2.2.2.1 (c.1::[]) 160) (am (az x.2.2.2.1 a.2.2.2.1) λj=>some (.inl (a.1,(a.2.1.1,a.2.1.2.1,a.2.1.2.2.1,aX a.2.1.2.2.2.1 (c.1::[]),a.2.1.2.2.2.2.1,()),ah .i64 a.2.2.1 j.2.2.1,ah .i64 a.2.2.2.1 1,()))))) (ao (some (.inl (a.1,a.2.1,()))))) 1000000000 (([],0,0,[],[],()),(aX [] x.1,x.2.1,x.2.2.1,[],[],()),0,0,())) λk=>aE (aF (α:=D (.ai de iU)) (λb=>ad (ay b.2.1 (ak x.1)) (aC (gw (ak x.2.2.2.1) (ak x.2.2.2.1) 24) (aC (a4 b.1.2.2.2.2.1 ((eh (ak x.2.2.2.1) [],())::[]) 24) (some (.inl ((b.1.1,b.1.2.1,b.1.2.2.1,b.1.2.2.2.1,aX b.1.2.2.2.2.1 ((eh (ak x.2.2.2.1) [],())::[]),()),ah .i64 b.2.1 1,()))))) (ao (some (.inl (b.1,()))))) 1000000000 (k.2.1,0,())) λe=>some (e.1,0,())))
def k59:=kB dL Z0 59 Tryz.f59 (hs [(0,kp [0,3] [.box 8 b0,.box 10 b0]),(1,kp [0,3] [.box 8 b0,.box 10 b0,.val 11 iT,.val 12 iT]),(4,[.bE 8,.box 10 b0]),(5,kp [0,3,8] [.box 10 b0,.val 15 iT])]) T7
def F60(x:D .un):Option (D (.ai yo .un)):=some ((0,0,-1,-1,-1,-1,-1,-1,-1,0,false,false,false,0,[],[],()),())
def k60:=kB dL k59 60 Tryz.f60 Tr.e F60
def XA(x:D iU):Option (D (.ai yq iU)):=ad (ay x.1 1) (some ((0,[],()),1,())) (ad (ay 32 x.1) (some ((0,[],()),1,())) (some ((x.1,[],()),0,())))
def k61:=kB dL k60 61 Tryz.f61 Tr.e XA
def Xz(x:D .un):Option (D fA):=aC (gw 4 4 24) (some (eh 4 [],()))
def k62:=kB dL k61 62 Tryz.f62 Tr.e Xz
def T4(x:D iU):Option (D (.ai sY iU)):=ad (ay x.1 0) (some ([],2,())) (ad (ay 64 x.1) (some ([],2,())) (aE (aF (α:=D (.ai sY iU)) (λa=>ad (ay a.2.1 x.1) (aC (a4 a.1 ((0,0,())::[]) 16) (some (.inl (aX a.1 ((0,0,())::[]),ah .i64 a.2.1 1,())))) (ao (some (.inl (a.1,()))))) 1000000000 ([],0,())) λb=>some (b.1,0,())))
def k63:=kB dL k62 63 Tryz.f63 (hs [(0,[.own 4 cQ]),(1,[.bE 0,.own 4 cQ,.val 5 iT])]) T4
def Xy(x:D iU):Option (D (.ai yp iU)):=ad (ay x.1 0) (some ((0,[],()),2,())) (ad (ay 32 x.1) (some ((0,[],()),2,())) (some ((x.1,[],()),0,())))
def k64:=kB dL k63 64 Tryz.f64 Tr.e Xy
def MK(x:D (.ai (.bw .bool) .un)):Option (D cQ):=ad (ay 16 (ak x.1)) (some (0,9,())) (aE (aF (α:=D cQ) (λa=>ad (ay a.2.1 (ak x.1)) (am (az x.1 a.2.1) λb=>ad b (aC (cR (ee .u64 a.2.1)) (some (.inl (ah .i64 a.1 (fj .i64 1 (ee .u64 a.2.1)),ah .i64 a.2.1 1,())))) (some (.inl (a.1,ah .i64 a.2.1 1,())))) (ao (some (.inl (a.1,()))))) 1000000000 (0,0,())) λc=>some (c.1,0,()))
def ZZ:=kB dL k64 146 Tryz.f146 (hs [(0,[.val 4 iT]),(1,[.bE 0,.val 4 iT,.val 5 iT])]) MK
def VF(x:D .un):Option (D (.ai jP .un)):=some ((0,false,()),())
def ZY:=kB dL ZZ 147 Tryz.f147 Tr.e VF
def T1(x:D (.ai ce (.ai lI .un))):Option (D (.ai CI (.ai (.bw (.bw (.int .u8))) .un))):=am (az x.2.1 (bb .i64 (ak x.2.1) 1)) λf=>aC (gw f f 24) (aE (aF (α:=D (.ai (.bw (.bw (.int .u8))) iU)) (λd=>ad (ay d.2.1 (ak (eh (α:=List Int) f []))) (aC (gw 32 32 1) (aC (aU d.1 d.2.1) (aC (aU d.1 d.2.1) (some (.inl (aG d.1 d.2.1 (eh 32 0),ah .i64 d.2.1 1,())))))) (ao (some (.inl (d.1,()))))) 1000000000 (eh (α:=List Int) f [],0,())) λp=>aE (aF (α:=D (.ai (.bw (.bw (.int .u8))) (.ai CI iU))) (λb=>ad (ay b.2.2.1 (ak x.1.2.2.2.2.2.2.2.2.2.2.1)) (aE (am (az x.1.2.2.2.2.2.2.2.2.2.2.1 b.2.2.1) λc=>aC (gw c.1 c.1 1) (aE (aF (α:=D (.ai (.bw (.bw (.int .u8))) (.ai (.bw .bool) iU))) (λa=>ad (ay a.2.2.1 (oI .i64 (ak c.2.1) 32)) (aC (aU a.2.1 a.2.2.1) (am (az a.2.1 a.2.2.1) λr=>am (az x.2.1 b.2.2.1) λh=>aC (aU a.1 (ah .i64 (ah .i64 h 1) a.2.2.1)) (aC (aU a.1 (ah .i64 (ah .i64 h 1) a.2.2.1)) (aC (dx (ea .i64 a.2.2.1 32) (ea .i64 (ah .i64 a.2.2.1 1) 32) (ak c.2.1)) (am (az a.1 (ah .i64 (ah .i64 h 1) a.2.2.1)) λq=>some (.inl (aG a.1 (ah .i64 (ah .i64 h 1) a.2.2.1) (dR q (eS c.2.1 (ea .i64 a.2.2.1 32) (ea .i64 (ah .i64 a.2.2.1 1) 32))),aG a.2.1 a.2.2.1 true,ah .i64 a.2.2.1 1,()))))))) (ao (some (.inl (a.1,a.2.1,()))))) 1000000000 (b.1,eh c.1 false,0,())) λe=>am (MK (e.2.1,())) λm=>am (Ku (oI .i64 (ak c.2.1) 32,m.1,())) λn=>am (az x.2.1 b.2.2.1) λg=>aC (aU e.1 g) (aC (aU e.1 g) (am (az e.1 g) λo=>am (az x.2.1 b.2.2.1) λi=>am (VF ()) λj=>aC (a4 b.2.1 ((c.1,oI .i64 (ak c.2.1) 32,i,-1,-1,false,j.1,(0,(0::0::0::0::0::0::0::0::[],0::0::[],(),()),()),e.2.1,())::[]) 200) (some (.inl (aG e.1 g (dR o n.1),aX b.2.1 ((c.1,oI .i64 (ak c.2.1) 32,i,-1,-1,false,j.1,(0,(0::0::0::0::0::0::0::0::[],0::0::[],(),()),()),e.2.1,())::[]),()))))))) λk=>some (.inl (k.1,k.2.1,ah .i64 b.2.2.1 1,()))) (ao (some (.inl (b.1,b.2.1,()))))) 1000000000 (p.1,[],0,())) λl=>some (l.2.1,l.1,()))
def k65:=kB dL ZY 65 Tryz.f65 (hs [(0,kp [1,2] [.lP 6 (.int .u8)]),(1,kp [1,2] [.lP 6 (.int .u8),.bE 26,.val 27 iT]),(4,[.lP 6 (.int .u8),.own 8 k5]),(5,.bE 1:: .lP 6 (.int .u8):: .own 8 k5::kp [36,37] [.val 38 iT]),(6,.bE 1:: .lP 6 (.int .u8):: .own 8 k5::kp [36,37,38] []),(8,.bE 1:: .lP 6 (.int .u8)::kp [8,9,10,11] (.own 12 .bool::kp [36,37,38] [])),(9,.bE 1:: .lP 6 (.int .u8)::kp [8,9,10,11] (.own 12 .bool:: .val 13 iT::kp [36,37,38] []))]) T1
def RM(x:D (.ai (.bw (.bw (.int .u8))) .un)):Option (D iU):=aE (aF (α:=D iU) (λa=>ad (ay a.1 (ak x.1)) (am (az x.1 a.1) λb=>ad (bF (ak b) 32) (ao (ao (some (3,())))) (some (.inl (ah .i64 a.1 1,())))) (ao (some (.inl ())))) 1000000000 (0,())) λc=>some (0,())
def ZX:=kB dL k65 148 Tryz.f148 (hs [(0,[]),(1,[.bE 0,.val 3 iT])]) RM
def DY(x:D (.ai (.bw (.int .u8)) .un)):Option (D (.ai (.bw (.int .u8)) .un)):=aE (aF (α:=D (.ai (.bw (.int .u8)) iU)) (λa=>ad (ay a.2.1 (ak x.1)) (am (az x.1 a.2.1) λb=>aC (a4 a.1 (b::[]) 1) (some (.inl (aX a.1 (b::[]),ah .i64 a.2.1 1,())))) (ao (some (.inl (a.1,()))))) 1000000000 ([],0,())) λc=>some (c.1,())
def Zg:=kB dL ZX 213 Tryz.f213 (hs [(0,[.own 3 (.int .u8)]),(1,[.bE 0,.own 3 (.int .u8),.val 4 iT])]) DY
def RL(x:D (.ai mJ .un)):Option (D (.ai mJ .un)):=aE (aF (α:=D (.ai mJ iU)) (λb=>ad (ay b.2.1 (ak x.1.2.2.1)) (am (az x.1.2.2.1 b.2.1) λi=>am (DY (i,())) λf=>aC (a4 b.1.2.2.1 (f.1::[]) 24) (some (.inl ((b.1.1,b.1.2.1,aX b.1.2.2.1 (f.1::[]),b.1.2.2.2.1,b.1.2.2.2.2.1,()),ah .i64 b.2.1 1,())))) (ao (some (.inl (b.1,()))))) 1000000000 ((x.1.1,x.1.2.1,[],[],[],()),0,())) λk=>aE (aF (α:=D (.ai mJ iU)) (λa=>ad (ay a.2.1 (ak x.1.2.2.2.1)) (am (az x.1.2.2.2.1 a.2.1) λg=>am (az x.1.2.2.2.1 a.2.1) λl=>am (DY (l.2.1,())) λh=>aC (a4 a.1.2.2.2.1 ((g.1,h.1,())::[]) 32) (some (.inl ((a.1.1,a.1.2.1,a.1.2.2.1,aX a.1.2.2.2.1 ((g.1,h.1,())::[]),a.1.2.2.2.2.1,()),ah .i64 a.2.1 1,())))) (ao (some (.inl (a.1,()))))) 1000000000 (k.1,0,())) λm=>aE (aF (α:=D (.ai mJ iU)) (λc=>ad (ay c.2.1 (ak x.1.2.2.2.2.1)) (am (az x.1.2.2.2.2.1 c.2.1) λd=>am (DY (d.2.2.2.1,())) λe=>aC (a4 c.1.2.2.2.2.1 ((d.1,d.2.1,d.2.2.1,e.1,())::[]) 48) (some (.inl ((c.1.1,c.1.2.1,c.1.2.2.1,c.1.2.2.2.1,aX c.1.2.2.2.2.1 ((d.1,d.2.1,d.2.2.1,e.1,())::[]),()),ah .i64 c.2.1 1,())))) (ao (some (.inl (c.1,()))))) 1000000000 (m.1,0,())) λj=>some (j.1,())
def ZW:=kB dL Zg 149 Tryz.f149 (hs [(0,kp [1,2] [.box 3 b5]),(1,kp [1,2] [.box 3 b5,.val 4 iT]),(4,kp [1,2] [.box 3 b5]),(5,kp [1,2] [.box 3 b5,.val 5 iT]),(8,[.bE 2,.box 3 b5]),(9,kp [1,2] [.box 3 b5,.val 6 iT])]) RL
def TZ(x:D (.ai iT (.ai (.bw (.bw (.int .u8))) .un))):Option (D (.ai mJ iU)):=ad (ay x.1 1) (some ((0,0,[],[],[],()),2,())) (ad (ay 16 x.1) (some ((0,0,[],[],[],()),2,())) (ad (ay (ak x.2.1) 1) (some ((0,0,[],[],[],()),2,())) (ad (ay 256 (ak x.2.1)) (some ((0,0,[],[],[],()),2,())) (am (RM (x.2.1,())) λa=>ad (bF a.1 0) (some ((0,0,[],[],[],()),a.1,())) (am (RL ((x.1,0,x.2.1,[],[],()),())) λb=>some (b.1,0,()))))))
def k66:=kB dL ZW 66 Tryz.f66 Tr.e TZ
def H9(x:D (.ai jH iU)):Option (D bU):=am (H0 (x.1,())) λa=>ad (aY a.1 0) (ad (cH 0 x.2.1) (some (ay x.2.1 (ak x.1),())) (some (false,()))) (some (false,()))
def Zf:=kB dL k66 214 Tryz.f214 Tr.e H9
def DX(x:D (.ai jH iU)):Option (D (.ai lI .un)):=am (H9 (x.1,x.2.1,())) λb=>ad (bI b.1) (some ([],())) (aE (aF (α:=D (.ai iT (.ai lI .un))) (λa=>ad (cH 0 a.1) (aC (a4 a.2.1 (a.1::[]) 8) (am (az x.1 a.1) λc=>some (.inl (c.1,aX a.2.1 (a.1::[]),())))) (ao (some (.inl (a.2.1,()))))) 1000000000 (x.2.1,[],())) λd=>some (d.1,()))
def Ze:=kB dL Zf 215 Tryz.f215 (hs [(0,[.own 5 iT]),(1,[.bE 0,.val 1 iT,.own 5 iT])]) DX
def Mu(x:D (.ai jH cQ)):Option (D (.ai jH .un)):=aE (aF (α:=D (.ai jH iU)) (λb=>ad (ay b.2.1 (ak x.1)) (am (az x.1 b.2.1) λe=>aC (a4 b.1 (e::[]) 40) (some (.inl (aX b.1 (e::[]),ah .i64 b.2.1 1,())))) (ao (some (.inl (b.1,()))))) 1000000000 ([],0,())) λh=>am (DX (x.1,x.2.1,())) λc=>aE (aF (α:=D (.ai jH iU)) (λa=>ad (ay a.2.1 (ak c.1)) (am (az c.1 a.2.1) λd=>am (az c.1 a.2.1) λf=>aC (aU a.1 f) (am (az a.1 f) λi=>aC (aU a.1 d) (am (az a.1 d) λg=>some (.inl (aG a.1 d (g.1,ah .i64 i.2.1 x.2.2.1,g.2.2),ah .i64 a.2.1 1,()))))) (ao (some (.inl (a.1,()))))) 1000000000 (h.1,0,())) λj=>some (j.1,())
def Zd:=kB dL Ze 216 Tryz.f216 (hs [(0,[.own 7 qP]),(1,[.bE 2,.own 7 qP,.bE 8,.val 9 iT])]) Mu
def MJ(x:D (.ai jH cQ)):Option (D (.ai jH cQ)):=am (H0 (x.1,())) λc=>ad (bF c.1 0) (some ([],-1,c.1,())) (am (H9 (x.1,x.2.1,())) λd=>ad (bI d.1) (some ([],-1,6,())) (am (xg (x.2.2.1,())) λf=>ad (bI f.1) (some ([],-1,2,())) (am (DX (x.1,x.2.1,())) λb=>aE (aF (α:=D iU) (λa=>ad (ay a.1 (ak b.1)) (am (az b.1 a.1) λg=>am (az x.1 g) λh=>am (az b.1 a.1) λi=>am (az x.1 i) λj=>ad (ay (bb .i64 h.2.2.2.2.1 j.2.1) x.2.2.1) (am (az b.1 a.1) λk=>ao (ao (some ([],k,17,())))) (some (.inl (ah .i64 a.1 1,())))) (ao (some (.inl ())))) 1000000000 (0,())) λl=>am (Mu (x.1,x.2.1,x.2.2.1,())) λe=>some (e.1,-1,0,()))))
def ZV:=kB dL Zd 150 Tryz.f150 (hs [(0,kp [0,1,2] []),(1,kp [0,1,2,10] [.val 11 iT])]) MJ
def Mh(x:D (.ai eI .un)):Option (D iU):=aE (aF (α:=D iU) (λa=>ad (cH a.1 4) (aE (aE (aF (α:=D iU) (λb=>aC (cR a.1) (aC (ay a.1 5) (am (az x.1.2.2.2.2.2.1 a.1) λc=>ad (ay b.1 (ak c)) (aC (cR a.1) (aC (ay a.1 5) (am (az x.1.2.2.2.2.2.1 a.1) λd=>am (az d b.1) λe=>am (rz (x.1,e,a.1,())) λf=>ad (bI f.1) (ao (ao (ao (ao (ao (some (3,()))))))) (ad (ay 0 b.1) (aC (cR a.1) (aC (ay a.1 5) (am (az x.1.2.2.2.2.2.1 a.1) λg=>am (az g b.1) λh=>aC (cR a.1) (aC (ay a.1 5) (am (az x.1.2.2.2.2.2.1 a.1) λi=>am (az i (bb .i64 b.1 1)) λj=>ad (cH h j) (ao (ao (ao (ao (ao (some (10,()))))))) (some (.inl (ah .i64 b.1 1,())))))))) (some (.inl (ah .i64 b.1 1,()))))))) (ao (some (.inl ())))))) 1000000000 (0,())) λk=>some (.inl ())) λl=>some (.inl (ah .i64 a.1 1,()))) (ao (some (.inl ())))) 1000000000 (0,())) λm=>some (0,())
def YH:=kB dL ZV 281 Tryz.f281 (hs [(0,[]),(1,[.bE 1,.val 3 iT]),(2,kp [1,3] []),(4,kp [1,3] []),(5,kp [1,3] [.val 4 iT])]) Mh
def Gl{β:Type}(l:List (List Int)):Option (Sum (List Int×Unit) β):=aF (α:=D (.ai lI iU)) (λa=>ad (cH a.2.1 4) (aE (aE (aF (α:=D (.ai lI iU)) (λc=>aC (cR a.2.1) (aC (ay a.2.1 5) (am (az l a.2.1) λi=>ad (ay c.2.1 (ak i)) (aE (aC (cR a.2.1) (aC (ay a.2.1 5) (am (az l a.2.1) λj=>am (az j c.2.1) λk=>aE (aF (α:=D (.ai lI iU)) (λb=>aC (cR a.2.1) (aC (ay a.2.1 5) (am (az l a.2.1) λm=>am (az m c.2.1) λn=>aC (cR (ee .u64 a.2.1)) (ad (ay b.2.1 (ah .i64 n (fj .i64 1 (ee .u64 a.2.1)))) (aC (aU b.1 b.2.1) (am (az b.1 b.2.1) λd=>aC (aU b.1 b.2.1) (am (az b.1 b.2.1) λo=>some (.inl (aG b.1 b.2.1 (ah .i64 d 1),ah .i64 b.2.1 1,()))))) (ao (some (.inl (b.1,())))))))) 1000000000 (c.1,k,())) λe=>some (.inl (e.1,()))))) λf=>some (.inl (f.1,ah .i64 c.2.1 1,()))) (ao (some (.inl (c.1,()))))))) 1000000000 (a.1,0,())) λg=>some (.inl (g.1,()))) λh=>some (.inl (h.1,ah .i64 a.2.1 1,()))) (ao (some (.inl (a.1,()))))) 1000000000 (eh 256 0,0,())
def DT(x:D (.ai eI .un)):Option (D iU):=am (Ie (x.1,())) λf=>ad (bI f.1) (some (2,())) (am (Mh (x.1,())) λe=>ad (bF e.1 0) (some (e.1,())) (aC (gw 256 256 8) (aE (Gl x.1.2.2.2.2.2.1) λd=>aE (aF (α:=D iU) (λc=>ad (ay c.1 (ak d.1)) (aC (aU d.1 c.1) (am (az d.1 c.1) λg=>ad (ay 1 g) (ao (ao (some (7,())))) (some (.inl (ah .i64 c.1 1,()))))) (ao (some (.inl ())))) 1000000000 (0,())) λp=>aE (aF (α:=D iU) (λa=>ad (ay a.1 4) (aE (aE (aF (α:=D iU) (λb=>aC (cR a.1) (aC (ay a.1 5) (am (az x.1.2.2.2.2.2.1 a.1) λh=>ad (ay b.1 (ak h)) (aC (cR a.1) (aC (ay a.1 5) (am (az x.1.2.2.2.2.2.1 a.1) λi=>am (az i b.1) λj=>aC (cR a.1) (aC (ay a.1 5) (am (az x.1.2.2.2.2.2.1 a.1) λk=>am (az k (bb .i64 b.1 1)) λl=>aC (cR (ee .u64 a.1)) (ad (aY j (ah .i64 l (fj .i64 1 (ee .u64 a.1)))) (aC (cR a.1) (aC (ay a.1 5) (am (az x.1.2.2.2.2.2.1 a.1) λm=>am (az m (bb .i64 b.1 1)) λn=>am (rz (x.1,n,ah .i64 a.1 1,())) λo=>ad o.1 (ao (ao (ao (ao (ao (some (11,()))))))) (some (.inl (ah .i64 b.1 1,())))))) (some (.inl (ah .i64 b.1 1,()))))))))) (ao (some (.inl ())))))) 1000000000 (1,())) λq=>some (.inl ())) λr=>some (.inl (ah .i64 a.1 1,()))) (ao (some (.inl ())))) 1000000000 (0,())) λs=>some (0,()))))
def YQ:=kB dL YH 260 Tryz.f260 (hs [(0,[.bE 1]),(1,kp [1,4] [.val 5 iT]),(4,[]),(5,[.bE 1,.val 6 iT]),(6,kp [1,6] []),(8,kp [1,6] []),(9,kp [1,6] [.val 7 iT])]) DT
def BO(x:D iU):Option (D bU):=ad (ay x.1 0) (some (true,())) (some (cH 256 x.1,()))
def Yz:=kB dL YQ 295 Tryz.f295 Tr.e BO
def DR(x:D (.ai fA iU)):Option (D iU):=ad (ay x.2.1 1) (some (1,())) (ad (ay 6 x.2.1) (some (1,())) (ad (bF (ak x.1.1) x.2.1) (some (3,())) (aE (aF (α:=D iU) (λd=>ad (ay d.1 (ak x.1.1)) (aE (am (az x.1.1 d.1) λf=>aE (aF (α:=D iU) (λe=>ad (ay e.1 (ak f)) (am (az f e.1) λk=>am (BO (k,())) λl=>ad l.1 (ao (ao (ao (ao (ao (some (2,()))))))) (some (.inl (ah .i64 e.1 1,())))) (ao (some (.inl ())))) 1000000000 (0,())) λo=>some (.inl ())) λp=>some (.inl (ah .i64 d.1 1,()))) (ao (some (.inl ())))) 1000000000 (0,())) λq=>aC (gw 256 256 1) (aE (aF (α:=D (.ai (.bw .bool) iU)) (λb=>ad (ay b.2.1 (ak x.1.1)) (aE (am (az x.1.1 b.2.1) λg=>aE (aF (α:=D (.ai (.bw .bool) iU)) (λa=>ad (ay a.2.1 (ak g)) (am (az g a.2.1) λc=>aC (aU a.1 c) (am (az a.1 c) λh=>ad h (ao (ao (ao (ao (ao (some (7,()))))))) (aC (aU a.1 c) (am (az a.1 c) λm=>some (.inl (aG a.1 c true,ah .i64 a.2.1 1,())))))) (ao (some (.inl (a.1,()))))) 1000000000 (b.1,0,())) λi=>some (.inl (i.1,()))) λj=>some (.inl (j.1,ah .i64 b.2.1 1,()))) (ao (some (.inl (b.1,()))))) 1000000000 (eh 256 false,0,())) λn=>some (0,())))))
def YG:=kB dL Yz 283 Tryz.f283 (hs [(0,[.bE 2]),(1,kp [2,26,27] [.val 28 iT]),(2,kp [2,26,27,28] []),(4,kp [2,26,27,28] []),(5,kp [2,26,27,28,32,33] [.val 34 iT]),(8,[.own 9 .bool]),(9,.own 9 .bool::kp [44,45] [.val 46 iT]),(10,.own 9 .bool::kp [44,45,46] []),(12,.own 9 .bool::kp [44,45,46] []),(13,.own 9 .bool::kp [44,45,46,50,51] [.val 52 iT])]) DR
def Mc(x:D (.ai eI iU)):Option (D bU):=am (DT (x.1,())) λb=>ad (aY b.1 0) (am (rz (x.1,x.2.1,0,())) λc=>ad c.1 (aC (gw 256 256 8) (aE (Gl x.1.2.2.2.2.2.1) λa=>aC (aU a.1 x.2.1) (am (az a.1 x.2.1) λd=>some (ay 0 d,())))) (some (false,()))) (some (false,()))
def Yy:=kB dL YG 296 Tryz.f296 Tr.e Mc
def Mf(x:D (.ai de .un)):Option (D iU):=aC (gw 256 256 1) (aE (aF (α:=D (.ai (.bw .bool) iU)) (λd=>ad (ay d.2.1 (ak x.1.2.2.2.2.1)) (aE (aE (aF (α:=D (.ai (.bw .bool) iU)) (λb=>ad (ay b.2.1 (ak x.1.2.2.2.1)) (aE (am (az x.1.2.2.2.2.1 d.2.1) λn=>am (az n.1 b.2.1) λc=>aE (aF (α:=D (.ai (.bw .bool) iU)) (λa=>ad (ay a.2.1 (ak c)) (am (az c a.2.1) λp=>am (az x.1.2.2.2.1 b.2.1) λq=>ad (ay p q.2.2.1) (ao (ao (ao (ao (ao (ao (ao (ao (some (2,())))))))))) (am (az c a.2.1) λr=>am (az x.1.2.2.2.1 b.2.1) λs=>am (az x.1.2.2.2.1 b.2.1) λt=>ad (cH (ah .i64 s.2.2.1 t.2.2.2.1) r) (ao (ao (ao (ao (ao (ao (ao (ao (some (2,())))))))))) (am (az c a.2.1) λf=>aC (aU a.1 f) (am (az a.1 f) λg=>ad g (ao (ao (ao (ao (ao (ao (ao (ao (some (7,())))))))))) (am (az x.1.2.2.2.1 b.2.1) λh=>am (az c a.2.1) λi=>am (Mc (h,i,())) λj=>ad j.1 (ao (ao (ao (ao (ao (ao (ao (ao (some (7,())))))))))) (am (az c a.2.1) λe=>aC (aU a.1 e) (am (az a.1 e) λu=>some (.inl (aG a.1 e true,ah .i64 a.2.1 1,()))))))))) (ao (some (.inl (a.1,()))))) 1000000000 (b.1,0,())) λk=>some (.inl (k.1,()))) λl=>some (.inl (l.1,ah .i64 b.2.1 1,()))) (ao (some (.inl (b.1,()))))) 1000000000 (d.1,0,())) λm=>some (.inl (m.1,()))) λo=>some (.inl (o.1,ah .i64 d.2.1 1,()))) (ao (some (.inl (d.1,()))))) 1000000000 (eh 256 false,0,())) λv=>some (0,()))
def YF:=kB dL Yy 284 Tryz.f284 (hs [(0,[.own 3 .bool]),(1,[.bE 1,.own 3 .bool,.val 4 iT]),(2,[.bE 1,.own 3 .bool,.bE 4]),(4,[.bE 1,.own 3 .bool,.bE 4]),(5,[.bE 1,.own 3 .bool,.bE 4,.val 5 iT]),(6,.bE 1:: .own 3 .bool::kp [4,5] []),(8,.bE 1:: .own 3 .bool::kp [4,5] []),(9,.bE 1:: .own 3 .bool::kp [4,5,6] [.val 7 iT])]) Mf
def Mm(x:D (.ai de .un)):Option (D iU):=ad (bF (ak x.1.2.2.2.2.1) (ak x.1.1)) (some (3,())) (aE (aF (α:=D iU) (λa=>ad (ay a.1 (ak x.1.2.2.2.2.1)) (aE (am (az x.1.2.2.2.2.1 a.1) λd=>am (DR ((d.1,()),ak x.1.2.2.2.1,())) λc=>ad (bF c.1 0) (ao (ao (ao (some (c.1,()))))) (aE (aF (α:=D iU) (λb=>ad (ay b.1 (ak x.1.2.2.2.1)) (am (az x.1.2.2.2.2.1 a.1) λe=>am (az e.1 b.1) λf=>ad (ay x.1.2.2.1 (ak f)) (ao (ao (ao (ao (ao (some (9,()))))))) (some (.inl (ah .i64 b.1 1,())))) (ao (some (.inl ())))) 1000000000 (0,())) λh=>some (.inl ()))) λi=>some (.inl (ah .i64 a.1 1,()))) (ao (some (.inl ())))) 1000000000 (0,())) λj=>am (Mf (x.1,())) λg=>some (g.1,()))
def YP:=kB dL YF 261 Tryz.f261 (hs [(0,[.bE 1]),(1,[.bE 1,.val 3 iT]),(2,kp [1,3] []),(4,kp [1,3] []),(5,kp [1,3] [.val 5 iT])]) Mm
def Mt(x:D (.ai de .un)):Option (D iU):=am (D6 (x.1.1,x.1.2.1,x.1.2.2.1,ak x.1.2.2.2.1,())) λc=>ad (bI c.1) (some (2,())) (aE (aF (α:=D cQ) (λa=>ad (ay a.2.1 (ak x.1.2.2.2.1)) (am (az x.1.2.2.2.1 a.2.1) λd=>am (DT (d,())) λb=>ad (bF b.1 0) (ao (ao (some (b.1,())))) (am (az x.1.2.2.2.1 a.2.1) λe=>ad (bF e.2.2.1 a.1) (ao (ao (some (10,())))) (am (az x.1.2.2.2.1 a.2.1) λf=>some (.inl (ah .i64 a.1 f.2.2.2.1,ah .i64 a.2.1 1,()))))) (ao (some (.inl ())))) 1000000000 (0,0,())) λh=>am (Mm (x.1,())) λg=>some (g.1,()))
def Zc:=kB dL YP 217 Tryz.f217 (hs [(0,[.bE 1]),(1,[.bE 1,.val 3 iT,.val 4 iT])]) Mt
def Me(x:D (.ai yr .un)):Option (D iU):=ad (ay 6 (ak x.1)) (some (9,())) (aE (aF (α:=D iU) (λa=>ad (ay a.1 (ak x.1)) (am (az x.1 a.1) λb=>ad (ay b.1 0) (ao (ao (some (2,())))) (am (az x.1 a.1) λc=>ad (cH 4 c.1) (ao (ao (some (2,())))) (am (az x.1 a.1) λd=>ad (bF d.2.1 0) (am (az x.1 a.1) λe=>ad (bF e.2.1 1) (ao (ao (some (1,())))) (some (.inl (ah .i64 a.1 1,())))) (some (.inl (ah .i64 a.1 1,())))))) (ao (some (.inl ())))) 1000000000 (0,())) λf=>some (0,()))
def YE:=kB dL Zc 285 Tryz.f285 (hs [(0,[]),(1,[.bE 0,.val 3 iT])]) Me
def xa(x:D (.ai yr iU)):Option (D bU):=aE (aF (α:=D iU) (λa=>ad (ay a.1 (ak x.1)) (am (az x.1 a.1) λb=>ad (aY b.1 x.2.1) (ao (ao (some (true,())))) (some (.inl (ah .i64 a.1 1,())))) (ao (some (.inl ())))) 1000000000 (0,())) λc=>some (false,())
def YD:=kB dL YE 286 Tryz.f286 (hs [(0,[]),(1,kp [0,1] [.val 5 iT])]) xa
def Ml(x:D (.ai yr iU)):Option (D (.ai lI iU)):=am (Me (x.1,())) λb=>ad (bF b.1 0) (some ([],b.1,())) (ad (ay x.2.1 0) (some ([],2,())) (ad (cH 4 x.2.1) (some ([],2,())) (aE (aF (α:=D (.ai lI iU)) (λa=>ad (ay a.2.1 4) (am (xa (x.1,bb .i64 x.2.1 a.2.1,())) λc=>ad c.1 (aC (a4 a.1 (bb .i64 x.2.1 a.2.1::[]) 8) (ad (ay 0 a.2.1) (am (xa (x.1,ah .i64 x.2.1 a.2.1,())) λd=>ad d.1 (aC (a4 (aX a.1 (bb .i64 x.2.1 a.2.1::[])) (ah .i64 x.2.1 a.2.1::[]) 8) (some (.inl (aX (aX a.1 (bb .i64 x.2.1 a.2.1::[])) (ah .i64 x.2.1 a.2.1::[]),ah .i64 a.2.1 1,())))) (some (.inl (aX a.1 (bb .i64 x.2.1 a.2.1::[]),ah .i64 a.2.1 1,())))) (some (.inl (aX a.1 (bb .i64 x.2.1 a.2.1::[]),ah .i64 a.2.1 1,()))))) (ad (ay 0 a.2.1) (am (xa (x.1,ah .i64 x.2.1 a.2.1,())) λe=>ad e.1 (aC (a4 a.1 (ah .i64 x.2.1 a.2.1::[]) 8) (some (.inl (aX a.1 (ah .i64 x.2.1 a.2.1::[]),ah .i64 a.2.1 1,())))) (some (.inl (a.1,ah .i64 a.2.1 1,())))) (some (.inl (a.1,ah .i64 a.2.1 1,()))))) (ao (some (.inl (a.1,()))))) 1000000000 ([],0,())) λf=>some (f.1,0,()))))
def YO:=kB dL YD 262 Tryz.f262 (hs [(0,[.own 7 iT]),(1,kp [0,1] [.own 7 iT,.val 8 iT])]) Ml
def H6(x:D (.ai yr jP)):Option (D (.ai lI iU)):=am (Ml (x.1,x.2.1,())) λd=>ad (bF d.2.1 0) (some ([],d.2.1,())) (aE (aF (α:=D (.ai lI iU)) (λc=>ad (ay c.2.1 (ak d.1)) (aE (aE (aF (α:=D (.ai lI iU)) (λa=>ad (ay a.2.1 (ak x.1)) (ad (bI x.2.2.1) (am (az x.1 a.2.1) λi=>am (az d.1 c.2.1) λj=>ad (aY i.1 j) (am (az x.1 a.2.1) λk=>ad (aY k.2.1 1) (aC (a4 a.1 (a.2.1::[]) 8) (some (.inl (aX a.1 (a.2.1::[]),ah .i64 a.2.1 1,())))) (some (.inl (a.1,ah .i64 a.2.1 1,())))) (some (.inl (a.1,ah .i64 a.2.1 1,())))) (ao (some (.inl (a.1,()))))) (ao (some (.inl (a.1,()))))) 1000000000 (c.1,0,())) λl=>aE (aF (α:=D (.ai lI iU)) (λb=>ad (ay b.2.1 (ak x.1)) (am (az x.1 b.2.1) λm=>am (az d.1 c.2.1) λn=>ad (aY m.1 n) (am (az x.1 b.2.1) λe=>ad (aY e.2.1 0) (aC (a4 b.1 (b.2.1::[]) 8) (some (.inl (aX b.1 (b.2.1::[]),ah .i64 b.2.1 1,())))) (some (.inl (b.1,ah .i64 b.2.1 1,())))) (some (.inl (b.1,ah .i64 b.2.1 1,())))) (ao (some (.inl (b.1,()))))) 1000000000 (l.1,0,())) λf=>some (.inl (f.1,()))) λg=>some (.inl (g.1,ah .i64 c.2.1 1,()))) (ao (some (.inl (c.1,()))))) 1000000000 ([],0,())) λh=>some (h.1,0,()))
def Zb:=kB dL YO 218 Tryz.f218 (hs [(0,[.own 10 iT]),(1,kp [0,2,8] [.own 10 iT,.val 11 iT]),(2,kp [0,2,8] [.own 10 iT,.bE 11]),(4,kp [0,2,8] [.own 10 iT,.bE 11]),(5,kp [0,2,8] [.own 10 iT,.bE 11,.val 12 iT]),(8,kp [0,2,8] [.own 10 iT,.bE 11]),(9,kp [0,2,8] [.own 10 iT,.bE 11,.val 13 iT])]) H6
def Ms(x:D (.ai de iU)):Option (D iU):=aE (aF (α:=D cQ) (λa=>ad (cH a.2.1 4) (am (az x.1.2.2.2.1 x.2.1) λc=>am (az c.2.2.2.2.2.1 a.2.1) λd=>aC (cR (ee .u64 a.2.1)) (some (.inl (ah .i64 a.1 (fj .i64 (ak d) (ee .u64 a.2.1)),ah .i64 a.2.1 1,())))) (ao (some (.inl (a.1,()))))) 1000000000 (0,0,())) λe=>aE (aF (α:=D cQ) (λb=>ad (ay b.2.1 (ak x.1.2.2.2.2.1)) (am (az x.1.2.2.2.2.1 b.2.1) λf=>am (az f.1 x.2.1) λg=>some (.inl (ah .i64 b.1 (ak g),ah .i64 b.2.1 1,()))) (ao (some (.inl (b.1,()))))) 1000000000 (e.1,0,())) λh=>some (h.1,())
def Lk:=kB dL Zb 219 Tryz.f219 (hs [(0,kp [1,2] [.val 5 iT]),(1,kp [1,2] [.val 5 iT,.val 6 iT]),(4,[.val 5 iT]),(5,kp [1,2] [.val 5 iT,.val 7 iT])]) Ms
def L0(x:D (.ai eI iU)):Option (D (.ai eI cQ)):=am (DT (x.1,())) λd=>ad (bF d.1 0) (some ((0,0,0,0,0,[]::[]::[]::[]::[]::[],()),0,d.1,())) (aE (aF (α:=D (.ai (.ai eI .un) iU)) (λa=>ad (cH a.2.1 4) (aE (aC (cR a.2.1) (aC (ay a.2.1 5) (am (az x.1.2.2.2.2.2.1 a.2.1) λf=>ad (ay 0 (ak f)) (aC (cR a.2.1) (aC (ay a.2.1 5) (am (az x.1.2.2.2.2.2.1 a.2.1) λj=>am (az j 0) λc=>aC (gw 256 256 8) (aE (Gl x.1.2.2.2.2.2.1) λe=>aE (aF (α:=D (.ai lI iU)) (λb=>ad (ay b.2.1 (ah .i64 c 1)) (aC (aU b.1 b.2.1) (am (az b.1 b.2.1) λk=>some (.inl (aG b.1 b.2.1 0,ah .i64 b.2.1 1,())))) (ao (some (.inl (b.1,()))))) 1000000000 (e.1,c,())) λg=>am (Ib (x.1,g.1,())) λh=>ao (ao (ao (some (h.1,c,0,())))))))) (some (.inl ((a.1.1,()),())))))) λi=>some (.inl ((i.1.1,()),ah .i64 a.2.1 1,()))) (ao (some (.inl ((a.1.1,()),()))))) 1000000000 (((0,0,0,0,0,[]::[]::[]::[]::[]::[],()),()),0,())) λl=>some ((0,0,0,0,0,[]::[]::[]::[]::[]::[],()),0,16,()))
def BQ(x:D (.ai eI iU)):Option (D (.ai eI cQ)):=ad (aY x.2.1 0) (L0 x) none
theorem XQ(x:D (.ai eI iU)):E9 (uD Lk.1 dL) [false,true] 1000 (.ai eI iU) (.ai eI cQ) (hs [(0,[.box 4 b7]),(1,kp [1,2] [.box 4 b7,.val 8 iT]),(2,kp [1,2] [.box 4 b7,.bE 8]),(4,kp [2,4,9] [.own 10 iT]),(5,kp [1,2,4,9] [.own 10 iT,.val 11 iT])]) Tryz.f287 (x.1,(0:Int),())=L0 x:=by kernel_rfl
theorem Ye(x:D (.ai eI iU))(h:aY x.2.1 0=true):(x.1,(0:Int),())=x:=by have h:x.2.1=0:=br h;obtain⟨a,b,u⟩:=x;cases h;rfl
theorem Ym:ft.fn.ap 287=some Tryz.f287:=by kernel_rfl
theorem aaA:ft.ext.ap 287=none:=by kernel_rfl
def YC:KK:=⟨Lk.1.set 287 ⟨.ai eI iU,.ai eI cQ,BQ⟩,ut Lk.2 (LG (hi:=dL) Lk.2 Ym aaA (Ld (b:=λ(x:D (.ai eI iU))=>aY x.2.1 0) (q:=λ(x:D (.ai eI iU))=>(x.1,(0:Int),())) Ye XQ))⟩
def H1(x:D (.ai fA iU)):Option (D iU):=am (DR ((x.1.1,()),ak x.1.1,())) λa=>ad (bF a.1 0) (some (a.1,())) (ad (ay x.2.1 0) (some (2,())) (ad (cH (ak x.1.1) x.2.1) (some (2,())) (some (0,()))))
def YB:=kB dL YC 291 Tryz.f291 Tr.e H1
def Mb(x:D (.ai fA iU)):Option (D bU):=aE (aF (α:=D iU) (λa=>ad (ay a.1 (ak x.1.1)) (aE (am (az x.1.1 a.1) λc=>aE (aF (α:=D iU) (λb=>ad (ay b.1 (ak c)) (am (az c b.1) λd=>ad (aY d x.2.1) (ao (ao (ao (ao (ao (some (true,()))))))) (some (.inl (ah .i64 b.1 1,())))) (ao (some (.inl ())))) 1000000000 (0,())) λe=>some (.inl ())) λf=>some (.inl (ah .i64 a.1 1,()))) (ao (some (.inl ())))) 1000000000 (0,())) λg=>some (false,())
def Yx:=kB dL YB 297 Tryz.f297 (hs [(0,[]),(1,kp [1,10,11] [.val 12 iT]),(2,kp [1,10,11,12] []),(4,kp [1,10,11,12] []),(5,kp [1,10,11,12,16,17] [.val 18 iT])]) Mb
def Qm{β:Type}(l:List (List Int)):Option (Sum ((List (List Int)×Unit)×Unit) β):=aF (α:=D (.ai fA iU)) (λa=>ad (ay a.2.1 (ak l)) (am (az l a.2.1) λb=>aC (a4 [] b 8) (aC (a4 a.1.1 (aX [] b::[]) 24) (some (.inl ((aX a.1.1 (aX [] b::[]),()),ah .i64 a.2.1 1,()))))) (ao (some (.inl ((a.1.1,()),()))))) 1000000000 (([],()),0,())
def BP(x:D (.ai fA (.ai iT (.ai lI .un)))):Option (D (.ai fA iU)):=am (H1 ((x.1.1,()),x.2.1,())) λe=>ad (bF e.1 0) (some (([],()),e.1,())) (aE (aF (α:=D (.ai (.ai fA .un) iU)) (λb=>ad (ay b.2.1 (ak x.2.2.1)) (aE (am (az x.2.2.1 b.2.1) λd=>am (BO (d,())) λj=>ad j.1 (ao (ao (ao (some (([],()),2,()))))) (am (Mb ((x.1.1,()),d,())) λk=>ad k.1 (ao (ao (ao (some (([],()),7,()))))) (aC (dx 0 b.2.1 (ak x.2.2.1)) (aE (aF (α:=D (.ai (.ai fA .un) iU)) (λc=>ad (ay c.2.1 (ak (eS x.2.2.1 0 b.2.1))) (am (az (eS x.2.2.1 0 b.2.1) c.2.1) λl=>ad (aY d l) (ao (ao (ao (ao (ao (some (([],()),7,()))))))) (some (.inl ((c.1.1,()),ah .i64 c.2.1 1,())))) (ao (some (.inl ((c.1.1,()),()))))) 1000000000 ((b.1.1,()),0,())) λm=>some (.inl ((m.1.1,()),())))))) λn=>some (.inl ((n.1.1,()),ah .i64 b.2.1 1,()))) (ao (some (.inl ((b.1.1,()),()))))) 1000000000 ((([],()),()),0,())) λo=>aE (Qm x.1.1) λh=>aE (aF (α:=D (.ai fA iU)) (λa=>ad (cH 0 a.2.1) (aC (aU a.1.1 x.2.1) (aC (aU a.1.1 x.2.1) (am (az x.2.2.1 a.2.1) λf=>am (az a.1.1 x.2.1) λg=>aC (a4 g (f::[]) 8) (aC (aU a.1.1 x.2.1) (aC (aY x.2.1 x.2.1) (some (.inl ((aG a.1.1 x.2.1 (aX g (f::[])),()),bb .i64 a.2.1 1,())))))))) (ao (some (.inl ((a.1.1,()),()))))) 1000000000 ((h.1.1,()),bb .i64 (ak x.2.2.1) 1,())) λi=>some ((i.1.1,()),0,()))
def U2:=kB aax Yx 288 Tryz.f288 (hs [(0,kp [1,2,3] [.box 6 b1]),(1,kp [1,2,3] (.box 6 b1::kp [22,23] [.val 24 iT])),(2,kp [1,2,3] (.box 6 b1::kp [22,23,24] [])),(4,kp [1,2,3] (.box 6 b1::kp [22,23,24] [])),(5,kp [1,2,3] (.box 6 b1::kp [10,22,23,24,38,39] [.val 40 iT])),(8,[.bE 6,.box 13 b6]),(9,kp [1,2,6] [.box 13 b6,.val 14 iT])]) BP
def U7:Tr (List Hi):=Tr.e
def Q7(x:D (.ai fA iU)):Option (D (.ai fA (.ai lI iU))):=E8 (uD U2.1 dL) 1000 (.ai fA iU) (.ai fA (.ai lI iU)) U7 Tryz.f289 x
def U1:=kB dL U2 289 Tryz.f289 U7 Q7 (hF:=λx=>rfl)
def U6:Tr (List Hi):=hs [(0,[.bE 3,.box 6 b7,.own 9 iT]),(1,kp [1,2,3] [.box 6 b7,.own 9 iT,.val 10 iT])]
def Vy(x:D (.ai eI cQ)):Option (D (.ai eI iU)):=E8 (uD U1.1 dL) 1000 (.ai eI cQ) (.ai eI iU) U6 Tryz.f298 x
def Yw:=kB dL U1 298 Tryz.f298 U6 Vy (hF:=λx=>rfl)
def BT(x:D (.ai fA iU)):Option (D (.ai fA cQ)):=am (H1 ((x.1.1,()),x.2.1,())) λc=>ad (bF c.1 0) (some (([],()),0,c.1,())) (am (az x.1.1 x.2.1) λb=>ad (aY (ak b) 0) (some (([],()),0,6,())) (aE (Qm x.1.1) λa=>aC (aU a.1.1 x.2.1) (am (az a.1.1 x.2.1) λe=>am (az e (bb .i64 (ak b) 1)) λf=>aC (aU a.1.1 x.2.1) (am (az a.1.1 x.2.1) λd=>aC (dx 0 (bb .i64 (ak b) 1) (ak d)) (aC (aU a.1.1 x.2.1) (am (az a.1.1 x.2.1) λg=>some ((aG a.1.1 x.2.1 (eS d 0 (bb .i64 (ak b) 1)),()),f,0,())))))))
def Lj:=kB dL Yw 266 Tryz.f266 Tr.e BT
def Jg{β:Type}(z:Int)(a:D de):Option (Sum (D de×List Int×Unit) β):=aF (α:=D (.ai de (.ai lI .un))) (λb=>ad (ay (ak b.2.1) b.1.2.1) (aC (aU b.1.2.2.2.1 z) (am (az b.1.2.2.2.1 z) λd=>am (BQ (d,0,())) λc=>ad (bF c.2.2.1 0) (ao (some (.inl (b.1,b.2.1,())))) (aC (aU b.1.2.2.2.1 z) (am (az b.1.2.2.2.1 z) λe=>aC (a4 b.2.1 (c.2.1::[]) 8) (some (.inl ((b.1.1,b.1.2.1,b.1.2.2.1,aG b.1.2.2.2.1 z c.1,b.1.2.2.2.2.1,()),aX b.2.1 (c.2.1::[]),()))))))) (ao (some (.inl (b.1,b.2.1,()))))) 1000000000 (a,[],())
def drF{β:Type}(l:List Int)(z:Int)(a:D de)(c:Int)(y:List (List Int)):Option (Sum (D de×Unit) β):=aF (α:=D (.ai de iU)) (λb=>ad (ay b.2.1 (ak l)) (aC (aU b.1.2.2.2.1 z) (am (az b.1.2.2.2.1 z) λd=>am (az l b.2.1) λe=>am (Vy (d,e,0,())) λf=>aC (aU b.1.2.2.2.1 z) (am (az b.1.2.2.2.1 z) λg=>some (.inl ((b.1.1,b.1.2.1,b.1.2.2.1,aG b.1.2.2.2.1 z f.1,b.1.2.2.2.2.1,()),ah .i64 b.2.1 1,()))))) (ao (some (.inl (b.1,()))))) 1000000000 ((a.1,a.2.1,a.2.2.1,a.2.2.2.1,aG a.2.2.2.2.1 c (y,()),()),0,())
def L1(x:D (.ai de (.ai iT (.ai .bool bU)))):Option (D (.ai de cQ)):=am (Mt (x.1,())) λo=>ad (bF o.1 0) (some (([],0,0,[],[],()),0,o.1,())) (ad (ay x.2.1 0) (some (([],0,0,[],[],()),0,2,())) (ad (cH (ak x.1.1) x.2.1) (some (([],0,0,[],[],()),0,2,())) (am (az x.1.1 x.2.1) λA=>am (H6 (x.1.2.2.2.1,A,x.2.2.1,())) λr=>aE (aF (α:=D (.ai (.ai de .un) iU)) (λl=>ad (ay l.2.1 (ak r.1)) (am (az r.1 l.2.1) λb=>am (Ms (x.1,b,())) λp0=>am (az x.1.2.2.2.1 b) λk0=>ad (ay k0.2.2.2.2.1 p0.1) (aC (a4 [] x.1.1 8) (aE (aF (α:=D (.ai de iU)) (λi=>ad (ay i.2.1 (ak x.1.2.2.2.1)) (aE (am (az x.1.2.2.2.1 i.2.1) λe0=>aE (aF (α:=D (.ai (.ai eI .un) iU)) (λc=>ad (cH c.2.1 4) (am (az x.1.2.2.2.1 i.2.1) λB=>am (az B.2.2.2.2.2.1 c.2.1) λp=>aC (a4 [] p 8) (aC (cR c.2.1) (aC (ay c.2.1 5) (am (az c.1.1.2.2.2.2.2.1 c.2.1) λb0=>some (.inl (((c.1.1.1,c.1.1.2.1,c.1.1.2.2.1,c.1.1.2.2.2.1,c.1.1.2.2.2.2.1,aG c.1.1.2.2.2.2.2.1 c.2.1 (aX [] p),()),()),ah .i64 c.2.1 1,())))))) (ao (some (.inl ((c.1.1,()),()))))) 1000000000 ((e0,()),0,())) λq=>aC (a4 i.1.2.2.2.1 (q.1.1::[]) 160) (some (.inl ((i.1.1,i.1.2.1,i.1.2.2.1,aX i.1.2.2.2.1 (q.1.1::[]),i.1.2.2.2.2.1,()),())))) λC=>some (.inl (C.1,ah .i64 i.2.1 1,()))) (ao (some (.inl (i.1,()))))) 1000000000 ((aX [] x.1.1,x.1.2.1,x.1.2.2.1,[],[],()),0,())) λz0=>aE (aF (α:=D (.ai de iU)) (λj=>ad (ay j.2.1 (ak x.1.2.2.2.2.1)) (am (az x.1.2.2.2.2.1 j.2.1) λy0=>aE (Qm y0.1) λs=>aC (a4 j.1.2.2.2.2.1 ((s.1.1,())::[]) 24) (some (.inl ((j.1.1,j.1.2.1,j.1.2.2.1,j.1.2.2.2.1,aX j.1.2.2.2.2.1 ((s.1.1,())::[]),()),ah .i64 j.2.1 1,())))) (ao (some (.inl (j.1,()))))) 1000000000 (z0.1,0,())) λd=>aC (aU d.1.2.2.2.2.1 x.2.1) (am (az d.1.2.2.2.2.1 x.2.1) λx0=>am (az x0.1 b) λw0=>ad (aY (ak w0) 0) (aE (Jg b d.1) λa=>aC (aU a.1.2.2.2.2.1 x.2.1) (am (az a.1.2.2.2.2.1 x.2.1) λv0=>am (BP ((v0.1,()),b,a.2.1,())) λk=>aC (aU a.1.2.2.2.2.1 x.2.1) (am (az a.1.2.2.2.2.1 x.2.1) λa0=>aC (aU (aG a.1.2.2.2.2.1 x.2.1 k.1) x.2.1) (am (az (aG a.1.2.2.2.2.1 x.2.1 k.1) x.2.1) λu0=>am (az u0.1 b) λt0=>ad (aY (ak t0) 0) (aE (aF (α:=D (.ai de iU)) (λe=>ad (ay e.2.1 (ak e.1.2.2.2.2.1)) (aC (aU e.1.2.2.2.2.1 e.2.1) (am (az e.1.2.2.2.2.1 e.2.1) λs0=>am (Q7 ((s0.1,()),b,())) λt=>aC (aU e.1.2.2.2.2.1 e.2.1) (am (az e.1.2.2.2.2.1 e.2.1) λz9=>aE (drF t.2.1 b e.1 e.2.1 t.1.1) λr0=>some (.inl (r0.1,ah .i64 e.2.1 1,()))))) (ao (some (.inl (e.1,()))))) 1000000000 ((a.1.1,a.1.2.1,a.1.2.2.1,a.1.2.2.2.1,aG a.1.2.2.2.2.1 x.2.1 k.1,()),0,())) λq0=>aE (Jg b q0.1) λg=>aC (aU g.1.2.2.2.2.1 x.2.1) (am (az g.1.2.2.2.2.1 x.2.1) λo0=>am (BP ((o0.1,()),b,g.2.1,())) λm=>aC (aU g.1.2.2.2.2.1 x.2.1) (am (az g.1.2.2.2.2.1 x.2.1) λy9=>aC (aU (aG g.1.2.2.2.2.1 x.2.1 m.1) x.2.1) (am (az (aG g.1.2.2.2.2.1 x.2.1 m.1) x.2.1) λn0=>am (BT ((n0.1,()),b,())) λu=>aC (aU (aG g.1.2.2.2.2.1 x.2.1 m.1) x.2.1) (am (az (aG g.1.2.2.2.2.1 x.2.1 m.1) x.2.1) λx9=>ao (ao (some ((g.1.1,g.1.2.1,g.1.2.2.1,g.1.2.2.2.1,aG (aG g.1.2.2.2.2.1 x.2.1 m.1) x.2.1 (u.1.1,()),()),u.2.1,0,())))))))) (aC (aU (aG a.1.2.2.2.2.1 x.2.1 k.1) x.2.1) (am (az (aG a.1.2.2.2.2.1 x.2.1 k.1) x.2.1) λm0=>am (BT ((m0.1,()),b,())) λv=>aC (aU (aG a.1.2.2.2.2.1 x.2.1 k.1) x.2.1) (am (az (aG a.1.2.2.2.2.1 x.2.1 k.1) x.2.1) λw9=>ao (ao (some ((a.1.1,a.1.2.1,a.1.2.2.1,a.1.2.2.2.1,aG (aG a.1.2.2.2.2.1 x.2.1 k.1) x.2.1 (v.1.1,()),()),v.2.1,0,())))))))))) (aC (aU d.1.2.2.2.2.1 x.2.1) (am (az d.1.2.2.2.2.1 x.2.1) λl0=>am (az l0.1 b) λj0=>ad (aY (ak j0) 0) (aE (aF (α:=D (.ai de iU)) (λf=>ad (ay f.2.1 (ak f.1.2.2.2.2.1)) (aC (aU f.1.2.2.2.2.1 f.2.1) (am (az f.1.2.2.2.2.1 f.2.1) λi0=>am (Q7 ((i0.1,()),b,())) λw=>aC (aU f.1.2.2.2.2.1 f.2.1) (am (az f.1.2.2.2.2.1 f.2.1) λv9=>aE (drF w.2.1 b f.1 f.2.1 w.1.1) λh0=>some (.inl (h0.1,ah .i64 f.2.1 1,()))))) (ao (some (.inl (f.1,()))))) 1000000000 (d.1,0,())) λg0=>aE (Jg b g0.1) λh=>aC (aU h.1.2.2.2.2.1 x.2.1) (am (az h.1.2.2.2.2.1 x.2.1) λf0=>am (BP ((f0.1,()),b,h.2.1,())) λn=>aC (aU h.1.2.2.2.2.1 x.2.1) (am (az h.1.2.2.2.2.1 x.2.1) λu9=>aC (aU (aG h.1.2.2.2.2.1 x.2.1 n.1) x.2.1) (am (az (aG h.1.2.2.2.2.1 x.2.1 n.1) x.2.1) λd0=>am (BT ((d0.1,()),b,())) λy=>aC (aU (aG h.1.2.2.2.2.1 x.2.1 n.1) x.2.1) (am (az (aG h.1.2.2.2.2.1 x.2.1 n.1) x.2.1) λt9=>ao (ao (some ((h.1.1,h.1.2.1,h.1.2.2.1,h.1.2.2.2.1,aG (aG h.1.2.2.2.2.1 x.2.1 n.1) x.2.1 (y.1.1,()),()),y.2.1,0,())))))))) (aC (aU d.1.2.2.2.2.1 x.2.1) (am (az d.1.2.2.2.2.1 x.2.1) λc0=>am (BT ((c0.1,()),b,())) λz=>aC (aU d.1.2.2.2.2.1 x.2.1) (am (az d.1.2.2.2.2.1 x.2.1) λs9=>ao (ao (some ((d.1.1,d.1.2.1,d.1.2.2.1,d.1.2.2.2.1,aG d.1.2.2.2.2.1 x.2.1 (z.1.1,()),()),z.2.1,0,()))))))))))) (some (.inl ((l.1.1,()),ah .i64 l.2.1 1,())))) (ao (some (.inl ((l.1.1,()),()))))) 1000000000 ((([],0,0,[],[],()),()),0,())) λr9=>some (([],0,0,[],[],()),0,16,()))))
def MH(x:D (.ai de (.ai iT (.ai .bool bU)))):Option (D (.ai de cQ)):=ad (bI x.2.2.2.1) (L1 x) none
theorem XS(x:D (.ai de (.ai iT (.ai .bool bU)))):E9 (uD Lj.1 dL) [false,false,false,true] 1000 (.ai de (.ai iT (.ai .bool bU))) (.ai de cQ) (hs [(0,[.box 8 [.v de]]),(1,kp [1,3,4] [.box 8 [.v de],.bE 12,.val 14 iT])]) Tryz.f151 (x.1,x.2.1,x.2.2.1,false,())=L1 x:=by kernel_rfl
theorem Yg(x:D (.ai de (.ai iT (.ai .bool bU))))(h:bI x.2.2.2.1=true):(x.1,x.2.1,x.2.2.1,false,())=x:=by
 have h:x.2.2.2.1=false:=by simpa [bI]using h
 obtain⟨a,b,c,d,u⟩:=x;cases h;rfl
theorem Yp:ft.fn.ap 151=some Tryz.f151:=by kernel_rfl
theorem aaD:ft.ext.ap 151=none:=by kernel_rfl
def ZU:KK:=⟨Lj.1.set 151 ⟨.ai de (.ai iT (.ai .bool bU)),.ai de cQ,MH⟩,ut Lj.2 (LG (hi:=dL) Lj.2 Yp aaD (Ld (b:=λ(x:D (.ai de (.ai iT (.ai .bool bU))))=>bI x.2.2.2.1) (q:=λ(x:D (.ai de (.ai iT (.ai .bool bU))))=>(x.1,x.2.1,x.2.2.1,false,())) Yg XS))⟩
def MG(x:D iU):Option (D (.ai sB iU)):=ad (ay x.1 0) (some ((0,[],[],()),2,())) (ad (ay 4294967295 x.1) (some ((0,[],[],()),2,())) (some ((x.1,(x.1,0::0::0::0::0::0::0::0::[],())::[],[],()),0,())))
def ZT:=kB dL ZU 152 Tryz.f152 Tr.e MG
def Ro(x:D (.ai jP .un)):Option (D bU):=ad (cH 0 x.1.1) (ad (cH x.1.1 1073741824) (ad (ay 0 x.1.1) (some (true,())) (some (bI x.1.2.1,()))) (some (false,()))) (some (false,()))
def Za:=kB dL ZT 222 Tryz.f222 Tr.e Ro
def MF(x:D (.ai jP .un)):Option (D cQ):=am (Ro (x.1,())) λa=>ad (bI a.1) (some (0,1,())) (ad (ay 0 x.1.1) (ad (bI x.1.2.1) (some (bb .i64 x.1.1 1,0,())) (some (x.1.1,0,()))) (some (x.1.1,0,())))
def ZS:=kB dL Za 153 Tryz.f153 Tr.e MF
def Pm(c:D ce)(a:D (.ai (.ai fS .un) (.ai fS iU))):Option (Sum (D (.ai (.ai fS .un) (.ai fS iU))) (Sum (D (.ai (.ai fS .un) (.ai fS .un))) (D (.ai fS iU)))):=ad (ay a.2.2.1 (ak c.2.2.2.2.2.2.2.2.2.2.2.2.1)) (am (az a.2.1.1.2.2.2.2.2.2.2.2.2.2.2.2.1 a.2.2.1) λf=>am (MJ (a.2.1.2.2.2.2.2.2.2.2.2.1,f.1,1,())) λi=>ad (bF i.2.2.1 0) (ao (ao (some (zK,17,())))) (am (MH (a.2.1.2.2.2.2.2.2.1,0,true,false,())) λd=>ad (bF d.2.2.1 0) (ao (ao (some (zK,16,())))) (aC (aU a.2.1.2.2.2.2.2.2.2.1 d.2.1) (am (az a.2.1.2.2.2.2.2.2.2.1 d.2.1) λg=>aC (aU (aG a.2.1.2.2.2.2.2.2.2.1 d.2.1 (1,g.2)) d.2.1) (am (az (aG a.2.1.2.2.2.2.2.2.2.1 d.2.1 (1,g.2)) d.2.1) λe=>aC (aU (aG (aG a.2.1.2.2.2.2.2.2.2.1 d.2.1 (1,g.2)) d.2.1 (e.1,e.2.1,f.1,e.2.2.2)) d.2.1) (am (az (aG (aG a.2.1.2.2.2.2.2.2.2.1 d.2.1 (1,g.2)) d.2.1 (e.1,e.2.1,f.1,e.2.2.2)) d.2.1) λh=>am (MG (d.2.1,())) λk=>am (Iq (f.2.1,())) λl=>aC (gw (ak a.2.1.2.2.2.2.2.2.2.2.2.2.2.2.2.2.1) (ak a.2.1.2.2.2.2.2.2.2.2.2.2.2.2.2.2.1) 8) (aE (aF (α:=D (.ai zO iU)) (λb=>ad (ay b.2.1 (ak (eh (α:=Int) (ak a.2.1.2.2.2.2.2.2.2.2.2.2.2.2.2.2.1) 0))) (am (az a.2.1.2.2.2.2.2.2.2.2.2.2.2.2.2.2.1 b.2.1) λm=>am (MF (m.2.2.2.2.2.2.1,())) λn=>aC (aU b.1.2.2.2.2.2.2.2.2.2.2.2.1 b.2.1) (am (az b.1.2.2.2.2.2.2.2.2.2.2.2.1 b.2.1) λo=>some (.inl ((b.1.1,b.1.2.1,b.1.2.2.1,b.1.2.2.2.1,b.1.2.2.2.2.1,b.1.2.2.2.2.2.1,b.1.2.2.2.2.2.2.1,b.1.2.2.2.2.2.2.2.1,b.1.2.2.2.2.2.2.2.2.1,b.1.2.2.2.2.2.2.2.2.2.1,b.1.2.2.2.2.2.2.2.2.2.2.1,aG b.1.2.2.2.2.2.2.2.2.2.2.2.1 b.2.1 n.1,b.1.2.2.2.2.2.2.2.2.2.2.2.2),ah .i64 b.2.1 1,())))) (ao (some (.inl (b.1,()))))) 1000000000 ((0,0,-1,0,f.1,l.1,(0,0,0,0,(0,0,0,0,0,0,()),(),()),k.1,[],[],[],eh (α:=Int) (ak a.2.1.2.2.2.2.2.2.2.2.2.2.2.2.2.2.1) 0,0,0,0,0,-1,()),0,())) λj=>aC (a4 a.2.1.2.2.2.2.2.2.2.2.2.2.2.2.2.2.2.2.2.1 (j.1::[]) 360) (some (.inl ((a.1.1,()),(a.2.1.1,a.2.1.2.1,a.2.1.2.2.1,a.2.1.2.2.2.1,a.2.1.2.2.2.2.1,a.2.1.2.2.2.2.2.1,d.1,aG (aG (aG a.2.1.2.2.2.2.2.2.2.1 d.2.1 (1,g.2)) d.2.1 (e.1,e.2.1,f.1,e.2.2.2)) d.2.1 (h.1,h.2.1,h.2.2.1,a.2.2.1,h.2.2.2.2),a.2.1.2.2.2.2.2.2.2.2.1,i.1,a.2.1.2.2.2.2.2.2.2.2.2.2.1,a.2.1.2.2.2.2.2.2.2.2.2.2.2.1,a.2.1.2.2.2.2.2.2.2.2.2.2.2.2.1,a.2.1.2.2.2.2.2.2.2.2.2.2.2.2.2.1,a.2.1.2.2.2.2.2.2.2.2.2.2.2.2.2.2.1,a.2.1.2.2.2.2.2.2.2.2.2.2.2.2.2.2.2.1,a.2.1.2.2.2.2.2.2.2.2.2.2.2.2.2.2.2.2.1,aX a.2.1.2.2.2.2.2.2.2.2.2.2.2.2.2.2.2.2.2.1 (j.1::[]),a.2.1.2.2.2.2.2.2.2.2.2.2.2.2.2.2.2.2.2.2.1,a.2.1.2.2.2.2.2.2.2.2.2.2.2.2.2.2.2.2.2.2.2.1,()),ah .i64 a.2.2.1 1,())))))))))) (ao (some (.inl ((a.1.1,()),a.2.1,()))))
def FP(x:D (.ai ce .un)):Option (D (.ai fS iU)):=am (Ky (x.1,())) λc=>ad (bF c.1 0) (some (zK,c.1,())) (am (Ua (x.1,())) λb=>am (az b.1 (bb .i64 (ak b.1) 1)) λj=>ad (ay j 1) (some (zK,9,())) (am (az b.1 (bb .i64 (ak b.1) 1)) λk=>ad (ay 256 k) (some (zK,9,())) (am (T9 (x.1,())) λm=>aE (SN x.1 m.1) λn=>am (T7 (x.1.1,x.1.2.2.1,x.1.2.2.2.1,x.1.2.1,())) λo=>am (FO (x.1,())) λp=>aE (Te n.1 o.1 p.1) λa=>am (XA (x.1.2.2.2.2.2.2.2.2.2.1,())) λe=>aC (a4 a.1.2.2.2.2.2.2.2.2.2.1 x.1.2.2.2.2.2.2.2.2.2.2.2.1 40) (am (Xz ()) λf=>am (T4 (x.1.2.2.2.2.2.2.1,())) λg=>am (Xy (x.1.2.2.2.2.2.2.2.1,())) λh=>am (T1 (x.1,b.1,())) λd=>am (TZ (x.1.2.2.2.2.2.1,d.2.1,())) λi=>aE (aF (α:=D (.ai (.ai fS .un) (.ai fS iU))) (Pm x.1) 1000000000 ((zK,()),(a.1.1,a.1.2.1,a.1.2.2.1,a.1.2.2.2.1,a.1.2.2.2.2.1,a.1.2.2.2.2.2.1,a.1.2.2.2.2.2.2.1,a.1.2.2.2.2.2.2.2.1,e.1,aX a.1.2.2.2.2.2.2.2.2.2.1 x.1.2.2.2.2.2.2.2.2.2.2.2.1,a.1.2.2.2.2.2.2.2.2.2.2.1,f.1,g.1,h.1,d.1,i.1,a.1.2.2.2.2.2.2.2.2.2.2.2.2.2.2.2.2.1,a.1.2.2.2.2.2.2.2.2.2.2.2.2.2.2.2.2.2.1,a.1.2.2.2.2.2.2.2.2.2.2.2.2.2.2.2.2.2.2.1,a.1.2.2.2.2.2.2.2.2.2.2.2.2.2.2.2.2.2.2.2.1,()),0,())) λl=>some (l.2.1,0,())))))
def k15:=kB dL ZS 15 Tryz.f15 (hs [(0,kp [1,2,5] [.box 6 NT]),(1,kp [1,2,5] [.box 6 NT,.bE 45,.val 46 iT]),(4,kp [1,2,5] [.box 6 NT]),(5,kp [1,2,5] [.box 6 NT,.bE 9,.val 11 iT]),(8,[.box 2 [.v fS],.box 6 b8]),(9,[.box 2 [.v fS],.box 6 b8,.bE 146,.val 147 iT])]) FP
def yi(x:D (.ai lI (.ai lI .un))):Option (D bU):=ad (bF (ak x.1) (ak x.2.1)) (some (false,())) (aE (aF (α:=D iU) (λa=>ad (ay a.1 (ak x.1)) (am (az x.1 a.1) λb=>am (az x.2.1 a.1) λc=>ad (bF b c) (ao (ao (some (false,())))) (some (.inl (ah .i64 a.1 1,())))) (ao (some (.inl ())))) 1000000000 (0,())) λd=>some (true,()))
def k68:=kB dL k15 68 Tryz.f68 (hs [(0,[]),(1,kp [0,1,12] [.val 13 iT])]) yi
def TX(x:D (.ai de (.ai de .un))):Option (D bU):=ad (bF x.1.2.1 x.2.1.2.1) (some (false,())) (ad (bF x.1.2.2.1 x.2.1.2.2.1) (some (false,())) (am (yi (x.1.1,x.2.1.1,())) λg=>ad (bI g.1) (some (false,())) (ad (bF (ak x.1.2.2.2.1) (ak x.2.1.2.2.2.1)) (some (false,())) (ad (bF (ak x.1.2.2.2.2.1) (ak x.2.1.2.2.2.2.1)) (some (false,())) (aE (aF (α:=D iU) (λe=>ad (ay e.1 (ak x.1.2.2.2.1)) (aE (am (az x.1.2.2.2.1 e.1) λc=>am (az x.2.1.2.2.2.1 e.1) λd=>ad (bF c.1 d.1) (ao (ao (ao (some (false,()))))) (ad (bF c.2.1 d.2.1) (ao (ao (ao (some (false,()))))) (ad (bF c.2.2.1 d.2.2.1) (ao (ao (ao (some (false,()))))) (ad (bF c.2.2.2.1 d.2.2.2.1) (ao (ao (ao (some (false,()))))) (ad (bF c.2.2.2.2.1 d.2.2.2.2.1) (ao (ao (ao (some (false,()))))) (aE (aF (α:=D iU) (λa=>ad (ay a.1 5) (aC (cR a.1) (aC (ay a.1 5) (am (az c.2.2.2.2.2.1 a.1) λp=>aC (cR a.1) (aC (ay a.1 5) (am (az d.2.2.2.2.2.1 a.1) λq=>am (yi (p,q,())) λr=>ad (bI r.1) (ao (ao (ao (ao (ao (some (false,()))))))) (some (.inl (ah .i64 a.1 1,())))))))) (ao (some (.inl ())))) 1000000000 (0,())) λw=>some (.inl ()))))))) λy=>some (.inl (ah .i64 e.1 1,()))) (ao (some (.inl ())))) 1000000000 (0,())) λs=>aE (aF (α:=D iU) (λb=>ad (ay b.1 (ak x.1.2.2.2.2.1)) (aE (am (az x.1.2.2.2.2.1 b.1) λh=>am (az x.2.1.2.2.2.2.1 b.1) λi=>ad (bF (ak h.1) (ak i.1)) (ao (ao (ao (some (false,()))))) (am (az x.1.2.2.2.2.1 b.1) λj=>aE (aF (α:=D iU) (λf=>ad (ay f.1 (ak j.1)) (am (az x.1.2.2.2.2.1 b.1) λk=>am (az k.1 f.1) λl=>am (az x.2.1.2.2.2.2.1 b.1) λm=>am (az m.1 f.1) λn=>am (yi (l,n,())) λo=>ad (bI o.1) (ao (ao (ao (ao (ao (some (false,()))))))) (some (.inl (ah .i64 f.1 1,())))) (ao (some (.inl ())))) 1000000000 (0,())) λt=>some (.inl ()))) λu=>some (.inl (ah .i64 b.1 1,()))) (ao (some (.inl ())))) 1000000000 (0,())) λv=>some (true,()))))))
def k69:=kB dL k68 69 Tryz.f69 (hs [(0,kp [2,3] []),(1,kp [2,3,51] [.val 52 iT]),(2,kp [2,3,51,52] []),(4,kp [2,3,51,52] []),(5,kp [2,3,6,7,51,52] [.val 98 iT]),(8,[]),(9,kp [2,3,115] [.val 116 iT]),(10,kp [2,3,115,116] []),(12,kp [2,3,115,116] []),(13,kp [2,3,9,115,116,140] [.val 141 iT])]) TX
def xf(x:D (.ai (.bw (.int .u8)) (.ai (.bw (.int .u8)) .un))):Option (D bU):=aC (qy x.1) (aC (qy x.2.1) (some (P4 (CK x.1) (CK x.2.1),())))
def ZR:=kB dL k69 154 Tryz.f154 Tr.e xf
def TW(x:D (.ai mJ (.ai mJ .un))):Option (D bU):=ad (bF x.1.1 x.2.1.1) (some (false,())) (ad (bF x.1.2.1 x.2.1.2.1) (some (false,())) (ad (bF (ak x.1.2.2.1) (ak x.2.1.2.2.1)) (some (false,())) (ad (bF (ak x.1.2.2.2.1) (ak x.2.1.2.2.2.1)) (some (false,())) (ad (bF (ak x.1.2.2.2.2.1) (ak x.2.1.2.2.2.2.1)) (some (false,())) (aE (aF (α:=D iU) (λb=>ad (ay b.1 (ak x.1.2.2.1)) (am (az x.1.2.2.1 b.1) λf=>am (az x.2.1.2.2.1 b.1) λi=>am (xf (f,i,())) λj=>ad (bI j.1) (ao (ao (some (false,())))) (some (.inl (ah .i64 b.1 1,())))) (ao (some (.inl ())))) 1000000000 (0,())) λq=>aE (aF (α:=D iU) (λa=>ad (ay a.1 (ak x.1.2.2.2.1)) (am (az x.1.2.2.2.1 a.1) λk=>am (az x.2.1.2.2.2.1 a.1) λl=>ad (bF k.1 l.1) (ao (ao (some (false,())))) (am (az x.1.2.2.2.1 a.1) λm=>am (az x.2.1.2.2.2.1 a.1) λn=>am (xf (m.2.1,n.2.1,())) λg=>ad (bI g.1) (ao (ao (some (false,())))) (some (.inl (ah .i64 a.1 1,()))))) (ao (some (.inl ())))) 1000000000 (0,())) λo=>aE (aF (α:=D iU) (λc=>ad (ay c.1 (ak x.1.2.2.2.2.1)) (am (az x.1.2.2.2.2.1 c.1) λd=>am (az x.2.1.2.2.2.2.1 c.1) λe=>ad (bF d.1 e.1) (ao (ao (some (false,())))) (ad (bF d.2.1 e.2.1) (ao (ao (some (false,())))) (ad (bF d.2.2.1 e.2.2.1) (ao (ao (some (false,())))) (am (xf (d.2.2.2.1,e.2.2.2.1,())) λh=>ad (bI h.1) (ao (ao (some (false,())))) (some (.inl (ah .i64 c.1 1,()))))))) (ao (some (.inl ())))) 1000000000 (0,())) λp=>some (true,()))))))
def k70:=kB dL ZR 70 Tryz.f70 (hs [(0,kp [2,3] []),(1,kp [2,3,51] [.val 52 iT]),(4,kp [2,3] []),(5,kp [2,3,70] [.val 71 iT]),(8,[]),(9,kp [2,3,106] [.val 107 iT])]) TW
def EN{X b β:Type}(l:List X)(r:List b):Option (Sum Unit β):=aF (α:=D iU) (λa=>ad (ay a.1 (ak l)) (am (az l a.1) λc=>am (az r a.1) λd=>none) (ao (some (.inl ())))) 1000000000 (0,())
def MD(x:D (.ai fS (.ai fS .un))):Option (D bU):=aE (aF (α:=D iU) (λa=>ad (ay a.1 (ak x.1.2.2.2.2.1)) (aE (am (az x.1.2.2.2.2.1 a.1) λe=>am (az x.2.1.2.2.2.2.1 a.1) λj=>ad (bF e.1 j.1) (ao (ao (ao (some (false,()))))) (am (az x.1.2.2.2.2.1 a.1) λl=>am (az x.2.1.2.2.2.2.1 a.1) λm=>ad (bF (ak l.2.1) (ak m.2.1)) (ao (ao (ao (some (false,()))))) (am (az x.1.2.2.2.2.1 a.1) λn=>aE (aF (α:=D iU) (λd=>ad (ay d.1 (ak n.2.1)) (am (az x.1.2.2.2.2.1 a.1) λo=>am (az o.2.1 d.1) λA=>am (az x.2.1.2.2.2.2.1 a.1) λp=>am (az p.2.1 d.1) λq=>none) (ao (some (.inl ())))) 1000000000 (0,())) λr=>some (.inl ())))) λs=>some (.inl (ah .i64 a.1 1,()))) (ao (some (.inl ())))) 1000000000 (0,())) λt=>aE (aF (α:=D iU) (λb=>ad (ay b.1 (ak x.1.2.2.2.2.2.1)) (aE (am (az x.1.2.2.2.2.2.1 b.1) λf=>am (az x.2.1.2.2.2.2.2.1 b.1) λg=>ad (bF (ak f) (ak g)) (ao (ao (ao (some (false,()))))) (am (az x.1.2.2.2.2.2.1 b.1) λh=>aE (aF (α:=D iU) (λc=>ad (ay c.1 (ak h)) (am (az x.1.2.2.2.2.2.1 b.1) λi=>am (az i c.1) λu=>am (az x.2.1.2.2.2.2.2.1 b.1) λk=>am (az k c.1) λv=>none) (ao (some (.inl ())))) 1000000000 (0,())) λw=>some (.inl ()))) λy=>some (.inl (ah .i64 b.1 1,()))) (ao (some (.inl ())))) 1000000000 (0,())) λz=>some (true,())
def ZQ:=kB dL k70 155 Tryz.f155 (hs [(0,kp [2,3] []),(1,kp [2,3,11] [.val 12 iT]),(2,kp [2,3,11,12] []),(4,kp [2,3,11,12] []),(5,kp [2,3,5,11,12,51] [.val 52 iT]),(8,[]),(9,kp [2,3,78] [.val 79 iT]),(10,kp [2,3,78,79] []),(12,kp [2,3,78,79] []),(13,kp [2,3,7,78,79,100] [.val 101 iT])]) MD
def TV(x:D (.ai fS (.ai fS .un))):Option (D bU):=ad (bF (ak x.1.2.2.2.2.2.2.2.2.2.1) (ak x.2.1.2.2.2.2.2.2.2.2.2.1)) (some (false,())) (ad (bF (ak x.1.2.2.2.2.2.2.2.2.2.2.1) (ak x.2.1.2.2.2.2.2.2.2.2.2.2.1)) (some (false,())) (ad (bF (ak x.1.2.2.2.2.2.2.2.2.2.2.2.2.1) (ak x.2.1.2.2.2.2.2.2.2.2.2.2.2.2.1)) (some (false,())) (ad (bF (ak x.1.2.2.2.2.2.2.2.2.2.2.2.2.2.2.2.2.2.2.1) (ak x.2.1.2.2.2.2.2.2.2.2.2.2.2.2.2.2.2.2.2.2.1)) (some (false,())) (ad (bF (ak x.1.2.2.2.2.1) (ak x.2.1.2.2.2.2.1)) (some (false,())) (ad (bF (ak x.1.2.2.2.2.2.1) (ak x.2.1.2.2.2.2.2.1)) (some (false,())) (ad (bF (ak x.1.2.2.2.2.2.2.2.2.2.2.2.1) (ak x.2.1.2.2.2.2.2.2.2.2.2.2.2.1)) (some (false,())) (aE (aF (α:=D iU) (λc=>ad (ay c.1 (ak x.1.2.2.2.2.2.2.2.2.2.1)) (am (az x.1.2.2.2.2.2.2.2.2.2.1 c.1) λa=>am (az x.2.1.2.2.2.2.2.2.2.2.2.1 c.1) λb=>ad (bI (eV (aY a.1 b.1) (eV (aY a.2.1 b.2.1) (eV (aY a.2.2.1 b.2.2.1) (eV (aY a.2.2.2.1 b.2.2.2.1) (eV (aY a.2.2.2.2.1 b.2.2.2.2.1) true)))))) (ao (ao (some (false,())))) (some (.inl (ah .i64 c.1 1,())))) (ao (some (.inl ())))) 1000000000 (0,())) λo=>aE (EN x.1.2.2.2.2.2.2.2.2.2.2.1 x.2.1.2.2.2.2.2.2.2.2.2.2.1) λp=>aE (aF (α:=D iU) (λe=>ad (ay e.1 (ak x.1.2.2.2.2.2.2.2.2.2.2.2.2.1)) (am (az x.1.2.2.2.2.2.2.2.2.2.2.2.2.1 e.1) λg=>am (az x.2.1.2.2.2.2.2.2.2.2.2.2.2.2.1 e.1) λf=>ad (bI (eV (aY g.1 f.1) (eV (aY g.2.1 f.2.1) true))) (ao (ao (some (false,())))) (some (.inl (ah .i64 e.1 1,())))) (ao (some (.inl ())))) 1000000000 (0,())) λl=>aE (EN x.1.2.2.2.2.2.2.2.2.2.2.2.2.2.2.2.2.2.2.1 x.2.1.2.2.2.2.2.2.2.2.2.2.2.2.2.2.2.2.2.2.1) λm=>aE (aF (α:=D iU) (λd=>ad (ay d.1 (ak x.1.2.2.2.2.2.2.2.2.2.2.2.1)) (am (az x.1.2.2.2.2.2.2.2.2.2.2.2.1 d.1) λh=>am (az x.2.1.2.2.2.2.2.2.2.2.2.2.2.1 d.1) λi=>am (yi (h,i,())) λj=>ad (bI j.1) (ao (ao (some (false,())))) (some (.inl (ah .i64 d.1 1,())))) (ao (some (.inl ())))) 1000000000 (0,())) λn=>am (MD (x.1,x.2.1,())) λk=>some (k.1,()))))))))
def k71:=kB dL ZQ 71 Tryz.f71 (hs [(0,kp [2,3] []),(1,kp [2,3,73] [.val 74 iT]),(4,kp [2,3] []),(5,kp [2,3,91] [.val 92 iT]),(8,kp [2,3] []),(9,kp [2,3,109] [.val 110 iT]),(12,kp [2,3] []),(13,kp [2,3,127] [.val 128 iT]),(16,kp [2,3] []),(17,kp [2,3,145] [.val 146 iT])]) TV
def Ip(x:D (.ai (.bw .bool) (.ai (.bw .bool) .un))):Option (D bU):=ad (bF (ak x.1) (ak x.2.1)) (some (false,())) (aE (aF (α:=D iU) (λa=>ad (ay a.1 (ak x.1)) (am (az x.1 a.1) λb=>am (az x.2.1 a.1) λc=>ad (bI (wL b c)) (ao (ao (some (false,())))) (some (.inl (ah .i64 a.1 1,())))) (ao (some (.inl ())))) 1000000000 (0,())) λd=>some (true,()))
def ZP:=kB dL k71 156 Tryz.f156 (hs [(0,[]),(1,kp [0,1,12] [.val 13 iT])]) Ip
def TU(x:D (.ai fS (.ai fS .un))):Option (D bU):=ad (bF x.1.2.2.2.2.2.2.2.2.1.1 x.2.1.2.2.2.2.2.2.2.2.1.1) (some (false,())) (ad (bF (ak x.1.2.2.2.2.2.2.2.2.1.2.1) (ak x.2.1.2.2.2.2.2.2.2.2.1.2.1)) (some (false,())) (ad (bF x.1.2.2.2.2.2.2.2.2.2.2.2.2.2.1.1 x.2.1.2.2.2.2.2.2.2.2.2.2.2.2.2.1.1) (some (false,())) (ad (bF (ak x.1.2.2.2.2.2.2.2.2.2.2.2.2.2.1.2.1) (ak x.2.1.2.2.2.2.2.2.2.2.2.2.2.2.2.1.2.1)) (some (false,())) (aE (aF (α:=D iU) (λa=>ad (ay a.1 (ak x.1.2.2.2.2.2.2.2.2.1.2.1)) (am (az x.1.2.2.2.2.2.2.2.2.1.2.1 a.1) λe=>am (az x.2.1.2.2.2.2.2.2.2.2.1.2.1 a.1) λh=>ad (bF e.1 h.1) (ao (ao (some (false,())))) (am (az x.1.2.2.2.2.2.2.2.2.1.2.1 a.1) λi=>am (az x.2.1.2.2.2.2.2.2.2.2.1.2.1 a.1) λj=>am (Ip (i.2.1,j.2.1,())) λk=>ad (bI k.1) (ao (ao (some (false,())))) (some (.inl (ah .i64 a.1 1,()))))) (ao (some (.inl ())))) 1000000000 (0,())) λm=>aE (aF (α:=D iU) (λd=>ad (ay d.1 (ak x.1.2.2.2.2.2.2.2.2.2.2.2.2.2.1.2.1)) (am (az x.1.2.2.2.2.2.2.2.2.2.2.2.2.2.1.2.1 d.1) λb=>am (az x.2.1.2.2.2.2.2.2.2.2.2.2.2.2.2.1.2.1 d.1) λc=>ad (bF b.1 c.1) (ao (ao (some (false,())))) (ad (bF (bs (0,[],()) b.2.1 0).1 (bs (0,[],()) c.2.1 0).1) (ao (ao (some (false,())))) (ad (bF (bs (0,[],()) b.2.1 1).1 (bs (0,[],()) c.2.1 1).1) (ao (ao (some (false,())))) (am (xf ((bs (0,[],()) b.2.1 0).2.1,(bs (0,[],()) c.2.1 0).2.1,())) λf=>ad (bI f.1) (ao (ao (some (false,())))) (am (xf ((bs (0,[],()) b.2.1 1).2.1,(bs (0,[],()) c.2.1 1).2.1,())) λg=>ad (bI g.1) (ao (ao (some (false,())))) (some (.inl (ah .i64 d.1 1,())))))))) (ao (some (.inl ())))) 1000000000 (0,())) λl=>some (true,())))))
def k72:=kB dL ZP 72 Tryz.f72 (hs [(0,kp [2,3] []),(1,kp [2,3,50] [.val 51 iT]),(4,[]),(5,kp [2,3,91] [.val 92 iT])]) TU
def Mr(x:D (.ai I0 (.ai I0 .un))):Option (D bU):=ad (bF (bs 0 x.1.2.1 0) (bs 0 x.2.1.2.1 0)) (some (false,())) (ad (bF (bs 0 x.1.2.1 1) (bs 0 x.2.1.2.1 1)) (some (false,())) (aE (aF (α:=D iU) (λa=>ad (ay a.1 8) (aC (cR a.1) (aC (ay a.1 8) (am (az x.1.1 a.1) λc=>aC (cR a.1) (aC (ay a.1 8) (am (az x.2.1.1 a.1) λd=>ad (bF c d) (ao (ao (some (false,())))) (some (.inl (ah .i64 a.1 1,())))))))) (ao (some (.inl ())))) 1000000000 (0,())) λe=>aE (aF (α:=D iU) (λb=>ad (ay b.1 0) none (ao (some (.inl ())))) 1000000000 (0,())) λf=>some (true,())))
def Y9:=kB dL k72 223 Tryz.f223 (hs [(0,kp [2,3] []),(1,kp [2,3] [.val 5 iT]),(4,[]),(5,kp [2,3] [.val 6 iT])]) Mr
def MC(x:D (.ai xl (.ai xl .un))):Option (D bU):=ad (aY x.1.1 x.2.1.1) (am (Mr (x.1.2.1,x.2.1.2.1,())) λa=>some (a.1,())) (some (false,()))
def ZN:=kB dL Y9 157 Tryz.f157 Tr.e MC
def TT(x:D (.ai fS (.ai fS .un))):Option (D bU):=ad (bF (ak x.1.2.2.2.2.2.2.2.2.2.2.2.2.2.2.1) (ak x.2.1.2.2.2.2.2.2.2.2.2.2.2.2.2.2.1)) (some (false,())) (ad (bF (ak x.1.2.2.2.2.2.2.2.2.2.2.2.2.2.2.2.2.2.2.2.1) (ak x.2.1.2.2.2.2.2.2.2.2.2.2.2.2.2.2.2.2.2.2.2.1)) (some (false,())) (aE (aF (α:=D iU) (λe=>ad (ay e.1 (ak x.1.2.2.2.2.2.2.2.2.2.2.2.2.2.2.1)) (am (az x.1.2.2.2.2.2.2.2.2.2.2.2.2.2.2.1 e.1) λa=>am (az x.2.1.2.2.2.2.2.2.2.2.2.2.2.2.2.2.1 e.1) λb=>ad (bF a.1 b.1) (ao (ao (some (false,())))) (ad (bF a.2.1 b.2.1) (ao (ao (some (false,())))) (ad (bF a.2.2.1 b.2.2.1) (ao (ao (some (false,())))) (ad (bF a.2.2.2.1 b.2.2.2.1) (ao (ao (some (false,())))) (ad (bF a.2.2.2.2.1 b.2.2.2.2.1) (ao (ao (some (false,())))) (ad (bI (wL a.2.2.2.2.2.1 b.2.2.2.2.2.1)) (ao (ao (some (false,())))) (ad (bI (eV (aY a.2.2.2.2.2.2.1.1 b.2.2.2.2.2.2.1.1) (eV (wL a.2.2.2.2.2.2.1.2.1 b.2.2.2.2.2.2.1.2.1) true))) (ao (ao (some (false,())))) (am (MC (a.2.2.2.2.2.2.2.1,b.2.2.2.2.2.2.2.1,())) λg=>ad (bI g.1) (ao (ao (some (false,())))) (am (Ip (a.2.2.2.2.2.2.2.2.1,b.2.2.2.2.2.2.2.2.1,())) λh=>ad (bI h.1) (ao (ao (some (false,())))) (some (.inl (ah .i64 e.1 1,())))))))))))) (ao (some (.inl ())))) 1000000000 (0,())) λl=>aE (aF (α:=D iU) (λf=>ad (ay f.1 (ak x.1.2.2.2.2.2.2.2.2.2.2.2.2.2.2.2.2.2.2.2.1)) (aE (am (az x.1.2.2.2.2.2.2.2.2.2.2.2.2.2.2.2.2.2.2.2.1 f.1) λc=>am (az x.2.1.2.2.2.2.2.2.2.2.2.2.2.2.2.2.2.2.2.2.2.1 f.1) λd=>ad (bF c.1 d.1) (ao (ao (ao (some (false,()))))) (ad (bF c.2.1 d.2.1) (ao (ao (ao (some (false,()))))) (ad (bI (wL c.2.2.1 d.2.2.1)) (ao (ao (ao (some (false,()))))) (ad (bF c.2.2.2.1 d.2.2.2.1) (ao (ao (ao (some (false,()))))) (ad (bF (ak c.2.2.2.2.1) (ak d.2.2.2.2.1)) (ao (ao (ao (some (false,()))))) (aE (EN c.2.2.2.2.1 d.2.2.2.2.1) λi=>some (.inl ()))))))) λj=>some (.inl (ah .i64 f.1 1,()))) (ao (some (.inl ())))) 1000000000 (0,())) λk=>some (true,())))
def k73:=kB dL ZN 73 Tryz.f73 (hs [(0,kp [2,3] []),(1,kp [2,3,30] [.val 31 iT]),(4,[]),(5,kp [2,3,110] [.val 111 iT]),(6,kp [2,3,110,111] []),(8,kp [2,3,110,111] []),(9,kp [2,3,9,10,110,111,161] [.val 162 iT])]) TT
def TS(x:D (.ai yo (.ai yo .un))):Option (D bU):=ad (bF x.1.1 x.2.1.1) (some (false,())) (ad (bF x.1.2.1 x.2.1.2.1) (some (false,())) (ad (bF x.1.2.2.1 x.2.1.2.2.1) (some (false,())) (ad (bF x.1.2.2.2.1 x.2.1.2.2.2.1) (some (false,())) (ad (bF x.1.2.2.2.2.1 x.2.1.2.2.2.2.1) (some (false,())) (ad (bF x.1.2.2.2.2.2.1 x.2.1.2.2.2.2.2.1) (some (false,())) (ad (bF x.1.2.2.2.2.2.2.1 x.2.1.2.2.2.2.2.2.1) (some (false,())) (ad (bF x.1.2.2.2.2.2.2.2.1 x.2.1.2.2.2.2.2.2.2.1) (some (false,())) (ad (bF x.1.2.2.2.2.2.2.2.2.1 x.2.1.2.2.2.2.2.2.2.2.1) (some (false,())) (ad (bF x.1.2.2.2.2.2.2.2.2.2.1 x.2.1.2.2.2.2.2.2.2.2.2.1) (some (false,())) (ad (bI (wL x.1.2.2.2.2.2.2.2.2.2.2.1 x.2.1.2.2.2.2.2.2.2.2.2.2.1)) (some (false,())) (ad (bI (wL x.1.2.2.2.2.2.2.2.2.2.2.2.1 x.2.1.2.2.2.2.2.2.2.2.2.2.2.1)) (some (false,())) (ad (bI (wL x.1.2.2.2.2.2.2.2.2.2.2.2.2.1 x.2.1.2.2.2.2.2.2.2.2.2.2.2.2.1)) (some (false,())) (ad (bF x.1.2.2.2.2.2.2.2.2.2.2.2.2.2.1 x.2.1.2.2.2.2.2.2.2.2.2.2.2.2.2.1) (some (false,())) (ad (bF (ak x.1.2.2.2.2.2.2.2.2.2.2.2.2.2.2.1) (ak x.2.1.2.2.2.2.2.2.2.2.2.2.2.2.2.2.1)) (some (false,())) (am (xf (x.1.2.2.2.2.2.2.2.2.2.2.2.2.2.2.2.1,x.2.1.2.2.2.2.2.2.2.2.2.2.2.2.2.2.2.1,())) λa=>ad (bI a.1) (some (false,())) (aE (EN x.1.2.2.2.2.2.2.2.2.2.2.2.2.2.2.1 x.2.1.2.2.2.2.2.2.2.2.2.2.2.2.2.2.1) λb=>some (true,())))))))))))))))))
def k74:=kB dL k73 74 Tryz.f74 (hs [(0,[]),(1,kp [2,3,119] [.val 120 iT])]) TS
def MA(x:D (.ai F1 (.ai F1 .un))):Option (D bU):=ad (bF x.1.1 x.2.1.1) (some (false,())) (ad (bF x.1.2.1 x.2.1.2.1) (some (false,())) (ad (bF x.1.2.2.1 x.2.1.2.2.1) (some (false,())) (ad (bF x.1.2.2.2.1 x.2.1.2.2.2.1) (some (false,())) (ad (bI (eV (aY x.1.2.2.2.2.1.1 x.2.1.2.2.2.2.1.1) (eV (aY x.1.2.2.2.2.1.2.1 x.2.1.2.2.2.2.1.2.1) (eV (aY x.1.2.2.2.2.1.2.2.1 x.2.1.2.2.2.2.1.2.2.1) (eV (aY x.1.2.2.2.2.1.2.2.2.1 x.2.1.2.2.2.2.1.2.2.2.1) (eV (aY x.1.2.2.2.2.1.2.2.2.2.1 x.2.1.2.2.2.2.1.2.2.2.2.1) (eV (aY x.1.2.2.2.2.1.2.2.2.2.2.1 x.2.1.2.2.2.2.1.2.2.2.2.2.1) true))))))) (some (false,())) (aE (aF (α:=D iU) (λa=>ad (ay a.1 0) none (ao (some (.inl ())))) 1000000000 (0,())) λb=>some (true,()))))))
def ZM:=kB dL k74 158 Tryz.f158 (hs [(0,[]),(1,kp [2,3,50] [.val 51 iT])]) MA
def Mz(x:D (.ai sB (.ai sB .un))):Option (D bU):=ad (bF x.1.1 x.2.1.1) (some (false,())) (ad (bF (ak x.1.2.1) (ak x.2.1.2.1)) (some (false,())) (ad (bF (ak x.1.2.2.1) (ak x.2.1.2.2.1)) (some (false,())) (aE (aF (α:=D iU) (λc=>ad (ay c.1 (ak x.1.2.1)) (am (az x.1.2.1 c.1) λa=>am (az x.2.1.2.1 c.1) λb=>ad (bI (eV (aY a.1 b.1) (eV (aY (bs 0 a.2.1 0) (bs 0 b.2.1 0)) (eV (aY (bs 0 a.2.1 1) (bs 0 b.2.1 1)) (eV (aY (bs 0 a.2.1 2) (bs 0 b.2.1 2)) (eV (aY (bs 0 a.2.1 3) (bs 0 b.2.1 3)) (eV (aY (bs 0 a.2.1 4) (bs 0 b.2.1 4)) (eV (aY (bs 0 a.2.1 5) (bs 0 b.2.1 5)) (eV (aY (bs 0 a.2.1 6) (bs 0 b.2.1 6)) (eV (aY (bs 0 a.2.1 7) (bs 0 b.2.1 7)) true)))))))))) (ao (ao (some (false,())))) (some (.inl (ah .i64 c.1 1,())))) (ao (some (.inl ())))) 1000000000 (0,())) λd=>aE (EN x.1.2.2.1 x.2.1.2.2.1) λe=>some (true,()))))
def ZK:=kB dL ZM 159 Tryz.f159 (hs [(0,kp [2,3] []),(1,kp [2,3,32] [.val 33 iT]),(4,[]),(5,kp [2,3,50] [.val 51 iT])]) Mz
def TR(x:D (.ai zO (.ai zO .un))):Option (D bU):=ad (bF x.1.1 x.2.1.1) (some (false,())) (ad (bF x.1.2.1 x.2.1.2.1) (some (false,())) (ad (bF x.1.2.2.1 x.2.1.2.2.1) (some (false,())) (ad (bF x.1.2.2.2.1 x.2.1.2.2.2.1) (some (false,())) (ad (bF x.1.2.2.2.2.1 x.2.1.2.2.2.2.1) (some (false,())) (ad (bF x.1.2.2.2.2.2.2.2.2.2.2.2.2.1 x.2.1.2.2.2.2.2.2.2.2.2.2.2.2.1) (some (false,())) (ad (bF x.1.2.2.2.2.2.2.2.2.2.2.2.2.2.1 x.2.1.2.2.2.2.2.2.2.2.2.2.2.2.2.1) (some (false,())) (ad (bF x.1.2.2.2.2.2.2.2.2.2.2.2.2.2.2.1 x.2.1.2.2.2.2.2.2.2.2.2.2.2.2.2.2.1) (some (false,())) (ad (bF x.1.2.2.2.2.2.2.2.2.2.2.2.2.2.2.2.1 x.2.1.2.2.2.2.2.2.2.2.2.2.2.2.2.2.2.1) (some (false,())) (ad (bF x.1.2.2.2.2.2.2.2.2.2.2.2.2.2.2.2.2.1 x.2.1.2.2.2.2.2.2.2.2.2.2.2.2.2.2.2.2.1) (some (false,())) (ad (bF (ak x.1.2.2.2.2.2.1) (ak x.2.1.2.2.2.2.2.1)) (some (false,())) (am (MA (x.1.2.2.2.2.2.2.1,x.2.1.2.2.2.2.2.2.1,())) λd=>ad (bI d.1) (some (false,())) (am (Mz (x.1.2.2.2.2.2.2.2.1,x.2.1.2.2.2.2.2.2.2.1,())) λe=>ad (bI e.1) (some (false,())) (am (yi (x.1.2.2.2.2.2.2.2.2.1,x.2.1.2.2.2.2.2.2.2.2.1,())) λf=>ad (bI f.1) (some (false,())) (am (yi (x.1.2.2.2.2.2.2.2.2.2.1,x.2.1.2.2.2.2.2.2.2.2.2.1,())) λg=>ad (bI g.1) (some (false,())) (am (yi (x.1.2.2.2.2.2.2.2.2.2.2.1,x.2.1.2.2.2.2.2.2.2.2.2.2.1,())) λh=>ad (bI h.1) (some (false,())) (am (yi (x.1.2.2.2.2.2.2.2.2.2.2.2.1,x.2.1.2.2.2.2.2.2.2.2.2.2.2.1,())) λi=>ad (bI i.1) (some (false,())) (aE (aF (α:=D iU) (λc=>ad (ay c.1 (ak x.1.2.2.2.2.2.1)) (am (az x.1.2.2.2.2.2.1 c.1) λa=>am (az x.2.1.2.2.2.2.2.1 c.1) λb=>ad (bI (eV (aY a.1 b.1) (eV (aY a.2.1 b.2.1) (eV (aY a.2.2.1 b.2.2.1) (eV (aY a.2.2.2.1 b.2.2.2.1) (eV (aY a.2.2.2.2.1 b.2.2.2.2.1) (eV (aY a.2.2.2.2.2.1 b.2.2.2.2.2.1) (eV (aY a.2.2.2.2.2.2.1 b.2.2.2.2.2.2.1) (eV (aY a.2.2.2.2.2.2.2.1 b.2.2.2.2.2.2.2.1) true))))))))) (ao (ao (some (false,())))) (some (.inl (ah .i64 c.1 1,())))) (ao (some (.inl ())))) 1000000000 (0,())) λj=>some (true,()))))))))))))))))))
def k75:=kB dL ZK 75 Tryz.f75 (hs [(0,[]),(1,kp [2,3,131] [.val 132 iT])]) TR
def Kx(x:D (.ai fS (.ai fS .un))):Option (D bU):=ad (bF x.1.2.1 x.2.1.2.1) (some (false,())) (ad (bF x.1.2.2.1 x.2.1.2.2.1) (some (false,())) (am (yi (x.1.2.2.2.1,x.2.1.2.2.2.1,())) λc=>ad (bI c.1) (some (false,())) (am (yi (x.1.2.2.2.2.2.2.2.2.2.2.2.2.2.2.2.2.1,x.2.1.2.2.2.2.2.2.2.2.2.2.2.2.2.2.2.2.1,())) λd=>ad (bI d.1) (some (false,())) (ad (bF (ak x.1.2.2.2.2.2.2.2.1) (ak x.2.1.2.2.2.2.2.2.2.1)) (some (false,())) (ad (bF (ak x.1.2.2.2.2.2.2.2.2.2.2.2.2.2.2.2.2.2.1) (ak x.2.1.2.2.2.2.2.2.2.2.2.2.2.2.2.2.2.2.2.1)) (some (false,())) (am (TX (x.1.2.2.2.2.2.2.1,x.2.1.2.2.2.2.2.2.1,())) λi=>ad (bI i.1) (some (false,())) (am (TW (x.1.2.2.2.2.2.2.2.2.2.2.2.2.2.2.2.1,x.2.1.2.2.2.2.2.2.2.2.2.2.2.2.2.2.2.1,())) λj=>ad (bI j.1) (some (false,())) (am (TV (x.1,x.2.1,())) λk=>ad (bI k.1) (some (false,())) (am (TU (x.1,x.2.1,())) λl=>ad (bI l.1) (some (false,())) (am (TT (x.1,x.2.1,())) λm=>ad (bI m.1) (some (false,())) (aE (aF (α:=D iU) (λb=>ad (ay b.1 (ak x.1.2.2.2.2.2.2.2.1)) (am (az x.1.2.2.2.2.2.2.2.1 b.1) λn=>am (az x.2.1.2.2.2.2.2.2.2.1 b.1) λo=>am (TS (n,o,())) λe=>ad (bI e.1) (ao (ao (some (false,())))) (some (.inl (ah .i64 b.1 1,())))) (ao (some (.inl ())))) 1000000000 (0,())) λp=>aE (aF (α:=D iU) (λa=>ad (ay a.1 (ak x.1.2.2.2.2.2.2.2.2.2.2.2.2.2.2.2.2.2.1)) (am (az x.1.2.2.2.2.2.2.2.2.2.2.2.2.2.2.2.2.2.1 a.1) λf=>am (az x.2.1.2.2.2.2.2.2.2.2.2.2.2.2.2.2.2.2.2.1 a.1) λg=>am (TR (f,g,())) λh=>ad (bI h.1) (ao (ao (some (false,())))) (some (.inl (ah .i64 a.1 1,())))) (ao (some (.inl ())))) 1000000000 (0,())) λq=>some (true,()))))))))))))
def k16:=kB dL k75 16 Tryz.f16 (hs [(0,kp [2,3] []),(1,kp [2,3,87] [.val 88 iT]),(4,[]),(5,kp [2,3,106] [.val 107 iT])]) Kx
def F4(x:D (.ai ce .un)):Option (D bU):=am (IJ (x.1,())) λc=>ad (bI c.1) (some (true,())) (am (zj (x.1,())) λa=>am (FP (x.1,())) λb=>ad (aY a.2.1 b.2.1) (am (Kx (a.1,b.1,())) λd=>ad d.1 (some (true,())) (some (false,()))) (some (false,())))
theorem n4:ft.fn.ap 4=some Tryz.f4:=by kernel_rfl
theorem e4:ft.ext.ap 4=none:=by kernel_rfl
def k4:=kB dL k16 4 Tryz.f4 Tr.e F4
end Go.Bo
namespace Go.Ls
open Go Go.Hm Go.RowKit Go.Wk Go.ChangeShapes Go.WideShapes Go.Deep
structure vR (w : World) (hp : Tr Hm.Obj) (nx : Nat) (ρ : Rn) : Prop where
  qY : eT ρ hp w
  fr : ∀ b, nx ≤ b → hp.ap b = none
  un : ∀ b, nx ≤ b → ρ b = none
  ro : ∀ b o, hp.ap b = some o → oB o = false
structure Mo (hp : Tr Hm.Obj) (nx : Nat) (ρ : Rn) (hp' : Tr Hm.Obj) (nx' : Nat) (ρ' : Rn) : Prop where
  le : nx ≤ nx'
  wb : ∀ b, b < nx → hp'.ap b = hp.ap b
  rn : ∀ b, b < nx → ρ' b = ρ b
theorem Mo.refl{hp:Tr Hm.Obj}{nx:Nat}{ρ:Rn}:Mo hp nx ρ hp nx ρ:=⟨au _,λ_ _=>rfl,λ_ _=>rfl⟩
theorem Mo.trans{hp d e:Tr Hm.Obj}{nx f nx2:Nat}{ρ g h:Rn}(a:Mo hp nx ρ d f g)(b:Mo d f g e nx2 h):Mo hp nx ρ e nx2 h:=⟨aM a.le b.le,λx c=>by rw[b.wb x (aP c a.le),a.wb x c],λx c=>by rw[b.rn x (aP c a.le),a.rn x c]⟩
theorem Mo.ext{w:World}{hp f:Tr Hm.Obj}{nx g:Nat}{ρ d:Rn}(a:Mo hp nx ρ f g d)(i:vR w hp nx ρ):Hm.sQ ρ d:=by
 intro b r c;by_cases e:b<nx;.rw[a.rn b e];exact c
 .rw[i.un b (by omega)]at c;cases c
def Zl(n:Nat):Nat->Prop:=λb=>b<n
theorem Mo.rd{hp c:Tr Hm.Obj}{nx d:Nat}{ρ f:Rn}(a:Mo hp nx ρ c d f){u:U}{l:List HV}{x:D u}(h:dY hp (Zl nx) u l x):dY c (Zl d) u l x:=h.mono (λb e=>aP e a.le) a.wb
def u5:(u:U)->D u->Prop| .int k,x=>(Lit.int k x).wf=true| .bw e,c=>(∀x,x∈c->u5 e x)/\c.length<=140737488355328| .ai a b,x=>u5 a x.1/\u5 b x.2| .im n e,c=>c.length=n/\∀x,x∈c->u5 e x|_,_=>True
def pV(P:Program)(t:TypeId)(u:U):Prop:=∀{f:Type}(j:TypeId×Value->f)(w:World)(k:Nat)(b:List Value)(x:DataW f×List MemPlace),DataW.trod j P w 0 (λ_=>true) true k t b=some x->(∀n,n∈x.1.weights P t->n<=reachBytes)->∀g h i,vR w g h i->∃c d e l a,vR w c d e/\Mo g h i c d e/\Hm.dN e l b/\dY c (Zl d) u l a/\u5 u a/\∀v,v∈b->v.oneCell'=true
section
variable{P:Program}{t e:TypeId}{u:U}
theorem wk{ρ:Rn}{a:HV}{v:Value}(h:Hm.VR ρ a v):Hm.dN ρ [a] [v]:=by unfold Hm.dN;exact⟨v,[],rfl,h,by unfold Hm.dN;rfl⟩
theorem Gw{k:IntKind}(f:P.underlying t=some (.int k)):pV P t (.int k):=by intro j m w o l x g _ d h i b;obtain⟨n,rfl,rfl,c⟩:=DataW.trod_int f g;exact⟨d,h,i,[.int k n],n,b,Mo.refl,wk (by unfold Hm.VR;rfl),rfl,c,λv a=>by rw[cq]at a;subst a;rfl⟩
theorem qL{H:Type}:∀{l:List (DataW H)}{d:DataW H},d∈l->∀n∈d.weights P e,n∈DataW.weightsAll P e l
 |[],_,h,_,_=>by cases h
 |b::l,d,h,n,a=>by
  unfold DataW.weightsAll;rcases cm.1 h with rfl|h;.exact eo _ a
  .exact cW _ (qL h n a)
theorem QD(b o i:Nat):(⟨b,o,none⟩:Addr).add i=⟨b,o+i,none⟩:=by
 unfold Addr.add;split
 .
  rename_i h;have h:i=0:=by simpa using h
  rw[h];rfl
 .rfl
theorem Tz(w:World)(b d i s:Nat){cs:List Value}(h:w.cells? 0 ((⟨b,d,none⟩:Addr).add (i*s)) s=some cs):cs.length=s/\∀j v,cs[j]?=some v->w.cell? ⟨b,d+i*s+j,none⟩=some v:=by
 obtain⟨_,a,f⟩:=World.cells?_some h;refine⟨a,λj v c=>?_⟩;have g:j<s:=by rw[<-a];exact(aj.1 c).1
 have:=f j g;rw[c]at this;rw[QD,QD]at this;exact this
theorem HL{ρ:Rn}{a b:List HV}{x y:List Value}(h1:Hm.dN ρ a x)(h2:Hm.dN ρ b y):Hm.dN ρ (a++b) (x++y):=Hm.BI h1 h2
theorem PP{w:World}{hp:Tr Hm.Obj}{nx:Nat}{ρ:Rn}(hi:vR w hp nx ρ){b d s len cap:Nat}{l:List HV}{q:List Value}(z0:b<w.heap.size)(y0:Hm.dN ρ l q)(x0:l.length=len*s)(g:∀j v,q[j]?=some v->w.cell? ⟨b,d+j,none⟩=some v)(h1:∀v,v∈q->v.oneCell'=true):vR w (hp.set nx (.cp ⟨false,s,l.length,cr .e 0 l⟩)) (nx+1) (pf ρ nx ⟨b,d,len*s,s,d+cap*s⟩)/\Mo hp nx ρ (hp.set nx (.cp ⟨false,s,l.length,cr .e 0 l⟩)) (nx+1) (pf ρ nx ⟨b,d,len*s,s,d+cap*s⟩):=by
 have p:Mo hp nx ρ (hp.set nx (.cp ⟨false,s,l.length,cr .e 0 l⟩)) (nx+1) (pf ρ nx ⟨b,d,len*s,s,d+cap*s⟩):=⟨dg _,λc g=>Tr.bS _ _ (by omega),λc g=>ku _ _ (by omega)⟩;have y:=p.ext hi
 have n:∀c o,(hp.set nx (.cp ⟨false,s,l.length,cr .e 0 l⟩)).ap c=some o->oB o=false:=by
  intro c o f;rw[Tr.dk]at f;split at f;.cases f;rfl
  .exact hi.ro c o f
 refine⟨⟨⟨λc x r a k=>?_,λc t0 r a k=>?_,λc u0 o s0 r r0 _ f v0=>?_⟩,λc g=>?_,λc g=>?_,n⟩,p⟩
 .
  rw[Tr.dk]at a;split at a;.rename_i B;subst B;cases a;rw[fM]at k;cases k;refine⟨x0,rfl,z0,λi v C m=>?_,λh=>by cases h⟩;have C:i<l.length:=C;have m:(cr .e 0 l).ap i=some v:=m;rw[gq,aA (by omega),iR]at m;obtain⟨z,A,D⟩:=Hm.jW y0 i v m;exact⟨z,g i z A,D.ext y,h1 z (Y A)⟩
  .
   rename_i B
   have w0:c<nx:=by
    rcases cI c nx with h|h;.exact h
    .rw[hi.fr c h]at a;cases a
   rw[p.rn c w0]at k;exact(hi.qY.cp c x r a k).mv y (au _) rfl
 .have:=n c _ a;cases this
 .have:=n c o f;rw[v0]at this;cases this
 .rw[Tr.bS _ _ (by omega)];exact hi.fr c (by omega)
 .rw[ku _ _ (by omega)];exact hi.un c (by omega)
theorem mA(s0:P.underlying t=some (.slice e))(s9:1<=P.bytesOf e)(n9:P.cellsOf e=u.size)(q9:1<=u.size)(h:pV P e u):pV P t (.bw u):=by
 intro H x9 w fuel cs x g e0 f o p r;rcases open_slice s0 g with⟨rfl,rfl⟩|⟨a,d,cap,m,n,m0,Pl,rfl,_,j0,i0,h0,rfl,t9⟩;.exact⟨f,o,p,[.cM],[],r,Mo.refl,wk (by unfold Hm.VR;rfl),⟨.cM,rfl,.inl ⟨rfl,.inl rfl⟩⟩,⟨λx g=>(by cases g),a5 _⟩,λv c=>by rw[cq]at c;subst c;rfl⟩
 .
  rw[aA rfl]at h0;subst h0;have hreach:m<=140737488351232:=by have:=e0 ((((List.range d).map m0).length+((List.range (m-d)).map λj=>m0 (d+j)).length)*P.bytesOf e) (by simp[DataW.weights,s0]);simp only[db,List.length_range]at this;unfold reachBytes at this;have k0:(d+(m-d))*1<=(d+(m-d))*P.bytesOf e:=jz _ s9;omega
  have t0:∀i,i<d->∃q,w.cells? 0 (a.add (i*P.cellsOf e)) (P.cellsOf e)=some q/\∀f o p,vR w f o p->∃s y A l a,vR w s y A/\Mo f o p s y A/\Hm.dN A l q/\dY s (Zl y) u l a/\u5 u a/\∀v,v∈q->v.oneCell'=true:=by intro i l9;obtain⟨q,u9,k0⟩:=t9 i (by omega);exact⟨q,u9,h x9 w n q _ k0 λk j9=>e0 k (by simp only[DataW.weights,s0];exact cT _ (eo _ (qL (vh.2 ⟨i,eC.2 l9,rfl⟩) k j9)))⟩
  rw[n9]at t0;by_cases v9:d=0;.subst v9;exact⟨f,o,p,[.lV],[],r,Mo.refl,wk (by unfold Hm.VR;exact⟨a,m,rfl,i0⟩),⟨.lV,rfl,.inl ⟨rfl,.inr (.inr rfl)⟩⟩,⟨λx g=>(by cases g),a5 _⟩,λv c=>by rw[cq]at c;subst c;rfl⟩
  .
   obtain⟨b,z,a0⟩:=a;obtain⟨c0,p9,_⟩:=t0 0 (by omega);obtain⟨_,hl0,o9⟩:=World.cells?_some p9;have i9:∃v,w.cell? ((⟨b,z,a0⟩:Addr).add 0)=some v:=by have:=o9 0 q9;rw[G (by omega)]at this;simp only[fP]at this;exact⟨_,this⟩
   obtain⟨v0,f0⟩:=i9;have g9:a0=none:=by simpa [Addr.add]using World.cell?_spot f0
   subst g9;have r9:b<w.heap.size:=World.block_lt_of_cell? _ _ f0
   have main:∀k i,i+k=d->∀f o p,vR w f o p->∃s y A l x0 C,vR w s y A/\Mo f o p s y A/\Hm.dN A l x0/\nO (dY s (Zl y) u) l C/\C.length=k/\(∀x,x∈C->u5 u x)/\(∀v,v∈x0->v.oneCell'=true)/\∀j v,x0[j]?=some v->w.cell? ⟨b,z+i*u.size+j,none⟩=some v:=by
    intro k
    induction k with
     |zero=>exactλi _ f o p r=>⟨f,o,p,[],[],[],r,Mo.refl,by unfold Hm.dN;rfl,rfl,rfl,λx g=>(by cases g),λx g=>(by cases g),λj v c=>by simp at c⟩
     |succ k e9=>
     intro i hik f o p r;obtain⟨q,l0,w0⟩:=t0 i (by omega);obtain⟨g0,z0,z9,d0,y9,D,q0,n0,y0,v0,o0⟩:=w0 f o p r;obtain⟨h9,nx2,ρ2,c0,vs2,xs2,r0,B,v2,r2,n2,w9,o2,q2⟩:=e9 (i+1) (by omega) g0 z0 z9 D;obtain⟨p1,p2⟩:=Tz w b z i u.size l0;refine⟨h9,nx2,ρ2,d0++c0,q++vs2,y9::xs2,r0,q0.trans B,HL (n0.ext (B.ext D)) v2,⟨d0,c0,rfl,B.rd y0,r2⟩,by simp[n2],λx g=>?_,λv c=>?_,λj v c=>?_⟩
     .
      rcases cm.1 g with rfl|g;.exact v0
      .exact w9 x g
     .
      rcases bR.1 c with c|c;.exact o0 v c
      .exact o2 v c
     .
      by_cases k9:j<q.length;.rw[bL k9]at c;exact p2 j v c
      .rw[bA (by omega)]at c;have:=q2 (j-q.length) v c;rw[fY,su,show z+(i*u.size+u.size)+(j-q.length)=z+i*u.size+j by omega]at this;exact this
   obtain⟨g0,z0,z9,l,x0,C,D,q0,n0,y0,p0,v0,o0,b0⟩:=main d 0 (by omega) f o p r;rw[fP,fu]at b0;have u0:=nk (z:=u.size) (λ_ _ h=>h.len) y0;rw[p0]at u0;obtain⟨r0,B⟩:=PP (cap:=m) D r9 n0 u0 b0 o0;refine⟨_,_,_,[.sl z0 0 d],C,r0,q0.trans B,wk ?_,?_,⟨v0,by omega⟩,λv c=>by rw[cq]at c;subst c;rfl⟩
   .
    unfold Hm.VR;have hmul:d*u.size<=m*u.size:=co _ j0;refine⟨_,m,fM _ _ _,rfl,j0,?_,?_,i0,by omega⟩;.show d*u.size<=0+m*u.size;omega
    .show z+0+m*u.size<=z+m*u.size;omega
   .
    refine⟨_,rfl,.inr ⟨z0,0,_,⟨by rw[p0],rfl⟩,a7 _,Tr.a8 _ _ _,?_,by omega,λi x f9=>?_⟩⟩;.show 0+C.length*u.size<=l.length;rw[p0,u0];omega
    .obtain⟨l0,w0,c3,d9,c9,b9,a9⟩:=lw (z:=u.size) (λ_ _ h=>h.len) y0 f9;refine⟨w0,?_,B.rd a9⟩;have m9:=il (T:=(.e:Tr HV)) (w:=false) (z:=u.size) (n:=l.length) (p:=0) (c:=l) (by omega);exact fz m9 d9 c9 b9
def LZ(P:Program)(ga o:Nat)(d:List Field)(u:U):Prop:=∀{m:Type}(s:TypeId×Value→m)(w:World)(n:Nat)(b:List Value)(h:List (DataW m×List MemPlace)),b.length=ga→h.length=d.length→(∀(i:Nat)(c:Field),d[i]?=some c→DataW.trod s P w 0 (fun _=>true) true n c.type ((b.drop c.offset).take (P.cellsOf c.type))=h[i]?)→(∀k,k∈DataW.weightsEach P (d.map (·.type)) (h.map (·.1))→k≤reachBytes)→∀p q r,vR w p q r→∃f g j l a,vR w f g j∧Mo p q r f g j∧Hm.dN j l (b.drop o)∧dY f (Zl g) u l a∧u5 u a∧∀v,v∈b.drop o→v.oneCell'=true
theorem o3{ga o:Nat}(d:Nat.beq o ga=true):LZ P ga o [] .un:=by intro j k w n a r l m p q f h i c;have:=aw d;have b:a.drop o=[]:=ed (by omega);rw[b];exact⟨f,h,i,[],(),c,Mo.refl,by unfold Hm.dN;rfl,rfl,trivial,λv g=>by cases g⟩
theorem da{ga o s:Nat}{fl:Field}{d:List Field}{u v:U}(h:pV P fl.type u)(s0:Nat.beq fl.offset o=true)(n0:P.cellsOf fl.type=s)(r:LZ P ga (o+s) d v):LZ P ga o (fl::d) (.ai u v):=by
 intro y9 m w n b c v0 f p q q0 k0 b0 t0;have r0:=aw s0
 match c,f with
  |x::c,f=>
   have y:=p 0 fl rfl;rw[n0,r0]at y;obtain⟨p0,j0,a0,B,D,A,l0,d0,f0,x0,h0⟩:=h m w n _ _ y (fun k g=>q k (by show k∈DataW.weightsEach P (fl.type::d.map (·.type)) (x.1::c.map (·.1));unfold DataW.weightsEach;exact eo _ g)) q0 k0 b0 t0;obtain⟨o0,i0,z9,C,z0,m0,j,c0,e0,w0,g0⟩:=r m w n b c v0 (by simpa using f) (fun i y0 u0=>p (i+1) y0 (by simpa using u0)) (fun k g=>q k (by show k∈DataW.weightsEach P (fl.type::d.map (·.type)) (x.1::c.map (·.1));unfold DataW.weightsEach;exact cW _ g)) p0 j0 a0 A;have l:b.drop o=(b.drop o).take s++b.drop (o+s):=by rw[←iL];exact(dE s (b.drop o)).symm
   refine⟨o0,i0,z9,B++C,(D,z0),m0,l0.trans j,?_,⟨B,C,rfl,j.rd f0,e0⟩,⟨x0,w0⟩,fun z a=>?_⟩;·rw[l];exact HL (d0.ext (j.ext A)) c0
   ·
    rw[l]at a;rcases bR.1 a with a|a;·exact h0 z a
    ·exact g0 z a
theorem mL{a:Array Field}{ga:Nat}(b:P.underlying t=some (.struct a))(o:P.cellsOf t=ga)(r:LZ P ga 0 a.toList u):pV P t u:=by intro B d w C c x s q p y A j;obtain⟨z,n,_,rfl,m,v,g⟩:=DataW.trod_struct b s;exact r d w n c z (by rw[m,o]) (by rw[v];simp) (λi f h=>g i f (by simpa using h)) (λk l=>q k (by simp only[DataW.weights,b];exact l)) p y A j
theorem pV.arg(h:pV P t u){H:Type}{enc:TypeId×Value->H}{w:World}{v:Value}{d:DataW H}{ps:List MemPlace}(hd:DataW.Trod enc P w 0 (λ_=>true) true t v d ps)(C:∀n,n∈d.weights P t->n<=reachBytes)(f:(u.ag=true/\∃xs,v= .agg xs)\/u.ag=false/\v.cells.toList=[v]):∀hp nx ρ,vR w hp nx ρ->∃hp' nx' i s a,vR w hp' nx' i/\Mo hp nx ρ hp' nx' i/\Hm.VR i s v/\tT hp' (Zl nx') u s a/\u5 u a:=by
 intro hp nx ρ B;obtain⟨y,hd⟩:=hd;obtain⟨k,p,q,l,a,m,o,b,g,j,D⟩:=h enc w y _ _ hd C hp nx ρ B;rcases f with⟨c,xs,rfl⟩|⟨c,f⟩
 .
  refine⟨k,p,q,.agg l,a,m,o,?_,?_,j⟩;.unfold Hm.VR;exact⟨xs.toList,by simp,b,D⟩
  .unfold tT;rw[c];exact⟨l,rfl,g⟩
 .
  rw[f]at b;have z0:=g.len
  have A:∃s,l=[s]:=by have:=Hm.eW b;cases l with
   |nil=>cases this
   |cons s l=>cases l with
   |nil=>exact⟨s,rfl⟩
   |cons _ _=>cases this
  obtain⟨s,rfl⟩:=A;unfold Hm.dN at b;obtain⟨z,y0,r,x,_⟩:=b;cases r;refine⟨k,p,q,s,a,m,o,x,?_,j⟩;unfold tT;rw[c];exact g
end
theorem S5{P:Program}{cx:Cx}(z:gm P cx){f:FuncId}{fn:Func}(A:cx.fn.ap f=some fn)(x0:cx.ext.ap f=none){a:U}{F:D a->Option (D (.ai .bool .un))}(B:tZ cx f ⟨a,.ai .bool .un,F⟩){w:World}{hp:Tr Hm.Obj}{nx:Nat}{ρ:Rn}(hi:vR w hp nx ρ){args:List HV}{us:List Value}{x:D a}(z0:Hm.dN ρ args us)(y:iz hp (Zl nx) a args x)(hF:F x=some (true,())):yh P f us.toArray w λv q=>v= .bool true/\Kp [] w q:=by
 obtain⟨l,C,o0,s,⟨p,k⟩,t0,s0,r0,q0,p0,m⟩:=B ⟨0,.e,hp,nx,[],.undef⟩ (Zl nx) args x (true,()) hi.fr (λb j=>by cases j) (λb j=>j) y hF;have k:=k p (au _);unfold iz at m;obtain⟨v,r,rfl,g,n⟩:=m;unfold iz at n;subst n;have y0:v= .bool true:=by unfold tT at g;have g:dY C s .bool [v] true:=g;unfold dY at g;simpa using g
 subst y0;refine yh.mono (DD z p A x0 k hi.qY hi.fr (λi d _=>hi.un i d) z0) ?_;rintro v q⟨u0,d,h⟩;have d:Hm.VR u0 (.bool true) v:=d;unfold Hm.VR at d;refine⟨d,h.kp.os,h.kp.tape,h.kp.output,h.kp.size,λb j _=>h.kp.block b j ?_⟩;rintro⟨c,o,r,w0,v0,_⟩;have:=hi.ro c o w0;rw[v0]at this;cases this
theorem JE(w:World):vR w .e 0 λ_=>none:=by
 have a:∀(b:Nat)(o:Hm.Obj),(Tr.e:Tr Hm.Obj).ap b=some o->False:=λb o h=>by rw[Tr.kN]at h;cases h
 exact⟨⟨λb x r h=>(a b _ h).elim,λb x r h=>(a b _ h).elim,λb c o d r f _ h=>(a b _ h).elim⟩,λb _=>Tr.kN b,λ_ _=>rfl,λb o h=>(a b o h).elim⟩
section
variable{α β:Type}
theorem JR(x y:Option α):ad true x y=x:=rfl
theorem ng(x y:Option α):ad false x y=y:=rfl
theorem lp(x:Option α):aC true x=x:=rfl
theorem cC(x:α)(f:α->Option β):am (some x) f=f x:=rfl
theorem hI(x:α)(f:α->Option β):aE (some (.inl x)) f=f x:=rfl
theorem zE(x:β)(f:α->Option β):aE (some (.inr x)) f=some x:=rfl
theorem A9(x:β):ao (α:=α) (some x)=some (.inr x):=rfl
theorem lG(b:Bool)(x y:Option α):ad b x y=if b=true then x else y:=by cases b<;>rfl
theorem gQ(a b:Int):ay a b=decide (a<b):=rfl
theorem jv(a b:Int):cH a b=decide (a<=b):=rfl
theorem gi(a b:Int):aY a b=decide (a=b):=rfl
theorem gI(a b:Int):bF a b=!decide (a=b):=rfl
theorem rb(a:Bool):bI a=!a:=rfl
theorem aJ(l:List α):ak l=(l.length:Int):=rfl
theorem kZ{n:Int}(h1: -9223372036854775808<=n)(h2:n<=9223372036854775807):fT .i64 n=n:=by unfold fT A5;simp only[ar h1,ar h2,Bool.and_true,gg]
theorem cz{a b:Int}(h1: -9223372036854775808<=a+b)(h2:a+b<=9223372036854775807):ah .i64 a b=a+b:=kZ h1 h2
theorem fa{a b:Int}(h1: -9223372036854775808<=a-b)(h2:a-b<=9223372036854775807):bb .i64 a b=a-b:=kZ h1 h2
theorem bH{i:Nat}(h:i<=140737488355328):ah .i64 (i:Int) 1=((i+1:Nat):Int):=by rw[cz (by omega) (by omega)];rfl
theorem aI{l:List α}{i:Nat}{x:α}(h:l[i]?=some x):az l (i:Int)=some x:=h
theorem rO{l:List α}{i:Nat}{x:α}(h:l[i]?=some x):ay (i:Int) (ak l)=true:=by have:=(aj.1 h).1;rw[gQ,aJ];exact ar (by omega)
theorem ER{l:List α}:ay (l.length:Int) (ak l)=false:=by rw[gQ,aJ];exact aQ (by omega)
theorem gc{l:List α}{i:Nat}{x:α}(h:l[i]?=some x){n:Nat}(a:l.length<=n):i<=n:=by have:=(aj.1 h).1;omega
end
section
variable{α β:Type}
theorem el{b:Bool}(h:b=true)(x y:Option α):ad b x y=x:=by rw[h];rfl
theorem dS{b:Bool}(h:b=false)(x y:Option α):ad b x y=y:=by rw[h];rfl
theorem ei{l:List α}{i:Nat}{x:α}(h:l[i]?=some x){K:α->Option β}{e:Option β}:ad (ay (i:Int) (ak l)) (am (az l (i:Int)) K) e=K x:=by rw[el (rO h),aI h];rfl
theorem ek{l:List α}{t e:Option β}:ad (ay (l.length:Int) (ak l)) t e=e:=dS ER _ _
def aO(lo hi n:Int):Bool:=decide (lo<=n)&&decide (n<=hi)
theorem fB(n lo hi:Int)(e r:Option α):ad (ay n lo) e (ad (ay hi n) e r)=if aO lo hi n=true then r else e:=by
 rw[lG,lG,gQ,gQ];unfold aO;by_cases a:n<lo
 .
  have:¬lo<=n:=by omega
  simp[a,this]
 .
  have:lo<=n:=by omega
  by_cases b:hi<n
  .
   have:¬n<=hi:=by omega
   simp[a,b,this]
  .
   have:n<=hi:=by omega
   simp[a,b,this,‹lo<=n›]
theorem td(n lo hi:Int)(e r:Option α):ad (ay n lo) e (ad (cH hi n) e r)=if aO lo (hi-1) n=true then r else e:=by
 have h:cH hi n=ay (hi-1) n:=by rw[gQ,jv];congr 1;apply propext;omega
 rw[h,fB]
end
theorem zx{α:Type}(a b:Bool)(x e:α):(if a=true then if b=true then x else e else e)=if(a&&b)=true then x else e:=by cases a<;>cases b<;>rfl
def fW{A B R X:Type}(g:Nat->B->X->Option (Sum B R))(fin:B->A):Nat->B->List X->Option (Sum A R)|_,b,[]=>some (.inl (fin b))|i,b,x::l=>match g i b x with|some (.inl a)=>fW g fin (i+1) a l|some (.inr r)=>some (.inr r)|none=>none
def lR{σ A B R X:Type}(st:B->Nat->σ)(g:Nat->B->X->Option (Sum B R))(b:B)(i:Nat)(x:X):Option (Sum σ (Sum A R)):=match g i b x with|some (.inl a)=>some (.inl (st a (i+1)))|some (.inr r)=>some (.inr (.inr r))|none=>none
theorem gO{σ A B R X:Type}{st:B->Nat->σ}{P:Nat->B->X->Bool}{s:Nat->B->X->B}{q:Nat->B->X->R}{b:B}{i:Nat}{x:X}:lR (A:=A) st (λi b x=>if P i b x=true then some (.inl (s i b x))else some (.inr (q i b x))) b i x=if P i b x=true then some (.inl (st (s i b x) (i+1)))else some (.inr (.inr (q i b x))):=by
 unfold lR;by_cases h:P i b x=true;.simp only[h,fI]
 .simp only[h,fc];rfl
theorem pv{σ A B R X:Type}{f:σ->Option (Sum σ (Sum A R))}{xs:List X}{st:B->Nat->σ}{g:Nat->B->X->Option (Sum B R)}{fin:B->A}(j:∀b i x,xs[i]?=some x->f (st b i)=lR st g b i x)(h:∀b,f (st b xs.length)=some (.inr (.inl (fin b)))):∀(l:List X)(i:Nat)(b:B)(a:Nat),xs.drop i=l->i+l.length=xs.length->l.length<a->i4 f a (st b i)=fW g fin i b l
 |[],i,b,a,c,d,e=>by
  cases a with
   |zero=>omega
   |succ a=>
   show aE (f (st b i)) (i4 f a)=_;have:i=xs.length:=by simpa using d
   subst this;rw[h b];rfl
 |x::l,i,b,a,c,d,e=>by
  cases a with
   |zero=>omega
   |succ a=>
   have n:xs[i]?=some x:=by
    have:(xs.drop i)[0]?=some x:=by rw[c];rfl
    rw[gh]at this;simpa using this
   have m:xs.drop (i+1)=l:=by rw[<-iL,c];rfl
   show aE (f (st b i)) (i4 f a)=_;rw[j b i x n];unfold lR fW
   cases o:g i b x with
    |none=>rfl
    |some q=>cases q with
    |inl k=>exact pv j h l (i+1) k a m (by simp only[bp]at d;omega) (by simp only[bp]at e;omega)
    |inr r=>rfl
theorem et{σ A B R X:Type}{f:σ->Option (Sum σ (Sum A R))}{xs:List X}{st:B->Nat->σ}{g:Nat->B->X->Option (Sum B R)}{fin:B->A}{b:B}{a:Nat}{c:σ}(j:∀b i x,xs[i]?=some x->f (st b i)=lR st g b i x)(h:∀b,f (st b xs.length)=some (.inr (.inl (fin b))))(d:c=st b 0)(e:xs.length<a):aF f a c=fW g fin 0 b xs:=by rw[hN,d];exact pv j h xs 0 b a rfl (by omega) e
theorem iV{A R X:Type}{p:X->Bool}{r:R}{a:A}:∀(l:List X)(i:Nat),fW (λ_(_:Unit)x=>if p x=true then some (.inl ())else some (.inr r)) (λ_=>a) i () l=if l.all p=true then some (.inl a)else some (.inr r)
 |[],i=>rfl
 |x::l,i=>by
  unfold fW;by_cases h:p x=true;.simp only[h,fI,cP,dF];exact iV l (i+1)
  .simp only[h,fc,cP,mt];simp
theorem xN{A B R X:Type}{p:X->Bool}{s:B->X->B}{r:R}{fin:B->A}:∀(l:List X)(i:Nat)(b:B),fW (λ_ b x=>if p x=true then some (.inl (s b x))else some (.inr r)) fin i b l=if l.all p=true then some (.inl (fin (l.foldl s b)))else some (.inr r)
 |[],i,b=>rfl
 |x::l,i,b=>by
  unfold fW;by_cases h:p x=true;.simp only[h,fI,cP,dF,fw];exact xN l (i+1) (s b x)
  .simp only[h,fc,cP,mt];simp
def mU{X:Type}(p:Nat->X->Bool):Nat->List X->Bool|_,[]=>true|i,x::l=>p i x&&mU p (i+1) l
theorem wJ{A R X:Type}{p:Nat->X->Bool}{r:R}{a:A}:∀(l:List X)(i:Nat),fW (λi(_:Unit)x=>if p i x=true then some (.inl ())else some (.inr r)) (λ_=>a) i () l=if mU p i l=true then some (.inl a)else some (.inr r)
 |[],i=>rfl
 |x::l,i=>by
  unfold fW mU;by_cases h:p i x=true;.simp only[h,fI,dF];exact wJ l (i+1)
  .simp only[h,fc,mt];simp
theorem qk{A B R X:Type}{s:B->X->B}{fin:B->A}:∀(l:List X)(i:Nat)(b:B),fW (R:=R) (λ_ b x=>some (.inl (s b x))) fin i b l=some (.inl (fin (l.foldl s b)))
 |[],i,b=>rfl
 |x::l,i,b=>by unfold fW;exact qk l (i+1) (s b x)
end Go.Ls
namespace Go.Bo
open Go Go.Ls
theorem uy(x:D (.ai iT (.ai iT iU))):mV x=some (aO x.2.1 x.2.2.1 x.1,()):=by
 unfold mV aO;rw[jv,jv,lG];by_cases h:x.2.1<=x.1;.simp[h]
 .simp[h]
def ij(l:List Int):Bool:=aO 1 4 l.length&&l.all (aO 0 3)
theorem L9(x:D (.ai ce .un))(h:x.1.1.length<=20):Oi x=some (if ij x.1.1=true then 0 else 1,()):=by
 unfold Oi ij;simp only[uy,aJ,cC,rb,lG];by_cases c:aO 1 4 (x.1.1.length:Int)=true
 .
  simp only[c,ly,dF,dU,fc];rw[et (xs:=x.1.1) (st:=λ(_:Unit)i=>((i:Int),())) (g:=λ_ _ x=>if aO 0 3 x=true then some (.inl ())else some (.inr ((1:Int),()))) (fin:=λ_=>()) (b:=())];rotate_left
  .
   intro b i y e;have a:=rO e;rw[aJ]at a;simp only[a,fI,aI e,cC,bH (gc e (aM h (by decide))),A9,lR];by_cases f:aO 0 3 y=true;.simp[f]
   .simp[f]
  .intro b;have a:=ER (l:=x.1.1);rw[aJ]at a;simp[a,A9]
  .rfl
  .omega
  .
   rw[iV];by_cases d:x.1.1.all (aO 0 3)=true;.rw[aA d,aA d];rfl
   .rw[aB d,aB d];rfl
 .
  have c:aO 1 4 (x.1.1.length:Int)=false:=by simpa using c
  simp[c]
def oz(z:D kh):Bool:=aO 0 3 z.1&&(aO 0 1 z.2.1&&(aO 1 256 z.2.2.1&&aO 0 z.2.2.1 z.2.2.2.1))
def ym(l:List (D kh)):Int:=l.foldl (λa z=>ah .i64 a z.2.2.1) 0
def rE(l:List (D kh)):Bool:=l.any λz=>aY z.2.1 0
def gM(l:List (D kh)):Bool:=aO 1 6 l.length&&(l.all oz&&(rE l&&decide (ym l<=256)))
theorem tj:∀(l:List (D kh))(a:Int)(k:Nat),k+l.length<=1000->l.foldl (λ(b:Int×Int)z=>(ah .i64 b.1 z.2.2.1,if z.2.1=0 then ah .i64 b.2 1 else b.2)) (a,(k:Int))=(l.foldl (λa z=>ah .i64 a z.2.2.1) a,((k+l.countP λz=>aY z.2.1 0:Nat):Int))
 |[],a,k,_=>by simp
 |z::l,a,k,h=>by
  simp only[fw,List.countP_cons];simp only[bp]at h;by_cases c:z.2.1=0
  .
   rw[aA c,bH (by omega),tj l _ (k+1) (by omega)];have:aY z.2.1 0=true:=by rw[gi];simpa using c
   simp only[this,fI];congr 2;omega
  .
   rw[aB c,tj l _ k (by omega)];have:aY z.2.1 0=false:=by rw[gi];simpa using c
   simp[this]
theorem Nc:∀(l:List (D kh)),l.countP (fun z=>aY z.2.1 0)=0↔rE l=false:=by intro l;unfold rE;rw[lx];simp
theorem GH:∀(l:List (D kh))(a:Int)(b:Bool),l.foldl (λ(b:Int×Bool)z=>(ah .i64 b.1 z.2.2.1,if b.2=true then true else aY z.2.1 0)) (a,b)=(l.foldl (λa z=>ah .i64 a z.2.2.1) a,b||rE l)
 |[],a,b=>by simp[rE]
 |z::l,a,b=>by simp only[fw];rw[GH l];unfold rE;cases b<;>simp
theorem L8(x:D (.ai ce .un))(h:x.1.2.1.length<=20):Oh x=some (if gM x.1.2.1=true then 0 else 1,()):=by
 unfold Oh gM;simp only[uy,aJ,cC,rb,lG];by_cases e:aO 1 6 (x.1.2.1.length:Int)=true
 .
  simp only[e,ly,dF,dU,fc];rw[et (xs:=x.1.2.1) (st:=λ(b:Int×Int)i=>(b.1,b.2,(i:Int),())) (g:=λ_ b z=>if oz z=true then some (.inl (ah .i64 b.1 z.2.2.1,if z.2.1=0 then ah .i64 b.2 1 else b.2))else some (.inr ((1:Int),()))) (fin:=λb=>(b.1,b.2,())) (b:=(0,0))];rotate_left;.intro b i y j;have d:=rO j;rw[aJ]at d;simp only[d,fI,aI j,cC,bH (gc j (aM h (by decide))),A9,lR];unfold oz;cases aO 0 3 y.1<;>cases aO 0 1 y.2.1<;>cases aO 1 256 y.2.2.1<;>cases aO 0 y.2.2.1 y.2.2.2.1<;>simp[gi];by_cases o:y.2.1=0<;>simp[o]
  .intro b;have d:=ER (l:=x.1.2.1);rw[aJ]at d;simp[d,A9]
  .rfl
  .omega
  .
   rw[xN];by_cases f:x.1.2.1.all oz=true
   .
    rw[aA f];have:=tj x.1.2.1 0 0 (by omega);rw[show((0:Nat):Int)=0 from rfl]at this;rw[this];have l:=Nc x.1.2.1;generalize x.1.2.1.countP (λz=>aY z.2.1 0)=k at l;simp only[hI,bi,f,dF,gi,gQ];by_cases c:rE x.1.2.1=true
    .
     have:¬k=0:=by rw[l,c];simp
     have:¬((k:Nat):Int)=0:=by omega
     simp only[this,c,dF];show _=some (if decide (ym x.1.2.1<=256)=true then 0 else 1,());unfold ym;by_cases m:(256:Int)<List.foldl (λa z=>ah .i64 a z.2.2.1) 0 x.1.2.1
     .
      have g:¬List.foldl (λa z=>ah .i64 a z.2.2.1) 0 x.1.2.1<=(256:Int):=by omega
      simp[m,g]
     .
      have g:List.foldl (λa z=>ah .i64 a z.2.2.1) 0 x.1.2.1<=(256:Int):=by omega
      simp[m,g]
    .
     have c:rE x.1.2.1=false:=by simpa using c
     have:k=0:=by rw[l,c]
     simp[this,c]
   .
    have n:x.1.2.1.all oz=false:=by simpa using f
    rw[aB f];simp[n,zE]
 .
  have e:aO 1 6 (x.1.2.1.length:Int)=false:=by simpa using e
  simp[e]
theorem Se(d b a c f j:Int)(g:Bool):(ad (ay d 0) (ao (ao (some (false,())))) (ad (cH 4 d) (ao (ao (some (false,())))) (ad (bF b 0) (ad (bF b 1) (ao (ao (some (false,())))) (ad (ay a 1) (ao (ao (some (false,())))) (ad (ay 256 a) (ao (ao (some (false,())))) (ad (ay c 0) (ao (ao (some (false,())))) (ad (ay a c) (ao (ao (some (false,())))) (ad g (some (.inl (ah .i64 f a,true,j,()))) (some (.inl (ah .i64 f a,aY b 0,j,()))))))))) (ad (ay a 1) (ao (ao (some (false,())))) (ad (ay 256 a) (ao (ao (some (false,())))) (ad (ay c 0) (ao (ao (some (false,())))) (ad (ay a c) (ao (ao (some (false,())))) (ad g (some (.inl (ah .i64 f a,true,j,()))) (some (.inl (ah .i64 f a,aY b 0,j,())))))))))):Option (Sum (Int×Bool×Int×Unit) (Sum (Int×Bool×Unit) (Bool×Unit))))=if(aO 0 3 d&&(aO 0 1 b&&(aO 1 256 a&&aO 0 a c)))=true then some (.inl (ah .i64 f a,if g=true then true else aY b 0,j,()))else some (.inr (.inr (false,()))):=by
 simp only[lG,gQ,jv,gI,A9,bB];cases p:aO 0 3 d&&(aO 0 1 b&&(aO 1 256 a&&aO 0 a c))
 .
  simp only[aO,Bool.and_eq_false_iff,mc]at p;simp only[dU,fc,jd,mc];by_cases e:d<0;.simp[e]
  by_cases h:4<=d;.simp[e,h]
  by_cases n:b=0<;>by_cases o:b=1<;>by_cases i:a<1<;>by_cases k:256<a<;>by_cases l:c<0<;>by_cases m:a<c<;>first|(exfalso;omega)|simp[e,h,n,o,i,k,l,m]
 .
  simp only[aO,ae,bB]at p;have e:¬d<0:=by omega
  have h:¬4<=d:=by omega
  have i:¬a<1:=by omega
  have k:¬256<a:=by omega
  have l:¬c<0:=by omega
  have m:¬a<c:=by omega
  by_cases n:b=0;.cases g<;>simp[e,h,i,k,l,m,n]
  .
   have o:b=1:=by omega
   cases g<;>simp[e,h,i,k,l,m,o]
theorem Ur(x:D (.ai ce .un))(h:x.1.1.length<=20)(c:x.1.2.1.length<=20):Us x=some (ij x.1.1&&gM x.1.2.1,()):=by
 unfold Us ij gM;rw[fB,fB,aJ,aJ];cases d:aO 1 4 (x.1.1.length:Int);.rfl
 cases e:aO 1 6 (x.1.2.1.length:Int);.simp only[fI,dU,fc,mt,mu]
 rw[aA rfl,aA rfl,dF,dF];rw[et (xs:=x.1.1) (st:=λ(_:Unit)i=>((i:Int),())) (g:=λ_ _ x=>if aO 0 3 x=true then some (.inl ())else some (.inr (false,()))) (fin:=λ_=>()) (b:=())];rotate_left;.intro b i y a;refine(ei a).trans ?_;refine(td y 0 4 _ _).trans ?_;rw[gO];show(if aO 0 3 y=true then some (Sum.inl (ah .i64 (i:Int) 1,()))else some (Sum.inr (Sum.inr (false,()))))=_;rw[bH (gc a (aM h (by decide)))]
 .exactλb=>ek
 .rfl
 .omega
 rw[iV];cases g:x.1.1.all (aO 0 3);.rfl
 rw[aA rfl,hI,dF];rw[et (xs:=x.1.2.1) (st:=λ(b:Int×Bool)i=>(b.1,b.2,(i:Int),())) (g:=λ_ b z=>if oz z=true then some (.inl (ah .i64 b.1 z.2.2.1,if b.2=true then true else aY z.2.1 0))else some (.inr (false,()))) (fin:=λb=>(b.1,b.2,())) (b:=(0,false))];rotate_left;.intro b i y a;refine(ei a).trans ?_;refine(Se y.1 y.2.1 y.2.2.1 y.2.2.2.1 b.1 _ b.2).trans ?_;rw[gO];show(if oz y=true then some (Sum.inl (ah .i64 b.1 y.2.2.1,if b.2=true then true else aY y.2.1 0,ah .i64 (i:Int) 1,()))else some (Sum.inr (Sum.inr (false,()))))=_;rw[bH (gc a (aM c (by decide)))]
 .exactλb=>ek
 .rfl
 .omega
 rw[xN];cases j:x.1.2.1.all oz;.rfl
 rw[aA rfl,GH,hI,dF];cases f:rE x.1.2.1;.rfl
 .rfl
theorem se(t:D (.ai iT (.ai iT iU))){β:Type}(A e:Option β):am (mV t) (λa=>ad a.1 A e)=if aO t.2.1 t.2.2.1 t.1=true then A else e:=by rw[uy,cC,lG]
theorem wO(t:D (.ai iT (.ai iT iU))){β:Type}(A e:Option β):am (mV t) (λa=>ad (bI a.1) e A)=if aO t.2.1 t.2.2.1 t.1=true then A else e:=by rw[uy,cC,rb];cases aO t.2.1 t.2.2.1 t.1<;>rfl
def nT(f:D pW):Bool:=aO 1 16 f.1&&(!bF (lf .i64 (ak f.2.1) 32) 0&&!ay (ea .i64 f.1 32) (ak f.2.1))
def mY(c:D ce):Bool:=aO 1 16 c.2.2.2.1&&(aO 1 c.2.2.2.1 c.2.2.1&&(aO 1 16 c.2.2.2.2.1&&(aO 1 16 c.2.2.2.2.2.1&&(aO 0 64 c.2.2.2.2.2.2.1&&(aO 0 32 c.2.2.2.2.2.2.2.1&&(aO 1 256 c.2.2.2.2.2.2.2.2.1&&aO 1 32 c.2.2.2.2.2.2.2.2.2.1))))))
def dh(c:D ce):Bool:=mY c&&(cH (ak c.2.2.2.2.2.2.2.2.2.2.1) 4&&c.2.2.2.2.2.2.2.2.2.2.1.all nT)
theorem L7(x:D (.ai ce .un))(h:x.1.2.2.2.2.2.2.2.2.2.2.1.length<=20):Og x=some (if dh x.1=true then 0 else 1,()):=by
 unfold Og;rw[se,se,se,se,se,se,se,se];rw[et (xs:=x.1.2.2.2.2.2.2.2.2.2.2.1) (st:=λ(_:Unit)i=>((i:Int),())) (g:=λ_ _ f=>if nT f=true then some (.inl ())else some (.inr ((1:Int),()))) (fin:=λ_=>()) (b:=())];rotate_left;.intro b i y a;refine(ei a).trans ?_;rw[gO];refine(wO (y.1,1,16,()) _ _).trans ?_;show(if aO 1 16 y.1=true then ad (bF (lf .i64 (ak y.2.1) 32) 0) (some (Sum.inr (Sum.inr ((1:Int),())))) (ad (ay (ea .i64 y.1 32) (ak y.2.1)) (some (Sum.inr (Sum.inr ((1:Int),())))) (some (Sum.inl (ah .i64 (i:Int) 1,()))))else some (Sum.inr (Sum.inr ((1:Int),()))))=_;rw[bH (gc a (aM h (by decide)))];unfold nT;cases aO 1 16 y.1<;>cases bF (lf .i64 (ak y.2.1) 32) 0<;>cases ay (ea .i64 y.1 32) (ak y.2.1)<;>rfl
 .exactλb=>ek
 .rfl
 .omega
 rw[iV];simp only[zx];unfold dh;have c:(aO 1 16 x.1.2.2.2.1&&(aO 1 x.1.2.2.2.1 x.1.2.2.1&&(aO 1 16 x.1.2.2.2.2.1&&(aO 1 16 x.1.2.2.2.2.2.1&&(aO 0 64 x.1.2.2.2.2.2.2.1&&(aO 0 32 x.1.2.2.2.2.2.2.2.1&&(aO 1 256 x.1.2.2.2.2.2.2.2.2.1&&aO 1 32 x.1.2.2.2.2.2.2.2.2.2.1)))))))=mY x.1:=rfl;rw[c];cases mY x.1;.rfl
 rw[aA rfl,dF];cases cH (ak x.1.2.2.2.2.2.2.2.2.2.2.1) 4;.rfl
 cases x.1.2.2.2.2.2.2.2.2.2.2.1.all nT<;>rfl
theorem Up(x:D (.ai ce .un))(h:x.1.2.2.2.2.2.2.2.2.2.2.1.length<=20):Uq x=some (dh x.1,()):=by
 unfold Uq;rw[fB,fB,fB,fB,fB,fB,fB,fB];rw[et (xs:=x.1.2.2.2.2.2.2.2.2.2.2.1) (st:=λ(_:Unit)i=>((i:Int),())) (g:=λ_ _ f=>if nT f=true then some (.inl ())else some (.inr (false,()))) (fin:=λ_=>()) (b:=())];rotate_left;.intro b i y a;refine(ei a).trans ?_;rw[gO];refine(fB y.1 1 16 _ _).trans ?_;show(if aO 1 16 y.1=true then ad (bF (lf .i64 (ak y.2.1) 32) 0) (some (Sum.inr (Sum.inr (false,())))) (ad (ay (ea .i64 y.1 32) (ak y.2.1)) (some (Sum.inr (Sum.inr (false,())))) (some (Sum.inl (ah .i64 (i:Int) 1,()))))else some (Sum.inr (Sum.inr (false,()))))=_;rw[bH (gc a (aM h (by decide)))];unfold nT;cases aO 1 16 y.1<;>cases bF (lf .i64 (ak y.2.1) 32) 0<;>cases ay (ea .i64 y.1 32) (ak y.2.1)<;>rfl
 .exactλb=>ek
 .rfl
 .omega
 rw[iV];simp only[zx];unfold dh;have d:(aO 1 16 x.1.2.2.2.1&&(aO 1 x.1.2.2.2.1 x.1.2.2.1&&(aO 1 16 x.1.2.2.2.2.1&&(aO 1 16 x.1.2.2.2.2.2.1&&(aO 0 64 x.1.2.2.2.2.2.2.1&&(aO 0 32 x.1.2.2.2.2.2.2.2.1&&(aO 1 256 x.1.2.2.2.2.2.2.2.2.1&&aO 1 32 x.1.2.2.2.2.2.2.2.2.2.1)))))))=mY x.1:=rfl;rw[d];cases mY x.1;.rfl
 rw[aA rfl,dF]
 have c:ay 4 (ak x.1.2.2.2.2.2.2.2.2.2.2.1)=!cH (ak x.1.2.2.2.2.2.2.2.2.2.2.1) 4:=by
  rw[gQ,jv];by_cases q:ak x.1.2.2.2.2.2.2.2.2.2.2.1<=4
  .
   have:¬4<ak x.1.2.2.2.2.2.2.2.2.2.2.1:=by omega
   simp[q,this]
  .
   have:4<ak x.1.2.2.2.2.2.2.2.2.2.2.1:=by omega
   simp[q,this]
 rw[c];cases cH (ak x.1.2.2.2.2.2.2.2.2.2.2.1) 4;.rfl
 cases x.1.2.2.2.2.2.2.2.2.2.2.1.all nT<;>rfl
abbrev fg:=D qP
theorem xe(x:D iU):vb x=some (aO 0 1048576 x.1,()):=by
 unfold vb aO;rw[jv,jv,lG];by_cases h:0<=x.1;.simp[h]
 .simp[h]
theorem R1(x:D iU):xg x=some (aO 0 1048576 x.1,()):=xe x
def qR(i:Nat)(a:fg):Bool:=bif Nat.beq i 0 then aY a.1 (-1)else aO 0 ((i:Int)-1) a.1
def pU(a:fg):Bool:=aO 0 1048576 a.2.1&&(aO 0 1048576 a.2.2.1&&(aO 0 1048576 a.2.2.2.1&&aO 0 1048576 a.2.2.2.2.1))
def rG(a:fg):Bool:=!ay a.2.2.2.2.1 a.2.1
theorem KM{α:Type}(i:Nat)(p:Int)(a ok:Option α):ad (aY (i:Int) 0) (ad (bF p (-1)) a (ad (ay 0 (i:Int)) (ad (ay p 0) a (ad (cH (i:Int) p) a ok)) ok)) (ad (ay 0 (i:Int)) (ad (ay p 0) a (ad (cH (i:Int) p) a ok)) ok)=if(bif Nat.beq i 0 then aY p (-1)else aO 0 ((i:Int)-1) p)=true then ok else a:=by rw[td];cases i with
 |zero=>rw[el (by rfl),dS (b:=ay 0 ((0:Nat):Int)) (by rfl),gI,gi];show ad (!decide (p= -1)) a ok=if decide (p= -1)=true then ok else a;cases decide (p= -1)<;>rfl
 |succ i=>rw[dS (b:=aY ((i+1:Nat):Int) 0) (by rw[gi];exact aQ (by omega)),el (by rw[gQ];exact ar (by omega))];rfl
theorem RE(x:D (.ai jH .un))(h:x.1.length<=8):My x=some (mU qR 0 x.1,()):=by
 unfold My;rw[et (xs:=x.1) (st:=λ(_:Unit)i=>((i:Int),())) (g:=λi _ a=>if qR i a=true then some (.inl ())else some (.inr (false,()))) (fin:=λ_=>()) (b:=())];rotate_left;.intro b i y c;refine(ei c).trans ?_;rw[gO];refine(KM i y.1 _ _).trans ?_;show(if qR i y=true then some (Sum.inl (ah .i64 (i:Int) 1,()))else some (Sum.inr (Sum.inr (false,()))))=_;rw[bH (gc c (aM h (by decide)))]
 .exactλb=>ek
 .rfl
 .omega
 rw[wJ];cases mU qR 0 x.1<;>rfl
theorem tJ(t:D iU){β:Type}(A e:Option β):am (vb t) (λa=>ad (bI a.1) e A)=if aO 0 1048576 t.1=true then A else e:=by rw[xe,cC,rb];cases aO 0 1048576 t.1<;>rfl
theorem wP(t:D iU){β:Type}(A e:Option β):am (xg t) (λa=>ad (bI a.1) e A)=if aO 0 1048576 t.1=true then A else e:=tJ t A e
def rS(a:fg):Bool:=aY a.2.2.1 0&&aY a.2.2.2.1 0
theorem RD(a0:fg)(l:List fg)(h:(a0::l).length<=8):Mx ((a0::l:List fg),())=some ((a0::l).all pU&&rS a0,()):=by
 unfold Mx;rw[et (xs:=a0::l) (st:=λ(_:Unit)i=>((i:Int),())) (g:=λi _ a=>if pU a=true then some (.inl ())else some (.inr (false,()))) (fin:=λ_=>()) (b:=())];rotate_left;.intro b i y c;refine(ei c).trans ?_;rw[gO];refine(tJ (y.2.1,()) _ _).trans ?_;rw[tJ,tJ,tJ];simp only[zx];show(if pU y=true then some (Sum.inl (ah .i64 (i:Int) 1,()))else some (Sum.inr (Sum.inr (false,()))))=_;rw[bH (gc c (aM h (by decide)))]
 .exactλb=>ek
 .rfl
 .omega
 rw[iV];cases(a0::l).all pU;.rfl
 rw[aA rfl,hI,dF];show ad (aY a0.2.2.1 0) (some (aY a0.2.2.2.1 0,())) (some (false,()))=_;unfold rS;cases aY a0.2.2.1 0<;>rfl
def uM{β:Type}(i:Nat)(n:List Int)(a:fg)(K:List Int->Option β):Option β:=aC (aU n (i:Int)) (am (az n (i:Int)) λb=>aC (aU n (i:Int)) (am (az n (i:Int)) λd=>ad (ay 0 (i:Int)) (aC (aU (aG n (i:Int) (ah .i64 b a.2.1)) a.1) (am (az (aG n (i:Int) (ah .i64 b a.2.1)) a.1) λc=>aC (aU (aG n (i:Int) (ah .i64 b a.2.1)) a.1) (am (az (aG n (i:Int) (ah .i64 b a.2.1)) a.1) λe=>K (aG (aG n (i:Int) (ah .i64 b a.2.1)) a.1 (bb .i64 c a.2.1))))) (K (aG n (i:Int) (ah .i64 b a.2.1)))))
theorem Pb{β:Type}(i:Nat)(n:List Int)(a:fg)(K:List Int->Option β):uM i n a K=am (uM i n a some) K:=by
 unfold uM;cases aU n (i:Int);.rfl
 cases az n (i:Int)with
  |none=>rfl
  |some v=>
  simp only[lp,cC];cases ay 0 (i:Int);.rfl
  simp only[JR];cases aU (aG n (i:Int) (ah .i64 v a.2.1)) a.1;.rfl
  cases az (aG n (i:Int) (ah .i64 v a.2.1)) a.1<;>rfl
def Ay(i:Nat)(n:List Int)(a:fg):Option (Sum (List Int) (List Int×Unit)):=am (uM i n a some) λb=>some (.inl b)
theorem wF{n:List Int}{i:Nat}{v:Int}(h:n[i]?=some v):aU n (i:Int)=true:=by have:=(aj.1 h).1;unfold aU;simp only[ae,bB];exact⟨by omega,kJ.2 this⟩
theorem Wl{n:List Int}{a:fg}{v:Int}(h:n[0]?=some v):uM 0 n a some=some (n.set 0 (ah .i64 v a.2.1)):=by unfold uM;rw[wF h,aI h,lp,cC,lp,cC];rfl
theorem Wj{n:List Int}{a:fg}{v b:Int}{k q:Nat}(d:0<k)(h:n[k]?=some v)(c:a.1=(q:Int))(h1:(n.set k (ah .i64 v a.2.1))[q]?=some b):uM k n a some=some ((n.set k (ah .i64 v a.2.1)).set q (bb .i64 b a.2.1)):=by unfold uM;rw[wF h,aI h,lp,cC,lp,cC,el (by rw[gQ];exact ar (by omega))];rw[c];have e:aG n (k:Int) (ah .i64 v a.2.1)=n.set k (ah .i64 v a.2.1):=rfl;rw[e,wF h1,aI h1,lp,cC,lp,cC];rfl
def m7(i:Nat):List fg->Int|[]=>0|a::l=>(if a.1=(i:Int)then a.2.1 else 0)+m7 i l
theorem R0(l:List fg)(i:Nat)(h:l.length<=8)(t:l.all pU=true):IH (l,(i:Int),())=some (m7 i (l.drop 1),()):=by
 unfold IH
 have v:∀(s:List fg)(k:Nat)(b:Int),l.drop k=s->k+s.length=l.length->0<=b->b<=1048576*k->fW (R:=Int×Unit) (λ_ b a=>some (.inl (if a.1=(i:Int)then ah .i64 b a.2.1 else b))) (λb=>(b,())) k b s=some (.inl (b+m7 i s,())):=by
  intro s
  induction s with
   |nil=>intro k b _ _ _ _;unfold fW m7;rw[gL]
   |cons a s q=>
   intro k b e f w x
   have u:a∈l:=by
    have:a∈l.drop k:=by rw[e];simp
    exact jg this
   have p:=bQ.1 t a u;simp only[pU,aO,ae,bB]at p;have z:(0:Int)<=a.2.1/\a.2.1<=1048576:=p.1;simp only[bp]at f;unfold fW m7;by_cases d:a.1=(i:Int);.simp only[d,fI];rw[cz (by omega) (by omega)];rw[q (k+1) (b+a.2.1) (by rw[<-iL,e];rfl) (by omega) (by omega) (by omega)];congr 3;omega
   .simp only[d,fc];rw[q (k+1) b (by rw[<-iL,e];rfl) (by omega) (by omega) (by omega)];congr 3;omega
 have f:aF (λc:Int×Int×Unit=>ad (ay c.2.1 (ak l)) (am (az l c.2.1) λm:fg=>ad (aY m.1 (i:Int)) (am (az l c.2.1) λn:fg=>some (.inl (ah .i64 c.1 n.2.1,ah .i64 c.2.1 1,()))) (some (.inl (c.1,ah .i64 c.2.1 1,())))) (ao (some (.inl (c.1,()))))) 1000000000 ((0:Int),(1:Int),())=(some (.inl (m7 i (l.drop 1),())):Option (Sum (Int×Unit) (Int×Unit))):=by
  by_cases r:l.length=0;.have:l=[]:=eN.1 r;subst this;rw[hN];rfl
  .
   rw[hN]
   have:=pv (f:=λc:Int×Int×Unit=>ad (ay c.2.1 (ak l)) (am (az l c.2.1) λm:fg=>ad (aY m.1 (i:Int)) (am (az l c.2.1) λn:fg=>some (.inl (ah .i64 c.1 n.2.1,ah .i64 c.2.1 1,()))) (some (.inl (c.1,ah .i64 c.2.1 1,())))) (ao (some (.inl (c.1,()))))) (xs:=l) (st:=λ(b:Int)j=>(b,(j:Int),())) (g:=λ_ b a=>some (.inl (if a.1=(i:Int)then ah .i64 b a.2.1 else b))) (fin:=λb=>(b,())) (R:=Int×Unit) (λb j y g=>by
    refine(ei g).trans ?_;show ad (aY y.1 (i:Int)) (am (az l (j:Int)) _) _=_;rw[aI g,cC,bH (gc g (aM h (by decide)))];unfold lR;rw[gi];by_cases d:y.1=(i:Int);.simp[d,JR]
    .simp[d,ng]) (λb=>ek) (l.drop 1) 1 0 1000000000 rfl (by rw[cB];omega) (by rw[cB];omega)
   refine this.trans ?_;rw[v (l.drop 1) 1 0 rfl (by rw[cB];omega) (by omega) (by omega),me]
 refine(eP (λo=>aE o _) f).trans ?_;rfl
def us(k i:Nat)(l:List fg):Int:=if k≤i then((l[i-k]?).map (·.2.1)).getD 0 else 0
def kd(k i:Nat)(l:List fg):Int:=if k=0 then m7 i (l.drop 1)else m7 i l
theorem xF:∀(l:List fg)(k:Nat)(n:List Int),k+l.length=n.length->n.length<=8->mU qR k l=true->l.all pU=true->(∀(i:Nat)(v:Int),n[i]?=some v-> -(1048576*(k:Int))<=v/\v<=1048576*(k:Int))->∃d,fW Ay (λn=>(n,())) k n l=some (.inl (d,()))/\d.length=n.length/\∀(i:Nat)(v:Int),n[i]?=some v->d[i]?=some (v+us k i l-kd k i l)
 |[],k,n,z0,r,e,f,g=>by
  refine⟨n,rfl,rfl,λi v b=>?_⟩;have:us k i []=0:=by unfold us;split<;>simp
  have q0:kd k i []=0:=by unfold kd;split<;>rfl
  rw[b,this,q0];simp
 |a::l,k,n,z0,r,e,f,g=>by
  rw[cP,ae]at f;have C:=f.1;simp only[pU,aO,ae,bB]at C;have g0:(0:Int)<=a.2.1/\a.2.1<=1048576:=C.1;unfold mU at e;rw[ae]at e;simp only[bp]at z0;have u:k<n.length:=by omega
  have m:n[k]?=some n[k]:=G u;obtain⟨l0,k0⟩:=g k _ m;have B:ah .i64 n[k] a.2.1=n[k]+a.2.1:=cz (by omega) (by omega)
  have x0:∀i,us k i (a::l)=(if i=k then a.2.1 else 0)+us (k+1) i l:=by
   intro i;unfold us;by_cases j:i=k;.subst j;rw[aA (au _),aA rfl,aB (by omega),dW];simp
   .
    rw[aB j];by_cases D:k<=i;.rw[aA D,aA (by omega),show i-k=i-(k+1)+1 by omega,dD,me]
    .rw[aB D,aB (by omega)];rfl
  by_cases w:k=0
  .
   subst w;have s:Ay 0 n a=some (.inl (n.set 0 (n[0]+a.2.1))):=by unfold Ay;rw[Wl m,B];rfl
   obtain⟨d,z,A,p⟩:=xF l 1 (n.set 0 (n[0]+a.2.1)) (by rw[bx];omega) (by rw[bx];exact r) e.2 f.2 λi v b=>by
    by_cases c:i=0;.subst c;rw[be u]at b;cases b;constructor<;>omega
    .rw[bz λh=>c h.symm]at b;obtain⟨u0,t0⟩:=g i v b;constructor<;>omega
   refine⟨d,by unfold fW;rw[s];exact z,by rw[A,bx],λi v b=>?_⟩;have x:kd 0 i (a::l)=kd 1 i l:=rfl;have m0:us 0 i (a::l)=(if i=0 then a.2.1 else 0)+us 1 i l:=x0 i;rw[m0,x];by_cases c:i=0;.subst c;rw[m]at b;cases b;have:=p 0 (n[0]+a.2.1) (by rw[be u]);rw[this,aA rfl];congr 1;omega
   .have:=p i v (by rw[bz λh=>c h.symm];exact b);rw[this,aB c];congr 1;omega
  .
   have y:aO 0 ((k:Int)-1) a.1=true:=by
    have:=e.1;unfold qR at this
    have p0:Nat.beq k 0=false:=by cases k with
     |zero=>exact absurd rfl w
     |succ k=>rfl
    rw[p0]at this;exact this
   simp only[aO,ae,bB]at y;obtain⟨q,o⟩:∃q:Nat,a.1=(q:Int):=⟨a.1.toNat,(eG y.1).symm⟩;have h0:q<k:=by have:=y.2;rw[o]at this;omega
   have r0:(n.set k (ah .i64 n[k] a.2.1))[q]?=some n[q]:=by rw[bz (by omega)];exact G (by omega)
   have o0:n[q]?=some n[q]:=G (by omega);obtain⟨j0,i0⟩:=g q _ o0;have n0:bb .i64 n[q] a.2.1=n[q]-a.2.1:=fa (by omega) (by omega);have s:Ay k n a=some (.inl ((n.set k (n[k]+a.2.1)).set q (n[q]-a.2.1))):=by unfold Ay;rw[Wj (by omega) m o r0,B,n0];rfl
   have w0:∀(i:Nat)(v:Int),n[i]?=some v->((n.set k (n[k]+a.2.1)).set q (n[q]-a.2.1))[i]?=some (v+(if i=k then a.2.1 else 0)-if a.1=(i:Int)then a.2.1 else 0):=by
    intro i v b;have c:i<n.length:=(aj.1 b).1;have v0:n[i]=v:=(aj.1 b).2;rw[gA,gA];by_cases t:q=i;.subst t;rw[aA rfl,aA (by rw[bx];omega),aB (c:=q=k) (by omega),aA o,v0];congr 1;omega
    .
     rw[aB t,aB (c:=a.1=(i:Int)) (by rw[o];intro h;exact t (t8.1 h))];by_cases j:k=i;.subst j;rw[aA rfl,aA c,aA rfl,v0];congr 1;omega
     .rw[aB j,aB (c:=i=k) (by omega),b];congr 1;omega
   obtain⟨d,z,A,p⟩:=xF l (k+1) ((n.set k (n[k]+a.2.1)).set q (n[q]-a.2.1)) (by rw[bx,bx];omega) (by rw[bx,bx];exact r) e.2 f.2 λi v b=>by
    have c:i<n.length:=by have:=(aj.1 b).1;simpa using this
    have y0:n[i]?=some n[i]:=G c;rw[w0 i _ y0]at b;cases b;obtain⟨u0,t0⟩:=g i _ y0;have s0:((k+1:Nat):Int)=(k:Int)+1:=by omega
    rw[s0];split<;>split<;>constructor<;>omega
   refine⟨d,by unfold fW;rw[s];exact z,by rw[A,bx,bx],λi v b=>?_⟩;rw[p i _ (w0 i v b),x0 i];have x:kd k i (a::l)=(if a.1=(i:Int)then a.2.1 else 0)+kd (k+1) i l:=by unfold kd;rw[aB w,aB (Nat.succ_ne_zero k)];rfl
   rw[x];congr 1;omega
theorem M8(l:List fg)(e:l.length<=8)(n:mU qR 0 l=true)(h:l.all pU=true):∃c,D4 (l,())=some (c,())/\c.length=l.length/\∀(i:Nat)(a:fg),l[i]?=some a->c[i]?=some (a.2.1-m7 i (l.drop 1)):=by
 have m:eh (ak l) (0:Int)=List.replicate l.length 0:=rfl
 obtain⟨c,o,p,q⟩:=xF l 0 (List.replicate l.length 0) (by simp) (by simpa using e) n h λi v d=>by
  rw[cd]at d;split at d;.cases d;constructor<;>decide
  .cases d
 refine⟨c,?_,by simpa using p,λi a f=>?_⟩
 .
  unfold D4;have k:gw (ak l) (ak l) 8=true:=by unfold gw Hm.gu;rw[aJ];simp only[ae,bB,bO];refine⟨by omega,by omega,?_⟩;show l.length*8<=4294967296;omega
  rw[k,lp,m];rw[et (xs:=l) (st:=λ(b:List Int)i=>(b,(i:Int),())) (g:=Ay) (fin:=λb=>(b,())) (b:=List.replicate l.length 0)];rotate_left;.intro b i y g;refine(ei g).trans ?_;show uM i b y (λc=>some (Sum.inl (c,ah .i64 (i:Int) 1,())))=_;rw[Pb,bH (gc g (aM e (by decide)))];unfold lR Ay;cases uM i b y some<;>rfl
  .exactλb=>ek
  .rfl
  .omega
  rw[o];rfl
 .have j:=(aj.1 f).1;rw[q i 0 (by rw[cd,aA j])];unfold us kd;rw[aA (a5 _),aA rfl,iR,f];simp
theorem K8:∀(t:List Int)(h:Int),t.foldl bK h<0↔h<0∨∃v,v∈t∧v<0
 |[],h=>by simp
 |a::t,h=>by
  rw[fw,K8 t]
  have d:bK h a<0↔h<0∨a<0:=by
   unfold bK;by_cases q:h≤a;·simp only[ar q,gg];omega
   ·simp only[aQ q,kg];omega
  rw[d];constructor
  ·
   rintro((g|g)|⟨v,b,c⟩);·exact .inl g
   ·exact .inr ⟨a,by simp,g⟩
   ·exact .inr ⟨v,by simp[b],c⟩
  ·
   rintro(g|⟨v,b,c⟩);·exact .inl (.inl g)
   ·
    rcases cm.1 b with rfl|b;·exact .inl (.inr c)
    ·exact .inr ⟨v,b,c⟩
theorem RC(h:Int)(t:List Int)(d:(h::t).length<=8):D5 ((h::t:List Int),())=some (t.foldl bK h,()):=by
 unfold D5;have f:ay (ak (h::t)) 1=false:=by rw[gQ,aJ];exact aQ (by simp only[bp];omega)
 rw[dS f];show aE (aF _ 1000000000 (h,(1:Int),())) _=_;rw[hN];have:=pv (f:=λc:Int×Int×Unit=>ad (ay c.2.1 (ak (h::t))) (am (az (h::t) c.2.1) λg=>some (.inl (bK c.1 g,ah .i64 c.2.1 1,()))) (ao (some (.inl (c.1,()))))) (xs:=h::t) (st:=λ(b:Int)j=>(b,(j:Int),())) (g:=λ_ b a=>some (.inl (bK b a))) (fin:=λb=>(b,())) (R:=Int×Unit) (λb j y e=>by refine(ei e).trans ?_;show some (Sum.inl (bK b y,ah .i64 (j:Int) 1,()))=_;rw[bH (gc e (aM d (by decide)))];rfl) (λb=>ek) t 1 h 1000000000 rfl (by simp only[bp];omega) (by simp only[bp]at d;omega);rw[qk]at this;refine(eP (λo=>aE o _) this).trans ?_;rfl
def te(l:List fg):Bool:=mU (λi a=>!ay a.2.1 (m7 i (l.drop 1))) 0 l
def d6(l:List fg):Int:=if aO 1 8 l.length=true then if mU qR 0 l=true then if(l.all pU&&match l with|a::_=>rS a|[]=>false)=true then if l.all rG=true then if te l=true then 0 else 11 else 17 else 2 else 1 else 9
theorem uw{X:Type}{p:Nat→X→Bool}:∀{l:List X}{k:Nat},mU p k l=true↔∀i x,l[i]?=some x→p (k+i) x=true
 |[],k=>by unfold mU;simp
 |a::l,k=>by
  unfold mU;rw[ae,uw];constructor
  ·rintro⟨c,d⟩i x b;cases i with
   |zero=>simp only[jF,eL]at b;subst b;exact c
   |succ i=>simp only[dD]at b;have:=d i x b;rw[show k+1+i=k+(i+1)by omega]at this;exact this
  ·intro h;refine⟨h 0 a rfl,fun i x b=>?_⟩;have:=h (i+1) x (by simpa using b);rw[show k+(i+1)=k+1+i by omega]at this;exact this
theorem GQ(a b:Int):ay a b=decide (a-b<0):=by rw[gQ];congr 1;apply propext;omega
theorem Pt{l:List fg}(p:l.length≤8)(h1:1≤l.length)(z0:mU qR 0 l=true)(A:l.all pU=true):∃d m,D4 (l,())=some (d,())∧D5 (d,())=some (m,())∧ay m 0=!te l:=by
 obtain⟨d,y0,o,x⟩:=M8 l p z0 A
 cases d with
  |nil=>simp only[fZ]at o;omega
  |cons h t=>
  refine⟨h::t,t.foldl bK h,y0,RC h t (by rw[o];exact p),?_⟩
  have w:t.foldl bK h<0↔te l=false:=by
   rw[K8];unfold te;rw[←qv,uw];constructor
   ·
    intro b B
    have:∃(i:Nat)(v:Int),(h::t)[i]?=some v∧v<0:=by
     rcases b with g|⟨v,y,z⟩;·exact⟨0,h,rfl,g⟩
     ·obtain⟨j,C⟩:=bj y;exact⟨j+1,v,by simpa using C,z⟩
    obtain⟨i,v,c,n⟩:=this;have s:=(aj.1 c).1;rw[o]at s;have q:l[i]?=some l[i]:=G s;have:=x i l[i] q;rw[c]at this;have f:=B i l[i] q;rw[bi,GQ]at f;have e:v=(l[i]).2.1-m7 i (l.drop 1):=ej this;rw[←e,ar n]at f;cases f
   ·
    intro D;by_cases r:h<0∨∃v,v∈t∧v<0;·exact r
    ·
     exfalso;apply D;intro i a c;rw[bi,GQ];have b:=x i a c
     have n:¬a.2.1-m7 i (l.drop 1)<0:=by intro u;apply r;cases i with
      |zero=>simp only[jF,eL]at b;exact .inl (by rw[b];exact u)
      |succ i=>simp only[dD]at b;exact .inr ⟨_,Y b,u⟩
     rw[aQ n];rfl
  rw[gQ]
  cases k:te l with
   |false=>exact ar (w.2 k)
   |true=>exact aQ fun g=>by rw[w.1 g]at k;cases k
theorem pM(l:List fg):yY (l,())=some (d6 l,()):=by
 unfold yY d6;rw[fB,aJ];cases g:aO 1 8 (l.length:Int);.rfl
 have d:1<=l.length/\l.length<=8:=by simp only[aO,ae,bB]at g;omega
 rw[aA rfl,aA rfl,RE (l,()) d.2,cC,rb];cases h:mU qR 0 l;.rfl
 rw[dS (by rfl),aA rfl]
 cases l with
  |nil=>simp only[fZ]at d;omega
  |cons c l=>
  rw[RD c l d.2,cC,rb];cases e:(c::l).all pU&&rS c;.rfl
  rw[dS (by rfl),aA rfl];rw[ae]at e;rw[et (xs:=c::l) (st:=λ(_:Unit)i=>((i:Int),())) (g:=λ_ _ a=>if rG a=true then some (.inl ())else some (.inr ((17:Int),()))) (fin:=λ_=>()) (b:=())];rotate_left;.intro b i y f;refine(ei f).trans ?_;rw[gO];show ad (ay y.2.2.2.2.1 y.2.1) (ao (ao (ad (cH 0 (i:Int)) (some ((17:Int),())) _))) (some (Sum.inl (ah .i64 (i:Int) 1,())))=_;rw[el (b:=cH 0 (i:Int)) (by rw[jv];exact ar (by omega)),bH (gc f (aM d.2 (by decide)))];unfold rG;cases ay y.2.2.2.2.1 y.2.1<;>rfl
  .exactλb=>ek
  .rfl
  .omega
  rw[iV];cases o:(c::l).all rG;.rfl
  rw[aA rfl,aA rfl,hI];obtain⟨p,m,j,k,n⟩:=Pt d.2 d.1 h e.1;rw[j,cC,k,cC,n];cases te (c::l)<;>rfl
theorem zI(l:List fg):H0 (l,())=some (d6 l,()):=by
 unfold H0 d6;rw[fB,aJ];cases g:aO 1 8 (l.length:Int);.rfl
 have e:1<=l.length/\l.length<=8:=by simp only[aO,ae,bB]at g;omega
 rw[aA rfl,aA rfl];rw[et (xs:=l) (st:=λ(_:Unit)i=>((i:Int),())) (g:=λi _ a=>if qR i a=true then some (.inl ())else some (.inr ((1:Int),()))) (fin:=λ_=>()) (b:=())];rotate_left;.intro b i y d;refine(el (rO d) _ _).trans ?_;simp only[aI d,cC];rw[gO];refine(KM i y.1 _ _).trans ?_;show(if qR i y=true then some (Sum.inl (ah .i64 (i:Int) 1,()))else some (Sum.inr (Sum.inr ((1:Int),()))))=_;rw[bH (gc d (aM e.2 (by decide)))]
 .exactλb=>ek
 .rfl
 .omega
 rw[wJ];cases k:mU qR 0 l;.rfl
 rw[aA rfl,aA rfl,hI];rw[et (xs:=l) (st:=λ(_:Unit)i=>((i:Int),())) (g:=λi _ a=>if pU a=true then some (.inl ())else some (.inr ((2:Int),()))) (fin:=λ_=>()) (b:=())];rotate_left;.intro b i y d;refine(ei d).trans ?_;simp only[aI d,cC];refine(wP (y.2.1,()) _ _).trans ?_;rw[wP,wP,wP];simp only[zx];rw[gO];show(if pU y=true then some (Sum.inl (ah .i64 (i:Int) 1,()))else some (Sum.inr (Sum.inr ((2:Int),()))))=_;rw[bH (gc d (aM e.2 (by decide)))]
 .exactλb=>ek
 .rfl
 .omega
 rw[iV];cases h:l.all pU;.rfl
 rw[aA rfl,hI,dF]
 cases l with
  |nil=>simp only[fZ]at e;omega
  |cons c l=>
  show ad (bF c.2.2.1 0) (some ((2:Int),())) (ad (bF c.2.2.2.1 0) (some ((2:Int),())) _)=some (if rS c=true then _ else 2,());unfold rS;have f:∀q:Int,bF q 0=!aY q 0:=λ_=>rfl;rw[f,f];cases aY c.2.2.1 0;.rfl
  cases aY c.2.2.2.1 0;.rfl
  rw[dS (by rfl),dS (by rfl),aA (by rfl)];rw[et (xs:=c::l) (st:=λ(_:Unit)i=>((i:Int),())) (g:=λ_ _ a=>if rG a=true then some (.inl ())else some (.inr ((17:Int),()))) (fin:=λ_=>()) (b:=())];rotate_left;.intro b i y d;refine(ei d).trans ?_;simp only[aI d,cC];rw[gO];show ad (ay y.2.2.2.2.1 y.2.1) (some (Sum.inr (Sum.inr ((17:Int),())))) (some (Sum.inl (ah .i64 (i:Int) 1,())))=_;rw[bH (gc d (aM e.2 (by decide)))];unfold rG;cases ay y.2.2.2.2.1 y.2.1<;>rfl
  .exactλb=>ek
  .rfl
  .omega
  rw[iV];cases m:(c::l).all rG;.rfl
  rw[aA rfl,aA rfl,hI];rw[et (xs:=c::l) (st:=λ(_:Unit)i=>((i:Int),())) (g:=λi _ a=>if(!ay a.2.1 (m7 i ((c::l).drop 1)))=true then some (.inl ())else some (.inr ((11:Int),()))) (fin:=λ_=>()) (b:=())];rotate_left;.intro b i y d;refine(ei d).trans ?_;rw[gO];show am (IH (c::l,(i:Int),())) (λj=>ad (ay y.2.1 j.1) (ao (ao (some ((11:Int),())))) (some (Sum.inl (ah .i64 (i:Int) 1,()))))=_;rw[R0 (c::l) i e.2 h,cC,bH (gc d (aM e.2 (by decide)))];cases ay y.2.1 (m7 i ((c::l).drop 1))<;>rfl
  .exactλb=>ek
  .rfl
  .omega
  rw[wJ];show aE (if te (c::l)=true then some (Sum.inl ())else some (Sum.inr ((11:Int),()))) _=_;cases te (c::l)<;>rfl
def lh(i:Nat):List fg->Int|[]=>0|a::l=>(if a.1=(i:Int)then a.2.2.1 else 0)+lh i l
theorem dt{lo hi n:Int}(h:aO lo hi n=true):lo<=n/\n<=hi:=by simp only[aO,ae,bB]at h;exact h
theorem tP{l:List fg}(h:d6 l=0):l.length<=8/\1<=l.length/\mU qR 0 l=true/\l.all pU=true:=by
 cases l with
  |nil=>exact absurd h (by decide)
  |cons a l=>
  unfold d6 at h;by_cases b:aO 1 8 ((a::l).length:Int)=true
  .
   rw[aA b]at h;by_cases c:mU qR 0 (a::l)=true
   .
    rw[aA c]at h;by_cases d:((a::l).all pU&&rS a)=true;.rw[ae]at d;have e:=dt b;exact⟨by omega,by omega,c,d.1⟩
    .rw[aB d]at h;cases h
   .rw[aB c]at h;cases h
  .rw[aB b]at h;cases h
theorem HF{a:fg}(h:pU a=true):(0:Int)<=a.2.2.1/\ @LE.le Int _ a.2.2.1 1048576:=by unfold pU at h;rw[ae,ae]at h;exact dt h.2.1
theorem KX{l:List fg}(c:mU qR 0 l=true){i:Nat}{a:fg}(h:l[i]?=some a)(hi:0<i):∃q:Nat,a.1=(q:Int)/\q<i:=by
 have:=uw.1 c i a h;rw[bi]at this;unfold qR at this
 have b:Nat.beq i 0=false:=by cases i with
  |zero=>omega
  |succ i=>rfl
 rw[b]at this;simp only[kg,aO,ae,bB]at this;refine⟨a.1.toNat,(eG this.1).symm,?_⟩;have d:(0:Int)<=a.1:=this.1;have e:(a.1:Int)<=(i:Int)-1:=this.2;omega
def zX{β:Type}(n:List Int)(a:fg)(K:List Int->Option β):Option β:=aC (aU n a.1) (am (az n a.1) λb=>aC (aU n a.1) (am (az n a.1) λc=>K (aG n a.1 (ah .i64 b a.2.2.1))))
theorem OV{β:Type}(n:List Int)(a:fg)(K:List Int->Option β):zX n a K=am (zX n a some) K:=by
 unfold zX;cases aU n a.1;.rfl
 cases az n a.1<;>rfl
def F5(_:Nat)(n:List Int)(a:fg):Option (Sum (List Int) (D cQ)):=am (zX n a some) λb=>some (.inl b)
theorem CJ:∀(s:List fg)(k:Nat)(n:List Int),(∀a,a∈s->pU a=true/\∃q:Nat,a.1=(q:Int)/\q<n.length)->k+s.length<=8->(∀(i:Nat)(v:Int),n[i]?=some v->0<=v/\v<=1048576*(k:Int))->∃d,fW F5 (λn=>(n,())) k n s=some (.inl (d,()))/\d.length=n.length/\∀(i:Nat)(v:Int),n[i]?=some v->d[i]?=some (v+lh i s)
 |[],k,n,_,_,_=>⟨n,rfl,rfl,λi v b=>by rw[b];unfold lh;simp⟩
 |a::s,k,n,j,t,l=>by
  obtain⟨r,q,f,g⟩:=j a (by simp);have y0:=HF r;have e:n[q]?=some n[q]:=G g;obtain⟨B,C⟩:=l q _ e;simp only[bp]at t;have w:ah .i64 n[q] a.2.2.1=n[q]+a.2.2.1:=cz (by omega) (by omega);have x:F5 k n a=some (.inl (n.set q (n[q]+a.2.2.1))):=by unfold F5 zX;rw[f,wF e,aI e,lp,cC,lp,cC,w];rfl
  obtain⟨d,z,A,m⟩:=CJ s (k+1) (n.set q (n[q]+a.2.2.1)) (λo u=>by rw[bx];exact j o (by simp[u])) (by omega) λi v b=>by
   have p:((k+1:Nat):Int)=(k:Int)+1:=by omega
   rw[p];by_cases c:q=i;.subst c;rw[be g]at b;cases b;constructor<;>omega
   .rw[bz c]at b;obtain⟨D,z0⟩:=l i v b;constructor<;>omega
  refine⟨d,by unfold fW;rw[x];exact z,by rw[A,bx],λi v b=>?_⟩;unfold lh;by_cases c:q=i;.subst c;have y:n[q]=v:=(aj.1 b).2;rw[m q _ (be g),aA f,y];congr 1;omega
  .rw[m i v (by rw[bz c];exact b),aB (by rw[f];intro h;exact c (t8.1 h))];congr 1;omega
theorem GN(i:Nat)(a:fg)(l:List fg):lh i (a::l)=(if a.1=(i:Int)then a.2.2.1 else 0)+lh i l:=rfl
theorem AJ{l:List fg}(b:mU qR 0 l=true)(i:Nat):∀d,d<=i->lh i (l.drop (d+1))=lh i (l.drop 1)
 |0,_=>rfl
 |d+1,h=>by
  rw[<-AJ b i d (by omega)];by_cases a:d+1<l.length;.rw[d8 a];have e:l[d+1]?=some l[d+1]:=G a;obtain⟨q,f,g⟩:=KX b e (by omega);rw[GN,aB (by rw[f];intro c;have:=t8.1 c;omega),me]
  .rw[ed (by omega),ed (by omega)]
theorem KZ{α:Type}(i:Nat)(f m s:Int)(a ok:Option α):ad (aY (i:Int) 0) (ad (ay f s) a (ad (ay 0 (i:Int)) (ad (ay m s) a ok) ok)) (ad (ay 0 (i:Int)) (ad (ay m s) a ok) ok)=if(bif Nat.beq i 0 then ay f s else ay m s)=true then a else ok:=by cases i with
 |zero=>rw[el (by rfl),dS (b:=ay 0 ((0:Nat):Int)) (by rfl),lG];rfl
 |succ i=>rw[dS (b:=aY ((i+1:Nat):Int) 0) (by rw[gi];exact aQ (by omega)),el (by rw[gQ];exact ar (by omega)),lG];rfl
def over(f:Int)(l:List fg)(i:Nat)(a:fg):Bool:=bif Nat.beq i 0 then ay f (lh i (l.drop 1))else ay a.2.2.1 (lh i (l.drop 1))
def vC(f:Int)(l:List fg)(i:Nat)(_:Unit)(a:fg):Option (Sum Unit (D cQ)):=if over f l i a=true then some (.inr ((i:Int),(0:Int),()))else some (.inl ())
def Jp(f:Int)(l:List fg):Option (D cQ):=aE (fW (vC f l) (λ_=>()) 0 () l) λ_=>some ((-1:Int),(0:Int),())
theorem R3(l:List fg)(f:Int):B5 (l,f,())=if d6 l=0 then if aO 0 1048576 f=true then Jp f l else some ((0:Int),(2:Int),())else some ((0:Int),d6 l,()):=by
 unfold B5;rw[pM,cC];show ad (bF (d6 l) 0) (some ((0:Int),d6 l,())) _=_;by_cases e:d6 l=0
 .
  rw[dS (by rw[gI,ar e];rfl),aA e,fB];cases y0:aO 0 1048576 f;.rfl
  rw[aA rfl,aA rfl];obtain⟨p,z0,A,r⟩:=tP e;have x:gw (ak l) (ak l) 8=true:=by unfold gw Hm.gu;rw[aJ];simp only[ae,bB,bO];refine⟨by omega,by omega,?_⟩;show l.length*8<=4294967296;omega
  have s:dx 1 (ak l) (ak l)=true:=by unfold dx;rw[aJ];simp only[ae,bB];omega
  have t:eS l 1 (ak l)=l.drop 1:=by unfold eS;rw[aJ];show(l.drop 1).take (l.length-1)=l.drop 1;rw[dp (by simp)]
  rw[x,lp,s,lp,t]
  obtain⟨c,B,C,D⟩:=CJ (l.drop 1) 0 (List.replicate l.length 0) (λa n=>by refine⟨bQ.1 r a (jg n),?_⟩;obtain⟨j,m⟩:=bj n;rw[gh]at m;obtain⟨q,z,x0⟩:=KX A m (by omega);have:=(aj.1 m).1;exact⟨q,z,by rw[aN];omega⟩) (by rw[cB];omega) λi v h=>by
   rw[cd]at h;split at h;.cases h;constructor<;>decide
   .cases h
  rw[et (xs:=l.drop 1) (st:=λ(b:List Int)i=>(b,(i:Int),())) (g:=F5) (fin:=λb=>(b,())) (b:=List.replicate l.length 0)];rotate_left;.intro b i y d;refine(ei d).trans ?_;show zX b y (λc=>some (Sum.inl (c,ah .i64 (i:Int) 1,())))=_;rw[OV,bH (gc d (by rw[cB];omega))];unfold lR F5;cases zX b y some<;>rfl
  .exactλb=>ek
  .rfl
  .rw[cB];omega
  rw[B,hI];have u:c.length=l.length:=by rw[C];simp
  have w:ak c=ak l:=by rw[aJ,aJ,u]
  have o:∀i,i<l.length->c[i]?=some (lh i (l.drop 1)):=λi g=>by have:=D i 0 (by rw[cd,aA g]);rw[me]at this;exact this
  show aE (aF (λk:Int×Unit=>ad (ay k.1 (ak c)) (aC (aU c k.1) (am (az c k.1) λw0=>_)) _) 1000000000 ((0:Int),())) _=_;rw[w];rw[et (xs:=l) (st:=λ(_:Unit)i=>((i:Int),())) (g:=vC f l) (fin:=λ_=>()) (b:=())];rotate_left;.intro b i y d;have g:=(aj.1 d).1;refine(el (rO d) _ _).trans ?_;rw[wF (o i g),lp,aI (o i g),cC];simp only[aI d,cC];refine(KZ i f y.2.2.1 (lh i (l.drop 1)) _ _).trans ?_;show(if over f l i y=true then some (Sum.inr (Sum.inr ((i:Int),(0:Int),())))else some (Sum.inl (ah .i64 (i:Int) 1,())))=_;rw[bH (gc d (aM p (by decide)))];unfold lR vC;cases over f l i y<;>rfl
  .exactλb=>ek
  .rfl
  .omega
  rfl
 .rw[el (by rw[gI,aQ e];rfl),aB e]
theorem Ju(l:List fg)(m:l.length<=8)(n:l.all pU=true)(i:Nat)(hi:i<l.length){R:Type}:aF (λd2:Int×Int×Unit=>ad (ay d2.2.1 (ak l)) (am (az l d2.2.1) λf:fg=>ad (aY f.1 (i:Int)) (am (az l d2.2.1) λg:fg=>some (.inl (ah .i64 d2.1 g.2.2.1,ah .i64 d2.2.1 1,()))) (some (.inl (d2.1,ah .i64 d2.2.1 1,())))) (ao (some (.inl (d2.1,()))))) 1000000000 ((0:Int),((i+1:Nat):Int),())=(some (.inl (lh i (l.drop (i+1)),())):Option (Sum (Int×Unit) R)):=by
 have q:∀(s:List fg)(k:Nat)(b:Int),l.drop k=s->k+s.length=l.length->0<=b->b<=1048576*k->fW (R:=R) (λ_ b(a:fg)=>some (.inl (if a.1=(i:Int)then ah .i64 b a.2.2.1 else b))) (λb=>(b,())) k b s=some (.inl (b+lh i s,())):=by
  intro s
  induction s with
   |nil=>intro k b _ _ _ _;unfold fW lh;rw[gL]
   |cons a s h=>
   intro k b d o r t
   have p:a∈l:=by
    have:a∈l.drop k:=by rw[d];simp
    exact jg this
   have u:=HF (bQ.1 n a p);simp only[bp]at o;unfold fW lh;by_cases c:a.1=(i:Int);.simp only[c,fI];rw[cz (by omega) (by omega)];rw[h (k+1) (b+a.2.2.1) (by rw[<-iL,d];rfl) (by omega) (by omega) (by omega)];congr 3;omega
   .simp only[c,fc];rw[h (k+1) b (by rw[<-iL,d];rfl) (by omega) (by omega) (by omega)];congr 3;omega
 rw[hN]
 have:=pv (f:=λd2:Int×Int×Unit=>ad (ay d2.2.1 (ak l)) (am (az l d2.2.1) λf:fg=>ad (aY f.1 (i:Int)) (am (az l d2.2.1) λg:fg=>some (.inl (ah .i64 d2.1 g.2.2.1,ah .i64 d2.2.1 1,()))) (some (.inl (d2.1,ah .i64 d2.2.1 1,())))) (ao (some (.inl (d2.1,()))))) (xs:=l) (st:=λ(b:Int)j=>(b,(j:Int),())) (g:=λ_ b a=>some (.inl (if a.1=(i:Int)then ah .i64 b a.2.2.1 else b))) (fin:=λb=>(b,())) (R:=R) (λb j y e=>by
  refine(ei e).trans ?_;show ad (aY y.1 (i:Int)) (am (az l (j:Int)) _) _=_;rw[aI e,cC,bH (gc e (aM m (by decide)))];unfold lR;rw[gi];by_cases c:y.1=(i:Int);.simp[c,JR]
  .simp[c,ng]) (λb=>ek) (l.drop (i+1)) (i+1) 0 1000000000 rfl (by rw[cB];omega) (by rw[cB];omega)
 refine this.trans ?_;rw[q (l.drop (i+1)) (i+1) 0 rfl (by rw[cB];omega) (by omega) (by omega),me]
theorem L4(l:List fg)(f:Int):HZ (l,f,())=if d6 l=0 then if aO 0 1048576 f=true then Jp f l else some ((0:Int),(2:Int),())else some ((0:Int),d6 l,()):=by
 unfold HZ;rw[zI,cC];show ad (bF (d6 l) 0) (some ((0:Int),d6 l,())) _=_;by_cases a:d6 l=0
 .
  rw[dS (by rw[gI,ar a];rfl),aA a,fB];cases k:aO 0 1048576 f;.rfl
  rw[aA rfl,aA rfl];obtain⟨d,j,h,e⟩:=tP a;rw[et (xs:=l) (st:=λ(_:Unit)i=>((i:Int),())) (g:=vC f l) (fin:=λ_=>()) (b:=())];rotate_left;.intro b i y c;have g:=(aj.1 c).1;refine(el (rO c) _ _).trans ?_;simp only[bH (gc c (aM d (by decide)))];rw[Ju l d e i g,hI,AJ h i i (au _)];simp only[aI c,cC];refine(eP (λo=>aE o _) (KZ i f y.2.2.1 (lh i (l.drop 1)) _ _)).trans ?_;unfold lR vC;show aE (if over f l i y=true then _ else _) _=_;cases over f l i y<;>rfl
  .exactλb=>ek
  .rfl
  .omega
  rfl
 .rw[el (by rw[gI,aQ a];rfl),aB a]
theorem Jo(l:List fg)(f:Int):B5 (l,f,())=HZ (l,f,()):=(R3 l f).trans (L4 l f).symm
abbrev fR:=D pg
theorem gF(t:D (.ai iT cQ)):eR t=some (aO t.2.1 t.2.2.1 t.1,()):=by
 unfold eR aO;rw[jv,jv,lG];by_cases h:(t.2.1:Int)<=t.1;.rw[ar h];rfl
 .rw[aQ h];rfl
def st(v lo hi kl:Int):Option (Sum (Int×Unit) (Int×Unit)):=ad (ay v lo) (ad (aY hi 0) (ao (some (1,()))) (some (.inl (2,())))) (ad (ay hi v) (ad (aY hi 0) (ao (some (1,()))) (some (.inl (2,())))) (some (.inl (kl,()))))
def ki:Int->List (Int×Int×Int)->(Int×Unit->Option (Int×Unit))->Option (Int×Unit)|b,[],a=>a (b,())|b,q::t,a=>aE (st q.1 q.2.1 q.2.2 b) λx=>ki x.1 t a
def zr(q:Int×Int×Int):Bool:=! aY q.2.2 0||aO q.2.1 q.2.2 q.1
def rr(q:Int×Int×Int):Bool:=aO q.2.1 q.2.2 q.1
theorem V4(v lo hi kl:Int):st v lo hi kl=if aO lo hi v=true then some (.inl (kl,()))else if aY hi 0=true then some (.inr (1,()))else some (.inl (2,())):=by
 unfold st;rw[fB];cases aO lo hi v;.rw[aB (by decide),aB (by decide),lG];rfl
 .rfl
theorem gN(K:Int×Unit->Option (Int×Unit)):∀(l:List (Int×Int×Int))(kl:Int),ki kl l K=bif l.all zr then K (bif l.all rr then kl else 2,())else some (1,())
 |[],kl=>rfl
 |q::t,kl=>by
  unfold ki;rw[V4,cP,cP];have b:zr q=(! aY q.2.2 0||aO q.2.1 q.2.2 q.1):=rfl;have a:rr q=aO q.2.1 q.2.2 q.1:=rfl;rw[b,a];cases aO q.2.1 q.2.2 q.1
  .
   cases aY q.2.2 0;.rw[aB (by decide),aB (by decide),hI,gN K t 2];show(bif t.all zr then K (bif t.all rr then 2 else 2,())else some (1,()))=bif t.all zr then K (2,())else some (1,());cases t.all rr<;>rfl
   .rfl
  .rw[aA rfl,hI,gN K t kl,vn,dF,dF]
theorem mq(d:Int):aY 0 d=aO 0 0 d:=by
 rw[gi];unfold aO;by_cases h:0=d;.simp[<-h]
 .
  have:¬(0<=d/\d<=0):=by omega
  simp[h];intro a;omega
theorem kx(a:Int):aY a a=true:=ar rfl
theorem ru{o:Option (Bool×Unit)}:am o (λx=>some (x.1,()))=o:=by cases o<;>rfl
def vU{β:Type}(x:fR)(e:Int->Option β)(b:Option β):Option β:=am (eR (x.1,1,12,())) λc=>ad (bI c.1) (e 1) (am (pL (x,())) λa=>ad (bI (eV (aY a.1.1 x.1) (eV (aY a.1.2.1 x.2.1) (eV (aY a.1.2.2.1 x.2.2.1) (eV (aY a.1.2.2.2.1 x.2.2.2.1) (eV (aY a.1.2.2.2.2.1 x.2.2.2.2.1) (eV (aY a.1.2.2.2.2.2.1 x.2.2.2.2.2.1) (eV (aY a.1.2.2.2.2.2.2.1 x.2.2.2.2.2.2.1) (eV (aY a.1.2.2.2.2.2.2.2.1 x.2.2.2.2.2.2.2.1) true))))))))) (e 1) (am (ma (x,())) λd=>ad (bI d.1) (e 2) b))
def iJ(x:fR):Prop:=∃c:Int,ny (x,())=some (c,())/\∀(b:Type)(e:Int->Option b)(a:Option b),vU x e a=ad (bF c 0) (e c) a
theorem P1(f:Int):aO 0 3 f=false->aY f 1=false/\aY f 3=false:=by
 rw[gi,gi];intro h;have b:¬(0<=f/\f<=3):=by intro a;unfold aO at h;rw[ar a.1,ar a.2]at h;cases h
 exact⟨aQ (by omega),aQ (by omega)⟩
theorem WZ(e:Int):aO (-1) 3 e=true->cH 0 e=!aY e (-1):=by
 intro h;have:=dt h;rw[jv,gi];by_cases a:e= -1;.rw[ar a,aQ (by omega)];rfl
 .rw[aQ a,ar (by omega)];rfl
theorem Na(A B C E F a f1 f3 d c b:Bool)(h1:F=false->f1=false/\f3=false)(h2:E=true->d=!c):(E&&(C&&((d||b)&&(A&&(B&&((f1||f3)&&a))))))=((f1||f3)&&!(c&&!b)&&(A&&(B&&(C&&(true&&(E&&(F&&(a&&true)))))))):=by
 cases E;.simp
 .
  rw[h2 rfl];cases F;.rw[(h1 rfl).1,(h1 rfl).2];simp
  .cases f1<;>cases f3<;>cases c<;>cases b<;>cases A<;>cases B<;>cases C<;>cases a<;>rfl
theorem WN(a b c d e f g:Int):iJ (((1:Int),a,b,c,d,e,f,g,()):fR):=by
 have r:ny ((((1:Int),a,b,c,d,e,f,g,()):fR),())=ki 0 [(a,-1,511),(b,1,512),(c,0,15),(d,0,0),(e,-1,3),(f,0,3),(g,0,15)] λi=>am (BZ (f,())) λh=>ad (bI h.1) (some (2,())) (ad (aY e (-1)) (ad (bF c 0) (some (2,())) (some (i.1,()))) (some (i.1,()))):=rfl;have s:pL ((((1:Int),a,b,c,d,e,f,g,()):fR),())=some ((((1:Int),a,b,c,0,e,f,g,()):fR),()):=rfl;have t:eR ((1:Int),1,12,())=some (true,()):=rfl;have u:ma ((((1:Int),a,b,c,d,e,f,g,()):fR),())=ot ((((1:Int),a,b,c,d,e,f,g,()):fR),()):=by unfold ma;simp only[gF,cC];cases aO 0 3 e<;>cases aO 0 15 a<;>exact ru
 have v:ot ((((1:Int),a,b,c,d,e,f,g,()):fR),())=some (aO (-1) 3 e&&(aO 0 15 c&&((cH 0 e||aY c 0)&&(aO (-1) 511 a&&(aO 1 512 b&&((aY f 1||aY f 3)&&aO 0 15 g))))),()):=by unfold ot;simp only[gF,cC];generalize aO (-1) 3 e=B;generalize aO 0 15 c=A;generalize cH 0 e=m;generalize aY c 0=l;generalize aO (-1) 511 a=y;generalize aO 1 512 b=z;generalize aY f 1=p;generalize aY f 3=q;generalize aO 0 15 g=C;cases B<;>cases A<;>cases m<;>cases y<;>cases z<;>cases p<;>cases q<;>cases C<;>cases l<;>rfl
 have w:∀n:Int,am (BZ (f,())) (λh=>ad (bI h.1) (some ((2:Int),())) (ad (aY e (-1)) (ad (bF c 0) (some (2,())) (some (n,()))) (some (n,()))))=some (bif(aY f 1||aY f 3)&&!(aY e (-1)&&!aY c 0)then n else 2,()):=by intro n;have o:bF c 0=!aY c 0:=rfl;unfold BZ;rw[o];cases aY f 1<;>cases aY f 3<;>cases aY e (-1)<;>cases aY c 0<;>rfl
 have x:=Na (aO (-1) 511 a) (aO 1 512 b) (aO 0 15 c) (aO (-1) 3 e) (aO 0 3 f) (aO 0 15 g) (aY f 1) (aY f 3) (cH 0 e) (aY e (-1)) (aY c 0) (P1 f) (WZ e);unfold iJ vU;rw[r,gN,s,t];simp only[gF,cC,cP,go,zr,rr,mq,kx,w,u,v,x];generalize((aY f 1||aY f 3)&&!(aY e (-1)&&!aY c 0))=k;cases aO 0 0 d;.exact⟨_,rfl,λ_ _ _=>rfl⟩
 .generalize(aO (-1) 511 a&&(aO 1 512 b&&(aO 0 15 c&&(true&&(aO (-1) 3 e&&(aO 0 3 f&&(aO 0 15 g&&true)))))))=j;cases k<;>cases j<;>exact⟨_,rfl,λ_ _ _=>rfl⟩
theorem WM(a b c d e f g:Int):iJ (((2:Int),a,b,c,d,e,f,g,()):fR):=by
 have h:ny ((((2:Int),a,b,c,d,e,f,g,()):fR),())=ki 0 [(a,0,511),(b,1,512),(c,0,0),(d,0,0),(e,0,0),(f,0,0),(g,0,0)] λs=>some (s.1,()):=rfl;have i:pL ((((2:Int),a,b,c,d,e,f,g,()):fR),())=some ((((2:Int),a,b,0,0,0,0,0,()):fR),()):=rfl;have j:eR ((2:Int),1,12,())=some (true,()):=rfl;have k:ma ((((2:Int),a,b,c,d,e,f,g,()):fR),())=ot ((((2:Int),a,b,c,d,e,f,g,()):fR),()):=by unfold ma;simp only[gF,cC];cases aO 0 3 e<;>cases aO 0 15 a<;>exact ru
 unfold iJ vU;rw[h,gN,i,j];simp only[cC,k];unfold ot;simp only[gF,cC,cP,go,zr,rr,mq,kx];generalize aO 0 511 a=l;generalize aO 1 512 b=m;generalize aO 0 0 c=n;generalize aO 0 0 d=o;generalize aO 0 0 e=p;generalize aO 0 0 f=q;generalize aO 0 0 g=r;cases aY f 1<;>cases l<;>cases m<;>cases n<;>cases o<;>cases p<;>cases q<;>cases r<;>exact⟨_,rfl,λ_ _ _=>rfl⟩
theorem WL(a b c d e f g:Int):iJ (((3:Int),a,b,c,d,e,f,g,()):fR):=by
 have q:ny ((((3:Int),a,b,c,d,e,f,g,()):fR),())=ki 0 [(a,0,511),(b,1,512),(c,0,0),(d,0,0),(e,0,0),(f,0,3),(g,0,0)] λv=>am (BZ (f,())) λw=>ad (bI w.1) (some (2,())) (some (v.1,())):=rfl;have r:pL ((((3:Int),a,b,c,d,e,f,g,()):fR),())=some ((((3:Int),a,b,0,0,0,f,0,()):fR),()):=rfl;have s:eR ((3:Int),1,12,())=some (true,()):=rfl;have t:ma ((((3:Int),a,b,c,d,e,f,g,()):fR),())=ot ((((3:Int),a,b,c,d,e,f,g,()):fR),()):=by unfold ma;simp only[gF,cC];cases aO 0 3 e<;>cases aO 0 15 a<;>exact ru
 unfold iJ vU;rw[q,gN,r,s];simp only[cC,t];unfold ot BZ;simp only[gF,cC,cP,go,zr,rr,mq,kx];generalize aO 0 511 a=i;generalize aO 1 512 b=j;generalize aO 0 0 c=k;generalize aO 0 0 d=l;generalize aO 0 0 e=m;generalize aO 0 0 g=n;have h:=P1 f;revert h;generalize aO 0 3 f=u;generalize aY f 1=o;generalize aY f 3=p;intro h;cases u;.rw[(h rfl).1,(h rfl).2];cases i<;>cases j<;>cases k<;>cases l<;>cases m<;>cases n<;>exact⟨_,rfl,λ_ _ _=>rfl⟩
 .cases o<;>cases p<;>cases i<;>cases j<;>cases k<;>cases l<;>cases m<;>cases n<;>exact⟨_,rfl,λ_ _ _=>rfl⟩
theorem WK(a b c d e f g:Int):iJ (((4:Int),a,b,c,d,e,f,g,()):fR):=by
 have h:ny ((((4:Int),a,b,c,d,e,f,g,()):fR),())=ki 0 [(a,0,511),(b,1,512),(c,0,0),(d,0,1),(e,0,0),(f,0,0),(g,0,0)] λs=>some (s.1,()):=rfl;have i:pL ((((4:Int),a,b,c,d,e,f,g,()):fR),())=some ((((4:Int),a,b,0,d,0,0,0,()):fR),()):=rfl;have j:eR ((4:Int),1,12,())=some (true,()):=rfl;have k:ma ((((4:Int),a,b,c,d,e,f,g,()):fR),())=ot ((((4:Int),a,b,c,d,e,f,g,()):fR),()):=by unfold ma;simp only[gF,cC];cases aO 0 3 e<;>cases aO 0 15 a<;>exact ru
 unfold iJ vU;rw[h,gN,i,j];simp only[cC,k];unfold ot;simp only[gF,cC,cP,go,zr,rr,mq,kx];generalize aO 0 511 a=l;generalize aO 1 512 b=m;generalize aO 0 0 c=n;generalize aO 0 1 d=o;generalize aO 0 0 e=p;generalize aO 0 0 f=q;generalize aO 0 0 g=r;cases aY f 1<;>cases l<;>cases m<;>cases n<;>cases o<;>cases p<;>cases q<;>cases r<;>exact⟨_,rfl,λ_ _ _=>rfl⟩
theorem WJ(a b c d e f g:Int):iJ (((5:Int),a,b,c,d,e,f,g,()):fR):=by
 have h:ny ((((5:Int),a,b,c,d,e,f,g,()):fR),())=ki 0 [(a,0,511),(b,0,0),(c,0,31),(d,0,0),(e,0,0),(f,0,0),(g,0,0)] λs=>some (s.1,()):=rfl;have i:pL ((((5:Int),a,b,c,d,e,f,g,()):fR),())=some ((((5:Int),a,0,c,0,0,0,0,()):fR),()):=rfl;have j:eR ((5:Int),1,12,())=some (true,()):=rfl;have k:ma ((((5:Int),a,b,c,d,e,f,g,()):fR),())=ot ((((5:Int),a,b,c,d,e,f,g,()):fR),()):=by unfold ma;simp only[gF,cC];cases aO 0 3 e<;>cases aO 0 15 a<;>exact ru
 unfold iJ vU;rw[h,gN,i,j];simp only[cC,k];unfold ot;simp only[gF,cC,cP,go,zr,rr,mq,kx];generalize aO 0 511 a=l;generalize aO 0 0 b=m;generalize aO 0 31 c=n;generalize aO 0 0 d=o;generalize aO 0 0 e=p;generalize aO 0 0 f=q;generalize aO 0 0 g=r;cases aY f 1<;>cases l<;>cases m<;>cases n<;>cases o<;>cases p<;>cases q<;>cases r<;>exact⟨_,rfl,λ_ _ _=>rfl⟩
theorem WH(a b c d e f g:Int):iJ (((6:Int),a,b,c,d,e,f,g,()):fR):=by
 have h:ny ((((6:Int),a,b,c,d,e,f,g,()):fR),())=ki 0 [(a,0,511),(b,0,0),(c,0,31),(d,0,255),(e,0,0),(f,0,0),(g,0,0)] λs=>some (s.1,()):=rfl;have i:pL ((((6:Int),a,b,c,d,e,f,g,()):fR),())=some ((((6:Int),a,0,c,d,0,0,0,()):fR),()):=rfl;have j:eR ((6:Int),1,12,())=some (true,()):=rfl;have k:ma ((((6:Int),a,b,c,d,e,f,g,()):fR),())=ot ((((6:Int),a,b,c,d,e,f,g,()):fR),()):=by unfold ma;simp only[gF,cC];cases aO 0 3 e<;>cases aO 0 15 a<;>exact ru
 unfold iJ vU;rw[h,gN,i,j];simp only[cC,k];unfold ot;simp only[gF,cC,cP,go,zr,rr,mq,kx];generalize aO 0 511 a=l;generalize aO 0 0 b=m;generalize aO 0 31 c=n;generalize aO 0 255 d=o;generalize aO 0 0 e=p;generalize aO 0 0 f=q;generalize aO 0 0 g=r;cases aY f 1<;>cases l<;>cases m<;>cases n<;>cases o<;>cases p<;>cases q<;>cases r<;>exact⟨_,rfl,λ_ _ _=>rfl⟩
theorem WG(a b c d e f g:Int):iJ (((7:Int),a,b,c,d,e,f,g,()):fR):=by have h:ny ((((7:Int),a,b,c,d,e,f,g,()):fR),())=ki 0 [(a,0,15),(b,0,0),(c,0,31),(d,0,0),(e,0,3),(f,0,0),(g,0,0)] λr=>some (r.1,()):=rfl;have i:pL ((((7:Int),a,b,c,d,e,f,g,()):fR),())=some ((((7:Int),a,0,c,0,e,0,0,()):fR),()):=rfl;have j:eR ((7:Int),1,12,())=some (true,()):=rfl;unfold iJ vU;rw[h,gN,i,j];unfold ma;simp only[gF,cC,cP,go,zr,rr,mq,kx];generalize aO 0 15 a=k;generalize aO 0 0 b=l;generalize aO 0 31 c=m;generalize aO 0 0 d=n;generalize aO 0 3 e=o;generalize aO 0 0 f=p;generalize aO 0 0 g=q;cases k<;>cases l<;>cases m<;>cases n<;>cases o<;>cases p<;>cases q<;>exact⟨_,rfl,λ_ _ _=>rfl⟩
theorem WF(a b c d e f g:Int):iJ (((8:Int),a,b,c,d,e,f,g,()):fR):=by have h:ny ((((8:Int),a,b,c,d,e,f,g,()):fR),())=ki 0 [(a,0,15),(b,0,0),(c,0,31),(d,0,255),(e,0,3),(f,0,0),(g,0,0)] λr=>some (r.1,()):=rfl;have i:pL ((((8:Int),a,b,c,d,e,f,g,()):fR),())=some ((((8:Int),a,0,c,d,e,0,0,()):fR),()):=rfl;have j:eR ((8:Int),1,12,())=some (true,()):=rfl;unfold iJ vU;rw[h,gN,i,j];unfold ma;simp only[gF,cC,cP,go,zr,rr,mq,kx];generalize aO 0 15 a=k;generalize aO 0 0 b=l;generalize aO 0 31 c=m;generalize aO 0 255 d=n;generalize aO 0 3 e=o;generalize aO 0 0 f=p;generalize aO 0 0 g=q;cases k<;>cases l<;>cases m<;>cases n<;>cases o<;>cases p<;>cases q<;>exact⟨_,rfl,λ_ _ _=>rfl⟩
theorem WE(a b c d e f g:Int):iJ (((9:Int),a,b,c,d,e,f,g,()):fR):=by have h:ny ((((9:Int),a,b,c,d,e,f,g,()):fR),())=ki 0 [(a,0,0),(b,0,16),(c,0,0),(d,0,0),(e,0,3),(f,0,0),(g,0,0)] λt=>some (t.1,()):=rfl;have i:pL ((((9:Int),a,b,c,d,e,f,g,()):fR),())=some ((((9:Int),0,b,0,0,e,0,0,()):fR),()):=rfl;have j:eR ((9:Int),1,12,())=some (true,()):=rfl;unfold iJ vU;rw[h,gN,i,j];unfold ma;simp only[gF,cC,cP,go,zr,rr,mq,kx];generalize aO 0 0 a=k;generalize aO 0 16 b=l;generalize aO 0 0 c=m;generalize aO 0 0 d=n;generalize aO 0 3 e=o;generalize aO 0 0 f=p;generalize aO 0 0 g=q;generalize u:aO 0 15 a=r;generalize v:aO 0 31 c=s;cases r<;>cases s<;>cases k<;>cases l<;>cases m<;>cases n<;>cases o<;>cases p<;>cases q<;>exact⟨_,rfl,λ_ _ _=>rfl⟩
theorem Tb(a b c d e f g:Int):iJ (((10:Int),a,b,c,d,e,f,g,()):fR):=by have h:ny ((((10:Int),a,b,c,d,e,f,g,()):fR),())=ki 0 [(a,0,0),(b,0,0),(c,0,0),(d,0,0),(e,0,3),(f,0,0),(g,0,0)] λt=>some (t.1,()):=rfl;have i:pL ((((10:Int),a,b,c,d,e,f,g,()):fR),())=some ((((10:Int),0,0,0,0,e,0,0,()):fR),()):=rfl;have j:eR ((10:Int),1,12,())=some (true,()):=rfl;unfold iJ vU;rw[h,gN,i,j];unfold ma;simp only[gF,cC,cP,go,zr,rr,mq,kx];generalize aO 0 0 a=k;generalize aO 0 0 b=l;generalize aO 0 0 c=m;generalize aO 0 0 d=n;generalize aO 0 3 e=o;generalize aO 0 0 f=p;generalize aO 0 0 g=q;generalize u:aO 0 15 a=r;generalize v:aO 0 31 c=s;cases r<;>cases s<;>cases k<;>cases l<;>cases m<;>cases n<;>cases o<;>cases p<;>cases q<;>exact⟨_,rfl,λ_ _ _=>rfl⟩
theorem Ta(a b c d e f g:Int):iJ (((11:Int),a,b,c,d,e,f,g,()):fR):=by have h:ny ((((11:Int),a,b,c,d,e,f,g,()):fR),())=ki 0 [(a,0,0),(b,0,0),(c,0,0),(d,0,48),(e,0,0),(f,0,0),(g,0,0)] λu=>some (u.1,()):=rfl;have i:pL ((((11:Int),a,b,c,d,e,f,g,()):fR),())=some ((((11:Int),0,0,0,d,0,0,0,()):fR),()):=rfl;have j:eR ((11:Int),1,12,())=some (true,()):=rfl;unfold iJ vU;rw[h,gN,i,j];unfold ma;simp only[gF,cC,cP,go,zr,rr,mq,kx];generalize aO 0 0 a=k;generalize aO 0 0 b=l;generalize aO 0 0 c=m;generalize aO 0 48 d=n;generalize aO 0 0 e=o;generalize aO 0 0 f=p;generalize aO 0 0 g=q;generalize x:aO 0 3 e=t;generalize v:aO 0 15 a=r;generalize w:aO 0 31 c=s;cases t<;>cases r<;>cases s<;>cases k<;>cases l<;>cases m<;>cases n<;>cases o<;>cases p<;>cases q<;>exact⟨_,rfl,λ_ _ _=>rfl⟩
theorem S9(a b c d e f g:Int):iJ (((12:Int),a,b,c,d,e,f,g,()):fR):=by have h:ny ((((12:Int),a,b,c,d,e,f,g,()):fR),())=ki 0 [(a,0,0),(b,0,0),(c,0,0),(d,0,0),(e,0,0),(f,0,0),(g,0,0)] λu=>some (u.1,()):=rfl;have i:pL ((((12:Int),a,b,c,d,e,f,g,()):fR),())=some ((((12:Int),0,0,0,0,0,0,0,()):fR),()):=rfl;have j:eR ((12:Int),1,12,())=some (true,()):=rfl;unfold iJ vU;rw[h,gN,i,j];unfold ma;simp only[gF,cC,cP,go,zr,rr,mq,kx];generalize aO 0 0 a=k;generalize aO 0 0 b=l;generalize aO 0 0 c=m;generalize aO 0 0 d=n;generalize aO 0 0 e=o;generalize aO 0 0 f=p;generalize aO 0 0 g=q;generalize x:aO 0 3 e=t;generalize v:aO 0 15 a=r;generalize w:aO 0 31 c=s;cases t<;>cases r<;>cases s<;>cases k<;>cases l<;>cases m<;>cases n<;>cases o<;>cases p<;>cases q<;>exact⟨_,rfl,λ_ _ _=>rfl⟩
theorem P5{n lo hi j:Int}(h:aO lo hi n=false)(h1:lo<=j)(h2:j<=hi):aY n j=false:=by rw[gi];refine aQ λa=>?_;subst a;unfold aO at h;rw[ar h1,ar h2]at h;cases h
theorem aaw{k:Int}(h:aO 1 12 k=true):k=1\/k=2\/k=3\/k=4\/k=5\/k=6\/k=7\/k=8\/k=9\/k=10\/k=11\/k=12:=by have:=dt h;omega
theorem A6(x:fR):iJ x:=by
 obtain⟨k,a,b,c,d,e,f,g,⟨⟩⟩:=x;cases h:aO 1 12 k
 .
  have l:∀j:Int,1<=j->j<=12->aY k j=false:=λj m i=>P5 h m i;refine⟨1,?_,λp n o=>?_⟩;.unfold ny Rm;simp only[l 1 (by decide) (by decide),l 2 (by decide) (by decide),l 3 (by decide) (by decide),l 4 (by decide) (by decide),l 5 (by decide) (by decide),l 6 (by decide) (by decide),l 7 (by decide) (by decide),l 8 (by decide) (by decide),l 9 (by decide) (by decide),l 10 (by decide) (by decide),l 11 (by decide) (by decide),l 12 (by decide) (by decide),ng];rfl
  .unfold vU;rw[gF,cC];show ad (bI (aO 1 12 k)) _ _=_;rw[h];rfl
 .
  have i:=aaw h;rcases i with i|i|i|i|i|i|i|i|i|i|i|i<;>cases i;.exact WN a b c d e f g
  .exact WM a b c d e f g
  .exact WL a b c d e f g
  .exact WK a b c d e f g
  .exact WJ a b c d e f g
  .exact WH a b c d e f g
  .exact WG a b c d e f g
  .exact WF a b c d e f g
  .exact WE a b c d e f g
  .exact Tb a b c d e f g
  .exact Ta a b c d e f g
  .exact S9 a b c d e f g
def jR(x:fR):Int:=Classical.choose (A6 x)
theorem WD(x:fR):ny (x,())=some (jR x,()):=(sy (A6 x)).1
theorem WC(x:fR)(β:Type)(e:Int->Option β)(a:Option β):vU x e a=ad (bF (jR x) 0) (e (jR x)) a:=(sy (A6 x)).2 β e a
def na{X:Type}(f:X->Int):List X->Int|[]=>0|x::t=>if aY (f x) 0=true then na f t else f x
theorem pA{X:Type}(f:X->Int):∀(l:List X)(i:Nat),aE (fW (λ_(_:Unit)x=>if aY (f x) 0=true then some (.inl ())else some (.inr (f x,()))) (λ_=>()) i () l) (λ_=>some ((0:Int),()))=some (na f l,())
 |[],i=>rfl
 |x::l,i=>by
  unfold fW na;by_cases h:aY (f x) 0=true;.rw[aA h];simp only[h,fI];exact pA f l (i+1)
  .rw[aB h];simp only[h,fc];rfl
def kL(l:List fR):Int:=if(48:Int)<(l.length:Int)then 9 else na jR l
theorem R2(l:List fR):II (l,())=some (kL l,()):=by
 unfold II kL;by_cases h:(48:Int)<(l.length:Int);.rw[el (by rw[gQ,aJ];exact ar h),aA h]
 .
  rw[dS (by rw[gQ,aJ];exact aQ h),aB h];rw[et (xs:=l) (st:=λ(_:Unit)i=>((i:Int),())) (g:=λ_ _ a=>if aY (jR a) 0=true then some (.inl ())else some (.inr (jR a,()))) (fin:=λ_=>()) (b:=())];rotate_left;.intro b i y c;refine(ei c).trans ?_;rw[gO];show am (ny (y,())) (λd=>ad (bF d.1 0) (ao (ao (some (d.1,())))) (some (.inl (ah .i64 (i:Int) 1,()))))=_;rw[WD,cC,bH (gc c (show l.length<=140737488355328 by omega))];show ad (!aY (jR y) 0) _ _=_;cases aY (jR y) 0<;>rfl
  .exactλb=>ek
  .rfl
  .omega
  exact pA jR l 0
theorem Un(l:List fR):Q1 (l,())=some (kL l,()):=by
 unfold Q1 kL;by_cases h:(48:Int)<(l.length:Int);.rw[el (by rw[gQ,aJ];exact ar h),aA h]
 .
  rw[dS (by rw[gQ,aJ];exact aQ h),aB h];rw[et (xs:=l) (st:=λ(_:Unit)i=>((i:Int),())) (g:=λ_ _ a=>if aY (jR a) 0=true then some (.inl ())else some (.inr (jR a,()))) (fin:=λ_=>()) (b:=())];rotate_left;.intro b i y d;refine(el (rO d) _ _).trans ?_;simp only[aI d,cC];rw[gO,bH (gc d (show l.length<=140737488355328 by omega))];refine(WC y _ (λc=>ao (ao (some (c,())))) (some (Sum.inl (((i+1:Nat):Int),())))).trans ?_;show ad (!aY (jR y) 0) _ _=_;cases aY (jR y) 0<;>rfl
  .exactλb=>ek
  .rfl
  .omega
  exact pA jR l 0
def pY:List (D kh)->Int|[]=>0|z::l=> @HSub.hSub Int Int Int _ z.2.2.1 z.2.2.2.1+pY l
theorem I6(z:D kh)(l:List (D kh)):pY (z::l)= @HSub.hSub Int Int Int _ z.2.2.1 z.2.2.2.1+pY l:=rfl
theorem KN:∀(l:List (D kh)),l.all oz=true->0<=pY l+65536*(l.length:Int)/\pY l<=65536*(l.length:Int)
 |[],_=>by unfold pY;simp
 |z::l,h=>by rw[cP,ae]at h;have a:=h.1;unfold oz at a;rw[ae,ae,ae]at a;have b:=dt a.2.2.1;have c:=dt a.2.2.2;have d:=KN l h.2;unfold pY;rw[bp];constructor<;>omega
theorem xm:∀(l:List (D kh))(b:Int),l.all oz=true->l.length<=20-> -1000000000<=b->b+65536*(l.length:Int)<=1000000000-> -1000000000<=b-65536*(l.length:Int)->l.foldl (λb z=>ah .i64 b (bb .i64 z.2.2.1 z.2.2.2.1)) b=b+pY l
 |[],b,_,_,_,_,_=>by unfold pY;simp
 |z::l,b,h,g,k,e,f=>by
  rw[cP,ae]at h;have a:=h.1;unfold oz at a;rw[ae,ae,ae]at a;have i:=dt a.2.2.1;have j:=dt a.2.2.2;rw[bp]at e f g;have c:bb .i64 z.2.2.1 z.2.2.2.1= @HSub.hSub Int Int Int _ z.2.2.1 z.2.2.2.1:=fa (by omega) (by omega);have d:ah .i64 b (bb .i64 z.2.2.1 z.2.2.2.1)=b+ @HSub.hSub Int Int Int _ z.2.2.1 z.2.2.2.1:=by rw[c];exact cz (by omega) (by omega)
  rw[fw,d,xm l _ h.2 (by omega) (by omega) (by omega) (by omega)];rw[I6];omega
theorem Uo(c:D ce)(h:c.2.1.length<=20):∃t:Int,FO (c,())=some (t,c.2.1.foldl (λb z=>ah .i64 b (bb .i64 z.2.2.1 z.2.2.2.1)) 0,()):=by
 unfold FO;rw[et (xs:=c.2.1) (st:=λ(b:Int×Int)i=>(b.1,b.2,(i:Int),())) (g:=λ_ b z=>some (.inl (ah .i64 b.1 z.2.2.1,ah .i64 b.2 (bb .i64 z.2.2.1 z.2.2.2.1)))) (fin:=λb=>(b.1,b.2,())) (b:=(0,0))];rotate_left;.intro b i y d;refine(ei d).trans ?_;rw[bH (gc d (aM h (by decide)))];rfl
 .exactλb=>ek
 .rfl
 .omega
 rw[qk,hI]
 have:∀(l:List (D kh))(a b:Int),(l.foldl (λ(b:Int×Int)z=>(ah .i64 b.1 z.2.2.1,ah .i64 b.2 (bb .i64 z.2.2.1 z.2.2.2.1))) (a,b)).2=l.foldl (λb z=>ah .i64 b (bb .i64 z.2.2.1 z.2.2.2.1)) b:=by intro l;induction l with
  |nil=>intro a b;rfl
  |cons z l e=>intro a b;rw[fw,fw];exact e _ _
 exact⟨_,by rw[<-this c.2.1 0 0]⟩
theorem Az(f:Int)(b:List fg):∀(l:List fg)(i:Nat),∃r,fW (vC f b) (λ_=>()) i () l=some r
 |[],i=>⟨_,rfl⟩
 |a::l,i=>by
  unfold fW vC;by_cases h:over f b i a=true;.rw[aA h];exact⟨_,rfl⟩
  .rw[aB h];exact Az f b l (i+1)
theorem DQ(l:List fg)(f:Int):∃r,HZ (l,f,())=some r:=by
 rw[L4];split
 .
  split
  .unfold Jp;obtain⟨r,a⟩:=Az f l l 0;rw[a];cases r with
   |inl r=>exact⟨_,rfl⟩
   |inr r=>exact⟨_,rfl⟩
  .exact⟨_,rfl⟩
 .exact⟨_,rfl⟩
def wi(n:Int)(p:D vW):Int:=if aY (kL p.2.1) 0=true then if aO 0 (n-1) p.1=true then 0 else 2 else kL p.2.1
theorem L5(c:D ce)(l:c.2.2.2.2.2.2.2.2.2.2.2.1.length<=20):Ut (c,())=if aO 1 8 (ak c.2.2.2.2.2.2.2.2.2.2.2.2.1)=true then some (na (wi (ak c.2.2.2.2.2.2.2.2.2.2.2.1)) c.2.2.2.2.2.2.2.2.2.2.2.2.1,())else some (1,()):=by
 unfold Ut;refine(wO _ _ _).trans ?_;show(if aO 1 8 (ak c.2.2.2.2.2.2.2.2.2.2.2.2.1)=true then _ else _)=_;by_cases e:aO 1 8 (ak c.2.2.2.2.2.2.2.2.2.2.2.2.1)=true
 .
  rw[aA e,aA e];have j:=dt e;rw[aJ]at j;rw[et (xs:=c.2.2.2.2.2.2.2.2.2.2.2.2.1) (st:=λ(_:Unit)i=>((i:Int),())) (g:=λ_ _ a=>if aY (wi (ak c.2.2.2.2.2.2.2.2.2.2.2.1) a) 0=true then some (.inl ())else some (.inr (wi (ak c.2.2.2.2.2.2.2.2.2.2.2.1) a,()))) (fin:=λ_=>()) (b:=())];rotate_left
  .
   intro b i y g;refine(ei g).trans ?_;rw[gO];show am (II (y.2.1,())) (λh=>ad (bF h.1 0) (ao (ao (some (h.1,())))) (am (mV (y.1,0,bb .i64 (ak c.2.2.2.2.2.2.2.2.2.2.2.1) 1,())) λk=>ad (bI k.1) (ao (ao (some (2,())))) (some (.inl (ah .i64 (i:Int) 1,())))))=_;rw[R2,cC,wO,bH (gc g (show c.2.2.2.2.2.2.2.2.2.2.2.2.1.length<=140737488355328 by omega))];show ad (!aY (kL y.2.1) 0) (ao (ao (some (kL y.2.1,())))) (if aO 0 (bb .i64 (ak c.2.2.2.2.2.2.2.2.2.2.2.1) 1) y.1=true then _ else _)=_;rw[fa (by rw[aJ];omega) (by rw[aJ];omega)];by_cases d:aY (kL y.2.1) 0=true;.have f:wi (ak c.2.2.2.2.2.2.2.2.2.2.2.1) y=if aO 0 (ak c.2.2.2.2.2.2.2.2.2.2.2.1-1) y.1=true then 0 else 2:=aA d;rw[f,d];cases aO 0 (ak c.2.2.2.2.2.2.2.2.2.2.2.1-1) y.1<;>rfl
   .have f:wi (ak c.2.2.2.2.2.2.2.2.2.2.2.1) y=kL y.2.1:=aB d;rw[f,aB d,el (b:=!aY (kL y.2.1) 0) (by rw[qv]at d;rw[d];rfl)];rfl
  .exactλb=>ek
  .rfl
  .omega
  exact pA _ _ 0
 .rw[aB e,aB e]
theorem AW{α:Type}{l:List α}(h:ay 20 (ak l)=false):l.length<=20:=by rw[gQ,aJ]at h;have:=jM h;omega
theorem UL(c:D ce):∃b,IJ (c,())=some (b,())/\(b=true->c.1.length<=20/\c.2.1.length<=20/\c.2.2.2.2.2.2.2.2.2.2.1.length<=20/\c.2.2.2.2.2.2.2.2.2.2.2.1.length<=20/\c.2.2.2.2.2.2.2.2.2.2.2.2.1.length<=20):=by
 unfold IJ;show∃b,ad (ay 20 (ak c.1)) _ (ad (ay 20 (ak c.2.1)) _ (ad (ay 20 (ak c.2.2.2.2.2.2.2.2.2.2.1)) _ (ad (ay 20 (ak c.2.2.2.2.2.2.2.2.2.2.2.1)) _ (ad (ay 20 (ak c.2.2.2.2.2.2.2.2.2.2.2.2.1)) _ _))))=some (b,())/\_;cases g:ay 20 (ak c.1);rotate_left;.exact⟨false,rfl,λh=>by cases h⟩
 cases j:ay 20 (ak c.2.1);rotate_left;.exact⟨false,rfl,λh=>by cases h⟩
 cases k:ay 20 (ak c.2.2.2.2.2.2.2.2.2.2.1);rotate_left;.exact⟨false,rfl,λh=>by cases h⟩
 cases l:ay 20 (ak c.2.2.2.2.2.2.2.2.2.2.2.1);rotate_left;.exact⟨false,rfl,λh=>by cases h⟩
 cases m:ay 20 (ak c.2.2.2.2.2.2.2.2.2.2.2.2.1);rotate_left;.exact⟨false,rfl,λh=>by cases h⟩
 have e:=AW k;have f:=AW m;rw[ng,ng,ng,ng,ng];rw[et (xs:=c.2.2.2.2.2.2.2.2.2.2.1) (st:=λ(_:Unit)i=>((i:Int),())) (g:=λ_ _ a=>if(!ay 1000 (ak a.2.1))=true then some (.inl ())else some (.inr (false,()))) (fin:=λ_=>()) (b:=())];rotate_left;.intro b i y d;refine(ei d).trans ?_;rw[gO];show ad (ay 1000 (ak y.2.1)) (ao (ao (some (false,())))) (some (.inl (ah .i64 (i:Int) 1,())))=_;rw[bH (gc d (aM e (by decide)))];cases ay 1000 (ak y.2.1)<;>rfl
 .exactλb=>ek
 .rfl
 .omega
 rw[iV];cases c.2.2.2.2.2.2.2.2.2.2.1.all λa=>!ay 1000 (ak a.2.1);.exact⟨false,rfl,λh=>by cases h⟩
 rw[aA rfl,hI];rw[et (xs:=c.2.2.2.2.2.2.2.2.2.2.2.2.1) (st:=λ(_:Unit)i=>((i:Int),())) (g:=λ_ _ a=>if(!ay 100 (ak a.2.1))=true then some (.inl ())else some (.inr (false,()))) (fin:=λ_=>()) (b:=())];rotate_left;.intro b i y d;refine(ei d).trans ?_;rw[gO];show ad (ay 100 (ak y.2.1)) (ao (ao (some (false,())))) (some (.inl (ah .i64 (i:Int) 1,())))=_;rw[bH (gc d (aM f (by decide)))];cases ay 100 (ak y.2.1)<;>rfl
 .exactλb=>ek
 .rfl
 .omega
 rw[iV];cases c.2.2.2.2.2.2.2.2.2.2.2.2.1.all λa=>!ay 100 (ak a.2.1);.exact⟨false,rfl,λh=>by cases h⟩
 exact⟨true,rfl,λ_=>⟨AW g,AW j,e,AW l,f⟩⟩
def xH(l:List fg):Bool:=l.all λa=>aY a.2.1 0
def left(c:D ce):Int:=pY c.2.1-c.2.2.2.2.2.2.2.1-1
theorem Sv(c:D ce)(h:c.2.1.length<=20){R:Type}:aF (λa:Int×Int×Unit=>ad (ay a.2.1 (ak c.2.1)) (am (az c.2.1 a.2.1) λe=>some (.inl (ah .i64 a.1 (bb .i64 e.2.2.1 e.2.2.2.1),ah .i64 a.2.1 1,()))) (ao (some (.inl (a.1,()))))) 1000000000 (bb .i64 (uO .i64 c.2.2.2.2.2.2.2.1) 1,0,())=(some (.inl (c.2.1.foldl (λb z=>ah .i64 b (bb .i64 z.2.2.1 z.2.2.2.1)) (bb .i64 (uO .i64 c.2.2.2.2.2.2.2.1) 1),())):Option (Sum (Int×Unit) R)):=by
 rw[et (xs:=c.2.1) (st:=λ(b:Int)i=>(b,(i:Int),())) (g:=λ_ b z=>some (.inl (ah .i64 b (bb .i64 z.2.2.1 z.2.2.2.1)))) (fin:=λb=>(b,())) (b:=bb .i64 (uO .i64 c.2.2.2.2.2.2.2.1) 1)];rotate_left;.intro b i y d;refine(ei d).trans ?_;rw[bH (gc d (aM h (by decide)))];rfl
 .exactλb=>ek
 .rfl
 .omega
 rw[qk]
theorem yu{c:D ce}(h:dh c=true):aO 0 32 c.2.2.2.2.2.2.2.1=true:=by unfold dh mY at h;simp only[ae]at h;exact h.1.2.2.2.2.2.1
theorem SZ(l:List (D kh))(p:Int)(h:l.length<=20)(d:l.all oz=true)(hp:aO 0 32 p=true):l.foldl (λb z=>ah .i64 b (bb .i64 z.2.2.1 z.2.2.2.1)) (bb .i64 (uO .i64 p) 1)=pY l-p-1:=by
 have e:=dt hp;have a:uO .i64 p=0-p:=fa (a:=0) (b:=p) (by omega) (by omega);have c:bb .i64 (uO .i64 p) 1=0-p-1:=by rw[a];exact fa (by omega) (by omega)
 rw[c,xm _ _ d h (by omega) (by omega) (by omega)];omega
theorem SY(l:List (D kh))(p:Int)(h:l.length<=20)(a:l.all oz=true)(hp:aO 0 32 p=true):bb .i64 (bb .i64 (l.foldl (λb z=>ah .i64 b (bb .i64 z.2.2.1 z.2.2.2.1)) 0) p) 1=pY l-p-1:=by have d:=dt hp;have e:=KN l a;rw[xm _ _ a h (by omega) (by omega) (by omega),me];have c:bb .i64 (pY l) p=pY l-p:=fa (by omega) (by omega);rw[c];exact fa (by omega) (by omega)
theorem S4(c:D ce)(h:c.2.1.length<=20)(d:c.2.1.all oz=true)(a:dh c=true):c.2.1.foldl (λb z=>ah .i64 b (bb .i64 z.2.2.1 z.2.2.2.1)) (bb .i64 (uO .i64 c.2.2.2.2.2.2.2.1) 1)=left c:=SZ _ _ h d (yu a)
theorem S3(c:D ce)(h:c.2.1.length<=20)(d:c.2.1.all oz=true)(a:dh c=true):bb .i64 (bb .i64 (c.2.1.foldl (λb z=>ah .i64 b (bb .i64 z.2.2.1 z.2.2.2.1)) 0) c.2.2.2.2.2.2.2.1) 1=left c:=SY _ _ h d (yu a)
def Eg(c:D ce):Option (Int×Unit):=if xH c.2.2.2.2.2.2.2.2.2.2.2.1=true then ad (ay (left c) 0) (some (18,())) (am (HZ (c.2.2.2.2.2.2.2.2.2.2.2.1,left c,())) λa=>ad (bF a.2.1 0) (some (18,())) (ad (bF a.1 (-1)) (some (18,())) (some (0,()))))else some (1,())
theorem L6(c:D ce)(h:c.2.1.length<=20)(f:c.2.2.2.2.2.2.2.2.2.2.2.1.length<=20)(j:c.2.1.all oz=true)(g:dh c=true):Of (c,())=if d6 c.2.2.2.2.2.2.2.2.2.2.2.1=0 then Eg c else some (d6 c.2.2.2.2.2.2.2.2.2.2.2.1,()):=by
 unfold Of;show am (yY (c.2.2.2.2.2.2.2.2.2.2.2.1,())) _=_;rw[pM,cC];show ad (bF (d6 c.2.2.2.2.2.2.2.2.2.2.2.1) 0) (some (d6 c.2.2.2.2.2.2.2.2.2.2.2.1,())) _=_;by_cases d:d6 c.2.2.2.2.2.2.2.2.2.2.2.1=0
 .
  rw[dS (by rw[gI,ar d];rfl),aA d];rw[et (xs:=c.2.2.2.2.2.2.2.2.2.2.2.1) (st:=λ(_:Unit)i=>((i:Int),())) (g:=λ_ _ a=>if aY a.2.1 0=true then some (.inl ())else some (.inr ((1:Int),()))) (fin:=λ_=>()) (b:=())];rotate_left;.intro b i y e;refine(ei e).trans ?_;rw[gO];show ad (!aY y.2.1 0) (ao (ao (ad (cH 0 (i:Int)) (some ((1:Int),())) _))) (some (.inl (ah .i64 (i:Int) 1,())))=_;rw[el (b:=cH 0 (i:Int)) (by rw[jv];exact ar (by omega)),bH (gc e (aM f (by decide)))];cases aY y.2.1 0<;>rfl
  .exactλb=>ek
  .rfl
  .omega
  rw[iV];unfold Eg xH;cases c.2.2.2.2.2.2.2.2.2.2.2.1.all λa=>aY a.2.1 0;.rfl
  rw[aA rfl,aA rfl,hI];refine(eP (λo=>aE o _) (Sv c h)).trans ?_;rw[S4 c h j g,hI];show ad (ay (left c) 0) _ (am (B5 (c.2.2.2.2.2.2.2.2.2.2.2.1,left c,())) _)=_;rw[Jo]
 .rw[el (by rw[gI,aQ d];rfl),aB d]
theorem vo{l:List (D kh)}(h:gM l=true):l.all oz=true:=by unfold gM at h;simp only[ae]at h;exact h.2.1
theorem UK(c:D ce)(k:c.1.length<=20)(h1:c.2.1.length<=20)(h2:c.2.2.2.2.2.2.2.2.2.2.1.length<=20)(h:c.2.2.2.2.2.2.2.2.2.2.2.1.length<=20):∃n,yj (c,())=some (n,())/\Ky (c,())=some (n,()):=by
 unfold yj Ky;rw[L9 (c,()) k,Ur (c,()) k h1,cC,cC];show∃n,ad (bF (if ij c.1=true then 0 else 1) 0) (some (if ij c.1=true then 0 else 1,())) _=_/\ad (bI (ij c.1&&gM c.2.1)) _ _=_;cases w:ij c.1;.exact⟨_,rfl,rfl⟩
 rw[aA rfl,dS (b:=bF 0 0) (by rfl),L8 (c,()) h1,cC];show∃n,ad (bF (if gM c.2.1=true then 0 else 1) 0) (some (if gM c.2.1=true then 0 else 1,())) _=_/\_;cases p:gM c.2.1;.exact⟨_,rfl,rfl⟩
 rw[aA rfl,dS (b:=bF 0 0) (by rfl),L7 (c,()) h2,cC,dS (b:=bI (true&&true)) (by rfl),Up (c,()) h2,cC];show∃n,ad (bF (if dh c=true then 0 else 1) 0) (some (if dh c=true then 0 else 1,())) _=_/\ad (bI (dh c)) _ _=_;cases o:dh c;.exact⟨_,rfl,rfl⟩
 rw[aA rfl,dS (b:=bF 0 0) (by rfl),dS (b:=bI true) (by rfl)];rw[L6 c h1 h (vo p) o];show∃n,_/\am (H0 (c.2.2.2.2.2.2.2.2.2.2.2.1,())) _=_;rw[zI,cC];show∃n,_/\ad (bF (d6 c.2.2.2.2.2.2.2.2.2.2.2.1) 0) (some (d6 c.2.2.2.2.2.2.2.2.2.2.2.1,())) _=_;by_cases g:d6 c.2.2.2.2.2.2.2.2.2.2.2.1=0;rotate_left
 .
  rw[aB g,cC];have l:bF (d6 c.2.2.2.2.2.2.2.2.2.2.2.1) 0=true:=by rw[gI,aQ g];rfl
  rw[el l];exact⟨_,rfl,el l _ _⟩
 rw[aA g,dS (b:=bF (d6 c.2.2.2.2.2.2.2.2.2.2.2.1) 0) (by rw[gI,ar g];rfl)];rw[et (xs:=c.2.2.2.2.2.2.2.2.2.2.2.1) (st:=λ(_:Unit)i=>((i:Int),())) (g:=λ_ _ a=>if aY a.2.1 0=true then some (.inl ())else some (.inr ((1:Int),()))) (fin:=λ_=>()) (b:=())];rotate_left;.intro b i y f;refine(ei f).trans ?_;rw[gO];show ad (!aY y.2.1 0) (ao (ao (some ((1:Int),())))) (some (.inl (ah .i64 (i:Int) 1,())))=_;rw[bH (gc f (aM h (by decide)))];cases aY y.2.1 0<;>rfl
 .exactλb=>ek
 .rfl
 .omega
 rw[iV];unfold Eg xH;cases c.2.2.2.2.2.2.2.2.2.2.2.1.all λa=>aY a.2.1 0;.exact⟨_,rfl,rfl⟩
 rw[aA rfl,aA rfl,hI];obtain⟨t,v⟩:=Uo c h1;show∃n,_/\am (FO (c,())) _=_;rw[v,cC];show∃n,_/\ad (ay (bb .i64 (bb .i64 (c.2.1.foldl (λb z=>ah .i64 b (bb .i64 z.2.2.1 z.2.2.2.1)) 0) c.2.2.2.2.2.2.2.1) 1) 0) (some (18,())) (am (HZ (c.2.2.2.2.2.2.2.2.2.2.2.1,bb .i64 (bb .i64 (c.2.1.foldl (λb z=>ah .i64 b (bb .i64 z.2.2.1 z.2.2.2.1)) 0) c.2.2.2.2.2.2.2.1) 1,())) _)=_;rw[S3 c h1 (vo p) o];cases ay (left c) 0;rotate_left;.exact⟨_,rfl,rfl⟩
 obtain⟨r,u⟩:=DQ c.2.2.2.2.2.2.2.2.2.2.2.1 (left c);rw[ng,ng,u,cC,cC];cases bF r.2.1 0;rotate_left;.exact⟨_,rfl,rfl⟩
 cases bF r.1 (-1);rotate_left;.exact⟨_,rfl,rfl⟩
 rw[ng,ng,ng,ng,cC,dS (b:=bF 0 0) (by rfl),L5 c h];show∃n,_/\ad (ay (ak c.2.2.2.2.2.2.2.2.2.2.2.2.1) 1) _ (ad (ay 8 (ak c.2.2.2.2.2.2.2.2.2.2.2.2.1)) _ _)=_;rw[fB];by_cases e:aO 1 8 (ak c.2.2.2.2.2.2.2.2.2.2.2.2.1)=true;rotate_left;.rw[aB e,aB e];exact⟨_,rfl,rfl⟩
 rw[aA e,aA e,cC];have s:=dt e;rw[aJ]at s;rw[et (xs:=c.2.2.2.2.2.2.2.2.2.2.2.2.1) (st:=λ(_:Unit)i=>((i:Int),())) (g:=λ_ _ a=>if aY (wi (ak c.2.2.2.2.2.2.2.2.2.2.2.1) a) 0=true then some (.inl ())else some (.inr (wi (ak c.2.2.2.2.2.2.2.2.2.2.2.1) a,()))) (fin:=λ_=>()) (b:=())];rotate_left
 .
  intro b i y f;refine(ei f).trans ?_;rw[gO];show am (Q1 (y.2.1,())) (λq=>ad (bF q.1 0) (ao (ao (some (q.1,())))) (ad (ay y.1 0) (ao (ao (some (2,())))) (ad (cH (ak c.2.2.2.2.2.2.2.2.2.2.2.1) y.1) (ao (ao (some (2,())))) (some (.inl (ah .i64 (i:Int) 1,()))))))=_;rw[Un,cC,td,bH (gc f (show c.2.2.2.2.2.2.2.2.2.2.2.2.1.length<=140737488355328 by omega))];show ad (!aY (kL y.2.1) 0) (ao (ao (some (kL y.2.1,())))) (if aO 0 (ak c.2.2.2.2.2.2.2.2.2.2.2.1-1) y.1=true then _ else _)=_;by_cases d:aY (kL y.2.1) 0=true;.have j:wi (ak c.2.2.2.2.2.2.2.2.2.2.2.1) y=if aO 0 (ak c.2.2.2.2.2.2.2.2.2.2.2.1-1) y.1=true then 0 else 2:=aA d;rw[j,d];cases aO 0 (ak c.2.2.2.2.2.2.2.2.2.2.2.1-1) y.1<;>rfl
  .have j:wi (ak c.2.2.2.2.2.2.2.2.2.2.2.1) y=kL y.2.1:=aB d;rw[j,aB d,el (b:=!aY (kL y.2.1) 0) (by rw[qv]at d;rw[d];rfl)];rfl
 .exactλb=>ek
 .rfl
 .omega
 refine⟨na (wi (ak c.2.2.2.2.2.2.2.2.2.2.2.1)) c.2.2.2.2.2.2.2.2.2.2.2.2.1,?_,pA _ _ 0⟩;rw[lG];show(if(!aY (na (wi (ak c.2.2.2.2.2.2.2.2.2.2.2.1)) c.2.2.2.2.2.2.2.2.2.2.2.2.1) 0)=true then some (na (wi (ak c.2.2.2.2.2.2.2.2.2.2.2.1)) c.2.2.2.2.2.2.2.2.2.2.2.2.1,())else some (0,()))=_;by_cases m:na (wi (ak c.2.2.2.2.2.2.2.2.2.2.2.1)) c.2.2.2.2.2.2.2.2.2.2.2.2.1=0;.rw[m];rfl
 .rw[gi,aQ m];rfl
end Go.Bo
namespace Go.Ls
open Go Go.Hm
def Ok{α:Type}(o:Option α)(Q:α->Prop):Prop:=∃y,o=some y/\Q y
section
variable{α β:Type}{Q:α->Prop}{P:β->Prop}
theorem Ok.mono{a:α->Prop}{o:Option α}(h:Ok o Q)(g:∀y,Q y->a y):Ok o a:=by obtain⟨y,b,c⟩:=h;exact⟨y,b,g y c⟩
theorem ab{y:α}(h:Q y):Ok (some y) Q:=⟨y,rfl,h⟩
theorem aL{b:Bool}{x y:Option α}(h1:b=true->Ok x Q)(h2:b=false->Ok y Q):Ok (ad b x y) Q:=by cases b with
 |true=>exact h1 rfl
 |false=>exact h2 rfl
theorem bg{b:Bool}{x y:Option α}(h:b=true)(h1:Ok x Q):Ok (ad b x y) Q:=by rw[el h];exact h1
theorem av{b:Bool}{x y:Option α}(h:b=false)(h1:Ok y Q):Ok (ad b x y) Q:=by rw[dS h];exact h1
theorem aq{b:Bool}{x:Option α}(h:b=true)(h1:Ok x Q):Ok (aC b x) Q:=by rw[h];exact h1
theorem aZ{o:Option β}{f:β->Option α}(h:Ok o P)(g:∀x,P x->Ok (f x) Q):Ok (am o f) Q:=by obtain⟨y,rfl,a⟩:=h;exact g y a
theorem pq{o:Option β}{f:β->Option α}(h:Ok o P)(g:∀x,o=some x->P x->Ok (f x) Q):Ok (am o f) Q:=by obtain⟨y,e,a⟩:=h;rw[e];exact g y e a
theorem aa{o:Option β}{f:β->Option α}{x:β}(h:o=some x)(g:Ok (f x) Q):Ok (am o f) Q:=by rw[h];exact g
def gS{σ a:Type}(P:σ->Prop)(Q:a->Prop):Sum σ a->Prop| .inl x=>P x| .inr y=>Q y
theorem aK{o:Option (Sum β α)}{f:β->Option α}(h:Ok o (gS P Q))(g:∀x,P x->Ok (f x) Q):Ok (aE o f) Q:=by obtain⟨y,rfl,a⟩:=h;cases y with
 |inl x=>exact g x a
 |inr y=>exact⟨y,rfl,a⟩
theorem bo{o:Option α}(h:Ok o Q){P:β->Prop}:Ok (ao (α:=β) o) (gS P Q):=by obtain⟨y,rfl,a⟩:=h;exact⟨.inr y,rfl,a⟩
theorem aV{x:β}(h:P x):Ok (some (Sum.inl x)) (gS P Q):=⟨_,rfl,h⟩
theorem pp{σ:Type}{f:σ->Option (Sum σ α)}{I:Nat->σ->Prop}{n k:Nat}{x:σ}(b:I k x)(e:k<n)(c:∀k x,I k x->Ok (f x) (gS (λa=>0<k/\I (k-1) a) Q)):Ok (aF f n x) Q:=by rw[hN];induction n generalizing k x with
 |zero=>omega
 |succ n d=>show Ok (aE (f x) (i4 f n)) Q;refine aK (c k x b) λa h=>d h.2 (by omega)
theorem bq{σ:Type}{f:σ->Option (Sum σ α)}{I:Nat->σ->Prop}{m b:Nat}{x:σ}(d:I 0 x)(e:m<b)(l:∀i s,i<m->I i s->Ok (f s) (gS (I (i+1)) Q))(g:∀s,I m s->Ok (f s) (gS (λ_=>False) Q)):Ok (aF f b x) Q:=by
 refine pp (I:=λk s=>k<=m/\I (m-k) s) (k:=m) ⟨au _,by rw[dW];exact d⟩ e λk s h=>?_;obtain⟨n,c⟩:=h;by_cases j:k=0
 .subst j;exact(g s c).mono λy a=>by cases y with
  |inl _=>exact a.elim
  |inr _=>exact a
 .refine(l (m-k) s (by omega) c).mono λy a=>?_;cases y with
  |inl o=>exact⟨by omega,by omega,by rw[show m-(k-1)=m-k+1 by omega];exact a⟩
  |inr _=>exact a
theorem Xb{l:List α}{i:Int}(a:0<=i)(h1:i<ak l):∃x,az l i=some x/\l[i.toNat]?=some x:=by
 rw[aJ]at h1;obtain⟨n,rfl⟩:∃n:Nat,i=(n:Int):=⟨i.toNat,by omega⟩;refine⟨l[n]'(by omega),?_,?_⟩;.show l[n]?=_;exact G (by omega)
 .show l[((n:Int)).toNat]?=_;rw[cY];exact G (by omega)
theorem oC{l:List α}{i:Int}(a:0<=i)(h1:i<ak l):Ok (az l i) λx=>l[i.toNat]?=some x:=Xb a h1
theorem cL{l:List α}{i:Nat}(h:i<l.length):Ok (az l (i:Int)) λx=>l[i]?=some x:=⟨l[i],G h,G h⟩
theorem qA{l:List α}{i:Int}(a:0<=i)(h1:i<ak l):aU l i=true:=by unfold aU;rw[ar a];exact ar h1
theorem eu{l:List α}{i:Nat}(h:i<l.length):aU l (i:Int)=true:=qA (by omega) (by rw[aJ];omega)
theorem cj{l r:List α}{b:Nat}(h:l.length+r.length<=10000)(a:b<=1000):a4 l r b=true:=by unfold a4 gu;rw[bO];show(l.length+r.length)*b<=4294967296;exact aM (sJ h a) (by decide)
theorem eJ{a b:Int}(h:a<b):ay a b=true:=ar h
theorem cE{a b:Int}(h:b<=a):ay a b=false:=aQ (by omega)
theorem kS{a b:Int}(h:a<=b):cH a b=true:=ar h
theorem kT{a b:Int}(h:b<a):cH a b=false:=aQ (by omega)
theorem kj{a b:Int}(h:ay a b=true):a<b:=br h
theorem eY{a b:Int}(h:ay a b=false):b<=a:=by have:=jM h;omega
theorem nD{a b:Int}(h:cH a b=true):a<=b:=br h
theorem qa{a b:Int}(h:cH a b=false):b<a:=by have:=jM h;omega
theorem kM{a b:Int}(h:aY a b=true):a=b:=br h
theorem mj{a b:Int}(h:aY a b=false):a≠b:=jM h
theorem iX{a b:Int}(h:bF a b=true):a≠b:=by rw[gI]at h;simpa using h
theorem fq{a b:Int}(h:bF a b=false):a=b:=by rw[gI]at h;simpa using h
theorem Pi{b:Bool}(h:bI b=true):b=false:=by cases b<;>first|rfl|cases h
theorem lB{b:Bool}(h:bI b=false):b=true:=by cases b<;>first|rfl|cases h
theorem jt{l:List α}{i:Int}{x:α}:(aG l i x).length=l.length:=bx
end
end Go.Ls
namespace Go.Bo
open Go Go.Ls
structure xj (c : D ce) : Prop where
  AC : ij c.1 = true
  Ea : gM c.2.1 = true
  qx : dh c = true
  kl : d6 c.2.2.2.2.2.2.2.2.2.2.2.1 = 0
  use : xH c.2.2.2.2.2.2.2.2.2.2.2.1 = true
  np : 1 ≤ c.2.2.2.2.2.2.2.2.2.2.2.2.1.length ∧ c.2.2.2.2.2.2.2.2.2.2.2.2.1.length ≤ 8
  prog : ∀ p, p ∈ c.2.2.2.2.2.2.2.2.2.2.2.2.1 → p.2.1.length ≤ 48 ∧ aO 0 (ak c.2.2.2.2.2.2.2.2.2.2.2.1 - 1) p.1 = true
theorem WO{lo hi n:Int}(h:hi<n):¬aO lo hi n=true:=by intro a;have:=dt a;omega
theorem Qt{α:Type}{l:List α}{k:Int}(h:¬l.length<=20)(a:k<=20):¬aO 1 k (ak l)=true:=WO (by rw[aJ];omega)
theorem Q4(c:D ce):Ok (Oi (c,())) λr=>r.1=0->ij c.1=true:=by
 by_cases h:c.1.length<=20
 .
  rw[L9 (c,()) h];refine ab λa=>?_;have a:(if ij c.1=true then(0:Int)else 1)=0:=a;by_cases b:ij c.1=true;.exact b
  .rw[aB b]at a;cases a
 .unfold Oi;refine⟨((1:Int),()),(wO _ _ _).trans (aB (Qt (l:=c.1) (k:=4) h (by decide))),λh=>by cases h⟩
theorem Q3(c:D ce):Ok (Oh (c,())) λr=>r.1=0->gM c.2.1=true:=by
 by_cases h:c.2.1.length<=20
 .
  rw[L8 (c,()) h];refine ab λa=>?_;have a:(if gM c.2.1=true then(0:Int)else 1)=0:=a;by_cases b:gM c.2.1=true;.exact b
  .rw[aB b]at a;cases a
 .unfold Oh;refine⟨((1:Int),()),(wO _ _ _).trans (aB (Qt (l:=c.2.1) (k:=6) h (by decide))),λh=>by cases h⟩
theorem Q2(c:D ce):Ok (Og (c,())) λr=>r.1=0->dh c=true:=by
 by_cases h:c.2.2.2.2.2.2.2.2.2.2.1.length<=20
 .
  rw[L7 (c,()) h];refine ab λb=>?_;have b:(if dh c=true then(0:Int)else 1)=0:=b;by_cases d:dh c=true;.exact d
  .rw[aB d]at b;cases b
 .
  refine⟨((1:Int),()),?_,λh=>by cases h⟩;have a:∀(t:D (.ai iT (.ai iT iU)))(A:Option (Int×Unit)),A=some (1,())->am (mV t) (λf=>ad f.1 A (some ((1:Int),())))=some (1,()):=by intro t A e;rw[se,e];split<;>rfl
  unfold Og;refine a _ _ (a _ _ (a _ _ (a _ _ (a _ _ (a _ _ (a _ _ (a _ _ ?_)))))));exact el (by show bI (cH (ak c.2.2.2.2.2.2.2.2.2.2.1) 4)=true;rw[kT (by rw[aJ];omega)];rfl) _ _
theorem G6{X:Type}{f:X->Int}:∀{l:List X},na f l=0->∀x,x∈l->f x=0
 |[],_,x,c=>by cases c
 |a::l,h,x,c=>by
  unfold na at h;by_cases b:aY (f a) 0=true
  .
   rw[aA b]at h;rcases cm.1 c with rfl|c;.exact kM b
   .exact G6 h x c
  .rw[aB b]at h;rw[h]at b;exact absurd (by rfl) b
theorem RV(c:D ce):Ok (yj (c,())) λr=>r.1=0->xj c:=by
 unfold yj;refine aZ (Q4 c) λy k=>aL (λh=>ab λb=>absurd b (iX h)) λh=>?_;have u:=k (fq h);refine aZ (Q3 c) λz l=>aL (λh=>ab λb=>absurd b (iX h)) λh=>?_;have g:=l (fq h);refine aZ (Q2 c) λA m=>aL (λh=>ab λb=>absurd b (iX h)) λh=>?_;have j:=m (fq h);have w:c.2.1.length<=20:=by have:=g;unfold gM at this;simp only[ae]at this;have:=dt this.1;omega
 have o:Ok (Of (c,())) λr=>r.1=0->d6 c.2.2.2.2.2.2.2.2.2.2.2.1=0/\xH c.2.2.2.2.2.2.2.2.2.2.2.1=true:=by
  by_cases a:d6 c.2.2.2.2.2.2.2.2.2.2.2.1=0
  .
   rw[L6 c w (by have:=(tP a).1;omega) (vo g) j,aA a];unfold Eg;by_cases e:xH c.2.2.2.2.2.2.2.2.2.2.2.1=true;.rw[aA e];obtain⟨r,b⟩:=DQ c.2.2.2.2.2.2.2.2.2.2.2.1 (left c);refine aL (λ_=>ab λ_=>⟨a,e⟩) λ_=>?_;rw[b,cC];exact aL (λ_=>ab λ_=>⟨a,e⟩) λ_=>aL (λ_=>ab λ_=>⟨a,e⟩) λ_=>ab λ_=>⟨a,e⟩
   .rw[aB e];exact ab λh=>by cases h
  .unfold Of;refine aa (pM _) (bg ?_ (ab λh=>absurd h a));show bF (d6 c.2.2.2.2.2.2.2.2.2.2.2.1) 0=true;rw[gI,aQ a];rfl
 refine aZ o λB n=>aL (λh=>ab λb=>absurd b (iX h)) λh=>?_;obtain⟨a,e⟩:=n (fq h);have x:=tP a;rw[L5 c (by omega)];by_cases f:aO 1 8 (ak c.2.2.2.2.2.2.2.2.2.2.2.2.1)=true
 .
  rw[aA f,cC];refine aL (λh=>ab λb=>absurd b (iX h)) λh=>ab λ_=>?_;have s:=fq h;have t:=dt f;rw[aJ]at t;refine⟨u,g,j,a,e,by omega,λp v=>?_⟩;have:=G6 s p v;unfold wi at this;by_cases d:aY (kL p.2.1) 0=true
  .
   rw[aA d]at this;refine⟨?_,?_⟩
   .
    have d:=kM d;unfold kL at d;by_cases q:(48:Int)<(p.2.1.length:Int);.rw[aA q]at d;cases d
    .omega
   .
    by_cases i:aO 0 (ak c.2.2.2.2.2.2.2.2.2.2.2.1-1) p.1=true;.exact i
    .rw[aB i]at this;cases this
  .rw[aB d]at this;rw[this]at d;exact absurd (by rfl) d
 .rw[aB f,cC];exact bg (by rfl) (ab λh=>by cases h)
def iy(l:List Int):Prop:=∀(i j:Nat)(x y:Int),i<j->l[i]?=some x->l[j]?=some y->x<y
theorem aay{a b:Int}(e:0<=a)(h1:0<=b)(h2:a+b<=1000000000):ee .i64 (qW .u64 (ee .u64 (ah .i64 a b)) 1)=(a+b)/2:=by
 rw[cz (by omega) (by omega)];have c:ee .u64 (a+b)=a+b:=by show Hm.fT .u64 (a+b)=_;unfold Hm.fT Hm.A5;simp only;rw[ar (show(0:Int)<=a+b by omega),ar (show a+b<=(18446744073709551615:Int)by omega)];rfl
 rw[c];have d:qW .u64 (a+b) 1=(a+b)/2:=by show Int.fdiv (a+b) (Int.ofNat (Nat.pow 2 (Nat.min 1 64)))=_;rw[show Int.ofNat (Nat.pow 2 (Nat.min 1 64))=2 from rfl,Int.fdiv_eq_ediv_of_nonneg _ (by decide)]
 rw[d];show Hm.fT .i64 ((a+b)/2)=_;exact kZ (by omega) (by omega)
theorem eQ(a:Int):bF a a=false:=by rw[gI,ar rfl];rfl
theorem Rb(a b:Int):Mj (a,b,())=some (ay a b,()):=by unfold Mj u7;rw[cC];show ad (bF a a) _ _=_;rw[eQ];rfl
structure Vr (l : List Int) (t : Int) (i : Nat) (vI : Bool) : Prop where
  le : i ≤ l.length
  WP : vI = true → l[i]? = some t
  lo : iy l → ∀ (j : Nat) (x : Int), j < i → l[j]? = some x → x < t
  hi : iy l → ∀ (j : Nat) (x : Int), i ≤ j → l[j]? = some x → t ≤ x
  Yr : vI = false → l[i]? ≠ some t
theorem l8(l:List Int)(t:Int)(y0:l.length<=100000):∃(i:Nat)(b:Bool),gj (l,t,())=some ((i:Int),b,())/\Vr l t i b:=by
 have z0:Ok (gj (l,t,())) λr=>∃i:Nat,r.1=(i:Int)/\Vr l t i r.2.1:=by
  unfold gj;refine aK (P:=λs=>∃i:Nat,s=((i:Int),())/\i<=l.length/\(iy l->∀(j:Nat)(x:Int),j<i->l[j]?=some x->x<t)/\(iy l->∀(j:Nat)(x:Int),i<=j->l[j]?=some x->t<=x)) (pp (I:=λk s=>∃i j:Nat,s=((i:Int),(j:Int),())/\i<=j/\j<=l.length/\j-i<=k/\(iy l->∀(q:Nat)(x:Int),q<i->l[q]?=some x->x<t)/\(iy l->∀(q:Nat)(x:Int),j<=q->l[q]?=some x->t<=x)) (k:=l.length) ⟨0,l.length,rfl,a5 _,au _,by omega,λ_ q x h=>by omega,λ_ q x h d=>?_⟩ (by omega) ?_) ?_;.rw[fh h]at d;cases d
  .
   rintro k s⟨i,j,rfl,g,c,m,w,z⟩;refine aL (λh=>?_) λh=>?_
   .
    have B:i<j:=by have:=kj h;simp only at this;omega
    have C:ee .i64 (qW .u64 (ee .u64 (ah .i64 (i:Int) (j:Int))) 1)=(((i+j)/2:Nat):Int):=by rw[aay (by omega) (by omega) (by omega)];omega
    simp only[C];refine aZ (cL (l:=l) (i:=(i+j)/2) (by omega)) λx d=>?_;refine aa (Rb x t) ?_;refine aL (λe=>aV ⟨by omega,(i+j)/2+1,j,?_,by omega,c,by omega,λv q y D f=>?_,z⟩) λe=>aV ⟨by omega,i,(i+j)/2,rfl,by omega,by omega,by omega,w,λv q y D f=>?_⟩;.rw[bH (by omega)]
    .
     have n:=kj e;by_cases p:q=(i+j)/2;.subst p;rw[d]at f;cases f;exact n
     .have:=v q ((i+j)/2) y x (by omega) f d;exact vk this n
    .
     have n:=eY e;by_cases p:q=(i+j)/2;.subst p;rw[d]at f;cases f;exact n
     .have:=v ((i+j)/2) q x y (by omega) d f;exact vl n (vm this)
   .
    have B:j<=i:=by have:=eY h;simp only at this;omega
    have:i=j:=by omega
    subst this;exact bo (aV ⟨i,rfl,c,w,z⟩)
  .
   rintro s⟨i,rfl,g,c,m⟩;refine aL (λh=>?_) λh=>ab ⟨i,rfl,g,λh=>(by cases h),c,m,λ_ e=>?_⟩
   .
    have A:i<l.length:=by have:=kj h;rw[aJ]at this;simp only at this;omega
    refine aZ (cL (l:=l) A) λx d=>?_;refine aL (λo=>ab ⟨i,rfl,g,λ_=>by rw[d,kM o],c,m,λh=>by cases h⟩) λo=>?_;refine aZ (cL (l:=l) A) λy f=>?_;refine aa (x:=(false,())) (by unfold Mi;show some (bF y y,())=_;rw[eQ]) (av rfl (ab ⟨i,rfl,g,λh=>(by cases h),c,m,λ_ e=>?_⟩));rw[d]at e;cases e;exact mj o rfl
   .have:=eY h;rw[aJ]at this;rw[fh (by simp only at this;omega)]at e;cases e
 obtain⟨⟨a,b,u⟩,g,i,c,m⟩:=z0;have c:a=(i:Int):=c;subst c;exact⟨i,b,g,m⟩
abbrev Zn:=D eI
def zs(z:Zn):Int:=z.2.2.1
def zc(z:Zn):Int:=z.2.2.2.1
def uF(z:Zn):Prop:=0<=zs z/\1<=zc z/\zs z+zc z<=256
def In(z:Zn)(f:Int)(k:Nat):Prop:=zs z<=f/\f+2^k<=zs z+zc z/\f.tmod (2^k)=0
theorem Sk{s:Int}(a:0<=s)(h1:s<=256):bb .i64 256 s=256-s:=fa (by omega) (by omega)
theorem Im(z:Zn):Ok (qs (z,())) λr=>r.1=true->uF z:=by
 have a:Ok (some (false,())) λr:Bool×Unit=>r.1=true->uF z:=ab (λh=>by cases h);have f:Ok (ad (cH 0 z.2.2.1) (ad (ay z.2.2.1 256) (ad (cH 1 z.2.2.2.1) (ad (cH z.2.2.2.1 (bb .i64 256 z.2.2.1)) (ad (cH 0 z.2.2.2.2.1) (some (cH z.2.2.2.2.1 z.2.2.2.1,())) (some (false,()))) (some (false,()))) (some (false,()))) (some (false,()))) (some (false,()))) λr:Bool×Unit=>r.1=true->uF z:=by refine aL (λb=>aL (λc=>aL (λd=>aL (λe=>aL (λg=>ab λ_=>?_) λ_=>a) λ_=>a) λ_=>a) λ_=>a) λ_=>a;have b:0<=zs z:=nD b;have c:zs z<256:=kj c;have d:1<=zc z:=nD d;have e:zc z<=bb .i64 256 (zs z):=nD e;rw[Sk b (vm c)]at e;exact⟨b,d,by omega⟩
 unfold qs;exact aL (λ_=>aL (λ_=>aL (λ_=>f) λ_=>aL (λ_=>f) λ_=>a) λ_=>a) λ_=>a
theorem s5(k:Nat)(h:k<=4):fj .i64 1 (k:Int)=2^k:=by rcases k with _|_|_|_|_|k<;>first|rfl|omega
theorem BW(z:Zn)(f:Int)(k:Nat)(g:k<=4):Ok (kD (z,f,(k:Int),())) λr=>r.1=true->uF z->In z f k:=by
 have e:Ok (some (false,())) λr:Bool×Unit=>r.1=true->uF z->In z f k:=ab (λh=>by cases h);have j:(1:Int)<=2^k/\(2:Int)^k<=16:=by rcases k with _|_|_|_|_|k<;>first|exact⟨by decide,by decide⟩|omega
 unfold kD;refine aq (ar (show(0:Int)<=(k:Int)by omega)) (aL (λc=>aq ?_ (aL (λa=>aL (λd=>ab λb i=>?_) λ_=>e) λ_=>e)) λ_=>e);.show bF (fj .i64 1 (k:Int)) 0=true;rw[s5 k g,gI,aQ (by omega)];rfl
 .have c:zs z<=f:=nD c;have a:lf .i64 f (fj .i64 1 (k:Int))=0:=kM a;have d:fj .i64 1 (k:Int)<=zc z:=nD d;have b:f<=bb .i64 (ah .i64 (zs z) (zc z)) (fj .i64 1 (k:Int)):=nD b;obtain⟨l,m,n⟩:=i;rw[s5 k g]at a d b;rw[cz (by omega) (by omega),fa (by omega) (by omega)]at b;exact⟨c,by omega,a⟩
abbrev RI:=Int×Unit
def Kq(z:Zn)(l:List Int)(k:Nat):Prop:=iy l/\∀f,f∈l->In z f k
theorem Eu{l:List Int}{i:Nat}(h:∀(a b:Nat)(x y:Int),a<b->b<i->l[a]?=some x->l[b]?=some y->x<y)(hi:i=l.length):iy l:=by intro a b x y d e c;have:=(aj.1 c).1;exact h a b x y d (by omega) e c
theorem Gn(z:Zn)(l:List Int)(k:Nat)(c:Int)(v0:c=(k:Int))(s0:k<=4)(o0:uF z)(k0:l.length<=100000):Ok (aF (λg:Int×Unit=>ad (ay g.1 (ak l)) (am (az l g.1) λD=>am (kD (z,D,c,())) λm0=>ad (bI m0.1) (ao (ao (some ((3:Int),())))) (ad (ay 0 g.1) (am (az l (bb .i64 g.1 1)) λl0=>ad (cH D l0) (ao (ao (some ((10:Int),())))) (some (.inl (ah .i64 g.1 1,())))) (some (.inl (ah .i64 g.1 1,()))))) (ao (some (.inl ())))) 1000000000 (0,()):Option (Sum Unit RI)) (gS (λ_=>Kq z l k) λr=>r.1≠0):=by
 subst v0;refine bq (I:=λi s=>s=((i:Int),())/\(∀(a b:Nat)(x y:Int),a<b->b<i->l[a]?=some x->l[b]?=some y->x<y)/\∀(a:Nat)(f:Int),a<i->l[a]?=some f->In z f k) (m:=l.length) ⟨rfl,λa b x y _ h=>by omega,λa f h=>by omega⟩ (by omega) ?_ ?_
 .
  rintro i s u0⟨rfl,n,o⟩;refine bg (eJ (by rw[aJ];show(i:Int)<_;omega)) (aZ (cL u0) λx C=>?_);refine aZ (BW z x k s0) λb A=>aL (λ_=>bo (bo (ab (by decide)))) λq0=>?_;have t0:=A (lB q0) o0
  have t:(∀y,0<i->l[i-1]?=some y->y<x)->Ok (some (Sum.inl (ah .i64 ((i:Int),()).1 1,())):Option (Sum (Int×Unit) (Sum Unit RI))) (gS (λs=>s=(((i+1:Nat):Int),())/\(∀(a b:Nat)(x y:Int),a<b->b<i+1->l[a]?=some x->l[b]?=some y->x<y)/\∀(a:Nat)(f:Int),a<i+1->l[a]?=some f->In z f k) (gS (λ_=>Kq z l k) λr=>r.1≠0)):=by
   intro p0;refine aV ⟨by show(ah .i64 (i:Int) 1,())=_;rw[bH (by omega)],λa b u v y0 A p q=>?_,λa f j m=>?_⟩
   .
    by_cases w0:b=i
    .
     subst w0;rw[C]at q;cases q;obtain⟨w,d⟩:∃w,l[b-1]?=some w:=⟨_,G (by omega)⟩;have B:=p0 w (by omega) d;by_cases j:a=b-1;.subst j;rw[p]at d;cases d;exact B
     .exact vk (n a (b-1) u w (by omega) (by omega) p d) B
    .exact n a b u v y0 (by omega) p q
   .
    by_cases x0:a=i;.subst x0;rw[C]at m;cases m;exact t0
    .exact o a f (by omega) m
  refine aL (λh=>?_) λh=>t λy z0=>?_
  .
   have z0:0<i:=by have:=kj h;simp only at this;omega
   have e:bb .i64 (i:Int) 1=((i-1:Nat):Int):=by rw[fa (by omega) (by omega)];omega
   show Ok (am (az l (bb .i64 (i:Int) 1)) _) _;rw[e];refine aZ (cL (l:=l) (i:=i-1) (by omega)) λy n0=>aL (λ_=>bo (bo (ab (by decide)))) λr0=>t λw _ d=>?_;rw[n0]at d;cases d;exact qa r0
  .have:=eY h;simp only at this;omega
 .rintro s⟨rfl,n,o⟩;refine av (cE (by rw[aJ];exact bW _)) (bo (aV ⟨Eu n rfl,λf m=>?_⟩));obtain⟨a,j⟩:=bj m;exact o a f (aj.1 j).1 j
abbrev BS:=List Bool×Unit
def tV(s:List Bool):Prop:=s.length=256
theorem Gm(z:Zn)(l:List Int)(k:Nat)(c:Int)(C:c=2^k)(y0:uF z)(D:Kq z l k)(r0:l.length<=100000)(s0:k<=4)(w:List Bool)(B:tV w):Ok (aF (λh:BS×Int×Unit=>ad (ay h.2.1 (ak l)) (aE (am (az l h.2.1) λA=>aE (aF (λa:BS×Int×Unit=>ad (ay a.2.1 (ah .i64 A c)) (aC (cR a.2.1) (aC (ay a.2.1 256) (am (az a.1.1 a.2.1) λw0=>ad w0 (ao (ao (ao (ao (ao (some ((7:Int),()))))))) (aC (cR a.2.1) (aC (ay a.2.1 256) (am (az a.1.1 a.2.1) λh0=>some (.inl ((aG a.1.1 a.2.1 true,()),ah .i64 a.2.1 1,())))))))) (ao (some (.inl ((a.1.1,()),()))))) 1000000000 ((h.1.1,()),A,())) λv0:BS×Unit=>some (.inl ((v0.1.1,()),()))) λu0:BS×Unit=>some (.inl ((u0.1.1,()),ah .i64 h.2.1 1,()))) (ao (some (.inl ((h.1.1,()),()))))) 1000000000 ((w,()),0,()):Option (Sum (BS×Unit) RI)) (gS (λs=>tV s.1.1) λr=>r.1≠0):=by
 have q0:(1:Int)<=2^k/\(2:Int)^k<=16:=by rcases k with _|_|_|_|_|k<;>first|exact⟨by decide,by decide⟩|omega
 subst C;obtain⟨k0,j0,i0⟩:=y0;refine bq (I:=λi s=>tV s.1.1/\s.2.1=(i:Int)) (m:=l.length) ⟨B,rfl⟩ (by omega) ?_ ?_
 .
  rintro i⟨⟨s,u⟩,d,v⟩z0⟨m,f⟩;have f:d=(i:Int):=f;subst f;have m:tV s:=m;refine bg (eJ (by rw[aJ];show(i:Int)<_;omega)) (aK (P:=λb=>tV b.1.1) (aZ (cL z0) λx x0=>?_) λb q=>aV (P:=λs:BS×Int×Unit=>tV s.1.1/\s.2.1=((i+1:Nat):Int)) ⟨q,?_⟩);rotate_left;.have e:ah .i64 (i:Int) 1=((i+1:Nat):Int):=bH (by omega);rw[<-e]
  obtain⟨m0,l0,_⟩:=D.2 x (Y x0);have p0:0<=x:=by omega
  have t:ah .i64 x (2^k)=x+2^k:=cz (by omega) (by omega);refine aK (P:=λb=>tV b.1.1) (bq (I:=λj s=>tV s.1.1/\s.2.1=x+(j:Int)) (m:=(2^k:Int).toNat) ⟨m,by show x=x+((0:Nat):Int);omega⟩ (by omega) ?_ ?_) λb q=>aV (P:=λb:BS×Unit=>tV b.1.1) q
  .
   rintro j⟨⟨s,u⟩,d,v⟩t0⟨o,g⟩;have g:d=x+(j:Int):=g;subst g;have p:s.length=256:=o;have n:x+(j:Int)<256:=by omega
   refine bg (eJ (by rw[t];show x+(j:Int)<_;omega)) (aq (ar (show(0:Int)<=x+(j:Int)by omega)) (aq (eJ n) (aZ (oC (l:=s) (show(0:Int)<=x+(j:Int)by omega) (by rw[aJ,p];exact n)) λy o0=>aL (λ_=>bo (bo (bo (bo (bo (ab (by decide))))))) λ_=>aq (ar (show(0:Int)<=x+(j:Int)by omega)) (aq (eJ n) (aZ (oC (l:=s) (show(0:Int)<=x+(j:Int)by omega) (by rw[aJ,p];exact n)) λg0 n0=>aV ⟨?_,?_⟩)))));.show(aG s _ true).length=256;rw[jt,p]
   .show ah .i64 (x+(j:Int)) 1=x+((j+1:Nat):Int);rw[cz (by omega) (by omega)];omega
  .rintro⟨⟨s,u⟩,d,v⟩⟨o,g⟩;have g:d=x+(((2^k:Int).toNat:Nat):Int):=g;subst g;refine av (cE ?_) (bo (aV (P:=λb:BS×Unit=>tV b.1.1) o));rw[t];show x+2^k<=x+_;omega
 .rintro⟨⟨s,u⟩,d,v⟩⟨m,f⟩;have f:d=((l.length:Nat):Int):=f;subst f;exact av (cE (by rw[aJ];exact bW _)) (bo (aV (P:=λb:BS×Unit=>tV b.1.1) m))
theorem KS(z:Zn)(l:List Int)(k:Nat)(c q:Int)(n:q=(k:Int))(h:k<=4)(m:l.length<=100000):Ok (aF (λa:Int×Unit=>ad (ay a.1 (ak l)) (am (az l a.1) λd=>am (gj (l,bG .i64 d c,())) λo=>ad o.2.1 (am (kD (z,bK d (bG .i64 d c),q,())) λp=>ad p.1 (ao (ao (some ((11:Int),())))) (some (.inl (ah .i64 a.1 1,())))) (some (.inl (ah .i64 a.1 1,())))) (ao (some (.inl ())))) 1000000000 (0,()):Option (Sum Unit RI)) (gS (λ_=>True) λr=>r.1≠0):=by
 subst n;refine bq (I:=λi s=>s=((i:Int),())) (m:=l.length) rfl (by omega) ?_ ?_;.rintro i s g rfl;have e:Ok (some (Sum.inl (ah .i64 ((i:Int),()).1 1,())):Option (Sum (Int×Unit) (Sum Unit RI))) (gS (λs=>s=(((i+1:Nat):Int),())) (gS (λ_=>True) λr=>r.1≠0)):=aV (by show(ah .i64 (i:Int) 1,())=_;rw[bH (by omega)]);refine bg (eJ (by rw[aJ];show(i:Int)<_;omega)) (aZ (cL g) λx u=>?_);obtain⟨j,b,f,t⟩:=l8 l (bG .i64 x c) m;refine aa f (aL (λ_=>aZ (BW z _ k h) λy _=>aL (λ_=>bo (bo (ab (by decide)))) λ_=>e) λ_=>e)
 .rintro s rfl;exact av (cE (by rw[aJ];exact bW _)) (bo (aV trivial))
def dA(z:Zn)(k:Nat):List Int:=bs [] z.2.2.2.2.2.1 k
structure Cu (z : Zn) : Prop where
  pl : uF z
  fr : ∀ k, k ≤ 4 → Kq z (dA z k) k
theorem tX(z:Zn)(a:∀k,k<=4->(dA z k).length<=100000):Ok (sI (z,())) λr=>r.1=0->Cu z:=by
 unfold sI;refine aZ (Im z) λw0 t=>aL (λ_=>ab λh=>by cases h) λv=>?_;have c:=t (lB v);have w:∀r:RI,r.1≠0->r.1=0->Cu z:=λr h u=>absurd u h
 have b:∀{e:Type}{d:e->Prop}{o:Option (Sum e RI)},Ok o (gS d λr=>r.1≠0)->Ok o (gS d λr=>r.1=0->Cu z):=by intro e d o h;refine h.mono λy m=>?_;cases y with
  |inl x=>exact m
  |inr r=>exact w r m
 refine aK (b (Gn z (dA z 0) 0 0 rfl (by decide) c (a 0 (by decide)))) λ_ f=>?_;refine aK (b (Gn z (dA z 1) 1 1 rfl (by decide) c (a 1 (by decide)))) λ_ g=>?_;refine aK (b (Gn z (dA z 2) 2 2 rfl (by decide) c (a 2 (by decide)))) λ_ i=>?_;refine aK (b (Gn z (dA z 3) 3 3 rfl (by decide) c (a 3 (by decide)))) λ_ j=>?_;refine aK (b (Gn z (dA z 4) 4 4 rfl (by decide) c (a 4 (by decide)))) λ_ l=>?_;refine aK (b (Gm z (dA z 0) 0 1 rfl c f (a 0 (by decide)) (by decide) (List.replicate 256 false) aN)) λA n=>?_;refine aK (b (Gm z (dA z 1) 1 2 rfl c g (a 1 (by decide)) (by decide) A.1.1 n)) λB p=>?_;refine aK (b (Gm z (dA z 2) 2 4 rfl c i (a 2 (by decide)) (by decide) B.1.1 p)) λC q=>?_;refine aK (b (Gm z (dA z 3) 3 8 rfl c j (a 3 (by decide)) (by decide) C.1.1 q)) λD s=>?_;refine aK (b (Gm z (dA z 4) 4 16 rfl c l (a 4 (by decide)) (by decide) D.1.1 s)) λx0 z0=>?_;refine aK (b (KS z (dA z 0) 1 1 1 rfl (by decide) (a 0 (by decide)))) λ_ _=>?_;refine aK (b (KS z (dA z 1) 2 2 2 rfl (by decide) (a 1 (by decide)))) λ_ _=>?_;refine aK (b (KS z (dA z 2) 3 4 3 rfl (by decide) (a 2 (by decide)))) λ_ _=>?_;refine aK (b (KS z (dA z 3) 4 8 4 rfl (by decide) (a 3 (by decide)))) λ_ _=>?_;refine ab λ_=>⟨c,λk y0=>?_⟩;rcases k with _|_|_|_|_|k;.exact f
 .exact g
 .exact i
 .exact j
 .exact l
 .omega
abbrev sR:=List (List Int)×Unit
abbrev eK:=D de
theorem cD{α:Type}{l:List α}{i:Nat}(h:i<l.length):ay (i:Int) (ak l)=true:=eJ (by rw[aJ];omega)
theorem cU{α:Type}{l:List α}:ay (l.length:Int) (ak l)=false:=cE (by rw[aJ];exact bW _)
theorem up(f:Int):H5 (f,())=some (decide (0<=f)&&decide (f<256),()):=by unfold H5;show ad (decide (0<=f)) (some (decide (f<256),())) (some (false,()))=_;cases decide (0<=f)<;>rfl
theorem IE(a:eK):Ok (B4 (a,())) λr=>r.1=true->1<=a.1.length/\a.1.length<=4/\(@LE.le Int _ a.2.2.1 64/\ @LE.le Int _ 1 a.2.1/\ @LE.le Int _ a.2.1 a.2.2.1)/\1<=a.2.2.2.1.length/\a.2.2.2.1.length<=6/\∀n,n∈a.1-> @LE.le Int _ 0 n/\ @LT.lt Int _ n 4:=by
 unfold B4;refine aL (λ_=>ab λh=>by cases h) λc=>?_;refine aL (λ_=>ab λh=>by cases h) λd=>?_;refine aL (λ_=>ab λh=>by cases h) λo=>?_;refine aL (λ_=>ab λh=>by cases h) λp=>?_;refine aL (λ_=>ab λh=>by cases h) λq=>?_;refine aL (λ_=>ab λh=>by cases h) λe=>?_;refine aL (λ_=>ab λh=>by cases h) λf=>?_;have c:=eY c;have d:=eY d;have e:=eY e;have f:=eY f;rw[aJ]at c d e f;simp only at c d e f;refine aK (P:=λ_=>∀n,n∈a.1-> @LE.le Int _ 0 n/\ @LT.lt Int _ n 4) (bq (I:=λi s=>s=((i:Int),())/\∀(j:Nat)(n:Int),j<i->a.1[j]?=some n->0<=n/\n<4) (m:=a.1.length) ⟨rfl,λj n h=>by omega⟩ (by omega) ?_ ?_) λ_ b=>ab λ_=>⟨by omega,by omega,⟨eY o,eY p,eY q⟩,by omega,by omega,b⟩
 .
  rintro i s m⟨rfl,g⟩;refine bg (cD m) (aZ (cL m) λx u=>?_);have l:Ok (ao (ao (some (bI (cH 0 ((i:Int),()).1),()))):Option (Sum (Int×Unit) (Sum Unit (Bool×Unit)))) (gS (λs=>s=(((i+1:Nat):Int),())/\∀(j:Nat)(n:Int),j<i+1->a.1[j]?=some n->0<=n/\n<4) (gS (λ_=>∀n,n∈a.1-> @LE.le Int _ 0 n/\ @LT.lt Int _ n 4) λr=>r.1=true->1<=a.1.length/\a.1.length<=4/\(@LE.le Int _ a.2.2.1 64/\ @LE.le Int _ 1 a.2.1/\ @LE.le Int _ a.2.1 a.2.2.1)/\1<=a.2.2.2.1.length/\a.2.2.2.1.length<=6/\∀n,n∈a.1-> @LE.le Int _ 0 n/\ @LT.lt Int _ n 4)):=by refine bo (bo (ab λh=>?_));have h:bI (cH 0 (i:Int))=true:=h;rw[kS (by omega)]at h;cases h
  refine aL (λ_=>l) λv=>aL (λ_=>l) λw=>aV ⟨by show(ah .i64 (i:Int) 1,())=_;rw[bH (by omega)],λj n k b=>?_⟩;by_cases t:j=i;.subst t;rw[u]at b;cases b;exact⟨eY v,qa w⟩
  .exact g j n (by omega) b
 .rintro s⟨rfl,g⟩;refine av cU (bo (aV λn b=>?_));obtain⟨j,k⟩:=bj b;exact g j n (aj.1 k).1 k
def wY(ls:List (List Int)):Prop:=∀l,l∈ls->∀f,f∈l->0<=f/\f<256
theorem Il(ls:List (List Int))(n:Int)(y0:∀l,l∈ls->l.length<=100000):Ok (yU ((ls,()),n,())) λr=>r.1=0->(ls.length:Int)=n/\1<=n/\n<=6/\wY ls:=by
 unfold yU;refine aL (λ_=>ab λh=>by cases h) λy=>?_;refine aL (λ_=>ab λh=>by cases h) λz=>?_;refine aL (λ_=>ab λh=>by cases h) λt=>?_;have y:1<=n:=eY y;have z:n<=6:=eY z;have t:ak ls=n:=fq t;rw[aJ]at t;refine aK (P:=λ_=>wY ls) (bq (I:=λi s=>s.2.1=(i:Int)/\∀(j:Nat)(l:List Int),j<i->ls[j]?=some l->∀f,f∈l->0<=f/\f<256) (m:=ls.length) ⟨rfl,λj l h=>by omega⟩ (by omega) ?_ ?_) λp0 v0=>?_
 .
  rintro i⟨d,e,u⟩o⟨a,A⟩;have a:e=(i:Int):=a;subst a;refine bg (cD o) (aK (P:=λ_=>∀l,ls[i]?=some l->∀f,f∈l->0<=f/\f<256) (aZ (cL o) λl w=>?_) λb v=>aV ⟨?_,λj l c z0=>?_⟩)
  .
   have u0:=y0 l (Y w);refine aK (P:=λ_=>∀f,f∈l->0<=f/\f<256) (bq (I:=λi s=>s=((i:Int),())/\∀(j:Nat)(f:Int),j<i->l[j]?=some f->0<=f/\f<256) (m:=l.length) ⟨rfl,λj f h=>by omega⟩ (by omega) ?_ ?_) λ_ m=>aV λr0 x0=>by rw[w]at x0;cases x0;exact m
   .
    rintro k s p⟨rfl,q⟩;refine bg (cD p) (aZ (cL p) λf D=>aa (up f) (aL (λ_=>bo (bo (bo (bo (bo (ab λh=>by cases h)))))) λv=>aV ⟨by show(ah .i64 (k:Int) 1,())=_;rw[bH (by omega)],λj g c B=>?_⟩));by_cases C:j=k;.subst C;rw[D]at B;cases B;have:=lB v;simp only[ae,bB]at this;exact this
    .exact q j g (by omega) B
   .rintro s⟨rfl,q⟩;refine av cU (bo (aV λf m=>?_));obtain⟨j,c⟩:=bj m;exact q j f (aj.1 c).1 c
  .have e:ah .i64 (i:Int) 1=((i+1:Nat):Int):=bH (by omega);rw[<-e]
  .
   by_cases C:j=i;.subst C;exact v l z0
   .exact A j l (by omega) z0
 .rintro⟨d,e,u⟩⟨a,A⟩;have a:e=((ls.length:Nat):Int):=a;subst a;refine av cU (bo (aV λl t0 f m=>?_));obtain⟨j,c⟩:=bj t0;exact A j l (aj.1 c).1 c f m
 .
  refine aK (P:=λ_=>True) (bq (I:=λi s=>s.2.1=(i:Int)) (m:=ls.length) rfl (by omega) ?_ ?_) λq0 _=>aL (λ_=>ab λh=>by cases h) λ_=>ab λ_=>⟨t,y,z,v0⟩
  .
   rintro i⟨d,e,u⟩o a;have a:e=(i:Int):=a;subst a;refine bg (cD o) (aK (P:=λ_=>True) (aZ (cL o) λl w=>?_) λb v=>aV ?_)
   .
    have u0:=y0 l (Y w);refine aK (P:=λ_=>True) (bq (I:=λi s=>s.2.1=(i:Int)) (m:=l.length) rfl (by omega) ?_ ?_) λ_ _=>aV trivial;.rintro k⟨w0,x,s0⟩p q;have q:x=(k:Int):=q;subst q;refine bg (cD p) (aZ (cL p) λf D=>aV ?_);have e:ah .i64 (k:Int) 1=((k+1:Nat):Int):=bH (by omega);rw[<-e]
    .rintro⟨w0,x,s0⟩q;have q:x=((l.length:Nat):Int):=q;subst q;exact av cU (bo (aV trivial))
   .have e:ah .i64 (i:Int) 1=((i+1:Nat):Int):=bH (by omega);rw[<-e]
  .rintro⟨d,e,u⟩a;have a:e=((ls.length:Nat):Int):=a;subst a;exact av cU (bo (aV trivial))
theorem RB(a:eK)(f:Int)(n:a.2.2.2.1.length<=6)(m:∀z,z∈a.2.2.2.1->uF z):Ok (D3 (a,f,())) λr=>∀i:Nat,r.1=(i:Int)->∃z,a.2.2.2.1[i]?=some z/\zs z<=f/\f<zs z+zc z:=by
 unfold D3;refine aK (P:=λ_=>True) (bq (I:=λi s=>s=((i:Int),())) (m:=a.2.2.2.1.length) rfl (by omega) ?_ ?_) λ_ _=>ab λi h=>by have h:(-1:Int)=(i:Int):=h;omega
 .
  rintro i s d rfl;have c:Ok (some (Sum.inl (ah .i64 ((i:Int),()).1 1,())):Option (Sum (Int×Unit) (Sum Unit RI))) (gS (λs=>s=(((i+1:Nat):Int),())) (gS (λ_=>True) λr=>∀i:Nat,r.1=(i:Int)->∃z,a.2.2.2.1[i]?=some z/\zs z<=f/\f<zs z+zc z)):=aV (by show(ah .i64 (i:Int) 1,())=_;rw[bH (by omega)]);refine bg (cD d) (aZ (cL d) λz g=>aL (λk=>aL (λb=>bo (bo (ab λj e=>?_))) λ_=>c) λ_=>c);have e:(i:Int)=(j:Int):=e;have l:i=j:=by omega
  subst l;obtain⟨o,p,q⟩:=m z (Y g);have b:f<ah .i64 (zs z) (zc z):=kj b;rw[cz (by omega) (by omega)]at b;exact⟨z,g,nD k,b⟩
 .rintro s rfl;exact av cU (bo (aV trivial))
theorem Rj(z:Zn)(f:Int)(b:∀k,k<=4->(dA z k).length<=100000):Ok (DW (z,f,())) λ_=>True:=by unfold DW;obtain⟨d,c,a,_⟩:=l8 (dA z 0) (jj .i64 f 0) (b 0 (by decide));refine aa a (aL (λ_=>ab trivial) λ_=>?_);obtain⟨d,c,a,_⟩:=l8 (dA z 1) (jj .i64 f 1) (b 1 (by decide));refine aa a (aL (λ_=>ab trivial) λ_=>?_);obtain⟨d,c,a,_⟩:=l8 (dA z 2) (jj .i64 f 3) (b 2 (by decide));refine aa a (aL (λ_=>ab trivial) λ_=>?_);obtain⟨d,c,a,_⟩:=l8 (dA z 3) (jj .i64 f 7) (b 3 (by decide));refine aa a (aL (λ_=>ab trivial) λ_=>?_);obtain⟨d,c,a,_⟩:=l8 (dA z 4) (jj .i64 f 15) (b 4 (by decide));exact aa a (aL (λ_=>ab trivial) λ_=>ab trivial)
theorem Rz(z:Zn)(f:Int)(a:∀k,k<=4->(dA z k).length<=100000):Ok (D2 (z,f,())) λ_=>True:=by unfold D2;exact aZ (tX z a) λ_ _=>aL (λ_=>ab trivial) λ_=>aZ (BW z f 0 (by decide)) λ_ _=>aL (λ_=>ab trivial) λ_=>aZ (Rj z f a) λ_ _=>ab trivial
def cu(a:eK):List Zn:=a.2.2.2.1
def cK(a:eK):List sR:=a.2.2.2.2.1
def lT(a:eK):Int:=a.2.2.1
def ns(a:eK):Int:=a.2.1
def kY(a:eK):List Int:=a.1
structure Sz (a : eK) : Prop where
  z : ∀ z, z ∈ cu a → ∀ k, k ≤ 4 → (dA z k).length ≤ 100000
  c : ∀ c, c ∈ cK a → ∀ l, l ∈ c.1 → l.length ≤ 100000
structure Kz (a : eK) : Prop where
  nn : 1 ≤ (kY a).length ∧ (kY a).length ≤ 4
  bh : lT a ≤ 64 ∧ 1 ≤ ns a ∧ ns a ≤ lT a
  nz : 1 ≤ (cu a).length ∧ (cu a).length ≤ 6
  nd : ∀ n, n ∈ kY a → 0 ≤ n ∧ n < 4
  mW : ∀ z, z ∈ cu a → Cu z
  cons : ∀ (i : Nat) (z z' : Zn), (cu a)[i]? = some z → (cu a)[i + 1]? = some z' → zs z' = zs z + zc z
  nc : (cK a).length = (kY a).length
  cl : ∀ c, c ∈ cK a → c.1.length = (cu a).length ∧ ∀ l, l ∈ c.1 → (l.length : Int) ≤ lT a
  cf : ∀ c, c ∈ cK a → ∀ (j : Nat) (l : List Int), c.1[j]? = some l → ∀ f, f ∈ l → ∃ z, (cu a)[j]? = some z ∧ zs z ≤ f ∧ f < zs z + zc z
theorem IA(a:eK)(l0:Sz a):Ok (tY (a,())) λr=>r.1=0->Kz a:=by
 unfold tY;refine aZ (IE a) λx0 n9=>aL (λ_=>ab λh=>by cases h) λm9=>?_;obtain⟨h9,j0,b0,g9,a0,f9⟩:=n9 (lB m9);have B:∀{r:RI},r.1≠0->r.1=0->Kz a:=λh D=>absurd D h;refine aK (P:=λ_=>(∀z,z∈cu a->Cu z)/\∀(i:Nat)(z C:Zn),(cu a)[i]?=some z->(cu a)[i+1]?=some C->zs C=zs z+zc z) (bq (I:=λi s=>s.2.1=(i:Int)/\(∀(j:Nat)(z:Zn),j<i->(cu a)[j]?=some z->Cu z)/\(∀(j:Nat)(z C:Zn),j+1<i->(cu a)[j]?=some z->(cu a)[j+1]?=some C->zs C=zs z+zc z)/\∀(j:Nat)(z:Zn),j+1=i->(cu a)[j]?=some z->s.1=zs z+zc z) (m:=(cu a).length) ⟨rfl,λj z h=>by omega,λj z C h=>by omega,λj z h=>by omega⟩ (by show(cu a).length<_;unfold cu;omega) ?_ ?_) λ_ y=>?_
 .
  rintro i⟨e,d,u⟩x⟨o,v,w,u0⟩;have o:d=(i:Int):=o;subst o;refine bg (cD x) (aZ (cL x) λz n=>?_);have j9:z∈cu a:=Y n;refine aZ (tX z (l0.z z j9)) λr o0=>aL (λh=>bo (bo (ab (B (iX h))))) λh=>?_;have t9:=o0 (fq h);refine aL (λ_=>bo (bo (ab (B (r:=(10,())) (by decide))))) λv0=>?_;have v0:zs z=e:=fq v0;obtain⟨r1,r2,r3⟩:=t9.pl;have l9:ah .i64 e (zc z)=zs z+zc z:=by rw[<-v0,cz (by omega) (by omega)]
  refine aV ⟨?_,λj h0 k A=>?_,λj i0 h0 k n0 D=>?_,λj h0 k A=>?_⟩;.have e:ah .i64 (i:Int) 1=((i+1:Nat):Int):=bH (by have:i<a.2.2.2.1.length:=x;omega);rw[<-e]
  .
   by_cases p:j=i;.subst p;have n:(cu a)[j]?=some z:=n;rw[n]at A;cases A;exact t9
   .exact v j h0 (by omega) A
  .
   by_cases p:j+1=i;.have n:(cu a)[i]?=some z:=n;rw[<-p,D]at n;cases n;have:=u0 j i0 p n0;have this:e=zs i0+zc i0:=this;rw[v0,this]
   .exact w j i0 h0 (by omega) n0 D
  .
   have:j=i:=by omega
   subst this;have n:(cu a)[j]?=some z:=n;rw[n]at A;cases A;exact l9
 .rintro⟨e,d,u⟩⟨o,v,w,u0⟩;have o:d=(((cu a).length:Nat):Int):=o;subst o;refine av cU (bo (aV ⟨λz y=>?_,λj z C n0 D=>w j z C (aj.1 D).1 n0 D⟩));obtain⟨j,k⟩:=bj y;exact v j z (aj.1 k).1 k
 obtain⟨u9,A⟩:=y;refine aL (λ_=>ab (B (r:=(3,())) (by decide))) λx0=>?_;have x0:ak (cK a)=ak (kY a):=fq x0;rw[aJ,aJ]at x0;have x0:(cK a).length=(kY a).length:=by omega
 have c9:(cK a).length<=4:=by rw[x0];exact j0
 have b9:(cu a).length<=6:=a0;refine aK (P:=λ_=>∀c,c∈cK a->c.1.length=(cu a).length/\∀l,l∈c.1->(l.length:Int)<=lT a) (bq (I:=λi s=>s=((i:Int),())/\∀(j:Nat)(c:sR),j<i->(cK a)[j]?=some c->c.1.length=(cu a).length/\∀l,l∈c.1->(l.length:Int)<=lT a) (m:=(cK a).length) ⟨rfl,λj c h=>by omega⟩ (by omega) ?_ ?_) λ_ x9=>?_
 .
  rintro i s x⟨rfl,q⟩;refine bg (cD x) (aK (P:=λ_=>∀c,(cK a)[i]?=some c->c.1.length=(cu a).length/\∀l,l∈c.1->(l.length:Int)<=lT a) (aZ (cL x) λc n=>?_) λb z0=>aV ⟨?_,λj c k r0=>?_⟩)
  .
   have n:(cK a)[i]?=some c:=n;have p9:=l0.c c (Y n);refine aZ (Il c.1 (ak (cu a)) p9) λr o0=>aL (λh=>bo (bo (bo (ab (B (iX h)))))) λh=>?_;obtain⟨y9,w2,w3,w4⟩:=o0 (fq h);rw[aJ]at y9;have y9:c.1.length=(cu a).length:=by omega
   refine aK (P:=λ_=>∀l,l∈c.1->(l.length:Int)<=lT a) (bq (I:=λi s=>s=((i:Int),())/\∀(j:Nat)(l:List Int),j<i->c.1[j]?=some l->(l.length:Int)<=lT a) (m:=c.1.length) ⟨rfl,λj l h=>by omega⟩ (by omega) ?_ ?_) λ_ p0=>aV λr9 t0=>by rw[n]at t0;cases t0;exact⟨y9,p0⟩
   .
    rintro t s s0⟨rfl,v⟩;refine bg (cD s0) (aZ (cL s0) λl m0=>aL (λ_=>bo (bo (bo (bo (bo (ab (B (r:=(9,())) (by decide)))))))) λz0=>aV ⟨by show(ah .i64 (t:Int) 1,())=_;rw[bH (by omega)],λj i9 k c0=>?_⟩);by_cases p:j=t;.subst p;rw[m0]at c0;cases c0;have:=eY z0;rw[aJ]at this;exact this
    .exact v j i9 (by omega) c0
   .rintro s⟨rfl,v⟩;refine av cU (bo (aV λl p0=>?_));obtain⟨j,k⟩:=bj p0;exact v j l (aj.1 k).1 k
  .show(ah .i64 (i:Int) 1,())=_;rw[bH (by omega)]
  .
   by_cases p:j=i;.subst p;exact z0 c r0
   .exact q j c (by omega) r0
 .rintro s⟨rfl,q⟩;refine av cU (bo (aV λc w0=>?_));obtain⟨j,k⟩:=bj w0;exact q j c (aj.1 k).1 k
 refine aK (P:=λ_=>∀c,c∈cK a->∀(j:Nat)(l:List Int),c.1[j]?=some l->∀f,f∈l->∃z,(cu a)[j]?=some z/\zs z<=f/\f<zs z+zc z) (bq (I:=λi s=>s.2.1=(i:Int)/\∀(s9:Nat)(c:sR),s9<i->(cK a)[s9]?=some c->∀(j:Nat)(l:List Int),c.1[j]?=some l->∀f,f∈l->∃z,(cu a)[j]?=some z/\zs z<=f/\f<zs z+zc z) (m:=(cK a).length) ⟨rfl,λj c h=>by omega⟩ (by omega) ?_ ?_) λ_ q9=>ab λ_=>⟨⟨h9,j0⟩,b0,⟨g9,a0⟩,f9,u9,A,x0,x9,q9⟩
 .
  rintro i⟨m,d,u⟩x⟨o,v⟩;have o:d=(i:Int):=o;subst o;refine bg (cD x) (aK (P:=λ_=>∀c,(cK a)[i]?=some c->∀(j:Nat)(l:List Int),c.1[j]?=some l->∀f,f∈l->∃z,(cu a)[j]?=some z/\zs z<=f/\f<zs z+zc z) (aZ (cL x) λc n=>?_) λb z0=>aV ⟨?_,λj c k r0=>?_⟩)
  .
   have n:(cK a)[i]?=some c:=n;have w0:c∈cK a:=Y n;have a9:=(x9 c w0).1;refine aK (P:=λ_=>∀(j:Nat)(l:List Int),c.1[j]?=some l->∀f,f∈l->∃z,(cu a)[j]?=some z/\zs z<=f/\f<zs z+zc z) (bq (I:=λi s=>s.2.1=(i:Int)/\∀(j:Nat)(l:List Int),j<i->c.1[j]?=some l->∀f,f∈l->∃z,(cu a)[j]?=some z/\zs z<=f/\f<zs z+zc z) (m:=c.1.length) ⟨rfl,λj l h=>by omega⟩ (by omega) ?_ ?_) λ_ p0=>aV λr9 t0=>by rw[n]at t0;cases t0;exact p0
   .
    rintro t⟨j0,g0,e9⟩s0⟨w,u0⟩;have w:g0=(t:Int):=w;subst w;refine bg (cD s0) (aK (P:=λ_=>∀l,c.1[t]?=some l->∀f,f∈l->∃z,(cu a)[t]?=some z/\zs z<=f/\f<zs z+zc z) (aZ (cL s0) λl m0=>?_) λb z0=>aV ⟨?_,λj l k q0=>?_⟩)
    .
     have hll:=l0.c c w0 l (Y m0);refine aK (P:=λ_=>∀f,f∈l->∃z,(cu a)[t]?=some z/\zs z<=f/\f<zs z+zc z) (bq (I:=λi s=>s.2.1=(i:Int)/\∀(j:Nat)(f:Int),j<i->l[j]?=some f->∃z,(cu a)[t]?=some z/\zs z<=f/\f<zs z+zc z) (m:=l.length) ⟨rfl,λj f h=>by omega⟩ (by omega) ?_ ?_) λ_ e0=>aV λl' v9=>by rw[m0]at v9;cases v9;exact e0
     .
      rintro k0⟨b0,f0,d9⟩w9⟨y0,z9⟩;have y0:f0=(k0:Int):=y0;subst y0;refine bg (cD w9) (aZ (cL w9) λf o9=>?_);refine aZ (RB a f a0 λz y=>(u9 z y).pl) λr o0=>aL (λ_=>bo (bo (bo (bo (bo (bo (bo (bo (ab (B (r:=(2,())) (by decide))))))))))) λv0=>?_;obtain⟨z,y,k9⟩:=o0 t (fq v0);refine aL (λ_=>bo (bo (bo (bo (bo (bo (bo (bo (ab (B (r:=(7,())) (by decide))))))))))) λ_=>?_;refine aa (x:=z) y (aZ (Rz z f (l0.z z (Y y))) λ_ _=>aL (λ_=>bo (bo (bo (bo (bo (bo (bo (bo (ab (B (r:=(7,())) (by decide))))))))))) λ_=>aV ⟨?_,λj g k d0=>?_⟩);.have e:ah .i64 (k0:Int) 1=((k0+1:Nat):Int):=bH (by omega);rw[<-e]
      .
       by_cases p:j=k0;.subst p;rw[o9]at d0;cases d0;exact⟨z,y,k9⟩
       .exact z9 j g (by omega) d0
     .rintro⟨b0,f0,d9⟩⟨y0,z9⟩;have y0:f0=((l.length:Nat):Int):=y0;subst y0;refine av cU (bo (aV λf e0=>?_));obtain⟨j,k⟩:=bj e0;exact z9 j f (aj.1 k).1 k
    .have e:ah .i64 (t:Int) 1=((t+1:Nat):Int):=bH (by omega);rw[<-e]
    .
     by_cases p:j=t;.subst p;exact z0 l q0
     .exact u0 j l (by omega) q0
   .rintro⟨j0,g0,e9⟩⟨w,u0⟩;have w:g0=((c.1.length:Nat):Int):=w;subst w;exact av cU (bo (aV λj l q0=>u0 j l (aj.1 q0).1 q0))
  .have e:ah .i64 (i:Int) 1=((i+1:Nat):Int):=bH (by omega);rw[<-e]
  .
   by_cases p:j=i;.subst p;exact z0 c r0
   .exact v j c (by omega) r0
 .rintro⟨m,d,u⟩⟨o,v⟩;have o:d=(((cK a).length:Nat):Int):=o;subst o;refine av cU (bo (aV λc w0=>?_));obtain⟨j,k⟩:=bj w0;exact v j c (aj.1 k).1 k
structure PI (L : Nat → List Int) (g : Int) : Prop where
  so : ∀ k, k ≤ 4 → iy (L k)
  al : ∀ k, k ≤ 4 → ∀ x, x ∈ L k → 0 ≤ x ∧ x % 2 ^ k = 0 ∧ x + 2 ^ k ≤ g
  dj : ∀ j k, j ≤ 4 → k ≤ 4 → ∀ x y, x ∈ L j → y ∈ L k → (j = k → x ≠ y) → x + 2 ^ j ≤ y ∨ y + 2 ^ k ≤ x
def iE(L:Nat->List Int)(k:Nat)(l:List Int):Nat->List Int:=λj=>if j=k then l else L j
theorem mX{L:Nat->List Int}{k:Nat}{l:List Int}:iE L k l k=l:=aA rfl
theorem mh{L:Nat->List Int}{k j:Nat}{l:List Int}(h:j≠k):iE L k l j=L j:=aB h
theorem pw(k:Nat):(1:Int)<=2^k:=by have:(0:Int)<2^k:=Int.pow_pos (by decide);omega
theorem wh{L:Nat->List Int}{g:Int}{k:Nat}(h:PI L g)(v:0<=g)(hg:g%2^k=0)(B:k<=4):PI (iE L k (L k++[g])) (g+2^k):=by
 have C:=pw k
 have l:∀j x,x∈iE L k (L k++[g]) j->x∈L j\/j=k/\x=g:=by
  intro j x d;by_cases e:j=k
  .
   subst e;rw[mX]at d;rcases bR.1 d with d|d;.exact .inl d
   .exact .inr ⟨rfl,by simpa using d⟩
  .rw[mh e]at d;exact .inl d
 refine⟨λj e=>?_,λj e x d=>?_,λi j q e x y d f s=>?_⟩
 .
  by_cases r:j=k
  .
   subst r;rw[mX];intro a b x y w d f;have z:=(aj.1 f).1;rw[ax,eE]at z;by_cases A:b<(L j).length;.rw[bL (by omega)]at d;rw[bL A]at f;exact h.so j e a b x y w d f
   .rw[bL (by omega)]at d;rw[bA (by omega),show b-(L j).length=0 by omega]at f;cases f;have:=(h.al j e x (Y d)).2.2;omega
  .rw[mh r];exact h.so j e
 .
  rcases l j x d with d|⟨rfl,rfl⟩;.obtain⟨a,b,c⟩:=h.al j e x d;exact⟨a,b,by omega⟩
  .exact⟨v,hg,bW _⟩
 .
  rcases l i x d with t|⟨u,o⟩
  .
   rcases l j y f with n|⟨p,m⟩;.exact h.dj i j q e x y t n s
   .rw[m];exact .inl (h.al i q x t).2.2
  .
   rcases l j y f with n|⟨p,m⟩;.rw[o];exact .inr (h.al j e y n).2.2
   .exact absurd (o.trans m.symm) (s (u.trans p.symm))
theorem Lw{l:List Int}{i:Nat}{b x:Int}(d:iy l)(c:l[i]?=some b)(e:x∈l.eraseIdx i):x∈l/\x≠b:=by
 obtain⟨j,a⟩:=bj e;rw[iC]at a;split at a;.refine⟨Y a,?_⟩;rintro rfl;have:=d j i x x (by omega) a c;omega
 .refine⟨Y a,?_⟩;rintro rfl;have:=d i (j+1) x x (by omega) c a;omega
theorem JL{l:List Int}{i:Nat}(e:iy l):iy (l.eraseIdx i):=by
 intro a b x y f d c;rw[iC]at d c;split at d
 .
  split at c;.exact e a b x y f d c
  .exact e a (b+1) x y (by omega) d c
 .
  split at c;.omega
  .exact e (a+1) (b+1) x y (by omega) d c
theorem SB{L:Nat->List Int}{g:Int}{k i:Nat}(h:PI L g)(n:k<=4)(f:(L k)[i]?=some (g-2^k)):PI (iE L k ((L k).eraseIdx i)) (g-2^k):=by
 have v:=pw k;have r:=Y f
 have l:∀j x,x∈iE L k ((L k).eraseIdx i) j->x∈L j/\(j=k->x≠g-2^k):=by
  intro j x e;by_cases d:j=k;.subst d;rw[mX]at e;obtain⟨a,b⟩:=Lw (h.so j n) f e;exact⟨a,λ_=>b⟩
  .rw[mh d]at e;exact⟨e,λh=>absurd h d⟩
 refine⟨λj d=>?_,λj d x e=>?_,λa b p f x y e t s=>h.dj a b p f x y (l a x e).1 (l b y t).1 s⟩
 .
  by_cases m:j=k;.subst m;rw[mX];exact JL (h.so j d)
  .rw[mh m];exact h.so j d
 .
  obtain⟨o,u⟩:=l j x e;obtain⟨a,b,c⟩:=h.al j d x o;refine⟨a,b,?_⟩;have w:=pw j;rcases h.dj j k d n x (g-2^k) o r u with q|q;.exact q
  .omega
structure PJ (L : Nat → List Int) (st g : Int) : Prop where
  lo : ∀ k, k ≤ 4 → ∀ x, x ∈ L k → st ≤ x
  cb : ∀ (k : Nat) (x : Int), k < 4 → x % 2 ^ (k + 1) = 0 → x ∈ L k → ¬ x + 2 ^ k ∈ L k
  cv : ∀ y : Int, st ≤ y → y < g → ∃ (j : Nat) (x : Int), j ≤ 4 ∧ x ∈ L j ∧ x ≤ y ∧ y < x + 2 ^ j
theorem SW{l:List Int}{i:Nat}{b x:Int}(c:l[i]?=some b)(g:x∈l)(f:x≠b):x∈l.eraseIdx i:=by
 obtain⟨j,a⟩:=bj g;have d:j≠i:=λe=>by subst e;rw[a]at c;cases c;exact f rfl
 rcases lW d with h|h;.refine Y (i:=j) ?_;rw[iC,aA h];exact a
 .refine Y (i:=j-1) ?_;rw[iC,aB (by omega),show j-1+1=j by omega];exact a
theorem wg{L:Nat->List Int}{g st:Int}{k:Nat}(h:PJ L st g)(hp:PI L g)(r:st<=g)(l:k<=4)(q:k<4->g%2^(k+1)≠0->¬g-2^k∈L k):PJ (iE L k (L k++[g])) st (g+2^k):=by
 have f:∀j x,x∈iE L k (L k++[g]) j->x∈L j\/j=k/\x=g:=by
  intro j x a;by_cases b:j=k
  .
   subst b;rw[mX]at a;rcases bR.1 a with a|a;.exact .inl a
   .exact .inr ⟨rfl,by simpa using a⟩
  .rw[mh b]at a;exact .inl a
 refine⟨λj b x a=>?_,λj x b d a c=>?_,λy n o=>?_⟩
 .
  rcases f j x a with a|⟨_,rfl⟩;.exact h.lo j b x a
  .exact r
 .
  have t:=pw j;rcases f j x a with m|⟨rfl,rfl⟩
  .
   rcases f j _ c with s|⟨rfl,e⟩;.exact h.cb j x b d m s
   .
    refine q b ?_ (by rw[<-e,Int.add_sub_cancel];exact m);rw[<-e];rcases show j=0\/j=1\/j=2\/j=3 by omega with rfl|rfl|rfl|rfl;.have:x%2=0:=d;show¬(x+1)%2=0;omega
    .have:x%4=0:=d;show¬(x+2)%4=0;omega
    .have:x%8=0:=d;show¬(x+4)%8=0;omega
    .have:x%16=0:=d;show¬(x+8)%16=0;omega
  .
   rcases f j _ c with c|⟨_,e⟩;.have:=(hp.al j l _ c).2.2;omega
   .omega
 .
  by_cases c:y<g
  .
   obtain⟨j,x,b,a,p⟩:=h.cv y n c;refine⟨j,x,b,?_,p⟩;by_cases i:j=k;.subst i;rw[mX];exact eo _ a
   .rw[mh i];exact a
  .exact⟨k,g,l,by rw[mX];exact cW _ (jE _),by omega,o⟩
theorem SA{L:Nat->List Int}{st g:Int}{k i:Nat}(h:PJ L st g)(m:(L k)[i]?=some (g-2^k)):PJ (iE L k ((L k).eraseIdx i)) st (g-2^k):=by
 have c:∀j x,x∈iE L k ((L k).eraseIdx i) j->x∈L j:=by
  intro j x a;by_cases b:j=k;.subst b;rw[mX]at a;exact List.mem_of_mem_eraseIdx a
  .rw[mh b]at a;exact a
 exact⟨λj b x a=>h.lo j b x (c j x a),λj x b e a n=>h.cb j x b e (c j x a) (c j _ n),λy f o=>by
  have:=pw k;obtain⟨j,x,b,a,l⟩:=h.cv y f (by omega);refine⟨j,x,b,?_,l⟩;by_cases d:j=k;.subst d;rw[mX];exact SW m a (by omega)
  .rw[mh d];exact a⟩
theorem XP:(List.range 257).all (λg=>(List.range 4).all λk=>decide (bG .i64 (Int.ofNat g) (2^k)=if g/2^k%2=0 then Int.ofNat g+2^k else Int.ofNat g-2^k))=true:=by kernel_rfl
theorem KB{g:Int}(b:0<=g)(h1:g<=256){k:Nat}(c:k<=3):bG .i64 g (2^k)=if g/2^k%2=0 then g+2^k else g-2^k:=by
 obtain⟨n,rfl⟩:=qG b;have h:=XP;rw[bQ]at h;have h:=h n (eC.2 (by omega));rw[bQ]at h;have h:=br (h k (eC.2 (by omega)));refine Eq.trans h ?_;have e:(n:Int)/2^k%2=((n/2^k%2:Nat):Int):=by rw[Int.natCast_emod,Int.natCast_ediv,rC];rfl
 rw[e];by_cases a:n/2^k%2=0;.rw[aA a,aA (by rw[a];rfl)];rfl
 .rw[aB a,aB (by omega)];rfl
theorem As{β:Type}{Q:β->Prop}{l:List Int}{g:Int}{R:Option β}(k:iy l)(j:∀x,x∈l->x<g)(m:l.length<=1000)(f:Ok R Q):Ok (am (gj (l,g,())) λd=>aC (dx d.1 (ak l) (ak l)) (ad (aY d.1 (ak l)) (aC (a4 l (g::[]) 8) R) none)) Q:=by
 obtain⟨i,b,e,a⟩:=l8 l g (by omega);refine aa e ?_
 have h:i=l.length:=by
  by_cases c:i<l.length;.have:=a.hi k i l[i] (au _) (G c);have:=j l[i] (eF c);omega
  .have:=a.le;omega
 subst h;show Ok (aC (dx ((l.length:Nat):Int) (ak l) (ak l)) _) Q;refine aq ?_ (bg (ar rfl) (aq (cj (by simp;omega) (by decide)) f));unfold dx;rw[aJ,ar (show(0:Int)<=(l.length:Int)by omega),ar (bW _)];rfl
theorem BX(z:Zn)(f:Int)(k:Nat)(e:k≤4)(g:uF z)(j:0≤f):∃b,kD (z,f,(k:Int),())=some (b,())∧(b=true↔In z f k):=by
 obtain⟨m,n,o⟩:=g;have l:(1:Int)≤2^k∧(2:Int)^k≤16:=by rcases k with _|_|_|_|_|k<;>first|exact⟨by decide,by decide⟩|omega
 have i:Ok (kD (z,f,(k:Int),())) fun r=>r.1=true↔In z f k:=by
  unfold kD;refine aq (ar (show(0:Int)≤(k:Int)by omega)) (aL (fun c=>aq ?_ (aL (fun a=>aL (fun d=>ab ?_) fun d=>ab ?_) fun a=>ab ?_)) fun c=>ab ?_);·show bF (fj .i64 1 (k:Int)) 0=true;rw[s5 k e,gI,aQ (by omega)];rfl
  ·have c:zs z≤f:=nD c;have a:lf .i64 f (fj .i64 1 (k:Int))=0:=kM a;have d:fj .i64 1 (k:Int)≤zc z:=nD d;rw[s5 k e]at a d;show cH f (bb .i64 (ah .i64 (zs z) (zc z)) (fj .i64 1 (k:Int)))=true↔_;rw[s5 k e,cz (by omega) (by omega),fa (by omega) (by omega),jv,bB];exact⟨fun h=>⟨c,by omega,a⟩,fun h=>by have:=h.2.1;omega⟩
  ·have c:zs z≤f:=nD c;have d:zc z<fj .i64 1 (k:Int):=qa d;rw[s5 k e]at d;exact⟨fun h=>(by cases h),fun h=>by have:=h.2.1;omega⟩
  ·have a:¬lf .i64 f (fj .i64 1 (k:Int))=0:=mj a;rw[s5 k e]at a;exact⟨fun h=>(by cases h),fun h=>absurd h.2.2 a⟩
  ·have c:f<zs z:=qa c;exact⟨fun h=>(by cases h),fun h=>by have:=h.1;omega⟩
 obtain⟨⟨b,u⟩,c,a⟩:=i;exact⟨b,c,a⟩
theorem SX{β:Type}{Q:β→Prop}{L:Nat→List Int}{k:Nat}{z:Zn}{g c q:Int}{R:Option β}{B:D jP→Option β}(k0:k≤3)(v:c=2^k)(e0:q=((k+1:Nat):Int))(h:PI L g)(q0:0≤g)(h1:g≤256)(hg:g%2^k=0)(j0:(L k).length≤1000){st:Int}(z0:PJ L st g)(v9:zs z=st)(d0:uF z)(w9:g+2^k≤zs z+zc z)(s:(k<4→g%2^(k+1)≠0→¬g-2^k∈L k)→Ok R Q)(r:∀(i:Nat)(u:Bool×Unit),(L k)[i]?=some (g-2^k)→bK g (bG .i64 g c)=g-2^k→0≤g-2^k→(g-2^k)%2^(k+1)=0→PI (iE L k (g8 (L k) (i:Int))) (g-2^k)→PJ (iE L k (g8 (L k) (i:Int))) st (g-2^k)→st≤g-2^k→Ok (B ((i:Int),u)) Q):Ok (am (gj (L k,bG .i64 g c,())) fun o=>ad (bI o.2.1) (am (gj (L k,g,())) fun p=>aC (dx p.1 (ak (L k)) (ak (L k))) (ad (aY p.1 (ak (L k))) (aC (a4 (L k) (g::[]) 8) R) none)) (am (kD (z,bK g (bG .i64 g c),q,())) fun z9=>ad (bI z9.1) (am (gj (L k,g,())) fun p=>aC (dx p.1 (ak (L k)) (ak (L k))) (ad (aY p.1 (ak (L k))) (aC (a4 (L k) (g::[]) 8) R) none)) (aC (aU (L k) o.1) (aC (aY (ah .i64 o.1 1) (ah .i64 o.1 1)) (aC (a4 [] (L k) 8) (B o)))))) Q:=by
 subst v;subst e0;have y9:=pw k;have v0:=fun s=>As (Q:=Q) (R:=R) (l:=L k) (g:=g) (h.so k (by omega)) (fun x a=>by have:=(h.al k (by omega) x a).2.2;omega) j0 s;obtain⟨i,b,t0,f⟩:=l8 (L k) (bG .i64 g (2^k)) (by omega);have a:=KB q0 h1 k0;have y0:k=0∨k=1∨k=2∨k=3:=by omega
 have f0:g/2^k%2=0↔g%2^(k+1)=0:=by
  rcases y0 with rfl|rfl|rfl|rfl;·show g/1%2=0↔g%2=0;omega
  ·show g/2%2=0↔g%4=0;have:g%2=0:=hg;omega
  ·show g/4%2=0↔g%8=0;have:g%4=0:=hg;omega
  ·show g/8%2=0↔g%16=0;have:g%8=0:=hg;omega
 refine aa t0 (aL (fun t=>v0 (s fun _ g0 h0=>?_)) fun t=>?_)
 ·
  have p0:b=false:=by have:bI b=true:=t;cases b with
   |false=>rfl
   |true=>cases this
  rw[aB fun e=>g0 (f0.1 e)]at a;rw[a]at f;obtain⟨j,m0,l0⟩:=sT.1 h0;have w:(L k)[j]?=some (g-2^k):=by rw[G m0,l0]
  have y:=h.so k (by omega);rcases mF j i with m|m|m;·have:=f.lo y j _ m w;omega
  ·subst m;exact f.Yr p0 w
  ·
   have C:i<(L k).length:=by omega
   have:=f.hi y i (L k)[i] (au _) (G C);have:=y i j _ _ m (G C) w;omega
 have d:=f.WP (lB t);have l:=h.al k (by omega) _ (Y d);have w0:¬g/2^k%2=0:=by intro v;rw[aA v]at a;rw[a]at l;omega
 rw[aB w0]at a;rw[a]at d l;have x0:bK g (bG .i64 g (2^k))=g-2^k:=by rw[a];show(bif decide (g≤g-2^k)then g else g-2^k)=_;rw[aQ (by omega)];rfl
 have n0:=(aj.1 d).1;have c0:aU (L k) (i:Int)=true:=eu n0;have b0:∀n:Int,aY n n=true:=fun n=>ar rfl;have a0:a4 [] (L k) 8=true:=cj (by simp;omega) (by decide);have A:(g-2^k)%2^(k+1)=0:=by rcases y0 with rfl|rfl|rfl|rfl<;>simp only[qF,Nat.reduceAdd,Int.reducePow]at hg w0⊢<;>omega
 have i0:=z0.lo k (by omega) _ (Y d);obtain⟨u0,s0,r0⟩:=BX z (g-2^k) (k+1) (by omega) d0 l.1;have x9:(2:Int)^(k+1)=2^k+2^k:=by rw[mf];omega
 have o0:u0=true:=r0.2 ⟨by omega,by omega,by rw[fJ l.1];exact A⟩;subst o0;rw[x0];refine aa s0 (av rfl ?_);have r:=r i (b,()) d x0 l.1;refine aq c0 (aq (b0 _) (aq a0 (r A (SB h (by omega) d) (SA z0 d) i0)))
def fv(a b c d e:List Int):Nat->List Int|0=>a|1=>b|2=>c|3=>d|4=>e|_=>[]
theorem OE{a b c d e l:List Int}:iE (fv a b c d e) 0 l=fv l b c d e:=by funext j;rcases j with _|_|_|_|_|j<;>rfl
theorem KG{a b c d e l:List Int}:iE (fv a b c d e) 1 l=fv a l c d e:=by funext j;rcases j with _|_|_|_|_|j<;>rfl
theorem KF{a b c d e l:List Int}:iE (fv a b c d e) 2 l=fv a b l d e:=by funext j;rcases j with _|_|_|_|_|j<;>rfl
theorem KE{a b c d e l:List Int}:iE (fv a b c d e) 3 l=fv a b c l e:=by funext j;rcases j with _|_|_|_|_|j<;>rfl
theorem OD{a b c d e l:List Int}:iE (fv a b c d e) 4 l=fv a b c d l:=by funext j;rcases j with _|_|_|_|_|j<;>rfl
def lM(L:Nat->List Int)(n:Nat):Prop:=∀k,k<=4->(L k).length<=n
theorem lM.mono{L:Nat->List Int}{n m:Nat}(h:lM L n)(b:n<=m):lM L m:=λk a=>aM (h k a) b
theorem tp{L:Nat->List Int}{n k:Nat}{g:Int}(h:lM L n)(c:k<=4):lM (iE L k (L k++[g])) (n+1):=by
 intro j a;by_cases b:j=k;.subst b;rw[mX,ax,eE];have:=h j a;omega
 .rw[mh b];have:=h j a;omega
theorem wA{L:Nat->List Int}{n k:Nat}{i:Int}(h:lM L n)(c:k<=4):lM (iE L k (g8 (L k) i)) n:=by
 intro j a;by_cases b:j=k;.subst b;rw[mX];have:=h j a;unfold g8;have:=List.length_eraseIdx_le (L j) i.toNat;omega
 .rw[mh b];exact h j a
abbrev Z5:=Int×Int×Int×Int×Int×List Int×List Int×List Int×List Int×List Int×Unit
def NI(nd a b st ct:Int)(i:Nat)(s:Z5×Int×Unit):Prop:=s.2.1=st+(i:Int)/\s.1.2.2.1=st/\s.1.2.2.2.1=ct/\PI (fv s.1.2.2.2.2.2.1 s.1.2.2.2.2.2.2.1 s.1.2.2.2.2.2.2.2.1 s.1.2.2.2.2.2.2.2.2.1 s.1.2.2.2.2.2.2.2.2.2.1) (st+(i:Int))/\lM (fv s.1.2.2.2.2.2.1 s.1.2.2.2.2.2.2.1 s.1.2.2.2.2.2.2.2.1 s.1.2.2.2.2.2.2.2.2.1 s.1.2.2.2.2.2.2.2.2.2.1) i/\PJ (fv s.1.2.2.2.2.2.1 s.1.2.2.2.2.2.2.1 s.1.2.2.2.2.2.2.2.1 s.1.2.2.2.2.2.2.2.2.1 s.1.2.2.2.2.2.2.2.2.2.1) st (st+(i:Int))/\s.1.1=nd/\s.1.2.1=a/\s.1.2.2.2.2.1=b
def On(L:Nat->List Int):Prop:=∀(k:Nat)(x:Int),k<4->x%2^(k+1)=0->x∈L k->¬x+2^k∈L k
theorem On.congr{L M:Nat->List Int}(h:On L)(e:∀k,k<=4->M k=L k):On M:=λk x a=>by rw[e k (by omega)];exact h k x a
def vT(L:Nat->List Int):Prop:=(∀k,k<=4->iy (L k))/\∀j k,j<=4->k<=4->∀x y,x∈L j->y∈L k->(j=k->x≠y)->x+2^j<=y\/y+2^k<=x
theorem vT.congr{L M:Nat->List Int}(h:vT L)(e:∀k,k<=4->M k=L k):vT M:=⟨λk a=>by rw[e k a];exact h.1 k a,λj k b a x y c d=>by rw[e j b]at c;rw[e k a]at d;exact h.2 j k b a x y c d⟩
theorem vT.nil{L:Nat->List Int}(h:∀k,k<=4->L k=[]):vT L:=⟨λk b=>(by rw[h k b];intro i j x y _ a;cases a),λj k c b x y a=>by rw[h j c]at a;cases a⟩
def Vu(n k st ct a:Int)(r:D (.ai eI iU)):Prop:=(qs ((n,k,st,ct,a,[]::[]::[]::[]::[]::[],()),())=some (true,())->r.2.1=0)/\(r.2.1=0->zs r.1=st/\zc r.1=ct/\lM (dA r.1) 256/\vT (dA r.1)/\On (dA r.1)/\qs (r.1,())=some (true,())/\(∀j,j<=4->∀x,x∈dA r.1 j->In r.1 x j)/\(r.1.1=n/\r.1.2.1=k/\r.1.2.2.2.2.1=a)/\(∃l:List (List Int),l.length=5/\r.1.2.2.2.2.2.1=l)/\∀y:Int,st<=y->y<st+ct->∃(j:Nat)(x:Int),j<=4/\x∈dA r.1 j/\x<=y/\y<x+2^j)
theorem IB(n k st ct mn:Int):Ok (IC (n,k,st,ct,mn,())) (Vu n k st ct mn):=by
 unfold IC;refine pq (Im _) λx0 e188 h0=>aL (λhb=>ab ⟨λe=>?_,λh=>by cases h⟩) λhn=>?_;.rw[e]at e188;rw[<-ej e188]at hb;cases hb
 have e188:qs (((n,k,st,ct,mn,[]::[]::[]::[]::[]::[],()):Zn),())=some (true,()):=by obtain⟨b,u⟩:=x0;have hb:b=true:=lB hn;subst hb;exact e188
 obtain⟨r1,r2,r3⟩:=h0 (lB hn);have r1:0<=st:=r1;have r2:1<=ct:=r2;have r3:st+ct<=256:=r3;have hsum:ah .i64 st ct=st+ct:=cz (by omega) (by omega);refine aK (P:=λs=>∃s',NI n k mn st ct ct.toNat s'/\s=(s'.1,())) (bq (I:=NI n k mn st ct) (m:=ct.toNat) ⟨by show st=st+((0:Nat):Int);omega,rfl,rfl,?_,?_,?_,rfl,rfl,rfl⟩ (by omega) ?_ ?_) ?_
 .
  refine⟨λk hk i j x y _ hx=>?_,λk hk x hx=>?_,λa b ha hb x y hx=>?_⟩;.rcases k with _|_|_|_|_|k<;>first|(exact absurd hx (by simp[fv]))|omega
  .rcases k with _|_|_|_|_|k<;>first|(exact absurd hx (by simp[fv]))|omega
  .rcases a with _|_|_|_|_|a<;>first|(exact absurd hx (by simp[fv]))|omega
 .intro k hk;rcases k with _|_|_|_|_|k<;>first|exact au _|omega
 .
  refine⟨λj hj x hx=>?_,λj x hj _ hx=>?_,λy h1 h2=>by have h2:y<st+((0:Nat):Int):=h2;omega⟩;.rcases j with _|_|_|_|_|j<;>first|(exact absurd hx (by simp[fv]))|omega
  .rcases j with _|_|_|_|_|j<;>first|(exact absurd hx (by simp[fv]))|omega
 .
  rintro i⟨⟨n0,n1,n2,n3,n4,a,b,c,d,e,u⟩,f,v⟩hi⟨q1,q2,q3,q4,q5,q6,q7⟩;have q1:f=st+(i:Int):=q1;have q2:n2=st:=q2;have q3:n3=ct:=q3;have q4:PI (fv a b c d e) (st+(i:Int)):=q4;have q5:lM (fv a b c d e) i:=q5;have q6:PJ (fv a b c d e) st (st+(i:Int)):=q6;have hrz:∀l:List (List Int),uF ((n0,n1,n2,n3,n4,l,()):Zn):=λl=>⟨by show 0<=n2;omega,by show 1<=n3;omega,by show n2+n3<=256;omega⟩;have hsz:∀(g:Int)(l:List (List Int)),g<=st+ct->g<=zs ((n0,n1,n2,n3,n4,l,()):Zn)+zc ((n0,n1,n2,n3,n4,l,()):Zn):=λg l h=>by show g<=n2+n3;omega
  have hf0:0<=f:=by omega
  have hf1:f<st+ct:=by omega
  rw[<-q1]at q4 q6;refine bg (eJ (by show f<ah .i64 st ct;rw[hsum];exact hf1)) ?_
  have fin:∀a' b' c' d' e',PI (fv a' b' c' d' e') (f+1)->lM (fv a' b' c' d' e') (i+1)->PJ (fv a' b' c' d' e') st (f+1)->Ok (some (.inl ((n0,n1,n2,n3,n4,a',b',c',d',e',()),ah .i64 f 1,())):Option (Sum (Z5×Int×Unit) (Sum (Z5×Unit) (D (.ai eI iU))))) (gS (NI n k mn st ct (i+1)) (gS (λs=>∃s',NI n k mn st ct ct.toNat s'/\s=(s'.1,())) (Vu n k st ct mn))):=by
   intro a' b' c' d' e' h1 h2 h3;refine aV ⟨?_,q2,q3,?_,h2,?_,q7⟩;.show ah .i64 f 1=st+((i+1:Nat):Int);rw[cz (by omega) (by omega)];omega
   .
    show PI (fv a' b' c' d' e') (st+((i+1:Nat):Int));have e1:st+((i+1:Nat):Int)=f+1:=by omega
    rw[e1];exact h1
   .
    show PJ (fv a' b' c' d' e') st (st+((i+1:Nat):Int));have e1:st+((i+1:Nat):Int)=f+1:=by omega
    rw[e1];exact h3
  have hl:∀{L:Nat->List Int}{j:Nat},lM L i->j<=4->(L j).length<=1000:=λh hj=>aM (h _ hj) (by omega);refine SX (L:=fv a b c d e) (k:=0) (by decide) rfl rfl q4 hf0 (by omega) (by simp[Int.emod_one]) (hl q5 (by decide)) q6 q2 (hrz _) (hsz _ _ (by show f+1<=st+ct;omega)) ?_ ?_;.intro hno;have h3:=wg (k:=0) (g:=f) q6 q4 (by omega) (by decide) hno;rw[OE]at h3;have h1:=wh (k:=0) q4 hf0 (by simp[Int.emod_one]) (by decide);have h2:=tp (k:=0) (g:=f) q5 (by decide);rw[OE]at h1 h2;exact fin _ _ _ _ _ h1 h2 h3
  intro i0 u0 g0 m0 p0 w0 t0 j0 s0;have k0:=wA (k:=0) (i:=(i0:Int)) q5 (by decide);rw[OE]at t0 k0 j0;rw[m0];generalize hg1:f-2^0=g1 at*;have e1:g1+2^1=f+1:=by rw[<-hg1,qF,show(2:Int)^1=2 from rfl];omega
  refine SX (L:=fv (g8 a (i0:Int)) b c d e) (k:=1) (by decide) rfl rfl t0 p0 (by omega) w0 (hl k0 (by decide)) j0 q2 (hrz _) (hsz _ _ (by rw[e1];omega)) ?_ ?_;.intro hno;have h3:=wg (k:=1) (g:=g1) j0 t0 (by omega) (by decide) hno;rw[KG,e1]at h3;have h1:=wh (k:=1) t0 p0 w0 (by decide);have h2:=tp (k:=1) (g:=g1) k0 (by decide);rw[KG,e1]at h1;rw[KG]at h2;exact fin _ _ _ _ _ h1 h2 h3
  intro i1 u1 g1' m1 p1 w1 t1 j1 s1;have k1:=wA (k:=1) (i:=(i1:Int)) k0 (by decide);rw[KG]at t1 k1 j1;rw[m1];generalize hg2:g1-2^1=g2 at*;have e2:g2+2^2=f+1:=by rw[<-hg2,<-e1,show(2:Int)^1=2 from rfl,show(2:Int)^2=4 from rfl];omega
  refine SX (L:=fv (g8 a (i0:Int)) (g8 b (i1:Int)) c d e) (k:=2) (by decide) rfl rfl t1 p1 (by omega) w1 (hl k1 (by decide)) j1 q2 (hrz _) (hsz _ _ (by rw[e2];omega)) ?_ ?_;.intro hno;have h3:=wg (k:=2) (g:=g2) j1 t1 (by omega) (by decide) hno;rw[KF,e2]at h3;have h1:=wh (k:=2) t1 p1 w1 (by decide);have h2:=tp (k:=2) (g:=g2) k1 (by decide);rw[KF,e2]at h1;rw[KF]at h2;exact fin _ _ _ _ _ h1 h2 h3
  intro i2 u2 g2' m2 p2 w2 t2 j2 s2;have k2:=wA (k:=2) (i:=(i2:Int)) k1 (by decide);rw[KF]at t2 k2 j2;rw[m2];generalize hg3:g2-2^2=g3 at*;have e3:g3+2^3=f+1:=by rw[<-hg3,<-e2,show(2:Int)^2=4 from rfl,show(2:Int)^3=8 from rfl];omega
  refine SX (L:=fv (g8 a (i0:Int)) (g8 b (i1:Int)) (g8 c (i2:Int)) d e) (k:=3) (by decide) rfl rfl t2 p2 (by omega) w2 (hl k2 (by decide)) j2 q2 (hrz _) (hsz _ _ (by rw[e3];omega)) ?_ ?_;.intro hno;have h3:=wg (k:=3) (g:=g3) j2 t2 (by omega) (by decide) hno;rw[KE,e3]at h3;have h1:=wh (k:=3) t2 p2 w2 (by decide);have h2:=tp (k:=3) (g:=g3) k2 (by decide);rw[KE,e3]at h1;rw[KE]at h2;exact fin _ _ _ _ _ h1 h2 h3
  intro i3 u3 g3' m3 p3 w3 t3 j3 s3;have k3:=wA (k:=3) (i:=(i3:Int)) k2 (by decide);rw[KE]at t3 k3 j3;rw[m3];generalize hg4:g3-2^3=g4 at*;have e4:g4+2^4=f+1:=by rw[<-hg4,<-e3,show(2:Int)^3=8 from rfl,show(2:Int)^4=16 from rfl];omega
  have h3:=wg (k:=4) (g:=g4) j3 t3 (by omega) (by decide) (λh=>by omega);rw[OD,e4]at h3;have h1:=wh (k:=4) t3 p3 w3 (by decide);have h2:=tp (k:=4) (g:=g4) k3 (by decide);rw[OD,e4]at h1;rw[OD]at h2;exact As (l:=e) (t3.so 4 (by decide)) (λx hx=>by have:=(t3.al 4 (by decide) x hx).2.2;have:=pw 4;omega) (hl k3 (j:=4) (by decide)) (fin _ _ _ _ _ h1 h2 h3)
 .rintro⟨⟨n0,n1,n2,n3,n4,a,b,c,d,e,u⟩,f,v⟩hq;have q1:f=st+((ct.toNat:Nat):Int):=hq.1;refine av (cE ?_) (bo (aV ⟨_,hq,rfl⟩));show ah .i64 st ct<=f;rw[hsum];omega
 .
  rintro s⟨⟨⟨n0,n1,n2,n3,n4,a,b,c,d,e,u⟩,f,v⟩,⟨q1,q2,q3,q4,q5,q6,q7⟩,rfl⟩;have e0:∀k,k<=4->dA (n0,n1,n2,n3,n4,a::b::c::d::e::[],()) k=fv a b c d e k:=λk hk=>by rcases k with _|_|_|_|_|k<;>first|rfl|omega
  refine ab ⟨λ_=>rfl,λ_=>⟨q2,q3,λk hk=>?_,vT.congr (L:=fv a b c d e) ⟨q4.so,q4.dj⟩ e0,On.congr (L:=fv a b c d e) q6.cb e0,?_,λj hj x hx=>?_,q7,⟨_,rfl,rfl⟩,λy h1 h2=>?_⟩⟩;rotate_left;.obtain⟨w1,w2,w3⟩:=q7;have w1:n0=n:=w1;have w2:n1=k:=w2;have w3:n4=mn:=w3;have q2:n2=st:=q2;have q3:n3=ct:=q3;subst w1 w2 w3 q2 q3;exact e188
  .
   rw[e0 j hj]at hx;have q2:n2=st:=q2;have q3:n3=ct:=q3;obtain⟨y1,y2,y3⟩:=q4.al j hj x hx;have y4:=q6.lo j hj x hx;refine⟨?_,?_,by rw[fJ y1];exact y2⟩;.show n2<=x;omega
   .show x+2^j<=n2+n3;omega
  .obtain⟨j,x,hj,hx,h3⟩:=q6.cv y h1 (by omega);exact⟨j,x,hj,by rw[e0 j hj];exact hx,h3⟩
  have:=q5 k hk;have e1:=e0 k hk;show(dA (n0,n1,n2,n3,n4,a::b::c::d::e::[],()) k).length<=256;rw[e1];have this:(fv a b c d e k).length<=ct.toNat:=this;omega
theorem iZ{n:Int}{b:Nat}(a:0<=n)(h1:n<=10000)(c:b<=1000):gw n n b=true:=by unfold gw Hm.gu;rw[ar a,ar (bW n)];simp only[dF];rw[bO];exact aM (sJ (show n.toNat<=10000 by omega) c) (by decide)
structure HR (z : Zn) : Prop where
  dj : vT (dA z)
  cb : On (dA z)
  rg : qs (z, ()) = some (true, ())
  jR : ∀ j, j ≤ 4 → ∀ x, x ∈ dA z j → In z x j
  len : ∃ l : List (List Int), l.length = 5 ∧ z.2.2.2.2.2.1 = l
  cv : ∀ y : Int, zs z ≤ y → y < zs z + zc z → ∃ (j : Nat) (x : Int), j ≤ 4 ∧ x ∈ dA z j ∧ x ≤ y ∧ y < x + 2 ^ j
structure MI (a : eK) (b : Nat) : Prop where
  z : ∀ z, z ∈ cu a → lM (dA z) b ∧ vT (dA z)
  c : ∀ c, c ∈ cK a → ∀ l, l ∈ c.1 → l.length ≤ b
  e : ∀ (i : Nat) (c : sR), 1 ≤ i → (cK a)[i]? = some c → ∀ l, l ∈ c.1 → l = []
theorem MI.sz{a:eK}{b:Nat}(h:MI a b)(d:b<=100000):Sz a:=⟨λz i k f=>aM ((h.z z i).1 k f) d,λc e l g=>aM (h.c c e l g) d⟩
theorem RX(n:Int):Ok (D7 (n,())) λr=>∀l,l∈r.1.1->l=[]:=by
 have d:Ok (some (([],()),1,()):Option (D (.ai fA iU))) λr=>∀l,l∈r.1.1->l=[]:=ab (λl a=>by cases a);unfold D7;refine aL (λ_=>d) λb=>aL (λ_=>d) λc=>aq ?_ (ab λl a=>?_);.have b:1<=n:=eY b;have c:n<=6:=eY c;exact iZ (by omega) (by omega) (by decide)
 .have a:l∈List.replicate n.toNat []:=a;exact(gY.1 a).2
theorem C7{α:Type}{l:List α}{i:Int}{x y:α}(h:y∈aG l i x):y∈l\/y=x:=by
 unfold aG at h;rcases cO h with h|h;.exact .inl h
 .exact .inr h
theorem Ui(nd:List Int)(o0 hg:Int)(zl:List (D kh))(u9:nd.length<=4)(t9:zl.length<=6):Ok (HY (nd,o0,hg,zl,())) λr=>MI r.1 256/\(∀c,c∈cK r.1->∀l,l∈c.1->l=[])/\(r.2.1=0->∀z,z∈cu r.1->HR z):=by
 have e0:MI (([],0,0,[],[],()):eK) 256:=⟨λz b=>(by cases b),λc a=>(by cases a),λi c _ a=>by cases a⟩;have t0:∀e:Int,e≠0->Ok (some ((([],0,0,[],[],()),e,()):D (.ai de iU))) λr=>MI r.1 256/\(∀c,c∈cK r.1->∀l,l∈c.1->l=[])/\(r.2.1=0->∀z,z∈cu r.1->HR z):=λe x0=>⟨_,rfl,e0,λc a=>(by cases a),λh=>absurd h x0⟩;have r9:ak zl=(zl.length:Int):=rfl;unfold HY;refine aq (cj (by simp;omega) (by decide)) (aq (iZ (by show 0<=(zl.length:Int);omega) (by show(zl.length:Int)<=10000;omega) (by decide)) ?_);refine aZ (IE _) λq9 _=>aL (λ_=>t0 2 (by decide)) λ_=>?_;refine aK (P:=λs=>((∀z,z∈s.2.1.2.2.2.1->lM (dA z) 256/\vT (dA z))/\∀z,z∈s.2.1.2.2.2.1->HR z)/\s.2.1.2.2.2.2.1=[]) (bq (I:=λi s=>s.2.2.2.1=(i:Int)/\(∀z,z∈s.2.1.2.2.2.1->lM (dA z) 256/\vT (dA z))/\s.2.1.2.2.2.2.1=[]/\s.2.1.2.2.2.1.length=zl.length/\∀(q:Nat)(z:Zn),q<i->s.2.1.2.2.2.1[q]?=some z->HR z) (m:=zl.length) ⟨rfl,λz b=>?_,rfl,by show(List.replicate _ _).length=_;rw[aN];rfl,λq z B=>by omega⟩ (by omega) ?_ ?_) λp0 k0=>?_
 .
  have b:z∈List.replicate (ak zl).toNat ((0,0,0,0,0,[]::[]::[]::[]::[]::[],()):Zn):=b;rw[(gY.1 b).2];refine⟨λk j0=>?_,vT.nil λk j0=>?_⟩;.rcases k with _|_|_|_|_|k<;>first|exact a5 _|omega
  .rcases k with _|_|_|_|_|k<;>first|rfl|omega
 .
  rintro i⟨p,⟨C,z0,y0,g,j,u⟩,d0,m,v⟩A⟨d,n,o,f,w⟩;have d:m=(i:Int):=d;subst d;refine bg (cD A) (aZ (cL A) λx s9=>aZ (IB _ _ _ _ _) λr u0=>aL (λg0=>bo (bo (t0 _ (iX g0)))) λx0=>?_);obtain⟨q0,c0,h0,r0,b0,a0,z9,_,y9,x9⟩:=u0.2 (fq x0);have i0:=And.intro h0 r0;have f0:HR r.1:=⟨r0,b0,a0,z9,y9,λy w9 v9=>x9 y (by rw[<-q0];exact w9) (by rw[<-q0,<-c0];exact v9)⟩;have w:∀(q:Nat)(z:Zn),q<i->g[q]?=some z->HR z:=w;have f:g.length=zl.length:=f;have w0:i<g.length:=by omega
  refine aq (eu w0) (aZ (cL w0) λp9 _=>aV ⟨?_,λz b=>?_,o,by show(aG g _ _).length=_;rw[jt,f],λq z B b=>?_⟩);.have e:ah .i64 (i:Int) 1=((i+1:Nat):Int):=bH (by omega);rw[<-e]
  .
   rcases C7 b with b|b;.exact n z b
   .rw[b];exact i0
  .
   have b:(g.set i r.1)[q]?=some z:=b;by_cases e:q=i;.subst e;rw[be w0]at b;cases b;exact f0
   .rw[bz λn0=>e n0.symm]at b;exact w q z (by omega) b
 .rintro⟨p,⟨C,z0,y0,g,j,u⟩,d0,m,v⟩⟨d,n,o,f,w⟩;have d:m=((zl.length:Nat):Int):=d;subst d;refine av cU (bo (aV ⟨⟨n,λz b=>?_⟩,o⟩));obtain⟨q,B⟩:=bj b;exact w q z (by have:=(aj.1 B).1;rw[<-f];exact this) B
 .
  obtain⟨⟨m0,l0⟩,s0⟩:=k0;refine aK (P:=λs=>((∀z,z∈s.1.2.2.2.1->lM (dA z) 256/\vT (dA z))/\∀z,z∈s.1.2.2.2.1->HR z)/\∀c,c∈s.1.2.2.2.2.1->∀l,l∈c.1->l=[]) (bq (I:=λi s=>s.2.1=(i:Int)/\((∀z,z∈s.1.2.2.2.1->lM (dA z) 256/\vT (dA z))/\∀z,z∈s.1.2.2.2.1->HR z)/\(∀c,c∈s.1.2.2.2.2.1->∀l,l∈c.1->l=[])/\s.1.2.2.2.2.1.length=i) (m:=nd.length) ⟨rfl,⟨m0,l0⟩,?_,?_⟩ (by omega) ?_ ?_) λo9 t=>ab ⟨⟨t.1.1,λc a l v0=>?_,λi c _ a l v0=>?_⟩,t.2,λ_=>t.1.2⟩;.intro c a;have a:c∈p0.2.1.2.2.2.2.1:=a;rw[s0]at a;cases a
  .show p0.2.1.2.2.2.2.1.length=0;rw[s0];rfl
  .
   rintro i⟨⟨C,z0,y0,g,j,u⟩,m,v⟩A⟨d,n,o,f⟩;have d:m=(i:Int):=d;subst d;have f:j.length=i:=f;refine bg (cD A) (aZ (RX _) λr u0=>aq (cj (by show j.length+1<=10000;omega) (by decide)) (aV ⟨?_,n,λc a=>?_,?_⟩));.have e:ah .i64 (i:Int) 1=((i+1:Nat):Int):=bH (by omega);rw[<-e]
   .
    have a:c∈j++[(r.1.1,())]:=a;rcases bR.1 a with a|a;.exact o c a
    .
     have:c=(r.1.1,()):=by simpa using a
     rw[this];exact u0
   .show(j++[(r.1.1,())]).length=i+1;rw[ax,f];rfl
  .rintro⟨⟨C,z0,y0,g,j,u⟩,m,v⟩⟨d,n,o,f⟩;have d:m=((nd.length:Nat):Int):=d;subst d;exact av cU (bo (aV ⟨n,o⟩))
  .rw[t.2 c a l v0];exact a5 _
  .exact t.2 c (Y a) l v0
def D8(a:eK)(n:Int):Prop:=∃z,(cu a)[(cu a).length-1]?=some z/\n=zs z+zc z
theorem Uh(a:eK)(j:Sz a):Ok (HX (a,())) λr=>(0<=(r.1:Int)/\(r.1:Int)<=256)/\(tY (a,())=some ((0:Int),())->D8 a r.1):=by
 unfold HX;obtain⟨⟨e,u⟩,d,i⟩:=IA a j;refine aa d (aL (λh=>ab ⟨⟨bW 0,(by decide:(0:Int)<=256)⟩,λc=>?_⟩) λh=>?_);.rw[d]at c;cases c;exact absurd rfl (iX h)
 .
  have f:=i (fq h);have b:=f.nz;have g:bb .i64 (ak (cu a)) 1=(((cu a).length-1:Nat):Int):=by rw[aJ,fa (by omega) (by omega)];omega
  show Ok (am (az (cu a) (bb .i64 (ak (cu a)) 1)) _) _;rw[g];refine aZ (cL (l:=cu a) (i:=(cu a).length-1) (by omega)) λz b=>?_;obtain⟨k,l,m⟩:=(f.mW z (Y b)).pl;have e:ah .i64 (zs z) (zc z)=zs z+zc z:=cz (by omega) (by omega);refine ab ⟨?_,λ_=>⟨z,b,e⟩⟩;show 0<=ah .i64 (zs z) (zc z)/\ah .i64 (zs z) (zc z)<=256;rw[e];omega
theorem CE{a:eK}(c:Kz a){n:Int}(g:D8 a n):∀(d j:Nat)(z:Zn),j+d+1=(cu a).length->(cu a)[j]?=some z->zs z+zc z<=n
 |0,j,z,h,e=>by obtain⟨o,b,f⟩:=g;rw[show(cu a).length-1=j by omega,e]at b;cases b;rw[f];exact bW _
 |d+1,j,z,h,e=>by have b:(cu a)[j+1]?=some ((cu a)[j+1]'(by omega)):=G (by omega);have f:=c.cons j z _ e b;have i:=CE c g d (j+1) _ (by omega) b;obtain⟨k,l,m⟩:=(c.mW _ (Y b)).pl;omega
theorem Lp{a:eK}(c:Kz a){n:Int}(d:D8 a n){j:Nat}{z:Zn}(b:(cu a)[j]?=some z){f:Int}(h1:zs z<=f)(h2:f<zs z+zc z):0<=f/\f<n:=by have e:=(aj.1 b).1;have:=CE c d ((cu a).length-j-1) j z (by omega) b;obtain⟨g,h,i⟩:=(c.mW z (Y b)).pl;omega
def js:Int->List Int->List Int|_,[]=>[]|a,n::l=>a::js (a+(1+n)) l
def gd:Int->List Int->Int|a,[]=>a|a,n::l=>gd (a+(1+n)) l
def Lh(l:List Int)(s:Int):List Int:=js 0 l++[gd 0 l,gd 0 l+s]
theorem xy(l r:List Int)(h:l.length+r.length<=1000):a4 l r 8=true:=by show Nat.ble (Nat.mul (l.length+r.length) 8) 4294967296=true;rw[bO];show(l.length+r.length)*8<=4294967296;omega
theorem mK:∀(l:List Int)(a:Int),(js a l).length=l.length
 |[],_=>rfl
 |n::l,a=>by unfold js;simp[mK l]
theorem wM:∀(l:List Int)(a:Int),l.all (aO 1 16)=true->a<=gd a l/\gd a l<=a+17*l.length
 |[],a,_=>by unfold gd;simp
 |n::l,a,h=>by simp only[cP,ae]at h;have b:=dt h.1;have c:=wM l (a+(1+n)) h.2;unfold gd;simp only[bp];omega
theorem V3{qB n:Int}(h1:0<=qB/\qB<=1000)(h2:1<=n/\n<=16):ah .i64 qB (ah .i64 1 n)=qB+(1+n):=by rw[cz (a:=1) (b:=n) (by omega) (by omega),cz (by omega) (by omega)]
def De(b:Int×List Int)(x:Int):Option (Sum (Int×List Int) (List Int×Int×Unit)):=aC (a4 b.2 [b.1] 8) (some (.inl (ah .i64 b.1 (ah .i64 1 x),b.2++[b.1])))
theorem AX{A:Type}{fin:Int×List Int->A}:∀(l:List Int)(i:Nat)(a:Int)(kl:List Int),l.all (aO 1 16)=true->0<=a->a+17*l.length<=1000->kl.length+l.length<=500->fW (λ_ b x=>De b x) fin i (a,kl) l=some (.inl (fin (gd a l,kl++js a l)))
 |[],i,a,kl,_,_,_,_=>by unfold fW gd js;rw[bf]
 |n::l,i,a,kl,h,f,g,j=>by
  simp only[cP,ae]at h;simp only[bp]at g j;have k:=dt h.1;have e:De (a,kl) n=some (.inl (a+(1+n),kl++[a])):=by show aC (a4 kl [a] 8) (some (Sum.inl (ah .i64 a (ah .i64 1 n),kl++[a])))=_;rw[xy kl [a] (by simp;omega),lp,V3 ⟨f,by omega⟩ k]
  unfold fW;simp only[e];rw[AX l (i+1) _ _ h.2 (by omega) (by omega) (by simp;omega)];have c:gd a (n::l)=gd (a+(1+n)) l:=by rw[gd]
  have d:js a (n::l)=a::js (a+(1+n)) l:=by rw[js]
  rw[c,d,cn];rfl
theorem GY{l:List Int}{s:Int}(h:l.all (aO 1 16)=true)(f:l.length<=4)(c:aO 0 64 s=true)(a:Int)(b:a=gd 0 l):ad (ay s 0) (some (([]:List Int),(2:Int),())) (ad (ay 64 s) (some ([],2,())) (aC (a4 (js 0 l) (a::ah .i64 a s::[]) 8) (some (aX (js 0 l) (a::ah .i64 a s::[]),0,()))))=some (Lh l s,0,()):=by have d:=dt c;have e:=wM l 0 h;subst b;rw[dS (b:=ay s 0) (by rw[gQ];exact aQ (by omega)),dS (b:=ay 64 s) (by rw[gQ];exact aQ (by omega)),xy _ _ (by rw[mK];simp;omega),lp,cz (by omega) (by omega)];rfl
theorem K9{l:List Int}(h:l.all (aO 1 16)=true){i:Nat}{y:Int}(a:l[i]?=some y):1<=y/\y<=16:=dt (bQ.1 h y (Y a))
theorem RZ(l:List Int)(s:Int)(h:l.all (aO 1 16)=true)(c:l.length<=4)(d:aO 0 64 s=true):IG (l,s,())=some (Lh l s,0,()):=by
 unfold IG;show ad (ay 4 (ak l)) _ _=_;rw[dS (b:=ay 4 (ak l)) (by rw[gQ,aJ];exact aQ (by omega))];rw[et (xs:=l) (st:=λ(b:Int×List Int)i=>(b.1,b.2,(i:Int),())) (g:=λ_ b x=>De b x) (fin:=λb=>(b.1,b.2,())) (b:=((0:Int),([]:List Int)))];rotate_left
 .
  intro b i y a;have f:=K9 h a;refine(ei a).trans ?_;rw[dS (b:=ay y 1) (by rw[gQ];exact aQ (by omega))];have e:Io (y,())=some (true,()):=by unfold Io;show ad (cH 0 y) (some (cH y 16,())) _=_;rw[el (b:=cH 0 y) (by rw[jv];exact ar (by omega)),jv,ar (by omega)]
  rw[e,cC,dS (b:=bI true) rfl,bH (gc a (aM c (by decide)))];unfold lR De;dsimp only;show aC (a4 b.2 [b.1] 8) (some (Sum.inl (ah .i64 b.1 (ah .i64 1 y),b.2++[b.1],((i+1:Nat):Int),())))=_;cases a4 b.2 [b.1] 8<;>rfl
 .exactλb=>ek
 .rfl
 .omega
 rw[AX l 0 0 [] h (by omega) (by omega) (by simp;omega),hI];exact GY h c d _ rfl
def n7(c:D ce):List Int:=c.2.2.2.2.2.2.2.2.2.2.1.map λf=>f.1
def Ci(c:D ce):List Int:=Lh (n7 c) c.2.2.2.2.2.2.1
theorem GA{A R:Type}{fin:List Int->A}:∀(l:List (D pW))(i:Nat)(kl:List Int),kl.length+l.length<=500->fW (R:=R) (λ_ b(f:D pW)=>aC (a4 b [f.1] 8) (some (.inl (b++[f.1])))) fin i kl l=some (.inl (fin (kl++l.map λf=>f.1)))
 |[],i,kl,_=>by unfold fW;simp
 |f::l,i,kl,h=>by
  simp only[bp]at h;have e:(aC (a4 kl [f.1] 8) (some (.inl (kl++[f.1]))):Option (Sum (List Int) R))=some (.inl (kl++[f.1])):=by rw[xy kl [f.1] (by simp;omega),lp]
  unfold fW;simp only[e];rw[GA l (i+1) _ (by simp;omega)];simp
theorem mP{c:D ce}(h:dh c=true):(n7 c).all (aO 1 16)=true/\(n7 c).length<=4/\aO 0 64 c.2.2.2.2.2.2.1=true:=by
 unfold dh mY at h;simp only[ae]at h;refine⟨?_,?_,h.1.2.2.2.2.1⟩;.unfold n7;rw[List.all_map,bQ];intro f a;have:=bQ.1 h.2.2 f a;unfold nT at this;simp only[ae]at this;exact this.1
 .have:=h.2.1;rw[jv,aJ]at this;have:=br this;unfold n7;rw[db];omega
theorem m4(c:D ce):(n7 c).length=c.2.2.2.2.2.2.2.2.2.2.1.length:=db ..
theorem GZ(c:D ce)(h:c.2.2.2.2.2.2.2.2.2.2.1.length<=20){R:Type}:aF (λa:List Int×Int×Unit=>ad (ay a.2.1 (ak c.2.2.2.2.2.2.2.2.2.2.1)) (am (az c.2.2.2.2.2.2.2.2.2.2.1 a.2.1) λe=>aC (a4 a.1 (e.1::[]) 8) (some (.inl (aX a.1 (e.1::[]),ah .i64 a.2.1 1,())))) (ao (some (.inl (a.1,()))))) 1000000000 ([],0,())=(some (.inl (n7 c,())):Option (Sum (List Int×Unit) R)):=by
 rw[et (xs:=c.2.2.2.2.2.2.2.2.2.2.1) (st:=λ(b:List Int)i=>(b,(i:Int),())) (g:=λ_ b(f:D pW)=>aC (a4 b [f.1] 8) (some (.inl (b++[f.1])))) (fin:=λb=>(b,())) (b:=([]:List Int))];rotate_left;.intro b i y d;refine(ei d).trans ?_;rw[bH (gc d (aM h (by decide)))];unfold lR;dsimp only;show aC (a4 b [y.1] 8) (some (Sum.inl (b++[y.1],((i+1:Nat):Int),())))=_;cases a4 b [y.1] 8<;>rfl
 .exactλb=>ek
 .rfl
 .omega
 rw[GA _ _ _ (by simp;omega)];rfl
theorem Um(c:D ce)(h:dh c=true):FN (c,())=some (Ci c,()):=by obtain⟨a,b,d⟩:=mP h;unfold FN;refine(eP (λo=>aE o _) (GZ c (by rw[<-m4];omega))).trans ?_;rw[hI];show am (IG (n7 c,c.2.2.2.2.2.2.1,())) _=_;rw[RZ _ _ a b d];rfl
theorem Uj(n:Int):Ok (FM (n,())) λ_=>True:=by unfold FM;exact aL (λ_=>ab trivial) λ_=>aL (λ_=>ab trivial) λ_=>ab trivial
theorem Ug(n:Int):Ok (FL (n,())) λ_=>True:=by unfold FL;exact aL (λ_=>ab trivial) λ_=>aL (λ_=>ab trivial) λ_=>ab trivial
theorem Uf:Ok (FK ()) λ_=>True:=by unfold FK;exact aq (iZ (by decide) (by decide) (by decide)) (ab trivial)
theorem Ue(n:Int):Ok (BM (n,())) λ_=>True:=by unfold BM;refine aL (λ_=>ab trivial) λa=>aL (λ_=>ab trivial) λb=>aq ?_ (ab trivial);have a:0<=n:=eY a;have b:n<=64:=eY b;exact iZ a (by omega) (by decide)
theorem Ud(n:Int):Ok (FJ (n,())) λ_=>True:=by unfold FJ;exact aL (λ_=>ab trivial) λ_=>aL (λ_=>ab trivial) λ_=>ab trivial
theorem RS(n:Int):Ok (vf (n,())) λ_=>True:=by
 have h:Ok (B0 (n,())) λ_=>True:=by unfold B0;exact aL (λ_=>ab trivial) λ_=>ab trivial
 unfold vf;exact aZ h λ_ _=>aL (λ_=>ab trivial) λ_=>ab trivial
theorem RR(e:D jP):Ok (yV (e,())) λ_=>True:=by
 have h:Ok (Ih (e,())) λ_=>True:=by unfold Ih;exact aL (λ_=>aL (λ_=>aL (λ_=>ab trivial) λ_=>ab trivial) λ_=>ab trivial) λ_=>ab trivial
 have a:Ok (Ig (e,())) λ_=>True:=by unfold Ig;exact aL (λ_=>ab trivial) λ_=>ab trivial
 unfold yV;exact aZ h λ_ _=>aL (λ_=>ab trivial) λ_=>aZ a λ_ _=>aL (λ_=>ab trivial) λ_=>ab trivial
theorem dw{α:Type}{l:List α}{i:Nat}{x:α}(h:l[i]?=some x):l.take i++[x]=l.take (i+1):=by rw[ja,h];rfl
theorem Uk(c:D ce)(k:xj c):Ok (Ul (c,())) λr=>r.1=c:=by
 have C:=(tP k.kl).1;have y0:c.1.length<=4:=by have:=k.AC;unfold ij at this;simp only[ae]at this;have:=dt this.1;omega
 have w0:c.2.1.length<=6:=by have:=k.Ea;unfold gM at this;simp only[ae]at this;have:=dt this.1;omega
 have t:=mP k.qx;have z0:c.2.2.2.2.2.2.2.2.2.2.1.length<=4:=by rw[<-m4];exact t.2.1
 have v:∀f,f∈c.2.2.2.2.2.2.2.2.2.2.1->f.2.1.length<=512:=by
  intro f w;have:=k.qx;unfold dh at this;simp only[ae]at this;have:=bQ.1 this.2.2 f w;unfold nT at this;simp only[ae]at this;obtain⟨o,_,l⟩:=this;have o:=dt o;have l:ak f.2.1<=ea .i64 f.1 32:=eY (by simpa using l);have x:∀p:Int,1<=p->p<=16->ak f.2.1<=ea .i64 p 32->f.2.1.length<=512:=by intro p a b h;have e:ea .i64 p 32=p*32:=kZ (n:=p*32) (by omega) (by omega);rw[e,aJ]at h;omega
  exact x f.1 o.1 o.2 l
 unfold Ul;refine aq (cj (by show 0+c.1.length<=_;omega) (by decide)) (aq (cj (by show 0+c.2.1.length<=_;omega) (by decide)) (aq (cj (by show 0+c.2.2.2.2.2.2.2.2.2.2.2.1.length<=_;omega) (by decide)) ?_));refine aK (P:=λs=>s.1=c.2.2.2.2.2.2.2.2.2.2.1) (bq (I:=λi s=>s.2.1=(i:Int)/\s.1=c.2.2.2.2.2.2.2.2.2.2.1.take i) (m:=c.2.2.2.2.2.2.2.2.2.2.1.length) ⟨rfl,rfl⟩ (by omega) ?_ ?_) λA l=>?_;.rintro i⟨a,d,u⟩m⟨j,g⟩;have j:d=(i:Int):=j;subst j;have g:a=c.2.2.2.2.2.2.2.2.2.2.1.take i:=g;subst g;refine bg (cD m) (aZ (cL m) λf n=>aq (cj (by have:=v f (Y n);show 0+f.2.1.length<=_;omega) (by decide)) (aq (cj (by rw[aR];simp;omega) (by decide)) (aV ⟨?_,dw n⟩)));have e:ah .i64 (i:Int) 1=((i+1:Nat):Int):=bH (by omega);rw[<-e]
 .rintro⟨a,d,u⟩⟨j,g⟩;have j:d=((c.2.2.2.2.2.2.2.2.2.2.1.length:Nat):Int):=j;subst j;have g:a=c.2.2.2.2.2.2.2.2.2.2.1.take _:=g;rw[bN]at g;exact av cU ⟨_,rfl,g⟩
 refine aK (P:=λs=>s.1=c.2.2.2.2.2.2.2.2.2.2.2.2.1) (bq (I:=λi s=>s.2.1=(i:Int)/\s.1=c.2.2.2.2.2.2.2.2.2.2.2.2.1.take i) (m:=c.2.2.2.2.2.2.2.2.2.2.2.2.1.length) ⟨rfl,rfl⟩ (by have:=k.np;omega) ?_ ?_) λB q=>ab ?_;.rintro i⟨a,d,u⟩m⟨j,g⟩;have j:d=(i:Int):=j;subst j;have g:a=c.2.2.2.2.2.2.2.2.2.2.2.2.1.take i:=g;subst g;have x0:=k.np;refine bg (cD m) (aZ (cL m) λf n=>aq (cj (by have:=(k.prog f (Y n)).1;show 0+f.2.1.length<=_;omega) (by decide)) (aq (cj (by rw[aR];simp;omega) (by decide)) (aV ⟨?_,dw n⟩)));have e:ah .i64 (i:Int) 1=((i+1:Nat):Int):=bH (by omega);rw[<-e]
 .rintro⟨a,d,u⟩⟨j,g⟩;have j:d=((c.2.2.2.2.2.2.2.2.2.2.2.2.1.length:Nat):Int):=j;subst j;have g:a=c.2.2.2.2.2.2.2.2.2.2.2.2.1.take _:=g;rw[bN]at g;exact av cU ⟨_,rfl,g⟩
 .obtain⟨y,v0⟩:=A;obtain⟨z,u0⟩:=B;have l:y=c.2.2.2.2.2.2.2.2.2.2.1:=l;have q:z=c.2.2.2.2.2.2.2.2.2.2.2.2.1:=q;subst l;subst q;rfl
open Go.Proofs
def oL(n:Nat):List Int:=[73,78,79,68,(n:Int),(((2^n-1)%256:Nat):Int),(((2^n-1)/256:Nat):Int),(((298+n+(2^n-1)%256+(2^n-1)/256)%251:Nat):Int)]++List.replicate 24 0
theorem P6:(List.range 17).all (λn=>match Iw ((n:Int),((2^n-1:Nat):Int),())with|some (h,e,())=>h==oL n&&e==0|none=>false)=true:=by simp only[Iw,hN];kernel_rfl
theorem Ly{n:Nat}(b:n<=16):Iw ((n:Int),((2^n-1:Nat):Int),())=some (oL n,(0:Int),()):=by
 have h:=bQ.1 P6 n (eC.2 (by omega));split at h;.rename_i l e a;simp only[ae,beq_iff_eq]at h;rw[a,h.1,h.2]
 .cases h
theorem mQ{n:Nat}:(oL n).length=32:=rfl
def lK(p j:Nat):List Bool:=List.replicate j true++List.replicate (p-j) false
theorem nh{p j:Nat}(h:j<=p):(lK p j).length=p:=by unfold lK;rw[ax,aN,aN];omega
theorem tM{p j q:Nat}(h:j<=p)(b:q<p):(lK p j)[q]?=some (decide (q<j)):=by
 unfold lK;by_cases a:q<j;.rw[bL (by rw[aN];exact a),cd,aA a,ar a]
 .rw[bA (by rw[aN];omega),aN,cd,aA (by omega),aQ a]
theorem Bv{p j:Nat}(h:j<p):aG (lK p j) (j:Int) true=lK p (j+1):=by
 apply mH;intro q;show((lK p j).set j true)[q]?=_;by_cases a:q<p
 .
  by_cases b:q=j;.subst b;rw[be (by rw[nh (by omega)];exact h),tM (by omega) a,ar (by omega)]
  .rw[bz λe=>b e.symm,tM (by omega) a,tM (by omega) a];congr 1;apply decide_eq_decide.2;omega
 .rw[fh (by rw[bx,nh (by omega)];omega),fh (by rw[nh (by omega)];omega)]
theorem SD:(List.range 16).all (λi=>decide (Pd .i64 ((2^i-1:Nat):Int) (fj .i64 1 (i:Int))=((2^(i+1)-1:Nat):Int)))=true:=by kernel_rfl
theorem Wo{i:Nat}(h:i<16):Pd .i64 ((2^i-1:Nat):Int) (fj .i64 1 (i:Int))=((2^(i+1)-1:Nat):Int):=br (bQ.1 SD i (eC.2 h))
theorem Iy{p s:Nat}(c:s<=p)(hp:p<=16):Iz (lK p s,())=some (((2^s-1:Nat):Int),(0:Int),()):=by
 have o:Ok (Iz (lK p s,())) λr=>r=(((2^s-1:Nat):Int),(0:Int),()):=by
  have n:=nh c;unfold Iz;refine av (cE (by rw[aJ];show((lK p s).length:Int)<=16;omega)) ?_;refine aK (P:=λt=>t.1=((2^s-1:Nat):Int)) (bq (I:=λi t=>t.2.1=(i:Int)/\t.1=((2^min i s-1:Nat):Int)) (m:=(lK p s).length) ⟨rfl,by show(0:Int)=_;rw[Nat.zero_min];rfl⟩ (by omega) ?_ ?_) λx h=>ab (by rw[h])
  .
   rintro i⟨m,d,u⟩k⟨b,a⟩;have b:d=(i:Int):=b;subst b;have a:m=((2^min i s-1:Nat):Int):=a;subst a;have l:i<p:=by omega
   refine bg (cD k) (aa (tM c l) ?_);have e:ah .i64 (i:Int) 1=((i+1:Nat):Int):=bH (by omega);by_cases f:i<s
   .
    rw[ar f];refine bg rfl (aq (ar (show(0:Int)<=(i:Int)by omega)) ⟨_,rfl,?_,?_⟩);.rw[<-e]
    .show Pd .i64 ((2^min i s-1:Nat):Int) (fj .i64 1 (i:Int))=_;rw[gG (by omega),Wo (by omega),gG (by omega)]
   .
    rw[aQ f];refine av rfl ⟨_,rfl,?_,?_⟩;.rw[<-e]
    .show((2^min i s-1:Nat):Int)=_;rw[iB (by omega),iB (by omega)]
  .rintro⟨m,d,u⟩⟨b,a⟩;have b:d=(((lK p s).length:Nat):Int):=b;subst b;have a:m=((2^min (lK p s).length s-1:Nat):Int):=a;rw[n,iB c]at a;exact av cU ⟨_,rfl,a⟩
 obtain⟨r,g,j⟩:=o;rw[g,j]
abbrev oF:=D pW
def dZ(c:D ce):List oF:=c.2.2.2.2.2.2.2.2.2.2.1
def cp(c:D ce)(i:Nat):Nat:=(gd 0 ((n7 c).take i)).toNat
def nC(f:oF):Nat:=Int.toNat f.1
def iG(f:oF):Nat:=List.length f.2.1/32
def xC(f:oF)(j:Nat):List Int:=(List.drop (32*j) f.2.1).take 32
theorem Bh:∀(l:List Int)(a n:Int),gd a (l++[n])=gd a l+(1+n)
 |[],a,n=>by show gd a [n]=gd a []+(1+n);rw[gd,gd,gd]
 |m::l,a,n=>by show gd a (m::(l++[n]))=_;rw[gd,Bh l,gd]
theorem z6:∀(l:List Int)(a:Int)(i:Nat),i<l.length->(js a l)[i]?=some (gd a (l.take i))
 |[],a,i,h=>by cases h
 |n::l,a,0,h=>by rw[js];show some a=some (gd a []);rw[gd]
 |n::l,a,i+1,h=>by rw[js,dD,z6 l _ i (by simpa using h),List.take_succ_cons,gd]
theorem DI{l:List Int}{p:Int->Bool}(h:l.all p=true)(i:Nat):(l.take i).all p=true:=bQ.2 λx a=>bQ.1 h x (em a)
structure Ks (c : D ce) (f : oF) : Prop where
  p1 : 1 ≤ nC f
  wj : nC f ≤ 16
  p : (nC f : Int) = f.1
  m : List.length f.2.1 = 32 * iG f
  s : iG f ≤ nC f
theorem Bc{c:D ce}(j:dh c=true){f:oF}(k:f∈dZ c):Ks c f:=by
 have:=j;unfold dh at this;simp only[ae]at this;have:=bQ.1 this.2.2 f k;unfold nT at this;simp only[ae]at this;obtain⟨g,d,i⟩:=this;have g:=dt g;have i:ak f.2.1<=ea .i64 f.1 32:=eY (by simpa using i);have d:lf .i64 (ak f.2.1) 32=0:=fq (by simpa using d);have o:∀p:Int,1<=p->p<=16->ak f.2.1<=ea .i64 p 32->∀n:Nat,List.length f.2.1=n->(n:Int)<=p*32/\n%32=0:=by intro p a b h n l;have e:ea .i64 p 32=p*32:=kZ (n:=p*32) (by omega) (by omega);rw[e,aJ]at h;have h:((List.length f.2.1:Nat):Int)<=p*32:=h;refine⟨by omega,?_⟩;have d:Int.tmod ((List.length f.2.1:Nat):Int) 32=0:=d;rw[l]at d;have:Int.tmod (n:Int) 32=((n%32:Nat):Int):=rfl;omega
 obtain⟨m,q⟩:=o f.1 g.1 g.2 i _ rfl;have e:(nC f:Int)=f.1:=eG (by omega);refine⟨by omega,by omega,e,?_,?_⟩;.unfold iG;omega
 .
  have:((List.length f.2.1:Nat):Int)<=(nC f:Int)*32:=by rw[e];exact m
  unfold iG;omega
section
variable{c:D ce}(hc:dh c=true)
include hc
theorem SC{i:Nat}{f:oF}(a:(dZ c)[i]?=some f):(n7 c)[i]?=some f.1:=by show((dZ c).map λf=>f.1)[i]?=_;rw[jc,a];rfl
theorem wS(i:Nat):(cp c i:Int)=gd 0 ((n7 c).take i):=by have:=wM ((n7 c).take i) 0 (DI (mP hc).1 i);unfold cp;omega
theorem x8{i:Nat}{f:oF}(a:(dZ c)[i]?=some f):cp c (i+1)=cp c i+1+nC f:=by have b:=wS hc (i+1);have d:=wS hc i;rw[<-dw (SC hc a),Bh,<-d,<-(Bc hc (Y a)).p]at b;omega
theorem ya:∀(d i:Nat),i+d<=(dZ c).length->cp c i<=cp c (i+d)
 |0,i,_=>au _
 |d+1,i,h=>by have a:=ya d i (by omega);have b:=x8 hc (G (show i+d<(dZ c).length by omega));show cp c i<=cp c (i+d+1);omega
def ga(c:D ce):Nat:=cp c (dZ c).length+Int.toNat c.2.2.2.2.2.2.1
theorem WA{i:Nat}(h:i<(dZ c).length):(Ci c)[i]?=some (cp c i:Int):=by
 have a:i<(n7 c).length:=by rw[m4];exact h
 show(js 0 (n7 c)++_)[i]?=_;rw[bL (by rw[mK];exact a),z6 _ _ _ a,wS hc]
theorem Ns:(Ci c)[(dZ c).length+1]?=some (ga c:Int):=by
 have b:=dt (mP hc).2.2;show(js 0 (n7 c)++[gd 0 (n7 c),gd 0 (n7 c)+c.2.2.2.2.2.2.1])[(dZ c).length+1]?=_;rw[bA (by rw[mK,m4];exact dg _),mK,m4,show(dZ c).length+1-List.length c.2.2.2.2.2.2.2.2.2.2.1=1 by show(dZ c).length+1-(dZ c).length=1;omega];have:(n7 c).take (dZ c).length=n7 c:=by rw[show(dZ c).length=(n7 c).length from(m4 c).symm,bN]
 have a:=wS hc (dZ c).length;rw[this]at a;show some (gd 0 (n7 c)+c.2.2.2.2.2.2.1)=_;unfold ga;congr 1;rw[<-a];have d:∀p:Int,0<=p->(cp c (dZ c).length:Int)+p=((cp c (dZ c).length+p.toNat:Nat):Int):=λp e=>by omega
 exact d _ b.1
theorem PG:(Ci c).length=(dZ c).length+2:=by show(js 0 (n7 c)++[gd 0 (n7 c),_]).length=_;rw[ax,mK,m4];rfl
theorem xO:(dZ c).length<=4:=by have:=(mP hc).2.1;rw[m4]at this;exact this
theorem Ei:ga c<=132:=by
 have d:=wS hc (dZ c).length;have e:=wM ((n7 c).take (dZ c).length) 0 (DI (mP hc).1 _);have f:((n7 c).take (dZ c).length).length<=4:=by rw[aR];have:=xO hc;omega
 have a:=dt (mP hc).2.2;have b:∀p:Int,p<=64->p.toNat<=64:=λp g=>by omega
 have:=b _ a.2;unfold ga;omega
theorem rx{i:Nat}{f:oF}(a:(dZ c)[i]?=some f):cp c i+1+nC f<=cp c (dZ c).length:=by have h:=(aj.1 a).1;have d:=x8 hc a;have b:=ya hc ((dZ c).length-(i+1)) (i+1) (by omega);rw[show i+1+((dZ c).length-(i+1))=(dZ c).length by omega]at b;omega
theorem LM{i j:Nat}{f:oF}(b:(dZ c)[i]?=some f)(e:i<j)(g:j<=(dZ c).length):cp c i+1+nC f<=cp c j:=by have d:=x8 hc b;have a:=ya hc (j-(i+1)) (i+1) (by omega);rw[show i+1+(j-(i+1))=j by omega]at a;omega
end
structure Cn (c : D ce) (bl : List (List Int)) (i j : Nat) : Prop where
  len : bl.length = ga c
  all : ∀ b, b ∈ bl → b.length = 32
  ia : ∀ i' f, i' < i → (dZ c)[i']? = some f → bl[cp c i']? = some (oL (iG f)) ∧ ∀ q, q < iG f → bl[cp c i' + 1 + q]? = some (xC f q)
  bP : ∀ f, (dZ c)[i]? = some f → ∀ q, q < j → bl[cp c i + 1 + q]? = some (xC f q)
theorem n5{α:Type}{l:List α}{i:Int}{n:Nat}{x:α}(h:i=(n:Int)):aG l i x=l.set n x:=by subst h;rfl
theorem Qj{c:D ce}(hc:dh c=true){e:List (List Int)}{i j:Nat}{f:oF}(h:Cn c e i j)(d:(dZ c)[i]?=some f)(z:j<iG f):Cn c (e.set (cp c i+1+j) (xC f j)) i (j+1):=by
 have n:=Bc hc (Y d);have y:=(aj.1 d).1;have t:cp c i+1+j<e.length:=by have:=rx hc d;have l:=h.len;have x:=n.s;unfold ga at l;omega
 have u:(xC f j).length=32:=by unfold xC;rw[aR,cB];have l:=n.m;omega
 refine⟨by rw[bx];exact h.len,λb g=>?_,λw k m a=>?_,λk a q o=>?_⟩
 .
  rcases cO g with g|rfl;.exact h.all b g
  .exact u
 .have A:=LM hc a m (by omega);have s:=Bc hc (Y a);obtain⟨p,r⟩:=h.ia w k m a;refine⟨by rw[bz (by omega)];exact p,λq o=>?_⟩;have:=s.s;rw[bz (by omega)];exact r q o
 .
  rw[d]at a;cases a;by_cases v:q=j;.subst v;rw[be t]
  .rw[bz (by omega)];exact h.bP f d q (by omega)
theorem Qk{c:D ce}(hc:dh c=true){g:List (List Int)}{i:Nat}{f:oF}(h:Cn c g i (iG f))(d:(dZ c)[i]?=some f):Cn c (g.set (cp c i) (oL (iG f))) (i+1) 0:=by
 have t:=(aj.1 d).1;have s:cp c i<g.length:=by have:=rx hc d;have o:=h.len;unfold ga at o;omega
 refine⟨by rw[bx];exact h.len,λb j=>?_,λk l u a=>?_,λl a q e=>by omega⟩
 .
  rcases cO j with j|rfl;.exact h.all b j
  .exact mQ
 .
  by_cases p:k=i;.subst p;rw[d]at a;cases a;refine⟨by rw[be s],λq e=>?_⟩;rw[bz (by omega)];exact h.bP f d q e
  .have v:=LM hc a (show k<i by omega) (by omega);have r:=Bc hc (Y a);have:=r.s;obtain⟨m,n⟩:=h.ia k l (by omega) a;refine⟨by rw[bz (by omega)];exact m,λq e=>?_⟩;rw[bz (by omega)];exact n q e
theorem wZ{c:D ce}(a:dh c=true):FN (c,())=some (Ci c,()):=Um c a
theorem lF{c:D ce}(a:dh c=true):az (Ci c) (bb .i64 (ak (Ci c)) 1)=some (ga c:Int):=by have b:=xO a;rw[aJ,PG a,fa (by omega) (by omega),show(((dZ c).length+2:Nat):Int)-1=(((dZ c).length+1:Nat):Int)by omega];exact Ns a
theorem oW{c:D ce}(a:dh c=true){i:Nat}(h:i<(dZ c).length):az (Ci c) (i:Int)=some (cp c i:Int):=WA a h
theorem Ej(c:D ce):cp c (dZ c).length<=ga c:=Nat.le_add_right _ _
theorem tI{x s:List Int}(h1:x.length=32)(h2:32<=s.length):dR x s=s.take 32:=by unfold dR;rw[h1,ed (by omega),bf]
theorem A4{a j:Nat}(h:a+1+j<=1000):ah .i64 (ah .i64 (a:Int) 1) (j:Int)=((a+1+j:Nat):Int):=by rw[cz (a:=(a:Int)) (by omega) (by omega),cz (by omega) (by omega)];omega
theorem xI{j:Nat}(h:j<=1000):ea .i64 (j:Int) 32=((32*j:Nat):Int):=by have e:ea .i64 (j:Int) 32=(j:Int)*32:=kZ (n:=(j:Int)*32) (by omega) (by omega);rw[e];omega
theorem Jk{c:D ce}(a:dh c=true){i j:Nat}{f:oF}(b:(dZ c)[i]?=some f)(h:j<iG f):cp c i+1+j<ga c:=by have d:=rx a b;have e:=Ej c;have g:=(Bc a (Y b)).s;omega
theorem I5{c:D ce}{f:oF}(a:Ks c f):iG f<=16:=aM a.s a.wj
theorem LC{c:D ce}{f:oF}(a:Ks c f){j:Nat}(g:j<iG f):dx (ea .i64 (j:Int) 32) (ak f.2.1) (ak f.2.1)=true:=by
 have b:=I5 a;have d:=a.m;have e:32*j<=List.length f.2.1:=by omega
 unfold dx;rw[xI (by omega),aJ,ar (bW _),Bool.and_true,ar (Int.natCast_nonneg _),dF];exact ar (kK.2 e)
theorem LD{c:D ce}{f:oF}(a:Ks c f){j:Nat}(h:j<iG f){x:List Int}(d:x.length=32):dR x (eS f.2.1 (ea .i64 (j:Int) 32) (ak f.2.1))=xC f j:=by
 have e:=I5 a;have g:=a.m;have b:eS f.2.1 (ea .i64 (j:Int) 32) (ak f.2.1)=List.drop (32*j) f.2.1:=by rw[xI (by omega),aJ];show(List.drop (((32*j:Nat):Int)).toNat f.2.1).take ((((List.length f.2.1:Nat):Int)).toNat-(((32*j:Nat):Int)).toNat)=_;rw[cY,cY,dp (by rw[cB];exact au _)]
 rw[b,tI d (by rw[cB];omega)];rfl
theorem Uc(c:D ce)(o:dh c=true):Ok (Kw (c,())) λr=>r.1.length<=4/\Cn c r.2.1 (dZ c).length 0:=by
 have p9:=xO o;have l9:=Ei o;unfold Kw;refine aa (wZ o) (aa (lF o) (aq (iZ (n:=(ga c:Int)) (by omega) (by omega) (by decide)) ?_));have g0:∀n:Nat,eh (n:Int) ([]:List Int)=List.replicate n []:=λn=>rfl;refine aK (P:=λs=>s.1.length=ga c/\∀b,b∈s.1->b.length=32) (bq (I:=λi s=>s.2.1=(i:Int)/\s.1.length=ga c/\∀(q:Nat)(b:List Int),q<i->s.1[q]?=some b->b.length=32) (m:=ga c) ⟨rfl,by show(List.replicate _ _).length=_;rw[aN];rfl,λq b h=>by omega⟩ (by omega) ?_ ?_) λh9 a0=>?_
 .
  rintro i⟨a,d,u⟩z0⟨g,l,v⟩;have g:d=(i:Int):=g;subst g;have l:a.length=ga c:=l;refine bg (eJ (by rw[g0,aJ,aN];show(i:Int)<(ga c:Int);omega)) (aq (iZ (by decide) (by decide) (by decide)) (aq (eu (by omega)) (aq (eu (by omega)) ⟨_,rfl,?_,?_,λq b m9 p=>?_⟩)));.have e:ah .i64 (i:Int) 1=((i+1:Nat):Int):=bH (by omega);rw[<-e]
  .show(aG a _ _).length=_;rw[jt,l]
  .
   have p:(a.set i (List.replicate 32 0))[q]?=some b:=p;by_cases w9:q=i;.subst w9;rw[be (by omega)]at p;cases p;rfl
   .rw[bz (by omega)]at p;exact v q b (by omega) p
 .rintro⟨a,d,u⟩⟨g,l,v⟩;have g:d=((ga c:Nat):Int):=g;subst g;refine av (cE (by rw[g0,aJ,aN];exact bW _)) ⟨_,rfl,l,λb p=>?_⟩;obtain⟨j,t⟩:=bj p;have y9:a[j]?=some b:=t;have n9:=(aj.1 y9).1;have l:a.length=ga c:=l;exact v j b (by omega) t
 obtain⟨u9,f0⟩:=a0;refine aK (P:=λs=>s.2.1.length<=4/\Cn c s.1 (dZ c).length 0) (bq (I:=λi s=>s.2.2.1=(i:Int)/\s.2.1.length=i/\Cn c s.1 i 0) (m:=(dZ c).length) ⟨rfl,rfl,⟨u9,f0,λk9 f h=>by omega,λf _ q h=>by omega⟩⟩ (by omega) ?_ ?_) λi9 b0=>ab b0
 .
  rintro i⟨y,C,d,u⟩z0⟨g,l,v⟩;have g:d=(i:Int):=g;subst g;have l:C.length=i:=l;have v:Cn c y i 0:=v;refine bg (cD z0) (aK (P:=λs=>s.2.1.length=i+1/\Cn c s.1 (i+1) 0) (aZ (cL z0) λf z=>?_) λb p=>⟨_,rfl,?_,p.1,p.2⟩)
  .
   have z:(dZ c)[i]?=some f:=z;have k:=Bc o (Y z);have o9:=rx o z;have u0:oI .i64 (ak f.2.1) 32=(iG f:Int):=by rw[aJ];have e:oI .i64 ((List.length f.2.1:Nat):Int) 32=Hm.fT .i64 ((List.length f.2.1/32:Nat):Int):=rfl;have r9:=k.s;have q9:=k.wj;have i0:Hm.fT .i64 ((List.length f.2.1/32:Nat):Int)=_:=kZ (n:=((iG f:Nat):Int)) (by omega) (by omega);exact e.trans i0
   refine aa (oW o z0) (aa (x:=((0,false,()),())) rfl (aq (by rw[<-k.p];exact iZ (by omega) (by have:=k.wj;omega) (by decide)) ?_));have v9:eh f.1 false=lK (nC f) 0:=by show List.replicate (Int.toNat f.1) false=_;unfold lK nC;rw[ov,hT,iR]
   refine aK (P:=λs=>Cn c s.1 i (iG f)/\s.2.1.2.1=(iG f:Int)/\s.2.1.2.2.2.2.2.2.2.2.1=lK (nC f) (iG f)) (bq (I:=λj s=>s.2.2.1=(j:Int)/\Cn c s.1 i j/\s.2.1.2.1=(iG f:Int)/\s.2.1.2.2.2.2.2.2.2.2.1=lK (nC f) j) (m:=iG f) ⟨rfl,v,u0,v9⟩ (by have:=k.s;have:=k.wj;omega) ?_ ?_) λt9 d0=>?_
   .
    rintro j⟨y,⟨q0,y0,o0,n0,m0,l0,k0,j0,x0,p0⟩,d,u⟩t⟨B,m,w,x⟩;have B:d=(j:Int):=B;subst B;have x:x0=lK (nC f) j:=x;subst x;have w:y0=(iG f:Int):=w;have m:Cn c y i j:=m;have x9:=Jk o z t;have v0:j<nC f:=aP t k.s;have h0:j<(lK (nC f) j).length:=by rw[nh (Nat.le_of_lt v0)];exact v0
    have z9:=A4 (a:=cp c i) (j:=j) (by omega);have A:cp c i+1+j<y.length:=by rw[m.len];exact x9
    refine bg (eJ (by rw[u0];show(j:Int)<_;omega)) (aq (eu h0) (aZ (cL h0) λ_ _=>aa (oW o z0) ?_));simp only[z9];refine aq (eu A) (aq (eu A) (aq (LC k t) (aZ (cL A) λs0 e0=>⟨_,rfl,?_,?_,w,Bv v0⟩)));.have e:ah .i64 (j:Int) 1=((j+1:Nat):Int):=bH (aM (Nat.le_of_lt t) (aM (I5 k) (by decide)));rw[<-e]
    .have t0:s0.length=32:=m.all s0 (Y e0);have e:=LD k t t0;show Cn c (aG y _ (dR s0 _)) i (j+1);rw[e,n5 rfl];exact Qj o m z t
   .rintro⟨y,⟨q0,y0,o0,n0,m0,l0,k0,j0,x0,p0⟩,d,u⟩⟨B,m,w,x⟩;have B:d=((iG f:Nat):Int):=B;subst B;exact av (cE (by rw[u0];exact bW _)) ⟨_,rfl,m,w,x⟩
   .
    obtain⟨w0,⟨q0,y0,o0,n0,m0,l0,k0,j0,x0,p0⟩,j9⟩:=t9;obtain⟨m,w,x⟩:=d0;have m:Cn c w0 i (iG f):=m;have w:y0=(iG f:Int):=w;have x:x0=lK (nC f) (iG f):=x;subst w;subst x;have A:cp c i<w0.length:=by have s9:w0.length=ga c:=m.len;have i0:=Ej c;omega
    refine aa (Iy k.s k.wj) (aa (Ly (by have:=k.s;have:=k.wj;omega)) (aa (oW o z0) (aq (eu A) (aq (eu A) (aZ (cL A) λr0 c0=>aq (cj (by show C.length+1<=_;omega) (by decide)) ⟨_,rfl,?_,?_⟩)))));.show(C++[_]).length=i+1;rw[ax,l];rfl
    .show Cn c (aG w0 _ (dR r0 (oL (iG f)))) (i+1) 0;have t0:r0.length=32:=m.all r0 (Y c0);rw[tI t0 (md mQ.symm),dp (md mQ),n5 rfl];exact Qk o m z
  .have e:ah .i64 (i:Int) 1=((i+1:Nat):Int):=bH (by omega);rw[<-e]
 .rintro⟨y,C,d,u⟩⟨g,l,v⟩;have g:d=(((dZ c).length:Nat):Int):=g;subst g;have l:C.length=(dZ c).length:=l;exact av cU ⟨_,rfl,by show C.length<=4;omega,v⟩
theorem Ry(b:List Int)(h:b.length=32):Ik (b,())=some (true,()):=by unfold Ik;show some (decide ((b.length:Int)=32),())=_;rw[ar (by omega)]
theorem Iv(n:Int)(e:List (List Int))(h1:1<=n)(h2:n<=16)(j:1<=e.length)(k:e.length<=256)(g:∀b,b∈e->b.length=32):Ok (MN ((n,0,e,[],[],()),())) λr=>r.1=0:=by
 unfold MN;refine av (cE h1) (av (cE h2) (av (cE (show(0:Int)<=0 by decide)) (av (cE (show(0:Int)<=1099511627776 by decide)) (av (cE (by rw[aJ];show(1:Int)<=(e.length:Int);omega)) (av (cE (by rw[aJ];show(e.length:Int)<=256;omega)) ?_)))));refine aK (P:=λ_=>True) (bq (I:=λi s=>s=((i:Int),())) (m:=e.length) rfl (by omega) ?_ ?_) λ_ _=>?_;.rintro i s f rfl;refine bg (cD f) (aZ (cL f) λb h=>aa (Ry b (g b (Y h))) (av rfl ⟨_,rfl,?_⟩));show(ah .i64 (i:Int) 1,())=_;rw[bH (by omega)]
 .rintro s rfl;exact av cU ⟨_,rfl,trivial⟩
 refine aK (P:=λ_=>True) (bq (I:=λi s=>s.2.1=0) (m:=0) rfl (by decide) (λi s f=>by omega) ?_) λ_ _=>?_;.rintro⟨a,d,u⟩c;have c:d=0:=c;subst c;exact av (cE (bW 0)) ⟨_,rfl,trivial⟩
 refine aK (P:=λ_=>True) (bq (I:=λi s=>s.1=0) (m:=0) rfl (by decide) (λi s f=>by omega) ?_) λ_ _=>?_;.rintro⟨d,u⟩c;have c:d=0:=c;subst c;exact av (cE (bW 0)) ⟨_,rfl,trivial⟩
 refine av (cE (by show(0:Int)<=n;omega)) ?_;refine aK (P:=λ_=>True) (bq (I:=λi s=>s.2.1=0) (m:=0) rfl (by decide) (λi s f=>by omega) ?_) λ_ _=>ab rfl;.rintro⟨a,d,u⟩c;have c:d=0:=c;subst c;exact av (cE (bW 0)) ⟨_,rfl,trivial⟩
theorem RU(n:Int)(c:List (List Int))(z:c.length<=256)(l:∀b,b∈c->b.length=32):Ok (Iu ((n,0,c,[],[],()),())) λr=>r.1.2.2.1=c:=by
 unfold Iu;refine aK (P:=λs=>s.1.2.2.1=c) (bq (I:=λi s=>s.2.1=(i:Int)/\s.1.2.2.1=c.take i) (m:=c.length) ⟨rfl,rfl⟩ (by omega) ?_ ?_) λA x=>?_;.rintro i⟨⟨p,q,k,t,w,u⟩,d,v⟩j⟨h,f⟩;have h:d=(i:Int):=h;subst h;have f:k=c.take i:=f;subst f;refine bg (cD j) (aZ (cL j) λb o=>aq (cj (by have:=l b (Y o);show 0+b.length<=_;omega) (by decide)) (aq (cj (by rw[aR];simp;omega) (by decide)) ⟨_,rfl,?_,dw o⟩));have e:ah .i64 (i:Int) 1=((i+1:Nat):Int):=bH (by omega);rw[<-e]
 .rintro⟨⟨p,q,k,t,w,u⟩,d,v⟩⟨h,f⟩;have h:d=((c.length:Nat):Int):=h;subst h;have f:k=c.take c.length:=f;rw[bN]at f;exact av cU ⟨_,rfl,f⟩
 refine aK (P:=λs=>s.1.2.2.1=c) (bq (I:=λi s=>s.2.1=0/\s.1.2.2.1=c) (m:=0) ⟨rfl,x⟩ (by decide) (λi s j=>by omega) ?_) λB l=>?_;.rintro⟨a,d,u⟩⟨g,m⟩;have g:d=0:=g;subst g;exact av (cE (bW 0)) ⟨_,rfl,m⟩
 refine aK (P:=λs=>s.1.2.2.1=c) (bq (I:=λi s=>s.2.1=0/\s.1.2.2.1=c) (m:=0) ⟨rfl,l⟩ (by decide) (λi s j=>by omega) ?_) λC y=>ab y;.rintro⟨a,d,u⟩⟨g,m⟩;have g:d=0:=g;subst g;exact av (cE (bW 0)) ⟨_,rfl,m⟩
theorem Ub(n:Int)(a:List (List Int))(h1:1<=n)(h2:n<=16)(e:1<=a.length)(c:a.length<=256)(d:∀b,b∈a->b.length=32):Ok (Kv (n,a,())) λr=>r.1.2.2.1=a:=by unfold Kv;refine aZ (Iv n a h1 h2 e c d) λr f=>av ?_ (aZ (RU n a c d) λx g=>ab g);rw[f];rfl
theorem H4(l:List fg)(a:Int):Ok (qr (l,a,())) λr=>r.1=true->d6 l=0/\0<=a/\a<(l.length:Int):=by unfold qr;refine aa (pM l) (aL (λb=>aL (λc=>ab λd=>⟨kM b,nD c,?_⟩) λ_=>ab λh=>by cases h) λ_=>ab λh=>by cases h);have:=kj d;rw[aJ]at this;exact this
theorem Rx(l:List fg)(a n:Int):Ok (Ij (l,a,n,())) λr=>r.1=0->d6 l=0/\qr (l,a,())=some (true,()):=by unfold Ij;refine aa (pM l) (aL (λh=>ab λe=>absurd e (iX h)) λh=>?_);refine pq (H4 l a) λf d _=>aL (λ_=>ab λh=>by cases h) λc=>aa (xe _) (aL (λ_=>ab λh=>by cases h) λ_=>ab λ_=>⟨fq h,?_⟩);obtain⟨b,u⟩:=f;have c:b=true:=lB c;subst c;exact d
theorem B2(l:List fg)(a:Int):Ok (ve (l,a,())) λr=>(r.1.length<=8/\∀p,p∈r.1->0<=p/\p<(l.length:Int))/\(qr (l,a,())=some (true,())->∃q:List Int,r.1=q++[0]/\∀x,x∈q->0<x):=by
 unfold ve;refine pq (H4 l a) λe0 t i=>aL (λf=>ab ⟨⟨a5 _,λp n=>by cases n⟩,λe=>by rw[e]at t;cases t;cases f⟩) λp0=>?_;obtain⟨q0,f0,s0⟩:=i (lB p0);obtain⟨i0,h0,y0,g0⟩:=tP q0;refine aK (P:=λs:List Int×Unit=>(s.1.length<=8/\∀p,p∈s.1->0<=p/\p<(l.length:Int))/\∃q:List Int,s.1=q++[0]/\∀x,x∈q->0<x) (pp (I:=λk(s:List Int×Int×Unit)=>((∀x,x∈s.1->s.2.1<x)/\(s.2.1= -1->∃q:List Int,s.1=q++[0]/\∀x,x∈q->0<x))/\ -1<=s.2.1/\s.2.1<(l.length:Int)/\s.2.1+1<=(k:Int)/\s.1.length+k<=8/\∀p,p∈s.1->0<=p/\p<(l.length:Int)) (k:=a.toNat+1) ⟨⟨λx h=>(by cases h),λe=>by have e:a= -1:=e;omega⟩,by show-1<=a;omega,s0,by show a+1<=((a.toNat+1:Nat):Int);omega,by show 0+(a.toNat+1)<=8;omega,λp n=>by cases n⟩ (by omega) ?_) λd0 v=>ab ⟨v.1,λ_=>v.2⟩;rintro k⟨p,(b:Int),u⟩⟨⟨m,o⟩,w,j,A,B,C⟩;have w: -1<=b:=w;have j:b<(l.length:Int):=j;have A:b+1<=(k:Int):=A;have B:p.length+k<=8:=B;have m:∀x:Int,x∈p->b<x:=m;have o:b= -1->∃q:List Int,p=q++[0]/\∀x,x∈q->0<x:=o;refine aL (λf=>?_) λf=>⟨_,rfl,⟨by show p.length<=8;omega,C⟩,o (by have:b<0:=qa f;omega)⟩;have f:0<=b:=nD f;refine aq (cj (by show p.length+1<=_;omega) (by decide)) (aZ (oC f (by rw[aJ];exact j)) λx h=>?_);have h:l[b.toNat]?=some x:=h
 have o0:∀y:Int,x.1=y->(-1<=y/\y<b)/\(y= -1->b=0):=by
  intro y n0;have c:=(uw (p:=qR) (l:=l) (k:=0)).1 y0 b.toNat x h;rw[bi]at c;unfold qR at c;rw[n0]at c;by_cases i:b.toNat=0;.rw[i]at c;have c:aY y (-1)=true:=c;have:=kM c;omega
  .rw[show Nat.beq b.toNat 0=false from Ls.jD i]at c;have c:aO 0 ((b.toNat:Int)-1) y=true:=c;have:=dt c;omega
 obtain⟨⟨m0,D⟩,l0⟩:=o0 _ rfl;have t0:∀y:Int,-1<=y->y<b->0<k/\ -1<=y/\y<(l.length:Int)/\y+1<=((k-1:Nat):Int):=λy k0 j0=>by omega
 obtain⟨x0,w0,v0,u0⟩:=t0 _ m0 D;have z0: @LT.lt Int _ x.1 b:=D;refine⟨_,rfl,x0,⟨λz d=>?_,λe=>?_⟩,w0,v0,u0,?_,λq g=>?_⟩
 .
  have d:z∈p++[b]:=d;show @LT.lt Int _ x.1 z;rcases bR.1 d with d|d;.exact vk z0 (m z d)
  .rcases cq.1 d with rfl;exact z0
 .have r0:b=0:=l0 e;refine⟨p,?_,λz d=>by have:=m z d;omega⟩;show p++[b]=_;rw[r0]
 .show(p++[b]).length+(k-1)<=8;rw[ax,eE];omega
 .
  have g:q∈p++[b]:=g;rcases bR.1 g with g|g;.exact C q g
  .
   have:q=b:=by simpa using g
   rw[this];exact⟨f,j⟩
theorem Rv(l:List fg)(a n:Int)(n0:l.length<=8):Ok (D1 (l,a,n,())) λr=>r.1.length=l.length/\(qr (l,a,())=some (true,())->∀a0,l[0]?=some a0->r.1[0]?=some (a0.1,ah .i64 a0.2.1 n,a0.2.2)):=by
 unfold D1;refine aq (cj (by show 0+l.length<=_;omega) (by decide)) (aZ (B2 l a) λv0 s0=>?_);obtain⟨⟨p,u⟩,rfl⟩:∃y,y=v0:=⟨v0,rfl⟩;obtain⟨⟨w0,r0⟩,A⟩:=s0;have A:qr (l,a,())=some (true,())->∃q:List Int,p=q++[0]/\∀x,x∈q->0<x:=A;have w0:p.length<=8:=w0
 have u0:∀(q:List Int),p=q++[0]->(∀x,x∈q->0<x)->∀(i:Nat)(x:Int),p[i]?=some x->(i<q.length->0<x)/\(i=q.length->x=0)/\i<=q.length:=by
  intro q b c i x f;subst b;have y0:=(aj.1 f).1;rw[ax]at y0;refine⟨λh=>?_,λh=>?_,by simp only[eE]at y0;omega⟩;.rw[bL h]at f;exact c x (Y f)
  .rw[bA (by omega),h,dW]at f;exact(ej f).symm
 refine aK (P:=λs:List fg×Unit=>s.1.length=l.length/\∀q:List Int,p=q++[0]->(∀x,x∈q->0<x)->∀a0,l[0]?=some a0->s.1[0]?=some (a0.1,ah .i64 a0.2.1 n,a0.2.2)) (bq (I:=λi(s:List fg×Int×Unit)=>s.2.1=(i:Int)/\s.1.length=l.length/\∀q:List Int,p=q++[0]->(∀x,x∈q->0<x)->∀a0,l[0]?=some a0->(i<=q.length->s.1[0]?=some a0)/\(q.length<i->s.1[0]?=some (a0.1,ah .i64 a0.2.1 n,a0.2.2))) (m:=p.length) ⟨rfl,rfl,λq _ _ a0 h=>⟨λ_=>h,λh=>by omega⟩⟩ (by omega) ?_ ?_) λk0 D=>ab ⟨D.1,λe a0 h=>?_⟩
 .
  rintro i⟨m,d,v⟩z0⟨g,j,B⟩;have g:d=(i:Int):=g;subst g;have j:m.length=l.length:=j;refine bg (cD z0) (aZ (cL z0) λ(x:Int)f=>?_);obtain⟨t,t0⟩:=r0 x (Y f);have w:x<ak m:=by rw[aJ,j];exact t0
  refine aq (qA t w) (aZ (oC t w) λq0 k=>aq (qA t w) (aZ (oC t w) λl0 C=>⟨_,rfl,?_,by show(aG m _ _).length=_;rw[jt,j],λq b c a0 z=>?_⟩));have e:ah .i64 (i:Int) 1=((i+1:Nat):Int):=bH (by omega);.rw[<-e]
  .
   rw[k]at C;cases C;obtain⟨p0,o0,j0⟩:=u0 q b c i x f;obtain⟨o,m0⟩:=B q b c a0 z;have o:i<=q.length->m[0]?=some a0:=o;show(i+1<=q.length->(aG m x _)[0]?=some a0)/\(q.length<i+1->(aG m x _)[0]?=_);refine⟨λh=>?_,λh=>?_⟩;.have x0:=p0 (by omega);unfold aG;rw[bz (by omega)];exact o (by omega)
   .have x0:=o0 (by omega);subst x0;have k:m[0]?=some q0:=k;rw[o (by omega)]at k;cases k;unfold aG;rw[Int.toNat_zero,be (by have:=(aj.1 (o (by omega))).1;exact this)]
 .rintro⟨m,d,v⟩⟨g,j,B⟩;have g:d=((p.length:Nat):Int):=g;subst g;exact av cU ⟨_,rfl,j,λq b c a0 z=>(B q b c a0 z).2 (by rw[b,ax];exact a7 _)⟩
 .obtain⟨q,b,c⟩:=A e;exact D.2 q b c a0 h
theorem It(l:List fg)(a n:Int):Ok (yX (l,a,n,())) λr=>r.2.2.1=0->r.1.length=l.length/\∀a0,l[0]?=some a0->r.1[0]?=some (a0.1,ah .i64 a0.2.1 n,a0.2.2):=by
 unfold yX;refine aZ (Rx l a n) λA k=>aL (λh=>ab λv=>absurd v (iX h)) λh=>?_;obtain⟨t,q⟩:=k (fq h);have o:=(tP t).1;refine aZ (B2 l a) λg m=>?_;obtain⟨⟨p,u⟩,rfl⟩:∃y,y=g:=⟨g,rfl⟩;obtain⟨⟨f,z⟩,_⟩:=m;have f:p.length<=8:=f;refine aK (P:=λ_=>True) (bq (I:=λi s=>s=((i:Int),())) (m:=p.length) rfl (by omega) ?_ ?_) λ_ _=>aZ (Rv l a n o) λD d=>ab λ_=>⟨d.1,d.2 q⟩
 .
  rintro i s e rfl;refine bg (cD e) (aZ (cL e) λ(x:Int)w=>?_);obtain⟨b,j⟩:=z x (Y w);have c:x<ak l:=by rw[aJ];exact j
  refine aZ (oC b c) λB _=>aZ (oC b c) λC _=>aL (λ_=>bo (bo (ab λh=>by cases h))) λ_=>⟨_,rfl,?_⟩;show(ah .i64 (i:Int) 1,())=_;rw[bH (by omega)]
 .rintro s rfl;exact av cU ⟨_,rfl,trivial⟩
end Go.Bo
set_option maxHeartbeats 4000000
namespace Go.Ls
open Go Go.Hm
section
variable{α β σ:Type}{Q:α->Prop}
theorem cA{o:Option α}{y:α}(h:Ok o λr=>r=y):o=some y:=by obtain⟨x,h,rfl⟩:=h;exact h
theorem cw{f:σ->Option (Sum σ (Sum β α))}(st:Nat->σ)(m:Nat){d:Nat}{x:σ}{b:β}{K:β->Option α}(e:x=st 0)(k:m<d)(a:∀i,i<m->Ok (f (st i)) λr=>r= .inl (st (i+1)))(h:Ok (f (st m)) λr=>r= .inr (.inl b))(g:Ok (K b) Q):Ok (aE (aF f d x) K) Q:=by
 refine aK (P:=λs=>s=b) (bq (I:=λi s=>s=st i) (m:=m) e k ?_ ?_) (λs a=>by subst a;exact g);.rintro i s j rfl;exact(a i j).mono λy c=>by subst c;rfl
 .rintro s rfl;exact h.mono λy c=>by subst c;rfl
theorem bC{o:Option α}{y:α}(h:Ok o λr=>r=y):Ok (ao (α:=β) o) λr=>r= .inr y:=by rw[cA h];exact⟨_,rfl,rfl⟩
end
end Go.Ls
namespace Go.Bo
open Go Go.Ls
theorem T6:XA=FL:=rfl
theorem T5:Xz=FK:=rfl
theorem T2:Xy=FJ:=rfl
theorem T3{n:Int}(a:0<=n)(h1:n<=64):T4 (n,())=BM (n,()):=by
 have e:BM (n,())=some (eh n (0,0,()),0,()):=by unfold BM;exact cA (av (cE a) (av (cE h1) (aq (iZ a (by omega) (by decide)) (ab rfl))))
 rw[e];refine cA ?_;unfold T4;refine av (cE a) (av (cE h1) (cw (λi=>(List.replicate i (0,0,()),(i:Int),())) n.toNat rfl (by omega) (λi b=>?_) (av (cE (by show n<=((n.toNat:Nat):Int);omega)) (bC (ab rfl))) (ab rfl)));refine bg (eJ (by show(i:Int)<n;omega)) (aq (cj (by rw[aN];show i+1<=_;omega) (by decide)) (ab ?_));show Sum.inl (List.replicate i _++[_],ah .i64 (i:Int) 1,())=_;rw[<-jf,bH (by omega)]
abbrev BL:=List (List Int)
abbrev Vx:=D k5
def UR:D xl:=(0,(0::0::0::0::0::0::0::0::[],0::0::[],(),()),())
def Tg(c:D ce)(f:oF)(i:Nat):Vx:=(f.1,(iG f:Int),(cp c i:Int),-1,-1,false,(0,false,()),UR,lK (nC f) (iG f),())
def ne(c:D ce):Nat->List Vx|0=>[]|i+1=>ne c i++match(dZ c)[i]? with|some f=>[Tg c f i]|none=>[]
def ra(c:D ce)(f:oF)(i:Nat)(b:BL):Nat->BL|0=>b|j+1=>(ra c f i b j).set (cp c i+1+j) (xC f j)
def mT(c:D ce):Nat->BL|0=>List.replicate (ga c) (List.replicate 32 0)|i+1=>match(dZ c)[i]? with|some f=>(ra c f i (mT c i) (iG f)).set (cp c i) (oL (iG f))|none=>[]
theorem wK{c:D ce}{f:oF}{i:Nat}(h:(dZ c)[i]?=some f):ne c (i+1)=ne c i++[Tg c f i]:=by show ne c i++_=_;rw[h]
theorem zG{c:D ce}{f:oF}{i:Nat}(h:(dZ c)[i]?=some f):mT c (i+1)=(ra c f i (mT c i) (iG f)).set (cp c i) (oL (iG f)):=by show(match(dZ c)[i]? with|some f=>_|none=>_)=_;rw[h]
def Gb(c:D ce)(b:BL):Prop:=b.length=ga c/\∀x,x∈b->x.length=32
theorem Lt{c:D ce}{b:BL}{i:Nat}{x:List Int}(h:Gb c b)(d:x.length=32):Gb c (b.set i x):=by
 refine⟨by rw[bx];exact h.1,λy a=>?_⟩;rcases cO a with a|rfl;.exact h.2 y a
 .exact d
theorem um{c:D ce}{f:oF}{i:Nat}{b:BL}(a:Ks c f)(h:Gb c b):∀j,j<=iG f->Gb c (ra c f i b j)
 |0,_=>h
 |j+1,d=>Lt (um a h j (by omega)) (by unfold xC;rw[aR,cB];have:=a.m;omega)
theorem wG{c:D ce}(a:dh c=true):∀i,i<=(dZ c).length->Gb c (mT c i)
 |0,_=>⟨aN,λx d=>by rw[eA d];rfl⟩
 |i+1,e=>by have b:(dZ c)[i]?=some (dZ c)[i]:=G (by omega);rw[zG b];exact Lt (um (Bc a (Y b)) (wG a i (by omega)) _ (au _)) mQ
theorem xR{c:D ce}:∀i,i<=(dZ c).length->(ne c i).length=i
 |0,_=>rfl
 |i+1,b=>by have a:(dZ c)[i]?=some (dZ c)[i]:=G (by omega);rw[wK a,ax,xR i (by omega)];rfl
theorem Hz{β:Type}{Q:β->Prop}{n:Nat}(f:n<=1000){K:BL×Unit->Option β}(c:Ok (K (List.replicate n (List.replicate 32 0),())) Q):Ok (aE (aF (λd2:BL×Int×Unit=>ad (ay d2.2.1 (ak (eh (α:=List Int) (n:Int) []))) (aC (gw 32 32 1) (aC (aU d2.1 d2.2.1) (aC (aU d2.1 d2.2.1) (some (.inl (aG d2.1 d2.2.1 (eh 32 0),ah .i64 d2.2.1 1,())))))) (ao (some (.inl (d2.1,()))))) 1000000000 (eh (α:=List Int) (n:Int) [],0,())) K) Q:=by
 have d:eh (n:Int) ([]:List Int)=List.replicate n []:=rfl;have b:ak (eh (n:Int) ([]:List Int))=(n:Int):=by rw[d,aJ,aN]
 refine cw (λi=>(List.replicate i (List.replicate 32 0)++List.replicate (n-i) [],(i:Int),())) n rfl (by omega) (λi e=>?_) (av (cE (by rw[b];exact bW _)) (bC (ab ?_))) c;.have a:aU (List.replicate i (List.replicate 32 (0:Int))++List.replicate (n-i) []) (i:Int)=true:=eu (by simp;omega);refine bg (eJ (by rw[b];show(i:Int)<n;omega)) (aq (by decide) (aq a (aq a (ab ?_))));show Sum.inl (aG _ _ (List.replicate 32 0),ah .i64 (i:Int) 1,())=_;rw[n5 rfl,bH (by omega)];congr 2;obtain⟨m,rfl⟩:∃m,n=i+1+m:=⟨n-(i+1),by omega⟩;generalize List.replicate 32 (0:Int)=z;rw[show i+1+m-i=m+1 by omega,show i+1+m-(i+1)=m by omega,gH (n:=m) (a:=([]:List Int)),nl _ _ (by simp),aN,dW,lX,jf,cn];rfl
 .show Sum.inl (List.replicate n (List.replicate 32 0)++List.replicate (n-n) [],())=_;rw[dW,ov,bf]
theorem LN{c:D ce}(a:dh c=true){i:Nat}(hi:i<(dZ c).length):cp c i<ga c:=by have b:(dZ c)[i]?=some (dZ c)[i]:=G hi;have:=rx a b;have:=Ej c;omega
theorem OT{c:D ce}{f:oF}(a:Ks c f):oI .i64 (ak f.2.1) 32=(iG f:Int):=by rw[aJ];have b:=a.s;have d:=a.wj;exact kZ (n:=((iG f:Nat):Int)) (by omega) (by omega)
theorem Qr(f:oF):eh f.1 false=lK (nC f) 0:=by show List.replicate (Int.toNat f.1) false=_;unfold lK nC;rw[ov,hT,iR]
theorem FI(c:D ce)(a:dh c=true):Kw (c,())=some (ne c (dZ c).length,mT c (dZ c).length,()):=by
 have y:=xO a;have B:=Ei a;refine cA ?_;unfold Kw;refine aa (wZ a) (aa (lF a) (aq (iZ (n:=(ga c:Int)) (by omega) (by omega) (by decide)) (Hz (show ga c<=1000 by omega) (cw (λi=>(mT c i,ne c i,(i:Int),())) (dZ c).length rfl (by omega) (λi h=>?_) (av cU (bC (ab rfl))) (ab rfl)))));have g:(dZ c)[i]?=some (dZ c)[i]:=G h;generalize(dZ c)[i]=f at g;have b:=Bc a (Y g);have n:=wG a i (by omega);have A:=b.s;have m:=b.wj;have w:=OT b;refine bg (cD h) (aK (P:=λs=>s=((ra c f i (mT c i) (iG f)).set (cp c i) (oL (iG f)),ne c i++[Tg c f i],())) (aa (aI (l:=dZ c) g) (aa (oW a h) (aa (x:=((0,false,()),())) rfl (aq (by rw[<-b.p];exact iZ (by omega) (by omega) (by decide)) ?_)))) λs v=>by subst v;refine ab ?_;show Sum.inl (_,_,ah .i64 (i:Int) 1,())=_;rw[zG g,wK g,bH (by omega)]);rw[w];refine cw (λj=>(ra c f i (mT c i) j,(f.1,(iG f:Int),(cp c i:Int),-1,-1,false,(0,false,()),UR,lK (nC f) j,()),(j:Int),())) (iG f) ?_ (by omega) (λj l=>?_) (av (cE (by show(iG f:Int)<=_;exact bW _)) (bC (ab rfl))) ?_;.rw[<-Qr];rfl
 .
  have u:=Jk a g l;have k:=um (i:=i) b n j (by omega);have o:j<(lK (nC f) j).length:=by rw[nh (by omega)];omega
  have t:=A4 (a:=cp c i) (j:=j) (by omega);have d:cp c i+1+j<(ra c f i (mT c i) j).length:=by rw[k.1];exact u
  refine bg (eJ (by show(j:Int)<_;omega)) (aq (eu o) (aZ (cL o) λ_ _=>aa (oW a h) ?_));simp only[t];refine aq (eu d) (aq (eu d) (aq (LC b l) (aZ (cL d) λp r=>ab ?_)));have e:=LD b l (k.2 p (Y r));show Sum.inl (aG _ _ (dR p (eS f.2.1 _ _)),_,ah .i64 (j:Int) 1,())=_;rw[e,n5 rfl,bH (by omega)];show Sum.inl (_,(f.1,_,_,_,_,_,_,_,aG (lK (nC f) j) (j:Int) true,()),_)=_;rw[Bv (by omega)];rfl
 .
  have k:=um (i:=i) b n (iG f) (au _);have d:cp c i<(ra c f i (mT c i) (iG f)).length:=by rw[k.1];exact LN a h
  have z:=xR (c:=c) i (by omega);refine aa (Iy b.s b.wj) (aa (Ly (by omega)) (aa (oW a h) (aq (eu d) (aq (eu d) (aZ (cL d) λq m=>aq (cj (by show(ne c i).length+1<=_;omega) (by decide)) (aV ?_))))));have x:=k.2 q (Y m);show(aG _ _ (dR q (oL (iG f))),ne c i++[_],())=_;rw[tI x (md mQ.symm),dp (md mQ),n5 rfl];rfl
theorem RN{p s:Nat}(a:s<=p)(hp:p<=16):MK (lK p s,())=some (((2^s-1:Nat):Int),(0:Int),()):=by
 refine cA ?_;unfold MK;have d:=nh a;refine av (cE (by rw[aJ];show((lK p s).length:Int)<=16;omega)) (cw (λi=>(((2^min i s-1:Nat):Int),(i:Int),())) p rfl (by omega) (λi c=>?_) (av (cE (by rw[aJ];show((lK p s).length:Int)<=(p:Int);omega)) (bC (ab rfl))) (ab (by show(_,_)=_;rw[iB a])))
 have b:ee .u64 (i:Int)=(i:Int):=by
  have:(List.range 16).all (λi=>decide (ee .u64 (Int.ofNat i)=Int.ofNat i))=true:=by kernel_rfl
  exact br (bQ.1 this i (eC.2 (by omega)))
 refine bg (eJ (by rw[aJ];show(i:Int)<((lK p s).length:Int);omega)) (aa (aI (tM a c)) ?_);by_cases h:i<s
 .
  rw[ar h];refine bg rfl (aq (by rw[b];exact ar (by omega)) (ab ?_));show Sum.inl (ah .i64 _ (fj .i64 1 (ee .u64 (i:Int))),ah .i64 (i:Int) 1,())=_;rw[b,bH (by omega),gG (by omega),gG (by omega)];have:(List.range 16).all (λi=>decide (ah .i64 ((2^i-1:Nat):Int) (fj .i64 1 (i:Int))=((2^(i+1)-1:Nat):Int)))=true:=by kernel_rfl
  rw[br (bQ.1 this i (eC.2 (by omega)))]
 .rw[aQ h];refine av rfl (ab ?_);show Sum.inl (_,ah .i64 (i:Int) 1,())=_;rw[bH (by omega),iB (by omega),iB (by omega)]
theorem ND:(List.range 17).all (λn=>match Ku ((n:Int),((2^n-1:Nat):Int),())with|some (h,e,())=>h==oL n&&e==0|none=>false)=true:=by unfold Ku;simp only[hN];kernel_rfl
theorem P7{n:Nat}(a:n<=16):Ok (Ku ((n:Int),((2^n-1:Nat):Int),())) λr=>r.1=oL n:=by have h:=bQ.1 ND n (eC.2 (by omega));revert h;cases Ku ((n:Int),((2^n-1:Nat):Int),())with
 |none=>exactλh=>by cases h
 |some x=>obtain⟨h,e,⟨⟩⟩:=x;intro q;have q:(h==oL n&&e==0)=true:=q;rw[ae]at q;exact⟨_,rfl,eq_of_beq q.1⟩
theorem Qf{c:D ce}{f:oF}(a:Ks c f){j:Nat}(g:j<iG f){x:List Int}(b:x.length=32):dR x (eS f.2.1 (ea .i64 (j:Int) 32) (ea .i64 (ah .i64 (j:Int) 1) 32))=xC f j:=by
 have d:=a.wj;have k:=a.s;have i:=a.m;rw[bH (by omega),xI (by omega),xI (by omega)];have e:eS f.2.1 ((32*j:Nat):Int) ((32*(j+1):Nat):Int)=xC f j:=by unfold eS xC;rw[cY,cY,show 32*(j+1)-32*j=32 by omega]
 rw[e];have h:(xC f j).length=32:=by unfold xC;rw[aR,cB];omega
 rw[tI b (by omega),dp (by omega)]
theorem T0(c:D ce)(a:dh c=true):T1 (c,Ci c,())=some (ne c (dZ c).length,mT c (dZ c).length,()):=by
 have z:=xO a;have z0:=Ei a;refine cA ?_;unfold T1;refine aa (lF a) (aq (iZ (n:=(ga c:Int)) (by omega) (by omega) (by decide)) (Hz (show ga c<=1000 by omega) (cw (λi=>(mT c i,ne c i,(i:Int),())) (dZ c).length rfl (by omega) (λi h=>?_) (av cU (bC (ab rfl))) (ab rfl))));have g:(dZ c)[i]?=some (dZ c)[i]:=G h;generalize(dZ c)[i]=f at g;have b:=Bc a (Y g);have o:=wG a i (by omega);have C:=b.s;have n:=b.wj;have x:=OT b;refine bg (cD h) (aK (P:=λs=>s=((ra c f i (mT c i) (iG f)).set (cp c i) (oL (iG f)),ne c i++[Tg c f i],())) (aa (aI (l:=dZ c) g) (aq (by rw[<-b.p];exact iZ (by omega) (by omega) (by decide)) ?_)) λs w=>by subst w;refine ab ?_;show Sum.inl (_,_,ah .i64 (i:Int) 1,())=_;rw[zG g,wK g,bH (by omega)]);rw[x];refine cw (λj=>(ra c f i (mT c i) j,lK (nC f) j,(j:Int),())) (iG f) ?_ (by omega) (λj p=>?_) (av (cE (by show(iG f:Int)<=_;exact bW _)) (bC (ab rfl))) ?_;.rw[<-Qr];rfl
 .
  have v:=Jk a g p;have k:=um (i:=i) b o j (by omega);have q:j<(lK (nC f) j).length:=by rw[nh (by omega)];omega
  have u:=A4 (a:=cp c i) (j:=j) (by omega);have d:cp c i+1+j<(ra c f i (mT c i) j).length:=by rw[k.1];exact v
  have t:dx (ea .i64 (j:Int) 32) (ea .i64 (ah .i64 (j:Int) 1) 32) (ak f.2.1)=true:=by have B:=b.m;rw[bH (by omega),xI (by omega),xI (by omega),aJ];unfold dx;rw[ar (by omega),ar (by omega),ar (by omega)];rfl
  refine bg (eJ (by show(j:Int)<_;omega)) (aq (eu q) (aZ (cL q) λ_ _=>aa (oW a h) ?_));simp only[u];refine aq (eu d) (aq (eu d) (aq t (aZ (cL d) λl m=>ab ?_)));have e:=Qf b p (k.2 l (Y m));show Sum.inl (aG _ _ (dR l (eS f.2.1 _ _)),aG (lK (nC f) j) (j:Int) true,ah .i64 (j:Int) 1,())=_;rw[e,n5 rfl,bH (by omega),Bv (by omega)];rfl
 .
  have k:=um (i:=i) b o (iG f) (au _);have d:cp c i<(ra c f i (mT c i) (iG f)).length:=by rw[k.1];exact LN a h
  have A:=xR (c:=c) i (by omega);refine aa (RN b.s b.wj) (aZ (P7 (by omega)) λl m=>aa (oW a h) (aq (eu d) (aq (eu d) (aZ (cL d) λr n=>aa (oW a h) (aa (x:=((0,false,()),())) rfl (aq (cj (by show(ne c i).length+1<=_;omega) (by decide)) (aV ?_)))))));have y:=k.2 r (Y n);show(aG _ _ (dR r l.1),ne c i++[_],())=_;rw[m,tI y (md mQ.symm),dp (md mQ),n5 rfl];rfl
end Go.Bo
set_option maxHeartbeats 4000000
namespace Go.Bo
open Go Go.Ls
theorem RQ(l:List Int)(s:Int)(h:l.all (aO 1 16)=true)(c:l.length<=4)(e:aO 0 64 s=true):Ir (l,s,())=some (Lh l s,0,()):=by
 unfold Ir;show ad (ay 4 (ak l)) _ _=_;rw[dS (b:=ay 4 (ak l)) (cE (by rw[aJ];omega))];rw[et (xs:=l) (st:=λ(b:Int×List Int)i=>(b.2,b.1,(i:Int),())) (g:=λ_ b x=>De b x) (fin:=λb=>(b.2,b.1,())) (b:=((0:Int),([]:List Int)))];rotate_left;.intro b i y a;have d:=K9 h a;refine(ei a).trans ?_;rw[dS (b:=ay y 1) (cE d.1),aI a,cC,dS (b:=ay 16 y) (cE d.2),cC,bH (gc a (aM c (by decide)))];unfold lR De;dsimp only;show aC (a4 b.2 [b.1] 8) (some (Sum.inl (b.2++[b.1],ah .i64 b.1 (ah .i64 1 y),((i+1:Nat):Int),())))=_;cases a4 b.2 [b.1] 8<;>rfl
 .exactλb=>ek
 .rfl
 .omega
 rw[AX l 0 0 [] h (by omega) (by omega) (by simp;omega),hI];exact GY h c e _ rfl
theorem L2(c:D ce)(h:dh c=true):Ua (c,())=some (Ci c,()):=by obtain⟨a,b,d⟩:=mP h;unfold Ua;refine(eP (λo=>aE o _) (GZ c (by rw[<-m4];omega))).trans ?_;rw[hI];show am (Ir (n7 c,c.2.2.2.2.2.2.1,())) _=_;rw[RQ _ _ a b d];rfl
structure CL (c : D ce) : Prop where
  n : c.1.length ≤ 4
  z : c.2.1.length ≤ 6
  a : c.2.2.2.2.2.2.2.2.2.2.2.1.length ≤ 8
  f : (dZ c).length ≤ 4
  d : ∀ f, f ∈ dZ c → f.2.1.length ≤ 512
  p : c.2.2.2.2.2.2.2.2.2.2.2.2.1.length ≤ 8
  q : ∀ p, p ∈ c.2.2.2.2.2.2.2.2.2.2.2.2.1 → p.2.1.length ≤ 1000
theorem wQ{c:D ce}(a:xj c):CL c:=by
 refine⟨?_,?_,(tP a.kl).1,xO a.qx,λf d=>?_,a.np.2,λp e=>by have:=(a.prog p e).1;omega⟩;.have:=a.AC;unfold ij at this;simp only[ae]at this;have:=dt this.1;omega
 .have:=a.Ea;unfold gM at this;simp only[ae]at this;have:=dt this.1;omega
 .have b:=Bc a.qx d;have g:=b.m;have h:=b.s;have i:=b.wj;omega
def Hs(c:D ce)(f:List oF)(p:List (D vW)):D ce:=(c.1,c.2.1,c.2.2.1,c.2.2.2.1,c.2.2.2.2.1,c.2.2.2.2.2.1,c.2.2.2.2.2.2.1,c.2.2.2.2.2.2.2.1,c.2.2.2.2.2.2.2.2.1,c.2.2.2.2.2.2.2.2.2.1,f,c.2.2.2.2.2.2.2.2.2.2.2.1,p,())
theorem T8(c:D ce)(d:xj c):T9 (c,())=some (c,()):=by
 have k:=wQ d;have l:=k.n;have n:=k.z;have h:=k.a;have j:=k.f;have m:=k.p;refine cA ?_;unfold T9;refine aa (x:=(c.1,())) (cA (by unfold RP;exact aq (cj (by show 0+c.1.length<=_;omega) (by decide)) (ab rfl))) (aq (cj (by show 0+c.2.1.length<=_;omega) (by decide)) (aq (cj (by show 0+c.2.2.2.2.2.2.2.2.2.2.2.1.length<=_;omega) (by decide)) ?_));refine cw (λi=>(Hs c ((dZ c).take i) [],(i:Int),())) (dZ c).length rfl (by omega) (λi b=>?_) (av cU (bC (ab rfl))) ?_;.have a:(dZ c)[i]?=some (dZ c)[i]:=G b;generalize(dZ c)[i]=f at a;have e:=k.d f (Y a);refine bg (cD b) (aa (aI (l:=dZ c) a) (aa (x:=(f.2.1,())) (cA (by unfold RO;exact aq (cj (by show 0+f.2.1.length<=_;omega) (by decide)) (ab rfl))) (aq (cj (by show((dZ c).take i).length+1<=_;rw[aR];omega) (by decide)) (ab ?_))));show Sum.inl (Hs c ((dZ c).take i++[f]) [],ah .i64 (i:Int) 1,())=_;rw[dw a,bH (by omega)]
 refine cw (λi=>(Hs c ((dZ c).take (dZ c).length) (c.2.2.2.2.2.2.2.2.2.2.2.2.1.take i),(i:Int),())) c.2.2.2.2.2.2.2.2.2.2.2.2.1.length rfl (by omega) (λi b=>?_) (av cU (bC (ab rfl))) (ab ?_);.have a:c.2.2.2.2.2.2.2.2.2.2.2.2.1[i]?=some c.2.2.2.2.2.2.2.2.2.2.2.2.1[i]:=G b;generalize c.2.2.2.2.2.2.2.2.2.2.2.2.1[i]=p at a;have g:=k.q p (Y a);refine bg (cD b) (aa (aI a) (aa (x:=(p.2.1,())) (cA (by unfold Iq;exact aq (cj (by show 0+p.2.1.length<=_;omega) (by decide)) (ab rfl))) (aq (cj (by show(c.2.2.2.2.2.2.2.2.2.2.2.2.1.take i).length+1<=_;rw[aR];omega) (by decide)) (ab ?_))));show Sum.inl (Hs c _ (c.2.2.2.2.2.2.2.2.2.2.2.2.1.take i++[p]),ah .i64 (i:Int) 1,())=_;rw[dw a,bH (by omega)];rfl
 .show(Hs c ((dZ c).take (dZ c).length) (c.2.2.2.2.2.2.2.2.2.2.2.2.1.take _),())=_;rw[bN,bN];rfl
def ze(n:Int)(b:BL):D mJ:=(n,0,b,[],[],())
theorem L3{n:Int}{b:BL}(h1:1<=n)(h2:n<=16)(e:1<=b.length)(f:b.length<=256)(d:∀x,x∈b->x.length=32):Kv (n,b,())=some (ze n b,0,()):=by
 refine cA ?_;unfold Kv;refine aZ (Iv n b h1 h2 e f d) λr g=>av (by rw[g];rfl) (aa (x:=(ze n b,())) (cA ?_) (ab rfl));unfold Iu;refine cw (λi=>(ze n (b.take i),(i:Int),())) b.length rfl (by omega) (λi a=>?_) (av cU (bC (ab rfl))) ?_;.have c:b[i]?=some b[i]:=G a;generalize b[i]=x at c;refine bg (cD a) (aa (aI c) (aq (cj (by have:=d x (Y c);show 0+x.length<=_;omega) (by decide)) (aq (cj (by show(b.take i).length+1<=_;rw[aR];omega) (by decide)) (ab ?_))));show Sum.inl (ze n (b.take i++[x]),ah .i64 (i:Int) 1,())=_;rw[dw c,bH (by omega)]
 rw[bN];exact cw (λ_=>(ze n b,(0:Int),())) 0 rfl (by decide) (λi a=>by omega) (av (cE (bW 0)) (bC (ab rfl))) (cw (λ_=>(ze n b,(0:Int),())) 0 rfl (by decide) (λi a=>by omega) (av (cE (bW 0)) (bC (ab rfl))) (ab rfl))
theorem Rq{x:List Int}(h:x.length<=100):DY (x,())=some (x,()):=by refine cA ?_;unfold DY;refine cw (λi=>(x.take i,(i:Int),())) x.length rfl (by omega) (λi b=>?_) (av cU (bC (ab rfl))) (ab (by show(x.take x.length,())=_;rw[bN]));have a:x[i]?=some x[i]:=G b;generalize x[i]=y at a;refine bg (cD b) (aa (aI a) (aq (cj (by show(x.take i).length+1<=_;rw[aR];omega) (by decide)) (ab ?_)));show Sum.inl (x.take i++[y],ah .i64 (i:Int) 1,())=_;rw[dw a,bH (by omega)]
theorem TY{n:Int}{b:BL}(h1:1<=n)(h2:n<=16)(e:1<=b.length)(f:b.length<=256)(d:∀x,x∈b->x.length=32):TZ (n,b,())=some (ze n b,0,()):=by
 refine cA ?_;unfold TZ;refine av (cE h1) (av (cE h2) (av (cE (by rw[aJ];show(1:Int)<=(b.length:Int);omega)) (av (cE (by rw[aJ];show(b.length:Int)<=256;omega)) (aa (x:=((0:Int),())) (cA ?_) (av rfl (aa (x:=(ze n b,())) (cA ?_) (ab rfl)))))));.unfold RM;refine cw (λi=>((i:Int),())) b.length rfl (by omega) (λi a=>?_) (av cU (bC (ab rfl))) (ab rfl);have c:b[i]?=some b[i]:=G a;refine bg (cD a) (aa (aI c) (av (by rw[gI,aJ,d _ (Y c)];rfl) (ab ?_)));show Sum.inl (ah .i64 (i:Int) 1,())=_;rw[bH (by omega)]
 unfold RL;refine cw (λi=>(ze n (b.take i),(i:Int),())) b.length rfl (by omega) (λi a=>?_) (av cU (bC (ab rfl))) ?_;.have c:b[i]?=some b[i]:=G a;generalize b[i]=x at c;refine bg (cD a) (aa (aI c) (aa (Rq (by have:=d x (Y c);omega)) (aq (cj (by show(b.take i).length+1<=_;rw[aR];omega) (by decide)) (ab ?_))));show Sum.inl (ze n (b.take i++[x]),ah .i64 (i:Int) 1,())=_;rw[dw c,bH (by omega)]
 rw[bN];exact cw (λ_=>(ze n b,(0:Int),())) 0 rfl (by decide) (λi a=>by omega) (av (cE (bW 0)) (bC (ab rfl))) (cw (λ_=>(ze n b,(0:Int),())) 0 rfl (by decide) (λi a=>by omega) (av (cE (bW 0)) (bC (ab rfl))) (ab rfl))
end Go.Bo
set_option maxHeartbeats 4000000
namespace Go.Ls
open Go Go.Hm
section
variable{α σ τ:Type}
theorem Jx{f:σ->Option (Sum σ α)}{g:τ->Option (Sum τ α)}(a:σ->τ)(h:∀s,g (a s)=(f s).map λ| .inl s=> .inl (a s)| .inr r=> .inr r)(n:Nat)(x:σ):aF g n (a x)=aF f n x:=by rw[hN,hN];induction n generalizing x with
 |zero=>rfl
 |succ n b=>show aE (g (a x)) (i4 g n)=aE (f x) (i4 f n);rw[h];cases f x with
 |none=>rfl
 |some y=>cases y with
 |inl s=>exact b s
 |inr r=>rfl
theorem o5 {β : Type} {f : σ → Option (Sum σ (Sum β α))} (st : Nat → σ) (m : Nat) {c : Nat} {x : σ} {b : β} (d : x = st 0) (h : m < c) (j : ∀ i, i < m → Ok (f (st i)) fun r => r = .inl (st (i + 1)) ) (e : Ok (f (st m)) fun r => r = .inr (.inl b) ) : aF f c x = some (.inl b) := by
 refine cA (bq (I := fun i s => s = st i) (m := m) d h ?_ ?_ |>.mono (fun y a => ?_) (Q := gS (fun s => s = b) fun _ => False ));· rintro i s g rfl;exact (j i g).mono fun y a => by subst a;rfl
 · rintro s rfl;exact e.mono fun y a => by subst a;rfl
 · cases y with
  | inl s => exact eP Sum.inl a
  | inr r => exact a.elim
theorem vD{f g:σ->Option (Sum σ α)}{I:σ->Prop}{x:σ}(b:I x)(h:∀s,I s->f s=g s/\∀a,g s=some (.inl a)->I a)(n:Nat):aF f n x=aF g n x:=by rw[hN,hN];induction n generalizing x with
 |zero=>rfl
 |succ n i=>obtain⟨c,d⟩:=h x b;show aE (f x) (i4 f n)=aE (g x) (i4 g n);rw[c];cases e:g x with
 |none=>rfl
 |some y=>cases y with
 |inl s=>exact i (d s e)
 |inr r=>rfl
end
end Go.Ls
namespace Go.Bo
open Go Go.Ls
theorem H8(x):H9 x=qr x:=by unfold H9 qr;rw[pM,zI]
theorem H7(x):DX x=ve x:=by
 unfold DX ve;rw[H8];congr 1;funext a;congr 1;refine eP (λo=>aE o _) (Jx (λs:List Int×Int×Unit=>(s.2.1,s.1,())) (λs=>?_) 1000000000 ([],x.2.1,()));show ad (cH 0 s.2.1) _ _=Option.map _ (ad (cH 0 s.2.1) _ _);cases cH 0 s.2.1;.rfl
 .
  show aC _ _=Option.map _ (aC _ _);cases a4 s.1 [s.2.1] 8;.rfl
  .show am _ _=Option.map _ (am _ _);cases az x.1 s.2.1<;>rfl
theorem Rp{l:List fg}(d:l.length<=8)(a n:Int):Mu (l,a,n,())=D1 (l,a,n,()):=by
 unfold Mu D1;refine(eP (λo=>aE o _) (o5 (b:=(l,())) (λi=>(l.take i,(i:Int),())) l.length rfl (by omega) (λi b=>?_) (av cU (bC (ab (by show(Sum.inl (l.take l.length,()):Sum (List fg×Unit) _)=_;rw[bN])))))).trans ?_;.have c:l[i]?=some l[i]:=G b;refine bg (cD b) (aa (aI c) (aq (cj (by show(l.take i).length+1<=_;rw[aR];omega) (by decide)) (ab ?_)));show Sum.inl (l.take i++[l[i]],ah .i64 (i:Int) 1,())=_;rw[dw c,bH (by omega)]
 rw[hI,H7];show am (ve (l,a,())) _=aC (a4 [] l 40) (am (ve (l,a,())) _);rw[show a4 [] l 40=true from cj (by show 0+l.length<=_;omega) (by decide),lp];congr 1;funext p;refine eP (λo=>aE o _) (vD (I:=λ_=>True) trivial (λs _=>⟨?_,λ_ _=>trivial⟩) _);show ad (ay s.2.1 (ak p.1)) _ _=ad (ay s.2.1 (ak p.1)) _ _;congr 1
 cases h:az p.1 s.2.1 with
  |none=>rfl
  |some v=>show am (am (some v) _) _=_;rfl
theorem RJ(l:List fg)(a:Int):MJ (l,a,1,())=yX (l,a,1,()):=by
 unfold MJ yX Ij;dsimp only;rw[zI,pM,cC,cC];by_cases c:d6 l=0
 .
  rw[c,H8];show am (qr (l,a,())) _=am (am (qr (l,a,())) _) _
  cases qr (l,a,())with
   |none=>rfl
   |some b=>
   obtain⟨b,u⟩:=b
   cases b with
    |false=>rfl
    |true=>
    show am (xg (1,())) _=am (am (vb (1,())) _) _;rw[R1,xe];show am (DX (l,a,())) _=am (ve (l,a,())) _;rw[H7];obtain⟨⟨p,u⟩,e,⟨z,t⟩,_⟩:=B2 l a;rw[e,cC,cC,Rp (tP c).1];replace t:∀q:Int,q∈p->0<=q/\q<(l.length:Int):=t;replace z:p.length<=8:=z;refine eP (λo=>aE o _) (vD (I:=λs:Int×Unit=>0<=s.1) (bW 0) (λs w=>?_) _);obtain⟨i,v⟩:=s;have w:0<=i:=w;obtain⟨n,rfl⟩:∃n:Nat,i=(n:Int):=⟨i.toNat,by omega⟩;by_cases f:n<p.length
    .
     have g:p[n]?=some p[n]:=G f;generalize p[n]=x at g;obtain⟨z0,y0⟩:=t x (Y g);obtain⟨k,rfl⟩:∃k:Nat,@Eq Int x (k:Int):=⟨Int.toNat x,by omega⟩;have j:l[k]?=some (l[k]'(by omega)):=G (by omega);generalize l[k]'(by omega)=y at j;have d:=bQ.1 (tP c).2.2.2 y (Y j);unfold pU at d;simp only[ae]at d;have C:=dt d.1;have D:=dt d.2.2.2;have B:ay (bb .i64 y.2.2.2.2.1 y.2.1) 1=ay y.2.2.2.2.1 (ah .i64 y.2.1 1):=by rw[fa (by omega) (by omega),cz (by omega) (by omega)];unfold ay;show decide _=decide _;exact decide_eq_decide.2 (by omega)
     constructor;.dsimp only;rw[el (cD f),el (cD f)];simp only[cC,aI g,aI j];rw[B]
     .intro A h;dsimp only at h;rw[el (cD f)]at h;simp only[cC,aI g,aI j]at h;cases c:ay y.2.2.2.2.1 (ah .i64 y.2.1 1)with
      |true=>rw[c]at h;cases h
      |false=>rw[c]at h;have h:Sum.inl (ah .i64 (n:Int) 1,())=Sum.inl A:=ej h;have h:=Sum.inl.inj h;rw[bH (by omega)]at h;rw[<-h];exact Int.natCast_nonneg _
    .
     have m:ay (n:Int) (ak p)=false:=cE (by rw[aJ];omega);constructor;.dsimp only;rw[dS m,dS m]
     .intro A h;dsimp only at h;rw[dS m]at h;cases h
 .
  have r:bF (d6 l) 0=true:=by rw[gI,aQ c];rfl
  rw[el r,el r,cC];show _=ad (bF (d6 l) 0) _ _;rw[el r]
theorem RH{f:Int}(a:0<=f)(h1:f<=256):MG (f,())=vf (f,()):=by unfold MG vf B0;show ad (ay f 0) _ (ad (ay 4294967295 f) _ _)=am (ad (cH 0 f) (some (cH f 4294967295,())) _) _;rw[dS (cE a),dS (cE (by omega)),el (kS a),kS (show f<=4294967295 by omega),cC];rfl
end Go.Bo
