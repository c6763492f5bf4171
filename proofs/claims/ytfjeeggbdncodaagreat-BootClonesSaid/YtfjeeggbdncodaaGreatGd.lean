/-
  Rules, functions and laws for the last text, part d.
-/
import Derived.Test.YtfjeeggbdncodaaGreatGc
import Derived.ProofKit
import Derived.SizedLaws
import Derived.Deep.Slices
import Derived.OpenShut
set_option linter.unusedVariables false
set_option linter.unusedSimpArgs false
set_option linter.constructorNameAsVariable false
set_option linter.unusedSectionVars false
noncomputable section
namespace Go.Bo
open Go Go.Hm Go.Ls Go.Proofs
def b9:List Kd:=[.v iT,.v iT,.v iT,.v iT,.v iT,.v Bb,.v Hw,.v rN,.v lI,.v lI,.v lI,.o iT,.v iT,.v iT,.v iT,.v iT,.v iT]
def LA:List Kd:=[.o iT,.v iT,.v iT,.o eH,.o fu]
def Px:List Kd:=[.v lI,.v Bd,.v iT,.v iT,.v iT,.v iT,.v iT,.v iT,.v iT,.v iT,.o og,.v kf,.o tW]
def Pw:List Kd:=[.v cc,.v iT,.v iT,.o iT,.o kO,.o wy,.v du,.o vU,.v zO,.o rO,.v Bd,.v (.bc lI),.v tX,.v zN,.v Bc,.v ns,.v lI,.o xc,.v Ql,.v Mf]
def dU:Tr (Tr (List Hi)):=hu ef [(23,Tr.e),(264,hs [(0,.box 0 b0::kp [1,2] [.own 6 iT]),(1,.box 0 b0::kp [1,2] [.own 6 iT])]),(290,hs [(0,[.box 0 b0]),(1,.box 0 b0::kp [1,2] [.val 6 iT])]),(265,Tr.e),(221,hs [(0,.box 0 b0::kp [1,2] []),(1,.box 0 b0::kp [1,2] [.val 7 iT])]),(67,hs [(0,[.aL 0,.box 13 b9]),(1,[.aL 0,.box 13 b9,.aL 100,.val 101 iT])]),(259,hs [(0,[.own 3 rO]),(1,[.aL 0,.own 3 rO,.val 4 iT])]),(263,hs [(0,[.aL 2,.box 3 [.o lI]]),(1,.aL 2:: .box 3 [.o lI]::kp [8,9] [.val 10 iT])]),(220,hs [(0,kp [1,2] [.box 3 LA]),(1,kp [1,2] [.box 3 LA,.val 4 iT]),(2,kp [1,2] [.box 3 LA,.aL 4]),(4,kp [1,2,3,4] [.box 5 b7]),(5,kp [1,2,3,4] [.box 5 b7,.val 6 iT]),(8,[.aL 2,.box 3 LA]),(9,kp [1,2] [.box 3 LA,.val 8 iT])]),(282,hs [(0,[.own 3 iT]),(1,[.aL 1,.own 3 iT,.val 4 iT]),(2,[.aL 1,.own 3 iT,.aL 4]),(4,[.aL 1,.own 3 iT,.aL 4]),(5,[.aL 1,.own 3 iT,.aL 4,.val 5 iT]),(6,.aL 1:: .own 3 iT::kp [4,5] []),(8,.aL 1:: .own 3 iT::kp [4,5] []),(9,.aL 1:: .own 3 iT::kp [4,5] [.val 6 iT])])]
def acg:Tr (Tr (List Hi)):=(dU).set 263 (hs [(0,[.aL 2,.box 3 b6]),(1,.aL 2:: .box 3 b6::kp [8,9] [.val 10 iT])])
def JO(x:D (.ah lI iU)):Option (D (.ah lI iU)):=ad (ay 4 (ak x.1)) (some ([],9,())) (aD (aB (α:=D (.ah lI cU)) (λa=>ad (ay a.2.2.1 (ak x.1)) (am (ax x.1 a.2.2.1) λc=>ad (ay c 1) (ao (ao (some ([],2,())))) (am (ax x.1 a.2.2.1) λd=>ad (ay 16 d) (ao (ao (some ([],2,())))) (aA (aO a.1 (a.2.1::[]) 8) (am (ax x.1 a.2.2.1) λe=>some (.inl (aM a.1 (a.2.1::[]),ai .i64 a.2.1 (ai .i64 1 e),ai .i64 a.2.2.1 1,())))))) (ao (some (.inl (a.1,a.2.1,()))))) 1000000000 ([],0,0,())) λb=>ad (ay x.2.1 0) (some ([],2,())) (ad (ay 64 x.2.1) (some ([],2,())) (aA (aO b.1 (b.2.1::ai .i64 b.2.1 x.2.1::[]) 8) (some (aM b.1 (b.2.1::ai .i64 b.2.1 x.2.1::[]),0,())))))
def abO:=kB dU k76 140 Tryz.f140 (hs [(0,[.aL 1,.own 6 iT,.val 7 iT]),(1,kp [0,1] [.own 6 iT,.val 7 iT,.val 8 iT])]) JO
def VW(x:D (.ah cc .un)):Option (D (.ah lI .un)):=aD (aB (α:=D (.ah lI iU)) (λa=>ad (ay a.2.1 (ak x.1.2.2.2.2.2.2.2.2.2.2.1)) (am (ax x.1.2.2.2.2.2.2.2.2.2.2.1 a.2.1) λb=>aA (aO a.1 (b.1::[]) 8) (some (.inl (aM a.1 (b.1::[]),ai .i64 a.2.1 1,())))) (ao (some (.inl (a.1,()))))) 1000000000 ([],0,())) λc=>am (JO (c.1,x.1.2.2.2.2.2.2.1,())) λd=>some (d.1,())
def k56:=kB dU abO 56 Tryz.f56 (hs [(0,[.aL 1,.own 3 iT]),(1,.aL 1:: .own 3 iT::kp [9,10] [.val 11 iT])]) VW
def TE(x:D (.ah lI .un)):Option (D (.ah lI .un)):=aA (aO [] x.1 8) (some (aM [] x.1,()))
def abN:=kB dU k56 141 Tryz.f141 Tr.e TE
def TD(x:D (.ah (.bc (.int .u8)) .un)):Option (D (.ah (.bc (.int .u8)) .un)):=aA (aO [] x.1 1) (some (aM [] x.1,()))
def abM:=kB dU abN 142 Tryz.f142 Tr.e TD
def JN(x:D (.ah Bb .un)):Option (D (.ah Bb .un)):=aA (aO [] x.1 64) (some (aM [] x.1,()))
def abL:=kB dU abM 143 Tryz.f143 Tr.e JN
def VV(x:D (.ah cc .un)):Option (D (.ah cc .un)):=am (TE (x.1.1,())) λg=>aA (aO [] x.1.2.1 32) (aA (aO [] x.1.2.2.2.2.2.2.2.2.2.2.2.1 40) (aD (aB (α:=D (.ah cc iU)) (λa=>ad (ay a.2.1 (ak x.1.2.2.2.2.2.2.2.2.2.2.1)) (am (ax x.1.2.2.2.2.2.2.2.2.2.2.1 a.2.1) λc=>am (TD (c.2.1,())) λe=>aA (aO a.1.2.2.2.2.2.2.2.2.2.2.1 ((c.1,e.1,())::[]) 32) (some (.inl ((a.1.1,a.1.2.1,a.1.2.2.1,a.1.2.2.2.1,a.1.2.2.2.2.1,a.1.2.2.2.2.2.1,a.1.2.2.2.2.2.2.1,a.1.2.2.2.2.2.2.2.1,a.1.2.2.2.2.2.2.2.2.1,a.1.2.2.2.2.2.2.2.2.2.1,aM a.1.2.2.2.2.2.2.2.2.2.2.1 ((c.1,e.1,())::[]),a.1.2.2.2.2.2.2.2.2.2.2.2.1,a.1.2.2.2.2.2.2.2.2.2.2.2.2.1,()),ai .i64 a.2.1 1,())))) (ao (some (.inl (a.1,()))))) 1000000000 ((g.1,aM [] x.1.2.1,x.1.2.2.1,x.1.2.2.2.1,x.1.2.2.2.2.1,x.1.2.2.2.2.2.1,x.1.2.2.2.2.2.2.1,x.1.2.2.2.2.2.2.2.1,x.1.2.2.2.2.2.2.2.2.1,x.1.2.2.2.2.2.2.2.2.2.1,[],aM [] x.1.2.2.2.2.2.2.2.2.2.2.2.1,[],()),0,())) λh=>aD (aB (α:=D (.ah cc iU)) (λb=>ad (ay b.2.1 (ak x.1.2.2.2.2.2.2.2.2.2.2.2.2.1)) (am (ax x.1.2.2.2.2.2.2.2.2.2.2.2.2.1 b.2.1) λd=>am (JN (d.2.1,())) λf=>aA (aO b.1.2.2.2.2.2.2.2.2.2.2.2.2.1 ((d.1,f.1,())::[]) 32) (some (.inl ((b.1.1,b.1.2.1,b.1.2.2.1,b.1.2.2.2.1,b.1.2.2.2.2.1,b.1.2.2.2.2.2.1,b.1.2.2.2.2.2.2.1,b.1.2.2.2.2.2.2.2.1,b.1.2.2.2.2.2.2.2.2.1,b.1.2.2.2.2.2.2.2.2.2.1,b.1.2.2.2.2.2.2.2.2.2.2.1,b.1.2.2.2.2.2.2.2.2.2.2.2.1,aM b.1.2.2.2.2.2.2.2.2.2.2.2.2.1 ((d.1,f.1,())::[]),()),ai .i64 b.2.1 1,())))) (ao (some (.inl (b.1,()))))) 1000000000 (h.1,0,())) λi=>some (i.1,())))
def k57:=kB dU abL 57 Tryz.f57 (hs [(0,kp [1,2] [.box 3 Px]),(1,kp [1,2] (.box 3 Px::kp [26,27] [.val 28 iT])),(4,[.aL 2,.box 3 Px]),(5,.aL 2:: .box 3 Px::kp [45,46] [.val 47 iT])]) VV
def F58(x:D iU):Option (D (.ah kO iU)):=ad (ay x.1 1) (some ((0,[],()),1,())) (ad (ay 16 x.1) (some ((0,[],()),1,())) (some ((x.1,[],()),0,())))
def k58:=kB dU k57 58 Tryz.f58 Tr.e F58
def FB(x:D (.ah lI (.ah iT cU))):Option (D bU):=ad (ay (ak x.1) 1) (some (false,())) (ad (ay 4 (ak x.1)) (some (false,())) (ad (ay x.2.1 1) (some (false,())) (ad (ay x.2.2.1 x.2.1) (some (false,())) (ad (ay 64 x.2.2.1) (some (false,())) (ad (ay x.2.2.2.1 1) (some (false,())) (ad (ay 6 x.2.2.2.1) (some (false,())) (aD (aB (α:=D iU) (λa=>ad (ay a.1 (ak x.1)) (am (ax x.1 a.1) λb=>ad (ay b 0) (ao (ao (some (false,())))) (am (ax x.1 a.1) λc=>ad (cL 4 c) (ao (ao (some (false,())))) (some (.inl (ai .i64 a.1 1,()))))) (ao (some (.inl ())))) 1000000000 (0,())) λd=>some (true,()))))))))
def abK:=kB dU k58 144 Tryz.f144 (hs [(0,[]),(1,[.aL 0,.val 9 iT])]) FB
def JD(x:D (.ah eH .un)):Option (D bU):=ad (ay x.1.1 0) (some (false,())) (ad (cL 4 x.1.1) (some (false,())) (ad (bH x.1.2.1 0) (ad (bH x.1.2.1 1) (some (false,())) (ad (cL 0 x.1.2.2.1) (ad (cL 1 x.1.2.2.2.1) (ad (cL x.1.2.2.2.1 256) (ad (cL x.1.2.2.1 (bo .i64 256 x.1.2.2.2.1)) (ad (cL 0 x.1.2.2.2.2.1) (some (cL x.1.2.2.2.2.1 x.1.2.2.2.1,())) (some (false,()))) (some (false,()))) (some (false,()))) (some (false,()))) (some (false,())))) (ad (cL 0 x.1.2.2.1) (ad (cL 1 x.1.2.2.2.1) (ad (cL x.1.2.2.2.1 256) (ad (cL x.1.2.2.1 (bo .i64 256 x.1.2.2.2.1)) (ad (cL 0 x.1.2.2.2.2.1) (some (cL x.1.2.2.2.2.1 x.1.2.2.2.1,())) (some (false,()))) (some (false,()))) (some (false,()))) (some (false,()))) (some (false,())))))
def aa7:=kB dU abK 211 Tryz.f211 Tr.e JD
def sx(x:D (.ah eH cU)):Option (D bU):=ad (ay x.2.2.1 0) (some (false,())) (ad (ay 4 x.2.2.1) (some (false,())) (ad (ay x.2.1 x.1.2.2.1) (some (false,())) (ad (cL (ai .i64 x.1.2.2.1 x.1.2.2.2.1) x.2.1) (some (false,())) (aA (cV (ek .u64 x.2.2.1)) (aA (bH (fB .i64 1 (ek .u64 x.2.2.1)) 0) (ad (a6 (lM .i64 x.2.1 (fB .i64 1 (ek .u64 x.2.2.1))) 0) (aA (cV (ek .u64 x.2.2.1)) (some (cL (ai .i64 x.2.1 (fB .i64 1 (ek .u64 x.2.2.1))) (ai .i64 x.1.2.2.1 x.1.2.2.2.1),()))) (some (false,()))))))))
def aaH:=kB dU aa7 257 Tryz.f257 Tr.e sx
def ye(x:D (.ah lI cU)):Option (D bU):=aD (aB (α:=D iU) (λa=>aA (cV (ek .u64 x.2.2.1)) (ad (ay a.1 (ai .i64 x.2.1 (fB .i64 1 (ek .u64 x.2.2.1)))) (am (ax x.1 a.1) λb=>ad (a6 b 0) (ao (ao (some (false,())))) (some (.inl (ai .i64 a.1 1,())))) (ao (some (.inl ()))))) 1000000000 (x.2.1,())) λc=>some (true,())
def aaG:=kB dU aaH 258 Tryz.f258 (hs [(0,[]),(1,kp [0,1,2] [.val 7 iT])]) ye
def JA(x:D (.ah eH (.ah lI .un))):Option (D (.ah eH .un)):=aA (gP (ak x.2.1) (ak x.2.1) 8) (aD (aB (α:=D (.ah lI iU)) (λf=>ad (ay f.2.1 (ak x.2.1)) (am (ax x.2.1 f.2.1) λB=>aA (a5 f.1 f.2.1) (am (ax f.1 f.2.1) λj0=>some (.inl (aI f.1 f.2.1 B,ai .i64 f.2.1 1,())))) (ao (some (.inl (f.1,()))))) 1000000000 (er (α:=Int) (ak x.2.1) 0,0,())) λu0=>aD (aD (aB (α:=D (.ah (.ah iT (.ah iT (.ah iT (.ah iT (.ah iT (.ah lI (.ah lI (.ah lI (.ah lI (.ah lI .un)))))))))) (.ah lI iU))) (λd=>ad (ay d.2.2.1 (ai .i64 x.1.2.2.1 x.1.2.2.2.1)) (aD (am (sx (x.1,d.2.2.1,4,())) λn0=>ad n0.1 (am (ye (d.2.1,d.2.2.1,4,())) λm0=>ad m0.1 (aA (aO d.1.2.2.2.2.2.2.2.2.2.1 (d.2.2.1::[]) 8) (aD (aB (α:=D (.ah lI iU)) (λl=>ad (ay l.2.1 (ai .i64 d.2.2.1 16)) (aA (a5 l.1 l.2.1) (am (ax l.1 l.2.1) λf0=>some (.inl (aI l.1 l.2.1 0,ai .i64 l.2.1 1,())))) (ao (some (.inl (l.1,()))))) 1000000000 (d.2.1,d.2.2.1,())) λl0=>some (.inl ((d.1.1,d.1.2.1,d.1.2.2.1,d.1.2.2.2.1,d.1.2.2.2.2.1,d.1.2.2.2.2.2.1,d.1.2.2.2.2.2.2.1,d.1.2.2.2.2.2.2.2.1,d.1.2.2.2.2.2.2.2.2.1,aM d.1.2.2.2.2.2.2.2.2.2.1 (d.2.2.1::[]),()),l0.1,())))) (some (.inl (d.1,d.2.1,())))) (some (.inl (d.1,d.2.1,())))) λm=>some (.inl (m.1,m.2.1,ai .i64 d.2.2.1 1,()))) (ao (some (.inl (d.1,d.2.1,()))))) 1000000000 ((x.1.1,x.1.2.1,x.1.2.2.1,x.1.2.2.2.1,x.1.2.2.2.2.1,[],[],[],[],[],()),u0.1,x.1.2.2.1,())) λn=>some (.inl (n.1,n.2.1,()))) λo=>aD (aD (aB (α:=D (.ah (.ah iT (.ah iT (.ah iT (.ah iT (.ah iT (.ah lI (.ah lI (.ah lI (.ah lI (.ah lI .un)))))))))) (.ah lI iU))) (λa=>ad (ay a.2.2.1 (ai .i64 x.1.2.2.1 x.1.2.2.2.1)) (aD (am (sx (x.1,a.2.2.1,3,())) λC=>ad C.1 (am (ye (a.2.1,a.2.2.1,3,())) λz0=>ad z0.1 (aA (aO a.1.2.2.2.2.2.2.2.2.1 (a.2.2.1::[]) 8) (aD (aB (α:=D (.ah lI iU)) (λh=>ad (ay h.2.1 (ai .i64 a.2.2.1 8)) (aA (a5 h.1 h.2.1) (am (ax h.1 h.2.1) λk0=>some (.inl (aI h.1 h.2.1 0,ai .i64 h.2.1 1,())))) (ao (some (.inl (h.1,()))))) 1000000000 (a.2.1,a.2.2.1,())) λy0=>some (.inl ((a.1.1,a.1.2.1,a.1.2.2.1,a.1.2.2.2.1,a.1.2.2.2.2.1,a.1.2.2.2.2.2.1,a.1.2.2.2.2.2.2.1,a.1.2.2.2.2.2.2.2.1,aM a.1.2.2.2.2.2.2.2.2.1 (a.2.2.1::[]),a.1.2.2.2.2.2.2.2.2.2.1,()),y0.1,())))) (some (.inl (a.1,a.2.1,())))) (some (.inl (a.1,a.2.1,())))) λp=>some (.inl (p.1,p.2.1,ai .i64 a.2.2.1 1,()))) (ao (some (.inl (a.1,a.2.1,()))))) 1000000000 (o.1,o.2.1,x.1.2.2.1,())) λq=>some (.inl (q.1,q.2.1,()))) λr=>aD (aD (aB (α:=D (.ah (.ah iT (.ah iT (.ah iT (.ah iT (.ah iT (.ah lI (.ah lI (.ah lI (.ah lI (.ah lI .un)))))))))) (.ah lI iU))) (λb=>ad (ay b.2.2.1 (ai .i64 x.1.2.2.1 x.1.2.2.2.1)) (aD (am (sx (x.1,b.2.2.1,2,())) λx0=>ad x0.1 (am (ye (b.2.1,b.2.2.1,2,())) λw0=>ad w0.1 (aA (aO b.1.2.2.2.2.2.2.2.1 (b.2.2.1::[]) 8) (aD (aB (α:=D (.ah lI iU)) (λi=>ad (ay i.2.1 (ai .i64 b.2.2.1 4)) (aA (a5 i.1 i.2.1) (am (ax i.1 i.2.1) λi0=>some (.inl (aI i.1 i.2.1 0,ai .i64 i.2.1 1,())))) (ao (some (.inl (i.1,()))))) 1000000000 (b.2.1,b.2.2.1,())) λv0=>some (.inl ((b.1.1,b.1.2.1,b.1.2.2.1,b.1.2.2.2.1,b.1.2.2.2.2.1,b.1.2.2.2.2.2.1,b.1.2.2.2.2.2.2.1,aM b.1.2.2.2.2.2.2.2.1 (b.2.2.1::[]),b.1.2.2.2.2.2.2.2.2.1,b.1.2.2.2.2.2.2.2.2.2.1,()),v0.1,())))) (some (.inl (b.1,b.2.1,())))) (some (.inl (b.1,b.2.1,())))) λs=>some (.inl (s.1,s.2.1,ai .i64 b.2.2.1 1,()))) (ao (some (.inl (b.1,b.2.1,()))))) 1000000000 (r.1,r.2.1,x.1.2.2.1,())) λt=>some (.inl (t.1,t.2.1,()))) λu=>aD (aD (aB (α:=D (.ah (.ah iT (.ah iT (.ah iT (.ah iT (.ah iT (.ah lI (.ah lI (.ah lI (.ah lI (.ah lI .un)))))))))) (.ah lI iU))) (λc=>ad (ay c.2.2.1 (ai .i64 x.1.2.2.1 x.1.2.2.2.1)) (aD (am (sx (x.1,c.2.2.1,1,())) λt0=>ad t0.1 (am (ye (c.2.1,c.2.2.1,1,())) λs0=>ad s0.1 (aA (aO c.1.2.2.2.2.2.2.1 (c.2.2.1::[]) 8) (aD (aB (α:=D (.ah lI iU)) (λj=>ad (ay j.2.1 (ai .i64 c.2.2.1 2)) (aA (a5 j.1 j.2.1) (am (ax j.1 j.2.1) λh0=>some (.inl (aI j.1 j.2.1 0,ai .i64 j.2.1 1,())))) (ao (some (.inl (j.1,()))))) 1000000000 (c.2.1,c.2.2.1,())) λr0=>some (.inl ((c.1.1,c.1.2.1,c.1.2.2.1,c.1.2.2.2.1,c.1.2.2.2.2.1,c.1.2.2.2.2.2.1,aM c.1.2.2.2.2.2.2.1 (c.2.2.1::[]),c.1.2.2.2.2.2.2.2.1,c.1.2.2.2.2.2.2.2.2.1,c.1.2.2.2.2.2.2.2.2.2.1,()),r0.1,())))) (some (.inl (c.1,c.2.1,())))) (some (.inl (c.1,c.2.1,())))) λv=>some (.inl (v.1,v.2.1,ai .i64 c.2.2.1 1,()))) (ao (some (.inl (c.1,c.2.1,()))))) 1000000000 (u.1,u.2.1,x.1.2.2.1,())) λw=>some (.inl (w.1,w.2.1,()))) λy=>aD (aD (aB (α:=D (.ah (.ah iT (.ah iT (.ah iT (.ah iT (.ah iT (.ah lI (.ah lI (.ah lI (.ah lI (.ah lI .un)))))))))) (.ah lI iU))) (λe=>ad (ay e.2.2.1 (ai .i64 x.1.2.2.1 x.1.2.2.2.1)) (aD (am (sx (x.1,e.2.2.1,0,())) λq0=>ad q0.1 (am (ye (e.2.1,e.2.2.1,0,())) λp0=>ad p0.1 (aA (aO e.1.2.2.2.2.2.1 (e.2.2.1::[]) 8) (aD (aB (α:=D (.ah lI iU)) (λk=>ad (ay k.2.1 (ai .i64 e.2.2.1 1)) (aA (a5 k.1 k.2.1) (am (ax k.1 k.2.1) λg0=>some (.inl (aI k.1 k.2.1 0,ai .i64 k.2.1 1,())))) (ao (some (.inl (k.1,()))))) 1000000000 (e.2.1,e.2.2.1,())) λo0=>some (.inl ((e.1.1,e.1.2.1,e.1.2.2.1,e.1.2.2.2.1,e.1.2.2.2.2.1,aM e.1.2.2.2.2.2.1 (e.2.2.1::[]),e.1.2.2.2.2.2.2.1,e.1.2.2.2.2.2.2.2.1,e.1.2.2.2.2.2.2.2.2.1,e.1.2.2.2.2.2.2.2.2.2.1,()),o0.1,())))) (some (.inl (e.1,e.2.1,())))) (some (.inl (e.1,e.2.1,())))) λz=>some (.inl (z.1,z.2.1,ai .i64 e.2.2.1 1,()))) (ao (some (.inl (e.1,e.2.1,()))))) 1000000000 (y.1,y.2.1,x.1.2.2.1,())) λA=>some (.inl (A.1,A.2.1,()))) λg=>some ((g.1.1,g.1.2.1,g.1.2.2.1,g.1.2.2.2.1,g.1.2.2.2.2.1,g.1.2.2.2.2.2.1::g.1.2.2.2.2.2.2.1::g.1.2.2.2.2.2.2.2.1::g.1.2.2.2.2.2.2.2.2.1::g.1.2.2.2.2.2.2.2.2.2.1::[],()),()))
def aa6:=kB dU aaG 212 Tryz.f212 (hs [(0,kp [2,4,5] [.own 6 iT]),(1,kp [1,2,4,5] [.own 6 iT,.val 7 iT]),(6,kp [2,4] [.box 5 b2,.own 6 iT,.aL 8]),(8,kp [2,4] [.box 5 b2,.own 6 iT,.aL 8]),(9,kp [2,4] [.box 5 b2,.own 6 iT,.aL 8,.val 9 iT]),(10,kp [2,4] (.box 5 b2:: .own 6 iT::kp [8,9] [])),(12,kp [2,4,5] (.own 6 iT::kp [8,9] [])),(13,kp [2,4,5] (.own 6 iT::kp [8,9] [.val 10 iT]))]) JA
def Oi(x:D rO):Option (D (.ah eH iU)):=am (JD ((x.1,x.2.1,x.2.2.1,x.2.2.2.1,x.2.2.2.2.1,[]::[]::[]::[]::[]::[],()),())) λb=>ad (bL b.1) (some ((0,0,0,0,0,[]::[]::[]::[]::[]::[],()),2,())) (aA (gP 256 256 8) (aD (aB (α:=D (.ah lI iU)) (λa=>ad (ay a.2.1 (ai .i64 x.2.2.1 x.2.2.2.1)) (aA (a5 a.1 a.2.1) (am (ax a.1 a.2.1) λe=>some (.inl (aI a.1 a.2.1 1,ai .i64 a.2.1 1,())))) (ao (some (.inl (a.1,()))))) 1000000000 (er 256 0,x.2.2.1,())) λc=>am (JA ((x.1,x.2.1,x.2.2.1,x.2.2.2.1,x.2.2.2.2.1,[]::[]::[]::[]::[]::[],()),c.1,())) λd=>some (d.1,0,())))
def abJ:=kB dU aa6 145 Tryz.f145 (hs [(0,kp [10,12] [.own 13 iT]),(1,kp [2,3,10,12] [.own 13 iT,.val 14 iT])]) Oi
def VT(x:D (.ah lI (.ah iT (.ah iT (.ah Bd .un))))):Option (D (.ah du iU)):=am (FB (x.1,x.2.1,x.2.2.1,ak x.2.2.2.1,())) λd=>ad (bL d.1) (some (([],0,0,[],[],()),2,())) (aA (aO [] x.1 8) (aD (aB (α:=D (.ah du (.ah du cU))) (λa=>ad (ay a.2.2.2.1 (ak x.2.2.2.1)) (am (ax x.2.2.2.1 a.2.2.2.1) λf=>am (ax x.2.2.2.1 a.2.2.2.1) λg=>am (ax x.2.2.2.1 a.2.2.2.1) λh=>am (ax x.2.2.2.1 a.2.2.2.1) λi=>am (Oi (f.1,g.2.1,a.2.2.1,h.2.2.1,i.2.2.2.1,())) λc=>ad (bH c.2.1 0) (ao (ao (some (([],0,0,[],[],()),c.2.1,())))) (aA (aO a.2.1.2.2.2.1 (c.1::[]) 160) (am (ax x.2.2.2.1 a.2.2.2.1) λj=>some (.inl (a.1,(a.2.1.1,a.2.1.2.1,a.2.1.2.2.1,aM a.2.1.2.2.2.1 (c.1::[]),a.2.1.2.2.2.2.1,()),ai .i64 a.2.2.1 j.2.2.1,ai .i64 a.2.2.2.1 1,()))))) (ao (some (.inl (a.1,a.2.1,()))))) 1000000000 (([],0,0,[],[],()),(aM [] x.1,x.2.1,x.2.2.1,[],[],()),0,0,())) λk=>aD (aB (α:=D (.ah du iU)) (λb=>ad (ay b.2.1 (ak x.1)) (aA (gP (ak x.2.2.2.1) (ak x.2.2.2.1) 24) (aA (aO b.1.2.2.2.2.1 ((er (ak x.2.2.2.1) [],())::[]) 24) (some (.inl ((b.1.1,b.1.2.1,b.1.2.2.1,b.1.2.2.2.1,aM b.1.2.2.2.2.1 ((er (ak x.2.2.2.1) [],())::[]),()),ai .i64 b.2.1 1,()))))) (ao (some (.inl (b.1,()))))) 1000000000 (k.2.1,0,())) λe=>some (e.1,0,())))
def k59:=kB dU abJ 59 Tryz.f59 (hs [(0,kp [0,3] [.box 8 b0,.box 10 b0]),(1,kp [0,3] [.box 8 b0,.box 10 b0,.val 11 iT,.val 12 iT]),(4,[.aL 8,.box 10 b0]),(5,kp [0,3,8] [.box 10 b0,.val 15 iT])]) VT
def F60(x:D .un):Option (D (.ah vU .un)):=some ((0,0,-1,-1,-1,-1,-1,-1,-1,0,false,false,false,0,[],[],()),())
def k60:=kB dU k59 60 Tryz.f60 Tr.e F60
def Zu(x:D iU):Option (D (.ah zO iU)):=ad (ay x.1 1) (some ((0,[],()),1,())) (ad (ay 32 x.1) (some ((0,[],()),1,())) (some ((x.1,[],()),0,())))
def k61:=kB dU k60 61 Tryz.f61 Tr.e Zu
def Zr(x:D .un):Option (D fu):=aA (gP 4 4 24) (some (er 4 [],()))
def k62:=kB dU k61 62 Tryz.f62 Tr.e Zr
def VP(x:D iU):Option (D (.ah tX iU)):=ad (ay x.1 0) (some ([],2,())) (ad (ay 64 x.1) (some ([],2,())) (aD (aB (α:=D (.ah tX iU)) (λa=>ad (ay a.2.1 x.1) (aA (aO a.1 ((0,0,())::[]) 16) (some (.inl (aM a.1 ((0,0,())::[]),ai .i64 a.2.1 1,())))) (ao (some (.inl (a.1,()))))) 1000000000 ([],0,())) λb=>some (b.1,0,())))
def k63:=kB dU k62 63 Tryz.f63 (hs [(0,[.own 4 cU]),(1,[.aL 0,.own 4 cU,.val 5 iT])]) VP
def Zq(x:D iU):Option (D (.ah zN iU)):=ad (ay x.1 0) (some ((0,[],()),2,())) (ad (ay 32 x.1) (some ((0,[],()),2,())) (some ((x.1,[],()),0,())))
def k64:=kB dU k63 64 Tryz.f64 Tr.e Zq
def Oh(x:D (.ah (.bc .bool) .un)):Option (D cU):=ad (ay 16 (ak x.1)) (some (0,9,())) (aD (aB (α:=D cU) (λa=>ad (ay a.2.1 (ak x.1)) (am (ax x.1 a.2.1) λb=>ad b (aA (cV (ek .u64 a.2.1)) (some (.inl (ai .i64 a.1 (fB .i64 1 (ek .u64 a.2.1)),ai .i64 a.2.1 1,())))) (some (.inl (a.1,ai .i64 a.2.1 1,())))) (ao (some (.inl (a.1,()))))) 1000000000 (0,0,())) λc=>some (c.1,0,()))
def abI:=kB dU k64 146 Tryz.f146 (hs [(0,[.val 4 iT]),(1,[.aL 0,.val 4 iT,.val 5 iT])]) Oh
def Xz(x:D .un):Option (D (.ah kk .un)):=some ((0,false,()),())
def abH:=kB dU abI 147 Tryz.f147 Tr.e Xz
def VL(x:D (.ah cc (.ah lI .un))):Option (D (.ah Bc (.ah (.bc (.bc (.int .u8))) .un))):=am (ax x.2.1 (bo .i64 (ak x.2.1) 1)) λf=>aA (gP f f 24) (aD (aB (α:=D (.ah (.bc (.bc (.int .u8))) iU)) (λd=>ad (ay d.2.1 (ak (er (α:=List Int) f []))) (aA (gP 32 32 1) (aA (a5 d.1 d.2.1) (aA (a5 d.1 d.2.1) (some (.inl (aI d.1 d.2.1 (er 32 0),ai .i64 d.2.1 1,())))))) (ao (some (.inl (d.1,()))))) 1000000000 (er (α:=List Int) f [],0,())) λp=>aD (aB (α:=D (.ah (.bc (.bc (.int .u8))) (.ah Bc iU))) (λb=>ad (ay b.2.2.1 (ak x.1.2.2.2.2.2.2.2.2.2.2.1)) (aD (am (ax x.1.2.2.2.2.2.2.2.2.2.2.1 b.2.2.1) λc=>aA (gP c.1 c.1 1) (aD (aB (α:=D (.ah (.bc (.bc (.int .u8))) (.ah (.bc .bool) iU))) (λa=>ad (ay a.2.2.1 (pm .i64 (ak c.2.1) 32)) (aA (a5 a.2.1 a.2.2.1) (am (ax a.2.1 a.2.2.1) λr=>am (ax x.2.1 b.2.2.1) λh=>aA (a5 a.1 (ai .i64 (ai .i64 h 1) a.2.2.1)) (aA (a5 a.1 (ai .i64 (ai .i64 h 1) a.2.2.1)) (aA (dJ (d8 .i64 a.2.2.1 32) (d8 .i64 (ai .i64 a.2.2.1 1) 32) (ak c.2.1)) (am (ax a.1 (ai .i64 (ai .i64 h 1) a.2.2.1)) λq=>some (.inl (aI a.1 (ai .i64 (ai .i64 h 1) a.2.2.1) (d7 q (eX c.2.1 (d8 .i64 a.2.2.1 32) (d8 .i64 (ai .i64 a.2.2.1 1) 32))),aI a.2.1 a.2.2.1 true,ai .i64 a.2.2.1 1,()))))))) (ao (some (.inl (a.1,a.2.1,()))))) 1000000000 (b.1,er c.1 false,0,())) λe=>am (Oh (e.2.1,())) λm=>am (L1 (pm .i64 (ak c.2.1) 32,m.1,())) λn=>am (ax x.2.1 b.2.2.1) λg=>aA (a5 e.1 g) (aA (a5 e.1 g) (am (ax e.1 g) λo=>am (ax x.2.1 b.2.2.1) λi=>am (Xz ()) λj=>aA (aO b.2.1 ((c.1,pm .i64 (ak c.2.1) 32,i,-1,-1,false,j.1,(0,(0::0::0::0::0::0::0::0::[],0::0::[],(),()),()),e.2.1,())::[]) 200) (some (.inl (aI e.1 g (d7 o n.1),aM b.2.1 ((c.1,pm .i64 (ak c.2.1) 32,i,-1,-1,false,j.1,(0,(0::0::0::0::0::0::0::0::[],0::0::[],(),()),()),e.2.1,())::[]),()))))))) λk=>some (.inl (k.1,k.2.1,ai .i64 b.2.2.1 1,()))) (ao (some (.inl (b.1,b.2.1,()))))) 1000000000 (p.1,[],0,())) λl=>some (l.2.1,l.1,()))
def k65:=kB dU abH 65 Tryz.f65 (hs [(0,kp [1,2] [.mu 6 (.int .u8)]),(1,kp [1,2] [.mu 6 (.int .u8),.aL 26,.val 27 iT]),(4,[.mu 6 (.int .u8),.own 8 jZ]),(5,.aL 1:: .mu 6 (.int .u8):: .own 8 jZ::kp [36,37] [.val 38 iT]),(6,.aL 1:: .mu 6 (.int .u8):: .own 8 jZ::kp [36,37,38] []),(8,.aL 1:: .mu 6 (.int .u8)::kp [8,9,10,11] (.own 12 .bool::kp [36,37,38] [])),(9,.aL 1:: .mu 6 (.int .u8)::kp [8,9,10,11] (.own 12 .bool:: .val 13 iT::kp [36,37,38] []))]) VL
def TB(x:D (.ah (.bc (.bc (.int .u8))) .un)):Option (D iU):=aD (aB (α:=D iU) (λa=>ad (ay a.1 (ak x.1)) (am (ax x.1 a.1) λb=>ad (bH (ak b) 32) (ao (ao (some (3,())))) (some (.inl (ai .i64 a.1 1,())))) (ao (some (.inl ())))) 1000000000 (0,())) λc=>some (0,())
def abG:=kB dU k65 148 Tryz.f148 (hs [(0,[]),(1,[.aL 0,.val 3 iT])]) TB
def Fq(x:D (.ah (.bc (.int .u8)) .un)):Option (D (.ah (.bc (.int .u8)) .un)):=aD (aB (α:=D (.ah (.bc (.int .u8)) iU)) (λa=>ad (ay a.2.1 (ak x.1)) (am (ax x.1 a.2.1) λb=>aA (aO a.1 (b::[]) 1) (some (.inl (aM a.1 (b::[]),ai .i64 a.2.1 1,())))) (ao (some (.inl (a.1,()))))) 1000000000 ([],0,())) λc=>some (c.1,())
def aa5:=kB dU abG 213 Tryz.f213 (hs [(0,[.own 3 (.int .u8)]),(1,[.aL 0,.own 3 (.int .u8),.val 4 iT])]) Fq
def TA(x:D (.ah ns .un)):Option (D (.ah ns .un)):=aD (aB (α:=D (.ah ns iU)) (λb=>ad (ay b.2.1 (ak x.1.2.2.1)) (am (ax x.1.2.2.1 b.2.1) λi=>am (Fq (i,())) λf=>aA (aO b.1.2.2.1 (f.1::[]) 24) (some (.inl ((b.1.1,b.1.2.1,aM b.1.2.2.1 (f.1::[]),b.1.2.2.2.1,b.1.2.2.2.2.1,()),ai .i64 b.2.1 1,())))) (ao (some (.inl (b.1,()))))) 1000000000 ((x.1.1,x.1.2.1,[],[],[],()),0,())) λk=>aD (aB (α:=D (.ah ns iU)) (λa=>ad (ay a.2.1 (ak x.1.2.2.2.1)) (am (ax x.1.2.2.2.1 a.2.1) λg=>am (ax x.1.2.2.2.1 a.2.1) λl=>am (Fq (l.2.1,())) λh=>aA (aO a.1.2.2.2.1 ((g.1,h.1,())::[]) 32) (some (.inl ((a.1.1,a.1.2.1,a.1.2.2.1,aM a.1.2.2.2.1 ((g.1,h.1,())::[]),a.1.2.2.2.2.1,()),ai .i64 a.2.1 1,())))) (ao (some (.inl (a.1,()))))) 1000000000 (k.1,0,())) λm=>aD (aB (α:=D (.ah ns iU)) (λc=>ad (ay c.2.1 (ak x.1.2.2.2.2.1)) (am (ax x.1.2.2.2.2.1 c.2.1) λd=>am (Fq (d.2.2.2.1,())) λe=>aA (aO c.1.2.2.2.2.1 ((d.1,d.2.1,d.2.2.1,e.1,())::[]) 48) (some (.inl ((c.1.1,c.1.2.1,c.1.2.2.1,c.1.2.2.2.1,aM c.1.2.2.2.2.1 ((d.1,d.2.1,d.2.2.1,e.1,())::[]),()),ai .i64 c.2.1 1,())))) (ao (some (.inl (c.1,()))))) 1000000000 (m.1,0,())) λj=>some (j.1,())
def abF:=kB dU aa5 149 Tryz.f149 (hs [(0,kp [1,2] [.box 3 b5]),(1,kp [1,2] [.box 3 b5,.val 4 iT]),(4,kp [1,2] [.box 3 b5]),(5,kp [1,2] [.box 3 b5,.val 5 iT]),(8,[.aL 2,.box 3 b5]),(9,kp [1,2] [.box 3 b5,.val 6 iT])]) TA
def VJ(x:D (.ah iT (.ah (.bc (.bc (.int .u8))) .un))):Option (D (.ah ns iU)):=ad (ay x.1 1) (some ((0,0,[],[],[],()),2,())) (ad (ay 16 x.1) (some ((0,0,[],[],[],()),2,())) (ad (ay (ak x.2.1) 1) (some ((0,0,[],[],[],()),2,())) (ad (ay 256 (ak x.2.1)) (some ((0,0,[],[],[],()),2,())) (am (TB (x.2.1,())) λa=>ad (bH a.1 0) (some ((0,0,[],[],[],()),a.1,())) (am (TA ((x.1,0,x.2.1,[],[],()),())) λb=>some (b.1,0,()))))))
def k66:=kB dU abF 66 Tryz.f66 Tr.e VJ
def Jy(x:D (.ah kf iU)):Option (D bU):=am (Jp (x.1,())) λa=>ad (a6 a.1 0) (ad (cL 0 x.2.1) (some (ay x.2.1 (ak x.1),())) (some (false,()))) (some (false,()))
def aa4:=kB dU k66 214 Tryz.f214 Tr.e Jy
def Fp(x:D (.ah kf iU)):Option (D (.ah lI .un)):=am (Jy (x.1,x.2.1,())) λb=>ad (bL b.1) (some ([],())) (aD (aB (α:=D (.ah iT (.ah lI .un))) (λa=>ad (cL 0 a.1) (aA (aO a.2.1 (a.1::[]) 8) (am (ax x.1 a.1) λc=>some (.inl (c.1,aM a.2.1 (a.1::[]),())))) (ao (some (.inl (a.2.1,()))))) 1000000000 (x.2.1,[],())) λd=>some (d.1,()))
def aa3:=kB dU aa4 215 Tryz.f215 (hs [(0,[.own 5 iT]),(1,[.aL 0,.val 1 iT,.own 5 iT])]) Fp
def N4(x:D (.ah kf cU)):Option (D (.ah kf .un)):=aD (aB (α:=D (.ah kf iU)) (λb=>ad (ay b.2.1 (ak x.1)) (am (ax x.1 b.2.1) λe=>aA (aO b.1 (e::[]) 40) (some (.inl (aM b.1 (e::[]),ai .i64 b.2.1 1,())))) (ao (some (.inl (b.1,()))))) 1000000000 ([],0,())) λh=>am (Fp (x.1,x.2.1,())) λc=>aD (aB (α:=D (.ah kf iU)) (λa=>ad (ay a.2.1 (ak c.1)) (am (ax c.1 a.2.1) λd=>am (ax c.1 a.2.1) λf=>aA (a5 a.1 f) (am (ax a.1 f) λi=>aA (a5 a.1 d) (am (ax a.1 d) λg=>some (.inl (aI a.1 d (g.1,ai .i64 i.2.1 x.2.2.1,g.2.2),ai .i64 a.2.1 1,()))))) (ao (some (.inl (a.1,()))))) 1000000000 (h.1,0,())) λj=>some (j.1,())
def aa2:=kB dU aa3 216 Tryz.f216 (hs [(0,[.own 7 rO]),(1,[.aL 2,.own 7 rO,.aL 8,.val 9 iT])]) N4
def Og(x:D (.ah kf cU)):Option (D (.ah kf cU)):=am (Jp (x.1,())) λc=>ad (bH c.1 0) (some ([],-1,c.1,())) (am (Jy (x.1,x.2.1,())) λd=>ad (bL d.1) (some ([],-1,6,())) (am (yl (x.2.2.1,())) λf=>ad (bL f.1) (some ([],-1,2,())) (am (Fp (x.1,x.2.1,())) λb=>aD (aB (α:=D iU) (λa=>ad (ay a.1 (ak b.1)) (am (ax b.1 a.1) λg=>am (ax x.1 g) λh=>am (ax b.1 a.1) λi=>am (ax x.1 i) λj=>ad (ay (bo .i64 h.2.2.2.2.1 j.2.1) x.2.2.1) (am (ax b.1 a.1) λk=>ao (ao (some ([],k,17,())))) (some (.inl (ai .i64 a.1 1,())))) (ao (some (.inl ())))) 1000000000 (0,())) λl=>am (N4 (x.1,x.2.1,x.2.2.1,())) λe=>some (e.1,-1,0,()))))
def abE:=kB dU aa2 150 Tryz.f150 (hs [(0,kp [0,1,2] []),(1,kp [0,1,2,10] [.val 11 iT])]) Og
def NS(x:D (.ah eH .un)):Option (D iU):=aD (aB (α:=D iU) (λa=>ad (cL a.1 4) (aD (aD (aB (α:=D iU) (λb=>aA (cV a.1) (aA (ay a.1 5) (am (ax x.1.2.2.2.2.2.1 a.1) λc=>ad (ay b.1 (ak c)) (aA (cV a.1) (aA (ay a.1 5) (am (ax x.1.2.2.2.2.2.1 a.1) λd=>am (ax d b.1) λe=>am (sx (x.1,e,a.1,())) λf=>ad (bL f.1) (ao (ao (ao (ao (ao (some (3,()))))))) (ad (ay 0 b.1) (aA (cV a.1) (aA (ay a.1 5) (am (ax x.1.2.2.2.2.2.1 a.1) λg=>am (ax g b.1) λh=>aA (cV a.1) (aA (ay a.1 5) (am (ax x.1.2.2.2.2.2.1 a.1) λi=>am (ax i (bo .i64 b.1 1)) λj=>ad (cL h j) (ao (ao (ao (ao (ao (some (10,()))))))) (some (.inl (ai .i64 b.1 1,())))))))) (some (.inl (ai .i64 b.1 1,()))))))) (ao (some (.inl ())))))) 1000000000 (0,())) λk=>some (.inl ())) λl=>some (.inl (ai .i64 a.1 1,()))) (ao (some (.inl ())))) 1000000000 (0,())) λm=>some (0,())
def aaw:=kB dU abE 281 Tryz.f281 (hs [(0,[]),(1,[.aL 1,.val 3 iT]),(2,kp [1,3] []),(4,kp [1,3] []),(5,kp [1,3] [.val 4 iT])]) NS
def HK{β:Type}(l:List (List Int)):Option (Sum (List Int×Unit) β):=aB (α:=D (.ah lI iU)) (λa=>ad (cL a.2.1 4) (aD (aD (aB (α:=D (.ah lI iU)) (λc=>aA (cV a.2.1) (aA (ay a.2.1 5) (am (ax l a.2.1) λi=>ad (ay c.2.1 (ak i)) (aD (aA (cV a.2.1) (aA (ay a.2.1 5) (am (ax l a.2.1) λj=>am (ax j c.2.1) λk=>aD (aB (α:=D (.ah lI iU)) (λb=>aA (cV a.2.1) (aA (ay a.2.1 5) (am (ax l a.2.1) λm=>am (ax m c.2.1) λn=>aA (cV (ek .u64 a.2.1)) (ad (ay b.2.1 (ai .i64 n (fB .i64 1 (ek .u64 a.2.1)))) (aA (a5 b.1 b.2.1) (am (ax b.1 b.2.1) λd=>aA (a5 b.1 b.2.1) (am (ax b.1 b.2.1) λo=>some (.inl (aI b.1 b.2.1 (ai .i64 d 1),ai .i64 b.2.1 1,()))))) (ao (some (.inl (b.1,())))))))) 1000000000 (c.1,k,())) λe=>some (.inl (e.1,()))))) λf=>some (.inl (f.1,ai .i64 c.2.1 1,()))) (ao (some (.inl (c.1,()))))))) 1000000000 (a.1,0,())) λg=>some (.inl (g.1,()))) λh=>some (.inl (h.1,ai .i64 a.2.1 1,()))) (ao (some (.inl (a.1,()))))) 1000000000 (er 256 0,0,())
def Fj(x:D (.ah eH .un)):Option (D iU):=am (JD (x.1,())) λf=>ad (bL f.1) (some (2,())) (am (NS (x.1,())) λe=>ad (bH e.1 0) (some (e.1,())) (aA (gP 256 256 8) (aD (HK x.1.2.2.2.2.2.1) λd=>aD (aB (α:=D iU) (λc=>ad (ay c.1 (ak d.1)) (aA (a5 d.1 c.1) (am (ax d.1 c.1) λg=>ad (ay 1 g) (ao (ao (some (7,())))) (some (.inl (ai .i64 c.1 1,()))))) (ao (some (.inl ())))) 1000000000 (0,())) λp=>aD (aB (α:=D iU) (λa=>ad (ay a.1 4) (aD (aD (aB (α:=D iU) (λb=>aA (cV a.1) (aA (ay a.1 5) (am (ax x.1.2.2.2.2.2.1 a.1) λh=>ad (ay b.1 (ak h)) (aA (cV a.1) (aA (ay a.1 5) (am (ax x.1.2.2.2.2.2.1 a.1) λi=>am (ax i b.1) λj=>aA (cV a.1) (aA (ay a.1 5) (am (ax x.1.2.2.2.2.2.1 a.1) λk=>am (ax k (bo .i64 b.1 1)) λl=>aA (cV (ek .u64 a.1)) (ad (a6 j (ai .i64 l (fB .i64 1 (ek .u64 a.1)))) (aA (cV a.1) (aA (ay a.1 5) (am (ax x.1.2.2.2.2.2.1 a.1) λm=>am (ax m (bo .i64 b.1 1)) λn=>am (sx (x.1,n,ai .i64 a.1 1,())) λo=>ad o.1 (ao (ao (ao (ao (ao (some (11,()))))))) (some (.inl (ai .i64 b.1 1,())))))) (some (.inl (ai .i64 b.1 1,()))))))))) (ao (some (.inl ())))))) 1000000000 (1,())) λq=>some (.inl ())) λr=>some (.inl (ai .i64 a.1 1,()))) (ao (some (.inl ())))) 1000000000 (0,())) λs=>some (0,()))))
def aaF:=kB dU aaw 260 Tryz.f260 (hs [(0,[.aL 1]),(1,kp [1,4] [.val 5 iT]),(4,[]),(5,[.aL 1,.val 6 iT]),(6,kp [1,6] []),(8,kp [1,6] []),(9,kp [1,6] [.val 7 iT])]) Fj
def Db(x:D iU):Option (D bU):=ad (ay x.1 0) (some (true,())) (some (cL 256 x.1,()))
def aao:=kB dU aaF 295 Tryz.f295 Tr.e Db
def Fh(x:D (.ah fu iU)):Option (D iU):=ad (ay x.2.1 1) (some (1,())) (ad (ay 6 x.2.1) (some (1,())) (ad (bH (ak x.1.1) x.2.1) (some (3,())) (aD (aB (α:=D iU) (λd=>ad (ay d.1 (ak x.1.1)) (aD (am (ax x.1.1 d.1) λf=>aD (aB (α:=D iU) (λe=>ad (ay e.1 (ak f)) (am (ax f e.1) λk=>am (Db (k,())) λl=>ad l.1 (ao (ao (ao (ao (ao (some (2,()))))))) (some (.inl (ai .i64 e.1 1,())))) (ao (some (.inl ())))) 1000000000 (0,())) λo=>some (.inl ())) λp=>some (.inl (ai .i64 d.1 1,()))) (ao (some (.inl ())))) 1000000000 (0,())) λq=>aA (gP 256 256 1) (aD (aB (α:=D (.ah (.bc .bool) iU)) (λb=>ad (ay b.2.1 (ak x.1.1)) (aD (am (ax x.1.1 b.2.1) λg=>aD (aB (α:=D (.ah (.bc .bool) iU)) (λa=>ad (ay a.2.1 (ak g)) (am (ax g a.2.1) λc=>aA (a5 a.1 c) (am (ax a.1 c) λh=>ad h (ao (ao (ao (ao (ao (some (7,()))))))) (aA (a5 a.1 c) (am (ax a.1 c) λm=>some (.inl (aI a.1 c true,ai .i64 a.2.1 1,())))))) (ao (some (.inl (a.1,()))))) 1000000000 (b.1,0,())) λi=>some (.inl (i.1,()))) λj=>some (.inl (j.1,ai .i64 b.2.1 1,()))) (ao (some (.inl (b.1,()))))) 1000000000 (er 256 false,0,())) λn=>some (0,())))))
def aav:=kB dU aao 283 Tryz.f283 (hs [(0,[.aL 2]),(1,kp [2,26,27] [.val 28 iT]),(2,kp [2,26,27,28] []),(4,kp [2,26,27,28] []),(5,kp [2,26,27,28,32,33] [.val 34 iT]),(8,[.own 9 .bool]),(9,.own 9 .bool::kp [44,45] [.val 46 iT]),(10,.own 9 .bool::kp [44,45,46] []),(12,.own 9 .bool::kp [44,45,46] []),(13,.own 9 .bool::kp [44,45,46,50,51] [.val 52 iT])]) Fh
def NN(x:D (.ah eH iU)):Option (D bU):=am (Fj (x.1,())) λb=>ad (a6 b.1 0) (am (sx (x.1,x.2.1,0,())) λc=>ad c.1 (aA (gP 256 256 8) (aD (HK x.1.2.2.2.2.2.1) λa=>aA (a5 a.1 x.2.1) (am (ax a.1 x.2.1) λd=>some (ay 0 d,())))) (some (false,()))) (some (false,()))
def aan:=kB dU aav 296 Tryz.f296 Tr.e NN
def NQ(x:D (.ah du .un)):Option (D iU):=aA (gP 256 256 1) (aD (aB (α:=D (.ah (.bc .bool) iU)) (λd=>ad (ay d.2.1 (ak x.1.2.2.2.2.1)) (aD (aD (aB (α:=D (.ah (.bc .bool) iU)) (λb=>ad (ay b.2.1 (ak x.1.2.2.2.1)) (aD (am (ax x.1.2.2.2.2.1 d.2.1) λn=>am (ax n.1 b.2.1) λc=>aD (aB (α:=D (.ah (.bc .bool) iU)) (λa=>ad (ay a.2.1 (ak c)) (am (ax c a.2.1) λp=>am (ax x.1.2.2.2.1 b.2.1) λq=>ad (ay p q.2.2.1) (ao (ao (ao (ao (ao (ao (ao (ao (some (2,())))))))))) (am (ax c a.2.1) λr=>am (ax x.1.2.2.2.1 b.2.1) λs=>am (ax x.1.2.2.2.1 b.2.1) λt=>ad (cL (ai .i64 s.2.2.1 t.2.2.2.1) r) (ao (ao (ao (ao (ao (ao (ao (ao (some (2,())))))))))) (am (ax c a.2.1) λf=>aA (a5 a.1 f) (am (ax a.1 f) λg=>ad g (ao (ao (ao (ao (ao (ao (ao (ao (some (7,())))))))))) (am (ax x.1.2.2.2.1 b.2.1) λh=>am (ax c a.2.1) λi=>am (NN (h,i,())) λj=>ad j.1 (ao (ao (ao (ao (ao (ao (ao (ao (some (7,())))))))))) (am (ax c a.2.1) λe=>aA (a5 a.1 e) (am (ax a.1 e) λu=>some (.inl (aI a.1 e true,ai .i64 a.2.1 1,()))))))))) (ao (some (.inl (a.1,()))))) 1000000000 (b.1,0,())) λk=>some (.inl (k.1,()))) λl=>some (.inl (l.1,ai .i64 b.2.1 1,()))) (ao (some (.inl (b.1,()))))) 1000000000 (d.1,0,())) λm=>some (.inl (m.1,()))) λo=>some (.inl (o.1,ai .i64 d.2.1 1,()))) (ao (some (.inl (d.1,()))))) 1000000000 (er 256 false,0,())) λv=>some (0,()))
def aau:=kB dU aan 284 Tryz.f284 (hs [(0,[.own 3 .bool]),(1,[.aL 1,.own 3 .bool,.val 4 iT]),(2,[.aL 1,.own 3 .bool,.aL 4]),(4,[.aL 1,.own 3 .bool,.aL 4]),(5,[.aL 1,.own 3 .bool,.aL 4,.val 5 iT]),(6,.aL 1:: .own 3 .bool::kp [4,5] []),(8,.aL 1:: .own 3 .bool::kp [4,5] []),(9,.aL 1:: .own 3 .bool::kp [4,5,6] [.val 7 iT])]) NQ
def NW(x:D (.ah du .un)):Option (D iU):=ad (bH (ak x.1.2.2.2.2.1) (ak x.1.1)) (some (3,())) (aD (aB (α:=D iU) (λa=>ad (ay a.1 (ak x.1.2.2.2.2.1)) (aD (am (ax x.1.2.2.2.2.1 a.1) λd=>am (Fh ((d.1,()),ak x.1.2.2.2.1,())) λc=>ad (bH c.1 0) (ao (ao (ao (some (c.1,()))))) (aD (aB (α:=D iU) (λb=>ad (ay b.1 (ak x.1.2.2.2.1)) (am (ax x.1.2.2.2.2.1 a.1) λe=>am (ax e.1 b.1) λf=>ad (ay x.1.2.2.1 (ak f)) (ao (ao (ao (ao (ao (some (9,()))))))) (some (.inl (ai .i64 b.1 1,())))) (ao (some (.inl ())))) 1000000000 (0,())) λh=>some (.inl ()))) λi=>some (.inl (ai .i64 a.1 1,()))) (ao (some (.inl ())))) 1000000000 (0,())) λj=>am (NQ (x.1,())) λg=>some (g.1,()))
def aaE:=kB dU aau 261 Tryz.f261 (hs [(0,[.aL 1]),(1,[.aL 1,.val 3 iT]),(2,kp [1,3] []),(4,kp [1,3] []),(5,kp [1,3] [.val 5 iT])]) NW
def N3(x:D (.ah du .un)):Option (D iU):=am (FB (x.1.1,x.1.2.1,x.1.2.2.1,ak x.1.2.2.2.1,())) λc=>ad (bL c.1) (some (2,())) (aD (aB (α:=D cU) (λa=>ad (ay a.2.1 (ak x.1.2.2.2.1)) (am (ax x.1.2.2.2.1 a.2.1) λd=>am (Fj (d,())) λb=>ad (bH b.1 0) (ao (ao (some (b.1,())))) (am (ax x.1.2.2.2.1 a.2.1) λe=>ad (bH e.2.2.1 a.1) (ao (ao (some (10,())))) (am (ax x.1.2.2.2.1 a.2.1) λf=>some (.inl (ai .i64 a.1 f.2.2.2.1,ai .i64 a.2.1 1,()))))) (ao (some (.inl ())))) 1000000000 (0,0,())) λh=>am (NW (x.1,())) λg=>some (g.1,()))
def aa1:=kB dU aaE 217 Tryz.f217 (hs [(0,[.aL 1]),(1,[.aL 1,.val 3 iT,.val 4 iT])]) N3
def NP(x:D (.ah xd .un)):Option (D iU):=ad (ay 6 (ak x.1)) (some (9,())) (aD (aB (α:=D iU) (λa=>ad (ay a.1 (ak x.1)) (am (ax x.1 a.1) λb=>ad (ay b.1 0) (ao (ao (some (2,())))) (am (ax x.1 a.1) λc=>ad (cL 4 c.1) (ao (ao (some (2,())))) (am (ax x.1 a.1) λd=>ad (bH d.2.1 0) (am (ax x.1 a.1) λe=>ad (bH e.2.1 1) (ao (ao (some (1,())))) (some (.inl (ai .i64 a.1 1,())))) (some (.inl (ai .i64 a.1 1,())))))) (ao (some (.inl ())))) 1000000000 (0,())) λf=>some (0,()))
def aat:=kB dU aa1 285 Tryz.f285 (hs [(0,[]),(1,[.aL 0,.val 3 iT])]) NP
def yc(x:D (.ah xd iU)):Option (D bU):=aD (aB (α:=D iU) (λa=>ad (ay a.1 (ak x.1)) (am (ax x.1 a.1) λb=>ad (a6 b.1 x.2.1) (ao (ao (some (true,())))) (some (.inl (ai .i64 a.1 1,())))) (ao (some (.inl ())))) 1000000000 (0,())) λc=>some (false,())
def aas:=kB dU aat 286 Tryz.f286 (hs [(0,[]),(1,kp [0,1] [.val 5 iT])]) yc
def NV(x:D (.ah xd iU)):Option (D (.ah lI iU)):=am (NP (x.1,())) λb=>ad (bH b.1 0) (some ([],b.1,())) (ad (ay x.2.1 0) (some ([],2,())) (ad (cL 4 x.2.1) (some ([],2,())) (aD (aB (α:=D (.ah lI iU)) (λa=>ad (ay a.2.1 4) (am (yc (x.1,bo .i64 x.2.1 a.2.1,())) λc=>ad c.1 (aA (aO a.1 (bo .i64 x.2.1 a.2.1::[]) 8) (ad (ay 0 a.2.1) (am (yc (x.1,ai .i64 x.2.1 a.2.1,())) λd=>ad d.1 (aA (aO (aM a.1 (bo .i64 x.2.1 a.2.1::[])) (ai .i64 x.2.1 a.2.1::[]) 8) (some (.inl (aM (aM a.1 (bo .i64 x.2.1 a.2.1::[])) (ai .i64 x.2.1 a.2.1::[]),ai .i64 a.2.1 1,())))) (some (.inl (aM a.1 (bo .i64 x.2.1 a.2.1::[]),ai .i64 a.2.1 1,())))) (some (.inl (aM a.1 (bo .i64 x.2.1 a.2.1::[]),ai .i64 a.2.1 1,()))))) (ad (ay 0 a.2.1) (am (yc (x.1,ai .i64 x.2.1 a.2.1,())) λe=>ad e.1 (aA (aO a.1 (ai .i64 x.2.1 a.2.1::[]) 8) (some (.inl (aM a.1 (ai .i64 x.2.1 a.2.1::[]),ai .i64 a.2.1 1,())))) (some (.inl (a.1,ai .i64 a.2.1 1,())))) (some (.inl (a.1,ai .i64 a.2.1 1,()))))) (ao (some (.inl (a.1,()))))) 1000000000 ([],0,())) λf=>some (f.1,0,()))))
def aaD:=kB dU aas 262 Tryz.f262 (hs [(0,[.own 7 iT]),(1,kp [0,1] [.own 7 iT,.val 8 iT])]) NV
def Jv(x:D (.ah xd kk)):Option (D (.ah lI iU)):=am (NV (x.1,x.2.1,())) λd=>ad (bH d.2.1 0) (some ([],d.2.1,())) (aD (aB (α:=D (.ah lI iU)) (λc=>ad (ay c.2.1 (ak d.1)) (aD (aD (aB (α:=D (.ah lI iU)) (λa=>ad (ay a.2.1 (ak x.1)) (ad (bL x.2.2.1) (am (ax x.1 a.2.1) λi=>am (ax d.1 c.2.1) λj=>ad (a6 i.1 j) (am (ax x.1 a.2.1) λk=>ad (a6 k.2.1 1) (aA (aO a.1 (a.2.1::[]) 8) (some (.inl (aM a.1 (a.2.1::[]),ai .i64 a.2.1 1,())))) (some (.inl (a.1,ai .i64 a.2.1 1,())))) (some (.inl (a.1,ai .i64 a.2.1 1,())))) (ao (some (.inl (a.1,()))))) (ao (some (.inl (a.1,()))))) 1000000000 (c.1,0,())) λl=>aD (aB (α:=D (.ah lI iU)) (λb=>ad (ay b.2.1 (ak x.1)) (am (ax x.1 b.2.1) λm=>am (ax d.1 c.2.1) λn=>ad (a6 m.1 n) (am (ax x.1 b.2.1) λe=>ad (a6 e.2.1 0) (aA (aO b.1 (b.2.1::[]) 8) (some (.inl (aM b.1 (b.2.1::[]),ai .i64 b.2.1 1,())))) (some (.inl (b.1,ai .i64 b.2.1 1,())))) (some (.inl (b.1,ai .i64 b.2.1 1,())))) (ao (some (.inl (b.1,()))))) 1000000000 (l.1,0,())) λf=>some (.inl (f.1,()))) λg=>some (.inl (g.1,ai .i64 c.2.1 1,()))) (ao (some (.inl (c.1,()))))) 1000000000 ([],0,())) λh=>some (h.1,0,()))
def aa0:=kB dU aaD 218 Tryz.f218 (hs [(0,[.own 10 iT]),(1,kp [0,2,8] [.own 10 iT,.val 11 iT]),(2,kp [0,2,8] [.own 10 iT,.aL 11]),(4,kp [0,2,8] [.own 10 iT,.aL 11]),(5,kp [0,2,8] [.own 10 iT,.aL 11,.val 12 iT]),(8,kp [0,2,8] [.own 10 iT,.aL 11]),(9,kp [0,2,8] [.own 10 iT,.aL 11,.val 13 iT])]) Jv
def N2(x:D (.ah du iU)):Option (D iU):=aD (aB (α:=D cU) (λa=>ad (cL a.2.1 4) (am (ax x.1.2.2.2.1 x.2.1) λc=>am (ax c.2.2.2.2.2.1 a.2.1) λd=>aA (cV (ek .u64 a.2.1)) (some (.inl (ai .i64 a.1 (fB .i64 (ak d) (ek .u64 a.2.1)),ai .i64 a.2.1 1,())))) (ao (some (.inl (a.1,()))))) 1000000000 (0,0,())) λe=>aD (aB (α:=D cU) (λb=>ad (ay b.2.1 (ak x.1.2.2.2.2.1)) (am (ax x.1.2.2.2.2.1 b.2.1) λf=>am (ax f.1 x.2.1) λg=>some (.inl (ai .i64 b.1 (ak g),ai .i64 b.2.1 1,()))) (ao (some (.inl (b.1,()))))) 1000000000 (e.1,0,())) λh=>some (h.1,())
def MV:=kB dU aa0 219 Tryz.f219 (hs [(0,kp [1,2] [.val 5 iT]),(1,kp [1,2] [.val 5 iT,.val 6 iT]),(4,[.val 5 iT]),(5,kp [1,2] [.val 5 iT,.val 7 iT])]) N2
def NC(x:D (.ah eH iU)):Option (D (.ah eH cU)):=am (Fj (x.1,())) λd=>ad (bH d.1 0) (some ((0,0,0,0,0,[]::[]::[]::[]::[]::[],()),0,d.1,())) (aD (aB (α:=D (.ah (.ah eH .un) iU)) (λa=>ad (cL a.2.1 4) (aD (aA (cV a.2.1) (aA (ay a.2.1 5) (am (ax x.1.2.2.2.2.2.1 a.2.1) λf=>ad (ay 0 (ak f)) (aA (cV a.2.1) (aA (ay a.2.1 5) (am (ax x.1.2.2.2.2.2.1 a.2.1) λj=>am (ax j 0) λc=>aA (gP 256 256 8) (aD (HK x.1.2.2.2.2.2.1) λe=>aD (aB (α:=D (.ah lI iU)) (λb=>ad (ay b.2.1 (ai .i64 c 1)) (aA (a5 b.1 b.2.1) (am (ax b.1 b.2.1) λk=>some (.inl (aI b.1 b.2.1 0,ai .i64 b.2.1 1,())))) (ao (some (.inl (b.1,()))))) 1000000000 (e.1,c,())) λg=>am (JA (x.1,g.1,())) λh=>ao (ao (ao (some (h.1,c,0,())))))))) (some (.inl ((a.1.1,()),())))))) λi=>some (.inl ((i.1.1,()),ai .i64 a.2.1 1,()))) (ao (some (.inl ((a.1.1,()),()))))) 1000000000 (((0,0,0,0,0,[]::[]::[]::[]::[]::[],()),()),0,())) λl=>some ((0,0,0,0,0,[]::[]::[]::[]::[]::[],()),0,16,()))
def Dd(x:D (.ah eH iU)):Option (D (.ah eH cU)):=ad (a6 x.2.1 0) (NC x) none
theorem ZM(x:D (.ah eH iU)):GM (vP MV.1 dU) [false,true] 1000 (.ah eH iU) (.ah eH cU) (hs [(0,[.box 4 b7]),(1,kp [1,2] [.box 4 b7,.val 8 iT]),(2,kp [1,2] [.box 4 b7,.aL 8]),(4,kp [2,4,9] [.own 10 iT]),(5,kp [1,2,4,9] [.own 10 iT,.val 11 iT])]) Tryz.f287 (x.1,(0:Int),())=NC x:=by kernel_rfl
theorem Z3(x:D (.ah eH iU))(h:a6 x.2.1 0=true):(x.1,(0:Int),())=x:=by have h:x.2.1=0:=bA h;obtain⟨a,b,u⟩:=x;cases h;rfl
theorem aab:eA.fn.ap 287=some Tryz.f287:=by kernel_rfl
theorem acl:eA.ext.ap 287=none:=by kernel_rfl
def aar:KK:=⟨MV.1.set 287 ⟨.ah eH iU,.ah eH cU,Dd⟩,ta MV.2 (Nk (hi:=dU) MV.2 aab acl (MO (b:=λ(x:D (.ah eH iU))=>a6 x.2.1 0) (q:=λ(x:D (.ah eH iU))=>(x.1,(0:Int),())) Z3 ZM))⟩
def Jq(x:D (.ah fu iU)):Option (D iU):=am (Fh ((x.1.1,()),ak x.1.1,())) λa=>ad (bH a.1 0) (some (a.1,())) (ad (ay x.2.1 0) (some (2,())) (ad (cL (ak x.1.1) x.2.1) (some (2,())) (some (0,()))))
def aaq:=kB dU aar 291 Tryz.f291 Tr.e Jq
def NM(x:D (.ah fu iU)):Option (D bU):=aD (aB (α:=D iU) (λa=>ad (ay a.1 (ak x.1.1)) (aD (am (ax x.1.1 a.1) λc=>aD (aB (α:=D iU) (λb=>ad (ay b.1 (ak c)) (am (ax c b.1) λd=>ad (a6 d x.2.1) (ao (ao (ao (ao (ao (some (true,()))))))) (some (.inl (ai .i64 b.1 1,())))) (ao (some (.inl ())))) 1000000000 (0,())) λe=>some (.inl ())) λf=>some (.inl (ai .i64 a.1 1,()))) (ao (some (.inl ())))) 1000000000 (0,())) λg=>some (false,())
def aam:=kB dU aaq 297 Tryz.f297 (hs [(0,[]),(1,kp [1,10,11] [.val 12 iT]),(2,kp [1,10,11,12] []),(4,kp [1,10,11,12] []),(5,kp [1,10,11,12,16,17] [.val 18 iT])]) NM
def RY{β:Type}(l:List (List Int)):Option (Sum ((List (List Int)×Unit)×Unit) β):=aB (α:=D (.ah fu iU)) (λa=>ad (ay a.2.1 (ak l)) (am (ax l a.2.1) λb=>aA (aO [] b 8) (aA (aO a.1.1 (aM [] b::[]) 24) (some (.inl ((aM a.1.1 (aM [] b::[]),()),ai .i64 a.2.1 1,()))))) (ao (some (.inl ((a.1.1,()),()))))) 1000000000 (([],()),0,())
def Dc(x:D (.ah fu (.ah iT (.ah lI .un)))):Option (D (.ah fu iU)):=am (Jq ((x.1.1,()),x.2.1,())) λe=>ad (bH e.1 0) (some (([],()),e.1,())) (aD (aB (α:=D (.ah (.ah fu .un) iU)) (λb=>ad (ay b.2.1 (ak x.2.2.1)) (aD (am (ax x.2.2.1 b.2.1) λd=>am (Db (d,())) λj=>ad j.1 (ao (ao (ao (some (([],()),2,()))))) (am (NM ((x.1.1,()),d,())) λk=>ad k.1 (ao (ao (ao (some (([],()),7,()))))) (aA (dJ 0 b.2.1 (ak x.2.2.1)) (aD (aB (α:=D (.ah (.ah fu .un) iU)) (λc=>ad (ay c.2.1 (ak (eX x.2.2.1 0 b.2.1))) (am (ax (eX x.2.2.1 0 b.2.1) c.2.1) λl=>ad (a6 d l) (ao (ao (ao (ao (ao (some (([],()),7,()))))))) (some (.inl ((c.1.1,()),ai .i64 c.2.1 1,())))) (ao (some (.inl ((c.1.1,()),()))))) 1000000000 ((b.1.1,()),0,())) λm=>some (.inl ((m.1.1,()),())))))) λn=>some (.inl ((n.1.1,()),ai .i64 b.2.1 1,()))) (ao (some (.inl ((b.1.1,()),()))))) 1000000000 ((([],()),()),0,())) λo=>aD (RY x.1.1) λh=>aD (aB (α:=D (.ah fu iU)) (λa=>ad (cL 0 a.2.1) (aA (a5 a.1.1 x.2.1) (aA (a5 a.1.1 x.2.1) (am (ax x.2.2.1 a.2.1) λf=>am (ax a.1.1 x.2.1) λg=>aA (aO g (f::[]) 8) (aA (a5 a.1.1 x.2.1) (aA (a6 x.2.1 x.2.1) (some (.inl ((aI a.1.1 x.2.1 (aM g (f::[])),()),bo .i64 a.2.1 1,())))))))) (ao (some (.inl ((a.1.1,()),()))))) 1000000000 ((h.1.1,()),bo .i64 (ak x.2.2.1) 1,())) λi=>some ((i.1.1,()),0,()))
def W1:=kB acg aam 288 Tryz.f288 (hs [(0,kp [1,2,3] [.box 6 b1]),(1,kp [1,2,3] (.box 6 b1::kp [22,23] [.val 24 iT])),(2,kp [1,2,3] (.box 6 b1::kp [22,23,24] [])),(4,kp [1,2,3] (.box 6 b1::kp [22,23,24] [])),(5,kp [1,2,3] (.box 6 b1::kp [10,22,23,24,38,39] [.val 40 iT])),(8,[.aL 6,.box 13 b6]),(9,kp [1,2,6] [.box 13 b6,.val 14 iT])]) Dc
def W6:Tr (List Hi):=Tr.e
def SW(x:D (.ah fu iU)):Option (D (.ah fu (.ah lI iU))):=GL (vP W1.1 dU) 1000 (.ah fu iU) (.ah fu (.ah lI iU)) W6 Tryz.f289 x
def W0:=kB dU W1 289 Tryz.f289 W6 SW (hF:=λx=>rfl)
def W5:Tr (List Hi):=hs [(0,[.aL 3,.box 6 b7,.own 9 iT]),(1,kp [1,2,3] [.box 6 b7,.own 9 iT,.val 10 iT])]
def Xu(x:D (.ah eH cU)):Option (D (.ah eH iU)):=GL (vP W0.1 dU) 1000 (.ah eH cU) (.ah eH iU) W5 Tryz.f298 x
def aal:=kB dU W0 298 Tryz.f298 W5 Xu (hF:=λx=>rfl)
def Df(x:D (.ah fu iU)):Option (D (.ah fu cU)):=am (Jq ((x.1.1,()),x.2.1,())) λc=>ad (bH c.1 0) (some (([],()),0,c.1,())) (am (ax x.1.1 x.2.1) λb=>ad (a6 (ak b) 0) (some (([],()),0,6,())) (aD (RY x.1.1) λa=>aA (a5 a.1.1 x.2.1) (am (ax a.1.1 x.2.1) λe=>am (ax e (bo .i64 (ak b) 1)) λf=>aA (a5 a.1.1 x.2.1) (am (ax a.1.1 x.2.1) λd=>aA (dJ 0 (bo .i64 (ak b) 1) (ak d)) (aA (a5 a.1.1 x.2.1) (am (ax a.1.1 x.2.1) λg=>some ((aI a.1.1 x.2.1 (eX d 0 (bo .i64 (ak b) 1)),()),f,0,())))))))
def MU:=kB dU aal 266 Tryz.f266 Tr.e Df
def KB{β:Type}(z:Int)(a:D du):Option (Sum (D du×List Int×Unit) β):=aB (α:=D (.ah du (.ah lI .un))) (λb=>ad (ay (ak b.2.1) b.1.2.1) (aA (a5 b.1.2.2.2.1 z) (am (ax b.1.2.2.2.1 z) λd=>am (Dd (d,0,())) λc=>ad (bH c.2.2.1 0) (ao (some (.inl (b.1,b.2.1,())))) (aA (a5 b.1.2.2.2.1 z) (am (ax b.1.2.2.2.1 z) λe=>aA (aO b.2.1 (c.2.1::[]) 8) (some (.inl ((b.1.1,b.1.2.1,b.1.2.2.1,aI b.1.2.2.2.1 z c.1,b.1.2.2.2.2.1,()),aM b.2.1 (c.2.1::[]),()))))))) (ao (some (.inl (b.1,b.2.1,()))))) 1000000000 (a,[],())
def drF{β:Type}(l:List Int)(z:Int)(a:D du)(c:Int)(y:List (List Int)):Option (Sum (D du×Unit) β):=aB (α:=D (.ah du iU)) (λb=>ad (ay b.2.1 (ak l)) (aA (a5 b.1.2.2.2.1 z) (am (ax b.1.2.2.2.1 z) λd=>am (ax l b.2.1) λe=>am (Xu (d,e,0,())) λf=>aA (a5 b.1.2.2.2.1 z) (am (ax b.1.2.2.2.1 z) λg=>some (.inl ((b.1.1,b.1.2.1,b.1.2.2.1,aI b.1.2.2.2.1 z f.1,b.1.2.2.2.2.1,()),ai .i64 b.2.1 1,()))))) (ao (some (.inl (b.1,()))))) 1000000000 ((a.1,a.2.1,a.2.2.1,a.2.2.2.1,aI a.2.2.2.2.1 c (y,()),()),0,())
def ND(x:D (.ah du (.ah iT (.ah .bool bU)))):Option (D (.ah du cU)):=am (N3 (x.1,())) λo=>ad (bH o.1 0) (some (([],0,0,[],[],()),0,o.1,())) (ad (ay x.2.1 0) (some (([],0,0,[],[],()),0,2,())) (ad (cL (ak x.1.1) x.2.1) (some (([],0,0,[],[],()),0,2,())) (am (ax x.1.1 x.2.1) λA=>am (Jv (x.1.2.2.2.1,A,x.2.2.1,())) λr=>aD (aB (α:=D (.ah (.ah du .un) iU)) (λl=>ad (ay l.2.1 (ak r.1)) (am (ax r.1 l.2.1) λb=>am (N2 (x.1,b,())) λp0=>am (ax x.1.2.2.2.1 b) λk0=>ad (ay k0.2.2.2.2.1 p0.1) (aA (aO [] x.1.1 8) (aD (aB (α:=D (.ah du iU)) (λi=>ad (ay i.2.1 (ak x.1.2.2.2.1)) (aD (am (ax x.1.2.2.2.1 i.2.1) λe0=>aD (aB (α:=D (.ah (.ah eH .un) iU)) (λc=>ad (cL c.2.1 4) (am (ax x.1.2.2.2.1 i.2.1) λB=>am (ax B.2.2.2.2.2.1 c.2.1) λp=>aA (aO [] p 8) (aA (cV c.2.1) (aA (ay c.2.1 5) (am (ax c.1.1.2.2.2.2.2.1 c.2.1) λb0=>some (.inl (((c.1.1.1,c.1.1.2.1,c.1.1.2.2.1,c.1.1.2.2.2.1,c.1.1.2.2.2.2.1,aI c.1.1.2.2.2.2.2.1 c.2.1 (aM [] p),()),()),ai .i64 c.2.1 1,())))))) (ao (some (.inl ((c.1.1,()),()))))) 1000000000 ((e0,()),0,())) λq=>aA (aO i.1.2.2.2.1 (q.1.1::[]) 160) (some (.inl ((i.1.1,i.1.2.1,i.1.2.2.1,aM i.1.2.2.2.1 (q.1.1::[]),i.1.2.2.2.2.1,()),())))) λC=>some (.inl (C.1,ai .i64 i.2.1 1,()))) (ao (some (.inl (i.1,()))))) 1000000000 ((aM [] x.1.1,x.1.2.1,x.1.2.2.1,[],[],()),0,())) λz0=>aD (aB (α:=D (.ah du iU)) (λj=>ad (ay j.2.1 (ak x.1.2.2.2.2.1)) (am (ax x.1.2.2.2.2.1 j.2.1) λy0=>aD (RY y0.1) λs=>aA (aO j.1.2.2.2.2.1 ((s.1.1,())::[]) 24) (some (.inl ((j.1.1,j.1.2.1,j.1.2.2.1,j.1.2.2.2.1,aM j.1.2.2.2.2.1 ((s.1.1,())::[]),()),ai .i64 j.2.1 1,())))) (ao (some (.inl (j.1,()))))) 1000000000 (z0.1,0,())) λd=>aA (a5 d.1.2.2.2.2.1 x.2.1) (am (ax d.1.2.2.2.2.1 x.2.1) λx0=>am (ax x0.1 b) λw0=>ad (a6 (ak w0) 0) (aD (KB b d.1) λa=>aA (a5 a.1.2.2.2.2.1 x.2.1) (am (ax a.1.2.2.2.2.1 x.2.1) λv0=>am (Dc ((v0.1,()),b,a.2.1,())) λk=>aA (a5 a.1.2.2.2.2.1 x.2.1) (am (ax a.1.2.2.2.2.1 x.2.1) λa0=>aA (a5 (aI a.1.2.2.2.2.1 x.2.1 k.1) x.2.1) (am (ax (aI a.1.2.2.2.2.1 x.2.1 k.1) x.2.1) λu0=>am (ax u0.1 b) λt0=>ad (a6 (ak t0) 0) (aD (aB (α:=D (.ah du iU)) (λe=>ad (ay e.2.1 (ak e.1.2.2.2.2.1)) (aA (a5 e.1.2.2.2.2.1 e.2.1) (am (ax e.1.2.2.2.2.1 e.2.1) λs0=>am (SW ((s0.1,()),b,())) λt=>aA (a5 e.1.2.2.2.2.1 e.2.1) (am (ax e.1.2.2.2.2.1 e.2.1) λz9=>aD (drF t.2.1 b e.1 e.2.1 t.1.1) λr0=>some (.inl (r0.1,ai .i64 e.2.1 1,()))))) (ao (some (.inl (e.1,()))))) 1000000000 ((a.1.1,a.1.2.1,a.1.2.2.1,a.1.2.2.2.1,aI a.1.2.2.2.2.1 x.2.1 k.1,()),0,())) λq0=>aD (KB b q0.1) λg=>aA (a5 g.1.2.2.2.2.1 x.2.1) (am (ax g.1.2.2.2.2.1 x.2.1) λo0=>am (Dc ((o0.1,()),b,g.2.1,())) λm=>aA (a5 g.1.2.2.2.2.1 x.2.1) (am (ax g.1.2.2.2.2.1 x.2.1) λy9=>aA (a5 (aI g.1.2.2.2.2.1 x.2.1 m.1) x.2.1) (am (ax (aI g.1.2.2.2.2.1 x.2.1 m.1) x.2.1) λn0=>am (Df ((n0.1,()),b,())) λu=>aA (a5 (aI g.1.2.2.2.2.1 x.2.1 m.1) x.2.1) (am (ax (aI g.1.2.2.2.2.1 x.2.1 m.1) x.2.1) λx9=>ao (ao (some ((g.1.1,g.1.2.1,g.1.2.2.1,g.1.2.2.2.1,aI (aI g.1.2.2.2.2.1 x.2.1 m.1) x.2.1 (u.1.1,()),()),u.2.1,0,())))))))) (aA (a5 (aI a.1.2.2.2.2.1 x.2.1 k.1) x.2.1) (am (ax (aI a.1.2.2.2.2.1 x.2.1 k.1) x.2.1) λm0=>am (Df ((m0.1,()),b,())) λv=>aA (a5 (aI a.1.2.2.2.2.1 x.2.1 k.1) x.2.1) (am (ax (aI a.1.2.2.2.2.1 x.2.1 k.1) x.2.1) λw9=>ao (ao (some ((a.1.1,a.1.2.1,a.1.2.2.1,a.1.2.2.2.1,aI (aI a.1.2.2.2.2.1 x.2.1 k.1) x.2.1 (v.1.1,()),()),v.2.1,0,())))))))))) (aA (a5 d.1.2.2.2.2.1 x.2.1) (am (ax d.1.2.2.2.2.1 x.2.1) λl0=>am (ax l0.1 b) λj0=>ad (a6 (ak j0) 0) (aD (aB (α:=D (.ah du iU)) (λf=>ad (ay f.2.1 (ak f.1.2.2.2.2.1)) (aA (a5 f.1.2.2.2.2.1 f.2.1) (am (ax f.1.2.2.2.2.1 f.2.1) λi0=>am (SW ((i0.1,()),b,())) λw=>aA (a5 f.1.2.2.2.2.1 f.2.1) (am (ax f.1.2.2.2.2.1 f.2.1) λv9=>aD (drF w.2.1 b f.1 f.2.1 w.1.1) λh0=>some (.inl (h0.1,ai .i64 f.2.1 1,()))))) (ao (some (.inl (f.1,()))))) 1000000000 (d.1,0,())) λg0=>aD (KB b g0.1) λh=>aA (a5 h.1.2.2.2.2.1 x.2.1) (am (ax h.1.2.2.2.2.1 x.2.1) λf0=>am (Dc ((f0.1,()),b,h.2.1,())) λn=>aA (a5 h.1.2.2.2.2.1 x.2.1) (am (ax h.1.2.2.2.2.1 x.2.1) λu9=>aA (a5 (aI h.1.2.2.2.2.1 x.2.1 n.1) x.2.1) (am (ax (aI h.1.2.2.2.2.1 x.2.1 n.1) x.2.1) λd0=>am (Df ((d0.1,()),b,())) λy=>aA (a5 (aI h.1.2.2.2.2.1 x.2.1 n.1) x.2.1) (am (ax (aI h.1.2.2.2.2.1 x.2.1 n.1) x.2.1) λt9=>ao (ao (some ((h.1.1,h.1.2.1,h.1.2.2.1,h.1.2.2.2.1,aI (aI h.1.2.2.2.2.1 x.2.1 n.1) x.2.1 (y.1.1,()),()),y.2.1,0,())))))))) (aA (a5 d.1.2.2.2.2.1 x.2.1) (am (ax d.1.2.2.2.2.1 x.2.1) λc0=>am (Df ((c0.1,()),b,())) λz=>aA (a5 d.1.2.2.2.2.1 x.2.1) (am (ax d.1.2.2.2.2.1 x.2.1) λs9=>ao (ao (some ((d.1.1,d.1.2.1,d.1.2.2.1,d.1.2.2.2.1,aI d.1.2.2.2.2.1 x.2.1 (z.1.1,()),()),z.2.1,0,()))))))))))) (some (.inl ((l.1.1,()),ai .i64 l.2.1 1,())))) (ao (some (.inl ((l.1.1,()),()))))) 1000000000 ((([],0,0,[],[],()),()),0,())) λr9=>some (([],0,0,[],[],()),0,16,()))))
def Of(x:D (.ah du (.ah iT (.ah .bool bU)))):Option (D (.ah du cU)):=ad (bL x.2.2.2.1) (ND x) none
theorem ZP(x:D (.ah du (.ah iT (.ah .bool bU)))):GM (vP MU.1 dU) [false,false,false,true] 1000 (.ah du (.ah iT (.ah .bool bU))) (.ah du cU) (hs [(0,[.box 8 [.v du]]),(1,kp [1,3,4] [.box 8 [.v du],.aL 12,.val 14 iT])]) Tryz.f151 (x.1,x.2.1,x.2.2.1,false,())=ND x:=by kernel_rfl
theorem Z6(x:D (.ah du (.ah iT (.ah .bool bU))))(h:bL x.2.2.2.1=true):(x.1,x.2.1,x.2.2.1,false,())=x:=by
 have h:x.2.2.2.1=false:=by simpa [bL]using h
 obtain⟨a,b,c,d,u⟩:=x;cases h;rfl
theorem aae:eA.fn.ap 151=some Tryz.f151:=by kernel_rfl
theorem aco:eA.ext.ap 151=none:=by kernel_rfl
def abD:KK:=⟨MU.1.set 151 ⟨.ah du (.ah iT (.ah .bool bU)),.ah du cU,Of⟩,ta MU.2 (Nk (hi:=dU) MU.2 aae aco (MO (b:=λ(x:D (.ah du (.ah iT (.ah .bool bU))))=>bL x.2.2.2.1) (q:=λ(x:D (.ah du (.ah iT (.ah .bool bU))))=>(x.1,x.2.1,x.2.2.1,false,())) Z6 ZP))⟩
def Oe(x:D iU):Option (D (.ah rN iU)):=ad (ay x.1 0) (some ((0,[],[],()),2,())) (ad (ay 4294967295 x.1) (some ((0,[],[],()),2,())) (some ((x.1,(x.1,0::0::0::0::0::0::0::0::[],())::[],[],()),0,())))
def abC:=kB dU abD 152 Tryz.f152 Tr.e Oe
def Td(x:D (.ah kk .un)):Option (D bU):=ad (cL 0 x.1.1) (ad (cL x.1.1 1073741824) (ad (ay 0 x.1.1) (some (true,())) (some (bL x.1.2.1,()))) (some (false,()))) (some (false,()))
def aaZ:=kB dU abC 222 Tryz.f222 Tr.e Td
def Od(x:D (.ah kk .un)):Option (D cU):=am (Td (x.1,())) λa=>ad (bL a.1) (some (0,1,())) (ad (ay 0 x.1.1) (ad (bL x.1.2.1) (some (bo .i64 x.1.1 1,0,())) (some (x.1.1,0,()))) (some (x.1.1,0,())))
def abB:=kB dU aaZ 153 Tryz.f153 Tr.e Od
def QT(c:D cc)(a:D (.ah (.ah fT .un) (.ah fT iU))):Option (Sum (D (.ah (.ah fT .un) (.ah fT iU))) (Sum (D (.ah (.ah fT .un) (.ah fT .un))) (D (.ah fT iU)))):=ad (ay a.2.2.1 (ak c.2.2.2.2.2.2.2.2.2.2.2.2.1)) (am (ax a.2.1.1.2.2.2.2.2.2.2.2.2.2.2.2.1 a.2.2.1) λf=>am (Og (a.2.1.2.2.2.2.2.2.2.2.2.1,f.1,1,())) λi=>ad (bH i.2.2.1 0) (ao (ao (some (zK,17,())))) (am (Of (a.2.1.2.2.2.2.2.2.1,0,true,false,())) λd=>ad (bH d.2.2.1 0) (ao (ao (some (zK,16,())))) (aA (a5 a.2.1.2.2.2.2.2.2.2.1 d.2.1) (am (ax a.2.1.2.2.2.2.2.2.2.1 d.2.1) λg=>aA (a5 (aI a.2.1.2.2.2.2.2.2.2.1 d.2.1 (1,g.2)) d.2.1) (am (ax (aI a.2.1.2.2.2.2.2.2.2.1 d.2.1 (1,g.2)) d.2.1) λe=>aA (a5 (aI (aI a.2.1.2.2.2.2.2.2.2.1 d.2.1 (1,g.2)) d.2.1 (e.1,e.2.1,f.1,e.2.2.2)) d.2.1) (am (ax (aI (aI a.2.1.2.2.2.2.2.2.2.1 d.2.1 (1,g.2)) d.2.1 (e.1,e.2.1,f.1,e.2.2.2)) d.2.1) λh=>am (Oe (d.2.1,())) λk=>am (JN (f.2.1,())) λl=>aA (gP (ak a.2.1.2.2.2.2.2.2.2.2.2.2.2.2.2.2.1) (ak a.2.1.2.2.2.2.2.2.2.2.2.2.2.2.2.2.1) 8) (aD (aB (α:=D (.ah xc iU)) (λb=>ad (ay b.2.1 (ak (er (α:=Int) (ak a.2.1.2.2.2.2.2.2.2.2.2.2.2.2.2.2.1) 0))) (am (ax a.2.1.2.2.2.2.2.2.2.2.2.2.2.2.2.2.1 b.2.1) λm=>am (Od (m.2.2.2.2.2.2.1,())) λn=>aA (a5 b.1.2.2.2.2.2.2.2.2.2.2.2.1 b.2.1) (am (ax b.1.2.2.2.2.2.2.2.2.2.2.2.1 b.2.1) λo=>some (.inl ((b.1.1,b.1.2.1,b.1.2.2.1,b.1.2.2.2.1,b.1.2.2.2.2.1,b.1.2.2.2.2.2.1,b.1.2.2.2.2.2.2.1,b.1.2.2.2.2.2.2.2.1,b.1.2.2.2.2.2.2.2.2.1,b.1.2.2.2.2.2.2.2.2.2.1,b.1.2.2.2.2.2.2.2.2.2.2.1,aI b.1.2.2.2.2.2.2.2.2.2.2.2.1 b.2.1 n.1,b.1.2.2.2.2.2.2.2.2.2.2.2.2),ai .i64 b.2.1 1,())))) (ao (some (.inl (b.1,()))))) 1000000000 ((0,0,-1,0,f.1,l.1,(0,0,0,0,(0,0,0,0,0,0,()),(),()),k.1,[],[],[],er (α:=Int) (ak a.2.1.2.2.2.2.2.2.2.2.2.2.2.2.2.2.1) 0,0,0,0,0,-1,()),0,())) λj=>aA (aO a.2.1.2.2.2.2.2.2.2.2.2.2.2.2.2.2.2.2.2.1 (j.1::[]) 360) (some (.inl ((a.1.1,()),(a.2.1.1,a.2.1.2.1,a.2.1.2.2.1,a.2.1.2.2.2.1,a.2.1.2.2.2.2.1,a.2.1.2.2.2.2.2.1,d.1,aI (aI (aI a.2.1.2.2.2.2.2.2.2.1 d.2.1 (1,g.2)) d.2.1 (e.1,e.2.1,f.1,e.2.2.2)) d.2.1 (h.1,h.2.1,h.2.2.1,a.2.2.1,h.2.2.2.2),a.2.1.2.2.2.2.2.2.2.2.1,i.1,a.2.1.2.2.2.2.2.2.2.2.2.2.1,a.2.1.2.2.2.2.2.2.2.2.2.2.2.1,a.2.1.2.2.2.2.2.2.2.2.2.2.2.2.1,a.2.1.2.2.2.2.2.2.2.2.2.2.2.2.2.1,a.2.1.2.2.2.2.2.2.2.2.2.2.2.2.2.2.1,a.2.1.2.2.2.2.2.2.2.2.2.2.2.2.2.2.2.1,a.2.1.2.2.2.2.2.2.2.2.2.2.2.2.2.2.2.2.1,aM a.2.1.2.2.2.2.2.2.2.2.2.2.2.2.2.2.2.2.2.1 (j.1::[]),a.2.1.2.2.2.2.2.2.2.2.2.2.2.2.2.2.2.2.2.2.1,a.2.1.2.2.2.2.2.2.2.2.2.2.2.2.2.2.2.2.2.2.2.1,()),ai .i64 a.2.2.1 1,())))))))))) (ao (some (.inl ((a.1.1,()),a.2.1,()))))
def Ho(x:D (.ah cc .un)):Option (D (.ah fT iU)):=am (L4 (x.1,())) λc=>ad (bH c.1 0) (some (zK,c.1,())) (am (VW (x.1,())) λb=>am (ax b.1 (bo .i64 (ak b.1) 1)) λj=>ad (ay j 1) (some (zK,9,())) (am (ax b.1 (bo .i64 (ak b.1) 1)) λk=>ad (ay 256 k) (some (zK,9,())) (am (VV (x.1,())) λm=>aD (Uy x.1 m.1) λn=>am (VT (x.1.1,x.1.2.2.1,x.1.2.2.2.1,x.1.2.1,())) λo=>am (Hn (x.1,())) λp=>aD (UW n.1 o.1 p.1) λa=>am (Zu (x.1.2.2.2.2.2.2.2.2.2.1,())) λe=>aA (aO a.1.2.2.2.2.2.2.2.2.2.1 x.1.2.2.2.2.2.2.2.2.2.2.2.1 40) (am (Zr ()) λf=>am (VP (x.1.2.2.2.2.2.2.1,())) λg=>am (Zq (x.1.2.2.2.2.2.2.2.1,())) λh=>am (VL (x.1,b.1,())) λd=>am (VJ (x.1.2.2.2.2.2.1,d.2.1,())) λi=>aD (aB (α:=D (.ah (.ah fT .un) (.ah fT iU))) (QT x.1) 1000000000 ((zK,()),(a.1.1,a.1.2.1,a.1.2.2.1,a.1.2.2.2.1,a.1.2.2.2.2.1,a.1.2.2.2.2.2.1,a.1.2.2.2.2.2.2.1,a.1.2.2.2.2.2.2.2.1,e.1,aM a.1.2.2.2.2.2.2.2.2.2.1 x.1.2.2.2.2.2.2.2.2.2.2.2.1,a.1.2.2.2.2.2.2.2.2.2.2.1,f.1,g.1,h.1,d.1,i.1,a.1.2.2.2.2.2.2.2.2.2.2.2.2.2.2.2.2.1,a.1.2.2.2.2.2.2.2.2.2.2.2.2.2.2.2.2.2.1,a.1.2.2.2.2.2.2.2.2.2.2.2.2.2.2.2.2.2.2.1,a.1.2.2.2.2.2.2.2.2.2.2.2.2.2.2.2.2.2.2.2.1,()),0,())) λl=>some (l.2.1,0,())))))
def k15:=kB dU abB 15 Tryz.f15 (hs [(0,kp [1,2,5] [.box 6 Pw]),(1,kp [1,2,5] [.box 6 Pw,.aL 45,.val 46 iT]),(4,kp [1,2,5] [.box 6 Pw]),(5,kp [1,2,5] [.box 6 Pw,.aL 9,.val 11 iT]),(8,[.box 2 [.v fT],.box 6 b8]),(9,[.box 2 [.v fT],.box 6 b8,.aL 146,.val 147 iT])]) Ho
def zG(x:D (.ah lI (.ah lI .un))):Option (D bU):=ad (bH (ak x.1) (ak x.2.1)) (some (false,())) (aD (aB (α:=D iU) (λa=>ad (ay a.1 (ak x.1)) (am (ax x.1 a.1) λb=>am (ax x.2.1 a.1) λc=>ad (bH b c) (ao (ao (some (false,())))) (some (.inl (ai .i64 a.1 1,())))) (ao (some (.inl ())))) 1000000000 (0,())) λd=>some (true,()))
def k68:=kB dU k15 68 Tryz.f68 (hs [(0,[]),(1,kp [0,1,12] [.val 13 iT])]) zG
def VH(x:D (.ah du (.ah du .un))):Option (D bU):=ad (bH x.1.2.1 x.2.1.2.1) (some (false,())) (ad (bH x.1.2.2.1 x.2.1.2.2.1) (some (false,())) (am (zG (x.1.1,x.2.1.1,())) λg=>ad (bL g.1) (some (false,())) (ad (bH (ak x.1.2.2.2.1) (ak x.2.1.2.2.2.1)) (some (false,())) (ad (bH (ak x.1.2.2.2.2.1) (ak x.2.1.2.2.2.2.1)) (some (false,())) (aD (aB (α:=D iU) (λe=>ad (ay e.1 (ak x.1.2.2.2.1)) (aD (am (ax x.1.2.2.2.1 e.1) λc=>am (ax x.2.1.2.2.2.1 e.1) λd=>ad (bH c.1 d.1) (ao (ao (ao (some (false,()))))) (ad (bH c.2.1 d.2.1) (ao (ao (ao (some (false,()))))) (ad (bH c.2.2.1 d.2.2.1) (ao (ao (ao (some (false,()))))) (ad (bH c.2.2.2.1 d.2.2.2.1) (ao (ao (ao (some (false,()))))) (ad (bH c.2.2.2.2.1 d.2.2.2.2.1) (ao (ao (ao (some (false,()))))) (aD (aB (α:=D iU) (λa=>ad (ay a.1 5) (aA (cV a.1) (aA (ay a.1 5) (am (ax c.2.2.2.2.2.1 a.1) λp=>aA (cV a.1) (aA (ay a.1 5) (am (ax d.2.2.2.2.2.1 a.1) λq=>am (zG (p,q,())) λr=>ad (bL r.1) (ao (ao (ao (ao (ao (some (false,()))))))) (some (.inl (ai .i64 a.1 1,())))))))) (ao (some (.inl ())))) 1000000000 (0,())) λw=>some (.inl ()))))))) λy=>some (.inl (ai .i64 e.1 1,()))) (ao (some (.inl ())))) 1000000000 (0,())) λs=>aD (aB (α:=D iU) (λb=>ad (ay b.1 (ak x.1.2.2.2.2.1)) (aD (am (ax x.1.2.2.2.2.1 b.1) λh=>am (ax x.2.1.2.2.2.2.1 b.1) λi=>ad (bH (ak h.1) (ak i.1)) (ao (ao (ao (some (false,()))))) (am (ax x.1.2.2.2.2.1 b.1) λj=>aD (aB (α:=D iU) (λf=>ad (ay f.1 (ak j.1)) (am (ax x.1.2.2.2.2.1 b.1) λk=>am (ax k.1 f.1) λl=>am (ax x.2.1.2.2.2.2.1 b.1) λm=>am (ax m.1 f.1) λn=>am (zG (l,n,())) λo=>ad (bL o.1) (ao (ao (ao (ao (ao (some (false,()))))))) (some (.inl (ai .i64 f.1 1,())))) (ao (some (.inl ())))) 1000000000 (0,())) λt=>some (.inl ()))) λu=>some (.inl (ai .i64 b.1 1,()))) (ao (some (.inl ())))) 1000000000 (0,())) λv=>some (true,()))))))
def k69:=kB dU k68 69 Tryz.f69 (hs [(0,kp [2,3] []),(1,kp [2,3,51] [.val 52 iT]),(2,kp [2,3,51,52] []),(4,kp [2,3,51,52] []),(5,kp [2,3,6,7,51,52] [.val 98 iT]),(8,[]),(9,kp [2,3,115] [.val 116 iT]),(10,kp [2,3,115,116] []),(12,kp [2,3,115,116] []),(13,kp [2,3,9,115,116,140] [.val 141 iT])]) VH
def yi(x:D (.ah (.bc (.int .u8)) (.ah (.bc (.int .u8)) .un))):Option (D bU):=aA (rp x.1) (aA (rp x.2.1) (some (RB (D7 x.1) (D7 x.2.1),())))
def abA:=kB dU k69 154 Tryz.f154 Tr.e yi
def VG(x:D (.ah ns (.ah ns .un))):Option (D bU):=ad (bH x.1.1 x.2.1.1) (some (false,())) (ad (bH x.1.2.1 x.2.1.2.1) (some (false,())) (ad (bH (ak x.1.2.2.1) (ak x.2.1.2.2.1)) (some (false,())) (ad (bH (ak x.1.2.2.2.1) (ak x.2.1.2.2.2.1)) (some (false,())) (ad (bH (ak x.1.2.2.2.2.1) (ak x.2.1.2.2.2.2.1)) (some (false,())) (aD (aB (α:=D iU) (λb=>ad (ay b.1 (ak x.1.2.2.1)) (am (ax x.1.2.2.1 b.1) λf=>am (ax x.2.1.2.2.1 b.1) λi=>am (yi (f,i,())) λj=>ad (bL j.1) (ao (ao (some (false,())))) (some (.inl (ai .i64 b.1 1,())))) (ao (some (.inl ())))) 1000000000 (0,())) λq=>aD (aB (α:=D iU) (λa=>ad (ay a.1 (ak x.1.2.2.2.1)) (am (ax x.1.2.2.2.1 a.1) λk=>am (ax x.2.1.2.2.2.1 a.1) λl=>ad (bH k.1 l.1) (ao (ao (some (false,())))) (am (ax x.1.2.2.2.1 a.1) λm=>am (ax x.2.1.2.2.2.1 a.1) λn=>am (yi (m.2.1,n.2.1,())) λg=>ad (bL g.1) (ao (ao (some (false,())))) (some (.inl (ai .i64 a.1 1,()))))) (ao (some (.inl ())))) 1000000000 (0,())) λo=>aD (aB (α:=D iU) (λc=>ad (ay c.1 (ak x.1.2.2.2.2.1)) (am (ax x.1.2.2.2.2.1 c.1) λd=>am (ax x.2.1.2.2.2.2.1 c.1) λe=>ad (bH d.1 e.1) (ao (ao (some (false,())))) (ad (bH d.2.1 e.2.1) (ao (ao (some (false,())))) (ad (bH d.2.2.1 e.2.2.1) (ao (ao (some (false,())))) (am (yi (d.2.2.2.1,e.2.2.2.1,())) λh=>ad (bL h.1) (ao (ao (some (false,())))) (some (.inl (ai .i64 c.1 1,()))))))) (ao (some (.inl ())))) 1000000000 (0,())) λp=>some (true,()))))))
def k70:=kB dU abA 70 Tryz.f70 (hs [(0,kp [2,3] []),(1,kp [2,3,51] [.val 52 iT]),(4,kp [2,3] []),(5,kp [2,3,70] [.val 71 iT]),(8,[]),(9,kp [2,3,106] [.val 107 iT])]) VG
def Gs{X b β:Type}(l:List X)(r:List b):Option (Sum Unit β):=aB (α:=D iU) (λa=>ad (ay a.1 (ak l)) (am (ax l a.1) λc=>am (ax r a.1) λd=>none) (ao (some (.inl ())))) 1000000000 (0,())
def Ob(x:D (.ah fT (.ah fT .un))):Option (D bU):=aD (aB (α:=D iU) (λa=>ad (ay a.1 (ak x.1.2.2.2.2.1)) (aD (am (ax x.1.2.2.2.2.1 a.1) λe=>am (ax x.2.1.2.2.2.2.1 a.1) λj=>ad (bH e.1 j.1) (ao (ao (ao (some (false,()))))) (am (ax x.1.2.2.2.2.1 a.1) λl=>am (ax x.2.1.2.2.2.2.1 a.1) λm=>ad (bH (ak l.2.1) (ak m.2.1)) (ao (ao (ao (some (false,()))))) (am (ax x.1.2.2.2.2.1 a.1) λn=>aD (aB (α:=D iU) (λd=>ad (ay d.1 (ak n.2.1)) (am (ax x.1.2.2.2.2.1 a.1) λo=>am (ax o.2.1 d.1) λA=>am (ax x.2.1.2.2.2.2.1 a.1) λp=>am (ax p.2.1 d.1) λq=>none) (ao (some (.inl ())))) 1000000000 (0,())) λr=>some (.inl ())))) λs=>some (.inl (ai .i64 a.1 1,()))) (ao (some (.inl ())))) 1000000000 (0,())) λt=>aD (aB (α:=D iU) (λb=>ad (ay b.1 (ak x.1.2.2.2.2.2.1)) (aD (am (ax x.1.2.2.2.2.2.1 b.1) λf=>am (ax x.2.1.2.2.2.2.2.1 b.1) λg=>ad (bH (ak f) (ak g)) (ao (ao (ao (some (false,()))))) (am (ax x.1.2.2.2.2.2.1 b.1) λh=>aD (aB (α:=D iU) (λc=>ad (ay c.1 (ak h)) (am (ax x.1.2.2.2.2.2.1 b.1) λi=>am (ax i c.1) λu=>am (ax x.2.1.2.2.2.2.2.1 b.1) λk=>am (ax k c.1) λv=>none) (ao (some (.inl ())))) 1000000000 (0,())) λw=>some (.inl ()))) λy=>some (.inl (ai .i64 b.1 1,()))) (ao (some (.inl ())))) 1000000000 (0,())) λz=>some (true,())
def abz:=kB dU k70 155 Tryz.f155 (hs [(0,kp [2,3] []),(1,kp [2,3,11] [.val 12 iT]),(2,kp [2,3,11,12] []),(4,kp [2,3,11,12] []),(5,kp [2,3,5,11,12,51] [.val 52 iT]),(8,[]),(9,kp [2,3,78] [.val 79 iT]),(10,kp [2,3,78,79] []),(12,kp [2,3,78,79] []),(13,kp [2,3,7,78,79,100] [.val 101 iT])]) Ob
def VF(x:D (.ah fT (.ah fT .un))):Option (D bU):=ad (bH (ak x.1.2.2.2.2.2.2.2.2.2.1) (ak x.2.1.2.2.2.2.2.2.2.2.2.1)) (some (false,())) (ad (bH (ak x.1.2.2.2.2.2.2.2.2.2.2.1) (ak x.2.1.2.2.2.2.2.2.2.2.2.2.1)) (some (false,())) (ad (bH (ak x.1.2.2.2.2.2.2.2.2.2.2.2.2.1) (ak x.2.1.2.2.2.2.2.2.2.2.2.2.2.2.1)) (some (false,())) (ad (bH (ak x.1.2.2.2.2.2.2.2.2.2.2.2.2.2.2.2.2.2.2.1) (ak x.2.1.2.2.2.2.2.2.2.2.2.2.2.2.2.2.2.2.2.2.1)) (some (false,())) (ad (bH (ak x.1.2.2.2.2.1) (ak x.2.1.2.2.2.2.1)) (some (false,())) (ad (bH (ak x.1.2.2.2.2.2.1) (ak x.2.1.2.2.2.2.2.1)) (some (false,())) (ad (bH (ak x.1.2.2.2.2.2.2.2.2.2.2.2.1) (ak x.2.1.2.2.2.2.2.2.2.2.2.2.2.1)) (some (false,())) (aD (aB (α:=D iU) (λc=>ad (ay c.1 (ak x.1.2.2.2.2.2.2.2.2.2.1)) (am (ax x.1.2.2.2.2.2.2.2.2.2.1 c.1) λa=>am (ax x.2.1.2.2.2.2.2.2.2.2.2.1 c.1) λb=>ad (bL (fc (a6 a.1 b.1) (fc (a6 a.2.1 b.2.1) (fc (a6 a.2.2.1 b.2.2.1) (fc (a6 a.2.2.2.1 b.2.2.2.1) (fc (a6 a.2.2.2.2.1 b.2.2.2.2.1) true)))))) (ao (ao (some (false,())))) (some (.inl (ai .i64 c.1 1,())))) (ao (some (.inl ())))) 1000000000 (0,())) λo=>aD (Gs x.1.2.2.2.2.2.2.2.2.2.2.1 x.2.1.2.2.2.2.2.2.2.2.2.2.1) λp=>aD (aB (α:=D iU) (λe=>ad (ay e.1 (ak x.1.2.2.2.2.2.2.2.2.2.2.2.2.1)) (am (ax x.1.2.2.2.2.2.2.2.2.2.2.2.2.1 e.1) λg=>am (ax x.2.1.2.2.2.2.2.2.2.2.2.2.2.2.1 e.1) λf=>ad (bL (fc (a6 g.1 f.1) (fc (a6 g.2.1 f.2.1) true))) (ao (ao (some (false,())))) (some (.inl (ai .i64 e.1 1,())))) (ao (some (.inl ())))) 1000000000 (0,())) λl=>aD (Gs x.1.2.2.2.2.2.2.2.2.2.2.2.2.2.2.2.2.2.2.1 x.2.1.2.2.2.2.2.2.2.2.2.2.2.2.2.2.2.2.2.2.1) λm=>aD (aB (α:=D iU) (λd=>ad (ay d.1 (ak x.1.2.2.2.2.2.2.2.2.2.2.2.1)) (am (ax x.1.2.2.2.2.2.2.2.2.2.2.2.1 d.1) λh=>am (ax x.2.1.2.2.2.2.2.2.2.2.2.2.2.1 d.1) λi=>am (zG (h,i,())) λj=>ad (bL j.1) (ao (ao (some (false,())))) (some (.inl (ai .i64 d.1 1,())))) (ao (some (.inl ())))) 1000000000 (0,())) λn=>am (Ob (x.1,x.2.1,())) λk=>some (k.1,()))))))))
def k71:=kB dU abz 71 Tryz.f71 (hs [(0,kp [2,3] []),(1,kp [2,3,73] [.val 74 iT]),(4,kp [2,3] []),(5,kp [2,3,91] [.val 92 iT]),(8,kp [2,3] []),(9,kp [2,3,109] [.val 110 iT]),(12,kp [2,3] []),(13,kp [2,3,127] [.val 128 iT]),(16,kp [2,3] []),(17,kp [2,3,145] [.val 146 iT])]) VF
def JM(x:D (.ah (.bc .bool) (.ah (.bc .bool) .un))):Option (D bU):=ad (bH (ak x.1) (ak x.2.1)) (some (false,())) (aD (aB (α:=D iU) (λa=>ad (ay a.1 (ak x.1)) (am (ax x.1 a.1) λb=>am (ax x.2.1 a.1) λc=>ad (bL (xS b c)) (ao (ao (some (false,())))) (some (.inl (ai .i64 a.1 1,())))) (ao (some (.inl ())))) 1000000000 (0,())) λd=>some (true,()))
def aby:=kB dU k71 156 Tryz.f156 (hs [(0,[]),(1,kp [0,1,12] [.val 13 iT])]) JM
def VE(x:D (.ah fT (.ah fT .un))):Option (D bU):=ad (bH x.1.2.2.2.2.2.2.2.2.1.1 x.2.1.2.2.2.2.2.2.2.2.1.1) (some (false,())) (ad (bH (ak x.1.2.2.2.2.2.2.2.2.1.2.1) (ak x.2.1.2.2.2.2.2.2.2.2.1.2.1)) (some (false,())) (ad (bH x.1.2.2.2.2.2.2.2.2.2.2.2.2.2.1.1 x.2.1.2.2.2.2.2.2.2.2.2.2.2.2.2.1.1) (some (false,())) (ad (bH (ak x.1.2.2.2.2.2.2.2.2.2.2.2.2.2.1.2.1) (ak x.2.1.2.2.2.2.2.2.2.2.2.2.2.2.2.1.2.1)) (some (false,())) (aD (aB (α:=D iU) (λa=>ad (ay a.1 (ak x.1.2.2.2.2.2.2.2.2.1.2.1)) (am (ax x.1.2.2.2.2.2.2.2.2.1.2.1 a.1) λe=>am (ax x.2.1.2.2.2.2.2.2.2.2.1.2.1 a.1) λh=>ad (bH e.1 h.1) (ao (ao (some (false,())))) (am (ax x.1.2.2.2.2.2.2.2.2.1.2.1 a.1) λi=>am (ax x.2.1.2.2.2.2.2.2.2.2.1.2.1 a.1) λj=>am (JM (i.2.1,j.2.1,())) λk=>ad (bL k.1) (ao (ao (some (false,())))) (some (.inl (ai .i64 a.1 1,()))))) (ao (some (.inl ())))) 1000000000 (0,())) λm=>aD (aB (α:=D iU) (λd=>ad (ay d.1 (ak x.1.2.2.2.2.2.2.2.2.2.2.2.2.2.1.2.1)) (am (ax x.1.2.2.2.2.2.2.2.2.2.2.2.2.2.1.2.1 d.1) λb=>am (ax x.2.1.2.2.2.2.2.2.2.2.2.2.2.2.2.1.2.1 d.1) λc=>ad (bH b.1 c.1) (ao (ao (some (false,())))) (ad (bH (bm (0,[],()) b.2.1 0).1 (bm (0,[],()) c.2.1 0).1) (ao (ao (some (false,())))) (ad (bH (bm (0,[],()) b.2.1 1).1 (bm (0,[],()) c.2.1 1).1) (ao (ao (some (false,())))) (am (yi ((bm (0,[],()) b.2.1 0).2.1,(bm (0,[],()) c.2.1 0).2.1,())) λf=>ad (bL f.1) (ao (ao (some (false,())))) (am (yi ((bm (0,[],()) b.2.1 1).2.1,(bm (0,[],()) c.2.1 1).2.1,())) λg=>ad (bL g.1) (ao (ao (some (false,())))) (some (.inl (ai .i64 d.1 1,())))))))) (ao (some (.inl ())))) 1000000000 (0,())) λl=>some (true,())))))
def k72:=kB dU aby 72 Tryz.f72 (hs [(0,kp [2,3] []),(1,kp [2,3,50] [.val 51 iT]),(4,[]),(5,kp [2,3,91] [.val 92 iT])]) VE
def N1(x:D (.ah Kh (.ah Kh .un))):Option (D bU):=ad (bH (bm 0 x.1.2.1 0) (bm 0 x.2.1.2.1 0)) (some (false,())) (ad (bH (bm 0 x.1.2.1 1) (bm 0 x.2.1.2.1 1)) (some (false,())) (aD (aB (α:=D iU) (λa=>ad (ay a.1 8) (aA (cV a.1) (aA (ay a.1 8) (am (ax x.1.1 a.1) λc=>aA (cV a.1) (aA (ay a.1 8) (am (ax x.2.1.1 a.1) λd=>ad (bH c d) (ao (ao (some (false,())))) (some (.inl (ai .i64 a.1 1,())))))))) (ao (some (.inl ())))) 1000000000 (0,())) λe=>aD (aB (α:=D iU) (λb=>ad (ay b.1 0) none (ao (some (.inl ())))) 1000000000 (0,())) λf=>some (true,())))
def aaY:=kB dU k72 223 Tryz.f223 (hs [(0,kp [2,3] []),(1,kp [2,3] [.val 5 iT]),(4,[]),(5,kp [2,3] [.val 6 iT])]) N1
def Oa(x:D (.ah yu (.ah yu .un))):Option (D bU):=ad (a6 x.1.1 x.2.1.1) (am (N1 (x.1.2.1,x.2.1.2.1,())) λa=>some (a.1,())) (some (false,()))
def abx:=kB dU aaY 157 Tryz.f157 Tr.e Oa
def VD(x:D (.ah fT (.ah fT .un))):Option (D bU):=ad (bH (ak x.1.2.2.2.2.2.2.2.2.2.2.2.2.2.2.1) (ak x.2.1.2.2.2.2.2.2.2.2.2.2.2.2.2.2.1)) (some (false,())) (ad (bH (ak x.1.2.2.2.2.2.2.2.2.2.2.2.2.2.2.2.2.2.2.2.1) (ak x.2.1.2.2.2.2.2.2.2.2.2.2.2.2.2.2.2.2.2.2.2.1)) (some (false,())) (aD (aB (α:=D iU) (λe=>ad (ay e.1 (ak x.1.2.2.2.2.2.2.2.2.2.2.2.2.2.2.1)) (am (ax x.1.2.2.2.2.2.2.2.2.2.2.2.2.2.2.1 e.1) λa=>am (ax x.2.1.2.2.2.2.2.2.2.2.2.2.2.2.2.2.1 e.1) λb=>ad (bH a.1 b.1) (ao (ao (some (false,())))) (ad (bH a.2.1 b.2.1) (ao (ao (some (false,())))) (ad (bH a.2.2.1 b.2.2.1) (ao (ao (some (false,())))) (ad (bH a.2.2.2.1 b.2.2.2.1) (ao (ao (some (false,())))) (ad (bH a.2.2.2.2.1 b.2.2.2.2.1) (ao (ao (some (false,())))) (ad (bL (xS a.2.2.2.2.2.1 b.2.2.2.2.2.1)) (ao (ao (some (false,())))) (ad (bL (fc (a6 a.2.2.2.2.2.2.1.1 b.2.2.2.2.2.2.1.1) (fc (xS a.2.2.2.2.2.2.1.2.1 b.2.2.2.2.2.2.1.2.1) true))) (ao (ao (some (false,())))) (am (Oa (a.2.2.2.2.2.2.2.1,b.2.2.2.2.2.2.2.1,())) λg=>ad (bL g.1) (ao (ao (some (false,())))) (am (JM (a.2.2.2.2.2.2.2.2.1,b.2.2.2.2.2.2.2.2.1,())) λh=>ad (bL h.1) (ao (ao (some (false,())))) (some (.inl (ai .i64 e.1 1,())))))))))))) (ao (some (.inl ())))) 1000000000 (0,())) λl=>aD (aB (α:=D iU) (λf=>ad (ay f.1 (ak x.1.2.2.2.2.2.2.2.2.2.2.2.2.2.2.2.2.2.2.2.1)) (aD (am (ax x.1.2.2.2.2.2.2.2.2.2.2.2.2.2.2.2.2.2.2.2.1 f.1) λc=>am (ax x.2.1.2.2.2.2.2.2.2.2.2.2.2.2.2.2.2.2.2.2.2.1 f.1) λd=>ad (bH c.1 d.1) (ao (ao (ao (some (false,()))))) (ad (bH c.2.1 d.2.1) (ao (ao (ao (some (false,()))))) (ad (bL (xS c.2.2.1 d.2.2.1)) (ao (ao (ao (some (false,()))))) (ad (bH c.2.2.2.1 d.2.2.2.1) (ao (ao (ao (some (false,()))))) (ad (bH (ak c.2.2.2.2.1) (ak d.2.2.2.2.1)) (ao (ao (ao (some (false,()))))) (aD (Gs c.2.2.2.2.1 d.2.2.2.2.1) λi=>some (.inl ()))))))) λj=>some (.inl (ai .i64 f.1 1,()))) (ao (some (.inl ())))) 1000000000 (0,())) λk=>some (true,())))
def k73:=kB dU abx 73 Tryz.f73 (hs [(0,kp [2,3] []),(1,kp [2,3,30] [.val 31 iT]),(4,[]),(5,kp [2,3,110] [.val 111 iT]),(6,kp [2,3,110,111] []),(8,kp [2,3,110,111] []),(9,kp [2,3,9,10,110,111,161] [.val 162 iT])]) VD
def VC(x:D (.ah vU (.ah vU .un))):Option (D bU):=ad (bH x.1.1 x.2.1.1) (some (false,())) (ad (bH x.1.2.1 x.2.1.2.1) (some (false,())) (ad (bH x.1.2.2.1 x.2.1.2.2.1) (some (false,())) (ad (bH x.1.2.2.2.1 x.2.1.2.2.2.1) (some (false,())) (ad (bH x.1.2.2.2.2.1 x.2.1.2.2.2.2.1) (some (false,())) (ad (bH x.1.2.2.2.2.2.1 x.2.1.2.2.2.2.2.1) (some (false,())) (ad (bH x.1.2.2.2.2.2.2.1 x.2.1.2.2.2.2.2.2.1) (some (false,())) (ad (bH x.1.2.2.2.2.2.2.2.1 x.2.1.2.2.2.2.2.2.2.1) (some (false,())) (ad (bH x.1.2.2.2.2.2.2.2.2.1 x.2.1.2.2.2.2.2.2.2.2.1) (some (false,())) (ad (bH x.1.2.2.2.2.2.2.2.2.2.1 x.2.1.2.2.2.2.2.2.2.2.2.1) (some (false,())) (ad (bL (xS x.1.2.2.2.2.2.2.2.2.2.2.1 x.2.1.2.2.2.2.2.2.2.2.2.2.1)) (some (false,())) (ad (bL (xS x.1.2.2.2.2.2.2.2.2.2.2.2.1 x.2.1.2.2.2.2.2.2.2.2.2.2.2.1)) (some (false,())) (ad (bL (xS x.1.2.2.2.2.2.2.2.2.2.2.2.2.1 x.2.1.2.2.2.2.2.2.2.2.2.2.2.2.1)) (some (false,())) (ad (bH x.1.2.2.2.2.2.2.2.2.2.2.2.2.2.1 x.2.1.2.2.2.2.2.2.2.2.2.2.2.2.2.1) (some (false,())) (ad (bH (ak x.1.2.2.2.2.2.2.2.2.2.2.2.2.2.2.1) (ak x.2.1.2.2.2.2.2.2.2.2.2.2.2.2.2.2.1)) (some (false,())) (am (yi (x.1.2.2.2.2.2.2.2.2.2.2.2.2.2.2.2.1,x.2.1.2.2.2.2.2.2.2.2.2.2.2.2.2.2.2.1,())) λa=>ad (bL a.1) (some (false,())) (aD (Gs x.1.2.2.2.2.2.2.2.2.2.2.2.2.2.2.1 x.2.1.2.2.2.2.2.2.2.2.2.2.2.2.2.2.1) λb=>some (true,())))))))))))))))))
def k74:=kB dU k73 74 Tryz.f74 (hs [(0,[]),(1,kp [2,3,119] [.val 120 iT])]) VC
def N9(x:D (.ah Hw (.ah Hw .un))):Option (D bU):=ad (bH x.1.1 x.2.1.1) (some (false,())) (ad (bH x.1.2.1 x.2.1.2.1) (some (false,())) (ad (bH x.1.2.2.1 x.2.1.2.2.1) (some (false,())) (ad (bH x.1.2.2.2.1 x.2.1.2.2.2.1) (some (false,())) (ad (bL (fc (a6 x.1.2.2.2.2.1.1 x.2.1.2.2.2.2.1.1) (fc (a6 x.1.2.2.2.2.1.2.1 x.2.1.2.2.2.2.1.2.1) (fc (a6 x.1.2.2.2.2.1.2.2.1 x.2.1.2.2.2.2.1.2.2.1) (fc (a6 x.1.2.2.2.2.1.2.2.2.1 x.2.1.2.2.2.2.1.2.2.2.1) (fc (a6 x.1.2.2.2.2.1.2.2.2.2.1 x.2.1.2.2.2.2.1.2.2.2.2.1) (fc (a6 x.1.2.2.2.2.1.2.2.2.2.2.1 x.2.1.2.2.2.2.1.2.2.2.2.2.1) true))))))) (some (false,())) (aD (aB (α:=D iU) (λa=>ad (ay a.1 0) none (ao (some (.inl ())))) 1000000000 (0,())) λb=>some (true,()))))))
def abw:=kB dU k74 158 Tryz.f158 (hs [(0,[]),(1,kp [2,3,50] [.val 51 iT])]) N9
def N8(x:D (.ah rN (.ah rN .un))):Option (D bU):=ad (bH x.1.1 x.2.1.1) (some (false,())) (ad (bH (ak x.1.2.1) (ak x.2.1.2.1)) (some (false,())) (ad (bH (ak x.1.2.2.1) (ak x.2.1.2.2.1)) (some (false,())) (aD (aB (α:=D iU) (λc=>ad (ay c.1 (ak x.1.2.1)) (am (ax x.1.2.1 c.1) λa=>am (ax x.2.1.2.1 c.1) λb=>ad (bL (fc (a6 a.1 b.1) (fc (a6 (bm 0 a.2.1 0) (bm 0 b.2.1 0)) (fc (a6 (bm 0 a.2.1 1) (bm 0 b.2.1 1)) (fc (a6 (bm 0 a.2.1 2) (bm 0 b.2.1 2)) (fc (a6 (bm 0 a.2.1 3) (bm 0 b.2.1 3)) (fc (a6 (bm 0 a.2.1 4) (bm 0 b.2.1 4)) (fc (a6 (bm 0 a.2.1 5) (bm 0 b.2.1 5)) (fc (a6 (bm 0 a.2.1 6) (bm 0 b.2.1 6)) (fc (a6 (bm 0 a.2.1 7) (bm 0 b.2.1 7)) true)))))))))) (ao (ao (some (false,())))) (some (.inl (ai .i64 c.1 1,())))) (ao (some (.inl ())))) 1000000000 (0,())) λd=>aD (Gs x.1.2.2.1 x.2.1.2.2.1) λe=>some (true,()))))
def abv:=kB dU abw 159 Tryz.f159 (hs [(0,kp [2,3] []),(1,kp [2,3,32] [.val 33 iT]),(4,[]),(5,kp [2,3,50] [.val 51 iT])]) N8
def VB(x:D (.ah xc (.ah xc .un))):Option (D bU):=ad (bH x.1.1 x.2.1.1) (some (false,())) (ad (bH x.1.2.1 x.2.1.2.1) (some (false,())) (ad (bH x.1.2.2.1 x.2.1.2.2.1) (some (false,())) (ad (bH x.1.2.2.2.1 x.2.1.2.2.2.1) (some (false,())) (ad (bH x.1.2.2.2.2.1 x.2.1.2.2.2.2.1) (some (false,())) (ad (bH x.1.2.2.2.2.2.2.2.2.2.2.2.2.1 x.2.1.2.2.2.2.2.2.2.2.2.2.2.2.1) (some (false,())) (ad (bH x.1.2.2.2.2.2.2.2.2.2.2.2.2.2.1 x.2.1.2.2.2.2.2.2.2.2.2.2.2.2.2.1) (some (false,())) (ad (bH x.1.2.2.2.2.2.2.2.2.2.2.2.2.2.2.1 x.2.1.2.2.2.2.2.2.2.2.2.2.2.2.2.2.1) (some (false,())) (ad (bH x.1.2.2.2.2.2.2.2.2.2.2.2.2.2.2.2.1 x.2.1.2.2.2.2.2.2.2.2.2.2.2.2.2.2.2.1) (some (false,())) (ad (bH x.1.2.2.2.2.2.2.2.2.2.2.2.2.2.2.2.2.1 x.2.1.2.2.2.2.2.2.2.2.2.2.2.2.2.2.2.2.1) (some (false,())) (ad (bH (ak x.1.2.2.2.2.2.1) (ak x.2.1.2.2.2.2.2.1)) (some (false,())) (am (N9 (x.1.2.2.2.2.2.2.1,x.2.1.2.2.2.2.2.2.1,())) λd=>ad (bL d.1) (some (false,())) (am (N8 (x.1.2.2.2.2.2.2.2.1,x.2.1.2.2.2.2.2.2.2.1,())) λe=>ad (bL e.1) (some (false,())) (am (zG (x.1.2.2.2.2.2.2.2.2.1,x.2.1.2.2.2.2.2.2.2.2.1,())) λf=>ad (bL f.1) (some (false,())) (am (zG (x.1.2.2.2.2.2.2.2.2.2.1,x.2.1.2.2.2.2.2.2.2.2.2.1,())) λg=>ad (bL g.1) (some (false,())) (am (zG (x.1.2.2.2.2.2.2.2.2.2.2.1,x.2.1.2.2.2.2.2.2.2.2.2.2.1,())) λh=>ad (bL h.1) (some (false,())) (am (zG (x.1.2.2.2.2.2.2.2.2.2.2.2.1,x.2.1.2.2.2.2.2.2.2.2.2.2.2.1,())) λi=>ad (bL i.1) (some (false,())) (aD (aB (α:=D iU) (λc=>ad (ay c.1 (ak x.1.2.2.2.2.2.1)) (am (ax x.1.2.2.2.2.2.1 c.1) λa=>am (ax x.2.1.2.2.2.2.2.1 c.1) λb=>ad (bL (fc (a6 a.1 b.1) (fc (a6 a.2.1 b.2.1) (fc (a6 a.2.2.1 b.2.2.1) (fc (a6 a.2.2.2.1 b.2.2.2.1) (fc (a6 a.2.2.2.2.1 b.2.2.2.2.1) (fc (a6 a.2.2.2.2.2.1 b.2.2.2.2.2.1) (fc (a6 a.2.2.2.2.2.2.1 b.2.2.2.2.2.2.1) (fc (a6 a.2.2.2.2.2.2.2.1 b.2.2.2.2.2.2.2.1) true))))))))) (ao (ao (some (false,())))) (some (.inl (ai .i64 c.1 1,())))) (ao (some (.inl ())))) 1000000000 (0,())) λj=>some (true,()))))))))))))))))))
def k75:=kB dU abv 75 Tryz.f75 (hs [(0,[]),(1,kp [2,3,131] [.val 132 iT])]) VB
def DZ(x:D (.ah fT (.ah fT .un))):Option (D bU):=ad (bH x.1.2.1 x.2.1.2.1) (some (false,())) (ad (bH x.1.2.2.1 x.2.1.2.2.1) (some (false,())) (am (zG (x.1.2.2.2.1,x.2.1.2.2.2.1,())) λc=>ad (bL c.1) (some (false,())) (am (zG (x.1.2.2.2.2.2.2.2.2.2.2.2.2.2.2.2.2.1,x.2.1.2.2.2.2.2.2.2.2.2.2.2.2.2.2.2.2.1,())) λd=>ad (bL d.1) (some (false,())) (ad (bH (ak x.1.2.2.2.2.2.2.2.1) (ak x.2.1.2.2.2.2.2.2.2.1)) (some (false,())) (ad (bH (ak x.1.2.2.2.2.2.2.2.2.2.2.2.2.2.2.2.2.2.1) (ak x.2.1.2.2.2.2.2.2.2.2.2.2.2.2.2.2.2.2.2.1)) (some (false,())) (am (VH (x.1.2.2.2.2.2.2.1,x.2.1.2.2.2.2.2.2.1,())) λi=>ad (bL i.1) (some (false,())) (am (VG (x.1.2.2.2.2.2.2.2.2.2.2.2.2.2.2.2.1,x.2.1.2.2.2.2.2.2.2.2.2.2.2.2.2.2.2.1,())) λj=>ad (bL j.1) (some (false,())) (am (VF (x.1,x.2.1,())) λk=>ad (bL k.1) (some (false,())) (am (VE (x.1,x.2.1,())) λl=>ad (bL l.1) (some (false,())) (am (VD (x.1,x.2.1,())) λm=>ad (bL m.1) (some (false,())) (aD (aB (α:=D iU) (λb=>ad (ay b.1 (ak x.1.2.2.2.2.2.2.2.1)) (am (ax x.1.2.2.2.2.2.2.2.1 b.1) λn=>am (ax x.2.1.2.2.2.2.2.2.2.1 b.1) λo=>am (VC (n,o,())) λe=>ad (bL e.1) (ao (ao (some (false,())))) (some (.inl (ai .i64 b.1 1,())))) (ao (some (.inl ())))) 1000000000 (0,())) λp=>aD (aB (α:=D iU) (λa=>ad (ay a.1 (ak x.1.2.2.2.2.2.2.2.2.2.2.2.2.2.2.2.2.2.1)) (am (ax x.1.2.2.2.2.2.2.2.2.2.2.2.2.2.2.2.2.2.1 a.1) λf=>am (ax x.2.1.2.2.2.2.2.2.2.2.2.2.2.2.2.2.2.2.2.1 a.1) λg=>am (VB (f,g,())) λh=>ad (bL h.1) (ao (ao (some (false,())))) (some (.inl (ai .i64 a.1 1,())))) (ao (some (.inl ())))) 1000000000 (0,())) λq=>some (true,()))))))))))))
def k16:=kB dU k75 16 Tryz.f16 (hs [(0,kp [2,3] []),(1,kp [2,3,87] [.val 88 iT]),(4,[]),(5,kp [2,3,106] [.val 107 iT])]) DZ
def F4(x:D (.ah cc .un)):Option (D bU):=am (D0 (x.1,())) λc=>ad (bL c.1) (some (true,())) (am (yj (x.1,())) λa=>am (Ho (x.1,())) λb=>ad (a6 a.2.1 b.2.1) (am (DZ (a.1,b.1,())) λd=>ad d.1 (some (true,())) (some (false,()))) (some (false,())))
theorem n4:eA.fn.ap 4=some Tryz.f4:=by kernel_rfl
theorem e4:eA.ext.ap 4=none:=by kernel_rfl
def k4:=kB dU k16 4 Tryz.f4 Tr.e F4
end Go.Bo
set_option maxRecDepth 100000
namespace Go.Bo
open Go Go.Hm Go.Ls Go.Proofs
theorem c78:gu eA 78:=gn (fn:=Tryz.f78) (a:= "slices.go:355") (b:= "slices.go:357") (c:= "slices.go:358") (d:= "slices.go:362") (by kernel_rfl) (by kernel_rfl) (by kernel_rfl) (by kernel_rfl) λt h=>by have h:[42]=[t]:=h;cases h;exact⟨by kernel_rfl,tb (by kernel_rfl)⟩
theorem c79:gu eA 79:=gn (fn:=Tryz.f79) (a:= "slices.go:355") (b:= "slices.go:357") (c:= "slices.go:358") (d:= "slices.go:362") (by kernel_rfl) (by kernel_rfl) (by kernel_rfl) (by kernel_rfl) λt h=>by have h:[44]=[t]:=h;cases h;exact⟨by kernel_rfl,tb (by kernel_rfl)⟩
theorem c80:gu eA 80:=gn (fn:=Tryz.f80) (a:= "slices.go:355") (b:= "slices.go:357") (c:= "slices.go:358") (d:= "slices.go:362") (by kernel_rfl) (by kernel_rfl) (by kernel_rfl) (by kernel_rfl) λt h=>by have h:[55]=[t]:=h;cases h;exact⟨by kernel_rfl,tb (by kernel_rfl)⟩
theorem c83:gu eA 83:=gn (fn:=Tryz.f83) (a:= "slices.go:355") (b:= "slices.go:357") (c:= "slices.go:358") (d:= "slices.go:362") (by kernel_rfl) (by kernel_rfl) (by kernel_rfl) (by kernel_rfl) λt h=>by have h:[112]=[t]:=h;cases h;exact⟨by kernel_rfl,tb (by kernel_rfl)⟩
theorem c85:gu eA 85:=gn (fn:=Tryz.f85) (a:= "slices.go:355") (b:= "slices.go:357") (c:= "slices.go:358") (d:= "slices.go:362") (by kernel_rfl) (by kernel_rfl) (by kernel_rfl) (by kernel_rfl) λt h=>by have h:[161]=[t]:=h;cases h;exact⟨by kernel_rfl,tb (by kernel_rfl)⟩
theorem acB:gu eA 165:=gn (fn:=Tryz.f165) (a:= "slices.go:355") (b:= "slices.go:357") (c:= "slices.go:358") (d:= "slices.go:362") (by kernel_rfl) (by kernel_rfl) (by kernel_rfl) (by kernel_rfl) λt h=>by have h:[84]=[t]:=h;cases h;exact⟨by kernel_rfl,tb (by kernel_rfl)⟩
theorem c91:gu eA 91:=gn (fn:=Tryz.f91) (a:= "slices.go:355") (b:= "slices.go:357") (c:= "slices.go:358") (d:= "slices.go:362") (by kernel_rfl) (by kernel_rfl) (by kernel_rfl) (by kernel_rfl) λt h=>by have h:[65]=[t]:=h;cases h;exact⟨by kernel_rfl,tb (by kernel_rfl)⟩
theorem acA:gu eA 173:=gn (fn:=Tryz.f173) (a:= "slices.go:355") (b:= "slices.go:357") (c:= "slices.go:358") (d:= "slices.go:362") (by kernel_rfl) (by kernel_rfl) (by kernel_rfl) (by kernel_rfl) λt h=>by have h:[78]=[t]:=h;cases h;exact⟨by kernel_rfl,tb (by kernel_rfl)⟩
theorem acz:gu eA 174:=gn (fn:=Tryz.f174) (a:= "slices.go:355") (b:= "slices.go:357") (c:= "slices.go:358") (d:= "slices.go:362") (by kernel_rfl) (by kernel_rfl) (by kernel_rfl) (by kernel_rfl) λt h=>by have h:[79]=[t]:=h;cases h;exact⟨by kernel_rfl,tb (by kernel_rfl)⟩
theorem acG:gu eA 102:=gn (fn:=Tryz.f102) (a:= "slices.go:355") (b:= "slices.go:357") (c:= "slices.go:358") (d:= "slices.go:362") (by kernel_rfl) (by kernel_rfl) (by kernel_rfl) (by kernel_rfl) λt h=>by have h:[198]=[t]:=h;cases h;exact⟨by kernel_rfl,tb (by kernel_rfl)⟩
def XX:Tr Nat:=((((((((((XW).set 78 2).set 79 2).set 80 2).set 83 2).set 85 2).set 165 2).set 91 2).set 173 2).set 174 2).set 102 2
theorem Mq{ct:Tr rA}:∀f q,XX.ap f=some q->nE eA ct f q:=iz (iz (iz (iz (iz (iz (iz (iz (iz (iz FY (kQ c78)) (kQ c79)) (kQ c80)) (kQ c83)) (kQ c85)) (kQ acB)) (kQ c91)) (kQ acA)) (kQ acz)) (kQ acG)
def acf:Tr (Tr (List Hi)):=(((((((((((((((((((((((((((((((((((((Tr.e).set 182 (((Tr.e).set 0 []).set 1 [.aL 0,.aL 1,.aL 7,.val 8 iT])).set 43 Tr.e).set 119 (((Tr.e).set 0 [.own 5 og]).set 1 [.aL 1,.own 5 og,.aL 8,.aL 9,.val 10 iT])).set 120 Tr.e).set 122 (((Tr.e).set 0 [.own 5 tW]).set 1 [.aL 1,.own 5 tW,.aL 8,.aL 9,.val 10 iT])).set 123 Tr.e).set 81 (((Tr.e).set 0 [.own 5 kO]).set 1 [.aL 1,.own 5 kO,.aL 8,.aL 9,.val 10 iT])).set 82 Tr.e).set 84 (((Tr.e).set 0 [.own 5 wy]).set 1 [.aL 1,.own 5 wy,.aL 8,.aL 9,.val 10 iT])).set 161 (((Tr.e).set 0 [.own 5 eH]).set 1 [.aL 1,.own 5 eH,.aL 8,.aL 9,.val 10 iT])).set 162 Tr.e).set 163 (((Tr.e).set 0 [.own 5 fu]).set 1 [.aL 1,.own 5 fu,.aL 8,.aL 9,.val 10 iT])).set 92 (((Tr.e).set 0 [.own 5 lI]).set 1 [.aL 1,.own 5 lI,.aL 8,.aL 9,.val 10 iT])).set 164 Tr.e).set 86 Tr.e).set 87 (((Tr.e).set 0 [.own 5 vU]).set 1 [.aL 1,.own 5 vU,.aL 8,.aL 9,.val 10 iT])).set 88 Tr.e).set 89 (((Tr.e).set 0 [.own 5 Kj]).set 1 [.aL 1,.own 5 Kj,.aL 8,.aL 9,.val 10 iT])).set 90 Tr.e).set 93 (((Tr.e).set 0 [.own 5 Ki]).set 1 [.aL 1,.own 5 Ki,.aL 8,.aL 9,.val 10 iT])).set 94 Tr.e).set 95 (((Tr.e).set 0 [.own 5 jZ]).set 1 [.aL 1,.own 5 jZ,.aL 8,.aL 9,.val 10 iT])).set 224 (((Tr.e).set 0 [.val 5 .nil]).set 1 [.aL 1,.val 5 .nil,.aL 8,.aL 9,.val 10 iT])).set 166 Tr.e).set 96 Tr.e).set 167 (((Tr.e).set 0 [.own 5 (.bc (.int .u8))]).set 1 [.aL 1,.own 5 (.bc (.int .u8)),.aL 8,.aL 9,.val 10 iT])).set 168 (((Tr.e).set 0 [.own 5 og]).set 1 [.aL 1,.own 5 og,.aL 8,.aL 9,.val 10 iT])).set 169 Tr.e).set 170 (((Tr.e).set 0 [.own 5 yt]).set 1 [.aL 1,.own 5 yt,.aL 8,.aL 9,.val 10 iT])).set 171 Tr.e).set 97 Tr.e).set 98 (((Tr.e).set 0 [.own 5 xc]).set 1 [.aL 1,.own 5 xc,.aL 8,.aL 9,.val 10 iT])).set 225 (((Tr.e).set 0 [.val 5 .nil]).set 1 [.aL 1,.val 5 .nil,.aL 8,.aL 9,.val 10 iT])).set 172 Tr.e).set 99 Tr.e).set 100 (((Tr.e).set 0 [.own 5 Kg]).set 1 [.aL 1,.own 5 Kg,.aL 8,.aL 9,.val 10 iT])).set 101 Tr.e
def cyC:Cy:=⟨eA,zj Tryz.prog [75,186] 20,Tr.e,acf,XX,X2⟩
def PY(x:D (.ah fT .un)):Option (D (.ah fT .un)):=aA (aO [] x.1.1.1 8) (aA (aO [] x.1.1.2.1 32) (aA (aO [] x.1.1.2.2.2.2.2.2.2.2.2.2.2.1 40) (aD (aB (α:=D (.ah Mg iU)) (λh=>ad (ay h.2.1 (ak x.1.1.2.2.2.2.2.2.2.2.2.2.1)) (am (ax x.1.1.2.2.2.2.2.2.2.2.2.2.1 h.2.1) λz=>aA (aO [] z.2.1 1) (aA (aO h.1 ((z.1,aM [] z.2.1,())::[]) 32) (some (.inl (aM h.1 ((z.1,aM [] z.2.1,())::[]),ai .i64 h.2.1 1,()))))) (ao (some (.inl (h.1,()))))) 1000000000 ([],0,())) λo0=>aD (aB (α:=D (.ah WM iU)) (λo=>ad (ay o.2.1 (ak x.1.1.2.2.2.2.2.2.2.2.2.2.2.2.1)) (am (ax x.1.1.2.2.2.2.2.2.2.2.2.2.2.2.1 o.2.1) λB=>aA (aO [] B.2.1 64) (aA (aO o.1 ((B.1,aM [] B.2.1,())::[]) 32) (some (.inl (aM o.1 ((B.1,aM [] B.2.1,())::[]),ai .i64 o.2.1 1,()))))) (ao (some (.inl (o.1,()))))) 1000000000 ([],0,())) λe0=>aA (aO [] x.1.2.2.2.1 8) (aA (aO [] x.1.2.2.2.2.2.2.2.2.2.1 40) (aA (aO [] x.1.2.2.2.2.2.2.2.2.2.2.1 32) (aA (aO [] x.1.2.2.2.2.2.2.2.2.2.2.2.2.1 16) (aA (aO [] x.1.2.2.2.2.2.2.2.2.2.2.2.2.2.2.2.2.1 8) (aA (aO [] x.1.2.2.2.2.2.2.2.2.2.2.2.2.2.2.2.2.2.2.1 88) (aD (aB (α:=D (.ah WL iU)) (λw=>ad (ay w.2.1 (ak x.1.2.2.2.2.1)) (am (ax x.1.2.2.2.2.1 w.2.1) λz0=>aA (aO [] z0.2.1 24) (aA (aO w.1 ((z0.1,aM [] z0.2.1,())::[]) 32) (some (.inl (aM w.1 ((z0.1,aM [] z0.2.1,())::[]),ai .i64 w.2.1 1,()))))) (ao (some (.inl (w.1,()))))) 1000000000 ([],0,())) λb0=>aD (aB (α:=D (.ah WK iU)) (λy=>ad (ay y.2.1 (ak x.1.2.2.2.2.2.1)) (am (ax x.1.2.2.2.2.2.1 y.2.1) λy0=>aA (aO [] y0 24) (aA (aO y.1 (aM [] y0::[]) 24) (some (.inl (aM y.1 (aM [] y0::[]),ai .i64 y.2.1 1,()))))) (ao (some (.inl (y.1,()))))) 1000000000 ([],0,())) λq0=>aA (aO [] x.1.2.2.2.2.2.2.1.1 8) (aD (aB (α:=D (.ah xd iU)) (λi=>ad (ay i.2.1 (ak x.1.2.2.2.2.2.2.1.2.2.2.1)) (am (ax x.1.2.2.2.2.2.2.1.2.2.2.1 i.2.1) λc=>aA (aO [] (bm [] c.2.2.2.2.2.1 0) 8) (aA (aO [] (bm [] c.2.2.2.2.2.1 1) 8) (aA (aO [] (bm [] c.2.2.2.2.2.1 2) 8) (aA (aO [] (bm [] c.2.2.2.2.2.1 3) 8) (aA (aO [] (bm [] c.2.2.2.2.2.1 4) 8) (aA (aO i.1 ((c.1,c.2.1,c.2.2.1,c.2.2.2.1,c.2.2.2.2.1,aM [] (bm [] c.2.2.2.2.2.1 0)::aM [] (bm [] c.2.2.2.2.2.1 1)::aM [] (bm [] c.2.2.2.2.2.1 2)::aM [] (bm [] c.2.2.2.2.2.1 3)::aM [] (bm [] c.2.2.2.2.2.1 4)::[],())::[]) 160) (some (.inl (aM i.1 ((c.1,c.2.1,c.2.2.1,c.2.2.2.1,c.2.2.2.2.1,aM [] (bm [] c.2.2.2.2.2.1 0)::aM [] (bm [] c.2.2.2.2.2.1 1)::aM [] (bm [] c.2.2.2.2.2.1 2)::aM [] (bm [] c.2.2.2.2.2.1 3)::aM [] (bm [] c.2.2.2.2.2.1 4)::[],())::[]),ai .i64 i.2.1 1,()))))))))) (ao (some (.inl (i.1,()))))) 1000000000 ([],0,())) λp0=>aD (aB (α:=D (.ah WJ iU)) (λj=>ad (ay j.2.1 (ak x.1.2.2.2.2.2.2.1.2.2.2.2.1)) (am (ax x.1.2.2.2.2.2.2.1.2.2.2.2.1 j.2.1) λu0=>aD (aB (α:=D (.ah (.bc lI) iU)) (λk=>ad (ay k.2.1 (ak u0.1)) (am (ax u0.1 k.2.1) λx0=>aA (aO [] x0 8) (aA (aO k.1 (aM [] x0::[]) 24) (some (.inl (aM k.1 (aM [] x0::[]),ai .i64 k.2.1 1,()))))) (ao (some (.inl (k.1,()))))) 1000000000 ([],0,())) λt0=>aA (aO j.1 ((t0.1,())::[]) 24) (some (.inl (aM j.1 ((t0.1,())::[]),ai .i64 j.2.1 1,())))) (ao (some (.inl (j.1,()))))) 1000000000 ([],0,())) λn0=>aD (aB (α:=D (.ah WH iU)) (λl=>ad (ay l.2.1 (ak x.1.2.2.2.2.2.2.2.1)) (am (ax x.1.2.2.2.2.2.2.2.1 l.2.1) λb=>aA (aO [] b.2.2.2.2.2.2.2.2.2.2.2.2.2.2.1 16) (aA (aO [] b.2.2.2.2.2.2.2.2.2.2.2.2.2.2.2.1 1) (aA (aO l.1 ((b.1,b.2.1,b.2.2.1,b.2.2.2.1,b.2.2.2.2.1,b.2.2.2.2.2.1,b.2.2.2.2.2.2.1,b.2.2.2.2.2.2.2.1,b.2.2.2.2.2.2.2.2.1,b.2.2.2.2.2.2.2.2.2.1,b.2.2.2.2.2.2.2.2.2.2.1,b.2.2.2.2.2.2.2.2.2.2.2.1,b.2.2.2.2.2.2.2.2.2.2.2.2.1,b.2.2.2.2.2.2.2.2.2.2.2.2.2.1,aM [] b.2.2.2.2.2.2.2.2.2.2.2.2.2.2.1,aM [] b.2.2.2.2.2.2.2.2.2.2.2.2.2.2.2.1,())::[]) 144) (some (.inl (aM l.1 ((b.1,b.2.1,b.2.2.1,b.2.2.2.1,b.2.2.2.2.1,b.2.2.2.2.2.1,b.2.2.2.2.2.2.1,b.2.2.2.2.2.2.2.1,b.2.2.2.2.2.2.2.2.1,b.2.2.2.2.2.2.2.2.2.1,b.2.2.2.2.2.2.2.2.2.2.1,b.2.2.2.2.2.2.2.2.2.2.2.1,b.2.2.2.2.2.2.2.2.2.2.2.2.1,b.2.2.2.2.2.2.2.2.2.2.2.2.2.1,aM [] b.2.2.2.2.2.2.2.2.2.2.2.2.2.2.1,aM [] b.2.2.2.2.2.2.2.2.2.2.2.2.2.2.2.1,())::[]),ai .i64 l.2.1 1,())))))) (ao (some (.inl (l.1,()))))) 1000000000 ([],0,())) λm0=>aD (aB (α:=D (.ah WG iU)) (λm=>ad (ay m.2.1 (ak x.1.2.2.2.2.2.2.2.2.1.2.1)) (am (ax x.1.2.2.2.2.2.2.2.2.1.2.1 m.2.1) λA=>aA (aO [] A.2.1 1) (aA (aO m.1 ((A.1,aM [] A.2.1,())::[]) 32) (some (.inl (aM m.1 ((A.1,aM [] A.2.1,())::[]),ai .i64 m.2.1 1,()))))) (ao (some (.inl (m.1,()))))) 1000000000 ([],0,())) λl0=>aD (aB (α:=D (.ah (.bc lI) iU)) (λn=>ad (ay n.2.1 (ak x.1.2.2.2.2.2.2.2.2.2.2.2.1)) (am (ax x.1.2.2.2.2.2.2.2.2.2.2.2.1 n.2.1) λw0=>aA (aO [] w0 8) (aA (aO n.1 (aM [] w0::[]) 24) (some (.inl (aM n.1 (aM [] w0::[]),ai .i64 n.2.1 1,()))))) (ao (some (.inl (n.1,()))))) 1000000000 ([],0,())) λk0=>aD (aB (α:=D (.ah WF iU)) (λp=>ad (ay p.2.1 (ak x.1.2.2.2.2.2.2.2.2.2.2.2.2.2.1.2.1)) (am (ax x.1.2.2.2.2.2.2.2.2.2.2.2.2.2.1.2.1 p.2.1) λe=>aA (aO [] (bm (0,[],()) e.2.1 0).2.1 1) (aA (aO [] (bm (0,[],()) e.2.1 1).2.1 1) (aA (aO p.1 ((e.1,((bm (0,[],()) e.2.1 0).1,aM [] (bm (0,[],()) e.2.1 0).2.1,())::((bm (0,[],()) e.2.1 1).1,aM [] (bm (0,[],()) e.2.1 1).2.1,())::[],())::[]) 72) (some (.inl (aM p.1 ((e.1,((bm (0,[],()) e.2.1 0).1,aM [] (bm (0,[],()) e.2.1 0).2.1,())::((bm (0,[],()) e.2.1 1).1,aM [] (bm (0,[],()) e.2.1 1).2.1,())::[],())::[]),ai .i64 p.2.1 1,())))))) (ao (some (.inl (p.1,()))))) 1000000000 ([],0,())) λj0=>aD (aB (α:=D (.ah Bc iU)) (λq=>ad (ay q.2.1 (ak x.1.2.2.2.2.2.2.2.2.2.2.2.2.2.2.1)) (am (ax x.1.2.2.2.2.2.2.2.2.2.2.2.2.2.2.1 q.2.1) λd=>aD (aB (α:=D (.ah .nil iU)) (λs0=>ad (ay s0.2.1 0) none (ao (some (.inl ((),()))))) 1000000000 ((),0,())) λa0=>aA (aO [] d.2.2.2.2.2.2.2.2.1 1) (aA (aO q.1 ((d.1,d.2.1,d.2.2.1,d.2.2.2.1,d.2.2.2.2.1,d.2.2.2.2.2.1,d.2.2.2.2.2.2.1,(d.2.2.2.2.2.2.2.1.1,(d.2.2.2.2.2.2.2.1.2.1.1,d.2.2.2.2.2.2.2.1.2.1.2.1,(),()),()),aM [] d.2.2.2.2.2.2.2.2.1,())::[]) 200) (some (.inl (aM q.1 ((d.1,d.2.1,d.2.2.1,d.2.2.2.1,d.2.2.2.2.1,d.2.2.2.2.2.1,d.2.2.2.2.2.2.1,(d.2.2.2.2.2.2.2.1.1,(d.2.2.2.2.2.2.2.1.2.1.1,d.2.2.2.2.2.2.2.1.2.1.2.1,(),()),()),aM [] d.2.2.2.2.2.2.2.2.1,())::[]),ai .i64 q.2.1 1,()))))) (ao (some (.inl (q.1,()))))) 1000000000 ([],0,())) λi0=>aD (aB (α:=D (.ah (.bc (.bc (.int .u8))) iU)) (λr=>ad (ay r.2.1 (ak x.1.2.2.2.2.2.2.2.2.2.2.2.2.2.2.2.1.2.2.1)) (am (ax x.1.2.2.2.2.2.2.2.2.2.2.2.2.2.2.2.1.2.2.1 r.2.1) λv0=>aA (aO [] v0 1) (aA (aO r.1 (aM [] v0::[]) 24) (some (.inl (aM r.1 (aM [] v0::[]),ai .i64 r.2.1 1,()))))) (ao (some (.inl (r.1,()))))) 1000000000 ([],0,())) λh0=>aD (aB (α:=D (.ah Mg iU)) (λs=>ad (ay s.2.1 (ak x.1.2.2.2.2.2.2.2.2.2.2.2.2.2.2.2.1.2.2.2.1)) (am (ax x.1.2.2.2.2.2.2.2.2.2.2.2.2.2.2.2.1.2.2.2.1 s.2.1) λC=>aA (aO [] C.2.1 1) (aA (aO s.1 ((C.1,aM [] C.2.1,())::[]) 32) (some (.inl (aM s.1 ((C.1,aM [] C.2.1,())::[]),ai .i64 s.2.1 1,()))))) (ao (some (.inl (s.1,()))))) 1000000000 ([],0,())) λg0=>aD (aB (α:=D (.ah WE iU)) (λt=>ad (ay t.2.1 (ak x.1.2.2.2.2.2.2.2.2.2.2.2.2.2.2.2.1.2.2.2.2.1)) (am (ax x.1.2.2.2.2.2.2.2.2.2.2.2.2.2.2.2.1.2.2.2.2.1 t.2.1) λg=>aA (aO [] g.2.2.2.1 1) (aA (aO t.1 ((g.1,g.2.1,g.2.2.1,aM [] g.2.2.2.1,())::[]) 48) (some (.inl (aM t.1 ((g.1,g.2.1,g.2.2.1,aM [] g.2.2.2.1,())::[]),ai .i64 t.2.1 1,()))))) (ao (some (.inl (t.1,()))))) 1000000000 ([],0,())) λf0=>aD (aB (α:=D (.ah WD iU)) (λu=>ad (ay u.2.1 (ak x.1.2.2.2.2.2.2.2.2.2.2.2.2.2.2.2.2.2.1)) (am (ax x.1.2.2.2.2.2.2.2.2.2.2.2.2.2.2.2.2.2.1 u.2.1) λa=>aA (aO [] a.2.2.2.2.2.1 64) (aD (aB (α:=D (.ah .nil iU)) (λr0=>ad (ay r0.2.1 0) none (ao (some (.inl ((),()))))) 1000000000 ((),0,())) λz9=>aA (aO [] a.2.2.2.2.2.2.2.1.2.1 72) (aA (aO [] a.2.2.2.2.2.2.2.1.2.2.1 16) (aA (aO [] a.2.2.2.2.2.2.2.2.1 8) (aA (aO [] a.2.2.2.2.2.2.2.2.2.1 8) (aA (aO [] a.2.2.2.2.2.2.2.2.2.2.1 8) (aA (aO [] a.2.2.2.2.2.2.2.2.2.2.2.1 8) (aA (aO u.1 ((a.1,a.2.1,a.2.2.1,a.2.2.2.1,a.2.2.2.2.1,aM [] a.2.2.2.2.2.1,(a.2.2.2.2.2.2.1.1,a.2.2.2.2.2.2.1.2.1,a.2.2.2.2.2.2.1.2.2.1,a.2.2.2.2.2.2.1.2.2.2.1,a.2.2.2.2.2.2.1.2.2.2.2.1,(),()),(a.2.2.2.2.2.2.2.1.1,aM [] a.2.2.2.2.2.2.2.1.2.1,aM [] a.2.2.2.2.2.2.2.1.2.2.1,()),aM [] a.2.2.2.2.2.2.2.2.1,aM [] a.2.2.2.2.2.2.2.2.2.1,aM [] a.2.2.2.2.2.2.2.2.2.2.1,aM [] a.2.2.2.2.2.2.2.2.2.2.2.1,a.2.2.2.2.2.2.2.2.2.2.2.2)::[]) 360) (some (.inl (aM u.1 ((a.1,a.2.1,a.2.2.1,a.2.2.2.1,a.2.2.2.2.1,aM [] a.2.2.2.2.2.1,(a.2.2.2.2.2.2.1.1,a.2.2.2.2.2.2.1.2.1,a.2.2.2.2.2.2.1.2.2.1,a.2.2.2.2.2.2.1.2.2.2.1,a.2.2.2.2.2.2.1.2.2.2.2.1,(),()),(a.2.2.2.2.2.2.2.1.1,aM [] a.2.2.2.2.2.2.2.1.2.1,aM [] a.2.2.2.2.2.2.2.1.2.2.1,()),aM [] a.2.2.2.2.2.2.2.2.1,aM [] a.2.2.2.2.2.2.2.2.2.1,aM [] a.2.2.2.2.2.2.2.2.2.2.1,aM [] a.2.2.2.2.2.2.2.2.2.2.2.1,a.2.2.2.2.2.2.2.2.2.2.2.2)::[]),ai .i64 u.2.1 1,()))))))))))) (ao (some (.inl (u.1,()))))) 1000000000 ([],0,())) λd0=>aD (aB (α:=D (.ah Mf iU)) (λv=>ad (ay v.2.1 (ak x.1.2.2.2.2.2.2.2.2.2.2.2.2.2.2.2.2.2.2.2.1)) (am (ax x.1.2.2.2.2.2.2.2.2.2.2.2.2.2.2.2.2.2.2.2.1 v.2.1) λf=>aA (aO [] f.2.2.2.2.1 48) (aA (aO v.1 ((f.1,f.2.1,f.2.2.1,f.2.2.2.1,aM [] f.2.2.2.2.1,())::[]) 56) (some (.inl (aM v.1 ((f.1,f.2.1,f.2.2.1,f.2.2.2.1,aM [] f.2.2.2.2.1,())::[]),ai .i64 v.2.1 1,()))))) (ao (some (.inl (v.1,()))))) 1000000000 ([],0,())) λc0=>some (((aM [] x.1.1.1,aM [] x.1.1.2.1,x.1.1.2.2.1,x.1.1.2.2.2.1,x.1.1.2.2.2.2.1,x.1.1.2.2.2.2.2.1,x.1.1.2.2.2.2.2.2.1,x.1.1.2.2.2.2.2.2.2.1,x.1.1.2.2.2.2.2.2.2.2.1,x.1.1.2.2.2.2.2.2.2.2.2.1,o0.1,aM [] x.1.1.2.2.2.2.2.2.2.2.2.2.2.1,e0.1,()),x.1.2.1,x.1.2.2.1,aM [] x.1.2.2.2.1,b0.1,q0.1,(aM [] x.1.2.2.2.2.2.2.1.1,x.1.2.2.2.2.2.2.1.2.1,x.1.2.2.2.2.2.2.1.2.2.1,p0.1,n0.1,()),m0.1,(x.1.2.2.2.2.2.2.2.2.1.1,l0.1,()),aM [] x.1.2.2.2.2.2.2.2.2.2.1,aM [] x.1.2.2.2.2.2.2.2.2.2.2.1,k0.1,aM [] x.1.2.2.2.2.2.2.2.2.2.2.2.2.1,(x.1.2.2.2.2.2.2.2.2.2.2.2.2.2.1.1,j0.1,()),i0.1,(x.1.2.2.2.2.2.2.2.2.2.2.2.2.2.2.2.1.1,x.1.2.2.2.2.2.2.2.2.2.2.2.2.2.2.2.1.2.1,h0.1,g0.1,f0.1,()),aM [] x.1.2.2.2.2.2.2.2.2.2.2.2.2.2.2.2.2.1,d0.1,aM [] x.1.2.2.2.2.2.2.2.2.2.2.2.2.2.2.2.2.2.2.1,c0.1,()),())))))))))))
theorem f26:J1 eA 26 ⟨_,_,PY⟩:=RR (cy:=cyC) (H:=Tr.e) (n:=1000) (λf c h=>by have h:(Tr.e:Tr rA).ap f=some c:=h;rw[Tr.kq]at h;cases h) Mq (fn:=Tryz.f26) (by kernel_rfl) (by kernel_rfl) λx=>by kernel_rfl
def Yr:KK:=⟨k4.1.set 26 ⟨_,_,PY⟩,ta k4.2 f26.ok⟩
def ZZ:Tr Nat:=XX.set 26 3
theorem Ub:∀f q,ZZ.ap f=some q->nE eA Yr.1 f q:=iz Mq ⟨λh=>(by cases h),λh=>(by cases h),λ_ c a=>by have a:(k4.1.set 26 ⟨_,_,PY⟩).ap 26=some c:=a;rw[Tr.a8]at a;cases a;exact f26⟩
def cyG:Cy:=⟨eA,zj Tryz.prog [75,186] 20,Yr.1,dU,ZZ,X2⟩
def F9(x:D (.ah cc .un)):Option (D bU):=am (D0 (x.1,())) λo=>ad (bL o.1) (some (true,())) (am (yj (x.1,())) λi=>ad (bH i.2.1 0) (some (true,())) (am (Ho (x.1,())) λj=>am (PY (i.1,())) λa=>ad (bH j.2.1 0) (some (false,())) (am (DZ (i.1,j.1,())) λw=>ad (bL w.1) (some (false,())) (am (DZ (a.1,j.1,())) λz=>ad (bL z.1) (some (false,())) (aD (aB (α:=D iU) (λl=>ad (ay l.1 (ak a.1.2.2.2.2.2.2.2.1)) (am (ax a.1.2.2.2.2.2.2.2.1 l.1) λi0=>some (.inl (ai .i64 l.1 1,()))) (ao (some (.inl ())))) 1000000000 (0,())) λh0=>aD (aB (α:=D iU) (λb=>ad (ay b.1 (ak a.1.2.2.2.2.2.2.2.2.2.2.2.2.2.2.2.2.2.1)) (aD (am (ax a.1.2.2.2.2.2.2.2.2.2.2.2.2.2.2.2.2.2.1 b.1) λA=>am (ax a.1.2.2.2.2.2.2.2.2.2.2.2.2.2.2.2.2.2.1 b.1) λp=>aD (aB (α:=D iU) (λk=>ad (ay k.1 (ak p.2.2.2.2.2.2.2.1.2.1)) (am (ax a.1.2.2.2.2.2.2.2.2.2.2.2.2.2.2.2.2.2.1 b.1) λq=>am (ax q.2.2.2.2.2.2.2.1.2.1 k.1) λr=>am (ax r.2.1 0) λB=>some (.inl (ai .i64 k.1 1,()))) (ao (some (.inl ())))) 1000000000 (0,())) λC=>some (.inl ())) λz0=>some (.inl (ai .i64 b.1 1,()))) (ao (some (.inl ())))) 1000000000 (0,())) λy0=>aD (aB (α:=D iU) (λc=>ad (ay c.1 (ak a.1.2.2.2.2.2.2.2.2.2.2.2.2.2.2.2.1.2.2.1)) (aD (am (ax a.1.2.2.2.2.2.2.2.2.2.2.2.2.2.2.2.1.2.2.1 c.1) λs=>aD (aB (α:=D iU) (λd=>ad (ay d.1 (ak s)) (am (ax a.1.2.2.2.2.2.2.2.2.2.2.2.2.2.2.2.1.2.2.1 c.1) λm=>am (ax m d.1) λx0=>am (ax m d.1) λw0=>some (.inl (ai .i64 d.1 1,()))) (ao (some (.inl ())))) 1000000000 (0,())) λv0=>some (.inl ())) λu0=>some (.inl (ai .i64 c.1 1,()))) (ao (some (.inl ())))) 1000000000 (0,())) λt0=>aD (aB (α:=D iU) (λe=>ad (ay e.1 (ak a.1.2.2.2.2.2.2.2.2.2.1)) (am (ax a.1.2.2.2.2.2.2.2.2.2.1 e.1) λs0=>am (ax a.1.2.2.2.2.2.2.2.2.2.1 e.1) λr0=>some (.inl (ai .i64 e.1 1,()))) (ao (some (.inl ())))) 1000000000 (0,())) λq0=>aD (aB (α:=D iU) (λf=>ad (ay f.1 (ak a.1.2.2.2.2.2.2.1.2.2.2.1)) (aD (aD (aB (α:=D iU) (λg=>ad (ay g.1 5) (aD (am (ax a.1.2.2.2.2.2.2.1.2.2.2.1 f.1) λt=>am (ax t.2.2.2.2.2.1 g.1) λu=>aD (aB (α:=D iU) (λh=>ad (ay h.1 (ak u)) (am (ax a.1.2.2.2.2.2.2.1.2.2.2.1 f.1) λv=>am (ax v.2.2.2.2.2.1 g.1) λn=>am (ax n h.1) λp0=>am (ax n h.1) λo0=>some (.inl (ai .i64 h.1 1,()))) (ao (some (.inl ())))) 1000000000 (0,())) λn0=>some (.inl ())) λm0=>some (.inl (ai .i64 g.1 1,()))) (ao (some (.inl ())))) 1000000000 (0,())) λl0=>some (.inl ())) λk0=>some (.inl (ai .i64 f.1 1,()))) (ao (some (.inl ())))) 1000000000 (0,())) λj0=>am (DZ (i.1,j.1,())) λy=>ad y.1 (some (true,())) (some (false,())))))))
theorem n9:eA.fn.ap 9=some Tryz.f9:=by kernel_rfl
theorem e9:eA.ext.ap 9=none:=by kernel_rfl
theorem k9:sA eA 9 ⟨_,_,F9⟩:=Nj (cy:=cyG) (H:=((((((((((((((((((((((Tr.e).set 0 [.aL 3,.aL 5,.aL 7]).set 1 [.aL 3,.aL 5,.aL 7,.aL 52,.val 53 iT]).set 4 [.aL 3,.aL 5,.aL 7]).set 5 [.aL 3,.aL 5,.aL 7,.aL 64,.val 65 iT]).set 6 [.aL 3,.aL 5,.aL 7,.aL 64,.aL 65]).set 8 [.aL 3,.aL 5,.aL 7,.aL 64,.aL 65]).set 9 [.aL 3,.aL 5,.aL 7,.aL 9,.aL 64,.aL 65,.aL 80,.val 81 iT]).set 12 [.aL 3,.aL 5,.aL 7]).set 13 [.aL 3,.aL 5,.aL 7,.aL 100,.val 101 iT]).set 14 [.aL 3,.aL 5,.aL 7,.aL 100,.aL 101]).set 16 [.aL 3,.aL 5,.aL 7,.aL 100,.aL 101]).set 17 [.aL 3,.aL 5,.aL 7,.aL 11,.aL 100,.aL 101,.aL 110,.val 111 iT]).set 20 [.aL 3,.aL 5,.aL 7]).set 21 [.aL 3,.aL 5,.aL 7,.aL 129,.val 130 iT]).set 24 [.aL 3,.aL 5,.aL 7]).set 25 [.aL 3,.aL 5,.aL 7,.aL 146,.val 147 iT]).set 26 [.aL 3,.aL 5,.aL 7,.aL 146,.aL 147]).set 28 [.aL 3,.aL 5,.aL 7,.aL 146,.aL 147]).set 29 [.aL 3,.aL 5,.aL 7,.aL 14,.aL 146,.aL 147,.val 150 iT]).set 30 [.aL 3,.aL 5,.aL 7,.aL 14,.aL 146,.aL 147,.aL 150]).set 32 [.aL 3,.aL 5,.aL 7,.aL 14,.aL 146,.aL 147,.aL 150]).set 33 [.aL 3,.aL 5,.aL 7,.aL 14,.aL 15,.aL 146,.aL 147,.aL 150,.aL 162,.val 163 iT]) (n:=1000) Yr.2 Ub n9 e9 λx=>by kernel_rfl
end Go.Bo
namespace Go.Ls
open Go Go.Hm Go.RowKit Go.Wk Go.ChangeShapes Go.WideShapes Go.Deep
structure wX (w : World) (hp : Tr Hm.Obj) (nx : Nat) (ρ : Rn) : Prop where
  rY : eY ρ hp w
  fr : ∀ b, nx ≤ b → hp.ap b = none
  un : ∀ b, nx ≤ b → ρ b = none
  ro : ∀ b o, hp.ap b = some o → pe o = false
structure Mo (hp : Tr Hm.Obj) (nx : Nat) (ρ : Rn) (hp' : Tr Hm.Obj) (nx' : Nat) (ρ' : Rn) : Prop where
  le : nx ≤ nx'
  xn : ∀ b, b < nx → hp'.ap b = hp.ap b
  rn : ∀ b, b < nx → ρ' b = ρ b
theorem Mo.refl{hp:Tr Hm.Obj}{nx:Nat}{ρ:Rn}:Mo hp nx ρ hp nx ρ:=⟨ar _,λ_ _=>rfl,λ_ _=>rfl⟩
theorem Mo.trans{hp d e:Tr Hm.Obj}{nx f nx2:Nat}{ρ g h:Rn}(a:Mo hp nx ρ d f g)(b:Mo d f g e nx2 h):Mo hp nx ρ e nx2 h:=⟨aU a.le b.le,λx c=>by rw[b.xn x (aQ c a.le),a.xn x c],λx c=>by rw[b.rn x (aQ c a.le),a.rn x c]⟩
theorem Mo.ext{w:World}{hp f:Tr Hm.Obj}{nx g:Nat}{ρ d:Rn}(a:Mo hp nx ρ f g d)(i:wX w hp nx ρ):Hm.tL ρ d:=by
 intro b r c;by_cases e:b<nx;.rw[a.rn b e];exact c
 .rw[i.un b (by omega)]at c;cases c
def Zl(n:Nat):Nat->Prop:=λb=>b<n
theorem Mo.rd{hp c:Tr Hm.Obj}{nx d:Nat}{ρ f:Rn}(a:Mo hp nx ρ c d f){u:U}{l:List HV}{x:D u}(h:dw hp (Zl nx) u l x):dw c (Zl d) u l x:=h.mono (λb e=>aQ e a.le) a.xn
def wi:(u:U)->D u->Prop| .int k,x=>(Lit.int k x).wf=true| .bc e,c=>(∀x,x∈c->wi e x)/\c.length<=140737488355328| .ah a b,x=>wi a x.1/\wi b x.2| .fF n e,c=>c.length=n/\∀x,x∈c->wi e x|_,_=>True
def qF(P:Program)(t:TypeId)(u:U):Prop:=∀{f:Type}(j:TypeId×Value->f)(w:World)(k:Nat)(b:List Value)(x:DataW f×List MemPlace),DataW.trod j P w 0 (λ_=>true) true k t b=some x->(∀n,n∈x.1.weights P t->n<=reachBytes)->∀g h i,wX w g h i->∃c d e l a,wX w c d e/\Mo g h i c d e/\Hm.dY e l b/\dw c (Zl d) u l a/\wi u a/\∀v,v∈b->v.oneCell'=true
section
variable{P:Program}{t e:TypeId}{u:U}
theorem xy{ρ:Rn}{a:HV}{v:Value}(h:Hm.VR ρ a v):Hm.dY ρ [a] [v]:=by unfold Hm.dY;exact⟨v,[],rfl,h,by unfold Hm.dY;rfl⟩
theorem HS{k:IntKind}(f:P.underlying t=some (.int k)):qF P t (.int k):=by intro j m w o l x g _ d h i b;obtain⟨n,rfl,rfl,c⟩:=DataW.trod_int f g;exact⟨d,h,i,[.int k n],n,b,Mo.refl,xy (by unfold Hm.VR;rfl),rfl,c,λv a=>by rw[cj]at a;subst a;rfl⟩
theorem rJ{H:Type}:∀{l:List (DataW H)}{d:DataW H},d∈l->∀n∈d.weights P e,n∈DataW.weightsAll P e l
 |[],_,h,_,_=>by cases h
 |b::l,d,h,n,a=>by
  unfold DataW.weightsAll;rcases co.1 h with rfl|h;.exact dX _ a
  .exact cR _ (rJ h n a)
theorem Sj(b o i:Nat):(⟨b,o,none⟩:Addr).add i=⟨b,o+i,none⟩:=by
 unfold Addr.add;split
 .
  rename_i h;have h:i=0:=by simpa using h
  rw[h];rfl
 .rfl
theorem Vc(w:World)(b d i s:Nat){cs:List Value}(h:w.cells? 0 ((⟨b,d,none⟩:Addr).add (i*s)) s=some cs):cs.length=s/\∀j v,cs[j]?=some v->w.cell? ⟨b,d+i*s+j,none⟩=some v:=by
 obtain⟨_,a,f⟩:=World.cells?_some h;refine⟨a,λj v c=>?_⟩;have g:j<s:=by rw[<-a];exact(aj.1 c).1
 have:=f j g;rw[c]at this;rw[Sj,Sj]at this;exact this
theorem Jb{ρ:Rn}{a b:List HV}{x y:List Value}(h1:Hm.dY ρ a x)(h2:Hm.dY ρ b y):Hm.dY ρ (a++b) (x++y):=Hm.C4 h1 h2
theorem Rm{w:World}{hp:Tr Hm.Obj}{nx:Nat}{ρ:Rn}(hi:wX w hp nx ρ){b d s len cap:Nat}{l:List HV}{q:List Value}(z0:b<w.heap.size)(y0:Hm.dY ρ l q)(x0:l.length=len*s)(g:∀j v,q[j]?=some v->w.cell? ⟨b,d+j,none⟩=some v)(h1:∀v,v∈q->v.oneCell'=true):wX w (hp.set nx (.cn ⟨false,s,l.length,cr .e 0 l⟩)) (nx+1) (pQ ρ nx ⟨b,d,len*s,s,d+cap*s⟩)/\Mo hp nx ρ (hp.set nx (.cn ⟨false,s,l.length,cr .e 0 l⟩)) (nx+1) (pQ ρ nx ⟨b,d,len*s,s,d+cap*s⟩):=by
 have p:Mo hp nx ρ (hp.set nx (.cn ⟨false,s,l.length,cr .e 0 l⟩)) (nx+1) (pQ ρ nx ⟨b,d,len*s,s,d+cap*s⟩):=⟨dz _,λc g=>Tr.bW _ _ (by omega),λc g=>kX _ _ (by omega)⟩;have y:=p.ext hi
 have n:∀c o,(hp.set nx (.cn ⟨false,s,l.length,cr .e 0 l⟩)).ap c=some o->pe o=false:=by
  intro c o f;rw[Tr.dg]at f;split at f;.cases f;rfl
  .exact hi.ro c o f
 refine⟨⟨⟨λc x r a k=>?_,λc t0 r a k=>?_,λc u0 o s0 r r0 _ f v0=>?_⟩,λc g=>?_,λc g=>?_,n⟩,p⟩
 .
  rw[Tr.dg]at a;split at a;.rename_i B;subst B;cases a;rw[gc]at k;cases k;refine⟨x0,rfl,z0,λi v C m=>?_,λh=>by cases h⟩;have C:i<l.length:=C;have m:(cr .e 0 l).ap i=some v:=m;rw[gK,aE (by omega),jd]at m;obtain⟨z,A,D⟩:=Hm.kw y0 i v m;exact⟨z,g i z A,D.ext y,h1 z (Y A)⟩
  .
   rename_i B
   have w0:c<nx:=by
    rcases cO c nx with h|h;.exact h
    .rw[hi.fr c h]at a;cases a
   rw[p.rn c w0]at k;exact(hi.rY.cn c x r a k).mv y (ar _) rfl
 .have:=n c _ a;cases this
 .have:=n c o f;rw[v0]at this;cases this
 .rw[Tr.bW _ _ (by omega)];exact hi.fr c (by omega)
 .rw[kX _ _ (by omega)];exact hi.un c (by omega)
theorem ng(s0:P.underlying t=some (.slice e))(s9:1<=P.bytesOf e)(n9:P.cellsOf e=u.size)(q9:1<=u.size)(h:qF P e u):qF P t (.bc u):=by
 intro H x9 w fuel cs x g e0 f o p r;rcases open_slice s0 g with⟨rfl,rfl⟩|⟨a,d,cap,m,n,m0,Pl,rfl,_,j0,i0,h0,rfl,t9⟩;.exact⟨f,o,p,[.cK],[],r,Mo.refl,xy (by unfold Hm.VR;rfl),⟨.cK,rfl,.inl ⟨rfl,.inl rfl⟩⟩,⟨λx g=>(by cases g),aP _⟩,λv c=>by rw[cj]at c;subst c;rfl⟩
 .
  rw[aE rfl]at h0;subst h0;have hreach:m<=140737488351232:=by have:=e0 ((((List.range d).map m0).length+((List.range (m-d)).map λj=>m0 (d+j)).length)*P.bytesOf e) (by simp[DataW.weights,s0]);simp only[cZ,List.length_range]at this;unfold reachBytes at this;have k0:(d+(m-d))*1<=(d+(m-d))*P.bytesOf e:=jS _ s9;omega
  have t0:∀i,i<d->∃q,w.cells? 0 (a.add (i*P.cellsOf e)) (P.cellsOf e)=some q/\∀f o p,wX w f o p->∃s y A l a,wX w s y A/\Mo f o p s y A/\Hm.dY A l q/\dw s (Zl y) u l a/\wi u a/\∀v,v∈q->v.oneCell'=true:=by intro i l9;obtain⟨q,u9,k0⟩:=t9 i (by omega);exact⟨q,u9,h x9 w n q _ k0 λk j9=>e0 k (by simp only[DataW.weights,s0];exact cX _ (dX _ (rJ (wq.2 ⟨i,eJ.2 l9,rfl⟩) k j9)))⟩
  rw[n9]at t0;by_cases v9:d=0;.subst v9;exact⟨f,o,p,[.mj],[],r,Mo.refl,xy (by unfold Hm.VR;exact⟨a,m,rfl,i0⟩),⟨.mj,rfl,.inl ⟨rfl,.inr (.inr rfl)⟩⟩,⟨λx g=>(by cases g),aP _⟩,λv c=>by rw[cj]at c;subst c;rfl⟩
  .
   obtain⟨b,z,a0⟩:=a;obtain⟨c0,p9,_⟩:=t0 0 (by omega);obtain⟨_,hl0,o9⟩:=World.cells?_some p9;have i9:∃v,w.cell? ((⟨b,z,a0⟩:Addr).add 0)=some v:=by have:=o9 0 q9;rw[G (by omega)]at this;simp only[gf]at this;exact⟨_,this⟩
   obtain⟨v0,f0⟩:=i9;have g9:a0=none:=by simpa [Addr.add]using World.cell?_spot f0
   subst g9;have r9:b<w.heap.size:=World.block_lt_of_cell? _ _ f0
   have main:∀k i,i+k=d->∀f o p,wX w f o p->∃s y A l x0 C,wX w s y A/\Mo f o p s y A/\Hm.dY A l x0/\mB (dw s (Zl y) u) l C/\C.length=k/\(∀x,x∈C->wi u x)/\(∀v,v∈x0->v.oneCell'=true)/\∀j v,x0[j]?=some v->w.cell? ⟨b,z+i*u.size+j,none⟩=some v:=by
    intro k
    induction k with
     |zero=>exactλi _ f o p r=>⟨f,o,p,[],[],[],r,Mo.refl,by unfold Hm.dY;rfl,rfl,rfl,λx g=>(by cases g),λx g=>(by cases g),λj v c=>by simp at c⟩
     |succ k e9=>
     intro i hik f o p r;obtain⟨q,l0,w0⟩:=t0 i (by omega);obtain⟨g0,z0,z9,d0,y9,D,q0,n0,y0,v0,o0⟩:=w0 f o p r;obtain⟨h9,nx2,ρ2,c0,vs2,xs2,r0,B,v2,r2,n2,w9,o2,q2⟩:=e9 (i+1) (by omega) g0 z0 z9 D;obtain⟨p1,p2⟩:=Vc w b z i u.size l0;refine⟨h9,nx2,ρ2,d0++c0,q++vs2,y9::xs2,r0,q0.trans B,Jb (n0.ext (B.ext D)) v2,⟨d0,c0,rfl,B.rd y0,r2⟩,by simp[n2],λx g=>?_,λv c=>?_,λj v c=>?_⟩
     .
      rcases co.1 g with rfl|g;.exact v0
      .exact w9 x g
     .
      rcases bD.1 c with c|c;.exact o0 v c
      .exact o2 v c
     .
      by_cases k9:j<q.length;.rw[bJ k9]at c;exact p2 j v c
      .rw[bB (by omega)]at c;have:=q2 (j-q.length) v c;rw[go,tp,show z+(i*u.size+u.size)+(j-q.length)=z+i*u.size+j by omega]at this;exact this
   obtain⟨g0,z0,z9,l,x0,C,D,q0,n0,y0,p0,v0,o0,b0⟩:=main d 0 (by omega) f o p r;rw[gf,fh]at b0;have u0:=mP (z:=u.size) (λ_ _ h=>h.len) y0;rw[p0]at u0;obtain⟨r0,B⟩:=Rm (cap:=m) D r9 n0 u0 b0 o0;refine⟨_,_,_,[.sl z0 0 d],C,r0,q0.trans B,xy ?_,?_,⟨v0,by omega⟩,λv c=>by rw[cj]at c;subst c;rfl⟩
   .
    unfold Hm.VR;have hmul:d*u.size<=m*u.size:=cq _ j0;refine⟨_,m,gc _ _ _,rfl,j0,?_,?_,i0,by omega⟩;.show d*u.size<=0+m*u.size;omega
    .show z+0+m*u.size<=z+m*u.size;omega
   .
    refine⟨_,rfl,.inr ⟨z0,0,_,⟨by rw[p0],rfl⟩,bf _,Tr.a8 _ _ _,?_,by omega,λi x f9=>?_⟩⟩;.show 0+C.length*u.size<=l.length;rw[p0,u0];omega
    .obtain⟨l0,w0,c3,d9,c9,b9,a9⟩:=lf (z:=u.size) (λ_ _ h=>h.len) y0 f9;refine⟨w0,?_,B.rd a9⟩;have m9:=ic (T:=(.e:Tr HV)) (w:=false) (z:=u.size) (n:=l.length) (p:=0) (c:=l) (by omega);exact eL m9 d9 c9 b9
def NA(P:Program)(gq o:Nat)(d:List Field)(u:U):Prop:=∀{m:Type}(s:TypeId×Value→m)(w:World)(n:Nat)(b:List Value)(h:List (DataW m×List MemPlace)),b.length=gq→h.length=d.length→(∀(i:Nat)(c:Field),d[i]?=some c→DataW.trod s P w 0 (fun _=>true) true n c.type ((b.drop c.offset).take (P.cellsOf c.type))=h[i]?)→(∀k,k∈DataW.weightsEach P (d.map (·.type)) (h.map (·.1))→k≤reachBytes)→∀p q r,wX w p q r→∃f g j l a,wX w f g j∧Mo p q r f g j∧Hm.dY j l (b.drop o)∧dw f (Zl g) u l a∧wi u a∧∀v,v∈b.drop o→v.oneCell'=true
theorem pE{gq o:Nat}(d:Nat.beq o gq=true):NA P gq o [] .un:=by intro j k w n a r l m p q f h i c;have:=au d;have b:a.drop o=[]:=dV (by omega);rw[b];exact⟨f,h,i,[],(),c,Mo.refl,by unfold Hm.dY;rfl,rfl,trivial,λv g=>by cases g⟩
theorem dd{gq o s:Nat}{fl:Field}{d:List Field}{u v:U}(h:qF P fl.type u)(s0:Nat.beq fl.offset o=true)(n0:P.cellsOf fl.type=s)(r:NA P gq (o+s) d v):NA P gq o (fl::d) (.ah u v):=by
 intro y9 m w n b c v0 f p q q0 k0 b0 t0;have r0:=au s0
 match c,f with
  |x::c,f=>
   have y:=p 0 fl rfl;rw[n0,r0]at y;obtain⟨p0,j0,a0,B,D,A,l0,d0,f0,x0,h0⟩:=h m w n _ _ y (fun k g=>q k (by show k∈DataW.weightsEach P (fl.type::d.map (·.type)) (x.1::c.map (·.1));unfold DataW.weightsEach;exact dX _ g)) q0 k0 b0 t0;obtain⟨o0,i0,z9,C,z0,m0,j,c0,e0,w0,g0⟩:=r m w n b c v0 (by simpa using f) (fun i y0 u0=>p (i+1) y0 (by simpa using u0)) (fun k g=>q k (by show k∈DataW.weightsEach P (fl.type::d.map (·.type)) (x.1::c.map (·.1));unfold DataW.weightsEach;exact cR _ g)) p0 j0 a0 A;have l:b.drop o=(b.drop o).take s++b.drop (o+s):=by rw[←i8];exact(dQ s (b.drop o)).symm
   refine⟨o0,i0,z9,B++C,(D,z0),m0,l0.trans j,?_,⟨B,C,rfl,j.rd f0,e0⟩,⟨x0,w0⟩,fun z a=>?_⟩;·rw[l];exact Jb (d0.ext (j.ext A)) c0
   ·
    rw[l]at a;rcases bD.1 a with a|a;·exact h0 z a
    ·exact g0 z a
theorem nv{a:Array Field}{gq:Nat}(b:P.underlying t=some (.struct a))(o:P.cellsOf t=gq)(r:NA P gq 0 a.toList u):qF P t u:=by intro B d w C c x s q p y A j;obtain⟨z,n,_,rfl,m,v,g⟩:=DataW.trod_struct b s;exact r d w n c z (by rw[m,o]) (by rw[v];simp) (λi f h=>g i f (by simpa using h)) (λk l=>q k (by simp only[DataW.weights,b];exact l)) p y A j
theorem qF.arg(h:qF P t u){H:Type}{enc:TypeId×Value->H}{w:World}{v:Value}{d:DataW H}{ps:List MemPlace}(hd:DataW.Trod enc P w 0 (λ_=>true) true t v d ps)(C:∀n,n∈d.weights P t->n<=reachBytes)(f:(u.ag=true/\∃xs,v= .agg xs)\/u.ag=false/\v.cells.toList=[v]):∀hp nx ρ,wX w hp nx ρ->∃hp' nx' i s a,wX w hp' nx' i/\Mo hp nx ρ hp' nx' i/\Hm.VR i s v/\qE hp' (Zl nx') u s a/\wi u a:=by
 intro hp nx ρ B;obtain⟨y,hd⟩:=hd;obtain⟨k,p,q,l,a,m,o,b,g,j,D⟩:=h enc w y _ _ hd C hp nx ρ B;rcases f with⟨c,xs,rfl⟩|⟨c,f⟩
 .
  refine⟨k,p,q,.agg l,a,m,o,?_,?_,j⟩;.unfold Hm.VR;exact⟨xs.toList,by simp,b,D⟩
  .unfold qE;rw[c];exact⟨l,rfl,g⟩
 .
  rw[f]at b;have z0:=g.len
  have A:∃s,l=[s]:=by have:=Hm.fe b;cases l with
   |nil=>cases this
   |cons s l=>cases l with
   |nil=>exact⟨s,rfl⟩
   |cons _ _=>cases this
  obtain⟨s,rfl⟩:=A;unfold Hm.dY at b;obtain⟨z,y0,r,x,_⟩:=b;cases r;refine⟨k,p,q,s,a,m,o,x,?_,j⟩;unfold qE;rw[c];exact g
end
theorem UL{P:Program}{cx:Cx}(z:gH P cx){f:FuncId}{fn:Func}(A:cx.fn.ap f=some fn)(x0:cx.ext.ap f=none){a:U}{F:D a->Option (D (.ah .bool .un))}(B:sA cx f ⟨a,.ah .bool .un,F⟩){w:World}{hp:Tr Hm.Obj}{nx:Nat}{ρ:Rn}(hi:wX w hp nx ρ){args:List HV}{us:List Value}{x:D a}(z0:Hm.dY ρ args us)(y:fI hp (Zl nx) a args x)(hF:F x=some (true,())):zF P f us.toArray w λv q=>v= .bool true/\Kp [] w q:=by
 obtain⟨l,C,o0,s,⟨p,k⟩,t0,s0,r0,q0,p0,m⟩:=B ⟨0,.e,hp,nx,[],.undef⟩ (Zl nx) args x (true,()) hi.fr (λb j=>by cases j) (λb j=>j) y hF;have k:=k p (ar _);unfold fI at m;obtain⟨v,r,rfl,g,n⟩:=m;unfold fI at n;subst n;have y0:v= .bool true:=by unfold qE at g;have g:dw C s .bool [v] true:=g;unfold dw at g;simpa using g
 subst y0;refine zF.mono (E4 z p A x0 k hi.rY hi.fr (λi d _=>hi.un i d) z0) ?_;rintro v q⟨u0,d,h⟩;have d:Hm.VR u0 (.bool true) v:=d;unfold Hm.VR at d;refine⟨d,h.kp.os,h.kp.tape,h.kp.output,h.kp.size,λb j _=>h.kp.block b j ?_⟩;rintro⟨c,o,r,w0,v0,_⟩;have:=hi.ro c o w0;rw[v0]at this;cases this
theorem K3(w:World):wX w .e 0 λ_=>none:=by
 have a:∀(b:Nat)(o:Hm.Obj),(Tr.e:Tr Hm.Obj).ap b=some o->False:=λb o h=>by rw[Tr.kq]at h;cases h
 exact⟨⟨λb x r h=>(a b _ h).elim,λb x r h=>(a b _ h).elim,λb c o d r f _ h=>(a b _ h).elim⟩,λb _=>Tr.kq b,λ_ _=>rfl,λb o h=>(a b o h).elim⟩
section
variable{α β:Type}
theorem Lk(x y:Option α):ad true x y=x:=rfl
theorem nV(x y:Option α):ad false x y=y:=rfl
theorem lW(x:Option α):aA true x=x:=rfl
theorem cG(x:α)(f:α->Option β):am (some x) f=f x:=rfl
theorem ik(x:α)(f:α->Option β):aD (some (.inl x)) f=f x:=rfl
theorem AZ(x:β)(f:α->Option β):aD (some (.inr x)) f=some x:=rfl
theorem Cr(x:β):ao (α:=α) (some x)=some (.inr x):=rfl
theorem mm(b:Bool)(x y:Option α):ad b x y=if b=true then x else y:=by cases b<;>rfl
theorem hK(a b:Int):ay a b=decide (a<b):=rfl
theorem jN(a b:Int):cL a b=decide (a<=b):=rfl
theorem gA(a b:Int):a6 a b=decide (a=b):=rfl
theorem gM(a b:Int):bH a b=!decide (a=b):=rfl
theorem sb(a:Bool):bL a=!a:=rfl
theorem aJ(l:List α):ak l=(l.length:Int):=rfl
theorem kW{n:Int}(h1: -9223372036854775808<=n)(h2:n<=9223372036854775807):gj .i64 n=n:=by unfold gj Cm;simp only[av h1,av h2,Bool.and_true,fR]
theorem cD{a b:Int}(h1: -9223372036854775808<=a+b)(h2:a+b<=9223372036854775807):ai .i64 a b=a+b:=kW h1 h2
theorem fk{a b:Int}(h1: -9223372036854775808<=a-b)(h2:a-b<=9223372036854775807):bo .i64 a b=a-b:=kW h1 h2
theorem bI{i:Nat}(h:i<=140737488355328):ai .i64 (i:Int) 1=((i+1:Nat):Int):=by rw[cD (by omega) (by omega)];rfl
theorem aC{l:List α}{i:Nat}{x:α}(h:l[i]?=some x):ax l (i:Int)=some x:=h
theorem sP{l:List α}{i:Nat}{x:α}(h:l[i]?=some x):ay (i:Int) (ak l)=true:=by have:=(aj.1 h).1;rw[hK,aJ];exact av (by omega)
theorem Gx{l:List α}:ay (l.length:Int) (ak l)=false:=by rw[hK,aJ];exact aX (by omega)
theorem gv{l:List α}{i:Nat}{x:α}(h:l[i]?=some x){n:Nat}(a:l.length<=n):i<=n:=by have:=(aj.1 h).1;omega
end
section
variable{α β:Type}
theorem ez{b:Bool}(h:b=true)(x y:Option α):ad b x y=x:=by rw[h];rfl
theorem eb{b:Bool}(h:b=false)(x y:Option α):ad b x y=y:=by rw[h];rfl
theorem et{l:List α}{i:Nat}{x:α}(h:l[i]?=some x){K:α->Option β}{e:Option β}:ad (ay (i:Int) (ak l)) (am (ax l (i:Int)) K) e=K x:=by rw[ez (sP h),aC h];rfl
theorem ey{l:List α}{t e:Option β}:ad (ay (l.length:Int) (ak l)) t e=e:=eb Gx _ _
def aV(lo hi n:Int):Bool:=decide (lo<=n)&&decide (n<=hi)
theorem fP(n lo hi:Int)(e r:Option α):ad (ay n lo) e (ad (ay hi n) e r)=if aV lo hi n=true then r else e:=by
 rw[mm,mm,hK,hK];unfold aV;by_cases a:n<lo
 .
  have:¬lo<=n:=by omega
  simp[a,this]
 .
  have:lo<=n:=by omega
  by_cases b:hi<n
  .
   have:¬n<=hi:=by omega
   simp[a,b,this]
  .
   have:n<=hi:=by omega
   simp[a,b,this,‹lo<=n›]
theorem ue(n lo hi:Int)(e r:Option α):ad (ay n lo) e (ad (cL hi n) e r)=if aV lo (hi-1) n=true then r else e:=by
 have h:cL hi n=ay (hi-1) n:=by rw[hK,jN];congr 1;apply propext;omega
 rw[h,fP]
end
theorem AS{α:Type}(a b:Bool)(x e:α):(if a=true then if b=true then x else e else e)=if(a&&b)=true then x else e:=by cases a<;>cases b<;>rfl
def gl{A B R X:Type}(g:Nat->B->X->Option (Sum B R))(fin:B->A):Nat->B->List X->Option (Sum A R)|_,b,[]=>some (.inl (fin b))|i,b,x::l=>match g i b x with|some (.inl a)=>gl g fin (i+1) a l|some (.inr r)=>some (.inr r)|none=>none
def mw{σ A B R X:Type}(st:B->Nat->σ)(g:Nat->B->X->Option (Sum B R))(b:B)(i:Nat)(x:X):Option (Sum σ (Sum A R)):=match g i b x with|some (.inl a)=>some (.inl (st a (i+1)))|some (.inr r)=>some (.inr (.inr r))|none=>none
theorem hI{σ A B R X:Type}{st:B->Nat->σ}{P:Nat->B->X->Bool}{s:Nat->B->X->B}{q:Nat->B->X->R}{b:B}{i:Nat}{x:X}:mw (A:=A) st (λi b x=>if P i b x=true then some (.inl (s i b x))else some (.inr (q i b x))) b i x=if P i b x=true then some (.inl (st (s i b x) (i+1)))else some (.inr (.inr (q i b x))):=by
 unfold mw;by_cases h:P i b x=true;.simp only[h,fY]
 .simp only[h,ft];rfl
theorem qe{σ A B R X:Type}{f:σ->Option (Sum σ (Sum A R))}{xs:List X}{st:B->Nat->σ}{g:Nat->B->X->Option (Sum B R)}{fin:B->A}(j:∀b i x,xs[i]?=some x->f (st b i)=mw st g b i x)(h:∀b,f (st b xs.length)=some (.inr (.inl (fin b)))):∀(l:List X)(i:Nat)(b:B)(a:Nat),xs.drop i=l->i+l.length=xs.length->l.length<a->jk f a (st b i)=gl g fin i b l
 |[],i,b,a,c,d,e=>by
  cases a with
   |zero=>omega
   |succ a=>
   show aD (f (st b i)) (jk f a)=_;have:i=xs.length:=by simpa using d
   subst this;rw[h b];rfl
 |x::l,i,b,a,c,d,e=>by
  cases a with
   |zero=>omega
   |succ a=>
   have n:xs[i]?=some x:=by
    have:(xs.drop i)[0]?=some x:=by rw[c];rfl
    rw[gz]at this;simpa using this
   have m:xs.drop (i+1)=l:=by rw[<-i8,c];rfl
   show aD (f (st b i)) (jk f a)=_;rw[j b i x n];unfold mw gl
   cases o:g i b x with
    |none=>rfl
    |some q=>cases q with
    |inl k=>exact qe j h l (i+1) k a m (by simp only[bx]at d;omega) (by simp only[bx]at e;omega)
    |inr r=>rfl
theorem eE{σ A B R X:Type}{f:σ->Option (Sum σ (Sum A R))}{xs:List X}{st:B->Nat->σ}{g:Nat->B->X->Option (Sum B R)}{fin:B->A}{b:B}{a:Nat}{c:σ}(j:∀b i x,xs[i]?=some x->f (st b i)=mw st g b i x)(h:∀b,f (st b xs.length)=some (.inr (.inl (fin b))))(d:c=st b 0)(e:xs.length<a):aB f a c=gl g fin 0 b xs:=by rw[ir,d];exact qe j h xs 0 b a rfl (by omega) e
theorem je{A R X:Type}{p:X->Bool}{r:R}{a:A}:∀(l:List X)(i:Nat),gl (λ_(_:Unit)x=>if p x=true then some (.inl ())else some (.inr r)) (λ_=>a) i () l=if l.all p=true then some (.inl a)else some (.inr r)
 |[],i=>rfl
 |x::l,i=>by
  unfold gl;by_cases h:p x=true;.simp only[h,fY,cT,dS];exact je l (i+1)
  .simp only[h,ft,cT,na];simp
theorem yW{A B R X:Type}{p:X->Bool}{s:B->X->B}{r:R}{fin:B->A}:∀(l:List X)(i:Nat)(b:B),gl (λ_ b x=>if p x=true then some (.inl (s b x))else some (.inr r)) fin i b l=if l.all p=true then some (.inl (fin (l.foldl s b)))else some (.inr r)
 |[],i,b=>rfl
 |x::l,i,b=>by
  unfold gl;by_cases h:p x=true;.simp only[h,fY,cT,dS,fL];exact yW l (i+1) (s b x)
  .simp only[h,ft,cT,na];simp
def nD{X:Type}(p:Nat->X->Bool):Nat->List X->Bool|_,[]=>true|i,x::l=>p i x&&nD p (i+1) l
theorem xQ{A R X:Type}{p:Nat->X->Bool}{r:R}{a:A}:∀(l:List X)(i:Nat),gl (λi(_:Unit)x=>if p i x=true then some (.inl ())else some (.inr r)) (λ_=>a) i () l=if nD p i l=true then some (.inl a)else some (.inr r)
 |[],i=>rfl
 |x::l,i=>by
  unfold gl nD;by_cases h:p i x=true;.simp only[h,fY,dS];exact xQ l (i+1)
  .simp only[h,ft,na];simp
theorem qU{A B R X:Type}{s:B->X->B}{fin:B->A}:∀(l:List X)(i:Nat)(b:B),gl (R:=R) (λ_ b x=>some (.inl (s b x))) fin i b l=some (.inl (fin (l.foldl s b)))
 |[],i,b=>rfl
 |x::l,i,b=>by unfold gl;exact qU l (i+1) (s b x)
end Go.Ls
namespace Go.Bo
open Go Go.Ls
theorem vL(x:D (.ah iT (.ah iT iU))):nF x=some (aV x.2.1 x.2.2.1 x.1,()):=by
 unfold nF aV;rw[jN,jN,mm];by_cases h:x.2.1<=x.1;.simp[h]
 .simp[h]
def im(l:List Int):Bool:=aV 1 4 l.length&&l.all (aV 0 3)
theorem NL(x:D (.ah cc .un))(h:x.1.1.length<=20):PX x=some (if im x.1.1=true then 0 else 1,()):=by
 unfold PX im;simp only[vL,aJ,cG,sb,mm];by_cases c:aV 1 4 (x.1.1.length:Int)=true
 .
  simp only[c,l5,dS,ec,ft];rw[eE (xs:=x.1.1) (st:=λ(_:Unit)i=>((i:Int),())) (g:=λ_ _ x=>if aV 0 3 x=true then some (.inl ())else some (.inr ((1:Int),()))) (fin:=λ_=>()) (b:=())];rotate_left
  .
   intro b i y e;have a:=sP e;rw[aJ]at a;simp only[a,fY,aC e,cG,bI (gv e (aU h (by decide))),Cr,mw];by_cases f:aV 0 3 y=true;.simp[f]
   .simp[f]
  .intro b;have a:=Gx (l:=x.1.1);rw[aJ]at a;simp[a,Cr]
  .rfl
  .omega
  .
   rw[je];by_cases d:x.1.1.all (aV 0 3)=true;.rw[aE d,aE d];rfl
   .rw[aG d,aG d];rfl
 .
  have c:aV 1 4 (x.1.1.length:Int)=false:=by simpa using c
  simp[c]
def pb(z:D kN):Bool:=aV 0 3 z.1&&(aV 0 1 z.2.1&&(aV 1 256 z.2.2.1&&aV 0 z.2.2.1 z.2.2.2.1))
def zM(l:List (D kN)):Int:=l.foldl (λa z=>ai .i64 a z.2.2.1) 0
def sH(l:List (D kN)):Bool:=l.any λz=>a6 z.2.1 0
def gS(l:List (D kN)):Bool:=aV 1 6 l.length&&(l.all pb&&(sH l&&decide (zM l<=256)))
theorem ui:∀(l:List (D kN))(a:Int)(k:Nat),k+l.length<=1000->l.foldl (λ(b:Int×Int)z=>(ai .i64 b.1 z.2.2.1,if z.2.1=0 then ai .i64 b.2 1 else b.2)) (a,(k:Int))=(l.foldl (λa z=>ai .i64 a z.2.2.1) a,((k+l.countP λz=>a6 z.2.1 0:Nat):Int))
 |[],a,k,_=>by simp
 |z::l,a,k,h=>by
  simp only[fL,List.countP_cons];simp only[bx]at h;by_cases c:z.2.1=0
  .
   rw[aE c,bI (by omega),ui l _ (k+1) (by omega)];have:a6 z.2.1 0=true:=by rw[gA];simpa using c
   simp only[this,fY];congr 2;omega
  .
   rw[aG c,ui l _ k (by omega)];have:a6 z.2.1 0=false:=by rw[gA];simpa using c
   simp[this]
theorem OS:∀(l:List (D kN)),l.countP (fun z=>a6 z.2.1 0)=0↔sH l=false:=by intro l;unfold sH;rw[l4];simp
theorem H1:∀(l:List (D kN))(a:Int)(b:Bool),l.foldl (λ(b:Int×Bool)z=>(ai .i64 b.1 z.2.2.1,if b.2=true then true else a6 z.2.1 0)) (a,b)=(l.foldl (λa z=>ai .i64 a z.2.2.1) a,b||sH l)
 |[],a,b=>by simp[sH]
 |z::l,a,b=>by simp only[fL];rw[H1 l];unfold sH;cases b<;>simp
theorem NK(x:D (.ah cc .un))(h:x.1.2.1.length<=20):PU x=some (if gS x.1.2.1=true then 0 else 1,()):=by
 unfold PU gS;simp only[vL,aJ,cG,sb,mm];by_cases e:aV 1 6 (x.1.2.1.length:Int)=true
 .
  simp only[e,l5,dS,ec,ft];rw[eE (xs:=x.1.2.1) (st:=λ(b:Int×Int)i=>(b.1,b.2,(i:Int),())) (g:=λ_ b z=>if pb z=true then some (.inl (ai .i64 b.1 z.2.2.1,if z.2.1=0 then ai .i64 b.2 1 else b.2))else some (.inr ((1:Int),()))) (fin:=λb=>(b.1,b.2,())) (b:=(0,0))];rotate_left;.intro b i y j;have d:=sP j;rw[aJ]at d;simp only[d,fY,aC j,cG,bI (gv j (aU h (by decide))),Cr,mw];unfold pb;cases aV 0 3 y.1<;>cases aV 0 1 y.2.1<;>cases aV 1 256 y.2.2.1<;>cases aV 0 y.2.2.1 y.2.2.2.1<;>simp[gA];by_cases o:y.2.1=0<;>simp[o]
  .intro b;have d:=Gx (l:=x.1.2.1);rw[aJ]at d;simp[d,Cr]
  .rfl
  .omega
  .
   rw[yW];by_cases f:x.1.2.1.all pb=true
   .
    rw[aE f];have:=ui x.1.2.1 0 0 (by omega);rw[show((0:Nat):Int)=0 from rfl]at this;rw[this];have l:=OS x.1.2.1;generalize x.1.2.1.countP (λz=>a6 z.2.1 0)=k at l;simp only[ik,br,f,dS,gA,hK];by_cases c:sH x.1.2.1=true
    .
     have:¬k=0:=by rw[l,c];simp
     have:¬((k:Nat):Int)=0:=by omega
     simp only[this,c,dS];show _=some (if decide (zM x.1.2.1<=256)=true then 0 else 1,());unfold zM;by_cases m:(256:Int)<List.foldl (λa z=>ai .i64 a z.2.2.1) 0 x.1.2.1
     .
      have g:¬List.foldl (λa z=>ai .i64 a z.2.2.1) 0 x.1.2.1<=(256:Int):=by omega
      simp[m,g]
     .
      have g:List.foldl (λa z=>ai .i64 a z.2.2.1) 0 x.1.2.1<=(256:Int):=by omega
      simp[m,g]
    .
     have c:sH x.1.2.1=false:=by simpa using c
     have:k=0:=by rw[l,c]
     simp[this,c]
   .
    have n:x.1.2.1.all pb=false:=by simpa using f
    rw[aG f];simp[n,AZ]
 .
  have e:aV 1 6 (x.1.2.1.length:Int)=false:=by simpa using e
  simp[e]
theorem T3(d b a c f j:Int)(g:Bool):(ad (ay d 0) (ao (ao (some (false,())))) (ad (cL 4 d) (ao (ao (some (false,())))) (ad (bH b 0) (ad (bH b 1) (ao (ao (some (false,())))) (ad (ay a 1) (ao (ao (some (false,())))) (ad (ay 256 a) (ao (ao (some (false,())))) (ad (ay c 0) (ao (ao (some (false,())))) (ad (ay a c) (ao (ao (some (false,())))) (ad g (some (.inl (ai .i64 f a,true,j,()))) (some (.inl (ai .i64 f a,a6 b 0,j,()))))))))) (ad (ay a 1) (ao (ao (some (false,())))) (ad (ay 256 a) (ao (ao (some (false,())))) (ad (ay c 0) (ao (ao (some (false,())))) (ad (ay a c) (ao (ao (some (false,())))) (ad g (some (.inl (ai .i64 f a,true,j,()))) (some (.inl (ai .i64 f a,a6 b 0,j,())))))))))):Option (Sum (Int×Bool×Int×Unit) (Sum (Int×Bool×Unit) (Bool×Unit))))=if(aV 0 3 d&&(aV 0 1 b&&(aV 1 256 a&&aV 0 a c)))=true then some (.inl (ai .i64 f a,if g=true then true else a6 b 0,j,()))else some (.inr (.inr (false,()))):=by
 simp only[mm,hK,jN,gM,Cr,bF];cases p:aV 0 3 d&&(aV 0 1 b&&(aV 1 256 a&&aV 0 a c))
 .
  simp only[aV,Bool.and_eq_false_iff,mS]at p;simp only[ec,ft,ju,mS];by_cases e:d<0;.simp[e]
  by_cases h:4<=d;.simp[e,h]
  by_cases n:b=0<;>by_cases o:b=1<;>by_cases i:a<1<;>by_cases k:256<a<;>by_cases l:c<0<;>by_cases m:a<c<;>first|(exfalso;omega)|simp[e,h,n,o,i,k,l,m]
 .
  simp only[aV,ae,bF]at p;have e:¬d<0:=by omega
  have h:¬4<=d:=by omega
  have i:¬a<1:=by omega
  have k:¬256<a:=by omega
  have l:¬c<0:=by omega
  have m:¬a<c:=by omega
  by_cases n:b=0;.cases g<;>simp[e,h,i,k,l,m,n]
  .
   have o:b=1:=by omega
   cases g<;>simp[e,h,i,k,l,m,o]
theorem We(x:D (.ah cc .un))(h:x.1.1.length<=20)(c:x.1.2.1.length<=20):Wf x=some (im x.1.1&&gS x.1.2.1,()):=by
 unfold Wf im gS;rw[fP,fP,aJ,aJ];cases d:aV 1 4 (x.1.1.length:Int);.rfl
 cases e:aV 1 6 (x.1.2.1.length:Int);.simp only[fY,ec,ft,na,ne]
 rw[aE rfl,aE rfl,dS,dS];rw[eE (xs:=x.1.1) (st:=λ(_:Unit)i=>((i:Int),())) (g:=λ_ _ x=>if aV 0 3 x=true then some (.inl ())else some (.inr (false,()))) (fin:=λ_=>()) (b:=())];rotate_left;.intro b i y a;refine(et a).trans ?_;refine(ue y 0 4 _ _).trans ?_;rw[hI];show(if aV 0 3 y=true then some (Sum.inl (ai .i64 (i:Int) 1,()))else some (Sum.inr (Sum.inr (false,()))))=_;rw[bI (gv a (aU h (by decide)))]
 .exactλb=>ey
 .rfl
 .omega
 rw[je];cases g:x.1.1.all (aV 0 3);.rfl
 rw[aE rfl,ik,dS];rw[eE (xs:=x.1.2.1) (st:=λ(b:Int×Bool)i=>(b.1,b.2,(i:Int),())) (g:=λ_ b z=>if pb z=true then some (.inl (ai .i64 b.1 z.2.2.1,if b.2=true then true else a6 z.2.1 0))else some (.inr (false,()))) (fin:=λb=>(b.1,b.2,())) (b:=(0,false))];rotate_left;.intro b i y a;refine(et a).trans ?_;refine(T3 y.1 y.2.1 y.2.2.1 y.2.2.2.1 b.1 _ b.2).trans ?_;rw[hI];show(if pb y=true then some (Sum.inl (ai .i64 b.1 y.2.2.1,if b.2=true then true else a6 y.2.1 0,ai .i64 (i:Int) 1,()))else some (Sum.inr (Sum.inr (false,()))))=_;rw[bI (gv a (aU c (by decide)))]
 .exactλb=>ey
 .rfl
 .omega
 rw[yW];cases j:x.1.2.1.all pb;.rfl
 rw[aE rfl,H1,ik,dS];cases f:sH x.1.2.1;.rfl
 .rfl
theorem tc(t:D (.ah iT (.ah iT iU))){β:Type}(A e:Option β):am (nF t) (λa=>ad a.1 A e)=if aV t.2.1 t.2.2.1 t.1=true then A else e:=by rw[vL,cG,mm]
theorem xW(t:D (.ah iT (.ah iT iU))){β:Type}(A e:Option β):am (nF t) (λa=>ad (bL a.1) e A)=if aV t.2.1 t.2.2.1 t.1=true then A else e:=by rw[vL,cG,sb];cases aV t.2.1 t.2.2.1 t.1<;>rfl
def nQ(f:D og):Bool:=aV 1 16 f.1&&(!bH (lM .i64 (ak f.2.1) 32) 0&&!ay (d8 .i64 f.1 32) (ak f.2.1))
def mX(c:D cc):Bool:=aV 1 16 c.2.2.2.1&&(aV 1 c.2.2.2.1 c.2.2.1&&(aV 1 16 c.2.2.2.2.1&&(aV 1 16 c.2.2.2.2.2.1&&(aV 0 64 c.2.2.2.2.2.2.1&&(aV 0 32 c.2.2.2.2.2.2.2.1&&(aV 1 256 c.2.2.2.2.2.2.2.2.1&&aV 1 32 c.2.2.2.2.2.2.2.2.2.1))))))
def dq(c:D cc):Bool:=mX c&&(cL (ak c.2.2.2.2.2.2.2.2.2.2.1) 4&&c.2.2.2.2.2.2.2.2.2.2.1.all nQ)
theorem NJ(x:D (.ah cc .un))(h:x.1.2.2.2.2.2.2.2.2.2.2.1.length<=20):PT x=some (if dq x.1=true then 0 else 1,()):=by
 unfold PT;rw[tc,tc,tc,tc,tc,tc,tc,tc];rw[eE (xs:=x.1.2.2.2.2.2.2.2.2.2.2.1) (st:=λ(_:Unit)i=>((i:Int),())) (g:=λ_ _ f=>if nQ f=true then some (.inl ())else some (.inr ((1:Int),()))) (fin:=λ_=>()) (b:=())];rotate_left;.intro b i y a;refine(et a).trans ?_;rw[hI];refine(xW (y.1,1,16,()) _ _).trans ?_;show(if aV 1 16 y.1=true then ad (bH (lM .i64 (ak y.2.1) 32) 0) (some (Sum.inr (Sum.inr ((1:Int),())))) (ad (ay (d8 .i64 y.1 32) (ak y.2.1)) (some (Sum.inr (Sum.inr ((1:Int),())))) (some (Sum.inl (ai .i64 (i:Int) 1,()))))else some (Sum.inr (Sum.inr ((1:Int),()))))=_;rw[bI (gv a (aU h (by decide)))];unfold nQ;cases aV 1 16 y.1<;>cases bH (lM .i64 (ak y.2.1) 32) 0<;>cases ay (d8 .i64 y.1 32) (ak y.2.1)<;>rfl
 .exactλb=>ey
 .rfl
 .omega
 rw[je];simp only[AS];unfold dq;have c:(aV 1 16 x.1.2.2.2.1&&(aV 1 x.1.2.2.2.1 x.1.2.2.1&&(aV 1 16 x.1.2.2.2.2.1&&(aV 1 16 x.1.2.2.2.2.2.1&&(aV 0 64 x.1.2.2.2.2.2.2.1&&(aV 0 32 x.1.2.2.2.2.2.2.2.1&&(aV 1 256 x.1.2.2.2.2.2.2.2.2.1&&aV 1 32 x.1.2.2.2.2.2.2.2.2.2.1)))))))=mX x.1:=rfl;rw[c];cases mX x.1;.rfl
 rw[aE rfl,dS];cases cL (ak x.1.2.2.2.2.2.2.2.2.2.2.1) 4;.rfl
 cases x.1.2.2.2.2.2.2.2.2.2.2.1.all nQ<;>rfl
theorem Wc(x:D (.ah cc .un))(h:x.1.2.2.2.2.2.2.2.2.2.2.1.length<=20):Wd x=some (dq x.1,()):=by
 unfold Wd;rw[fP,fP,fP,fP,fP,fP,fP,fP];rw[eE (xs:=x.1.2.2.2.2.2.2.2.2.2.2.1) (st:=λ(_:Unit)i=>((i:Int),())) (g:=λ_ _ f=>if nQ f=true then some (.inl ())else some (.inr (false,()))) (fin:=λ_=>()) (b:=())];rotate_left;.intro b i y a;refine(et a).trans ?_;rw[hI];refine(fP y.1 1 16 _ _).trans ?_;show(if aV 1 16 y.1=true then ad (bH (lM .i64 (ak y.2.1) 32) 0) (some (Sum.inr (Sum.inr (false,())))) (ad (ay (d8 .i64 y.1 32) (ak y.2.1)) (some (Sum.inr (Sum.inr (false,())))) (some (Sum.inl (ai .i64 (i:Int) 1,()))))else some (Sum.inr (Sum.inr (false,()))))=_;rw[bI (gv a (aU h (by decide)))];unfold nQ;cases aV 1 16 y.1<;>cases bH (lM .i64 (ak y.2.1) 32) 0<;>cases ay (d8 .i64 y.1 32) (ak y.2.1)<;>rfl
 .exactλb=>ey
 .rfl
 .omega
 rw[je];simp only[AS];unfold dq;have d:(aV 1 16 x.1.2.2.2.1&&(aV 1 x.1.2.2.2.1 x.1.2.2.1&&(aV 1 16 x.1.2.2.2.2.1&&(aV 1 16 x.1.2.2.2.2.2.1&&(aV 0 64 x.1.2.2.2.2.2.2.1&&(aV 0 32 x.1.2.2.2.2.2.2.2.1&&(aV 1 256 x.1.2.2.2.2.2.2.2.2.1&&aV 1 32 x.1.2.2.2.2.2.2.2.2.2.1)))))))=mX x.1:=rfl;rw[d];cases mX x.1;.rfl
 rw[aE rfl,dS]
 have c:ay 4 (ak x.1.2.2.2.2.2.2.2.2.2.2.1)=!cL (ak x.1.2.2.2.2.2.2.2.2.2.2.1) 4:=by
  rw[hK,jN];by_cases q:ak x.1.2.2.2.2.2.2.2.2.2.2.1<=4
  .
   have:¬4<ak x.1.2.2.2.2.2.2.2.2.2.2.1:=by omega
   simp[q,this]
  .
   have:4<ak x.1.2.2.2.2.2.2.2.2.2.2.1:=by omega
   simp[q,this]
 rw[c];cases cL (ak x.1.2.2.2.2.2.2.2.2.2.2.1) 4;.rfl
 cases x.1.2.2.2.2.2.2.2.2.2.2.1.all nQ<;>rfl
abbrev fj:=D rO
theorem yg(x:D iU):wk x=some (aV 0 1048576 x.1,()):=by
 unfold wk aV;rw[jN,jN,mm];by_cases h:0<=x.1;.simp[h]
 .simp[h]
theorem TP(x:D iU):yl x=some (aV 0 1048576 x.1,()):=yg x
def rQ(i:Nat)(a:fj):Bool:=bif Nat.beq i 0 then a6 a.1 (-1)else aV 0 ((i:Int)-1) a.1
def qD(a:fj):Bool:=aV 0 1048576 a.2.1&&(aV 0 1048576 a.2.2.1&&(aV 0 1048576 a.2.2.2.1&&aV 0 1048576 a.2.2.2.2.1))
def sJ(a:fj):Bool:=!ay a.2.2.2.2.1 a.2.1
theorem Mj{α:Type}(i:Nat)(p:Int)(a ok:Option α):ad (a6 (i:Int) 0) (ad (bH p (-1)) a (ad (ay 0 (i:Int)) (ad (ay p 0) a (ad (cL (i:Int) p) a ok)) ok)) (ad (ay 0 (i:Int)) (ad (ay p 0) a (ad (cL (i:Int) p) a ok)) ok)=if(bif Nat.beq i 0 then a6 p (-1)else aV 0 ((i:Int)-1) p)=true then ok else a:=by rw[ue];cases i with
 |zero=>rw[ez (by rfl),eb (b:=ay 0 ((0:Nat):Int)) (by rfl),gM,gA];show ad (!decide (p= -1)) a ok=if decide (p= -1)=true then ok else a;cases decide (p= -1)<;>rfl
 |succ i=>rw[eb (b:=a6 ((i+1:Nat):Int) 0) (by rw[gA];exact aX (by omega)),ez (by rw[hK];exact av (by omega))];rfl
theorem Tt(x:D (.ah kf .un))(h:x.1.length<=8):N7 x=some (nD rQ 0 x.1,()):=by
 unfold N7;rw[eE (xs:=x.1) (st:=λ(_:Unit)i=>((i:Int),())) (g:=λi _ a=>if rQ i a=true then some (.inl ())else some (.inr (false,()))) (fin:=λ_=>()) (b:=())];rotate_left;.intro b i y c;refine(et c).trans ?_;rw[hI];refine(Mj i y.1 _ _).trans ?_;show(if rQ i y=true then some (Sum.inl (ai .i64 (i:Int) 1,()))else some (Sum.inr (Sum.inr (false,()))))=_;rw[bI (gv c (aU h (by decide)))]
 .exactλb=>ey
 .rfl
 .omega
 rw[xQ];cases nD rQ 0 x.1<;>rfl
theorem uI(t:D iU){β:Type}(A e:Option β):am (wk t) (λa=>ad (bL a.1) e A)=if aV 0 1048576 t.1=true then A else e:=by rw[yg,cG,sb];cases aV 0 1048576 t.1<;>rfl
theorem xX(t:D iU){β:Type}(A e:Option β):am (yl t) (λa=>ad (bL a.1) e A)=if aV 0 1048576 t.1=true then A else e:=uI t A e
def sT(a:fj):Bool:=a6 a.2.2.1 0&&a6 a.2.2.2.1 0
theorem Ts(a0:fj)(l:List fj)(h:(a0::l).length<=8):N6 ((a0::l:List fj),())=some ((a0::l).all qD&&sT a0,()):=by
 unfold N6;rw[eE (xs:=a0::l) (st:=λ(_:Unit)i=>((i:Int),())) (g:=λi _ a=>if qD a=true then some (.inl ())else some (.inr (false,()))) (fin:=λ_=>()) (b:=())];rotate_left;.intro b i y c;refine(et c).trans ?_;rw[hI];refine(uI (y.2.1,()) _ _).trans ?_;rw[uI,uI,uI];simp only[AS];show(if qD y=true then some (Sum.inl (ai .i64 (i:Int) 1,()))else some (Sum.inr (Sum.inr (false,()))))=_;rw[bI (gv c (aU h (by decide)))]
 .exactλb=>ey
 .rfl
 .omega
 rw[je];cases(a0::l).all qD;.rfl
 rw[aE rfl,ik,dS];show ad (a6 a0.2.2.1 0) (some (a6 a0.2.2.2.1 0,())) (some (false,()))=_;unfold sT;cases a6 a0.2.2.1 0<;>rfl
def v4{β:Type}(i:Nat)(n:List Int)(a:fj)(K:List Int->Option β):Option β:=aA (a5 n (i:Int)) (am (ax n (i:Int)) λb=>aA (a5 n (i:Int)) (am (ax n (i:Int)) λd=>ad (ay 0 (i:Int)) (aA (a5 (aI n (i:Int) (ai .i64 b a.2.1)) a.1) (am (ax (aI n (i:Int) (ai .i64 b a.2.1)) a.1) λc=>aA (a5 (aI n (i:Int) (ai .i64 b a.2.1)) a.1) (am (ax (aI n (i:Int) (ai .i64 b a.2.1)) a.1) λe=>K (aI (aI n (i:Int) (ai .i64 b a.2.1)) a.1 (bo .i64 c a.2.1))))) (K (aI n (i:Int) (ai .i64 b a.2.1)))))
theorem QJ{β:Type}(i:Nat)(n:List Int)(a:fj)(K:List Int->Option β):v4 i n a K=am (v4 i n a some) K:=by
 unfold v4;cases a5 n (i:Int);.rfl
 cases ax n (i:Int)with
  |none=>rfl
  |some v=>
  simp only[lW,cG];cases ay 0 (i:Int);.rfl
  simp only[Lk];cases a5 (aI n (i:Int) (ai .i64 v a.2.1)) a.1;.rfl
  cases ax (aI n (i:Int) (ai .i64 v a.2.1)) a.1<;>rfl
def BQ(i:Nat)(n:List Int)(a:fj):Option (Sum (List Int) (List Int×Unit)):=am (v4 i n a some) λb=>some (.inl b)
theorem xO{n:List Int}{i:Nat}{v:Int}(h:n[i]?=some v):a5 n (i:Int)=true:=by have:=(aj.1 h).1;unfold a5;simp only[ae,bF];exact⟨by omega,ll.2 this⟩
theorem Ye{n:List Int}{a:fj}{v:Int}(h:n[0]?=some v):v4 0 n a some=some (n.set 0 (ai .i64 v a.2.1)):=by unfold v4;rw[xO h,aC h,lW,cG,lW,cG];rfl
theorem Yd{n:List Int}{a:fj}{v b:Int}{k q:Nat}(d:0<k)(h:n[k]?=some v)(c:a.1=(q:Int))(h1:(n.set k (ai .i64 v a.2.1))[q]?=some b):v4 k n a some=some ((n.set k (ai .i64 v a.2.1)).set q (bo .i64 b a.2.1)):=by unfold v4;rw[xO h,aC h,lW,cG,lW,cG,ez (by rw[hK];exact av (by omega))];rw[c];have e:aI n (k:Int) (ai .i64 v a.2.1)=n.set k (ai .i64 v a.2.1):=rfl;rw[e,xO h1,aC h1,lW,cG,lW,cG];rfl
def nN(i:Nat):List fj->Int|[]=>0|a::l=>(if a.1=(i:Int)then a.2.1 else 0)+nN i l
theorem TO(l:List fj)(i:Nat)(h:l.length<=8)(t:l.all qD=true):JZ (l,(i:Int),())=some (nN i (l.drop 1),()):=by
 unfold JZ
 have v:∀(s:List fj)(k:Nat)(b:Int),l.drop k=s->k+s.length=l.length->0<=b->b<=1048576*k->gl (R:=Int×Unit) (λ_ b a=>some (.inl (if a.1=(i:Int)then ai .i64 b a.2.1 else b))) (λb=>(b,())) k b s=some (.inl (b+nN i s,())):=by
  intro s
  induction s with
   |nil=>intro k b _ _ _ _;unfold gl nN;rw[hD]
   |cons a s q=>
   intro k b e f w x
   have u:a∈l:=by
    have:a∈l.drop k:=by rw[e];simp
    exact jy this
   have p:=bR.1 t a u;simp only[qD,aV,ae,bF]at p;have z:(0:Int)<=a.2.1/\a.2.1<=1048576:=p.1;simp only[bx]at f;unfold gl nN;by_cases d:a.1=(i:Int);.simp only[d,fY];rw[cD (by omega) (by omega)];rw[q (k+1) (b+a.2.1) (by rw[<-i8,e];rfl) (by omega) (by omega) (by omega)];congr 3;omega
   .simp only[d,ft];rw[q (k+1) b (by rw[<-i8,e];rfl) (by omega) (by omega) (by omega)];congr 3;omega
 have f:aB (λc:Int×Int×Unit=>ad (ay c.2.1 (ak l)) (am (ax l c.2.1) λm:fj=>ad (a6 m.1 (i:Int)) (am (ax l c.2.1) λn:fj=>some (.inl (ai .i64 c.1 n.2.1,ai .i64 c.2.1 1,()))) (some (.inl (c.1,ai .i64 c.2.1 1,())))) (ao (some (.inl (c.1,()))))) 1000000000 ((0:Int),(1:Int),())=(some (.inl (nN i (l.drop 1),())):Option (Sum (Int×Unit) (Int×Unit))):=by
  by_cases r:l.length=0;.have:l=[]:=eR.1 r;subst this;rw[ir];rfl
  .
   rw[ir]
   have:=qe (f:=λc:Int×Int×Unit=>ad (ay c.2.1 (ak l)) (am (ax l c.2.1) λm:fj=>ad (a6 m.1 (i:Int)) (am (ax l c.2.1) λn:fj=>some (.inl (ai .i64 c.1 n.2.1,ai .i64 c.2.1 1,()))) (some (.inl (c.1,ai .i64 c.2.1 1,())))) (ao (some (.inl (c.1,()))))) (xs:=l) (st:=λ(b:Int)j=>(b,(j:Int),())) (g:=λ_ b a=>some (.inl (if a.1=(i:Int)then ai .i64 b a.2.1 else b))) (fin:=λb=>(b,())) (R:=Int×Unit) (λb j y g=>by
    refine(et g).trans ?_;show ad (a6 y.1 (i:Int)) (am (ax l (j:Int)) _) _=_;rw[aC g,cG,bI (gv g (aU h (by decide)))];unfold mw;rw[gA];by_cases d:y.1=(i:Int);.simp[d,Lk]
    .simp[d,nV]) (λb=>ey) (l.drop 1) 1 0 1000000000 rfl (by rw[cE];omega) (by rw[cE];omega)
   refine this.trans ?_;rw[v (l.drop 1) 1 0 rfl (by rw[cE];omega) (by omega) (by omega),mU]
 refine(eT (λo=>aD o _) f).trans ?_;rfl
def us(k i:Nat)(l:List fj):Int:=if k≤i then((l[i-k]?).map (·.2.1)).getD 0 else 0
def kd(k i:Nat)(l:List fj):Int:=if k=0 then nN i (l.drop 1)else nN i l
theorem yN:∀(l:List fj)(k:Nat)(n:List Int),k+l.length=n.length->n.length<=8->nD rQ k l=true->l.all qD=true->(∀(i:Nat)(v:Int),n[i]?=some v-> -(1048576*(k:Int))<=v/\v<=1048576*(k:Int))->∃d,gl BQ (λn=>(n,())) k n l=some (.inl (d,()))/\d.length=n.length/\∀(i:Nat)(v:Int),n[i]?=some v->d[i]?=some (v+us k i l-kd k i l)
 |[],k,n,z0,r,e,f,g=>by
  refine⟨n,rfl,rfl,λi v b=>?_⟩;have:us k i []=0:=by unfold us;split<;>simp
  have q0:kd k i []=0:=by unfold kd;split<;>rfl
  rw[b,this,q0];simp
 |a::l,k,n,z0,r,e,f,g=>by
  rw[cT,ae]at f;have C:=f.1;simp only[qD,aV,ae,bF]at C;have g0:(0:Int)<=a.2.1/\a.2.1<=1048576:=C.1;unfold nD at e;rw[ae]at e;simp only[bx]at z0;have u:k<n.length:=by omega
  have m:n[k]?=some n[k]:=G u;obtain⟨l0,k0⟩:=g k _ m;have B:ai .i64 n[k] a.2.1=n[k]+a.2.1:=cD (by omega) (by omega)
  have x0:∀i,us k i (a::l)=(if i=k then a.2.1 else 0)+us (k+1) i l:=by
   intro i;unfold us;by_cases j:i=k;.subst j;rw[aE (ar _),aE rfl,aG (by omega),ee];simp
   .
    rw[aG j];by_cases D:k<=i;.rw[aE D,aE (by omega),show i-k=i-(k+1)+1 by omega,dP,mU]
    .rw[aG D,aG (by omega)];rfl
  by_cases w:k=0
  .
   subst w;have s:BQ 0 n a=some (.inl (n.set 0 (n[0]+a.2.1))):=by unfold BQ;rw[Ye m,B];rfl
   obtain⟨d,z,A,p⟩:=yN l 1 (n.set 0 (n[0]+a.2.1)) (by rw[bC];omega) (by rw[bC];exact r) e.2 f.2 λi v b=>by
    by_cases c:i=0;.subst c;rw[bq u]at b;cases b;constructor<;>omega
    .rw[bE λh=>c h.symm]at b;obtain⟨u0,t0⟩:=g i v b;constructor<;>omega
   refine⟨d,by unfold gl;rw[s];exact z,by rw[A,bC],λi v b=>?_⟩;have x:kd 0 i (a::l)=kd 1 i l:=rfl;have m0:us 0 i (a::l)=(if i=0 then a.2.1 else 0)+us 1 i l:=x0 i;rw[m0,x];by_cases c:i=0;.subst c;rw[m]at b;cases b;have:=p 0 (n[0]+a.2.1) (by rw[bq u]);rw[this,aE rfl];congr 1;omega
   .have:=p i v (by rw[bE λh=>c h.symm];exact b);rw[this,aG c];congr 1;omega
  .
   have y:aV 0 ((k:Int)-1) a.1=true:=by
    have:=e.1;unfold rQ at this
    have p0:Nat.beq k 0=false:=by cases k with
     |zero=>exact absurd rfl w
     |succ k=>rfl
    rw[p0]at this;exact this
   simp only[aV,ae,bF]at y;obtain⟨q,o⟩:∃q:Nat,a.1=(q:Int):=⟨a.1.toNat,(eN y.1).symm⟩;have h0:q<k:=by have:=y.2;rw[o]at this;omega
   have r0:(n.set k (ai .i64 n[k] a.2.1))[q]?=some n[q]:=by rw[bE (by omega)];exact G (by omega)
   have o0:n[q]?=some n[q]:=G (by omega);obtain⟨j0,i0⟩:=g q _ o0;have n0:bo .i64 n[q] a.2.1=n[q]-a.2.1:=fk (by omega) (by omega);have s:BQ k n a=some (.inl ((n.set k (n[k]+a.2.1)).set q (n[q]-a.2.1))):=by unfold BQ;rw[Yd (by omega) m o r0,B,n0];rfl
   have w0:∀(i:Nat)(v:Int),n[i]?=some v->((n.set k (n[k]+a.2.1)).set q (n[q]-a.2.1))[i]?=some (v+(if i=k then a.2.1 else 0)-if a.1=(i:Int)then a.2.1 else 0):=by
    intro i v b;have c:i<n.length:=(aj.1 b).1;have v0:n[i]=v:=(aj.1 b).2;rw[gR,gR];by_cases t:q=i;.subst t;rw[aE rfl,aE (by rw[bC];omega),aG (c:=q=k) (by omega),aE o,v0];congr 1;omega
    .
     rw[aG t,aG (c:=a.1=(i:Int)) (by rw[o];intro h;exact t (vd.1 h))];by_cases j:k=i;.subst j;rw[aE rfl,aE c,aE rfl,v0];congr 1;omega
     .rw[aG j,aG (c:=i=k) (by omega),b];congr 1;omega
   obtain⟨d,z,A,p⟩:=yN l (k+1) ((n.set k (n[k]+a.2.1)).set q (n[q]-a.2.1)) (by rw[bC,bC];omega) (by rw[bC,bC];exact r) e.2 f.2 λi v b=>by
    have c:i<n.length:=by have:=(aj.1 b).1;simpa using this
    have y0:n[i]?=some n[i]:=G c;rw[w0 i _ y0]at b;cases b;obtain⟨u0,t0⟩:=g i _ y0;have s0:((k+1:Nat):Int)=(k:Int)+1:=by omega
    rw[s0];split<;>split<;>constructor<;>omega
   refine⟨d,by unfold gl;rw[s];exact z,by rw[A,bC,bC],λi v b=>?_⟩;rw[p i _ (w0 i v b),x0 i];have x:kd k i (a::l)=(if a.1=(i:Int)then a.2.1 else 0)+kd (k+1) i l:=by unfold kd;rw[aG w,aG (Nat.succ_ne_zero k)];rfl
   rw[x];congr 1;omega
theorem OK(l:List fj)(e:l.length<=8)(n:nD rQ 0 l=true)(h:l.all qD=true):∃c,Fy (l,())=some (c,())/\c.length=l.length/\∀(i:Nat)(a:fj),l[i]?=some a->c[i]?=some (a.2.1-nN i (l.drop 1)):=by
 have m:er (ak l) (0:Int)=List.replicate l.length 0:=rfl
 obtain⟨c,o,p,q⟩:=yN l 0 (List.replicate l.length 0) (by simp) (by simpa using e) n h λi v d=>by
  rw[cm]at d;split at d;.cases d;constructor<;>decide
  .cases d
 refine⟨c,?_,by simpa using p,λi a f=>?_⟩
 .
  unfold Fy;have k:gP (ak l) (ak l) 8=true:=by unfold gP Hm.gL;rw[aJ];simp only[ae,bF,bS];refine⟨by omega,by omega,?_⟩;show l.length*8<=4294967296;omega
  rw[k,lW,m];rw[eE (xs:=l) (st:=λ(b:List Int)i=>(b,(i:Int),())) (g:=BQ) (fin:=λb=>(b,())) (b:=List.replicate l.length 0)];rotate_left;.intro b i y g;refine(et g).trans ?_;show v4 i b y (λc=>some (Sum.inl (c,ai .i64 (i:Int) 1,())))=_;rw[QJ,bI (gv g (aU e (by decide)))];unfold mw BQ;cases v4 i b y some<;>rfl
  .exactλb=>ey
  .rfl
  .omega
  rw[o];rfl
 .have j:=(aj.1 f).1;rw[q i 0 (by rw[cm,aE j])];unfold us kd;rw[aE (aP _),aE rfl,jd,f];simp
theorem MJ:∀(t:List Int)(h:Int),t.foldl bN h<0↔h<0∨∃v,v∈t∧v<0
 |[],h=>by simp
 |a::t,h=>by
  rw[fL,MJ t]
  have d:bN h a<0↔h<0∨a<0:=by
   unfold bN;by_cases q:h≤a;·simp only[av q,fR];omega
   ·simp only[aX q,kM];omega
  rw[d];constructor
  ·
   rintro((g|g)|⟨v,b,c⟩);·exact .inl g
   ·exact .inr ⟨a,by simp,g⟩
   ·exact .inr ⟨v,by simp[b],c⟩
  ·
   rintro(g|⟨v,b,c⟩);·exact .inl (.inl g)
   ·
    rcases co.1 b with rfl|b;·exact .inl (.inr c)
    ·exact .inr ⟨v,b,c⟩
theorem Tq(h:Int)(t:List Int)(d:(h::t).length<=8):FA ((h::t:List Int),())=some (t.foldl bN h,()):=by
 unfold FA;have f:ay (ak (h::t)) 1=false:=by rw[hK,aJ];exact aX (by simp only[bx];omega)
 rw[eb f];show aD (aB _ 1000000000 (h,(1:Int),())) _=_;rw[ir];have:=qe (f:=λc:Int×Int×Unit=>ad (ay c.2.1 (ak (h::t))) (am (ax (h::t) c.2.1) λg=>some (.inl (bN c.1 g,ai .i64 c.2.1 1,()))) (ao (some (.inl (c.1,()))))) (xs:=h::t) (st:=λ(b:Int)j=>(b,(j:Int),())) (g:=λ_ b a=>some (.inl (bN b a))) (fin:=λb=>(b,())) (R:=Int×Unit) (λb j y e=>by refine(et e).trans ?_;show some (Sum.inl (bN b y,ai .i64 (j:Int) 1,()))=_;rw[bI (gv e (aU d (by decide)))];rfl) (λb=>ey) t 1 h 1000000000 rfl (by simp only[bx];omega) (by simp only[bx]at d;omega);rw[qU]at this;refine(eT (λo=>aD o _) this).trans ?_;rfl
def uf(l:List fj):Bool:=nD (λi a=>!ay a.2.1 (nN i (l.drop 1))) 0 l
def eg(l:List fj):Int:=if aV 1 8 l.length=true then if nD rQ 0 l=true then if(l.all qD&&match l with|a::_=>sT a|[]=>false)=true then if l.all sJ=true then if uf l=true then 0 else 11 else 17 else 2 else 1 else 9
theorem vI{X:Type}{p:Nat→X→Bool}:∀{l:List X}{k:Nat},nD p k l=true↔∀i x,l[i]?=some x→p (k+i) x=true
 |[],k=>by unfold nD;simp
 |a::l,k=>by
  unfold nD;rw[ae,vI];constructor
  ·rintro⟨c,d⟩i x b;cases i with
   |zero=>simp only[ke,eP]at b;subst b;exact c
   |succ i=>simp only[dP]at b;have:=d i x b;rw[show k+1+i=k+(i+1)by omega]at this;exact this
  ·intro h;refine⟨h 0 a rfl,fun i x b=>?_⟩;have:=h (i+1) x (by simpa using b);rw[show k+(i+1)=k+1+i by omega]at this;exact this
theorem Ia(a b:Int):ay a b=decide (a-b<0):=by rw[hK];congr 1;apply propext;omega
theorem Q3{l:List fj}(p:l.length≤8)(h1:1≤l.length)(z0:nD rQ 0 l=true)(A:l.all qD=true):∃d m,Fy (l,())=some (d,())∧FA (d,())=some (m,())∧ay m 0=!uf l:=by
 obtain⟨d,y0,o,x⟩:=OK l p z0 A
 cases d with
  |nil=>simp only[gp]at o;omega
  |cons h t=>
  refine⟨h::t,t.foldl bN h,y0,Tq h t (by rw[o];exact p),?_⟩
  have w:t.foldl bN h<0↔uf l=false:=by
   rw[MJ];unfold uf;rw[←rk,vI];constructor
   ·
    intro b B
    have:∃(i:Nat)(v:Int),(h::t)[i]?=some v∧v<0:=by
     rcases b with g|⟨v,y,z⟩;·exact⟨0,h,rfl,g⟩
     ·obtain⟨j,C⟩:=bn y;exact⟨j+1,v,by simpa using C,z⟩
    obtain⟨i,v,c,n⟩:=this;have s:=(aj.1 c).1;rw[o]at s;have q:l[i]?=some l[i]:=G s;have:=x i l[i] q;rw[c]at this;have f:=B i l[i] q;rw[br,Ia]at f;have e:v=(l[i]).2.1-nN i (l.drop 1):=eu this;rw[←e,av n]at f;cases f
   ·
    intro D;by_cases r:h<0∨∃v,v∈t∧v<0;·exact r
    ·
     exfalso;apply D;intro i a c;rw[br,Ia];have b:=x i a c
     have n:¬a.2.1-nN i (l.drop 1)<0:=by intro u;apply r;cases i with
      |zero=>simp only[ke,eP]at b;exact .inl (by rw[b];exact u)
      |succ i=>simp only[dP]at b;exact .inr ⟨_,Y b,u⟩
     rw[aX n];rfl
  rw[hK]
  cases k:uf l with
   |false=>exact av (w.2 k)
   |true=>exact aX fun g=>by rw[w.1 g]at k;cases k
theorem qu(l:List fj):As (l,())=some (eg l,()):=by
 unfold As eg;rw[fP,aJ];cases g:aV 1 8 (l.length:Int);.rfl
 have d:1<=l.length/\l.length<=8:=by simp only[aV,ae,bF]at g;omega
 rw[aE rfl,aE rfl,Tt (l,()) d.2,cG,sb];cases h:nD rQ 0 l;.rfl
 rw[eb (by rfl),aE rfl]
 cases l with
  |nil=>simp only[gp]at d;omega
  |cons c l=>
  rw[Ts c l d.2,cG,sb];cases e:(c::l).all qD&&sT c;.rfl
  rw[eb (by rfl),aE rfl];rw[ae]at e;rw[eE (xs:=c::l) (st:=λ(_:Unit)i=>((i:Int),())) (g:=λ_ _ a=>if sJ a=true then some (.inl ())else some (.inr ((17:Int),()))) (fin:=λ_=>()) (b:=())];rotate_left;.intro b i y f;refine(et f).trans ?_;rw[hI];show ad (ay y.2.2.2.2.1 y.2.1) (ao (ao (ad (cL 0 (i:Int)) (some ((17:Int),())) _))) (some (Sum.inl (ai .i64 (i:Int) 1,())))=_;rw[ez (b:=cL 0 (i:Int)) (by rw[jN];exact av (by omega)),bI (gv f (aU d.2 (by decide)))];unfold sJ;cases ay y.2.2.2.2.1 y.2.1<;>rfl
  .exactλb=>ey
  .rfl
  .omega
  rw[je];cases o:(c::l).all sJ;.rfl
  rw[aE rfl,aE rfl,ik];obtain⟨p,m,j,k,n⟩:=Q3 d.2 d.1 h e.1;rw[j,cG,k,cG,n];cases uf (c::l)<;>rfl
theorem A4(l:List fj):Jp (l,())=some (eg l,()):=by
 unfold Jp eg;rw[fP,aJ];cases g:aV 1 8 (l.length:Int);.rfl
 have e:1<=l.length/\l.length<=8:=by simp only[aV,ae,bF]at g;omega
 rw[aE rfl,aE rfl];rw[eE (xs:=l) (st:=λ(_:Unit)i=>((i:Int),())) (g:=λi _ a=>if rQ i a=true then some (.inl ())else some (.inr ((1:Int),()))) (fin:=λ_=>()) (b:=())];rotate_left;.intro b i y d;refine(ez (sP d) _ _).trans ?_;simp only[aC d,cG];rw[hI];refine(Mj i y.1 _ _).trans ?_;show(if rQ i y=true then some (Sum.inl (ai .i64 (i:Int) 1,()))else some (Sum.inr (Sum.inr ((1:Int),()))))=_;rw[bI (gv d (aU e.2 (by decide)))]
 .exactλb=>ey
 .rfl
 .omega
 rw[xQ];cases k:nD rQ 0 l;.rfl
 rw[aE rfl,aE rfl,ik];rw[eE (xs:=l) (st:=λ(_:Unit)i=>((i:Int),())) (g:=λi _ a=>if qD a=true then some (.inl ())else some (.inr ((2:Int),()))) (fin:=λ_=>()) (b:=())];rotate_left;.intro b i y d;refine(et d).trans ?_;simp only[aC d,cG];refine(xX (y.2.1,()) _ _).trans ?_;rw[xX,xX,xX];simp only[AS];rw[hI];show(if qD y=true then some (Sum.inl (ai .i64 (i:Int) 1,()))else some (Sum.inr (Sum.inr ((2:Int),()))))=_;rw[bI (gv d (aU e.2 (by decide)))]
 .exactλb=>ey
 .rfl
 .omega
 rw[je];cases h:l.all qD;.rfl
 rw[aE rfl,ik,dS]
 cases l with
  |nil=>simp only[gp]at e;omega
  |cons c l=>
  show ad (bH c.2.2.1 0) (some ((2:Int),())) (ad (bH c.2.2.2.1 0) (some ((2:Int),())) _)=some (if sT c=true then _ else 2,());unfold sT;have f:∀q:Int,bH q 0=!a6 q 0:=λ_=>rfl;rw[f,f];cases a6 c.2.2.1 0;.rfl
  cases a6 c.2.2.2.1 0;.rfl
  rw[eb (by rfl),eb (by rfl),aE (by rfl)];rw[eE (xs:=c::l) (st:=λ(_:Unit)i=>((i:Int),())) (g:=λ_ _ a=>if sJ a=true then some (.inl ())else some (.inr ((17:Int),()))) (fin:=λ_=>()) (b:=())];rotate_left;.intro b i y d;refine(et d).trans ?_;simp only[aC d,cG];rw[hI];show ad (ay y.2.2.2.2.1 y.2.1) (some (Sum.inr (Sum.inr ((17:Int),())))) (some (Sum.inl (ai .i64 (i:Int) 1,())))=_;rw[bI (gv d (aU e.2 (by decide)))];unfold sJ;cases ay y.2.2.2.2.1 y.2.1<;>rfl
  .exactλb=>ey
  .rfl
  .omega
  rw[je];cases m:(c::l).all sJ;.rfl
  rw[aE rfl,aE rfl,ik];rw[eE (xs:=c::l) (st:=λ(_:Unit)i=>((i:Int),())) (g:=λi _ a=>if(!ay a.2.1 (nN i ((c::l).drop 1)))=true then some (.inl ())else some (.inr ((11:Int),()))) (fin:=λ_=>()) (b:=())];rotate_left;.intro b i y d;refine(et d).trans ?_;rw[hI];show am (JZ (c::l,(i:Int),())) (λj=>ad (ay y.2.1 j.1) (ao (ao (some ((11:Int),())))) (some (Sum.inl (ai .i64 (i:Int) 1,()))))=_;rw[TO (c::l) i e.2 h,cG,bI (gv d (aU e.2 (by decide)))];cases ay y.2.1 (nN i ((c::l).drop 1))<;>rfl
  .exactλb=>ey
  .rfl
  .omega
  rw[xQ];show aD (if uf (c::l)=true then some (Sum.inl ())else some (Sum.inr ((11:Int),()))) _=_;cases uf (c::l)<;>rfl
def lQ(i:Nat):List fj->Int|[]=>0|a::l=>(if a.1=(i:Int)then a.2.2.1 else 0)+lQ i l
theorem di{lo hi n:Int}(h:aV lo hi n=true):lo<=n/\n<=hi:=by simp only[aV,ae,bF]at h;exact h
theorem tE{l:List fj}(h:eg l=0):l.length<=8/\1<=l.length/\nD rQ 0 l=true/\l.all qD=true:=by
 cases l with
  |nil=>exact absurd h (by decide)
  |cons a l=>
  unfold eg at h;by_cases b:aV 1 8 ((a::l).length:Int)=true
  .
   rw[aE b]at h;by_cases c:nD rQ 0 (a::l)=true
   .
    rw[aE c]at h;by_cases d:((a::l).all qD&&sT a)=true;.rw[ae]at d;have e:=di b;exact⟨by omega,by omega,c,d.1⟩
    .rw[aG d]at h;cases h
   .rw[aG c]at h;cases h
  .rw[aG b]at h;cases h
theorem I5{a:fj}(h:qD a=true):(0:Int)<=a.2.2.1/\ @LE.le Int _ a.2.2.1 1048576:=by unfold qD at h;rw[ae,ae]at h;exact di h.2.1
theorem Mx{l:List fj}(c:nD rQ 0 l=true){i:Nat}{a:fj}(h:l[i]?=some a)(hi:0<i):∃q:Nat,a.1=(q:Int)/\q<i:=by
 have:=vI.1 c i a h;rw[br]at this;unfold rQ at this
 have b:Nat.beq i 0=false:=by cases i with
  |zero=>omega
  |succ i=>rfl
 rw[b]at this;simp only[kM,aV,ae,bF]at this;refine⟨a.1.toNat,(eN this.1).symm,?_⟩;have d:(0:Int)<=a.1:=this.1;have e:(a.1:Int)<=(i:Int)-1:=this.2;omega
def Bj{β:Type}(n:List Int)(a:fj)(K:List Int->Option β):Option β:=aA (a5 n a.1) (am (ax n a.1) λb=>aA (a5 n a.1) (am (ax n a.1) λc=>K (aI n a.1 (ai .i64 b a.2.2.1))))
theorem Qt{β:Type}(n:List Int)(a:fj)(K:List Int->Option β):Bj n a K=am (Bj n a some) K:=by
 unfold Bj;cases a5 n a.1;.rfl
 cases ax n a.1<;>rfl
def Hy(_:Nat)(n:List Int)(a:fj):Option (Sum (List Int) (D cU)):=am (Bj n a some) λb=>some (.inl b)
theorem D6:∀(s:List fj)(k:Nat)(n:List Int),(∀a,a∈s->qD a=true/\∃q:Nat,a.1=(q:Int)/\q<n.length)->k+s.length<=8->(∀(i:Nat)(v:Int),n[i]?=some v->0<=v/\v<=1048576*(k:Int))->∃d,gl Hy (λn=>(n,())) k n s=some (.inl (d,()))/\d.length=n.length/\∀(i:Nat)(v:Int),n[i]?=some v->d[i]?=some (v+lQ i s)
 |[],k,n,_,_,_=>⟨n,rfl,rfl,λi v b=>by rw[b];unfold lQ;simp⟩
 |a::s,k,n,j,t,l=>by
  obtain⟨r,q,f,g⟩:=j a (by simp);have y0:=I5 r;have e:n[q]?=some n[q]:=G g;obtain⟨B,C⟩:=l q _ e;simp only[bx]at t;have w:ai .i64 n[q] a.2.2.1=n[q]+a.2.2.1:=cD (by omega) (by omega);have x:Hy k n a=some (.inl (n.set q (n[q]+a.2.2.1))):=by unfold Hy Bj;rw[f,xO e,aC e,lW,cG,lW,cG,w];rfl
  obtain⟨d,z,A,m⟩:=D6 s (k+1) (n.set q (n[q]+a.2.2.1)) (λo u=>by rw[bC];exact j o (by simp[u])) (by omega) λi v b=>by
   have p:((k+1:Nat):Int)=(k:Int)+1:=by omega
   rw[p];by_cases c:q=i;.subst c;rw[bq g]at b;cases b;constructor<;>omega
   .rw[bE c]at b;obtain⟨D,z0⟩:=l i v b;constructor<;>omega
  refine⟨d,by unfold gl;rw[x];exact z,by rw[A,bC],λi v b=>?_⟩;unfold lQ;by_cases c:q=i;.subst c;have y:n[q]=v:=(aj.1 b).2;rw[m q _ (bq g),aE f,y];congr 1;omega
  .rw[m i v (by rw[bE c];exact b),aG (by rw[f];intro h;exact c (vd.1 h))];congr 1;omega
theorem H7(i:Nat)(a:fj)(l:List fj):lQ i (a::l)=(if a.1=(i:Int)then a.2.2.1 else 0)+lQ i l:=rfl
theorem B1{l:List fj}(b:nD rQ 0 l=true)(i:Nat):∀d,d<=i->lQ i (l.drop (d+1))=lQ i (l.drop 1)
 |0,_=>rfl
 |d+1,h=>by
  rw[<-B1 b i d (by omega)];by_cases a:d+1<l.length;.rw[dR a];have e:l[d+1]?=some l[d+1]:=G a;obtain⟨q,f,g⟩:=Mx b e (by omega);rw[H7,aG (by rw[f];intro c;have:=vd.1 c;omega),mU]
  .rw[dV (by omega),dV (by omega)]
theorem Mz{α:Type}(i:Nat)(f m s:Int)(a ok:Option α):ad (a6 (i:Int) 0) (ad (ay f s) a (ad (ay 0 (i:Int)) (ad (ay m s) a ok) ok)) (ad (ay 0 (i:Int)) (ad (ay m s) a ok) ok)=if(bif Nat.beq i 0 then ay f s else ay m s)=true then a else ok:=by cases i with
 |zero=>rw[ez (by rfl),eb (b:=ay 0 ((0:Nat):Int)) (by rfl),mm];rfl
 |succ i=>rw[eb (b:=a6 ((i+1:Nat):Int) 0) (by rw[gA];exact aX (by omega)),ez (by rw[hK];exact av (by omega)),mm];rfl
def over(f:Int)(l:List fj)(i:Nat)(a:fj):Bool:=bif Nat.beq i 0 then ay f (lQ i (l.drop 1))else ay a.2.2.1 (lQ i (l.drop 1))
def wH(f:Int)(l:List fj)(i:Nat)(_:Unit)(a:fj):Option (Sum Unit (D cU)):=if over f l i a=true then some (.inr ((i:Int),(0:Int),()))else some (.inl ())
def KN(f:Int)(l:List fj):Option (D cU):=aD (gl (wH f l) (λ_=>()) 0 () l) λ_=>some ((-1:Int),(0:Int),())
theorem TR(l:List fj)(f:Int):Dt (l,f,())=if eg l=0 then if aV 0 1048576 f=true then KN f l else some ((0:Int),(2:Int),())else some ((0:Int),eg l,()):=by
 unfold Dt;rw[qu,cG];show ad (bH (eg l) 0) (some ((0:Int),eg l,())) _=_;by_cases e:eg l=0
 .
  rw[eb (by rw[gM,av e];rfl),aE e,fP];cases y0:aV 0 1048576 f;.rfl
  rw[aE rfl,aE rfl];obtain⟨p,z0,A,r⟩:=tE e;have x:gP (ak l) (ak l) 8=true:=by unfold gP Hm.gL;rw[aJ];simp only[ae,bF,bS];refine⟨by omega,by omega,?_⟩;show l.length*8<=4294967296;omega
  have s:dJ 1 (ak l) (ak l)=true:=by unfold dJ;rw[aJ];simp only[ae,bF];omega
  have t:eX l 1 (ak l)=l.drop 1:=by unfold eX;rw[aJ];show(l.drop 1).take (l.length-1)=l.drop 1;rw[dF (by simp)]
  rw[x,lW,s,lW,t]
  obtain⟨c,B,C,D⟩:=D6 (l.drop 1) 0 (List.replicate l.length 0) (λa n=>by refine⟨bR.1 r a (jy n),?_⟩;obtain⟨j,m⟩:=bn n;rw[gz]at m;obtain⟨q,z,x0⟩:=Mx A m (by omega);have:=(aj.1 m).1;exact⟨q,z,by rw[aR];omega⟩) (by rw[cE];omega) λi v h=>by
   rw[cm]at h;split at h;.cases h;constructor<;>decide
   .cases h
  rw[eE (xs:=l.drop 1) (st:=λ(b:List Int)i=>(b,(i:Int),())) (g:=Hy) (fin:=λb=>(b,())) (b:=List.replicate l.length 0)];rotate_left;.intro b i y d;refine(et d).trans ?_;show Bj b y (λc=>some (Sum.inl (c,ai .i64 (i:Int) 1,())))=_;rw[Qt,bI (gv d (by rw[cE];omega))];unfold mw Hy;cases Bj b y some<;>rfl
  .exactλb=>ey
  .rfl
  .rw[cE];omega
  rw[B,ik];have u:c.length=l.length:=by rw[C];simp
  have w:ak c=ak l:=by rw[aJ,aJ,u]
  have o:∀i,i<l.length->c[i]?=some (lQ i (l.drop 1)):=λi g=>by have:=D i 0 (by rw[cm,aE g]);rw[mU]at this;exact this
  show aD (aB (λk:Int×Unit=>ad (ay k.1 (ak c)) (aA (a5 c k.1) (am (ax c k.1) λw0=>_)) _) 1000000000 ((0:Int),())) _=_;rw[w];rw[eE (xs:=l) (st:=λ(_:Unit)i=>((i:Int),())) (g:=wH f l) (fin:=λ_=>()) (b:=())];rotate_left;.intro b i y d;have g:=(aj.1 d).1;refine(ez (sP d) _ _).trans ?_;rw[xO (o i g),lW,aC (o i g),cG];simp only[aC d,cG];refine(Mz i f y.2.2.1 (lQ i (l.drop 1)) _ _).trans ?_;show(if over f l i y=true then some (Sum.inr (Sum.inr ((i:Int),(0:Int),())))else some (Sum.inl (ai .i64 (i:Int) 1,())))=_;rw[bI (gv d (aU p (by decide)))];unfold mw wH;cases over f l i y<;>rfl
  .exactλb=>ey
  .rfl
  .omega
  rfl
 .rw[ez (by rw[gM,aX e];rfl),aG e]
theorem KS(l:List fj)(m:l.length<=8)(n:l.all qD=true)(i:Nat)(hi:i<l.length){R:Type}:aB (λd2:Int×Int×Unit=>ad (ay d2.2.1 (ak l)) (am (ax l d2.2.1) λf:fj=>ad (a6 f.1 (i:Int)) (am (ax l d2.2.1) λg:fj=>some (.inl (ai .i64 d2.1 g.2.2.1,ai .i64 d2.2.1 1,()))) (some (.inl (d2.1,ai .i64 d2.2.1 1,())))) (ao (some (.inl (d2.1,()))))) 1000000000 ((0:Int),((i+1:Nat):Int),())=(some (.inl (lQ i (l.drop (i+1)),())):Option (Sum (Int×Unit) R)):=by
 have q:∀(s:List fj)(k:Nat)(b:Int),l.drop k=s->k+s.length=l.length->0<=b->b<=1048576*k->gl (R:=R) (λ_ b(a:fj)=>some (.inl (if a.1=(i:Int)then ai .i64 b a.2.2.1 else b))) (λb=>(b,())) k b s=some (.inl (b+lQ i s,())):=by
  intro s
  induction s with
   |nil=>intro k b _ _ _ _;unfold gl lQ;rw[hD]
   |cons a s h=>
   intro k b d o r t
   have p:a∈l:=by
    have:a∈l.drop k:=by rw[d];simp
    exact jy this
   have u:=I5 (bR.1 n a p);simp only[bx]at o;unfold gl lQ;by_cases c:a.1=(i:Int);.simp only[c,fY];rw[cD (by omega) (by omega)];rw[h (k+1) (b+a.2.2.1) (by rw[<-i8,d];rfl) (by omega) (by omega) (by omega)];congr 3;omega
   .simp only[c,ft];rw[h (k+1) b (by rw[<-i8,d];rfl) (by omega) (by omega) (by omega)];congr 3;omega
 rw[ir]
 have:=qe (f:=λd2:Int×Int×Unit=>ad (ay d2.2.1 (ak l)) (am (ax l d2.2.1) λf:fj=>ad (a6 f.1 (i:Int)) (am (ax l d2.2.1) λg:fj=>some (.inl (ai .i64 d2.1 g.2.2.1,ai .i64 d2.2.1 1,()))) (some (.inl (d2.1,ai .i64 d2.2.1 1,())))) (ao (some (.inl (d2.1,()))))) (xs:=l) (st:=λ(b:Int)j=>(b,(j:Int),())) (g:=λ_ b a=>some (.inl (if a.1=(i:Int)then ai .i64 b a.2.2.1 else b))) (fin:=λb=>(b,())) (R:=R) (λb j y e=>by
  refine(et e).trans ?_;show ad (a6 y.1 (i:Int)) (am (ax l (j:Int)) _) _=_;rw[aC e,cG,bI (gv e (aU m (by decide)))];unfold mw;rw[gA];by_cases c:y.1=(i:Int);.simp[c,Lk]
  .simp[c,nV]) (λb=>ey) (l.drop (i+1)) (i+1) 0 1000000000 rfl (by rw[cE];omega) (by rw[cE];omega)
 refine this.trans ?_;rw[q (l.drop (i+1)) (i+1) 0 rfl (by rw[cE];omega) (by omega) (by omega),mU]
theorem NF(l:List fj)(f:Int):Jo (l,f,())=if eg l=0 then if aV 0 1048576 f=true then KN f l else some ((0:Int),(2:Int),())else some ((0:Int),eg l,()):=by
 unfold Jo;rw[A4,cG];show ad (bH (eg l) 0) (some ((0:Int),eg l,())) _=_;by_cases a:eg l=0
 .
  rw[eb (by rw[gM,av a];rfl),aE a,fP];cases k:aV 0 1048576 f;.rfl
  rw[aE rfl,aE rfl];obtain⟨d,j,h,e⟩:=tE a;rw[eE (xs:=l) (st:=λ(_:Unit)i=>((i:Int),())) (g:=wH f l) (fin:=λ_=>()) (b:=())];rotate_left;.intro b i y c;have g:=(aj.1 c).1;refine(ez (sP c) _ _).trans ?_;simp only[bI (gv c (aU d (by decide)))];rw[KS l d e i g,ik,B1 h i i (ar _)];simp only[aC c,cG];refine(eT (λo=>aD o _) (Mz i f y.2.2.1 (lQ i (l.drop 1)) _ _)).trans ?_;unfold mw wH;show aD (if over f l i y=true then _ else _) _=_;cases over f l i y<;>rfl
  .exactλb=>ey
  .rfl
  .omega
  rfl
 .rw[ez (by rw[gM,aX a];rfl),aG a]
theorem KM(l:List fj)(f:Int):Dt (l,f,())=Jo (l,f,()):=(TR l f).trans (NF l f).symm
abbrev gi:=D pR
theorem gX(t:D (.ah iT cU)):eV t=some (aV t.2.1 t.2.2.1 t.1,()):=by
 unfold eV aV;rw[jN,jN,mm];by_cases h:(t.2.1:Int)<=t.1;.rw[av h];rfl
 .rw[aX h];rfl
def st(v lo hi jR:Int):Option (Sum (Int×Unit) (Int×Unit)):=ad (ay v lo) (ad (a6 hi 0) (ao (some (1,()))) (some (.inl (2,())))) (ad (ay hi v) (ad (a6 hi 0) (ao (some (1,()))) (some (.inl (2,())))) (some (.inl (jR,()))))
def kP:Int->List (Int×Int×Int)->(Int×Unit->Option (Int×Unit))->Option (Int×Unit)|b,[],a=>a (b,())|b,q::t,a=>aD (st q.1 q.2.1 q.2.2 b) λx=>kP x.1 t a
def zr(q:Int×Int×Int):Bool:=! a6 q.2.2 0||aV q.2.1 q.2.2 q.1
def rr(q:Int×Int×Int):Bool:=aV q.2.1 q.2.2 q.1
theorem XT(v lo hi jR:Int):st v lo hi jR=if aV lo hi v=true then some (.inl (jR,()))else if a6 hi 0=true then some (.inr (1,()))else some (.inl (2,())):=by
 unfold st;rw[fP];cases aV lo hi v;.rw[aG (by decide),aG (by decide),mm];rfl
 .rfl
theorem hG(K:Int×Unit->Option (Int×Unit)):∀(l:List (Int×Int×Int))(jR:Int),kP jR l K=bif l.all zr then K (bif l.all rr then jR else 2,())else some (1,())
 |[],jR=>rfl
 |q::t,jR=>by
  unfold kP;rw[XT,cT,cT];have b:zr q=(! a6 q.2.2 0||aV q.2.1 q.2.2 q.1):=rfl;have a:rr q=aV q.2.1 q.2.2 q.1:=rfl;rw[b,a];cases aV q.2.1 q.2.2 q.1
  .
   cases a6 q.2.2 0;.rw[aG (by decide),aG (by decide),ik,hG K t 2];show(bif t.all zr then K (bif t.all rr then 2 else 2,())else some (1,()))=bif t.all zr then K (2,())else some (1,());cases t.all rr<;>rfl
   .rfl
  .rw[aE rfl,ik,hG K t jR,ww,dS,dS]
theorem m6(d:Int):a6 0 d=aV 0 0 d:=by
 rw[gA];unfold aV;by_cases h:0=d;.simp[<-h]
 .
  have:¬(0<=d/\d<=0):=by omega
  simp[h];intro a;omega
theorem kZ(a:Int):a6 a a=true:=av rfl
theorem sr{o:Option (Bool×Unit)}:am o (λx=>some (x.1,()))=o:=by cases o<;>rfl
def xa{β:Type}(x:gi)(e:Int->Option β)(b:Option β):Option β:=am (eV (x.1,1,12,())) λc=>ad (bL c.1) (e 1) (am (qt (x,())) λa=>ad (bL (fc (a6 a.1.1 x.1) (fc (a6 a.1.2.1 x.2.1) (fc (a6 a.1.2.2.1 x.2.2.1) (fc (a6 a.1.2.2.2.1 x.2.2.2.1) (fc (a6 a.1.2.2.2.2.1 x.2.2.2.2.1) (fc (a6 a.1.2.2.2.2.2.1 x.2.2.2.2.2.1) (fc (a6 a.1.2.2.2.2.2.2.1 x.2.2.2.2.2.2.1) (fc (a6 a.1.2.2.2.2.2.2.2.1 x.2.2.2.2.2.2.2.1) true))))))))) (e 1) (am (mR (x,())) λd=>ad (bL d.1) (e 2) b))
def i7(x:gi):Prop:=∃c:Int,oi (x,())=some (c,())/\∀(b:Type)(e:Int->Option b)(a:Option b),xa x e a=ad (bH c 0) (e c) a
theorem Rz(f:Int):aV 0 3 f=false->a6 f 1=false/\a6 f 3=false:=by
 rw[gA,gA];intro h;have b:¬(0<=f/\f<=3):=by intro a;unfold aV at h;rw[av a.1,av a.2]at h;cases h
 exact⟨aX (by omega),aX (by omega)⟩
theorem YP(e:Int):aV (-1) 3 e=true->cL 0 e=!a6 e (-1):=by
 intro h;have:=di h;rw[jN,gA];by_cases a:e= -1;.rw[av a,aX (by omega)];rfl
 .rw[aX a,av (by omega)];rfl
theorem OP(A B C E F a f1 f3 d c b:Bool)(h1:F=false->f1=false/\f3=false)(h2:E=true->d=!c):(E&&(C&&((d||b)&&(A&&(B&&((f1||f3)&&a))))))=((f1||f3)&&!(c&&!b)&&(A&&(B&&(C&&(true&&(E&&(F&&(a&&true)))))))):=by
 cases E;.simp
 .
  rw[h2 rfl];cases F;.rw[(h1 rfl).1,(h1 rfl).2];simp
  .cases f1<;>cases f3<;>cases c<;>cases b<;>cases A<;>cases B<;>cases C<;>cases a<;>rfl
theorem YD(a b c d e f g:Int):i7 (((1:Int),a,b,c,d,e,f,g,()):gi):=by
 have r:oi ((((1:Int),a,b,c,d,e,f,g,()):gi),())=kP 0 [(a,-1,511),(b,1,512),(c,0,15),(d,0,0),(e,-1,3),(f,0,3),(g,0,15)] λi=>am (Dl (f,())) λh=>ad (bL h.1) (some (2,())) (ad (a6 e (-1)) (ad (bH c 0) (some (2,())) (some (i.1,()))) (some (i.1,()))):=rfl;have s:qt ((((1:Int),a,b,c,d,e,f,g,()):gi),())=some ((((1:Int),a,b,c,0,e,f,g,()):gi),()):=rfl;have t:eV ((1:Int),1,12,())=some (true,()):=rfl;have u:mR ((((1:Int),a,b,c,d,e,f,g,()):gi),())=o5 ((((1:Int),a,b,c,d,e,f,g,()):gi),()):=by unfold mR;simp only[gX,cG];cases aV 0 3 e<;>cases aV 0 15 a<;>exact sr
 have v:o5 ((((1:Int),a,b,c,d,e,f,g,()):gi),())=some (aV (-1) 3 e&&(aV 0 15 c&&((cL 0 e||a6 c 0)&&(aV (-1) 511 a&&(aV 1 512 b&&((a6 f 1||a6 f 3)&&aV 0 15 g))))),()):=by unfold o5;simp only[gX,cG];generalize aV (-1) 3 e=B;generalize aV 0 15 c=A;generalize cL 0 e=m;generalize a6 c 0=l;generalize aV (-1) 511 a=y;generalize aV 1 512 b=z;generalize a6 f 1=p;generalize a6 f 3=q;generalize aV 0 15 g=C;cases B<;>cases A<;>cases m<;>cases y<;>cases z<;>cases p<;>cases q<;>cases C<;>cases l<;>rfl
 have w:∀n:Int,am (Dl (f,())) (λh=>ad (bL h.1) (some ((2:Int),())) (ad (a6 e (-1)) (ad (bH c 0) (some (2,())) (some (n,()))) (some (n,()))))=some (bif(a6 f 1||a6 f 3)&&!(a6 e (-1)&&!a6 c 0)then n else 2,()):=by intro n;have o:bH c 0=!a6 c 0:=rfl;unfold Dl;rw[o];cases a6 f 1<;>cases a6 f 3<;>cases a6 e (-1)<;>cases a6 c 0<;>rfl
 have x:=OP (aV (-1) 511 a) (aV 1 512 b) (aV 0 15 c) (aV (-1) 3 e) (aV 0 3 f) (aV 0 15 g) (a6 f 1) (a6 f 3) (cL 0 e) (a6 e (-1)) (a6 c 0) (Rz f) (YP e);unfold i7 xa;rw[r,hG,s,t];simp only[gX,cG,cT,gJ,zr,rr,m6,kZ,w,u,v,x];generalize((a6 f 1||a6 f 3)&&!(a6 e (-1)&&!a6 c 0))=k;cases aV 0 0 d;.exact⟨_,rfl,λ_ _ _=>rfl⟩
 .generalize(aV (-1) 511 a&&(aV 1 512 b&&(aV 0 15 c&&(true&&(aV (-1) 3 e&&(aV 0 3 f&&(aV 0 15 g&&true)))))))=j;cases k<;>cases j<;>exact⟨_,rfl,λ_ _ _=>rfl⟩
theorem YC(a b c d e f g:Int):i7 (((2:Int),a,b,c,d,e,f,g,()):gi):=by
 have h:oi ((((2:Int),a,b,c,d,e,f,g,()):gi),())=kP 0 [(a,0,511),(b,1,512),(c,0,0),(d,0,0),(e,0,0),(f,0,0),(g,0,0)] λs=>some (s.1,()):=rfl;have i:qt ((((2:Int),a,b,c,d,e,f,g,()):gi),())=some ((((2:Int),a,b,0,0,0,0,0,()):gi),()):=rfl;have j:eV ((2:Int),1,12,())=some (true,()):=rfl;have k:mR ((((2:Int),a,b,c,d,e,f,g,()):gi),())=o5 ((((2:Int),a,b,c,d,e,f,g,()):gi),()):=by unfold mR;simp only[gX,cG];cases aV 0 3 e<;>cases aV 0 15 a<;>exact sr
 unfold i7 xa;rw[h,hG,i,j];simp only[cG,k];unfold o5;simp only[gX,cG,cT,gJ,zr,rr,m6,kZ];generalize aV 0 511 a=l;generalize aV 1 512 b=m;generalize aV 0 0 c=n;generalize aV 0 0 d=o;generalize aV 0 0 e=p;generalize aV 0 0 f=q;generalize aV 0 0 g=r;cases a6 f 1<;>cases l<;>cases m<;>cases n<;>cases o<;>cases p<;>cases q<;>cases r<;>exact⟨_,rfl,λ_ _ _=>rfl⟩
theorem YB(a b c d e f g:Int):i7 (((3:Int),a,b,c,d,e,f,g,()):gi):=by
 have q:oi ((((3:Int),a,b,c,d,e,f,g,()):gi),())=kP 0 [(a,0,511),(b,1,512),(c,0,0),(d,0,0),(e,0,0),(f,0,3),(g,0,0)] λv=>am (Dl (f,())) λw=>ad (bL w.1) (some (2,())) (some (v.1,())):=rfl;have r:qt ((((3:Int),a,b,c,d,e,f,g,()):gi),())=some ((((3:Int),a,b,0,0,0,f,0,()):gi),()):=rfl;have s:eV ((3:Int),1,12,())=some (true,()):=rfl;have t:mR ((((3:Int),a,b,c,d,e,f,g,()):gi),())=o5 ((((3:Int),a,b,c,d,e,f,g,()):gi),()):=by unfold mR;simp only[gX,cG];cases aV 0 3 e<;>cases aV 0 15 a<;>exact sr
 unfold i7 xa;rw[q,hG,r,s];simp only[cG,t];unfold o5 Dl;simp only[gX,cG,cT,gJ,zr,rr,m6,kZ];generalize aV 0 511 a=i;generalize aV 1 512 b=j;generalize aV 0 0 c=k;generalize aV 0 0 d=l;generalize aV 0 0 e=m;generalize aV 0 0 g=n;have h:=Rz f;revert h;generalize aV 0 3 f=u;generalize a6 f 1=o;generalize a6 f 3=p;intro h;cases u;.rw[(h rfl).1,(h rfl).2];cases i<;>cases j<;>cases k<;>cases l<;>cases m<;>cases n<;>exact⟨_,rfl,λ_ _ _=>rfl⟩
 .cases o<;>cases p<;>cases i<;>cases j<;>cases k<;>cases l<;>cases m<;>cases n<;>exact⟨_,rfl,λ_ _ _=>rfl⟩
theorem YA(a b c d e f g:Int):i7 (((4:Int),a,b,c,d,e,f,g,()):gi):=by
 have h:oi ((((4:Int),a,b,c,d,e,f,g,()):gi),())=kP 0 [(a,0,511),(b,1,512),(c,0,0),(d,0,1),(e,0,0),(f,0,0),(g,0,0)] λs=>some (s.1,()):=rfl;have i:qt ((((4:Int),a,b,c,d,e,f,g,()):gi),())=some ((((4:Int),a,b,0,d,0,0,0,()):gi),()):=rfl;have j:eV ((4:Int),1,12,())=some (true,()):=rfl;have k:mR ((((4:Int),a,b,c,d,e,f,g,()):gi),())=o5 ((((4:Int),a,b,c,d,e,f,g,()):gi),()):=by unfold mR;simp only[gX,cG];cases aV 0 3 e<;>cases aV 0 15 a<;>exact sr
 unfold i7 xa;rw[h,hG,i,j];simp only[cG,k];unfold o5;simp only[gX,cG,cT,gJ,zr,rr,m6,kZ];generalize aV 0 511 a=l;generalize aV 1 512 b=m;generalize aV 0 0 c=n;generalize aV 0 1 d=o;generalize aV 0 0 e=p;generalize aV 0 0 f=q;generalize aV 0 0 g=r;cases a6 f 1<;>cases l<;>cases m<;>cases n<;>cases o<;>cases p<;>cases q<;>cases r<;>exact⟨_,rfl,λ_ _ _=>rfl⟩
theorem Yz(a b c d e f g:Int):i7 (((5:Int),a,b,c,d,e,f,g,()):gi):=by
 have h:oi ((((5:Int),a,b,c,d,e,f,g,()):gi),())=kP 0 [(a,0,511),(b,0,0),(c,0,31),(d,0,0),(e,0,0),(f,0,0),(g,0,0)] λs=>some (s.1,()):=rfl;have i:qt ((((5:Int),a,b,c,d,e,f,g,()):gi),())=some ((((5:Int),a,0,c,0,0,0,0,()):gi),()):=rfl;have j:eV ((5:Int),1,12,())=some (true,()):=rfl;have k:mR ((((5:Int),a,b,c,d,e,f,g,()):gi),())=o5 ((((5:Int),a,b,c,d,e,f,g,()):gi),()):=by unfold mR;simp only[gX,cG];cases aV 0 3 e<;>cases aV 0 15 a<;>exact sr
 unfold i7 xa;rw[h,hG,i,j];simp only[cG,k];unfold o5;simp only[gX,cG,cT,gJ,zr,rr,m6,kZ];generalize aV 0 511 a=l;generalize aV 0 0 b=m;generalize aV 0 31 c=n;generalize aV 0 0 d=o;generalize aV 0 0 e=p;generalize aV 0 0 f=q;generalize aV 0 0 g=r;cases a6 f 1<;>cases l<;>cases m<;>cases n<;>cases o<;>cases p<;>cases q<;>cases r<;>exact⟨_,rfl,λ_ _ _=>rfl⟩
theorem Yy(a b c d e f g:Int):i7 (((6:Int),a,b,c,d,e,f,g,()):gi):=by
 have h:oi ((((6:Int),a,b,c,d,e,f,g,()):gi),())=kP 0 [(a,0,511),(b,0,0),(c,0,31),(d,0,255),(e,0,0),(f,0,0),(g,0,0)] λs=>some (s.1,()):=rfl;have i:qt ((((6:Int),a,b,c,d,e,f,g,()):gi),())=some ((((6:Int),a,0,c,d,0,0,0,()):gi),()):=rfl;have j:eV ((6:Int),1,12,())=some (true,()):=rfl;have k:mR ((((6:Int),a,b,c,d,e,f,g,()):gi),())=o5 ((((6:Int),a,b,c,d,e,f,g,()):gi),()):=by unfold mR;simp only[gX,cG];cases aV 0 3 e<;>cases aV 0 15 a<;>exact sr
 unfold i7 xa;rw[h,hG,i,j];simp only[cG,k];unfold o5;simp only[gX,cG,cT,gJ,zr,rr,m6,kZ];generalize aV 0 511 a=l;generalize aV 0 0 b=m;generalize aV 0 31 c=n;generalize aV 0 255 d=o;generalize aV 0 0 e=p;generalize aV 0 0 f=q;generalize aV 0 0 g=r;cases a6 f 1<;>cases l<;>cases m<;>cases n<;>cases o<;>cases p<;>cases q<;>cases r<;>exact⟨_,rfl,λ_ _ _=>rfl⟩
theorem Yx(a b c d e f g:Int):i7 (((7:Int),a,b,c,d,e,f,g,()):gi):=by have h:oi ((((7:Int),a,b,c,d,e,f,g,()):gi),())=kP 0 [(a,0,15),(b,0,0),(c,0,31),(d,0,0),(e,0,3),(f,0,0),(g,0,0)] λr=>some (r.1,()):=rfl;have i:qt ((((7:Int),a,b,c,d,e,f,g,()):gi),())=some ((((7:Int),a,0,c,0,e,0,0,()):gi),()):=rfl;have j:eV ((7:Int),1,12,())=some (true,()):=rfl;unfold i7 xa;rw[h,hG,i,j];unfold mR;simp only[gX,cG,cT,gJ,zr,rr,m6,kZ];generalize aV 0 15 a=k;generalize aV 0 0 b=l;generalize aV 0 31 c=m;generalize aV 0 0 d=n;generalize aV 0 3 e=o;generalize aV 0 0 f=p;generalize aV 0 0 g=q;cases k<;>cases l<;>cases m<;>cases n<;>cases o<;>cases p<;>cases q<;>exact⟨_,rfl,λ_ _ _=>rfl⟩
theorem Yw(a b c d e f g:Int):i7 (((8:Int),a,b,c,d,e,f,g,()):gi):=by have h:oi ((((8:Int),a,b,c,d,e,f,g,()):gi),())=kP 0 [(a,0,15),(b,0,0),(c,0,31),(d,0,255),(e,0,3),(f,0,0),(g,0,0)] λr=>some (r.1,()):=rfl;have i:qt ((((8:Int),a,b,c,d,e,f,g,()):gi),())=some ((((8:Int),a,0,c,d,e,0,0,()):gi),()):=rfl;have j:eV ((8:Int),1,12,())=some (true,()):=rfl;unfold i7 xa;rw[h,hG,i,j];unfold mR;simp only[gX,cG,cT,gJ,zr,rr,m6,kZ];generalize aV 0 15 a=k;generalize aV 0 0 b=l;generalize aV 0 31 c=m;generalize aV 0 255 d=n;generalize aV 0 3 e=o;generalize aV 0 0 f=p;generalize aV 0 0 g=q;cases k<;>cases l<;>cases m<;>cases n<;>cases o<;>cases p<;>cases q<;>exact⟨_,rfl,λ_ _ _=>rfl⟩
theorem Yv(a b c d e f g:Int):i7 (((9:Int),a,b,c,d,e,f,g,()):gi):=by have h:oi ((((9:Int),a,b,c,d,e,f,g,()):gi),())=kP 0 [(a,0,0),(b,0,16),(c,0,0),(d,0,0),(e,0,3),(f,0,0),(g,0,0)] λt=>some (t.1,()):=rfl;have i:qt ((((9:Int),a,b,c,d,e,f,g,()):gi),())=some ((((9:Int),0,b,0,0,e,0,0,()):gi),()):=rfl;have j:eV ((9:Int),1,12,())=some (true,()):=rfl;unfold i7 xa;rw[h,hG,i,j];unfold mR;simp only[gX,cG,cT,gJ,zr,rr,m6,kZ];generalize aV 0 0 a=k;generalize aV 0 16 b=l;generalize aV 0 0 c=m;generalize aV 0 0 d=n;generalize aV 0 3 e=o;generalize aV 0 0 f=p;generalize aV 0 0 g=q;generalize u:aV 0 15 a=r;generalize v:aV 0 31 c=s;cases r<;>cases s<;>cases k<;>cases l<;>cases m<;>cases n<;>cases o<;>cases p<;>cases q<;>exact⟨_,rfl,λ_ _ _=>rfl⟩
theorem US(a b c d e f g:Int):i7 (((10:Int),a,b,c,d,e,f,g,()):gi):=by have h:oi ((((10:Int),a,b,c,d,e,f,g,()):gi),())=kP 0 [(a,0,0),(b,0,0),(c,0,0),(d,0,0),(e,0,3),(f,0,0),(g,0,0)] λt=>some (t.1,()):=rfl;have i:qt ((((10:Int),a,b,c,d,e,f,g,()):gi),())=some ((((10:Int),0,0,0,0,e,0,0,()):gi),()):=rfl;have j:eV ((10:Int),1,12,())=some (true,()):=rfl;unfold i7 xa;rw[h,hG,i,j];unfold mR;simp only[gX,cG,cT,gJ,zr,rr,m6,kZ];generalize aV 0 0 a=k;generalize aV 0 0 b=l;generalize aV 0 0 c=m;generalize aV 0 0 d=n;generalize aV 0 3 e=o;generalize aV 0 0 f=p;generalize aV 0 0 g=q;generalize u:aV 0 15 a=r;generalize v:aV 0 31 c=s;cases r<;>cases s<;>cases k<;>cases l<;>cases m<;>cases n<;>cases o<;>cases p<;>cases q<;>exact⟨_,rfl,λ_ _ _=>rfl⟩
theorem UR(a b c d e f g:Int):i7 (((11:Int),a,b,c,d,e,f,g,()):gi):=by have h:oi ((((11:Int),a,b,c,d,e,f,g,()):gi),())=kP 0 [(a,0,0),(b,0,0),(c,0,0),(d,0,48),(e,0,0),(f,0,0),(g,0,0)] λu=>some (u.1,()):=rfl;have i:qt ((((11:Int),a,b,c,d,e,f,g,()):gi),())=some ((((11:Int),0,0,0,d,0,0,0,()):gi),()):=rfl;have j:eV ((11:Int),1,12,())=some (true,()):=rfl;unfold i7 xa;rw[h,hG,i,j];unfold mR;simp only[gX,cG,cT,gJ,zr,rr,m6,kZ];generalize aV 0 0 a=k;generalize aV 0 0 b=l;generalize aV 0 0 c=m;generalize aV 0 48 d=n;generalize aV 0 0 e=o;generalize aV 0 0 f=p;generalize aV 0 0 g=q;generalize x:aV 0 3 e=t;generalize v:aV 0 15 a=r;generalize w:aV 0 31 c=s;cases t<;>cases r<;>cases s<;>cases k<;>cases l<;>cases m<;>cases n<;>cases o<;>cases p<;>cases q<;>exact⟨_,rfl,λ_ _ _=>rfl⟩
theorem UQ(a b c d e f g:Int):i7 (((12:Int),a,b,c,d,e,f,g,()):gi):=by have h:oi ((((12:Int),a,b,c,d,e,f,g,()):gi),())=kP 0 [(a,0,0),(b,0,0),(c,0,0),(d,0,0),(e,0,0),(f,0,0),(g,0,0)] λu=>some (u.1,()):=rfl;have i:qt ((((12:Int),a,b,c,d,e,f,g,()):gi),())=some ((((12:Int),0,0,0,0,0,0,0,()):gi),()):=rfl;have j:eV ((12:Int),1,12,())=some (true,()):=rfl;unfold i7 xa;rw[h,hG,i,j];unfold mR;simp only[gX,cG,cT,gJ,zr,rr,m6,kZ];generalize aV 0 0 a=k;generalize aV 0 0 b=l;generalize aV 0 0 c=m;generalize aV 0 0 d=n;generalize aV 0 0 e=o;generalize aV 0 0 f=p;generalize aV 0 0 g=q;generalize x:aV 0 3 e=t;generalize v:aV 0 15 a=r;generalize w:aV 0 31 c=s;cases t<;>cases r<;>cases s<;>cases k<;>cases l<;>cases m<;>cases n<;>cases o<;>cases p<;>cases q<;>exact⟨_,rfl,λ_ _ _=>rfl⟩
theorem RC{n lo hi j:Int}(h:aV lo hi n=false)(h1:lo<=j)(h2:j<=hi):a6 n j=false:=by rw[gA];refine aX λa=>?_;subst a;unfold aV at h;rw[av h1,av h2]at h;cases h
theorem ace{k:Int}(h:aV 1 12 k=true):k=1\/k=2\/k=3\/k=4\/k=5\/k=6\/k=7\/k=8\/k=9\/k=10\/k=11\/k=12:=by have:=di h;omega
theorem Co(x:gi):i7 x:=by
 obtain⟨k,a,b,c,d,e,f,g,⟨⟩⟩:=x;cases h:aV 1 12 k
 .
  have l:∀j:Int,1<=j->j<=12->a6 k j=false:=λj m i=>RC h m i;refine⟨1,?_,λp n o=>?_⟩;.unfold oi Tc;simp only[l 1 (by decide) (by decide),l 2 (by decide) (by decide),l 3 (by decide) (by decide),l 4 (by decide) (by decide),l 5 (by decide) (by decide),l 6 (by decide) (by decide),l 7 (by decide) (by decide),l 8 (by decide) (by decide),l 9 (by decide) (by decide),l 10 (by decide) (by decide),l 11 (by decide) (by decide),l 12 (by decide) (by decide),nV];rfl
  .unfold xa;rw[gX,cG];show ad (bL (aV 1 12 k)) _ _=_;rw[h];rfl
 .
  have i:=ace h;rcases i with i|i|i|i|i|i|i|i|i|i|i|i<;>cases i;.exact YD a b c d e f g
  .exact YC a b c d e f g
  .exact YB a b c d e f g
  .exact YA a b c d e f g
  .exact Yz a b c d e f g
  .exact Yy a b c d e f g
  .exact Yx a b c d e f g
  .exact Yw a b c d e f g
  .exact Yv a b c d e f g
  .exact US a b c d e f g
  .exact UR a b c d e f g
  .exact UQ a b c d e f g
def ko(x:gi):Int:=Classical.choose (Co x)
theorem Yu(x:gi):oi (x,())=some (ko x,()):=(tv (Co x)).1
theorem Yt(x:gi)(β:Type)(e:Int->Option β)(a:Option β):xa x e a=ad (bH (ko x) 0) (e (ko x)) a:=(tv (Co x)).2 β e a
def nP{X:Type}(f:X->Int):List X->Int|[]=>0|x::t=>if a6 (f x) 0=true then nP f t else f x
theorem qi{X:Type}(f:X->Int):∀(l:List X)(i:Nat),aD (gl (λ_(_:Unit)x=>if a6 (f x) 0=true then some (.inl ())else some (.inr (f x,()))) (λ_=>()) i () l) (λ_=>some ((0:Int),()))=some (nP f l,())
 |[],i=>rfl
 |x::l,i=>by
  unfold gl nP;by_cases h:a6 (f x) 0=true;.rw[aE h];simp only[h,fY];exact qi f l (i+1)
  .rw[aG h];simp only[h,ft];rfl
def lp(l:List gi):Int:=if(48:Int)<(l.length:Int)then 9 else nP ko l
theorem TQ(l:List gi):J0 (l,())=some (lp l,()):=by
 unfold J0 lp;by_cases h:(48:Int)<(l.length:Int);.rw[ez (by rw[hK,aJ];exact av h),aE h]
 .
  rw[eb (by rw[hK,aJ];exact aX h),aG h];rw[eE (xs:=l) (st:=λ(_:Unit)i=>((i:Int),())) (g:=λ_ _ a=>if a6 (ko a) 0=true then some (.inl ())else some (.inr (ko a,()))) (fin:=λ_=>()) (b:=())];rotate_left;.intro b i y c;refine(et c).trans ?_;rw[hI];show am (oi (y,())) (λd=>ad (bH d.1 0) (ao (ao (some (d.1,())))) (some (.inl (ai .i64 (i:Int) 1,()))))=_;rw[Yu,cG,bI (gv c (show l.length<=140737488355328 by omega))];show ad (!a6 (ko y) 0) _ _=_;cases a6 (ko y) 0<;>rfl
  .exactλb=>ey
  .rfl
  .omega
  exact qi ko l 0
theorem Wa(l:List gi):SO (l,())=some (lp l,()):=by
 unfold SO lp;by_cases h:(48:Int)<(l.length:Int);.rw[ez (by rw[hK,aJ];exact av h),aE h]
 .
  rw[eb (by rw[hK,aJ];exact aX h),aG h];rw[eE (xs:=l) (st:=λ(_:Unit)i=>((i:Int),())) (g:=λ_ _ a=>if a6 (ko a) 0=true then some (.inl ())else some (.inr (ko a,()))) (fin:=λ_=>()) (b:=())];rotate_left;.intro b i y d;refine(ez (sP d) _ _).trans ?_;simp only[aC d,cG];rw[hI,bI (gv d (show l.length<=140737488355328 by omega))];refine(Yt y _ (λc=>ao (ao (some (c,())))) (some (Sum.inl (((i+1:Nat):Int),())))).trans ?_;show ad (!a6 (ko y) 0) _ _=_;cases a6 (ko y) 0<;>rfl
  .exactλb=>ey
  .rfl
  .omega
  exact qi ko l 0
def qH:List (D kN)->Int|[]=>0|z::l=> @HSub.hSub Int Int Int _ z.2.2.1 z.2.2.2.1+qH l
theorem Kr(z:D kN)(l:List (D kN)):qH (z::l)= @HSub.hSub Int Int Int _ z.2.2.1 z.2.2.2.1+qH l:=rfl
theorem Ml:∀(l:List (D kN)),l.all pb=true->0<=qH l+65536*(l.length:Int)/\qH l<=65536*(l.length:Int)
 |[],_=>by unfold qH;simp
 |z::l,h=>by rw[cT,ae]at h;have a:=h.1;unfold pb at a;rw[ae,ae,ae]at a;have b:=di a.2.2.1;have c:=di a.2.2.2;have d:=Ml l h.2;unfold qH;rw[bx];constructor<;>omega
theorem yv:∀(l:List (D kN))(b:Int),l.all pb=true->l.length<=20-> -1000000000<=b->b+65536*(l.length:Int)<=1000000000-> -1000000000<=b-65536*(l.length:Int)->l.foldl (λb z=>ai .i64 b (bo .i64 z.2.2.1 z.2.2.2.1)) b=b+qH l
 |[],b,_,_,_,_,_=>by unfold qH;simp
 |z::l,b,h,g,k,e,f=>by
  rw[cT,ae]at h;have a:=h.1;unfold pb at a;rw[ae,ae,ae]at a;have i:=di a.2.2.1;have j:=di a.2.2.2;rw[bx]at e f g;have c:bo .i64 z.2.2.1 z.2.2.2.1= @HSub.hSub Int Int Int _ z.2.2.1 z.2.2.2.1:=fk (by omega) (by omega);have d:ai .i64 b (bo .i64 z.2.2.1 z.2.2.2.1)=b+ @HSub.hSub Int Int Int _ z.2.2.1 z.2.2.2.1:=by rw[c];exact cD (by omega) (by omega)
  rw[fL,d,yv l _ h.2 (by omega) (by omega) (by omega) (by omega)];rw[Kr];omega
theorem Wb(c:D cc)(h:c.2.1.length<=20):∃t:Int,Hn (c,())=some (t,c.2.1.foldl (λb z=>ai .i64 b (bo .i64 z.2.2.1 z.2.2.2.1)) 0,()):=by
 unfold Hn;rw[eE (xs:=c.2.1) (st:=λ(b:Int×Int)i=>(b.1,b.2,(i:Int),())) (g:=λ_ b z=>some (.inl (ai .i64 b.1 z.2.2.1,ai .i64 b.2 (bo .i64 z.2.2.1 z.2.2.2.1)))) (fin:=λb=>(b.1,b.2,())) (b:=(0,0))];rotate_left;.intro b i y d;refine(et d).trans ?_;rw[bI (gv d (aU h (by decide)))];rfl
 .exactλb=>ey
 .rfl
 .omega
 rw[qU,ik]
 have:∀(l:List (D kN))(a b:Int),(l.foldl (λ(b:Int×Int)z=>(ai .i64 b.1 z.2.2.1,ai .i64 b.2 (bo .i64 z.2.2.1 z.2.2.2.1))) (a,b)).2=l.foldl (λb z=>ai .i64 b (bo .i64 z.2.2.1 z.2.2.2.1)) b:=by intro l;induction l with
  |nil=>intro a b;rfl
  |cons z l e=>intro a b;rw[fL,fL];exact e _ _
 exact⟨_,by rw[<-this c.2.1 0 0]⟩
theorem BR(f:Int)(b:List fj):∀(l:List fj)(i:Nat),∃r,gl (wH f b) (λ_=>()) i () l=some r
 |[],i=>⟨_,rfl⟩
 |a::l,i=>by
  unfold gl wH;by_cases h:over f b i a=true;.rw[aE h];exact⟨_,rfl⟩
  .rw[aG h];exact BR f b l (i+1)
theorem Fg(l:List fj)(f:Int):∃r,Jo (l,f,())=some r:=by
 rw[NF];split
 .
  split
  .unfold KN;obtain⟨r,a⟩:=BR f l l 0;rw[a];cases r with
   |inl r=>exact⟨_,rfl⟩
   |inr r=>exact⟨_,rfl⟩
  .exact⟨_,rfl⟩
 .exact⟨_,rfl⟩
def xw(n:Int)(p:D tW):Int:=if a6 (lp p.2.1) 0=true then if aV 0 (n-1) p.1=true then 0 else 2 else lp p.2.1
theorem NG(c:D cc)(l:c.2.2.2.2.2.2.2.2.2.2.2.1.length<=20):Wg (c,())=if aV 1 8 (ak c.2.2.2.2.2.2.2.2.2.2.2.2.1)=true then some (nP (xw (ak c.2.2.2.2.2.2.2.2.2.2.2.1)) c.2.2.2.2.2.2.2.2.2.2.2.2.1,())else some (1,()):=by
 unfold Wg;refine(xW _ _ _).trans ?_;show(if aV 1 8 (ak c.2.2.2.2.2.2.2.2.2.2.2.2.1)=true then _ else _)=_;by_cases e:aV 1 8 (ak c.2.2.2.2.2.2.2.2.2.2.2.2.1)=true
 .
  rw[aE e,aE e];have j:=di e;rw[aJ]at j;rw[eE (xs:=c.2.2.2.2.2.2.2.2.2.2.2.2.1) (st:=λ(_:Unit)i=>((i:Int),())) (g:=λ_ _ a=>if a6 (xw (ak c.2.2.2.2.2.2.2.2.2.2.2.1) a) 0=true then some (.inl ())else some (.inr (xw (ak c.2.2.2.2.2.2.2.2.2.2.2.1) a,()))) (fin:=λ_=>()) (b:=())];rotate_left
  .
   intro b i y g;refine(et g).trans ?_;rw[hI];show am (J0 (y.2.1,())) (λh=>ad (bH h.1 0) (ao (ao (some (h.1,())))) (am (nF (y.1,0,bo .i64 (ak c.2.2.2.2.2.2.2.2.2.2.2.1) 1,())) λk=>ad (bL k.1) (ao (ao (some (2,())))) (some (.inl (ai .i64 (i:Int) 1,())))))=_;rw[TQ,cG,xW,bI (gv g (show c.2.2.2.2.2.2.2.2.2.2.2.2.1.length<=140737488355328 by omega))];show ad (!a6 (lp y.2.1) 0) (ao (ao (some (lp y.2.1,())))) (if aV 0 (bo .i64 (ak c.2.2.2.2.2.2.2.2.2.2.2.1) 1) y.1=true then _ else _)=_;rw[fk (by rw[aJ];omega) (by rw[aJ];omega)];by_cases d:a6 (lp y.2.1) 0=true;.have f:xw (ak c.2.2.2.2.2.2.2.2.2.2.2.1) y=if aV 0 (ak c.2.2.2.2.2.2.2.2.2.2.2.1-1) y.1=true then 0 else 2:=aE d;rw[f,d];cases aV 0 (ak c.2.2.2.2.2.2.2.2.2.2.2.1-1) y.1<;>rfl
   .have f:xw (ak c.2.2.2.2.2.2.2.2.2.2.2.1) y=lp y.2.1:=aG d;rw[f,aG d,ez (b:=!a6 (lp y.2.1) 0) (by rw[rk]at d;rw[d];rfl)];rfl
  .exactλb=>ey
  .rfl
  .omega
  exact qi _ _ 0
 .rw[aG e,aG e]
theorem Cd{α:Type}{l:List α}(h:ay 20 (ak l)=false):l.length<=20:=by rw[hK,aJ]at h;have:=ki h;omega
theorem WA(c:D cc):∃b,D0 (c,())=some (b,())/\(b=true->c.1.length<=20/\c.2.1.length<=20/\c.2.2.2.2.2.2.2.2.2.2.1.length<=20/\c.2.2.2.2.2.2.2.2.2.2.2.1.length<=20/\c.2.2.2.2.2.2.2.2.2.2.2.2.1.length<=20):=by
 unfold D0;show∃b,ad (ay 20 (ak c.1)) _ (ad (ay 20 (ak c.2.1)) _ (ad (ay 20 (ak c.2.2.2.2.2.2.2.2.2.2.1)) _ (ad (ay 20 (ak c.2.2.2.2.2.2.2.2.2.2.2.1)) _ (ad (ay 20 (ak c.2.2.2.2.2.2.2.2.2.2.2.2.1)) _ _))))=some (b,())/\_;cases g:ay 20 (ak c.1);rotate_left;.exact⟨false,rfl,λh=>by cases h⟩
 cases j:ay 20 (ak c.2.1);rotate_left;.exact⟨false,rfl,λh=>by cases h⟩
 cases k:ay 20 (ak c.2.2.2.2.2.2.2.2.2.2.1);rotate_left;.exact⟨false,rfl,λh=>by cases h⟩
 cases l:ay 20 (ak c.2.2.2.2.2.2.2.2.2.2.2.1);rotate_left;.exact⟨false,rfl,λh=>by cases h⟩
 cases m:ay 20 (ak c.2.2.2.2.2.2.2.2.2.2.2.2.1);rotate_left;.exact⟨false,rfl,λh=>by cases h⟩
 have e:=Cd k;have f:=Cd m;rw[nV,nV,nV,nV,nV];rw[eE (xs:=c.2.2.2.2.2.2.2.2.2.2.1) (st:=λ(_:Unit)i=>((i:Int),())) (g:=λ_ _ a=>if(!ay 1000 (ak a.2.1))=true then some (.inl ())else some (.inr (false,()))) (fin:=λ_=>()) (b:=())];rotate_left;.intro b i y d;refine(et d).trans ?_;rw[hI];show ad (ay 1000 (ak y.2.1)) (ao (ao (some (false,())))) (some (.inl (ai .i64 (i:Int) 1,())))=_;rw[bI (gv d (aU e (by decide)))];cases ay 1000 (ak y.2.1)<;>rfl
 .exactλb=>ey
 .rfl
 .omega
 rw[je];cases c.2.2.2.2.2.2.2.2.2.2.1.all λa=>!ay 1000 (ak a.2.1);.exact⟨false,rfl,λh=>by cases h⟩
 rw[aE rfl,ik];rw[eE (xs:=c.2.2.2.2.2.2.2.2.2.2.2.2.1) (st:=λ(_:Unit)i=>((i:Int),())) (g:=λ_ _ a=>if(!ay 100 (ak a.2.1))=true then some (.inl ())else some (.inr (false,()))) (fin:=λ_=>()) (b:=())];rotate_left;.intro b i y d;refine(et d).trans ?_;rw[hI];show ad (ay 100 (ak y.2.1)) (ao (ao (some (false,())))) (some (.inl (ai .i64 (i:Int) 1,())))=_;rw[bI (gv d (aU f (by decide)))];cases ay 100 (ak y.2.1)<;>rfl
 .exactλb=>ey
 .rfl
 .omega
 rw[je];cases c.2.2.2.2.2.2.2.2.2.2.2.2.1.all λa=>!ay 100 (ak a.2.1);.exact⟨false,rfl,λh=>by cases h⟩
 exact⟨true,rfl,λ_=>⟨Cd g,Cd j,e,Cd l,f⟩⟩
def yQ(l:List fj):Bool:=l.all λa=>a6 a.2.1 0
def left(c:D cc):Int:=qH c.2.1-c.2.2.2.2.2.2.2.1-1
theorem Uh(c:D cc)(h:c.2.1.length<=20){R:Type}:aB (λa:Int×Int×Unit=>ad (ay a.2.1 (ak c.2.1)) (am (ax c.2.1 a.2.1) λe=>some (.inl (ai .i64 a.1 (bo .i64 e.2.2.1 e.2.2.2.1),ai .i64 a.2.1 1,()))) (ao (some (.inl (a.1,()))))) 1000000000 (bo .i64 (v6 .i64 c.2.2.2.2.2.2.2.1) 1,0,())=(some (.inl (c.2.1.foldl (λb z=>ai .i64 b (bo .i64 z.2.2.1 z.2.2.2.1)) (bo .i64 (v6 .i64 c.2.2.2.2.2.2.2.1) 1),())):Option (Sum (Int×Unit) R)):=by
 rw[eE (xs:=c.2.1) (st:=λ(b:Int)i=>(b,(i:Int),())) (g:=λ_ b z=>some (.inl (ai .i64 b (bo .i64 z.2.2.1 z.2.2.2.1)))) (fin:=λb=>(b,())) (b:=bo .i64 (v6 .i64 c.2.2.2.2.2.2.2.1) 1)];rotate_left;.intro b i y d;refine(et d).trans ?_;rw[bI (gv d (aU h (by decide)))];rfl
 .exactλb=>ey
 .rfl
 .omega
 rw[qU]
theorem zQ{c:D cc}(h:dq c=true):aV 0 32 c.2.2.2.2.2.2.2.1=true:=by unfold dq mX at h;simp only[ae]at h;exact h.1.2.2.2.2.2.1
theorem UI(l:List (D kN))(p:Int)(h:l.length<=20)(d:l.all pb=true)(hp:aV 0 32 p=true):l.foldl (λb z=>ai .i64 b (bo .i64 z.2.2.1 z.2.2.2.1)) (bo .i64 (v6 .i64 p) 1)=qH l-p-1:=by
 have e:=di hp;have a:v6 .i64 p=0-p:=fk (a:=0) (b:=p) (by omega) (by omega);have c:bo .i64 (v6 .i64 p) 1=0-p-1:=by rw[a];exact fk (by omega) (by omega)
 rw[c,yv _ _ d h (by omega) (by omega) (by omega)];omega
theorem UH(l:List (D kN))(p:Int)(h:l.length<=20)(a:l.all pb=true)(hp:aV 0 32 p=true):bo .i64 (bo .i64 (l.foldl (λb z=>ai .i64 b (bo .i64 z.2.2.1 z.2.2.2.1)) 0) p) 1=qH l-p-1:=by have d:=di hp;have e:=Ml l a;rw[yv _ _ a h (by omega) (by omega) (by omega),mU];have c:bo .i64 (qH l) p=qH l-p:=fk (by omega) (by omega);rw[c];exact fk (by omega) (by omega)
theorem UK(c:D cc)(h:c.2.1.length<=20)(d:c.2.1.all pb=true)(a:dq c=true):c.2.1.foldl (λb z=>ai .i64 b (bo .i64 z.2.2.1 z.2.2.2.1)) (bo .i64 (v6 .i64 c.2.2.2.2.2.2.2.1) 1)=left c:=UI _ _ h d (zQ a)
theorem UJ(c:D cc)(h:c.2.1.length<=20)(d:c.2.1.all pb=true)(a:dq c=true):bo .i64 (bo .i64 (c.2.1.foldl (λb z=>ai .i64 b (bo .i64 z.2.2.1 z.2.2.2.1)) 0) c.2.2.2.2.2.2.2.1) 1=left c:=UH _ _ h d (zQ a)
def FL(c:D cc):Option (Int×Unit):=if yQ c.2.2.2.2.2.2.2.2.2.2.2.1=true then ad (ay (left c) 0) (some (18,())) (am (Jo (c.2.2.2.2.2.2.2.2.2.2.2.1,left c,())) λa=>ad (bH a.2.1 0) (some (18,())) (ad (bH a.1 (-1)) (some (18,())) (some (0,()))))else some (1,())
theorem NH(c:D cc)(h:c.2.1.length<=20)(f:c.2.2.2.2.2.2.2.2.2.2.2.1.length<=20)(j:c.2.1.all pb=true)(g:dq c=true):PS (c,())=if eg c.2.2.2.2.2.2.2.2.2.2.2.1=0 then FL c else some (eg c.2.2.2.2.2.2.2.2.2.2.2.1,()):=by
 unfold PS;show am (As (c.2.2.2.2.2.2.2.2.2.2.2.1,())) _=_;rw[qu,cG];show ad (bH (eg c.2.2.2.2.2.2.2.2.2.2.2.1) 0) (some (eg c.2.2.2.2.2.2.2.2.2.2.2.1,())) _=_;by_cases d:eg c.2.2.2.2.2.2.2.2.2.2.2.1=0
 .
  rw[eb (by rw[gM,av d];rfl),aE d];rw[eE (xs:=c.2.2.2.2.2.2.2.2.2.2.2.1) (st:=λ(_:Unit)i=>((i:Int),())) (g:=λ_ _ a=>if a6 a.2.1 0=true then some (.inl ())else some (.inr ((1:Int),()))) (fin:=λ_=>()) (b:=())];rotate_left;.intro b i y e;refine(et e).trans ?_;rw[hI];show ad (!a6 y.2.1 0) (ao (ao (ad (cL 0 (i:Int)) (some ((1:Int),())) _))) (some (.inl (ai .i64 (i:Int) 1,())))=_;rw[ez (b:=cL 0 (i:Int)) (by rw[jN];exact av (by omega)),bI (gv e (aU f (by decide)))];cases a6 y.2.1 0<;>rfl
  .exactλb=>ey
  .rfl
  .omega
  rw[je];unfold FL yQ;cases c.2.2.2.2.2.2.2.2.2.2.2.1.all λa=>a6 a.2.1 0;.rfl
  rw[aE rfl,aE rfl,ik];refine(eT (λo=>aD o _) (Uh c h)).trans ?_;rw[UK c h j g,ik];show ad (ay (left c) 0) _ (am (Dt (c.2.2.2.2.2.2.2.2.2.2.2.1,left c,())) _)=_;rw[KM]
 .rw[ez (by rw[gM,aX d];rfl),aG d]
theorem wx{l:List (D kN)}(h:gS l=true):l.all pb=true:=by unfold gS at h;simp only[ae]at h;exact h.2.1
theorem Wz(c:D cc)(k:c.1.length<=20)(h1:c.2.1.length<=20)(h2:c.2.2.2.2.2.2.2.2.2.2.1.length<=20)(h:c.2.2.2.2.2.2.2.2.2.2.2.1.length<=20):∃n,zH (c,())=some (n,())/\L4 (c,())=some (n,()):=by
 unfold zH L4;rw[NL (c,()) k,We (c,()) k h1,cG,cG];show∃n,ad (bH (if im c.1=true then 0 else 1) 0) (some (if im c.1=true then 0 else 1,())) _=_/\ad (bL (im c.1&&gS c.2.1)) _ _=_;cases w:im c.1;.exact⟨_,rfl,rfl⟩
 rw[aE rfl,eb (b:=bH 0 0) (by rfl),NK (c,()) h1,cG];show∃n,ad (bH (if gS c.2.1=true then 0 else 1) 0) (some (if gS c.2.1=true then 0 else 1,())) _=_/\_;cases p:gS c.2.1;.exact⟨_,rfl,rfl⟩
 rw[aE rfl,eb (b:=bH 0 0) (by rfl),NJ (c,()) h2,cG,eb (b:=bL (true&&true)) (by rfl),Wc (c,()) h2,cG];show∃n,ad (bH (if dq c=true then 0 else 1) 0) (some (if dq c=true then 0 else 1,())) _=_/\ad (bL (dq c)) _ _=_;cases o:dq c;.exact⟨_,rfl,rfl⟩
 rw[aE rfl,eb (b:=bH 0 0) (by rfl),eb (b:=bL true) (by rfl)];rw[NH c h1 h (wx p) o];show∃n,_/\am (Jp (c.2.2.2.2.2.2.2.2.2.2.2.1,())) _=_;rw[A4,cG];show∃n,_/\ad (bH (eg c.2.2.2.2.2.2.2.2.2.2.2.1) 0) (some (eg c.2.2.2.2.2.2.2.2.2.2.2.1,())) _=_;by_cases g:eg c.2.2.2.2.2.2.2.2.2.2.2.1=0;rotate_left
 .
  rw[aG g,cG];have l:bH (eg c.2.2.2.2.2.2.2.2.2.2.2.1) 0=true:=by rw[gM,aX g];rfl
  rw[ez l];exact⟨_,rfl,ez l _ _⟩
 rw[aE g,eb (b:=bH (eg c.2.2.2.2.2.2.2.2.2.2.2.1) 0) (by rw[gM,av g];rfl)];rw[eE (xs:=c.2.2.2.2.2.2.2.2.2.2.2.1) (st:=λ(_:Unit)i=>((i:Int),())) (g:=λ_ _ a=>if a6 a.2.1 0=true then some (.inl ())else some (.inr ((1:Int),()))) (fin:=λ_=>()) (b:=())];rotate_left;.intro b i y f;refine(et f).trans ?_;rw[hI];show ad (!a6 y.2.1 0) (ao (ao (some ((1:Int),())))) (some (.inl (ai .i64 (i:Int) 1,())))=_;rw[bI (gv f (aU h (by decide)))];cases a6 y.2.1 0<;>rfl
 .exactλb=>ey
 .rfl
 .omega
 rw[je];unfold FL yQ;cases c.2.2.2.2.2.2.2.2.2.2.2.1.all λa=>a6 a.2.1 0;.exact⟨_,rfl,rfl⟩
 rw[aE rfl,aE rfl,ik];obtain⟨t,v⟩:=Wb c h1;show∃n,_/\am (Hn (c,())) _=_;rw[v,cG];show∃n,_/\ad (ay (bo .i64 (bo .i64 (c.2.1.foldl (λb z=>ai .i64 b (bo .i64 z.2.2.1 z.2.2.2.1)) 0) c.2.2.2.2.2.2.2.1) 1) 0) (some (18,())) (am (Jo (c.2.2.2.2.2.2.2.2.2.2.2.1,bo .i64 (bo .i64 (c.2.1.foldl (λb z=>ai .i64 b (bo .i64 z.2.2.1 z.2.2.2.1)) 0) c.2.2.2.2.2.2.2.1) 1,())) _)=_;rw[UJ c h1 (wx p) o];cases ay (left c) 0;rotate_left;.exact⟨_,rfl,rfl⟩
 obtain⟨r,u⟩:=Fg c.2.2.2.2.2.2.2.2.2.2.2.1 (left c);rw[nV,nV,u,cG,cG];cases bH r.2.1 0;rotate_left;.exact⟨_,rfl,rfl⟩
 cases bH r.1 (-1);rotate_left;.exact⟨_,rfl,rfl⟩
 rw[nV,nV,nV,nV,cG,eb (b:=bH 0 0) (by rfl),NG c h];show∃n,_/\ad (ay (ak c.2.2.2.2.2.2.2.2.2.2.2.2.1) 1) _ (ad (ay 8 (ak c.2.2.2.2.2.2.2.2.2.2.2.2.1)) _ _)=_;rw[fP];by_cases e:aV 1 8 (ak c.2.2.2.2.2.2.2.2.2.2.2.2.1)=true;rotate_left;.rw[aG e,aG e];exact⟨_,rfl,rfl⟩
 rw[aE e,aE e,cG];have s:=di e;rw[aJ]at s;rw[eE (xs:=c.2.2.2.2.2.2.2.2.2.2.2.2.1) (st:=λ(_:Unit)i=>((i:Int),())) (g:=λ_ _ a=>if a6 (xw (ak c.2.2.2.2.2.2.2.2.2.2.2.1) a) 0=true then some (.inl ())else some (.inr (xw (ak c.2.2.2.2.2.2.2.2.2.2.2.1) a,()))) (fin:=λ_=>()) (b:=())];rotate_left
 .
  intro b i y f;refine(et f).trans ?_;rw[hI];show am (SO (y.2.1,())) (λq=>ad (bH q.1 0) (ao (ao (some (q.1,())))) (ad (ay y.1 0) (ao (ao (some (2,())))) (ad (cL (ak c.2.2.2.2.2.2.2.2.2.2.2.1) y.1) (ao (ao (some (2,())))) (some (.inl (ai .i64 (i:Int) 1,()))))))=_;rw[Wa,cG,ue,bI (gv f (show c.2.2.2.2.2.2.2.2.2.2.2.2.1.length<=140737488355328 by omega))];show ad (!a6 (lp y.2.1) 0) (ao (ao (some (lp y.2.1,())))) (if aV 0 (ak c.2.2.2.2.2.2.2.2.2.2.2.1-1) y.1=true then _ else _)=_;by_cases d:a6 (lp y.2.1) 0=true;.have j:xw (ak c.2.2.2.2.2.2.2.2.2.2.2.1) y=if aV 0 (ak c.2.2.2.2.2.2.2.2.2.2.2.1-1) y.1=true then 0 else 2:=aE d;rw[j,d];cases aV 0 (ak c.2.2.2.2.2.2.2.2.2.2.2.1-1) y.1<;>rfl
  .have j:xw (ak c.2.2.2.2.2.2.2.2.2.2.2.1) y=lp y.2.1:=aG d;rw[j,aG d,ez (b:=!a6 (lp y.2.1) 0) (by rw[rk]at d;rw[d];rfl)];rfl
 .exactλb=>ey
 .rfl
 .omega
 refine⟨nP (xw (ak c.2.2.2.2.2.2.2.2.2.2.2.1)) c.2.2.2.2.2.2.2.2.2.2.2.2.1,?_,qi _ _ 0⟩;rw[mm];show(if(!a6 (nP (xw (ak c.2.2.2.2.2.2.2.2.2.2.2.1)) c.2.2.2.2.2.2.2.2.2.2.2.2.1) 0)=true then some (nP (xw (ak c.2.2.2.2.2.2.2.2.2.2.2.1)) c.2.2.2.2.2.2.2.2.2.2.2.2.1,())else some (0,()))=_;by_cases m:nP (xw (ak c.2.2.2.2.2.2.2.2.2.2.2.1)) c.2.2.2.2.2.2.2.2.2.2.2.2.1=0;.rw[m];rfl
 .rw[gA,aX m];rfl
end Go.Bo
namespace Go.Ls
open Go Go.Hm
def Ok{α:Type}(o:Option α)(Q:α->Prop):Prop:=∃y,o=some y/\Q y
section
variable{α β:Type}{Q:α->Prop}{P:β->Prop}
theorem Ok.mono{a:α->Prop}{o:Option α}(h:Ok o Q)(g:∀y,Q y->a y):Ok o a:=by obtain⟨y,b,c⟩:=h;exact⟨y,b,g y c⟩
theorem ab{y:α}(h:Q y):Ok (some y) Q:=⟨y,rfl,h⟩
theorem aN{b:Bool}{x y:Option α}(h1:b=true->Ok x Q)(h2:b=false->Ok y Q):Ok (ad b x y) Q:=by cases b with
 |true=>exact h1 rfl
 |false=>exact h2 rfl
theorem be{b:Bool}{x y:Option α}(h:b=true)(h1:Ok x Q):Ok (ad b x y) Q:=by rw[ez h];exact h1
theorem aw{b:Bool}{x y:Option α}(h:b=false)(h1:Ok y Q):Ok (ad b x y) Q:=by rw[eb h];exact h1
theorem aq{b:Bool}{x:Option α}(h:b=true)(h1:Ok x Q):Ok (aA b x) Q:=by rw[h];exact h1
theorem bb{o:Option β}{f:β->Option α}(h:Ok o P)(g:∀x,P x->Ok (f x) Q):Ok (am o f) Q:=by obtain⟨y,rfl,a⟩:=h;exact g y a
theorem qb{o:Option β}{f:β->Option α}(h:Ok o P)(g:∀x,o=some x->P x->Ok (f x) Q):Ok (am o f) Q:=by obtain⟨y,e,a⟩:=h;rw[e];exact g y e a
theorem aa{o:Option β}{f:β->Option α}{x:β}(h:o=some x)(g:Ok (f x) Q):Ok (am o f) Q:=by rw[h];exact g
def hN{σ a:Type}(P:σ->Prop)(Q:a->Prop):Sum σ a->Prop| .inl x=>P x| .inr y=>Q y
theorem aK{o:Option (Sum β α)}{f:β->Option α}(h:Ok o (hN P Q))(g:∀x,P x->Ok (f x) Q):Ok (aD o f) Q:=by obtain⟨y,rfl,a⟩:=h;cases y with
 |inl x=>exact g x a
 |inr y=>exact⟨y,rfl,a⟩
theorem bu{o:Option α}(h:Ok o Q){P:β->Prop}:Ok (ao (α:=β) o) (hN P Q):=by obtain⟨y,rfl,a⟩:=h;exact⟨.inr y,rfl,a⟩
theorem a4{x:β}(h:P x):Ok (some (Sum.inl x)) (hN P Q):=⟨_,rfl,h⟩
theorem qa{σ:Type}{f:σ->Option (Sum σ α)}{I:Nat->σ->Prop}{n k:Nat}{x:σ}(b:I k x)(e:k<n)(c:∀k x,I k x->Ok (f x) (hN (λa=>0<k/\I (k-1) a) Q)):Ok (aB f n x) Q:=by rw[ir];induction n generalizing k x with
 |zero=>omega
 |succ n d=>show Ok (aD (f x) (jk f n)) Q;refine aK (c k x b) λa h=>d h.2 (by omega)
theorem bz{σ:Type}{f:σ->Option (Sum σ α)}{I:Nat->σ->Prop}{m b:Nat}{x:σ}(d:I 0 x)(e:m<b)(l:∀i s,i<m->I i s->Ok (f s) (hN (I (i+1)) Q))(g:∀s,I m s->Ok (f s) (hN (λ_=>False) Q)):Ok (aB f b x) Q:=by
 refine qa (I:=λk s=>k<=m/\I (m-k) s) (k:=m) ⟨ar _,by rw[ee];exact d⟩ e λk s h=>?_;obtain⟨n,c⟩:=h;by_cases j:k=0
 .subst j;exact(g s c).mono λy a=>by cases y with
  |inl _=>exact a.elim
  |inr _=>exact a
 .refine(l (m-k) s (by omega) c).mono λy a=>?_;cases y with
  |inl o=>exact⟨by omega,by omega,by rw[show m-(k-1)=m-k+1 by omega];exact a⟩
  |inr _=>exact a
theorem Y1{l:List α}{i:Int}(a:0<=i)(h1:i<ak l):∃x,ax l i=some x/\l[i.toNat]?=some x:=by
 rw[aJ]at h1;obtain⟨n,rfl⟩:∃n:Nat,i=(n:Int):=⟨i.toNat,by omega⟩;refine⟨l[n]'(by omega),?_,?_⟩;.show l[n]?=_;exact G (by omega)
 .show l[((n:Int)).toNat]?=_;rw[db];exact G (by omega)
theorem pg{l:List α}{i:Int}(a:0<=i)(h1:i<ak l):Ok (ax l i) λx=>l[i.toNat]?=some x:=Y1 a h1
theorem cQ{l:List α}{i:Nat}(h:i<l.length):Ok (ax l (i:Int)) λx=>l[i]?=some x:=⟨l[i],G h,G h⟩
theorem ru{l:List α}{i:Int}(a:0<=i)(h1:i<ak l):a5 l i=true:=by unfold a5;rw[av a];exact av h1
theorem eF{l:List α}{i:Nat}(h:i<l.length):a5 l (i:Int)=true:=ru (by omega) (by rw[aJ];omega)
theorem ce{l r:List α}{b:Nat}(h:l.length+r.length<=10000)(a:b<=1000):aO l r b=true:=by unfold aO gL;rw[bS];show(l.length+r.length)*b<=4294967296;exact aU (tG h a) (by decide)
theorem eK{a b:Int}(h:a<b):ay a b=true:=av h
theorem cH{a b:Int}(h:b<=a):ay a b=false:=aX (by omega)
theorem lz{a b:Int}(h:a<=b):cL a b=true:=av h
theorem lA{a b:Int}(h:b<a):cL a b=false:=aX (by omega)
theorem kS{a b:Int}(h:ay a b=true):a<b:=bA h
theorem eZ{a b:Int}(h:ay a b=false):b<=a:=by have:=ki h;omega
theorem ou{a b:Int}(h:cL a b=true):a<=b:=bA h
theorem qJ{a b:Int}(h:cL a b=false):b<a:=by have:=ki h;omega
theorem lq{a b:Int}(h:a6 a b=true):a=b:=bA h
theorem mZ{a b:Int}(h:a6 a b=false):a≠b:=ki h
theorem jh{a b:Int}(h:bH a b=true):a≠b:=by rw[gM]at h;simpa using h
theorem fH{a b:Int}(h:bH a b=false):a=b:=by rw[gM]at h;simpa using h
theorem QQ{b:Bool}(h:bL b=true):b=false:=by cases b<;>first|rfl|cases h
theorem ma{b:Bool}(h:bL b=false):b=true:=by cases b<;>first|rfl|cases h
theorem jL{l:List α}{i:Int}{x:α}:(aI l i x).length=l.length:=bC
end
end Go.Ls
namespace Go.Bo
open Go Go.Ls
structure u5 (c : D cc) : Prop where
  yP : im c.1 = true
  A6 : gS c.2.1 = true
  om : dq c = true
  jR : eg c.2.2.2.2.2.2.2.2.2.2.2.1 = 0
  use : yQ c.2.2.2.2.2.2.2.2.2.2.2.1 = true
  np : 1 ≤ c.2.2.2.2.2.2.2.2.2.2.2.2.1.length ∧ c.2.2.2.2.2.2.2.2.2.2.2.2.1.length ≤ 8
  prog : ∀ p, p ∈ c.2.2.2.2.2.2.2.2.2.2.2.2.1 → p.2.1.length ≤ 48 ∧ aV 0 (ak c.2.2.2.2.2.2.2.2.2.2.2.1 - 1) p.1 = true
theorem YE{lo hi n:Int}(h:hi<n):¬aV lo hi n=true:=by intro a;have:=di a;omega
theorem R5{α:Type}{l:List α}{k:Int}(h:¬l.length<=20)(a:k<=20):¬aV 1 k (ak l)=true:=YE (by rw[aJ];omega)
theorem SR(c:D cc):Ok (PX (c,())) λr=>r.1=0->im c.1=true:=by
 by_cases h:c.1.length<=20
 .
  rw[NL (c,()) h];refine ab λa=>?_;have a:(if im c.1=true then(0:Int)else 1)=0:=a;by_cases b:im c.1=true;.exact b
  .rw[aG b]at a;cases a
 .unfold PX;refine⟨((1:Int),()),(xW _ _ _).trans (aG (R5 (l:=c.1) (k:=4) h (by decide))),λh=>by cases h⟩
theorem SQ(c:D cc):Ok (PU (c,())) λr=>r.1=0->gS c.2.1=true:=by
 by_cases h:c.2.1.length<=20
 .
  rw[NK (c,()) h];refine ab λa=>?_;have a:(if gS c.2.1=true then(0:Int)else 1)=0:=a;by_cases b:gS c.2.1=true;.exact b
  .rw[aG b]at a;cases a
 .unfold PU;refine⟨((1:Int),()),(xW _ _ _).trans (aG (R5 (l:=c.2.1) (k:=6) h (by decide))),λh=>by cases h⟩
theorem SP(c:D cc):Ok (PT (c,())) λr=>r.1=0->dq c=true:=by
 by_cases h:c.2.2.2.2.2.2.2.2.2.2.1.length<=20
 .
  rw[NJ (c,()) h];refine ab λb=>?_;have b:(if dq c=true then(0:Int)else 1)=0:=b;by_cases d:dq c=true;.exact d
  .rw[aG d]at b;cases b
 .
  refine⟨((1:Int),()),?_,λh=>by cases h⟩;have a:∀(t:D (.ah iT (.ah iT iU)))(A:Option (Int×Unit)),A=some (1,())->am (nF t) (λf=>ad f.1 A (some ((1:Int),())))=some (1,()):=by intro t A e;rw[tc,e];split<;>rfl
  unfold PT;refine a _ _ (a _ _ (a _ _ (a _ _ (a _ _ (a _ _ (a _ _ (a _ _ ?_)))))));exact ez (by show bL (cL (ak c.2.2.2.2.2.2.2.2.2.2.1) 4)=true;rw[lA (by rw[aJ];omega)];rfl) _ _
theorem Ir{X:Type}{f:X->Int}:∀{l:List X},nP f l=0->∀x,x∈l->f x=0
 |[],_,x,c=>by cases c
 |a::l,h,x,c=>by
  unfold nP at h;by_cases b:a6 (f a) 0=true
  .
   rw[aE b]at h;rcases co.1 c with rfl|c;.exact lq b
   .exact Ir h x c
  .rw[aG b]at h;rw[h]at b;exact absurd (by rfl) b
theorem TK(c:D cc):Ok (zH (c,())) λr=>r.1=0->u5 c:=by
 unfold zH;refine bb (SR c) λy k=>aN (λh=>ab λb=>absurd b (jh h)) λh=>?_;have u:=k (fH h);refine bb (SQ c) λz l=>aN (λh=>ab λb=>absurd b (jh h)) λh=>?_;have g:=l (fH h);refine bb (SP c) λA m=>aN (λh=>ab λb=>absurd b (jh h)) λh=>?_;have j:=m (fH h);have w:c.2.1.length<=20:=by have:=g;unfold gS at this;simp only[ae]at this;have:=di this.1;omega
 have o:Ok (PS (c,())) λr=>r.1=0->eg c.2.2.2.2.2.2.2.2.2.2.2.1=0/\yQ c.2.2.2.2.2.2.2.2.2.2.2.1=true:=by
  by_cases a:eg c.2.2.2.2.2.2.2.2.2.2.2.1=0
  .
   rw[NH c w (by have:=(tE a).1;omega) (wx g) j,aE a];unfold FL;by_cases e:yQ c.2.2.2.2.2.2.2.2.2.2.2.1=true;.rw[aE e];obtain⟨r,b⟩:=Fg c.2.2.2.2.2.2.2.2.2.2.2.1 (left c);refine aN (λ_=>ab λ_=>⟨a,e⟩) λ_=>?_;rw[b,cG];exact aN (λ_=>ab λ_=>⟨a,e⟩) λ_=>aN (λ_=>ab λ_=>⟨a,e⟩) λ_=>ab λ_=>⟨a,e⟩
   .rw[aG e];exact ab λh=>by cases h
  .unfold PS;refine aa (qu _) (be ?_ (ab λh=>absurd h a));show bH (eg c.2.2.2.2.2.2.2.2.2.2.2.1) 0=true;rw[gM,aX a];rfl
 refine bb o λB n=>aN (λh=>ab λb=>absurd b (jh h)) λh=>?_;obtain⟨a,e⟩:=n (fH h);have x:=tE a;rw[NG c (by omega)];by_cases f:aV 1 8 (ak c.2.2.2.2.2.2.2.2.2.2.2.2.1)=true
 .
  rw[aE f,cG];refine aN (λh=>ab λb=>absurd b (jh h)) λh=>ab λ_=>?_;have s:=fH h;have t:=di f;rw[aJ]at t;refine⟨u,g,j,a,e,by omega,λp v=>?_⟩;have:=Ir s p v;unfold xw at this;by_cases d:a6 (lp p.2.1) 0=true
  .
   rw[aE d]at this;refine⟨?_,?_⟩
   .
    have d:=lq d;unfold lp at d;by_cases q:(48:Int)<(p.2.1.length:Int);.rw[aE q]at d;cases d
    .omega
   .
    by_cases i:aV 0 (ak c.2.2.2.2.2.2.2.2.2.2.2.1-1) p.1=true;.exact i
    .rw[aG i]at this;cases this
  .rw[aG d]at this;rw[this]at d;exact absurd (by rfl) d
 .rw[aG f,cG];exact be (by rfl) (ab λh=>by cases h)
def iW(l:List Int):Prop:=∀(i j:Nat)(x y:Int),i<j->l[i]?=some x->l[j]?=some y->x<y
theorem ach{a b:Int}(e:0<=a)(h1:0<=b)(h2:a+b<=1000000000):ek .i64 (rV .u64 (ek .u64 (ai .i64 a b)) 1)=(a+b)/2:=by
 rw[cD (by omega) (by omega)];have c:ek .u64 (a+b)=a+b:=by show Hm.gj .u64 (a+b)=_;unfold Hm.gj Hm.Cm;simp only;rw[av (show(0:Int)<=a+b by omega),av (show a+b<=(18446744073709551615:Int)by omega)];rfl
 rw[c];have d:rV .u64 (a+b) 1=(a+b)/2:=by show Int.fdiv (a+b) (Int.ofNat (Nat.pow 2 (Nat.min 1 64)))=_;rw[show Int.ofNat (Nat.pow 2 (Nat.min 1 64))=2 from rfl,Int.fdiv_eq_ediv_of_nonneg _ (by decide)]
 rw[d];show Hm.gj .i64 ((a+b)/2)=_;exact kW (by omega) (by omega)
theorem eU(a:Int):bH a a=false:=by rw[gM,av rfl];rfl
theorem S3(a b:Int):NU (a,b,())=some (ay a b,()):=by unfold NU wj;rw[cG];show ad (bH a a) _ _=_;rw[eU];rfl
structure Xp (l : List Int) (t : Int) (i : Nat) (wO : Bool) : Prop where
  le : i ≤ l.length
  YF : wO = true → l[i]? = some t
  lo : iW l → ∀ (j : Nat) (x : Int), j < i → l[j]? = some x → x < t
  hi : iW l → ∀ (j : Nat) (x : Int), i ≤ j → l[j]? = some x → t ≤ x
  aag : wO = false → l[i]? ≠ some t
theorem mQ(l:List Int)(t:Int)(y0:l.length<=100000):∃(i:Nat)(b:Bool),gC (l,t,())=some ((i:Int),b,())/\Xp l t i b:=by
 have z0:Ok (gC (l,t,())) λr=>∃i:Nat,r.1=(i:Int)/\Xp l t i r.2.1:=by
  unfold gC;refine aK (P:=λs=>∃i:Nat,s=((i:Int),())/\i<=l.length/\(iW l->∀(j:Nat)(x:Int),j<i->l[j]?=some x->x<t)/\(iW l->∀(j:Nat)(x:Int),i<=j->l[j]?=some x->t<=x)) (qa (I:=λk s=>∃i j:Nat,s=((i:Int),(j:Int),())/\i<=j/\j<=l.length/\j-i<=k/\(iW l->∀(q:Nat)(x:Int),q<i->l[q]?=some x->x<t)/\(iW l->∀(q:Nat)(x:Int),j<=q->l[q]?=some x->t<=x)) (k:=l.length) ⟨0,l.length,rfl,aP _,ar _,by omega,λ_ q x h=>by omega,λ_ q x h d=>?_⟩ (by omega) ?_) ?_;.rw[fA h]at d;cases d
  .
   rintro k s⟨i,j,rfl,g,c,m,w,z⟩;refine aN (λh=>?_) λh=>?_
   .
    have B:i<j:=by have:=kS h;simp only at this;omega
    have C:ek .i64 (rV .u64 (ek .u64 (ai .i64 (i:Int) (j:Int))) 1)=(((i+j)/2:Nat):Int):=by rw[ach (by omega) (by omega) (by omega)];omega
    simp only[C];refine bb (cQ (l:=l) (i:=(i+j)/2) (by omega)) λx d=>?_;refine aa (S3 x t) ?_;refine aN (λe=>a4 ⟨by omega,(i+j)/2+1,j,?_,by omega,c,by omega,λv q y D f=>?_,z⟩) λe=>a4 ⟨by omega,i,(i+j)/2,rfl,by omega,by omega,by omega,w,λv q y D f=>?_⟩;.rw[bI (by omega)]
    .
     have n:=kS e;by_cases p:q=(i+j)/2;.subst p;rw[d]at f;cases f;exact n
     .have:=v q ((i+j)/2) y x (by omega) f d;exact wt this n
    .
     have n:=eZ e;by_cases p:q=(i+j)/2;.subst p;rw[d]at f;cases f;exact n
     .have:=v ((i+j)/2) q x y (by omega) d f;exact wu n (wv this)
   .
    have B:j<=i:=by have:=eZ h;simp only at this;omega
    have:i=j:=by omega
    subst this;exact bu (a4 ⟨i,rfl,c,w,z⟩)
  .
   rintro s⟨i,rfl,g,c,m⟩;refine aN (λh=>?_) λh=>ab ⟨i,rfl,g,λh=>(by cases h),c,m,λ_ e=>?_⟩
   .
    have A:i<l.length:=by have:=kS h;rw[aJ]at this;simp only at this;omega
    refine bb (cQ (l:=l) A) λx d=>?_;refine aN (λo=>ab ⟨i,rfl,g,λ_=>by rw[d,lq o],c,m,λh=>by cases h⟩) λo=>?_;refine bb (cQ (l:=l) A) λy f=>?_;refine aa (x:=(false,())) (by unfold NT;show some (bH y y,())=_;rw[eU]) (aw rfl (ab ⟨i,rfl,g,λh=>(by cases h),c,m,λ_ e=>?_⟩));rw[d]at e;cases e;exact mZ o rfl
   .have:=eZ h;rw[aJ]at this;rw[fA (by simp only at this;omega)]at e;cases e
 obtain⟨⟨a,b,u⟩,g,i,c,m⟩:=z0;have c:a=(i:Int):=c;subst c;exact⟨i,b,g,m⟩
abbrev Zn:=D eH
def zs(z:Zn):Int:=z.2.2.1
def zc(z:Zn):Int:=z.2.2.2.1
def vR(z:Zn):Prop:=0<=zs z/\1<=zc z/\zs z+zc z<=256
def In(z:Zn)(f:Int)(k:Nat):Prop:=zs z<=f/\f+2^k<=zs z+zc z/\f.tmod (2^k)=0
theorem T7{s:Int}(a:0<=s)(h1:s<=256):bo .i64 256 s=256-s:=fk (by omega) (by omega)
theorem JK(z:Zn):Ok (rf (z,())) λr=>r.1=true->vR z:=by
 have a:Ok (some (false,())) λr:Bool×Unit=>r.1=true->vR z:=ab (λh=>by cases h);have f:Ok (ad (cL 0 z.2.2.1) (ad (ay z.2.2.1 256) (ad (cL 1 z.2.2.2.1) (ad (cL z.2.2.2.1 (bo .i64 256 z.2.2.1)) (ad (cL 0 z.2.2.2.2.1) (some (cL z.2.2.2.2.1 z.2.2.2.1,())) (some (false,()))) (some (false,()))) (some (false,()))) (some (false,()))) (some (false,()))) λr:Bool×Unit=>r.1=true->vR z:=by refine aN (λb=>aN (λc=>aN (λd=>aN (λe=>aN (λg=>ab λ_=>?_) λ_=>a) λ_=>a) λ_=>a) λ_=>a) λ_=>a;have b:0<=zs z:=ou b;have c:zs z<256:=kS c;have d:1<=zc z:=ou d;have e:zc z<=bo .i64 256 (zs z):=ou e;rw[T7 b (wv c)]at e;exact⟨b,d,by omega⟩
 unfold rf;exact aN (λ_=>aN (λ_=>aN (λ_=>f) λ_=>aN (λ_=>f) λ_=>a) λ_=>a) λ_=>a
theorem t4(k:Nat)(h:k<=4):fB .i64 1 (k:Int)=2^k:=by rcases k with _|_|_|_|_|k<;>first|rfl|omega
theorem Di(z:Zn)(f:Int)(k:Nat)(g:k<=4):Ok (lg (z,f,(k:Int),())) λr=>r.1=true->vR z->In z f k:=by
 have e:Ok (some (false,())) λr:Bool×Unit=>r.1=true->vR z->In z f k:=ab (λh=>by cases h);have j:(1:Int)<=2^k/\(2:Int)^k<=16:=by rcases k with _|_|_|_|_|k<;>first|exact⟨by decide,by decide⟩|omega
 unfold lg;refine aq (av (show(0:Int)<=(k:Int)by omega)) (aN (λc=>aq ?_ (aN (λa=>aN (λd=>ab λb i=>?_) λ_=>e) λ_=>e)) λ_=>e);.show bH (fB .i64 1 (k:Int)) 0=true;rw[t4 k g,gM,aX (by omega)];rfl
 .have c:zs z<=f:=ou c;have a:lM .i64 f (fB .i64 1 (k:Int))=0:=lq a;have d:fB .i64 1 (k:Int)<=zc z:=ou d;have b:f<=bo .i64 (ai .i64 (zs z) (zc z)) (fB .i64 1 (k:Int)):=ou b;obtain⟨l,m,n⟩:=i;rw[t4 k g]at a d b;rw[cD (by omega) (by omega),fk (by omega) (by omega)]at b;exact⟨c,by omega,a⟩
abbrev RI:=Int×Unit
def LX(z:Zn)(l:List Int)(k:Nat):Prop:=iW l/\∀f,f∈l->In z f k
theorem FZ{l:List Int}{i:Nat}(h:∀(a b:Nat)(x y:Int),a<b->b<i->l[a]?=some x->l[b]?=some y->x<y)(hi:i=l.length):iW l:=by intro a b x y d e c;have:=(aj.1 c).1;exact h a b x y d (by omega) e c
theorem HM(z:Zn)(l:List Int)(k:Nat)(c:Int)(v0:c=(k:Int))(s0:k<=4)(o0:vR z)(k0:l.length<=100000):Ok (aB (λg:Int×Unit=>ad (ay g.1 (ak l)) (am (ax l g.1) λD=>am (lg (z,D,c,())) λm0=>ad (bL m0.1) (ao (ao (some ((3:Int),())))) (ad (ay 0 g.1) (am (ax l (bo .i64 g.1 1)) λl0=>ad (cL D l0) (ao (ao (some ((10:Int),())))) (some (.inl (ai .i64 g.1 1,())))) (some (.inl (ai .i64 g.1 1,()))))) (ao (some (.inl ())))) 1000000000 (0,()):Option (Sum Unit RI)) (hN (λ_=>LX z l k) λr=>r.1≠0):=by
 subst v0;refine bz (I:=λi s=>s=((i:Int),())/\(∀(a b:Nat)(x y:Int),a<b->b<i->l[a]?=some x->l[b]?=some y->x<y)/\∀(a:Nat)(f:Int),a<i->l[a]?=some f->In z f k) (m:=l.length) ⟨rfl,λa b x y _ h=>by omega,λa f h=>by omega⟩ (by omega) ?_ ?_
 .
  rintro i s u0⟨rfl,n,o⟩;refine be (eK (by rw[aJ];show(i:Int)<_;omega)) (bb (cQ u0) λx C=>?_);refine bb (Di z x k s0) λb A=>aN (λ_=>bu (bu (ab (by decide)))) λq0=>?_;have t0:=A (ma q0) o0
  have t:(∀y,0<i->l[i-1]?=some y->y<x)->Ok (some (Sum.inl (ai .i64 ((i:Int),()).1 1,())):Option (Sum (Int×Unit) (Sum Unit RI))) (hN (λs=>s=(((i+1:Nat):Int),())/\(∀(a b:Nat)(x y:Int),a<b->b<i+1->l[a]?=some x->l[b]?=some y->x<y)/\∀(a:Nat)(f:Int),a<i+1->l[a]?=some f->In z f k) (hN (λ_=>LX z l k) λr=>r.1≠0)):=by
   intro p0;refine a4 ⟨by show(ai .i64 (i:Int) 1,())=_;rw[bI (by omega)],λa b u v y0 A p q=>?_,λa f j m=>?_⟩
   .
    by_cases w0:b=i
    .
     subst w0;rw[C]at q;cases q;obtain⟨w,d⟩:∃w,l[b-1]?=some w:=⟨_,G (by omega)⟩;have B:=p0 w (by omega) d;by_cases j:a=b-1;.subst j;rw[p]at d;cases d;exact B
     .exact wt (n a (b-1) u w (by omega) (by omega) p d) B
    .exact n a b u v y0 (by omega) p q
   .
    by_cases x0:a=i;.subst x0;rw[C]at m;cases m;exact t0
    .exact o a f (by omega) m
  refine aN (λh=>?_) λh=>t λy z0=>?_
  .
   have z0:0<i:=by have:=kS h;simp only at this;omega
   have e:bo .i64 (i:Int) 1=((i-1:Nat):Int):=by rw[fk (by omega) (by omega)];omega
   show Ok (am (ax l (bo .i64 (i:Int) 1)) _) _;rw[e];refine bb (cQ (l:=l) (i:=i-1) (by omega)) λy n0=>aN (λ_=>bu (bu (ab (by decide)))) λr0=>t λw _ d=>?_;rw[n0]at d;cases d;exact qJ r0
  .have:=eZ h;simp only at this;omega
 .rintro s⟨rfl,n,o⟩;refine aw (cH (by rw[aJ];exact bX _)) (bu (a4 ⟨FZ n rfl,λf m=>?_⟩));obtain⟨a,j⟩:=bn m;exact o a f (aj.1 j).1 j
abbrev BS:=List Bool×Unit
def uW(s:List Bool):Prop:=s.length=256
theorem HL(z:Zn)(l:List Int)(k:Nat)(c:Int)(C:c=2^k)(y0:vR z)(D:LX z l k)(r0:l.length<=100000)(s0:k<=4)(w:List Bool)(B:uW w):Ok (aB (λh:BS×Int×Unit=>ad (ay h.2.1 (ak l)) (aD (am (ax l h.2.1) λA=>aD (aB (λa:BS×Int×Unit=>ad (ay a.2.1 (ai .i64 A c)) (aA (cV a.2.1) (aA (ay a.2.1 256) (am (ax a.1.1 a.2.1) λw0=>ad w0 (ao (ao (ao (ao (ao (some ((7:Int),()))))))) (aA (cV a.2.1) (aA (ay a.2.1 256) (am (ax a.1.1 a.2.1) λh0=>some (.inl ((aI a.1.1 a.2.1 true,()),ai .i64 a.2.1 1,())))))))) (ao (some (.inl ((a.1.1,()),()))))) 1000000000 ((h.1.1,()),A,())) λv0:BS×Unit=>some (.inl ((v0.1.1,()),()))) λu0:BS×Unit=>some (.inl ((u0.1.1,()),ai .i64 h.2.1 1,()))) (ao (some (.inl ((h.1.1,()),()))))) 1000000000 ((w,()),0,()):Option (Sum (BS×Unit) RI)) (hN (λs=>uW s.1.1) λr=>r.1≠0):=by
 have q0:(1:Int)<=2^k/\(2:Int)^k<=16:=by rcases k with _|_|_|_|_|k<;>first|exact⟨by decide,by decide⟩|omega
 subst C;obtain⟨k0,j0,i0⟩:=y0;refine bz (I:=λi s=>uW s.1.1/\s.2.1=(i:Int)) (m:=l.length) ⟨B,rfl⟩ (by omega) ?_ ?_
 .
  rintro i⟨⟨s,u⟩,d,v⟩z0⟨m,f⟩;have f:d=(i:Int):=f;subst f;have m:uW s:=m;refine be (eK (by rw[aJ];show(i:Int)<_;omega)) (aK (P:=λb=>uW b.1.1) (bb (cQ z0) λx x0=>?_) λb q=>a4 (P:=λs:BS×Int×Unit=>uW s.1.1/\s.2.1=((i+1:Nat):Int)) ⟨q,?_⟩);rotate_left;.have e:ai .i64 (i:Int) 1=((i+1:Nat):Int):=bI (by omega);rw[<-e]
  obtain⟨m0,l0,_⟩:=D.2 x (Y x0);have p0:0<=x:=by omega
  have t:ai .i64 x (2^k)=x+2^k:=cD (by omega) (by omega);refine aK (P:=λb=>uW b.1.1) (bz (I:=λj s=>uW s.1.1/\s.2.1=x+(j:Int)) (m:=(2^k:Int).toNat) ⟨m,by show x=x+((0:Nat):Int);omega⟩ (by omega) ?_ ?_) λb q=>a4 (P:=λb:BS×Unit=>uW b.1.1) q
  .
   rintro j⟨⟨s,u⟩,d,v⟩t0⟨o,g⟩;have g:d=x+(j:Int):=g;subst g;have p:s.length=256:=o;have n:x+(j:Int)<256:=by omega
   refine be (eK (by rw[t];show x+(j:Int)<_;omega)) (aq (av (show(0:Int)<=x+(j:Int)by omega)) (aq (eK n) (bb (pg (l:=s) (show(0:Int)<=x+(j:Int)by omega) (by rw[aJ,p];exact n)) λy o0=>aN (λ_=>bu (bu (bu (bu (bu (ab (by decide))))))) λ_=>aq (av (show(0:Int)<=x+(j:Int)by omega)) (aq (eK n) (bb (pg (l:=s) (show(0:Int)<=x+(j:Int)by omega) (by rw[aJ,p];exact n)) λg0 n0=>a4 ⟨?_,?_⟩)))));.show(aI s _ true).length=256;rw[jL,p]
   .show ai .i64 (x+(j:Int)) 1=x+((j+1:Nat):Int);rw[cD (by omega) (by omega)];omega
  .rintro⟨⟨s,u⟩,d,v⟩⟨o,g⟩;have g:d=x+(((2^k:Int).toNat:Nat):Int):=g;subst g;refine aw (cH ?_) (bu (a4 (P:=λb:BS×Unit=>uW b.1.1) o));rw[t];show x+2^k<=x+_;omega
 .rintro⟨⟨s,u⟩,d,v⟩⟨m,f⟩;have f:d=((l.length:Nat):Int):=f;subst f;exact aw (cH (by rw[aJ];exact bX _)) (bu (a4 (P:=λb:BS×Unit=>uW b.1.1) m))
theorem Ms(z:Zn)(l:List Int)(k:Nat)(c q:Int)(n:q=(k:Int))(h:k<=4)(m:l.length<=100000):Ok (aB (λa:Int×Unit=>ad (ay a.1 (ak l)) (am (ax l a.1) λd=>am (gC (l,bK .i64 d c,())) λo=>ad o.2.1 (am (lg (z,bN d (bK .i64 d c),q,())) λp=>ad p.1 (ao (ao (some ((11:Int),())))) (some (.inl (ai .i64 a.1 1,())))) (some (.inl (ai .i64 a.1 1,())))) (ao (some (.inl ())))) 1000000000 (0,()):Option (Sum Unit RI)) (hN (λ_=>True) λr=>r.1≠0):=by
 subst n;refine bz (I:=λi s=>s=((i:Int),())) (m:=l.length) rfl (by omega) ?_ ?_;.rintro i s g rfl;have e:Ok (some (Sum.inl (ai .i64 ((i:Int),()).1 1,())):Option (Sum (Int×Unit) (Sum Unit RI))) (hN (λs=>s=(((i+1:Nat):Int),())) (hN (λ_=>True) λr=>r.1≠0)):=a4 (by show(ai .i64 (i:Int) 1,())=_;rw[bI (by omega)]);refine be (eK (by rw[aJ];show(i:Int)<_;omega)) (bb (cQ g) λx u=>?_);obtain⟨j,b,f,t⟩:=mQ l (bK .i64 x c) m;refine aa f (aN (λ_=>bb (Di z _ k h) λy _=>aN (λ_=>bu (bu (ab (by decide)))) λ_=>e) λ_=>e)
 .rintro s rfl;exact aw (cH (by rw[aJ];exact bX _)) (bu (a4 trivial))
def dL(z:Zn)(k:Nat):List Int:=bm [] z.2.2.2.2.2.1 k
structure DR (z : Zn) : Prop where
  pX : vR z
  fr : ∀ k, k ≤ 4 → LX z (dL z k) k
theorem uZ(z:Zn)(a:∀k,k<=4->(dL z k).length<=100000):Ok (tF (z,())) λr=>r.1=0->DR z:=by
 unfold tF;refine bb (JK z) λw0 t=>aN (λ_=>ab λh=>by cases h) λv=>?_;have c:=t (ma v);have w:∀r:RI,r.1≠0->r.1=0->DR z:=λr h u=>absurd u h
 have b:∀{e:Type}{d:e->Prop}{o:Option (Sum e RI)},Ok o (hN d λr=>r.1≠0)->Ok o (hN d λr=>r.1=0->DR z):=by intro e d o h;refine h.mono λy m=>?_;cases y with
  |inl x=>exact m
  |inr r=>exact w r m
 refine aK (b (HM z (dL z 0) 0 0 rfl (by decide) c (a 0 (by decide)))) λ_ f=>?_;refine aK (b (HM z (dL z 1) 1 1 rfl (by decide) c (a 1 (by decide)))) λ_ g=>?_;refine aK (b (HM z (dL z 2) 2 2 rfl (by decide) c (a 2 (by decide)))) λ_ i=>?_;refine aK (b (HM z (dL z 3) 3 3 rfl (by decide) c (a 3 (by decide)))) λ_ j=>?_;refine aK (b (HM z (dL z 4) 4 4 rfl (by decide) c (a 4 (by decide)))) λ_ l=>?_;refine aK (b (HL z (dL z 0) 0 1 rfl c f (a 0 (by decide)) (by decide) (List.replicate 256 false) aR)) λA n=>?_;refine aK (b (HL z (dL z 1) 1 2 rfl c g (a 1 (by decide)) (by decide) A.1.1 n)) λB p=>?_;refine aK (b (HL z (dL z 2) 2 4 rfl c i (a 2 (by decide)) (by decide) B.1.1 p)) λC q=>?_;refine aK (b (HL z (dL z 3) 3 8 rfl c j (a 3 (by decide)) (by decide) C.1.1 q)) λD s=>?_;refine aK (b (HL z (dL z 4) 4 16 rfl c l (a 4 (by decide)) (by decide) D.1.1 s)) λx0 z0=>?_;refine aK (b (Ms z (dL z 0) 1 1 1 rfl (by decide) (a 0 (by decide)))) λ_ _=>?_;refine aK (b (Ms z (dL z 1) 2 2 2 rfl (by decide) (a 1 (by decide)))) λ_ _=>?_;refine aK (b (Ms z (dL z 2) 3 4 3 rfl (by decide) (a 2 (by decide)))) λ_ _=>?_;refine aK (b (Ms z (dL z 3) 4 8 4 rfl (by decide) (a 3 (by decide)))) λ_ _=>?_;refine ab λ_=>⟨c,λk y0=>?_⟩;rcases k with _|_|_|_|_|k;.exact f
 .exact g
 .exact i
 .exact j
 .exact l
 .omega
abbrev tM:=List (List Int)×Unit
abbrev eI:=D du
theorem cB{α:Type}{l:List α}{i:Nat}(h:i<l.length):ay (i:Int) (ak l)=true:=eK (by rw[aJ];omega)
theorem cJ{α:Type}{l:List α}:ay (l.length:Int) (ak l)=false:=cH (by rw[aJ];exact bX _)
theorem vD(f:Int):Ju (f,())=some (decide (0<=f)&&decide (f<256),()):=by unfold Ju;show ad (decide (0<=f)) (some (decide (f<256),())) (some (false,()))=_;cases decide (0<=f)<;>rfl
theorem JX(a:eI):Ok (Ds (a,())) λr=>r.1=true->1<=a.1.length/\a.1.length<=4/\(@LE.le Int _ a.2.2.1 64/\ @LE.le Int _ 1 a.2.1/\ @LE.le Int _ a.2.1 a.2.2.1)/\1<=a.2.2.2.1.length/\a.2.2.2.1.length<=6/\∀n,n∈a.1-> @LE.le Int _ 0 n/\ @LT.lt Int _ n 4:=by
 unfold Ds;refine aN (λ_=>ab λh=>by cases h) λc=>?_;refine aN (λ_=>ab λh=>by cases h) λd=>?_;refine aN (λ_=>ab λh=>by cases h) λo=>?_;refine aN (λ_=>ab λh=>by cases h) λp=>?_;refine aN (λ_=>ab λh=>by cases h) λq=>?_;refine aN (λ_=>ab λh=>by cases h) λe=>?_;refine aN (λ_=>ab λh=>by cases h) λf=>?_;have c:=eZ c;have d:=eZ d;have e:=eZ e;have f:=eZ f;rw[aJ]at c d e f;simp only at c d e f;refine aK (P:=λ_=>∀n,n∈a.1-> @LE.le Int _ 0 n/\ @LT.lt Int _ n 4) (bz (I:=λi s=>s=((i:Int),())/\∀(j:Nat)(n:Int),j<i->a.1[j]?=some n->0<=n/\n<4) (m:=a.1.length) ⟨rfl,λj n h=>by omega⟩ (by omega) ?_ ?_) λ_ b=>ab λ_=>⟨by omega,by omega,⟨eZ o,eZ p,eZ q⟩,by omega,by omega,b⟩
 .
  rintro i s m⟨rfl,g⟩;refine be (cB m) (bb (cQ m) λx u=>?_);have l:Ok (ao (ao (some (bL (cL 0 ((i:Int),()).1),()))):Option (Sum (Int×Unit) (Sum Unit (Bool×Unit)))) (hN (λs=>s=(((i+1:Nat):Int),())/\∀(j:Nat)(n:Int),j<i+1->a.1[j]?=some n->0<=n/\n<4) (hN (λ_=>∀n,n∈a.1-> @LE.le Int _ 0 n/\ @LT.lt Int _ n 4) λr=>r.1=true->1<=a.1.length/\a.1.length<=4/\(@LE.le Int _ a.2.2.1 64/\ @LE.le Int _ 1 a.2.1/\ @LE.le Int _ a.2.1 a.2.2.1)/\1<=a.2.2.2.1.length/\a.2.2.2.1.length<=6/\∀n,n∈a.1-> @LE.le Int _ 0 n/\ @LT.lt Int _ n 4)):=by refine bu (bu (ab λh=>?_));have h:bL (cL 0 (i:Int))=true:=h;rw[lz (by omega)]at h;cases h
  refine aN (λ_=>l) λv=>aN (λ_=>l) λw=>a4 ⟨by show(ai .i64 (i:Int) 1,())=_;rw[bI (by omega)],λj n k b=>?_⟩;by_cases t:j=i;.subst t;rw[u]at b;cases b;exact⟨eZ v,qJ w⟩
  .exact g j n (by omega) b
 .rintro s⟨rfl,g⟩;refine aw cJ (bu (a4 λn b=>?_));obtain⟨j,k⟩:=bn b;exact g j n (aj.1 k).1 k
def x8(ls:List (List Int)):Prop:=∀l,l∈ls->∀f,f∈l->0<=f/\f<256
theorem JJ(ls:List (List Int))(n:Int)(y0:∀l,l∈ls->l.length<=100000):Ok (Ap ((ls,()),n,())) λr=>r.1=0->(ls.length:Int)=n/\1<=n/\n<=6/\x8 ls:=by
 unfold Ap;refine aN (λ_=>ab λh=>by cases h) λy=>?_;refine aN (λ_=>ab λh=>by cases h) λz=>?_;refine aN (λ_=>ab λh=>by cases h) λt=>?_;have y:1<=n:=eZ y;have z:n<=6:=eZ z;have t:ak ls=n:=fH t;rw[aJ]at t;refine aK (P:=λ_=>x8 ls) (bz (I:=λi s=>s.2.1=(i:Int)/\∀(j:Nat)(l:List Int),j<i->ls[j]?=some l->∀f,f∈l->0<=f/\f<256) (m:=ls.length) ⟨rfl,λj l h=>by omega⟩ (by omega) ?_ ?_) λp0 v0=>?_
 .
  rintro i⟨d,e,u⟩o⟨a,A⟩;have a:e=(i:Int):=a;subst a;refine be (cB o) (aK (P:=λ_=>∀l,ls[i]?=some l->∀f,f∈l->0<=f/\f<256) (bb (cQ o) λl w=>?_) λb v=>a4 ⟨?_,λj l c z0=>?_⟩)
  .
   have u0:=y0 l (Y w);refine aK (P:=λ_=>∀f,f∈l->0<=f/\f<256) (bz (I:=λi s=>s=((i:Int),())/\∀(j:Nat)(f:Int),j<i->l[j]?=some f->0<=f/\f<256) (m:=l.length) ⟨rfl,λj f h=>by omega⟩ (by omega) ?_ ?_) λ_ m=>a4 λr0 x0=>by rw[w]at x0;cases x0;exact m
   .
    rintro k s p⟨rfl,q⟩;refine be (cB p) (bb (cQ p) λf D=>aa (vD f) (aN (λ_=>bu (bu (bu (bu (bu (ab λh=>by cases h)))))) λv=>a4 ⟨by show(ai .i64 (k:Int) 1,())=_;rw[bI (by omega)],λj g c B=>?_⟩));by_cases C:j=k;.subst C;rw[D]at B;cases B;have:=ma v;simp only[ae,bF]at this;exact this
    .exact q j g (by omega) B
   .rintro s⟨rfl,q⟩;refine aw cJ (bu (a4 λf m=>?_));obtain⟨j,c⟩:=bn m;exact q j f (aj.1 c).1 c
  .have e:ai .i64 (i:Int) 1=((i+1:Nat):Int):=bI (by omega);rw[<-e]
  .
   by_cases C:j=i;.subst C;exact v l z0
   .exact A j l (by omega) z0
 .rintro⟨d,e,u⟩⟨a,A⟩;have a:e=((ls.length:Nat):Int):=a;subst a;refine aw cJ (bu (a4 λl t0 f m=>?_));obtain⟨j,c⟩:=bn t0;exact A j l (aj.1 c).1 c f m
 .
  refine aK (P:=λ_=>True) (bz (I:=λi s=>s.2.1=(i:Int)) (m:=ls.length) rfl (by omega) ?_ ?_) λq0 _=>aN (λ_=>ab λh=>by cases h) λ_=>ab λ_=>⟨t,y,z,v0⟩
  .
   rintro i⟨d,e,u⟩o a;have a:e=(i:Int):=a;subst a;refine be (cB o) (aK (P:=λ_=>True) (bb (cQ o) λl w=>?_) λb v=>a4 ?_)
   .
    have u0:=y0 l (Y w);refine aK (P:=λ_=>True) (bz (I:=λi s=>s.2.1=(i:Int)) (m:=l.length) rfl (by omega) ?_ ?_) λ_ _=>a4 trivial;.rintro k⟨w0,x,s0⟩p q;have q:x=(k:Int):=q;subst q;refine be (cB p) (bb (cQ p) λf D=>a4 ?_);have e:ai .i64 (k:Int) 1=((k+1:Nat):Int):=bI (by omega);rw[<-e]
    .rintro⟨w0,x,s0⟩q;have q:x=((l.length:Nat):Int):=q;subst q;exact aw cJ (bu (a4 trivial))
   .have e:ai .i64 (i:Int) 1=((i+1:Nat):Int):=bI (by omega);rw[<-e]
  .rintro⟨d,e,u⟩a;have a:e=((ls.length:Nat):Int):=a;subst a;exact aw cJ (bu (a4 trivial))
theorem Tp(a:eI)(f:Int)(n:a.2.2.2.1.length<=6)(m:∀z,z∈a.2.2.2.1->vR z):Ok (Fx (a,f,())) λr=>∀i:Nat,r.1=(i:Int)->∃z,a.2.2.2.1[i]?=some z/\zs z<=f/\f<zs z+zc z:=by
 unfold Fx;refine aK (P:=λ_=>True) (bz (I:=λi s=>s=((i:Int),())) (m:=a.2.2.2.1.length) rfl (by omega) ?_ ?_) λ_ _=>ab λi h=>by have h:(-1:Int)=(i:Int):=h;omega
 .
  rintro i s d rfl;have c:Ok (some (Sum.inl (ai .i64 ((i:Int),()).1 1,())):Option (Sum (Int×Unit) (Sum Unit RI))) (hN (λs=>s=(((i+1:Nat):Int),())) (hN (λ_=>True) λr=>∀i:Nat,r.1=(i:Int)->∃z,a.2.2.2.1[i]?=some z/\zs z<=f/\f<zs z+zc z)):=a4 (by show(ai .i64 (i:Int) 1,())=_;rw[bI (by omega)]);refine be (cB d) (bb (cQ d) λz g=>aN (λk=>aN (λb=>bu (bu (ab λj e=>?_))) λ_=>c) λ_=>c);have e:(i:Int)=(j:Int):=e;have l:i=j:=by omega
  subst l;obtain⟨o,p,q⟩:=m z (Y g);have b:f<ai .i64 (zs z) (zc z):=kS b;rw[cD (by omega) (by omega)]at b;exact⟨z,g,ou k,b⟩
 .rintro s rfl;exact aw cJ (bu (a4 trivial))
theorem Ta(z:Zn)(f:Int)(b:∀k,k<=4->(dL z k).length<=100000):Ok (Fo (z,f,())) λ_=>True:=by unfold Fo;obtain⟨d,c,a,_⟩:=mQ (dL z 0) (jD .i64 f 0) (b 0 (by decide));refine aa a (aN (λ_=>ab trivial) λ_=>?_);obtain⟨d,c,a,_⟩:=mQ (dL z 1) (jD .i64 f 1) (b 1 (by decide));refine aa a (aN (λ_=>ab trivial) λ_=>?_);obtain⟨d,c,a,_⟩:=mQ (dL z 2) (jD .i64 f 3) (b 2 (by decide));refine aa a (aN (λ_=>ab trivial) λ_=>?_);obtain⟨d,c,a,_⟩:=mQ (dL z 3) (jD .i64 f 7) (b 3 (by decide));refine aa a (aN (λ_=>ab trivial) λ_=>?_);obtain⟨d,c,a,_⟩:=mQ (dL z 4) (jD .i64 f 15) (b 4 (by decide));exact aa a (aN (λ_=>ab trivial) λ_=>ab trivial)
theorem Tn(z:Zn)(f:Int)(a:∀k,k<=4->(dL z k).length<=100000):Ok (Fw (z,f,())) λ_=>True:=by unfold Fw;exact bb (uZ z a) λ_ _=>aN (λ_=>ab trivial) λ_=>bb (Di z f 0 (by decide)) λ_ _=>aN (λ_=>ab trivial) λ_=>bb (Ta z f a) λ_ _=>ab trivial
def cw(a:eI):List Zn:=a.2.2.2.1
def cP(a:eI):List tM:=a.2.2.2.2.1
def mz(a:eI):Int:=a.2.2.1
def oa(a:eI):Int:=a.2.1
def lH(a:eI):List Int:=a.1
structure Sz (a : eI) : Prop where
  z : ∀ z, z ∈ cw a → ∀ k, k ≤ 4 → (dL z k).length ≤ 100000
  c : ∀ c, c ∈ cP a → ∀ l, l ∈ c.1 → l.length ≤ 100000
structure L5 (a : eI) : Prop where
  nn : 1 ≤ (lH a).length ∧ (lH a).length ≤ 4
  bh : mz a ≤ 64 ∧ 1 ≤ oa a ∧ oa a ≤ mz a
  nz : 1 ≤ (cw a).length ∧ (cw a).length ≤ 6
  nd : ∀ n, n ∈ lH a → 0 ≤ n ∧ n < 4
  nH : ∀ z, z ∈ cw a → DR z
  cons : ∀ (i : Nat) (z z' : Zn), (cw a)[i]? = some z → (cw a)[i + 1]? = some z' → zs z' = zs z + zc z
  nc : (cP a).length = (lH a).length
  cl : ∀ c, c ∈ cP a → c.1.length = (cw a).length ∧ ∀ l, l ∈ c.1 → (l.length : Int) ≤ mz a
  cf : ∀ c, c ∈ cP a → ∀ (j : Nat) (l : List Int), c.1[j]? = some l → ∀ f, f ∈ l → ∃ z, (cw a)[j]? = some z ∧ zs z ≤ f ∧ f < zs z + zc z
theorem JU(a:eI)(l0:Sz a):Ok (u4 (a,())) λr=>r.1=0->L5 a:=by
 unfold u4;refine bb (JX a) λx0 n9=>aN (λ_=>ab λh=>by cases h) λm9=>?_;obtain⟨h9,j0,b0,g9,a0,f9⟩:=n9 (ma m9);have B:∀{r:RI},r.1≠0->r.1=0->L5 a:=λh D=>absurd D h;refine aK (P:=λ_=>(∀z,z∈cw a->DR z)/\∀(i:Nat)(z C:Zn),(cw a)[i]?=some z->(cw a)[i+1]?=some C->zs C=zs z+zc z) (bz (I:=λi s=>s.2.1=(i:Int)/\(∀(j:Nat)(z:Zn),j<i->(cw a)[j]?=some z->DR z)/\(∀(j:Nat)(z C:Zn),j+1<i->(cw a)[j]?=some z->(cw a)[j+1]?=some C->zs C=zs z+zc z)/\∀(j:Nat)(z:Zn),j+1=i->(cw a)[j]?=some z->s.1=zs z+zc z) (m:=(cw a).length) ⟨rfl,λj z h=>by omega,λj z C h=>by omega,λj z h=>by omega⟩ (by show(cw a).length<_;unfold cw;omega) ?_ ?_) λ_ y=>?_
 .
  rintro i⟨e,d,u⟩x⟨o,v,w,u0⟩;have o:d=(i:Int):=o;subst o;refine be (cB x) (bb (cQ x) λz n=>?_);have j9:z∈cw a:=Y n;refine bb (uZ z (l0.z z j9)) λr o0=>aN (λh=>bu (bu (ab (B (jh h))))) λh=>?_;have t9:=o0 (fH h);refine aN (λ_=>bu (bu (ab (B (r:=(10,())) (by decide))))) λv0=>?_;have v0:zs z=e:=fH v0;obtain⟨r1,r2,r3⟩:=t9.pX;have l9:ai .i64 e (zc z)=zs z+zc z:=by rw[<-v0,cD (by omega) (by omega)]
  refine a4 ⟨?_,λj h0 k A=>?_,λj i0 h0 k n0 D=>?_,λj h0 k A=>?_⟩;.have e:ai .i64 (i:Int) 1=((i+1:Nat):Int):=bI (by have:i<a.2.2.2.1.length:=x;omega);rw[<-e]
  .
   by_cases p:j=i;.subst p;have n:(cw a)[j]?=some z:=n;rw[n]at A;cases A;exact t9
   .exact v j h0 (by omega) A
  .
   by_cases p:j+1=i;.have n:(cw a)[i]?=some z:=n;rw[<-p,D]at n;cases n;have:=u0 j i0 p n0;have this:e=zs i0+zc i0:=this;rw[v0,this]
   .exact w j i0 h0 (by omega) n0 D
  .
   have:j=i:=by omega
   subst this;have n:(cw a)[j]?=some z:=n;rw[n]at A;cases A;exact l9
 .rintro⟨e,d,u⟩⟨o,v,w,u0⟩;have o:d=(((cw a).length:Nat):Int):=o;subst o;refine aw cJ (bu (a4 ⟨λz y=>?_,λj z C n0 D=>w j z C (aj.1 D).1 n0 D⟩));obtain⟨j,k⟩:=bn y;exact v j z (aj.1 k).1 k
 obtain⟨u9,A⟩:=y;refine aN (λ_=>ab (B (r:=(3,())) (by decide))) λx0=>?_;have x0:ak (cP a)=ak (lH a):=fH x0;rw[aJ,aJ]at x0;have x0:(cP a).length=(lH a).length:=by omega
 have c9:(cP a).length<=4:=by rw[x0];exact j0
 have b9:(cw a).length<=6:=a0;refine aK (P:=λ_=>∀c,c∈cP a->c.1.length=(cw a).length/\∀l,l∈c.1->(l.length:Int)<=mz a) (bz (I:=λi s=>s=((i:Int),())/\∀(j:Nat)(c:tM),j<i->(cP a)[j]?=some c->c.1.length=(cw a).length/\∀l,l∈c.1->(l.length:Int)<=mz a) (m:=(cP a).length) ⟨rfl,λj c h=>by omega⟩ (by omega) ?_ ?_) λ_ x9=>?_
 .
  rintro i s x⟨rfl,q⟩;refine be (cB x) (aK (P:=λ_=>∀c,(cP a)[i]?=some c->c.1.length=(cw a).length/\∀l,l∈c.1->(l.length:Int)<=mz a) (bb (cQ x) λc n=>?_) λb z0=>a4 ⟨?_,λj c k r0=>?_⟩)
  .
   have n:(cP a)[i]?=some c:=n;have p9:=l0.c c (Y n);refine bb (JJ c.1 (ak (cw a)) p9) λr o0=>aN (λh=>bu (bu (bu (ab (B (jh h)))))) λh=>?_;obtain⟨y9,w2,w3,w4⟩:=o0 (fH h);rw[aJ]at y9;have y9:c.1.length=(cw a).length:=by omega
   refine aK (P:=λ_=>∀l,l∈c.1->(l.length:Int)<=mz a) (bz (I:=λi s=>s=((i:Int),())/\∀(j:Nat)(l:List Int),j<i->c.1[j]?=some l->(l.length:Int)<=mz a) (m:=c.1.length) ⟨rfl,λj l h=>by omega⟩ (by omega) ?_ ?_) λ_ p0=>a4 λr9 t0=>by rw[n]at t0;cases t0;exact⟨y9,p0⟩
   .
    rintro t s s0⟨rfl,v⟩;refine be (cB s0) (bb (cQ s0) λl m0=>aN (λ_=>bu (bu (bu (bu (bu (ab (B (r:=(9,())) (by decide)))))))) λz0=>a4 ⟨by show(ai .i64 (t:Int) 1,())=_;rw[bI (by omega)],λj i9 k c0=>?_⟩);by_cases p:j=t;.subst p;rw[m0]at c0;cases c0;have:=eZ z0;rw[aJ]at this;exact this
    .exact v j i9 (by omega) c0
   .rintro s⟨rfl,v⟩;refine aw cJ (bu (a4 λl p0=>?_));obtain⟨j,k⟩:=bn p0;exact v j l (aj.1 k).1 k
  .show(ai .i64 (i:Int) 1,())=_;rw[bI (by omega)]
  .
   by_cases p:j=i;.subst p;exact z0 c r0
   .exact q j c (by omega) r0
 .rintro s⟨rfl,q⟩;refine aw cJ (bu (a4 λc w0=>?_));obtain⟨j,k⟩:=bn w0;exact q j c (aj.1 k).1 k
 refine aK (P:=λ_=>∀c,c∈cP a->∀(j:Nat)(l:List Int),c.1[j]?=some l->∀f,f∈l->∃z,(cw a)[j]?=some z/\zs z<=f/\f<zs z+zc z) (bz (I:=λi s=>s.2.1=(i:Int)/\∀(s9:Nat)(c:tM),s9<i->(cP a)[s9]?=some c->∀(j:Nat)(l:List Int),c.1[j]?=some l->∀f,f∈l->∃z,(cw a)[j]?=some z/\zs z<=f/\f<zs z+zc z) (m:=(cP a).length) ⟨rfl,λj c h=>by omega⟩ (by omega) ?_ ?_) λ_ q9=>ab λ_=>⟨⟨h9,j0⟩,b0,⟨g9,a0⟩,f9,u9,A,x0,x9,q9⟩
 .
  rintro i⟨m,d,u⟩x⟨o,v⟩;have o:d=(i:Int):=o;subst o;refine be (cB x) (aK (P:=λ_=>∀c,(cP a)[i]?=some c->∀(j:Nat)(l:List Int),c.1[j]?=some l->∀f,f∈l->∃z,(cw a)[j]?=some z/\zs z<=f/\f<zs z+zc z) (bb (cQ x) λc n=>?_) λb z0=>a4 ⟨?_,λj c k r0=>?_⟩)
  .
   have n:(cP a)[i]?=some c:=n;have w0:c∈cP a:=Y n;have a9:=(x9 c w0).1;refine aK (P:=λ_=>∀(j:Nat)(l:List Int),c.1[j]?=some l->∀f,f∈l->∃z,(cw a)[j]?=some z/\zs z<=f/\f<zs z+zc z) (bz (I:=λi s=>s.2.1=(i:Int)/\∀(j:Nat)(l:List Int),j<i->c.1[j]?=some l->∀f,f∈l->∃z,(cw a)[j]?=some z/\zs z<=f/\f<zs z+zc z) (m:=c.1.length) ⟨rfl,λj l h=>by omega⟩ (by omega) ?_ ?_) λ_ p0=>a4 λr9 t0=>by rw[n]at t0;cases t0;exact p0
   .
    rintro t⟨j0,g0,e9⟩s0⟨w,u0⟩;have w:g0=(t:Int):=w;subst w;refine be (cB s0) (aK (P:=λ_=>∀l,c.1[t]?=some l->∀f,f∈l->∃z,(cw a)[t]?=some z/\zs z<=f/\f<zs z+zc z) (bb (cQ s0) λl m0=>?_) λb z0=>a4 ⟨?_,λj l k q0=>?_⟩)
    .
     have hll:=l0.c c w0 l (Y m0);refine aK (P:=λ_=>∀f,f∈l->∃z,(cw a)[t]?=some z/\zs z<=f/\f<zs z+zc z) (bz (I:=λi s=>s.2.1=(i:Int)/\∀(j:Nat)(f:Int),j<i->l[j]?=some f->∃z,(cw a)[t]?=some z/\zs z<=f/\f<zs z+zc z) (m:=l.length) ⟨rfl,λj f h=>by omega⟩ (by omega) ?_ ?_) λ_ e0=>a4 λl' v9=>by rw[m0]at v9;cases v9;exact e0
     .
      rintro k0⟨b0,f0,d9⟩w9⟨y0,z9⟩;have y0:f0=(k0:Int):=y0;subst y0;refine be (cB w9) (bb (cQ w9) λf o9=>?_);refine bb (Tp a f a0 λz y=>(u9 z y).pX) λr o0=>aN (λ_=>bu (bu (bu (bu (bu (bu (bu (bu (ab (B (r:=(2,())) (by decide))))))))))) λv0=>?_;obtain⟨z,y,k9⟩:=o0 t (fH v0);refine aN (λ_=>bu (bu (bu (bu (bu (bu (bu (bu (ab (B (r:=(7,())) (by decide))))))))))) λ_=>?_;refine aa (x:=z) y (bb (Tn z f (l0.z z (Y y))) λ_ _=>aN (λ_=>bu (bu (bu (bu (bu (bu (bu (bu (ab (B (r:=(7,())) (by decide))))))))))) λ_=>a4 ⟨?_,λj g k d0=>?_⟩);.have e:ai .i64 (k0:Int) 1=((k0+1:Nat):Int):=bI (by omega);rw[<-e]
      .
       by_cases p:j=k0;.subst p;rw[o9]at d0;cases d0;exact⟨z,y,k9⟩
       .exact z9 j g (by omega) d0
     .rintro⟨b0,f0,d9⟩⟨y0,z9⟩;have y0:f0=((l.length:Nat):Int):=y0;subst y0;refine aw cJ (bu (a4 λf e0=>?_));obtain⟨j,k⟩:=bn e0;exact z9 j f (aj.1 k).1 k
    .have e:ai .i64 (t:Int) 1=((t+1:Nat):Int):=bI (by omega);rw[<-e]
    .
     by_cases p:j=t;.subst p;exact z0 l q0
     .exact u0 j l (by omega) q0
   .rintro⟨j0,g0,e9⟩⟨w,u0⟩;have w:g0=((c.1.length:Nat):Int):=w;subst w;exact aw cJ (bu (a4 λj l q0=>u0 j l (aj.1 q0).1 q0))
  .have e:ai .i64 (i:Int) 1=((i+1:Nat):Int):=bI (by omega);rw[<-e]
  .
   by_cases p:j=i;.subst p;exact z0 c r0
   .exact v j c (by omega) r0
 .rintro⟨m,d,u⟩⟨o,v⟩;have o:d=(((cP a).length:Nat):Int):=o;subst o;refine aw cJ (bu (a4 λc w0=>?_));obtain⟨j,k⟩:=bn w0;exact v j c (aj.1 k).1 k
structure PI (L : Nat → List Int) (g : Int) : Prop where
  so : ∀ k, k ≤ 4 → iW (L k)
  al : ∀ k, k ≤ 4 → ∀ x, x ∈ L k → 0 ≤ x ∧ x % 2 ^ k = 0 ∧ x + 2 ^ k ≤ g
  dj : ∀ j k, j ≤ 4 → k ≤ 4 → ∀ x y, x ∈ L j → y ∈ L k → (j = k → x ≠ y) → x + 2 ^ j ≤ y ∨ y + 2 ^ k ≤ x
def iy(L:Nat->List Int)(k:Nat)(l:List Int):Nat->List Int:=λj=>if j=k then l else L j
theorem nI{L:Nat->List Int}{k:Nat}{l:List Int}:iy L k l k=l:=aE rfl
theorem mW{L:Nat->List Int}{k j:Nat}{l:List Int}(h:j≠k):iy L k l j=L j:=aG h
theorem pw(k:Nat):(1:Int)<=2^k:=by have:(0:Int)<2^k:=Int.pow_pos (by decide);omega
theorem xv{L:Nat->List Int}{g:Int}{k:Nat}(h:PI L g)(v:0<=g)(hg:g%2^k=0)(B:k<=4):PI (iy L k (L k++[g])) (g+2^k):=by
 have C:=pw k
 have l:∀j x,x∈iy L k (L k++[g]) j->x∈L j\/j=k/\x=g:=by
  intro j x d;by_cases e:j=k
  .
   subst e;rw[nI]at d;rcases bD.1 d with d|d;.exact .inl d
   .exact .inr ⟨rfl,by simpa using d⟩
  .rw[mW e]at d;exact .inl d
 refine⟨λj e=>?_,λj e x d=>?_,λi j q e x y d f s=>?_⟩
 .
  by_cases r:j=k
  .
   subst r;rw[nI];intro a b x y w d f;have z:=(aj.1 f).1;rw[az,eM]at z;by_cases A:b<(L j).length;.rw[bJ (by omega)]at d;rw[bJ A]at f;exact h.so j e a b x y w d f
   .rw[bJ (by omega)]at d;rw[bB (by omega),show b-(L j).length=0 by omega]at f;cases f;have:=(h.al j e x (Y d)).2.2;omega
  .rw[mW r];exact h.so j e
 .
  rcases l j x d with d|⟨rfl,rfl⟩;.obtain⟨a,b,c⟩:=h.al j e x d;exact⟨a,b,by omega⟩
  .exact⟨v,hg,bX _⟩
 .
  rcases l i x d with t|⟨u,o⟩
  .
   rcases l j y f with n|⟨p,m⟩;.exact h.dj i j q e x y t n s
   .rw[m];exact .inl (h.al i q x t).2.2
  .
   rcases l j y f with n|⟨p,m⟩;.rw[o];exact .inr (h.al j e y n).2.2
   .exact absurd (o.trans m.symm) (s (u.trans p.symm))
theorem M9{l:List Int}{i:Nat}{b x:Int}(d:iW l)(c:l[i]?=some b)(e:x∈l.eraseIdx i):x∈l/\x≠b:=by
 obtain⟨j,a⟩:=bn e;rw[iZ]at a;split at a;.refine⟨Y a,?_⟩;rintro rfl;have:=d j i x x (by omega) a c;omega
 .refine⟨Y a,?_⟩;rintro rfl;have:=d i (j+1) x x (by omega) c a;omega
theorem Lb{l:List Int}{i:Nat}(e:iW l):iW (l.eraseIdx i):=by
 intro a b x y f d c;rw[iZ]at d c;split at d
 .
  split at c;.exact e a b x y f d c
  .exact e a (b+1) x y (by omega) d c
 .
  split at c;.omega
  .exact e (a+1) (b+1) x y (by omega) d c
theorem Um{L:Nat->List Int}{g:Int}{k i:Nat}(h:PI L g)(n:k<=4)(f:(L k)[i]?=some (g-2^k)):PI (iy L k ((L k).eraseIdx i)) (g-2^k):=by
 have v:=pw k;have r:=Y f
 have l:∀j x,x∈iy L k ((L k).eraseIdx i) j->x∈L j/\(j=k->x≠g-2^k):=by
  intro j x e;by_cases d:j=k;.subst d;rw[nI]at e;obtain⟨a,b⟩:=M9 (h.so j n) f e;exact⟨a,λ_=>b⟩
  .rw[mW d]at e;exact⟨e,λh=>absurd h d⟩
 refine⟨λj d=>?_,λj d x e=>?_,λa b p f x y e t s=>h.dj a b p f x y (l a x e).1 (l b y t).1 s⟩
 .
  by_cases m:j=k;.subst m;rw[nI];exact Lb (h.so j d)
  .rw[mW m];exact h.so j d
 .
  obtain⟨o,u⟩:=l j x e;obtain⟨a,b,c⟩:=h.al j d x o;refine⟨a,b,?_⟩;have w:=pw j;rcases h.dj j k d n x (g-2^k) o r u with q|q;.exact q
  .omega
structure PJ (L : Nat → List Int) (st g : Int) : Prop where
  lo : ∀ k, k ≤ 4 → ∀ x, x ∈ L k → st ≤ x
  cb : ∀ (k : Nat) (x : Int), k < 4 → x % 2 ^ (k + 1) = 0 → x ∈ L k → ¬ x + 2 ^ k ∈ L k
  cv : ∀ y : Int, st ≤ y → y < g → ∃ (j : Nat) (x : Int), j ≤ 4 ∧ x ∈ L j ∧ x ≤ y ∧ y < x + 2 ^ j
theorem UF{l:List Int}{i:Nat}{b x:Int}(c:l[i]?=some b)(g:x∈l)(f:x≠b):x∈l.eraseIdx i:=by
 obtain⟨j,a⟩:=bn g;have d:j≠i:=λe=>by subst e;rw[a]at c;cases c;exact f rfl
 rcases mC d with h|h;.refine Y (i:=j) ?_;rw[iZ,aE h];exact a
 .refine Y (i:=j-1) ?_;rw[iZ,aG (by omega),show j-1+1=j by omega];exact a
theorem xu{L:Nat->List Int}{g st:Int}{k:Nat}(h:PJ L st g)(hp:PI L g)(r:st<=g)(l:k<=4)(q:k<4->g%2^(k+1)≠0->¬g-2^k∈L k):PJ (iy L k (L k++[g])) st (g+2^k):=by
 have f:∀j x,x∈iy L k (L k++[g]) j->x∈L j\/j=k/\x=g:=by
  intro j x a;by_cases b:j=k
  .
   subst b;rw[nI]at a;rcases bD.1 a with a|a;.exact .inl a
   .exact .inr ⟨rfl,by simpa using a⟩
  .rw[mW b]at a;exact .inl a
 refine⟨λj b x a=>?_,λj x b d a c=>?_,λy n o=>?_⟩
 .
  rcases f j x a with a|⟨_,rfl⟩;.exact h.lo j b x a
  .exact r
 .
  have t:=pw j;rcases f j x a with m|⟨rfl,rfl⟩
  .
   rcases f j _ c with s|⟨rfl,e⟩;.exact h.cb j x b d m s
   .
    refine q b ?_ (by rw[<-e,Int.add_sub_cancel];exact m);rw[<-e];rcases show j=0\/j=1\/j=2\/j=3 by omega with rfl|rfl|rfl|rfl;.have:x%2=0:=d;show¬(x+1)%2=0;omega
    .have:x%4=0:=d;show¬(x+2)%4=0;omega
    .have:x%8=0:=d;show¬(x+4)%8=0;omega
    .have:x%16=0:=d;show¬(x+8)%16=0;omega
  .
   rcases f j _ c with c|⟨_,e⟩;.have:=(hp.al j l _ c).2.2;omega
   .omega
 .
  by_cases c:y<g
  .
   obtain⟨j,x,b,a,p⟩:=h.cv y n c;refine⟨j,x,b,?_,p⟩;by_cases i:j=k;.subst i;rw[nI];exact dX _ a
   .rw[mW i];exact a
  .exact⟨k,g,l,by rw[nI];exact cR _ (kc _),by omega,o⟩
theorem Ul{L:Nat->List Int}{st g:Int}{k i:Nat}(h:PJ L st g)(m:(L k)[i]?=some (g-2^k)):PJ (iy L k ((L k).eraseIdx i)) st (g-2^k):=by
 have c:∀j x,x∈iy L k ((L k).eraseIdx i) j->x∈L j:=by
  intro j x a;by_cases b:j=k;.subst b;rw[nI]at a;exact List.mem_of_mem_eraseIdx a
  .rw[mW b]at a;exact a
 exact⟨λj b x a=>h.lo j b x (c j x a),λj x b e a n=>h.cb j x b e (c j x a) (c j _ n),λy f o=>by
  have:=pw k;obtain⟨j,x,b,a,l⟩:=h.cv y f (by omega);refine⟨j,x,b,?_,l⟩;by_cases d:j=k;.subst d;rw[nI];exact UF m a (by omega)
  .rw[mW d];exact a⟩
theorem ZK:(List.range 257).all (λg=>(List.range 4).all λk=>decide (bK .i64 (Int.ofNat g) (2^k)=if g/2^k%2=0 then Int.ofNat g+2^k else Int.ofNat g-2^k))=true:=by kernel_rfl
theorem L7{g:Int}(b:0<=g)(h1:g<=256){k:Nat}(c:k<=3):bK .i64 g (2^k)=if g/2^k%2=0 then g+2^k else g-2^k:=by
 obtain⟨n,rfl⟩:=rD b;have h:=ZK;rw[bR]at h;have h:=h n (eJ.2 (by omega));rw[bR]at h;have h:=bA (h k (eJ.2 (by omega)));refine Eq.trans h ?_;have e:(n:Int)/2^k%2=((n/2^k%2:Nat):Int):=by rw[Int.natCast_emod,Int.natCast_ediv,sD];rfl
 rw[e];by_cases a:n/2^k%2=0;.rw[aE a,aE (by rw[a];rfl)];rfl
 .rw[aG a,aG (by omega)];rfl
theorem BK{β:Type}{Q:β->Prop}{l:List Int}{g:Int}{R:Option β}(k:iW l)(j:∀x,x∈l->x<g)(m:l.length<=1000)(f:Ok R Q):Ok (am (gC (l,g,())) λd=>aA (dJ d.1 (ak l) (ak l)) (ad (a6 d.1 (ak l)) (aA (aO l (g::[]) 8) R) none)) Q:=by
 obtain⟨i,b,e,a⟩:=mQ l g (by omega);refine aa e ?_
 have h:i=l.length:=by
  by_cases c:i<l.length;.have:=a.hi k i l[i] (ar _) (G c);have:=j l[i] (ew c);omega
  .have:=a.le;omega
 subst h;show Ok (aA (dJ ((l.length:Nat):Int) (ak l) (ak l)) _) Q;refine aq ?_ (be (av rfl) (aq (ce (by simp;omega) (by decide)) f));unfold dJ;rw[aJ,av (show(0:Int)<=(l.length:Int)by omega),av (bX _)];rfl
theorem Dk(z:Zn)(f:Int)(k:Nat)(e:k≤4)(g:vR z)(j:0≤f):∃b,lg (z,f,(k:Int),())=some (b,())∧(b=true↔In z f k):=by
 obtain⟨m,n,o⟩:=g;have l:(1:Int)≤2^k∧(2:Int)^k≤16:=by rcases k with _|_|_|_|_|k<;>first|exact⟨by decide,by decide⟩|omega
 have i:Ok (lg (z,f,(k:Int),())) fun r=>r.1=true↔In z f k:=by
  unfold lg;refine aq (av (show(0:Int)≤(k:Int)by omega)) (aN (fun c=>aq ?_ (aN (fun a=>aN (fun d=>ab ?_) fun d=>ab ?_) fun a=>ab ?_)) fun c=>ab ?_);·show bH (fB .i64 1 (k:Int)) 0=true;rw[t4 k e,gM,aX (by omega)];rfl
  ·have c:zs z≤f:=ou c;have a:lM .i64 f (fB .i64 1 (k:Int))=0:=lq a;have d:fB .i64 1 (k:Int)≤zc z:=ou d;rw[t4 k e]at a d;show cL f (bo .i64 (ai .i64 (zs z) (zc z)) (fB .i64 1 (k:Int)))=true↔_;rw[t4 k e,cD (by omega) (by omega),fk (by omega) (by omega),jN,bF];exact⟨fun h=>⟨c,by omega,a⟩,fun h=>by have:=h.2.1;omega⟩
  ·have c:zs z≤f:=ou c;have d:zc z<fB .i64 1 (k:Int):=qJ d;rw[t4 k e]at d;exact⟨fun h=>(by cases h),fun h=>by have:=h.2.1;omega⟩
  ·have a:¬lM .i64 f (fB .i64 1 (k:Int))=0:=mZ a;rw[t4 k e]at a;exact⟨fun h=>(by cases h),fun h=>absurd h.2.2 a⟩
  ·have c:f<zs z:=qJ c;exact⟨fun h=>(by cases h),fun h=>by have:=h.1;omega⟩
 obtain⟨⟨b,u⟩,c,a⟩:=i;exact⟨b,c,a⟩
theorem UG{β:Type}{Q:β→Prop}{L:Nat→List Int}{k:Nat}{z:Zn}{g c q:Int}{R:Option β}{B:D kk→Option β}(k0:k≤3)(v:c=2^k)(e0:q=((k+1:Nat):Int))(h:PI L g)(q0:0≤g)(h1:g≤256)(hg:g%2^k=0)(j0:(L k).length≤1000){st:Int}(z0:PJ L st g)(v9:zs z=st)(d0:vR z)(w9:g+2^k≤zs z+zc z)(s:(k<4→g%2^(k+1)≠0→¬g-2^k∈L k)→Ok R Q)(r:∀(i:Nat)(u:Bool×Unit),(L k)[i]?=some (g-2^k)→bN g (bK .i64 g c)=g-2^k→0≤g-2^k→(g-2^k)%2^(k+1)=0→PI (iy L k (ig (L k) (i:Int))) (g-2^k)→PJ (iy L k (ig (L k) (i:Int))) st (g-2^k)→st≤g-2^k→Ok (B ((i:Int),u)) Q):Ok (am (gC (L k,bK .i64 g c,())) fun o=>ad (bL o.2.1) (am (gC (L k,g,())) fun p=>aA (dJ p.1 (ak (L k)) (ak (L k))) (ad (a6 p.1 (ak (L k))) (aA (aO (L k) (g::[]) 8) R) none)) (am (lg (z,bN g (bK .i64 g c),q,())) fun z9=>ad (bL z9.1) (am (gC (L k,g,())) fun p=>aA (dJ p.1 (ak (L k)) (ak (L k))) (ad (a6 p.1 (ak (L k))) (aA (aO (L k) (g::[]) 8) R) none)) (aA (a5 (L k) o.1) (aA (a6 (ai .i64 o.1 1) (ai .i64 o.1 1)) (aA (aO [] (L k) 8) (B o)))))) Q:=by
 subst v;subst e0;have y9:=pw k;have v0:=fun s=>BK (Q:=Q) (R:=R) (l:=L k) (g:=g) (h.so k (by omega)) (fun x a=>by have:=(h.al k (by omega) x a).2.2;omega) j0 s;obtain⟨i,b,t0,f⟩:=mQ (L k) (bK .i64 g (2^k)) (by omega);have a:=L7 q0 h1 k0;have y0:k=0∨k=1∨k=2∨k=3:=by omega
 have f0:g/2^k%2=0↔g%2^(k+1)=0:=by
  rcases y0 with rfl|rfl|rfl|rfl;·show g/1%2=0↔g%2=0;omega
  ·show g/2%2=0↔g%4=0;have:g%2=0:=hg;omega
  ·show g/4%2=0↔g%8=0;have:g%4=0:=hg;omega
  ·show g/8%2=0↔g%16=0;have:g%8=0:=hg;omega
 refine aa t0 (aN (fun t=>v0 (s fun _ g0 h0=>?_)) fun t=>?_)
 ·
  have p0:b=false:=by have:bL b=true:=t;cases b with
   |false=>rfl
   |true=>cases this
  rw[aG fun e=>g0 (f0.1 e)]at a;rw[a]at f;obtain⟨j,m0,l0⟩:=tO.1 h0;have w:(L k)[j]?=some (g-2^k):=by rw[G m0,l0]
  have y:=h.so k (by omega);rcases nl j i with m|m|m;·have:=f.lo y j _ m w;omega
  ·subst m;exact f.aag p0 w
  ·
   have C:i<(L k).length:=by omega
   have:=f.hi y i (L k)[i] (ar _) (G C);have:=y i j _ _ m (G C) w;omega
 have d:=f.YF (ma t);have l:=h.al k (by omega) _ (Y d);have w0:¬g/2^k%2=0:=by intro v;rw[aE v]at a;rw[a]at l;omega
 rw[aG w0]at a;rw[a]at d l;have x0:bN g (bK .i64 g (2^k))=g-2^k:=by rw[a];show(bif decide (g≤g-2^k)then g else g-2^k)=_;rw[aX (by omega)];rfl
 have n0:=(aj.1 d).1;have c0:a5 (L k) (i:Int)=true:=eF n0;have b0:∀n:Int,a6 n n=true:=fun n=>av rfl;have a0:aO [] (L k) 8=true:=ce (by simp;omega) (by decide);have A:(g-2^k)%2^(k+1)=0:=by rcases y0 with rfl|rfl|rfl|rfl<;>simp only[rC,Nat.reduceAdd,Int.reducePow]at hg w0⊢<;>omega
 have i0:=z0.lo k (by omega) _ (Y d);obtain⟨u0,s0,r0⟩:=Dk z (g-2^k) (k+1) (by omega) d0 l.1;have x9:(2:Int)^(k+1)=2^k+2^k:=by rw[mV];omega
 have o0:u0=true:=r0.2 ⟨by omega,by omega,by rw[fZ l.1];exact A⟩;subst o0;rw[x0];refine aa s0 (aw rfl ?_);have r:=r i (b,()) d x0 l.1;refine aq c0 (aq (b0 _) (aq a0 (r A (Um h (by omega) d) (Ul z0 d) i0)))
def fv(a b c d e:List Int):Nat->List Int|0=>a|1=>b|2=>c|3=>d|4=>e|_=>[]
theorem Qh{a b c d e l:List Int}:iy (fv a b c d e) 0 l=fv l b c d e:=by funext j;rcases j with _|_|_|_|_|j<;>rfl
theorem Md{a b c d e l:List Int}:iy (fv a b c d e) 1 l=fv a l c d e:=by funext j;rcases j with _|_|_|_|_|j<;>rfl
theorem Mc{a b c d e l:List Int}:iy (fv a b c d e) 2 l=fv a b l d e:=by funext j;rcases j with _|_|_|_|_|j<;>rfl
theorem Mb{a b c d e l:List Int}:iy (fv a b c d e) 3 l=fv a b c l e:=by funext j;rcases j with _|_|_|_|_|j<;>rfl
theorem Qg{a b c d e l:List Int}:iy (fv a b c d e) 4 l=fv a b c d l:=by funext j;rcases j with _|_|_|_|_|j<;>rfl
def mr(L:Nat->List Int)(n:Nat):Prop:=∀k,k<=4->(L k).length<=n
theorem mr.mono{L:Nat->List Int}{n m:Nat}(h:mr L n)(b:n<=m):mr L m:=λk a=>aU (h k a) b
theorem uq{L:Nat->List Int}{n k:Nat}{g:Int}(h:mr L n)(c:k<=4):mr (iy L k (L k++[g])) (n+1):=by
 intro j a;by_cases b:j=k;.subst b;rw[nI,az,eM];have:=h j a;omega
 .rw[mW b];have:=h j a;omega
theorem xJ{L:Nat->List Int}{n k:Nat}{i:Int}(h:mr L n)(c:k<=4):mr (iy L k (ig (L k) i)) n:=by
 intro j a;by_cases b:j=k;.subst b;rw[nI];have:=h j a;unfold ig;have:=List.length_eraseIdx_le (L j) i.toNat;omega
 .rw[mW b];exact h j a
abbrev Z5:=Int×Int×Int×Int×Int×List Int×List Int×List Int×List Int×List Int×Unit
def NI(nd a b st ct:Int)(i:Nat)(s:Z5×Int×Unit):Prop:=s.2.1=st+(i:Int)/\s.1.2.2.1=st/\s.1.2.2.2.1=ct/\PI (fv s.1.2.2.2.2.2.1 s.1.2.2.2.2.2.2.1 s.1.2.2.2.2.2.2.2.1 s.1.2.2.2.2.2.2.2.2.1 s.1.2.2.2.2.2.2.2.2.2.1) (st+(i:Int))/\mr (fv s.1.2.2.2.2.2.1 s.1.2.2.2.2.2.2.1 s.1.2.2.2.2.2.2.2.1 s.1.2.2.2.2.2.2.2.2.1 s.1.2.2.2.2.2.2.2.2.2.1) i/\PJ (fv s.1.2.2.2.2.2.1 s.1.2.2.2.2.2.2.1 s.1.2.2.2.2.2.2.2.1 s.1.2.2.2.2.2.2.2.2.1 s.1.2.2.2.2.2.2.2.2.2.1) st (st+(i:Int))/\s.1.1=nd/\s.1.2.1=a/\s.1.2.2.2.2.1=b
def P2(L:Nat->List Int):Prop:=∀(k:Nat)(x:Int),k<4->x%2^(k+1)=0->x∈L k->¬x+2^k∈L k
theorem P2.congr{L M:Nat->List Int}(h:P2 L)(e:∀k,k<=4->M k=L k):P2 M:=λk x a=>by rw[e k (by omega)];exact h k x a
def wZ(L:Nat->List Int):Prop:=(∀k,k<=4->iW (L k))/\∀j k,j<=4->k<=4->∀x y,x∈L j->y∈L k->(j=k->x≠y)->x+2^j<=y\/y+2^k<=x
theorem wZ.congr{L M:Nat->List Int}(h:wZ L)(e:∀k,k<=4->M k=L k):wZ M:=⟨λk a=>by rw[e k a];exact h.1 k a,λj k b a x y c d=>by rw[e j b]at c;rw[e k a]at d;exact h.2 j k b a x y c d⟩
theorem wZ.nil{L:Nat->List Int}(h:∀k,k<=4->L k=[]):wZ L:=⟨λk b=>(by rw[h k b];intro i j x y _ a;cases a),λj k c b x y a=>by rw[h j c]at a;cases a⟩
def Xr(n k st ct a:Int)(r:D (.ah eH iU)):Prop:=(rf ((n,k,st,ct,a,[]::[]::[]::[]::[]::[],()),())=some (true,())->r.2.1=0)/\(r.2.1=0->zs r.1=st/\zc r.1=ct/\mr (dL r.1) 256/\wZ (dL r.1)/\P2 (dL r.1)/\rf (r.1,())=some (true,())/\(∀j,j<=4->∀x,x∈dL r.1 j->In r.1 x j)/\(r.1.1=n/\r.1.2.1=k/\r.1.2.2.2.2.1=a)/\(∃l:List (List Int),l.length=5/\r.1.2.2.2.2.2.1=l)/\∀y:Int,st<=y->y<st+ct->∃(j:Nat)(x:Int),j<=4/\x∈dL r.1 j/\x<=y/\y<x+2^j)
theorem JV(n k st ct mn:Int):Ok (JW (n,k,st,ct,mn,())) (Xr n k st ct mn):=by
 unfold JW;refine qb (JK _) λx0 e188 h0=>aN (λhb=>ab ⟨λe=>?_,λh=>by cases h⟩) λhn=>?_;.rw[e]at e188;rw[<-eu e188]at hb;cases hb
 have e188:rf (((n,k,st,ct,mn,[]::[]::[]::[]::[]::[],()):Zn),())=some (true,()):=by obtain⟨b,u⟩:=x0;have hb:b=true:=ma hn;subst hb;exact e188
 obtain⟨r1,r2,r3⟩:=h0 (ma hn);have r1:0<=st:=r1;have r2:1<=ct:=r2;have r3:st+ct<=256:=r3;have hsum:ai .i64 st ct=st+ct:=cD (by omega) (by omega);refine aK (P:=λs=>∃s',NI n k mn st ct ct.toNat s'/\s=(s'.1,())) (bz (I:=NI n k mn st ct) (m:=ct.toNat) ⟨by show st=st+((0:Nat):Int);omega,rfl,rfl,?_,?_,?_,rfl,rfl,rfl⟩ (by omega) ?_ ?_) ?_
 .
  refine⟨λk hk i j x y _ hx=>?_,λk hk x hx=>?_,λa b ha hb x y hx=>?_⟩;.rcases k with _|_|_|_|_|k<;>first|(exact absurd hx (by simp[fv]))|omega
  .rcases k with _|_|_|_|_|k<;>first|(exact absurd hx (by simp[fv]))|omega
  .rcases a with _|_|_|_|_|a<;>first|(exact absurd hx (by simp[fv]))|omega
 .intro k hk;rcases k with _|_|_|_|_|k<;>first|exact ar _|omega
 .
  refine⟨λj hj x hx=>?_,λj x hj _ hx=>?_,λy h1 h2=>by have h2:y<st+((0:Nat):Int):=h2;omega⟩;.rcases j with _|_|_|_|_|j<;>first|(exact absurd hx (by simp[fv]))|omega
  .rcases j with _|_|_|_|_|j<;>first|(exact absurd hx (by simp[fv]))|omega
 .
  rintro i⟨⟨n0,n1,n2,n3,n4,a,b,c,d,e,u⟩,f,v⟩hi⟨q1,q2,q3,q4,q5,q6,q7⟩;have q1:f=st+(i:Int):=q1;have q2:n2=st:=q2;have q3:n3=ct:=q3;have q4:PI (fv a b c d e) (st+(i:Int)):=q4;have q5:mr (fv a b c d e) i:=q5;have q6:PJ (fv a b c d e) st (st+(i:Int)):=q6;have hrz:∀l:List (List Int),vR ((n0,n1,n2,n3,n4,l,()):Zn):=λl=>⟨by show 0<=n2;omega,by show 1<=n3;omega,by show n2+n3<=256;omega⟩;have hsz:∀(g:Int)(l:List (List Int)),g<=st+ct->g<=zs ((n0,n1,n2,n3,n4,l,()):Zn)+zc ((n0,n1,n2,n3,n4,l,()):Zn):=λg l h=>by show g<=n2+n3;omega
  have hf0:0<=f:=by omega
  have hf1:f<st+ct:=by omega
  rw[<-q1]at q4 q6;refine be (eK (by show f<ai .i64 st ct;rw[hsum];exact hf1)) ?_
  have fin:∀a' b' c' d' e',PI (fv a' b' c' d' e') (f+1)->mr (fv a' b' c' d' e') (i+1)->PJ (fv a' b' c' d' e') st (f+1)->Ok (some (.inl ((n0,n1,n2,n3,n4,a',b',c',d',e',()),ai .i64 f 1,())):Option (Sum (Z5×Int×Unit) (Sum (Z5×Unit) (D (.ah eH iU))))) (hN (NI n k mn st ct (i+1)) (hN (λs=>∃s',NI n k mn st ct ct.toNat s'/\s=(s'.1,())) (Xr n k st ct mn))):=by
   intro a' b' c' d' e' h1 h2 h3;refine a4 ⟨?_,q2,q3,?_,h2,?_,q7⟩;.show ai .i64 f 1=st+((i+1:Nat):Int);rw[cD (by omega) (by omega)];omega
   .
    show PI (fv a' b' c' d' e') (st+((i+1:Nat):Int));have e1:st+((i+1:Nat):Int)=f+1:=by omega
    rw[e1];exact h1
   .
    show PJ (fv a' b' c' d' e') st (st+((i+1:Nat):Int));have e1:st+((i+1:Nat):Int)=f+1:=by omega
    rw[e1];exact h3
  have hl:∀{L:Nat->List Int}{j:Nat},mr L i->j<=4->(L j).length<=1000:=λh hj=>aU (h _ hj) (by omega);refine UG (L:=fv a b c d e) (k:=0) (by decide) rfl rfl q4 hf0 (by omega) (by simp[Int.emod_one]) (hl q5 (by decide)) q6 q2 (hrz _) (hsz _ _ (by show f+1<=st+ct;omega)) ?_ ?_;.intro hno;have h3:=xu (k:=0) (g:=f) q6 q4 (by omega) (by decide) hno;rw[Qh]at h3;have h1:=xv (k:=0) q4 hf0 (by simp[Int.emod_one]) (by decide);have h2:=uq (k:=0) (g:=f) q5 (by decide);rw[Qh]at h1 h2;exact fin _ _ _ _ _ h1 h2 h3
  intro i0 u0 g0 m0 p0 w0 t0 j0 s0;have k0:=xJ (k:=0) (i:=(i0:Int)) q5 (by decide);rw[Qh]at t0 k0 j0;rw[m0];generalize hg1:f-2^0=g1 at*;have e1:g1+2^1=f+1:=by rw[<-hg1,rC,show(2:Int)^1=2 from rfl];omega
  refine UG (L:=fv (ig a (i0:Int)) b c d e) (k:=1) (by decide) rfl rfl t0 p0 (by omega) w0 (hl k0 (by decide)) j0 q2 (hrz _) (hsz _ _ (by rw[e1];omega)) ?_ ?_;.intro hno;have h3:=xu (k:=1) (g:=g1) j0 t0 (by omega) (by decide) hno;rw[Md,e1]at h3;have h1:=xv (k:=1) t0 p0 w0 (by decide);have h2:=uq (k:=1) (g:=g1) k0 (by decide);rw[Md,e1]at h1;rw[Md]at h2;exact fin _ _ _ _ _ h1 h2 h3
  intro i1 u1 g1' m1 p1 w1 t1 j1 s1;have k1:=xJ (k:=1) (i:=(i1:Int)) k0 (by decide);rw[Md]at t1 k1 j1;rw[m1];generalize hg2:g1-2^1=g2 at*;have e2:g2+2^2=f+1:=by rw[<-hg2,<-e1,show(2:Int)^1=2 from rfl,show(2:Int)^2=4 from rfl];omega
  refine UG (L:=fv (ig a (i0:Int)) (ig b (i1:Int)) c d e) (k:=2) (by decide) rfl rfl t1 p1 (by omega) w1 (hl k1 (by decide)) j1 q2 (hrz _) (hsz _ _ (by rw[e2];omega)) ?_ ?_;.intro hno;have h3:=xu (k:=2) (g:=g2) j1 t1 (by omega) (by decide) hno;rw[Mc,e2]at h3;have h1:=xv (k:=2) t1 p1 w1 (by decide);have h2:=uq (k:=2) (g:=g2) k1 (by decide);rw[Mc,e2]at h1;rw[Mc]at h2;exact fin _ _ _ _ _ h1 h2 h3
  intro i2 u2 g2' m2 p2 w2 t2 j2 s2;have k2:=xJ (k:=2) (i:=(i2:Int)) k1 (by decide);rw[Mc]at t2 k2 j2;rw[m2];generalize hg3:g2-2^2=g3 at*;have e3:g3+2^3=f+1:=by rw[<-hg3,<-e2,show(2:Int)^2=4 from rfl,show(2:Int)^3=8 from rfl];omega
  refine UG (L:=fv (ig a (i0:Int)) (ig b (i1:Int)) (ig c (i2:Int)) d e) (k:=3) (by decide) rfl rfl t2 p2 (by omega) w2 (hl k2 (by decide)) j2 q2 (hrz _) (hsz _ _ (by rw[e3];omega)) ?_ ?_;.intro hno;have h3:=xu (k:=3) (g:=g3) j2 t2 (by omega) (by decide) hno;rw[Mb,e3]at h3;have h1:=xv (k:=3) t2 p2 w2 (by decide);have h2:=uq (k:=3) (g:=g3) k2 (by decide);rw[Mb,e3]at h1;rw[Mb]at h2;exact fin _ _ _ _ _ h1 h2 h3
  intro i3 u3 g3' m3 p3 w3 t3 j3 s3;have k3:=xJ (k:=3) (i:=(i3:Int)) k2 (by decide);rw[Mb]at t3 k3 j3;rw[m3];generalize hg4:g3-2^3=g4 at*;have e4:g4+2^4=f+1:=by rw[<-hg4,<-e3,show(2:Int)^3=8 from rfl,show(2:Int)^4=16 from rfl];omega
  have h3:=xu (k:=4) (g:=g4) j3 t3 (by omega) (by decide) (λh=>by omega);rw[Qg,e4]at h3;have h1:=xv (k:=4) t3 p3 w3 (by decide);have h2:=uq (k:=4) (g:=g4) k3 (by decide);rw[Qg,e4]at h1;rw[Qg]at h2;exact BK (l:=e) (t3.so 4 (by decide)) (λx hx=>by have:=(t3.al 4 (by decide) x hx).2.2;have:=pw 4;omega) (hl k3 (j:=4) (by decide)) (fin _ _ _ _ _ h1 h2 h3)
 .rintro⟨⟨n0,n1,n2,n3,n4,a,b,c,d,e,u⟩,f,v⟩hq;have q1:f=st+((ct.toNat:Nat):Int):=hq.1;refine aw (cH ?_) (bu (a4 ⟨_,hq,rfl⟩));show ai .i64 st ct<=f;rw[hsum];omega
 .
  rintro s⟨⟨⟨n0,n1,n2,n3,n4,a,b,c,d,e,u⟩,f,v⟩,⟨q1,q2,q3,q4,q5,q6,q7⟩,rfl⟩;have e0:∀k,k<=4->dL (n0,n1,n2,n3,n4,a::b::c::d::e::[],()) k=fv a b c d e k:=λk hk=>by rcases k with _|_|_|_|_|k<;>first|rfl|omega
  refine ab ⟨λ_=>rfl,λ_=>⟨q2,q3,λk hk=>?_,wZ.congr (L:=fv a b c d e) ⟨q4.so,q4.dj⟩ e0,P2.congr (L:=fv a b c d e) q6.cb e0,?_,λj hj x hx=>?_,q7,⟨_,rfl,rfl⟩,λy h1 h2=>?_⟩⟩;rotate_left;.obtain⟨w1,w2,w3⟩:=q7;have w1:n0=n:=w1;have w2:n1=k:=w2;have w3:n4=mn:=w3;have q2:n2=st:=q2;have q3:n3=ct:=q3;subst w1 w2 w3 q2 q3;exact e188
  .
   rw[e0 j hj]at hx;have q2:n2=st:=q2;have q3:n3=ct:=q3;obtain⟨y1,y2,y3⟩:=q4.al j hj x hx;have y4:=q6.lo j hj x hx;refine⟨?_,?_,by rw[fZ y1];exact y2⟩;.show n2<=x;omega
   .show x+2^j<=n2+n3;omega
  .obtain⟨j,x,hj,hx,h3⟩:=q6.cv y h1 (by omega);exact⟨j,x,hj,by rw[e0 j hj];exact hx,h3⟩
  have:=q5 k hk;have e1:=e0 k hk;show(dL (n0,n1,n2,n3,n4,a::b::c::d::e::[],()) k).length<=256;rw[e1];have this:(fv a b c d e k).length<=ct.toNat:=this;omega
theorem jj{n:Int}{b:Nat}(a:0<=n)(h1:n<=10000)(c:b<=1000):gP n n b=true:=by unfold gP Hm.gL;rw[av a,av (bX n)];simp only[dS];rw[bS];exact aU (tG (show n.toNat<=10000 by omega) c) (by decide)
structure Jh (z : Zn) : Prop where
  dj : wZ (dL z)
  cb : P2 (dL z)
  rg : rf (z, ()) = some (true, ())
  ko : ∀ j, j ≤ 4 → ∀ x, x ∈ dL z j → In z x j
  len : ∃ l : List (List Int), l.length = 5 ∧ z.2.2.2.2.2.1 = l
  cv : ∀ y : Int, zs z ≤ y → y < zs z + zc z → ∃ (j : Nat) (x : Int), j ≤ 4 ∧ x ∈ dL z j ∧ x ≤ y ∧ y < x + 2 ^ j
structure MI (a : eI) (b : Nat) : Prop where
  z : ∀ z, z ∈ cw a → mr (dL z) b ∧ wZ (dL z)
  c : ∀ c, c ∈ cP a → ∀ l, l ∈ c.1 → l.length ≤ b
  e : ∀ (i : Nat) (c : tM), 1 ≤ i → (cP a)[i]? = some c → ∀ l, l ∈ c.1 → l = []
theorem MI.sz{a:eI}{b:Nat}(h:MI a b)(d:b<=100000):Sz a:=⟨λz i k f=>aU ((h.z z i).1 k f) d,λc e l g=>aU (h.c c e l g) d⟩
theorem TL(n:Int):Ok (FC (n,())) λr=>∀l,l∈r.1.1->l=[]:=by
 have d:Ok (some (([],()),1,()):Option (D (.ah fu iU))) λr=>∀l,l∈r.1.1->l=[]:=ab (λl a=>by cases a);unfold FC;refine aN (λ_=>d) λb=>aN (λ_=>d) λc=>aq ?_ (ab λl a=>?_);.have b:1<=n:=eZ b;have c:n<=6:=eZ c;exact jj (by omega) (by omega) (by decide)
 .have a:l∈List.replicate n.toNat []:=a;exact(hZ.1 a).2
theorem Ew{α:Type}{l:List α}{i:Int}{x y:α}(h:y∈aI l i x):y∈l\/y=x:=by
 unfold aI at h;rcases cM h with h|h;.exact .inl h
 .exact .inr h
theorem V5(nd:List Int)(o0 hg:Int)(zl:List (D kN))(u9:nd.length<=4)(t9:zl.length<=6):Ok (Jn (nd,o0,hg,zl,())) λr=>MI r.1 256/\(∀c,c∈cP r.1->∀l,l∈c.1->l=[])/\(r.2.1=0->∀z,z∈cw r.1->Jh z):=by
 have e0:MI (([],0,0,[],[],()):eI) 256:=⟨λz b=>(by cases b),λc a=>(by cases a),λi c _ a=>by cases a⟩;have t0:∀e:Int,e≠0->Ok (some ((([],0,0,[],[],()),e,()):D (.ah du iU))) λr=>MI r.1 256/\(∀c,c∈cP r.1->∀l,l∈c.1->l=[])/\(r.2.1=0->∀z,z∈cw r.1->Jh z):=λe x0=>⟨_,rfl,e0,λc a=>(by cases a),λh=>absurd h x0⟩;have r9:ak zl=(zl.length:Int):=rfl;unfold Jn;refine aq (ce (by simp;omega) (by decide)) (aq (jj (by show 0<=(zl.length:Int);omega) (by show(zl.length:Int)<=10000;omega) (by decide)) ?_);refine bb (JX _) λq9 _=>aN (λ_=>t0 2 (by decide)) λ_=>?_;refine aK (P:=λs=>((∀z,z∈s.2.1.2.2.2.1->mr (dL z) 256/\wZ (dL z))/\∀z,z∈s.2.1.2.2.2.1->Jh z)/\s.2.1.2.2.2.2.1=[]) (bz (I:=λi s=>s.2.2.2.1=(i:Int)/\(∀z,z∈s.2.1.2.2.2.1->mr (dL z) 256/\wZ (dL z))/\s.2.1.2.2.2.2.1=[]/\s.2.1.2.2.2.1.length=zl.length/\∀(q:Nat)(z:Zn),q<i->s.2.1.2.2.2.1[q]?=some z->Jh z) (m:=zl.length) ⟨rfl,λz b=>?_,rfl,by show(List.replicate _ _).length=_;rw[aR];rfl,λq z B=>by omega⟩ (by omega) ?_ ?_) λp0 k0=>?_
 .
  have b:z∈List.replicate (ak zl).toNat ((0,0,0,0,0,[]::[]::[]::[]::[]::[],()):Zn):=b;rw[(hZ.1 b).2];refine⟨λk j0=>?_,wZ.nil λk j0=>?_⟩;.rcases k with _|_|_|_|_|k<;>first|exact aP _|omega
  .rcases k with _|_|_|_|_|k<;>first|rfl|omega
 .
  rintro i⟨p,⟨C,z0,y0,g,j,u⟩,d0,m,v⟩A⟨d,n,o,f,w⟩;have d:m=(i:Int):=d;subst d;refine be (cB A) (bb (cQ A) λx s9=>bb (JV _ _ _ _ _) λr u0=>aN (λg0=>bu (bu (t0 _ (jh g0)))) λx0=>?_);obtain⟨q0,c0,h0,r0,b0,a0,z9,_,y9,x9⟩:=u0.2 (fH x0);have i0:=And.intro h0 r0;have f0:Jh r.1:=⟨r0,b0,a0,z9,y9,λy w9 v9=>x9 y (by rw[<-q0];exact w9) (by rw[<-q0,<-c0];exact v9)⟩;have w:∀(q:Nat)(z:Zn),q<i->g[q]?=some z->Jh z:=w;have f:g.length=zl.length:=f;have w0:i<g.length:=by omega
  refine aq (eF w0) (bb (cQ w0) λp9 _=>a4 ⟨?_,λz b=>?_,o,by show(aI g _ _).length=_;rw[jL,f],λq z B b=>?_⟩);.have e:ai .i64 (i:Int) 1=((i+1:Nat):Int):=bI (by omega);rw[<-e]
  .
   rcases Ew b with b|b;.exact n z b
   .rw[b];exact i0
  .
   have b:(g.set i r.1)[q]?=some z:=b;by_cases e:q=i;.subst e;rw[bq w0]at b;cases b;exact f0
   .rw[bE λn0=>e n0.symm]at b;exact w q z (by omega) b
 .rintro⟨p,⟨C,z0,y0,g,j,u⟩,d0,m,v⟩⟨d,n,o,f,w⟩;have d:m=((zl.length:Nat):Int):=d;subst d;refine aw cJ (bu (a4 ⟨⟨n,λz b=>?_⟩,o⟩));obtain⟨q,B⟩:=bn b;exact w q z (by have:=(aj.1 B).1;rw[<-f];exact this) B
 .
  obtain⟨⟨m0,l0⟩,s0⟩:=k0;refine aK (P:=λs=>((∀z,z∈s.1.2.2.2.1->mr (dL z) 256/\wZ (dL z))/\∀z,z∈s.1.2.2.2.1->Jh z)/\∀c,c∈s.1.2.2.2.2.1->∀l,l∈c.1->l=[]) (bz (I:=λi s=>s.2.1=(i:Int)/\((∀z,z∈s.1.2.2.2.1->mr (dL z) 256/\wZ (dL z))/\∀z,z∈s.1.2.2.2.1->Jh z)/\(∀c,c∈s.1.2.2.2.2.1->∀l,l∈c.1->l=[])/\s.1.2.2.2.2.1.length=i) (m:=nd.length) ⟨rfl,⟨m0,l0⟩,?_,?_⟩ (by omega) ?_ ?_) λo9 t=>ab ⟨⟨t.1.1,λc a l v0=>?_,λi c _ a l v0=>?_⟩,t.2,λ_=>t.1.2⟩;.intro c a;have a:c∈p0.2.1.2.2.2.2.1:=a;rw[s0]at a;cases a
  .show p0.2.1.2.2.2.2.1.length=0;rw[s0];rfl
  .
   rintro i⟨⟨C,z0,y0,g,j,u⟩,m,v⟩A⟨d,n,o,f⟩;have d:m=(i:Int):=d;subst d;have f:j.length=i:=f;refine be (cB A) (bb (TL _) λr u0=>aq (ce (by show j.length+1<=10000;omega) (by decide)) (a4 ⟨?_,n,λc a=>?_,?_⟩));.have e:ai .i64 (i:Int) 1=((i+1:Nat):Int):=bI (by omega);rw[<-e]
   .
    have a:c∈j++[(r.1.1,())]:=a;rcases bD.1 a with a|a;.exact o c a
    .
     have:c=(r.1.1,()):=by simpa using a
     rw[this];exact u0
   .show(j++[(r.1.1,())]).length=i+1;rw[az,f];rfl
  .rintro⟨⟨C,z0,y0,g,j,u⟩,m,v⟩⟨d,n,o,f⟩;have d:m=((nd.length:Nat):Int):=d;subst d;exact aw cJ (bu (a4 ⟨n,o⟩))
  .rw[t.2 c a l v0];exact aP _
  .exact t.2 c (Y a) l v0
def FD(a:eI)(n:Int):Prop:=∃z,(cw a)[(cw a).length-1]?=some z/\n=zs z+zc z
theorem V4(a:eI)(j:Sz a):Ok (Jm (a,())) λr=>(0<=(r.1:Int)/\(r.1:Int)<=256)/\(u4 (a,())=some ((0:Int),())->FD a r.1):=by
 unfold Jm;obtain⟨⟨e,u⟩,d,i⟩:=JU a j;refine aa d (aN (λh=>ab ⟨⟨bX 0,(by decide:(0:Int)<=256)⟩,λc=>?_⟩) λh=>?_);.rw[d]at c;cases c;exact absurd rfl (jh h)
 .
  have f:=i (fH h);have b:=f.nz;have g:bo .i64 (ak (cw a)) 1=(((cw a).length-1:Nat):Int):=by rw[aJ,fk (by omega) (by omega)];omega
  show Ok (am (ax (cw a) (bo .i64 (ak (cw a)) 1)) _) _;rw[g];refine bb (cQ (l:=cw a) (i:=(cw a).length-1) (by omega)) λz b=>?_;obtain⟨k,l,m⟩:=(f.nH z (Y b)).pX;have e:ai .i64 (zs z) (zc z)=zs z+zc z:=cD (by omega) (by omega);refine ab ⟨?_,λ_=>⟨z,b,e⟩⟩;show 0<=ai .i64 (zs z) (zc z)/\ai .i64 (zs z) (zc z)<=256;rw[e];omega
theorem D3{a:eI}(c:L5 a){n:Int}(g:FD a n):∀(d j:Nat)(z:Zn),j+d+1=(cw a).length->(cw a)[j]?=some z->zs z+zc z<=n
 |0,j,z,h,e=>by obtain⟨o,b,f⟩:=g;rw[show(cw a).length-1=j by omega,e]at b;cases b;rw[f];exact bX _
 |d+1,j,z,h,e=>by have b:(cw a)[j+1]?=some ((cw a)[j+1]'(by omega)):=G (by omega);have f:=c.cons j z _ e b;have i:=D3 c g d (j+1) _ (by omega) b;obtain⟨k,l,m⟩:=(c.nH _ (Y b)).pX;omega
theorem M0{a:eI}(c:L5 a){n:Int}(d:FD a n){j:Nat}{z:Zn}(b:(cw a)[j]?=some z){f:Int}(h1:zs z<=f)(h2:f<zs z+zc z):0<=f/\f<n:=by have e:=(aj.1 b).1;have:=D3 c d ((cw a).length-j-1) j z (by omega) b;obtain⟨g,h,i⟩:=(c.nH z (Y b)).pX;omega
def jK:Int->List Int->List Int|_,[]=>[]|a,n::l=>a::jK (a+(1+n)) l
def gw:Int->List Int->Int|a,[]=>a|a,n::l=>gw (a+(1+n)) l
def MS(l:List Int)(s:Int):List Int:=jK 0 l++[gw 0 l,gw 0 l+s]
theorem yG(l r:List Int)(h:l.length+r.length<=1000):aO l r 8=true:=by show Nat.ble (Nat.mul (l.length+r.length) 8) 4294967296=true;rw[bS];show(l.length+r.length)*8<=4294967296;omega
theorem nu:∀(l:List Int)(a:Int),(jK a l).length=l.length
 |[],_=>rfl
 |n::l,a=>by unfold jK;simp[nu l]
theorem xT:∀(l:List Int)(a:Int),l.all (aV 1 16)=true->a<=gw a l/\gw a l<=a+17*l.length
 |[],a,_=>by unfold gw;simp
 |n::l,a,h=>by simp only[cT,ae]at h;have b:=di h.1;have c:=xT l (a+(1+n)) h.2;unfold gw;simp only[bx];omega
theorem XS{qC n:Int}(h1:0<=qC/\qC<=1000)(h2:1<=n/\n<=16):ai .i64 qC (ai .i64 1 n)=qC+(1+n):=by rw[cD (a:=1) (b:=n) (by omega) (by omega),cD (by omega) (by omega)]
def EE(b:Int×List Int)(x:Int):Option (Sum (Int×List Int) (List Int×Int×Unit)):=aA (aO b.2 [b.1] 8) (some (.inl (ai .i64 b.1 (ai .i64 1 x),b.2++[b.1])))
theorem Ce{A:Type}{fin:Int×List Int->A}:∀(l:List Int)(i:Nat)(a:Int)(jR:List Int),l.all (aV 1 16)=true->0<=a->a+17*l.length<=1000->jR.length+l.length<=500->gl (λ_ b x=>EE b x) fin i (a,jR) l=some (.inl (fin (gw a l,jR++jK a l)))
 |[],i,a,jR,_,_,_,_=>by unfold gl gw jK;rw[bi]
 |n::l,i,a,jR,h,f,g,j=>by
  simp only[cT,ae]at h;simp only[bx]at g j;have k:=di h.1;have e:EE (a,jR) n=some (.inl (a+(1+n),jR++[a])):=by show aA (aO jR [a] 8) (some (Sum.inl (ai .i64 a (ai .i64 1 n),jR++[a])))=_;rw[yG jR [a] (by simp;omega),lW,XS ⟨f,by omega⟩ k]
  unfold gl;simp only[e];rw[Ce l (i+1) _ _ h.2 (by omega) (by omega) (by simp;omega)];have c:gw a (n::l)=gw (a+(1+n)) l:=by rw[gw]
  have d:jK a (n::l)=a::jK (a+(1+n)) l:=by rw[jK]
  rw[c,d,cA];rfl
theorem Ih{l:List Int}{s:Int}(h:l.all (aV 1 16)=true)(f:l.length<=4)(c:aV 0 64 s=true)(a:Int)(b:a=gw 0 l):ad (ay s 0) (some (([]:List Int),(2:Int),())) (ad (ay 64 s) (some ([],2,())) (aA (aO (jK 0 l) (a::ai .i64 a s::[]) 8) (some (aM (jK 0 l) (a::ai .i64 a s::[]),0,()))))=some (MS l s,0,()):=by have d:=di c;have e:=xT l 0 h;subst b;rw[eb (b:=ay s 0) (by rw[hK];exact aX (by omega)),eb (b:=ay 64 s) (by rw[hK];exact aX (by omega)),yG _ _ (by rw[nu];simp;omega),lW,cD (by omega) (by omega)];rfl
theorem MK{l:List Int}(h:l.all (aV 1 16)=true){i:Nat}{y:Int}(a:l[i]?=some y):1<=y/\y<=16:=di (bR.1 h y (Y a))
theorem TN(l:List Int)(s:Int)(h:l.all (aV 1 16)=true)(c:l.length<=4)(d:aV 0 64 s=true):JY (l,s,())=some (MS l s,0,()):=by
 unfold JY;show ad (ay 4 (ak l)) _ _=_;rw[eb (b:=ay 4 (ak l)) (by rw[hK,aJ];exact aX (by omega))];rw[eE (xs:=l) (st:=λ(b:Int×List Int)i=>(b.1,b.2,(i:Int),())) (g:=λ_ b x=>EE b x) (fin:=λb=>(b.1,b.2,())) (b:=((0:Int),([]:List Int)))];rotate_left
 .
  intro b i y a;have f:=MK h a;refine(et a).trans ?_;rw[eb (b:=ay y 1) (by rw[hK];exact aX (by omega))];have e:JL (y,())=some (true,()):=by unfold JL;show ad (cL 0 y) (some (cL y 16,())) _=_;rw[ez (b:=cL 0 y) (by rw[jN];exact av (by omega)),jN,av (by omega)]
  rw[e,cG,eb (b:=bL true) rfl,bI (gv a (aU c (by decide)))];unfold mw EE;dsimp only;show aA (aO b.2 [b.1] 8) (some (Sum.inl (ai .i64 b.1 (ai .i64 1 y),b.2++[b.1],((i+1:Nat):Int),())))=_;cases aO b.2 [b.1] 8<;>rfl
 .exactλb=>ey
 .rfl
 .omega
 rw[Ce l 0 0 [] h (by omega) (by omega) (by simp;omega),ik];exact Ih h c d _ rfl
def oO(c:D cc):List Int:=c.2.2.2.2.2.2.2.2.2.2.1.map λf=>f.1
def DG(c:D cc):List Int:=MS (oO c) c.2.2.2.2.2.2.1
theorem HX{A R:Type}{fin:List Int->A}:∀(l:List (D og))(i:Nat)(jR:List Int),jR.length+l.length<=500->gl (R:=R) (λ_ b(f:D og)=>aA (aO b [f.1] 8) (some (.inl (b++[f.1])))) fin i jR l=some (.inl (fin (jR++l.map λf=>f.1)))
 |[],i,jR,_=>by unfold gl;simp
 |f::l,i,jR,h=>by
  simp only[bx]at h;have e:(aA (aO jR [f.1] 8) (some (.inl (jR++[f.1]))):Option (Sum (List Int) R))=some (.inl (jR++[f.1])):=by rw[yG jR [f.1] (by simp;omega),lW]
  unfold gl;simp only[e];rw[HX l (i+1) _ (by simp;omega)];simp
theorem mi{c:D cc}(h:dq c=true):(oO c).all (aV 1 16)=true/\(oO c).length<=4/\aV 0 64 c.2.2.2.2.2.2.1=true:=by
 unfold dq mX at h;simp only[ae]at h;refine⟨?_,?_,h.1.2.2.2.2.1⟩;.unfold oO;rw[List.all_map,bR];intro f a;have:=bR.1 h.2.2 f a;unfold nQ at this;simp only[ae]at this;exact this.1
 .have:=h.2.1;rw[jN,aJ]at this;have:=bA this;unfold oO;rw[cZ];omega
theorem mG(c:D cc):(oO c).length=c.2.2.2.2.2.2.2.2.2.2.1.length:=cZ ..
theorem Ii(c:D cc)(h:c.2.2.2.2.2.2.2.2.2.2.1.length<=20){R:Type}:aB (λa:List Int×Int×Unit=>ad (ay a.2.1 (ak c.2.2.2.2.2.2.2.2.2.2.1)) (am (ax c.2.2.2.2.2.2.2.2.2.2.1 a.2.1) λe=>aA (aO a.1 (e.1::[]) 8) (some (.inl (aM a.1 (e.1::[]),ai .i64 a.2.1 1,())))) (ao (some (.inl (a.1,()))))) 1000000000 ([],0,())=(some (.inl (oO c,())):Option (Sum (List Int×Unit) R)):=by
 rw[eE (xs:=c.2.2.2.2.2.2.2.2.2.2.1) (st:=λ(b:List Int)i=>(b,(i:Int),())) (g:=λ_ b(f:D og)=>aA (aO b [f.1] 8) (some (.inl (b++[f.1])))) (fin:=λb=>(b,())) (b:=([]:List Int))];rotate_left;.intro b i y d;refine(et d).trans ?_;rw[bI (gv d (aU h (by decide)))];unfold mw;dsimp only;show aA (aO b [y.1] 8) (some (Sum.inl (b++[y.1],((i+1:Nat):Int),())))=_;cases aO b [y.1] 8<;>rfl
 .exactλb=>ey
 .rfl
 .omega
 rw[HX _ _ _ (by simp;omega)];rfl
theorem V9(c:D cc)(h:dq c=true):Hl (c,())=some (DG c,()):=by obtain⟨a,b,d⟩:=mi h;unfold Hl;refine(eT (λo=>aD o _) (Ii c (by rw[<-mG];omega))).trans ?_;rw[ik];show am (JY (oO c,c.2.2.2.2.2.2.1,())) _=_;rw[TN _ _ a b d];rfl
theorem V6(n:Int):Ok (Hk (n,())) λ_=>True:=by unfold Hk;exact aN (λ_=>ab trivial) λ_=>aN (λ_=>ab trivial) λ_=>ab trivial
theorem V3(n:Int):Ok (Hj (n,())) λ_=>True:=by unfold Hj;exact aN (λ_=>ab trivial) λ_=>aN (λ_=>ab trivial) λ_=>ab trivial
theorem V2:Ok (Hh ()) λ_=>True:=by unfold Hh;exact aq (jj (by decide) (by decide) (by decide)) (ab trivial)
theorem V1(n:Int):Ok (Da (n,())) λ_=>True:=by unfold Da;refine aN (λ_=>ab trivial) λa=>aN (λ_=>ab trivial) λb=>aq ?_ (ab trivial);have a:0<=n:=eZ a;have b:n<=64:=eZ b;exact jj a (by omega) (by decide)
theorem V0(n:Int):Ok (Hg (n,())) λ_=>True:=by unfold Hg;exact aN (λ_=>ab trivial) λ_=>aN (λ_=>ab trivial) λ_=>ab trivial
theorem TH(n:Int):Ok (sy (n,())) λ_=>True:=by
 have h:Ok (yh (n,())) λ_=>True:=by unfold yh;exact aN (λ_=>ab trivial) λ_=>ab trivial
 unfold sy;exact bb h λ_ _=>aN (λ_=>ab trivial) λ_=>ab trivial
theorem TG(e:D kk):Ok (Aq (e,())) λ_=>True:=by
 have h:Ok (JF (e,())) λ_=>True:=by unfold JF;exact aN (λ_=>aN (λ_=>aN (λ_=>ab trivial) λ_=>ab trivial) λ_=>ab trivial) λ_=>ab trivial
 have a:Ok (JE (e,())) λ_=>True:=by unfold JE;exact aN (λ_=>ab trivial) λ_=>ab trivial
 unfold Aq;exact bb h λ_ _=>aN (λ_=>ab trivial) λ_=>bb a λ_ _=>aN (λ_=>ab trivial) λ_=>ab trivial
theorem dC{α:Type}{l:List α}{i:Nat}{x:α}(h:l[i]?=some x):l.take i++[x]=l.take (i+1):=by rw[jq,h];rfl
theorem V7(c:D cc)(k:u5 c):Ok (V8 (c,())) λr=>r.1=c:=by
 have C:=(tE k.jR).1;have y0:c.1.length<=4:=by have:=k.yP;unfold im at this;simp only[ae]at this;have:=di this.1;omega
 have w0:c.2.1.length<=6:=by have:=k.A6;unfold gS at this;simp only[ae]at this;have:=di this.1;omega
 have t:=mi k.om;have z0:c.2.2.2.2.2.2.2.2.2.2.1.length<=4:=by rw[<-mG];exact t.2.1
 have v:∀f,f∈c.2.2.2.2.2.2.2.2.2.2.1->f.2.1.length<=512:=by
  intro f w;have:=k.om;unfold dq at this;simp only[ae]at this;have:=bR.1 this.2.2 f w;unfold nQ at this;simp only[ae]at this;obtain⟨o,_,l⟩:=this;have o:=di o;have l:ak f.2.1<=d8 .i64 f.1 32:=eZ (by simpa using l);have x:∀p:Int,1<=p->p<=16->ak f.2.1<=d8 .i64 p 32->f.2.1.length<=512:=by intro p a b h;have e:d8 .i64 p 32=p*32:=kW (n:=p*32) (by omega) (by omega);rw[e,aJ]at h;omega
  exact x f.1 o.1 o.2 l
 unfold V8;refine aq (ce (by show 0+c.1.length<=_;omega) (by decide)) (aq (ce (by show 0+c.2.1.length<=_;omega) (by decide)) (aq (ce (by show 0+c.2.2.2.2.2.2.2.2.2.2.2.1.length<=_;omega) (by decide)) ?_));refine aK (P:=λs=>s.1=c.2.2.2.2.2.2.2.2.2.2.1) (bz (I:=λi s=>s.2.1=(i:Int)/\s.1=c.2.2.2.2.2.2.2.2.2.2.1.take i) (m:=c.2.2.2.2.2.2.2.2.2.2.1.length) ⟨rfl,rfl⟩ (by omega) ?_ ?_) λA l=>?_;.rintro i⟨a,d,u⟩m⟨j,g⟩;have j:d=(i:Int):=j;subst j;have g:a=c.2.2.2.2.2.2.2.2.2.2.1.take i:=g;subst g;refine be (cB m) (bb (cQ m) λf n=>aq (ce (by have:=v f (Y n);show 0+f.2.1.length<=_;omega) (by decide)) (aq (ce (by rw[aY];simp;omega) (by decide)) (a4 ⟨?_,dC n⟩)));have e:ai .i64 (i:Int) 1=((i+1:Nat):Int):=bI (by omega);rw[<-e]
 .rintro⟨a,d,u⟩⟨j,g⟩;have j:d=((c.2.2.2.2.2.2.2.2.2.2.1.length:Nat):Int):=j;subst j;have g:a=c.2.2.2.2.2.2.2.2.2.2.1.take _:=g;rw[bO]at g;exact aw cJ ⟨_,rfl,g⟩
 refine aK (P:=λs=>s.1=c.2.2.2.2.2.2.2.2.2.2.2.2.1) (bz (I:=λi s=>s.2.1=(i:Int)/\s.1=c.2.2.2.2.2.2.2.2.2.2.2.2.1.take i) (m:=c.2.2.2.2.2.2.2.2.2.2.2.2.1.length) ⟨rfl,rfl⟩ (by have:=k.np;omega) ?_ ?_) λB q=>ab ?_;.rintro i⟨a,d,u⟩m⟨j,g⟩;have j:d=(i:Int):=j;subst j;have g:a=c.2.2.2.2.2.2.2.2.2.2.2.2.1.take i:=g;subst g;have x0:=k.np;refine be (cB m) (bb (cQ m) λf n=>aq (ce (by have:=(k.prog f (Y n)).1;show 0+f.2.1.length<=_;omega) (by decide)) (aq (ce (by rw[aY];simp;omega) (by decide)) (a4 ⟨?_,dC n⟩)));have e:ai .i64 (i:Int) 1=((i+1:Nat):Int):=bI (by omega);rw[<-e]
 .rintro⟨a,d,u⟩⟨j,g⟩;have j:d=((c.2.2.2.2.2.2.2.2.2.2.2.2.1.length:Nat):Int):=j;subst j;have g:a=c.2.2.2.2.2.2.2.2.2.2.2.2.1.take _:=g;rw[bO]at g;exact aw cJ ⟨_,rfl,g⟩
 .obtain⟨y,v0⟩:=A;obtain⟨z,u0⟩:=B;have l:y=c.2.2.2.2.2.2.2.2.2.2.1:=l;have q:z=c.2.2.2.2.2.2.2.2.2.2.2.2.1:=q;subst l;subst q;rfl
open Go.Proofs
def pp(n:Nat):List Int:=[73,78,79,68,(n:Int),(((2^n-1)%256:Nat):Int),(((2^n-1)/256:Nat):Int),(((298+n+(2^n-1)%256+(2^n-1)/256)%251:Nat):Int)]++List.replicate 24 0
theorem RD:(List.range 17).all (λn=>match JR ((n:Int),((2^n-1:Nat):Int),())with|some (h,e,())=>h==pp n&&e==0|none=>false)=true:=by simp only[JR,ir];kernel_rfl
theorem Nb{n:Nat}(b:n<=16):JR ((n:Int),((2^n-1:Nat):Int),())=some (pp n,(0:Int),()):=by
 have h:=bR.1 RD n (eJ.2 (by omega));split at h;.rename_i l e a;simp only[ae,beq_iff_eq]at h;rw[a,h.1,h.2]
 .cases h
theorem nA{n:Nat}:(pp n).length=32:=rfl
def mq(p j:Nat):List Bool:=List.replicate j true++List.replicate (p-j) false
theorem nW{p j:Nat}(h:j<=p):(mq p j).length=p:=by unfold mq;rw[az,aR,aR];omega
theorem uN{p j q:Nat}(h:j<=p)(b:q<p):(mq p j)[q]?=some (decide (q<j)):=by
 unfold mq;by_cases a:q<j;.rw[bJ (by rw[aR];exact a),cm,aE a,av a]
 .rw[bB (by rw[aR];omega),aR,cm,aE (by omega),aX a]
theorem CT{p j:Nat}(h:j<p):aI (mq p j) (j:Int) true=mq p (j+1):=by
 apply nq;intro q;show((mq p j).set j true)[q]?=_;by_cases a:q<p
 .
  by_cases b:q=j;.subst b;rw[bq (by rw[nW (by omega)];exact h),uN (by omega) a,av (by omega)]
  .rw[bE λe=>b e.symm,uN (by omega) a,uN (by omega) a];congr 1;apply decide_eq_decide.2;omega
 .rw[fA (by rw[bC,nW (by omega)];omega),fA (by rw[nW (by omega)];omega)]
theorem Uo:(List.range 16).all (λi=>decide (QL .i64 ((2^i-1:Nat):Int) (fB .i64 1 (i:Int))=((2^(i+1)-1:Nat):Int)))=true:=by kernel_rfl
theorem Yg{i:Nat}(h:i<16):QL .i64 ((2^i-1:Nat):Int) (fB .i64 1 (i:Int))=((2^(i+1)-1:Nat):Int):=bA (bR.1 Uo i (eJ.2 h))
theorem JS{p s:Nat}(c:s<=p)(hp:p<=16):JT (mq p s,())=some (((2^s-1:Nat):Int),(0:Int),()):=by
 have o:Ok (JT (mq p s,())) λr=>r=(((2^s-1:Nat):Int),(0:Int),()):=by
  have n:=nW c;unfold JT;refine aw (cH (by rw[aJ];show((mq p s).length:Int)<=16;omega)) ?_;refine aK (P:=λt=>t.1=((2^s-1:Nat):Int)) (bz (I:=λi t=>t.2.1=(i:Int)/\t.1=((2^min i s-1:Nat):Int)) (m:=(mq p s).length) ⟨rfl,by show(0:Int)=_;rw[Nat.zero_min];rfl⟩ (by omega) ?_ ?_) λx h=>ab (by rw[h])
  .
   rintro i⟨m,d,u⟩k⟨b,a⟩;have b:d=(i:Int):=b;subst b;have a:m=((2^min i s-1:Nat):Int):=a;subst a;have l:i<p:=by omega
   refine be (cB k) (aa (uN c l) ?_);have e:ai .i64 (i:Int) 1=((i+1:Nat):Int):=bI (by omega);by_cases f:i<s
   .
    rw[av f];refine be rfl (aq (av (show(0:Int)<=(i:Int)by omega)) ⟨_,rfl,?_,?_⟩);.rw[<-e]
    .show QL .i64 ((2^min i s-1:Nat):Int) (fB .i64 1 (i:Int))=_;rw[gZ (by omega),Yg (by omega),gZ (by omega)]
   .
    rw[aX f];refine aw rfl ⟨_,rfl,?_,?_⟩;.rw[<-e]
    .show((2^min i s-1:Nat):Int)=_;rw[iY (by omega),iY (by omega)]
  .rintro⟨m,d,u⟩⟨b,a⟩;have b:d=(((mq p s).length:Nat):Int):=b;subst b;have a:m=((2^min (mq p s).length s-1:Nat):Int):=a;rw[n,iY c]at a;exact aw cJ ⟨_,rfl,a⟩
 obtain⟨r,g,j⟩:=o;rw[g,j]
abbrev pj:=D og
def ea(c:D cc):List pj:=c.2.2.2.2.2.2.2.2.2.2.1
def cn(c:D cc)(i:Nat):Nat:=(gw 0 ((oO c).take i)).toNat
def ot(f:pj):Nat:=Int.toNat f.1
def i4(f:pj):Nat:=List.length f.2.1/32
def yK(f:pj)(j:Nat):List Int:=(List.drop (32*j) f.2.1).take 32
theorem CC:∀(l:List Int)(a n:Int),gw a (l++[n])=gw a l+(1+n)
 |[],a,n=>by show gw a [n]=gw a []+(1+n);rw[gw,gw,gw]
 |m::l,a,n=>by show gw a (m::(l++[n]))=_;rw[gw,CC l,gw]
theorem Bn:∀(l:List Int)(a:Int)(i:Nat),i<l.length->(jK a l)[i]?=some (gw a (l.take i))
 |[],a,i,h=>by cases h
 |n::l,a,0,h=>by rw[jK];show some a=some (gw a []);rw[gw]
 |n::l,a,i+1,h=>by rw[jK,dP,Bn l _ i (by simpa using h),List.take_succ_cons,gw]
theorem E9{l:List Int}{p:Int->Bool}(h:l.all p=true)(i:Nat):(l.take i).all p=true:=bR.2 λx a=>bR.1 h x (eB a)
structure LZ (c : D cc) (f : pj) : Prop where
  p1 : 1 ≤ ot f
  xx : ot f ≤ 16
  p : (ot f : Int) = f.1
  m : List.length f.2.1 = 32 * i4 f
  s : i4 f ≤ ot f
theorem Cu{c:D cc}(j:dq c=true){f:pj}(k:f∈ea c):LZ c f:=by
 have:=j;unfold dq at this;simp only[ae]at this;have:=bR.1 this.2.2 f k;unfold nQ at this;simp only[ae]at this;obtain⟨g,d,i⟩:=this;have g:=di g;have i:ak f.2.1<=d8 .i64 f.1 32:=eZ (by simpa using i);have d:lM .i64 (ak f.2.1) 32=0:=fH (by simpa using d);have o:∀p:Int,1<=p->p<=16->ak f.2.1<=d8 .i64 p 32->∀n:Nat,List.length f.2.1=n->(n:Int)<=p*32/\n%32=0:=by intro p a b h n l;have e:d8 .i64 p 32=p*32:=kW (n:=p*32) (by omega) (by omega);rw[e,aJ]at h;have h:((List.length f.2.1:Nat):Int)<=p*32:=h;refine⟨by omega,?_⟩;have d:Int.tmod ((List.length f.2.1:Nat):Int) 32=0:=d;rw[l]at d;have:Int.tmod (n:Int) 32=((n%32:Nat):Int):=rfl;omega
 obtain⟨m,q⟩:=o f.1 g.1 g.2 i _ rfl;have e:(ot f:Int)=f.1:=eN (by omega);refine⟨by omega,by omega,e,?_,?_⟩;.unfold i4;omega
 .
  have:((List.length f.2.1:Nat):Int)<=(ot f:Int)*32:=by rw[e];exact m
  unfold i4;omega
section
variable{c:D cc}(hc:dq c=true)
include hc
theorem Un{i:Nat}{f:pj}(a:(ea c)[i]?=some f):(oO c)[i]?=some f.1:=by show((ea c).map λf=>f.1)[i]?=_;rw[js,a];rfl
theorem xZ(i:Nat):(cn c i:Int)=gw 0 ((oO c).take i):=by have:=xT ((oO c).take i) 0 (E9 (mi hc).1 i);unfold cn;omega
theorem zu{i:Nat}{f:pj}(a:(ea c)[i]?=some f):cn c (i+1)=cn c i+1+ot f:=by have b:=xZ hc (i+1);have d:=xZ hc i;rw[<-dC (Un hc a),CC,<-d,<-(Cu hc (Y a)).p]at b;omega
theorem zw:∀(d i:Nat),i+d<=(ea c).length->cn c i<=cn c (i+d)
 |0,i,_=>ar _
 |d+1,i,h=>by have a:=zw d i (by omega);have b:=zu hc (G (show i+d<(ea c).length by omega));show cn c i<=cn c (i+d+1);omega
def gq(c:D cc):Nat:=cn c (ea c).length+Int.toNat c.2.2.2.2.2.2.1
theorem Yo{i:Nat}(h:i<(ea c).length):(DG c)[i]?=some (cn c i:Int):=by
 have a:i<(oO c).length:=by rw[mG];exact h
 show(jK 0 (oO c)++_)[i]?=_;rw[bJ (by rw[nu];exact a),Bn _ _ _ a,xZ hc]
theorem O5:(DG c)[(ea c).length+1]?=some (gq c:Int):=by
 have b:=di (mi hc).2.2;show(jK 0 (oO c)++[gw 0 (oO c),gw 0 (oO c)+c.2.2.2.2.2.2.1])[(ea c).length+1]?=_;rw[bB (by rw[nu,mG];exact dz _),nu,mG,show(ea c).length+1-List.length c.2.2.2.2.2.2.2.2.2.2.1=1 by show(ea c).length+1-(ea c).length=1;omega];have:(oO c).take (ea c).length=oO c:=by rw[show(ea c).length=(oO c).length from(mG c).symm,bO]
 have a:=xZ hc (ea c).length;rw[this]at a;show some (gw 0 (oO c)+c.2.2.2.2.2.2.1)=_;unfold gq;congr 1;rw[<-a];have d:∀p:Int,0<=p->(cn c (ea c).length:Int)+p=((cn c (ea c).length+p.toNat:Nat):Int):=λp e=>by omega
 exact d _ b.1
theorem Re:(DG c).length=(ea c).length+2:=by show(jK 0 (oO c)++[gw 0 (oO c),_]).length=_;rw[az,nu,mG];rfl
theorem yX:(ea c).length<=4:=by have:=(mi hc).2.1;rw[mG]at this;exact this
theorem FN:gq c<=132:=by
 have d:=xZ hc (ea c).length;have e:=xT ((oO c).take (ea c).length) 0 (E9 (mi hc).1 _);have f:((oO c).take (ea c).length).length<=4:=by rw[aY];have:=yX hc;omega
 have a:=di (mi hc).2.2;have b:∀p:Int,p<=64->p.toNat<=64:=λp g=>by omega
 have:=b _ a.2;unfold gq;omega
theorem su{i:Nat}{f:pj}(a:(ea c)[i]?=some f):cn c i+1+ot f<=cn c (ea c).length:=by have h:=(aj.1 a).1;have d:=zu hc a;have b:=zw hc ((ea c).length-(i+1)) (i+1) (by omega);rw[show i+1+((ea c).length-(i+1))=(ea c).length by omega]at b;omega
theorem Nr{i j:Nat}{f:pj}(b:(ea c)[i]?=some f)(e:i<j)(g:j<=(ea c).length):cn c i+1+ot f<=cn c j:=by have d:=zu hc b;have a:=zw hc (j-(i+1)) (i+1) (by omega);rw[show i+1+(j-(i+1))=j by omega]at a;omega
end
structure Cn (c : D cc) (bl : List (List Int)) (i j : Nat) : Prop where
  len : bl.length = gq c
  all : ∀ b, b ∈ bl → b.length = 32
  iB : ∀ i' f, i' < i → (ea c)[i']? = some f → bl[cn c i']? = some (pp (i4 f)) ∧ ∀ q, q < i4 f → bl[cn c i' + 1 + q]? = some (yK f q)
  bT : ∀ f, (ea c)[i]? = some f → ∀ q, q < j → bl[cn c i + 1 + q]? = some (yK f q)
theorem oN{α:Type}{l:List α}{i:Int}{n:Nat}{x:α}(h:i=(n:Int)):aI l i x=l.set n x:=by subst h;rfl
theorem RT{c:D cc}(hc:dq c=true){e:List (List Int)}{i j:Nat}{f:pj}(h:Cn c e i j)(d:(ea c)[i]?=some f)(z:j<i4 f):Cn c (e.set (cn c i+1+j) (yK f j)) i (j+1):=by
 have n:=Cu hc (Y d);have y:=(aj.1 d).1;have t:cn c i+1+j<e.length:=by have:=su hc d;have l:=h.len;have x:=n.s;unfold gq at l;omega
 have u:(yK f j).length=32:=by unfold yK;rw[aY,cE];have l:=n.m;omega
 refine⟨by rw[bC];exact h.len,λb g=>?_,λw k m a=>?_,λk a q o=>?_⟩
 .
  rcases cM g with g|rfl;.exact h.all b g
  .exact u
 .have A:=Nr hc a m (by omega);have s:=Cu hc (Y a);obtain⟨p,r⟩:=h.iB w k m a;refine⟨by rw[bE (by omega)];exact p,λq o=>?_⟩;have:=s.s;rw[bE (by omega)];exact r q o
 .
  rw[d]at a;cases a;by_cases v:q=j;.subst v;rw[bq t]
  .rw[bE (by omega)];exact h.bT f d q (by omega)
theorem RU{c:D cc}(hc:dq c=true){g:List (List Int)}{i:Nat}{f:pj}(h:Cn c g i (i4 f))(d:(ea c)[i]?=some f):Cn c (g.set (cn c i) (pp (i4 f))) (i+1) 0:=by
 have t:=(aj.1 d).1;have s:cn c i<g.length:=by have:=su hc d;have o:=h.len;unfold gq at o;omega
 refine⟨by rw[bC];exact h.len,λb j=>?_,λk l u a=>?_,λl a q e=>by omega⟩
 .
  rcases cM j with j|rfl;.exact h.all b j
  .exact nA
 .
  by_cases p:k=i;.subst p;rw[d]at a;cases a;refine⟨by rw[bq s],λq e=>?_⟩;rw[bE (by omega)];exact h.bT f d q e
  .have v:=Nr hc a (show k<i by omega) (by omega);have r:=Cu hc (Y a);have:=r.s;obtain⟨m,n⟩:=h.iB k l (by omega) a;refine⟨by rw[bE (by omega)];exact m,λq e=>?_⟩;rw[bE (by omega)];exact n q e
theorem yb{c:D cc}(a:dq c=true):Hl (c,())=some (DG c,()):=V9 c a
theorem mg{c:D cc}(a:dq c=true):ax (DG c) (bo .i64 (ak (DG c)) 1)=some (gq c:Int):=by have b:=yX a;rw[aJ,Re a,fk (by omega) (by omega),show(((ea c).length+2:Nat):Int)-1=(((ea c).length+1:Nat):Int)by omega];exact O5 a
theorem pB{c:D cc}(a:dq c=true){i:Nat}(h:i<(ea c).length):ax (DG c) (i:Int)=some (cn c i:Int):=Yo a h
theorem FO(c:D cc):cn c (ea c).length<=gq c:=Nat.le_add_right _ _
theorem uH{x s:List Int}(h1:x.length=32)(h2:32<=s.length):d7 x s=s.take 32:=by unfold d7;rw[h1,dV (by omega),bi]
theorem Cl{a j:Nat}(h:a+1+j<=1000):ai .i64 (ai .i64 (a:Int) 1) (j:Int)=((a+1+j:Nat):Int):=by rw[cD (a:=(a:Int)) (by omega) (by omega),cD (by omega) (by omega)];omega
theorem yR{j:Nat}(h:j<=1000):d8 .i64 (j:Int) 32=((32*j:Nat):Int):=by have e:d8 .i64 (j:Int) 32=(j:Int)*32:=kW (n:=(j:Int)*32) (by omega) (by omega);rw[e];omega
theorem KG{c:D cc}(a:dq c=true){i j:Nat}{f:pj}(b:(ea c)[i]?=some f)(h:j<i4 f):cn c i+1+j<gq c:=by have d:=su a b;have e:=FO c;have g:=(Cu a (Y b)).s;omega
theorem Kq{c:D cc}{f:pj}(a:LZ c f):i4 f<=16:=aU a.s a.xx
theorem Ng{c:D cc}{f:pj}(a:LZ c f){j:Nat}(g:j<i4 f):dJ (d8 .i64 (j:Int) 32) (ak f.2.1) (ak f.2.1)=true:=by
 have b:=Kq a;have d:=a.m;have e:32*j<=List.length f.2.1:=by omega
 unfold dJ;rw[yR (by omega),aJ,av (bX _),Bool.and_true,av (Int.natCast_nonneg _),dS];exact av (lm.2 e)
theorem Nh{c:D cc}{f:pj}(a:LZ c f){j:Nat}(h:j<i4 f){x:List Int}(d:x.length=32):d7 x (eX f.2.1 (d8 .i64 (j:Int) 32) (ak f.2.1))=yK f j:=by
 have e:=Kq a;have g:=a.m;have b:eX f.2.1 (d8 .i64 (j:Int) 32) (ak f.2.1)=List.drop (32*j) f.2.1:=by rw[yR (by omega),aJ];show(List.drop (((32*j:Nat):Int)).toNat f.2.1).take ((((List.length f.2.1:Nat):Int)).toNat-(((32*j:Nat):Int)).toNat)=_;rw[db,db,dF (by rw[cE];exact ar _)]
 rw[b,uH d (by rw[cE];omega)];rfl
theorem VY(c:D cc)(o:dq c=true):Ok (L3 (c,())) λr=>r.1.length<=4/\Cn c r.2.1 (ea c).length 0:=by
 have p9:=yX o;have l9:=FN o;unfold L3;refine aa (yb o) (aa (mg o) (aq (jj (n:=(gq c:Int)) (by omega) (by omega) (by decide)) ?_));have g0:∀n:Nat,er (n:Int) ([]:List Int)=List.replicate n []:=λn=>rfl;refine aK (P:=λs=>s.1.length=gq c/\∀b,b∈s.1->b.length=32) (bz (I:=λi s=>s.2.1=(i:Int)/\s.1.length=gq c/\∀(q:Nat)(b:List Int),q<i->s.1[q]?=some b->b.length=32) (m:=gq c) ⟨rfl,by show(List.replicate _ _).length=_;rw[aR];rfl,λq b h=>by omega⟩ (by omega) ?_ ?_) λh9 a0=>?_
 .
  rintro i⟨a,d,u⟩z0⟨g,l,v⟩;have g:d=(i:Int):=g;subst g;have l:a.length=gq c:=l;refine be (eK (by rw[g0,aJ,aR];show(i:Int)<(gq c:Int);omega)) (aq (jj (by decide) (by decide) (by decide)) (aq (eF (by omega)) (aq (eF (by omega)) ⟨_,rfl,?_,?_,λq b m9 p=>?_⟩)));.have e:ai .i64 (i:Int) 1=((i+1:Nat):Int):=bI (by omega);rw[<-e]
  .show(aI a _ _).length=_;rw[jL,l]
  .
   have p:(a.set i (List.replicate 32 0))[q]?=some b:=p;by_cases w9:q=i;.subst w9;rw[bq (by omega)]at p;cases p;rfl
   .rw[bE (by omega)]at p;exact v q b (by omega) p
 .rintro⟨a,d,u⟩⟨g,l,v⟩;have g:d=((gq c:Nat):Int):=g;subst g;refine aw (cH (by rw[g0,aJ,aR];exact bX _)) ⟨_,rfl,l,λb p=>?_⟩;obtain⟨j,t⟩:=bn p;have y9:a[j]?=some b:=t;have n9:=(aj.1 y9).1;have l:a.length=gq c:=l;exact v j b (by omega) t
 obtain⟨u9,f0⟩:=a0;refine aK (P:=λs=>s.2.1.length<=4/\Cn c s.1 (ea c).length 0) (bz (I:=λi s=>s.2.2.1=(i:Int)/\s.2.1.length=i/\Cn c s.1 i 0) (m:=(ea c).length) ⟨rfl,rfl,⟨u9,f0,λk9 f h=>by omega,λf _ q h=>by omega⟩⟩ (by omega) ?_ ?_) λi9 b0=>ab b0
 .
  rintro i⟨y,C,d,u⟩z0⟨g,l,v⟩;have g:d=(i:Int):=g;subst g;have l:C.length=i:=l;have v:Cn c y i 0:=v;refine be (cB z0) (aK (P:=λs=>s.2.1.length=i+1/\Cn c s.1 (i+1) 0) (bb (cQ z0) λf z=>?_) λb p=>⟨_,rfl,?_,p.1,p.2⟩)
  .
   have z:(ea c)[i]?=some f:=z;have k:=Cu o (Y z);have o9:=su o z;have u0:pm .i64 (ak f.2.1) 32=(i4 f:Int):=by rw[aJ];have e:pm .i64 ((List.length f.2.1:Nat):Int) 32=Hm.gj .i64 ((List.length f.2.1/32:Nat):Int):=rfl;have r9:=k.s;have q9:=k.xx;have i0:Hm.gj .i64 ((List.length f.2.1/32:Nat):Int)=_:=kW (n:=((i4 f:Nat):Int)) (by omega) (by omega);exact e.trans i0
   refine aa (pB o z0) (aa (x:=((0,false,()),())) rfl (aq (by rw[<-k.p];exact jj (by omega) (by have:=k.xx;omega) (by decide)) ?_));have v9:er f.1 false=mq (ot f) 0:=by show List.replicate (Int.toNat f.1) false=_;unfold mq ot;rw[o8,iw,jd]
   refine aK (P:=λs=>Cn c s.1 i (i4 f)/\s.2.1.2.1=(i4 f:Int)/\s.2.1.2.2.2.2.2.2.2.2.1=mq (ot f) (i4 f)) (bz (I:=λj s=>s.2.2.1=(j:Int)/\Cn c s.1 i j/\s.2.1.2.1=(i4 f:Int)/\s.2.1.2.2.2.2.2.2.2.2.1=mq (ot f) j) (m:=i4 f) ⟨rfl,v,u0,v9⟩ (by have:=k.s;have:=k.xx;omega) ?_ ?_) λt9 d0=>?_
   .
    rintro j⟨y,⟨q0,y0,o0,n0,m0,l0,k0,j0,x0,p0⟩,d,u⟩t⟨B,m,w,x⟩;have B:d=(j:Int):=B;subst B;have x:x0=mq (ot f) j:=x;subst x;have w:y0=(i4 f:Int):=w;have m:Cn c y i j:=m;have x9:=KG o z t;have v0:j<ot f:=aQ t k.s;have h0:j<(mq (ot f) j).length:=by rw[nW (Nat.le_of_lt v0)];exact v0
    have z9:=Cl (a:=cn c i) (j:=j) (by omega);have A:cn c i+1+j<y.length:=by rw[m.len];exact x9
    refine be (eK (by rw[u0];show(j:Int)<_;omega)) (aq (eF h0) (bb (cQ h0) λ_ _=>aa (pB o z0) ?_));simp only[z9];refine aq (eF A) (aq (eF A) (aq (Ng k t) (bb (cQ A) λs0 e0=>⟨_,rfl,?_,?_,w,CT v0⟩)));.have e:ai .i64 (j:Int) 1=((j+1:Nat):Int):=bI (aU (Nat.le_of_lt t) (aU (Kq k) (by decide)));rw[<-e]
    .have t0:s0.length=32:=m.all s0 (Y e0);have e:=Nh k t t0;show Cn c (aI y _ (d7 s0 _)) i (j+1);rw[e,oN rfl];exact RT o m z t
   .rintro⟨y,⟨q0,y0,o0,n0,m0,l0,k0,j0,x0,p0⟩,d,u⟩⟨B,m,w,x⟩;have B:d=((i4 f:Nat):Int):=B;subst B;exact aw (cH (by rw[u0];exact bX _)) ⟨_,rfl,m,w,x⟩
   .
    obtain⟨w0,⟨q0,y0,o0,n0,m0,l0,k0,j0,x0,p0⟩,j9⟩:=t9;obtain⟨m,w,x⟩:=d0;have m:Cn c w0 i (i4 f):=m;have w:y0=(i4 f:Int):=w;have x:x0=mq (ot f) (i4 f):=x;subst w;subst x;have A:cn c i<w0.length:=by have s9:w0.length=gq c:=m.len;have i0:=FO c;omega
    refine aa (JS k.s k.xx) (aa (Nb (by have:=k.s;have:=k.xx;omega)) (aa (pB o z0) (aq (eF A) (aq (eF A) (bb (cQ A) λr0 c0=>aq (ce (by show C.length+1<=_;omega) (by decide)) ⟨_,rfl,?_,?_⟩)))));.show(C++[_]).length=i+1;rw[az,l];rfl
    .show Cn c (aI w0 _ (d7 r0 (pp (i4 f)))) (i+1) 0;have t0:r0.length=32:=m.all r0 (Y c0);rw[uH t0 (mT nA.symm),dF (mT nA),oN rfl];exact RU o m z
  .have e:ai .i64 (i:Int) 1=((i+1:Nat):Int):=bI (by omega);rw[<-e]
 .rintro⟨y,C,d,u⟩⟨g,l,v⟩;have g:d=(((ea c).length:Nat):Int):=g;subst g;have l:C.length=(ea c).length:=l;exact aw cJ ⟨_,rfl,by show C.length<=4;omega,v⟩
theorem Tm(b:List Int)(h:b.length=32):JI (b,())=some (true,()):=by unfold JI;show some (decide ((b.length:Int)=32),())=_;rw[av (by omega)]
theorem JQ(n:Int)(e:List (List Int))(h1:1<=n)(h2:n<=16)(j:1<=e.length)(k:e.length<=256)(g:∀b,b∈e->b.length=32):Ok (Ol ((n,0,e,[],[],()),())) λr=>r.1=0:=by
 unfold Ol;refine aw (cH h1) (aw (cH h2) (aw (cH (show(0:Int)<=0 by decide)) (aw (cH (show(0:Int)<=1099511627776 by decide)) (aw (cH (by rw[aJ];show(1:Int)<=(e.length:Int);omega)) (aw (cH (by rw[aJ];show(e.length:Int)<=256;omega)) ?_)))));refine aK (P:=λ_=>True) (bz (I:=λi s=>s=((i:Int),())) (m:=e.length) rfl (by omega) ?_ ?_) λ_ _=>?_;.rintro i s f rfl;refine be (cB f) (bb (cQ f) λb h=>aa (Tm b (g b (Y h))) (aw rfl ⟨_,rfl,?_⟩));show(ai .i64 (i:Int) 1,())=_;rw[bI (by omega)]
 .rintro s rfl;exact aw cJ ⟨_,rfl,trivial⟩
 refine aK (P:=λ_=>True) (bz (I:=λi s=>s.2.1=0) (m:=0) rfl (by decide) (λi s f=>by omega) ?_) λ_ _=>?_;.rintro⟨a,d,u⟩c;have c:d=0:=c;subst c;exact aw (cH (bX 0)) ⟨_,rfl,trivial⟩
 refine aK (P:=λ_=>True) (bz (I:=λi s=>s.1=0) (m:=0) rfl (by decide) (λi s f=>by omega) ?_) λ_ _=>?_;.rintro⟨d,u⟩c;have c:d=0:=c;subst c;exact aw (cH (bX 0)) ⟨_,rfl,trivial⟩
 refine aw (cH (by show(0:Int)<=n;omega)) ?_;refine aK (P:=λ_=>True) (bz (I:=λi s=>s.2.1=0) (m:=0) rfl (by decide) (λi s f=>by omega) ?_) λ_ _=>ab rfl;.rintro⟨a,d,u⟩c;have c:d=0:=c;subst c;exact aw (cH (bX 0)) ⟨_,rfl,trivial⟩
theorem TJ(n:Int)(c:List (List Int))(z:c.length<=256)(l:∀b,b∈c->b.length=32):Ok (JP ((n,0,c,[],[],()),())) λr=>r.1.2.2.1=c:=by
 unfold JP;refine aK (P:=λs=>s.1.2.2.1=c) (bz (I:=λi s=>s.2.1=(i:Int)/\s.1.2.2.1=c.take i) (m:=c.length) ⟨rfl,rfl⟩ (by omega) ?_ ?_) λA x=>?_;.rintro i⟨⟨p,q,k,t,w,u⟩,d,v⟩j⟨h,f⟩;have h:d=(i:Int):=h;subst h;have f:k=c.take i:=f;subst f;refine be (cB j) (bb (cQ j) λb o=>aq (ce (by have:=l b (Y o);show 0+b.length<=_;omega) (by decide)) (aq (ce (by rw[aY];simp;omega) (by decide)) ⟨_,rfl,?_,dC o⟩));have e:ai .i64 (i:Int) 1=((i+1:Nat):Int):=bI (by omega);rw[<-e]
 .rintro⟨⟨p,q,k,t,w,u⟩,d,v⟩⟨h,f⟩;have h:d=((c.length:Nat):Int):=h;subst h;have f:k=c.take c.length:=f;rw[bO]at f;exact aw cJ ⟨_,rfl,f⟩
 refine aK (P:=λs=>s.1.2.2.1=c) (bz (I:=λi s=>s.2.1=0/\s.1.2.2.1=c) (m:=0) ⟨rfl,x⟩ (by decide) (λi s j=>by omega) ?_) λB l=>?_;.rintro⟨a,d,u⟩⟨g,m⟩;have g:d=0:=g;subst g;exact aw (cH (bX 0)) ⟨_,rfl,m⟩
 refine aK (P:=λs=>s.1.2.2.1=c) (bz (I:=λi s=>s.2.1=0/\s.1.2.2.1=c) (m:=0) ⟨rfl,l⟩ (by decide) (λi s j=>by omega) ?_) λC y=>ab y;.rintro⟨a,d,u⟩⟨g,m⟩;have g:d=0:=g;subst g;exact aw (cH (bX 0)) ⟨_,rfl,m⟩
theorem VX(n:Int)(a:List (List Int))(h1:1<=n)(h2:n<=16)(e:1<=a.length)(c:a.length<=256)(d:∀b,b∈a->b.length=32):Ok (L2 (n,a,())) λr=>r.1.2.2.1=a:=by unfold L2;refine bb (JQ n a h1 h2 e c d) λr f=>aw ?_ (bb (TJ n a c d) λx g=>ab g);rw[f];rfl
theorem Jt(l:List fj)(a:Int):Ok (rc (l,a,())) λr=>r.1=true->eg l=0/\0<=a/\a<(l.length:Int):=by unfold rc;refine aa (qu l) (aN (λb=>aN (λc=>ab λd=>⟨lq b,ou c,?_⟩) λ_=>ab λh=>by cases h) λ_=>ab λh=>by cases h);have:=kS d;rw[aJ]at this;exact this
theorem Tl(l:List fj)(a n:Int):Ok (JH (l,a,n,())) λr=>r.1=0->eg l=0/\rc (l,a,())=some (true,()):=by unfold JH;refine aa (qu l) (aN (λh=>ab λe=>absurd e (jh h)) λh=>?_);refine qb (Jt l a) λf d _=>aN (λ_=>ab λh=>by cases h) λc=>aa (yg _) (aN (λ_=>ab λh=>by cases h) λ_=>ab λ_=>⟨fH h,?_⟩);obtain⟨b,u⟩:=f;have c:b=true:=ma c;subst c;exact d
theorem Dn(l:List fj)(a:Int):Ok (wn (l,a,())) λr=>(r.1.length<=8/\∀p,p∈r.1->0<=p/\p<(l.length:Int))/\(rc (l,a,())=some (true,())->∃q:List Int,r.1=q++[0]/\∀x,x∈q->0<x):=by
 unfold wn;refine qb (Jt l a) λe0 t i=>aN (λf=>ab ⟨⟨aP _,λp n=>by cases n⟩,λe=>by rw[e]at t;cases t;cases f⟩) λp0=>?_;obtain⟨q0,f0,s0⟩:=i (ma p0);obtain⟨i0,h0,y0,g0⟩:=tE q0;refine aK (P:=λs:List Int×Unit=>(s.1.length<=8/\∀p,p∈s.1->0<=p/\p<(l.length:Int))/\∃q:List Int,s.1=q++[0]/\∀x,x∈q->0<x) (qa (I:=λk(s:List Int×Int×Unit)=>((∀x,x∈s.1->s.2.1<x)/\(s.2.1= -1->∃q:List Int,s.1=q++[0]/\∀x,x∈q->0<x))/\ -1<=s.2.1/\s.2.1<(l.length:Int)/\s.2.1+1<=(k:Int)/\s.1.length+k<=8/\∀p,p∈s.1->0<=p/\p<(l.length:Int)) (k:=a.toNat+1) ⟨⟨λx h=>(by cases h),λe=>by have e:a= -1:=e;omega⟩,by show-1<=a;omega,s0,by show a+1<=((a.toNat+1:Nat):Int);omega,by show 0+(a.toNat+1)<=8;omega,λp n=>by cases n⟩ (by omega) ?_) λd0 v=>ab ⟨v.1,λ_=>v.2⟩;rintro k⟨p,(b:Int),u⟩⟨⟨m,o⟩,w,j,A,B,C⟩;have w: -1<=b:=w;have j:b<(l.length:Int):=j;have A:b+1<=(k:Int):=A;have B:p.length+k<=8:=B;have m:∀x:Int,x∈p->b<x:=m;have o:b= -1->∃q:List Int,p=q++[0]/\∀x,x∈q->0<x:=o;refine aN (λf=>?_) λf=>⟨_,rfl,⟨by show p.length<=8;omega,C⟩,o (by have:b<0:=qJ f;omega)⟩;have f:0<=b:=ou f;refine aq (ce (by show p.length+1<=_;omega) (by decide)) (bb (pg f (by rw[aJ];exact j)) λx h=>?_);have h:l[b.toNat]?=some x:=h
 have o0:∀y:Int,x.1=y->(-1<=y/\y<b)/\(y= -1->b=0):=by
  intro y n0;have c:=(vI (p:=rQ) (l:=l) (k:=0)).1 y0 b.toNat x h;rw[br]at c;unfold rQ at c;rw[n0]at c;by_cases i:b.toNat=0;.rw[i]at c;have c:a6 y (-1)=true:=c;have:=lq c;omega
  .rw[show Nat.beq b.toNat 0=false from Ls.kb i]at c;have c:aV 0 ((b.toNat:Int)-1) y=true:=c;have:=di c;omega
 obtain⟨⟨m0,D⟩,l0⟩:=o0 _ rfl;have t0:∀y:Int,-1<=y->y<b->0<k/\ -1<=y/\y<(l.length:Int)/\y+1<=((k-1:Nat):Int):=λy k0 j0=>by omega
 obtain⟨x0,w0,v0,u0⟩:=t0 _ m0 D;have z0: @LT.lt Int _ x.1 b:=D;refine⟨_,rfl,x0,⟨λz d=>?_,λe=>?_⟩,w0,v0,u0,?_,λq g=>?_⟩
 .
  have d:z∈p++[b]:=d;show @LT.lt Int _ x.1 z;rcases bD.1 d with d|d;.exact wt z0 (m z d)
  .rcases cj.1 d with rfl;exact z0
 .have r0:b=0:=l0 e;refine⟨p,?_,λz d=>by have:=m z d;omega⟩;show p++[b]=_;rw[r0]
 .show(p++[b]).length+(k-1)<=8;rw[az,eM];omega
 .
  have g:q∈p++[b]:=g;rcases bD.1 g with g|g;.exact C q g
  .
   have:q=b:=by simpa using g
   rw[this];exact⟨f,j⟩
theorem Tj(l:List fj)(a n:Int)(n0:l.length<=8):Ok (Fv (l,a,n,())) λr=>r.1.length=l.length/\(rc (l,a,())=some (true,())->∀a0,l[0]?=some a0->r.1[0]?=some (a0.1,ai .i64 a0.2.1 n,a0.2.2)):=by
 unfold Fv;refine aq (ce (by show 0+l.length<=_;omega) (by decide)) (bb (Dn l a) λv0 s0=>?_);obtain⟨⟨p,u⟩,rfl⟩:∃y,y=v0:=⟨v0,rfl⟩;obtain⟨⟨w0,r0⟩,A⟩:=s0;have A:rc (l,a,())=some (true,())->∃q:List Int,p=q++[0]/\∀x,x∈q->0<x:=A;have w0:p.length<=8:=w0
 have u0:∀(q:List Int),p=q++[0]->(∀x,x∈q->0<x)->∀(i:Nat)(x:Int),p[i]?=some x->(i<q.length->0<x)/\(i=q.length->x=0)/\i<=q.length:=by
  intro q b c i x f;subst b;have y0:=(aj.1 f).1;rw[az]at y0;refine⟨λh=>?_,λh=>?_,by simp only[eM]at y0;omega⟩;.rw[bJ h]at f;exact c x (Y f)
  .rw[bB (by omega),h,ee]at f;exact(eu f).symm
 refine aK (P:=λs:List fj×Unit=>s.1.length=l.length/\∀q:List Int,p=q++[0]->(∀x,x∈q->0<x)->∀a0,l[0]?=some a0->s.1[0]?=some (a0.1,ai .i64 a0.2.1 n,a0.2.2)) (bz (I:=λi(s:List fj×Int×Unit)=>s.2.1=(i:Int)/\s.1.length=l.length/\∀q:List Int,p=q++[0]->(∀x,x∈q->0<x)->∀a0,l[0]?=some a0->(i<=q.length->s.1[0]?=some a0)/\(q.length<i->s.1[0]?=some (a0.1,ai .i64 a0.2.1 n,a0.2.2))) (m:=p.length) ⟨rfl,rfl,λq _ _ a0 h=>⟨λ_=>h,λh=>by omega⟩⟩ (by omega) ?_ ?_) λk0 D=>ab ⟨D.1,λe a0 h=>?_⟩
 .
  rintro i⟨m,d,v⟩z0⟨g,j,B⟩;have g:d=(i:Int):=g;subst g;have j:m.length=l.length:=j;refine be (cB z0) (bb (cQ z0) λ(x:Int)f=>?_);obtain⟨t,t0⟩:=r0 x (Y f);have w:x<ak m:=by rw[aJ,j];exact t0
  refine aq (ru t w) (bb (pg t w) λq0 k=>aq (ru t w) (bb (pg t w) λl0 C=>⟨_,rfl,?_,by show(aI m _ _).length=_;rw[jL,j],λq b c a0 z=>?_⟩));have e:ai .i64 (i:Int) 1=((i+1:Nat):Int):=bI (by omega);.rw[<-e]
  .
   rw[k]at C;cases C;obtain⟨p0,o0,j0⟩:=u0 q b c i x f;obtain⟨o,m0⟩:=B q b c a0 z;have o:i<=q.length->m[0]?=some a0:=o;show(i+1<=q.length->(aI m x _)[0]?=some a0)/\(q.length<i+1->(aI m x _)[0]?=_);refine⟨λh=>?_,λh=>?_⟩;.have x0:=p0 (by omega);unfold aI;rw[bE (by omega)];exact o (by omega)
   .have x0:=o0 (by omega);subst x0;have k:m[0]?=some q0:=k;rw[o (by omega)]at k;cases k;unfold aI;rw[Int.toNat_zero,bq (by have:=(aj.1 (o (by omega))).1;exact this)]
 .rintro⟨m,d,v⟩⟨g,j,B⟩;have g:d=((p.length:Nat):Int):=g;subst g;exact aw cJ ⟨_,rfl,j,λq b c a0 z=>(B q b c a0 z).2 (by rw[b,az];exact bf _)⟩
 .obtain⟨q,b,c⟩:=A e;exact D.2 q b c a0 h
theorem Dq(l:List fj)(a n:Int):Ok (yk (l,a,n,())) λr=>r.2.2.1=0->r.1.length=l.length/\∀a0,l[0]?=some a0->r.1[0]?=some (a0.1,ai .i64 a0.2.1 n,a0.2.2):=by
 unfold yk;refine bb (Tl l a n) λA k=>aN (λh=>ab λv=>absurd v (jh h)) λh=>?_;obtain⟨t,q⟩:=k (fH h);have o:=(tE t).1;refine bb (Dn l a) λg m=>?_;obtain⟨⟨p,u⟩,rfl⟩:∃y,y=g:=⟨g,rfl⟩;obtain⟨⟨f,z⟩,_⟩:=m;have f:p.length<=8:=f;refine aK (P:=λ_=>True) (bz (I:=λi s=>s=((i:Int),())) (m:=p.length) rfl (by omega) ?_ ?_) λ_ _=>bb (Tj l a n o) λD d=>ab λ_=>⟨d.1,d.2 q⟩
 .
  rintro i s e rfl;refine be (cB e) (bb (cQ e) λ(x:Int)w=>?_);obtain⟨b,j⟩:=z x (Y w);have c:x<ak l:=by rw[aJ];exact j
  refine bb (pg b c) λB _=>bb (pg b c) λC _=>aN (λ_=>bu (bu (ab λh=>by cases h))) λ_=>⟨_,rfl,?_⟩;show(ai .i64 (i:Int) 1,())=_;rw[bI (by omega)]
 .rintro s rfl;exact aw cJ ⟨_,rfl,trivial⟩
end Go.Bo
