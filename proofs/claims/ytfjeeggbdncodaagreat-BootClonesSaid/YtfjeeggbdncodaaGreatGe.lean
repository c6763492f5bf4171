/-
  Rules, functions and laws for the last text, part e.
-/
import Derived.Test.YtfjeeggbdncodaaGreatGd
set_option linter.unusedVariables false
set_option linter.unusedSimpArgs false
set_option linter.constructorNameAsVariable false
set_option linter.unusedSectionVars false
noncomputable section
set_option maxHeartbeats 4000000
namespace Go.Ls
open Go Go.Hm
section
variable{α β σ:Type}{Q:α->Prop}
theorem cC{o:Option α}{y:α}(h:Ok o λr=>r=y):o=some y:=by obtain⟨x,h,rfl⟩:=h;exact h
theorem cz{f:σ->Option (Sum σ (Sum β α))}(st:Nat->σ)(m:Nat){d:Nat}{x:σ}{b:β}{K:β->Option α}(e:x=st 0)(k:m<d)(a:∀i,i<m->Ok (f (st i)) λr=>r= .inl (st (i+1)))(h:Ok (f (st m)) λr=>r= .inr (.inl b))(g:Ok (K b) Q):Ok (aD (aB f d x) K) Q:=by
 refine aK (P:=λs=>s=b) (bz (I:=λi s=>s=st i) (m:=m) e k ?_ ?_) (λs a=>by subst a;exact g);.rintro i s j rfl;exact(a i j).mono λy c=>by subst c;rfl
 .rintro s rfl;exact h.mono λy c=>by subst c;rfl
theorem bj{o:Option α}{y:α}(h:Ok o λr=>r=y):Ok (ao (α:=β) o) λr=>r= .inr y:=by rw[cC h];exact⟨_,rfl,rfl⟩
end
end Go.Ls
namespace Go.Bo
open Go Go.Ls
theorem VS:Zu=Hj:=rfl
theorem VQ:Zr=Hh:=rfl
theorem VM:Zq=Hg:=rfl
theorem VN{n:Int}(a:0<=n)(h1:n<=64):VP (n,())=Da (n,()):=by
 have e:Da (n,())=some (er n (0,0,()),0,()):=by unfold Da;exact cC (aw (cH a) (aw (cH h1) (aq (jj a (by omega) (by decide)) (ab rfl))))
 rw[e];refine cC ?_;unfold VP;refine aw (cH a) (aw (cH h1) (cz (λi=>(List.replicate i (0,0,()),(i:Int),())) n.toNat rfl (by omega) (λi b=>?_) (aw (cH (by show n<=((n.toNat:Nat):Int);omega)) (bj (ab rfl))) (ab rfl)));refine be (eK (by show(i:Int)<n;omega)) (aq (ce (by rw[aR];show i+1<=_;omega) (by decide)) (ab ?_));show Sum.inl (List.replicate i _++[_],ai .i64 (i:Int) 1,())=_;rw[<-jx,bI (by omega)]
abbrev BL:=List (List Int)
abbrev Xt:=D jZ
def WQ:D yu:=(0,(0::0::0::0::0::0::0::0::[],0::0::[],(),()),())
def UX(c:D cc)(f:pj)(i:Nat):Xt:=(f.1,(i4 f:Int),(cn c i:Int),-1,-1,false,(0,false,()),WQ,mq (ot f) (i4 f),())
def nR(c:D cc):Nat->List Xt|0=>[]|i+1=>nR c i++match(ea c)[i]? with|some f=>[UX c f i]|none=>[]
def sa(c:D cc)(f:pj)(i:Nat)(b:BL):Nat->BL|0=>b|j+1=>(sa c f i b j).set (cn c i+1+j) (yK f j)
def mO(c:D cc):Nat->BL|0=>List.replicate (gq c) (List.replicate 32 0)|i+1=>match(ea c)[i]? with|some f=>(sa c f i (mO c i) (i4 f)).set (cn c i) (pp (i4 f))|none=>[]
theorem xR{c:D cc}{f:pj}{i:Nat}(h:(ea c)[i]?=some f):nR c (i+1)=nR c i++[UX c f i]:=by show nR c i++_=_;rw[h]
theorem A1{c:D cc}{f:pj}{i:Nat}(h:(ea c)[i]?=some f):mO c (i+1)=(sa c f i (mO c i) (i4 f)).set (cn c i) (pp (i4 f)):=by show(match(ea c)[i]? with|some f=>_|none=>_)=_;rw[h]
def Gb(c:D cc)(b:BL):Prop:=b.length=gq c/\∀x,x∈b->x.length=32
theorem M5{c:D cc}{b:BL}{i:Nat}{x:List Int}(h:Gb c b)(d:x.length=32):Gb c (b.set i x):=by
 refine⟨by rw[bC];exact h.1,λy a=>?_⟩;rcases cM a with a|rfl;.exact h.2 y a
 .exact d
theorem vA{c:D cc}{f:pj}{i:Nat}{b:BL}(a:LZ c f)(h:Gb c b):∀j,j<=i4 f->Gb c (sa c f i b j)
 |0,_=>h
 |j+1,d=>M5 (vA a h j (by omega)) (by unfold yK;rw[aY,cE];have:=a.m;omega)
theorem vB{c:D cc}(a:dq c=true):∀i,i<=(ea c).length->Gb c (mO c i)
 |0,_=>⟨aR,λx d=>by rw[dh d];rfl⟩
 |i+1,e=>by have b:(ea c)[i]?=some (ea c)[i]:=G (by omega);rw[A1 b];exact M5 (vA (Cu a (Y b)) (vB a i (by omega)) _ (ar _)) nA
theorem y6{c:D cc}:∀i,i<=(ea c).length->(nR c i).length=i
 |0,_=>rfl
 |i+1,b=>by have a:(ea c)[i]?=some (ea c)[i]:=G (by omega);rw[xR a,az,y6 i (by omega)];rfl
theorem I0{β:Type}{Q:β->Prop}{n:Nat}(f:n<=1000){K:BL×Unit->Option β}(c:Ok (K (List.replicate n (List.replicate 32 0),())) Q):Ok (aD (aB (λd2:BL×Int×Unit=>ad (ay d2.2.1 (ak (er (α:=List Int) (n:Int) []))) (aA (gP 32 32 1) (aA (a5 d2.1 d2.2.1) (aA (a5 d2.1 d2.2.1) (some (.inl (aI d2.1 d2.2.1 (er 32 0),ai .i64 d2.2.1 1,())))))) (ao (some (.inl (d2.1,()))))) 1000000000 (er (α:=List Int) (n:Int) [],0,())) K) Q:=by
 have d:er (n:Int) ([]:List Int)=List.replicate n []:=rfl;have b:ak (er (n:Int) ([]:List Int))=(n:Int):=by rw[d,aJ,aR]
 refine cz (λi=>(List.replicate i (List.replicate 32 0)++List.replicate (n-i) [],(i:Int),())) n rfl (by omega) (λi e=>?_) (aw (cH (by rw[b];exact bX _)) (bj (ab ?_))) c;.have a:a5 (List.replicate i (List.replicate 32 (0:Int))++List.replicate (n-i) []) (i:Int)=true:=eF (by simp;omega);refine be (eK (by rw[b];show(i:Int)<n;omega)) (aq (by decide) (aq a (aq a (ab ?_))));show Sum.inl (aI _ _ (List.replicate 32 0),ai .i64 (i:Int) 1,())=_;rw[oN rfl,bI (by omega)];congr 2;obtain⟨m,rfl⟩:∃m,n=i+1+m:=⟨n-(i+1),by omega⟩;generalize List.replicate 32 (0:Int)=z;rw[show i+1+m-i=m+1 by omega,show i+1+m-(i+1)=m by omega,g5 (n:=m) (a:=([]:List Int)),nZ _ _ (by simp),aR,ee,mD,jx,cA];rfl
 .show Sum.inl (List.replicate n (List.replicate 32 0)++List.replicate (n-n) [],())=_;rw[ee,o8,bi]
theorem Ns{c:D cc}(a:dq c=true){i:Nat}(hi:i<(ea c).length):cn c i<gq c:=by have b:(ea c)[i]?=some (ea c)[i]:=G hi;have:=su a b;have:=FO c;omega
theorem Qr{c:D cc}{f:pj}(a:LZ c f):pm .i64 (ak f.2.1) 32=(i4 f:Int):=by rw[aJ];have b:=a.s;have d:=a.xx;exact kW (n:=((i4 f:Nat):Int)) (by omega) (by omega)
theorem R3(f:pj):er f.1 false=mq (ot f) 0:=by show List.replicate (Int.toNat f.1) false=_;unfold mq ot;rw[o8,iw,jd]
theorem A3(c:D cc)(a:dq c=true):L3 (c,())=some (nR c (ea c).length,mO c (ea c).length,()):=by
 have y:=yX a;have B:=FN a;refine cC ?_;unfold L3;refine aa (yb a) (aa (mg a) (aq (jj (n:=(gq c:Int)) (by omega) (by omega) (by decide)) (I0 (show gq c<=1000 by omega) (cz (λi=>(mO c i,nR c i,(i:Int),())) (ea c).length rfl (by omega) (λi h=>?_) (aw cJ (bj (ab rfl))) (ab rfl)))));have g:(ea c)[i]?=some (ea c)[i]:=G h;generalize(ea c)[i]=f at g;have b:=Cu a (Y g);have n:=vB a i (by omega);have A:=b.s;have m:=b.xx;have w:=Qr b;refine be (cB h) (aK (P:=λs=>s=((sa c f i (mO c i) (i4 f)).set (cn c i) (pp (i4 f)),nR c i++[UX c f i],())) (aa (aC (l:=ea c) g) (aa (pB a h) (aa (x:=((0,false,()),())) rfl (aq (by rw[<-b.p];exact jj (by omega) (by omega) (by decide)) ?_)))) λs v=>by subst v;refine ab ?_;show Sum.inl (_,_,ai .i64 (i:Int) 1,())=_;rw[A1 g,xR g,bI (by omega)]);rw[w];refine cz (λj=>(sa c f i (mO c i) j,(f.1,(i4 f:Int),(cn c i:Int),-1,-1,false,(0,false,()),WQ,mq (ot f) j,()),(j:Int),())) (i4 f) ?_ (by omega) (λj l=>?_) (aw (cH (by show(i4 f:Int)<=_;exact bX _)) (bj (ab rfl))) ?_;.rw[<-R3];rfl
 .
  have u:=KG a g l;have k:=vA (i:=i) b n j (by omega);have o:j<(mq (ot f) j).length:=by rw[nW (by omega)];omega
  have t:=Cl (a:=cn c i) (j:=j) (by omega);have d:cn c i+1+j<(sa c f i (mO c i) j).length:=by rw[k.1];exact u
  refine be (eK (by show(j:Int)<_;omega)) (aq (eF o) (bb (cQ o) λ_ _=>aa (pB a h) ?_));simp only[t];refine aq (eF d) (aq (eF d) (aq (Ng b l) (bb (cQ d) λp r=>ab ?_)));have e:=Nh b l (k.2 p (Y r));show Sum.inl (aI _ _ (d7 p (eX f.2.1 _ _)),_,ai .i64 (j:Int) 1,())=_;rw[e,oN rfl,bI (by omega)];show Sum.inl (_,(f.1,_,_,_,_,_,_,_,aI (mq (ot f) j) (j:Int) true,()),_)=_;rw[CT (by omega)];rfl
 .
  have k:=vA (i:=i) b n (i4 f) (ar _);have d:cn c i<(sa c f i (mO c i) (i4 f)).length:=by rw[k.1];exact Ns a h
  have z:=y6 (c:=c) i (by omega);refine aa (JS b.s b.xx) (aa (Nb (by omega)) (aa (pB a h) (aq (eF d) (aq (eF d) (bb (cQ d) λq m=>aq (ce (by show(nR c i).length+1<=_;omega) (by decide)) (a4 ?_))))));have x:=k.2 q (Y m);show(aI _ _ (d7 q (pp (i4 f))),nR c i++[_],())=_;rw[uH x (mT nA.symm),dF (mT nA),oN rfl];rfl
theorem TC{p s:Nat}(a:s<=p)(hp:p<=16):Oh (mq p s,())=some (((2^s-1:Nat):Int),(0:Int),()):=by
 refine cC ?_;unfold Oh;have d:=nW a;refine aw (cH (by rw[aJ];show((mq p s).length:Int)<=16;omega)) (cz (λi=>(((2^min i s-1:Nat):Int),(i:Int),())) p rfl (by omega) (λi c=>?_) (aw (cH (by rw[aJ];show((mq p s).length:Int)<=(p:Int);omega)) (bj (ab rfl))) (ab (by show(_,_)=_;rw[iY a])))
 have b:ek .u64 (i:Int)=(i:Int):=by
  have:(List.range 16).all (λi=>decide (ek .u64 (Int.ofNat i)=Int.ofNat i))=true:=by kernel_rfl
  exact bA (bR.1 this i (eJ.2 (by omega)))
 refine be (eK (by rw[aJ];show(i:Int)<((mq p s).length:Int);omega)) (aa (aC (uN a c)) ?_);by_cases h:i<s
 .
  rw[av h];refine be rfl (aq (by rw[b];exact av (by omega)) (ab ?_));show Sum.inl (ai .i64 _ (fB .i64 1 (ek .u64 (i:Int))),ai .i64 (i:Int) 1,())=_;rw[b,bI (by omega),gZ (by omega),gZ (by omega)];have:(List.range 16).all (λi=>decide (ai .i64 ((2^i-1:Nat):Int) (fB .i64 1 (i:Int))=((2^(i+1)-1:Nat):Int)))=true:=by kernel_rfl
  rw[bA (bR.1 this i (eJ.2 (by omega)))]
 .rw[aX h];refine aw rfl (ab ?_);show Sum.inl (_,ai .i64 (i:Int) 1,())=_;rw[bI (by omega),iY (by omega),iY (by omega)]
theorem Pf:(List.range 17).all (λn=>match L1 ((n:Int),((2^n-1:Nat):Int),())with|some (h,e,())=>h==pp n&&e==0|none=>false)=true:=by unfold L1;simp only[ir];kernel_rfl
theorem RE{n:Nat}(a:n<=16):Ok (L1 ((n:Int),((2^n-1:Nat):Int),())) λr=>r.1=pp n:=by have h:=bR.1 Pf n (eJ.2 (by omega));revert h;cases L1 ((n:Int),((2^n-1:Nat):Int),())with
 |none=>exactλh=>by cases h
 |some x=>obtain⟨h,e,⟨⟩⟩:=x;intro q;have q:(h==pp n&&e==0)=true:=q;rw[ae]at q;exact⟨_,rfl,eq_of_beq q.1⟩
theorem RO{c:D cc}{f:pj}(a:LZ c f){j:Nat}(g:j<i4 f){x:List Int}(b:x.length=32):d7 x (eX f.2.1 (d8 .i64 (j:Int) 32) (d8 .i64 (ai .i64 (j:Int) 1) 32))=yK f j:=by
 have d:=a.xx;have k:=a.s;have i:=a.m;rw[bI (by omega),yR (by omega),yR (by omega)];have e:eX f.2.1 ((32*j:Nat):Int) ((32*(j+1):Nat):Int)=yK f j:=by unfold eX yK;rw[db,db,show 32*(j+1)-32*j=32 by omega]
 rw[e];have h:(yK f j).length=32:=by unfold yK;rw[aY,cE];omega
 rw[uH b (by omega),dF (by omega)]
theorem VK(c:D cc)(a:dq c=true):VL (c,DG c,())=some (nR c (ea c).length,mO c (ea c).length,()):=by
 have z:=yX a;have z0:=FN a;refine cC ?_;unfold VL;refine aa (mg a) (aq (jj (n:=(gq c:Int)) (by omega) (by omega) (by decide)) (I0 (show gq c<=1000 by omega) (cz (λi=>(mO c i,nR c i,(i:Int),())) (ea c).length rfl (by omega) (λi h=>?_) (aw cJ (bj (ab rfl))) (ab rfl))));have g:(ea c)[i]?=some (ea c)[i]:=G h;generalize(ea c)[i]=f at g;have b:=Cu a (Y g);have o:=vB a i (by omega);have C:=b.s;have n:=b.xx;have x:=Qr b;refine be (cB h) (aK (P:=λs=>s=((sa c f i (mO c i) (i4 f)).set (cn c i) (pp (i4 f)),nR c i++[UX c f i],())) (aa (aC (l:=ea c) g) (aq (by rw[<-b.p];exact jj (by omega) (by omega) (by decide)) ?_)) λs w=>by subst w;refine ab ?_;show Sum.inl (_,_,ai .i64 (i:Int) 1,())=_;rw[A1 g,xR g,bI (by omega)]);rw[x];refine cz (λj=>(sa c f i (mO c i) j,mq (ot f) j,(j:Int),())) (i4 f) ?_ (by omega) (λj p=>?_) (aw (cH (by show(i4 f:Int)<=_;exact bX _)) (bj (ab rfl))) ?_;.rw[<-R3];rfl
 .
  have v:=KG a g p;have k:=vA (i:=i) b o j (by omega);have q:j<(mq (ot f) j).length:=by rw[nW (by omega)];omega
  have u:=Cl (a:=cn c i) (j:=j) (by omega);have d:cn c i+1+j<(sa c f i (mO c i) j).length:=by rw[k.1];exact v
  have t:dJ (d8 .i64 (j:Int) 32) (d8 .i64 (ai .i64 (j:Int) 1) 32) (ak f.2.1)=true:=by have B:=b.m;rw[bI (by omega),yR (by omega),yR (by omega),aJ];unfold dJ;rw[av (by omega),av (by omega),av (by omega)];rfl
  refine be (eK (by show(j:Int)<_;omega)) (aq (eF q) (bb (cQ q) λ_ _=>aa (pB a h) ?_));simp only[u];refine aq (eF d) (aq (eF d) (aq t (bb (cQ d) λl m=>ab ?_)));have e:=RO b p (k.2 l (Y m));show Sum.inl (aI _ _ (d7 l (eX f.2.1 _ _)),aI (mq (ot f) j) (j:Int) true,ai .i64 (j:Int) 1,())=_;rw[e,oN rfl,bI (by omega),CT (by omega)];rfl
 .
  have k:=vA (i:=i) b o (i4 f) (ar _);have d:cn c i<(sa c f i (mO c i) (i4 f)).length:=by rw[k.1];exact Ns a h
  have A:=y6 (c:=c) i (by omega);refine aa (TC b.s b.xx) (bb (RE (by omega)) λl m=>aa (pB a h) (aq (eF d) (aq (eF d) (bb (cQ d) λr n=>aa (pB a h) (aa (x:=((0,false,()),())) rfl (aq (ce (by show(nR c i).length+1<=_;omega) (by decide)) (a4 ?_)))))));have y:=k.2 r (Y n);show(aI _ _ (d7 r l.1),nR c i++[_],())=_;rw[m,uH y (mT nA.symm),dF (mT nA),oN rfl];rfl
end Go.Bo
set_option maxHeartbeats 4000000
namespace Go.Bo
open Go Go.Ls
theorem TF(l:List Int)(s:Int)(h:l.all (aV 1 16)=true)(c:l.length<=4)(e:aV 0 64 s=true):JO (l,s,())=some (MS l s,0,()):=by
 unfold JO;show ad (ay 4 (ak l)) _ _=_;rw[eb (b:=ay 4 (ak l)) (cH (by rw[aJ];omega))];rw[eE (xs:=l) (st:=λ(b:Int×List Int)i=>(b.2,b.1,(i:Int),())) (g:=λ_ b x=>EE b x) (fin:=λb=>(b.2,b.1,())) (b:=((0:Int),([]:List Int)))];rotate_left;.intro b i y a;have d:=MK h a;refine(et a).trans ?_;rw[eb (b:=ay y 1) (cH d.1),aC a,cG,eb (b:=ay 16 y) (cH d.2),cG,bI (gv a (aU c (by decide)))];unfold mw EE;dsimp only;show aA (aO b.2 [b.1] 8) (some (Sum.inl (b.2++[b.1],ai .i64 b.1 (ai .i64 1 y),((i+1:Nat):Int),())))=_;cases aO b.2 [b.1] 8<;>rfl
 .exactλb=>ey
 .rfl
 .omega
 rw[Ce l 0 0 [] h (by omega) (by omega) (by simp;omega),ik];exact Ih h c e _ rfl
theorem NE(c:D cc)(h:dq c=true):VW (c,())=some (DG c,()):=by obtain⟨a,b,d⟩:=mi h;unfold VW;refine(eT (λo=>aD o _) (Ii c (by rw[<-mG];omega))).trans ?_;rw[ik];show am (JO (oO c,c.2.2.2.2.2.2.1,())) _=_;rw[TF _ _ a b d];rfl
structure CL (c : D cc) : Prop where
  n : c.1.length ≤ 4
  z : c.2.1.length ≤ 6
  a : c.2.2.2.2.2.2.2.2.2.2.2.1.length ≤ 8
  f : (ea c).length ≤ 4
  d : ∀ f, f ∈ ea c → f.2.1.length ≤ 512
  p : c.2.2.2.2.2.2.2.2.2.2.2.2.1.length ≤ 8
  q : ∀ p, p ∈ c.2.2.2.2.2.2.2.2.2.2.2.2.1 → p.2.1.length ≤ 1000
theorem uJ{c:D cc}(a:u5 c):CL c:=by
 refine⟨?_,?_,(tE a.jR).1,yX a.om,λf d=>?_,a.np.2,λp e=>by have:=(a.prog p e).1;omega⟩;.have:=a.yP;unfold im at this;simp only[ae]at this;have:=di this.1;omega
 .have:=a.A6;unfold gS at this;simp only[ae]at this;have:=di this.1;omega
 .have b:=Cu a.om d;have g:=b.m;have h:=b.s;have i:=b.xx;omega
def IR(c:D cc)(f:List pj)(p:List (D tW)):D cc:=(c.1,c.2.1,c.2.2.1,c.2.2.2.1,c.2.2.2.2.1,c.2.2.2.2.2.1,c.2.2.2.2.2.2.1,c.2.2.2.2.2.2.2.1,c.2.2.2.2.2.2.2.2.1,c.2.2.2.2.2.2.2.2.2.1,f,c.2.2.2.2.2.2.2.2.2.2.2.1,p,())
theorem VU(c:D cc)(d:u5 c):VV (c,())=some (c,()):=by
 have k:=uJ d;have l:=k.n;have n:=k.z;have h:=k.a;have j:=k.f;have m:=k.p;refine cC ?_;unfold VV;refine aa (x:=(c.1,())) (cC (by unfold TE;exact aq (ce (by show 0+c.1.length<=_;omega) (by decide)) (ab rfl))) (aq (ce (by show 0+c.2.1.length<=_;omega) (by decide)) (aq (ce (by show 0+c.2.2.2.2.2.2.2.2.2.2.2.1.length<=_;omega) (by decide)) ?_));refine cz (λi=>(IR c ((ea c).take i) [],(i:Int),())) (ea c).length rfl (by omega) (λi b=>?_) (aw cJ (bj (ab rfl))) ?_;.have a:(ea c)[i]?=some (ea c)[i]:=G b;generalize(ea c)[i]=f at a;have e:=k.d f (Y a);refine be (cB b) (aa (aC (l:=ea c) a) (aa (x:=(f.2.1,())) (cC (by unfold TD;exact aq (ce (by show 0+f.2.1.length<=_;omega) (by decide)) (ab rfl))) (aq (ce (by show((ea c).take i).length+1<=_;rw[aY];omega) (by decide)) (ab ?_))));show Sum.inl (IR c ((ea c).take i++[f]) [],ai .i64 (i:Int) 1,())=_;rw[dC a,bI (by omega)]
 refine cz (λi=>(IR c ((ea c).take (ea c).length) (c.2.2.2.2.2.2.2.2.2.2.2.2.1.take i),(i:Int),())) c.2.2.2.2.2.2.2.2.2.2.2.2.1.length rfl (by omega) (λi b=>?_) (aw cJ (bj (ab rfl))) (ab ?_);.have a:c.2.2.2.2.2.2.2.2.2.2.2.2.1[i]?=some c.2.2.2.2.2.2.2.2.2.2.2.2.1[i]:=G b;generalize c.2.2.2.2.2.2.2.2.2.2.2.2.1[i]=p at a;have g:=k.q p (Y a);refine be (cB b) (aa (aC a) (aa (x:=(p.2.1,())) (cC (by unfold JN;exact aq (ce (by show 0+p.2.1.length<=_;omega) (by decide)) (ab rfl))) (aq (ce (by show(c.2.2.2.2.2.2.2.2.2.2.2.2.1.take i).length+1<=_;rw[aY];omega) (by decide)) (ab ?_))));show Sum.inl (IR c _ (c.2.2.2.2.2.2.2.2.2.2.2.2.1.take i++[p]),ai .i64 (i:Int) 1,())=_;rw[dC a,bI (by omega)];rfl
 .show(IR c ((ea c).take (ea c).length) (c.2.2.2.2.2.2.2.2.2.2.2.2.1.take _),())=_;rw[bO,bO];rfl
def AH(n:Int)(b:BL):D ns:=(n,0,b,[],[],())
theorem Hf{n:Int}{b:BL}(h1:1<=n)(h2:n<=16)(e:1<=b.length)(f:b.length<=256)(d:∀x,x∈b->x.length=32):L2 (n,b,())=some (AH n b,0,()):=by
 refine cC ?_;unfold L2;refine bb (JQ n b h1 h2 e f d) λr g=>aw (by rw[g];rfl) (aa (x:=(AH n b,())) (cC ?_) (ab rfl));unfold JP;refine cz (λi=>(AH n (b.take i),(i:Int),())) b.length rfl (by omega) (λi a=>?_) (aw cJ (bj (ab rfl))) ?_;.have c:b[i]?=some b[i]:=G a;generalize b[i]=x at c;refine be (cB a) (aa (aC c) (aq (ce (by have:=d x (Y c);show 0+x.length<=_;omega) (by decide)) (aq (ce (by show(b.take i).length+1<=_;rw[aY];omega) (by decide)) (ab ?_))));show Sum.inl (AH n (b.take i++[x]),ai .i64 (i:Int) 1,())=_;rw[dC c,bI (by omega)]
 rw[bO];exact cz (λ_=>(AH n b,(0:Int),())) 0 rfl (by decide) (λi a=>by omega) (aw (cH (bX 0)) (bj (ab rfl))) (cz (λ_=>(AH n b,(0:Int),())) 0 rfl (by decide) (λi a=>by omega) (aw (cH (bX 0)) (bj (ab rfl))) (ab rfl))
theorem Tf{x:List Int}(h:x.length<=100):Fq (x,())=some (x,()):=by refine cC ?_;unfold Fq;refine cz (λi=>(x.take i,(i:Int),())) x.length rfl (by omega) (λi b=>?_) (aw cJ (bj (ab rfl))) (ab (by show(x.take x.length,())=_;rw[bO]));have a:x[i]?=some x[i]:=G b;generalize x[i]=y at a;refine be (cB b) (aa (aC a) (aq (ce (by show(x.take i).length+1<=_;rw[aY];omega) (by decide)) (ab ?_)));show Sum.inl (x.take i++[y],ai .i64 (i:Int) 1,())=_;rw[dC a,bI (by omega)]
theorem VI{n:Int}{b:BL}(h1:1<=n)(h2:n<=16)(e:1<=b.length)(f:b.length<=256)(d:∀x,x∈b->x.length=32):VJ (n,b,())=some (AH n b,0,()):=by
 refine cC ?_;unfold VJ;refine aw (cH h1) (aw (cH h2) (aw (cH (by rw[aJ];show(1:Int)<=(b.length:Int);omega)) (aw (cH (by rw[aJ];show(b.length:Int)<=256;omega)) (aa (x:=((0:Int),())) (cC ?_) (aw rfl (aa (x:=(AH n b,())) (cC ?_) (ab rfl)))))));.unfold TB;refine cz (λi=>((i:Int),())) b.length rfl (by omega) (λi a=>?_) (aw cJ (bj (ab rfl))) (ab rfl);have c:b[i]?=some b[i]:=G a;refine be (cB a) (aa (aC c) (aw (by rw[gM,aJ,d _ (Y c)];rfl) (ab ?_)));show Sum.inl (ai .i64 (i:Int) 1,())=_;rw[bI (by omega)]
 unfold TA;refine cz (λi=>(AH n (b.take i),(i:Int),())) b.length rfl (by omega) (λi a=>?_) (aw cJ (bj (ab rfl))) ?_;.have c:b[i]?=some b[i]:=G a;generalize b[i]=x at c;refine be (cB a) (aa (aC c) (aa (Tf (by have:=d x (Y c);omega)) (aq (ce (by show(b.take i).length+1<=_;rw[aY];omega) (by decide)) (ab ?_))));show Sum.inl (AH n (b.take i++[x]),ai .i64 (i:Int) 1,())=_;rw[dC c,bI (by omega)]
 rw[bO];exact cz (λ_=>(AH n b,(0:Int),())) 0 rfl (by decide) (λi a=>by omega) (aw (cH (bX 0)) (bj (ab rfl))) (cz (λ_=>(AH n b,(0:Int),())) 0 rfl (by decide) (λi a=>by omega) (aw (cH (bX 0)) (bj (ab rfl))) (ab rfl))
end Go.Bo
set_option maxHeartbeats 4000000
namespace Go.Ls
open Go Go.Hm
section
variable{α σ τ:Type}
theorem KW{f:σ->Option (Sum σ α)}{g:τ->Option (Sum τ α)}(a:σ->τ)(h:∀s,g (a s)=(f s).map λ| .inl s=> .inl (a s)| .inr r=> .inr r)(n:Nat)(x:σ):aB g n (a x)=aB f n x:=by rw[ir,ir];induction n generalizing x with
 |zero=>rfl
 |succ n b=>show aD (g (a x)) (jk g n)=aD (f x) (jk f n);rw[h];cases f x with
 |none=>rfl
 |some y=>cases y with
 |inl s=>exact b s
 |inr r=>rfl
theorem pG {β : Type} {f : σ → Option (Sum σ (Sum β α))} (st : Nat → σ) (m : Nat) {c : Nat} {x : σ} {b : β} (d : x = st 0) (h : m < c) (j : ∀ i, i < m → Ok (f (st i)) fun r => r = .inl (st (i + 1)) ) (e : Ok (f (st m)) fun r => r = .inr (.inl b) ) : aB f c x = some (.inl b) := by
 refine cC (bz (I := fun i s => s = st i) (m := m) d h ?_ ?_ |>.mono (fun y a => ?_) (Q := hN (fun s => s = b) fun _ => False ));· rintro i s g rfl;exact (j i g).mono fun y a => by subst a;rfl
 · rintro s rfl;exact e.mono fun y a => by subst a;rfl
 · cases y with
  | inl s => exact eT Sum.inl a
  | inr r => exact a.elim
theorem wI{f g:σ->Option (Sum σ α)}{I:σ->Prop}{x:σ}(b:I x)(h:∀s,I s->f s=g s/\∀a,g s=some (.inl a)->I a)(n:Nat):aB f n x=aB g n x:=by rw[ir,ir];induction n generalizing x with
 |zero=>rfl
 |succ n i=>obtain⟨c,d⟩:=h x b;show aD (f x) (jk f n)=aD (g x) (jk g n);rw[c];cases e:g x with
 |none=>rfl
 |some y=>cases y with
 |inl s=>exact i (d s e)
 |inr r=>rfl
end
end Go.Ls
namespace Go.Bo
open Go Go.Ls
theorem Jx(x):Jy x=rc x:=by unfold Jy rc;rw[qu,A4]
theorem Jw(x):Fp x=wn x:=by
 unfold Fp wn;rw[Jx];congr 1;funext a;congr 1;refine eT (λo=>aD o _) (KW (λs:List Int×Int×Unit=>(s.2.1,s.1,())) (λs=>?_) 1000000000 ([],x.2.1,()));show ad (cL 0 s.2.1) _ _=Option.map _ (ad (cL 0 s.2.1) _ _);cases cL 0 s.2.1;.rfl
 .
  show aA _ _=Option.map _ (aA _ _);cases aO s.1 [s.2.1] 8;.rfl
  .show am _ _=Option.map _ (am _ _);cases ax x.1 s.2.1<;>rfl
theorem Te{l:List fj}(d:l.length<=8)(a n:Int):N4 (l,a,n,())=Fv (l,a,n,()):=by
 unfold N4 Fv;refine(eT (λo=>aD o _) (pG (b:=(l,())) (λi=>(l.take i,(i:Int),())) l.length rfl (by omega) (λi b=>?_) (aw cJ (bj (ab (by show(Sum.inl (l.take l.length,()):Sum (List fj×Unit) _)=_;rw[bO])))))).trans ?_;.have c:l[i]?=some l[i]:=G b;refine be (cB b) (aa (aC c) (aq (ce (by show(l.take i).length+1<=_;rw[aY];omega) (by decide)) (ab ?_)));show Sum.inl (l.take i++[l[i]],ai .i64 (i:Int) 1,())=_;rw[dC c,bI (by omega)]
 rw[ik,Jw];show am (wn (l,a,())) _=aA (aO [] l 40) (am (wn (l,a,())) _);rw[show aO [] l 40=true from ce (by show 0+l.length<=_;omega) (by decide),lW];congr 1;funext p;refine eT (λo=>aD o _) (wI (I:=λ_=>True) trivial (λs _=>⟨?_,λ_ _=>trivial⟩) _);show ad (ay s.2.1 (ak p.1)) _ _=ad (ay s.2.1 (ak p.1)) _ _;congr 1
 cases h:ax p.1 s.2.1 with
  |none=>rfl
  |some v=>show am (am (some v) _) _=_;rfl
theorem Tx(l:List fj)(a:Int):Og (l,a,1,())=yk (l,a,1,()):=by
 unfold Og yk JH;dsimp only;rw[A4,qu,cG,cG];by_cases c:eg l=0
 .
  rw[c,Jx];show am (rc (l,a,())) _=am (am (rc (l,a,())) _) _
  cases rc (l,a,())with
   |none=>rfl
   |some b=>
   obtain⟨b,u⟩:=b
   cases b with
    |false=>rfl
    |true=>
    show am (yl (1,())) _=am (am (wk (1,())) _) _;rw[TP,yg];show am (Fp (l,a,())) _=am (wn (l,a,())) _;rw[Jw];obtain⟨⟨p,u⟩,e,⟨z,t⟩,_⟩:=Dn l a;rw[e,cG,cG,Te (tE c).1];replace t:∀q:Int,q∈p->0<=q/\q<(l.length:Int):=t;replace z:p.length<=8:=z;refine eT (λo=>aD o _) (wI (I:=λs:Int×Unit=>0<=s.1) (bX 0) (λs w=>?_) _);obtain⟨i,v⟩:=s;have w:0<=i:=w;obtain⟨n,rfl⟩:∃n:Nat,i=(n:Int):=⟨i.toNat,by omega⟩;by_cases f:n<p.length
    .
     have g:p[n]?=some p[n]:=G f;generalize p[n]=x at g;obtain⟨z0,y0⟩:=t x (Y g);obtain⟨k,rfl⟩:∃k:Nat,@Eq Int x (k:Int):=⟨Int.toNat x,by omega⟩;have j:l[k]?=some (l[k]'(by omega)):=G (by omega);generalize l[k]'(by omega)=y at j;have d:=bR.1 (tE c).2.2.2 y (Y j);unfold qD at d;simp only[ae]at d;have C:=di d.1;have D:=di d.2.2.2;have B:ay (bo .i64 y.2.2.2.2.1 y.2.1) 1=ay y.2.2.2.2.1 (ai .i64 y.2.1 1):=by rw[fk (by omega) (by omega),cD (by omega) (by omega)];unfold ay;show decide _=decide _;exact decide_eq_decide.2 (by omega)
     constructor;.dsimp only;rw[ez (cB f),ez (cB f)];simp only[cG,aC g,aC j];rw[B]
     .intro A h;dsimp only at h;rw[ez (cB f)]at h;simp only[cG,aC g,aC j]at h;cases c:ay y.2.2.2.2.1 (ai .i64 y.2.1 1)with
      |true=>rw[c]at h;cases h
      |false=>rw[c]at h;have h:Sum.inl (ai .i64 (n:Int) 1,())=Sum.inl A:=eu h;have h:=Sum.inl.inj h;rw[bI (by omega)]at h;rw[<-h];exact Int.natCast_nonneg _
    .
     have m:ay (n:Int) (ak p)=false:=cH (by rw[aJ];omega);constructor;.dsimp only;rw[eb m,eb m]
     .intro A h;dsimp only at h;rw[eb m]at h;cases h
 .
  have r:bH (eg l) 0=true:=by rw[gM,aX c];rfl
  rw[ez r,ez r,cG];show _=ad (bH (eg l) 0) _ _;rw[ez r]
theorem Tw{f:Int}(a:0<=f)(h1:f<=256):Oe (f,())=sy (f,()):=by unfold Oe sy yh;show ad (ay f 0) _ (ad (ay 4294967295 f) _ _)=am (ad (cL 0 f) (some (cL f 4294967295,())) _) _;rw[eb (cH a),eb (cH (by omega)),ez (lz a),lz (show f<=4294967295 by omega),cG];rfl
end Go.Bo
namespace Go.Zs
structure lc where
  BW : Int
  Ci : Int
  start : Int
  count : Int
  min : Int
  gV : List (List Int)
def fx(z:lc)(f:Int)(k:Nat):Bool:=decide (z.start<=f)&&decide (f.tmod (2^k)=0)&&decide ((2:Int)^k<=z.count)&&decide (f<=z.start+z.count-2^k)
def eS(z:lc):Bool:=decide (0<=z.BW)&&decide (z.BW<4)&&(decide (z.Ci=0)||decide (z.Ci=1))&&decide (0<=z.start)&&decide (z.start<256)&&decide (1<=z.count)&&decide (z.count<=256-z.start)&&decide (0<=z.min)&&decide (z.min<=z.count)
def x7(l:List Int):Prop:=l.Pairwise (.< .)
def lb(l:List Int)(t:Int):Nat:=l.countP λx=>decide (x<t)
theorem x7.nil:x7 []:=List.Pairwise.nil
theorem xi{l:List Int}(h:x7 l){i j:Nat}{x y:Int}(hi:l[i]?=some x)(d:l[j]?=some y)(c:i<j):x<y:=by obtain⟨a,rfl⟩:=aj.1 hi;obtain⟨b,rfl⟩:=aj.1 d;exact hT.1 h i j a b c
def IZ(f:Int)(k:Nat):Int:=((f.toNat^^^2^k:Nat):Int)
theorem lO{z:lc}(h:eS z=true):0<=z.BW/\z.BW<4/\(z.Ci=0\/z.Ci=1)/\0<=z.start/\z.start<256/\1<=z.count/\z.count<=256-z.start/\0<=z.min/\z.min<=z.count:=by unfold eS at h;simp only[ae,ff,bF]at h;omega
theorem lT{z:lc}{f:Int}{k:Nat}(a:eS z=true)(h:fx z f k=true):0<=f/\f+2^k<=256/\z.start<=f/\f+2^k<=z.start+z.count/\f.tmod (2^k)=0:=by have b:=lO a;unfold fx at h;simp only[ae,bF]at h;omega
theorem Qu{l:List Int}:∀{a:Int},x7 l->(∀f,f∈l->a<=f)->∀{i:Nat}{x:Int},l[i]?=some x->a+i<=x:=by induction l with
 |nil=>intro a _ _ i x b;simp at b
 |cons y l h=>intro a g c i x b;cases i with
 |zero=>simp at b;subst b;have:=c y (by simp);simpa using this
 |succ i=>have d:=hY.1 g;have:=h (a:=a+1) d.2 (λf e=>by have j:=c y (by simp);have k:=d.1 f e;omega) (i:=i) (x:=x) (by simpa using b);omega
theorem Bp{l:List Int}(d:x7 l)(h:∀f,f∈l->0<=f/\f<256):l.length<=256:=by
 rcases Nat.eq_zero_or_pos l.length with b|b;.omega
 .have a:l[l.length-1]?=some l[l.length-1]:=G (by omega);have e:=Qu d (λf c=>(h f c).1) a;have g:=(h _ (Y a)).2;omega
def fV(z:lc)(k:Nat):List Int:=z.gV.getD k []
def aI(z:lc)(k:Nat)(l:List Int):lc:={z with gV:=z.gV.set k l}
theorem R0:∀k:Fin 4,∀x:Fin 256,x.val%2^k.val=0->x.val^^^2^k.val=if x.val%2^(k.val+1)=0 then x.val+2^k.val else x.val-2^k.val:=by decide+kernel
theorem jc{z:lc}(h:eS z=true){x:Int}{k:Nat}:fx z x k=true↔z.start≤x∧x%2^k=0∧(2:Int)^k≤z.count∧x≤z.start+z.count-2^k:=by
 have e:=lO h;unfold fx;simp only[ae,bF];constructor;·rintro⟨⟨⟨b,a⟩,c⟩,d⟩;rw[fZ (by omega)]at a;exact⟨b,a,c,d⟩
 ·rintro⟨b,a,c,d⟩;rw[←fZ (by omega)]at a;exact⟨⟨⟨b,a⟩,c⟩,d⟩
theorem GE{k:Nat}(h:k<=4):k=0\/k=1\/k=2\/k=3\/k=4:=by omega
theorem KC:(2:Int)^0=1:=rfl
theorem X7:(2:Int)^1=2:=rfl
theorem X6:(2:Int)^2=4:=rfl
theorem X5:(2:Int)^3=8:=rfl
theorem Z8:(2:Int)^4=16:=rfl
theorem AY{x:Int}{k:Nat}(c:k<4)(a:0<=x)(h1:x<256)(f:x%2^k=0):x%2^(k+1)=0/\IZ x k=x+2^k\/x%2^(k+1)=2^k/\IZ x k=x-2^k:=by
 obtain⟨m,rfl⟩:=rD a;have e:m<256:=by omega
 have h:=R0 ⟨k,c⟩ ⟨m,e⟩;simp only at h;have b:IZ (m:Int) k=((m^^^2^k:Nat):Int):=by simp[IZ]
 have d:k=0\/k=1\/k=2\/k=3:=by omega
 rw[b];rcases d with rfl|rfl|rfl|rfl;.have:=h (by omega);simp only[Nat.reducePow,Nat.reduceAdd,KC,X7]at*;split at this<;>omega
 .simp only[Nat.reducePow,Nat.reduceAdd,X7,X6]at*;have:=h (by omega);split at this<;>omega
 .simp only[Nat.reducePow,Nat.reduceAdd,X6,X5]at*;have:=h (by omega);split at this<;>omega
 .simp only[Nat.reducePow,Nat.reduceAdd,X5,Z8]at*;have:=h (by omega);split at this<;>omega
theorem WS{x y f:Int}{k j:Nat}(b:k<=j)(a:j<=4)(e:x%2^k=0)(g:y%2^j=0)(h1:x<=f)(h2:f<x+2^k)(c:y<=f)(d:f<y+2^j):y<=x/\x+2^k<=y+2^j:=by rcases GE a with rfl|rfl|rfl|rfl|rfl<;>rcases GE (aU b a)with rfl|rfl|rfl|rfl|rfl<;>simp only[KC,X7,X6,X5,Z8]at* <;>omega
theorem MM{z:lc}(h:z.gV.length=5){k:Nat}(a:5<=k):fV z k=[]:=by unfold fV;rw[ck,fA (by omega)];rfl
theorem Q6{z:lc}(h:z.gV.length=5){k j:Nat}(b:k<5){l:List Int}:fV (aI z k l) j=if j=k then l else fV z j:=by
 unfold fV aI;simp only[ck,gR];by_cases a:k=j;.subst a;rw[aE rfl,aE rfl,aE (by omega)];rfl
 .rw[aG a,aG λe=>a e.symm]
theorem B7{z:lc}(h:z.gV.length=5){k:Nat}(a:k<5):z.gV[k]?=some (fV z k):=by unfold fV;rw[ck,G (by omega)];rfl
def qB(z:lc)(f:Int):Prop:=∃k x,x∈fV z k/\x<=f/\f<x+2^k
structure ry (z : lc) : Prop where
  eS : eS z = true
  len : z.gV.length = 5
  yz : ∀ k, x7 (fV z k)
  ko : ∀ k x, x ∈ fV z k → fx z x k = true
  IC : ∀ k x j y f, x ∈ fV z k → y ∈ fV z j → x ≤ f → f < x + 2 ^ k → y ≤ f → f < y + 2 ^ j → k = j ∧ x = y
  jQ : ∀ k x, k < 4 → x ∈ fV z k → IZ x k ∈ fV z k → fx z (min x (IZ x k)) (k + 1) = false
section
variable{z z1 z2:lc}
theorem ry.GE(h:ry z){k:Nat}{x:Int}(b:x∈fV z k):k<=4:=by
 rcases cO k 5 with a|a;.omega
 .rw[MM h.len a]at b;cases b
theorem ry.Lz(h:ry z){k:Nat}{x:Int}(c:fx z x k=true):0<=x/\x+2^k<=256/\z.start<=x/\x+2^k<=z.start+z.count/\x%2^k=0:=by have a:=lT h.eS c;have b:=(jc h.eS).1 c;exact⟨a.1,a.2.1,b.1,by omega,b.2.1⟩
theorem mY(k:Nat):(0:Int)<2^k:=Int.pow_pos (by omega)
theorem BI(k:Nat):(2:Int)^(k+1)=2^k+2^k:=by rw[mV];omega
theorem Sf{x:Int}{k:Nat}(h:x%2^(k+1)=0):x%2^k=0/\(x+2^k)%2^k=0:=by
 obtain⟨c,rfl⟩:=Int.dvd_of_emod_eq_zero h;rw[mV,Int.mul_assoc];constructor;.exact Int.mul_emod_right _ _
 .rw[show(2:Int)^k*(2*c)+2^k=2^k*(2*c+1)by rw[Int.mul_add,Int.mul_one]];exact Int.mul_emod_right _ _
theorem ry.M4(h:ry z):∀(k:Nat)(x:Int),k<=4->fx z x k=true->(∀f,x<=f->f<x+2^k->qB z f)->∃j y,k<=j/\y∈fV z j/\y<=x/\x+2^k<=y+2^j:=by
 intro k
 induction k with
  |zero=>intro x _ i g;obtain⟨j,y,u0,d,q⟩:=g x (bX _) (by rw[KC];omega);exact⟨j,y,aP _,u0,d,by rw[KC];omega⟩
  |succ k s=>
  intro x m0 i g;have e:=h.Lz i;have n0:=(jc h.eS).1 i;have n:=Sf e.2.2.2.2;have j0:=BI k;have i0:=mY k;have y0:fx z x k=true:=(jc h.eS).2 ⟨by omega,n.1,by omega,by omega⟩;have x0:fx z (x+2^k) k=true:=(jc h.eS).2 ⟨by omega,n.2,by omega,by omega⟩;obtain⟨l,m,r0,b,u,q0⟩:=s x (by omega) y0 λf d q=>g f d (by omega);obtain⟨a,t,p0,c,v,o0⟩:=s (x+2^k) (by omega) x0 λf d q=>g f (by omega) (by omega);have w0:=h.GE b;have v0:=h.GE c;have t0:=(h.Lz (h.ko _ _ b)).2.2.2.2;have s0:=(h.Lz (h.ko _ _ c)).2.2.2.2;by_cases l0:k<l;.obtain⟨o,p⟩:=WS (f:=x) (show k+1<=l by omega) w0 e.2.2.2.2 t0 (bX _) (by omega) u (by omega);exact⟨l,m,by omega,b,o,p⟩
  .
   by_cases k0:k<a;.obtain⟨o,p⟩:=WS (f:=x+2^k) (show k+1<=a by omega) v0 e.2.2.2.2 s0 (by omega) (by omega) v (by omega);exact⟨a,t,by omega,c,o,p⟩
   .
    exfalso;have w:l=k:=by omega
    have A:a=k:=by omega
    subst w;subst A;have B:m=x:=by omega
    have C:t=x+2^a:=by omega
    subst B;subst C;have z0:=AY (x:=m) (k:=a) (by omega) (by omega) (by omega) n.1;rcases z0 with⟨_,r⟩|⟨D,_⟩;.have:=h.jQ a m (by omega) b (by rw[r];exact c);rw[r,Int.min_eq_left (by omega),i]at this;cases this
    .rw[e.2.2.2.2]at D;omega
theorem HB:∀{l m:List Int},x7 l→x7 m→(∀x,x∈l↔x∈m)→l=m
 |[],[],_,_,_=>rfl
 |[],b::m,_,_,h=>by have:=(h b).2 (by simp);cases this
 |a::l,[],_,_,h=>by have:=(h a).1 (by simp);cases this
 |a::l,b::m,n,o,h=>by
  have f:=hY.1 n;have g:=hY.1 o
  have k:a=b:=by
   have i:=(h a).1 (by simp);have j:=(h b).2 (by simp);rcases co.1 i with e|e;·exact e
   ·
    rcases co.1 j with d|d;·exact d.symm
    ·have:=g.1 a e;have:=f.1 b d;omega
  subst k;congr 1;refine HB f.2 g.2 fun x=>?_;constructor
  ·
   intro c;rcases co.1 ((h x).1 (by simp[c]))with e|e;·have:=f.1 x c;omega
   ·exact e
  ·
   intro c;rcases co.1 ((h x).2 (by simp[c]))with e|e;·have:=g.1 x c;omega
   ·exact e
theorem ry.sub(h1:ry z1)(h2:ry z2)(hp:∀x k,fx z1 x k=fx z2 x k)(e:∀f,qB z1 f↔qB z2 f):∀k x,x∈fV z1 k→x∈fV z2 k:=by
 intro k x b;have q:=h1.GE b;have n:=h1.ko k x b;have C:=mY k;obtain⟨j,y,r,a,s,t⟩:=h2.M4 k x q (by rw[←hp];exact n) fun f c d=>(e f).1 ⟨k,x,b,c,d⟩;have p:=h2.GE a;have o:=h2.ko j y a;obtain⟨i,u,v,g,w,A⟩:=h1.M4 j y p (by rw[hp];exact o) fun f c d=>(e f).2 ⟨j,y,a,c,d⟩;obtain⟨B,h⟩:=h1.IC k x i u x b g (bX _) (by omega) (by omega) (by omega);subst h;have l:j=k:=by omega
 subst l;have m:y=x:=by omega
 rw[←m];exact a
theorem ry.ext(h1:ry z1)(h2:ry z2)(h:z1.BW=z2.BW)(i:z1.Ci=z2.Ci)(d:z1.start=z2.start)(e:z1.count=z2.count)(j:z1.min=z2.min)(b:∀f,qB z1 f↔qB z2 f):z1=z2:=by
 have c:∀x k,fx z1 x k=fx z2 x k:=fun x k=>by unfold fx;rw[d,e]
 have g:∀k,fV z1 k=fV z2 k:=fun k=>HB (h1.yz k) (h2.yz k) fun x=>⟨h1.sub h2 c b k x,h2.sub h1 (fun x k=>(c x k).symm) (fun f=>(b f).symm) k x⟩
 have l:z1.gV=z2.gV:=by
  apply nq;intro k;rcases cO k 5 with a|a;·rw[B7 h1.len a,B7 h2.len a,g]
  ·rw[fA (by have:=h1.len;omega),fA (by have:=h2.len;omega)]
 cases z1;cases z2;simp_all
end
theorem Rd(a:Int)(l:List Int)(t:Int):lb (a::l) t=lb l t+if a<t then 1 else 0:=by unfold lb;rw[List.countP_cons];simp
theorem Rc{l:List Int}{t:Int}(h:∀x,x∈l->t<=x):lb l t=0:=by unfold lb;rw[l4];intro x a;have:=h x a;simp;omega
theorem MR:∀{l:List Int}{t:Int},x7 l->t∈l->l[lb l t]?=some t
 |[],_,_,h=>by cases h
 |a::l,t,c,h=>by
  have b:=hY.1 c;rw[Rd];rcases co.1 h with rfl|h;.have:lb l t=0:=Rc (λx d=>by have:=b.1 x d;omega);simp[this]
  .have:=b.1 t h;simp[this,MR b.2 h]
theorem M9{l:List Int}{t x:Int}(d:x7 l)(k:t∈l):x∈l.eraseIdx (lb l t)↔x∈l∧x≠t:=by
 have b:=MR d k;rw[List.mem_eraseIdx_iff_getElem?];constructor
 ·
  rintro⟨i,c,a⟩;refine⟨Y a,?_⟩;rintro rfl;rcases mC c with h|h;·have:=xi d a b h;omega
  ·have:=xi d b a h;omega
 ·
  rintro⟨a,j⟩;obtain⟨i,c,g⟩:=List.getElem_of_mem a;have f:l[i]?=some x:=by rw[G c,g]
  refine⟨i,?_,f⟩;intro e;rw[e,b]at f;exact j (eu f).symm
theorem KU{z:lc}(a:z.gV=[[],[],[],[],[]])(k:Nat):fV z k=[]:=by unfold fV;rw[a];match k with
 |0=>rfl
 |1=>rfl
 |2=>rfl
 |3=>rfl
 |4=>rfl
 |k+5=>rfl
def geP:Option Int->Int->Bool|some q,f=>decide (f<=q)|none,_=>false
def IQ(z:lc)(k:Nat):Option Int->List Int->Int|_,[]=>0|p,f::r=>if fx z f k=false then 3 else if geP p f=true then 10 else IQ z k (some f) r
def Q4(s:List Bool)(i:Nat):Nat->Option (List Bool)|0=>some s|n+1=>if s.getD i false=true then none else Q4 (s.set i true) (i+1) n
def ni(k:Nat):List Bool->List Int->Option (List Bool)|s,[]=>some s|s,f::r=>match Q4 s f.toNat (2^k)with|none=>none|some a=>ni k a r
def BX:List Bool:=List.replicate 256 false
theorem Gp:BX.length=256:=aR
def cn(f:Nat):Nat->List (List Int)->Option (Nat×Nat)|_,[]=>none|k,l::r=>if decide (((f/2^k*2^k:Nat):Int)∈l)=true then some (k,f/2^k*2^k)else cn f (k+1) r
section
variable{f k:Nat}{ls:List (List Int)}{l:List Int}
theorem su(a:cn f 0 ls=cn f k (ls.drop k))(h:ls.length<=k):cn f 0 ls=none:=by rw[a,dV h];rfl
end
theorem df{p:Prop} [Decidable p](h:¬p):decide p=false:=aX h
def qC{α:Type} [Inhabited α](l:List α)(i:Int):α:=l.getD i.toNat default
def d7{α:Type}(l a:List α):List α:=a.take l.length++l.drop a.length
end Go.Zs
set_option maxHeartbeats 1000000
namespace Go.Zs
theorem iM{l:List (List Int)}{i:Nat}(hi:i<l.length):l.set i (l.getD i [])=l:=by
 apply nq;intro j;rw[gR];split;.rename_i h;subst h;simp[hi]
 .rfl
end Go.Zs
set_option maxHeartbeats 1000000
namespace Go.Zs
def zl(z:lc)(l:List (List Int)):lc:={z with gV:=l}
def vM(l:List Int)(i:Nat):Nat->List Int|0=>l|m+1=>vM (l.set i 0) (i+1) m
theorem A7:∀(m i:Nat)(l:List Int),(vM l i m).length=l.length
 |0,_,_=>rfl
 |m+1,i,l=>by unfold vM;rw[A7];exact bC ..
theorem EM(l:List Int)(i g:Nat)(h:i<l.length)(x:Int):(l.set i x).getD g 0=if g=i then x else l.getD g 0:=by
 simp only[ck,gR];by_cases a:i=g;.rw[aE a,aE h,aE a.symm];rfl
 .rw[aG a,aG λe=>a e.symm]
theorem Hs:∀(m i:Nat)(l:List Int)(g:Nat),i+m<=l.length->(vM l i m).getD g 0=if i<=g/\g<i+m then 0 else l.getD g 0
 |0,i,l,g,_=>by rw[aG (by omega)];rfl
 |m+1,i,l,g,h=>by
  unfold vM;rw[Hs m (i+1) _ g (by rw[bC];omega),EM l i g (by omega)];by_cases a:i+1<=g/\g<i+1+m;.rw[aE a,aE (by omega)]
  .
   rw[aG a];by_cases b:g=i;.rw[aE b,aE (by omega)]
   .rw[aG b,aG (by omega)]
structure WI (z : lc) (s : List Int) (D : Nat → Int → Prop) (l : List (List Int)) (left : List Int) : Prop where
  len : l.length = 5
  EB : left.length = 256
  yz : ∀ k, x7 (fV (zl z l) k)
  ko : ∀ k x, x ∈ fV (zl z l) k → fx z x k = true ∧ D k x
  IC : ∀ k x j y g, x ∈ fV (zl z l) k → y ∈ fV (zl z l) j → x ≤ g → g < x + 2 ^ k → y ≤ g → g < y + 2 ^ j → k = j ∧ x = y
  Rb : ∀ g : Nat, g < 256 → (left.getD g 0 ≠ 0 ↔ s.getD g 0 ≠ 0 ∧ ¬ qB (zl z l) g)
  sub : ∀ g, qB (zl z l) g → s.getD g.toNat 0 ≠ 0
  max : ∀ j x, D j x → j ≤ 4 → fx z x j = true → ∃ g, x ≤ g ∧ g < x + 2 ^ j ∧ (s.getD g.toNat 0 = 0 ∨ ∃ i y, j ≤ i ∧ y ∈ fV (zl z l) i ∧ y ≤ g ∧ g < y + 2 ^ i)
section
variable{z:lc}{s left left':List Int}{D D':Nat->Int->Prop}{l:List (List Int)}{k:Nat}{f:Int}
theorem WI.mono(h:WI z s D l left)(h1:∀j x,fx z x j=true->D j x->D' j x)(h2:∀j x,fx z x j=true->j<=4->D' j x->D j x):WI z s D' l left:=⟨h.len,h.EB,h.yz,λk x a=>⟨(h.ko k x a).1,h1 k x (h.ko k x a).1 (h.ko k x a).2⟩,h.IC,h.Rb,h.sub,λj x d c b=>h.max j x (h2 j x b c d) c b⟩
theorem WI.skip(h:WI z s D l left)(v:eS z=true)(C:k<=4)(q:∀j x,D j x->k<=j)(u:fx z f k=true->∃g,f<=g/\g<f+2^k/\left.getD g.toNat 0=0):WI z s (λj x=>D j x\/j=k/\x=f) l left:=by
 refine⟨h.len,h.EB,h.yz,λk x e=>⟨(h.ko k x e).1,.inl (h.ko k x e).2⟩,h.IC,h.Rb,h.sub,?_⟩;rintro j x(r|⟨rfl,rfl⟩)t b;.exact h.max j x r t b
 .
  obtain⟨g,n,o,p⟩:=u b;have B:=lT v b;refine⟨g,n,o,?_⟩;have c:=h.Rb g.toNat (by omega);rw[eN (by omega)]at c;by_cases d:s.getD g.toNat 0=0;.exact .inl d
  .
   have a:qB (zl z l) g:=by refine Classical.byContradiction λa=>?_;exact c.2 ⟨d,a⟩ p
   obtain⟨i,y,m,w,A⟩:=a;exact .inr ⟨i,y,q _ _ (h.ko i y m).2,m,w,A⟩
theorem WI.add(h:WI z s D l left)(i0:eS z=true)(e0:k≤4)(hi:fx z f k=true)(p0:∀j x,D j x→k<j∨j=k∧x<f)(n0:∀g:Nat,f≤g→(g:Int)<f+2^k→left.getD g 0≠0)(j0:left'.length=256)(m0:∀g:Nat,left'.getD g 0=if f≤(g:Int)∧(g:Int)<f+2^k then 0 else left.getD g 0):WI z s (fun j x=>D j x∨j=k∧x=f) (l.set k (l.getD k []++[f])) left':=by
 have f0:=lT i0 hi;have t0:∀j,fV (zl z (l.set k (l.getD k []++[f]))) j=if j=k then fV (zl z l) k++[f]else fV (zl z l) j:=fun j=>Q6 (z:=zl z l) h.len (by omega)
 have n:∀j y,y∈fV (zl z (l.set k (l.getD k []++[f]))) j↔y∈fV (zl z l) j∨j=k∧y=f:=by
  intro j y;rw[t0];by_cases B:j=k;·subst B;rw[aE rfl,bD];simp
  ·rw[aG B];simp[B]
 have A:∀g,f≤g→g<f+2^k→s.getD g.toNat 0≠0∧¬qB (zl z l) g:=by intro g x0 w0;have e:((g.toNat:Nat):Int)=g:=eN (by omega);have:=(h.Rb g.toNat (by omega)).1 (n0 g.toNat (by omega) (by omega));rw[e]at this;exact this
 have u0:∀g,qB (zl z (l.set k (l.getD k []++[f]))) g↔qB (zl z l) g∨f≤g∧g<f+2^k:=by
  intro g;constructor
  ·
   rintro⟨j,y,c,m,d⟩;rcases(n j y).1 c with c|⟨rfl,rfl⟩;·exact .inl ⟨j,y,c,m,d⟩
   ·exact .inr ⟨m,d⟩
  ·
   rintro(⟨j,y,c,m,d⟩|⟨m,d⟩);·exact⟨j,y,(n j y).2 (.inl c),m,d⟩
   ·exact⟨k,f,(n k f).2 (.inr ⟨rfl,rfl⟩),m,d⟩
 refine⟨by simpa using h.len,j0,fun j=>?_,fun j y c=>?_,fun j y i u g c s0 m d r q=>?_,fun g o=>?_,fun g o=>?_,fun j x w k0 l0=>?_⟩
 ·
  rw[t0];split;·refine gF.2 ⟨h.yz k,rB ..,fun a o0 b v0=>?_⟩;simp only[cj]at v0;subst v0;rcases p0 _ _ (h.ko k a o0).2 with p|p<;>omega
  ·exact h.yz j
 ·
  rcases(n j y).1 c with c|⟨rfl,rfl⟩;·exact⟨(h.ko j y c).1,.inl (h.ko j y c).2⟩
  ·exact⟨hi,.inr ⟨rfl,rfl⟩⟩
 ·
  rcases(n j y).1 c with r0|⟨z0,y0⟩
  ·
   rcases(n i u).1 s0 with C|⟨t,v⟩;·exact h.IC j y i u g r0 C m d r q
   ·rw[v]at r q;rw[t]at q;exact absurd ⟨j,y,r0,m,d⟩ (A g r q).2
  ·
   rw[y0]at m d;rw[z0]at d;rcases(n i u).1 s0 with C|⟨t,v⟩;·exact absurd ⟨i,u,C,r,q⟩ (A g m d).2
   ·exact⟨z0.trans t.symm,y0.trans v.symm⟩
 ·
  rw[m0,u0];by_cases p:f≤(g:Int)∧(g:Int)<f+2^k;·rw[aE p];simp[p]
  ·rw[aG p,h.Rb g o];simp only[p,or_false]
 ·
  rcases(u0 g).1 o with o|o;·exact h.sub g o
  ·exact(A g o.1 o.2).1
 ·
  rcases w with w|⟨rfl,rfl⟩;·obtain⟨g,x0,w0,q0⟩:=h.max j x w k0 l0;refine⟨g,x0,w0,q0.imp id ?_⟩;rintro⟨i,y,c,h0,g0⟩;exact⟨i,y,c,(n i y).2 (.inl h0),g0⟩
  ·have d0:=mY j;exact⟨x,bX _,by omega,.inr ⟨j,x,ar _,(n j x).2 (.inr ⟨rfl,rfl⟩),bX _,by omega⟩⟩
theorem WI.aah(h:WI z s D l left)(b:eS z=true)(k:Nat):(fV (zl z l) k).length<=256:=by refine Bp (h.yz k) λf a=>?_;have:=lT b (h.ko k f a).1;have:=mY k;omega
theorem WI.ok(h:WI z s (fun _ _=>True) l left)(c:eS z=true):ry (zl z l)∧∀g,qB (zl z l) g↔z.start≤g∧g<z.start+z.count∧s.getD g.toNat 0≠0:=by
 refine⟨⟨c,h.len,h.yz,fun k x b=>(h.ko k x b).1,h.IC,fun k x x0 b p=>?_⟩,fun g=>⟨fun n=>?_,fun n=>?_⟩⟩
 ·
  refine qA.2 fun y0=>?_;have C:=lT c (h.ko k x b).1;have B:=(jc c).1 (h.ko k x b).1;have r0:=mY k;have q0:=BI k;obtain⟨g,o,m,a⟩:=h.max (k+1) _ trivial (by omega) y0;have z0:x≤g∧g<x+2^k∨IZ x k≤g∧g<IZ x k+2^k:=by clear a;rcases AY x0 C.1 (by omega) B.2.1 with⟨_,e⟩|⟨_,e⟩<;>rw[e]at o m⊢<;>omega
  have q:∀y,y∈fV (zl z l) k→y≤g→g<y+2^k→False:=by
   intro y j r t;rcases a with a|⟨i,u,p0,w0,v0,u0⟩;·exact h.sub g ⟨k,y,j,r,t⟩ a
   ·have:=(h.IC k y i u g j w0 r t v0 u0).1;omega
  rcases z0 with d|d;·exact q x b d.1 d.2
  ·exact q _ p d.1 d.2
 ·obtain⟨k,x,b,w,A⟩:=n;have:=lT c (h.ko k x b).1;exact⟨by omega,by omega,h.sub g ⟨k,x,b,w,A⟩⟩
 ·
  have p:=lO c;obtain⟨v,o,m,a⟩:=h.max 0 g trivial (by omega) ((jc c).2 (by rw[KC];omega));rw[KC]at m;have e:v=g:=by omega
  subst e;rcases a with a|⟨i,y,_,j,t0,s0⟩;·exact absurd a n.2.2
  ·exact⟨i,y,j,t0,s0⟩
end
end Go.Zs
set_option maxHeartbeats 1000000
namespace Go.Zs
end Go.Zs
set_option maxHeartbeats 1000000
namespace Go.Zs
theorem jF{α:Type}(l:List α)(i g:Nat)(h:i<l.length)(x d:α):(l.set i x).getD g d=if g=i then x else l.getD g d:=by
 simp only[ck,gR];by_cases a:i=g;.rw[aE a,aE h,aE a.symm];rfl
 .rw[aG a,aG λe=>a e.symm]
structure MB (d : List Bool) (s : List Int) : Prop where
  dl : d.length = 256
  sl : s.length = 256
  t : ∀ g, d.getD g false = true → s.getD g 0 = 1
  f : ∀ g, d.getD g false = false → s.getD g 0 = 0
section
variable{z:lc}{k:Nat}{l:List Int}
theorem mb0:MB BX (List.replicate 256 0):=⟨Gp,by rw[aR],λg a=>by unfold BX at a;rw[ck,cm]at a;split at a<;>simp at a,λg _=>by rw[ck,cm];split<;>rfl⟩
end
end Go.Zs
set_option maxHeartbeats 1000000
namespace Go.Zs
end Go.Zs
set_option maxHeartbeats 1000000
namespace Go.Zs
end Go.Zs
set_option maxHeartbeats 1000000
namespace Go.Zs
end Go.Zs
set_option maxHeartbeats 1000000
namespace Go.Zs
end Go.Zs
set_option maxHeartbeats 1000000
namespace Go.Zs
end Go.Zs
namespace Go.Bo
open Go Go.Ls
theorem SZ(zl:List Zn):Ok (Fi (zl,())) λr=>r.1=0->zl.length<=6:=by
 unfold Fi;refine aN (λ_=>ab λh=>by cases h) λh=>?_;have d:ak zl<=6:=eZ h;rw[aJ]at d;refine aK (P:=λ_=>True) (bz (I:=λi s=>s=((i:Int),())) (m:=zl.length) rfl (by omega) ?_ ?_) λ_ _=>ab (λ_=>by omega);.rintro i s b rfl;have c:Ok (some (Sum.inl (ai .i64 ((i:Int),()).1 1,())):Option (Sum (Int×Unit) (Sum Unit RI))) (hN (λs=>s=(((i+1:Nat):Int),())) (hN (λ_=>True) λr=>r.1=0->zl.length<=6)):=⟨_,rfl,by show(ai .i64 (i:Int) 1,())=_;rw[bI (by omega)]⟩;have a:∀e:Int,e≠0->Ok (ao (ao (some (e,()))):Option (Sum (Int×Unit) (Sum Unit RI))) (hN (λs=>s=(((i+1:Nat):Int),())) (hN (λ_=>True) λr=>r.1=0->zl.length<=6)):=λe f=>bu (bu (ab λh=>absurd h f));exact be (cB b) (bb (cQ b) λx g=>aN (λ_=>a 2 (by decide)) λ_=>aN (λ_=>a 2 (by decide)) λ_=>aN (λ_=>aN (λ_=>a 1 (by decide)) λ_=>c) λ_=>c)
 .rintro s rfl;exact aw cJ ⟨_,rfl,trivial⟩
theorem S9(zl:List Zn)(n:Int):Ok (Fl (zl,n,())) λr=>r.1=0->zl.length<=6:=by unfold Fl;refine bb (SZ zl) λr b=>aN (λh=>ab λa=>absurd a (jh h)) λh=>?_;have:=b (fH h);exact aN (λ_=>ab λ_=>this) λ_=>aN (λ_=>ab λ_=>this) λ_=>ab λ_=>this
theorem S8(a b:Int):Ok (rb (a,b,())) λ_=>True:=by unfold rb;exact aN (λ_=>ab trivial) λ_=>ab trivial
theorem S7(a b:Int):Ok (qs (a,b,())) λ_=>True:=by
 have h:∀a,Ok (wj (a,())) λ_=>True:=λa=>by unfold wj;exact ab trivial
 unfold qs;exact bb (h a) λ_ _=>bb (h b) λ_ _=>aN (λ_=>aN (λ_=>ab trivial) λ_=>ab trivial) λ_=>aN (λ_=>ab trivial) λ_=>aN (λ_=>ab trivial) λ_=>aN (λ_=>ab trivial) λ_=>ab trivial
def Ix(n m:Nat)(l:List Int):Prop:=l.length=m/\∀e,e∈l->0<=e/\e<(n:Int)
theorem MY{n m:Nat}{l:List Int}{i x:Int}(h:Ix n m l)(b:0<=x/\x<(n:Int)):Ix n m (aI l i x):=by
 refine⟨by rw[jL];exact h.1,λe a=>?_⟩;rcases Ew a with a|rfl;.exact h.2 e a
 .exact b
theorem vW{j:Nat}(a:0<j)(h:j<=100000):bo .i64 (j:Int) 1=((j-1:Nat):Int):=by rw[fk (by omega) (by omega)];omega
theorem swp{n m j:Nat}{l:List Int}{β:Type}{Q:Sum (List Int×Int×Unit) β->Prop}(h:Ix n m l)(d:0<j)(q:j<m)(s:m<=1000)(g:∀b,Ix n m b->Q (.inl (b,((j-1:Nat):Int),()))):Ok (aA (a5 l (bo .i64 (j:Int) 1)) (am (ax l (bo .i64 (j:Int) 1)) λa=>aA (a5 l (j:Int)) (am (ax l (j:Int)) λc=>aA (a5 l (j:Int)) (am (ax l (j:Int)) λi=>aA (a5 (aI l (j:Int) a) (bo .i64 (j:Int) 1)) (am (ax (aI l (j:Int) a) (bo .i64 (j:Int) 1)) λk=>some (.inl (aI (aI l (j:Int) a) (bo .i64 (j:Int) 1) c,bo .i64 (j:Int) 1,()))))))) Q:=by have r:=h.1;rw[vW d (by omega)];refine aq (eF (by omega)) (bb (cQ (l:=l) (i:=j-1) (by omega)) λa e=>aq (eF (by omega)) (bb (cQ (l:=l) (i:=j) (by omega)) λc f=>aq (eF (by omega)) (bb (cQ (l:=l) (i:=j) (by omega)) λi o=>aq (eF (by rw[jL];omega)) (bb (cQ (l:=aI l (j:Int) a) (i:=j-1) (by rw[jL];omega)) λk p=>?_))));exact⟨_,rfl,g _ (MY (MY h (h.2 _ (Y e))) (h.2 _ (Y f)))⟩
theorem Nl{α:Type}{a b:Int}{T E:Option α}{Q:α->Prop}(d:Ok T Q)(c:Ok E Q):Ok (am (qs (a,b,())) λx=>ad (ay x.1 0) T E) Q:=bb (S7 a b) λ_ _=>aN (λ_=>d) λ_=>c
theorem Rl{α:Type}{a b:Int}{f:RI->Option α}{Q:α->Prop}(h:∀x,Ok (f x) Q):Ok (am (rb (a,b,())) f) Q:=bb (S8 a b) λx _=>h x
theorem Oo{α:Type}{zl:List Zn}{e:Int}{f:Zn->Option α}{Q:α->Prop}(a:0<=e/\e<(zl.length:Int))(h:∀x,Ok (f x) Q):Ok (am (ax zl e) f) Q:=bb (pg a.1 (by rw[aJ];exact a.2)) λx _=>h x
def InN(n:Nat)(l:List Int):Prop:=l.length<=6/\∀e,e∈l->0<=e/\e<(n:Int)
theorem JG(zl:List Zn)(nd:Int)(b:Bool):Ok (Dm (zl,nd,b,())) λr=>InN zl.length r.1:=by
 unfold Dm;refine bb (S9 zl nd) λu9 t=>aN (λ_=>ab ⟨aP _,λe f=>by cases f⟩) λh=>?_;have D:=t (fH h);refine aK (P:=λs:List Int×Unit=>Ix zl.length s.1.length s.1/\s.1.length<=6) (bz (I:=λi s=>s.2=((i:Int),())/\Ix zl.length s.1.length s.1/\s.1.length<=i) (m:=zl.length) ⟨rfl,⟨rfl,λe f=>by cases f⟩,ar _⟩ (by omega) ?_ ?_) ?_
 .
  rintro i⟨l,s0⟩v⟨rfl,d,w⟩;have d:Ix zl.length l.length l:=d;have w:l.length<=i:=w
  have o0:Ok (some (Sum.inl (aM l [(i:Int)],ai .i64 (i:Int) 1,())):Option (Sum (List Int×Int×Unit) (Sum (List Int×Unit) (List Int×Int×Unit)))) (hN (λs=>s.2=(((i+1:Nat):Int),())/\Ix zl.length s.1.length s.1/\s.1.length<=i+1) (hN (λs:List Int×Unit=>Ix zl.length s.1.length s.1/\s.1.length<=6) λr=>InN zl.length r.1)):=by
   rw[bI (by omega)];refine a4 ⟨rfl,⟨rfl,λe f=>?_⟩,?_⟩
   .
    rcases bD.1 f with f|f;.exact d.2 e f
    .rcases cj.1 f with rfl;omega
   .show(l++[(i:Int)]).length<=i+1;rw[az];exact tN w 1
  refine be (cB v) (bb (cQ v) λx _=>aN (λ_=>aq (ce (by show l.length+1<=10000;omega) (by decide)) o0) λ_=>aN (λ_=>aq (ce (by show l.length+1<=10000;omega) (by decide)) o0) λ_=>?_);show Ok (some (Sum.inl (l,ai .i64 (i:Int) 1,()))) _;rw[bI (by omega)];exact a4 ⟨rfl,d,by show l.length<=i+1;omega⟩
 .rintro⟨l,s0⟩⟨rfl,d,w⟩;exact aw cJ (bu (a4 ⟨d,by have:l.length<=zl.length:=w;show l.length<=6;omega⟩))
 rintro⟨l,u⟩⟨d,u0⟩;have d:Ix zl.length l.length l:=d;have u0:l.length<=6:=u0;refine aK (P:=λs:List Int×Int×Unit=>s.1=l/\s.2.1=0) (bz (I:=λi s=>s=(l,(0:Int),(20:Int),())) (m:=0) rfl (by decide) (λi s v=>by omega) ?_) ?_;.rintro s rfl;exact aw (lA (by rw[aJ];show(l.length:Int)<20;omega)) (bu (a4 ⟨rfl,rfl⟩))
 rintro⟨c,a,w9⟩⟨w0,v0⟩;have w0:c=l:=w0;have v0:a=0:=v0;subst w0 v0;refine aK (P:=λs:List Int×Unit=>Ix zl.length c.length s.1) (qa (I:=λk(s:List Int×Int×Unit)=>∃i:Nat,s.2=((i:Int),())/\c.length-i<=k/\1<=i/\Ix zl.length c.length s.1) (k:=c.length) ⟨1,rfl,by omega,by omega,d⟩ (by omega) ?_) ?_
 .
  rintro k⟨f0,s0⟩⟨i,rfl,y9,a0,z0⟩;have z0:Ix zl.length c.length f0:=z0;refine aN (λp0=>?_) λp0=>bu (a4 (P:=λs:List Int×Unit=>Ix zl.length c.length s.1) z0);have v:i<c.length:=by have:=kS p0;rw[aJ]at this;simp only at this;omega
  refine aK (P:=λs:List Int×Unit=>Ix zl.length c.length s.1) (aK (P:=λs:List Int×Unit=>Ix zl.length c.length s.1) (qa (I:=λk(s:List Int×Int×Unit)=>∃j:Nat,s.2=((j:Int),())/\j<=k/\j<c.length/\Ix zl.length c.length s.1) (k:=i) (n:=1000000000) ⟨i,rfl,by omega,v,z0⟩ (by omega) ?_) ?_) ?_
  .
   rintro k⟨o,s0⟩⟨j,rfl,z9,h0,m⟩;have m:Ix zl.length c.length o:=m;have x9:=m.1;have k0:∀n:Nat,(0:Int)<(n:Int)->0<n:=λn h=>by omega
   refine aN (λt=>?_) λ_=>bu (a4 (P:=λs:List Int×Unit=>Ix zl.length c.length s.1) m);have t:0<j:=k0 j (kS t);have q0:=vW t (by omega);have y0:∀{z m0:Type}{A:z->Prop}{B:m0->Prop},Ok (ao (some (Sum.inl (o,()))):Option (Sum z (Sum (List Int×Unit) m0))) (hN A (hN (λs:List Int×Unit=>Ix zl.length c.length s.1) B)):=⟨.inr (.inl (o,())),rfl,m⟩;refine aq (eF (l:=o) (i:=j) (by omega)) (bb (cQ (l:=o) (i:=j) (by omega)) λt9 j0=>?_);have r0:=m.2 _ (Y j0);refine aq (by show a5 o (bo .i64 (j:Int) 1)=true;rw[q0];exact eF (by omega)) (bb (P:=λx=>0<=x/\x<(zl.length:Int)) ?_ λs9 C=>?_);.show Ok (ax o (bo .i64 (j:Int) 1)) _;rw[q0];exact(cQ (l:=o) (i:=j-1) (by omega)).mono λy g0=>m.2 _ (Y g0)
   have x0:=λ{z:Type}{l0:Sum (List Int×Int×Unit) z->Prop}i0=>swp (β:=z) (Q:=l0) m t h0 (by omega) i0;refine Oo r0 λr9=>Rl λq9=>Oo r0 λp9=>aN (λ_=>?_) λ_=>?_
   .
    refine Oo C λd0=>Rl λc0=>Oo C λb0=>aN (λ_=>Nl (x0 λt0 q=>?_) y0) λ_=>Nl (x0 λt0 q=>?_) y0;.exact⟨by omega,j-1,rfl,by omega,by omega,q⟩
    .exact⟨by omega,j-1,rfl,by omega,by omega,q⟩
   .
    refine Oo C λd0=>Rl λc0=>Oo C λb0=>aN (λ_=>Nl (x0 λt0 q=>?_) y0) λ_=>Nl (x0 λt0 q=>?_) y0;.exact⟨by omega,j-1,rfl,by omega,by omega,q⟩
    .exact⟨by omega,j-1,rfl,by omega,by omega,q⟩
  .rintro⟨p,n0⟩g;exact a4 g
  .rintro⟨p,n0⟩g;show Ok (some (Sum.inl (p,ai .i64 (i:Int) 1,()))) _;rw[bI (by omega)];exact a4 ⟨by omega,i+1,rfl,by omega,by omega,g⟩
 .
  rintro⟨p,n0⟩g;have g:Ix zl.length c.length p:=g;refine aK (P:=λs:List Int×Unit=>s.1=p) (bz (I:=λi s=>s=(p,(20:Int),())) (m:=0) rfl (by decide) (λi s v=>by omega) ?_) ?_;.rintro s rfl;exact aw (cH (by rw[aJ];show(c.length:Int)<=20;omega)) ⟨.inr (.inl (p,())),rfl,rfl⟩
  .rintro⟨e0,v9⟩D;have D:e0=p:=D;subst D;exact ab ⟨by rw[g.1];exact u0,g.2⟩
theorem Jr(z:Zn)(h:mr (dL z) 100000):Ok (De (z,())) λ_=>True:=by unfold De;exact bb (uZ z h) λ_ _=>aN (λ_=>ab trivial) λ_=>ab trivial
theorem S6(z:Zn)(h:mr (dL z) 100000):Ok (Fk (z,())) λ_=>True:=by unfold Fk;exact bb (uZ z h) λ_ _=>aN (λ_=>bb (Jr z h) λ_ _=>ab trivial) λ_=>bb (Jr z h) λ_ _=>ab trivial
theorem Ti(a:eI)(i:Int)(b:L5 a)(g:Sz a)(d:0<=i)(h1:i<((cw a).length:Int)):Ok (Fu (a,i,())) λ_=>True:=by
 unfold Fu;refine bb (pg (l:=cw a) d (by rw[aJ];exact h1)) λz h=>bb (S6 z (g.z z (Y h))) λn _=>?_;have k:(cP a).length<=4:=by rw[b.nc];exact b.nn.2
 refine aK (P:=λ_=>True) (bz (I:=λq s=>s.2=((q:Int),())) (m:=(cP a).length) rfl (by omega) ?_ ?_) λ_ _=>ab trivial
 .
  rintro q⟨u,j⟩e rfl;refine be (cB (l:=cP a) e) (bb (cQ (l:=cP a) e) λc f=>bb (pg (l:=c.1) d ?_) λl _=>?_);.rw[aJ,(b.cl c (Y f)).1];exact h1
  .exact⟨_,rfl,by show(ai .i64 (q:Int) 1,())=_;rw[bI (by omega)]⟩
 .rintro⟨u,j⟩rfl;exact aw (cJ (l:=cP a)) ⟨_,rfl,trivial⟩
theorem Th(a:eI)(i:Int)(c:L5 a)(d:Sz a)(b:0<=i)(h1:i<((cw a).length:Int)):Ok (Ft (a,i,())) λ_=>True:=by unfold Ft;exact bb (pg (l:=cw a) b (by rw[aJ];exact h1)) λz _=>bb (Ti a i c d b h1) λ_ _=>ab trivial
theorem Dg(ls:List (List Int))(i:Int)(f:∀l,l∈ls->l.length<=100000):Ok (Ao ((ls,()),i,())) λr=>r.1=0->ls.length<=6/\x8 ls/\∃z:Nat,i=(z:Int)/\z<ls.length:=by unfold Ao;refine bb (JJ ls _ f) λk d=>aN (λh=>ab λg=>absurd g (jh h)) λh=>?_;obtain⟨_,j,b,e⟩:=d (fH h);refine aN (λ_=>ab λh=>by cases h) λc=>aN (λ_=>ab λh=>by cases h) λa=>ab λ_=>?_;have c:0<=i:=eZ c;have a:i<ak ls:=qJ a;have b:ak ls<=6:=b;rw[aJ]at a b;exact⟨by omega,e,i.toNat,by omega,by omega⟩
theorem vH{l:List Int}:d7 (er (ak l) 0) l=l:=by unfold d7 er;rw[aR,aJ,db,bO,List.drop_replicate,ee];exact bi l
theorem QA{X:Type}{T:List X}{d:X}{i m:Nat}(h:i<T.length):(T.take i++List.replicate (m+1) d).set i T[i]=T.take (i+1)++List.replicate m d:=by
 have a:(T.take i).length=i:=by rw[aY];omega
 rw[List.set_append,aG (by omega),a,ee,g5,mD,jq,G h,Option.toList_some,cA];rfl
theorem iP{X:Type}{l:List X}{i:Nat}{x:X}:aI l (i:Int) x=l.set i x:=by unfold aI;rw[db]
theorem Ef{T a:List (List Int)}{d:List Int}{i:Nat}{β:Type}{Q:Sum ((List (List Int)×Unit)×Int×Unit) β->Prop}(hi:i<T.length)(g:i<=1000)(hd:d.length<=10000)(e:T.set i d=a)(c:Q (.inl ((a,()),((i+1:Nat):Int),()))):Ok (aA (gP (ak d) (ak d) 8) (aA (a5 T (i:Int)) (aA (a5 T (i:Int)) (aA (a5 (aI T (i:Int) (er (ak d) 0)) (i:Int)) (aA (a5 (aI T (i:Int) (er (ak d) 0)) (i:Int)) (am (ax (aI T (i:Int) (er (ak d) 0)) (i:Int)) λb=>some (.inl ((aI (aI T (i:Int) (er (ak d) 0)) (i:Int) (d7 b d),()),ai .i64 (i:Int) 1,())))))))) Q:=by
 refine aq (jj (by rw[aJ];omega) (by rw[aJ];show(d.length:Int)<=10000;omega) (by decide)) (aq (eF hi) (aq (eF hi) (aq (eF (by rw[jL];exact hi)) (aq (eF (by rw[jL];exact hi)) (bb (P:=λx=>x=er (ak d) (0:Int)) ⟨_,?_,rfl⟩ λb f=>?_)))));.show(aI T (i:Int) (er (ak d) 0))[i]?=_;rw[iP,bq hi]
 .subst f;refine⟨_,rfl,?_⟩;rw[vH,iP,iP,eQ,e,bI (by omega)];exact c
theorem uY(ls:List (List Int))(z:Nat)(l:List Int)(x:z<ls.length)(v:ls.length<=6)(b:∀m,m∈ls->m.length<=10000)(q:l.length<=10000):An ((ls,()),(z:Int),l,())=some ((ls.set z l,()),()):=by
 have t:Ok (An ((ls,()),(z:Int),l,())) λr=>r=((ls.set z l,()),()):=by
  have p:(ls.set z l).length=ls.length:=bC;unfold An;refine aq (jj (by rw[aJ];omega) (by rw[aJ];show(ls.length:Int)<=10000;omega) (by decide)) (aK (P:=λs:(List (List Int)×Unit)×Unit=>s.1.1=ls.set z l) (bz (I:=λi s=>s=(((ls.set z l).take i++List.replicate (ls.length-i) [],()),(i:Int),())) (m:=ls.length) ?_ (by omega) ?_ ?_) ?_);.show((er (ak ls) ([]:List Int),()),(0:Int),())=_;unfold er;rw[aJ,db];rfl
  .
   rintro i s c rfl;have w:((ls.set z l).take i++List.replicate (ls.length-i) ([]:List Int)).length=ls.length:=by rw[az,aY,aR,p];omega
   have g:i<(ls.set z l).length:=by omega
   have j:i<((ls.set z l).take i++List.replicate (ls.length-i) ([]:List Int)).length:=by omega
   have e:∀d:List Int,(ls.set z l)[i]=d->((ls.set z l).take i++List.replicate (ls.length-i) ([]:List Int)).set i d=(ls.set z l).take (i+1)++List.replicate (ls.length-(i+1)) []:=λd a=>by rw[<-a,show ls.length-i=ls.length-(i+1)+1 by omega,QA g]
   refine be (cB c) (bb (cQ c) λk f=>aN (λa=>?_) λa=>?_)
   .
    have a:(i:Int)=(z:Int):=lq a;have a:i=z:=by omega
    exact Ef j (by omega) q (e l (by subst a;exact List.getElem_set_self g)) rfl
   .have a:(i:Int)≠(z:Int):=mZ a;have a:z≠i:=λh=>a (by rw[h]);refine Ef j (by omega) (b k (Y f)) (e k ?_) rfl;rw[List.getElem_set_ne a];rw[G c]at f;exact eu f
  .rintro s rfl;refine aw cJ ⟨_,rfl,?_⟩;show(ls.set z l).take ls.length++List.replicate (ls.length-ls.length) ([]:List Int)=_;rw[ee,dF (by omega)];exact bi _
  .rintro⟨⟨s,u⟩,A⟩b;have b:s=ls.set z l:=b;subst b;exact ab rfl
 obtain⟨y,n,o⟩:=t;rw[n,o]
theorem S5(ls:List (List Int))(i:Int)(c:∀l,l∈ls->l.length<=10000):Ok (NX ((ls,()),i,())) λr=>r.2.2.1=0->ls.length<=6/\x8 ls/\∃z:Nat,i=(z:Int)/\ls[z]?=some r.2.1/\r.1.1=ls.set z []:=by unfold NX;refine bb (Dg ls i λl h=>by have:=c l h;omega) λm g=>aN (λh=>ab λk=>absurd k (jh h)) λh=>?_;obtain⟨f,j,z,rfl,d⟩:=g (fH h);refine bb (cQ d) λa b=>aq (jj (by rw[aJ];omega) (by rw[aJ];have:=c a (Y b);show(a.length:Int)<=10000;omega) (by decide)) (bb (cQ d) λn e=>aa (uY ls z [] d f c (by decide)) (ab λ_=>⟨f,j,z,rfl,?_,rfl⟩));rw[b]at e;cases e;show ls[z]?=some (d7 (er (ak a) 0) a);rw[vH];exact b
theorem Tg(ls:List (List Int))(i:Int)(c:∀l,l∈ls->l.length<=10000):Ok (wm ((ls,()),i,())) λr=>r.2.2.1=0->ls.length<=6/\x8 ls/\∃(z:Nat)(l:List Int),i=(z:Int)/\ls[z]?=some (l++[r.2.1])/\r.1.1=ls.set z l:=by
 unfold wm;refine bb (Dg ls i λl h=>by have:=c l h;omega) λs k=>aN (λh=>ab λo=>absurd o (jh h)) λh=>?_;obtain⟨g,n,z,rfl,j⟩:=k (fH h);refine bb (cQ j) λa f=>aN (λ_=>ab λh=>by cases h) λd=>?_;have q:=c a (Y f);have d:ak a≠0:=mZ d;rw[aJ]at d;have e:bo .i64 (ak a) 1=((a.length-1:Nat):Int):=by rw[aJ];exact vW (by omega) (by omega)
 have m:eX a 0 ((a.length-1:Nat):Int)=a.take (a.length-1):=by unfold eX;rw[db];rfl
 simp only[e,m];refine aq ?_ (bb (cQ (l:=a) (i:=a.length-1) (by omega)) λp b=>aa (uY ls z (a.take (a.length-1)) j g c (by rw[aY];omega)) (ab λ_=>⟨g,n,z,a.take (a.length-1),rfl,?_,rfl⟩));.unfold dJ;rw[aJ,av (show(0:Int)<=0 by omega),av (show(0:Int)<=((a.length-1:Nat):Int)by omega),av (show((a.length-1:Nat):Int)<=(a.length:Int)by omega)];rfl
 .rw[f];congr 1;have b:a[a.length-1]?=some p:=b;have:=jq (l:=a) (i:=a.length-1);rw[b,show a.length-1+1=a.length by omega,bO]at this;exact this
def Q0(z:Zn)(L:Nat->List Int):Zn:=(z.1,z.2.1,z.2.2.1,z.2.2.2.1,z.2.2.2.2.1,[L 0,L 1,L 2,L 3,L 4],())
def Vk(z:Zn)(k:Nat)(f:Int)(t:List Int)(j:Nat):List Int:=if j<k then [f+2^j]else if j=k then t else dL z j
structure D2 (z : Zn) (f : Int) (z' : Zn) (k : Nat) (t : List Int) : Prop where
  k4 : k ≤ 4
  lo : ∀ j, j < k → dL z j = []
  hd : dL z k = f :: t
  z' : z' = Q0 z (Vk z k f t)
theorem xD{z:Zn}{L:Nat->List Int}{a b c d e:List Int}(f:a=L 0)(h1:b=L 1)(h2:c=L 2)(g:d=L 3)(h:e=L 4):((z.1,z.2.1,z.2.2.1,z.2.2.2.1,z.2.2.2.2.1,[a,b,c,d,e],()):Zn)=Q0 z L:=by subst f h1 h2 g h;rfl
theorem ED{l:List Int}(h:a6 (ak l) 0=true):l=[]:=by have h:=lq h;rw[aJ]at h;exact ix (by omega)
theorem wa{l:List Int}(h:a6 (ak l) 0=false):∃f t,l=f::t:=by have h:=mZ h;rw[aJ]at h;cases l with
 |nil=>exact absurd rfl h
 |cons f t=>exact⟨f,t,rfl⟩
theorem rm{l:List Int}(h:l.length<=1000):aO [] l 8=true:=ce (by show 0+l.length<=10000;omega) (by decide)
theorem Rq{l:List Int}{f:Int}{t:List Int}(h:l=f::t):a5 (aM [] l) 0=true:=by subst h;exact eF (l:=f::t) (i:=0) (by simp)
theorem K5{l:List Int}{f:Int}{t:List Int}(h:l=f::t):ax (aM [] l) 0=some f:=by subst h;rfl
theorem IJ{l:List Int}{f:Int}{t:List Int}(h:l=f::t):dJ 1 (ak (aM [] l)) (ak (aM [] l))=true:=by
 subst h;unfold dJ;have:(1:Int)<=ak (aM [] (f::t)):=by rw[aJ];show(1:Int)<=((t.length+1:Nat):Int);omega
 rw[av (show(0:Int)<=1 by decide),av this,av (bX _)];rfl
theorem Qp{l:List Int}{f:Int}{t:List Int}(h:l=f::t):eX (aM [] l) 1 (ak (aM [] l))=t:=by subst h;unfold eX;rw[aJ,db];show t.take (t.length+1-1)=t;rw[Nat.add_sub_cancel,bO]
theorem wc{β:Type}{Q:β->Prop}{l:List Int}{g:Int}{R:Option β}(c:l=[])(b:Ok R Q):Ok (am (gC (aM [] l,g,())) λa=>aA (dJ a.1 (ak (aM [] l)) (ak (aM [] l))) (ad (a6 a.1 (ak (aM [] l))) (aA (aO (aM [] l) (g::[]) 8) R) none)) Q:=by subst c;exact BK (l:=[]) (λi j x y _ h=>by cases h) (λx d=>by cases d) (by decide) b
theorem v5{l:List Int}{f g c:Int}(a:l=[])(h:f+c=g)(d:0<=f)(h1:f<=256)(b:0<=c)(c1:c<=16):aM (aM [] l) [ai .i64 f c]=[g]:=by subst a;rw[cD (by omega) (by omega),h];rfl
theorem Js(z:Zn)(n:mr (dL z) 1000):Ok (Dh (z,0,())) λr=>(r.2.2.1=0->DR z/\∃k t,D2 z r.2.1 r.1 k t)/\(tF (z,())=some (0,())->r.2.2.1≠0->∀k,k<=4->dL z k=[]):=by
 have p:(bm [] z.2.2.2.2.2.1 0).length<=1000:=n 0 (by decide);have q:(bm [] z.2.2.2.2.2.1 1).length<=1000:=n 1 (by decide);have s:(bm [] z.2.2.2.2.2.1 2).length<=1000:=n 2 (by decide);have u:(bm [] z.2.2.2.2.2.1 3).length<=1000:=n 3 (by decide);have v:(bm [] z.2.2.2.2.2.1 4).length<=1000:=n 4 (by decide);unfold Dh SN;refine be rfl (qb (uZ z (n.mono (by decide))) λv0 x0 y0=>aN (λh=>ab ⟨λw0=>absurd w0 (jh h),λe=>by rw[x0]at e;rw[eu e]at h;cases h⟩) λh=>?_);have l:=y0 (fH h);have o:∀(k:Nat)(f:Int)(t:List Int),k<=4->bm [] z.2.2.2.2.2.1 k=f::t->0<=f/\f<=256:=λk f t z0 e=>by have D:=(l.fr k z0).2 f (by show f∈bm [] z.2.2.2.2.2.1 k;rw[e];exact bZ ..);have:=pw k;have:=l.pX.1;have:=l.pX.2.2;have:=D.1;have:=D.2.1;omega
 refine aN (λx=>?_) λx=>?_
 .
  have a:=ED x;refine aN (λy=>?_) λy=>?_
  .
   have b:=ED y;refine aN (λA=>?_) λA=>?_
   .
    have g:=ED A;refine aN (λB=>?_) λB=>?_
    .
     have i:=ED B;refine aN (λC=>?_) λC=>?_;.have m:=ED C;exact ab ⟨λh=>(by cases h),λ_ _ k z0=>by rcases k with _|_|_|_|_|k<;>first|assumption|omega⟩
     .
      obtain⟨f,t,m⟩:=wa C;obtain⟨c,d⟩:=o 4 f t (by decide) m;refine aq (rm p) (aq (rm q) (aq (rm s) (aq (rm u) (aq (rm v) (aq (Rq m) (aa (K5 m) (aq (IJ m) (wc i (wc g (wc b (wc a (ab ⟨λ_=>⟨l,4,t,by decide,λj w=>?_,m,xD (v5 a rfl c d (by decide) (by decide)) (v5 b rfl c d (by decide) (by decide)) (v5 g rfl c d (by decide) (by decide)) (v5 i rfl c d (by decide) (by decide)) (Qp m)⟩,λ_ h=>absurd rfl h⟩))))))))))));rcases show j=0\/j=1\/j=2\/j=3 by omega with rfl|rfl|rfl|rfl;.exact a
      .exact b
      .exact g
      .exact i
    .
     obtain⟨f,t,i⟩:=wa B;obtain⟨c,d⟩:=o 3 f t (by decide) i;refine aq (rm p) (aq (rm q) (aq (rm s) (aq (rm u) (aq (rm v) (aq (Rq i) (aa (K5 i) (aq (IJ i) (wc g (wc b (wc a (ab ⟨λ_=>⟨l,3,t,by decide,λj w=>?_,i,xD (v5 a rfl c d (by decide) (by decide)) (v5 b rfl c d (by decide) (by decide)) (v5 g rfl c d (by decide) (by decide)) (Qp i) rfl⟩,λ_ h=>absurd rfl h⟩)))))))))));rcases show j=0\/j=1\/j=2 by omega with rfl|rfl|rfl;.exact a
     .exact b
     .exact g
   .
    obtain⟨f,t,g⟩:=wa A;obtain⟨c,d⟩:=o 2 f t (by decide) g;refine aq (rm p) (aq (rm q) (aq (rm s) (aq (rm u) (aq (rm v) (aq (Rq g) (aa (K5 g) (aq (IJ g) (wc b (wc a (ab ⟨λ_=>⟨l,2,t,by decide,λj w=>?_,g,xD (v5 a rfl c d (by decide) (by decide)) (v5 b rfl c d (by decide) (by decide)) (Qp g) rfl rfl⟩,λ_ h=>absurd rfl h⟩))))))))));rcases show j=0\/j=1 by omega with rfl|rfl;.exact a
    .exact b
  .obtain⟨f,t,b⟩:=wa y;obtain⟨c,d⟩:=o 1 f t (by decide) b;refine aq (rm p) (aq (rm q) (aq (rm s) (aq (rm u) (aq (rm v) (aq (Rq b) (aa (K5 b) (aq (IJ b) (wc a (ab ⟨λ_=>⟨l,1,t,by decide,λj w=>?_,b,xD (v5 a rfl c d (by decide) (by decide)) (Qp b) rfl rfl rfl⟩,λ_ h=>absurd rfl h⟩)))))))));rcases show j=0 by omega with rfl;.exact a
 .obtain⟨f,t,a⟩:=wa x;obtain⟨c,d⟩:=o 0 f t (by decide) a;refine aq (rm p) (aq (rm q) (aq (rm s) (aq (rm u) (aq (rm v) (aq (Rq a) (aa (K5 a) (aq (IJ a) (ab ⟨λ_=>⟨l,0,t,by decide,λj w=>?_,a,xD (Qp a) rfl rfl rfl rfl⟩,λ_ h=>absurd rfl h⟩))))))));omega
def nz(z:Zn):Zn:=Q0 z (dL z)
theorem xC{z:Zn}{L:Nat->List Int}{k:Nat}(h:k<=4):dL (Q0 z L) k=L k:=by rcases show k=0\/k=1\/k=2\/k=3\/k=4 by omega with rfl|rfl|rfl|rfl|rfl<;>rfl
theorem AO{z:Zn}{k:Nat}(h:k<=4):dL (nz z) k=dL z k:=xC h
theorem rR{b h:D iT}{nd:List Int}{cl:List tM}{T c:List Zn}{i k:Nat}{z:Zn}{g:Zn->Zn->Zn}{β:Type}{Q:Sum (eI×Unit) β->Prop}(a:T[i]?=some z)(j:(bm [] z.2.2.2.2.2.1 k).length<=1000)(l:T.set i (g z z)=c)(f:Q (.inl ((nd,b,h,c,cl,()),()))):Ok (aA (a5 T (i:Int)) (am (ax T (i:Int)) λe=>aA (aO [] (bm [] e.2.2.2.2.2.1 k) 8) (aA (a5 T (i:Int)) (am (ax T (i:Int)) λm=>(some (.inl ((nd,b,h,aI T (i:Int) (g e m),cl,()),())):Option (Sum (eI×Unit) β)))))) Q:=by have d:i<T.length:=(aj.1 a).1;refine aq (eF d) (aa (aC a) (aq (rm j) (aq (eF d) (aa (aC a) ⟨_,rfl,?_⟩))));rw[iP,l];exact f
theorem O0{T:List Zn}{i:Nat}{z:Zn}(h:T[i]?=some z):((T.take i).map nz++T.drop i).set i (nz z)=(T.take (i+1)).map nz++T.drop (i+1):=by
 have a:i<T.length:=(aj.1 h).1;have b:((T.take i).map nz).length=i:=by rw[cZ,aY];omega
 rw[List.set_append,aG (by omega),b,ee,jq,h,sC,cA];congr 1;rw[dR a];rfl
theorem Q5{T:List Zn}{i:Nat}{z:Zn}(h:T[i]?=some z):((T.take i).map nz++T.drop i)[i]?=some z:=by
 have b:i<T.length:=(aj.1 h).1;have a:((T.take i).map nz).length=i:=by rw[cZ,aY];omega
 rw[bB (by omega),a,ee,gz];exact h
theorem iM{X:Type}{T:List X}{i:Nat}{x:X}(h:T[i]?=some x):T.set i x=T:=by obtain⟨a,rfl⟩:=aj.1 h;exact tq a
end Go.Bo
set_option maxHeartbeats 4000000
namespace Go.Bo
open Go Go.Ls
inductive zJ(z0:Zn):List Int->Zn->Prop where|nil:zJ z0 [] z0|HF{l z f z' k t}:zJ z0 l z->DR z->D2 z f z' k t->zJ z0 (l++[f]) z'
structure Tk(zl:List Zn)(cl:List tM)(cpu:Nat)(f:Int)(zl':List Zn)(cl':List tM):Prop where ex:∃(zi:Nat)(z0:Zn)(ls:List (List Int))(l0:List Int),zl[zi]?=some z0/\cl[cpu]?=some (ls,())/\ls[zi]?=some l0/\((l0≠[]/\zl'=zl/\∃l,l0=l++[f]/\cl'=cl.set cpu (ls.set zi l,()))\/l0=[]/\∃(l:List Int)(z':Zn),zJ z0 (f::l) z'/\(f::l).length<=64/\zl'=zl.set zi z'/\cl'=cl.set cpu (ls.set zi l.reverse,()))
theorem CY(a:eI)(l:∀z,z∈cw a->mr (dL z) 1000)(m:(cw a).length<=1000){β:Type}{Q:β->Prop}{K:eI×Unit->Option β}(n:Ok (K ((a.1,a.2.1,a.2.2.1,(cw a).map nz,cP a,()),())) Q):Ok (aD (YY a) K) Q:=by
 unfold YY;obtain⟨e,b,h,c,d,u⟩:=a;refine aK (P:=λs:eI×Unit=>s=((e,b,h,c.map nz,d,()),())) ?_ (λs t=>by rw[t];exact n);clear n K;replace l:∀z,z∈c->mr (dL z) 1000:=l;replace m:c.length<=1000:=m;refine bz (I:=λi s=>s=((e,b,h,(c.take i).map nz++c.drop i,d,()),(i:Int),())) (m:=c.length) rfl (by omega) ?_ ?_
 .
  rintro i s k rfl;have p:c[i]?=some c[i]:=G k;have o:=Q5 p;have r:((c.take i).map nz++c.drop i).length=c.length:=by rw[az,cZ,aY,cE];omega
  have g:(((c.take i).map nz++c.drop i).set i (nz c[i]))[i]?=some (nz c[i]):=bq (by omega);have j:=l c[i] (ew k);generalize q:(c.take i).map nz++c.drop i=f at o r g⊢;refine be (cB (l:=c) k) (aK (P:=λs:eI×Unit=>s=((e,b,h,f.set i (nz c[i]),d,()),())) ?_ ?_);.refine aK (P:=λs:eI×Unit=>s=((e,b,h,f.set i (nz c[i]),d,()),())) (rR (k:=0) o (j 0 (by decide)) rfl rfl) ?_;rintro s rfl;refine aK (P:=λs:eI×Unit=>s=((e,b,h,f.set i (nz c[i]),d,()),())) (rR (k:=1) g (j 1 (by decide)) (eQ ..) rfl) ?_;rintro s rfl;refine aK (P:=λs:eI×Unit=>s=((e,b,h,f.set i (nz c[i]),d,()),())) (rR (k:=2) g (j 2 (by decide)) (eQ ..) rfl) ?_;rintro s rfl;refine aK (P:=λs:eI×Unit=>s=((e,b,h,f.set i (nz c[i]),d,()),())) (rR (k:=3) g (j 3 (by decide)) (eQ ..) rfl) ?_;rintro s rfl;refine aK (P:=λs:eI×Unit=>s=((e,b,h,f.set i (nz c[i]),d,()),())) (rR (k:=4) g (j 4 (by decide)) (eQ ..) rfl) ?_;rintro s rfl;exact a4 rfl
  .rintro s rfl;refine⟨_,rfl,?_⟩;show((e,b,h,f.set i (nz c[i]),d,()),ai .i64 (i:Int) 1,())=_;rw[bI (by omega),<-q,O0 p]
 .rintro s rfl;refine aw (cJ (l:=c)) ⟨_,rfl,?_⟩;show((e,b,h,(c.take c.length).map nz++c.drop c.length,d,()),())=_;rw[bO,List.drop_length,bi]
theorem CZ(g:eI×Unit)(q:(cP g.1).length<=1000)(o:∀c,c∈cP g.1->c.1.length<=1000/\∀l,l∈c.1->l.length<=1000){β:Type}{Q:β->Prop}{K:eI×Unit->Option β}(p:Ok (K g) Q):Ok (aD (Y6 g.1) K) Q:=by
 unfold Y6;obtain⟨⟨f,b,h,k,a,u⟩,v⟩:=g;refine aK (P:=λs:eI×Unit=>s=((f,b,h,k,a,()),())) ?_ (λs t=>by rw[t];exact p);clear p K;replace q:a.length<=1000:=q;replace o:∀c,c∈a->c.1.length<=1000/\∀l,l∈c.1->l.length<=1000:=o;refine bz (I:=λi s=>s=((f,b,h,k,a,()),(i:Int),())) (m:=a.length) rfl (by omega) ?_ ?_
 .
  rintro i s d rfl;have m:a[i]?=some a[i]:=G d;have r:=o a[i] (ew d);refine be (cB (l:=a) d) (aK (P:=λs:eI×Unit=>s=((f,b,h,k,a,()),())) ?_ ?_)
  .
   refine aq (eF (l:=a) d) (aa (aC m) (aq (ce (by show 0+a[i].1.length<=10000;omega) (by decide)) ?_));refine aK (P:=λs:List (List Int)×Unit=>s=(a[i].1,())) (bz (I:=λj s=>s=(a[i].1,(j:Int),())) (m:=a[i].1.length) rfl (by omega) ?_ ?_) ?_;.rintro j s e rfl;have n:a[i].1[j]?=some a[i].1[j]:=G e;refine be (cB (l:=a[i].1) e) (aq (eF (l:=a[i].1) e) (aa (aC n) (aq (rm (r.2 _ (ew e))) (aq (eF (l:=a[i].1) e) (aa (aC n) ⟨_,rfl,?_⟩)))));show(aI a[i].1 (j:Int) (aM [] a[i].1[j]),ai .i64 (j:Int) 1,())=_;rw[iP,bI (by omega)];exact eT (.,(((j+1:Nat):Int),())) (iM n)
   .rintro s rfl;exact aw (cJ (l:=a[i].1)) ⟨_,rfl,rfl⟩
   .rintro s rfl;refine aq (eF (l:=a) d) (aa (aC m) ⟨_,rfl,?_⟩);show((f,b,h,k,aI a (i:Int) (a[i].1,()),()),())=_;rw[iP,iM (x:=(a[i].1,())) m]
  .rintro s rfl;refine⟨_,rfl,?_⟩;show((f,b,h,k,a,()),ai .i64 (i:Int) 1,())=_;rw[bI (by omega)]
 .rintro s rfl;exact aw (cJ (l:=a)) ⟨_,rfl,rfl⟩
end Go.Bo
set_option maxHeartbeats 4000000
namespace Go.Bo
open Go Go.Ls
theorem Mw{l:List Int}{j:Nat}(a:j<l.length)(c:l.length<=100000):Ok (ax l (bo .i64 (bo .i64 (ak l) 1) (j:Int))) λx=>l.reverse[j]?=some x:=by
 have e:bo .i64 (bo .i64 (ak l) 1) (j:Int)=((l.length-1-j:Nat):Int):=by rw[aJ,vW (by omega) (by omega),fk (by omega) (by omega)];omega
 rw[e];refine(cQ (l:=l) (i:=l.length-1-j) (by omega)).mono λx b=>?_;rw[tt a];exact b
theorem Mu{l:List Int}{j:Nat}(a:j<l.length)(b:l.length<=100000):a5 l (bo .i64 (bo .i64 (ak l) 1) (j:Int))=true:=by
 have e:bo .i64 (bo .i64 (ak l) 1) (j:Int)=((l.length-1-j:Nat):Int):=by rw[aJ,vW (by omega) (by omega),fk (by omega) (by omega)];omega
 rw[e];exact eF (by omega)
theorem Uk(ls:List (List Int))(d:Nat)(l:List Int)(n:∀m,m∈ls->m.length<=5000)(w0:l.length<=1000):Ok (QH ls (d:Int) l) λr=>r.2.1=0->x8 ls/\∃x,ls[d]?=some x/\r.1.1=ls.set d (x++l.reverse):=by
 unfold QH;refine bb (Dg ls d λm e=>by have:=n m e;omega) λv0 y=>aN (λh=>ab λz0=>absurd z0 (jh h)) λh=>?_;obtain⟨C,D,z,t,v⟩:=y (fH h);have t:d=z:=by omega
 subst t;refine aK (P:=λ_=>True) (bz (I:=λi s=>s.2=((i:Int),())) (m:=ls.length) rfl (by omega) ?_ ?_) λs0 _=>?_
 .
  rintro i⟨f,g⟩b rfl;refine be (cB (l:=ls) b) (aK (P:=λ_=>True) (bb (cQ (l:=ls) b) λk A=>?_) ?_)
  .
   have e:=n k (Y A);refine aK (P:=λ_=>True) (bz (I:=λi s=>s.2=((i:Int),())) (m:=k.length) rfl (by omega) ?_ ?_) λ_ _=>a4 trivial;.rintro j⟨f,g⟩c rfl;exact be (cB (l:=k) c) (bb (cQ (l:=k) c) λu0 _=>⟨_,rfl,by show(ai .i64 (j:Int) 1,())=_;rw[bI (by omega)]⟩)
   .rintro⟨f,g⟩rfl;exact aw (cJ (l:=k)) ⟨_,rfl,trivial⟩
  .rintro t0 _;exact⟨_,rfl,by show(ai .i64 (i:Int) 1,())=_;rw[bI (by omega)]⟩
 .rintro⟨f,g⟩rfl;exact aw (cJ (l:=ls)) ⟨_,rfl,trivial⟩
 refine aK (P:=λ_=>True) (bz (I:=λi s=>s.2.2=((i:Int),())) (m:=l.length) rfl (by omega) ?_ ?_) λr0 _=>?_;.rintro i⟨q,f,g⟩b rfl;refine be (cB (l:=l) b) (aq (eF (l:=l) b) (bb (cQ (l:=l) b) λy0 _=>aa (vD y0) (aN (λ_=>bu (bu (ab λh=>by cases h))) λ_=>aN (λ_=>bu (bu (ab λh=>by cases h))) λ_=>⟨_,rfl,?_⟩)));show(ai .i64 (i:Int) 1,())=_;rw[bI (by omega)]
 .rintro⟨q,f,g⟩rfl;exact aw (cJ (l:=l)) ⟨_,rfl,trivial⟩
 refine bb (cQ (l:=ls) v) λa o=>?_;have e:=n a (Y o);refine aq (jj (by rw[aJ];omega) (by rw[aJ];show(a.length:Int)<=10000;omega) (by decide)) (aa (aC o) ?_);refine aK (P:=λs:List Int×Unit=>s.1=a++l.reverse) (bz (I:=λi s=>s=(a++l.reverse.take i,(i:Int),())) (m:=l.length) ?_ (by omega) ?_ ?_) ?_;.show(d7 (er (ak a) 0) a,(0:Int),())=_;rw[vH,gg,bi];rfl
 .
  rintro j s c rfl;refine be (cB (l:=l) c) (aq (Mu c (by omega)) (bb (Mw c (by omega)) λx0 B=>aq (ce ?_ (by decide)) ⟨_,rfl,?_⟩));.show(a++l.reverse.take j).length+1<=10000;rw[az,aY,ep];omega
  .show(a++l.reverse.take j++[x0],ai .i64 (j:Int) 1,())=_;rw[cA,dC B,bI (by omega)]
 .rintro s rfl;refine aw (cJ (l:=l)) ⟨_,rfl,?_⟩;show a++l.reverse.take l.length=_;rw[dF (by rw[ep];exact ar _)]
 .rintro⟨w,u⟩p;have p:w=a++l.reverse:=p;subst p;refine aa (uY ls d (a++l.reverse) v C (λm e=>by have:=n m e;omega) (by rw[az,ep];omega)) (ab λ_=>⟨D,a,o,rfl⟩)
theorem Vj{z z':Zn}{f:Int}{k n:Nat}{t:List Int}(h:D2 z f z' k t)(b:mr (dL z) n):mr (dL z') (n+1):=by
 intro j a;rw[h.z',xC a];unfold Vk;split;.show 1<=n+1;omega
 .
  split;.have:=b k h.k4;rw[h.hd,bx]at this;omega
  .exact qy (b j a)
theorem IP{a:Zn}{n:Nat}:∀{l:List Int}{z:Zn},zJ a l z->mr (dL a) n->mr (dL z) (n+l.length):=by intro l z h c;induction h with
 |nil=>exact c
 |HF _ _ b d=>rw[az];exact Vj b d
theorem Nm{a:Zn}{l:List Int}{z:Zn}(h:zJ a l z):zs z=zs a/\zc z=zc a:=by induction h with
 |nil=>exact⟨rfl,rfl⟩
 |HF _ _ b c=>rw[b.z'];exact c
theorem QE{l:List Int}{x:Int}(h:l.length<=1000):aO l [x] 8=true:=ce (by show l.length+1<=10000;omega) (by decide)
structure Rf(zl:List Zn)(cl:List tM)(cpu zi:Nat)(z0:Zn)(ls:List (List Int))(s:eI×Bool×Unit):Prop where ex:∃(l:List Int)(z':Zn),zJ z0 l z'/\l.length<=64/\cw s.1=zl.set zi z'/\s.2.1=decide (0<(l.length:Int))/\(cP s.1=cl\/∃l0,ls[zi]?=some l0/\x8 ls/\cP s.1=cl.set cpu (ls.set zi (l0++l.reverse),()))
theorem BG(s:eI×Unit)(j c:Nat)(f:Zn)(ls:List (List Int))(w:(cw s.1)[c]?=some f)(o:(cP s.1)[j]?=some (ls,()))(n0:mr (dL f) 900)(m0:∀m,m∈ls->m.length<=1000)(C:s.1.2.1<=(64:Int))(g0:(cw s.1).length<=100):Ok (KA s.1 (c:Int) (j:Int)) λr=>(r.1.1=s.1.1/\oa r.1=oa s.1/\mz r.1=mz s.1)/\Rf (cw s.1) (cP s.1) j c f ls r:=by
 unfold KA;obtain⟨⟨i,b,h,e,d,u⟩,v⟩:=s;have w:e[c]?=some f:=w;have o:d[j]?=some (ls,()):=o;have C: @LE.le Int _ b 64:=C;have z:c<e.length:=(aj.1 w).1;have D:j<d.length:=(aj.1 o).1;have x0:∀a,(e.set c a)[c]?=some a:=λa=>bq z;refine aK (P:=λq:eI×List Int×Unit=>∃a,zJ f q.2.1 a/\q.2.1.length<=64/\q.1=(i,b,h,e.set c a,d,())) (qa (I:=λk q=>∃(l:List Int)(a:Zn),q=((i,b,h,e.set c a,d,()),l,(l.length:Int),())/\zJ f l a/\l.length+k=64) (k:=64) ⟨[],f,?_,.nil,rfl⟩ (by decide) ?_) ?_;.show((i,b,h,e,d,()),[],(0:Int),())=_;rw[iM w];rfl
 .
  rintro k q⟨l,a,rfl,g,f0⟩;have y0:∀{w0 v0:Type}{A:w0->Prop}{B:v0->Prop},Ok (ao (some (Sum.inl ((i,b,h,e.set c a,d,()),l,()))):Option (Sum w0 (Sum (eI×List Int×Unit) v0))) (hN A (hN (λq:eI×List Int×Unit=>∃a,zJ f q.2.1 a/\q.2.1.length<=64/\q.1=(i,b,h,e.set c a,d,())) B)):=⟨.inr (.inl ((i,b,h,e.set c a,d,()),l,())),rfl,a,g,by show l.length<=64;omega,rfl⟩;refine aN (λz0=>?_) λ_=>y0;have z0:(l.length:Int)<b:=kS z0;have o0:0<k:=by omega
  have i0:=IP g n0;refine aq (eF (l:=e.set c a) (by rw[bC];exact z)) (aa (aC (x0 a)) (bb (Js a (i0.mono (by omega))) λx r0=>aN (λ_=>y0) λy=>?_));obtain⟨k0,e0,t,n⟩:=r0.1 (fH y);refine aq (eF (l:=e.set c a) (by rw[bC];exact z)) (aa (aC (x0 a)) (aq (QE (l:=l) (by omega)) ⟨_,rfl,o0,l++[x.2.1],x.1,?_,.HF g k0 n,by rw[az];show l.length+1+(k-1)=64;omega⟩));show((i,b,h,aI (e.set c a) (c:Int) x.1,d,()),l++[x.2.1],ai .i64 (l.length:Int) 1,())=_;rw[iP,eQ,bI (by omega),az];rfl
 .
  rintro⟨u0,l,d0⟩⟨a,g,p,n⟩;have g:zJ f l a:=g;have p:l.length<=64:=p;have n:u0=(i,b,h,e.set c a,d,()):=n;subst n;refine aq (eF (l:=d) D) (aa (aC o) (bb (Uk ls c l (λm l0=>by have:=m0 m l0;omega) (by omega)) λh0 q0=>aN (λy=>?_) λ_=>?_));.obtain⟨p0,j0,t0,s0⟩:=q0 (lq y);refine aq (eF (l:=d) D) (aa (aC o) (ab ⟨⟨rfl,rfl,rfl⟩,⟨l,a,g,p,rfl,rfl,.inr ⟨j0,t0,p0,?_⟩⟩⟩));show aI d (j:Int) (h0.1.1,())=_;rw[iP,s0];rfl
  .exact ab ⟨⟨rfl,rfl,rfl⟩,⟨l,a,g,p,rfl,rfl,.inl rfl⟩⟩
theorem Ph(s:eI×Bool×Unit)(g n:Nat)(B:(cP s.1).length<=100)(o:∀(i:Nat)(c:tM),i≠g->(cP s.1)[i]?=some c->∀l,l∈c.1->l=[]){β:Type}{R:β->Prop}:Ok (YR s.1 (n:Int) (g:Int):Option (Sum (eI×Unit) β)) (hN (λr:eI×Unit=>r.1=s.1) R):=by
 unfold YR;obtain⟨⟨d,b,h,f,a,u⟩,v⟩:=s;replace B:a.length<=100:=B;replace o:∀(i:Nat)(c:tM),i≠g->a[i]?=some c->∀l,l∈c.1->l=[]:=o;refine bz (I:=λi s=>s=((d,b,h,f,a,()),(i:Int),())) (m:=a.length) rfl (by omega) ?_ ?_
 .
  rintro i s m rfl;have k:a[i]?=some a[i]:=G m;have q:∀{D:Type}{A:D->Prop},Ok (some (.inl ((d,b,h,f,a,()),ai .i64 (i:Int) 1,())):Option (Sum (eI×Int×Unit) D)) (hN (λs=>s=((d,b,h,f,a,()),((i+1:Nat):Int),())) A):=⟨_,rfl,by show(_,_)=_;rw[bI (by omega)]⟩;refine be (cB (l:=a) m) (aN (λp=>?_) λ_=>q);have p:i≠g:=λe=>jh p (by rw[e]);have y:=o i a[i] p k;refine aq (eF (l:=a) m) (aa (aC k) (bb (S5 a[i].1 n λl v0=>by rw[y l v0];exact aP _) λC w0=>aN (λx0=>?_) λ_=>q));obtain⟨u0,t0,z,t,w,z0⟩:=w0 (lq x0);have t:n=z:=by omega
  subst t;have x:=y _ (Y w);refine aq (eF (l:=a) m) (aa (aC k) (aK (P:=λs:eI×Unit=>s=((d,b,h,f,a,()),())) (bz (I:=λj s=>s=((d,b,h,f,a,()),(j:Int),())) (m:=0) ?_ (by decide) (λj s s0=>by omega) ?_) ?_));.show((d,b,h,f,aI a (i:Int) (C.1.1,()),()),(0:Int),())=_;have y0:a[i].1.set n []=a[i].1:=iM (by rw[w,x]);rw[iP,z0,y0,iM (x:=(a[i].1,())) k];rfl
  .rintro s rfl;refine aw ?_ ⟨_,rfl,rfl⟩;show ay 0 (ak C.2.1)=false;rw[x];rfl
  .rintro s rfl;exact q
 .rintro s rfl;exact aw (cJ (l:=a)) ⟨_,rfl,rfl⟩
end Go.Bo
set_option maxHeartbeats 4000000
namespace Go.Bo
open Go Go.Ls
theorem Bq:∀(i:Nat){l:List Int}{x:Int},iW l->(∀y,y∈l->0<=y)->l[i]?=some x->(i:Int)<=x
 |0,l,x,c,b,a=>by have:=b x (Y a);omega
 |i+1,l,x,c,b,a=>by have e:i+1<l.length:=(aj.1 a).1;have d:l[i]?=some l[i]:=G (by omega);have:=Bq i c b d;have:=c i (i+1) _ _ (by omega) d a;omega
theorem pP{z:Zn}(h:DR z):mr (dL z) 256:=by
 intro k e;obtain⟨f,b⟩:=h.fr k e;have c:=h.pX;have d:∀y,y∈dL z k->0<=y:=λy a=>by have:=(b y a).1;have:=c.1;omega
 cases j:(dL z k).length with
  |zero=>exact aP _
  |succ n=>have a:(dL z k)[n]?=some (dL z k)[n]:=G (by omega);have g:=Bq n f d a;have i:=(b _ (Y a)).2.1;have:=pw k;have:=c.2.2;omega
theorem Bh(s:eI)(a g:Nat)(ls:List (List Int))(e:(cP s)[a]?=some (ls,()))(y:∀m,m∈ls->m.length<=5000){β k n:Type}{A:β->Prop}{B:k->Prop}{C:n->Prop}{Q:D (.ah du cU)->Prop}(v:∀r,r.2.2.1≠0->Q r)(t:∀l f,ls[g]?=some (l++[f])->x8 ls->Q ((s.1,s.2.1,s.2.2.1,cw s,(cP s).set a (ls.set g l,()),()),f,0,())):Ok (aA (a5 s.2.2.2.2.1 (a:Int)) (am (ax s.2.2.2.2.1 (a:Int)) λw0=>am (wm ((w0.1,()),(g:Int),())) λc=>ad (bH c.2.2.1 0) (ao (ao (ao (some (([],0,0,[],[],()),0,c.2.2.1,()))))) (aA (a5 s.2.2.2.2.1 (a:Int)) (am (ax s.2.2.2.2.1 (a:Int)) λu0=>ao (ao (ao (some ((s.1,s.2.1,s.2.2.1,s.2.2.2.1,aI s.2.2.2.2.1 (a:Int) (c.1.1,()),()),c.2.1,0,()))))))):Option (Sum β (Sum k (Sum n (D (.ah du cU)))))) (hN A (hN B (hN C Q))):=by
 obtain⟨x0,b,h,v0,d,u⟩:=s;replace e:d[a]?=some (ls,()):=e;have j:a<d.length:=(aj.1 e).1;refine aq (eF (l:=d) j) (aa (aC e) (bb (Tg ls g λm z0=>by have:=y m z0;omega) λc q=>aN (λy0=>bu (bu (bu (ab (v _ (jh y0)))))) λw=>?_));obtain⟨_,x,z,l,i,o,p⟩:=q (fH w);have i:g=z:=by omega
 subst i;refine aq (eF (l:=d) j) (aa (aC e) (bu (bu (bu ⟨_,rfl,?_⟩))));have:=t l c.2.1 o x;show Q ((x0,b,h,v0,aI d (a:Int) (c.1.1,()),()),c.2.1,0,());rw[iP,p];exact this
theorem MA{zl:List Zn}{n:Nat}(h:∀z,z∈zl->mr (dL z) n):∀z,z∈zl.map nz->mr (dL z) n:=by intro z c;obtain⟨y,b,rfl⟩:=wq.1 c;intro k a;rw[AO a];exact h y b k a
def PN(a:eI)(b:Nat)(r:D (.ah du cU)):Prop:=r.2.2.1=0->u4 (a,())=some ((0:Int),())/\L5 a/\(r.1.1=a.1/\oa r.1=oa a/\mz r.1=mz a)/\Tk ((cw a).map nz) (cP a) b r.2.1 (cw r.1) (cP r.1)
theorem TI(a:eI)(cpu:Nat)(kn:Bool)(hs:Sz a)(he:∀(i:Nat)(c:tM),i≠cpu->(cP a)[i]?=some c->∀l,l∈c.1->l=[]):Ok (Ar (a,(cpu:Int),kn,false,())) (PN a cpu):=by
 unfold Ar;refine be rfl ?_;unfold Jl;refine qb (JU a hs) λx0 hE h0=>aN (λh=>ab λhr=>absurd hr (jh h)) λh=>?_;have ha:=h0 (fH h);have hE:u4 (a,())=some ((0:Int),()):=by obtain⟨x0,u⟩:=x0;have:x0=0:=fH h;subst this;exact hE
 clear h0 h;refine aN (λ_=>ab λhr=>by cases hr) λ_=>aN (λ_=>ab λhr=>by cases hr) λg1=>?_;have g1:(cpu:Int)<ak (lH a):=qJ g1;rw[aJ]at g1;have g1:cpu<(lH a).length:=by omega
 refine bb (cQ (l:=lH a) g1) λx1 _=>bb (JG (cw a) x1 kn) λx2 h2=>?_;obtain⟨h6,h2⟩:=h2;have err:∀r,r.2.2.1≠0->PN a cpu r:=λr h1 h2=>absurd h2 h1;have hlen:∀z,z∈cw a->mr (dL z) 256:=λz hz=>pP (ha.nH z hz);have hcl:∀c,c∈cP a->∀l,l∈c.1->l.length<=64:=λc hc l hl=>by have:=(ha.cl c hc).2 l hl;have:=ha.bh.1;omega
 have hc6:∀c,c∈cP a->c.1.length<=6:=λc hc=>by rw[(ha.cl c hc).1];exact ha.nz.2
 have hcc:cpu<(cP a).length:=by rw[ha.nc];exact g1
 have hcn:(cP a).length<=4:=by rw[ha.nc];exact ha.nn.2
 have hzn:=ha.nz.2;refine aK (P:=λ_=>True) (bz (I:=λi s=>s.2=((i:Int),())) (m:=x2.1.length) rfl (by omega) ?_ ?_) λ_ _=>ab λhr=>by cases hr
 .
  rintro i⟨j,s2⟩hi rfl;refine be (cB (l:=x2.1) hi) (aK (P:=λ_=>True) (bb (cQ (l:=x2.1) hi) λx4 h4=>?_) ?_)
  .
   obtain⟨z1,z2⟩:=h2 x4 (Y h4);obtain⟨zi,hzi⟩:∃zi:Nat,@Eq Int x4 (zi:Int):=⟨Int.toNat x4,(eN z1).symm⟩;subst hzi;have hzi:zi<(cw a).length:=by omega
   refine bb (Th a zi ha hs (by omega) (by omega)) λx5 _=>aN (λ_=>a4 trivial) λ_=>?_;refine aq (ce (by show 0+(lH a).length<=10000;have:=ha.nn.2;omega) (by decide)) (aq (ce (by show 0+(cw a).length<=10000;omega) (by decide)) (aq (ce (by show 0+(cP a).length<=10000;omega) (by decide)) ?_));refine CY a (λz hz=>(hlen z hz).mono (by decide)) (by omega) (CZ _ (by show(cP a).length<=1000;omega) (λc hc=>⟨by have:=hc6 c hc;omega,λl hl=>by have:=hcl c hc l hl;omega⟩) ?_);have hg:(cP a)[cpu]?=some (((cP a)[cpu]).1,()):=G hcc;generalize hls:((cP a)[cpu]).1=ls at hg;have hm:(ls,())∈cP a:=Y hg;have hzl:ls.length=(cw a).length:=(ha.cl _ hm).1;have hl64:∀l,l∈ls->l.length<=64:=hcl _ hm;have hg2:ls[zi]?=some (ls[zi]'(by omega)):=G (by omega);generalize hl0:ls[zi]'(by omega)=l0 at hg2;have hzz:((cw a).map nz)[zi]?=some (nz ((cw a)[zi])):=by rw[js,G hzi];rfl
   refine aq (eF (l:=cP a) hcc) (aa (aC hg) (aa (aC hg2) (aN (λh0=>?_) λh0=>?_)))
   .
    have h0:=ED h0;subst h0
    have rtake:∀(s:eI)(l:List Int)(z':Zn){β γ δ:Type}{A:β->Prop}{B:γ->Prop}{C:δ->Prop},s.1=a.1->oa s=oa a->mz s=mz a->zJ (nz (cw a)[zi]) l z'->l.length<=64->cw s=((cw a).map nz).set zi z'->(cP s=cP a\/∃l0,ls[zi]?=some l0/\x8 ls/\cP s=(cP a).set cpu (ls.set zi (l0++l.reverse),()))->Ok (aA (a5 s.2.2.2.2.1 (cpu:Int)) (am (ax s.2.2.2.2.1 (cpu:Int)) λx103=>am (wm ((x103.1,()),(zi:Int),())) λx104=>ad (bH x104.2.2.1 0) (ao (ao (ao (some (([],0,0,[],[],()),0,x104.2.2.1,()))))) (aA (a5 s.2.2.2.2.1 (cpu:Int)) (am (ax s.2.2.2.2.1 (cpu:Int)) λx105=>ao (ao (ao (some ((s.1,s.2.1,s.2.2.1,s.2.2.2.1,aI s.2.2.2.2.1 (cpu:Int) (x104.1.1,()),()),x104.2.1,0,()))))))):Option (Sum β (Sum γ (Sum δ (D (.ah du cU)))))) (hN A (hN B (hN C (PN a cpu)))):=by
     intro s l z' β γ δ A B C q1 q2 q3 hch h64 e1 e3;rcases e3 with e3|⟨l0,g2,hf,e3⟩;.refine Bh s cpu zi ls (by rw[e3];exact hg) (λm hm=>by have:=hl64 m hm;omega) err λl' f h1 _=>?_;rw[hg2]at h1;have h1:=eu h1;exact absurd h1.symm (by simp)
     .
      rw[hg2]at g2;cases g2;have hcs:(cP s)[cpu]?=some (ls.set zi ([]++l.reverse),()):=by rw[e3];exact bq hcc
      refine Bh s cpu zi _ hcs (λm hm=>?_) err λl' f h1 _ _=>⟨hE,ha,⟨q1,q2,q3⟩,⟨zi,_,ls,[],hzz,hg,hg2,.inr ⟨rfl,l'.reverse,z',?_,?_,e1,?_⟩⟩⟩
      .
       rcases cM hm with hm|rfl;.have:=hl64 m hm;omega
       .rw[iw,ep];omega
      .
       rw[bq (by omega)]at h1;have h1:l.reverse=l'++[f]:=eu h1;have:l=f::l'.reverse:=by rw[<-ol l,h1,List.reverse_append];rfl
       rw[<-this];exact hch
      .
       rw[bq (by omega)]at h1;have h1:l.reverse=l'++[f]:=eu h1;have:l=f::l'.reverse:=by rw[<-ol l,h1,List.reverse_append];rfl
       rw[<-this];exact h64
      .show(cP s).set cpu ((ls.set zi ([]++l.reverse)).set zi l',())=_;rw[e3,eQ,eQ,ol]
    refine bb (BG _ cpu zi _ ls hzz hg (λk hk=>by rw[AO hk];have:=hlen _ (ew hzi) k hk;omega) (λm hm=>by have:=hl64 m hm;omega) (by have:=ha.bh;show oa a<=64;omega) (by show((cw a).map nz).length<=100;rw[cZ];omega)) λx61 h61=>?_;obtain⟨⟨q1,q2,q3⟩,⟨l,z',hch,h64,e1,e2,e3⟩⟩:=h61;refine aN (λhnb=>?_) λhnb=>?_
    .
     have hn:=QQ hnb;rw[e2]at hn;have hl:l=[]:=ix (by have:=ki hn;omega);subst hl
     have hz':z'=nz ((cw a)[zi]):=by generalize hq:([]:List Int)=q at hch;cases hch with
      |nil=>rfl
      |HF _ _ _=>exact absurd hq.symm (by simp)
     subst hz';have e1:cw x61.1=(cw a).map nz:=e1.trans (iM hzz)
     have e3:cP x61.1=cP a:=by
      rcases e3 with e3|⟨l0,g2,_,e3⟩;.exact e3
      .rw[hg2]at g2;cases g2;refine e3.trans ?_;have e4:ls.set zi ([]++[].reverse)=ls:=iM hg2;rw[e4];exact iM hg
     refine aK (Ph x61 cpu zi (by rw[e3];omega) λi c hi hc=>he i c hi (by rw[<-e3];exact hc)) λx72 h72=>?_;have h72:x72.1=x61.1:=h72;have q1:x72.1.1=a.1:=by rw[h72];exact q1
     have q2:oa x72.1=oa a:=by rw[h72];exact q2
     have q3:mz x72.1=mz a:=by rw[h72];exact q3
     have e1:cw x72.1=(cw a).map nz:=by rw[h72];exact e1
     have e3:cP x72.1=cP a:=by rw[h72];exact e3
     refine bb (BG x72 cpu zi _ ls (by rw[e1];exact hzz) (by rw[e3];exact hg) (λk hk=>by rw[AO hk];have:=hlen _ (ew hzi) k hk;omega) (λm hm=>by have:=hl64 m hm;omega) (by have:=ha.bh;show oa x72.1<=64;rw[q2];omega) (by rw[e1,cZ];omega)) λx99 h99=>?_;obtain⟨⟨r1,r2,r3⟩,⟨l,z',hch,h64,f1,f2,f3⟩⟩:=h99;rw[e3]at f3;exact rtake x99.1 l z' (r1.trans q1) (r2.trans q2) (r3.trans q3) hch h64 (by rw[<-e1];exact f1) f3
    .exact rtake x61.1 l z' q1 q2 q3 hch h64 e1 e3
   .
    obtain⟨f0,t0,e0⟩:=wa h0;have hne:l0≠[]:=by rw[e0];exact List.cons_ne_nil _ _
    refine Bh (a.1,a.2.1,a.2.2.1,(cw a).map nz,cP a,()) cpu zi ls hg (λm hm=>by have:=hl64 m hm;omega) (Q:=PN a cpu) err λl f h1 _ _=>⟨hE,ha,⟨rfl,rfl,rfl⟩,⟨zi,_,ls,l0,hzz,hg,hg2,.inl ⟨hne,rfl,l,?_,rfl⟩⟩⟩;rw[hg2]at h1;exact eu h1
  .rintro x109 _;exact⟨_,rfl,by show(ai .i64 (i:Int) 1,())=_;rw[bI (by omega)]⟩
 .rintro⟨j,s2⟩rfl;exact aw (cJ (l:=x2.1)) ⟨_,rfl,trivial⟩
structure SI (a : eI) (N : Int) : Prop where
  sz : Sz a
  e : ∀ (i : Nat) (c : tM), i ≠ 0 → (cP a)[i]? = some c → ∀ l, l ∈ c.1 → l = []
  n : u4 (a, ()) = some ((0 : Int), ()) → FD a N
theorem Vb{b:Zn}{l:List Int}{z:Zn}(h:zJ b l z):∀g,g∈l->zs b<=g/\g<zs b+zc b:=by
 induction h with
  |nil=>intro g a;cases a
  | @HF l z f o k t j m c n=>
  intro g a;rcases bD.1 a with a|a;.exact n g a
  .rcases cj.1 a with rfl;have d:=(m.fr k c.k4).2 g (by rw[c.hd];exact bZ ..);obtain⟨e,i⟩:=Nm j;have:=pw k;rw[<-e,<-i];exact⟨d.1,by have:=d.2.1;omega⟩
theorem ET{a r:eI}{b:Int}(h:FD a b)(f:(cw r).length=(cw a).length)(g:∀(i:Nat)(z:Zn),(cw a)[i]?=some z->∃z',(cw r)[i]?=some z'/\zs z'=zs z/\zc z'=zc z):FD r b:=by obtain⟨z,k,j⟩:=h;obtain⟨z',c,d,e⟩:=g _ z k;exact⟨z',by rw[f];exact c,by rw[d,e];exact j⟩
theorem KT{zl:List Zn}{i:Nat}{b:Zn}(h:(zl.map nz)[i]?=some b):∃z,zl[i]?=some z/\b=nz z:=by rw[js]at h;cases a:zl[i]? with
 |none=>rw[a]at h;cases h
 |some z=>rw[a]at h;cases h;exact⟨z,rfl,rfl⟩
theorem Qx{a:eI}{B:Int}(h:SI a B){r:D (.ah du cU)}(i0:PN a 0 r)(n0:r.2.2.1=0):SI r.1 B/\0<=(r.2.1:Int)/\(r.2.1:Int)<B:=by
 obtain⟨k0,n,⟨b0,a0,z9⟩,⟨t,y9,w0,c0,o0,t0,s0,j0⟩⟩:=i0 n0;have u:=h.n k0;obtain⟨z,p,rfl⟩:=KT o0;have g0:t<(cw a).length:=(aj.1 p).1;have x:(w0,())∈cP a:=Y t0;have d0:0<(cP a).length:=(aj.1 t0).1;have x0:∀z,z∈cw a->mr (dL z) 256:=λz p=>pP (n.nH z p);have v:∀c,c∈cP a->∀l,l∈c.1->l.length<=64:=λc d l w=>by have:=(n.cl c d).2 l w;have:=n.bh.1;omega
 have q0:∀A:List (List Int),(∀m,m∈A->m.length<=64)->(∀c,c∈(cP a).set 0 (A,())->∀l,l∈c.1->l.length<=100000)/\∀(i:Nat)(c:tM),i≠0->((cP a).set 0 (A,()))[i]?=some c->∀l,l∈c.1->l=[]:=λA s=>by
  refine⟨λc d l w=>?_,λi c f d=>?_⟩
  .
   rcases cM d with d|rfl;.have:=v c d l w;omega
   .have:=s l w;omega
  .rw[bE λe=>f e.symm]at d;exact h.e i c f d
 have r0:∀(i:Nat)(y:Zn),(cw a)[i]?=some y->((cw a).map nz)[i]?=some (nz y):=λi y b=>by rw[js,b];rfl
 rcases j0 with⟨_,g,l,rfl,q⟩|⟨rfl,l,p0,y0,l0,g,q⟩
 .
  have s:∀m,m∈w0.set t l->m.length<=64:=λm j=>by
   rcases cM j with j|rfl;.exact v _ x m j
   .have:=v _ x _ (Y s0);rw[az]at this;omega
  obtain⟨v0,u0⟩:=q0 _ s;refine⟨⟨⟨λy b=>?_,λc d=>v0 c (by rw[<-q];exact d)⟩,λi c f d=>u0 i c f (by rw[<-q];exact d),λ_=>ET u ?_ λi y b=>⟨nz y,?_,rfl,rfl⟩⟩,?_⟩;.rw[g]at b;exactλk o=>aU (MA x0 y b k o) (by decide)
  .rw[g,cZ]
  .rw[g];exact r0 i y b
  .obtain⟨y,b,C,z0⟩:=n.cf _ x t _ s0 r.2.1 (cR _ (kc _));exact M0 n u b C z0
 .
  have s:∀m,m∈w0.set t l.reverse->m.length<=64:=λm j=>by
   rcases cM j with j|rfl;.exact v _ x m j
   .rw[ep];rw[bx]at l0;omega
  obtain⟨v0,u0⟩:=q0 _ s;obtain⟨f0,e0⟩:=Nm y0
  have h0:mr (dL p0) 100000:=by
   have m0:mr (dL (nz z)) 256:=λk o=>by rw[AO o];exact x0 z (Y p) k o
   exact(IP y0 m0).mono (by omega)
  refine⟨⟨⟨λy b=>?_,λc d=>v0 c (by rw[<-q];exact d)⟩,λi c f d=>u0 i c f (by rw[<-q];exact d),λ_=>ET u ?_ λi y b=>?_⟩,?_⟩
  .
   rw[g]at b;rcases cM b with b|rfl;.exactλk o=>aU (MA x0 y b k o) (by decide)
   .exact h0
  .rw[g,bC,cZ]
  .
   rw[g];by_cases f:i=t;.subst f;rw[p]at b;cases b;exact⟨p0,bq (by rw[cZ];exact g0),f0,e0⟩
   .exact⟨nz y,by rw[bE λe=>f e.symm];exact r0 i y b,rfl,rfl⟩
  .obtain⟨C,z0⟩:=Vb y0 r.2.1 (bZ ..);exact M0 n u p C z0
end Go.Bo
set_option maxHeartbeats 4000000
set_option maxRecDepth 100000
namespace Go.Bo
open Go Go.Ls
abbrev Kn:=D fT
abbrev uX:=D vU
abbrev C7:=D xc
abbrev SG:=D tW
def GF(k:Kn):eI:=k.2.2.2.2.2.2.1
def sQ(k:Kn):List uX:=k.2.2.2.2.2.2.2.1
def kac(k:Kn):List fj:=k.2.2.2.2.2.2.2.2.2.1
def kG(k:Kn):List (D jZ):=k.2.2.2.2.2.2.2.2.2.2.2.2.2.2.1
def Rg(k:Kn):List C7:=k.2.2.2.2.2.2.2.2.2.2.2.2.2.2.2.2.2.1
def kl(c:D cc):List SG:=c.2.2.2.2.2.2.2.2.2.2.2.2.1
def CO(c:D cc):List fj:=c.2.2.2.2.2.2.2.2.2.2.2.1
def vO:uX:=(0,0,-1,-1,-1,-1,-1,-1,-1,0,false,false,false,0,[],[],())
def Qf(x:uX)(p i:Int):uX:=(1,x.2.1,p,i,x.2.2.2.2)
theorem t7{X:Type}{l:List X}{i:Int}{x:X}:aI l i x=l.set i.toNat x:=rfl
theorem qk{X:Type}{l:List X}{i:Int}(a:0<=i):ax l i=l[i.toNat]?:=by obtain⟨n,rfl⟩:∃n:Nat,i=(n:Int):=⟨i.toNat,by omega⟩;rw[db];rfl
def HG(e:D kk):Int:=match Aq (e,())with|some r=>r.1|none=>0
def mE(fi:List (D jZ)):List Int:=fi.map λx=>HG x.2.2.2.2.2.2.1
def Ya(p:SG)(t:D rN)(a:List Int):C7:=(0,0,-1,0,p.1,p.2.1,(0,0,0,0,(0,0,0,0,0,0,()),(),()),t,[],[],[],a,0,0,0,0,-1,())
def v7(c:D cc):List Int:=c.1
def MT(c:D cc)(t:D kO)(a:eI)(n:Nat)(sl:D zO)(ag:List (List Int))(so:D tX)(d:D zN)(fi:List (D jZ))(b:D ns):Kn:=(c,0,0,List.replicate (v7 c).length (-1),List.replicate (v7 c).length t,List.replicate (v7 c).length [],a,List.replicate n vO,sl,CO c,[],ag,so,d,fi,b,[],[],[],[],())
structure K0(c:D cc)(k:Kn)(N:Int):Prop where ex:∃(t:D kO)(a:eI)(sl:D zO)(ag:List (List Int))(so:D tX)(po:D zN)(fi:List (D jZ))(bl:List (List Int))(dv:D ns)(e1 e2 e3 e4 e5 e6:Int),Hk (c.2.2.2.2.1,())=some (t,e1,())/\Jn (c.1,c.2.2.1,c.2.2.2.1,c.2.1,())=some (a,e2,())/\Jm (a,())=some (N,())/\Hj (c.2.2.2.2.2.2.2.2.2.1,())=some (sl,e3,())/\Hh ()=some (ag,())/\Da (c.2.2.2.2.2.2.1,())=some (so,e4,())/\Hg (c.2.2.2.2.2.2.2.1,())=some (po,e5,())/\L3 (c,())=some (fi,bl,())/\L2 (c.2.2.2.2.2.1,bl,())=some (dv,e6,())/\k=MT c t a N.toNat sl ag so po fi dv
def Ch(k:Kn)(i:Nat)(p:SG)(ac:List fj)(a:eI)(f:Int)(t:D rN):Kn:=(k.1,k.2.1,k.2.2.1,k.2.2.2.1,k.2.2.2.2.1,k.2.2.2.2.2.1,a,(sQ k).set f.toNat (Qf (((sQ k)[f.toNat]?).getD vO) p.1 (i:Int)),k.2.2.2.2.2.2.2.2.1,ac,k.2.2.2.2.2.2.2.2.2.2.1,k.2.2.2.2.2.2.2.2.2.2.2.1,k.2.2.2.2.2.2.2.2.2.2.2.2.1,k.2.2.2.2.2.2.2.2.2.2.2.2.2.1,k.2.2.2.2.2.2.2.2.2.2.2.2.2.2.1,k.2.2.2.2.2.2.2.2.2.2.2.2.2.2.2.1,k.2.2.2.2.2.2.2.2.2.2.2.2.2.2.2.2.1,Rg k++[Ya p t (mE (kG k))],k.2.2.2.2.2.2.2.2.2.2.2.2.2.2.2.2.2.2.1,k.2.2.2.2.2.2.2.2.2.2.2.2.2.2.2.2.2.2.2.1,())
theorem O7{k:Kn}{i:Nat}{p:SG}{ac:List fj}{a:eI}{f:Int}{t:D rN}:(sQ (Ch k i p ac a f t)).length=(sQ k).length:=bC ..
theorem O6{k:Kn}{i:Nat}{p:SG}{ac:List fj}{a:eI}{f:Int}{t:D rN}:(Rg (Ch k i p ac a f t)).length=(Rg k).length+1:=az ..
inductive od(c:D cc)(k0:Kn):Nat->Kn->Prop where|zero:od c k0 0 k0|succ{i k p ac a f t}{q e:Int}:od c k0 i k->(kl c)[i]?=some p->yk (kac k,p.1,(1:Int),())=some (ac,q,(0:Int),())->Ar (GF k,(0:Int),true,false,())=some (a,f,(0:Int),())->PN (GF k) 0 (a,f,(0:Int),())->0<=f->f.toNat<(sQ k).length->sy (f,())=some (t,e,())->od c k0 (i+1) (Ch k i p ac a f t)
theorem Uc(e:D kk):∃q,Aq (e,())=some (HG e,q):=by obtain⟨⟨n,q⟩,h,_⟩:=TG e;unfold HG;rw[h];exact⟨q,rfl⟩
theorem vr{X:Type}{n:Nat}{x:X}:List.replicate n x++[x]=List.replicate (n+1) x:=by rw[jx]
structure KI (c : D cc) (k0 k : Kn) (i : Nat) (N : Int) : Prop where
  run : od c k0 i k
  RZ : k.1 = c
  si : SI (GF k) N
  fr : (sQ k).length = N.toNat
  pr : (Rg k).length = i
  fi : (kG k).length ≤ 4
theorem QS{c:D cc}{k0:Kn}{d:Int}(B:u5 c){i:Nat}{k:Kn}{j:Kn×Unit}(hi:i<(kl c).length)(a:KI c k0 k i d){P:(Kn×Unit)×Kn×Unit->Prop}{Q:D (.ah fT iU)->Prop}(z:∀n:Int,n≠0->Q (zK,n,())):Ok (BV c (j,k,(i:Int),())) (hN (λs=>s.2.2.1=((i+1:Nat):Int)/\KI c k0 s.2.1 (i+1) d) (hN P Q)):=by
 unfold BV;have m0:=B.np;have e:(kl c)[i]?=some (kl c)[i]:=G hi;generalize(kl c)[i]=p at e;have a0:i<8:=by have:List.length (kl c)<=8:=m0.2;omega
 have z9:=(B.prog p (Y e)).1;refine be (cB (l:=kl c) hi) (aa (aC (l:=kl k.1) (by rw[a.RZ];exact e)) ?_);refine qb (Dq (kac k) p.1 1) λd0 s0 _=>aN (λ_=>bu (bu (ab (z _ (by show(17:Int)≠0;decide))))) λm=>?_;refine qb (TI (GF k) 0 true a.si.sz a.si.e) λc0 r0 A=>aN (λ_=>bu (bu (ab (z _ (by show(16:Int)≠0;decide))))) λo=>?_;obtain⟨w0,q,v0,x9⟩:=d0;have m:v0=0:=fH m;subst m;obtain⟨x0,f,u0,w9⟩:=c0;have o:u0=0:=fH o;subst o;obtain⟨g0,b,w⟩:=Qx a.si A rfl;replace b: @LE.le Int _ 0 f:=b;replace w: @LT.lt Int _ f d:=w;have p0:=a.fr;have h:Int.toNat f<(sQ k).length:=by omega
 have v:∀l:List uX,l.length=(sQ k).length->a5 l f=true:=λl o0=>ru b (by rw[aJ,o0];omega);have g:(sQ k)[Int.toNat f]?=some (sQ k)[Int.toNat f]:=G h;generalize y9:(sQ k)[Int.toNat f]=x at g;have y0:∀y:uX,ax ((sQ k).set (Int.toNat f) y) f=some y:=λy=>by rw[qk b];exact bq h
 refine aq (v _ rfl) (aa ((qk b).trans g) (aq (v _ jL) (aa (y0 _) (aq (v _ (by rw[jL,jL];rfl)) (aa (x:=(1,x.2.1,p.1,x.2.2.2)) ?_ ?_)))));.show ax (((sQ k).set (Int.toNat f) _).set (Int.toNat f) _) f=_;rw[eQ];exact y0 _
 obtain⟨⟨e0,b0,v9⟩,z0,_⟩:=TH f;refine aa z0 ?_;have q0:List.length (kG k)<=4:=a.fi;refine aK (P:=λs:List Int×Unit=>s.1=mE (kG k)) (bz (I:=λj s=>s=(((kG k).take j).map λx=>HG x.2.2.2.2.2.2.1,(j:Int),())) (m:=(kG k).length) rfl (by omega) ?_ ?_) ?_;.rintro j s C rfl;have t:(kG k)[j]?=some (kG k)[j]:=G C;generalize(kG k)[j]=y at t;obtain⟨q,j0⟩:=Uc y.2.2.2.2.2.2.1;refine be (cB (l:=kG k) C) (aa (aC t) (aa j0 (aq (ce (by rw[cZ,aY];show min j (kG k).length+1<=10000;omega) (by decide)) ⟨_,rfl,?_⟩)));show(((kG k).take j).map _++[HG y.2.2.2.2.2.2.1],ai .i64 (j:Int) 1,())=_;rw[<-dC t,sC,bI (by omega)];rfl
 .rintro s rfl;refine aw (cJ (l:=kG k)) ⟨_,rfl,?_⟩;show((kG k).take (kG k).length).map _=_;rw[bO];rfl
 rintro⟨f0,u9⟩u;have u:f0=mE (kG k):=u;subst u;have l0:=a.pr;refine aq (ce (by show 0+List.length p.2.1<=10000;omega) (by decide)) (aq (ce (by show(Rg k).length+1<=10000;omega) (by decide)) (a4 ?_));have t0:ai .i64 (i:Int) 1=((i+1:Nat):Int):=bI (by omega);apply And.intro;.dsimp only;exact t0
 have i0:=od.succ a.run e s0 r0 A b h z0;have r:KI c k0 (Ch k i p w0 x0 f e0) (i+1) d:=⟨i0,a.RZ,g0,O7.trans p0,O6.trans (by rw[l0]),q0⟩;have h0:aI (aI (aI (sQ k) f (1,x.2)) f (1,x.2.1,p.1,x.2.2.2)) f (1,x.2.1,p.1,(i:Int),x.2.2.2.2)=(sQ k).set f.toNat (Qf (((sQ k)[f.toNat]?).getD vO) p.1 (i:Int)):=by rw[g,t7,t7,t7,eQ,eQ];rfl
 have n0:(sQ k).set f.toNat (Qf (((sQ k)[f.toNat]?).getD vO) p.1 (i:Int))=aI (aI (aI (sQ k) f (1,x.2)) f (1,x.2.1,p.1,x.2.2.2)) f (1,x.2.1,p.1,(i:Int),x.2.2.2.2):=h0.symm;unfold Ch at r;rw[n0]at r;exact r
def Rj(c:D cc)(n:Nat)(t:D kO)(a:eI)(fr:List uX):Kn:=(c,0,0,List.replicate n (-1),List.replicate n t,List.replicate n [],a,fr,(0,[],()),[],[],[],[],(0,[],()),[],(0,0,[],[],[],()),[],[],[],[],())
theorem jI{α σ:Type}{Q:α->Prop}{o:Option (Sum σ α)}{b:σ}{K:σ->Option α}(h:o=some (.inl b))(a:Ok (K b) Q):Ok (aD o K) Q:=by rw[h];exact a
theorem WW{α β σ:Type}{f:σ->Option (Sum σ (Sum β α))}(st:Nat->σ)(m:Nat){a:Nat}{x:σ}{b:β}(e:x=st 0)(k:m<a)(l:∀i,i<m->Ok (f (st i)) λr=>r= .inl (st (i+1)))(g:Ok (f (st m)) λr=>r= .inr (.inl b)):aB f a x=some (.inl b):=by have:Ok (aB f a x) λr=>r= .inl b:=bz (I:=λi s=>s=st i) (m:=m) e k (λi s j c=>by subst c;exact(l i j).mono λy d=>by subst d;rfl) (λs c=>by subst c;exact g.mono λy d=>by subst d;rfl);obtain⟨y,h,rfl⟩:=this;exact h
theorem QZ{β:Type}(c:D cc){t:D kO}{f:Int}(h:Hk (c.2.2.2.2.1,())=some (t,f,()))(k:(v7 c).length<=20):Uy (β:=β) c c=some (.inl (Rj c (v7 c).length t ([],0,0,[],[],()) [],())):=by
 unfold Uy;have d:∀{e:Type}{i:Nat}{x y:e}{b:Nat},i<(v7 c).length->b<=1000->aO (List.replicate i x) [y] b=true:=λa g=>ce (by rw[aR];show _+1<=10000;omega) g;refine WW (λi=>(Rj c i t ([],0,0,[],[],()) [],(i:Int),())) (v7 c).length rfl (by omega) (λi a=>?_) ?_;.have j:aO (List.replicate i (-1:Int)) [-1] 8=true:=d a (by decide);refine be (cB (l:=v7 c) a) (aa h (aq j (aq (d (b:=32) a (by decide)) (aq (d (b:=24) a (by decide)) ⟨_,rfl,?_⟩))));show Sum.inl ((c,0,0,List.replicate i (-1)++[-1],List.replicate i t++[t],List.replicate i []++[[]],_),ai .i64 (i:Int) 1,())=_;rw[vr,vr,vr,bI (by omega)];rfl
 .exact aw (cJ (l:=v7 c)) ⟨_,rfl,rfl⟩
theorem Ry{β:Type}(c:D cc)(n:Nat)(t:D kO)(a:eI){b:Int}(d:0<=b)(h1:b<=256):UW (β:=β) (Rj c n t ([],0,0,[],[],()) []) a b=some (.inl (Rj c n t a (List.replicate b.toNat vO),())):=by
 unfold UW;refine WW (λi=>(Rj c n t a (List.replicate i vO),(i:Int),())) b.toNat rfl (by omega) (λi e=>?_) ?_;.refine be (eK (show(i:Int)<b by omega)) (aa (x:=(vO,())) rfl (aq (ce (l:=List.replicate i vO) (r:=[vO]) (by rw[aR];show i+1<=10000;omega) (by decide)) ⟨_,rfl,?_⟩));show Sum.inl ((c,0,0,_,_,_,a,List.replicate i vO++[vO],_),ai .i64 (i:Int) 1,())=_;rw[vr,bI (by omega)];rfl
 .exact aw (cH (show b<=((b.toNat:Nat):Int)by omega)) ⟨_,rfl,rfl⟩
theorem MC{c:D cc}{k:Kn}{j:Kn×Unit}{A:(Kn×Unit)×Kn×Int×Unit->Prop}{Q:D (.ah fT iU)->Prop}(b:k.1=c){R:Kn->Prop}(a:R k):Ok (BV c (j,k,((kl c).length:Int),())) (hN A (hN (λs=>R s.2.1) Q)):=by unfold BV;exact aw (cJ (l:=kl c)) ⟨_,rfl,a⟩
theorem Tz(c:D cc)(p0:zH (c,())=some ((0:Int),()))(e:u5 c)(w:1<=(gq c:Int)/\(gq c:Int)<=256){Q:D (.ah fT iU)->Prop}(l0:∀k0 d,K0 c k0 d->KI c k0 k0 0 d->Ok (aD (aB (BV c) 1000000000 ((zK,()),k0,(0:Int),())) λg0=>some (g0.2.1,(0:Int),())) Q):Ok (yj (c,())) Q:=by
 unfold yj;have m:=e.om;refine aa p0 (aw rfl (aa (yb m) (aa (mg m) (aa (vL _) (aw ?_ ?_)))));.show bL (aV 1 256 (gq c:Int))=false;unfold aV;rw[av w.1,av w.2];rfl
 obtain⟨⟨b,c0⟩,s0,g⟩:=V7 c e;have g:b=c:=g;subst g;refine aa s0 ?_;obtain⟨⟨t,w0,b0⟩,x,_⟩:=V6 b.2.2.2.2.1;have h0:(v7 b).length<=20:=by have:=e.yP;unfold im at this;simp only[ae]at this;have:=di this.1;show List.length b.1<=20;omega
 refine jI (QZ b x h0) ?_;have o0:List.length b.1<=4:=by have:=e.yP;unfold im at this;simp only[ae]at this;have:=di this.1;omega
 have n0:List.length b.2.1<=6:=by have:=e.A6;unfold gS at this;simp only[ae]at this;have:=di this.1;omega
 obtain⟨⟨a,v0,a0⟩,y,j,_⟩:=V5 b.1 b.2.2.1 b.2.2.2.1 b.2.1 o0 n0;have j:MI a 256:=j;refine aa y ?_;obtain⟨⟨d,z9⟩,z,⟨r,s⟩,m0⟩:=V4 a (j.sz (by decide));refine aa z ?_;replace r: @LE.le Int _ 0 d:=r;replace s: @LE.le Int _ d 256:=s;refine jI (Ry b _ t a r s) ?_;obtain⟨⟨o,u0,y9⟩,A,_⟩:=V3 b.2.2.2.2.2.2.2.2.2.1;refine aa A ?_;have f0:List.length (CO b)<=8:=(tE e.jR).1;refine aq (ce (by show 0+List.length (CO b)<=10000;omega) (by decide)) ?_;obtain⟨⟨k,x9⟩,B,_⟩:=V2;refine aa B ?_;obtain⟨⟨p,t0,w9⟩,C,_⟩:=V1 b.2.2.2.2.2.2.1;refine aa C ?_;obtain⟨⟨n,r0,v9⟩,z0,_⟩:=V0 b.2.2.2.2.2.2.2.1;refine aa z0 ?_;obtain⟨⟨f,q,u9⟩,y0,u,h⟩:=VY b m;have u:List.length f<=4:=u;have h:Cn b q (ea b).length 0:=h;refine aa y0 ?_;have v:1<=(b.2.2.2.2.2.1:Int)/\(b.2.2.2.2.2.1:Int)<=16:=by have:=m;unfold dq mX at this;simp only[ae]at this;exact di this.1.2.2.2.1
 obtain⟨⟨l,q0,t9⟩,x0,_⟩:=VX b.2.2.2.2.2.1 q v.1 v.2 (by rw[h.len];omega) (by rw[h.len];omega) h.all;refine aa x0 ?_;have j0:K0 b (MT b t a d.toNat o k p n f l) d:=⟨t,a,o,k,p,n,f,q,l,w0,v0,u0,t0,r0,q0,x,y,z,A,B,C,z0,y0,x0,rfl⟩;have d0:=e.np;have i0:KI b (MT b t a d.toNat o k p n f l) (MT b t a d.toNat o k p n f l) 0 d:=⟨.zero,rfl,⟨j.sz (by decide),λi c e0 g=>j.e i c (by omega) g,m0⟩,aR,rfl,u⟩;exact l0 _ _ j0 i0
open Go.Hm Go.Proofs
def CQ:List Kd:=[.v lI,.v iT,.v iT,.o eH,.o fu]
def Ab:Tr (Tr (List Hi)):=ht [(182,hs [(0,[]),(1,kp [0,1,7] [.val 8 iT])]),(106,Tr.e),(179,Tr.e),(107,Tr.e),(116,hs [(0,[.own 5 iT]),(1,.aL 1:: .own 5 iT::kp [8,9] [.val 10 iT])]),(117,Tr.e),(119,hs [(0,[.own 5 og]),(1,.aL 1:: .own 5 og::kp [8,9] [.val 10 iT])]),(120,Tr.e),(122,hs [(0,[.own 5 tW]),(1,.aL 1:: .own 5 tW::kp [8,9] [.val 10 iT])]),(123,Tr.e),(230,hs [(0,[]),(1,kp [0,1,7] [.val 8 iT])]),(186,Tr.e),(187,Tr.e),(237,hs [(0,[]),(1,kp [0,1,7] [.val 8 iT])]),(238,Tr.e),(189,Tr.e),(236,hs [(0,[.mp 3]),(1,.mp 3::kp [10,11] [.val 12 iT]),(2,.mp 3::kp [10,11,12] []),(4,.mp 3::kp [10,11,12] []),(5,.mp 3::kp [10,11,12,16,17] [.val 18 iT])]),(293,hs [(0,[.rw 0 iT]),(1,.rw 0 iT::kp [1,2,3] [.val 8 iT]),(2,.rw 0 iT::kp [1,2,3,8] []),(4,.rw 0 iT::kp [1,2,3,8] []),(5,.rw 0 iT::kp [1,2,3,8] [.val 9 iT])]),(275,hs [(0,.rw 0 iT::kp [1,2,6] [.val 7 iT]),(1,.rw 0 iT::kp [1,2,6] [.val 7 iT,.val 8 iT]),(4,[.rw 0 iT]),(5,.rw 0 iT::kp [1,2] [.val 6 iT]),(6,.rw 0 iT::kp [1,2] [.val 6 iT]),(8,.rw 0 iT::kp [1,2,6] [.val 7 iT]),(9,.rw 0 iT::kp [1,2,6] [.val 7 iT,.val 8 iT])]),(244,Tr.e),(242,Tr.e),(245,Tr.e),(279,Tr.e),(204,hs [(0,[.box 1 CQ,.aL 2]),(1,.box 1 CQ::kp [2,22] [.val 23 iT]),(2,.box 1 CQ::kp [2,22,23] []),(6,.box 1 CQ::kp [2,3,22,23,26] []),(8,[.box 1 CQ,.aL 2]),(9,.box 1 CQ::kp [2,49] [.val 50 iT]),(10,.box 1 CQ::kp [2,49,50] []),(12,kp [1,2,5] (.own 6 lI::kp [49,50] [])),(13,kp [1,2,5] (.own 6 lI::kp [49,50,61] [.val 62 iT]))]),(205,hs [(0,.box 0 CQ::kp [1,2] [.own 7 iT]),(1,.box 0 CQ::kp [1,2] [.own 7 iT,.aL 16,.val 17 iT])]),(206,Tr.e),(254,hs [(0,[.box 0 CQ]),(1,.box 0 CQ::kp [1,10,11] [.val 12 iT])]),(137,hs [(0,[.own 5 iT]),(1,.aL 1:: .own 5 iT::kp [8,9] [.val 10 iT])]),(138,Tr.e),(55,Tr.e),(234,Tr.e),(277,Tr.e),(252,hs [(0,kp [1,2,3] [.box 6 [.v fu],.mp 9]),(1,kp [1,2,3] (.box 6 [.v fu]:: .mp 9::kp [23,24] [.val 25 iT])),(4,kp [1,3,6] [.own 12 iT]),(5,kp [1,2,3,6] [.own 12 iT,.aL 55,.val 56 iT])]),(23,Tr.e)]
def Zw(x:D (.ah cc iU)):Option (D iU):=am (zH (x.1,())) λa=>ad (bH a.1 0) (some (-1,())) (am (nF (x.2.1,0,bo .i64 (ak x.1.2.2.2.2.2.2.2.2.2.2.1) 1,())) λb=>ad (bL b.1) (some (-1,())) (am (Hl (x.1,())) λc=>am (ax c.1 x.2.1) λd=>some (d,())))
def k17:=kB Ab k76 17 Tryz.f17 Tr.e Zw
def Zv(x:D (.ah cc cU)):Option (D iU):=am (zH (x.1,())) λa=>ad (bH a.1 0) (some (-1,())) (am (nF (x.2.1,0,bo .i64 (ak x.1.2.2.2.2.2.2.2.2.2.2.1) 1,())) λb=>ad (bL b.1) (some (-1,())) (am (ax x.1.2.2.2.2.2.2.2.2.2.2.1 x.2.1) λc=>am (nF (x.2.2.1,0,bo .i64 c.1 1,())) λd=>ad (bL d.1) (some (-1,())) (am (Hl (x.1,())) λe=>am (ax e.1 x.2.1) λf=>some (ai .i64 (ai .i64 f 1) x.2.2.1,()))))
def k19:=kB Ab k17 19 Tryz.f19 Tr.e Zv
def F21(x:D (.ah cc iU)):Option (D iU):=am (zH (x.1,())) λa=>ad (bH a.1 0) (some (-1,())) (am (nF (x.2.1,0,bo .i64 x.1.2.2.2.2.2.2.1 1,())) λb=>ad (bL b.1) (some (-1,())) (am (Hl (x.1,())) λc=>am (ax c.1 (ak x.1.2.2.2.2.2.2.2.2.2.2.1)) λd=>some (ai .i64 d x.2.1,())))
def k21:=kB Ab k19 21 Tryz.f21 Tr.e F21
def F6(x:D (.ah cc .un)):Option (D bU):=am (yj (x.1,())) λg=>am (D0 (x.1,())) λi=>ad (bL i.1) (some (true,())) (ad (bH g.2.1 0) (some (true,())) (aA (gP (ak g.1.2.2.2.2.2.2.2.2.2.2.2.2.2.2.2.1.2.2.1) (ak g.1.2.2.2.2.2.2.2.2.2.2.2.2.2.2.2.1.2.2.1) 1) (aD (aB (λa=>ad (ay a.2.1 (ak x.1.2.2.2.2.2.2.2.2.2.2.1)) (aD (am (ax x.1.2.2.2.2.2.2.2.2.2.2.1 a.2.1) λh=>am (Zw (x.1,a.2.1,())) λe=>ad (ay e.1 0) (ao (ao (ao (some (false,()))))) (ad (cL (ak a.1.1) e.1) (ao (ao (ao (some (false,()))))) (aA (a5 a.1.1 e.1) (am (ax a.1.1 e.1) λn=>ad n (ao (ao (ao (some (false,()))))) (aA (a5 a.1.1 e.1) (am (ax a.1.1 e.1) λs=>ad (ay 16 h.1) (ao (ao (ao (some (false,()))))) (aD (aB (λc=>ad (ay c.2.1 h.1) (am (Zv (x.1,a.2.1,c.2.1,())) λf=>ad (ay f.1 0) (ao (ao (ao (ao (ao (some (false,()))))))) (ad (cL (ak c.1.1) f.1) (ao (ao (ao (ao (ao (some (false,()))))))) (aA (a5 c.1.1 f.1) (am (ax c.1.1 f.1) λo=>ad o (ao (ao (ao (ao (ao (some (false,()))))))) (aA (a5 c.1.1 f.1) (am (ax c.1.1 f.1) λp=>some (.inl ((aI c.1.1 f.1 true,()),ai .i64 c.2.1 1,())))))))) (ao (some (.inl ((c.1.1,()),()))))) 1000000000 ((aI a.1.1 e.1 true,()),0,())) λj=>some (.inl ((j.1.1,()),()))))))))) λk=>some (.inl ((k.1.1,()),ai .i64 a.2.1 1,()))) (ao (some (.inl ((a.1.1,()),()))))) 1000000000 ((er (ak g.1.2.2.2.2.2.2.2.2.2.2.2.2.2.2.2.1.2.2.1) false,()),0,())) λl=>ad (ay 64 x.1.2.2.2.2.2.2.1) (some (false,())) (aD (aB (λb=>ad (ay b.2.1 x.1.2.2.2.2.2.2.1) (am (F21 (x.1,b.2.1,())) λd=>ad (ay d.1 0) (ao (ao (some (false,())))) (ad (cL (ak b.1.1) d.1) (ao (ao (some (false,())))) (aA (a5 b.1.1 d.1) (am (ax b.1.1 d.1) λm=>ad m (ao (ao (some (false,())))) (aA (a5 b.1.1 d.1) (am (ax b.1.1 d.1) λq=>some (.inl ((aI b.1.1 d.1 true,()),ai .i64 b.2.1 1,())))))))) (ao (some (.inl ((b.1.1,()),()))))) 1000000000 ((l.1.1,()),0,())) λr=>some (true,())))))
theorem e6:eA.ext.ap 6=none:=by kernel_rfl
def k6:=kB Ab k21 6 Tryz.f6 (hs [(0,[.aL 1,.box 5 [.o .bool],.aL 6]),(1,.aL 1:: .box 5 [.o .bool]::kp [6,31,32] [.val 33 iT]),(2,.aL 1:: .box 5 [.o .bool]::kp [6,31,32,33] []),(4,.aL 1:: .box 5 [.o .bool]::kp [6,31,32,33] []),(5,.aL 1:: .box 5 [.o .bool]::kp [6,7,31,32,33,50] [.val 51 iT]),(8,[.box 5 [.o .bool]]),(9,.aL 1:: .box 5 [.o .bool]::kp [6,67] [.val 68 iT])]) F6
def F7(x:D (.ah cc .un)):Option (D bU):=am (yj (x.1,())) λa=>am (D0 (x.1,())) λg=>ad (bL g.1) (some (true,())) (ad (bH a.2.1 0) (some (true,())) (ad (bH (ak a.1.2.2.2.2.2.2.2.2.2.2.2.2.2.2.2.2.2.1) (ak x.1.2.2.2.2.2.2.2.2.2.2.2.2.1)) (some (false,())) (ad (a6 (ak a.1.2.2.2.2.2.2.2.2.2.1) 0) (some (false,())) (am (ax a.1.2.2.2.2.2.2.2.2.2.1 0) λk=>ad (bH k.2.1 (ak a.1.2.2.2.2.2.2.2.2.2.2.2.2.2.2.2.2.2.1)) (some (false,())) (aA (gP (ak a.1.2.2.2.2.2.2.2.1) (ak a.1.2.2.2.2.2.2.2.1) 8) (aD (aB (λb=>ad (ay b.2.1 (ak a.1.2.2.2.2.2.2.2.2.2.2.2.2.2.2.2.2.2.1)) (am (ax a.1.2.2.2.2.2.2.2.2.2.2.2.2.2.2.2.2.2.1 b.2.1) λc=>ad (ay c.2.2.2.2.2.2.2.1.1 0) (ao (ao (some (false,())))) (ad (cL (ak b.1) c.2.2.2.2.2.2.2.1.1) (ao (ao (some (false,())))) (am (ax a.1.2.2.2.2.2.2.2.1 c.2.2.2.2.2.2.2.1.1) λl=>ad (bH l.1 1) (ao (ao (some (false,())))) (am (ax a.1.2.2.2.2.2.2.2.1 c.2.2.2.2.2.2.2.1.1) λm=>ad (bH m.2.2.2.1 b.2.1) (ao (ao (some (false,())))) (am (ax a.1.2.2.2.2.2.2.2.1 c.2.2.2.2.2.2.2.1.1) λn=>ad (bH n.2.2.1 c.2.2.2.2.1) (ao (ao (some (false,())))) (aA (a5 b.1 c.2.2.2.2.2.2.2.1.1) (am (ax b.1 c.2.2.2.2.2.2.2.1.1) λo=>aA (a5 b.1 c.2.2.2.2.2.2.2.1.1) (am (ax b.1 c.2.2.2.2.2.2.2.1.1) λq=>some (.inl (aI b.1 c.2.2.2.2.2.2.2.1.1 (ai .i64 o 1),ai .i64 b.2.1 1,())))))))))) (ao (some (.inl (b.1,()))))) 1000000000 (er (ak a.1.2.2.2.2.2.2.2.1) 0,0,())) λe=>aD (aB (λd=>ad (ay d.1 (ak a.1.2.2.2.2.2.2.2.1)) (am (ax a.1.2.2.2.2.2.2.2.1 d.1) λf=>aA (a5 e.1 d.1) (am (ax e.1 d.1) λh=>ad (ay 1 h) (ao (ao (some (false,())))) (aA (a5 e.1 d.1) (am (ax e.1 d.1) λi=>ad (bL (xS (a6 i 0) (a6 f.1 0))) (ao (ao (some (false,())))) (aA (a5 e.1 d.1) (am (ax e.1 d.1) λj=>ad (a6 j 0) (ad (bH f.2.2.1 (-1)) (ao (ao (some (false,())))) (some (.inl (ai .i64 d.1 1,())))) (some (.inl (ai .i64 d.1 1,()))))))))) (ao (some (.inl ())))) 1000000000 (0,())) λp=>some (true,())))))))
theorem e7:eA.ext.ap 7=none:=by kernel_rfl
def k7:=kB Ab k6 7 Tryz.f7 (hs [(0,[.aL 3,.own 5 iT]),(1,.aL 3:: .own 5 iT::kp [53,54] [.val 55 iT]),(4,[]),(5,kp [5,109,110] [.val 111 iT])]) F7
def F24(x:D (.ah (.bc (.int .u8)) .un)):Option (D (.ah iT cU)):=ad (bH (ak x.1) 32) (some (0,0,3,())) (am (ax x.1 4) λb=>am (ax x.1 5) λc=>am (ax x.1 6) λd=>am (L1 (ek .i64 b,ai .i64 (ek .i64 c) (d8 .i64 256 (ek .i64 d)),())) λe=>ad (bH e.2.1 0) (some (0,0,22,())) (aD (aB (λa=>ad (ay a.1 (ak x.1)) (am (ax x.1 a.1) λf=>am (ax e.1 a.1) λg=>ad (bH f g) (ao (ao (some (0,0,22,())))) (some (.inl (ai .i64 a.1 1,())))) (ao (some (.inl ())))) 1000000000 (0,())) λh=>some (ek .i64 b,ai .i64 (ek .i64 c) (d8 .i64 256 (ek .i64 d)),0,())))
def k24:=kB Ab k7 24 Tryz.f24 (hs [(0,kp [5,6] []),(1,kp [0,5,6,7] [.val 9 iT])]) F24
def F25(x:D (.ah (.bc (.int .u8)) (.ah (.bc (.int .u8)) .un))):Option (D bU):=aA (rp x.1) (aA (rp x.2.1) (some (RB (D7 x.1) (D7 x.2.1),())))
def k25:=kB Ab k24 25 Tryz.f25 Tr.e F25
def F8(x:D (.ah cc .un)):Option (D bU):=am (yj (x.1,())) λd=>am (D0 (x.1,())) λh=>ad (bL h.1) (some (true,())) (ad (bH d.2.1 0) (some (true,())) (aD (aB (λc=>ad (ay c.1 (ak x.1.2.2.2.2.2.2.2.2.2.2.1)) (aD (am (ax x.1.2.2.2.2.2.2.2.2.2.2.1 c.1) λe=>am (Zw (x.1,c.1,())) λf=>ad (ay f.1 0) (ao (ao (ao (some (false,()))))) (ad (cL (ak d.1.2.2.2.2.2.2.2.2.2.2.2.2.2.2.2.1.2.2.1) f.1) (ao (ao (ao (some (false,()))))) (am (ax d.1.2.2.2.2.2.2.2.2.2.2.2.2.2.2.2.1.2.2.1 f.1) λj=>am (F24 (j,())) λb=>ad (bH b.2.2.1 0) (ao (ao (ao (some (false,()))))) (ad (bH b.1 (pm .i64 (ak e.2.1) 32)) (ao (ao (ao (some (false,()))))) (aA (cV b.1) (ad (bH b.2.1 (bo .i64 (fB .i64 1 b.1) 1)) (ao (ao (ao (some (false,()))))) (aD (aB (λa=>ad (ay a.1 b.1) (am (Zv (x.1,c.1,a.1,())) λg=>ad (ay g.1 0) (ao (ao (ao (ao (ao (some (false,()))))))) (ad (cL (ak d.1.2.2.2.2.2.2.2.2.2.2.2.2.2.2.2.1.2.2.1) g.1) (ao (ao (ao (ao (ao (some (false,()))))))) (am (ax d.1.2.2.2.2.2.2.2.2.2.2.2.2.2.2.2.1.2.2.1 g.1) λk=>aA (dJ (d8 .i64 a.1 32) (d8 .i64 (ai .i64 a.1 1) 32) (ak e.2.1)) (am (F25 (k,eX e.2.1 (d8 .i64 a.1 32) (d8 .i64 (ai .i64 a.1 1) 32),())) λi=>ad (bL i.1) (ao (ao (ao (ao (ao (some (false,()))))))) (some (.inl (ai .i64 a.1 1,()))))))) (ao (some (.inl ())))) 1000000000 (0,())) λl=>some (.inl ())))))))) λm=>some (.inl (ai .i64 c.1 1,()))) (ao (some (.inl ())))) 1000000000 (0,())) λn=>some (true,())))
theorem n8:eA.fn.ap 8=some Tryz.f8:=by kernel_rfl
theorem e8:eA.ext.ap 8=none:=by kernel_rfl
def k8:=kB Ab k25 8 Tryz.f8 (hs [(0,[]),(1,kp [1,3,27,28] [.val 29 iT]),(2,kp [1,3,27,28,29] []),(4,kp [1,3,27,28,29] []),(5,kp [1,3,5,6,27,28,29,75] [.val 76 iT])]) F8
end Go.Bo
set_option maxHeartbeats 4000000
namespace Go.Bo
open Go Go.Ls
section
variable{c:D cc}(h12:zH (c,())=some ((0:Int),()))(hs:dq c=true)
include h12 hs
end
end Go.Bo
set_option maxHeartbeats 4000000
namespace Go.Bo
open Go Go.Ls
theorem Pd(s:ByteArray):RB s s=true:=by unfold RB;first|exact av rfl|simp
theorem Rr{n:Int}(h:(Lit.int .u8 n).wf=true):0<=n:=by have h:(decide (IntKind.min .u8<=n)&&decide (n<=IntKind.max .u8))=true:=h;rw[ae]at h;exact bA h.1
def cv(z:Zn)(g:Int):Prop:=∃(j:Nat)(x:Int),j<=4/\x∈dL z j/\x<=g/\g<x+2^j
structure Dj(z:Zn):Prop where so:∀k,k<=4->iW (dL z k)dj:∀j k,j<=4->k<=4->∀x y,x∈dL z j->y∈dL z k->(j=k->x≠y)->x+2^j<=y\/y+2^k<=x
theorem YQ{z:Zn}(h:wZ (dL z)):Dj z:=⟨h.1,h.2⟩
theorem xk{f:Int}{t:List Int}(h:iW (f::t)):iW t/\∀x,x∈t->f<x:=by refine⟨λi j x y d a c=>h (i+1) (j+1) x y (by omega) a c,λx a=>?_⟩;obtain⟨i,b,rfl⟩:=tO.1 a;exact h 0 (i+1) f _ (by omega) rfl (G b)
theorem HD{x:Int}:iW [x]:=λi j a b e d c=>by have:=(aj.1 c).1;simp only[eM]at this;omega
theorem qZ{z z':Zn}{f:Int}{k:Nat}{t:List Int}(hd:Dj z)(h:D2 z f z' k t){j:Nat}{x:Int}(d:j≤4):x∈dL z' j↔x∈dL z j∧(j=k→x≠f)∨j<k∧x=f+2^j:=by
 rw[h.z',xC d];unfold Vk;by_cases b:j<k
 ·
  rw[aE b,h.lo j b];constructor;·intro a;exact .inr ⟨b,cj.1 a⟩
  ·
   rintro(⟨a,_⟩|⟨_,rfl⟩);·cases a
   ·exact kc _
 ·
  rw[aG b];by_cases c:j=k
  ·
   rw[aE c];subst c;rw[h.hd];have l:=xk (by rw[←h.hd];exact hd.so j d);constructor;·intro a;exact .inl ⟨cX _ a,fun _=>by have:=l.2 x a;omega⟩
   ·
    rintro(⟨a,i⟩|⟨g,_⟩)
    ·
     rcases co.1 a with rfl|a;·exact absurd rfl (i rfl)
     ·exact a
    ·omega
  ·
   rw[aG c];constructor;·intro a;exact .inl ⟨a,fun e=>absurd e c⟩
   ·
    rintro(⟨a,_⟩|⟨g,_⟩);·exact a
    ·omega
theorem X4{j k:Nat}(h:j<=k):(2:Int)^j<=2^k:=by obtain⟨d,rfl⟩:∃d,k=j+d:=⟨k-j,by omega⟩;rw[Int.pow_add];have b:=pw j;have a:=pw d;have:=Int.mul_le_mul_of_nonneg_left a (show(0:Int)<=2^j by omega);rw[Int.mul_one]at this;exact this
theorem vt{j k:Nat}(h:j<k):(2:Int)^j+2^j<=2^k:=by have:=X4 (show j+1<=k from h);rw[mV]at this;omega
theorem Em{f g:Int}:∀k:Nat,f<g->g<f+2^k->∃j,j<k/\f+2^j<=g/\g<f+2^j+2^j
 |0,e,d=>by have d:g<f+1:=d;omega
 |k+1,e,d=>by
  by_cases h:g<f+2^k;.obtain⟨j,a,b,c⟩:=Em k e h;exact⟨j,by omega,b,c⟩
  .rw[mV]at d;exact⟨k,by omega,by omega,by omega⟩
theorem Sg{z z':Zn}{f:Int}{k:Nat}{t:List Int}(hd:Dj z)(h:D2 z f z' k t):Dj z'∧cv z f∧∀g,cv z' g↔cv z g∧g≠f:=by
 have l:f∈dL z k:=by rw[h.hd];exact bZ ..
 have d:=h.k4;have y0:=pw k;refine⟨⟨fun j a=>?_,fun i j q a x y m A r=>?_⟩,⟨k,f,d,l,bX _,by omega⟩,fun g=>⟨?_,?_⟩⟩
 ·
  rw[h.z',xC a];unfold Vk;split;·exact HD
  ·
   split;·exact(xk (by rw[←h.hd];exact hd.so k d)).1
   ·exact hd.so j a
 ·
  rcases(qZ hd h q).1 m with⟨b,p⟩|⟨b,rfl⟩<;>rcases(qZ hd h a).1 A with⟨n,s⟩|⟨n,rfl⟩;·exact hd.dj i j q a x y b n r
  ·have:=hd.dj i k q d x f b l p;have:=vt n;have:=pw j;omega
  ·have:=hd.dj j k a d y f n l s;have:=vt b;have:=pw i;omega
  ·
   have w:i≠j:=fun e=>by subst e;exact r rfl rfl
   rcases mC w with c|c;·have:=vt c;omega
   ·have:=vt c;omega
 ·
  rintro⟨j,x,a,m,c,o⟩;rcases(qZ hd h a).1 m with⟨b,p⟩|⟨b,rfl⟩;·refine⟨⟨j,x,a,b,c,o⟩,fun e=>?_⟩;subst e;have:=hd.dj j k a d x g b l p;omega
  ·have:=vt b;have:=pw j;exact⟨⟨k,f,d,l,by omega,by omega⟩,by omega⟩
 ·
  rintro⟨⟨j,x,a,m,c,o⟩,z0⟩;by_cases e:j=k∧x=f;·obtain⟨rfl,rfl⟩:=e;obtain⟨i,B,C,D⟩:=Em j (by omega) o;exact⟨i,x+2^i,by omega,(qZ hd h (by omega)).2 (.inr ⟨B,rfl⟩),C,D⟩
  ·exact⟨j,x,a,(qZ hd h a).2 (.inl ⟨m,fun u v=>e ⟨u,v⟩⟩),c,o⟩
end Go.Bo
set_option maxHeartbeats 4000000
namespace Go.Bo
open Go Go.Ls
structure Vz (z : Zn) : Prop where
  rg : rf (z, ()) = some (true, ())
  nH : DR z
  dj : Dj z
  cb : ∀ (k : Nat) (x : Int), k < 4 → x % 2 ^ (k + 1) = 0 → x ∈ dL z k → ¬ x + 2 ^ k ∈ dL z k
theorem Bw(z:Zn)(l:List Int)(k:Nat)(c:Int)(t:c=(k:Int))(v:k<=4)(j:vR z)(C:l.length<=100000)(f:LX z l k){R:RI->Prop}:Ok (aB (λa:Int×Unit=>ad (ay a.1 (ak l)) (am (ax l a.1) λn=>am (lg (z,n,c,())) λA=>ad (bL A.1) (ao (ao (some ((3:Int),())))) (ad (ay 0 a.1) (am (ax l (bo .i64 a.1 1)) λB=>ad (cL n B) (ao (ao (some ((10:Int),())))) (some (.inl (ai .i64 a.1 1,())))) (some (.inl (ai .i64 a.1 1,()))))) (ao (some (.inl ())))) 1000000000 (0,()):Option (Sum Unit RI)) (hN (λ_=>True) R):=by
 subst t;refine bz (I:=λi s=>s=((i:Int),())) (m:=l.length) rfl (by omega) ?_ ?_
 .
  rintro i s u rfl;have d:Ok (some (Sum.inl (ai .i64 ((i:Int),()).1 1,())):Option (Sum (Int×Unit) (Sum Unit RI))) (hN (λs=>s=(((i+1:Nat):Int),())) (hN (λ_=>True) R)):=a4 (by show(ai .i64 (i:Int) 1,())=_;rw[bI (by omega)]);refine be (eK (by rw[aJ];show(i:Int)<_;omega)) (bb (cQ u) λx m=>?_);have g:=f.2 x (Y m);obtain⟨b,p,q⟩:=Dk z x k v j (by have:=g.1;have:=j.1;omega);have r:b=true:=q.2 g;subst r;refine aa p (aw rfl (aN (λh=>?_) λh=>d));have o:0<i:=by have:=kS h;simp only at this;omega
  have e:bo .i64 (i:Int) 1=((i-1:Nat):Int):=vW o (by omega);show Ok (am (ax l (bo .i64 (i:Int) 1)) _) _;rw[e];refine bb (cQ (l:=l) (i:=i-1) (by omega)) λy w=>aw (lA (f.1 (i-1) i y x (by omega) w m)) d
 .rintro s rfl;exact aw (cH (by rw[aJ];exact bX _)) (bu (a4 trivial))
def Mk(s:List Bool)(a:Int->Prop):Prop:=s.length=256/\∀g:Nat,s[g]?=some true->a (g:Int)
theorem Bv(z:Zn)(l:List Int)(k:Nat)(c:Int)(m0:c=2^k)(i0:vR z)(x0:LX z l k)(c0:l.length<=100000)(d0:k<=4)(u0:List Bool)(m:Int->Prop)(C:Mk u0 m)(n0:∀x,x∈l->∀g,x<=g->g<x+2^k->¬m g)(hd:∀x y,x∈l->y∈l->x<y->x+2^k<=y){R:RI->Prop}:Ok (aB (λw:BS×Int×Unit=>ad (ay w.2.1 (ak l)) (aD (am (ax l w.2.1) λt0=>aD (aB (λn:BS×Int×Unit=>ad (ay n.2.1 (ai .i64 t0 c)) (aA (cV n.2.1) (aA (ay n.2.1 256) (am (ax n.1.1 n.2.1) λh0=>ad h0 (ao (ao (ao (ao (ao (some ((7:Int),()))))))) (aA (cV n.2.1) (aA (ay n.2.1 256) (am (ax n.1.1 n.2.1) λu9=>some (.inl ((aI n.1.1 n.2.1 true,()),ai .i64 n.2.1 1,())))))))) (ao (some (.inl ((n.1.1,()),()))))) 1000000000 ((w.1.1,()),t0,())) λg0:BS×Unit=>some (.inl ((g0.1.1,()),()))) λf0:BS×Unit=>some (.inl ((f0.1.1,()),ai .i64 w.2.1 1,()))) (ao (some (.inl ((w.1.1,()),()))))) 1000000000 ((u0,()),0,()):Option (Sum (BS×Unit) RI)) (hN (λs=>Mk s.1.1 λg=>m g\/∃x,x∈l/\x<=g/\g<x+2^k) R):=by
 have b0:(1:Int)<=2^k/\(2:Int)^k<=16:=by rcases k with _|_|_|_|_|k<;>first|exact⟨by decide,by decide⟩|omega
 subst m0;obtain⟨x9,w9,v9⟩:=i0;refine bz (I:=λi s=>Mk s.1.1 (λg=>m g\/∃(a:Nat)(x:Int),a<i/\l[a]?=some x/\x<=g/\g<x+2^k)/\s.2.1=(i:Int)) (m:=l.length) ⟨⟨C.1,λg f=> .inl (C.2 g f)⟩,rfl⟩ (by omega) ?_ ?_
 .
  rintro i⟨⟨s,u⟩,d,v⟩k0⟨p,q⟩;have q:d=(i:Int):=q;subst q;have p:Mk s λg=>m g\/∃(a:Nat)(x:Int),a<i/\l[a]?=some x/\x<=g/\g<x+2^k:=p;have A:l[i]?=some l[i]:=G k0;generalize l[i]=x at A;have B:=Y A;obtain⟨z9,y9,_⟩:=x0.2 x B;have a0:0<=x:=by omega
  have z0:ai .i64 x (2^k)=x+2^k:=cD (by omega) (by omega)
  have r0:∀g:Nat,x<=(g:Int)->(g:Int)<x+2^k->¬(m (g:Int)\/∃(a:Nat)(y:Int),a<i/\l[a]?=some y/\y<=(g:Int)/\(g:Int)<y+2^k):=by
   rintro g q0 p0(h|⟨a,y,D,v0,t9,s9⟩);.exact n0 x B g q0 p0 h
   .have:=x0.1 a i y x D v0 A;have:=hd y x (Y v0) B this;omega
  refine be (eK (by rw[aJ];show(i:Int)<_;omega)) (aK (P:=λb:BS×Unit=>Mk b.1.1 λg=>m g\/∃(a:Nat)(x:Int),a<i+1/\l[a]?=some x/\x<=g/\g<x+2^k) (aa (aC A) ?_) λb t=>a4 (P:=λs:BS×Int×Unit=>Mk s.1.1 (λg=>m g\/∃(a:Nat)(x:Int),a<i+1/\l[a]?=some x/\x<=g/\g<x+2^k)/\s.2.1=((i+1:Nat):Int)) ⟨t,?_⟩);rotate_left;.have e:ai .i64 (i:Int) 1=((i+1:Nat):Int):=bI (by omega);rw[<-e]
  refine aK (P:=λb:BS×Unit=>Mk b.1.1 λg=>m g\/∃(a:Nat)(x:Int),a<i+1/\l[a]?=some x/\x<=g/\g<x+2^k) (bz (I:=λj s=>Mk s.1.1 (λg=>(m g\/∃(a:Nat)(x:Int),a<i/\l[a]?=some x/\x<=g/\g<x+2^k)\/x<=g/\g<x+(j:Int))/\s.2.1=x+(j:Int)) (m:=(2^k:Int).toNat) ⟨⟨p.1,λg f=> .inl (p.2 g f)⟩,by show x=x+((0:Nat):Int);omega⟩ (by omega) ?_ ?_) λb t=>a4 (P:=λb:BS×Unit=>Mk b.1.1 λg=>m g\/∃(a:Nat)(x:Int),a<i+1/\l[a]?=some x/\x<=g/\g<x+2^k) t
  .
   rintro j⟨⟨s,u⟩,d,v⟩e0⟨o,r⟩;have r:d=x+(j:Int):=r;subst r;have o:Mk s λg=>(m g\/∃(a:Nat)(x:Int),a<i/\l[a]?=some x/\x<=g/\g<x+2^k)\/x<=g/\g<x+(j:Int):=o;have o0:=o.1;have w0:x+(j:Int)<256:=by omega
   have j0:(x+(j:Int)).toNat<s.length:=by omega
   have l0:s[(x+(j:Int)).toNat]?=some false:=by
    have f:s[(x+(j:Int)).toNat]?=some s[(x+(j:Int)).toNat]:=G j0
    cases t:s[(x+(j:Int)).toNat]with
     |false=>rw[f,t]
     |true=>
     rw[t]at f;rcases o.2 _ f with h|h;.exact absurd h (r0 _ (by omega) (by omega))
     .omega
   have y0:ax s (x+(j:Int))=some false:=(qk (by omega)).trans l0;refine be (eK (by rw[z0];show x+(j:Int)<_;omega)) (aq (av (show(0:Int)<=x+(j:Int)by omega)) (aq (eK w0) (aa y0 (aw rfl (aq (av (show(0:Int)<=x+(j:Int)by omega)) (aq (eK w0) (aa y0 (a4 ⟨⟨?_,λg f=>?_⟩,?_⟩))))))));.show(aI s _ true).length=256;rw[jL,o0]
   .
    have f:(s.set (x+(j:Int)).toNat true)[g]?=some true:=f;by_cases e:g=(x+(j:Int)).toNat;.right;omega
    .
     rw[bE λs0=>e s0.symm]at f;rcases o.2 g f with h|h;.exact .inl h
     .right;omega
   .show ai .i64 (x+(j:Int)) 1=x+((j+1:Nat):Int);rw[cD (by omega) (by omega)];omega
  .
   rintro⟨⟨s,u⟩,d,v⟩⟨o,r⟩;have r:d=x+(((2^k:Int).toNat:Nat):Int):=r;subst r;have o:Mk s λg=>(m g\/∃(a:Nat)(x:Int),a<i/\l[a]?=some x/\x<=g/\g<x+2^k)\/x<=g/\g<x+(((2^k:Int).toNat:Nat):Int):=o;refine aw (cH ?_) (bu (a4 (P:=λb:BS×Unit=>Mk b.1.1 λg=>m g\/∃(a:Nat)(x:Int),a<i+1/\l[a]?=some x/\x<=g/\g<x+2^k) ⟨o.1,λg f=>?_⟩));.rw[z0];show x+2^k<=x+_;omega
   .
    rcases o.2 g f with(h|⟨a,y,D,h⟩)|h;.exact .inl h
    .exact .inr ⟨a,y,by omega,h⟩
    .exact .inr ⟨i,x,by omega,A,h.1,by omega⟩
 .
  rintro⟨⟨s,u⟩,d,v⟩⟨p,q⟩;have q:d=((l.length:Nat):Int):=q;subst q;refine aw (cH (by rw[aJ];exact bX _)) (bu (a4 (P:=λb:BS×Unit=>Mk b.1.1 λg=>m g\/∃x,x∈l/\x<=g/\g<x+2^k) ⟨p.1,λg f=>?_⟩));rcases p.2 g f with h|⟨a,x,_,p,q⟩;.exact .inl h
  .exact .inr ⟨x,Y p,q⟩
theorem Gc(z:Zn)(l:List Int)(k:Nat)(c q:Int)(A:c=2^k)(y0:q=((k+1:Nat):Int))(D:k≤3)(z0:l.length≤100000)(x0:vR z)(B:LX z l k)(p:∀x:Int,x%2^(k+1)=0→x∈l→¬x+2^k∈l){R:RI→Prop}:Ok (aB (fun f:Int×Unit=>ad (ay f.1 (ak l)) (am (ax l f.1) fun n=>am (gC (l,bK .i64 n c,())) fun u0=>ad u0.2.1 (am (lg (z,bN n (bK .i64 n c),q,())) fun t0=>ad t0.1 (ao (ao (some ((11:Int),())))) (some (.inl (ai .i64 f.1 1,())))) (some (.inl (ai .i64 f.1 1,())))) (ao (some (.inl ())))) 1000000000 (0,()):Option (Sum Unit RI)) (hN (fun _=>True) R):=by
 subst y0 A;refine bz (I:=fun i s=>s=((i:Int),())) (m:=l.length) rfl (by omega) ?_ ?_
 ·
  rintro i s C rfl;have u:Ok (some (Sum.inl (ai .i64 ((i:Int),()).1 1,())):Option (Sum (Int×Unit) (Sum Unit RI))) (hN (fun s=>s=(((i+1:Nat):Int),())) (hN (fun _=>True) R)):=a4 (by show(ai .i64 (i:Int) 1,())=_;rw[bI (by omega)]);refine be (eK (by rw[aJ];show(i:Int)<_;omega)) (bb (cQ C) fun x w0=>?_);have m:=Y w0;obtain⟨q0,p0,r⟩:=B.2 x m;obtain⟨o0,n0,m0⟩:=x0;have s0:=pw k;have v0:=L7 (g:=x) (by omega) (by omega) D;obtain⟨j,b,v,w⟩:=mQ l (bK .i64 x (2^k)) z0;refine aa v (aN (fun y=>?_) fun _=>u);exfalso;have e:=Y (w.YF y);have r0:(2:Int)^(k+1)=2^k+2^k:=by rw[mV];omega
  have d:x%2^k=0:=by rw[fZ (by omega)]at r;exact r
  rw[v0]at e
  have t:x%2^(k+1)=0∨x%2^(k+1)=2^k:=by
   rcases show k=0∨k=1∨k=2∨k=3 by omega with rfl|rfl|rfl|rfl;·have:x%1=0:=d;show x%2=0∨x%2=1;omega
   ·have:x%2=0:=d;show x%4=0∨x%4=2;omega
   ·have:x%4=0:=d;show x%8=0∨x%8=4;omega
   ·have:x%8=0:=d;show x%16=0∨x%16=8;omega
  have o:x/2^k%2=0↔x%2^(k+1)=0:=by
   rcases show k=0∨k=1∨k=2∨k=3 by omega with rfl|rfl|rfl|rfl;·show x/1%2=0↔x%2=0;omega
   ·show x/2%2=0↔x%4=0;have:x%2=0:=d;omega
   ·show x/4%2=0↔x%8=0;have:x%4=0:=d;omega
   ·show x/8%2=0↔x%16=0;have:x%8=0:=d;omega
  by_cases h:x/2^k%2=0;·rw[aE h]at e;exact p x (o.1 h) m e
  ·
   rw[aG h]at e
   have g:x%2^(k+1)=2^k:=by
    rcases t with a|a;·exact absurd (o.2 a) h
    ·exact a
   refine p (x-2^k) ?_ e (by rw[Int.sub_add_cancel];exact m);rcases show k=0∨k=1∨k=2∨k=3 by omega with rfl|rfl|rfl|rfl;·have:x%2=1:=g;show(x-1)%2=0;omega
   ·have:x%4=2:=g;show(x-2)%4=0;omega
   ·have:x%8=4:=g;show(x-4)%8=0;omega
   ·have:x%16=8:=g;show(x-8)%16=0;omega
 ·rintro s rfl;exact aw (cH (by rw[aJ];exact bX _)) (bu (a4 trivial))
theorem Mk.mono{s:List Bool}{a W':Int->Prop}(h:Mk s a)(e:∀g,a g->W' g):Mk s W':=⟨h.1,λg b=>e _ (h.2 g b)⟩
def zI(z:Zn)(n:Nat)(g:Int):Prop:=∃(j:Nat)(x:Int),j<n/\x∈dL z j/\x<=g/\g<x+2^j
theorem vG{z:Zn}{n:Nat}{g:Int}(h:zI z n g\/∃x,x∈dL z n/\x<=g/\g<x+2^n):zI z (n+1) g:=by
 rcases h with⟨j,x,a,h⟩|⟨x,h⟩;.exact⟨j,x,by omega,h⟩
 .exact⟨n,x,by omega,h⟩
theorem xV{z:Zn}(hd:Dj z){n:Nat}(a:n<=4):∀x,x∈dL z n->∀g,x<=g->g<x+2^n->¬zI z n g:=by rintro x b g d f⟨j,y,k,c,h,i⟩;have:=hd.dj j n (by omega) a y x c b (λe=>by omega);omega
theorem uE{z:Zn}(hd:Dj z){n:Nat}(a:n<=4):∀x y,x∈dL z n->y∈dL z n->x<y->x+2^n<=y:=by intro x y b c h;have:=pw n;have:=hd.dj n n a a x y b c (λ_=>by omega);omega
theorem A5(z:Zn)(h:Vz z):tF (z,())=some (0,()):=by
 have c:=h.nH.pX;have b:∀k,k<=4->(dL z k).length<=100000:=λk m=>by have:=pP h.nH k m;omega
 have d:=h.dj;have a:=h.nH.fr;have e:∀k:Nat,k<=3->∀x:Int,x%2^(k+1)=0->x∈dL z k->¬x+2^k∈dL z k:=λk m x=>h.cb k x (by omega);have q:Ok (tF (z,())) λr=>r=(0,()):=by unfold tF;refine aa h.rg (aw rfl ?_);refine aK (Bw z (dL z 0) 0 0 rfl (by decide) c (b 0 (by decide)) (a 0 (by decide))) λ_ _=>?_;refine aK (Bw z (dL z 1) 1 1 rfl (by decide) c (b 1 (by decide)) (a 1 (by decide))) λ_ _=>?_;refine aK (Bw z (dL z 2) 2 2 rfl (by decide) c (b 2 (by decide)) (a 2 (by decide))) λ_ _=>?_;refine aK (Bw z (dL z 3) 3 3 rfl (by decide) c (b 3 (by decide)) (a 3 (by decide))) λ_ _=>?_;refine aK (Bw z (dL z 4) 4 4 rfl (by decide) c (b 4 (by decide)) (a 4 (by decide))) λ_ _=>?_;have s:Mk (List.replicate 256 false) (zI z 0):=⟨aR,λg p=>by have:=(hZ.1 (Y p)).2;cases this⟩;refine aK (Bv z (dL z 0) 0 1 rfl c (a 0 (by decide)) (b 0 (by decide)) (by decide) (List.replicate 256 false) (zI z 0) s (xV d (by decide)) (uE d (by decide))) λt f=>?_;have f:=Mk.mono f (W':=zI z 1) λg h=>vG h;refine aK (Bv z (dL z 1) 1 2 rfl c (a 1 (by decide)) (b 1 (by decide)) (by decide) t.1.1 (zI z 1) f (xV d (by decide)) (uE d (by decide))) λu i=>?_;have i:=Mk.mono i (W':=zI z 2) λg h=>vG h;refine aK (Bv z (dL z 2) 2 4 rfl c (a 2 (by decide)) (b 2 (by decide)) (by decide) u.1.1 (zI z 2) i (xV d (by decide)) (uE d (by decide))) λv j=>?_;have j:=Mk.mono j (W':=zI z 3) λg h=>vG h;refine aK (Bv z (dL z 3) 3 8 rfl c (a 3 (by decide)) (b 3 (by decide)) (by decide) v.1.1 (zI z 3) j (xV d (by decide)) (uE d (by decide))) λw l=>?_;have l:=Mk.mono l (W':=zI z 4) λg h=>vG h;refine aK (Bv z (dL z 4) 4 16 rfl c (a 4 (by decide)) (b 4 (by decide)) (by decide) w.1.1 (zI z 4) l (xV d (by decide)) (uE d (by decide))) λA _=>?_;refine aK (Gc z (dL z 0) 0 1 1 rfl rfl (by decide) (b 0 (by decide)) c (a 0 (by decide)) (e 0 (by decide))) λ_ _=>?_;refine aK (Gc z (dL z 1) 1 2 2 rfl rfl (by decide) (b 1 (by decide)) c (a 1 (by decide)) (e 1 (by decide))) λ_ _=>?_;refine aK (Gc z (dL z 2) 2 4 3 rfl rfl (by decide) (b 2 (by decide)) c (a 2 (by decide)) (e 2 (by decide))) λ_ _=>?_;refine aK (Gc z (dL z 3) 3 8 4 rfl rfl (by decide) (b 3 (by decide)) c (a 3 (by decide)) (e 3 (by decide))) λ_ _=>?_;exact ab rfl
 obtain⟨y,n,o⟩:=q;rw[n,o]
theorem He{z:Zn}{f:Int}{k:Nat}(a:0≤f):In z f k↔zs z≤f∧f+2^k≤zs z+zc z∧f%2^k=0:=by unfold In;rw[fZ a]
theorem PZ{z:Zn}{L:Nat->List Int}:rf (Q0 z L,())=rf (z,()):=rfl
theorem EV{f:Int}{j k:Nat}(c:j<k)(d:k<=4)(h:f%2^k=0):(f+2^j)%2^j=0/\(f+2^j)%2^(j+1)=2^j:=by
 have b:k=0\/k=1\/k=2\/k=3\/k=4:=by omega
 have a:j=0\/j=1\/j=2\/j=3:=by omega
 rcases b with rfl|rfl|rfl|rfl|rfl;.omega
 .
  have h:f%2=0:=h;have:j=0:=by omega
  subst this;show(f+1)%1=0/\(f+1)%2=1;omega
 .
  have h:f%4=0:=h;rcases show j=0\/j=1 by omega with rfl|rfl;.show(f+1)%1=0/\(f+1)%2=1;omega
  .show(f+2)%2=0/\(f+2)%4=2;omega
 .
  have h:f%8=0:=h;rcases show j=0\/j=1\/j=2 by omega with rfl|rfl|rfl;.show(f+1)%1=0/\(f+1)%2=1;omega
  .show(f+2)%2=0/\(f+2)%4=2;omega
  .show(f+4)%4=0/\(f+4)%8=4;omega
 .
  have h:f%16=0:=h;rcases a with rfl|rfl|rfl|rfl;.show(f+1)%1=0/\(f+1)%2=1;omega
  .show(f+2)%2=0/\(f+2)%4=2;omega
  .show(f+4)%4=0/\(f+4)%8=4;omega
  .show(f+8)%8=0/\(f+8)%16=8;omega
theorem Y4{z z':Zn}{f:Int}{k:Nat}{t:List Int}(h:Vz z)(b:D2 z f z' k t):Vz z':=by
 have l:=(Sg h.dj b).1;have o:=h.nH.pX;have q:f∈dL z k:=by rw[b.hd];exact bZ ..
 have g:=b.k4;have m:=(h.nH.fr k g).2 f q;have p:0<=f:=by have:=m.1;have:=o.1;omega
 have n:=(He p).1 m;have d:zs z'=zs z/\zc z'=zc z:=by rw[b.z'];exact⟨rfl,rfl⟩
 refine⟨by rw[b.z',PZ];exact h.rg,⟨by unfold vR;rw[d.1,d.2];exact o,λj c=>⟨l.so j c,λx i=>?_⟩⟩,l,λj x c r i s=>?_⟩
 .
  unfold In;rw[d.1,d.2];rcases(qZ h.dj b c).1 i with⟨a,_⟩|⟨a,rfl⟩;.exact(h.nH.fr j c).2 x a
  .have:=pw j;have:=vt a;have:=EV a g n.2.2;exact(He (by omega)).2 ⟨by omega,by omega,this.1⟩
 .
  rcases(qZ h.dj b (by omega)).1 i with⟨a,_⟩|⟨a,rfl⟩
  .
   rcases(qZ h.dj b (by omega)).1 s with⟨e,_⟩|⟨e,u⟩;.exact h.cb j x c r a e
   .rw[b.lo j e]at a;cases a
  .have:=(EV a g n.2.2).2;have:=pw j;omega
end Go.Bo
set_option maxHeartbeats 4000000
namespace Go.Bo
open Go Go.Ls
def eD(z:Zn):Zs.lc:=⟨z.1,z.2.1,zs z,zc z,z.2.2.2.2.1,z.2.2.2.2.2.1⟩
theorem rl{k:Nat}(a:k<=4):ek .u64 (k:Int)=(k:Int):=by
 have:(List.range 5).all (λi=>decide (ek .u64 (Int.ofNat i)=Int.ofNat i))=true:=by kernel_rfl
 exact bA (bR.1 this k (eJ.2 (by omega)))
theorem BJ{k:Nat}(a:k<=4):(1:Int)<=2^k/\(2:Int)^k<=16:=by rcases Zs.GE a with rfl|rfl|rfl|rfl|rfl<;>exact⟨by decide,by decide⟩
theorem wE{z:Zn}(a:Zs.eS (eD z)=true):0<=zs z/\1<=zc z/\zs z+zc z<=256:=by have h:=Zs.lO a;have b:0<=zs z:=h.2.2.2.1;have c:1<=zc z:=h.2.2.2.2.2.1;have d:zc z<=256-zs z:=h.2.2.2.2.2.2.1;omega
theorem yf{z:Zn}(l:Zs.eS (eD z)=true){f:Int}{k:Nat}(d:k<=4)(p:0<=f)(h1:f<=256):sx (z,f,(k:Int),())=some (Zs.fx (eD z) f k,()):=by
 obtain⟨m,n,o⟩:=wE l;obtain⟨r,s⟩:=BJ d;have c:Zs.fx (eD z) f k=(decide (zs z<=f)&&decide (f.tmod (2^k)=0)&&decide ((2:Int)^k<=zc z)&&decide (f<=zs z+zc z-2^k)):=rfl;have i:ai .i64 (zs z) (zc z)=zs z+zc z:=cD (by omega) (by omega);have j:ai .i64 f (2^k)=f+2^k:=cD (by omega) (by omega);refine cC ?_;unfold sx;refine aw (cH (by show(0:Int)<=(k:Int);omega)) (aw (cH (by show(k:Int)<=4;omega)) (aN (λh=>?_) λh=>?_));.have h:f<zs z:=kS h;exact ab (by rw[c,aX (show¬zs z<=f by omega)];rfl)
 have h:zs z<=f:=eZ h;refine aN (λb=>?_) λb=>?_;.have b:ai .i64 (zs z) (zc z)<=f:=ou b;exact ab (by rw[c,aX (show¬f<=zs z+zc z-2^k by omega),ne])
 have b:f<ai .i64 (zs z) (zc z):=qJ b;have e:fB .i64 1 (ek .u64 (k:Int))=2^k:=by rw[rl d,t4 k d]
 have g:cV (ek .u64 (k:Int))=true:=by rw[rl d];exact av (by omega)
 refine aq g (aq ?_ (aN (λa=>?_) λa=>?_));.show bH (fB .i64 1 (ek .u64 (k:Int))) 0=true;rw[e,gM,aX (by omega)];rfl
 .
  have a:f.tmod (fB .i64 1 (ek .u64 (k:Int)))=0:=lq a;rw[e]at a;refine aq g (ab ?_);show(cL (ai .i64 f (fB .i64 1 (ek .u64 (k:Int)))) (ai .i64 (zs z) (zc z)),())=_;rw[e,i,j,c,av h,av a,jN];congr 1;by_cases q:f+2^k<=zs z+zc z;.rw[av q,av (show(2:Int)^k<=zc z by omega),av (show f<=zs z+zc z-2^k by omega)];rfl
  .rw[aX q,aX (show¬f<=zs z+zc z-2^k by omega),ne]
 .have a:¬f.tmod (fB .i64 1 (ek .u64 (k:Int)))=0:=mZ a;rw[e]at a;exact ab (by rw[c,aX a,ne];rfl)
theorem S4{s:List Int}{f:Int}{k:Nat}(c:k<=4)(o:0<=f)(u:s.length=256)(h1:f+2^k<=256):Ok (ye (s,f,(k:Int),())) λr=>(r.1=true->∀g:Nat,f<=g->(g:Int)<f+2^k->s.getD g 0≠0)/\(r.1=false->∃g:Int,f<=g/\g<f+2^k/\s.getD g.toNat 0=0):=by
 obtain⟨v,w⟩:=BJ c;have e:ai .i64 f (fB .i64 1 (ek .u64 (k:Int)))=f+2^k:=by rw[rl c,t4 k c];exact cD (by omega) (by omega)
 have m:cV (ek .u64 (k:Int))=true:=by rw[rl c];exact av (by omega)
 unfold ye;refine aK (P:=λ_=>∀g:Nat,f<=g->(g:Int)<f+2^k->s.getD g 0≠0) (bz (I:=λi t=>t=(f+(i:Int),())/\∀g:Nat,f<=g->(g:Int)<f+i->s.getD g 0≠0) (m:=(2^k:Int).toNat) ⟨by rw[jJ,hD],λg a b=>by omega⟩ (by omega) ?_ ?_) λ_ h=>ab ⟨λ_=>h,λh=>by cases h⟩
 .
  rintro i t p⟨rfl,d⟩;have j:s[(f+(i:Int)).toNat]?=some (s[(f+(i:Int)).toNat]'(by omega)):=G (by omega);generalize s[(f+(i:Int)).toNat]'(by omega)=x at j;have l:s.getD (f+(i:Int)).toNat 0=x:=by rw[ck,j];rfl
  refine aq m (be (eK (by rw[e];show f+(i:Int)<_;omega)) (aa ((qk (by omega)).trans j) (aN (λh=>bu (bu (ab ⟨λh=>(by cases h),λ_=>⟨f+i,by omega,by omega,l.trans (lq h)⟩⟩))) λh=>?_)));have n:ai .i64 (f+(i:Int)) 1=f+((i+1:Nat):Int):=by rw[cD (by omega) (by omega)];omega
  refine a4 ⟨by show(ai .i64 (f+(i:Int)) 1,())=_;rw[n],λg a b=>?_⟩;by_cases q:(g:Int)<f+i;.exact d g a q
  .
   have:g=(f+(i:Int)).toNat:=by omega
   rw[this,l];exact mZ h
 .rintro t⟨rfl,d⟩;refine aq m (aw (cH (by rw[e];show f+2^k<=f+_;omega)) (bu (a4 λg a b=>d g a (by omega))))
theorem Ot{β:Type}{Q:β->Prop}{s:List Int}{f c:Int}{k:Nat}(g:c=2^k)(h:k<=4)(q:0<=f)(j:s.length=256)(h1:f+2^k<=256){K:List Int×Unit->Option β}(d:Ok (K (Zs.vM s f.toNat (2^k),())) Q):Ok (aD (aB (λa:List Int×Int×Unit=>ad (ay a.2.1 (ai .i64 f c)) (aA (a5 a.1 a.2.1) (am (ax a.1 a.2.1) λw=>some (.inl (aI a.1 a.2.1 0,ai .i64 a.2.1 1,())))) (ao (some (.inl (a.1,()))))) 1000000000 (s,f,())) K) Q:=by
 obtain⟨u,v⟩:=BJ h;have e:ai .i64 f c=f+2^k:=by rw[g];exact cD (by omega) (by omega)
 have p:((2^k:Nat):Int)=2^k:=by rw[sD];rfl
 have o:∀(m i:Nat)(l:List Int),(Zs.vM l i m).set (i+m) 0=Zs.vM l i (m+1):=by intro m;induction m with
  |zero=>intro i l;rfl
  |succ m n=>intro i l;show(Zs.vM (l.set i 0) (i+1) m).set (i+(m+1)) 0=Zs.vM (l.set i 0) (i+1) (m+1);rw[<-n (i+1),show i+(m+1)=i+1+m by omega]
 refine cz (λi=>(Zs.vM s f.toNat i,f+(i:Int),())) (2^k) (by show _=(s,f+((0:Nat):Int),());rw[jJ,hD]) (by omega) (λi r=>?_) (aw (cH (by rw[e];show f+2^k<=f+((2^k:Nat):Int);omega)) (bj (ab rfl))) d;have t:(Zs.vM s f.toNat i).length=256:=by rw[Zs.A7,j]
 have b:ai .i64 (f+(i:Int)) 1=f+((i+1:Nat):Int):=by rw[cD (by omega) (by omega)];omega
 refine be (eK (by rw[e];show f+(i:Int)<_;omega)) (aq (ru (by show 0<=f+(i:Int);omega) (by rw[aJ];show f+(i:Int)<((Zs.vM s f.toNat i).length:Int);omega)) (bb (pg (by show 0<=f+(i:Int);omega) (by rw[aJ];show f+(i:Int)<((Zs.vM s f.toNat i).length:Int);omega)) λx _=>ab ?_));show Sum.inl (aI (Zs.vM s f.toNat i) (f+(i:Int)) 0,ai .i64 (f+(i:Int)) 1,())=_;rw[b,t7,show(f+(i:Int)).toNat=f.toNat+i by omega,o]
theorem Qa{β:Type}{Q:β->Prop}{z:Zn}{s left lk:List Int}{D:Nat->Int->Prop}{L:List (List Int)}{f c l:Int}{k:Nat}(e:Zs.eS (eD z)=true)(d:k<=4)(z0:c=2^k)(x0:l=(k:Int))(r0:zs z<=f)(f1:f<zs z+zc z)(b:Zs.WI (eD z) s D L left)(o:∀j x,D j x->k<j\/j=k/\x<f)(t:L.getD k []=lk){A:List Int×Unit->Option β}{B:Option β}(C:∀left',Zs.WI (eD z) s (λj x=>D j x\/j=k/\x=f) (L.set k (lk++[f])) left'->Ok (A (left',())) Q)(n:Zs.WI (eD z) s (λj x=>D j x\/j=k/\x=f) L left->Ok B Q):Ok (am (sx (z,f,l,())) λw0=>ad w0.1 (am (ye (left,f,l,())) λu=>ad u.1 (aA (aO lk (f::[]) 8) (aD (aB (λa:List Int×Int×Unit=>ad (ay a.2.1 (ai .i64 f c)) (aA (a5 a.1 a.2.1) (am (ax a.1 a.2.1) λn0=>some (.inl (aI a.1 a.2.1 0,ai .i64 a.2.1 1,())))) (ao (some (.inl (a.1,()))))) 1000000000 (left,f,())) A)) B) B) Q:=by
 subst x0;obtain⟨v0,u0,t0⟩:=wE e;obtain⟨p0,o0⟩:=BJ d;have s0:((2^k:Nat):Int)=2^k:=by rw[sD];rfl
 have p:∀j x,D j x->k<=j:=λj x h=>by rcases o j x h with h|h<;>omega
 refine aa (yf e d (by omega) (by omega)) (aN (λi=>?_) λi=>n (b.skip e d p λh=>by rw[h]at i;cases i));have y0:=Zs.lT e i;have r:f+2^k<=256:=y0.2.1;refine bb (S4 d (by omega) b.EB r) λu m=>aN (λh=>?_) λh=>?_
 .
  have q0:lk.length<=256:=by have:=b.aah e k;rw[<-t];exact this
  refine aq (ce (by show lk.length+1<=_;omega) (by decide)) (Ot z0 d (by omega) b.EB r (C _ ?_))
  have:=b.add e d i o (m.1 h) (left':=Zs.vM left f.toNat (2^k)) (by rw[Zs.A7];exact b.EB) λg=>by
   rw[Zs.Hs _ _ _ _ (by rw[b.EB];omega)];by_cases q:f.toNat<=g/\g<f.toNat+2^k;.rw[aE q,aE (by omega)]
   .rw[aG q,aG (by omega)]
  rw[t]at this;exact this
 .obtain⟨g,v,w,y⟩:=m.2 h;exact n (b.skip e d p λ_=>⟨g,v,w,y⟩)
def Ks(z:Zn)(a b c d e:List Int):Z5:=(z.1,z.2.1,z.2.2.1,z.2.2.2.1,z.2.2.2.2.1,a,b,c,d,e,())
def PW(z:Zn)(s:List Int)(D:Nat->Int->Prop)(t:Z5×List Int×Unit):Prop:=∃a b c d e,t.1=Ks z a b c d e/\Zs.WI (eD z) s D [a,b,c,d,e] t.2.1
theorem PW.mono{z:Zn}{s:List Int}{D D':Nat->Int->Prop}{t:Z5×List Int×Unit}(h:PW z s D t)(h1:∀j x,Zs.fx (eD z) x j=true->D j x->D' j x)(h2:∀j x,Zs.fx (eD z) x j=true->j<=4->D' j x->D j x):PW z s D' t:=by obtain⟨a,b,c,d,e,f,g⟩:=h;exact⟨a,b,c,d,e,f,g.mono h1 h2⟩
theorem Jz{z:Zn}{s:List Int}(B:Zs.eS (eD z)=true)(r0:s.length=256):Ok (JA (z,s,())) fun r=>∃l,r.1=(z.1,z.2.1,z.2.2.1,z.2.2.2.1,z.2.2.2.2.1,l,())∧Zs.ry (Zs.zl (eD z) l)∧∀g,Zs.qB (Zs.zl (eD z) l) g↔zs z≤g∧g<zs z+zc z∧s.getD g.toNat 0≠0:=by
 obtain⟨c0,b0,a0⟩:=wE B;have D:ak s=256:=by rw[aJ,r0];rfl
 have p:ai .i64 z.2.2.1 z.2.2.2.1=zs z+zc z:=cD (by show _≤zs z+zc z;omega) (by show zs z+zc z≤_;omega);have q:∀(j:Nat)(x:Int),Zs.fx (eD z) x j=true→zs z≤x∧x<zs z+zc z:=fun j x h=>by have u0:=(Zs.lT B h).2.2;have z9:zs z≤x:=u0.1;have y9:x+2^j≤zs z+zc z:=u0.2.1;have:=Zs.mY j;omega
 have p0:PW z s (fun j x=>4<j∨j=4∧x<zs z+((0:Nat):Int)) (Ks z [] [] [] [] [],s,()):=by
  have z0:∀k:Nat,Zs.fV (Zs.zl (eD z) [[],[],[],[],[]]) k=[]:=fun k=>Zs.KU rfl k;have t0:∀g,¬Zs.qB (Zs.zl (eD z) [[],[],[],[],[]]) g:=by rintro g⟨k,x,o,_⟩;rw[z0]at o;cases o
  exact⟨[],[],[],[],[],rfl,rfl,r0,fun k=>by rw[z0];exact Zs.x7.nil,fun k x o=>(by rw[z0]at o;cases o),fun k x j y g o=>(by rw[z0]at o;cases o),fun g _=>⟨fun h=>⟨h,t0 g⟩,fun h=>h.1⟩,fun g o0=>absurd o0 (t0 g),fun j x m v C=>by have:=q j x C;omega⟩
 unfold JA;refine aq (by rw[D];decide) (cz (b:=(s,())) (fun i=>(s.take i++List.replicate (256-i) 0,(i:Int),())) 256 (by show(er (ak s) 0,(0:Int),())=_;rw[D];rfl) (by decide) (fun i C=>?_) (aw (cH (by rw[D];exact bX 256)) (bj (ab ?_))) ?_)
 ·
  have o:s[i]?=some (s[i]'(by omega)):=G (by omega);generalize s[i]'(by omega)=x at o;have s0:(s.take i++List.replicate (256-i) (0:Int)).length=256:=by rw[az,aY,aR];omega
  refine be (eK (by rw[D];show(i:Int)<256;omega)) (aa (aC o) (aq (eF (by rw[s0];omega)) (bb (cQ (by rw[s0];omega)) fun d0 _=>ab ?_)));show Sum.inl (aI (s.take i++List.replicate (256-i) 0) (i:Int) x,ai .i64 (i:Int) 1,())=_;rw[bI (by omega),oN rfl,nZ _ _ (by rw[aY];omega),aY,show i-min i s.length=0 by omega,show 256-i=256-(i+1)+1 by omega,g5,mD,←dC o,cA];rfl
 ·show Sum.inl (s.take 256++[],())=_;rw[bi,dF (by omega)]
 refine aK (P:=PW z s fun j _=>4≤j) (aK (P:=PW z s fun j _=>4≤j) (bz (I:=fun i t=>t.2.2=(zs z+(i:Int),())∧PW z s (fun j x=>4<j∨j=4∧x<zs z+(i:Int)) (t.1,t.2.1,())) (m:=(zc z).toNat) ⟨by show(zs z,())=(zs z+((0:Nat):Int),());rw[jJ,hD],p0⟩ (by omega) ?_ ?_) ?_) ?_;·rintro i⟨t,n,w⟩C⟨rfl,a,b,c,d,e,rfl,f⟩;refine be (eK (by rw[p];show zs z+(i:Int)<_;omega)) (aK (P:=PW z s fun j x=>(4<j∨j=4∧x<zs z+(i:Int))∨j=4∧x=zs z+(i:Int)) (Qa (k:=4) B (by decide) rfl rfl (by omega) (by omega) f (fun j x h=>h) rfl (fun A h=>a4 ⟨_,_,_,_,_,rfl,h⟩) fun h=>a4 ⟨_,_,_,_,_,rfl,h⟩) ?_);rintro⟨t,A,u⟩⟨a,b,c,d,e,rfl,f⟩;refine a4 ⟨?_,_,_,_,_,_,rfl,f.mono (fun j x _ h=>by omega) fun j x _ _ h=>by omega⟩;show(ai .i64 (zs z+(i:Int)) 1,())=(zs z+((i+1:Nat):Int),());rw[cD (by omega) (by omega),lG,n5]
 ·rintro⟨t,n,w⟩⟨rfl,a,b,c,d,e,rfl,f⟩;exact aw (cH (by rw[p];show zs z+zc z≤zs z+_;omega)) (bu (a4 ⟨_,_,_,_,_,rfl,f.mono (fun j x h m=>by omega) fun j x h v m=>by have:=q j x h;omega⟩))
 ·rintro⟨t,n,u⟩⟨a,b,c,d,e,rfl,f⟩;exact a4 ⟨_,_,_,_,_,rfl,f⟩
 rintro⟨u9,j0,e0⟩v0;obtain⟨a,b,c,d,e,rfl,f⟩:=v0;have v0:PW z s (fun j _=>4≤j) (Ks z a b c d e,j0,e0):=⟨a,b,c,d,e,rfl,f⟩;refine aK (P:=PW z s fun j _=>3≤j) (aK (P:=PW z s fun j _=>3≤j) (bz (I:=fun i t=>t.2.2=(zs z+(i:Int),())∧PW z s (fun j x=>3<j∨j=3∧x<zs z+(i:Int)) (t.1,t.2.1,())) (m:=(zc z).toNat) ⟨by show(zs z,())=(zs z+((0:Nat):Int),());rw[jJ,hD],PW.mono v0 (fun j x _ h=>by omega) fun j x h v m=>by have:=q j x h;omega⟩ (by omega) ?_ ?_) ?_) ?_;·rintro i⟨t,n,w⟩C⟨rfl,a,b,c,d,e,rfl,f⟩;refine be (eK (by rw[p];show zs z+(i:Int)<_;omega)) (aK (P:=PW z s fun j x=>(3<j∨j=3∧x<zs z+(i:Int))∨j=3∧x=zs z+(i:Int)) (Qa (k:=3) B (by decide) rfl rfl (by omega) (by omega) f (fun j x h=>h) rfl (fun A h=>a4 ⟨_,_,_,_,_,rfl,h⟩) fun h=>a4 ⟨_,_,_,_,_,rfl,h⟩) ?_);rintro⟨t,A,u⟩⟨a,b,c,d,e,rfl,f⟩;refine a4 ⟨?_,_,_,_,_,_,rfl,f.mono (fun j x _ h=>by omega) fun j x _ _ h=>by omega⟩;show(ai .i64 (zs z+(i:Int)) 1,())=(zs z+((i+1:Nat):Int),());rw[cD (by omega) (by omega),lG,n5]
 ·rintro⟨t,n,w⟩⟨rfl,a,b,c,d,e,rfl,f⟩;exact aw (cH (by rw[p];show zs z+zc z≤zs z+_;omega)) (bu (a4 ⟨_,_,_,_,_,rfl,f.mono (fun j x h m=>by omega) fun j x h v m=>by have:=q j x h;omega⟩))
 ·rintro⟨t,n,u⟩⟨a,b,c,d,e,rfl,f⟩;exact a4 ⟨_,_,_,_,_,rfl,f⟩
 rintro⟨v9,k0,f0⟩w0;obtain⟨a,b,c,d,e,rfl,f⟩:=w0;have w0:PW z s (fun j _=>3≤j) (Ks z a b c d e,k0,f0):=⟨a,b,c,d,e,rfl,f⟩;refine aK (P:=PW z s fun j _=>2≤j) (aK (P:=PW z s fun j _=>2≤j) (bz (I:=fun i t=>t.2.2=(zs z+(i:Int),())∧PW z s (fun j x=>2<j∨j=2∧x<zs z+(i:Int)) (t.1,t.2.1,())) (m:=(zc z).toNat) ⟨by show(zs z,())=(zs z+((0:Nat):Int),());rw[jJ,hD],PW.mono w0 (fun j x _ h=>by omega) fun j x h v m=>by have:=q j x h;omega⟩ (by omega) ?_ ?_) ?_) ?_;·rintro i⟨t,n,w⟩C⟨rfl,a,b,c,d,e,rfl,f⟩;refine be (eK (by rw[p];show zs z+(i:Int)<_;omega)) (aK (P:=PW z s fun j x=>(2<j∨j=2∧x<zs z+(i:Int))∨j=2∧x=zs z+(i:Int)) (Qa (k:=2) B (by decide) rfl rfl (by omega) (by omega) f (fun j x h=>h) rfl (fun A h=>a4 ⟨_,_,_,_,_,rfl,h⟩) fun h=>a4 ⟨_,_,_,_,_,rfl,h⟩) ?_);rintro⟨t,A,u⟩⟨a,b,c,d,e,rfl,f⟩;refine a4 ⟨?_,_,_,_,_,_,rfl,f.mono (fun j x _ h=>by omega) fun j x _ _ h=>by omega⟩;show(ai .i64 (zs z+(i:Int)) 1,())=(zs z+((i+1:Nat):Int),());rw[cD (by omega) (by omega),lG,n5]
 ·rintro⟨t,n,w⟩⟨rfl,a,b,c,d,e,rfl,f⟩;exact aw (cH (by rw[p];show zs z+zc z≤zs z+_;omega)) (bu (a4 ⟨_,_,_,_,_,rfl,f.mono (fun j x h m=>by omega) fun j x h v m=>by have:=q j x h;omega⟩))
 ·rintro⟨t,n,u⟩⟨a,b,c,d,e,rfl,f⟩;exact a4 ⟨_,_,_,_,_,rfl,f⟩
 rintro⟨d0,l0,g0⟩x0;obtain⟨a,b,c,d,e,rfl,f⟩:=x0;have x0:PW z s (fun j _=>2≤j) (Ks z a b c d e,l0,g0):=⟨a,b,c,d,e,rfl,f⟩;refine aK (P:=PW z s fun j _=>1≤j) (aK (P:=PW z s fun j _=>1≤j) (bz (I:=fun i t=>t.2.2=(zs z+(i:Int),())∧PW z s (fun j x=>1<j∨j=1∧x<zs z+(i:Int)) (t.1,t.2.1,())) (m:=(zc z).toNat) ⟨by show(zs z,())=(zs z+((0:Nat):Int),());rw[jJ,hD],PW.mono x0 (fun j x _ h=>by omega) fun j x h v m=>by have:=q j x h;omega⟩ (by omega) ?_ ?_) ?_) ?_;·rintro i⟨t,n,w⟩C⟨rfl,a,b,c,d,e,rfl,f⟩;refine be (eK (by rw[p];show zs z+(i:Int)<_;omega)) (aK (P:=PW z s fun j x=>(1<j∨j=1∧x<zs z+(i:Int))∨j=1∧x=zs z+(i:Int)) (Qa (k:=1) B (by decide) rfl rfl (by omega) (by omega) f (fun j x h=>h) rfl (fun A h=>a4 ⟨_,_,_,_,_,rfl,h⟩) fun h=>a4 ⟨_,_,_,_,_,rfl,h⟩) ?_);rintro⟨t,A,u⟩⟨a,b,c,d,e,rfl,f⟩;refine a4 ⟨?_,_,_,_,_,_,rfl,f.mono (fun j x _ h=>by omega) fun j x _ _ h=>by omega⟩;show(ai .i64 (zs z+(i:Int)) 1,())=(zs z+((i+1:Nat):Int),());rw[cD (by omega) (by omega),lG,n5]
 ·rintro⟨t,n,w⟩⟨rfl,a,b,c,d,e,rfl,f⟩;exact aw (cH (by rw[p];show zs z+zc z≤zs z+_;omega)) (bu (a4 ⟨_,_,_,_,_,rfl,f.mono (fun j x h m=>by omega) fun j x h v m=>by have:=q j x h;omega⟩))
 ·rintro⟨t,n,u⟩⟨a,b,c,d,e,rfl,f⟩;exact a4 ⟨_,_,_,_,_,rfl,f⟩
 rintro⟨w9,m0,h0⟩y0;obtain⟨a,b,c,d,e,rfl,f⟩:=y0;have y0:PW z s (fun j _=>1≤j) (Ks z a b c d e,m0,h0):=⟨a,b,c,d,e,rfl,f⟩;refine aK (P:=PW z s fun j _=>0≤j) (aK (P:=PW z s fun j _=>0≤j) (bz (I:=fun i t=>t.2.2=(zs z+(i:Int),())∧PW z s (fun j x=>0<j∨j=0∧x<zs z+(i:Int)) (t.1,t.2.1,())) (m:=(zc z).toNat) ⟨by show(zs z,())=(zs z+((0:Nat):Int),());rw[jJ,hD],PW.mono y0 (fun j x _ h=>by omega) fun j x h v m=>by have:=q j x h;omega⟩ (by omega) ?_ ?_) ?_) ?_;·rintro i⟨t,n,w⟩C⟨rfl,a,b,c,d,e,rfl,f⟩;refine be (eK (by rw[p];show zs z+(i:Int)<_;omega)) (aK (P:=PW z s fun j x=>(0<j∨j=0∧x<zs z+(i:Int))∨j=0∧x=zs z+(i:Int)) (Qa (k:=0) B (by decide) rfl rfl (by omega) (by omega) f (fun j x h=>h) rfl (fun A h=>a4 ⟨_,_,_,_,_,rfl,h⟩) fun h=>a4 ⟨_,_,_,_,_,rfl,h⟩) ?_);rintro⟨t,A,u⟩⟨a,b,c,d,e,rfl,f⟩;refine a4 ⟨?_,_,_,_,_,_,rfl,f.mono (fun j x _ h=>by omega) fun j x _ _ h=>by omega⟩;show(ai .i64 (zs z+(i:Int)) 1,())=(zs z+((i+1:Nat):Int),());rw[cD (by omega) (by omega),lG,n5]
 ·rintro⟨t,n,w⟩⟨rfl,a,b,c,d,e,rfl,f⟩;exact aw (cH (by rw[p];show zs z+zc z≤zs z+_;omega)) (bu (a4 ⟨_,_,_,_,_,rfl,f.mono (fun j x h m=>by omega) fun j x h v m=>by have:=q j x h;omega⟩))
 ·rintro⟨t,n,u⟩⟨a,b,c,d,e,rfl,f⟩;exact a4 ⟨_,_,_,_,_,rfl,f⟩
 rintro⟨x9,n0,i0⟩q0;obtain⟨a,b,c,d,e,rfl,f⟩:=q0;have q0:PW z s (fun j _=>0≤j) (Ks z a b c d e,n0,i0):=⟨a,b,c,d,e,rfl,f⟩;have f:=f.mono (D':=fun _ _=>True) (fun _ _ _ _=>trivial) fun j _ _ _ _=>aP j;exact ab ⟨[a,b,c,d,e],rfl,f.ok B⟩
end Go.Bo
set_option maxHeartbeats 4000000
namespace Go.Bo
open Go Go.Ls
def Cw(s:List Int)(a:Int->Prop):Prop:=s.length=256/\∀g:Nat,(a (g:Int)->s.getD g 0=1)/\(¬a (g:Int)->s.getD g 0=0)
theorem Cw.congr{s:List Int}{b a:Int→Prop}(h:Cw s b)(e:∀g,b g↔a g):Cw s a:=⟨h.1,fun g=>⟨fun v=>(h.2 g).1 ((e _).2 v),fun v=>(h.2 g).2 fun w=>v ((e _).1 w)⟩⟩
theorem GV{s:List Int}{a:Int->Prop}{x:Int}(h:Cw s a)(d:0<=x)(h1:x<256)(c:¬a x):s[x.toNat]?=some 0/\Cw (s.set x.toNat 1) λg=>a g\/g=x:=by
 have b:x.toNat<s.length:=by rw[h.1];omega
 have e:((x.toNat:Nat):Int)=x:=by omega
 refine⟨?_,by rw[bC];exact h.1,λg=>?_⟩;.have:=(h.2 x.toNat).2 (by rw[e];exact c);rw[ck,G b]at this;rw[G b];exact eT some this
 .
  rw[Zs.EM _ _ _ b];by_cases q:g=x.toNat;.rw[aE q];exact⟨λ_=>rfl,λk=>absurd (.inr (by omega)) k⟩
  .rw[aG q];exact⟨λk=>(h.2 g).1 (k.resolve_right (by omega)),λk=>(h.2 g).2 λw=>k (.inl w)⟩
def Wn(Z:Zs.lc)(k i:Nat)(g:Int):Prop:=∃(j:Nat)(x:Int),(j<k/\x∈Zs.fV Z j\/j=k/\∃q,q<i/\(Zs.fV Z k)[q]?=some x)/\x<=g/\g<x+2^j
theorem Nv{Z:Zs.lc}(h:Z.gV.length=5){k:Nat}(a:k<=4):ax Z.gV (k:Int)=some (Zs.fV Z k):=aC (Zs.B7 h (by omega))
theorem Bu{β:Type}{Q:β->Prop}{z:Zn}(h:Zs.ry (eD z)){K:List Int×Unit->Option β}(q0:∀s,Cw s (Zs.qB (eD z))->Ok (K (s,())) Q):Ok (aD (HK z.2.2.2.2.2.1) K) Q:=by
 have r0:(eD z).gV.length=5:=h.len;have y0:∀(k:Nat)(x:Int),x∈Zs.fV (eD z) k->0<=x/\x+2^k<=256:=λk x d=>⟨(h.Lz (h.ko k x d)).1,(h.Lz (h.ko k x d)).2.1⟩;have p0:∀k:Nat,(Zs.fV (eD z) k).length<=256:=λk=>Zs.Bp (h.yz k) (λf n=>by have:=y0 k f n;have:=Zs.mY k;omega);unfold HK;refine aK (P:=λt=>Cw t.1 (Zs.qB (eD z))) (bz (I:=λk t=>t.2.1=(k:Int)/\Cw t.1 (Wn (eD z) k 0)) (m:=5) ⟨rfl,aR,λg=>⟨?_,λ_=>?_⟩⟩ (by decide) ?_ ?_) λt p=>q0 t.1 p;.rintro⟨j,x,⟨l,_⟩|⟨_,q,o,_⟩,_⟩<;>omega
 .show(List.replicate 256 0).getD g 0=0;rw[ck,cm];split<;>rfl
 .
  rintro k⟨s,l0,u⟩i0⟨rfl,c⟩;have B:k<=4:=by omega
  have f0:=BJ B;have r:cV (k:Int)=true:=av (by omega);have v:ay (k:Int) 5=true:=eK (by omega);have h0:=p0 k;have t0:ai .i64 (k:Int) 1=((k+1:Nat):Int):=bI (by omega);have A:ax z.2.2.2.2.2.1 (k:Int)=some (Zs.fV (eD z) k):=Nv r0 B;refine be (lz (by show(k:Int)<=4;omega)) (aK (P:=λt=>Cw t.1 (Wn (eD z) (k+1) 0)) (aK (P:=λt=>Cw t.1 (Wn (eD z) (k+1) 0)) (bz (I:=λi t=>t.2.1=(i:Int)/\Cw t.1 (Wn (eD z) k i)) (m:=(Zs.fV (eD z) k).length) ⟨rfl,c⟩ (by omega) ?_ ?_) λt p=>a4 p) λt p=>a4 ⟨by rw[<-t0],p⟩)
  .
   rintro i⟨s,m0,u⟩z0⟨rfl,c⟩;have d:(Zs.fV (eD z) k)[i]?=some (Zs.fV (eD z) k)[i]:=G z0;generalize(Zs.fV (eD z) k)[i]=x at d;have w0:=Y d;have u0:ai .i64 (i:Int) 1=((i+1:Nat):Int):=bI (by omega);obtain⟨e0,d0⟩:=y0 k x w0;have e:ai .i64 x (fB .i64 1 (ek .u64 (k:Int)))=x+2^k:=by rw[rl B,t4 k B];exact cD (by omega) (by omega)
   have v0:cV (ek .u64 (k:Int))=true:=by rw[rl B];exact av (by omega)
   refine aq r (aq v (aa A (be (cB z0) (aK (P:=λt=>Cw t.1 (Wn (eD z) k (i+1))) (aq r (aq v (aa A (aa (aC d) (aK (P:=λt=>Cw t.1 (Wn (eD z) k (i+1))) (bz (I:=λm t=>t.2.1=x+(m:Int)/\Cw t.1 λg=>Wn (eD z) k i g\/x<=g/\g<x+(m:Int)) (m:=(2^k:Int).toNat) ⟨by show x=x+((0:Nat):Int);omega,c.congr λg=>⟨.inl,λq=>q.resolve_right (by omega)⟩⟩ (by omega) ?_ ?_) λt p=>a4 p))))) λt p=>a4 ⟨by rw[<-u0],p⟩))))
   .
    rintro m⟨s,f,u⟩g0⟨n,c⟩;have n:f=x+(m:Int):=n;subst n
    have o0:¬(Wn (eD z) k i (x+(m:Int))\/x<=x+(m:Int)/\x+(m:Int)<x+(m:Int)):=by
     rintro(⟨j,y,a,k0,j0⟩|⟨_,q⟩)
     .
      have D:=λn0=>h.IC k x j y (x+(m:Int)) w0 n0 (by omega) (by omega) k0 j0;rcases a with⟨l,a⟩|⟨rfl,q,o,a⟩;.have:=(D a).1;omega
      .have:=(D (Y a)).2;subst this;have:=Zs.xi (h.yz j) a d o;omega
     .omega
    obtain⟨C,s0⟩:=GV c (by omega) (by omega) o0;have x0:a5 s (x+(m:Int))=true:=ru (by omega) (by rw[aJ,c.1];omega);refine aq r (aq v (aa A (aa (aC d) (aq v0 (be (eK (by rw[e];show x+(m:Int)<_;omega)) (aq x0 (aa ((qk (by omega)).trans C) (aq x0 (aa ((qk (by omega)).trans C) (a4 ⟨?_,?_⟩))))))))));.show ai .i64 (x+(m:Int)) 1=x+((m+1:Nat):Int);rw[cD (by omega) (by omega)];omega
    .
     show Cw (aI s (x+(m:Int)) 1) _
     exact s0.congr λg=>⟨λq=>by rcases q with(q|q)|q<;>first|exact .inl q|exact .inr (by omega),λq=>by
      rcases q with q|q;.exact .inl (.inl q)
      .
       by_cases w:g=x+(m:Int);.exact .inr w
       .exact .inl (.inr (by omega))⟩
   .
    rintro⟨s,f,u⟩⟨n,c⟩;have n:f=x+(((2^k:Int).toNat:Nat):Int):=n;subst n;refine aq r (aq v (aa A (aa (aC d) (aq v0 (aw (cH (by rw[e];show x+2^k<=x+_;omega)) (bu (a4 (P:=λt:List Int×Unit=>Cw t.1 (Wn (eD z) k (i+1))) (c.congr λg=>⟨λq=>?_,?_⟩))))))))
    .
     rcases q with⟨j,y,⟨l,a⟩|⟨l,q,o,a⟩,b⟩|q;.exact⟨j,y,.inl ⟨l,a⟩,b⟩
     .exact⟨j,y,.inr ⟨l,q,by omega,a⟩,b⟩
     .exact⟨k,x,.inr ⟨rfl,i,by omega,d⟩,q.1,by omega⟩
    .
     rintro⟨j,y,⟨l,a⟩|⟨rfl,q,o,a⟩,b⟩;.exact .inl ⟨j,y,.inl ⟨l,a⟩,b⟩
     .
      by_cases w:q=i;.subst w;rw[d]at a;cases a;exact .inr ⟨b.1,by omega⟩
      .exact .inl ⟨j,y,.inr ⟨rfl,q,by omega,a⟩,b⟩
  .
   rintro⟨s,m0,u⟩⟨rfl,c⟩;refine aq r (aq v (aa A (aw cJ (bu (a4 (P:=λt:List Int×Unit=>Cw t.1 (Wn (eD z) (k+1) 0)) (c.congr λg=>⟨?_,?_⟩))))))
   .
    rintro⟨j,y,⟨l,a⟩|⟨rfl,q,_,a⟩,b⟩;.exact⟨j,y,.inl ⟨by omega,a⟩,b⟩
    .exact⟨j,y,.inl ⟨by omega,Y a⟩,b⟩
   .
    rintro⟨j,y,⟨l,a⟩|⟨_,q,o,_⟩,b⟩
    .
     by_cases w:j=k;.subst w;obtain⟨q,o⟩:=bn a;exact⟨j,y,.inr ⟨rfl,q,(aj.1 o).1,o⟩,b⟩
     .exact⟨j,y,.inl ⟨by omega,a⟩,b⟩
    .omega
 .
  rintro⟨s,l0,u⟩⟨rfl,c⟩;refine aw (lA (by show(4:Int)<((5:Nat):Int);decide)) (bu (a4 (P:=λt:List Int×Unit=>Cw t.1 (Zs.qB (eD z))) (c.congr λg=>⟨?_,?_⟩)))
  .
   rintro⟨j,y,⟨l,a⟩|⟨_,q,o,_⟩,b⟩;.exact⟨j,y,a,b⟩
   .omega
  .rintro⟨j,y,a,b⟩;exact⟨j,y,.inl ⟨by have:=h.GE a;omega,a⟩,b⟩
end Go.Bo
set_option maxHeartbeats 4000000
namespace Go.Bo
open Go Go.Ls
theorem JB{z:Zn}(l:Zs.eS (eD z)=true):JD (z,())=some (true,()):=by obtain⟨a,b,c,d,m,f,j,g,i⟩:=Zs.lO l;have a:0<=z.1:=a;have b:z.1<4:=b;have c:z.2.1=0\/z.2.1=1:=c;have d:0<=zs z:=d;have f:1<=zc z:=f;have j:zc z<=256-zs z:=j;have g:0<=z.2.2.2.2.1:=g;have i:z.2.2.2.2.1<=zc z:=i;have e:bo .i64 256 z.2.2.2.1=256-zc z:=fk (by show _<=256-zc z;omega) (by show 256-zc z<=_;omega);have k:Ok (ad (cL 0 z.2.2.1) (ad (cL 1 z.2.2.2.1) (ad (cL z.2.2.2.1 256) (ad (cL z.2.2.1 (bo .i64 256 z.2.2.2.1)) (ad (cL 0 z.2.2.2.2.1) (some (cL z.2.2.2.2.1 z.2.2.2.1,())) (some (false,()))) (some (false,()))) (some (false,()))) (some (false,()))) (some (false,())):Option (Bool×Unit)) λr=>r=(true,()):=be (lz d) (be (lz f) (be (lz (show zc z<=256 by omega)) (be (lz (by rw[e];show zs z<=_;omega)) (be (lz g) (ab (by rw[lz (show z.2.2.2.2.1<=z.2.2.2.1 from i)]))))));refine cC ?_;unfold JD;refine aw (cH a) (aw (lA b) (aN (λh=>aw ?_ k) λ_=>k));have h:z.2.1≠0:=jh h;rw[gM,av (c.resolve_left h)];rfl
structure Zl (z : Zn) : Prop where
  qC : ∀ k : Nat, k ≤ 4 → ax z.2.2.2.2.2.1 (k : Int) = some (Zs.fV (eD z) k)
  len : ∀ k : Nat, (Zs.fV (eD z) k).length ≤ 256
  bd : ∀ (k : Nat) (x : Int), x ∈ Zs.fV (eD z) k → 0 ≤ x ∧ x + 2 ^ k ≤ 256
theorem tQ{z:Zn}(h:Zs.ry (eD z)):Zl z:=by have a:∀(k:Nat)(x:Int),x∈Zs.fV (eD z) k->0<=x/\x+2^k<=256:=λk x b=>⟨(h.Lz (h.ko k x b)).1,(h.Lz (h.ko k x b)).2.1⟩;exact⟨λk d=>Nv h.len d,λk=>Zs.Bp (h.yz k) λf c=>by have:=a k f c;have:=Zs.mY k;omega,a⟩
theorem SY{z:Zn}(h:Zs.ry (eD z)):NS (z,())=some (0,()):=by
 have g:=tQ h;refine cC ?_;unfold NS;refine cz (λk=>((k:Int),())) 5 rfl (by decide) (λk q=>?_) (aw (lA (by show(4:Int)<((5:Nat):Int);decide)) (bj (ab rfl))) (ab rfl);have m:k<=4:=by omega
 have a:cV (k:Int)=true:=av (by omega);have b:ay (k:Int) 5=true:=eK (by omega);have s:=g.len k;have c:=g.qC k m;refine be (lz (by show(k:Int)<=4;omega)) (aK (P:=λ_=>True) (cz (λi=>((i:Int),())) (Zs.fV (eD z) k).length rfl (by omega) (λi l=>?_) (aq a (aq b (aa c (aw cJ (bj (ab rfl)))))) (a4 trivial)) λ_ _=>ab (by show Sum.inl (ai .i64 (k:Int) 1,())=_;rw[bI (by omega)]));have d:(Zs.fV (eD z) k)[i]?=some (Zs.fV (eD z) k)[i]:=G l;generalize(Zs.fV (eD z) k)[i]=x at d;have n:=Y d;obtain⟨p,u⟩:=g.bd k x n;have t:=Zs.mY k;have j:Ok (some (Sum.inl (ai .i64 (i:Int) 1,())):Option (Sum (Int×Unit) (Sum Unit (Sum Unit (Sum (Int×Unit) (Sum Unit (Int×Unit))))))) λr=>r= .inl (((i+1:Nat):Int),()):=ab (by rw[bI (by omega)]);refine aq a (aq b (aa c (be (cB l) (aq a (aq b (aa c (aa (aC d) (aa (yf h.eS m p (by omega)) (aw (by rw[h.ko k x n];rfl) (aN (λe=>?_) λ_=>j))))))))));have e:0<i:=by have:=kS e;simp only at this;omega
 have f:(Zs.fV (eD z) k)[i-1]?=some ((Zs.fV (eD z) k)[i-1]'(by omega)):=G (by omega);generalize(Zs.fV (eD z) k)[i-1]'(by omega)=y at f;have o:=vW e (by omega);refine aq a (aq b (aa c (aa (aC d) (aq a (aq b (aa c (aa (x:=y) (by show ax _ (bo .i64 (i:Int) 1)=_;rw[o];exact f) (aw (lA (Zs.xi (h.yz k) f d (by omega))) j))))))))
theorem yd{z:Zn}(h:Zs.ry (eD z)):Fj (z,())=some (0,()):=by
 have o:=tQ h;refine cC ?_;unfold Fj;refine aa (JB h.eS) (aw rfl (aa (SY h) (aw rfl (aq (by decide) (Bu h λs a=>?_)))));refine cz (λi=>((i:Int),())) 256 rfl (by decide) (λi C=>?_) (aw (cH (by rw[aJ,a.1];exact bX 256)) (bj (ab rfl))) (cz (λk=>((k:Int),())) 4 rfl (by decide) (λk t=>?_) (aw (cH (by show(4:Int)<=((4:Nat):Int);decide)) (bj (ab rfl))) (ab rfl))
 .
  have b:s[i]?=some (s[i]'(by rw[a.1];omega)):=G (by rw[a.1];omega);generalize s[i]'(by rw[a.1];omega)=x at b;have B:s.getD i 0=x:=by rw[ck,b];rfl
  have D:x<=1:=by
   rw[<-B];by_cases w:Zs.qB (eD z) (i:Int);.rw[(a.2 i).1 w];decide
   .rw[(a.2 i).2 w];decide
  exact be (eK (by rw[aJ,a.1];show(i:Int)<256;omega)) (aq (eF (by rw[a.1];omega)) (aa (aC b) (aw (cH D) (ab (by show Sum.inl (ai .i64 (i:Int) 1,())=_;rw[bI (by omega)])))))
 .
  have g:k<=4:=by omega
  have c:cV (k:Int)=true:=av (by omega);have d:ay (k:Int) 5=true:=eK (by omega);have x0:=o.len k;have f:=o.qC k g;have y0:cV (ek .u64 (k:Int))=true:=by rw[rl g];exact av (by omega)
  refine be (eK (by show(k:Int)<4;omega)) (aK (P:=λ_=>True) (cz (λi=>(((i+1:Nat):Int),())) ((Zs.fV (eD z) k).length-1) rfl (by omega) (λi C=>?_) (aq c (aq d (aa f (aw (cH (by rw[aJ];show((Zs.fV (eD z) k).length:Int)<=(((Zs.fV (eD z) k).length-1+1:Nat):Int);omega)) (bj (ab rfl)))))) (a4 trivial)) λ_ _=>ab (by show Sum.inl (ai .i64 (k:Int) 1,())=_;rw[bI (by omega)]));have b:(Zs.fV (eD z) k)[i+1]?=some ((Zs.fV (eD z) k)[i+1]'(by omega)):=G (by omega);generalize(Zs.fV (eD z) k)[i+1]'(by omega)=x at b;have m:(Zs.fV (eD z) k)[i]?=some ((Zs.fV (eD z) k)[i]'(by omega)):=G (by omega);generalize(Zs.fV (eD z) k)[i]'(by omega)=y at m;have z0:=Y b;have n:=Y m;obtain⟨u,u0⟩:=o.bd k y n;obtain⟨w0,v0⟩:=BJ g;have p:ax (Zs.fV (eD z) k) (bo .i64 ((i+1:Nat):Int) 1)=some y:=by rw[vW (by omega) (by omega)];exact m
  have e:ai .i64 y (fB .i64 1 (ek .u64 (k:Int)))=y+2^k:=by rw[rl g,t4 k g];exact cD (by omega) (by omega)
  have q:Ok (some (Sum.inl (ai .i64 ((i+1:Nat):Int) 1,())):Option (Sum (Int×Unit) (Sum Unit (Sum Unit (Sum (Int×Unit) (Sum Unit (Int×Unit))))))) λr=>r= .inl (((i+1+1:Nat):Int),()):=ab (by rw[bI (by omega)]);refine aq c (aq d (aa f (be (eK (by rw[aJ];show((i+1:Nat):Int)<_;omega)) (aq c (aq d (aa f (aa (aC b) (aq c (aq d (aa f (aa p (aq y0 (aN (λl=>?_) λ_=>q)))))))))))));have l:x=y+2^k:=by rw[<-e];exact lq l
  refine aq c (aq d (aa f (aa p (aa (x:=(Zs.fx (eD z) y (k+1),())) ?_ (aw ?_ q)))));.show sx (z,y,ai .i64 (k:Int) 1,())=_;rw[bI (by omega)];exact yf h.eS (by omega) u (by omega)
  .
   refine qA.2 λj=>?_;have j:Zs.fx (eD z) y (k+1)=true:=j;have A:=(Zs.jc h.eS).1 j;have v:=((Zs.jc h.eS).1 (h.ko k y n)).2.1;rcases Zs.AY t u (by omega) v with⟨_,w⟩|⟨w,_⟩;.have:=h.jQ k y t n (by rw[w,<-l];exact z0);rw[w,show min y (y+2^k)=y by omega,j]at this;cases this
   .rw[A.2.1]at w;omega
theorem SU{z:Zn}(h:Zs.ry (eD z)){f:Int}(e:zs z<=f)(h1:f<zs z+zc z)(g:¬Zs.qB (eD z) f):NN (z,f,())=some (false,()):=by
 obtain⟨l,c,m⟩:=wE h.eS;have a:0<=f:=by omega
 have d:f<=256:=by omega
 have i:Zs.fx (eD z) f 0=true:=(Zs.jc h.eS).2 (by rw[Zs.KC];exact⟨e,by omega,c,by show f<=zs z+zc z-1;omega⟩);refine cC ?_;unfold NN;refine aa (yd h) (be rfl (aa (yf (k:=0) h.eS (by decide) a d) (be i (aq (by decide) (Bu h λs b=>?_)))));have j:a5 s f=true:=ru a (by rw[aJ,b.1];omega);have k:s[f.toNat]?=some 0:=(GV b a (by omega) g).1;exact aq j (aa ((qk a).trans k) (ab rfl))
end Go.Bo
set_option maxHeartbeats 4000000
namespace Go.Bo
open Go Go.Ls
structure VZ (z : Zn) : Prop where
  v : Vz z
  r : Zs.eS (eD z) = true
  l : (eD z).gV.length = 5
theorem sg(z:Zn)(k:Nat):Zs.fV (eD z) k=dL z k:=by unfold Zs.fV dL bm;rw[ck];rfl
theorem Ua{l:List Int}(h:iW l):Zs.x7 l:=hT.2 λi j a c b=>h i j _ _ b (G a) (G c)
theorem tU{z:Zn}(h:VZ z):Zs.ry (eD z)∧∀g,Zs.qB (eD z) g↔cv z g:=by
 obtain⟨⟨r0,B,r,p⟩,A,v⟩:=h;have t:∀k,5≤k→Zs.fV (eD z) k=[]:=fun k b=>Zs.MM v b
 have c:∀k x,x∈Zs.fV (eD z) k→k≤4∧x∈dL z k:=fun k x a=>by
  rcases cO k 5 with b|b;·exact⟨by omega,by rw[←sg];exact a⟩
  ·rw[t k b]at a;cases a
 have m:∀k x,x∈Zs.fV (eD z) k→Zs.fx (eD z) x k=true∧(0≤x∧x+2^k≤256)∧x%2^k=0:=fun k x a=>by
  obtain⟨b,a⟩:=c k x a;have u:=(B.fr k b).2 x a;have s:=B.pX;have o:0≤x:=by have:=u.1;have:=s.1;omega
  obtain⟨t0,q0,C⟩:=(He o).1 u;have u0:=Zs.mY k;exact⟨(Zs.jc A).2 ⟨t0,C,by show(2:Int)^k≤zc z;omega,by show x≤zs z+zc z-2^k;omega⟩,⟨o,by have:=s.2.2;omega⟩,C⟩
 refine⟨⟨A,v,fun k=>?_,fun k x a=>(m k x a).1,fun k x j y f a n D s0 p0 o0=>?_,fun k x b a d=>?_⟩,fun g=>⟨?_,?_⟩⟩
 ·
  rcases cO k 5 with b|b;·rw[sg];exact Ua (r.so k (by omega))
  ·rw[t k b];exact Zs.x7.nil
 ·
  obtain⟨b,a⟩:=c k x a;obtain⟨v0,n⟩:=c j y n;by_cases e:k=j∧x=y;·exact e
  ·rcases r.dj k j b v0 x y a n fun z0 y0=>e ⟨z0,y0⟩with q|q<;>omega
 ·
  exfalso;obtain⟨_,⟨D,s0⟩,x0⟩:=m k x a;obtain⟨_,_,w0⟩:=m k _ d;have u0:=Zs.mY k;rcases Zs.AY b D (by omega) x0 with⟨w,e⟩|⟨w,e⟩;·rw[e]at d;exact p k x b w (c k x a).2 (c k _ d).2
  ·
   rw[e]at d w0;have i:=Zs.BI k;refine p k (x-2^k) b ?_ (c k _ d).2 (by rw[Int.sub_add_cancel];exact(c k x a).2);have:x-2^k=x-x%2^(k+1):=by rw[w]
   rw[this];exact Int.emod_eq_zero_of_dvd Int.dvd_self_sub_emod
 ·rintro⟨k,x,a,l,i⟩;obtain⟨b,a⟩:=c k x a;exact⟨k,x,b,a,l,i⟩
 ·rintro⟨k,x,b,a,l,i⟩;exact⟨k,x,by rw[sg];exact a,l,i⟩
theorem Qo{z y:Zn}(h:eD z=eD y):z=y:=by obtain⟨a,b,c,d,e,l,u⟩:=z;obtain⟨n,o,p,q,r,s,t⟩:=y;injection h with f g i j k m;have f:a=n:=f;have g:b=o:=g;have i:c=p:=i;have j:d=q:=j;have k:e=r:=k;have m:l=s:=m;subst f g i j k m;rfl
theorem L8{z y:Zn}(e:VZ z)(d:Zs.ry (eD y))(h:(y.1=z.1∧y.2.1=z.2.1)∧(zs y=zs z∧zc y=zc z)∧y.2.2.2.2.1=z.2.2.2.2.1)(c:∀g,Zs.qB (eD y) g↔cv z g):y=z:=by obtain⟨a,b⟩:=tU e;exact Qo (d.ext a h.1.1 h.1.2 h.2.1.1 h.2.1.2 h.2.2 fun g=>(c g).trans (b g).symm)
theorem Wt{z:Zn}(m:Zs.eS (eD z)=true):rf (z,())=some (true,()):=by obtain⟨a,b,c,d,f,g,i,j,k⟩:=Zs.lO m;have a:0<=z.1:=a;have b:z.1<4:=b;have c:z.2.1=0\/z.2.1=1:=c;have d:0<=zs z:=d;have f:zs z<256:=f;have g:1<=zc z:=g;have i:zc z<=256-zs z:=i;have j:0<=z.2.2.2.2.1:=j;have k:z.2.2.2.2.1<=zc z:=k;have e:bo .i64 256 z.2.2.1=256-zs z:=fk (by show _<=256-zs z;omega) (by show 256-zs z<=_;omega);have l:Ok (ad (cL 0 z.2.2.1) (ad (ay z.2.2.1 256) (ad (cL 1 z.2.2.2.1) (ad (cL z.2.2.2.1 (bo .i64 256 z.2.2.1)) (ad (cL 0 z.2.2.2.2.1) (some (cL z.2.2.2.2.1 z.2.2.2.1,())) (some (false,()))) (some (false,()))) (some (false,()))) (some (false,()))) (some (false,())):Option (Bool×Unit)) λr=>r=(true,()):=be (lz d) (be (eK f) (be (lz g) (be (lz (by rw[e];exact i)) (be (lz j) (ab (by rw[lz (show z.2.2.2.2.1<=z.2.2.2.1 from k)]))))));refine cC ?_;unfold rf;refine be (lz a) (be (eK b) (aN (λ_=>l) λh=>be ?_ l));have h:z.2.1≠0:=mZ h;rw[gA];exact av (c.resolve_left h)
def Oq(n k st ct a:Int)(l:List (List Int)):Zn:=(n,k,st,ct,a,l,())
structure NZ (n k st ct mn : Int) (z : Zn) : Prop where
  v : VZ z
  e : (z.1 = n ∧ z.2.1 = k) ∧ (zs z = st ∧ zc z = ct) ∧ z.2.2.2.2.1 = mn
  c : ∀ g, cv z g ↔ st ≤ g ∧ g < st + ct
theorem P1{n k st ct f:Int}(m:Zs.eS (eD (Oq n k st ct f []))=true):Ok (JW (n,k,st,ct,f,())) λr=>r.2.1=0/\NZ n k st ct f r.1:=by refine(JV n k st ct f).mono λr A=>?_;obtain⟨⟨a,b,c,d,e,l,u⟩,r0,q0⟩:=r;have w:=A.1 (Wt m);obtain⟨o,s,p0,B,t0,s0,C,⟨t,v,p⟩,⟨w0,v0,q⟩,u0⟩:=A.2 w;have o:c=st:=o;have s:d=ct:=s;have t:a=n:=t;have v:b=k:=v;have p:e=f:=p;have q:l=w0:=q;subst o s t v p q;have i:=wE m;have i:0<=c/\1<=d/\c+d<=256:=i;refine⟨w,⟨⟨s0,⟨i,λk z=>⟨B.1 k z,C k z⟩⟩,YQ B,t0⟩,m,v0⟩,⟨⟨rfl,rfl⟩,⟨rfl,rfl⟩,rfl⟩,λg=>⟨?_,λh=>u0 g h.1 h.2⟩⟩;rintro⟨j,x,y0,x0,D,z0⟩;have y:=C j y0 x x0;exact⟨wu y.1 D,Int.lt_of_lt_of_le z0 y.2.1⟩
theorem P0{n k st ct d:Int}(e:Zs.eS (eD (Oq n k st ct d []))=true):Ok (Oi (n,k,st,ct,d,())) λr=>r.2.1=0/\∀z,NZ n k st ct d z->r.1=z:=by
 have y:0<=st/\1<=ct/\st+ct<=256:=wE e;have j:ai .i64 st ct=st+ct:=cD (by omega) (by omega);unfold Oi;refine aa (JB (z:=Oq n k st ct d [[],[],[],[],[]]) e) (aw rfl (aq (by decide) (aK (P:=λt=>Cw t.1 λg=>st<=g/\g<st+ct) (bz (I:=λi t=>t.2.1=st+(i:Int)/\Cw t.1 λg=>st<=g/\g<st+(i:Int)) (m:=ct.toNat) ⟨by show st=st+((0:Nat):Int);omega,aR,λg=>⟨λh=>by omega,λ_=>?_⟩⟩ (by omega) ?_ ?_) ?_)));.show(List.replicate 256 0).getD g 0=0;rw[ck,cm];split<;>rfl
 .rintro i⟨s,f,u⟩A⟨b,a⟩;have b:f=st+(i:Int):=b;subst b;obtain⟨m,o⟩:=GV a (x:=st+(i:Int)) (by omega) (by omega) (by omega);have w:a5 s (st+(i:Int))=true:=ru (by omega) (by rw[aJ,a.1];omega);refine be (eK (by show st+(i:Int)<ai .i64 st ct;rw[j];omega)) (aq w (aa ((qk (by omega)).trans m) (a4 ⟨?_,o.congr λg=>by omega⟩)));show ai .i64 (st+(i:Int)) 1=st+((i+1:Nat):Int);rw[cD (by omega) (by omega)];omega
 .rintro⟨s,f,u⟩⟨b,a⟩;have b:f=st+((ct.toNat:Nat):Int):=b;subst b;exact aw (cH (by show ai .i64 st ct<=_;rw[j];show st+ct<=st+((ct.toNat:Nat):Int);omega)) (bu (a4 (P:=λt:List Int×Unit=>Cw t.1 λg=>st<=g/\g<st+ct) (a.congr λg=>by omega)))
 rintro⟨s,u⟩a;have a:Cw s λg=>st<=g/\g<st+ct:=a;refine bb (Jz (z:=Oq n k st ct d [[],[],[],[],[]]) e a.1) λr x=>ab ⟨rfl,λz c=>?_⟩;obtain⟨l,p,q,v⟩:=x;show r.1=z;rw[p];refine L8 c.v q ⟨⟨c.e.1.1.symm,c.e.1.2.symm⟩,⟨c.e.2.1.1.symm,c.e.2.1.2.symm⟩,c.e.2.2.symm⟩ λg=>(v g).trans (Iff.trans ?_ (c.c g).symm);constructor;.exactλh=>⟨h.1,h.2.1⟩
 .intro h;refine⟨h.1,h.2,?_⟩;have:=(a.2 g.toNat).1 (by omega);rw[this];decide
end Go.Bo
set_option maxHeartbeats 4000000
namespace Go.Bo
open Go Go.Ls
abbrev Zt:=Int×Int×Int×Int×Unit
abbrev ZL:=List Zt
def mx(zl:ZL)(i:Nat):Int:=zM (zl.take i)
theorem J9:∀(l:ZL)(a:Int),l.all pb=true->0<=a->a+256*l.length<=10000->a<=l.foldl (λa(z:Zt)=>ai .i64 a z.2.2.1) a
 |[],a,_,_,_=>bX a
 |z::l,a,h,c,b=>by
  rw[cT,ae]at h;have d:1<=z.2.2.1/\z.2.2.1<=256:=by have:=h.1;unfold pb at this;simp only[ae]at this;exact di this.2.2.1
  rw[bx]at b;have e:ai .i64 a z.2.2.1=a+z.2.2.1:=cD (by omega) (by omega);have:=J9 l (a+z.2.2.1) h.2 (by omega) (by omega);rw[fL,e];omega
theorem L6:∀(l:ZL)(a:Int),l.all pb=true->0<=a->a+256*l.length<=10000->l.foldl (λa(z:Zt)=>ai .i64 a z.2.2.1) a<=a+256*l.length
 |[],a,_,_,_=>by show a<=_;omega
 |z::l,a,h,c,b=>by
  rw[cT,ae]at h;have d:1<=z.2.2.1/\z.2.2.1<=256:=by have:=h.1;unfold pb at this;simp only[ae]at this;exact di this.2.2.1
  rw[bx]at b⊢;have e:ai .i64 a z.2.2.1=a+z.2.2.1:=cD (by omega) (by omega);have:=L6 l (a+z.2.2.1) h.2 (by omega) (by omega);rw[fL,e];omega
structure AG (nd : List Int) (bt hg : Int) (zl : ZL) : Prop where
  nn : 1 ≤ nd.length ∧ nd.length ≤ 4
  nd : ∀ n, n ∈ nd → 0 ≤ n ∧ n < 4
  bh : 1 ≤ bt ∧ bt ≤ hg ∧ hg ≤ 16
  nz : 1 ≤ zl.length ∧ zl.length ≤ 6
  zk : zl.all pb = true
  sm : zM zl ≤ 256
theorem FV{zl:ZL}{i:Nat}{x:Zt}(h:zl[i]?=some x):mx zl (i+1)=ai .i64 (mx zl i) x.2.2.1:=by unfold mx zM;rw[jq,h,no];rfl
theorem Ui{n k st ct a:Int}{l:List (List Int)}(h1:0<=n/\n<=3)(h2:0<=k/\k<=1)(b:0<=st)(c:1<=ct)(d:st+ct<=256)(e:0<=a/\a<=ct):Zs.eS (eD (Oq n k st ct a l))=true:=by show(decide (0<=n)&&decide (n<4)&&(decide (k=0)||decide (k=1))&&decide (0<=st)&&decide (st<256)&&decide (1<=ct)&&decide (ct<=256-st)&&decide (0<=a)&&decide (a<=ct))=true;simp only[ae,ff,bF];omega
theorem FW{nd:List Int}{p hg:Int}{zl:ZL}(g:AG nd p hg zl){i:Nat}{x:Zt}(h:zl[i]?=some x):0<=mx zl i/\1<=x.2.2.1/\mx zl i+x.2.2.1<=256/\mx zl (i+1)=mx zl i+x.2.2.1/\Zs.eS (eD (Oq x.1 x.2.1 (mx zl i) x.2.2.1 x.2.2.2.1 []))=true:=by
 have o:=bR.1 g.zk;have l:=o x (Y h);unfold pb at l;simp only[ae]at l;obtain⟨d,e,b,f⟩:=l;have d:=di d;have e:=di e;have b:=di b;have f:=di f;have v:=(aj.1 h).1;have w:=g.nz;have k:∀{m:ZL},(∀y,y∈m->y∈zl)->m.all pb=true:=λr=>bR.2 λy t=>o y (r y t);have c:=J9 (zl.take i) 0 (k λy=>eB) (bX 0) (by rw[aY];omega);have j:=L6 (zl.take i) 0 (k λy=>eB) (bX 0) (by rw[aY];omega);have c:0<=mx zl i:=c;have j:mx zl i<=0+256*(zl.take i).length:=j;rw[aY]at j;have n:mx zl (i+1)=mx zl i+x.2.2.1:=by rw[FV h];exact cD (by omega) (by omega)
 have u:=J9 (zl.drop (i+1)) (mx zl (i+1)) (k λy=>jy) (by omega) (by rw[cE,n];omega);have q:zM zl=(zl.drop (i+1)).foldl (λa(z:Zt)=>ai .i64 a z.2.2.1) (mx zl (i+1)):=by unfold mx zM;rw[<-no,dQ]
 have s:=g.sm;rw[q]at s;refine⟨c,b.1,by omega,n,?_⟩;exact Ui d e c b.1 (by omega) f
structure SL (zl : ZL) (l : List Zn) : Prop where
  len : l.length = zl.length
  nz : ∀ (i : Nat) (z : Zn) (x : Zt), l[i]? = some z → zl[i]? = some x → NZ x.1 x.2.1 (mx zl i) x.2.2.1 x.2.2.2.1 z
def I6(nd:List Int)(a hg:Int)(l:List Zn)(n k:Nat):eI:=(nd,a,hg,l,List.replicate n (List.replicate k [],()),())
theorem On{nd:List Int}{c hg:Int}{zl:ZL}(g:AG nd c hg zl){l:List Zn}{cl:List tM}(k:l.length=zl.length):Ds ((nd,c,hg,l,cl,()),())=some (true,()):=by obtain⟨⟨m,n⟩,h,⟨e,f,j⟩,⟨o,p⟩,_,_⟩:=g;refine cC ?_;unfold Ds;refine aw (cH (by rw[aJ];show(1:Int)<=(nd.length:Int);omega)) (aw (cH (by rw[aJ];show(nd.length:Int)<=4;omega)) (aw (cH (by show hg<=64;omega)) (aw (cH e) (aw (cH f) (aw (cH (by rw[aJ];show(1:Int)<=(l.length:Int);omega)) (aw (cH (by rw[aJ];show(l.length:Int)<=6;omega)) (cz (λi=>((i:Int),())) nd.length rfl (by omega) (λi b=>?_) (aw (cJ (l:=nd)) (bj (ab rfl))) (ab rfl))))))));have d:nd[i]?=some nd[i]:=G b;have a:=h _ (ew b);generalize nd[i]=x at d a;exact be (cB (l:=nd) b) (aa (aC d) (aw (cH a.1) (aw (lA a.2) (ab (by show Sum.inl (ai .i64 (i:Int) 1,())=_;rw[bI (by omega)])))))
theorem Oj{nd:List Int}{d hg:Int}{zl:ZL}(g:AG nd d hg zl):FB (nd,d,hg,(zl.length:Int),())=some (true,()):=by obtain⟨⟨k,l⟩,h,⟨e,f,j⟩,⟨m,n⟩,_,_⟩:=g;refine cC ?_;unfold FB;refine aw (cH (by rw[aJ];show(1:Int)<=(nd.length:Int);omega)) (aw (cH (by rw[aJ];show(nd.length:Int)<=4;omega)) (aw (cH e) (aw (cH f) (aw (cH (by show hg<=64;omega)) (aw (cH (by show(1:Int)<=(zl.length:Int);omega)) (aw (cH (by show(zl.length:Int)<=6;omega)) (cz (λi=>((i:Int),())) nd.length rfl (by omega) (λi b=>?_) (aw (cJ (l:=nd)) (bj (ab rfl))) (ab rfl))))))));have c:nd[i]?=some nd[i]:=G b;have a:=h _ (ew b);generalize nd[i]=x at c a;exact be (cB (l:=nd) b) (aa (aC c) (aw (cH a.1) (aa (aC c) (aw (lA a.2) (ab (by show Sum.inl (ai .i64 (i:Int) 1,())=_;rw[bI (by omega)]))))))
theorem TM{n:Nat}(h1:1<=n)(h2:n<=6):FC ((n:Int),())=some ((List.replicate n [],()),0,()):=by refine cC ?_;unfold FC;exact aw (cH (by show(1:Int)<=(n:Int);omega)) (aw (cH (by show(n:Int)<=6;omega)) (aq (jj (by show 0<=(n:Int);omega) (by show(n:Int)<=10000;omega) (by decide)) (ab rfl)))
theorem ya{nd:List Int}{b hg:Int}{zl:ZL}(g:AG nd b hg zl):∃l,SL zl l/\Jn (nd,b,hg,zl,())=some (I6 nd b hg l nd.length zl.length,0,())/\VT (nd,b,hg,zl,())=some (I6 nd b hg l nd.length zl.length,0,()):=by
 have C:=g.nn;have t:=g.nz
 have B:Ok (Jn (nd,b,hg,zl,())) λr=>∃l,SL zl l/\r=(I6 nd b hg l nd.length zl.length,0,()):=by
  unfold Jn;refine aq (ce (by simp;omega) (by decide)) (aq (jj (by show 0<=(zl.length:Int);omega) (by show(zl.length:Int)<=10000;omega) (by decide)) (aa (On g (l:=List.replicate _ _) (by rw[aR];rfl)) (aw rfl ?_)));refine aK (P:=λs=>∃l,SL zl l/\s.2.1=(nd,b,hg,l,[],())) (bz (I:=λi s=>∃l,s=((([],0,0,[],[],()),()),(nd,b,hg,l,[],()),mx zl i,(i:Int),())/\l.length=zl.length/\∀(q:Nat)z x,q<i->l[q]?=some z->zl[q]?=some x->NZ x.1 x.2.1 (mx zl q) x.2.2.1 x.2.2.2.1 z) (m:=zl.length) ⟨_,rfl,by show(List.replicate _ _).length=_;rw[aR];rfl,λq z x A=>by omega⟩ (by omega) ?_ ?_) ?_
  .
   rintro i s d⟨l,rfl,f,n⟩;have c:zl[i]?=some zl[i]:=G d;generalize zl[i]=x at c;refine be (cB (l:=zl) d) (aa (aC c) (bb (P1 (FW g c).2.2.2.2) λr k=>aw (by rw[k.1];rfl) (aq (eF (l:=l) (by omega)) (bb (cQ (l:=l) (by omega)) λ_ _=>a4 ⟨l.set i r.1,?_,by rw[bC];exact f,λq z y A h o=>?_⟩))));.show((_,()),(nd,b,hg,aI l (i:Int) r.1,[],()),ai .i64 (mx zl i) x.2.2.1,ai .i64 (i:Int) 1,())=_;rw[<-FV c,bI (by omega)];rfl
   .
    by_cases e:q=i;.subst e;rw[bq (by omega)]at h;cases h;rw[c]at o;cases o;exact k.2
    .rw[bE λv=>e v.symm]at h;exact n q z y (by omega) h o
  .rintro s⟨l,rfl,f,n⟩;exact aw (cJ (l:=zl)) (bu (a4 ⟨l,⟨f,λi z x h c=>n i z x (aj.1 c).1 h c⟩,rfl⟩))
  .rintro⟨p,a,u⟩⟨l,f,m⟩;have m:a=(nd,b,hg,l,[],()):=m;subst m;refine cz (λi=>(I6 nd b hg l i zl.length,(i:Int),())) nd.length rfl (by omega) (λi d=>?_) (aw (cJ (l:=nd)) (bj (ab rfl))) (ab ⟨l,f,rfl⟩);refine be (cB (l:=nd) d) (aa (TM t.1 t.2) (aq (ce (by show(List.replicate i _).length+1<=_;rw[aR];omega) (by decide)) (ab ?_)));show Sum.inl ((nd,b,hg,l,List.replicate i (List.replicate zl.length [],())++[_],()),ai .i64 (i:Int) 1,())=_;rw[<-jx,bI (by omega)];rfl
 obtain⟨r,w,l,f,rfl⟩:=B;refine⟨l,f,w,cC ?_⟩;unfold VT;refine aa (Oj g) (aw rfl (aq (ce (by simp;omega) (by decide)) ?_));refine cz (λi=>(([],0,0,[],[],()),(nd,b,hg,l.take i,[],()),mx zl i,(i:Int),())) zl.length rfl (by omega) (λi d=>?_) (aw (cJ (l:=zl)) (bj (ab rfl))) ?_;.have c:zl[i]?=some zl[i]:=G d;have h:l[i]?=some (l[i]'(by rw[f.len];exact d)):=G (by rw[f.len];exact d);generalize zl[i]=x at c;generalize l[i]'(by rw[f.len];exact d)=z at h;have j:=aC c;refine be (cB (l:=zl) d) (aa j (aa j (aa j (aa j (bb (P0 (FW g c).2.2.2.2) λr k=>aw (by rw[k.1];rfl) (aq (ce (by rw[aY];show min i l.length+1<=_;omega) (by decide)) (aa j (ab ?_))))))));show Sum.inl ((_:eI),(nd,b,hg,l.take i++[r.1],[],()),ai .i64 (mx zl i) x.2.2.1,ai .i64 (i:Int) 1,())=_;rw[k.2 z (f.nz i z x h c),dC h,<-FV c,bI (by omega)]
 .
  have e:l.take zl.length=l:=by rw[<-f.len,bO]
  rw[e];refine cz (λi=>(I6 nd b hg l i zl.length,(i:Int),())) nd.length rfl (by omega) (λi d=>?_) (aw (cJ (l:=nd)) (bj (ab rfl))) (ab rfl);refine be (cB (l:=nd) d) (aq (jj (by show 0<=(zl.length:Int);omega) (by show(zl.length:Int)<=10000;omega) (by decide)) (aq (ce (by show(List.replicate i _).length+1<=_;rw[aR];omega) (by decide)) (ab ?_)));show Sum.inl ((nd,b,hg,l,List.replicate i (List.replicate zl.length [],())++[(List.replicate zl.length [],())],()),ai .i64 (i:Int) 1,())=_;rw[<-jx,bI (by omega)];rfl
end Go.Bo
set_option maxHeartbeats 4000000
namespace Go.Bo
open Go Go.Ls
def Uz(b:List (Int×Bool×Unit))(L:List Int):List (Int×Bool×Unit):=L.foldl (λb x=>nL b x true) b
def mp(L:List Int):=Uz [] L
def Vf(b:List Bool)(L:List Int):List Bool:=L.foldl (λb x=>aI b x true) b
def ba(L:List Int):=Vf (List.replicate 256 false) L
theorem MF{L:List Int}{x:Int}:nL (mp L) x true=mp (L++[x]):=by unfold mp Uz;rw[no];rfl
theorem Xj{L:List Int}{x:Int}:aI (ba L) x true=ba (L++[x]):=by unfold ba Vf;rw[no];rfl
theorem H8{x:Int}:∀{m:List (Int×Bool×Unit)},(∀p,p∈m->p.1≠x)->sf m x=false
 |[],_=>rfl
 |(a,b,u)::r,h=>by unfold sf;rw[aX λe=>h _ bZ e.symm];exact H8 λp c=>h p (cX _ c)
theorem Es{x:Int}:∀{m:List (Int×Bool×Unit)},(∀p,p∈m->p.1≠x)->nL m x true=m++[(x,true,())]
 |[],_=>rfl
 |(a,w)::r,h=>by unfold nL;rw[aX λe=>h _ bZ e.symm];exact eT (List.cons _) (Es λp b=>h p (cX _ b))
theorem H4:∀(L:List Int)(b:List (Int×Bool×Unit)),L.Nodup->(∀x,x∈L->∀p,p∈b->p.1≠x)->Uz b L=b++L.map λx=>(x,true,())
 |[],b,_,_=>(bi b).symm
 |x::L,b,c,h=>by
  have c:=List.nodup_cons.1 c;show Uz (nL b x true) L=_;rw[Es (h x bZ),H4 L _ c.2 λy d p a=>?_,cA];rfl;rcases bD.1 a with a|a;.exact h y (cX _ d) p a
  .rcases cj.1 a with rfl;exactλe=>c.1 (by rw[show x=y from e];exact d)
theorem MG{L:List Int}(h:L.Nodup):mp L=L.map λx=>(x,true,()):=H4 L [] h λ_ _ p a=>by cases a
theorem MH{L:List Int}{x:Int}(h:L.Nodup)(b:¬x∈L):sf (mp L) x=false:=by rw[MG h];refine H8 λp a=>?_;obtain⟨y,c,rfl⟩:=wq.1 a;exactλe=>b (by rw[<-show y=x from e];exact c)
theorem R6{x:Int}:∀(L:List Int)(b:List Bool),b[x.toNat]?=some false->(∀y,y∈L->y.toNat≠x.toNat)->(Vf b L)[x.toNat]?=some false
 |[],_,h,_=>h
 |y::L,b,h,a=>R6 L (aI b y true) (by rw[t7,bE (a y bZ)];exact h) λz c=>a z (cX _ c)
theorem Nu{L:List Int}{x:Int}(a:0<=x)(h1:x<256)(d:¬x∈L)(c:∀y,y∈L->0<=y):a5 (ba L) x=true/\ax (ba L) x=some false:=by have h:=R6 L (List.replicate 256 false) (x:=x) (by rw[cm,aE (by omega)]) λy b e=>d (by have:=c y b;rw[show x=y by omega];exact b);exact⟨ru a (by rw[aJ];have:=(aj.1 h).1;show x<((Vf (List.replicate 256 false) L).length:Int);omega),(qk a).trans h⟩
theorem PB:(List.range 5).all (λk=>(List.range 256).all λx=>decide (jD .i64 (x:Int) (2^k-1)<=(x:Int))&&decide ((x:Int)<jD .i64 (x:Int) (2^k-1)+2^k))=true:=by kernel_rfl
theorem Vi{k:Nat}(b:k<=4){x:Int}(a:0<=x)(h1:x<256):jD .i64 x (2^k-1)<=x/\x<jD .i64 x (2^k-1)+2^k:=by obtain⟨n,rfl⟩:∃n:Nat,x=(n:Int):=⟨x.toNat,by omega⟩;have:=bR.1 (bR.1 PB k (eJ.2 (by omega))) n (eJ.2 (by omega));simp only[ae,bF]at this;exact this
theorem Tb{z:Zn}(h:VZ z){x:Int}(g:0<=x)(h1:x<256)(m:¬cv z x):Fo (z,x,())=some (-1,0,()):=by
 have a:∀{k:Nat}{c:Int}{A B:Option (D cU)}{d:D cU->Prop},k<=4->c=2^k-1->Ok B d->Ok (am (gC (bm [] z.2.2.2.2.2.1 k,jD .i64 x c,())) λr=>ad r.2.1 A B) d:=by rintro k c A B d f rfl j;obtain⟨i,b,e,s⟩:=mQ (dL z k) (jD .i64 x (2^k-1)) (by have:=pP h.v.nH k f;omega);refine aa e (aw ?_ j);show b=false;refine qA.2 λl=>m ?_;have:=Vi f g h1;exact⟨k,_,f,Y (s.YF l),this.1,this.2⟩
 refine cC ?_;unfold Fo;exact a (by decide) rfl (a (by decide) rfl (a (by decide) rfl (a (by decide) rfl (a (by decide) rfl (ab rfl)))))
theorem To{z:Zn}(h:VZ z){x:Int}(c:zs z<=x)(h1:x<zs z+zc z)(d:¬cv z x):Fw (z,x,())=some (false,()):=by obtain⟨g,i,j⟩:=h.v.nH.pX;obtain⟨b,e,a⟩:=Dk z x 0 (by decide) h.v.nH.pX (by omega);have a:b=true:=a.2 ⟨c,by rw[rC];omega,by rw[rC,Int.tmod_one]⟩;subst a;have f:=Tb h (x:=x) (by omega) (by omega) d;refine cC ?_;unfold Fw;exact aa (A5 z h.v) (aw rfl (aa e (aw rfl (aa f (ab rfl)))))
structure CG (hg : Int) (l : List Zn) (ls : List (List Int)) : Prop where
  len : ls.length = l.length
  ok : ∀ (i : Nat) (z : Zn) (m : List Int), l[i]? = some z → ls[i]? = some m → (m.length : Int) ≤ hg ∧ ∀ f, f ∈ m → zs z ≤ f ∧ f < zs z + zc z ∧ ¬ cv z f
  nd : ls.flatten.Nodup
structure VA (a : eI) (ls : List (List Int)) : Prop where
  g : ∃ zl, AG (lH a) (oa a) (mz a) zl ∧ (cw a).length = zl.length
  vz : ∀ z, z ∈ cw a → VZ z
  st : ∃ s : Nat → Int, s 0 = 0 ∧ ∀ (i : Nat) (z : Zn), (cw a)[i]? = some z → zs z = s i ∧ s (i + 1) = s i + zc z
  ca : cP a = (ls, ()) :: List.replicate ((lH a).length - 1) (List.replicate (cw a).length [], ())
  cg : CG (mz a) (cw a) ls
def pc(ls:List (List Int))(j:Nat):List Int:=if j=0 then []else ls.flatten
theorem EO{n:Nat}:(List.replicate n ([]:List Int)).flatten=[]:=by induction n with
 |zero=>rfl
 |succ n a=>rw[g5,kU,a];rfl
theorem Nq{hg:Int}{l:List Zn}(h:0<=hg):CG hg l (List.replicate l.length []):=by refine⟨aR,λi z m _ b=>?_,by rw[EO];exact tH⟩;rw[(hZ.1 (Y b)).2];exact⟨h,λf a=>by cases a⟩
theorem uM{a:eI}{ls:List (List Int)}(h:VA a ls){j:Nat}{c:tM}(b:(cP a)[j]?=some c):CG (mz a) (cw a) c.1/\pc ls (j+1)=pc ls j++c.1.flatten/\(pc ls j++c.1.flatten).Nodup:=by
 obtain⟨d,g,_⟩:=h.g;rw[h.ca]at b
 cases j with
  |zero=>cases b;exact⟨h.cg,rfl,h.cg.nd⟩
  |succ j=>
  have b:(List.replicate ((lH a).length-1) (List.replicate (cw a).length [],()))[j]?=some c:=b;rw[(hZ.1 (Y b)).2];have e:pc ls (j+1)++(List.replicate (cw a).length []).flatten=ls.flatten:=by rw[EO,bi];rfl
  exact⟨Nq (by have:=g.bh;omega),e.symm,by rw[e];exact h.cg.nd⟩
theorem Kc{a:eI}{ls:List (List Int)}(h:VA a ls):(cP a).length=(lH a).length:=by obtain⟨b,g,_⟩:=h.g;rw[h.ca,bx,aR];have:=g.nn;omega
theorem uK{ls:List (List Int)}{i:Nat}{m:List Int}(h:ls[i]?=some m):(ls.take i).flatten++m=(ls.take (i+1)).flatten:=by rw[jq,h,pa];simp
theorem pi {P : List Int} {ls : List (List Int)} {i k : Nat} {m : List Int} {x : Int} (hn : (P ++ ls.flatten).Nodup) (h : ls[i]? = some m) (hx : m[k]? = some x) : (P ++ (ls.take i).flatten ++ m.take k).Nodup ∧ ¬ x ∈ P ++ (ls.take i).flatten ++ m.take k := by
  have e : P ++ ls.flatten = P ++ (ls.take i).flatten ++ m.take k ++ (x :: (m.drop (k + 1) ++ (ls.drop (i + 1)).flatten)) := by
    have e1 : ls.flatten = (ls.take (i + 1)).flatten ++ (ls.drop (i + 1)).flatten := by rw [← pa, dQ]
    have e2 : m = m.take (k + 1) ++ m.drop (k + 1) := (dQ _ _).symm
    rw [e1, ← uK h]
    conv => lhs; rw [e2, ← dC hx]
    simp
  rw [e] at hn
  have := jr.1 hn
  exact ⟨this.1, fun hm => this.2.2 x hm x bZ rfl⟩
theorem Dp{a:eI}{ls:List (List Int)}(h:VA a ls){i:Nat}{z:Zn}(k:(cw a)[i]?=some z){x:Int}(r:zs z<=x)(h1:x<zs z+zc z):Fx (a,x,())=some ((i:Int),()):=by
 obtain⟨w0,g,y0⟩:=h.g;obtain⟨s,_,c⟩:=h.st;have D:=(aj.1 k).1;have B:=g.nz;have q:∀y:Zn,y∈cw a->ai .i64 (zs y) (zc y)=zs y+zc y:=λy b=>by have:=(h.vz y b).v.nH.pX;obtain⟨l,m,n⟩:=this;exact cD (by omega) (by omega)
 have w:∀d j:Nat,∀y:Zn,j+d+1=i->(cw a)[j]?=some y->zs y+zc y<=zs z:=by intro d;induction d with
  |zero=>intro j y p b;have:=(c j y b).2;rw[show j+1=i by omega,<-(c i z k).1,<-(c j y b).1]at this;omega
  |succ d A=>intro j y p b;have f:(cw a)[j+1]?=some ((cw a)[j+1]'(by omega)):=G (by omega);have C:=A (j+1) _ (by omega) f;have t:=(c j y b).2;rw[<-(c _ _ f).1,<-(c j y b).1]at t;obtain⟨l,m,n⟩:=(h.vz _ (Y f)).v.nH.pX;omega
 refine cC ?_;unfold Fx;refine aK (P:=λ_=>False) (bz (I:=λj s=>s=((j:Int),())/\j<=i) (m:=i+1) ⟨rfl,aP _⟩ (by omega) ?_ λs v=>absurd v.2 (by omega)) λ_ h=>h.elim;rintro j s p⟨rfl,z0⟩;have b:(cw a)[j]?=some ((cw a)[j]'(by omega)):=G (by omega);generalize(cw a)[j]'(by omega)=y at b;have o:=q y (Y b);refine be (cB (l:=cw a) (by omega)) (aa (aC b) ?_);by_cases e:j=i;.subst e;rw[k]at b;cases b;exact be (lz r) (be (eK (by show x<ai .i64 (zs z) (zc z);rw[o];exact h1)) ⟨_,rfl,rfl⟩)
 .have x0:=w (i-j-1) j y (by omega) b;have u:=(h.vz y (Y b)).v.nH.pX;obtain⟨l,m,n⟩:=u;exact be (lz (by show zs y<=x;omega)) (aw (cH (by show ai .i64 (zs y) (zc y)<=x;rw[o];omega)) (a4 ⟨by show(ai .i64 (j:Int) 1,())=_;rw[bI (by omega)],by omega⟩))
end Go.Bo
set_option maxHeartbeats 4000000
namespace Go.Bo
open Go Go.Ls
theorem lu{a:eI}{ls:List (List Int)}(h:VA a ls){c:List (List Int)}(d:CG (mz a) (cw a) c){i:Nat}{m:List Int}(j:c[i]?=some m):∃z,(cw a)[i]?=some z/\m.length<=16/\(m.length:Int)<=mz a/\∀f,f∈m->(zs z<=f/\f<zs z+zc z/\¬cv z f)/\0<=f/\f<256:=by obtain⟨r,g,_⟩:=h.g;have q:=g.bh;have b:(cw a)[i]?=some ((cw a)[i]'(by rw[<-d.len];exact(aj.1 j).1)):=G _;obtain⟨l,k⟩:=d.ok i _ m b j;refine⟨_,b,by omega,l,λf e=>⟨k f e,?_⟩⟩;have:=k f e;obtain⟨n,o,p⟩:=(h.vz _ (Y b)).v.nH.pX;omega
theorem nx{i:Nat}(h:i<=100000){α:Type}{x:Int×Unit}:(some (Sum.inl (ai .i64 (i:Int) 1,())):Option (Sum (Int×Unit) α))=some (.inl (((i+1:Nat):Int),())):=by rw[bI (by omega)]
theorem U8{P m:List Int}(h:P.length+m.length<=100000):ai .i64 (P.length:Int) (ak m)=((P++m).length:Int):=by rw[aJ,cD (by omega) (by omega),az];omega
theorem EP{c:List (List Int)}(h:∀m,m∈c->m.length<=16):c.flatten.length<=16*c.length:=by induction c with
 |nil=>exact ar _
 |cons m c b=>rw[kU,az,bx];have:=h m bZ;have:=b λx a=>h x (cX _ a);omega
section
variable{a:eI}{ls:List (List Int)}(h:VA a ls){c:List (List Int)}(hc:CG (mz a) (cw a) c)
include h hc
theorem qY:c.length<=6/\1<=c.length/\c.flatten.length<=96:=by obtain⟨k,g,j⟩:=h.g;have:=g.nz;have f:=hc.len;have:=EP (c:=c) (λm e=>by obtain⟨i,d⟩:=bn e;obtain⟨z,_,b,_⟩:=lu h hc d;exact b);omega
theorem Np{i k:Nat}{m:List Int}(j:c[i]?=some m):∀y,y∈(c.take i).flatten++m.take k->0<=y:=by
 intro y b;obtain⟨_,_,_,_,f⟩:=lu h hc j;rcases bD.1 b with b|b;.obtain⟨n,d,e⟩:=jU.1 b;obtain⟨q,l⟩:=bn (eB d);obtain⟨_,_,_,_,g⟩:=lu h hc l;exact(g y e).2.1
 .exact(f y (eB b)).2.1
theorem N5:Ap ((c,()),(c.length:Int),())=some (0,()):=by
 obtain⟨r,q,t⟩:=qY h hc
 have o:∀i m,c[i]?=some m->((c.take i).flatten).length<=96:=λi m _=>by
  have e:c.flatten=(c.take i).flatten++(c.drop i).flatten:=by rw[<-pa,dQ]
  have:=eT List.length e;rw[az]at this;omega
 refine cC ?_;unfold Ap;refine aw (cH (by show(1:Int)<=(c.length:Int);omega)) (aw (cH (by show(c.length:Int)<=6;omega)) (aw (eU _) ?_));refine cz (λi=>((((c.take i).flatten).length:Int),(i:Int),())) c.length rfl (by omega) (λi f=>?_) (aw (cJ (l:=c)) (bj (ab rfl))) ?_
 .
  have b:c[i]?=some c[i]:=G f;generalize c[i]=m at b;obtain⟨z,p,n,_,l⟩:=lu h hc b;have u:=o i m b;refine be (cB (l:=c) f) (aK (P:=λs=>s=((((c.take (i+1)).flatten).length:Int),())) (aa (aC b) (cz (λk=>((k:Int),())) m.length rfl (by omega) (λk g=>?_) (aw (cJ (l:=m)) (bj (ab rfl))) (a4 ?_))) ?_);.have d:m[k]?=some m[k]:=G g;generalize m[k]=x at d;have j:=(l x (Y d)).2;exact be (cB (l:=m) g) (aa (aC d) (aa (vD x) (aw (by rw[av j.1,av j.2];rfl) (ab (by show Sum.inl (ai .i64 (k:Int) 1,())=_;rw[bI (by omega)])))))
  .show(ai .i64 ((((c.take i).flatten).length:Nat):Int) (ak m),())=_;rw[U8 (by omega),uK b]
  .rintro s rfl;exact ab (by show Sum.inl (_,ai .i64 (i:Int) 1,())=_;rw[bI (by omega)])
 refine cz (λi=>(mp (c.take i).flatten,(i:Int),())) c.length rfl (by omega) (λi f=>?_) (aw (cJ (l:=c)) (bj (ab rfl))) ?_
 .
  have b:c[i]?=some c[i]:=G f;generalize c[i]=m at b;obtain⟨z,p,n,_,l⟩:=lu h hc b;refine be (cB (l:=c) f) (aK (P:=λs=>s=(mp (c.take (i+1)).flatten,())) (aa (aC b) (cz (λk=>(mp ((c.take i).flatten++m.take k),(k:Int),())) m.length (by rw[gg,bi];rfl) (by omega) (λk g=>?_) (aw (cJ (l:=m)) (bj (ab rfl))) (a4 ?_))) ?_);.have d:m[k]?=some m[k]:=G g;generalize m[k]=x at d;refine be (cB (l:=m) g) (aa (aC d) (ab ?_));show Sum.inl (nL (mp _) x true,ai .i64 (k:Int) 1,())=_;rw[MF,cA,dC d,bI (by omega)]
  .show(mp ((c.take i).flatten++m.take m.length),())=_;rw[bO,uK b]
  .rintro s rfl;exact ab (by show Sum.inl (_,ai .i64 (i:Int) 1,())=_;rw[bI (by omega)])
 have e:c.take c.length=c:=bO;rw[e];refine aw ?_ (ab rfl);show bH ((mp c.flatten).length:Int) (c.flatten.length:Int)=false;rw[MG hc.nd,cZ];exact eU _
theorem NR:Fh ((c,()),(c.length:Int),())=some (0,()):=by
 obtain⟨t,r,u⟩:=qY h hc;refine cC ?_;unfold Fh;refine aw (cH (by show(1:Int)<=(c.length:Int);omega)) (aw (cH (by show(c.length:Int)<=6;omega)) (aw (eU _) ?_));refine cz (λi=>((i:Int),())) c.length rfl (by omega) (λi g=>?_) (aw (cJ (l:=c)) (bj (ab rfl))) (aq (by decide) ?_)
 .
  have b:c[i]?=some c[i]:=G g;generalize c[i]=m at b;obtain⟨z,q,p,_,l⟩:=lu h hc b;refine be (cB (l:=c) g) (aK (P:=λ_=>True) (aa (aC b) (cz (λk=>((k:Int),())) m.length rfl (by omega) (λk j=>?_) (aw (cJ (l:=m)) (bj (ab rfl))) (a4 trivial))) λ_ _=>ab (by show Sum.inl (ai .i64 (i:Int) 1,())=_;rw[bI (by omega)]));have d:m[k]?=some m[k]:=G j;generalize m[k]=x at d;have f:=(l x (Y d)).2;have e:Db (x,())=some (false,()):=by refine cC ?_;unfold Db;exact aw (cH f.1) (ab (by show(cL 256 x,())=_;rw[lA f.2]))
  exact be (cB (l:=m) j) (aa (aC d) (aa e (aw rfl (ab (by show Sum.inl (ai .i64 (k:Int) 1,())=_;rw[bI (by omega)])))))
 refine cz (λi=>(ba (c.take i).flatten,(i:Int),())) c.length rfl (by omega) (λi g=>?_) (aw (cJ (l:=c)) (bj (ab rfl))) (ab rfl);have b:c[i]?=some c[i]:=G g;generalize c[i]=m at b;obtain⟨z,q,p,_,l⟩:=lu h hc b;refine be (cB (l:=c) g) (aK (P:=λs=>s=(ba (c.take (i+1)).flatten,())) (aa (aC b) (cz (λk=>(ba ((c.take i).flatten++m.take k),(k:Int),())) m.length (by rw[gg,bi];rfl) (by omega) (λk j=>?_) (aw (cJ (l:=m)) (bj (ab rfl))) (a4 ?_))) ?_);.have d:m[k]?=some m[k]:=G j;generalize m[k]=x at d;have f:=(l x (Y d)).2;obtain⟨n,o⟩:=Nu (L:=(c.take i).flatten++m.take k) f.1 f.2 (by have:=(pi (P:=[]) (by rw[iw];exact hc.nd) b d).2;rw[iw]at this;exact this) (Np h hc b);refine be (cB (l:=m) j) (aa (aC d) (aq n (aa o (aw rfl (aq n (aa o (ab ?_)))))));show Sum.inl (aI (ba _) x true,ai .i64 (k:Int) 1,())=_;rw[Xj,cA,dC d,bI (by omega)]
 .show(ba ((c.take i).flatten++m.take m.length),())=_;rw[bO,uK b]
 .rintro s rfl;exact ab (by show Sum.inl (_,ai .i64 (i:Int) 1,())=_;rw[bI (by omega)])
end
end Go.Bo
set_option maxHeartbeats 4000000
namespace Go.Bo
open Go Go.Ls
section
variable{a:eI}{ls:List (List Int)}(h:VA a ls)
include h
theorem D5:(cw a).length<=6/\1<=(cw a).length/\(cP a).length<=4:=by obtain⟨c,g,b⟩:=h.g;have:=g.nz;have:=g.nn;have:=Kc h;omega
theorem Qe{j:Nat}{c:tM}(d:(cP a)[j]?=some c):∀(i:Nat)(m:List Int),c.1[i]?=some m->ay (mz a) (ak m)=false:=λi m e=>by obtain⟨_,_,_,b,_⟩:=lu h (uM h d).1 e;exact cH b
theorem Om:u4 (a,())=some (0,()):=by
 obtain⟨l0,g,C⟩:=h.g;obtain⟨m0,n0,p0⟩:=D5 h;obtain⟨s,u0,y0⟩:=h.st;refine cC ?_;unfold u4;refine aa (On g C) (aw rfl ?_);refine cz (λi=>(s i,(i:Int),())) (cw a).length (by show(0,_)=(s 0,_);rw[u0];rfl) (by omega) (λi e=>?_) (aw (cJ (l:=cw a)) (bj (ab rfl))) ?_
 .
  have f:(cw a)[i]?=some (cw a)[i]:=G e;generalize(cw a)[i]=z at f;obtain⟨w,y⟩:=y0 i z f;have o:=h.vz z (Y f);obtain⟨s0,r0,q0⟩:=o.v.nH.pX;refine be (cB (l:=cw a) e) (aa (aC f) (aa (A5 z o.v) (aw rfl (aw ?_ (ab ?_)))));.show bH (zs z) (s i)=false;rw[w];exact eU _
  .show Sum.inl (ai .i64 (s i) (zc z),ai .i64 (i:Int) 1,())=_;rw[cD (by omega) (by omega),<-y,bI (by omega)]
 refine aw (by show bH (ak (cP a)) (ak (lH a))=false;rw[aJ,aJ,Kc h];exact eU _) ?_;refine cz (λi=>((i:Int),())) (cP a).length rfl (by omega) (λi e=>?_) (aw (cJ (l:=cP a)) (bj (ab rfl))) ?_
 .
  have d:(cP a)[i]?=some (cP a)[i]:=G e;generalize(cP a)[i]=c at d;have j:=(uM h d).1;have A:=qY h j;have x0:Ap ((c.1,()),((cw a).length:Int),())=some (0,()):=by rw[<-j.len];exact N5 h j
  refine be (cB (l:=cP a) e) (aK (P:=λ_=>True) (aa (aC d) (aa x0 (aw rfl (cz (λk=>((k:Int),())) c.1.length rfl (by omega) (λk l=>?_) (aw (cJ (l:=c.1)) (bj (ab rfl))) (a4 trivial))))) λ_ _=>ab (by show Sum.inl (ai .i64 (i:Int) 1,())=_;rw[bI (by omega)]));have b:c.1[k]?=some c.1[k]:=G l;generalize c.1[k]=m at b;exact be (cB (l:=c.1) l) (aa (aC b) (aw (Qe h d k m b) (ab (by show Sum.inl (ai .i64 (k:Int) 1,())=_;rw[bI (by omega)]))))
 refine cz (λi=>(mp (pc ls i),(i:Int),())) (cP a).length rfl (by omega) (λi e=>?_) (aw (cJ (l:=cP a)) (bj (ab rfl))) (ab rfl);have d:(cP a)[i]?=some (cP a)[i]:=G e;generalize(cP a)[i]=c at d;obtain⟨j,z0,D⟩:=uM h d;have A:=qY h j;have v:pc ls i=pc ls i++(c.1.take 0).flatten:=(bi _).symm;refine be (cB (l:=cP a) e) (aK (P:=λt=>t=(mp (pc ls (i+1)),())) (aa (aC d) (cz (λk=>(mp (pc ls i++(c.1.take k).flatten),(k:Int),())) c.1.length (by show(mp (pc ls i),_)=_;rw[<-v];rfl) (by omega) (λk l=>?_) (aw (cJ (l:=c.1)) (bj (ab rfl))) (a4 ?_))) ?_)
 .
  have b:c.1[k]?=some c.1[k]:=G l;generalize c.1[k]=m at b;obtain⟨z,f,o0,_,B⟩:=lu h j b;refine be (cB (l:=c.1) l) (aK (P:=λt=>t=(mp (pc ls i++(c.1.take (k+1)).flatten),())) (aa (aC b) (cz (λq=>(mp (pc ls i++(c.1.take k).flatten++m.take q),(q:Int),())) m.length (by rw[gg,bi];rfl) (by omega) (λq p=>?_) (aw (cJ (l:=m)) (bj (ab rfl))) (a4 ?_))) ?_);.have n:m[q]?=some m[q]:=G p;generalize m[q]=x at n;obtain⟨⟨r,u,t0⟩,_⟩:=B x (Y n);have o:=h.vz z (Y f);obtain⟨w0,v0⟩:=pi D b n;refine be (cB (l:=m) p) (aa (aC n) (aa (Dp h f r u) (aw (eU _) (aw (MH w0 v0) (aa (aC f) (aa (To o r u t0) (aw rfl (ab ?_))))))));show Sum.inl (nL (mp _) x true,ai .i64 (q:Int) 1,())=_;rw[MF,cA,dC n,bI (by omega)]
  .show(mp (pc ls i++(c.1.take k).flatten++m.take m.length),())=_;rw[bO,cA,uK b]
  .rintro t rfl;exact ab (by show Sum.inl (_,ai .i64 (k:Int) 1,())=_;rw[bI (by omega)])
 .show(mp (pc ls i++(c.1.take c.1.length).flatten),())=_;rw[bO,z0]
 .rintro t rfl;exact ab (by show Sum.inl (_,ai .i64 (i:Int) 1,())=_;rw[bI (by omega)])
theorem Wj:NQ (a,())=some (0,()):=by
 obtain⟨g0,h0,l0⟩:=D5 h;refine cC ?_;unfold NQ;refine aq (by decide) (cz (λi=>(ba (pc ls i),(i:Int),())) (cP a).length rfl (by omega) (λi n=>?_) (aw (cJ (l:=cP a)) (bj (ab rfl))) (ab rfl));have j:(cP a)[i]?=some (cP a)[i]:=G n;generalize(cP a)[i]=c at j;obtain⟨l,t0,u0⟩:=uM h j;have z0:=l.len;have A:pc ls i=pc ls i++(c.1.take 0).flatten:=(bi _).symm;refine be (cB (l:=cP a) n) (aK (P:=λt=>t=(ba (pc ls (i+1)),())) (cz (λk=>(ba (pc ls i++(c.1.take k).flatten),(k:Int),())) (cw a).length (by show(ba (pc ls i),_)=_;rw[<-A];rfl) (by omega) (λk v0=>?_) (aw (cJ (l:=cw a)) (bj (ab rfl))) (a4 ?_)) ?_)
 .
  have e:c.1[k]?=some (c.1[k]'(by omega)):=G (by omega);generalize c.1[k]'(by omega)=m at e;obtain⟨z,p,k0,_,y0⟩:=lu h l e;have o:=h.vz z (Y p);have g:=aC p;refine be (cB (l:=cw a) v0) (aK (P:=λt=>t=(ba (pc ls i++(c.1.take (k+1)).flatten),())) (aa (aC j) (aa (aC e) (cz (λq=>(ba (pc ls i++(c.1.take k).flatten++m.take q),(q:Int),())) m.length (by rw[gg,bi];rfl) (by omega) (λq f=>?_) (aw (cJ (l:=m)) (bj (ab rfl))) (a4 ?_)))) ?_)
  .
   have b:m[q]?=some m[q]:=G f;generalize m[q]=x at b;obtain⟨⟨s,u,r0⟩,q0,p0⟩:=y0 x (Y b);obtain⟨i0,s0⟩:=pi u0 e b;obtain⟨o0,n0,m0⟩:=o.v.nH.pX;have B:ai .i64 (zs z) (zc z)=zs z+zc z:=cD (by omega) (by omega)
   obtain⟨v,w⟩:=Nu q0 p0 s0 λy d=>by
    rw[cA]at d;rcases bD.1 d with d|d
    .
     unfold pc at d;split at d;.cases d
     .obtain⟨j0,C,D⟩:=jU.1 d;obtain⟨q,f⟩:=bn C;obtain⟨_,_,_,_,x0⟩:=lu h h.cg f;exact(x0 y D).2.1
    .exact Np h l e y d
   have r:=tU o;refine be (cB (l:=m) f) (aa (aC b) (aa g (aw (cH s) (aa (aC b) (aa g (aa g (aw (lA (by show x<ai .i64 (zs z) (zc z);rw[B];exact u)) (aa (aC b) (aq v (aa w (aw rfl (aa g (aa (aC b) (aa (SU r.1 s u λw0=>r0 ((r.2 x).1 w0)) (aw rfl (aa (aC b) (aq v (aa w (ab ?_)))))))))))))))))));show Sum.inl (aI (ba _) x true,ai .i64 (q:Int) 1,())=_;rw[Xj,cA,dC b,bI (by omega)]
  .show(ba (pc ls i++(c.1.take k).flatten++m.take m.length),())=_;rw[bO,cA,uK e]
  .rintro t rfl;exact ab (by show Sum.inl (_,ai .i64 (k:Int) 1,())=_;rw[bI (by omega)])
 .show(ba (pc ls i++(c.1.take (cw a).length).flatten),())=_;rw[<-z0,bO,t0]
 .rintro t rfl;exact ab (by show Sum.inl (_,ai .i64 (i:Int) 1,())=_;rw[bI (by omega)])
theorem Wr:N3 (a,())=some (0,()):=by
 obtain⟨y0,g,t⟩:=h.g;obtain⟨z0,D,B⟩:=D5 h;obtain⟨s,w,u⟩:=h.st
 have q:NW (a,())=some (0,()):=by
  refine cC ?_;unfold NW;refine aw (by show bH (ak (cP a)) (ak (lH a))=false;rw[aJ,aJ,Kc h];exact eU _) ?_;refine cz (λi=>((i:Int),())) (cP a).length rfl (by omega) (λi e=>?_) (aw (cJ (l:=cP a)) (bj (ab rfl))) (aa (Wj h) (ab rfl));have d:(cP a)[i]?=some (cP a)[i]:=G e;generalize(cP a)[i]=c at d;have f:=(uM h d).1;have C:=f.len;have v:Fh ((c.1,()),((cw a).length:Int),())=some (0,()):=by rw[<-f.len];exact NR h f
  refine be (cB (l:=cP a) e) (aK (P:=λ_=>True) (aa (aC d) (aa v (aw rfl (cz (λk=>((k:Int),())) (cw a).length rfl (by omega) (λk r=>?_) (aw (cJ (l:=cw a)) (bj (ab rfl))) (a4 trivial))))) λ_ _=>ab (by show Sum.inl (ai .i64 (i:Int) 1,())=_;rw[bI (by omega)]));have j:c.1[k]?=some (c.1[k]'(by omega)):=G (by omega);generalize c.1[k]'(by omega)=m at j;exact be (cB (l:=cw a) r) (aa (aC d) (aa (aC j) (aw (Qe h d k m j) (ab (by show Sum.inl (ai .i64 (k:Int) 1,())=_;rw[bI (by omega)])))))
 have p:FB (lH a,oa a,mz a,((cw a).length:Int),())=some (true,()):=by rw[t];exact Oj g
 refine cC ?_;unfold N3;refine aa p (aw rfl ?_);refine cz (λi=>(s i,(i:Int),())) (cw a).length (by show(0,_)=(s 0,_);rw[w];rfl) (by omega) (λi e=>?_) (aw (cJ (l:=cw a)) (bj (ab rfl))) (aa q (ab rfl));have b:(cw a)[i]?=some (cw a)[i]:=G e;generalize(cw a)[i]=z at b;obtain⟨n,o⟩:=u i z b;have l:=h.vz z (Y b);obtain⟨x,y,A⟩:=l.v.nH.pX;refine be (cB (l:=cw a) e) (aa (aC b) (aa (yd (tU l).1) (aw rfl (aa (aC b) (aw ?_ (aa (aC b) (ab ?_)))))));.show bH (zs z) (s i)=false;rw[n];exact eU _
 .show Sum.inl (ai .i64 (s i) (zc z),ai .i64 (i:Int) 1,())=_;rw[cD (by omega) (by omega),<-o,bI (by omega)]
end
end Go.Bo
set_option maxHeartbeats 4000000
namespace Go.Bo
open Go Go.Ls
def SD(z:Zn):Prop:=(∀k,k<=4->dL z k=[])/\(∃r,Dh (z,0,())=some r/\bH r.2.2.1 0=true)/\∃r,Dd (z,0,())=some r/\bH r.2.2.1 0=true
structure Za (z : Zn) (f : Int) (y : Zn) : Prop where
  v : VZ y
  a : ∃ k t, D2 z f y k t
  p : Dh (z, (0, ())) = some (y, (f, (0, ())))
  r : Dd (z, (0, ())) = some (y, (f, (0, ())))
theorem RM{z y:Zn}{f:Int}{k:Nat}{t:List Int}(h:VZ z)(a:D2 z f y k t):VZ y∧cv z f∧∀g,cv y g↔cv z g∧g≠f:=by obtain⟨d,b,c⟩:=Sg h.v.dj a;exact⟨⟨Y4 h.v a,by rw[a.z'];exact h.r,by rw[a.z'];rfl⟩,b,c⟩
theorem Se{z y:Zn}{f:Int}{k:Nat}{t:List Int}(a:D2 z f y k t):(y.1=z.1/\y.2.1=z.2.1)/\(zs y=zs z/\zc y=zc z)/\y.2.2.2.2.1=z.2.2.2.2.1:=by rw[a.z'];exact⟨⟨rfl,rfl⟩,⟨rfl,rfl⟩,rfl⟩
theorem RL{z:Zn}{g:Int}(h:VZ z)(c:cv z g):zs z<=g/\g<zs z+zc z:=by obtain⟨k,x,d,e,a,b⟩:=c;obtain⟨f,i,_⟩:=(h.v.nH.fr k d).2 x e;exact⟨wu f a,Int.lt_of_lt_of_le b i⟩
theorem SX{z:Zn}(h:VZ z):SD z\/∃f y,Za z f y:=by
 obtain⟨d,D⟩:=tU h;obtain⟨t0,f0,e0⟩:=wE h.r;obtain⟨⟨y,f,e,u⟩,C,q0,p0⟩: @Ok (Zn×Int×Int×Unit) _ _:=Js z (λk d=>by have:=pP h.v.nH k d;omega);by_cases A:e=0
 .
  subst A;right;obtain⟨_,k,t,a⟩:=q0 rfl;have a:D2 z f y k t:=a;obtain⟨u0,d0,s0⟩:=RM h a;have v:=tQ d;have x9:=a.k4;have y0:∀j,Zs.fV (eD z) j=dL z j:=sg z;have z0:=v.bd k f (by rw[y0,a.hd];exact bZ ..);have y9:=Zs.mY k;refine⟨f,y,u0,⟨k,t,a⟩,C,cC ?_⟩;unfold Dd;refine be rfl ?_;unfold NC;refine aa (yd d) (aw rfl (aK (P:=λ_=>False) (bz (I:=λj s=>s=(((0,0,0,0,0,[]::[]::[]::[]::[]::[],()),()),(j:Int),())/\j<=k) (m:=k+1) ⟨rfl,aP _⟩ (by omega) ?_ λs o0=>absurd o0.2 (by omega)) λ_ h=>h.elim));rintro j s m0⟨rfl,z9⟩;have n:cV (j:Int)=true:=av (by omega);have o:ay (j:Int) 5=true:=eK (by omega);have b:=v.qC j (by omega);rw[y0]at b;refine be (lz (by show(j:Int)<=4;omega)) ?_;by_cases e:j=k
  .
   subst e;rw[a.hd]at b;refine aK (P:=λ_=>False) (aq n (aq o (aa b (be (eK (by rw[aJ,bx];omega)) (aq n (aq o (aa b (aa (x:=f) rfl (aq (by decide) (Bu d λs m=>?_)))))))))) λ_ h=>h.elim;have n0:a5 s f=true:=ru z0.1 (by rw[aJ,m.1];omega);have k0:s[f.toNat]?=some (s[f.toNat]'(by rw[m.1];omega)):=G _;refine aK (P:=λt:List Int×Unit=>t.1=s.set f.toNat 0) (bz (I:=λi t=>t=(if i=0 then s else s.set f.toNat 0,f+(i:Int),())) (m:=1) (by show(s,f,())=(s,f+0,());rw[hD]) (by decide) ?_ ?_) ?_
   .
    rintro i t a0 rfl;obtain rfl:i=0:=by omega
    rw[aE rfl,show f+((0:Nat):Int)=f by omega];refine be (eK (by show f<ai .i64 f 1;rw[cD (by omega) (by omega)];omega)) (aq n0 (aa ((qk z0.1).trans k0) (a4 ?_)));show(s.set f.toNat 0,ai .i64 f 1,())=_;rw[aG (by omega),cD (by omega) (by omega)];rfl
   .rintro t rfl;exact aw (cH (by show ai .i64 f 1<=f+1;rw[cD (by omega) (by omega)];omega)) ⟨_,rfl,rfl⟩
   rintro⟨g0,w9⟩B;have B:g0=s.set f.toNat 0:=B;subst B;refine bb (Jz (z:=z) h.r (by rw[bC];exact m.1)) λr l0=>bu (bu (bu ⟨_,rfl,?_⟩));obtain⟨l,r0,j0,i0⟩:=l0
   have:r.1=y:=by
    rw[r0];obtain⟨w0,v0,h0⟩:=Se a;refine L8 u0 j0 ⟨⟨w0.1.symm,w0.2.symm⟩,⟨v0.1.symm,v0.2.symm⟩,h0.symm⟩ λg=>(i0 g).trans (Iff.trans ?_ (s0 g).symm);constructor
    .
     rintro⟨c0,b0,c⟩;rw[ck]at c;by_cases x:g.toNat=f.toNat;.rw[x,bq (by rw[m.1];omega)]at c;exact absurd c (by decide)
     .
      rw[bE λq=>x q.symm,<-ck]at c;refine⟨?_,λq=>x (by rw[q])⟩;by_cases w:Zs.qB (eD z) g;.exact(D g).1 w
      .have:=(m.2 g.toNat).2 (by rw[eN (by omega)];exact w);rw[this]at c;exact absurd c (by decide)
    .rintro⟨w,c⟩;have p:=RL h w;refine⟨p.1,p.2,?_⟩;rw[ck,bE (by have:=p.1;have:0<=zs z:=t0;omega),<-ck,(m.2 g.toNat).1 (by rw[eN (by have:=p.1;omega)];exact(D g).2 w)];decide
   rw[this]
  .rw[a.lo j (by omega)]at b;exact aK (P:=λt=>t=(((0,0,0,0,0,[]::[]::[]::[]::[]::[],()),()),())) (aq n (aq o (aa b (aw rfl (a4 rfl))))) (by rintro t rfl;exact a4 ⟨by show(_,ai .i64 (j:Int) 1,())=_;rw[bI (by omega)],by omega⟩)
 .
  left;have x0:=p0 (A5 z h.v) A;have v:=tQ d;refine⟨x0,⟨_,C,by show bH e 0=true;rw[gM,aX A];rfl⟩,?_⟩;have:Ok (Dd (z,0,())) λr=>bH r.2.2.1 0=true:=by unfold Dd;refine be rfl ?_;unfold NC;refine aa (yd d) (aw rfl (cz (λj=>(((0,0,0,0,0,[]::[]::[]::[]::[]::[],()),()),(j:Int),())) 5 rfl (by decide) (λj m0=>?_) (aw (lA (by show(4:Int)<((5:Nat):Int);decide)) (bj (ab rfl))) (ab rfl)));have n:cV (j:Int)=true:=av (by omega);have o:ay (j:Int) 5=true:=eK (by omega);have b:=v.qC j (by omega);rw[sg,x0 j (by omega)]at b;exact be (lz (by show(j:Int)<=4;omega)) (aK (P:=λt=>t=(((0,0,0,0,0,[]::[]::[]::[]::[]::[],()),()),())) (aq n (aq o (aa b (aw rfl (a4 rfl))))) (by rintro t rfl;exact ab (by show Sum.inl (_,ai .i64 (j:Int) 1,())=_;rw[bI (by omega)])))
  exact this
end Go.Bo
set_option maxHeartbeats 4000000
namespace Go.Bo
open Go Go.Ls
def BU(z:Zn):Zn×Int:=match Dh (z,0,())with|some r=>(r.1,r.2.1)|none=>(z,0)
def wz(z:Zn):Nat->Zn|0=>z|j+1=>(BU (wz z j)).1
def wl(z:Zn)(m:Nat):List Int:=(List.range m).map λj=>(BU (wz z j)).2
theorem Qb(z:Zn)(m:Nat):wl z (m+1)=wl z m++[(BU (wz z m)).2]:=by unfold wl;rw[List.range_succ,sC];rfl
theorem sI(z:Zn)(m:Nat):(wl z m).length=m:=by unfold wl;rw[cZ,List.length_range]
structure Wk (z : Zn) (b m : Nat) : Prop where
  le : m ≤ b
  s : ∀ j, j < m → Za (wz z j) (BU (wz z j)).2 (wz z (j + 1))
  e : m = b ∨ SD (wz z m)
theorem Qd{z:Zn}(h:VZ z):∀b,∃m,Wk z b m
 |0=>⟨0,ar _,λj g=>by omega,.inl rfl⟩
 |b+1=>by
  obtain⟨m,k,c,d⟩:=Qd h b;rcases d with rfl|a
  .
   have i:VZ (wz z m):=by cases m with
    |zero=>exact h
    |succ m=>exact(c m (by omega)).v
   rcases SX i with a|⟨f,y,a⟩;.exact⟨m,by omega,c,.inr a⟩
   .
    refine⟨m+1,ar _,λj g=>?_,.inl rfl⟩;by_cases e:j=m
    .
     subst e;have:BU (wz z j)=(y,f):=by unfold BU;rw[a.p]
     show Za _ (BU (wz z j)).2 (BU (wz z j)).1;rw[this];exact a
    .exact c j (by omega)
  .exact⟨m,by omega,c,.inr a⟩
theorem Qc{z:Zn}{b m:Nat}(h:VZ z)(w:Wk z b m):∀j,j≤m→VZ (wz z j)∧(zs (wz z j)=zs z∧zc (wz z j)=zc z)∧(wl z j).Nodup∧(∀g,g∈wl z j→cv z g)∧∀g,cv (wz z j) g↔cv z g∧¬g∈wl z j
 |0,_=>⟨h,⟨rfl,rfl⟩,tH,fun g a=>(by cases a),fun g=>⟨fun a=>⟨a,fun c=>by cases c⟩,fun a=>a.1⟩⟩
 |j+1,z0=>by
  obtain⟨A,B,C,D,l⟩:=Qc h w j (by omega);have s:=w.s j (by omega);obtain⟨k,t,d⟩:=s.a;obtain⟨n,p,r⟩:=RM A d;have q:=(Se d).2.1;rw[Qb];generalize(BU (wz z j)).2=f at*;have i:=(l f).1 p;refine⟨n,by rw[q.1,q.2];exact B,?_,fun g a=>?_,fun g=>?_⟩;·refine jr.2 ⟨C,by simp,fun x u y v e=>?_⟩;rcases cj.1 v with rfl;subst e;exact i.2 u
  ·
   rcases bD.1 a with a|a;·exact D g a
   ·rcases cj.1 a with rfl;exact i.1
  ·rw[r g,l g,bD,cj];exact⟨fun c=>⟨c.1.1,fun o=>o.elim c.1.2 c.2⟩,fun c=>⟨⟨c.1,fun o=>c.2 (.inl o)⟩,fun o=>c.2 (.inr o)⟩⟩
theorem Lp{β:Type}{l:List (List Int)}(h1:l.length<=100)(h2:∀m,m∈l->m.length<=100):RY (β:=β) l=some (.inl ((l,()),())):=by unfold RY;refine(pG (λi=>((l.take i,()),(i:Int),())) l.length rfl (by omega) (λi b=>?_) (aw (cJ (l:=l)) (bj (ab rfl)))).trans (by rw[bO]);have a:l[i]?=some l[i]:=G b;generalize l[i]=x at a;refine be (cB (l:=l) b) (aa (aC a) (aq (ce (by have:=h2 x (Y a);show 0+x.length<=_;omega) (by decide)) (aq (ce (by rw[aY];show min i l.length+1<=_;omega) (by decide)) (ab ?_))));show Sum.inl ((l.take i++[x],()),ai .i64 (i:Int) 1,())=_;rw[dC a,bI (by omega)]
section
variable{a:eI}{ls:List (List Int)}(h:VA a ls)
include h
theorem T4{i:Nat}{z:Zn}(c:(cw a)[i]?=some z){x:Int}(l:x∈ls.flatten):¬cv z x:=by
 intro d;obtain⟨m,f,g⟩:=jU.1 l;obtain⟨q,k⟩:=bn f;obtain⟨y,b,_,_,j⟩:=lu h h.cg k;obtain⟨⟨n,p,r⟩,_⟩:=j x g;obtain⟨s,t⟩:=RL (h.vz z (Y c)) d;have e:=(Dp h b n p).symm.trans (Dp h c s t);have e:(q:Int)=(i:Int):=eT (λo:Int×Unit=>o.1) (eu e);have e:q=i:=by omega
 subst e;rw[c]at b;cases b;exact r d
theorem AU{i:Nat}(hi:i<ls.length):Ao ((ls,()),(i:Int),())=some (0,())/\Jq ((ls,()),(i:Int),())=some (0,()):=by
 have c:=N5 h h.cg;have d:=NR h h.cg;have b:cL (ak ls) (i:Int)=false:=lA (by rw[aJ];omega);refine⟨cC ?_,cC ?_⟩;.unfold Ao;exact aa c (aw rfl (aw (cH (by show(0:Int)<=(i:Int);omega)) (aw b (ab rfl))))
 .unfold Jq;exact aa d (aw rfl (aw (cH (by show(0:Int)<=(i:Int);omega)) (aw b (ab rfl))))
theorem Ib:ls.length<=6/\1<=ls.length/\ls.flatten.length<=96/\(∀m,m∈ls->m.length<=16)/\∀f,f∈ls.flatten->0<=f/\f<256:=by
 obtain⟨j,k,l⟩:=qY h h.cg;refine⟨j,k,l,λm i=>?_,λf e=>?_⟩;.obtain⟨q,b⟩:=bn i;exact(lu h h.cg b).choose_spec.2.1
 .obtain⟨m,c,d⟩:=jU.1 e;obtain⟨q,b⟩:=bn c;obtain⟨_,_,_,_,g⟩:=lu h h.cg b;exact(g f d).2
theorem Yc{i:Nat}{l d:List Int}(hi:ls[i]?=some d)(v:(ls.flatten++l).Nodup)(z:l.length<=16)(u:∀f,f∈l->0<=f/\f<256):QH ls (i:Int) l=some ((ls.set i (d++l.reverse),()),0,()):=by
 obtain⟨A,B,C,o,D⟩:=Ib h;have q:=(aj.1 hi).1;have g:=o d (Y hi);refine cC ?_;unfold QH;refine aa (AU h q).1 (aw rfl (cz (λi=>(mp (ls.take i).flatten,(i:Int),())) ls.length rfl (by omega) (λi hi=>?_) (aw (cJ (l:=ls)) (bj (ab rfl))) ?_))
 .
  have g:ls[i]?=some ls[i]:=G hi;generalize ls[i]=m at g;have y:=o m (Y g);refine be (cB (l:=ls) hi) (aK (P:=λs=>s=(mp (ls.take (i+1)).flatten,())) (aa (aC g) (cz (λk=>(mp ((ls.take i).flatten++m.take k),(k:Int),())) m.length (by rw[gg,bi];rfl) (by omega) (λk b=>?_) (aw (cJ (l:=m)) (bj (ab rfl))) (a4 ?_))) ?_);.have c:m[k]?=some m[k]:=G b;generalize m[k]=x at c;refine be (cB (l:=m) b) (aa (aC c) (ab ?_));show Sum.inl (nL (mp _) x true,ai .i64 (k:Int) 1,())=_;rw[MF,cA,dC c,bI (by omega)]
  .show(mp ((ls.take i).flatten++m.take m.length),())=_;rw[bO,uK g]
  .rintro s rfl;exact ab (by show Sum.inl (_,ai .i64 (i:Int) 1,())=_;rw[bI (by omega)])
 have e:ls.take ls.length=ls:=bO;rw[e];refine cz (λk=>((([],()),()),mp (ls.flatten++l.take k),(k:Int),())) l.length (by rw[gg,bi];rfl) (by omega) (λk b=>?_) (aw (cJ (l:=l)) (bj (ab rfl))) ?_;.have c:l[k]?=some l[k]:=G b;generalize l[k]=x at c;have p:=u x (Y c);obtain⟨j,n⟩:=pi (P:=ls.flatten) (ls:=[l]) (i:=0) (by simpa using v) rfl c;have j:(ls.flatten++[]++l.take k).Nodup:=j;have n:¬x∈ls.flatten++[]++l.take k:=n;rw[bi]at j n;refine be (cB (l:=l) b) (aq (eF b) (aa (aC c) (aa (vD x) (aw (by rw[av p.1,av p.2];rfl) (aw (MH j n) (ab ?_))))));show Sum.inl (_,nL (mp _) x true,ai .i64 (k:Int) 1,())=_;rw[MF,cA,dC c,bI (by omega)]
 refine aa (aC hi) (aq (jj (by rw[aJ];omega) (by rw[aJ];omega) (by decide)) (aa (aC hi) ?_));refine cz (λk=>(d++l.reverse.take k,(k:Int),())) l.length (by show(d7 (er (ak d) 0) d,(0:Int),())=_;rw[vH,gg,bi];rfl) (by omega) (λk b=>?_) (aw (cJ (l:=l)) (bj (ab rfl))) ?_
 .
  refine be (cB (l:=l) b) (aq (Mu b (by omega)) (bb (Mw b (by omega)) λw t=>aq (ce ?_ (by decide)) (ab ?_)));.show(d++l.reverse.take k).length+1<=10000;rw[az,aY,ep];omega
  .show Sum.inl (d++l.reverse.take k++[w],ai .i64 (k:Int) 1,())=_;rw[cA,dC t,bI (by omega)]
 have r:l.reverse.take l.length=l.reverse:=dF (by rw[ep];exact ar _);rw[r];exact aa (uY ls i (d++l.reverse) q (by omega) (λm g=>by have:=o m g;omega) (by rw[az,ep];omega)) (ab rfl)
end
end Go.Bo
set_option maxHeartbeats 4000000
namespace Go.Bo
open Go Go.Ls
theorem ST{c:List (List Int)}{x:Int}(h1:c.length<=100)(h2:∀m,m∈c->m.length<=100)(h:¬x∈c.flatten):NM ((c,()),x,())=some (false,()):=by refine cC ?_;unfold NM;refine cz (λi=>((i:Int),())) c.length rfl (by omega) (λi d=>?_) (aw (cJ (l:=c)) (bj (ab rfl))) (ab rfl);have a:c[i]?=some c[i]:=G d;generalize c[i]=m at a;have j:=h2 m (Y a);refine be (cB (l:=c) d) (aK (P:=λ_=>True) (aa (aC a) (cz (λk=>((k:Int),())) m.length rfl (by omega) (λk f=>?_) (aw (cJ (l:=m)) (bj (ab rfl))) (a4 trivial))) λ_ _=>ab (by show Sum.inl (ai .i64 (i:Int) 1,())=_;rw[bI (by omega)]));have b:m[k]?=some m[k]:=G f;generalize m[k]=y at b;have g:y≠x:=λe=>h (by subst e;exact jU.2 ⟨m,Y a,Y b⟩);exact be (cB (l:=m) f) (aa (aC b) (aw (by rw[gA,aX g]) (ab (by show Sum.inl (ai .i64 (k:Int) 1,())=_;rw[bI (by omega)]))))
theorem RN{α:Type}{l:List α}{k:Nat}:eX l 0 (k:Int)=l.take k:=rfl
theorem IG{α:Type}{l:List α}{k:Nat}(h:k<=l.length):dJ 0 (k:Int) (ak l)=true:=by unfold dJ;rw[av (show(0:Int)<=0 by decide),av (show(0:Int)<=(k:Int)by omega),av (show(k:Int)<=ak l by rw[aJ];omega)];rfl
section
variable{a:eI}{ls:List (List Int)}(h:VA a ls)
include h
theorem Wh{i:Nat}{l b:List Int}(hi:ls[i]?=some b)(z0:(ls.flatten++l).Nodup)(w0:l.length<=16)(C:∀f,f∈l->0<=f/\f<256):Dc ((ls,()),(i:Int),l,())=some ((ls.set i (b++l.reverse),()),0,()):=by
 obtain⟨v0,u0,t0,u,s0⟩:=Ib h;have n:=(aj.1 hi).1;have j:=u b (Y hi);refine cC ?_;unfold Dc;refine aa (AU h n).2 (aw rfl ?_);refine cz (λk=>((([],()),()),(k:Int),())) l.length rfl (by omega) (λk g=>?_) (aw (cJ (l:=l)) (bj (ab rfl))) ?_
 .
  have c:l[k]?=some l[k]:=G g;generalize l[k]=x at c;have v:=C x (Y c);obtain⟨_,d⟩:=pi (P:=ls.flatten) (ls:=[l]) (i:=0) (by simpa using z0) rfl c;have d:¬x∈ls.flatten++[]++l.take k:=d;rw[bi]at d;have e:Db (x,())=some (false,()):=by refine cC ?_;unfold Db;exact aw (cH v.1) (ab (by show(cL 256 x,())=_;rw[lA v.2]))
  refine be (cB (l:=l) g) (aK (P:=λt=>t=(((([],()),()),()):((List (List Int)×Unit)×Unit)×Unit)) (aa (aC c) (aa e (aw rfl (aa (ST (c:=ls) (by omega) (λm j=>by have:=u m j;omega) λo=>d (dX _ o)) (aw rfl (aq (IG (l:=l) (by omega)) ?_)))))) ?_);.show Ok (aD (aB (α:=D (.ah (.ah fu .un) iU)) (λz=>ad (ay z.2.1 (ak (eX l 0 (k:Int)))) _ _) _ _) _) _;rw[RN];refine cz (λq=>((([],()),()),(q:Int),())) (l.take k).length rfl (by rw[aY];omega) (λq r=>?_) (aw (cJ (l:=l.take k)) (bj (ab rfl))) (a4 rfl);have s:(l.take k)[q]?=some (l.take k)[q]:=G r;generalize(l.take k)[q]=y at s;have y0:x≠y:=λe=>d (by subst e;exact cR _ (Y s));rw[aY]at r;exact be (cB (l:=l.take k) (by rw[aY];exact r)) (aa (aC s) (aw (by rw[gA,aX y0]) (ab (by show Sum.inl (_,ai .i64 (q:Int) 1,())=_;rw[bI (by omega)]))))
  .rintro t rfl;exact ab (by show Sum.inl (_,ai .i64 (k:Int) 1,())=_;rw[bI (by omega)])
 refine jI (Lp (l:=ls) (by omega) λm j=>by have:=u m j;omega) ?_;have A:bo .i64 (ak l) 1=(l.length:Int)-1-((0:Nat):Int):=by rw[aJ,fk (by omega) (by omega)];omega
 have w:∀k,(ls.set i (b++l.reverse.take k))[i]?=some (b++l.reverse.take k):=λk=>bq n;refine cz (λk=>((ls.set i (b++l.reverse.take k),()),(l.length:Int)-1-(k:Int),())) l.length (by show((ls,()),bo .i64 (ak l) 1,())=_;rw[A,gg,bi,iM hi]) (by omega) (λk g=>?_) (aw (lA (by show(l.length:Int)-1-(l.length:Int)<0;omega)) (bj (ab rfl))) ?_
 .
  have B:(l.length:Int)-1-(k:Int)=((l.length-1-k:Nat):Int):=by omega
  have c:l[l.length-1-k]?=some (l[l.length-1-k]'(by omega)):=G (by omega);generalize l[l.length-1-k]'(by omega)=x at c;have x0:l.reverse[k]?=some x:=by rw[tt g];exact c
  have p:a5 (ls.set i (b++l.reverse.take k)) (i:Int)=true:=eF (by rw[bC];exact n);refine be (lz (by show 0<=(l.length:Int)-1-(k:Int);omega)) (aq p (aq p (aa (x:=x) (by show ax l ((l.length:Int)-1-(k:Int))=_;rw[B];exact c) (aa (aC (w k)) (aq (ce (by show(b++l.reverse.take k).length+1<=_;rw[az,aY];omega) (by decide)) (aq p (aq (by rw[gA];exact av rfl) (ab ?_))))))));show Sum.inl (((ls.set i (b++l.reverse.take k)).set i (b++l.reverse.take k++[x]),()),bo .i64 ((l.length:Int)-1-(k:Int)) 1,())=_;rw[eQ,cA,dC x0,fk (by omega) (by omega),show(l.length:Int)-1-(k:Int)-1=(l.length:Int)-1-((k+1:Nat):Int)by omega]
 .rw[dF (by rw[ep];exact ar _)];exact ab rfl
def aW(a:eI)(i:Nat)(z:Zn)(cl:List tM):eI:=(a.1,a.2.1,a.2.2.1,(cw a).set i z,cl,())
theorem T6{i:Nat}{l:List Int}{f:Int}(hi:ls[i]?=some (l++[f])):wm ((ls,()),(i:Int),())=some ((ls.set i l,()),f,0,())/\Df ((ls,()),(i:Int),())=some ((ls.set i l,()),f,0,()):=by
 obtain⟨p,q,r,g,s⟩:=Ib h;have c:=(aj.1 hi).1;have b:=g _ (Y hi);rw[az,eM]at b;have d:bo .i64 (ak (l++[f])) 1=(l.length:Int):=by rw[aJ,az,eM,fk (by omega) (by omega)];omega
 have j:a6 (ak (l++[f])) 0=false:=by rw[gA,aJ,az,eM];exact aX (by omega)
 have k:ax (l++[f]) (bo .i64 (ak (l++[f])) 1)=some f:=by rw[d];show(l++[f])[l.length]?=_;simp
 have n:eX (l++[f]) 0 (bo .i64 (ak (l++[f])) 1)=l:=by rw[d,RN];simp
 have o:dJ 0 (bo .i64 (ak (l++[f])) 1) (ak (l++[f]))=true:=by rw[d];exact IG (by simp)
 have e:a5 ls (i:Int)=true:=eF c;refine⟨cC ?_,cC ?_⟩;.unfold wm;refine aa (AU h c).1 (aw rfl (aa (aC hi) (aw j (aq o (aa k ?_)))));show Ok (am (An ((ls,()),(i:Int),eX (l++[f]) 0 (bo .i64 (ak (l++[f])) 1),())) _) _;rw[n];exact aa (uY ls i l c (by omega) (λm b=>by have:=g m b;omega) (by omega)) (ab rfl)
 .unfold Df;refine aa (AU h c).2 (aw rfl (aa (aC hi) (aw j (jI (Lp (l:=ls) (by omega) λm b=>by have:=g m b;omega) ?_))));refine aq e (aa (aC hi) (aa k (aq e (aa (aC hi) (aq o (aq e (aa (aC hi) (ab ?_))))))));show((ls.set i (eX (l++[f]) 0 (bo .i64 (ak (l++[f])) 1)),()),_)=_;rw[n]
end
end Go.Bo
set_option maxHeartbeats 4000000
namespace Go.Bo
open Go Go.Ls
def AC(z:Zn):Int:=z.2.2.2.2.1
def mK(z:Zn):Nat->Int|0=>0|k+1=>ai .i64 (mK z k) (fB .i64 (ak (dL z k)) (k:Int))
theorem OG:(List.range 257).all (λn=>(List.range 5).all λk=>decide (fB .i64 (n:Int) (k:Int)=(n:Int)*2^k))=true:=by kernel_rfl
theorem XY{n k:Nat}(b:n<=256)(a:k<=4):fB .i64 (n:Int) (k:Int)=(n:Int)*2^k:=bA (bR.1 (bR.1 OG n (eJ.2 (by omega))) k (eJ.2 (by omega)))
theorem Rx{z:Zn}(h:VZ z):∀k,k<=5->0<=mK z k/\mK z k<=5000*k/\((∀j,j<k->dL z j=[])->mK z k=0)
 |0,_=>⟨bX 0,bX 0,λ_=>rfl⟩
 |k+1,m=>by
  obtain⟨g,i,b⟩:=Rx h k (by omega);have c:=pP h.v.nH k (by omega);obtain⟨n,o⟩:=BJ (k:=k) (by omega);have e:fB .i64 (ak (dL z k)) (k:Int)=((dL z k).length:Int)*2^k:=XY c (by omega);have d:0<=((dL z k).length:Int)*2^k:=Int.mul_nonneg (by omega) (by omega);have f:((dL z k).length:Int)*2^k<=256*16:=Int.mul_le_mul (by omega) (by omega) (by omega) (by omega);have a:mK z (k+1)=mK z k+((dL z k).length:Int)*2^k:=by show ai .i64 (mK z k) _=_;rw[e];exact cD (by omega) (by omega)
  rw[a];refine⟨by omega,by omega,λh=>?_⟩;rw[b λj l=>h j (by omega),h k (by omega)];show(0:Int)+((0:Nat):Int)*2^k=0;rw[Int.natCast_zero,Int.zero_mul];rfl
theorem Wm{z:Zn}(h:VZ z):Fk (z,())=some (mK z 5,()):=by
 have a:=A5 z h.v;have b:De (z,())=some (fB .i64 (ak (dL z 4)) 4,()):=by refine cC ?_;unfold De;exact aa a (aw rfl (ab rfl))
 refine cC ?_;unfold Fk;exact aa a (aw rfl (aa b (ab rfl)))
theorem Yi{z:Zn}(h:VZ z):nz z=z:=by obtain⟨a,b,c,d,e,l,u⟩:=z;have f:l.length=5:=h.l;match l,f with
 |[g,i,j,k,m],_=>rfl
section
variable{a:eI}{ls:List (List Int)}(h:VA a ls){i:Nat}{z:Zn}(hz:(cw a)[i]?=some z){l0:List Int}(hi:ls[i]?=some l0)
include h
theorem Us:(cw a).map nz=cw a:=by
 have:∀l:List Zn,(∀z,z∈l->VZ z)->l.map nz=l:=by intro l b;induction l with
  |nil=>rfl
  |cons y l c=>rw[List.map_cons,Yi (b y bZ),c λz hz=>b z (cX _ hz)]
 exact this _ h.vz
include hz hi
theorem YT:∃C:Int,Ft (a,(i:Int),())=some (C-AC z,())/\N2 (a,(i:Int),())=some (C,())/\(l0=[]->AC z<C->¬SD z):=by
 have d:=h.vz z (Y hz);obtain⟨y9,z9,h0⟩:=D5 h;obtain⟨b0,a0,u0⟩:=Rx d 5 (by decide);have z0:=(Ib h).2.2.2.1 l0 (Y hi);have x0:(List.replicate (cw a).length ([]:List Int))[i]?=some []:=by rw[cm,aE (aj.1 hz).1]
 have p:(cP a)[0]?=some (ls,()):=by rw[h.ca];rfl
 have y0:∀j,j<(cP a).length->j≠0->∃c,(cP a)[j]?=some c/\c.1[i]?=some []:=λj b c0=>by refine⟨(List.replicate (cw a).length [],()),?_,x0⟩;obtain⟨j,rfl⟩:∃q,j=q+1:=⟨j-1,by omega⟩;have w0:=b;rw[h.ca,bx,aR]at w0;rw[h.ca];show(List.replicate _ _)[j]?=_;rw[cm,aE (by omega)]
 have g0:ai .i64 (mK z 5) (ak l0)=mK z 5+(l0.length:Int):=by rw[aJ];exact cD (by omega) (by omega)
 have y:∀{s:Type}(j:Nat)(b:j<(cP a).length){m:List (List Int)×Unit->List Int->Option s}{n:s->Prop},(∀c l,(cP a)[j]?=some c->c.1[i]?=some l->(if j=0 then mK z 5 else mK z 5+(l0.length:Int))+(l.length:Int)=mK z 5+(l0.length:Int)->l.length<=16->Ok (m c l) n)->Ok (am (ax (cP a) (j:Int)) λc=>am (ax c.1 (i:Int)) λl=>m c l) n:=by
  intro s j b m n v;by_cases e:j=0;.subst e;exact aa (aC p) (aa (aC hi) (v _ _ p hi (by rw[aE rfl]) z0))
  .obtain⟨c,f,g⟩:=y0 j b e;exact aa (aC f) (aa (aC g) (v _ _ f g (by rw[aG e];exact hD _) (by decide)))
 have x:∀j,j<(cP a).length->∀l:List Int,(if j=0 then mK z 5 else mK z 5+(l0.length:Int))+(l.length:Int)=mK z 5+(l0.length:Int)->ai .i64 (if j=0 then mK z 5 else mK z 5+(l0.length:Int)) (ak l)=if j+1=0 then mK z 5 else mK z 5+(l0.length:Int):=λj b l e=>by have A:(if j+1=0 then mK z 5 else mK z 5+(l0.length:Int))=mK z 5+(l0.length:Int):=aG (by omega);rw[A,aJ];refine(cD ?_ ?_).trans e<;>split<;>omega
 have i0:0<(cP a).length:=(aj.1 p).1;have B:Fu (a,(i:Int),())=some (mK z 5+(l0.length:Int),()):=by refine cC ?_;unfold Fu;refine aa (aC hz) (aa (Wm d) (cz (λj=>(if j=0 then mK z 5 else mK z 5+(l0.length:Int),(j:Int),())) (cP a).length rfl (by omega) (λj b=>be (cB (l:=cP a) b) (y j b λc l f g o D=>ab ?_)) (aw (cJ (l:=cP a)) (bj (ab rfl))) (ab (by rw[aG (by omega)]))));show Sum.inl (ai .i64 _ (ak l),ai .i64 (j:Int) 1,())=_;rw[x j b l o,bI (by omega)]
 have d0:0<=AC z/\AC z<=256:=by obtain⟨t0,s0,r0,q0,p0,o0,n0,t,u⟩:=Zs.lO d.r;have t:0<=AC z:=t;have u:AC z<=zc z:=u;have:=d.v.nH.pX;obtain⟨m0,k0,j0⟩:=this;omega
 refine⟨mK z 5+(l0.length:Int),cC ?_,cC ?_,λe e0 v0=>?_⟩;.unfold Ft;refine aa (aC hz) (aa B (ab ?_));show(bo .i64 (mK z 5+(l0.length:Int)) (AC z),())=_;rw[fk (by omega) (by omega)]
 .
  unfold N2;refine cz (λk=>(mK z k,(k:Int),())) 5 rfl (by decide) (λk f0=>?_) (aw (lA (by show(4:Int)<((5:Nat):Int);decide)) (bj (ab rfl))) ?_
  .
   have r:k<=4:=by omega
   have w:=(tQ (tU d).1).qC k r;rw[sg]at w;refine be (lz (by show(k:Int)<=4;omega)) (aa (aC hz) (aa w (aq (by show cV (ek .u64 (k:Int))=true;rw[rl r];exact av (by omega)) (ab ?_))));show Sum.inl (ai .i64 (mK z k) (fB .i64 (ak (dL z k)) (ek .u64 (k:Int))),ai .i64 (k:Int) 1,())=_;rw[rl r,bI (by omega)];rfl
  .refine cz (λj=>(if j=0 then mK z 5 else mK z 5+(l0.length:Int),(j:Int),())) (cP a).length rfl (by omega) (λj b=>be (cB (l:=cP a) b) (y j b λc l f g o D=>ab ?_)) (aw (cJ (l:=cP a)) (bj (ab rfl))) (ab (by rw[aG (by omega)]));show Sum.inl (ai .i64 _ (ak l),ai .i64 (j:Int) 1,())=_;rw[x j b l o,bI (by omega)]
 .subst e;have:=u0 λj b=>v0.1 j (by omega);have e:(([]:List Int).length:Int)=0:=rfl;omega
theorem GN(z0:l0=[])(d:¬SD z){β:Type}:∃m,1<=m/\m<=16/\Wk z (oa a).toNat m/\(ls.flatten++wl z m).Nodup/\(∀f,f∈wl z m->zs z<=f/\f<zs z+zc z/\0<=f/\f<256)/\KA a (i:Int) 0=some (aW a i (wz z m) (aI (cP a) 0 (ls.set i (wl z m).reverse,())),true,())/\KB (β:=β) (i:Int) a=some (.inl (aW a i (wz z m) (cP a),wl z m,())):=by
 subst z0;obtain⟨k0,g,o0⟩:=h.g;have p0:=g.bh;have k:=h.vz z (Y hz);obtain⟨m,w⟩:=Qd k (oa a).toNat;have B:=(aj.1 hz).1
 have y0:1<=m:=by
  rcases w.e with e|e;.omega
  .cases m with
   |zero=>exact absurd e d
   |succ m=>omega
 have v:m<=16:=by have:=w.le;omega
 obtain⟨s0,r0,D,s,q0⟩:=Qc k w m (ar _);have u:∀f,f∈wl z m->zs z<=f/\f<zs z+zc z/\0<=f/\f<256:=λf n=>by obtain⟨n0,m0⟩:=RL k (s f n);obtain⟨v0,u0,t0⟩:=k.v.nH.pX;omega
 have A:(ls.flatten++wl z m).Nodup:=jr.2 ⟨h.cg.nd,D,λx x0 y w0 e=>by subst e;exact T4 h hz x0 (s x w0)⟩;have c:∀y,((cw a).set i y)[i]?=some y:=λy=>bq B;have b:∀y,a5 ((cw a).set i y) (i:Int)=true:=λy=>eF (by rw[bC];exact B);have C:(cw a).set i (wz z 0)=cw a:=iM hz;refine⟨m,y0,v,w,A,u,cC ?_,?_⟩
 .
  unfold KA;refine cz (b:=(aW a i (wz z m) (cP a),wl z m,())) (λj=>(aW a i (wz z j) (cP a),wl z j,(j:Int),())) m (by show(_,_)=((a.1,a.2.1,a.2.2.1,(cw a).set i (wz z 0),cP a,()),_);rw[C];rfl) (by omega) (λj o=>?_) ?_ ?_;.have d:=w.s j o;refine be (eK (by show(j:Int)<oa a;have:=w.le;omega)) (aq (b _) (aa (aC (c _)) (aa d.p (aw rfl (aq (b _) (aa (aC (c _)) (aq (QE (by show(wl z j).length<=_;rw[sI];omega)) (ab ?_))))))));show Sum.inl ((a.1,a.2.1,a.2.2.1,((cw a).set i (wz z j)).set i (wz z (j+1)),cP a,()),wl z j++[(BU (wz z j)).2],ai .i64 (j:Int) 1,())=_;rw[eQ,<-Qb,bI (by omega)];rfl
  .
   rcases w.e with e|⟨_,⟨r,q,p⟩,_⟩;.exact aw (cH (by show oa a<=(m:Int);omega)) (bj (ab rfl))
   .exact aN (λ_=>aq (b _) (aa (aC (c _)) (aa q (be p (bj (ab rfl)))))) λ_=>bj (ab rfl)
  .
   have l:(cP a)[0]?=some (ls,()):=by rw[h.ca];rfl
   have t:a5 (cP a) 0=true:=eF (l:=cP a) (i:=0) (aj.1 l).1;refine aq t (aa (aC (i:=0) l) (aa (Yc h hi A (by rw[sI];exact v) λf n=>(u f n).2.2) (be rfl (aq t (aa (aC (i:=0) l) (ab ?_))))));have:ay 0 (ak (wl z m))=true:=eK (by rw[aJ,sI];omega);show(_,ay 0 (ak (wl z m)),())=_;rw[this];rfl
 .
  unfold KB;refine pG (λj=>(aW a i (wz z j) (cP a),wl z j,())) m (by show(_,_)=((a.1,a.2.1,a.2.2.1,(cw a).set i (wz z 0),cP a,()),_);rw[C];rfl) (by omega) (λj o=>?_) ?_;.have d:=w.s j o;refine be (eK (by show ak (wl z j)<oa a;rw[aJ,sI];have:=w.le;omega)) (aq (b _) (aa (aC (c _)) (aa d.r (aw rfl (aq (b _) (aa (aC (c _)) (aq (QE (by show(wl z j).length<=_;rw[sI];omega)) (ab ?_))))))));show Sum.inl ((a.1,a.2.1,a.2.2.1,((cw a).set i (wz z j)).set i (wz z (j+1)),cP a,()),wl z j++[(BU (wz z j)).2],())=_;rw[eQ,<-Qb];rfl
  .
   rcases w.e with e|⟨_,_,⟨r,q,p⟩⟩;.exact aw (cH (by show oa a<=ak (wl z m);rw[aJ,sI];omega)) (bj (ab rfl))
   .exact aN (λ_=>aq (b _) (aa (aC (c _)) (aa q (be p (bj (ab rfl)))))) λ_=>bj (ab rfl)
end
end Go.Bo
set_option maxHeartbeats 4000000
namespace Go.Bo
open Go Go.Ls
def kz(h n:Int):Int:=if n<h then 2*(h-n)else 2*(n-h)+1
theorem NY{h n:Int}(c:0<=h/\h<4)(d:0<=n/\n<4):rb (h,n,())=some (kz h n,()):=by
 have a:n<h->d8 .i64 2 (bo .i64 h n)=kz h n:=λl=>by unfold kz;rw[aE l,fk (by omega) (by omega)];exact kW (n:=2*(h-n)) (by omega) (by omega)
 have b:¬n<h->ai .i64 (d8 .i64 2 (bo .i64 n h)) 1=kz h n:=λl=>by
  unfold kz;have:d8 .i64 2 (bo .i64 n h)=2*(n-h):=by rw[fk (by omega) (by omega)];exact kW (n:=2*(n-h)) (by omega) (by omega)
  rw[aG l,this];exact cD (by omega) (by omega)
 refine cC ?_;unfold rb;exact aN (λl=>ab (eT (.,()) (a (kS l)))) (λl=>ab (eT (.,()) (b λo=>by have:=eZ l;simp only at this;omega)))
theorem WZ{h n:Int}(a:0<=h/\h<4)(b:0<=n/\n<4):0<=kz h n/\kz h n<=8:=by unfold kz;split<;>omega
theorem Wo(a b:Int):qs (a,b,())=some (if a<b then-1 else if b<a then 1 else 0,()):=by
 have h:∀a,wj (a,())=some (false,()):=λa=>by refine cC ?_;unfold wj;exact ab (by show(bH a a,())=_;rw[eU])
 refine cC ?_;unfold qs;refine aa (h a) (aa (h b) (aw rfl (aw rfl ?_)));refine aN (λl=>ab ?_) λl=>aN (λm=>ab ?_) λm=>ab ?_;.rw[aE (kS l)]
 .have l:=eZ l;rw[aG λo=>by simp only at l;omega,aE (kS m)]
 .have l:=eZ l;have m:=eZ m;rw[aG λo=>by simp only at l;omega,aG λo=>by simp only at m;omega]
theorem Qs{α:Type}(a b:α)(Q:List α):∀P:List α,((P++a::b::Q).set (P.length+1) a).set P.length b=P++b::a::Q
 |[]=>rfl
 |x::P=>by show x::((P++a::b::Q).set (P.length+1) a).set P.length b=_;rw[Qs a b Q P];rfl
theorem D8{R:Int→Int→Prop}(g:∀x y,R x y→R y x→False):∀{l m:List Int},l.Pairwise R→m.Pairwise R→(∀x,x∈l↔x∈m)→l=m
 |[],[],_,_,_=>rfl
 |[],b::m,_,_,h=>by cases(h b).2 bZ
 |a::l,[],_,_,h=>by cases(h a).1 bZ
 |a::l,b::m,d,f,h=>by
  have d:=hY.1 d;have f:=hY.1 f
  have j:a=b:=by
   rcases co.1 ((h a).1 bZ)with e|e;·exact e
   ·
    rcases co.1 ((h b).2 bZ)with i|i;·exact i.symm
    ·exact(g _ _ (d.1 _ i) (f.1 _ e)).elim
  subst j;refine eT _ (D8 g d.2 f.2 fun x=>⟨fun c=>?_,fun c=>?_⟩)
  ·
   rcases co.1 ((h x).1 (cX _ c))with e|e;·subst e;exact(g _ _ (d.1 _ c) (d.1 _ c)).elim
   ·exact e
  ·
   rcases co.1 ((h x).2 (cX _ c))with e|e;·subst e;exact(g _ _ (f.1 _ c) (f.1 _ c)).elim
   ·exact e
structure ZO (zl : List Zn) (h : Int) : Prop where
  l : zl.length ≤ 6
  n : ∀ z, z ∈ zl → (0 ≤ (z.1 : Int) ∧ (z.1 : Int) < 4) ∧ ((z.2.1 : Int) = 0 ∨ (z.2.1 : Int) = 1)
  h : 0 ≤ h ∧ h < 4
theorem XC{zl:List Zn}{h:Int}(e:zl.length<=6)(f:∀z,z∈zl->VZ z)(d:0<=h/\h<4):ZO zl h:=by refine⟨e,λz g=>?_,d⟩;obtain⟨a,b,c,_⟩:=Zs.lO (f z g).r;exact⟨⟨a,b⟩,c⟩
def Gt(zl:List Zn)(e:Int):Int:=((zl[e.toNat]?).map λz=>z.1).getD 0
def key(zl:List Zn)(h e:Int):Int:=kz h (Gt zl e)
def Kp(zl:List Zn)(e:Int):Prop:=∃z,0<=e/\zl[e.toNat]?=some z/\(z.2.1:Int)=0
def Rk(zl:List Zn)(h x y:Int):Prop:=key zl h x<key zl h y\/key zl h x=key zl h y/\x<y
theorem QF{zl:List Zn}{h:Int}:∀x y,Rk zl h x y->Rk zl h y x->False:=by rintro x y(a|⟨a,b⟩)(c|⟨c,d⟩)<;>omega
theorem Cg{zl:List Zn}{e:Int}{z:Zn}(a:0<=e)(h:zl[e.toNat]?=some z):ax zl e=some z/\Gt zl e=z.1:=⟨(qk a).trans h,by unfold Gt;rw[h];rfl⟩
theorem YU{zl:List Zn}{h a b:Int}(o:ZO zl h)(y0:Kp zl a)(x0:Kp zl b){α:Type}{T E A B C:Option α}{f g:Zn->RI->Zn->Option α}{Q:α->Prop}(p:key zl h a<key zl h b->Ok T Q)(n:¬key zl h a<key zl h b->Ok E Q){w:RI->Option α}{x:RI->Zn->RI->Option α}:Ok (am (ax zl a) λp0=>am (rb (h,p0.1,())) λi=>am (ax zl a) λs0=>ad (a6 s0.2.1 0) (am (ax zl b) λs=>am (rb (h,s.1,())) λt=>am (ax zl b) λr0=>ad (a6 r0.2.1 0) (am (qs (ai .i64 (d8 .i64 2 i.1) 1,ai .i64 (d8 .i64 2 t.1) 1,())) λq0=>ad (ay q0.1 0) T E) (x i s t)) (w i)) Q:=by
 obtain⟨y,D,u,o0⟩:=y0;obtain⟨z,z0,v,n0⟩:=x0;obtain⟨j,u0⟩:=Cg D u;obtain⟨m,t0⟩:=Cg z0 v;have q:=(o.n y (Y u)).1;have r:=(o.n z (Y v)).1;have d:=WZ o.h q;have e:=WZ o.h r;have c:∀k:Int,0<=k->k<=8->ai .i64 (d8 .i64 2 k) 1=2*k+1:=λk m0 l0=>by have:d8 .i64 2 k=2*k:=kW (n:=2*k) (by omega) (by omega);rw[this];exact cD (by omega) (by omega)
 refine aa j (aa (NY o.h q) (aa j (be (by rw[gA];exact av o0) (aa m (aa (NY o.h r) (aa m (be (by rw[gA];exact av n0) (aa (Wo _ _) ?_))))))));have w0:key zl h a=kz h y.1:=by unfold key;rw[u0]
 have v0:key zl h b=kz h z.1:=by unfold key;rw[t0]
 rw[w0,v0]at p n;refine aN (λl=>p ?_) λl=>n ?_
 .
  have l:(if ai .i64 (d8 .i64 2 (kz h y.1)) 1<ai .i64 (d8 .i64 2 (kz h z.1)) 1 then(-1:Int)else if ai .i64 (d8 .i64 2 (kz h z.1)) 1<ai .i64 (d8 .i64 2 (kz h y.1)) 1 then 1 else 0)<0:=kS l;rw[c _ d.1 d.2,c _ e.1 e.2]at l;split at l;.omega
  .split at l<;>omega
 .
  have l:(0:Int)<=if ai .i64 (d8 .i64 2 (kz h y.1)) 1<ai .i64 (d8 .i64 2 (kz h z.1)) 1 then(-1:Int)else if ai .i64 (d8 .i64 2 (kz h z.1)) 1<ai .i64 (d8 .i64 2 (kz h y.1)) 1 then 1 else 0:=eZ l;rw[c _ d.1 d.2,c _ e.1 e.2]at l;split at l;.omega
  .omega
theorem Wp{zl:List Zn}{h:Int}(o:ZO zl h):Fl (zl,h,())=some (0,()):=by
 have g:=o.l;have e:Fi (zl,())=some (0,()):=by refine cC ?_;unfold Fi;refine aw (cH (by rw[aJ];show(zl.length:Int)<=6;omega)) (cz (λi=>((i:Int),())) zl.length rfl (by omega) (λi c=>?_) (aw (cJ (l:=zl)) (bj (ab rfl))) (ab rfl));have a:zl[i]?=some zl[i]:=G c;generalize zl[i]=z at a;obtain⟨⟨d,f⟩,k⟩:=o.n z (Y a);have b:Ok (some (Sum.inl (ai .i64 (i:Int) 1,())):Option (Sum (Int×Unit) (Sum Unit RI))) λr=>r= .inl (((i+1:Nat):Int),()):=ab (by rw[bI (by omega)]);refine be (cB (l:=zl) c) (aa (aC a) (aw (cH d) (aw (lA f) (aN (λq=>aw ?_ b) λ_=>b))));have q:(z.2.1:Int)≠0:=jh q;rw[gM,av (k.resolve_left q)];rfl
 refine cC ?_;unfold Fl;exact aa e (aw rfl (aw (cH o.h.1) (aw (lA o.h.2) (ab rfl))))
def ur(zl:List Zn):Nat->List Int|0=>[]|k+1=>ur zl k++match zl[k]? with|some z=>if(z.2.1:Int)=0 then [(k:Int)]else []|none=>[]
theorem Cf{zl:List Zn}:∀k,k≤zl.length→(ur zl k).length≤k∧(ur zl k).Pairwise (·<·)∧∀e,e∈ur zl k↔Kp zl e∧e<(k:Int)
 |0,_=>⟨ar _,.nil,fun e=>⟨fun h=>(by cases h),fun h=>by obtain⟨⟨_,l,_⟩,d⟩:=h;omega⟩⟩
 |k+1,m=>by
  obtain⟨d,i,f⟩:=Cf (zl:=zl) k (by omega);have a:zl[k]?=some (zl[k]'(by omega)):=G (by omega);generalize zl[k]'(by omega)=z at a;unfold ur;rw[a];dsimp only;by_cases c:(z.2.1:Int)=0
  ·
   rw[aE c];refine⟨(by rw[az];exact tN d 1:(ur zl k++[(k:Int)]).length≤k+1),gF.2 ⟨i,by simp,fun x a y j=>?_⟩,fun e=>?_⟩;·rcases cj.1 j with rfl;exact((f x).1 a).2
   ·
    rw[bD,f,cj];constructor
    ·
     rintro(⟨b,g⟩|rfl);·exact⟨b,by omega⟩
     ·exact⟨⟨z,by omega,by rw[db];exact a,c⟩,by omega⟩
    ·
     rintro⟨b,g⟩;rcases oK e (k:Int)with q|q;·exact .inl ⟨b,q⟩
     ·exact .inr (by omega)
  ·
   rw[aG c,bi];refine⟨qy d,i,fun e=>?_⟩;rw[f];refine⟨fun q=>⟨q.1,by omega⟩,fun q=>⟨q.1,?_⟩⟩;obtain⟨⟨y,n,b,g⟩,o⟩:=q;rcases oK e (k:Int)with q|q;·exact q
   ·rw[show e.toNat=k by omega,a]at b;cases b;exact absurd g c
end Go.Bo
set_option maxHeartbeats 4000000
namespace Go.Bo
open Go Go.Ls
structure PO (zl : List Zn) (h : Int) (X : List Int) (i : Nat) (S : List Int) : Prop where
  p : S.Pairwise (Rk zl h)
  m : ∀ e, e ∈ S ↔ e ∈ X.take i
  l : S.length = i
theorem Ud{zl:List Zn}{h:Int}{X S:List Int}{i p:Nat}{v:Int}(f:PO zl h X i S)(n:X.Pairwise (·<·))(k:X[i]?=some v)(hp:p≤i)(u:∀a,p≠0→S[p-1]?=some a→¬key zl h v<key zl h a)(r:∀q a,p≤q→S[q]?=some a→key zl h v<key zl h a):PO zl h X (i+1) (S.take p++v::S.drop p):=by
 have y0:=f.l
 have w:∀a,a∈S→a<v:=fun a j=>by
  obtain⟨q,c⟩:=bn ((f.m a).1 j);have m:q<i:=by have:=(aj.1 c).1;rw[aY]at this;omega
  rw[fa,aE m]at c;have s:=(aj.1 k).1;have:=hT.1 n q i (by omega) s m;rw[(aj.1 c).2,(aj.1 k).2]at this;exact this
 have z:(S.take p++S.drop p).Pairwise (Rk zl h):=by rw[dQ];exact f.p
 obtain⟨B,C,D⟩:=gF.1 z
 have t:∀a,a∈S.take p→key zl h a≤key zl h v:=fun a j=>by
  obtain⟨q,c⟩:=bn j;have A:q<p:=by have:=(aj.1 c).1;rw[aY]at this;omega
  rw[fa,aE A]at c;have d:S[p-1]?=some (S[p-1]'(by omega)):=G (by omega);generalize S[p-1]'(by omega)=b at d;have z0:=u b (by omega) d;by_cases e:q=p-1;·subst e;rw[c]at d;cases d;omega
  ·have:=hT.1 f.p q (p-1) (by omega) (by omega) (by omega);rw[(aj.1 c).2,(aj.1 d).2]at this;rcases this with a|⟨a,_⟩<;>omega
 refine⟨gF.2 ⟨B,hY.2 ⟨fun y g=>?_,C⟩,fun x l y g=>?_⟩,fun e=>?_,by rw[az,bx,aY,cE];omega⟩;·obtain⟨q,c⟩:=bn g;rw[gz]at c;exact .inl (r (p+q) y (by omega) c)
 ·
  rcases co.1 g with rfl|g
  ·
   have:=t x l;have:=w x (eB l);rcases oK (key zl h x) (key zl h y)with o|o;·exact .inl o
   ·exact .inr ⟨by omega,by omega⟩
  ·exact D x l y g
 ·
  have:e∈S↔e∈S.take p∨e∈S.drop p:=by rw[←bD,dQ]
  rw[←dC k,bD,co,bD,cj,←f.m e,this];constructor
  ·
   rintro(q|q|q);·exact .inl (.inl q)
   ·exact .inr q
   ·exact .inl (.inr q)
  ·
   rintro((q|q)|q);·exact .inl q
   ·exact .inr (.inr q)
   ·exact .inr (.inl q)
theorem Ws{zl:List Zn}{h:Int}(o:ZO zl h):Ok (Dm (zl,h,true,())) fun r=>r.1.Pairwise (Rk zl h)∧∀e,e∈r.1↔e∈ur zl zl.length:=by
 have y0:=o.l;obtain⟨h9,b0,a0⟩:=Cf (zl:=zl) zl.length (ar _);unfold Dm;refine aa (Wp o) (aw rfl (aK (P:=fun s=>s=(ur zl zl.length,())) (bz (I:=fun i s=>s=(ur zl i,(i:Int),())) (m:=zl.length) rfl (by omega) ?_ ?_) ?_))
 ·
  rintro i s w rfl;have q0:zl[i]?=some zl[i]:=G w;generalize zl[i]=z at q0;have e0:=(Cf (zl:=zl) i (by omega)).1;have e:ur zl (i+1)=ur zl i++if(z.2.1:Int)=0 then [(i:Int)]else []:=by show ur zl i++_=_;rw[q0]
  refine be (cB (l:=zl) w) (aa (aC q0) (aw rfl (aN (fun D=>?_) fun D=>a4 ?_)));·rw[aE (lq D)]at e;refine aq (ce (by show(ur zl i).length+1≤_;omega) (by decide)) (a4 ?_);show(ur zl i++[(i:Int)],ai .i64 (i:Int) 1,())=_;rw[e,bI (by omega)]
  ·have D:(z.2.1:Int)≠0:=mZ D;rw[aG D,bi]at e;show(ur zl i,ai .i64 (i:Int) 1,())=_;rw[e,bI (by omega)]
 ·rintro s rfl;exact aw (cJ (l:=zl)) ⟨_,rfl,rfl⟩
 rintro s rfl;generalize ur zl zl.length=c at h9 b0 a0;have f0:∀e,e∈c→Kp zl e:=fun e s9=>((a0 e).1 s9).1;have c9:c.length≤6:=by omega
 refine aK (P:=fun s=>s=(c,(0:Int),())) (bz (I:=fun i s=>s=(c,(0:Int),(20:Int),())) (m:=0) rfl (by decide) (fun i s w=>by omega) ?_) ?_;·rintro s rfl;exact aw (lA (by rw[aJ];show(c.length:Int)<20;omega)) ⟨_,rfl,rfl⟩
 rintro s rfl;refine aK (P:=fun s:List Int×Unit=>s.1.Pairwise (Rk zl h)∧∀e,e∈s.1↔e∈c) ?_ ?_
 ·
  by_cases u0:c=[];·subst u0;refine bz (I:=fun i s=>s=(([]:List Int),(1:Int),())) (m:=0) rfl (by decide) (fun i s w=>by omega) ?_;rintro s rfl;exact aw (cH (by rw[aJ];show(([]:List Int).length:Int)≤1;decide)) ⟨_,rfl,.nil,fun e=>jt⟩
  have e9:1≤c.length:=by cases c with
   |nil=>exact absurd rfl u0
   |cons a l=>show 1≤l.length+1;omega
  refine bz (I:=fun i s=>∃d,s=(d++c.drop (i+1),((i+1:Nat):Int),())∧PO zl h c (i+1) d) (m:=c.length-1) ⟨c.take 1,by rw[dQ];rfl,?_,fun e=>jt,by rw[aY];omega⟩ (by omega) ?_ ?_
  ·cases c with
   |nil=>exact absurd rfl u0
   |cons a l=>exact rB ..
  ·
   rintro n s b9⟨d,rfl,t⟩;have u9:=t.l;generalize w:n+1=i at t u9;have g0:i<c.length:=by omega
   have r0:c[i]?=some c[i]:=G g0;have w0:c.drop i=c[i]::c.drop (i+1):=dR g0;generalize c[i]=v at r0 w0;rw[w0];generalize c.drop (i+1)=f at w0;have f9:i+f.length+1=c.length:=by have:=eT List.length w0;rw[cE,bx]at this;omega
   have o9:=f0 v (Y r0);have p9:∀a,a∈d→Kp zl a:=fun a t0=>f0 a (eB ((t.m a).1 t0));refine be (eK (by rw[aJ];show(i:Int)<(c.length:Int);omega)) ?_;refine aK (P:=fun s:List Int×Unit=>∃g,s.1=g++f∧PO zl h c (i+1) g) (aK (P:=fun s:List Int×Unit=>∃g,s.1=g++f∧PO zl h c (i+1) g) (qa (I:=fun k(s:List Int×Int×Unit)=>∃j:Nat,s=(d.take j++v::(d.drop j++f),(j:Int),())∧j≤k∧j≤i∧∀q a,j≤q→d[q]?=some a→key zl h v<key zl h a) (k:=i) (n:=1000000000) ⟨i,by rw[dF (by omega),dV (by omega)];rfl,ar _,ar _,fun q a l9 z0=>by have:=(aj.1 z0).1;omega⟩ (by omega) ?_) fun s v9=>a4 v9) ?_
   ·
    rintro k s⟨j,rfl,d9,q9,h0⟩;have c0:(∀a,j≠0→d[j-1]?=some a→¬key zl h v<key zl h a)→∀{n0 m0:Type}{A:n0→Prop}{B:m0→Prop},Ok (ao (some (Sum.inl (d.take j++v::(d.drop j++f),()))):Option (Sum n0 (Sum (List Int×Unit) m0))) (hN A (hN (fun s:List Int×Unit=>∃g,s.1=g++f∧PO zl h c (i+1) g) B)):=fun n9 n0 m0 A B=>⟨_,rfl,d.take j++v::d.drop j,by show _++v::(_++_)=_;rw[cA];rfl,Ud t b0 r0 q9 n9 h0⟩;have x9:∀n:Nat,(0:Int)<(n:Int)→0<n:=fun n h=>by omega
    refine aN (fun p=>?_) fun p=>c0 fun a t0=>absurd (eZ p) (by simp only;omega);have p:0<j:=x9 j (kS p);have C:d[j-1]?=some (d[j-1]'(by omega)):=G (by omega);have s0:d.drop (j-1)=d[j-1]'(by omega)::d.drop (j-1+1):=dR (by omega);generalize d[j-1]'(by omega)=b at C s0;rw[kj p]at s0;have t9:d.take j=d.take (j-1)++[b]:=by have:=dC C;rw[kj p]at this;exact this.symm
    have x0:(d.take (j-1)).length=j-1:=by rw[aY];omega
    have j0:d.take j++v::(d.drop j++f)=d.take (j-1)++b::v::(d.drop j++f):=by rw[t9,cA];rfl
    rw[j0];generalize y:d.take (j-1)++b::v::(d.drop j++f)=m;have g9:m.length=c.length:=by rw[←y,az,x0,bx,bx,az,cE];omega
    have v0:m[j]?=some v:=by rw[←y,bB (by omega),x0,show j-(j-1)=1 by omega];rfl
    have l0:m[j-1]?=some b:=by rw[←y,bB (by omega),x0,ee];rfl
    have x:=vW p (by omega);have p0:a5 m (j:Int)=true:=eF (by omega);have d0:a5 m (bo .i64 (j:Int) 1)=true:=by rw[x];exact eF (by omega)
    have k0:ax m (bo .i64 (j:Int) 1)=some b:=by rw[x];exact aC l0
    refine aq p0 (aa (aC v0) (aq d0 (aa k0 ?_)));refine YU o o9 (p9 b (Y C)) (f:=fun _ _ _=>none) (g:=fun _ _ _=>none) (A:=none) (B:=none) (C:=none) (fun m9=>?_) fun r9=>?_
    ·
     have z9:a5 (aI m (j:Int) b) (bo .i64 (j:Int) 1)=true:=by rw[x];exact eF (by rw[jL];omega)
     have y9:ax (aI m (j:Int) b) (bo .i64 (j:Int) 1)=some b:=by rw[x,iP];exact aC (by rw[bE (by omega)];exact l0)
     refine aq d0 (aa k0 (aq p0 (aa (aC v0) (aq p0 (aa (aC v0) (aq z9 (aa y9 ⟨_,rfl,by omega,j-1,?_,by omega,by omega,fun q a l9 z0=>?_⟩)))))));·show(aI (aI m (j:Int) b) (bo .i64 (j:Int) 1) v,bo .i64 (j:Int) 1,())=_;rw[x,iP,iP,←y];have:=Qs b v (d.drop j++f) (d.take (j-1));rw[x0,kj p]at this;rw[this,s0];rfl
     ·
      by_cases e:q=j-1;·subst e;rw[C]at z0;cases z0;exact m9
      ·exact h0 q a (by omega) z0
    ·rw[←y,←j0];exact c0 fun a t0 i0=>by rw[C]at i0;cases i0;exact r9
   ·rintro⟨k9,a9⟩⟨g,o0,i9⟩;have o0:k9=g++f:=o0;subst o0;refine a4 ⟨g,?_,i9⟩;show(g++f,ai .i64 (i:Int) 1,())=_;rw[bI (by omega)]
  ·
   rintro s⟨d,rfl,t⟩;have w9:c.length-1+1=c.length:=by omega
   rw[w9]at t⊢;refine aw (cJ (l:=c)) ⟨_,rfl,?_⟩;show(d++c.drop c.length).Pairwise _∧∀e,e∈d++c.drop c.length↔_;rw[List.drop_length,bi];exact⟨t.p,fun e=>by rw[t.m,bO]⟩
 ·
  rintro⟨l,u⟩e0;refine aK (P:=fun s:List Int×Unit=>s.1=l) (bz (I:=fun i s=>s=(l,(20:Int),())) (m:=0) rfl (by decide) (fun i s w=>by omega) ?_) ?_;·rintro s rfl;exact aw (cH (by rw[aJ];show(c.length:Int)≤20;omega)) ⟨_,rfl,rfl⟩
  ·rintro⟨j9,u6⟩y0;have y0:j9=l:=y0;subst y0;exact ab e0
end Go.Bo
set_option maxHeartbeats 4000000
namespace Go.Bo
open Go Go.Ls
def BN(zl:List Zn)(n:Int):Prop:=∃z,z∈zl/\(z.1:Int)=n
theorem NO{zl:List Zn}(m:zl.length≤6)(n:Int):∃b,yc (zl,n,())=some (b,())∧(b=true↔BN zl n):=by
 have l:Ok (yc (zl,n,())) fun r=>r.1=true↔BN zl n:=by
  unfold yc;refine aK (P:=fun _=>¬BN zl n) (bz (I:=fun i s=>s=((i:Int),())∧∀z,z∈zl.take i→(z.1:Int)≠n) (m:=zl.length) ⟨rfl,fun z c=>by cases c⟩ (by omega) ?_ ?_) fun _ k=>ab ⟨fun h=>(by cases h),fun h=>absurd h k⟩
  ·
   rintro i s j⟨rfl,c⟩;have d:zl[i]?=some zl[i]:=G j;generalize zl[i]=z at d;refine be (cB (l:=zl) j) (aa (aC d) (aN (fun e=>bu (bu (ab ⟨fun _=>⟨z,Y d,lq e⟩,fun _=>rfl⟩))) fun e=>a4 ⟨by show(ai .i64 (i:Int) 1,())=_;rw[bI (by omega)],fun y a=>?_⟩));rw[←dC d]at a;rcases bD.1 a with a|a;·exact c y a
   ·rcases cj.1 a with rfl;exact mZ e
  ·rintro s⟨rfl,c⟩;rw[bO]at c;exact aw (cJ (l:=zl)) ⟨_,rfl,fun⟨z,f,g⟩=>c z f g⟩
 obtain⟨⟨b,u⟩,f,g⟩:=l;exact⟨b,f,g⟩
theorem Wi{zl:List Zn}{h:Int}(o:ZO zl h):NP (zl,())=some (0,()):=by have g:=o.l;refine cC ?_;unfold NP;refine aw (cH (by rw[aJ];show(zl.length:Int)<=6;omega)) (cz (λi=>((i:Int),())) zl.length rfl (by omega) (λi d=>?_) (aw (cJ (l:=zl)) (bj (ab rfl))) (ab rfl));have b:zl[i]?=some zl[i]:=G d;generalize zl[i]=z at b;obtain⟨⟨e,f⟩,k⟩:=o.n z (Y b);have a:=aC b;have c:Ok (some (Sum.inl (ai .i64 (i:Int) 1,())):Option (Sum (Int×Unit) (Sum Unit RI))) λr=>r= .inl (((i+1:Nat):Int),()):=ab (by rw[bI (by omega)]);refine be (cB (l:=zl) d) (aa a (aw (cH e) (aa a (aw (lA f) (aa a (aN (λq=>aa a (aw ?_ c)) λ_=>c))))));have q:(z.2.1:Int)≠0:=jh q;rw[gM,av (k.resolve_left q)];rfl
structure wW (zl : List Zn) (h : Int) (d : Nat) (l : List Int) : Prop where
  len : l.length ≤ 2 * d
  p : l.Pairwise (fun x y => kz h x < kz h y)
  m : ∀ n, n ∈ l ↔ BN zl n ∧ h - d < n ∧ n < h + d
theorem Ux{zl:List Zn}{h:Int}{d:Nat}{l:List Int}(f:wW zl h d l){n:Int}{m:List Int}(g:m=[]∨m=[h-d])(r:m=[h-d]↔BN zl (h-d)){q:List Int}(i:q=[]∨q=[h+d])(k:q=[h+d]↔0<d∧BN zl (h+d)):wW zl h (d+1) (l++m++q):=by
 have s:∀x,x∈l→kz h x<2*(d:Int):=fun x b=>by have:=((f.m x).1 b).2;unfold kz;split<;>omega
 have p:∀x,x∈m→x=h-d:=fun x b=>by rcases g with e|e<;>rw[e]at b<;>simp at b;exact b
 have t:∀x,x∈q→x=h+d∧0<d:=fun x b=>by
  rcases i with e|e;·rw[e]at b;cases b
  ·rw[e]at b;exact⟨by simpa using b,(k.1 e).1⟩
 have u:∀{v:Int→Int→Prop}{w:List Int}{a:Int},w=[]∨w=[a]→w.Pairwise v:=fun z0=>by rcases z0 with e|e<;>rw[e]<;>simp
 have z:∀y,y=h-d→2*(d:Int)≤kz h y:=fun y e=>by subst e;unfold kz;split<;>omega
 have A:∀y,y=h+d→kz h y=2*(d:Int)+1:=fun y e=>by subst e;unfold kz;rw[aG (by omega)];omega
 have B:0<d→∀y,y=h-d→kz h y=2*(d:Int):=fun u0 y e=>by subst e;unfold kz;rw[aE (by omega)];omega
 refine⟨?_,gF.2 ⟨gF.2 ⟨f.p,u g,fun x b y o=>?_⟩,u i,fun x b y o=>?_⟩,fun n=>?_⟩
 ·
  have x0:=f.len;have w0:m.length≤1:=by rcases g with e|e<;>rw[e]<;>simp
  have v0:q.length≤1:=by rcases i with e|e<;>rw[e]<;>simp
  rw[az,az];omega
 ·have:=s x b;have:=z y (p y o);omega
 ·
  obtain⟨C,j⟩:=t y o;have:=A y C;rcases bD.1 b with b|b;·have:=s x b;omega
  ·have:=B j x (p x b);omega
 ·
  rw[bD,bD,f.m n];constructor
  ·
   rintro((⟨c,y0⟩|c)|c);·exact⟨c,by omega⟩
   ·
    have e:=p n c;subst e
    exact⟨r.1 (by
     rcases g with e|e;·rw[e]at c;cases c
     ·exact e),by omega⟩
   ·
    have e:=(t n c).1;subst e
    exact⟨(k.1 (by
     rcases i with e|e;·rw[e]at c;cases c
     ·exact e)).2,by omega⟩
  ·
   rintro⟨c,y0⟩;by_cases e:h-(d:Int)<n∧n<h+d;·exact .inl (.inl ⟨c,e⟩)
   ·
    by_cases j:n=h-d;·subst j;exact .inl (.inr (by rw[r.2 c];exact bZ))
    ·
     have D:n=h+d:=by omega
     subst D;exact .inr (by rw[k.2 ⟨by omega,c⟩];exact bZ)
theorem Wl{zl:List Zn}{h:Int}(o:ZO zl h):Ok (NV (zl,h,())) fun r=>r.2.1=0∧wW zl h 4 r.1:=by
 have v:=o.l;have w:=o.h;unfold NV;refine aa (Wi o) (aw rfl (aw (cH w.1) (aw (lA w.2) (aK (P:=fun s=>wW zl h 4 s.1) (bz (I:=fun d s=>s.2.1=(d:Int)∧wW zl h d s.1) (m:=4) ⟨rfl,ar _,.nil,fun n=>⟨fun q=>(by cases q),fun q=>by have:=q.2;omega⟩⟩ (by decide) ?_ ?_) fun r u0=>ab ⟨rfl,u0⟩))))
 ·
  rintro d⟨l,c,u⟩q0⟨e,b⟩;have e:c=(d:Int):=e;subst e;have b:wW zl h d l:=b;have p0:=b.len;have y0:ai .i64 (d:Int) 1=((d+1:Nat):Int):=bI (by omega);have p:bo .i64 h (d:Int)=h-d:=fk (by omega) (by omega);have z0:ai .i64 h (d:Int)=h+d:=cD (by omega) (by omega);obtain⟨k,x0,y⟩:=NO v (h-d);obtain⟨D,w0,z⟩:=NO v (h+d);have t:∀m q,m=[]∨m=[h-(d:Int)]→(m=[h-(d:Int)]↔BN zl (h-d))→q=[]∨q=[h+(d:Int)]→(q=[h+(d:Int)]↔0<d∧BN zl (h+d))→Ok (some (.inl (l++m++q,ai .i64 (d:Int) 1,())):Option (Sum (List Int×Int×Unit) (Sum (List Int×Unit) (List Int×Int×Unit)))) (hN (fun s=>s.2.1=((d+1:Nat):Int)∧wW zl h (d+1) s.1) (hN (fun s=>wW zl h 4 s.1) fun r=>r.2.1=0∧wW zl h 4 r.1)):=fun m q g i t0 s0=>a4 ⟨by rw[←y0],Ux b (n:=0) g i t0 s0⟩;have B:∀(l:List Int)(x:Int),l.length≤100→aO l [x] 8=true:=fun l x b=>QE (by omega)
  have C:∀m,m=[]∨m=[h-(d:Int)]→(m=[h-(d:Int)]↔BN zl (h-d))→m.length≤1→∀{f:List Int},f=l++m→Ok (ad (ay 0 (d:Int)) (am (yc (zl,ai .i64 h (d:Int),())) fun r0=>ad r0.1 (aA (aO f [ai .i64 h (d:Int)] 8) (some (.inl (aM f [ai .i64 h (d:Int)],ai .i64 (d:Int) 1,())))) (some (.inl (f,ai .i64 (d:Int) 1,())))) (some (.inl (f,ai .i64 (d:Int) 1,()))):Option (Sum (List Int×Int×Unit) (Sum (List Int×Unit) (List Int×Int×Unit)))) (hN (fun s=>s.2.1=((d+1:Nat):Int)∧wW zl h (d+1) s.1) (hN (fun s=>wW zl h 4 s.1) fun r=>r.2.1=0∧wW zl h 4 r.1)):=by
   rintro m g i o0 f rfl;have A:¬(0<d∧BN zl (h+d))→Ok (some (.inl (l++m,ai .i64 (d:Int) 1,())):Option (Sum (List Int×Int×Unit) (Sum (List Int×Unit) (List Int×Int×Unit)))) (hN (fun s=>s.2.1=((d+1:Nat):Int)∧wW zl h (d+1) s.1) (hN (fun s=>wW zl h 4 s.1) fun r=>r.2.1=0∧wW zl h 4 r.1)):=fun v0=>by have:=t m [] g i (.inl rfl) ⟨fun q=>(by cases q),fun q=>absurd q v0⟩;rw[bi]at this;exact this
   rw[z0];refine aN (fun j=>aa w0 (aN (fun a=>aq (B _ _ (by rw[az];omega)) ?_) fun a=>A fun q=>?_)) fun j=>A fun q=>?_;·exact t m [h+(d:Int)] g i (.inr rfl) ⟨fun _=>⟨by have:=kS j;omega,z.1 a⟩,fun _=>rfl⟩
   ·have a:D=false:=a;rw[z.2 q.2]at a;cases a
   ·have:=eZ j;omega
  refine be (eK (by show(d:Int)<4;omega)) (aa (by show yc (zl,bo .i64 h (d:Int),())=_;rw[p];exact x0) (aN (fun a=>?_) fun a=>?_));·have a:k=true:=a;refine aq (by show aO l [bo .i64 h (d:Int)] 8=true;exact B _ _ (by omega)) (C [h-(d:Int)] (.inr rfl) ⟨fun _=>y.1 a,fun _=>rfl⟩ (ar 1) (by show l++[bo .i64 h (d:Int)]=_;rw[p]))
  ·have a:k=false:=a;exact C [] (.inl rfl) ⟨fun q=>(by cases q),fun q=>by rw[y.2 q]at a;cases a⟩ (by decide) (bi _).symm
 ·rintro⟨l,c,u⟩⟨e,b⟩;have e:c=((4:Nat):Int):=e;subst e;exact aw (cH (by show(4:Int)≤((4:Nat):Int);decide)) ⟨_,rfl,b⟩
structure OM (zl : List Zn) (h : Int) (N : List Int) (i : Nat) (O : List Int) : Prop where
  len : O.length ≤ 6 * i
  p : O.Pairwise (Rk zl h)
  m : ∀ e, e ∈ O ↔ Kp zl e ∧ Gt zl e ∈ N.take i
structure OL (zl : List Zn) (h : Int) (O : List Int) (n : Int) (b k : Nat) (M : List Int) : Prop where
  len : M.length ≤ b + k
  p : M.Pairwise (Rk zl h)
  m : ∀ e, e ∈ M ↔ e ∈ O ∨ (Kp zl e ∧ Gt zl e = n ∧ e < (k : Int))
theorem QN{zl:List Zn}{h n:Int}{g M:List Int}{b k:Nat}{z:Zn}(w:OL zl h g n b k M)(m:zl[k]?=some z)(j:¬((z.1:Int)=n/\(z.2.1:Int)=0)):OL zl h g n b (k+1) M:=by
 refine⟨qy w.len,w.p,λe=>(w.m e).trans ⟨λq=>q.imp id λ⟨a,b,c⟩=>⟨a,b,by omega⟩,λq=>q.imp id λ⟨a,b,c⟩=>⟨a,b,?_⟩⟩⟩;obtain⟨y,o,f,p⟩:=a;have l:=(Cg o f).2;rcases oK e (k:Int)with d|d;.exact d
 .
  have i:e=(k:Int):=by omega
  subst i;rw[db,m]at f;cases f;exact absurd ⟨l.symm.trans b,p⟩ j
theorem Uq{zl:List Zn}{h n:Int}{g M f:List Int}{b i k:Nat}{z:Zn}(w:OL zl h g n b k M)(r:zl[k]?=some z)(t:(z.1:Int)=n)(u:(z.2.1:Int)=0)(A:OM zl h f i g)(s:f.Pairwise λx y=>kz h x<kz h y)(q:f[i]?=some n):OL zl h g n b (k+1) (M++[(k:Int)]):=by
 have D:Kp zl (k:Int):=⟨z,by omega,by rw[db];exact r,u⟩;have m:Gt zl (k:Int)=n:=(Cg (e:=(k:Int)) (by omega) (by rw[db];exact r)).2.trans t;refine⟨by rw[az];exact Nat.succ_le_succ w.len,gF.2 ⟨w.p,by simp,λx B y C=>?_⟩,λe=>?_⟩
 .
  rcases cj.1 C with rfl;rcases(w.m x).1 B with a|⟨a,c,o⟩
  .
   obtain⟨_,c⟩:=(A.m x).1 a;obtain⟨j,l⟩:=bn c;have v:=(aj.1 q).1;have p:j<i:=by have:=(aj.1 l).1;rw[aY]at this;omega
   rw[fa,aE p]at l;have:=hT.1 s j i (by omega) v p;rw[(aj.1 l).2,(aj.1 q).2]at this;left;unfold key;rw[m];exact this
  .right;unfold key;rw[m,c];exact⟨rfl,o⟩
 .
  rw[bD,w.m e,cj];constructor
  .
   rintro((a|⟨a,c,o⟩)|rfl);.exact .inl a
   .exact .inr ⟨a,c,by omega⟩
   .exact .inr ⟨D,m,by omega⟩
  .
   rintro(a|⟨a,c,o⟩);.exact .inl (.inl a)
   .
    rcases oK e (k:Int)with d|d;.exact .inl (.inr ⟨a,c,d⟩)
    .exact .inr (by omega)
theorem Rh{zl:List Zn}{e:Int}(h:Kp zl e):e<(zl.length:Int):=by obtain⟨y,b,a,_⟩:=h;have:=(aj.1 a).1;omega
theorem Ur{zl:List Zn}{h n:Int}{d M c:List Int}{i k:Nat}(w:OL zl h d n (6*i) k M)(f:k=zl.length)(l:zl.length<=6)(g:OM zl h c i d)(j:c[i]?=some n):OM zl h c (i+1) M:=by
 refine⟨by have:=w.len;omega,w.p,λe=>(w.m e).trans ?_⟩;rw[<-dC j,bD,cj,g.m e];constructor
 .
  rintro(⟨a,b⟩|⟨a,b,_⟩);.exact⟨a,.inl b⟩
  .exact⟨a,.inr b⟩
 .
  rintro⟨a,b|b⟩;.exact .inl ⟨a,b⟩
  .exact .inr ⟨a,b,by rw[f];exact Rh a⟩
theorem aai{i k n z:Nat}(h1:i<n)(h2:n<=8)(a:k<z)(b:z<=6):6*i+k<=1000:=by omega
theorem Wq{zl:List Zn}{h:Int}(o:ZO zl h):Ok (Jv (zl,h,true,())) fun r=>r.1.Pairwise (Rk zl h)∧∀e,e∈r.1↔e∈ur zl zl.length:=by
 have t0:=o.l;obtain⟨e0,d0,i0⟩:=Cf (zl:=zl) zl.length (ar _);unfold Jv;refine bb (Wl o) fun r x0=>aw (by rw[x0.1];rfl) ?_;obtain⟨d,e,u⟩:=r;obtain⟨v0,m0,u0⟩:=x0.2;have v0:d.length≤2*4:=v0;have u0:∀n:Int,n∈d↔BN zl n∧h-4<n∧n<h+4:=u0;clear x0;refine aK (P:=fun s:List Int×Unit=>OM zl h d d.length s.1) (bz (I:=fun i s=>s.2.1=(i:Int)∧OM zl h d i s.1) (m:=d.length) ⟨rfl,ar _,.nil,fun e=>⟨fun q=>(by cases q),fun q=>by cases q.2⟩⟩ (by omega) ?_ ?_) ?_
 ·
  rintro i⟨j,c,u⟩x⟨l,f⟩;have l:c=(i:Int):=l;subst l;have f:OM zl h d i j:=f;have l0:=f.len;have A:d[i]?=some d[i]:=G x;generalize d[i]=n at A;have n0:ai .i64 (i:Int) 1=((i+1:Nat):Int):=bI (by omega);refine be (cB (l:=d) x) (aK (P:=fun s:List Int×Unit=>OM zl h d (i+1) s.1) ?_ fun s w0=>a4 ⟨by rw[←n0],w0⟩);refine aK (P:=fun s:List Int×Unit=>s.1=j) (bz (I:=fun i s=>s=(j,(0:Int),())) (m:=0) rfl (by decide) (fun i s x=>by omega) ?_) ?_
  ·
   rintro s rfl;by_cases p:0<zl.length;·exact be (eK (by rw[aJ];show(0:Int)<(zl.length:Int);omega)) (aw rfl ⟨_,rfl,rfl⟩)
   ·exact aw (cH (by rw[aJ];show(zl.length:Int)≤0;omega)) ⟨_,rfl,rfl⟩
  rintro⟨B,f0⟩D;have D:B=j:=D;subst D;refine aK (P:=fun s:List Int×Unit=>OM zl h d (i+1) s.1) (bz (I:=fun k s=>s.2.1=(k:Int)∧OL zl h B n (6*i) k s.1) (m:=zl.length) ⟨rfl,aU l0 (Nat.le_add_right _ _),f.p,fun e=>⟨fun q=> .inl q,fun q=>q.elim id fun⟨⟨_,w,_⟩,_,v⟩=>by omega⟩⟩ (by omega) ?_ ?_) fun s w0=>a4 w0;·rintro k⟨t,c,u⟩z0⟨m,g⟩;have m:c=(k:Int):=m;subst m;have g:OL zl h B n (6*i) k t:=g;have k0:=g.len;have p:zl[k]?=some zl[k]:=G z0;generalize zl[k]=z at p;have C:ai .i64 (k:Int) 1=((k+1:Nat):Int):=bI (by omega);have s0:=aC p;have j0:t.length≤1000:=aU k0 (aai x v0 z0 t0);exact be (cB (l:=zl) z0) (aa s0 (aa (aC A) (aN (fun a=>aa s0 (aN (fun b=>aq (QE (l:=t) j0) (a4 ⟨by rw[←C],Uq g p (lq a) (lq b) f m0 A⟩)) fun b=>a4 ⟨by rw[←C],QN g p fun q=>absurd q.2 (mZ b)⟩)) fun a=>a4 ⟨by rw[←C],QN g p fun q=>absurd q.1 (mZ a)⟩)))
  ·rintro⟨t,c,u⟩⟨m,g⟩;have m:c=((zl.length:Nat):Int):=m;subst m;exact aw (cJ (l:=zl)) ⟨_,rfl,Ur g rfl t0 f A⟩
 ·rintro⟨j,c,u⟩⟨l,f⟩;have l:c=((d.length:Nat):Int):=l;subst l;exact aw (cJ (l:=d)) ⟨_,rfl,f⟩
 rintro⟨j,u⟩f;have f:OM zl h d d.length j:=f;refine ab ⟨f.p,fun e=>(f.m e).trans ?_⟩;rw[i0,bO];refine⟨fun q=>⟨q.1,Rh q.1⟩,fun q=>⟨q.1,?_⟩⟩;obtain⟨y,h0,o0,_⟩:=q.1;have y0:=(Cg h0 o0).2;have r0:=Y o0;obtain⟨⟨q0,p0⟩,_⟩:=o.n y r0;have g0:=o.h;have q0:0≤Gt zl e:=by rw[y0];exact q0
 have p0:Gt zl e<4:=by rw[y0];exact p0
 exact(u0 (Gt zl e)).2 ⟨⟨y,r0,y0.symm⟩,by omega,by omega⟩
theorem Yf{zl:List Zn}{h:Int}(o:ZO zl h):∃l e a,Dm (zl,h,true,())=some (l,e,())/\Jv (zl,h,true,())=some (l,a,())/\l.length<=6/\∀x,x∈l->∃i:Nat,x=(i:Int)/\i<zl.length:=by obtain⟨⟨l,e,u⟩,b,k,c⟩:=Ws o;obtain⟨⟨m,a,v⟩,f,g,j⟩:=Wq o;have:m=l:=D8 QF g k λx=>(j x).trans (c x).symm;subst this;obtain⟨⟨t,s,w⟩,d,p,_⟩:=JG zl h true;rw[b]at d;cases d;refine⟨m,e,a,b,f,p,λx n=>?_⟩;obtain⟨y,q,r,_⟩:=((Cf (zl:=zl) zl.length (ar _)).2.2 x).1 ((c x).1 n)|>.1;exact⟨x.toNat,(eN q).symm,(aj.1 r).1⟩
end Go.Bo
set_option maxHeartbeats 4000000
namespace Go.Bo
open Go Go.Ls
theorem YW{hg:Int}{l:List Zn}{ls:List (List Int)}{s:Nat->Int}(k:∀(i:Nat)(z:Zn),l[i]?=some z->zs z=s i/\s (i+1)=s i+zc z)(o:∀z,z∈l->1<=zc z)(j:ls.length=l.length)(ok:∀(i:Nat)(z:Zn)(m:List Int),l[i]?=some z->ls[i]?=some m->m.Nodup/\(m.length:Int)<=hg/\∀f,f∈m->zs z<=f/\f<zs z+zc z/\¬cv z f):CG hg l ls:=by
 refine⟨j,λi z m d c=>(ok i z m d c).2,?_⟩
 have q:∀i,i<=ls.length->((ls.take i).flatten).Nodup/\∀f,f∈(ls.take i).flatten->f<s i:=by
  intro i
  induction i with
   |zero=>exactλ_=>⟨tH,λf a=>by cases a⟩
   |succ i p=>
   intro w;obtain⟨d,c⟩:=p (by omega);have g:ls[i]?=some (ls[i]'(by omega)):=G (by omega);have b:l[i]?=some (l[i]'(by omega)):=G (by omega);generalize ls[i]'(by omega)=m at g;generalize l[i]'(by omega)=z at b;obtain⟨t,u⟩:=k i z b;have v:=o z (Y b);obtain⟨r,_,h⟩:=ok i z m b g;rw[<-uK g];refine⟨jr.2 ⟨d,r,λx b y n e=>?_⟩,λf a=>?_⟩;.have:=c x b;have:=h y n;omega
   .
    rcases bD.1 a with a|a;.have:=c f a;omega
    .have:=h f a;omega
 have:=(q ls.length (ar _)).1;rwa [bO]at this
section
variable{a:eI}{ls:List (List Int)}(h:VA a ls)
include h
theorem Q7:∀m,m∈ls->m.Nodup:=(List.pairwise_flatten.1 h.cg.nd).1
theorem FH{i:Nat}{z y:Zn}{m:List Int}(p:(cw a)[i]?=some z)(u:VZ y)(e:zs y=zs z/\zc y=zc z)(t:m.Nodup/\(m.length:Int)<=mz a/\∀f,f∈m->zs z<=f/\f<zs z+zc z/\¬cv y f):VA (aW a i y (aI (cP a) 0 (ls.set i m,()))) (ls.set i m):=by
 obtain⟨C,g,r⟩:=h.g;obtain⟨s,B,l⟩:=h.st;have k:=(aj.1 p).1
 have n:∀(j:Nat)(x:Zn),((cw a).set i y)[j]?=some x->zs x=s j/\s (j+1)=s j+zc x:=λj x b=>by
  by_cases c:j=i;.subst c;rw[bq k]at b;cases b;rw[e.1,e.2];exact l j z p
  .rw[bE λq=>c q.symm]at b;exact l j x b
 have o:∀x,x∈(cw a).set i y->VZ x:=λx b=>by
  rcases cM b with b|rfl;.exact h.vz x b
  .exact u
 refine⟨⟨C,g,by show((cw a).set i y).length=_;rw[bC];exact r⟩,o,⟨s,B,n⟩,?_,?_⟩;.show(cP a).set 0 (ls.set i m,())=_::List.replicate ((lH a).length-1) (List.replicate ((cw a).set i y).length [],());rw[h.ca,bC];rfl
 .
  refine YW (l:=(cw a).set i y) n (λx b=>(o x b).v.nH.pX.2.1) (by rw[bC,bC];exact h.cg.len) λj x w b d=>?_;by_cases c:j=i;.subst c;rw[bq k]at b;rw[bq (by rw[h.cg.len];exact k)]at d;cases b;cases d;rw[e.1,e.2];exact t
  .rw[bE λq=>c q.symm]at b d;obtain⟨v,A⟩:=h.cg.ok j x w b d;exact⟨Q7 h w (Y d),v,A⟩
end
theorem km{σ p β z ρ:Type}{f:σ->Option (Sum σ (Sum β ρ))}{g:p->Option (Sum p (Sum z ρ))}{I:Nat->σ->p->Prop}{R:ρ->Prop}{m:Nat}{b:β}{c:z}(w:∀i s t,i<m->I i s t->(∃n o,f s=some (.inl n)/\g t=some (.inl o)/\I (i+1) n o)\/∃r,f s=some (.inr (.inr r))/\g t=some (.inr (.inr r))/\R r)(v:∀s t,I m s t->f s=some (.inr (.inl b))/\g t=some (.inr (.inl c))):∀(k i d:Nat)(x:σ)(y:p),i+k=m->k<d->I i x y->jk f d x=some (.inl b)/\jk g d y=some (.inl c)\/∃r,jk f d x=some (.inr r)/\jk g d y=some (.inr r)/\R r
 |k,i,0,_,_,_,A,_=>by omega
 |0,i,d+1,x,y,l,_,u=>by have l:i=m:=l;subst l;obtain⟨e,j⟩:=v x y u;left;show aD (f x) (jk f d)=_/\aD (g y) (jk g d)=_;rw[e,j];exact⟨rfl,rfl⟩
 |k+1,i,d+1,x,y,l,A,u=>by
  show aD (f x) (jk f d)=_/\aD (g y) (jk g d)=_\/∃r,aD (f x) (jk f d)=_/\aD (g y) (jk g d)=_/\R r;rcases w i x y (by omega) u with⟨n,o,e,j,q⟩|⟨r,e,j,q⟩;.rw[e,j];exact km w v k (i+1) d n o (by omega) (by omega) q
  .right;rw[e,j];exact⟨r,rfl,rfl,q⟩
section
variable{α β σ τ:Type}{R:α->Prop}
def E2(o p:Option α)(R:α->Prop):Prop:=∃r,o=some r/\p=some r/\R r
theorem GR{o:Option σ}{p:Option τ}{x:σ}{y:τ}{f:σ->Option α}{g:τ->Option α}(h1:o=some x)(h2:p=some y)(h:E2 (f x) (g y) R):E2 (am o f) (am p g) R:=by rw[h1,h2];exact h
theorem RH{a b:Bool}{o p q w:Option α}(h1:a=false)(h2:b=false)(h:E2 p w R):E2 (ad a o p) (ad b q w) R:=by rw[h1,h2];exact h
theorem RG{k:Type}{f:σ->Option (Sum σ (Sum β α))}{g:τ->Option (Sum τ (Sum k α))}(I:Nat->σ->τ->Prop)(m:Nat){b:β}{c:k}{d M:Nat}{x:σ}{y:τ}{K:β->Option α}{L:k->Option α}(o:I 0 x y)(q:d=M)(v:m<d)(w:∀i s t,i<m->I i s t->(∃l n,f s=some (.inl l)/\g t=some (.inl n)/\I (i+1) l n)\/∃r,f s=some (.inr (.inr r))/\g t=some (.inr (.inr r))/\R r)(u:∀s t,I m s t->f s=some (.inr (.inl b))/\g t=some (.inr (.inl c)))(h:E2 (K b) (L c) R):E2 (aD (aB f d x) K) (aD (aB g M y) L) R:=by
 subst q;rw[ir,ir];rcases km w u m 0 d x y (by omega) v o with⟨e,j⟩|⟨r,e,j,p⟩;.rw[e,j];exact h
 .rw[e,j];exact⟨r,rfl,rfl,p⟩
end
end Go.Bo
set_option maxHeartbeats 4000000
namespace Go.Bo
open Go Go.Ls
def zA:eI:=([],0,0,[],[],())
def Sam(a b:eI):Prop:=lH b=lH a/\(cw b).length=(cw a).length
theorem HE{l:List Int}(h:l≠[]):∃m f,l=m++[f]:=⟨l.dropLast,l.getLast h,(List.dropLast_concat_getLast h).symm⟩
section
variable{a:eI}{ls:List (List Int)}(h:VA a ls){i:Nat}{z:Zn}(hz:(cw a)[i]?=some z){l0:List Int}(hi:ls[i]?=some l0)
include h hz hi
theorem ZX(s:l0=[]->¬SD z):∃(b:eI)(r:D (.ah du cU))(m:Nat)(n:List (List Int))(l:List Int)(f:Int),(∃i0,VA r.1 i0)/\Sam a r.1/\r=((b.1,b.2.1,b.2.2.1,cw b,aI (cP b) 0 (n.set i l,()),()),f,0,())/\VA b n/\n[i]?=some (l++[f])/\(l0≠[]/\b=a\/l0=[]/\KA a (i:Int) 0=some (b,true,())/\n=ls.set i (wl z m).reverse/\b=aW a i (wz z m) (aI (cP a) 0 (n,()))/\Dc ((ls,()),(i:Int),wl z m,())=some ((n,()),0,())/\∀β,KB (β:=β) (i:Int) a=some (.inl (aW a i (wz z m) (cP a),wl z m,()))):=by
 have x0:=h.vz z (Y hz);obtain⟨r9,g,w9⟩:=h.g;by_cases j:l0=[]
 .
  obtain⟨m,u9,g0,w,f0,z0,b0,_⟩:=GN (β:=Unit) h hz hi j (s j)
  have A:∀β,KB (β:=β) (i:Int) a=some (.inl (aW a i (wz z m) (cP a),wl z m,())):=λβ=>by
   obtain⟨h0,_,_,u0,_,_,_,A⟩:=GN (β:=β) h hz hi j (s j);obtain⟨v9,_,_,s9,_,_,t9,_⟩:=GN (β:=β) h hz hi j (s j)
   have:h0=m:=by
    have q:∀{p q:Nat},Wk z (oa a).toNat p->Wk z (oa a).toNat q->p<=q:=λ{p q}u v=>by
     rcases v.e with e|e;.rw[e];exact u.le
     .refine Nat.le_of_not_lt λn0=>?_;have j0:=u.s q n0;obtain⟨_,⟨r,v0,c0⟩,_⟩:=e;rw[j0.p]at v0;cases v0;cases c0
    exact Nat.le_antisymm (q u0 w) (q w u0)
   subst this;exact A
  subst j;obtain⟨B,C,s0,y9,r0⟩:=Qc x0 w m (ar _);have y:=sI z m;have k0:(wl z m).reverse≠[]:=λe=>by have:=eT List.length e;rw[ep,y]at this;have:m=0:=this;omega
  obtain⟨l,f,k⟩:=HE k0;have q0:=(aj.1 hi).1;have w0:∀x,x∈(wl z m).reverse->zs z<=x/\x<zs z+zc z/\¬cv (wz z m) x:=λx d=>by have d:=List.mem_reverse.1 d;have:=z0 x d;exact⟨this.1,this.2.1,λc=>((r0 x).1 c).2 d⟩
  have z9:=g.bh;have x9:(oa a).toNat<=(mz a).toNat:=by omega
  have y0:((wl z m).reverse.length:Int)<=mz a:=by rw[ep,y];have:=w.le;omega
  have t:(wl z m).reverse.Nodup:=List.pairwise_reverse.2 (s0.imp λq=>q.symm);have o0:∀x,x∈l->x∈(wl z m).reverse:=λx d=>by rw[k];exact dX _ d
  have p0:(l.length:Int)<=mz a:=by rw[k,az]at y0;omega
  have a0:=FH h hz B C ⟨t,y0,w0⟩;have o:=FH h hz B C (m:=l) ⟨by rw[k]at t;exact(jr.1 t).1,p0,λx d=>w0 x (o0 x d)⟩;refine⟨_,_,m,_,l,f,⟨ls.set i l,?_⟩,?_,rfl,a0,?_,.inr ⟨rfl,b0,rfl,rfl,?_,A⟩⟩
  .
   have e:aW a i (wz z m) (aI (cP a) 0 (ls.set i l,()))=((aW a i (wz z m) (aI (cP a) 0 (ls.set i (wl z m).reverse,()))).1,(aW a i (wz z m) (aI (cP a) 0 (ls.set i (wl z m).reverse,()))).2.1,(aW a i (wz z m) (aI (cP a) 0 (ls.set i (wl z m).reverse,()))).2.2.1,cw (aW a i (wz z m) (aI (cP a) 0 (ls.set i (wl z m).reverse,()))),aI (cP (aW a i (wz z m) (aI (cP a) 0 (ls.set i (wl z m).reverse,())))) 0 ((ls.set i (wl z m).reverse).set i l,()),()):=by show(_,_,_,_,(cP a).set 0 (ls.set i l,()),())=(_,_,_,_,((cP a).set 0 (ls.set i (wl z m).reverse,())).set 0 ((ls.set i (wl z m).reverse).set i l,()),());rw[eQ,eQ];rfl
   rw[<-e];exact o
  .exact⟨rfl,by show((cw a).set i (wz z m)).length=_;rw[bC]⟩
  .rw[bq q0,k]
  .exact Wh h hi f0 (by rw[y];exact g0) λx d=>(z0 x d).2.2
 .obtain⟨l,f,k⟩:=HE j;subst k;obtain⟨e0,d0⟩:=h.cg.ok i z _ hz hi;have m0:=Q7 h _ (Y hi);have o:=FH h hz x0 ⟨rfl,rfl⟩ (m:=l) ⟨(jr.1 m0).1,by rw[az]at e0;omega,λx d=>d0 x (dX _ d)⟩;have t0:(cw a).set i z=cw a:=iM hz;refine⟨a,_,0,ls,l,f,⟨ls.set i l,?_⟩,⟨rfl,rfl⟩,rfl,h,hi,.inl ⟨j,rfl⟩⟩;.unfold aW at o;rw[t0]at o;exact o
end
theorem I7{a:eI}{ls:List (List Int)}(h:VA a ls):E2 (Ar (a,0,true,false,())) (Of (a,0,true,false,())) λr=>r.2.2.1=0->((∃l,VA r.1 l)/\Sam a r.1)/\0<=(r.2.1:Int)/\(r.2.1:Int)<=256:=by
 obtain⟨zl,g,e9⟩:=h.g;obtain⟨i9,z1,h9⟩:=D5 h;obtain⟨l6,a9,_,l16,_⟩:=Ib h;have nn:=g.nn;have o0:(lH a)[0]?=some ((lH a)[0]'(by omega)):=G (by omega);have g0:=g.nd _ (ew (by omega:0<(lH a).length));generalize(lH a)[0]'(by omega)=n at o0 g0;obtain⟨x,e,g9,q9,p9,o6,o9⟩:=Yf (XC i9 h.vz g0);have B:(cP a)[0]?=some (ls,()):=by rw[h.ca];rfl
 have y0:∀c:List tM,0<c.length->a5 c 0=true:=λc q0=>eF (l:=c) (i:=0) q0;have u0:0<(cP a).length:=(aj.1 B).1;unfold Ar Of;show E2 (Jl _) (ND _) _;unfold Jl ND;refine GR (Om h) (Wr h) (RH rfl rfl (RH rfl rfl (RH (lA (by show(0:Int)<ak (lH a);rw[aJ];omega)) (lA (by show(0:Int)<ak (lH a);rw[aJ];omega)) (GR (aC (i:=0) o0) (aC (i:=0) o0) (GR q9 p9 ?_)))));refine RG (λi s t=>s=((zA,()),(i:Int),())/\t=((zA,()),(i:Int),())) x.length (b:=((zA,()),())) (c:=((zA,()),())) ?_ rfl (by show x.length<1000000000;omega) ?_ ?_ ?_;rotate_right;.exact⟨_,rfl,rfl,λq=>by cases q⟩
 .exact⟨rfl,rfl⟩
 .
  rintro i s t h0⟨rfl,rfl⟩;have z0:x[i]?=some x[i]:=G h0;obtain⟨q,x9,m0⟩:=o9 _ (Y z0);rw[x9]at z0;have hz:(cw a)[q]?=some (cw a)[q]:=G m0;generalize(cw a)[q]=z at hz;have D:ls[q]?=some (ls[q]'(by rw[h.cg.len];exact m0)):=G _;generalize ls[q]'(by rw[h.cg.len];exact m0)=l0 at D;obtain⟨C,d0,c0,s9⟩:=YT h hz D;have s0:=cB (l:=x) h0;have i0:ai .i64 (i:Int) 1=((i+1:Nat):Int):=bI (by omega);by_cases f0:AC z<C
  .
   right;obtain⟨b,r,m,r9,l,f,k9,j9,rfl,r0,j0,b0⟩:=ZX h hz D λe=>s9 e f0;have nn':(lH a).length<=1000:=by omega
   obtain⟨a0,z9⟩:=T6 r0 j0;have v:(cP b)[0]?=some (r9,()):=by rw[r0.ca];rfl
   have u:=y0 (cP b) (aj.1 v).1;refine⟨_,cC ?_,cC ?_,λ_=>⟨⟨k9,j9⟩,?_⟩⟩;rotate_right;.obtain⟨_,_,_,_,w⟩:=lu r0 r0.cg j0;have w:0<=f/\f<256:=(w f (cR _ (kc _))).2;exact⟨w.1,wv w.2⟩
   .
    refine be s0 (aK (P:=λ_=>False) (aa (aC z0) (aa d0 (aw (cH (by show(1:Int)<=C-AC z;omega)) (aq (ce (by show 0+(lH a).length<=_;omega) (by decide)) (aq (ce (by show 0+(cw a).length<=_;omega) (by decide)) (aq (ce (by show 0+(cP a).length<=_;omega) (by decide)) (CY a (λy d=>(pP (h.vz y d).v.nH).mono (by decide)) (by omega) (CZ _ (by show(cP a).length<=1000;omega) (λc q0=>?_) ?_)))))))) λ_ v9=>v9.elim);.obtain⟨j,u9⟩:=bn q0;have x0:=(uM h u9).1;have:=qY h x0;refine⟨by omega,λw k0=>?_⟩;obtain⟨t9,p0⟩:=bn k0;obtain⟨_,_,w9,_⟩:=lu h x0 p0;omega
    .
     rw[Us h];refine aq (y0 _ u0) (aa (aC (i:=0) B) (aa (aC D) ?_));rcases b0 with⟨A,v0⟩|⟨A,v0,_⟩
     .
      subst v0;refine aw ?_ (aq u (aa (aC (i:=0) v) (aa a0 (aw rfl (aq u (aa (aC (i:=0) v) ⟨_,rfl,?_⟩))))));.rw[gA,aJ];exact aX λo=>A (ix (by omega))
      .rfl
     .subst A;refine be rfl (aa v0 (aw rfl (aq u (aa (aC (i:=0) v) (aa a0 (aw rfl (aq u (aa (aC (i:=0) v) ⟨_,rfl,?_⟩))))))));rfl
   .
    refine be s0 (aa (aC z0) (aa c0 (aa (aC hz) (be (eK (show AC z<C from f0)) (aq (ce (by show 0+(lH a).length<=_;omega) (by decide)) ?_)))));refine cz (b:=((lH a,oa a,mz a,cw a,[],()),())) (λk=>((lH a,oa a,mz a,(cw a).take k,[],()),(k:Int),())) (cw a).length rfl (by omega) (λk w0=>?_) (aw (cJ (l:=cw a)) (bj (ab (by rw[bO])))) ?_
    .
     have d:(cw a)[k]?=some (cw a)[k]:=G w0;generalize(cw a)[k]=y at d;have e0:=h.vz y (Y d);have y9:=tQ (tU e0).1;refine be (cB (l:=cw a) w0) (aK (P:=λt=>t=((lH a,oa a,mz a,(cw a).take (k+1),[],()),())) (aa (aC d) (cz (b:=((y,()),())) (λp=>((y,()),(p:Int),())) 5 rfl (by decide) (λp c9=>?_) (aw (lA (by show(4:Int)<((5:Nat):Int);decide)) (bj (ab rfl))) (aq (ce (by rw[aY];show min k (cw a).length+1<=_;omega) (by decide)) (a4 ?_)))) ?_)
     .
      have n0:=y9.qC p (by omega);have b9:=y9.len p;have d9:p<y.2.2.2.2.2.1.length:=by have:=e0.l;have:y.2.2.2.2.2.1.length=5:=this;omega
      refine be (lz (by show(p:Int)<=4;omega)) (aa (aC d) (aa n0 (aq (ce (by show 0+(Zs.fV (eD y) p).length<=_;omega) (by decide)) (aq (av (show(0:Int)<=(p:Int)by omega)) (aq (eK (by show(p:Int)<5;omega)) (aa n0 (ab ?_)))))));show Sum.inl (((y.1,y.2.1,y.2.2.1,y.2.2.2.1,y.2.2.2.2.1,aI y.2.2.2.2.2.1 (p:Int) (Zs.fV (eD y) p),()),()),ai .i64 (p:Int) 1,())=_;rw[iP,iM (show y.2.2.2.2.2.1[p]?=_ from n0),bI (by omega)]
     .show((lH a,oa a,mz a,(cw a).take k++[y],[],()),())=_;rw[dC d]
     .rintro t rfl;exact ab (by show Sum.inl (_,ai .i64 (k:Int) 1,())=_;rw[bI (by omega)])
    refine cz (b:=(a,())) (λk=>((lH a,oa a,mz a,cw a,(cP a).take k,()),(k:Int),())) (cP a).length rfl (by omega) (λk w0=>?_) (aw (cJ (l:=cP a)) (bj (ab (by rw[bO];rfl)))) ?_
    .
     have d:(cP a)[k]?=some (cP a)[k]:=G w0;generalize(cP a)[k]=c at d;have x0:=(uM h d).1;have f9:=qY h x0;refine be (cB (l:=cP a) w0) (aa (aC d) (jI (Lp (l:=c.1) (by omega) λw k0=>?_) (aq (ce (by rw[aY];show min k (cP a).length+1<=_;omega) (by decide)) (ab ?_))));.obtain⟨t9,p0⟩:=bn k0;obtain⟨_,_,w9,_⟩:=lu h x0 p0;omega
     .show Sum.inl ((_,_,_,_,(cP a).take k++[c],()),ai .i64 (k:Int) 1,())=_;rw[dC d,bI (by omega)]
    refine aq (y0 _ u0) (aa (aC (i:=0) B) (aa (aC D) ?_));rcases b0 with⟨A,v0⟩|⟨A,_,p3,n9,m9,l9⟩
    .
     subst v0;have t0:a6 (ak l0) 0=false:=by rw[gA,aJ];exact aX λo=>A (ix (by omega))
     refine aw t0 (aq u (aa (aC (i:=0) B) (aa (aC D) (aw t0 (aq u (aa (aC (i:=0) v) (aa z9 (aq u (aa (aC (i:=0) v) ⟨_,rfl,?_⟩)))))))));rfl
    .
     subst A n9;have t0:a6 (ak (l++[f])) 0=false:=by rw[gA,aJ,az];exact aX (by rw[eM];omega)
     refine be rfl (jI (l9 _) (aq (y0 _ u0) (aa (aC (i:=0) B) (aa m9 (aq (y0 _ u0) (aa (aC (i:=0) B) (aq u (aa (aC (i:=0) v) (aa (aC j0) (aw t0 (aq u (aa (aC (i:=0) v) (aa z9 (aq u (aa (aC (i:=0) v) ⟨_,rfl,?_⟩)))))))))))))));rfl
  .
   left;refine⟨_,_,cC ?_,cC ?_,rfl,rfl⟩;.exact be s0 (aK (P:=λt=>t=((zA,()),())) (aa (aC z0) (aa d0 (be (eK (by show C-AC z<(1:Int);omega)) (a4 rfl)))) (by rintro t rfl;exact ab (by show Sum.inl (_,ai .i64 (i:Int) 1,())=_;rw[i0])))
   .exact be s0 (aa (aC z0) (aa c0 (aa (aC hz) (aw (cH (by show C<=AC z;omega)) (ab (by show Sum.inl (_,ai .i64 (i:Int) 1,())=_;rw[i0]))))))
 .rintro s t⟨rfl,rfl⟩;exact⟨cC (aw (cJ (l:=x)) ⟨_,rfl,rfl⟩),cC (aw (cJ (l:=x)) ⟨_,rfl,rfl⟩)⟩
end Go.Bo
set_option maxHeartbeats 4000000
namespace Go.Bo
open Go Go.Ls
section
variable{α σ τ:Type}
theorem wT{o p:Option σ}{f g:σ->Option α}(h:o=p)(a:∀x,o=some x->f x=g x):am o f=am p g:=by subst h;cases o with
 |none=>rfl
 |some x=>exact a x rfl
theorem Ll{b:Bool}{o p q r:Option α}(h1:b=true->o=q)(h2:b=false->p=r):ad b o p=ad b q r:=by cases b with
 |true=>exact h1 rfl
 |false=>exact h2 rfl
theorem Lr{b:Bool}{o p:Option α}(h:b=true->o=p):aA b o=aA b p:=by cases b with
 |true=>exact h rfl
 |false=>rfl
theorem AZ{o:Option (Sum σ α)}{b:σ}{K:σ->Option α}{r:Option α}(h:o=some (.inl b))(a:K b=r):aD o K=r:=by rw[h];exact a
theorem YX{o:Option σ}{b:σ}{K:σ->Option α}{r:Option α}(h:o=some b)(a:K b=r):am o K=r:=by rw[h];exact a
theorem Lq{b:Bool}{o r:Option α}(h:b=true)(a:o=r):aA b o=r:=by rw[h];exact a
end
theorem Gd{c:D cc}{k0:Kn}(d:∃l,VA (GF k0) l):∀{i:Nat}{k:Kn},od c k0 i k->∃l,VA (GF k) l:=by intro i k h;induction h with
 |zero=>exact d
 | @succ i k p o a f t q e z y v g x s u w m=>obtain⟨l,j⟩:=m;obtain⟨r,b,_,n⟩:=I7 j;rw[g]at b;cases b;exact(n rfl).1.1
def Fz(fi:List (D jZ)):Prop:=fi.length<=4/\∀y,y∈fi->y.2.2.2.2.2.2.1=(0,false,())
theorem RF:Aq ((0,false,()),())=some (0,0,())/\Od ((0,false,()),())=some (0,0,()):=by
 refine⟨cC ?_,cC ?_⟩;.unfold Aq JF JE;exact aa (x:=(true,())) rfl (aw rfl (aa (x:=(false,())) rfl (aw rfl (ab rfl))))
 .unfold Od Td;exact aa (x:=(true,())) rfl (aw rfl (aw rfl (ab rfl)))
theorem Yj{c:D cc}{k0 k:Kn}{q:Int}{i:Nat}{j:Kn×Unit}{ls:List (List Int)}(A:u5 c)(z0:KI c k0 k i q)(v0:VA (GF k) ls)(B:Fz (kG k)):BV c (j,k,(i:Int),())=QT c (j,k,(i:Int),()):=by
 obtain⟨r,f,s,t⟩:=I7 v0;unfold BV QT;refine Ll (λ_=>wT rfl λa e=>wT (Tx _ _).symm λq0 s0=>Ll (λ_=>rfl) λ_=>wT (f.trans s.symm) λp z=>Ll (λ_=>rfl) λx=>?_) λ_=>rfl;have u0:p=r:=by rw[show Ar (GF k,0,true,false,())=some p from z]at f;exact eu f
 subst u0;obtain⟨_,u,v⟩:=t (fH x);refine Lr λ_=>wT rfl λp0 _=>Lr λ_=>wT rfl λo0 _=>Lr λ_=>wT rfl λn0 _=>wT (Tw u v).symm λg _=>?_;have e:ax (kl k.1) (i:Int)=some a:=e;rw[z0.RZ]at e;have r0:List.length a.2.1<=48:=(A.prog a (Y e)).1;obtain⟨t0,w⟩:=B;have n:aO [] a.2.1 64=true:=ce (by show 0+List.length a.2.1<=_;omega) (by decide);have x0:gP (ak (kG k)) (ak (kG k)) 8=true:=jj (by rw[aJ];omega) (by rw[aJ];omega) (by decide);have y0:∀d:Nat,List.replicate d (0:Int)++[0]=List.replicate (d+1) 0:=λd=>List.replicate_succ'.symm;have m:∀d(b:d<(kG k).length),∃y,(kG k)[d]?=some y/\y.2.2.2.2.2.2.1=(0,false,()):=λd b=>⟨_,G b,w _ (ew b)⟩;refine AZ (b:=(List.replicate (kG k).length (0:Int),())) (pG (λd=>(List.replicate d (0:Int),(d:Int),())) (kG k).length rfl (by omega) (λd b=>?_) (aw (cJ (l:=kG k)) (bj (ab rfl)))) (Lq n (Eq.symm ?_));rotate_left
 .
  refine YX (b:=(a.2.1,())) ?_ ?_;.unfold JN;exact Lq n rfl
  refine Lq x0 ?_;refine AZ (b:=(((0,0,-1,0,a.1,a.2.1,(0,0,0,0,(0,0,0,0,0,0,()),(),()),g.1,[],[],[],List.replicate (kG k).length (0:Int),0,0,0,0,-1,()):C7),())) (pG (λd=>(((0,0,-1,0,a.1,a.2.1,(0,0,0,0,(0,0,0,0,0,0,()),(),()),g.1,[],[],[],List.replicate (kG k).length (0:Int),0,0,0,0,-1,()):C7),(d:Int),())) (kG k).length ?_ (by show(kG k).length<1000000000;omega) (λd b=>?_) ?_) ?_;rotate_right;.rfl
  .show(_,(0:Int),())=_;rfl
  .
   obtain⟨y,h,l⟩:=m d b;have C:a5 (List.replicate (kG k).length (0:Int)) (d:Int)=true:=eF (by rw[aR];exact b);have o:(List.replicate (kG k).length (0:Int))[d]?=some 0:=by rw[cm,aE b]
   refine be (eK (by rw[aJ];show(d:Int)<((List.replicate (ak (kG k)).toNat (0:Int)).length:Int);rw[aR,aJ,db];omega)) (aa (aC h) (aa (by rw[l];exact RF.2) (aq C (aa (aC o) (ab ?_)))));have w0:aI (List.replicate (kG k).length (0:Int)) (d:Int) 0=List.replicate (kG k).length 0:=iM o;show Sum.inl ((0,0,-1,0,a.1,a.2.1,_,g.1,[],[],[],aI (List.replicate (kG k).length (0:Int)) (d:Int) 0,_),ai .i64 (d:Int) 1,())=_;rw[w0,bI (by omega)]
  .refine aw (cH ?_) (bj (ab rfl));rw[aJ];show((List.replicate (ak (kG k)).toNat (0:Int)).length:Int)<=((kG k).length:Int);rw[aR,aJ,db];exact bX _
 .obtain⟨y,h,l⟩:=m d b;refine be (cB (l:=kG k) b) (aa (aC h) (aa (by rw[l];exact RF.1) (aq (ce (by show(List.replicate d (0:Int)).length+1<=_;rw[aR];omega) (by decide)) (ab ?_))));show Sum.inl (List.replicate d (0:Int)++[0],ai .i64 (d:Int) 1,())=_;rw[y0,bI (by omega)]
end Go.Bo
set_option maxHeartbeats 4000000
namespace Go.Bo
open Go Go.Ls
theorem zy{c:D cc}(e:u5 c):AG c.1 c.2.2.1 c.2.2.2.1 c.2.1:=by have b:=e.yP;unfold im at b;simp only[ae]at b;have i:=di b.1;have a:=e.A6;unfold gS at a;simp only[ae]at a;have j:=di a.1;have d:=e.om;unfold dq mX at d;simp only[ae]at d;have g:=di d.1.1;have f:=di d.1.2.1;refine⟨by omega,λn h=>?_,⟨f.1,f.2,g.2⟩,by omega,a.2.1,bA a.2.2.2⟩;have:=di (bR.1 b.2 n h);have this:0<=n/\n<=3:=this;omega
theorem L9{nd:List Int}{e hg:Int}{zl:ZL}{l:List Zn}(g:AG nd e hg zl)(c:SL zl l):VA (I6 nd e hg l nd.length zl.length) (List.replicate zl.length []):=by
 have d:∀(i:Nat)(z:Zn),l[i]?=some z->∃x,zl[i]?=some x/\NZ x.1 x.2.1 (mx zl i) x.2.2.1 x.2.2.2.1 z:=λi z a=>by have b:=(aj.1 a).1;rw[c.len]at b;exact⟨_,G b,c.nz i z _ a (G b)⟩
 refine⟨⟨zl,g,c.len⟩,λz a=>?_,⟨mx zl,rfl,λi z a=>?_⟩,?_,?_⟩;.obtain⟨i,b⟩:=bn a;obtain⟨x,_,h⟩:=d i z b;exact h.v
 .obtain⟨x,j,h⟩:=d i z a;exact⟨h.e.2.1.1,by rw[(FW g j).2.2.2.1,h.e.2.1.2]⟩
 .have:=g.nn;obtain⟨n,f⟩:∃n,nd.length=n+1:=⟨nd.length-1,by omega⟩;show List.replicate nd.length (List.replicate zl.length [],())=_::List.replicate (nd.length-1) (List.replicate l.length [],());rw[c.len,f];rfl
 .have:=Nq (hg:=hg) (l:=l) (by have:=g.bh;omega);rw[c.len]at this;exact this
theorem SK{c:D cc}(B:u5 c){l:List Zn}(f:SL c.2.1 l){a:eI}(w:a=I6 c.1 c.2.2.1 c.2.2.2.1 l c.1.length c.2.1.length){b:Int}(h:Jm (a,())=some (b,())):(0<=b/\b<=256)/\∃q,Hn (c,())=some (b,q):=by
 have g:=zy B;have y0:=L9 g f;subst w;have w0:=g.nz;have C:=f.len;have A:∀i(x:Zt),c.2.1[i]?=some x->0<=mx c.2.1 i/\1<=x.2.2.1/\mx c.2.1 i+x.2.2.1<=256/\mx c.2.1 (i+1)=mx c.2.1 i+x.2.2.1/\_:=λi x d=>FW g d;have j:l[l.length-1]?=some (l[l.length-1]'(by omega)):=G (by omega);have d:c.2.1[l.length-1]?=some (c.2.1[l.length-1]'(by omega)):=G (by omega);generalize l[l.length-1]'(by omega)=z at j;generalize c.2.1[l.length-1]'(by omega)=x at d;have p:=f.nz _ z x j d;obtain⟨u0,t0,s0,x0,_⟩:=A _ x d
 have t:Jm (I6 c.1 c.2.2.1 c.2.2.2.1 l c.1.length c.2.1.length,())=some (mx c.2.1 l.length,()):=by
  refine cC ?_;unfold Jm;have u:bo .i64 (ak l) 1=((l.length-1:Nat):Int):=by rw[aJ];exact vW (by omega) (by omega)
  refine aa (Om y0) (aw rfl (aa (x:=z) (by show ax l (bo .i64 (ak l) 1)=_;rw[u];exact j) (ab ?_)));show(ai .i64 (zs z) (zc z),())=_;rw[p.e.2.1.1,p.e.2.1.2,cD (by omega) (by omega),<-x0,kj (by omega)]
 rw[t]at h;have k:mx c.2.1 l.length=b:=eT (λo:Int×Unit=>o.1) (eu h);have v0:mx c.2.1 (l.length-1+1)=b:=by rw[kj (by omega)];exact k
 refine⟨by omega,?_⟩
 have:Ok (Hn (c,())) λr=>r.1=b:=by
  unfold Hn;refine aK (P:=λs=>s.1=b) (bz (I:=λi s=>∃y:Int,s=(mx c.2.1 i,y,(i:Int),())) (m:=c.2.1.length) ⟨0,rfl⟩ (by show c.2.1.length<1000000000;omega) ?_ ?_) λs z0=>ab z0;.rintro i s m⟨y,rfl⟩;have d:c.2.1[i]?=some c.2.1[i]:=G m;generalize c.2.1[i]=x at d;refine be (cB (l:=c.2.1) m) (aa (aC d) (a4 ⟨ai .i64 y (bo .i64 x.2.2.1 x.2.2.2.1),?_⟩));show(ai .i64 (mx c.2.1 i) x.2.2.1,_,ai .i64 (i:Int) 1,())=_;rw[<-FV d,bI (by omega)]
  .rintro s⟨y,rfl⟩;refine aw (cJ (l:=c.2.1)) ⟨_,rfl,?_⟩;show mx c.2.1 c.2.1.length=b;rw[<-C];exact k
 obtain⟨⟨n,q⟩,v,e⟩:=this;have e:n=b:=e;subst e;exact⟨q,v⟩
theorem K2{c:D cc}(d:u5 c){k0:Kn}{j:Int}(m:K0 c k0 j):(∃ls,VA (GF k0) ls)/\Fz (kG k0):=by
 obtain⟨t,a,p0,r,o0,x0,C,s,u,v,w,x,z,A,B,w0,g,v0,u0,t0,s0,r0,h,q0,rfl⟩:=m;obtain⟨l,n,k,_⟩:=ya (zy d);rw[k]at g;cases g;rw[A3 c d.om]at h;cases h;refine⟨⟨_,L9 (zy d) n⟩,?_⟩;show Fz (nR c (ea c).length);have z0:=(uJ d).f
 have q:∀i,i<=(ea c).length->(nR c i).length=i/\∀y,y∈nR c i->y.2.2.2.2.2.2.1=(0,false,()):=by
  intro i
  induction i with
   |zero=>exactλ_=>⟨rfl,λy b=>by cases b⟩
   |succ i p=>
   intro y0;obtain⟨f,e⟩:=p (by omega);have o:(ea c)[i]?=some ((ea c)[i]'(by omega)):=G (by omega);rw[xR o];refine⟨by rw[az,f];rfl,λy b=>?_⟩;rcases bD.1 b with b|b;.exact e y b
   .rcases cj.1 b with rfl;rfl
 obtain⟨f,e⟩:=q _ (ar _);exact⟨by omega,e⟩
theorem Tv(c:D cc)(B:L4 (c,())=some ((0:Int),()))(d:u5 c)(j:1<=(gq c:Int)/\(gq c:Int)<=256){k0:Kn}{o:Int}(y0:K0 c k0 o){Q:D (.ah fT iU)->Prop}(z0:Ok (aD (aB (QT c) 1000000000 ((zK,()),k0,(0:Int),())) λn0=>some (n0.2.1,(0:Int),())) Q):Ok (Ho (c,())) Q:=by obtain⟨t,a,p0,s,o0,w0,g0,m0,l0,j0,i0,v,w,x,h0,v0,k,u0,t0,s0,r0,q0,m,n,rfl⟩:=y0;have b:=d.om;have g:=zy d;have u:=uJ d;obtain⟨l,x0,z,A⟩:=ya g;rw[z]at k;cases k;obtain⟨⟨p,r⟩,q,y⟩:=SK d x0 rfl u0;have f:=b;unfold dq mX at f;simp only[ae]at f;have e:=di f.1.2.2.2.1;have i:=di f.1.2.2.2.2.1;have h:=vB b (ea c).length (ar _);have f0:=h.1;rw[A3 c b]at m;cases m;rw[Hf e.1 e.2 (by omega) (by omega) h.2]at n;cases n;have C:=VI e.1 e.2 (b:=mO c (ea c).length) (by omega) (by omega) h.2;have e0:=g.nn;unfold Ho;refine aa B (aw rfl (aa (NE c b) (aa (mg b) (aw (cH j.1) (aa (mg b) (aw (cH j.2) (aa (VU c d) (jI (QZ c v0 (by show c.1.length<=20;omega)) (aa A (aa y (jI (Ry c _ t _ p r) (aa (x:=(p0,v,())) (by rw[VS];exact t0) (aq (ce (by show 0+List.length (CO c)<=_;have:List.length (CO c)<=8:=u.a;omega) (by decide)) (aa (x:=(s,())) (by rw[VQ];exact s0) (aa (x:=(o0,w,())) ((VN i.1 i.2).trans r0) (aa (x:=(w0,x,())) (by rw[VM];exact q0) (aa (VK c b) (aa C z0))))))))))))))))))
end Go.Bo
set_option maxHeartbeats 4000000
namespace Go.Bo
open Go Go.Ls
theorem Ug{c:D cc}{k0:Kn}:∀{i:Nat}{k:Kn},od c k0 i k->kG k=kG k0:=by intro i k h;induction h with
 |zero=>rfl
 |succ _ _ _ _ _ _ _ _ a=>exact a
def SJ(c:D cc)(k:Kn):Prop:=k=zK\/(1<=(gq c:Int)/\(gq c:Int)<=256)/\∃b a,K0 c b a/\KI c b k (kl c).length a
theorem Ve{c:D cc}(h:u5 c)(z:zH (c,())=some ((0:Int),()))(A:L4 (c,())=some ((0:Int),())):E2 (yj (c,())) (Ho (c,())) λr=>SJ c r.1:=by
 have q:=h.om;by_cases m:1<=(gq c:Int)/\(gq c:Int)<=256
 .
  have o0:Ok (yj (c,())) λr=>Ho (c,())=some r/\SJ c r.1:=by
   refine Tz c z h m λd g w C=>?_;obtain⟨q0,v0⟩:=K2 h w;have m0:List.length (kl c)<=8:=h.np.2
   have x0:∀{i:Nat}{k:Kn}{j:Kn×Unit}{y:Sum ((Kn×Unit)×Kn×Int×Unit) (Sum ((Kn×Unit)×Kn×Unit) (D (.ah fT iU)))},i<=(kl c).length->KI c d k i g->BV c (j,k,(i:Int),())=some y->∀o,y= .inl o->i<(kl c).length/\∃(n:Kn)(t:Kn×Unit),o=(t,n,((i+1:Nat):Int),())/\KI c d n (i+1) g:=λ{i k j y}v a z0 o e=>by
    subst e;by_cases m:i<(kl c).length;.obtain⟨y,b,f⟩:=QS (j:=j) (P:=λ_=>True) (Q:=λ_=>True) h m a λ_ _=>trivial;rw[z0]at b;cases b;obtain⟨t,n,p0,u⟩:=o;have p:p0=((i+1:Nat):Int):=f.1;subst p;exact⟨m,n,t,rfl,f.2⟩
    .
     have e:i=(kl c).length:=by omega
     subst e;obtain⟨y,b,f⟩:=MC (j:=j) (A:=λ_=>False) (Q:=λ_=>True) a.RZ (R:=λ_=>True) trivial;rw[z0]at b;cases b;exact f.elim
   have u0:aB (BV c) 1000000000 ((zK,()),d,(0:Int),())=aB (QT c) 1000000000 ((zK,()),d,(0:Int),()):=by refine wI (I:=λs=>∃(i:Nat)(k:Kn)(j:Kn×Unit),s=(j,k,(i:Int),())/\i<=(kl c).length/\KI c d k i g) ⟨0,d,_,rfl,aP _,C⟩ ?_ _;rintro s⟨i,k,j,rfl,v,a⟩;obtain⟨l0,r0⟩:=Gd q0 a.run;have B:=Yj (j:=j) h a r0 (by rw[Ug a.run];exact v0);refine⟨B,λo s0=>?_⟩;obtain⟨b,n,t,f,p⟩:=x0 v a (B.trans s0) o rfl;exact⟨i+1,n,t,f,b,p⟩
   have w0:Ok (aD (aB (BV c) 1000000000 ((zK,()),d,(0:Int),())) λn0=>some (n0.2.1,(0:Int),())) λr=>SJ c r.1:=by
    refine aK (P:=λs:(Kn×Unit)×Kn×Unit=>KI c d s.2.1 (kl c).length g) (bz (I:=λi s=>s.2.2.1=(i:Int)/\KI c d s.2.1 i g) (m:=(kl c).length) ⟨rfl,C⟩ (by omega) ?_ ?_) ?_;.rintro i⟨⟨j,u⟩,k,x,y0⟩v⟨l,a⟩;have l:x=(i:Int):=l;subst l;have a:KI c d k i g:=a;exact QS h v a λ_ _=> .inl rfl
    .rintro⟨⟨j,u⟩,k,x,y0⟩⟨l,a⟩;have l:x=((kl c).length:Int):=l;subst l;have a:KI c d k (kl c).length g:=a;exact MC a.RZ (R:=λk=>KI c d k (kl c).length g) a
    .rintro⟨⟨j,u⟩,k,y0⟩a;exact ab (.inr ⟨m,d,g,w,a⟩)
   obtain⟨r,e,t0⟩:=w0;refine⟨r,e,?_,t0⟩;exact cC (Tv c A h m w (by rw[<-u0];exact⟨r,e,rfl⟩))
  obtain⟨r,b,f,p⟩:=o0;exact⟨r,b,f,p⟩
 .
  refine⟨(zK,9,()),cC ?_,cC ?_,.inl rfl⟩
  .
   unfold yj;refine aa z (aw rfl (aa (yb q) (aa (mg q) (aa (vL _) (be ?_ (ab rfl))))));show bL (aV 1 256 (gq c:Int))=true;unfold aV;by_cases b:1<=(gq c:Int);.rw[aX λf:(gq c:Int)<=256=>m ⟨b,f⟩,ne];rfl
   .rw[aX b];rfl
  .unfold Ho;refine aa A (aw rfl (aa (NE c q) (aa (mg q) (aN (λ_=>ab rfl) λb=>aa (mg q) (be (eK ?_) (ab rfl))))));have b:(1:Int)<=(gq c:Int):=eZ b;omega
end Go.Bo
set_option maxHeartbeats 4000000
namespace Go.Bo
open Go Go.Ls
theorem uA(a:Int):a6 a a=true:=by rw[gA];exact av rfl
theorem RA(a:Bool):bL (xS a a)=false:=by cases a<;>rfl
theorem an{a b:Bool}(h:a=true)(k:b=true):fc a b=true:=by subst h k;rfl
theorem nb{a:Bool}(h:a=true):bL a=false:=by subst h;rfl
theorem fU{X α:Type}{l:List X}{f:Int×Unit->Option (Sum (Int×Unit) (Sum Unit α))}{K:Unit->Option α}{Q:α->Prop}(e:l.length<=1000)(d:∀(i:Nat)(x:X),l[i]?=some x->i<l.length->ai .i64 (i:Int) 1=((i+1:Nat):Int)->Ok (f ((i:Int),())) λr=>r= .inl (((i+1:Nat):Int),()))(c:Ok (f ((l.length:Int),())) λr=>r= .inr (.inl ()))(b:Ok (K ()) Q):Ok (aD (aB f 1000000000 ((0:Int),())) K) Q:=cz (λi=>((i:Int),())) l.length rfl (by omega) (λi a=>d i _ (G a) a (bI (by omega))) c b
theorem kr{i:Nat}{α:Type}(h:ai .i64 (i:Int) 1=((i+1:Nat):Int)):Ok (some (Sum.inl (ai .i64 (i:Int) 1,())):Option (Sum (Int×Unit) α)) λr=>r= .inl (((i+1:Nat):Int),()):=ab (by rw[h])
theorem lC{X α:Type}{l:List X}{T:Option (Sum (Int×Unit) (Sum Unit α))}:Ok (ad (ay (l.length:Int) (ak l)) T (ao (some (.inl ())))) λr=>r= .inr (.inl ()):=aw (cJ (l:=l)) (bj (ab rfl))
abbrev Sh{X:Type}(l:List X):Prop:=l.length<=1000
theorem rz{l:List Int}(h:Sh l):zG (l,l,())=some (true,()):=by refine cC ?_;unfold zG;exact aw (eU _) (fU (l:=l) h (λi x a b e=>be (cB (l:=l) b) (aa (aC a) (aa (aC a) (aw (eU _) (kr e))))) lC (ab rfl))
theorem Oc{l:List Int}(h:rp l=true):yi (l,l,())=some (true,()):=by refine cC ?_;unfold yi;exact aq h (aq h (ab (by rw[Pd])))
theorem Wx{l:List Bool}(h:Sh l):JM (l,l,())=some (true,()):=by refine cC ?_;unfold JM;exact aw (eU _) (fU (l:=l) h (λi x a b e=>be (cB (l:=l) b) (aa (aC a) (aa (aC a) (aw (RA _) (kr e))))) lC (ab rfl))
theorem Gq{X a β:Type}{r:List a}:Gs (β:=β) ([]:List X) r=some (.inl ()):=by unfold Gs;exact pG (λi=>((i:Int),())) 0 rfl (by decide) (λi b=>by omega) (aw rfl (bj (ab rfl)))
theorem MD{α:Type}{K:Unit->Option α}{Q:α->Prop}(h:Ok (K ()) Q):Ok (aD (aB (λa:Int×Unit=>ad (ay a.1 0) none (ao (some (.inl ())))) 1000000000 ((0:Int),())) K) Q:=cz (λi=>((i:Int),())) 0 rfl (by decide) (λi b=>by omega) (aw rfl (bj (ab rfl))) h
theorem Ww{r:D yu}(h:(show List Int from r.2.1.1).length=8):Oa (r,r,())=some (true,()):=by
 have e:N1 (r.2.1,r.2.1,())=some (true,()):=by refine cC ?_;unfold N1;refine aw (eU _) (aw (eU _) (cz (λi=>((i:Int),())) 8 rfl (by decide) (λi d=>?_) (aw rfl (bj (ab rfl))) (MD (ab rfl))));have c:(show List Int from r.2.1.1)[i]?=some ((show List Int from r.2.1.1)[i]'(by rw[h];exact d)):=G _;have b:cV (i:Int)=true:=av (by omega);have a:ay (i:Int) 8=true:=eK (by omega);exact be a (aq b (aq a (aa c (aq b (aq a (aa c (aw (eU _) (kr (bI (by omega))))))))))
 refine cC ?_;unfold Oa;exact be (uA _) (aa e (ab rfl))
def SF(f:uX):Prop:=f.2.2.2.2.2.2.2.2.2.2.2.2.2.2.1=[]/\rp f.2.2.2.2.2.2.2.2.2.2.2.2.2.2.2.1=true
theorem Zi{f:uX}(h:SF f):VC (f,f,())=some (true,()):=by obtain⟨a,b⟩:=h;refine cC ?_;unfold VC;have n:=eU;refine aw (n _) (aw (n _) (aw (n _) (aw (n _) (aw (n _) (aw (n _) (aw (n _) (aw (n _) (aw (n _) (aw (n _) (aw (RA _) (aw (RA _) (aw (RA _) (aw (n _) (aw (n _) (aa (Oc b) (aw rfl (jI (b:=()) ?_ (ab rfl))))))))))))))))));show Gs f.2.2.2.2.2.2.2.2.2.2.2.2.2.2.1 _=_;rw[a];exact Gq
structure Vr (p : C7) : Prop where
  c : Sh p.2.2.2.2.2.1
  t : Sh p.2.2.2.2.2.2.2.1.2.1
  t0 : p.2.2.2.2.2.2.2.1.2.2.1 = []
  a : Sh p.2.2.2.2.2.2.2.2.1
  b : Sh p.2.2.2.2.2.2.2.2.2.1
  d : Sh p.2.2.2.2.2.2.2.2.2.2.1
  e : Sh p.2.2.2.2.2.2.2.2.2.2.2.1
theorem Wv(x:D Hw):N9 (x,x,())=some (true,()):=by refine cC ?_;unfold N9;have n:=eU;exact aw (n _) (aw (n _) (aw (n _) (aw (n _) (aw (nb (an (uA _) (an (uA _) (an (uA _) (an (uA _) (an (uA _) (an (uA _) rfl))))))) (MD (ab rfl))))))
theorem Wu{t:D rN}(h:Sh t.2.1)(b:t.2.2.1=[]):N8 (t,t,())=some (true,()):=by
 refine cC ?_;unfold N8;have n:=eU;refine aw (n _) (aw (n _) (aw (n _) (fU (l:=t.2.1) h (λi x a c e=>be (cB (l:=t.2.1) c) (aa (aC a) (aa (aC a) (aw (nb ?_) (kr e))))) lC (jI (b:=()) ?_ (ab rfl)))));.repeat(first|exact rfl|refine an (uA _) ?_)
 .show Gs t.2.2.1 _=_;rw[b];exact Gq
theorem Zh{p:C7}(h:Vr p):VB (p,p,())=some (true,()):=by refine cC ?_;unfold VB;have n:=eU;refine aw (n _) (aw (n _) (aw (n _) (aw (n _) (aw (n _) (aw (n _) (aw (n _) (aw (n _) (aw (n _) (aw (n _) (aw (n _) (aa (Wv _) (aw rfl (aa (Wu h.t h.t0) (aw rfl (aa (rz h.a) (aw rfl (aa (rz h.b) (aw rfl (aa (rz h.d) (aw rfl (aa (rz h.e) (aw rfl (fU (l:=p.2.2.2.2.2.1) h.c (λi x a b e=>be (cB (l:=p.2.2.2.2.2.1) b) (aa (aC a) (aa (aC a) (aw (nb ?_) (kr e))))) lC (ab rfl))))))))))))))))))))))));repeat(first|exact rfl|refine an (uA _) ?_)
end Go.Bo
set_option maxHeartbeats 4000000
namespace Go.Bo
open Go Go.Ls
structure Vt (a : eI) : Prop where
  n : Sh (lH a)
  z : Sh (cw a)
  zl : ∀ z, z ∈ cw a → ∀ k : Nat, k < 5 → ∃ l : List Int, ax z.2.2.2.2.2.1 (k : Int) = some l ∧ Sh l
  c : Sh (cP a)
  cl : ∀ c, c ∈ cP a → Sh c.1 ∧ ∀ l, l ∈ c.1 → Sh l
theorem Zp{a:eI}(h:Vt a):VH (a,a,())=some (true,()):=by
 refine cC ?_;unfold VH;have n:=eU;refine aw (n _) (aw (n _) (aa (rz h.n) (aw rfl (aw (n _) (aw (n _) (fU (l:=cw a) h.z (λi z m g e=>?_) lC (fU (l:=cP a) h.c (λi c b g e=>?_) lC (ab rfl))))))));.refine be (cB (l:=cw a) g) (aK (P:=λ_=>True) (aa (aC m) (aa (aC m) (aw (n _) (aw (n _) (aw (n _) (aw (n _) (aw (n _) (cz (λi=>((i:Int),())) 5 rfl (by decide) (λk j=>?_) (aw rfl (bj (ab rfl))) (a4 trivial))))))))) λ_ _=>kr e);obtain⟨l,d,s⟩:=h.zl z (Y m) k j;have o:cV (k:Int)=true:=av (by omega);have f:ay (k:Int) 5=true:=eK (by omega);exact be f (aq o (aq f (aa d (aq o (aq f (aa d (aa (rz s) (aw rfl (kr (bI (by omega)))))))))))
 .obtain⟨q,r⟩:=h.cl c (Y b);exact be (cB (l:=cP a) g) (aK (P:=λ_=>True) (aa (aC b) (aa (aC b) (aw (n _) (aa (aC b) (fU (l:=c.1) q (λk l d j p=>be (cB (l:=c.1) j) (aa (aC b) (aa (aC d) (aa (aC b) (aa (aC d) (aa (rz (r l (Y d))) (aw rfl (kr p)))))))) lC (a4 trivial)))))) λ_ _=>kr e)
theorem Zo{n m:Int}{b:BL}(h:Sh b)(d:∀x,x∈b->rp x=true):VG ((n,m,b,[],[],()),(n,m,b,[],[],()),())=some (true,()):=by refine cC ?_;unfold VG;have s:=eU;exact aw (s _) (aw (s _) (aw (s _) (aw (s _) (aw (s _) (fU (l:=b) h (λi x a c e=>be (cB (l:=b) c) (aa (aC a) (aa (aC a) (aa (Oc (d x (Y a))) (aw rfl (kr e)))))) lC (fU (l:=([]:List Int)) (aP _) (λi x a c e=>by cases a) (aw rfl (bj (ab rfl))) (fU (l:=([]:List Int)) (aP _) (λi x a c e=>by cases a) (aw rfl (bj (ab rfl))) (ab rfl))))))))
def AE(c:D cc)(n1 n2:Int)(m:Nat)(t:D kO)(a:eI)(fr:List uX)(n8:Int)(ac:List fj)(ag:List (List Int))(so:List (Int×Int×Unit))(n13:Int)(fi:List (D jZ))(dn dm:Int)(b:BL)(pr:List C7):Kn:=(c,n1,n2,List.replicate m (-1),List.replicate m t,List.replicate m [],a,fr,(n8,[],()),ac,[],ag,so,(n13,[],()),fi,(dn,dm,b,[],[],()),[],pr,[],[],())
structure Zc (m : Nat) (t : D kO) (a : eI) (fr : List uX) (ac : List fj) (ag : List (List Int)) (so : List (Int × (Int × Unit))) (fi : List (D jZ)) (b : BL) (pr : List C7) : Prop where
  m : m ≤ 1000
  t : t.2.1 = []
  a : Vt a
  fr : Sh fr ∧ ∀ f, f ∈ fr → SF f
  ac : Sh ac
  ag : Sh ag ∧ ∀ l, l ∈ ag → Sh l
  so : Sh so
  fi : Sh fi ∧ ∀ y, y ∈ fi → (show List Int from y.2.2.2.2.2.2.2.1.2.1.1).length = 8 ∧ Sh (show List Bool from y.2.2.2.2.2.2.2.2.1)
  b : Sh b ∧ ∀ x, x ∈ b → rp x = true
  pr : Sh pr ∧ ∀ p, p ∈ pr → Vr p
section
variable{c:D cc}{n1 n2:Int}{m:Nat}{t:D kO}{a:eI}{fr:List uX}{n8:Int}{ac:List fj}{ag:List (List Int)}{so:List (Int×Int×Unit)}{n13:Int}{fi:List (D jZ)}{dn dm:Int}{b:BL}{pr:List C7}(h:Zc m t a fr ac ag so fi b pr)
include h
theorem Gi{X:Type}{x:X}:Sh (List.replicate m x):=by show(List.replicate m x).length<=1000;rw[aR];exact h.m
theorem Wy{k:Kn}(j:k=AE c n1 n2 m t a fr n8 ac ag so n13 fi dn dm b pr):Ob (k,k,())=some (true,()):=by
 subst j;refine cC ?_;unfold Ob;have n:=eU;refine fU (l:=List.replicate m t) (Gi h) (λi x d f e=>?_) lC (fU (X:=D wy) (l:=List.replicate m []) (Gi h) (λi x d f e=>?_) lC (ab rfl))
 .
  have g:x=t:=(hZ.1 (Y d)).2;have l:x.2.1=[]:=by rw[g];exact h.t
  refine be (cB (l:=List.replicate m t) f) (aK (P:=λ_=>True) (aa (aC d) (aa (aC d) (aw (n _) (aa (aC d) (aa (aC d) (aw (n _) (aa (aC d) (cz (λi=>((i:Int),())) 0 rfl (by decide) (λi f=>by omega) (aw ?_ (bj (ab rfl))) (a4 trivial))))))))) λ_ _=>kr e);show ay 0 (ak x.2.1)=false;rw[l];rfl
 .have g:x=[]:=(hZ.1 (Y d)).2;subst g;exact be (cB (l:=List.replicate m ([]:D wy)) f) (aK (P:=λ_=>True) (aa (aC d) (aa (aC d) (aw (n _) (aa (aC d) (cz (λi=>((i:Int),())) 0 rfl (by decide) (λi f=>by omega) (aw rfl (bj (ab rfl))) (a4 trivial)))))) λ_ _=>kr e)
theorem Zm{k:Kn}(g:k=AE c n1 n2 m t a fr n8 ac ag so n13 fi dn dm b pr):VF (k,k,())=some (true,()):=by have j:=Wy h g;subst g;refine cC ?_;unfold VF;have n:=eU;refine aw (n _) (aw (n _) (aw (n _) (aw (n _) (aw (n _) (aw (n _) (aw (n _) (fU (l:=ac) h.ac (λi x d f e=>be (cB (l:=ac) f) (aa (aC d) (aa (aC d) (aw (nb (an (uA _) (an (uA _) (an (uA _) (an (uA _) (an (uA _) rfl)))))) (kr e))))) lC (jI (b:=()) Gq (fU (l:=so) h.so (λi x d f e=>be (cB (l:=so) f) (aa (aC d) (aa (aC d) (aw (nb (an (uA _) (an (uA _) rfl))) (kr e))))) lC (jI (b:=()) Gq (fU (l:=ag) h.ag.1 (λi x d f e=>be (cB (l:=ag) f) (aa (aC d) (aa (aC d) (aa (rz (h.ag.2 x (Y d))) (aw rfl (kr e)))))) lC (aa j (ab rfl)))))))))))))
theorem Zk{k:Kn}(g:k=AE c n1 n2 m t a fr n8 ac ag so n13 fi dn dm b pr):VE (k,k,())=some (true,()):=by subst g;refine cC ?_;unfold VE;have n:=eU;exact aw (n _) (aw (n _) (aw (n _) (aw (n _) (fU (l:=([]:List Int)) (aP _) (λi x d f e=>by cases d) (aw rfl (bj (ab rfl))) (fU (l:=([]:List Int)) (aP _) (λi x d f e=>by cases d) (aw rfl (bj (ab rfl))) (ab rfl))))))
theorem Zj{k:Kn}(l:k=AE c n1 n2 m t a fr n8 ac ag so n13 fi dn dm b pr):VD (k,k,())=some (true,()):=by subst l;refine cC ?_;unfold VD;have n:=eU;refine aw (n _) (aw (n _) (fU (l:=fi) h.fi.1 (λi x d f e=>?_) lC (fU (l:=([]:List Int)) (aP _) (λi x d f e=>by cases d) (aw rfl (bj (ab rfl))) (ab rfl))));obtain⟨g,j⟩:=h.fi.2 x (Y d);exact be (cB (l:=fi) f) (aa (aC d) (aa (aC d) (aw (n _) (aw (n _) (aw (n _) (aw (n _) (aw (n _) (aw (RA _) (aw (nb (an (uA _) (an (by cases x.2.2.2.2.2.2.1.2.1<;>rfl) rfl))) (aa (Ww g) (aw rfl (aa (Wx j) (aw rfl (kr e))))))))))))))
theorem Tu{k:Kn}(f:k=AE c n1 n2 m t a fr n8 ac ag so n13 fi dn dm b pr):DZ (k,k,())=some (true,()):=by
 have j:=Zm h f;have l:=Zk h f;have o:=Zj h f;subst f;refine cC ?_;unfold DZ;have n:=eU;refine aw (n _) (aw (n _) (aa (rz (Gi h)) (aw rfl (aa (rz (l:=[]) (aP _)) (aw rfl (aw (n _) (aw (n _) (aa (Zp h.a) (aw rfl (aa (Zo h.b.1 h.b.2) (aw rfl (aa j (aw rfl (aa l (aw rfl (aa o (aw rfl (fU (l:=fr) h.fr.1 (λi x d g e=>?_) lC (fU (l:=pr) h.pr.1 (λi x d g e=>?_) lC (ab rfl))))))))))))))))))));.exact be (cB (l:=fr) g) (aa (aC d) (aa (aC d) (aa (Zi (h.fr.2 x (Y d))) (aw rfl (kr e)))))
 .exact be (cB (l:=pr) g) (aa (aC d) (aa (aC d) (aa (Zh (h.pr.2 x (Y d))) (aw rfl (kr e)))))
end
end Go.Bo
set_option maxHeartbeats 4000000
namespace Go.Bo
open Go Go.Ls
theorem Gl{l:List Int}(h:∀x,x∈l->0<=x):rp l=true:=bR.2 λx a=>av (h x a)
theorem QO{n:Nat}:rp (List.replicate n 0)=true:=Gl λx a=>by rw[dh a];exact bX 0
theorem QP(n:Nat):rp (pp n)=true:=by
 refine Gl λx a=>?_;unfold pp at a;rcases bD.1 a with a|a;.simp only[co,List.not_mem_nil,or_false]at a;omega
 .rw[dh a];exact bX 0
theorem BT{c:D cc}(hd:∀f,f∈ea c->∀x,x∈f.2.1->0<=(x:Int)):∀i,i<=(ea c).length->∀x,x∈mO c i->rp x=true
 |0,_=>λx a=>by rw[dh a];exact QO
 |i+1,o=>by
  have d:(ea c)[i]?=some ((ea c)[i]'(by omega)):=G (by omega);generalize(ea c)[i]'(by omega)=f at d;have h:=hd f (Y d);have l:=BT hd i (by omega)
  have e:∀(b:BL)(j:Nat)(y:List Int),(∀x,x∈b->rp x=true)->rp y=true->∀x,x∈b.set j y->rp x=true:=λb j y g k x a=>by
   rcases cM a with a|rfl;.exact g x a
   .exact k
  have n:∀j,∀x,x∈sa c f i (mO c i) j->rp x=true:=by intro j;induction j with
   |zero=>exact l
   |succ j m=>exact e _ _ _ m (Gl λx a=>h x (jy (eB a)))
  rw[A1 d];exact e _ _ _ (n _) (QP _)
theorem Mr{a:eI}{ls:List (List Int)}(h:VA a ls):Vt a:=by
 obtain⟨v,g,d⟩:=h.g;obtain⟨u,t,o⟩:=D5 h;have s:=g.nn;refine⟨by show(lH a).length<=1000;omega,by show(cw a).length<=1000;omega,λz n k r=>?_,by show(cP a).length<=1000;omega,λc f=>?_⟩;.have e:=tQ (tU (h.vz z n)).1;exact⟨_,e.qC k (by omega),aU (e.len k) (by decide)⟩
 .obtain⟨j,i⟩:=bn f;have b:=(uM h i).1;have:=qY h b;refine⟨by show c.1.length<=1000;omega,λl d=>?_⟩;obtain⟨q,m⟩:=bn d;obtain⟨_,_,p,_⟩:=lu h b m;show l.length<=1000;omega
theorem Qq{f:Int}{t:D rN}{e:Int}(h:sy (f,())=some (t,e,())):Sh t.2.1/\t.2.2.1=[]:=by
 have d:Ok (sy (f,())) λr=>Sh r.1.2.1/\r.1.2.2.1=[]:=by
  have c:Ok (yh (f,())) λ_=>True:=by unfold yh;exact aN (λ_=>ab trivial) λ_=>ab trivial
  unfold sy;exact bb c λ_ _=>aN (λ_=>ab ⟨aP _,rfl⟩) λ_=>ab ⟨by show(1:Nat)<=1000;decide,rfl⟩
 obtain⟨r,a,b⟩:=d;rw[h]at a;cases a;exact b
theorem X1{c:D cc}(A:u5 c){m:Nat}{t:D kO}{a0:eI}{fr0:List uX}{n8:Int}{ac0:List fj}{ag:List (List Int)}{so:List (Int×Int×Unit)}{n13:Int}{fi:List (D jZ)}{dn dm:Int}{b:BL}(B:∀f,f∈fr0->SF f)(z:ac0.length<=8)(q0:fi.length<=4):∀{i:Nat}{k:Kn},od c (AE c 0 0 m t a0 fr0 n8 ac0 ag so n13 fi dn dm b []) i k->∃a fr ac pr,k=AE c 0 0 m t a fr n8 ac ag so n13 fi dn dm b pr/\(∀f,f∈fr->SF f)/\ac.length<=8/\∀p,p∈pr->Vr p:=by
 intro i k h
 induction h with
  |zero=>exact⟨_,_,_,_,rfl,B,z,λp n=>by cases n⟩
  | @succ i k p j u f x0 q e p0 n l s0 r0 u0 g x z0=>
  obtain⟨a,fr,ac,pr,rfl,o,t0,v⟩:=z0;obtain⟨r,s,y0⟩:=Dq ac p.1 1;have l:yk (ac,p.1,1,())=some (j,q,0,()):=l;rw[l]at s;cases s;have o0:j.length=ac.length:=(y0 rfl).1;have g:f.toNat<fr.length:=g;have C:fr[f.toNat]?=some fr[f.toNat]:=G g;obtain⟨w0,v0⟩:=Qq x;refine⟨u,fr.set f.toNat (Qf ((fr[f.toNat]?).getD vO) p.1 (i:Int)),j,pr++[Ya p x0 (mE fi)],rfl,λy d=>?_,by omega,λy d=>?_⟩
  .
   rcases cM d with d|rfl;.exact o y d
   .rw[C];have w:=o _ (ew g);exact⟨w.1,w.2⟩
  .
   rcases bD.1 d with d|d;.exact v y d
   .rcases cj.1 d with rfl;have:=(A.prog p (Y n)).1;refine⟨by show List.length p.2.1<=1000;omega,w0,v0,aP _,aP _,aP _,?_⟩;show(mE fi).length<=1000;unfold mE;rw[cZ];omega
theorem QY{n:Int}{t:D kO}{e:Int}(h:Hk (n,())=some (t,e,())):t.2.1=[]:=by
 have c:Ok (Hk (n,())) λr=>r.1.2.1=[]:=by unfold Hk;exact aN (λ_=>ab rfl) λ_=>aN (λ_=>ab rfl) λ_=>ab rfl
 obtain⟨r,a,b⟩:=c;rw[h]at a;cases a;exact b
theorem QX{n:Int}{t:D zO}{e:Int}(h:Hj (n,())=some (t,e,())):t.2.1=[]:=by
 have c:Ok (Hj (n,())) λr=>r.1.2.1=[]:=by unfold Hj;exact aN (λ_=>ab rfl) λ_=>aN (λ_=>ab rfl) λ_=>ab rfl
 obtain⟨r,a,b⟩:=c;rw[h]at a;cases a;exact b
theorem QW{n:Int}{t:D zN}{e:Int}(h:Hg (n,())=some (t,e,())):t.2.1=[]:=by
 have c:Ok (Hg (n,())) λr=>r.1.2.1=[]:=by unfold Hg;exact aN (λ_=>ab rfl) λ_=>aN (λ_=>ab rfl) λ_=>ab rfl
 obtain⟨r,a,b⟩:=c;rw[h]at a;cases a;exact b
theorem WN{n:Int}(a:0<=n)(h1:n<=64){t:D tX}{e:Int}(h:Da (n,())=some (t,e,())):t=List.replicate n.toNat (0,0,()):=by
 have c:Ok (Da (n,())) λr=>r.1=List.replicate n.toNat (0,0,()):=by unfold Da;exact aw (cH a) (aw (cH h1) (aq (jj a (by show n<=10000;omega) (by decide)) (ab rfl)))
 obtain⟨r,h1,b⟩:=c;rw[h]at h1;cases h1;exact b
theorem Xl{g:List (List Int)}(h:Hh ()=some (g,())):g=List.replicate 4 []:=by
 have c:Ok (Hh ()) λr=>r.1=List.replicate 4 []:=by unfold Hh;exact aq (jj (by decide) (by decide) (by decide)) (ab rfl)
 obtain⟨r,a,b⟩:=c;rw[h]at a;cases a;exact b
theorem ZJ:DZ (zK,zK,())=some (true,()):=by
 refine Tu (c:=zK.1) (n1:=0) (n2:=0) (m:=0) (t:=(0,[],())) (a:=zA) (fr:=[]) (n8:=0) (ac:=[]) (ag:=[]) (so:=[]) (n13:=0) (fi:=[]) (dn:=0) (dm:=0) (b:=[]) (pr:=[]) ?_ rfl;have a:∀{b:Type}{c:b->Prop},∀x,x∈([]:List b)->c x:=λx d=>by cases d
 exact⟨aP _,rfl,⟨aP _,aP _,a,aP _,a⟩,⟨aP _,a⟩,aP _,⟨aP _,a⟩,aP _,⟨aP _,a⟩,⟨aP _,a⟩,⟨aP _,a⟩⟩
theorem M6{c:D cc}(e:dq c=true):∀{i:Nat},i<=(ea c).length->∀y,y∈nR c i->(show List Int from y.2.2.2.2.2.2.2.1.2.1.1).length=8/\Sh (show List Bool from y.2.2.2.2.2.2.2.2.1):=by
 intro i
 induction i with
  |zero=>exactλ_ y a=>by cases a
  |succ i g=>
  intro h y a;have b:(ea c)[i]?=some ((ea c)[i]'(by omega)):=G (by omega);generalize(ea c)[i]'(by omega)=f at b;have d:=Cu e (Y b);rw[xR b]at a;rcases bD.1 a with a|a;.exact g (by omega) y a
  .rcases cj.1 a with rfl;refine⟨rfl,?_⟩;show(mq (ot f) (i4 f)).length<=1000;rw[nW d.s];have:=d.xx;omega
theorem Ue{c:D cc}(b:u5 c)(hd:∀f,f∈ea c->∀x,x∈f.2.1->0<=(x:Int)){k:Kn}(h:SJ c k):DZ (k,k,())=some (true,()):=by
 rcases h with rfl|⟨j9,h9,d,o,g⟩;.exact ZJ
 .
  obtain⟨w9,z0⟩:=K2 b o;obtain⟨g9,x9⟩:=Gd w9 g.run;have d0:=Mr x9;have C:=g.fr;have y0:=g.pr;have i9:List.length (kl c)<=8:=b.np.2;have l9:0<=d/\d<=256:=by obtain⟨t,a,n,q0,p9,m,g0,p0,o0,n0,m0,l0,k0,j0,i0,v0,s,u0,_⟩:=o;obtain⟨l,p,h0,_⟩:=ya (zy b);rw[h0]at s;cases s;exact(SK b p rfl u0).1
  obtain⟨t,a,n,q0,p9,m,g0,p0,o0,n0,m0,l0,k0,j0,i0,v0,s,u0,t9,s9,r9,q9,t0,s0,rfl⟩:=o;have j:=b.om;have v:=uJ b;have e:=j;unfold dq mX at e;simp only[ae]at e;have w:=di e.1.2.2.2.1;have z:=di e.1.2.2.2.2.1;have B:=vB j (ea c).length (ar _);have m9:=B.1;rw[A3 c j]at t0;cases t0;rw[Hf w.1 w.2 (by omega) (by omega) B.2]at s0;cases s0;have y9:=QY v0;have r:=QX t9;have q:=QW q9;have c0:=Xl s9;have z9:=WN z.1 z.2 r9;obtain⟨u9,n,u⟩:=n;obtain⟨v9,m,u⟩:=m;have r:n=[]:=r;have q:m=[]:=q;subst r q c0 z9;have a0:SF vO:=⟨rfl,rfl⟩;obtain⟨o9,A,r0,w0,rfl,f0,n9,e0⟩:=X1 b (m:=c.1.length) (t:=t) (a0:=a) (fr0:=List.replicate d.toNat vO) (n8:=u9) (ac0:=CO c) (n13:=v9) (λf b0=>by rw[dh b0];exact a0) v.a z0.1 g.run;have C:A.length=d.toNat:=C;have y0:w0.length=(kl c).length:=y0;refine Tu ⟨?_,y9,d0,⟨?_,f0⟩,?_,⟨by decide,λl p=>?_⟩,?_,⟨?_,λy x0=>?_⟩,⟨?_,BT hd _ (ar _)⟩,⟨?_,e0⟩⟩ rfl;.have:c.1.length<=4:=v.n;omega
  .show A.length<=1000;omega
  .show r0.length<=1000;omega
  .rw[dh p];exact aP _
  .show(List.replicate _ _).length<=1000;rw[aR];omega
  .have:=z0.1;exact aU this (by decide)
  .obtain⟨i,k9⟩:=bn x0;exact M6 j (ar _) y x0
  .show(mO c (ea c).length).length<=1000;omega
  .show w0.length<=1000;omega
end Go.Bo
