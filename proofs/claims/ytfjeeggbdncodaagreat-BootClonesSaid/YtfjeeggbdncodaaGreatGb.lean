/-
  Rules, functions and laws for the last text, part b.
-/
import Derived.Test.YtfjeeggbdncodaaGreatGa
import Derived.Deep.AppendSrc
import Derived.Laws.BytesString
import Derived.Deep.Upon
import Derived.Great.BuildSlice
set_option linter.unusedVariables false
set_option linter.unusedSimpArgs false
set_option linter.constructorNameAsVariable false
set_option linter.unusedSectionVars false
noncomputable section
namespace Go.Ls
open Go Go.Hm
def Mv(S:SS)(h:St)(E:En){R:Type}(K:SV->SS->Option R)(r:R)(o:Option Rs):Prop:=∃s v b a c,o=some (.val v b)/\da a b c/\Gr S h E a b c/\a.dE=S.dE/\b.dE=h.dE/\V c s v/\K s a=some r
def Ma(S:SS)(h:St)(E:En){R:Type}(K:SS->Option R)(r:R)(o:Option Rs):Prop:=∃b a c,o=some (.G6 b)/\da a b c/\Gr S h E a b c/\a.dE=S.dE/\b.dE=h.dE/\K a=some r
section
variable{E:En}{S:SS}{h:St}{cy:Cy}{R:Type}{r:R}{K:SV->SS->Option R}
theorem Pu.mv(M:da S h E){o:Option Rs}(p:Pu E h (λv=>K v S) r o):Mv S h E K r o:=by obtain⟨s,v,a,b,c⟩:=p;exact⟨s,v,h,S,E,a,M,Gr.refl,rfl,rfl,b,c⟩
theorem lx{hp':Tr Hm.Obj}{n:Nat}{o:Option Nat}{st:Tr iK}:(OV E hp' n o st).mb n=o:=by show(bif Nat.beq n n then o else E.mb n)=_;rw[show Nat.beq n n=true by simp];rfl
theorem vy(M:da S h E){X:Hm.Obj}(b:Nat)(a:h.nx+1<=b):(h.hp.set h.nx X).ap b=none:=by rw[Tr.dg,aG (by omega)];exact M.fr b (by omega)
theorem pF{X:Hm.Obj}(b:Nat)(a:b<h.nx):(h.hp.set h.nx X).ap b=h.hp.ap b:=by rw[Tr.dg,aG (by omega)]
theorem BZ(M:da S h E){l:List SV}{c:List HV}{z:Nat}(g:dy E l c):∃E',da (S.bT (.box z l)) (h.bT z c).2 E'/\Gr S h E (S.bT (.box z l)) (h.bT z c).2 E'/\E'.mb S.nx=some h.nx/\E'.nx=S.nx+1:=by have:=nj (st1:=S.st) (hp':=h.hp.set h.nx (.cn ⟨true,z,c.length,cr .e 0 c⟩)) (nx':=h.nx+1) (o:=some h.nx) (e:= .box z l) M (λ_ _ h=>h) (λj e f=>absurd f e) (λb a=> .inl (pF b a)) (dz _) (λb a=>vy M b a) (λb a=>by cases a;exact⟨bf _,.inl (ar _)⟩) λ_ d=>⟨h.nx,_,c,lx,Tr.a8 _ _ _,rfl,rfl,by have:=ic (T:=(.e:Tr HV)) (w:=true) (z:=z) (n:=c.length) (p:=0) (c:=c) (by omega);exact this,d _ _ g⟩;exact⟨_,this.1,this.2,lx,rfl⟩
theorem H3(M:da S h E){e:U}{xs:List (D e)}{c:List HV}(l:xs.length<=140737488355328)(m:xs.length*e.size<=c.length)(k:∀i x,xs[i]?=some x->∃cs,cu ⟨true,e.size,c.length,cr .e 0 c⟩ (i*e.size) e.size=some cs/\dw E.hp E.Z e cs x):∃E',da (S.bT (.row e xs)) (h.bT e.size c).2 E'/\Gr S h E (S.bT (.row e xs)) (h.bT e.size c).2 E'/\E'.mb S.nx=some h.nx/\E'.nx=S.nx+1/\E'.st.ap S.nx=some (.row e xs):=by have:=nj (st1:=S.st) (hp':=h.hp.set h.nx (.cn ⟨true,e.size,c.length,cr .e 0 c⟩)) (nx':=h.nx+1) (o:=some h.nx) (e:= .row e xs) M (λ_ _ h=>h) (λj f g=>absurd g f) (λb a=> .inl (pF b a)) (dz _) (λb a=>vy M b a) (λb a=>by cases a;exact⟨bf _,.inl (ar _)⟩) λd _=>⟨l,by rw[lx];exact⟨_,Tr.a8 _ _ _,rfl,rfl,m,λi x n=>by obtain⟨cs,o,p⟩:=k i x n;exact⟨cs,o,d _ _ _ p⟩⟩⟩;exact⟨_,this.1,this.2,lx,rfl,Tr.a8 _ _ _⟩
theorem I8(M:da S h E){t:Nat}{l:List SV}(a:Kb cy.cx t=some l)(j:K (.box S.nx 0) (S.bT (.box 0 l))=some r):Mv S h E K r (nT cy.cx h t):=by
 unfold Kb at a;split at a
 .
  rename_i x k;split at a
  .
   rename_i z m;split at a;.rename_i c i;cases a;obtain⟨b,d,e,f,g⟩:=BZ (z:=0) M (nh c);refine⟨_,.ptr h.nx 0,_,_,b,?_,d,e,rfl,rfl,lZ.2 ⟨by rw[g];exact bf _,h.nx,f,rfl⟩,j⟩;unfold nT;rw[k];simp only;rw[m];simp only;rw[i]
   .cases a
  .cases a
 .cases a
theorem Ps(M:da S h E){s:SV}{v:HV}{l:List SV}(k:s.rt=some l)(m:V E s v)(j:K (.box S.nx 0) (S.bT (.box 0 l))=some r):Mv S h E K r (s8 h v):=by obtain⟨c,g,i,_,_⟩:=lR k m;obtain⟨a,b,d,e,f⟩:=BZ (z:=0) M i;refine⟨_,.ptr h.nx 0,_,_,a,?_,b,d,rfl,rfl,lZ.2 ⟨by rw[f];exact bf _,h.nx,e,rfl⟩,j⟩;unfold s8;rw[g]
theorem Ei{l:List SV}{c:List HV}(a:dy E l c):∀n,dy E (HQ l n) (hJ c n)
 |0=>by unfold HQ hJ dy;rfl
 |n+1=>by unfold HQ hJ;exact o7.2 ⟨c,hJ c n,rfl,a,Ei a n⟩
theorem EU{cx:Cx}{e:Nat}{y:El}(h:cx.wd e=some y):y.zc.length=y.z/\cx.size e=some y.z/\1<=y.lX:=by
 unfold Cx.wd at h;split at h
 .
  rename_i x b;split at h
  .
   split at h
   .
    rw[aH]at h;split at h;.rename_i a;simp only[ae,bS]at a;cases h;exact⟨au a.2.2,by unfold Cx.size;rw[b],a.2.1⟩
    .cases h
   .cases h
  .cases h
 .cases h
theorem pt{cx:Cx}{t:Nat}{y:El}(h:cx.gd t=some y):y.zc.length=y.z/\1<=y.lX:=by
 unfold Cx.gd at h;split at h
 .
  split at h;.have:=EU h;exact⟨this.1,this.2.2⟩
  .cases h
 .cases h
theorem pK{t:Nat}{y:El}{u:U}(b:cy.cx.gd t=some y)(a:Lh cy t=some u):y.z=u.size:=by
 unfold Cx.gd at b;unfold Lh at a;split at b
 .
  rename_i x f;rw[f]at a;simp only at a;split at b
  .
   rename_i e c;rw[c]at a;simp only at a;split at a
   .
    rename_i g _;rw[(EU b).2.1]at a;simp only at a;rw[aH]at a;split at a;.rename_i d;cases a;exact(au d).symm
    .cases a
   .cases a
  .cases b
 .cases b
theorem zp(M:da S h E){t n:Nat}{ps:List (Nat×SV)}{k:List (Nat×HV)}(a:th cy S t n ps K=some r)(hp:PV E ps k):Mv S h E K r (fg cy.cx h t n k):=by
 unfold th at a;split at a
 .
  rename_i y j;rw[aH]at a;split at a
  .
   rename_i f;rw[aH]at a;split at a
   .
    rename_i b;rw[ae,List.isEmpty_iff]at b;obtain⟨b,rfl⟩:=b;have b:n=0:=au b;subst b;split at a
    .
     rename_i u C;have B:k=[]:=by unfold PV at hp;first|exact hp|simpa using hp
     subst B;have z0:=pK j C;obtain⟨g,y0,x0,w0,v0,m⟩:=H3 (e:=u) (xs:=[]) (c:=[]) M (by simp) (by simp) (λi w D=>by cases D);refine⟨_,.sl h.nx 0 0,_,_,g,?_,y0,x0,rfl,rfl,ij.2 ⟨by rw[v0];exact bf _,rfl,λe s0 d=>?_,λt0 u0 d z=>by rw[m]at d;cases d;cases z⟩,a⟩;.unfold fg;rw[j];simp only;rw[f,z0];rfl
     .rw[m]at d;cases d;rw[w0];rfl
    .cases a
   split at a
   .
    rename_i l A;obtain⟨c,v,x⟩:=sZ A hp (Ei (nh y.zc) n);obtain⟨g,o,p,q,s⟩:=BZ (z:=y.z) M x;refine⟨_,.sl h.nx 0 n,_,_,g,?_,o,p,rfl,rfl,uS.2 ⟨by rw[s];exact bf _,h.nx,q,rfl,?_⟩,a⟩;.unfold fg;rw[j];simp only;rw[f,v];rfl
    .simp only[ae,bS]at f;exact f.1
   .cases a
  .cases a
 .cases a
theorem zW:∀c:List HV,dI (ov c)=[]
 |[]=>by unfold ov;exact ka
 |v::c=>by unfold ov;rw[eW,zW c,bi];cases v<;>(unfold wR fb;rfl)
theorem HP{α:Type}{Q:List HV->α->Prop}{c:List HV}{x:α}(h:Q c x):∀n,mB Q (hJ c n) (List.replicate n x)
 |0=>rfl
 |n+1=>by rw[g5];exact⟨c,hJ c n,rfl,h,HP h n⟩
theorem sM(l:List HV):∀k,(hJ l k).length=k*l.length
 |0=>by simp[hJ]
 |k+1=>by unfold hJ;rw[az,sM l k,iG];omega
theorem ud{n b:Nat}(h:gL n b=true)(a:1<=b):n<=140737488355328:=by unfold gL at h;simp only[bS]at h;have h:n*b<=4294967296:=h;have:n*1<=n*b:=jS n a;omega
theorem Ge{u e:U}(h:Gf u=some e):u= .bc e:=by
 unfold Gf at h;split at h;.cases h;rfl
 .cases h
theorem Eh(v:HV):∀(k i:Nat),i<k->(hJ [v] k)[i]?=some v
 |0,i,h=>by omega
 |k+1,i,h=>by unfold hJ;cases i with
  |zero=>rfl
  |succ i=>exact Eh v k i (by omega)
theorem OU(M:da S h E){e:U}{m k:Nat}(v:m<=k)(p:m<=140737488355328):∃E',da (S.bT (.rows S.nx e (List.replicate m ([]:List (D e))))) (h.bT 1 (hJ [.cK] k)).2 E'/\Gr S h E (S.bT (.rows S.nx e (List.replicate m []))) (h.bT 1 (hJ [.cK] k)).2 E'/\E'.mb S.nx=some h.nx/\E'.nx=S.nx+1/\E'.st.ap S.nx=some (.rows S.nx e (List.replicate m ([]:List (D e)))):=by
 have u:(hJ [HV.cK] k).length=k:=by rw[sM];simp
 have:=nj (st1:=S.st) (hp':=h.hp.set h.nx (.cn ⟨true,1,(hJ [HV.cK] k).length,cr .e 0 (hJ [.cK] k)⟩)) (nx':=h.nx+1) (o:=some h.nx) (e:= .rows S.nx e (List.replicate m ([]:List (D e)))) M (λ_ _ h=>h) (λj f n=>absurd n f) (λb a=> .inl (pF b a)) (dz _) (λb a=>vy M b a) (λb a=>by cases a;exact⟨bf _,.inl (ar _)⟩) λt _=>by
  have d:∀i,(OV E (h.hp.set h.nx (.cn ⟨true,1,(hJ [HV.cK] k).length,cr .e 0 (hJ [.cK] k)⟩)) S.nx (some h.nx) (S.st.set S.nx (.rows S.nx e (List.replicate m ([]:List (D e)))))).ib S.nx i=none:=λi=>by show(bif Nat.beq S.nx S.nx then none else E.ib S.nx i)=_;rw[show Nat.beq S.nx S.nx=true by simp];rfl
  refine⟨bf _,by rw[aR];exact p,.inr ⟨h.nx,_,lx,Tr.a8 _ _ _,rfl,rfl,by rw[aR];show m<=(hJ [HV.cK] k).length;omega,λi l g=>?_,λi _=>d i,λi j c f=>(by rw[d]at f;cases f),λi=>by rw[d];simp⟩⟩;have o:i<m:=by have:=(aj.1 g).1;simpa using this
  rw[cm,aE o]at g;cases g;refine⟨by simp,⟨.cK,?_,?_⟩,?_⟩
  .
   rw[fy];refine⟨rfl,λq w=>?_⟩;have s:q=0:=by omega
   subst s;refine⟨by show i+0<(hJ [HV.cK] k).length;omega,?_⟩;show(cr .e 0 (hJ [HV.cK] k)).ap (i+0)=_;rw[gK,aE (by omega),show i+0-0=i by omega,Eh _ _ _ (by omega)];rfl
  .rw[d];exact⟨rfl,.inl rfl⟩
  .rw[d];rfl
 exact⟨_,this.1,this.2,lx,rfl,Tr.a8 _ _ _⟩
theorem AD(M:da S h E){t:Nat}{l c:SV}{q0 r0:HV}(g:ul cy S t l c K=some r)(s0:V E l q0)(t0:V E c r0):Mv S h E K r (iC cy.cx h t q0 r0):=by
 unfold ul at g;split at g
 .
  rename_i y u s i0;split at g
  .
   rename_i q9 s9 m p9 r9 k;rw[dT]at s0 t0;subst s0;subst t0;split at g
   .
    rename_i x g0;obtain⟨f,j⟩:=eC g;unfold gP at f;simp only[ae,bF]at f;obtain⟨b,rfl⟩:∃n:Nat,m=Int.ofNat n:=⟨_,qd f.1⟩;obtain⟨a,rfl⟩:∃n:Nat,k=Int.ofNat n:=⟨_,qd (by omega)⟩;have o:b<=a:=lm.1 f.2.1;obtain⟨e0,u0⟩:=pt s;have C:=pK s i0;split at j
    .
     rename_i o0 A;have A:=Ge A;subst A;split at j
     .
      rename_i f0;obtain⟨v,D,z0,y0,x0,q⟩:=OU (e:=o0) (m:=b) (k:=a) M o (aU o (ud f.2.2 u0));refine⟨_,.sl h.nx 0 b,_,_,v,?_,D,z0,rfl,rfl,ij.2 ⟨by rw[x0];exact bf _,rfl,λe y9 d=>(by rw[q]at d;cases d),λz9 o9 d B=>?_⟩,j⟩;.unfold iC;rw[s];simp only[i5];rw[show(Nat.ble b a&&gL a y.lX)=true by rw[ae];exact⟨by simpa using o,f.2.2⟩];rw[f0,C];rfl
      .rw[q]at d;cases d;cases B;rw[y0];show _=HV.sl h.nx 0 (List.replicate b _).length;rw[aR]
     .cases j
    obtain⟨x9,u9,w0,n0,v0,_⟩:=rZ (k:=0) (Q:=E.Z) (E:=E) (λ_ h=>h) (λm e j0=>M.gm m e (by rw[<-M.st];exact j0)) (by rw[M.st];exact g0) (nh y.zc) (by unfold qv;exact zW _);unfold dy at v0;subst v0;rw[bi]at w0;subst w0;have k0:(hJ y.zc a).length=a*u.size:=by rw[sM,e0,C]
    have t9:a<=140737488355328:=ud f.2.2 u0;have z:(List.replicate b x).length=b:=by simp
    obtain⟨v,D,z0,y0,x0,q⟩:=H3 (e:=u) (xs:=er (Int.ofNat b) x) (c:=hJ y.zc a) M (by show(List.replicate b x).length<=_;rw[z];omega) (by show(List.replicate b x).length*_<=_;rw[z,k0];exact cq _ o) λi w p=>by
     have p:(List.replicate b x)[i]?=some w:=p;have l0:i<b:=by have:=(aj.1 p).1;simpa using this
     have h0:(List.replicate a x)[i]?=some w:=by rw[cm,aE l0]at p;rw[cm,aE (by omega)];exact p
     obtain⟨w9,p0,v9,d0,c0,b0,a0⟩:=lf (z:=u.size) (λ_ _ h=>h.len) (HP n0 a) h0;refine⟨p0,?_,a0⟩;have m0:=ic (T:=(.e:Tr HV)) (w:=true) (z:=u.size) (n:=(hJ y.zc a).length) (p:=0) (c:=hJ y.zc a) (by omega);have:=eL m0 d0 c0 b0;rw[br]at this;exact this
    refine⟨_,.sl h.nx 0 b,_,_,v,?_,D,z0,rfl,rfl,ij.2 ⟨by rw[x0];exact bf _,rfl,λe y9 d=>?_,λz9 a d B=>by rw[q]at d;cases d;cases B⟩,j⟩;.unfold iC;rw[s];simp only[i5];rw[show(Nat.ble b a&&gL a y.lX)=true by rw[ae];exact⟨by simpa using o,f.2.2⟩];rw[C];rfl
    .rw[q]at d;cases d;rw[y0];show _=HV.sl h.nx 0 (List.replicate b x).length;rw[z]
   .cases g
  .cases g
 .cases g
theorem jE{b o:Nat}{y:gY}{c:List HV}(a:h.hp.ap b=some (.cn y))(f:y.own=true)(d:bw b h.lk=false)(e:o+c.length<=y.n):h.fD b o c=some ⟨h.nt,h.dE,h.hp.set b (.cn ⟨true,y.z,y.n,cr y.c o c⟩),h.nx,h.lk,h.df⟩:=by unfold St.fD;rw[jb a];simp only;rw[show(y.own&&(h.gV b&&Nat.ble (Nat.add o c.length) y.n))=true by rw[f];unfold St.gV;rw[d];simp only[dS,lh,bS];exact e];rfl
theorem mc(M:da S h E){m b:Nat}{e:iK}(d:S.st.ap m=some e)(c:Bk E m b)(a:bw m S.lk=false):bw b h.lk=false:=by cases f:bw b h.lk with
 |false=>rfl
 |true=>rw[(M.lk b f).2 m e d c]at a;cases a
theorem gy{m:Nat}(a:S.kt m=true):S.jQ m=true/\bw m S.lk=false:=by unfold SS.kt at a;simp only[ae]at a;exact⟨a.1,by simpa using a.2⟩
theorem Eg{g i j:List SV}{o z:Nat}(hp:xt g o z i=some j)(m:Nat)(e:m∈dI j):m∈dI g\/m∈dI i:=by
 unfold xt at hp;split at hp
 .
  rename_i a b f;split at hp
  .
   rename_i c d k;cases hp;rw[pW,pW]at e;simp only[bD]at e;rcases e with e|e|e;.exact .inl (vp f m (.inl e))
   .exact .inr e
   .exact .inl (vp f m (.inr (vp k m (.inr e))))
  .cases hp
 .cases hp
theorem Jg{α:Type}{R:List HV->α->Prop}{z:Nat}(s:∀c x,R c x->c.length=z):∀{xs:List α}{cs b d2 g d:List HV}{k:Nat}{x:α},mB R cs xs->cs=b++(d2++g)->b.length=k*z->d2.length=z->k<xs.length->R d x->mB R (b++(d++g)) (xs.set k x)
 |[],_,_,_,_,_,_,_,_,_,_,_,l,_=>by cases l
 |a::xs,cs,b,d2,g,d,0,x,⟨c,m,e,j,q⟩,i,f,t,l,u=>by rw[gf]at f;have f:=eR.1 f;subst f;rw[e]at i;have n:c++m=d2++g:=i;obtain⟨rfl,rfl⟩:=kE n (by rw[s _ _ j,t]);exact⟨d,m,rfl,u,q⟩
 |a::xs,cs,b,d2,g,d,k+1,x,⟨c,m,e,j,q⟩,i,f,t,l,u=>by have w:=s _ _ j;rw[iG]at f;obtain⟨o,p,rfl,v⟩:∃o p,b=o++p/\o.length=z:=⟨b.take z,b.drop z,(dQ z b).symm,by rw[aY];omega⟩;rw[e,cA]at i;obtain⟨rfl,n⟩:=kE i (by rw[w,v]);rw[az,v]at f;have:=Jg (k:=k) s q n (by omega) t (by simpa using l) u;refine⟨c,p++(d++g),by rw[cA],j,this⟩
theorem Ad(M:da S h E){m b j:Nat}{r9:iK}{e:U}{xs:List (List (D e))}{ys:List (D e)}{y:gY}{v:HV}{o:Option Nat}{st1:Tr iK}(h1:∀a g,st1.ap a=some g→S.st.ap a=some g)(h2:∀a,S.st.ap a≠none→st1.ap a=none→S.jQ a=true)(a9:st1.ap m=some r9)(ht:r9.rn=some xs.length)(hlen:xs.length≤140737488355328)(hW:LQ E m e xs j)(o0:S.jQ m=true)(r0:E.mb m=some b)(hy:E.hp.ap b=some (.cn y))(hj:j<xs.length)(j0:∀c,o=some c→∃a g,S.st.ap a=some g∧Bk E a c∧st1.ap a=none∧bw a S.lk=false)(hv:ge o ys.length v)(hr:gB E o e ys)(j9:ys.length≤140737488355328):∃E',da (S.mem (st1.set m (.rows S.nx e (xs.set j ys))) (Nat.add S.nx 1)) ⟨h.nt,h.dE,h.hp.set b (.cn ⟨true,y.z,y.n,cr y.c j [v]⟩),h.nx,h.lk,h.df⟩ E'∧Gr S h E (S.mem (st1.set m (.rows S.nx e (xs.set j ys))) (Nat.add S.nx 1)) ⟨h.nt,h.dE,h.hp.set b (.cn ⟨true,y.z,y.n,cr y.c j [v]⟩),h.nx,h.lk,h.df⟩ E':=by
 have C:=h1 m _ a9;obtain⟨b',y',p1,p2,p3,p4,p5,p6,p7,p8,p9⟩:=hW;rw[r0]at p1;cases p1;rw[hy]at p2;cases p2;let h9:=h.hp.set b (.cn ⟨true,y.z,y.n,cr y.c j [v]⟩);let y9:=st1.set m (.rows S.nx e (xs.set j ys));let w0:Nat→Nat→Option Nat:=fun a k=>if a=m∧k=j then o else E.ib a k;have n0:∀a,a≠m→∀k,w0 a k=E.ib a k:=fun a d k=>aG fun h=>d h.1;have a0:w0 m j=o:=aE ⟨rfl,rfl⟩;have l0:∀k,k≠j→w0 m k=E.ib m k:=fun k k0=>aG fun h=>k0 h.2;have k9:∀a,y9.ap a=if a=m then some (.rows S.nx e (xs.set j ys))else st1.ap a:=fun a=>Tr.dg _ _ _ _
 have z:∀a g,y9.ap a=some g→a=m∧g= .rows S.nx e (xs.set j ys)∨a≠m∧st1.ap a=some g∧S.st.ap a=some g:=by
  intro a g d;rw[k9]at d;split at d;·cases d;exact .inl ⟨by assumption,rfl⟩
  ·exact .inr ⟨by assumption,d,h1 a g d⟩
 let E':En:=⟨h9,E.Z,E.mb,w0,y9,S.nx+1,E.lo⟩
 have q0:∀a,a≠m→∀c,Bk E' a c↔Bk E a c:=by
  intro a d c;show(E.mb a=some c∨∃i,w0 a i=some c)↔_;constructor
  ·
   rintro(q|⟨i,q⟩);·exact .inl q
   ·rw[n0 a d]at q;exact .inr ⟨i,q⟩
  ·
   rintro(q|⟨i,q⟩);·exact .inl q
   ·exact .inr ⟨i,by rw[n0 a d];exact q⟩
 have g0:∀c,Bk E' m c→Bk E m c∨o=some c:=by
  rintro c(q|⟨i,q⟩);·exact .inl (.inl q)
  ·
   have q:w0 m i=some c:=q;by_cases y0:i=j;·subst y0;rw[a0]at q;exact .inr q
   ·rw[l0 i y0]at q;exact .inl (.inr ⟨i,q⟩)
 have w9:∀c,o=some c→¬Bk E m c:=by intro c q w;obtain⟨a,g,p,A,s9,_⟩:=j0 c q;have:=M.inj a m g _ c p C A w;subst this;rw[a9]at s9;cases s9
 have c0:∀c,c≠b→h9.ap c=E.hp.ap c:=fun c o0=>by show(h.hp.set b _).ap c=_;rw[Tr.bW _ _ o0,M.hp]
 have u9:∀c,E.Z c→h9.ap c=E.hp.ap c:=fun c d0=>c0 c (by rintro rfl;exact(M.own m _ c C (.inl r0)).1 d0)
 have f:Fm E.nx E E':=by
  refine⟨rfl,fun a c w d z0=>?_,fun _ q=>q,u9,by rw[M.nx];exact dz _,fun _ _=>rfl,fun a u i0 d z0=>?_,fun a t k d z0 k0=>?_,fun a g' u i0 d b9 z0=>?_⟩
  ·
   rcases z a _ z0 with⟨_,q⟩|⟨n,_,q⟩;·cases q
   ·refine⟨c,by rw[M.st];exact q,id,n0 a n,fun x g9=>?_⟩;have:E'.hp.ap x=E.hp.ap x:=c0 x (by rintro rfl;exact n (M.inj a m _ _ x q C (.inr g9) (.inl r0)));rw[this];exact fK c _
  ·
   rcases z a _ z0 with⟨_,q⟩|⟨_,_,q⟩;·cases q
   ·exact⟨i0,by rw[M.st];exact q,rfl⟩
  ·
   rcases z a _ z0 with⟨rfl,q⟩|⟨_,_,q⟩;·cases q;cases k0;exact⟨r9,by rw[M.st];exact C,by rw[ht];simp⟩
   ·exact⟨t,by rw[M.st];exact q,k0⟩
  ·
   rcases z a _ z0 with⟨rfl,q⟩|⟨n,_,q⟩;·cases q;rw[M.nx]at b9;omega
   ·exact⟨i0,by rw[M.st];exact q,fp.refl,n0 a n⟩
 refine⟨E',⟨rfl,rfl,rfl,fun a g d=>?_,fun a g d=>?_,fun a h0 p0 d9 c d c9 q9 p9=>?_,fun a g c d B=>?_,M.z,fun c o0=>?_,fun c e0=>⟨(M.lk c e0).1,fun a g d B=>?_⟩,fun a c B=>?_,fun a g d hne'=>?_,fun c d0 j9=>by obtain⟨x,o9,n9⟩:=M.zo c d0 j9;exact⟨x,by rw[←o9];exact(u9 c d0).trans (by rw[M.hp]),n9⟩⟩,⟨rfl,rfl,rfl,rfl,rfl,rfl,rfl,rfl,ar _,dz _,fun _ q=>q,fun c d0=> .inl d0,fun c hlt i9=>?_,fun c i9=>?_,fun _ _=>rfl,fun a d f0=>?_,fun a d l9=>?_,fun a u i0 d z0=>?_,fun c a g e0 d B=>?_,fun a t k d z0 k0=>?_,fun a g' u i0 d b9 z0=>?_,fun a d f0=>?_,rfl,fun a c w d z0=>?_⟩⟩
 ·
  rcases z a _ d with⟨rfl,_⟩|⟨_,_,q⟩;·exact qw (M.lt _ _ C)
  ·exact qw (M.lt _ _ q)
 ·
  rcases z a _ d with⟨rfl,rfl⟩|⟨n,t0,s⟩
  ·
   refine⟨bf _,by simpa using hlen,.inr ⟨b,_,r0,Tr.a8 _ _ _,rfl,p4,by simpa using p5,fun i l z9=>?_,fun i y0=>?_,fun i m0 c p A=>?_,fun i p=>?_⟩⟩
   ·
    by_cases x9:i=j
    ·
     subst x9;rw[bq hj]at z9;cases z9;have p0:E'.ib a i=o:=a0;refine⟨j9,⟨v,?_,by rw[p0];exact hv⟩,?_⟩;·have:=ic (T:=y.c) (w:=true) (z:=y.z) (n:=y.n) (p:=i) (c:=[v]) (by simp;omega);exact this
     ·rw[p0];refine gB.fm (E:=E) (E':=E') (fun _ q=>q) u9 (fun c q=>c0 c ?_) hr;rintro rfl;exact w9 c q (.inl r0)
    ·rw[bE fun q=>x9 q.symm]at z9;obtain⟨p,⟨w,A,s9⟩,k4⟩:=p6 i l x9 z9;have y0:=(aj.1 z9).1;have p0:E'.ib a i=E.ib a i:=l0 i x9;refine⟨p,⟨w,nw A (by simp;omega) (by omega),by rw[p0];exact s9⟩,?_⟩;rw[p0];refine gB.fm (E:=E) (E':=E') (fun _ q=>q) u9 (fun c q=>c0 c ?_) k4;rintro rfl;exact p9 i q
   ·rw[bC]at y0;show w0 a i=none;rw[l0 i (by omega)];exact p7 i y0
   ·
    have p:w0 a i=some c:=p;have A:w0 a m0=some c:=A;by_cases y0:i=j
    ·
     by_cases b0:m0=j;·rw[y0,b0]
     ·subst y0;rw[a0]at p;rw[l0 m0 b0]at A;exact absurd (.inr ⟨m0,A⟩) (w9 c p)
    ·
     have kk1:E.ib a i=some c:=(l0 i y0).symm.trans p;by_cases b0:m0=j
     ·
      have f9:o=some c:=by rw[b0,a0]at A;exact A
      exact absurd (.inr ⟨i,kk1⟩) (w9 c f9)
     ·have f9:E.ib a m0=some c:=(l0 m0 b0).symm.trans A;exact p8 i m0 c kk1 f9
   ·
    have p:w0 a i=some b:=p;by_cases y0:i=j;·subst y0;rw[a0]at p;exact w9 b p (.inl r0)
    ·rw[l0 i y0]at p;exact p9 i p
  ·refine(M.gm a g s).fm f rfl (n0 a n) fun c B=>c0 c ?_;rintro rfl;exact n (M.inj a m g _ c s C B (.inl r0))
 ·
  have key:∀a g,a≠m→st1.ap a=some g→S.st.ap a=some g→Bk E a c→Bk E' m c→False:=by
   intro a g n t0 s p A;rcases g0 c A with w|w;·exact n (M.inj a m g _ c s C p w)
   ·obtain⟨x0,u0,s0,v0,w3,_⟩:=j0 c w;have:=M.inj a x0 g u0 c s s0 p v0;subst this;rw[w3]at t0;cases t0
  rcases z a _ d with⟨rfl,rfl⟩|⟨n,t0,s⟩
  ·
   rcases z h0 _ c9 with⟨rfl,rfl⟩|⟨t9,p,A⟩;·rfl
   ·exact(key h0 d9 t9 p A ((q0 h0 t9 c).1 p9) q9).elim
  ·
   rcases z h0 _ c9 with⟨rfl,rfl⟩|⟨t9,p,A⟩;·exact(key a p0 n t0 s ((q0 a n c).1 q9) p9).elim
   ·exact M.inj a h0 p0 d9 c s A ((q0 a n c).1 q9) ((q0 h0 t9 c).1 p9)
 ·
  rcases z a _ d with⟨rfl,rfl⟩|⟨n,t0,s⟩
  ·
   rcases g0 c B with w|w;·exact M.own _ _ c C w
   ·obtain⟨x0,u0,s0,v0,_⟩:=j0 c w;exact M.own x0 u0 c s0 v0
  ·exact M.own a g c s ((q0 a n c).1 B)
 ·
  have o0:h.nx≤c:=o0;show(h.hp.set b _).ap c=none;rw[Tr.bW];·exact M.fr c o0
  ·rintro rfl;have:=(M.own m _ c C (.inl r0)).2;omega
 ·
  rcases z a _ d with⟨rfl,rfl⟩|⟨n,t0,s⟩
  ·
   rcases g0 c B with w|w;·exact(M.lk c e0).2 _ _ C w
   ·obtain⟨x0,u0,s0,v0,_,e9⟩:=j0 c w;have:=(M.lk c e0).2 x0 u0 s0 v0;rw[e9]at this;cases this
  ·exact(M.lk c e0).2 a g s ((q0 a n c).1 B)
 ·
  by_cases d:a=m
  ·
   subst d;rcases g0 c B with w|w;·exact M.rq _ c w
   ·obtain⟨x0,u0,s0,v0,_⟩:=j0 c w;exact M.rq x0 c v0
  ·exact M.rq a c ((q0 a d c).1 B)
 ·
  rcases z a _ d with⟨rfl,rfl⟩|⟨n,t0,s⟩;·cases hne'
  ·intro k;show w0 a k=none;rw[n0 a n];exact M.py a g s hne' k
 ·show(h.hp.set b _).ap c=_;rw[Tr.bW];rintro rfl;exact i9 ⟨m,_,C,.inl r0⟩
 ·
  obtain⟨a,g,d,B⟩:=i9;rcases z a _ d with⟨rfl,rfl⟩|⟨n,t0,s⟩
  ·
   rcases g0 c B with w|w;·exact .inl ⟨_,_,C,w⟩
   ·obtain⟨x0,u0,s0,v0,_⟩:=j0 c w;exact .inl ⟨x0,u0,s0,v0⟩
  ·exact .inl ⟨a,g,s,(q0 a n c).1 B⟩
 ·
  show y9.ap a=_;have m9:a≠m:=by rintro rfl;rw[o0]at f0;cases f0
  rw[k9,aG m9]
  cases v9:st1.ap a with
   |some g=>exact(h1 a g v9).symm
   |none=>cases hs:S.st.ap a with
   |none=>rfl
   |some g=>have:=h2 a (by rw[hs];exact fun h=>by cases h) v9;rw[f0]at this;cases this
 ·
  show y9.ap a=_;have m9:a≠m:=by rintro rfl;rw[C]at l9;cases l9
  rw[k9,aG m9]
  cases v9:st1.ap a with
   |some g=>have:=h1 a g v9;rw[l9]at this;cases this
   |none=>rfl
 ·
  rcases z a _ z0 with⟨_,q⟩|⟨_,_,q⟩;·cases q
  ·exact⟨i0,q,rfl⟩
 ·
  rcases z a _ d with⟨rfl,rfl⟩|⟨n,t0,s⟩
  ·
   rcases g0 c B with w|w;·exact⟨_,C,w⟩
   ·obtain⟨x0,u0,s0,v0,_,e9⟩:=j0 c w;have:=(M.lk c e0).2 x0 u0 s0 v0;rw[e9]at this;cases this
  ·exact⟨g,s,(q0 a n c).1 B⟩
 ·
  rcases z a _ z0 with⟨rfl,q⟩|⟨_,_,q⟩;·cases q;cases k0;exact⟨r9,C,by rw[ht];simp⟩
  ·exact⟨t,q,k0⟩
 ·
  rcases z a _ z0 with⟨rfl,q⟩|⟨n,_,q⟩;·cases q;omega
  ·exact⟨i0,q,fp.refl,n0 a n⟩
 ·exact n0 a (by rintro rfl;rw[o0]at f0;cases f0)
 ·obtain⟨c',o9,n9,g3,g4⟩:=f.zn a c w (by rw[M.nx];exact d) z0;exact⟨c',by rw[←M.st];exact o9,n9,g3,fun x g9=>by have:=g4 x g9;rw[M.hp]at this;exact this⟩
theorem wL(M:da S h E){e:U}{w:SV}{s:List HV}{ys:List (D e)}{b:SS}(hg:Cs S e w=some (ys,b))(k:CR E w s):∃v o,s=[v]/\ge o ys.length v/\gB E o e ys/\ys.length<=140737488355328/\b=S.mem b.st S.nx/\(∀a d,b.st.ap a=some d->S.st.ap a=some d)/\(∀a,S.st.ap a≠none->b.st.ap a=none->S.jQ a=true)/\∀c,o=some c->∃a d,S.st.ap a=some d/\Bk E a c/\b.st.ap a=none/\bw a S.lk=false:=by
 unfold Cs at hg;split at hg;.cases hg;unfold CR at k;exact⟨.cK,none,k,⟨rfl,.inl rfl⟩,rfl,aP _,rfl,λ_ _ h=>h,λ_ n f=>absurd f n,λc g=>by cases g⟩
 .
  rename_i m;split at hg
  .
   rename_i u t q;split at hg
   .
    rename_i y0 z0;rw[aH]at hg;split at hg
    .
     rename_i g;cases hg;obtain⟨y,A⟩:=gy g;obtain⟨x,l⟩:=eo z0;cases x;have l:t=ys:=l;subst l;have p:∀j,(S.mI m).st.ap j=if j=m then none else S.st.ap j:=λj=>Tr.gU _ _ _;unfold CR at k;obtain⟨_,v,rfl,_,C,_⟩:=k;obtain⟨z,B⟩:=M.gm m _ q;refine⟨v,E.mb m,rfl,C _ t (by rw[M.st];exact q),B,z,rfl,λa d i=>?_,λa n f=>?_,λc g=>⟨m,_,q,.inl g,by rw[p,aE rfl],A⟩⟩
     .
      rw[p]at i;split at i;.cases i
      .exact i
     .
      rw[p]at f;split at f;.subst_vars;exact y
      .exact absurd f n
    .cases hg
   .cases hg
  .cases hg
 .cases hg
theorem Hz(M:da S h E){t:Nat}{a s:SV}{va v:HV}{K:SS->Option R}(hk:FQ cy S t a s K=some r)(ha:V E a va)(hv:V E s v):Ma S h E K r (qj cy.cx h t va v):=by
 unfold FQ at hk;split at hk
 .
  rename_i x hx;split at hk
  .
   rename_i c hc;obtain⟨vc,c1,c2,_,_⟩:=lR hc hv;rw[aH]at hk;split at hk
   .
    rename_i hw;have hw:=au hw;have hlen:vc.length=x.size:=by rw[c2.len,hw]
    have hd:∀b o h',h.fD b o vc=some h'->qj cy.cx h t (.ptr b o) v=some (.G6 h'):=by intro b o h' hwr;unfold qj;simp only;rw[hx,c1];simp only;rw[show Nat.beq vc.length x.size=true by simp[hlen],hwr];rfl
    split at hk
    .
     rename_i m o;rw[lZ]at ha;obtain⟨_,b,hb,rfl⟩:=ha;split at hk
     .
      rename_i z is hm;rw[aH]at hk;split at hk
      .
       rename_i hcan;obtain⟨hcan,hlk⟩:=gy hcan;split at hk
       .
        rename_i is' hput;obtain⟨b',y,cs,p1,p2,p3,p4,p5,p6⟩:=M.gm m _ hm;rw[hb]at p1;cases p1;obtain⟨d1,d2,d3,rfl,w1,w2,w3⟩:=r8 hput p6 c2;have hn:=ie p5;simp only[az]at hn;have p2':h.hp.ap b=some (.cn y):=by rw[<-M.hp];exact p2
        have:=rL (b:=b) (e:= .box z is') (hp':=h.hp.set b (.cn ⟨true,y.z,y.n,cr y.c o vc⟩)) M hm hcan (.inl hb) (λc hc=>Tr.bW _ _ hc) (λu xs he=>by cases he) (λg u xs he=>by cases he) rfl λ_ g2=>⟨b,_,d1++(vc++d3),hb,Tr.a8 _ _ _,rfl,p4,by have:=wN (w:=true) (z:=y.z) (n:=y.n) (c:=vc) p5 (by rw[w2,hlen]) (ar _);rw[br,w1]at this;exact this,g2 _ _ w3⟩;exact⟨_,_,_,hd b o _ (jE p2' p3 (mc M hm (.inl hb) hlk) (by omega)),this.1,this.2,rfl,rfl,hk⟩
       .cases hk
      .cases hk
     .cases hk
    .
     rename_i m i o;split at hk
     .
      rename_i e xs hm;split at hk
      .
       rename_i L hL;rw[aH]at hk;split at hk
       .
        rename_i hcan;simp only[ae]at hcan;obtain⟨hcan,hmL⟩:=hcan;have hmL:bw m L=false:=by simpa using hmL
        obtain⟨hcan,hlk⟩:=gy hcan;split at hk
        .
         rename_i S1 hS1;obtain⟨E1,M1,g1,e1,e2,e3,e4,e5,e6⟩:=ny M hS1;obtain⟨x0,hx0,hk2⟩:=iv hk;clear hk;split at hk2
         .
          rename_i is' hput;split at hk2
          .
           rename_i w hrd;rw[nY]at ha;obtain⟨b,j,hb,rfl,hj,rfl⟩:=ha.2.2.1 e xs (by rw[M.st];exact hm);obtain⟨n,hn,hxn⟩:=kv hx0;cases hn;obtain⟨hl1,hr⟩:=M.gm m _ hm;unfold gB at hr;rw[hb]at hr;obtain⟨y,p1,p2,p3,p4,p5⟩:=hr;obtain⟨cs,q1,q2⟩:=p5 j x0 hxn;obtain⟨d1,d2,d3,rfl,w1,w2,w3⟩:=r8 hput (dA.2 (nk.2 q2)) c2
           have hcov:qv E E1.Z 3 is':=(kR (E:=E) (Q:=E1.Z) (by rw[M.st];exact hL) λm' e' b' hm' he' hb'=>e3 m' e' b' (fq.2 hm') (by rw[<-M.st];exact he') hb').sub λm' hm'=>by
            rcases Eg hput m' hm' with g|g;.rw[eW,uc,ka]at g;cases g
            .exact g
           obtain⟨c',d',e7,r1,r2,_⟩:=rZ (E:=E) (Q:=E1.Z) g1.z (λm e hm=>M.gm m e (by rw[<-M.st];exact hm)) (by rw[M.st];exact hrd) w3 hcov;unfold dy at r2;subst r2;rw[bi]at e7;subst e7;have hE1:E1.hp=E.hp:=by rw[M1.hp,M.hp]
           have hm1:S1.st.ap m=some (.row e xs):=by rw[e4 m hmL];exact hm
           have hb1:E1.mb m=some b:=by rw[e2.1];exact hb
           have p1':h.hp.ap b=some (.cn y):=by rw[<-M.hp];exact p1
           have hcan1:S1.jQ m=true:=by unfold SS.jQ at*;rw[g1.base,g1.wr];exact hcan
           have hlen2:=ie q1;simp only[az]at hlen2;have hjz:=se (z:=e.size) hj
           have:=rL (b:=b) (e:= .row e (aI xs (Int.ofNat j) w)) (hp':=h.hp.set b (.cn ⟨true,y.z,y.n,cr y.c (j*e.size+o) vc⟩)) M1 hm1 hcan1 (.inl hb1) (λc hc=>Tr.bW _ _ hc) (λu xs' he=>by cases he;exact⟨xs,rfl,by show xs.length=(xs.set _ _).length;simp⟩) (λg u xs' he=>by cases he) rfl λk1 _=>⟨by show(xs.set _ _).length<=_;simpa using hl1,by
            show gB _ (E1.mb m) e (xs.set j w);rw[hb1];refine⟨_,Tr.a8 _ _ _,rfl,p3,by simpa using p4,λi x' hx'=>?_⟩;have h0:∀i x,xs[i]?=some x->∃cs,cu y (i*e.size) e.size=some cs/\dw (h.hp.set b (.cn ⟨true,y.z,y.n,cr y.c (j*e.size+o) vc⟩)) E1.Z e cs x:=by intro i x hx;obtain⟨cs,k2,k3⟩:=p5 i x hx;exact⟨cs,k2,k1 _ _ _ (k3.mono g1.z λ_ _=>by rw[hE1])⟩
            exact QD (w:=true) (z':=y.z) (n:=y.n) h0 hxn q1 w1 (by rw[w2,hlen]) (k1 _ _ _ (by rw[hE1];exact r1)) (ar _) i x' hx'⟩
           refine⟨_,_,_,hd b _ _ (jE p1' p2 (mc M hm (.inl hb) hlk) (by omega)),this.1,g1.trans this.2,?_,rfl,hk2⟩;show S1.dE=_;exact e1
          .cases hk2
         .cases hk2
        .cases hk
       .cases hk
      .cases hk
     .
      rename_i g e xs hm;split at hk
      .
       rename_i w;split at hk
       .
        rename_i ys S1 hgive;rw[aH]at hk;split at hk
        .
         rename_i hcond;simp only[ae]at hcond;obtain⟨hcw,ho0,hsome⟩:=hcond;have ho0:=au ho0;subst ho0;obtain⟨hin,hk2⟩:=eC hk;obtain⟨v',o2,rfl,r1,r2,r3,r4,r5,r6,r7⟩:=wL M hgive (dA.1 c2);obtain⟨hcan,hlk⟩:=gy hcw;have hcan:S.jQ m=true:=by rw[r4]at hcan;exact hcan
         have hlk:bw m S.lk=false:=by rw[r4]at hlk;exact hlk
         have hm1:S1.st.ap m=some (.rows g e xs):=by cases hq:S1.st.ap m with
          |none=>rw[hq]at hsome;cases hsome
          |some e'=>rw[r5 m e' hq]at hm;exact hm
         rw[nY]at ha;obtain⟨b,j,hb,rfl,hj,rfl⟩:=ha.2.2.2 _ _ (by rw[M.st];exact hm) rfl;obtain⟨_,hlen',hR⟩:=M.gm m _ hm;obtain⟨b',y,p1,p2,p3,p4,p5,p6⟩:=hR.b hb;rw[hb]at p1;cases p1;obtain⟨E',q1,q2⟩:=Ad M r5 r6 hm1 rfl hlen' (zE.w j ⟨b,y,hb,p2,p3,p4,p5,p6⟩) hcan hb p2 hj r7 r1 r2 r3;have hS:(S1.iy m (.rows S1.nx e (aI xs (Int.ofNat j) ys))).Mi=S.mem (S1.st.set m (.rows S.nx e (xs.set j ys))) (Nat.add S.nx 1):=by rw[r4];rfl
         rw[hS]at hk2;exact⟨_,_,E',hd b _ _ (jE (by rw[<-M.hp];exact p2) p3 (mc M hm (.inl hb) hlk) (by show j+0+1<=y.n;omega)),q1,q2,rfl,rfl,hk2⟩
        .cases hk
       .cases hk
      .cases hk
     .
      rename_i e xs q hm;split at hk
      .
       rename_i w;split at hk
       .
        rename_i ys S1 hgive;rw[aH]at hk;split at hk
        .
         rename_i hcond;simp only[ae]at hcond;obtain⟨hcw,ho0,hsome⟩:=hcond;have ho0:=au ho0;subst ho0;obtain⟨hin,hk2⟩:=eC hk;obtain⟨v',o2,rfl,r1,r2,r3,r4,r5,r6,r7⟩:=wL M hgive (dA.1 c2);obtain⟨hcan,hlk⟩:=gy hcw;have hcan:S.jQ m=true:=by rw[r4]at hcan;exact hcan
         have hlk:bw m S.lk=false:=by rw[r4]at hlk;exact hlk
         have hm1:S1.st.ap m=some (.mJ e xs q):=by cases hq:S1.st.ap m with
          |none=>rw[hq]at hsome;cases hsome
          |some e'=>rw[r5 m e' hq]at hm;exact hm
         rw[nY]at ha;obtain⟨b,j,hb,rfl,hj,rfl⟩:=ha.2.2.2 _ _ (by rw[M.st];exact hm) rfl;obtain⟨hlen',j',hq,_,_,b',y,p1,p2,p3,p4,p5,p6⟩:=M.gm m _ hm;have hjj:j=j':=by have:=bA hin;rw[hq]at this;exact Int.ofNat.inj this
         subst hjj;rw[hb]at p1;cases p1;obtain⟨E',q1,q2⟩:=Ad M r5 r6 hm1 rfl hlen' ⟨b,y,hb,p2,p3,p4,p5,p6⟩ hcan hb p2 hj r7 r1 r2 r3;have hS:(S1.iy m (.rows S1.nx e (aI xs (Int.ofNat j) ys))).Mi=S.mem (S1.st.set m (.rows S.nx e (xs.set j ys))) (Nat.add S.nx 1):=by rw[r4];rfl
         rw[hS]at hk2;exact⟨_,_,E',hd b _ _ (jE (by rw[<-M.hp];exact p2) p3 (mc M hm (.inl hb) hlk) (by show j+0+1<=y.n;omega)),q1,q2,rfl,rfl,hk2⟩
        .cases hk
       .cases hk
      .cases hk
     .cases hk
    .
     rename_i m u x0;rw[rx]at ha;obtain⟨hmx,_,ha⟩:=ha;split at hk
     .
      rename_i k _ hm;rw[aH]at hk;split at hk
      .
       rename_i hcond;rw[ae]at hcond;have hlk:bw m S.lk=false:=by simpa using hcond.2
       obtain⟨b,o,y,ds,x',rfl,k2,k3,k4,k5,_⟩:=ha false true (by rw[M.st];exact hm);have k5:ds=[.int k x']:=k5;subst k5
       obtain⟨n,rfl⟩:∃n,v= .int k n:=by
        have hkd:=hcond.1;unfold MZ at hkd;split at hkd;.rw[dT]at hv;rw[oT hkd];exact⟨_,hv⟩
        .rw[Fc]at hv;rw[oT hkd];exact hv
        .cases hkd
       have c1:[HV.int k n]=vc:=by cases c1;rfl
       subst c1;obtain⟨_,g2⟩:=M.gm m _ hm;obtain⟨x1,q1,q2⟩:=g2 b k2 (.inl rfl);rw[k3]at q1;cases q1;have hown:=q2 y rfl;have p2':h.hp.ap b=some (.cn y):=by rw[<-M.hp];exact k3
       have hn:o+1<=y.n:=((fy.1 k4).2 0 kA).1
       have:=QB (b:=b) (hp':=h.hp.set b (.cn ⟨true,y.z,y.n,cr y.c o [.int k n]⟩)) M hm k2 (λc hc=>Tr.bW _ _ hc) (by
        rw[p2',Tr.a8];refine .inr ⟨y,_,rfl,rfl,hown.symm,rfl,rfl,λi v hv=>?_⟩;by_cases hi:i=o;.subst hi;rw[qR k4]at hv;cases hv;refine⟨.int k n,?_,.inr ⟨k,x',n,rfl,rfl⟩⟩;exact qR (ic (T:=y.c) (w:=true) (z:=y.z) (n:=y.n) (p:=i) (c:=[.int k n]) (by simpa using hn))
        .
         refine⟨v,?_,.inl rfl⟩;have hg:cu y i 1=some [v]:=by unfold cu;rw[hv];rfl
         have hlt:=((fy.1 hg).2 0 (by decide)).1;exact qR (nw hg (by simp;omega) (by omega))) ⟨_,Tr.a8 _ _ _,λz e=>by cases e;rfl⟩
       exact⟨_,S,_,hd b o _ (jE p2' hown (mc M hm (.inr k2) hlk) (by simpa using hn)),this.1,this.2,rfl,rfl,hk⟩
      .cases hk
     .cases hk
    .
     rename_i m o n u j p;rw[wU]at ha;obtain⟨_,b,k,hb,rfl,hkn,rfl⟩:=ha;split at hk
     .
      rename_i z is hm;split at hk
      .
       rename_i L hL;rw[aH]at hk;split at hk
       .
        rename_i hcan;simp only[ae]at hcan;obtain⟨hcan,hmL⟩:=hcan;have hmL:bw m L=false:=by simpa using hmL
        obtain⟨hcan,hlk⟩:=gy hcan;split at hk
        .
         rename_i S1 hS1;obtain⟨E1,M1,g1,e1,e2,e3,e4,e5,e6⟩:=ny M hS1;split at hk
         .
          rename_i d hgd;split at hk
          .
           rename_i xs hrd;rw[aH]at hk;split at hk
           .
            rename_i hnd;obtain⟨y0,hy0,hk2⟩:=iv hk;clear hk;split at hk2
            .
             rename_i is' hput;split at hk2
             .
              rename_i w hrw;split at hk2
              .
               rename_i is2 hput2;obtain⟨b',y,cs,p1,p2,p3,p4,p5,p6⟩:=M.gm m _ hm;rw[hb]at p1;cases p1;obtain⟨a1,a2,a3,rfl,q1,q2,q3⟩:=mh hgd p6;obtain⟨k1,k2⟩:=Nw M hrd q3 hnd;obtain⟨n',hn,hxn⟩:=kv hy0;cases hn;obtain⟨d1,d2,d3,rfl,w1,w2,w3⟩:=lf (z:=u.size) (λ_ _ h=>h.len) k2 hxn;obtain⟨f1,f2,f3,rfl,v1,v2,v3⟩:=r8 hput (dA.2 (nk.2 w3)) c2
               have hcov:qv E E1.Z 3 is':=(kR (E:=E) (Q:=E1.Z) (by rw[M.st];exact hL) λm' e' b' hm' he' hb'=>e3 m' e' b' (fq.2 hm') (by rw[<-M.st];exact he') hb').sub λm' hm'=>by
                rcases Eg hput m' hm' with g|g;.rw[eW,uc,ka]at g;cases g
                .exact g
               obtain⟨c',d',e7,r1,r2,_⟩:=rZ (E:=E) (Q:=E1.Z) g1.z (λm e hm=>M.gm m e (by rw[<-M.st];exact hm)) (by rw[M.st];exact hrw) v3 hcov;unfold dy at r2;subst r2;rw[bi]at e7;subst e7;have hE1:E1.hp=E.hp:=by rw[M1.hp,M.hp]
               have hA:=Jg (R:=dw E1.hp E1.Z u) (z:=u.size) (k:=k) (λ_ _ h=>h.len) (ky (λ_ _ h=>dw.mono g1.z (λ_ _=>by rw[hE1]) h) k2) rfl w1 w2 (by rw[k1];exact hkn) (by rw[hE1];exact r1);have hC:CR E1 (.val (.fF n u) (aI xs (Int.ofNat k) w)) (d1++(f1++(vc++f3)++d3)):=by unfold CR dw;exact⟨by show(xs.set _ _).length=n;rw[bC];exact k1,hA⟩
               obtain⟨b1,b2,b3,e8,t1,t2,t3⟩:=r8 hput2 (dy.fm (g1.fm M M1) (.inl rfl) p6) (dA.2 hC);obtain⟨rfl,e9⟩:=kE e8 (by rw[q1,t1]);obtain⟨rfl,rfl⟩:=kE e9 (by rw[q2,t2]);have hn:=ie p5;simp only[az]at hn q2 w2;have p5':cu y 0 y.n=some (a1++d1++f1++(f2++(f3++d3++a3))):=by rw[p5];simp
               have p2':h.hp.ap b=some (.cn y):=by rw[<-M.hp];exact p2
               have hpos:(a1++d1++f1).length=o+k*u.size+p:=by simp only[az];omega
               have hm1:S1.st.ap m=some (.box z is):=by rw[e4 m hmL];exact hm
               have hb1:E1.mb m=some b:=by rw[e2.1];exact hb
               have hcan1:S1.jQ m=true:=by unfold SS.jQ at*;rw[g1.base,g1.wr];exact hcan
               have:=rL (b:=b) (e:= .box z is2) (hp':=h.hp.set b (.cn ⟨true,y.z,y.n,cr y.c (o+k*u.size+p) vc⟩)) M1 hm1 hcan1 (.inl hb1) (λc hc=>Tr.bW _ _ hc) (λu xs he=>by cases he) (λg u xs he=>by cases he) rfl λ_ g2=>⟨b,_,a1++(d1++(f1++(vc++f3)++d3)++a3),hb1,Tr.a8 _ _ _,rfl,p4,by have:=wN (w:=true) (z:=y.z) (n:=y.n) (c:=vc) p5' (by rw[v2,hlen]) (ar _);rw[br,hpos]at this;rw[this];simp,g2 _ _ t3⟩;refine⟨_,_,_,hd b _ _ (jE p2' p3 (mc M hm (.inl hb) hlk) (by omega)),this.1,g1.trans this.2,?_,rfl,hk2⟩;show S1.dE=_;exact e1
              .cases hk2
             .cases hk2
            .cases hk2
           .cases hk
          .cases hk
         .cases hk
        .cases hk
       .cases hk
      .cases hk
     .cases hk
    .cases hk
   .cases hk
  .cases hk
 .cases hk
end
theorem dw.fO{hp hp':Tr Hm.Obj}{Z j:Nat->Prop}:∀{u:U}{cs:List HV}{x:D u},u.fO=true->dw hp Z u cs x->dw hp' j u cs x
 | .int _,_,_,_,h=>h
 | .bool,_,_,_,h=>h
 | .dH,_,_,_,h=>h
 | .un,_,_,_,h=>h
 | .nil,_,_,_,h=>h
 | .ah a b,_,_,f,⟨c,d,e,g,i⟩=>by have f:(a.fO&&b.fO)=true:=f;rw[ae]at f;exact⟨c,d,e,g.fO f.1,i.fO f.2⟩
 | .fF n e,_,_,f,⟨g,i⟩=>⟨g,ky (λ_ _ h=>h.fO f) i⟩
 | .bc e,_,_,f,_=>by cases f
theorem qE.fO{hp hp':Tr Hm.Obj}{Z c:Nat->Prop}{u:U}{v:HV}{x:D u}(a:u.fO=true)(h:qE hp Z u v x):qE hp' c u v x:=by unfold qE at*;cases b:u.ag with
 |true=>rw[b]at h;obtain⟨d,e,f⟩:=h;exact⟨d,e,f.fO a⟩
 |false=>rw[b]at h;exact dw.fO a h
theorem fI.fO{hp hp':Tr Hm.Obj}{Z d:Nat->Prop}:∀{u:U}{l:List HV}{x:D u},u.fO=true->fI hp Z u l x->fI hp' d u l x
 | .un,l,x,_,h=>h
 | .ah a b,l,x,c,⟨v,r,e,f,g⟩=>by have c:(a.fO&&b.fO)=true:=c;rw[ae]at c;exact⟨v,r,e,f.fO c.1,fI.fO c.2 g⟩
 | .int _,_,_,_,h=>h.elim
 | .bool,_,_,_,h=>h.elim
 | .dH,_,_,_,h=>h.elim
 | .nil,_,_,_,h=>h.elim
 | .bc _,_,_,_,h=>h.elim
 | .fF _ _,_,_,_,h=>h.elim
section
variable{E:En}{S:SS}{h:St}{cy:Cy}{R:Type}{r:R}{K:SV->SS->Option R}
theorem Mp{α:Type}{hp:Tr Hm.Obj}{Z:Nat->Prop}{z:Nat}{Q:List HV->α->Prop}{v:HV}{xs:List α}(l:LR hp Z z Q v xs)(j:∀c x,Q c x->c.length=z)(hh:hp=h.hp):∃cs,jg h z v=some (cs,xs.length)/\mB Q cs xs/\∀s,v≠.dH s:=by
 rcases l with⟨rfl,rfl|rfl|rfl⟩|⟨b,o,y,f,m,g,n,p,i⟩;.exact⟨[],rfl,rfl,λs a=>by cases a⟩
 .exact⟨[],rfl,rfl,λs a=>by cases a⟩
 .exact⟨[],rfl,rfl,λs a=>by cases a⟩
 .obtain⟨cs,d,e⟩:=Hb j i;have k:h.cn b=some y:=jb (by rw[<-hh];exact g);obtain⟨rfl,_⟩:=f;refine⟨cs,?_,e,λs a=>by cases a⟩;unfold jg;simp only[cellsOf,lenOf];rw[k];simp only;rw[show Nat.mul xs.length z=xs.length*z from rfl,d]
theorem uu{cx:Cx}{t:Nat}{x:SV}{v:HV}(c:xL cx t x=true)(f:∀s,v≠.dH s):oy cx t v=true:=by obtain⟨u,b,a⟩:=oz c;unfold oy;rw[b];simp only;cases d:u.sh with
 |slice e=>cases v<;>first|rfl|exact absurd rfl (f _)
 |_=>rw[d]at a;cases x<;>simp at a
inductive Fe(S S2:SS)(h:St)(E:En)(u:U):List (D u)->HV->Prop|nil(v:HV)(hv:v= .cK\/v= .gO):Fe S S2 h E u [] v|cn(m b:Nat)(e:iK)(y:gY)(xs:List (D u))(h1:S.st.ap m=some e)(h2:E.mb m=some b)(h3:S2.st.ap m=none)(h4:bw m S.lk=false)(h5:h.hp.ap b=some (.cn y))(h6:y.own=true)(h7:y.z=u.size)(h8:xs.length*u.size<=y.n)(h9:∀i x,xs[i]?=some x->∃cs,cu y (i*u.size) u.size=some cs/\dw E.hp E.Z u cs x):Fe S S2 h E u xs (.sl b 0 xs.length)
theorem KJ(M:da S h E){u:U}{a:SV}{v0:HV}{iB:List (D u)}{S2:SS}(c:KL S u a=some (iB,S2))(v:V E a v0):Fe S S2 h E u iB v0/\S2=S.mem S2.st S.nx/\(∀j e,S2.st.ap j=some e->S.st.ap j=some e)/\∀j,S.st.ap j≠none->S2.st.ap j=none->S.jQ j=true:=by
 unfold KL at c;split at c;.cases c;exact⟨.nil _ (.inl (lF.1 v)),rfl,λ_ _ h=>h,λ_ o g=>absurd g o⟩
 .cases c;exact⟨.nil _ (qp.1 v),rfl,λ_ _ h=>h,λ_ o g=>absurd g o⟩
 .
  rename_i m;split at c
  .
   rename_i e i t;split at c
   .
    rename_i u0 B;rw[aH]at c;split at c
    .
     rename_i x;cases c;obtain⟨z,A⟩:=gy x;have s:∀j,(S.mI m).st.ap j=if j=m then none else S.st.ap j:=λj=>Tr.gU _ _ _;obtain⟨w,n⟩:=eo B;cases w;have n:i=iB:=n;subst n;rw[ij]at v;have f:=v.2.2.1 u i (by rw[M.st];exact t);obtain⟨r0,d⟩:=M.gm m _ t;refine⟨?_,rfl,λj e l=>?_,λj o g=>?_⟩
     .unfold ge at f;unfold gB at d;cases p:E.mb m with
      |none=>rw[p]at f d;subst d;exact .nil _ f.2
      |some b=>rw[p]at f d;subst f;obtain⟨y,C,z0,y0,x0,w0⟩:=d;exact .cn m b _ y i t p (by rw[s,aE rfl]) A (by rw[<-M.hp];exact C) z0 y0 x0 w0
     .
      rw[s]at l;split at l;.cases l
      .exact l
     .
      rw[s]at g;split at g;.subst_vars;exact z
      .exact absurd g o
    .cases c
   .cases c
  .cases c
 .
  rename_i m q;split at c
  .
   rename_i e i t;split at c
   .
    rename_i u0 B;rw[aH]at c;split at c
    .
     rename_i x;cases c;obtain⟨z,A⟩:=gy x;have s:∀j,(S.mI m).st.ap j=if j=m then none else S.st.ap j:=λj=>Tr.gU _ _ _;obtain⟨w,n⟩:=eo B;cases w;have n:i=u0:=n;subst n;rw[x6]at v;obtain⟨k,rfl,s0,f⟩:=v.2.2 _ i (by rw[M.st];exact t);obtain⟨r0,d⟩:=M.gm m _ t;have t0:(eX i 0 (Int.ofNat k)).length=k:=by show((i.drop 0).take (k-0)).length=k;simp;omega
     have d:=BE s0 d;refine⟨?_,rfl,λj e l=>?_,λj o g=>?_⟩
     .unfold ge at f;unfold gB at d;cases p:E.mb m with
      |none=>rw[p]at f d;have d:eX i 0 (Int.ofNat k)=[]:=d;rw[d];exact .nil _ f.2
      |some b=>rw[p]at f d;have f:v0= .sl b 0 k:=f;obtain⟨y,C,z0,y0,x0,w0⟩:=d;have:=Fe.cn (S:=S) (S2:=S.mI m) (h:=h) (E:=E) (u:=_) m b _ y (eX i 0 (Int.ofNat k)) t p (by rw[s,aE rfl]) A (by rw[<-M.hp];exact C) z0 y0 x0 w0;rw[t0]at this;rw[f];exact this
     .
      rw[s]at l;split at l;.cases l
      .exact l
     .
      rw[s]at g;split at g;.subst_vars;exact z
      .exact absurd g o
    .cases c
   .cases c
  .cases c
 .cases c
theorem DQ(M:da S h E){u:U}{z:Nat}{S2:SS}{C:HV}{iB bT:List (D u)}{c:List HV}(l9:Fe S S2 h E u iB C)(s0:S2=S.mem S2.st S.nx)(e9:∀j e,S2.st.ap j=some e->S.st.ap j=some e)(d9:∀j,S.st.ap j≠none->S2.st.ap j=none->S.jQ j=true)(j9:z=u.size)(y0:mB (dw E.hp E.Z u) c bT)(o9:(iB++bT).length<=140737488355328)(i0:K (.row S2.nx) (S2.bT (.row u (aM iB bT)))=some r):Mv S h E K r (gW h z C c bT.length):=by
 subst j9;have l0:=mP (z:=u.size) (λ_ _ h=>h.len) y0;have t9:S2.bT (.row u (aM iB bT))=S.mem (S2.st.set S.nx (.row u (aM iB bT))) (Nat.add S.nx 1):=by rw[s0];rfl
 have n9:S2.nx=S.nx:=by rw[s0];rfl
 rw[t9,n9]at i0
 have z0:∀(l:Tr Hm.Obj)(s:Nat)(o:Option Nat)(v:HV),(∀b,b<h.nx->l.ap b=h.hp.ap b\/∃j e,S.st.ap j=some e/\Bk E j b/\S2.st.ap j=none)->h.nx<=s->(∀b,s<=b->l.ap b=none)->(∀b,o=some b->b<s/\(h.nx<=b\/∃j e,S.st.ap j=some e/\Bk E j b/\S2.st.ap j=none/\bw j S.lk=false))->((∀u n x,dw E.hp E.Z u n x->dw l E.Z u n x)->gB ⟨l,E.Z,E.mb,E.ib,E.st,E.nx,E.lo⟩ o u (iB++bT))->ge o (iB++bT).length v->iR v=some [v]->gW h u.size C c bT.length=some (.val v ⟨h.nt,h.dE,l,s,h.lk,h.df⟩)->Mv S h E K r (gW h u.size C c bT.length):=by
  intro l s o v c0 b0 a0 z9 y9 x9 w9 v9;have:=nj (st1:=S2.st) (hp':=l) (nx':=s) (o:=o) (e:= .row u (aM iB bT)) M e9 d9 c0 b0 a0 z9 λa _=>⟨o9,by rw[lx];exact y9 a⟩;refine⟨_,v,_,_,_,v9,this.1,this.2,rfl,rfl,ij.2 ⟨?_,w9,λe d0 f=>?_,λt k f p9=>by have f:(S2.st.set S.nx (.row u (aM iB bT))).ap S.nx=some t:=f;rw[Tr.a8]at f;cases f;cases p9⟩,i0⟩;.exact bf _
  .have f:(S2.st.set S.nx (.row u (aM iB bT))).ap S.nx=some (.row e d0):=f;rw[Tr.a8]at f;cases f;rw[lx];exact x9
 cases l9 with
  |nil v x0=>
  by_cases h0:bT.length=0;.have m9:bT=[]:=eR.1 h0;subst m9;refine z0 h.hp h.nx none C (λb p=> .inl rfl) (ar _) M.fr (λb p=>by cases p) (λ_=>rfl) ⟨rfl,x0⟩ (by rcases x0 with rfl|rfl<;>rfl) ?_;rcases x0 with rfl|rfl<;>rfl
  .
   have g0:Nat.beq bT.length 0=false:=kb h0;refine z0 (h.hp.set h.nx (.cn ⟨true,u.size,c.length,cr .e 0 c⟩)) (h.nx+1) (some h.nx) (.sl h.nx 0 bT.length) (λb p=> .inl (pF b p)) (dz _) (vy M) (λb p=>by cases p;exact⟨bf _,.inl (ar _)⟩) (λa=>?_) rfl rfl ?_;.refine⟨_,Tr.a8 _ _ _,rfl,rfl,by show([]++bT).length*_<=c.length;rw[iw,l0];exact ar _,λi x q=>?_⟩;rw[iw]at q;obtain⟨c9,u9,b9,i9,h9,g9,f9⟩:=lf (z:=u.size) (λ_ _ h=>h.len) y0 q;refine⟨u9,?_,a _ _ _ f9⟩;have q9:=ic (T:=(.e:Tr HV)) (w:=true) (z:=u.size) (n:=c.length) (p:=0) (c:=c) (by omega);have:=eL q9 i9 h9 g9;rw[br]at this;exact this
   .
    rcases x0 with rfl|rfl;.show(bif Nat.beq bT.length 0 then _ else _)=_;rw[g0];rfl
    .show(bif Nat.beq bT.length 0 then _ else _)=_;rw[g0];rfl
  |cn m b e y d0 w A w0 r0 q0 p0 o0 a9 n0=>
  have k0:=mc M w (.inl A) r0;have s9:=(M.own m e b w (.inl A)).2;have r9:(y.own&&(h.gV b&&Nat.beq y.z u.size))=true:=by rw[p0,o0];unfold St.gV;rw[k0];simp
  have m0:gW h u.size (.sl b 0 iB.length) c bT.length=bif Nat.ble (Nat.add 0 (Nat.mul (Nat.add iB.length bT.length) u.size)) y.n then match h.fD b (Nat.add 0 (Nat.mul iB.length u.size)) c with|some e0=>some (.val (.sl b 0 (Nat.add iB.length bT.length)) e0)|none=>none else bif Nat.ble (Nat.add 0 (Nat.mul iB.length u.size)) y.n then some (.val (.sl h.nx 0 (Nat.add iB.length bT.length)) ⟨h.nt,h.dE,(h.hp.nU b).set h.nx (.cn ⟨true,u.size,Nat.mul (Nat.add iB.length bT.length) u.size,cr y.c (Nat.mul iB.length u.size) c⟩),Nat.add h.nx 1,h.lk,h.df⟩)else none:=by show(match h.cn b with|some x=>_|none=>none)=_;rw[jb q0];simp only;rw[r9];rfl
  have f0:(iB.length+bT.length)*u.size=iB.length*u.size+c.length:=by rw[go,l0]
  by_cases j0:iB.length*u.size+c.length<=y.n
  .
   have k9:=jE (o:=0+iB.length*u.size) (c:=c) q0 p0 k0 (by omega);refine z0 (h.hp.set b (.cn ⟨true,y.z,y.n,cr y.c (0+iB.length*u.size) c⟩)) h.nx (some b) (.sl b 0 (iB.length+bT.length)) (λd g=>?_) (ar _) (λd g=>?_) (λd g=>?_) (λa=>?_) (by show _=HV.sl b 0 (iB++bT).length;rw[az]) rfl ?_
   .
    by_cases B:d=b;.subst B;exact .inr ⟨m,e,w,.inl A,w0⟩
    .exact .inl (Tr.bW _ _ B)
   .rw[Tr.bW _ _ (by omega)];exact M.fr d g
   .cases g;exact⟨s9,.inr ⟨m,e,w,.inl A,w0,r0⟩⟩
   .rw[br]at*;refine⟨_,Tr.a8 _ _ _,rfl,o0,by rw[az,f0];exact j0,HN (w:=true) (z':=y.z) (n:=y.n) (λ_ _ h=>h.len) (λi x q=>?_) (ky (λ_ _ h=>a _ _ _ h) y0) (by rw[f0];exact j0)⟩;obtain⟨n,u0,t0⟩:=n0 i x q;exact⟨n,u0,a _ _ _ t0⟩
   .rw[m0];rw[show Nat.ble (Nat.add 0 (Nat.mul (Nat.add iB.length bT.length) u.size)) y.n=true by rw[bS];show 0+(iB.length+bT.length)*u.size<=y.n;omega];show(match h.fD b (0+iB.length*u.size) c with|some e0=>_|none=>none)=_;rw[k9];rfl
  .
   refine z0 ((h.hp.nU b).set h.nx (.cn ⟨true,u.size,(iB.length+bT.length)*u.size,cr y.c (iB.length*u.size) c⟩)) (h.nx+1) (some h.nx) (.sl h.nx 0 (iB.length+bT.length)) (λd g=>?_) (dz _) (λd g=>?_) (λd g=>by cases g;exact⟨bf _,.inl (ar _)⟩) (λa=>?_) (by show _=HV.sl h.nx 0 (iB++bT).length;rw[az]) rfl ?_
   .
    by_cases B:d=b;.subst B;exact .inr ⟨m,e,w,.inl A,w0⟩
    .exact .inl (by rw[Tr.bW _ _ (by omega),Tr.gU,aG B])
   .rw[Tr.bW _ _ (by omega),Tr.gU,aG (by omega)];exact M.fr d (by omega)
   .refine⟨_,Tr.a8 _ _ _,rfl,rfl,by rw[az];exact ar _,HN (w:=true) (z':=u.size) (n:=(iB.length+bT.length)*u.size) (λ_ _ h=>h.len) (λi x q=>?_) (ky (λ_ _ h=>a _ _ _ h) y0) (ar _)⟩;obtain⟨n,u0,t0⟩:=n0 i x q;exact⟨n,u0,a _ _ _ t0⟩
   .
    rw[m0]
    rw[show Nat.ble (Nat.add 0 (Nat.mul (Nat.add iB.length bT.length) u.size)) y.n=false by cases v0:Nat.ble (Nat.add 0 (Nat.mul (Nat.add iB.length bT.length) u.size)) y.n with
     |false=>rfl
     |true=>rw[bS]at v0;have v0:0+(iB.length+bT.length)*u.size<=y.n:=v0;omega]
    rw[show Nat.ble (Nat.add 0 (Nat.mul iB.length u.size)) y.n=true by rw[bS];show 0+iB.length*u.size<=y.n;omega];rfl
theorem xj(M:da S h E){u:U}{x:SV}{f:HV}{bT:List (D u)}{L:List Nat}{o:SS}{d:En}(y:V E x f)(w:HR S.st (.bc u) x=some bT)(q:lL S.st [x]=some L)(z:da o h d)(C:Gr S h E o h d)(p:∀m e b,bw m (bif u.fO then []else L)=true->S.st.ap m=some e->Bk E m b->d.Z b):∃c,jg h u.size f=some (c,bT.length)/\mB (dw d.hp d.Z u) c bT/\∀s,f≠.dH s:=by
 have z0:d.hp=E.hp:=by rw[z.hp,M.hp]
 have g:u.fO=true\/qv E d.Z 3 [x]:=by cases i:u.fO with
  |true=>exact .inl rfl
  |false=>rw[i]at p;exact .inr (kR (E:=E) (Q:=d.Z) (by rw[M.st];exact q) λu0 B A v0 x0 y0=>p u0 B A (fq.2 v0) (by rw[<-M.st];exact x0) y0)
 have t:∀m e,E.st.ap m=some e->oj E m e:=λm e w0=>M.gm m e (by rw[<-M.st];exact w0);rcases g with i|g;.have a:qE E.hp (λ_=>True) (.bc u) f bT:=xr (E:=E) (Q:=λ_=>True) (k:=3) (λ_ _=>trivial) t (by rw[M.st];exact w) y (uG (λ_ _ _ _ _=>trivial) (by rw[M.st];exact q));have a:dw E.hp (λ_=>True) (.bc u) [f] bT:=a;unfold dw at a;obtain⟨v,j,a⟩:=a;cases j;obtain⟨c,k,l,n⟩:=Mp (h:=h) a (λ_ _ h=>h.len) M.hp;exact⟨c,k,ky (λ_ _ h=>h.fO i) l,n⟩
 .have a:qE E.hp d.Z (.bc u) f bT:=xr (E:=E) (Q:=d.Z) (k:=3) C.z t (by rw[M.st];exact w) y g;have a:dw E.hp d.Z (.bc u) [f] bT:=a;unfold dw at a;obtain⟨v,j,a⟩:=a;cases j;obtain⟨c,k,l,n⟩:=Mp (h:=h) a (λ_ _ h=>h.len) M.hp;exact⟨c,k,by rw[z0];exact l,n⟩
theorem G3(M:da S h E){t o:Nat}{a x:SV}{e p:HV}(b:uQ cy S t o a x K=some r)(y0:V E a e)(m0:V E x p):Mv S h E K r (iu cy.cx h t o e p):=by
 unfold uQ at b;split at b
 .
  rename_i y u g o0;rw[aH]at b;split at b
  .
   rename_i p0;split at b
   .
    rename_i m t0;split at b
    .
     rename_i b0 C;split at b
     .
      rename_i a0 z0;split at b
      .
       rename_i j z9 r0;obtain⟨l,v0⟩:=eC b;clear b;obtain⟨k,d,f,z,y9,A,x9,w9,v9⟩:=ny M z0;have i:=pK g o0;have u9:k.hp=E.hp:=by rw[d.hp,M.hp]
       obtain⟨c,q0,D,s0⟩:=xj M m0 t0 C d f A;have x0:V k a e:=y0.gr f M d;obtain⟨n,l0,k0,j0⟩:=KJ d r0 x0
       have u0:lenOf e=some j.length:=by cases n with
        |nil v n0=>rcases n0 with rfl|rfl<;>rfl
        |cn=>rfl
       have w0:(j++m).length<=140737488355328:=by rw[az];exact ud l (pt g).2
       obtain⟨s,v,B,w,q,i0,h0,g0,f0,e0,d0,c0⟩:=DQ (z:=y.z) d n l0 k0 j0 i D w0 v0;refine⟨s,v,B,w,q,?_,h0,f.trans g0,f0.trans z,e0,d0,c0⟩;unfold iu;rw[g];simp only;rw[uu p0 s0,i,q0,u0];simp only;rw[show gL (Nat.add j.length m.length) y.lX=true from l,<-i];exact i0
      .cases b
     .cases b
    .cases b
   .cases b
  .cases b
 .cases b
theorem Pa(M:da S h E){m g:Nat}{e:U}{xs:List (List (D e))}{ys:List (D e)}{g0 v:HV}{o:Option Nat}{st1:Tr iK}(h1:∀a f,st1.ap a=some f->S.st.ap a=some f)(h2:∀a,S.st.ap a≠none->st1.ap a=none->S.jQ a=true)(w0:S.st.ap m=some (.rows g e xs))(n0:st1.ap m=some (.rows g e xs))(hc:S.jQ m=true)(x9:bw m S.lk=false)(m0:ge (E.mb m) xs.length g0)(w9:∀c,o=some c->∃a f,S.st.ap a=some f/\Bk E a c/\st1.ap a=none/\bw a S.lk=false)(hv:ge o ys.length v)(hr:gB E o e ys)(hl:ys.length<=140737488355328)(hbig:xs.length+1<=140737488355328)(o0:K (.row S.nx) (S.mem ((st1.nU m).set S.nx (.rows S.nx e (xs++[ys]))) (Nat.add S.nx 1))=some r):Mv S h E K r (gW h 1 g0 [v] 1):=by
 obtain⟨_,_,j0⟩:=M.gm m _ w0;let y0:=st1.nU m;let q:Nat->Option Nat:=λi=>if i=xs.length then o else E.ib m i;have h0:q xs.length=o:=aE rfl;have t0:∀i,i≠xs.length->q i=E.ib m i:=λi B=>aG B;have e0:∀a,y0.ap a=if a=m then none else st1.ap a:=λa=>Tr.gU _ _ _
 have hst:∀a f,y0.ap a=some f->a≠m/\st1.ap a=some f:=λa f s0=>by
  rw[e0]at s0;split at s0;.cases s0
  .exact⟨by assumption,s0⟩
 have s1:∀a f,y0.ap a=some f->S.st.ap a=some f:=λa f s0=>h1 a f (hst a f s0).2
 have s2:∀a,S.st.ap a≠none->y0.ap a=none->S.jQ a=true:=λa h3 y9=>by
  rw[e0]at y9;split at y9;.subst_vars;exact hc
  .exact h2 a h3 y9
 have c0:y0.ap m=none:=by rw[e0,aE rfl]
 have e9:∀b,(∃k,q k=some b)->∃a f,S.st.ap a=some f/\Bk E a b/\y0.ap a=none/\bw a S.lk=false:=by
  rintro b⟨k,o0⟩;by_cases h9:k=xs.length;.rw[h9,h0]at o0;obtain⟨a,f,d,s,C,k4⟩:=w9 b o0;exact⟨a,f,d,s,by rw[e0];split<;>first|rfl|exact C,k4⟩
  .rw[t0 k h9]at o0;exact⟨m,_,w0,.inr ⟨k,o0⟩,c0,x9⟩
 have b0:∀c,o=some c->¬Bk E m c:=by intro c A w;obtain⟨a,f,d,s,C,_⟩:=w9 c A;have:=M.inj a m f _ c d w0 s w;subst this;rw[n0]at C;cases C
 have z9:∀(z0:Tr Hm.Obj)(l0 b:Nat)(u0:gY),(∀c,c<h.nx->c≠b->E.mb m≠some c->z0.ap c=h.hp.ap c)->(b<h.nx->E.mb m=some b)->h.nx<=l0->b<l0->(∀c,l0<=c->z0.ap c=none)->z0.ap b=some (.cn u0)->u0.own=true->u0.z=1->xs.length+1<=u0.n->(∀i l,xs[i]?=some l->∃w,cu u0 i 1=some [w]/\ge (E.ib m i) l.length w)->cu u0 xs.length 1=some [v]->gW h 1 g0 [v] 1=some (.val (.sl b 0 (xs.length+1)) ⟨h.nt,h.dE,z0,l0,h.lk,h.df⟩)->Mv S h E K r (gW h 1 g0 [v] 1):=by
  intro z0 l0 b u0 p9 k0 o9 b4 b5 b6 b7 b8 b9 LA Px Pw;have d9:∀c,c<h.nx->c≠b->E.mb m≠some c->z0.ap c=E.hp.ap c:=λc d s C=>by rw[M.hp];exact p9 c d s C
  have:=uR (st1:=y0) (hp':=z0) (nx':=l0) (o:=some b) (q:=q) (e:= .rows S.nx e (xs++[ys])) M s1 s2 (λc A=>by
   by_cases r0:c=b;.subst r0;exact .inr ⟨m,_,w0,.inl (k0 A),c0⟩
   .
    by_cases q0:E.mb m=some c;.exact .inr ⟨m,_,w0,.inl q0,c0⟩
    .exact .inl (p9 c A r0 q0)) o9 b5 (λg9=>by cases g9) (λc A=>by
   rcases A with A|A
   .
    cases A;refine⟨b4,?_⟩;by_cases f0:b<h.nx;.exact .inr ⟨m,_,w0,.inl (k0 f0),c0,x9⟩
    .exact .inl (by omega)
   .obtain⟨a,f,d,s,C⟩:=e9 c A;exact⟨aQ (M.own a f c d s).2 o9,.inr ⟨a,f,d,s,C⟩⟩) λg1 _=>by
   have hmb:(tK E z0 S.nx (some b) q (y0.set S.nx (.rows S.nx e (xs++[ys])))).mb S.nx=some b:=by show(bif Nat.beq S.nx S.nx then _ else _)=_;rw[show Nat.beq S.nx S.nx=true by simp];rfl
   have d0:∀k,(tK E z0 S.nx (some b) q (y0.set S.nx (.rows S.nx e (xs++[ys])))).ib S.nx k=q k:=λk=>by show(bif Nat.beq S.nx S.nx then _ else _)=_;rw[show Nat.beq S.nx S.nx=true by simp];rfl
   have f9:∀c,(∃a f,S.st.ap a=some f/\Bk E a c)->E.mb m≠some c->z0.ap c=E.hp.ap c:=λc⟨a,f,d,s⟩C=>by refine d9 c (M.own a f c d s).2 (λr0=>?_) C;subst r0;exact C (k0 (M.own a f c d s).2)
   have hR2:∀i,xs.length<=i->E.ib m i=none:=λi B=>by
    rcases j0 with⟨_,_,k⟩|⟨_,_,_,_,_,_,_,_,k,_⟩;.exact k i
    .exact k i B
   have hR3:∀i j c,E.ib m i=some c->E.ib m j=some c->i=j:=λi j c d s=>by
    rcases j0 with⟨_,_,k⟩|⟨_,_,_,_,_,_,_,_,_,k,_⟩;.rw[k]at d;cases d
    .exact k i j c d s
   have n9:∀i c,E.ib m i=some c->E.mb m≠some c:=λi c d s=>by
    rcases j0 with⟨_,_,k⟩|⟨_,_,v0,_,_,_,_,_,_,_,k⟩;.rw[k]at d;cases d
    .rw[v0]at s;cases s;exact k i d
   have x0:∀c,E.Z c->z0.ap c=E.hp.ap c:=λc u9=>by have l9:=M.z c u9;refine d9 c l9 (λr0=>?_) λq0=>(M.own m _ c w0 (.inl q0)).1 u9;subst r0;exact(M.own m _ c w0 (.inl (k0 l9))).1 u9
   refine⟨bf _,by rw[az];exact hbig,.inr ⟨b,u0,hmb,b6,b7,b8,by rw[az];exact b9,λi l p0=>?_,λi B=>?_,λi j c d s=>?_,λi d=>?_⟩⟩
   .
    rw[d0];by_cases i9:i<xs.length;.rw[bJ i9]at p0;have hx:=j0.p i9;obtain⟨_,_,_,_,_,_,_,r9,_⟩:=hx;obtain⟨q9,_,w3⟩:=r9 i l p0;rw[t0 i (by omega)];refine⟨q9,LA i l p0,gB.fm (E:=E) (E':=tK E z0 S.nx (some b) q (y0.set S.nx (.rows S.nx e (xs++[ys])))) (λ_ k=>k) x0 (λc A=>f9 c ⟨m,_,w0,.inr ⟨i,A⟩⟩ (n9 i c A)) w3⟩
    .
     have hie:i=xs.length:=by have:=(aj.1 p0).1;rw[az]at this;have:i<xs.length+1:=this;omega
     subst hie;rw[bB (ar _),ee]at p0;cases p0;rw[h0];refine⟨hl,⟨v,Px,hv⟩,gB.fm (E:=E) (E':=tK E z0 S.nx (some b) q (y0.set S.nx (.rows S.nx e (xs++[ys])))) (λ_ k=>k) x0 (λc A=>f9 c ?_ λq0=>b0 c A (.inl q0)) hr⟩;obtain⟨a,f,d,s,_⟩:=w9 c A;exact⟨a,f,d,s⟩
   .rw[az]at B;have B:xs.length+1<=i:=B;rw[d0,t0 i (by omega)];exact hR2 i (by omega)
   .
    rw[d0]at d s;by_cases B:i=xs.length
    .
     by_cases i0:j=xs.length;.rw[B,i0]
     .rw[B,h0]at d;rw[t0 j i0]at s;exact absurd (.inr ⟨j,s⟩) (b0 c d)
    .
     rw[t0 i B]at d;by_cases i0:j=xs.length;.rw[i0,h0]at s;exact absurd (.inr ⟨i,d⟩) (b0 c s)
     .rw[t0 j i0]at s;exact hR3 i j c d s
   .
    rw[d0]at d;obtain⟨a,f,q9,w2,_⟩:=e9 b ⟨i,d⟩;have f0:=k0 (M.own a f b q9 w2).2;by_cases B:i=xs.length;.rw[B,h0]at d;exact b0 b d (.inl f0)
    .rw[t0 i B]at d;exact n9 i b d f0
  refine⟨_,_,_,_,_,Pw,this.1,this.2,rfl,rfl,ij.2 ⟨bf _,rfl,λu zs x0=>?_,λt k x0 hk'=>?_⟩,o0⟩;.have x0:(y0.set S.nx (.rows S.nx e (xs++[ys]))).ap S.nx=some (.row u zs):=x0;rw[Tr.a8]at x0;cases x0
  .have x0:(y0.set S.nx (.rows S.nx e (xs++[ys]))).ap S.nx=some t:=x0;rw[Tr.a8]at x0;cases x0;cases hk';show ge (bif Nat.beq S.nx S.nx then some b else _) _ _;rw[show Nat.beq S.nx S.nx=true by simp,az];rfl
 rcases j0 with⟨v0,t9,s9⟩|⟨b,y,v0,t9,s9,b9,p5,r9,p7,p8,p9⟩;.subst t9;rw[v0]at m0;refine z9 (h.hp.set h.nx (.cn ⟨true,1,1,cr .e 0 [v]⟩)) (h.nx+1) h.nx _ (λc d _ _=>pF c d) (λk=>absurd k (qx _)) (dz _) (bf _) (vy M) (Tr.a8 _ _ _) rfl rfl (ar _) (λi l B=>by cases B) (ic (c:=[v]) (p:=0) (by simp)) ?_;rcases m0.2 with rfl|rfl<;>rfl
 .
  rw[v0]at m0;have m0:g0= .sl b 0 xs.length:=m0;subst m0;have c9:h.hp.ap b=some (.cn y):=by rw[<-M.hp];exact t9
  have k9:=mc M w0 (.inl v0) x9;have hbn:=(M.own m _ b w0 (.inl v0)).2;have hcond:(y.own&&(h.gV b&&Nat.beq y.z 1))=true:=by rw[s9,b9];unfold St.gV;rw[k9];simp
  have n0:xs.length*1=xs.length:=hQ _;have m9:gW h 1 (.sl b 0 xs.length) [v] 1=bif Nat.ble (Nat.add 0 (Nat.mul (Nat.add xs.length 1) 1)) y.n then match h.fD b (Nat.add 0 (Nat.mul xs.length 1)) [v]with|some s'=>some (.val (.sl b 0 (Nat.add xs.length 1)) s')|none=>none else bif Nat.ble (Nat.add 0 (Nat.mul xs.length 1)) y.n then some (.val (.sl h.nx 0 (Nat.add xs.length 1)) ⟨h.nt,h.dE,(h.hp.nU b).set h.nx (.cn ⟨true,1,Nat.mul (Nat.add xs.length 1) 1,cr y.c (Nat.mul xs.length 1) [v]⟩),Nat.add h.nx 1,h.lk,h.df⟩)else none:=by show(match h.cn b with|some x=>_|none=>none)=_;rw[jb c9];simp only;rw[hcond];rfl
  have a9:∀(w:Bool)(z n p:Nat),p=xs.length->xs.length+1<=n->∀i l,xs[i]?=some l->∃a0,cu ⟨w,z,n,cr y.c p [v]⟩ i 1=some [a0]/\ge (E.ib m i) l.length a0:=by rintro w z n p rfl g9 i l B;obtain⟨_,⟨a0,s,C⟩,_⟩:=r9 i l B;have:=(aj.1 B).1;exact⟨a0,nw s (by simp;omega) (by omega),C⟩
  by_cases j9:xs.length+1<=y.n
  .
   have hw:=jE (o:=0+xs.length*1) (c:=[v]) c9 s9 k9 (by rw[n0];show 0+xs.length+1<=y.n;omega);refine z9 (h.hp.set b (.cn ⟨true,y.z,y.n,cr y.c (0+xs.length*1) [v]⟩)) h.nx b _ (λc _ s _=>Tr.bW _ _ s) (λ_=>v0) (ar _) hbn (λc A=>?_) (Tr.a8 _ _ _) rfl b9 j9 (a9 _ _ _ _ (by omega) j9) ?_ ?_;.rw[Tr.bW _ _ (by omega)];exact M.fr c A
   .have:=ic (T:=y.c) (w:=true) (z:=y.z) (n:=y.n) (p:=0+xs.length*1) (c:=[v]) (by rw[n0];show 0+xs.length+1<=y.n;omega);rw[show 0+xs.length*1=xs.length by omega]at this⊢;exact this
   .rw[m9,show Nat.ble (Nat.add 0 (Nat.mul (Nat.add xs.length 1) 1)) y.n=true by rw[bS];show 0+(xs.length+1)*1<=y.n;omega];show(match h.fD b (0+xs.length*1) [v]with|some s'=>_|none=>none)=_;rw[hw]
  .
   refine z9 ((h.hp.nU b).set h.nx (.cn ⟨true,1,Nat.mul (Nat.add xs.length 1) 1,cr y.c (Nat.mul xs.length 1) [v]⟩)) (h.nx+1) h.nx _ (λc d _ C=>?_) (λk=>absurd k (qx _)) (dz _) (bf _) (λc A=>?_) (Tr.a8 _ _ _) rfl rfl ?_ (a9 _ _ _ _ n0 ?_) ?_ ?_;.rw[Tr.bW _ _ (by omega),Tr.gU,aG];rintro rfl;exact C v0
   .rw[Tr.bW _ _ (by omega),Tr.gU,aG (by omega)];exact M.fr c (by omega)
   .show xs.length+1<=(xs.length+1)*1;omega
   .show xs.length+1<=(xs.length+1)*1;omega
   .have:=ic (T:=y.c) (w:=true) (z:=1) (n:=Nat.mul (Nat.add xs.length 1) 1) (p:=Nat.mul xs.length 1) (c:=[v]) (by show xs.length*1+1<=(xs.length+1)*1;omega);have e1:Nat.mul xs.length 1=xs.length:=n0;rw[e1]at this⊢;exact this
   .
    rw[m9,show Nat.ble (Nat.add 0 (Nat.mul (Nat.add xs.length 1) 1)) y.n=false by cases v9:Nat.ble (Nat.add 0 (Nat.mul (Nat.add xs.length 1) 1)) y.n with
     |false=>rfl
     |true=>rw[bS]at v9;have v9:0+(xs.length+1)*1<=y.n:=v9;omega,show Nat.ble (Nat.add 0 (Nat.mul xs.length 1)) y.n=true by rw[bS];show 0+xs.length*1<=y.n;omega]
    rfl
theorem K6(M:da S h E){t p0:Nat}{a x:SV}{C o0:HV}(c:K7 cy S t p0 a x K=some r)(D:V E a C)(s0:V E x o0):Mv S h E K r (iu cy.cx h t p0 C o0):=by
 unfold K7 at c;split at c
 .
  rename_i y u q z9;split at c
  .
   rename_i m k;split at c
   .
    rename_i g e f z w o h0;rw[aH]at c;split at c
    .
     rename_i y0;simp only[ae,bF]at y0;obtain⟨y9,A,a0⟩:=y0;subst y9;have A:=au A;subst A;split at c
     .
      rename_i m0 d i0;rw[aH]at c;split at c
      .
       rename_i j;simp only[ae]at j;obtain⟨j,u0⟩:=j;obtain⟨v0,x0⟩:=eC c;obtain⟨b,n0,o9,x9,w9,l9,k9,B,v9⟩:=M.gm k _ h0;obtain⟨v,m9,rfl,u9,t9,s9,p,q0,r9,q9⟩:=wL M i0 (dA.1 v9);obtain⟨i,n⟩:=gy j;have i:S.jQ m=true:=by rw[p]at i;exact i
       have n:bw m S.lk=false:=by rw[p]at n;exact n
       have e0:d.st.ap m=some (.rows g e f):=by cases w0:d.st.ap m with
        |none=>rw[w0]at u0;cases u0
        |some l0=>rw[q0 m l0 w0]at o;exact o
       rw[ij]at D;have t0:=D.2.2.2 _ _ (by rw[M.st];exact o) rfl;rw[uS]at s0;obtain⟨_,p9,z0,rfl,_⟩:=s0;rw[x9]at z0;cases z0;have j0:f.length+1<=140737488355328:=ud v0 (pt q).2;have k0:(d.mI m).bT (.rows d.nx e (aM f [m0]))=S.mem ((d.st.nU m).set S.nx (.rows S.nx e (f++[m0]))) (Nat.add S.nx 1):=by rw[p];rfl
       have d0:d.nx=S.nx:=by rw[p];rfl
       rw[k0,d0]at x0;have r0:y.z=1:=pK q z9;have g0:=ie B;have n9:y.z=1:=r0;have b0:jg h 1 (.sl b 0 1)=some ([v],1):=by unfold jg;simp only[cellsOf,lenOf];rw[jb (by rw[<-M.hp];exact w9)];simp only;have:n0.n=1:=g0.symm;rw[this]at B;show(match cu n0 0 1,some 1 with|some l,some k=>some (l,k)|_,_=>none)=_;rw[B]
       have f0:lenOf C=some f.length:=oo t0;have:=Pa (r:=r) (K:=K) M q0 r9 o e0 i n t0 q9 u9 t9 s9 j0 x0;unfold iu;rw[q];simp only;rw[uu a0 (λs c0=>by cases c0),r0,b0,f0];simp only;rw[show gL (Nat.add f.length 1) y.lX=true from v0];exact this
      .cases c
     .cases c
    .cases c
   .cases c
  .cases c
 .cases c
def T5(E:En)(m j n:Nat)(st:Tr iK):En:=⟨E.hp,E.Z,λa=>bif Nat.beq a n then E.ib m j else E.mb a,λa k=>bif Nat.beq a n then none else bif Nat.beq a m&&Nat.beq k j then none else E.ib a k,st,n+1,E.lo⟩
theorem Oz(M:da S h E){m g j:Nat}{e:U}{xs:List (List (D e))}{l:List (D e)}(B:S.st.ap m=some (.rows g e xs))(s0:S.jQ m=true)(w9:bw m S.lk=false)(x9:xs[j]?=some l):da ((S.iy m (.mJ e xs (Int.ofNat j))).bT (.row e l)) h (T5 E m j S.nx ((S.st.set m (.mJ e xs (Int.ofNat j))).set S.nx (.row e l)))/\Gr S h E ((S.iy m (.mJ e xs (Int.ofNat j))).bT (.row e l)) h (T5 E m j S.nx ((S.st.set m (.mJ e xs (Int.ofNat j))).set S.nx (.row e l))):=by
 have hlt:=M.lt m _ B;have z0:m≠S.nx:=by omega
 obtain⟨hg,b9,f9⟩:=M.gm m _ B;have y9:j<xs.length:=(aj.1 x9).1;obtain⟨b,y,q9,p2,p3,p4,p5,p9,p7,o9,n9⟩:=f9.p y9;let u0:=(S.st.set m (.mJ e xs (Int.ofNat j))).set S.nx (.row e l);let o:En:=T5 E m j S.nx u0;have m0:∀a,a≠S.nx->o.mb a=E.mb a:=λa d=>by show(bif Nat.beq a S.nx then _ else _)=_;rw[kb d];rfl
 have r9:o.mb S.nx=E.ib m j:=by show(bif Nat.beq S.nx S.nx then _ else _)=_;rw[show Nat.beq S.nx S.nx=true by simp];rfl
 have t9:∀k,o.ib S.nx k=none:=λk=>by show(bif Nat.beq S.nx S.nx then _ else _)=_;rw[show Nat.beq S.nx S.nx=true by simp];rfl
 have r0:∀a k,a≠S.nx->¬(a=m/\k=j)->o.ib a k=E.ib a k:=λa k d x0=>by
  show(bif Nat.beq a S.nx then _ else bif Nat.beq a m&&Nat.beq k j then _ else _)=_
  rw[kb d,show(Nat.beq a m&&Nat.beq k j)=false by cases n:Nat.beq a m&&Nat.beq k j with
   |false=>rfl
   |true=>rw[ae]at n;exact absurd ⟨au n.1,au n.2⟩ x0]
  rfl
 have c0:o.ib m j=none:=by show(bif Nat.beq m S.nx then _ else bif Nat.beq m m&&Nat.beq j j then _ else _)=_;rw[kb z0,show(Nat.beq m m&&Nat.beq j j)=true by simp];rfl
 have j0:∀a k c,a≠S.nx->o.ib a k=some c->E.ib a k=some c:=λa k c d x0=>by
  by_cases n:a=m/\k=j;.obtain⟨rfl,rfl⟩:=n;rw[c0]at x0;cases x0
  .rw[r0 a k d n]at x0;exact x0
 have d0:∀a,u0.ap a=if a=S.nx then some (.row e l)else if a=m then some (.mJ e xs (Int.ofNat j))else S.st.ap a:=λa=>by show((S.st.set m _).set S.nx _).ap a=_;rw[Tr.dg,Tr.dg]
 have y0:∀a t,u0.ap a=some t->a=S.nx/\t= .row e l\/a=m/\t= .mJ e xs (Int.ofNat j)\/a≠S.nx/\a≠m/\S.st.ap a=some t:=by
  intro a t d;rw[d0]at d;split at d;.cases d;exact .inl ⟨by assumption,rfl⟩
  .
   split at d;.cases d;exact .inr (.inl ⟨by assumption,rfl⟩)
   .exact .inr (.inr ⟨by assumption,by assumption,d⟩)
 have A:∀a c,a≠S.nx->Bk o a c->Bk E a c:=λa c d s0=>by
  rcases s0 with q|⟨k,q⟩;.rw[m0 a d]at q;exact .inl q
  .exact .inr ⟨k,j0 a k c d q⟩
 have t0:∀c,Bk o S.nx c->E.ib m j=some c:=λc s0=>by
  rcases s0 with q|⟨k,q⟩;.rw[r9]at q;exact q
  .rw[t9]at q;cases q
 have b0:∀c,Bk o m c->E.ib m j≠some c:=λc s0 n=>by
  rcases s0 with q|⟨k,q⟩;.rw[m0 m z0,q9]at q;cases q;exact n9 j n
  .
   by_cases x0:k=j;.subst x0;rw[c0]at q;cases q
   .exact x0 (o9 k j c (j0 m k c z0 q) n)
 have l9:∀a t k,a<S.nx->u0.ap a=some t->t.rn=some k->∃p0,S.st.ap a=some p0/\p0.rn=some k:=λa t k d s x0=>by
  rcases y0 a t s with⟨q,_⟩|⟨rfl,rfl⟩|⟨_,_,q⟩;.omega
  .cases x0;exact⟨_,B,rfl⟩
  .exact⟨t,q,x0⟩
 have g0:∀a v0 u z,a<S.nx->u0.ap a=some (.rows v0 u z)->S.st.ap a=some (.rows v0 u z)/\∀k,o.ib a k=E.ib a k:=λa v0 u z d s=>by
  rcases y0 a _ s with⟨q,_⟩|⟨_,q⟩|⟨p,C,q⟩;.omega
  .cases q
  .exact⟨q,λk=>r0 a k p λn=>C n.1⟩
 have m9:∀a u z,a<S.nx->u0.ap a=some (.row u z)->∃j9,S.st.ap a=some (.row u j9)/\j9.length=z.length:=λa u z d s=>by
  rcases y0 a _ s with⟨q,_⟩|⟨_,q⟩|⟨_,_,q⟩;.omega
  .cases q
  .exact⟨z,q,rfl⟩
 have k9:∀a c w,a<S.nx->u0.ap a=some (.zn c w)->∃h0,S.st.ap a=some (.zn h0 w)/\(c=true->h0=true)/\(∀k,o.ib a k=E.ib a k)/\∀b,Bz E a b->Le c (h.hp.ap b) (h.hp.ap b):=λa c w d s=>by
  rcases y0 a _ s with⟨q,_⟩|⟨_,q⟩|⟨p,C,q⟩;.omega
  .cases q
  .exact⟨c,q,id,λk=>r0 a k p λn=>C n.1,λ_ _=>fK c _⟩
 have f:Fm E.nx E o:=⟨rfl,λa c w d s=>by obtain⟨h0,i9,h9,g9,g4⟩:=k9 a c w (by rw[<-M.nx];exact d) s;exact⟨h0,by rw[M.st];exact i9,h9,g9,λb _=>fK c _⟩,λ_ q=>q,λ_ _=>rfl,by rw[M.nx];exact dz _,λa d=>m0 a (by rw[M.nx]at d;omega),λa u z d s=>by rw[M.nx]at d;rw[M.st];exact m9 a u z d s,λa t k d s x0=>by rw[M.nx]at d;rw[M.st];exact l9 a t k d s x0,λa v0 u z d hg' s=>by rw[M.nx]at d;rw[M.st];exact⟨z,(g0 a v0 u z d s).1,fp.refl,(g0 a v0 u z d s).2⟩⟩;obtain⟨k1,k2,k3⟩:=p9 j l x9;refine⟨⟨M.hp,rfl,rfl,λa t d=>?_,λa t d=>?_,λa w0 t p0 c d f0 o0 q0=>?_,λa t c d x=>?_,M.z,M.fr,λc n0=>⟨(M.lk c n0).1,λa t d x=>?_⟩,λa c x=>?_,λa t d v9=>?_,M.zo⟩,⟨rfl,rfl,rfl,rfl,rfl,rfl,rfl,rfl,ar _,dz _,λ_ q=>q,λc q=> .inl q,λ_ _ _=>rfl,λc a9=>?_,λa d=>m0 a (by omega),λa d k0=>?_,λa d e0=>?_,m9,λc a t n0 d x=>?_,l9,λa v0 u z d _ s=>⟨z,(g0 a v0 u z d s).1,fp.refl,(g0 a v0 u z d s).2⟩,λa d k0 k=>r0 a k (by omega) λn=>?_,rfl,k9⟩⟩
 .
  show a<S.nx+1;rcases y0 a t d with⟨q,_⟩|⟨q,_⟩|⟨_,_,q⟩;.omega
  .omega
  .have:=M.lt a t q;omega
 .
  rcases y0 a t d with⟨rfl,rfl⟩|⟨rfl,rfl⟩|⟨p,C,q⟩;.refine⟨k1,?_⟩;show gB o (o.mb S.nx) e l;rw[r9];exact k3.fm (λ_ q=>q) (λ_ _=>rfl) λ_ _=>rfl
  .
   refine⟨b9,j,rfl,y9,c0,b,y,by show o.mb a=_;rw[m0 a z0];exact q9,p2,p3,p4,p5,λi s9 d9 c9=>?_,λi e9=>?_,λi u9 c C q2=>o9 i u9 c (j0 a i c z0 C) (j0 a u9 c z0 q2),λi q=>n9 i (j0 a i b z0 q)⟩;.obtain⟨l0,w2,w3⟩:=p9 i s9 c9;have a0:o.ib a i=E.ib a i:=r0 a i z0 λn=>d9 n.2;refine⟨l0,by show∃v,_/\ge (o.ib a i) _ v;rw[a0];exact w2,?_⟩;show gB o (o.ib a i) e s9;rw[a0];exact w3.fm (λ_ q=>q) (λ_ _=>rfl) λ_ _=>rfl
   .show o.ib a i=none;rw[r0 a i z0 λn=>by omega];exact p7 i e9
  .exact(M.gm a t q).fm f (m0 a p) (λk=>r0 a k p λn=>C n.1) λ_ _=>rfl
 .
  rcases y0 a t d with⟨rfl,rfl⟩|⟨rfl,rfl⟩|⟨p,C,q⟩
  .
   have z9:=t0 c o0;rcases y0 w0 p0 f0 with⟨rfl,rfl⟩|⟨rfl,rfl⟩|⟨i0,l0,w⟩;.rfl
   .exact absurd z9 (b0 c q0)
   .exact absurd (M.inj w0 m _ _ c w B (A w0 c i0 q0) (.inr ⟨j,z9⟩)) l0
  .
   rcases y0 w0 p0 f0 with⟨rfl,rfl⟩|⟨rfl,rfl⟩|⟨i0,l0,w⟩;.exact absurd (t0 c q0) (b0 c o0)
   .rfl
   .exact absurd (M.inj w0 a _ _ c w B (A w0 c i0 q0) (A a c z0 o0)) l0
  .
   rcases y0 w0 p0 f0 with⟨rfl,rfl⟩|⟨rfl,rfl⟩|⟨i0,l0,w⟩;.exact absurd (M.inj a m _ _ c q B (A a c p o0) (.inr ⟨j,t0 c q0⟩)) C
   .exact absurd (M.inj a w0 _ _ c q B (A a c p o0) (A w0 c z0 q0)) C
   .exact M.inj a w0 t p0 c q w (A a c p o0) (A w0 c i0 q0)
 .
  rcases y0 a t d with⟨rfl,rfl⟩|⟨rfl,rfl⟩|⟨p,C,q⟩;.exact M.own m _ c B (.inr ⟨j,t0 c x⟩)
  .exact M.own a _ c B (A a c z0 x)
  .exact M.own a t c q (A a c p x)
 .
  rcases y0 a t d with⟨rfl,rfl⟩|⟨rfl,rfl⟩|⟨p,C,q⟩;.have:=(M.lk c n0).2 m _ B (.inr ⟨j,t0 c x⟩);rw[w9]at this;cases this
  .exact(M.lk c n0).2 a _ B (A a c z0 x)
  .exact(M.lk c n0).2 a t q (A a c p x)
 .
  by_cases d:a=S.nx;.subst d;exact M.rq m c (.inr ⟨j,t0 c x⟩)
  .exact M.rq a c (A a c d x)
 .
  intro k;rcases y0 a t d with⟨rfl,rfl⟩|⟨rfl,rfl⟩|⟨p,C,q⟩;.exact t9 k
  .cases v9
  .show o.ib a k=none;rw[r0 a k p λn=>C n.1];exact M.py a t q v9 k
 .
  obtain⟨a,t,d,x⟩:=a9;rcases y0 a t d with⟨rfl,rfl⟩|⟨rfl,rfl⟩|⟨p,C,q⟩;.exact .inl ⟨m,_,B,.inr ⟨j,t0 c x⟩⟩
  .exact .inl ⟨a,_,B,A a c z0 x⟩
  .exact .inl ⟨a,t,q,A a c p x⟩
 .show u0.ap a=_;rw[d0,aG (by omega),aG λq=>by subst q;rw[s0]at k0;cases k0]
 .show u0.ap a=_;rw[d0,aG (by omega),aG λq=>by subst q;rw[B]at e0;cases e0];exact e0
 .
  rcases y0 a t d with⟨rfl,rfl⟩|⟨rfl,rfl⟩|⟨p,C,q⟩;.have:=(M.lk c n0).2 m _ B (.inr ⟨j,t0 c x⟩);rw[w9]at this;cases this
  .exact⟨_,B,A a c z0 x⟩
  .exact⟨t,q,A a c p x⟩
 .obtain⟨rfl,_⟩:=n;rw[s0]at k0;cases k0
theorem Km(M:da S h E){a x:SV}{w y0:HV}{o:Option Rs}{y:SV->SS->Option R}(c:Ko S a y=some r)(i:V E a w)(z0:V E x y0)(F:∀{f:SS}{E':En}{b:SV},da f h E'->y b f=some r->V E' b w->V E' x y0->Mv f h E' K r o):Mv S h E K r o:=by
 unfold Ko at c;split at c
 .
  rename_i m g j;split at c
  .
   rename_i e0 e p D;rw[aH]at c;split at c
   .
    rename_i q;rw[ae]at q;have s0:=au q.1;subst s0;obtain⟨t0,o0⟩:=gy q.2;obtain⟨l,p0,q0⟩:=iv c;obtain⟨n,rfl,C⟩:=kv p0;obtain⟨z,B⟩:=Oz M D t0 o0 C;rw[C2]at i;obtain⟨_,_,u0,i⟩:=i;obtain⟨k,d0,x0,A,w0⟩:=i e p (by rw[M.st];exact D);cases x0;rw[C]at A;cases A
    have n0:V (T5 E m n S.nx ((S.st.set m (.mJ e p (Int.ofNat n))).set S.nx (.row e l))) (.row S.nx) w:=by
     refine ij.2 ⟨bf _,u0,λu f0 d=>?_,λt k d r0=>?_⟩;.have d:((S.st.set m (.mJ e p (Int.ofNat n))).set S.nx (.row e l)).ap S.nx=some (.row u f0):=d;rw[Tr.a8]at d;cases d;show ge (bif Nat.beq S.nx S.nx then E.ib m n else _) _ _;rw[show Nat.beq S.nx S.nx=true by simp];exact w0
     .have d:((S.st.set m (.mJ e p (Int.ofNat n))).set S.nx (.row e l)).ap S.nx=some t:=d;rw[Tr.a8]at d;cases d;cases r0
    obtain⟨s,v,v0,f,E',m0,l0,k0,j0,i0,h0,g0⟩:=F z q0 n0 (z0.gr B M z);exact⟨s,v,v0,f,E',m0,l0,B.trans k0,j0,i0,h0,g0⟩
   .cases c
  .cases c
 .exact F M c i z0
end
section
variable{E:En}{S:SS}{h:St}{cy:Cy}{R:Type}{r:R}{K:SV->SS->Option R}
def VO(E:En):Option SV->Option HV->Prop|none,o=>o=none|some s,o=>∃v,o=some v/\V E s v
theorem zd(d:dN S h E){x:Option Operand}{o:Option SV}(a:Iz S x=some o):∃q,n7 h x=some q/\VO E o q:=by
 unfold Iz at a;split at a;.cases a;exact⟨none,rfl,rfl⟩
 .
  split at a;.rename_i s e;cases a;obtain⟨v,b,c⟩:=bV d e;exact⟨some v,by unfold n7;simp only;rw[b],v,rfl,c⟩
  .cases a
theorem lY{d:Nat}{o:Option SV}{q:Option HV}{x:Int}(b:lE (Int.ofNat d) o=some x)(a:VO E o q)(c:0<=x):∃p,fw q=some p/\dW d p=x.toNat:=by
 unfold lE at b;split at b;.cases b;have a:q=none:=a;subst a;exact⟨none,rfl,rfl⟩
 .cases b;obtain⟨v,rfl,a⟩:=a;rw[dT]at a;subst a;obtain⟨n,rfl⟩:∃n:Nat,x=Int.ofNat n:=⟨_,qd c⟩;exact⟨some n,rfl,rfl⟩
 .cases b
theorem jO{o:Option SV}{q:Option HV}(b:vN o=true)(a:VO E o q):∃p,fw q=some p/\dW 0 p=0/\(o.isSome=true->p=some 0):=by
 unfold vN at b;split at b;.have a:q=none:=a;subst a;exact⟨none,rfl,rfl,λh=>by cases h⟩
 .
  rename_i k x;have b:x=0:=by simpa using b
  subst b;obtain⟨v,rfl,a⟩:=a;rw[dT]at a;subst a;exact⟨some 0,rfl,rfl,λ_=>rfl⟩
 .cases b
theorem oP{lo hi n:Int}(h:dJ lo hi n=true):0<=lo/\lo<=hi/\hi<=n:=by unfold dJ at h;simp only[ae,bF]at h;exact⟨h.1,h.2.1,h.2.2⟩
theorem Pm{α:Type}{xs:List α}{lo hi:Int}{i:Nat}{x:α}(h:(eX xs lo hi)[i]?=some x):xs[lo.toNat+i]?=some x/\lo.toNat+i<hi.toNat:=by
 unfold eX at h;rw[fa]at h;split at h;.rw[gz]at h;exact⟨h,by omega⟩
 .cases h
theorem Pk{α:Type}{xs:List α}{lo hi:Int}(h:dJ lo hi (ak xs)=true):(eX xs lo hi).length=hi.toNat-lo.toNat:=by
 obtain⟨b,c,a⟩:=oP h;unfold eX;unfold ak at a;rw[aY,cE];have:hi.toNat<=xs.length:=by obtain⟨n,rfl⟩:∃n:Nat,hi=Int.ofNat n:=⟨_,qd (by omega)⟩;exact lm.1 a
 omega
theorem zP(M:da S h E){t e z:Nat}{x:qq}{u:U}{xs:List (D u)}{s:HV}{lo hi:Option SV}{l hh:Int}{q p:Option HV}(y9:cy.cx.ti.ap t=some x)(v0:x.sh= .slice e)(g:cy.cx.size e=some z)(a0:u.size=z)(x9:1<=z)(C:V E (.val (.bc u) xs) s)(f0:lE 0 lo=some l)(g0:lE (ak xs) hi=some hh)(z0:dJ l hh (ak xs)=true)(t9:VO E lo q)(u9:VO E hi p):∃v,eG cy.cx h t s q p none=some (.val v h)/\V E (.val (.bc u) (eX xs l hh)) v:=by
 subst a0;obtain⟨t0,s9,s0⟩:=oP z0;obtain⟨n9,q0,p0⟩:=lY (d:=0) f0 t9 t0;obtain⟨c,o0,j⟩:=lY (d:=xs.length) g0 u9 (by omega);have f:=Pk z0;have d0:l.toNat<=hh.toNat:=by omega
 have x0:hh.toNat<=xs.length:=by obtain⟨n,rfl⟩:∃n:Nat,hh=Int.ofNat n:=⟨_,qd (by omega)⟩;exact lm.1 s0
 have y0:∀w,eG cy.cx h t w q p none=match x.sh,w with
  | .slice e,.sl b o n=>match cy.cx.size e,h.cn b with
   |some z,some y=>match iH y b o n z l.toNat c none with|some v=>some (.val v h)|none=>none
   |_,_=>none
  | .slice e,.jz b o n=>match cy.cx.size e,(none:Option Nat)with|some z,none=>let a:=dW n c;bif Nat.ble l.toNat a&&Nat.ble a n then some (.val (Hm.part HV.jz b o z l.toNat a) h)else none|_,_=>none
  | .slice e,v=>match cy.cx.size e,gT v l.toNat c none with|some _,some u=>some (.val u h)|_,_=>none
  | .fF m e,.ptr b o=>match cy.cx.size e,(none:Option Nat)with|some z,none=>let a:=dW m c;bif Nat.ble m 1000000&&(Nat.ble l.toNat a&&Nat.ble a m)then some (.val (Hm.part HV.jz b o z l.toNat a) h)else none|_,_=>none
  | .dH,.dH b=>match(none:Option Nat)with|none=>let a:=dW b.size c;bif Nat.ble l.toNat a&&Nat.ble a b.size then some (.val (.dH (b.extract l.toNat a)) h)else none|some _=>none
  |_,_=>none:=by intro w;unfold eG;rw[y9,q0,o0,show fw none=some none from rfl];simp only;rw[p0];rfl
 rw[oJ]at C;rcases C with⟨m0,d⟩|⟨b,o,y,⟨d,A⟩,k0,B,r9,q9,j0⟩
 .
  subst m0;have l0:hh.toNat=0:=by simpa using x0
  have e0:l.toNat=0:=by omega
  have c0:eX ([]:List (D u)) l hh=[]:=by apply eR.1;rw[f];omega
  have n0:dW 0 c=0:=by rw[l0]at j;exact j
  have k:(Nat.beq l.toNat 0&&(Nat.beq (dW 0 c) 0&&Nat.beq (dW 0 (none:Option Nat)) 0))=true:=by rw[e0,n0];rfl
  refine⟨s,?_,?_⟩
  .
   rw[y0];rw[v0];rcases d with rfl|rfl|rfl;.show(match cy.cx.size e,gT HV.cK l.toNat c none with|some _,some u=>some (Rs.val u h)|_,_=>none)=_;rw[g];unfold gT;rw[k];rfl
   .show(match cy.cx.size e,gT HV.gO l.toNat c none with|some _,some u=>some (Rs.val u h)|_,_=>none)=_;rw[g];unfold gT;rw[k];rfl
   .show(match cy.cx.size e,gT HV.mj l.toNat c none with|some _,some u=>some (Rs.val u h)|_,_=>none)=_;rw[g];unfold gT;rw[k];rfl
  .rw[c0,oJ];exact .inl ⟨rfl,d⟩
 .
  subst d;have p9:hh.toNat*u.size<=xs.length*u.size:=cq _ x0;have h0:(Nat.ble 1 u.size&&Nat.ble hh.toNat 140737488355328&&(Nat.ble l.toNat hh.toNat&&(Nat.beq y.z u.size&&Nat.ble (Nat.add o (Nat.mul hh.toNat u.size)) y.n)))=true:=by simp only[ae,bS];refine⟨⟨x9,by omega⟩,d0,by rw[A];simp,?_⟩;show o+hh.toNat*u.size<=y.n;omega
  have b0:iH y b o xs.length u.size l.toNat c none=some (Hm.part HV.sl b o u.size l.toNat hh.toNat):=by unfold iH;simp only;rw[j,h0];rfl
  have i0:h.cn b=some y:=jb (by rw[<-M.hp];exact B);refine⟨Hm.part HV.sl b o u.size l.toNat hh.toNat,?_,?_⟩;.rw[y0,v0];simp only;rw[g,i0];simp only;rw[b0]
  .
   rw[oJ];unfold Hm.part;rw[aH];split;.rename_i w0;simp only[ae]at w0;have:=au w0.1;exact .inl ⟨eR.1 (by rw[f];omega),.inr (.inr rfl)⟩
   .
    refine .inr ⟨b,o+l.toNat*u.size,y,⟨by rw[f];rfl,A⟩,k0,B,?_,by omega,λi w z9=>?_⟩
    .
     rw[f];have:l.toNat*u.size+(hh.toNat-l.toNat)*u.size=hh.toNat*u.size:=by rw[<-go];congr 1;omega
     omega
    .obtain⟨w9,o9⟩:=Pm z9;obtain⟨r0,u0,v9⟩:=j0 _ w w9;refine⟨r0,?_,v9⟩;rw[go]at u0;rw[gI];exact u0
theorem kT{t e z:Nat}{x:qq}{w u:HV}{i g j:Option HV}{b a c:Option Nat}(n:cy.cx.ti.ap t=some x)(l:x.sh= .slice e)(f:cy.cx.size e=some z)(h1:fw i=some b)(h2:fw g=some a)(k:fw j=some c)(m:w= .cK\/w= .gO\/w= .mj)(d:gT w (dW 0 b) a c=some u):eG cy.cx h t w i g j=some (.val u h):=by
 unfold eG;rw[n,h1,h2,k];simp only;rw[l];rcases m with rfl|rfl|rfl;.show(match cy.cx.size e,gT HV.cK (dW 0 b) a c with|some _,some u=>some (Rs.val u h)|_,_=>none)=_;rw[f,d]
 .show(match cy.cx.size e,gT HV.gO (dW 0 b) a c with|some _,some u=>some (Rs.val u h)|_,_=>none)=_;rw[f,d]
 .show(match cy.cx.size e,gT HV.mj (dW 0 b) a c with|some _,some u=>some (Rs.val u h)|_,_=>none)=_;rw[f,d]
theorem Ai{t e z b o n:Nat}{x:qq}{y:gY}{v:HV}{g f i:Option HV}{c a d:Option Nat}(p:cy.cx.ti.ap t=some x)(m:x.sh= .slice e)(q:cy.cx.size e=some z)(h1:fw g=some c)(h2:fw f=some a)(j:fw i=some d)(k:h.cn b=some y)(l:iH y b o n z (dW 0 c) a d=some v):eG cy.cx h t (.sl b o n) g f i=some (.val v h):=by unfold eG;rw[p,h1,h2,j];simp only;rw[m];simp only;rw[q,k];simp only;rw[l]
theorem AV{w:HV}{b a:Option Nat}(c:dW 0 b=0)(hh:dW 0 a=0)(d:w= .cK\/w= .gO\/w= .mj):gT w (dW 0 b) a none=some w:=by unfold gT;rw[c,hh];rcases d with rfl|rfl|rfl<;>rfl
theorem CD{w:HV}{a:Option Nat}(b:dW 0 a=0)(c:w= .cK\/w= .gO\/w= .mj):∃u,gT w (dW 0 a) (some 0) (some 0)=some u/\(u= .cK\/u= .gO)/\(w= .cK->u= .cK):=by
 unfold gT;rw[b];rcases c with rfl|rfl|rfl;.exact⟨_,rfl,.inl rfl,λ_=>rfl⟩
 .exact⟨_,rfl,.inr rfl,λh=>by cases h⟩
 .exact⟨_,rfl,.inr rfl,λh=>by cases h⟩
theorem EC{d:Nat}{o:Option SV}{q:Option HV}{l:Nat}(b:(match o with|none=>some d|some v=>v8 v)=some l)(a:VO E o q):∃p,fw q=some p/\dW d p=l:=by cases o with
 |none=>cases b;have a:q=none:=a;subst a;exact⟨none,rfl,rfl⟩
 |some s=>obtain⟨v,rfl,a⟩:=a;obtain⟨k,rfl⟩:=ox b;rw[dT]at a;subst a;exact⟨some l,rfl,rfl⟩
theorem VO.mono{E':En}(c:∀s v,V E s v->V E' s v):∀{o:Option SV}{q:Option HV},VO E o q->VO E' o q|none,_,h=>h|some _,_,⟨v,a,b⟩=>⟨v,a,c _ _ b⟩
theorem Rt(M:da S h E)(m:Nat):da (S.mI m) h (GK E S m)/\Fm E.nx E (GK E S m):=by have b:da (⟨S.nt,S.dE,S.st,S.nx,S.lk,0,S.wr,S.kp⟩:SS) h E:=⟨M.hp,M.st,M.nx,M.lt,M.gm,M.inj,M.own,M.z,M.fr,M.lk,M.rq,M.py,M.zo⟩;obtain⟨a,c⟩:=yU b (m:=m) (by unfold SS.jQ;show(Nat.ble 0 m||_)=true;simp);exact⟨⟨a.hp,a.st,a.nx,a.lt,a.gm,a.inj,a.own,a.z,a.fr,a.lk,a.rq,a.py,a.zo⟩,c.fm b a⟩
theorem Br(M:da S h E){t e z m:Nat}{x:qq}{u:U}{xs:List (D u)}{g:HV}{lo hi:Option SV}{l hh:Int}{n k:Option HV}(x0:cy.cx.ti.ap t=some x)(z0:x.sh= .slice e)(w0:cy.cx.size e=some z)(y0:u.size=z)(v0:1<=z)(d:S.st.ap m=some (.row u xs))(i:V E (.row m) g)(A:lE 0 lo=some l)(y:lE (ak xs) hi=some hh)(a:dJ l hh (ak xs)=true)(t0:VO E lo n)(u0:VO E hi k):∃v,eG cy.cx h t g n k none=some (.val v h)/\V (GK E S m) (.val (.bc u) (eX xs l hh)) v:=by
 obtain⟨o,p⟩:=Rt M m;have j:∀s v,V E s v->V (GK E S m) s v:=λs v f=>f.fm p (.inl rfl);rw[ij]at i;have f:=i.2.2.1 u xs (by rw[M.st];exact d);obtain⟨B,C⟩:=M.gm m _ d;have q:V (GK E S m) (.val (.bc u) xs) g:=by rw[oJ];exact AN (E:=E) (Q:=(GK E S m).Z) (λc a=> .inr ⟨by rw[d];rfl,.inl a⟩) (λb w=> .inl w) B f C
 exact zP o x0 z0 w0 y0 v0 q A y a (t0.mono j) (u0.mono j)
theorem HI(M:da S h E){t:Nat}{a:SV}{C:HV}{lo hi m9:Option SV}{y9 z9 p0:Option HV}(c:F0 cy S t a lo hi m9 K=some r)(g:V E a C)(s0:VO E lo y9)(t0:VO E hi z9)(q:VO E m9 p0):Mv S h E K r (eG cy.cx h t C y9 z9 p0):=by
 have u0:∀s v,eG cy.cx h t C y9 z9 p0=some (.val v h)->V E s v->K s S=some r->Mv S h E K r (eG cy.cx h t C y9 z9 p0):=λs v A y0 v9=>⟨s,v,h,S,E,A,M,Gr.refl,rfl,rfl,y0,v9⟩;unfold F0 at c;split at c
 .
  rename_i x w0;split at c
  .
   rename_i e D;split at c
   .
    rename_i z v0;split at c
    .
     rename_i u o0;have q:p0=none:=q;subst q;split at c
     .
      rename_i l f q0 r0;rw[aH]at c;split at c;.rename_i d;simp only[ae,bS]at d;obtain⟨A,y0⟩:=eC c;obtain⟨v,n0,e0⟩:=zP M w0 D v0 (au d.1) d.2 g q0 r0 A s0 t0;exact u0 _ v n0 e0 y0
      .cases c
     .cases c
    .
     rename_i u o0 m;rw[aH]at c;split at c
     .
      rename_i d;simp only[ae,bS]at d;obtain⟨k0,i,B,_⟩:=jO d.1.1.1.2 s0;obtain⟨m0,j,z0,j0⟩:=jO d.1.1.2 t0;obtain⟨l9,f0,r9,c0⟩:=jO d.1.2 q;have:=j0 d.2;subst this;have:=c0 rfl;subst this;have h0:=au d.1.1.1.1.1;subst h0;rw[oJ]at g;rcases g with⟨p9,A⟩|⟨b,o,y,⟨A,g9⟩,y0,v9,a9,h5,h6⟩;.obtain⟨w,n0,e0,_⟩:=CD B A;exact u0 _ w (kT w0 D v0 i j f0 A n0) (qp.2 e0) c
      .
       subst A;refine u0 _ .gO (Ai w0 D v0 i j f0 (jb (by rw[<-M.hp];exact v9)) ?_) (qp.2 (.inr rfl)) c;unfold iH;simp only;rw[B];have g0:(Nat.ble 1 u.size&&Nat.ble (dW o0.length (some 0)) 140737488355328&&(Nat.ble 0 (dW o0.length (some 0))&&(Nat.beq y.z u.size&&Nat.ble (Nat.add o (Nat.mul (dW o0.length (some 0)) u.size)) y.n)))=true:=by simp only[ae,bS];refine⟨⟨d.1.1.1.1.2,aP _⟩,aP _,by rw[g9];simp,?_⟩;show o+0*u.size<=y.n;omega
       rw[g0];have x9:(Nat.ble (dW o0.length (some 0)) 0&&Nat.ble (Nat.add o (Nat.mul 0 u.size)) y.n)=true:=by simp only[ae,bS];refine⟨ar _,?_⟩;show o+0*u.size<=y.n;omega
       show(bif Nat.ble (dW o0.length (some 0)) 0&&Nat.ble (Nat.add o (Nat.mul 0 u.size)) y.n then _ else _)=_;rw[x9];rfl
     .cases c
    .
     have q:p0=none:=q;subst q;rw[aH]at c;split at c;.rename_i d;simp only[ae]at d;obtain⟨k0,i,B,_⟩:=jO d.1 s0;obtain⟨m0,j,z0,j0⟩:=jO d.2 t0;have x0:=lF.1 g;exact u0 _ C (kT w0 D v0 i j rfl (.inl x0) (AV B z0 (.inl x0))) g c
     .
      split at c;.rename_i l f q0 r0;obtain⟨A,y0⟩:=eC c;obtain⟨g0,x9,w9⟩:=oP A;obtain⟨k0,i,B⟩:=lY (d:=0) q0 s0 g0;obtain⟨m0,j,z0⟩:=lY (d:=0) r0 t0 (by omega);have x0:=lF.1 g;exact u0 _ C (kT w0 D v0 i j rfl (.inl x0) (AV (by rw[B];omega) (by rw[z0];omega) (.inl x0))) g y0
      .cases c
    .
     rw[aH]at c;split at c;.rename_i d;simp only[ae]at d;obtain⟨k0,i,B,_⟩:=jO d.1.1.1 s0;obtain⟨m0,j,z0,j0⟩:=jO d.1.1.2 t0;obtain⟨l9,f0,r9,c0⟩:=jO d.1.2 q;have:=j0 d.2;subst this;have:=c0 rfl;subst this;have x0:=lF.1 g;obtain⟨w,n0,e0,q9⟩:=CD B (.inl x0);exact u0 _ w (kT w0 D v0 i j f0 (.inl x0) n0) (lF.2 (q9 x0)) c
     .cases c
    .
     have q:p0=none:=q;subst q;rw[aH]at c;split at c;.rename_i d;simp only[ae]at d;obtain⟨k0,i,B,_⟩:=jO d.1 s0;obtain⟨m0,j,z0,j0⟩:=jO d.2 t0;have x0:C= .cK\/C= .gO\/C= .mj:=(qp.1 g).imp_right .inl;exact u0 _ C (kT w0 D v0 i j rfl x0 (AV B z0 x0)) g c
     .cases c
    .
     rw[aH]at c;split at c;.rename_i d;simp only[ae]at d;obtain⟨k0,i,B,_⟩:=jO d.1.1.1 s0;obtain⟨m0,j,z0,j0⟩:=jO d.1.1.2 t0;obtain⟨l9,f0,r9,c0⟩:=jO d.1.2 q;have:=j0 d.2;subst this;have:=c0 rfl;subst this;have x0:C= .cK\/C= .gO\/C= .mj:=(qp.1 g).imp_right .inl;obtain⟨w,n0,e0,q9⟩:=CD B x0;exact u0 _ w (kT w0 D v0 i j f0 x0 n0) (qp.2 e0) c
     .cases c
    .
     rename_i m;have q:p0=none:=q;subst q;split at c
     .
      rename_i u o0 d0;split at c
      .
       rename_i f r0;rw[aH]at c;split at c
       .
        rename_i d;simp only[ae,bS]at d;obtain⟨h0,t9⟩:=d;have h0:=au h0;rw[aH]at c;split at c
        .
         rename_i e9;subst h0;obtain⟨A,y0⟩:=eC c;obtain⟨g0,x9,w9⟩:=oP A;obtain⟨k0,i,B,_⟩:=jO e9 s0;obtain⟨m0,j,z0⟩:=lY (d:=o0.length) r0 t0 (by omega);have b0:f.toNat<=o0.length:=by obtain⟨n,rfl⟩:∃n:Nat,f=Int.ofNat n:=⟨_,qd (by omega)⟩;exact lm.1 w9
         obtain⟨hl1,u9⟩:=M.gm m _ d0;rw[ij]at g;have l0:=g.2.2.1 u o0 (by rw[M.st];exact d0);have o9:f=Int.ofNat f.toNat:=qd (by omega);unfold ge at l0
         cases i0:E.mb m with
          |none=>
          rw[i0]at l0;have p9:f.toNat=0:=by have:=l0.1;omega
          have n9:C= .cK\/C= .gO\/C= .mj:=l0.2.imp_right .inl;have h9:dW 0 m0=0:=by rw[l0.1]at z0;omega
          refine u0 _ C (kT w0 D v0 i j rfl n9 (AV B h9 n9)) (x6.2 ⟨g.1,g.2.1,λe b9 a0=>?_⟩) y0;rw[M.st,d0]at a0;cases a0;exact⟨f.toNat,o9,b0,by rw[i0];exact⟨p9,l0.2⟩⟩
          |some b=>
          rw[i0]at l0;subst l0;unfold gB at u9;rw[i0]at u9;obtain⟨y,d9,p2,c9,p4,p5⟩:=u9;have hmul:=cq u.size b0;refine u0 _ (.sl b 0 f.toNat) (Ai w0 D v0 i j rfl (jb (by rw[<-M.hp];exact d9)) ?_) (x6.2 ⟨g.1,rfl,λe b9 a0=>?_⟩) y0
          .
           unfold iH;simp only;rw[B,z0];have i9:(Nat.ble 1 u.size&&Nat.ble f.toNat 140737488355328&&(Nat.ble 0 f.toNat&&(Nat.beq y.z u.size&&Nat.ble (Nat.add 0 (Nat.mul f.toNat u.size)) y.n)))=true:=by simp only[ae,bS];refine⟨⟨t9,by omega⟩,aP _,by rw[c9];simp,?_⟩;show 0+f.toNat*u.size<=y.n;omega
           rw[i9];show some (Hm.part HV.sl b 0 u.size 0 f.toNat)=_;unfold Hm.part;rw[show(Nat.beq f.toNat 0&&!Nat.beq 0 0)=false by simp];show some (HV.sl b (0+0*u.size) (f.toNat-0))=_;rw[gf,jd]
          .rw[M.st,d0]at a0;cases a0;exact⟨f.toNat,o9,b0,by rw[i0];rfl⟩
        .
         split at c
         .
          rename_i l q0;rw[aH]at c;split at c
          .
           rw[aH]at c;split at c;.rename_i f9;obtain⟨A,y0⟩:=eC c;obtain⟨v,s9,k9⟩:=Br M w0 D v0 h0 t9 d0 g q0 r0 A s0 t0;obtain⟨j9,n0⟩:=yU M f9;exact⟨_,v,h,_,_,s9,j9,n0,rfl,rfl,k9,y0⟩
           .cases c
          .obtain⟨A,y0⟩:=eC c;obtain⟨v,s9,k9⟩:=Br M w0 D v0 h0 t9 d0 g q0 r0 A s0 t0;exact u0 _ v s9 G9 y0
         .cases c
       .cases c
      .cases c
     .cases c
    .cases c
   .cases c
  .
   rename_i k e D;split at c
   .
    rename_i z m o v0;have q:p0=none:=q;subst q;split at c
    .
     rename_i l f q0 r0;rw[aH]at c;split at c;.rename_i d;simp only[ae,bS,de]at d;rw[lZ]at g;obtain⟨A,b,i0,rfl⟩:=g;have i:∃p,fw y9=some p/\dW 0 p=l:=EC (d:=0) q0 s0;have j:∃p,fw z9=some p/\dW k p=f:=EC (d:=k) r0 t0;obtain⟨k0,i,B⟩:=i;obtain⟨m0,j,z0⟩:=j;refine u0 _ (.jz b (o+l*z) (f-l)) ?_ (zB.2 ⟨A,b,i0,rfl⟩) c;unfold eG;rw[w0,i,j,show fw none=some none from rfl];simp only;rw[D];simp only;rw[v0];simp only;rw[B,z0];rw[show(Nat.ble k 1000000&&(Nat.ble l f&&Nat.ble f k))=true by simp only[ae,bS];exact⟨d.1,by omega,d.2.2⟩];show some (Rs.val (Hm.part HV.jz b o z l f) h)=_;unfold Hm.part;rw[show(Nat.beq f l&&!Nat.beq l 0)=false by rw[kb (by omega)];rfl];rfl
     .cases c
    .cases c
   .cases c
  .
   rename_i D;split at c
   .
    rename_i s;have q:p0=none:=q;subst q;split at c
    .
     rename_i l f q0 r0;obtain⟨A,y0⟩:=eC c;obtain⟨g0,x9,w9⟩:=oP A;obtain⟨k0,i,B⟩:=lY (d:=0) q0 s0 g0;obtain⟨m0,j,z0⟩:=lY (d:=s.size) r0 t0 (by omega);rw[qn]at g;subst g;have b0:f.toNat<=s.size:=by obtain⟨n,rfl⟩:∃n:Nat,f=Int.ofNat n:=⟨_,qd (by omega)⟩;exact lm.1 w9
     refine u0 _ (.dH (s.extract l.toNat f.toNat)) ?_ (qn.2 rfl) y0;unfold eG;rw[w0,i,j,show fw none=some none from rfl];simp only;rw[D];simp only;rw[B,z0];rw[show(Nat.ble l.toNat f.toNat&&Nat.ble f.toNat s.size)=true by simp only[ae,bS];exact⟨by omega,b0⟩];rfl
    .cases c
   .cases c
  .cases c
 .cases c
end
def sA(cx:Cx)(f:FuncId)(c:rA):Prop:=∀(h:St)(d:Nat->Prop)(i:List HV)(x:D c.a)(y:D c.r),(∀b,h.nx<=b->h.hp.ap b=none)->(∀b,bw b h.lk=true->b<h.nx)->(∀b,d b->b<h.nx)->fI h.hp d c.a i x->c.F x=some y->∃l a e g,(∃j,∀k,j<=k->call cx (run cx k) f i h=some (one l,⟨h.nt,h.dE,a,e,h.lk,h.df⟩))/\h.nx<=e/\(∀b,b<h.nx->a.ap b=h.hp.ap b)/\(∀b,e<=b->a.ap b=none)/\(∀b,d b->g b)/\(∀b,g b->d b\/h.nx<=b/\b<e/\ra a b)/\fI a g c.r l y
def J1(cx:Cx)(f:FuncId)(c:rA):Prop:=∀(h:St)(e:Nat->Prop)(i:List HV)(x:D c.a)(y:D c.r),(∀b,h.nx<=b->h.hp.ap b=none)->(∀b,bw b h.lk=true->b<h.nx)->(∀b,e b->b<h.nx)->fI h.hp e c.a i x->c.F x=some y->∃l a d g,(∃j,∀k,j<=k->call cx (run cx k) f i h=some (one l,⟨h.nt,h.dE,a,d,h.lk,h.df⟩))/\h.nx<=d/\(∀b,b<h.nx->a.ap b=h.hp.ap b)/\(∀b,d<=b->a.ap b=none)/\(∀b,g b->h.nx<=b/\b<d/\ra a b)/\fI a g c.r l y
theorem fI.ZS{hp:Tr Hm.Obj}{Z c:Nat->Prop}(d:∀b,Z b->c b):∀{u:U}{l:List HV}{x:D u},fI hp Z u l x->fI hp c u l x| .un,l,x,h=>h| .ah a b,l,x,⟨v,r,e,f,g⟩=>⟨v,r,e,f.mono d λ_ _=>rfl,g.ZS d⟩| .int _,_,_,h=>h.elim| .bool,_,_,h=>h.elim| .dH,_,_,h=>h.elim| .nil,_,_,h=>h.elim| .bc _,_,_,h=>h.elim| .fF _ _,_,_,h=>h.elim
theorem J1.ok{cx:Cx}{f:FuncId}{c:rA}(g:J1 cx f c):sA cx f c:=by intro h d i x y j m n o p;obtain⟨l,q,r,e,s,t,u,v,w,z⟩:=g h d i x y j m n o p;exact⟨l,q,r,λb=>d b\/e b,s,t,u,v,λb a=> .inl a,λb a=>a.elim .inl λk=> .inr (w b k),z.ZS λb a=> .inr a⟩
def qr(cy:Cy)(n:tl):Prop:=∀(i:Type)(l:Tr (List Hi))(m:Nat)(c:Code)(a:SS)(j:Ex->SS->Option i)(r:i),n i l m c a j=some r->∀(h:St)(f:En),da a h f->dN a h f->∃e d b g,(∃o,∀k,o<=k->run cy.cx k c h=some (e,d))/\da b d g/\dN b d g/\Gr a h f b d g/\(∀t,bw t a.kp=true->b.tmp t=a.tmp t)/\j e b=some r
section
variable{E:En}{S:SS}{h:St}{cy:Cy}{R:Type}{r:R}{K:SV->SS->Option R}
theorem da.re{S S2:SS}{h h2:St}(M:da S h E)(d:S2.st=S.st)(i:S2.nx=S.nx)(l:S2.lk=S.lk)(g:h2.hp=h.hp)(f:h2.nx=h.nx)(n:h2.lk=h.lk):da S2 h2 E:=by
 refine⟨by rw[g];exact M.hp,by rw[d];exact M.st,by rw[i];exact M.nx,λm e a=>?_,λm e a=>?_,λm p e k b a j=>?_,λm e b a c=>?_,λb c=>?_,λb c=>?_,λb c=>?_,λm b c=>?_,λm e a=>?_,λb c o=>by rw[g];exact M.zo b c o⟩;.rw[d]at a;rw[i];exact M.lt m e a
 .rw[d]at a;exact M.gm m e a
 .rw[d]at a j;exact M.inj m p e k b a j
 .rw[d]at a;rw[f];exact M.own m e b a c
 .rw[f];exact M.z b c
 .rw[f]at c;rw[g];exact M.fr b c
 .rw[n]at c;rw[f,l,d];exact M.lk b c
 .rw[f];exact M.rq m b c
 .rw[d]at a;exact M.py m e a
theorem Ow.re{S S2:SS}{b:Nat}(a:S2.st=S.st):Ow S2 E b↔Ow S E b:=by unfold Ow;rw[a]
theorem Gr.re {Sa S2 S' : SS} {ha h2 h' : St} {E' : En} (g : Gr Sa ha E S' h' E') (e1 : S.st = Sa.st) (e2 : S.nx = Sa.nx) (e3 : ∀ m, m < Sa.nx → S.jQ m = false → Sa.jQ m = false) (a1 : h.hp = ha.hp) (a2 : h.nx = ha.nx) (a3 : ∀ b, bw b h.lk = true → bw b ha.lk = true) (hS : S2.st = S'.st) (hn : S2.nx = S'.nx) (b1 : h2.hp = h'.hp) (b2 : h2.nx = h'.nx)
    (c1 : h2.nt = h.nt) (c2 : h2.lk = h.lk) (c3 : h2.df = h.df) (c4 : S2.nt = S.nt) (c5 : S2.lk = S.lk) (c6 : S2.base = S.base) (c7 : S2.wr = S.wr) (c8 : S2.kp = S.kp) : Gr S h E S2 h2 E' where
  nt := c1
  lk := c2
  df := c3
  LP := c4
  Ha := c5
  base := c6
  wr := c7
  kp := c8
  nx := by rw [a2, b2]; exact g.nx
  wV := by rw [e2, hn]; exact g.wV
  z := g.z
  z' := fun b hb => by
    rw [a2, Ow.re e1]; exact g.z' b hb
  DC := fun b hb ho => by
    rw [a2] at hb
    rw [Ow.re e1] at ho
    rw [b1, a1]; exact g.DC b hb ho
  ow := fun b hb => by
    rw [Ow.re hS] at hb
    rw [a2, Ow.re e1]; exact g.ow b hb
  mb := fun m hm => g.mb m (by rw [← e2]; exact hm)
  uL := fun m hm hc => by
    rw [hS, e1]; exact g.uL m (by rw [← e2]; exact hm) (e3 m (by rw [← e2]; exact hm) hc)
  IE := fun m hm hd => by
    rw [hS]; exact g.IE m (by rw [← e2]; exact hm) (by rw [← e1]; exact hd)
  row := fun m e xs hm hx => by
    rw [hS] at hx
    rw [e1]; exact g.row m e xs (by rw [← e2]; exact hm) hx
  O3 := fun b m e hb hm hmb => by
    rw [hS] at hm
    rw [e1]; exact g.O3 b m e (a3 b hb) hm hmb
  Ay := fun m t k hm hx hk => by
    rw [hS] at hx
    rw [e1]; exact g.Ay m t k (by rw [← e2]; exact hm) hx hk
  BA := fun m g' e xs hm hg hx => by
    rw [hS] at hx
    rw [e1]; exact g.BA m g' e xs (by rw [← e2]; exact hm) (by rw [← e2]; exact hg) hx
  ci := fun m hm hc => g.ci m (by rw [← e2]; exact hm) (e3 m (by rw [← e2]; exact hm) hc)
  lo := g.lo
  zn := fun m c w hm hx => by
    rw [hS] at hx
    rw [e1, a1, b1]; exact g.zn m c w (by rw [← e2]; exact hm) hx
theorem vn{l:List SV}{a:List HV}(b:Vs E l a):V E (zU l) (one a):=by
 have f:a.length=l.length:=by
  have:∀(l:List SV)(a:List HV),Vs E l a->a.length=l.length:=by intro l;induction l with
   |nil=>intro a h;unfold Vs at h;subst h;rfl
   |cons s l g=>intro a h;unfold Vs at h;obtain⟨v,r,rfl,_,c⟩:=h;simp[g r c]
  exact this l a b
 match l,a,f with
  |[],[],_=>exact C1.2 ⟨[],rfl,b⟩
  |[s],[v],_=>unfold Vs at b;obtain⟨i,r,e,d,c⟩:=b;cases e;exact d
  |s::j::l,v::i::a,_=>exact C1.2 ⟨_,rfl,b⟩
theorem vJ:∀{l:List SV}{a:List HV},Vs E l a->a.length=l.length
 |[],a,h=>by unfold Vs at h;subst h;rfl
 |s::l,a,h=>by unfold Vs at h;obtain⟨v,r,rfl,_,b⟩:=h;simp[vJ b]
theorem ES:∀(l:List SV)(i t:Nat)(T:Tr SV),(qV i l T).ap t=if i<=t/\t<i+l.length then l[t-i]? else T.ap t
 |[],i,t,T=>by unfold qV;rw[aG (by rintro⟨a,b⟩;simp only[gp]at b;omega)]
 |v::l,i,t,T=>by
  unfold qV;rw[ES l (i+1) t];by_cases h:t=i;.subst h;rw[aG (by omega),Tr.a8,aE (by simp)];simp
  .
   rw[Tr.bW _ _ h];by_cases c:i+1<=t/\t<i+1+l.length;.rw[aE c,aE (by simp only[bx];omega)];rw[show t-i=t-(i+1)+1 by omega,dP]
   .rw[aG c,aG (by simp only[bx];omega)]
theorem Af:∀(l:List HV)(i t:Nat)(T:Tr HV),(lr i l T).ap t=if i<=t/\t<i+l.length then l[t-i]? else T.ap t
 |[],i,t,T=>by unfold lr;rw[aG (by rintro⟨a,b⟩;simp only[gp]at b;omega)]
 |v::l,i,t,T=>by
  unfold lr;rw[Af l (i+1) t];by_cases h:t=i;.subst h;rw[aG (by omega),Tr.a8,aE (by simp)];simp
  .
   rw[Tr.bW _ _ h];by_cases c:i+1<=t/\t<i+1+l.length;.rw[aE c,aE (by simp only[bx];omega)];rw[show t-i=t-(i+1)+1 by omega,dP]
   .rw[aG c,aG (by simp only[bx];omega)]
theorem sv{l:List SV}{d:List HV}(c:Vs E l d){n nx:Nat}{hp:Tr Hm.Obj}{lk:List Nat}{st:Tr iK}{i:Nat}{g:List Nat}{base:Nat}{wr:List Nat}:dN ⟨n,qV 0 l .e,st,i,g,base,wr,[]⟩ ⟨n,lr 0 d .e,hp,nx,lk,.undef⟩ E:=by
 refine⟨rfl,λt=>?_⟩;unfold SS.tmp St.tmp;simp only;rw[ES,Af,vJ c];by_cases a:0<=t/\t<0+l.length;.rw[aE a,aE a];have b:l[t-0]?=some (l[t-0]'(by omega)):=G (by omega);obtain⟨v,e,f⟩:=G7 c b;rw[b,e];exact f
 .rw[aG a,aG a,Tr.kq,Tr.kq];exact G9
theorem oq{S:SS}{h:St}(M:da S h E)(d:dN S h E):∀{e:List ResultVar}{K:List SV->Option R},qI cy S e K=some r->∃l c,pY cy.cx h e=some c/\Vs E l c/\K l=some r
 |[],K,b=>⟨[],[],rfl,by unfold Vs;rfl,b⟩
 | .tmp t::e,K,b=>by unfold qI at b;obtain⟨l,c,f,g,i⟩:=oq M d b;exact⟨S.tmp t::l,h.tmp t::c,by unfold pY;rw[f],by unfold Vs;exact⟨_,_,rfl,d.v t,g⟩,i⟩
 | .cell a t::e,K,b=>by unfold qI at b;obtain⟨s,v,j,k,m⟩:=Cb M b (d.v a);obtain⟨l,c,f,g,i⟩:=oq M d m;exact⟨s::l,v::c,by unfold pY;rw[j];simp only;rw[f],by unfold Vs;exact⟨_,_,rfl,k,g⟩,i⟩
end
theorem dK{b a:Nat}{l:List Nat}:bw b (a::l)=true↔b=a∨bw b l=true:=by rw[fq,fq,co]
section
variable{E:En}
mutual theorem Dx:∀{s:SV}{cs:List HV},CR E s cs->jB E.nx s=true
 | .any,_,_=>by unfold jB;rfl
 | .undef,_,_=>by unfold jB;rfl
 | .int _ _ _,_,_=>by unfold jB;rfl
 | .bool _ _,_,_=>by unfold jB;rfl
 | .val _ _,_,_=>by unfold jB;rfl
 | .agg is,_,h=>by unfold CR at h;unfold jB;exact Hp h
 | .nf vs,_,h=>by unfold CR at h;obtain⟨l,_,h⟩:=h;unfold jB;exact LI h
 | .fn _ vs,_,h=>by unfold CR at h;obtain⟨l,_,h⟩:=h;unfold jB;exact LI h
 | .sc,_,_=>by unfold jB;rfl
 | .cK,_,_=>by unfold jB;rfl
 | .gO,_,_=>by unfold jB;rfl
 | .sd,_,_=>by unfold jB;rfl
 | .box m _,_,h=>by unfold CR at h;unfold jB;rw[de];exact h.1
 | .sq m _ _,_,h=>by unfold CR at h;unfold jB;rw[de];exact h.1
 | .row m,_,h=>by unfold CR at h;unfold jB;rw[de];exact h.1
 | .pz m _ _,_,h=>by unfold CR at h;unfold jB;rw[de];exact h.1
 | .sX _ _,_,_=>by unfold jB;rfl
 | .vQ m _ _ _ _ _,_,h=>by unfold CR at h;unfold jB;rw[de];exact h.1
 | .sub m g _,_,h=>by unfold CR at h;unfold jB;rw[ae,de,de];exact⟨h.1,h.2.1⟩
 | .map m,_,h=>by unfold CR at h;unfold jB;rw[de];exact h.1
 | .jz m _ _,_,h=>by unfold CR at h;unfold jB;rw[de];exact h.1
 | .vw m _,_,h=>by unfold CR at h;unfold jB;rw[de];exact h.1
 | .bv m _ _,_,h=>by unfold CR at h;unfold jB;rw[de];exact h.1
 | .tj m _ _,_,h=>by unfold CR at h;unfold jB;rw[de];exact h.1
 | .uk _,_,_=>by unfold jB;rfl theorem Hp:∀{is:List SV}{cs:List HV},dy E is cs->pn E.nx is=true
 |[],_,_=>by unfold pn;rfl
 |i::is,_,h=>by unfold dy at h;obtain⟨c,d,_,h1,h2⟩:=h;unfold pn;rw[Dx h1,Hp h2];rfl theorem LI:∀{is:List SV}{cs:List HV},Vs E is cs->pn E.nx is=true
 |[],_,_=>by unfold pn;rfl
 |i::is,_,h=>by
  unfold Vs at h;obtain⟨c,d,_,h1,h2⟩:=h;unfold pn
  have:jB E.nx i=true:=by unfold ia at h1;cases hi:i.ag with
   |true=>rw[hi]at h1;obtain⟨cs,_,h3⟩:=h1;exact Dx h3
   |false=>rw[hi]at h1;exact Dx h1
  rw[this,LI h2];rfl end
theorem acK{s:SV}{v:HV}(h:V E s v):jB E.nx s=true:=by unfold V ia at h;cases a:s.ag with
 |true=>rw[a]at h;obtain⟨c,_,b⟩:=h;exact Dx b
 |false=>rw[a]at h;exact Dx h
theorem HU{T:SS}{h:St}(M:da T h E){j nx2:Nat}{mb2:Nat→Option Nat}{ib2:Nat→Nat→Option Nat}{e:iK}(m0:T.st.ap j=none)(h1:T.nx≤nx2)(h2:j<nx2)(w0:∀i,i≠j→mb2 i=E.mb i)(v:∀i,i≠j→∀k,ib2 i k=E.ib i k)(q0:j<T.nx→mb2 j=E.mb j)(x0:j<T.nx→∃z z0,e= .box z z0)(x:∀b,(mb2 j=some b∨∃k,ib2 j k=some b)→b<h.nx∧¬E.Z b∧(∀m e,T.st.ap m=some e→¬Bk E m b)∧bw b h.lk=false)(p0:e.rn=none→∀k,ib2 j k=none)(o0:Fm E.nx E ⟨h.hp,E.Z,mb2,ib2,T.st.set j e,nx2,E.lo⟩→oj ⟨h.hp,E.Z,mb2,ib2,T.st.set j e,nx2,E.lo⟩ j e):da (T.mem (T.st.set j e) nx2) h ⟨h.hp,E.Z,mb2,ib2,T.st.set j e,nx2,E.lo⟩∧Fm E.nx E ⟨h.hp,E.Z,mb2,ib2,T.st.set j e,nx2,E.lo⟩:=by
 have n0:∀i,(T.st.set j e).ap i=if i=j then some e else T.st.ap i:=fun i=>Tr.dg _ _ _ _
 have o:∀i n,(T.st.set j e).ap i=some n→i=j∧n=e∨i≠j∧T.st.ap i=some n:=by
  intro i n p;rw[n0]at p;split at p;·cases p;exact .inl ⟨by assumption,rfl⟩
  ·exact .inr ⟨by assumption,p⟩
 have y:∀i,i≠j→∀b,Bk ⟨h.hp,E.Z,mb2,ib2,T.st.set j e,nx2,E.lo⟩ i b↔Bk E i b:=by
  intro i p b;show(mb2 i=some b∨∃k,ib2 i k=some b)↔E.mb i=some b∨∃k,E.ib i k=some b;rw[w0 i p];constructor
  ·
   rintro(q|⟨k,q⟩);·exact .inl q
   ·rw[v i p]at q;exact .inr ⟨k,q⟩
  ·
   rintro(q|⟨k,q⟩);·exact .inl q
   ·exact .inr ⟨k,by rw[v i p];exact q⟩
 have f:Fm E.nx E ⟨h.hp,E.Z,mb2,ib2,T.st.set j e,nx2,E.lo⟩:=⟨rfl,fun m c w a s=>by
  rcases o m _ s with⟨rfl,g⟩|⟨l,g⟩;·obtain⟨z,z0,q⟩:=x0 (by rw[←M.nx];exact a);rw[q]at g;cases g
  ·exact⟨c,by rw[M.st];exact g,id,v m l,fun b _=>by rw[M.hp];exact fK c _⟩,fun _ d=>d,fun _ _=>by rw[M.hp],by rw[M.nx];exact h1,fun m a=>by
  by_cases C:m=j;·subst C;exact q0 (by rw[←M.nx];exact a)
  ·exact w0 m C,fun m u u0 a s=>by
  rcases o m _ s with⟨rfl,g⟩|⟨_,g⟩;·obtain⟨z,z0,q⟩:=x0 (by rw[←M.nx];exact a);rw[q]at g;cases g
  ·exact⟨u0,by rw[M.st];exact g,rfl⟩,fun m t k a s v0=>by
  rcases o m _ s with⟨rfl,g⟩|⟨_,g⟩;·obtain⟨z,z0,q⟩:=x0 (by rw[←M.nx];exact a);rw[g,q]at v0;cases v0
  ·exact⟨t,by rw[M.st];exact g,v0⟩,fun m y0 u u0 a _ s=>by
  rcases o m _ s with⟨rfl,g⟩|⟨l,g⟩;·obtain⟨z,z0,q⟩:=x0 (by rw[←M.nx];exact a);rw[q]at g;cases g
  ·exact⟨u0,by rw[M.st];exact g,fp.refl,v m l⟩⟩
 refine⟨⟨rfl,rfl,rfl,fun m n a=>?_,fun m n a=>?_,fun m A t0 s0 b a r0 d B=>?_,fun m n b a d=>?_,M.z,M.fr,fun b d=>⟨(M.lk b d).1,fun m n a r=>?_⟩,fun m b r=>?_,fun m n a l=>?_,M.zo⟩,f⟩
 ·
  rcases o m _ a with⟨rfl,_⟩|⟨_,g⟩;·exact h2
  ·exact aQ (M.lt m n g) h1
 ·
  rcases o m _ a with⟨rfl,rfl⟩|⟨l,g⟩;·exact o0 f
  ·exact(M.gm m n g).fm f (w0 m l) (v m l) fun b _=>by rw[M.hp]
 ·
  rcases o m _ a with⟨rfl,rfl⟩|⟨l,g⟩
  ·
   rcases o A _ r0 with⟨rfl,rfl⟩|⟨D,y0⟩;·rfl
   ·rw[y A D]at B;exact absurd B ((x b d).2.2.1 A s0 y0)
  ·
   rw[y m l]at d;rcases o A _ r0 with⟨rfl,rfl⟩|⟨D,y0⟩;·exact absurd d ((x b B).2.2.1 m t0 g)
   ·rw[y A D]at B;exact M.inj m A t0 s0 b g y0 d B
 ·
  rcases o m _ a with⟨rfl,rfl⟩|⟨l,g⟩;·exact⟨(x b d).2.1,(x b d).1⟩
  ·rw[y m l]at d;exact M.own m n b g d
 ·
  rcases o m _ a with⟨rfl,rfl⟩|⟨l,g⟩;·have:=(x b r).2.2.2;rw[d]at this;cases this
  ·rw[y m l]at r;exact(M.lk b d).2 m n g r
 ·
  by_cases C:m=j;·subst C;exact(x b r).1
  ·rw[y m C]at r;exact M.rq m b r
 ·
  rcases o m _ a with⟨rfl,rfl⟩|⟨D,g⟩;·exact p0 l
  ·intro k;show ib2 m k=none;rw[v m D];exact M.py m n g l k
theorem XD{T:SS}{h:St}(M:da T h E){Z2:Nat->Prop}(h1:∀b,E.Z b->Z2 b)(h2:∀m e b,T.st.ap m=some e->Bk E m b->¬Z2 b)(l:∀b,Z2 b->b<h.nx)(n:∀b,Z2 b->E.lo<=b->ra h.hp b):da T h ⟨E.hp,Z2,E.mb,E.ib,E.st,E.nx,E.lo⟩/\Fm E.nx E ⟨E.hp,Z2,E.mb,E.ib,E.st,E.nx,E.lo⟩:=by have f:Fm E.nx E ⟨E.hp,Z2,E.mb,E.ib,E.st,E.nx,E.lo⟩:=⟨rfl,λm c w _ a=>⟨c,a,id,λ_=>rfl,λ_ _=>fK c _⟩,h1,λ_ _=>rfl,ar _,λ_ _=>rfl,λm u i _ a=>⟨i,a,rfl⟩,λm t k _ a o=>⟨t,a,o⟩,λm g u i _ _ a=>⟨i,a,fp.refl,λ_=>rfl⟩⟩;exact⟨⟨M.hp,M.st,M.nx,M.lt,λm e d=>(M.gm m e d).fm f rfl (λ_=>rfl) λ_ _=>rfl,M.inj,λm e b d j=>⟨h2 m e b d j,(M.own m e b d j).2⟩,l,M.fr,M.lk,M.rq,M.py,n⟩,f⟩
end
structure J (S0 S' : SS) (h' : St) (E' : En) (wr P : List Nat) (T : SS) (E : En) (mv fr : List Nat) : Prop where
  M : da T h' E
  f1 : T.nt = S0.nt
  f2 : T.lk = S0.lk
  f3 : T.base = S0.base
  f4 : T.wr = S0.wr
  f5 : T.kp = S0.kp
  nx : S0.nx ≤ T.nx
  v : ∀ t, V E (T.tmp t) (h'.tmp t)
  p : ∀ t, bw t P = true → T.tmp t = S0.tmp t
  mb : ∀ m, m < S0.nx → E.mb m = E'.mb m
  ib : ∀ m, m < S0.nx → ∀ k, E.ib m k = E'.ib m k
  z : ∀ b, E'.Z b → E.Z b
  z' : ∀ b, E.Z b → E'.Z b ∨ ∃ m e, bw m fr = true ∧ S'.st.ap m = some e ∧ Bk E' m b
  rU : ∀ m e b, T.st.ap m = some e → Bk E m b → (m < S0.nx ∧ bw m wr = false ∧ S0.st.ap m = some e) ∨ ∃ m' e', bw m' mv = true ∧ S'.kt m' = true ∧ S'.st.ap m' = some e' ∧ Bk E' m' b
  tV : ∀ m, m < S0.nx → bw m wr = false → T.st.ap m = S0.st.ap m
  box : ∀ m e, m < S0.nx → bw m wr = true → T.st.ap m = some e → ((∃ z is, e = .box z is) ∨ ∃ u xs xs0, e = .row u xs ∧ S0.st.ap m = some (.row u xs0) ∧ xs0.length = xs.length) ∧ S0.st.ap m ≠ none ∧ bw m mv = true
  lo : E.lo = E'.lo
section
variable{S0 S' T:SS}{h':St}{E' E:En}{wr P mv fr:List Nat}
structure JC (S0 S' : SS) (h' : St) (E' : En) (wr : List Nat) : Prop where
  M : da S' h' E'
  v : ∀ t, V E' (S'.tmp t) (h'.tmp t)
  YG : S'.base = S0.nx
  fwr : S'.wr = wr
  uL : ∀ m, m < S0.nx → bw m wr = false → S'.st.ap m = S0.st.ap m
theorem JC.iB(C:JC S0 S' h' E' wr){m:Nat}(c:m<S0.nx)(b:bw m wr=false):S'.jQ m=false:=by unfold SS.jQ;rw[C.YG,C.fwr,b];cases a:Nat.ble S0.nx m with
 |false=>rfl
 |true=>rw[bS]at a;omega
theorem J.bk(j:J S0 S' h' E' wr P T E mv fr){m:Nat}(a:m<S0.nx)(b:Nat):Bk E m b↔Bk E' m b:=by
 unfold Bk;rw[j.mb m a];constructor
 ·
  rintro(q|⟨k,q⟩);·exact .inl q
  ·rw[j.ib m a]at q;exact .inr ⟨k,q⟩
 ·
  rintro(q|⟨k,q⟩);·exact .inl q
  ·exact .inr ⟨k,by rw[j.ib m a];exact q⟩
theorem J.gV(j:J S0 S' h' E' wr P T E mv fr)(C:JC S0 S' h' E' wr){m b:Nat}{e:iK}(f:S'.st.ap m=some e)(d:Bk E' m b)(q:S'.kt m=true)(h1:bw m mv=false)(h2:bw m fr=false):b<h'.nx/\¬E.Z b/\(∀m e,T.st.ap m=some e->¬Bk E m b)/\bw b h'.lk=false:=by
 obtain⟨p,r⟩:=gy q;refine⟨(C.M.own m e b f d).2,λu=>?_,λi k s o=>?_,mc C.M f d r⟩
 .
  rcases j.z' b u with g|⟨n,l,a,c,h⟩;.exact(C.M.own m e b f d).1 g
  .have:=C.M.inj m n e l b f c d h;subst this;rw[h2]at a;cases a
 .
  rcases j.rU i k b s o with⟨a,c,h⟩|⟨n,l,a,_,c,h⟩
  .
   have t:S'.st.ap i=some k:=by rw[C.uL i a c];exact h
   have:=C.M.inj m i e k b f t d ((j.bk a b).1 o);subst this;rw[C.iB a c]at p;cases p
  .have:=C.M.inj m n e l b f c d h;subst this;rw[h1]at a;cases a
def xz(E:En)(hp:Tr Hm.Obj)(T:SS)(X:iK)(o:Option Nat)(q:Nat->Option Nat):En:=⟨hp,E.Z,λi=>if i=T.nx then o else E.mb i,λi k=>if i=T.nx then q k else E.ib i k,T.st.set T.nx X,T.nx+1,E.lo⟩
theorem m4{hp:Tr Hm.Obj}{X:iK}{o:Option Nat}{q:Nat->Option Nat}:(xz E hp T X o q).mb T.nx=o:=aE rfl
theorem px{hp:Tr Hm.Obj}{X:iK}{o:Option Nat}{q:Nat->Option Nat}{k:Nat}:(xz E hp T X o q).ib T.nx k=q k:=aE rfl
theorem J.bT(j:J S0 S' h' E' wr P T E mv fr){X:iK}{o:Option Nat}{q:Nat→Option Nat}{mv':List Nat}(C:∀m,bw m mv=true→bw m mv'=true)(t0:∀b,(o=some b∨∃i,q i=some b)→b<h'.nx∧¬E.Z b∧(∀m e,T.st.ap m=some e→¬Bk E m b)∧bw b h'.lk=false)(s0:∀b,(o=some b∨∃i,q i=some b)→∃d l,bw d mv'=true∧S'.kt d=true∧S'.st.ap d=some l∧Bk E' d b)(x:X.rn=none→∀i,q i=none)(v0:Fm E.nx E (xz E h'.hp T X o q)→oj (xz E h'.hp T X o q) T.nx X):J S0 S' h' E' wr P (T.bT X) (xz E h'.hp T X o q) mv' fr∧Fm E.nx E (xz E h'.hp T X o q)∧∀i,i<S0.nx→(T.bT X).st.ap i=T.st.ap i:=by
 have x0:T.st.ap T.nx=none:=by cases x:T.st.ap T.nx with
  |none=>rfl
  |some l=>have:=j.M.lt _ _ x;omega
 have s:∀i,i≠T.nx→(xz E h'.hp T X o q).mb i=E.mb i:=fun i c=>aG c;have r:∀i,i≠T.nx→∀k,(xz E h'.hp T X o q).ib i k=E.ib i k:=fun i c k=>aG c
 have A:∀b,Bk (xz E h'.hp T X o q) T.nx b↔o=some b∨∃i,q i=some b:=by
  intro b;unfold Bk;rw[m4];constructor
  ·
   rintro(w|⟨k,w⟩);·exact .inl w
   ·rw[px]at w;exact .inr ⟨k,w⟩
  ·
   rintro(w|⟨k,w⟩);·exact .inl w
   ·exact .inr ⟨k,by rw[px];exact w⟩
 have w0:∀i,i≠T.nx→∀b,Bk (xz E h'.hp T X o q) i b↔Bk E i b:=by
  intro i c b;unfold Bk;rw[s i c];constructor
  ·
   rintro(w|⟨k,w⟩);·exact .inl w
   ·rw[r i c]at w;exact .inr ⟨k,w⟩
  ·
   rintro(w|⟨k,w⟩);·exact .inl w
   ·exact .inr ⟨k,by rw[r i c];exact w⟩
 obtain⟨D,z⟩:da (T.mem (T.st.set T.nx X) (T.nx+1)) h' (xz E h'.hp T X o q)∧Fm E.nx E (xz E h'.hp T X o q):=HU (j:=T.nx) (nx2:=T.nx+1) (e:=X) j.M x0 (dz _) (bf _) s r (fun h=>absurd h (qx _)) (fun h=>absurd h (qx _)) (fun b n=>t0 b ((A b).1 n)) (fun u0 k=>(aE rfl).trans (x u0 k)) v0;have B:∀i,(T.st.set T.nx X).ap i=if i=T.nx then some X else T.st.ap i:=fun i=>Tr.dg _ _ _ _;have v:∀i,i<S0.nx→(T.st.set T.nx X).ap i=T.st.ap i:=fun i c=>by rw[B,aG];have:=j.nx;omega
 refine⟨⟨D,j.f1,j.f2,j.f3,j.f4,j.f5,aU j.nx (dz _),fun t=>(j.v t).fm z (.inl rfl),j.p,fun m a=>?_,fun m a k=>?_,j.z,j.z',fun m f b a n=>?_,fun m a y=>?_,fun m f a y p=>?_,j.lo⟩,z,v⟩;·exact(s m (by have:=j.nx;omega)).trans (j.mb m a)
 ·exact(r m (by have:=j.nx;omega) k).trans (j.ib m a k)
 ·
  have a:(T.st.set T.nx X).ap m=some f:=a;rw[B]at a;split at a;·rename_i u;subst u;exact .inr (s0 b ((A b).1 n))
  ·
   rename_i u;rcases j.rU m f b a ((w0 m u b).1 n)with g|⟨d,l,z0,y0⟩;·exact .inl g
   ·exact .inr ⟨d,l,C d z0,y0⟩
 ·exact(v m a).trans (j.tV m a y)
 ·have p:(T.st.set T.nx X).ap m=some f:=p;rw[v m a]at p;obtain⟨r0,q0,p0⟩:=j.box m f a y p;exact⟨r0,q0,C m p0⟩
theorem J.own(j:J S0 S' h' E' wr P T E mv fr)(C:JC S0 S' h' E' wr){e:U}{s:SV}{v:HV}{xs:List (D e)}{mv':List Nat}(a:BP S' e s mv fr=some (xs,mv'))(d:V E' s v):∃p,J S0 S' h' E' wr P (T.bT (.row e xs)) p mv' fr/\Fm E.nx E p/\V p (.row T.nx) v/\(∀i,i<S0.nx->(T.bT (.row e xs)).st.ap i=T.st.ap i)/\∀m,bw m mv=true->bw m mv'=true:=by
 have y0:∀(o:Option Nat)(mv':List Nat),(∀m,bw m mv=true->bw m mv'=true)->(∀b,o=some b->b<h'.nx/\¬E.Z b/\(∀m e,T.st.ap m=some e->¬Bk E m b)/\bw b h'.lk=false)->(∀b,o=some b->∃y p0,bw y mv'=true/\S'.kt y=true/\S'.st.ap y=some p0/\Bk E' y b)->xs.length<=140737488355328->gB E' o e xs->ge o xs.length v->iR v=some [v]->∃p,J S0 S' h' E' wr P (T.bT (.row e xs)) p mv' fr/\Fm E.nx E p/\V p (.row T.nx) v/\(∀i,i<S0.nx->(T.bT (.row e xs)).st.ap i=T.st.ap i)/\∀m,bw m mv=true->bw m mv'=true:=by
  intro o mv' s0 a k0 m0 B z0 n0
  have r0:∀b,(o=some b\/∃i,(λ_=>none:Nat->Option Nat) i=some b)->o=some b:=by
   rintro b(q|⟨i,q⟩);.exact q
   .cases q
  obtain⟨j0,o0,l0⟩:=j.bT (X:= .row e xs) (o:=o) (q:=λ_=>none) s0 (λb c=>a b (r0 b c)) (λb c=>k0 b (r0 b c)) (λ_ _=>rfl) λf=>⟨m0,by rw[m4];exact gB.fm (E:=E') (E':=xz E h'.hp T (.row e xs) o λ_=>none) j.z (λb _=>by show h'.hp.ap b=_;rw[C.M.hp]) (λb _=>by show h'.hp.ap b=_;rw[C.M.hp]) B⟩;refine⟨_,j0,o0,ij.2 ⟨bf _,n0,λu n l=>?_,λt k l w0=>?_⟩,l0,s0⟩;.have l:(T.st.set T.nx (.row e xs)).ap T.nx=some (.row u n):=l;rw[Tr.a8]at l;cases l;rw[m4];exact z0
  .have l:(T.st.set T.nx (.row e xs)).ap T.nx=some t:=l;rw[Tr.a8]at l;cases l;cases w0
 unfold BP at a;split at a
 .
  rename_i m;split at a
  .
   rename_i u n g;split at a
   .
    rename_i q0 v0;rw[aH]at a;split at a
    .
     rename_i z;simp only[ae]at z;obtain⟨A,w,x⟩:=z;have w:bw m mv=false:=by simpa using w
     have x:bw m fr=false:=by simpa using x
     cases a;obtain⟨x0,r⟩:=eo v0;cases x0;have r:n=xs:=r;subst r;rw[ij]at d;have z0:=d.2.2.1 e n (by rw[C.M.st];exact g);obtain⟨t0,B⟩:=C.M.gm m _ g;exact y0 (E'.mb m) (m::mv) (λy h=>dK.2 (.inr h)) (λb c=>j.gV C g (.inl c) A w x) (λb c=>⟨m,_,dK.2 (.inl rfl),A,g,.inl c⟩) t0 B z0 d.2.1
    .cases a
   .cases a
  .cases a
 .cases a;rw[lF]at d;subst d;exact y0 none mv (λ_ h=>h) (λb c=>by cases c) (λb c=>by cases c) (aP _) rfl ⟨rfl,.inl rfl⟩ rfl
 .cases a;rw[qp]at d;exact y0 none mv (λ_ h=>h) (λb c=>by cases c) (λb c=>by cases c) (aP _) rfl ⟨rfl,d⟩ (by rcases d with rfl|rfl<;>rfl)
 .
  rename_i m q;split at a
  .
   rename_i u n g;split at a
   .
    rename_i q0 v0;rw[aH]at a;split at a
    .
     rename_i z;simp only[ae]at z;obtain⟨A,w,x⟩:=z;have w:bw m mv=false:=by simpa using w
     have x:bw m fr=false:=by simpa using x
     cases a;obtain⟨x0,r⟩:=eo v0;cases x0;have r:n=q0:=r;subst r;rw[x6]at d;obtain⟨k,rfl,w0,z0⟩:=d.2.2 _ n (by rw[C.M.st];exact g);obtain⟨t0,B⟩:=C.M.gm m _ g;have u0:(eX n 0 (Int.ofNat k)).length=k:=by show((n.drop 0).take (k-0)).length=k;simp;omega
     exact y0 (E'.mb m) (m::mv) (λy h=>dK.2 (.inr h)) (λb c=>j.gV C g (.inl c) A w x) (λb c=>⟨m,_,dK.2 (.inl rfl),A,g,.inl c⟩) (by rw[u0];omega) (BE w0 B) (by rw[u0];exact z0) d.2.1
    .cases a
   .cases a
  .cases a
 .cases a
theorem J.mu(j:J S0 S' h' E' wr P T E mv fr)(C:JC S0 S' h' E' wr){e:U}{s:SV}{v:HV}{xs:List (List (D e))}{mv':List Nat}(d:BO S' e s mv fr=some (xs,mv'))(o:V E' s v):∃z,J S0 S' h' E' wr P (T.bT (.rows T.nx e xs)) z mv' fr/\Fm E.nx E z/\V z (.row T.nx) v/\(∀i,i<S0.nx->(T.bT (.rows T.nx e xs)).st.ap i=T.st.ap i)/\∀m,bw m mv=true->bw m mv'=true:=by
 unfold BO at d;split at d
 .
  rename_i m;split at d
  .
   rename_i g u p r;split at d
   .
    rename_i w9 g0;rw[aH]at d;split at d
    .
     rename_i o0;simp only[ae]at o0;obtain⟨n0,z0,y0⟩:=o0;have z0:bw m mv=false:=by simpa using z0
     have y0:bw m fr=false:=by simpa using y0
     cases d;obtain⟨m0,A⟩:=eo g0;cases m0;have A:p=xs:=A;subst A;rw[ij]at o;have h0:=o.2.2.2 _ _ (by rw[C.M.st];exact r) rfl;obtain⟨_,i0,l0⟩:=C.M.gm m _ r;have x0:∀b,h'.hp.ap b=E'.hp.ap b:=λb=>by rw[C.M.hp]
     obtain⟨t0,B,u0⟩:=j.bT (X:= .rows T.nx e p) (o:=E'.mb m) (q:=E'.ib m) (mv':=m::mv) (λd0 h=>dK.2 (.inr h)) (λb n=>j.gV C r n n0 z0 y0) (λb n=>⟨m,_,dK.2 (.inl rfl),n0,r,n⟩) (λv0=>by cases v0) λf=>⟨bf _,i0,by
      rcases l0 with⟨s0,r0,q0⟩|⟨b,y,s0,r0,q0,c0,b0,a0,z9,y9,x9⟩;.exact .inl ⟨by rw[m4];exact s0,r0,λi=>by rw[px];exact q0 i⟩
      refine .inr ⟨b,y,by rw[m4];exact s0,by show h'.hp.ap b=_;rw[x0];exact r0,q0,c0,b0,λi l j0=>?_,λi k0=>by rw[px];exact z9 i k0,λi f0 c w x=>by rw[px]at w x;exact y9 i f0 c w x,λi=>by rw[px];exact x9 i⟩;obtain⟨w,x,e0⟩:=a0 i l j0;refine⟨w,by rw[px];exact x,?_⟩;rw[px];exact gB.fm (E:=E') (E':=xz E h'.hp T (.rows T.nx e p) (E'.mb m) (E'.ib m)) j.z (λb _=>x0 b) (λb _=>x0 b) e0⟩
     refine⟨_,t0,B,ij.2 ⟨bf _,o.2.1,λu p0 a=>?_,λt k a w0=>?_⟩,u0,λd0 h=>dK.2 (.inr h)⟩;.have a:(T.st.set T.nx (.rows T.nx e p)).ap T.nx=some (.row u p0):=a;rw[Tr.a8]at a;cases a
     .have a:(T.st.set T.nx (.rows T.nx e p)).ap T.nx=some t:=a;rw[Tr.a8]at a;cases a;cases w0;rw[m4];exact h0
    .cases d
   .cases d
  .cases d
 .
  cases d;have o:=lF.1 o;subst o;obtain⟨t0,B,u0⟩:=j.bT (X:= .rows T.nx e []) (o:=none) (q:=λ_=>none) (mv':=mv) (λ_ h=>h) (λb n=>by rcases n with q|⟨_,q⟩<;>cases q) (λb n=>by rcases n with q|⟨_,q⟩<;>cases q) (λv0=>by cases v0) λf=>⟨bf _,aP _,.inl ⟨m4,rfl,λi=>px⟩⟩;refine⟨_,t0,B,ij.2 ⟨bf _,rfl,λu p0 a=>?_,λt k a w0=>?_⟩,u0,λ_ h=>h⟩;.have a:(T.st.set T.nx (.rows T.nx e [])).ap T.nx=some (.row u p0):=a;rw[Tr.a8]at a;cases a
  .have a:(T.st.set T.nx (.rows T.nx e [])).ap T.nx=some t:=a;rw[Tr.a8]at a;cases a;cases w0;rw[m4];exact⟨rfl,.inl rfl⟩
 .cases d
theorem J.mp(j:J S0 S' h' E' wr P T E mv fr)(C:JC S0 S' h' E' wr){s:SV}{v:HV}{n:List (Int×Bool×Unit)}{mv':List Nat}(a:Yk S' s mv fr=some (n,mv'))(t:V E' s v):∃e,J S0 S' h' E' wr P (T.bT (.map n)) e mv' fr/\Fm E.nx E e/\V e (.map T.nx) v:=by
 unfold Yk at a;split at a
 .
  rename_i m;split at a
  .
   rename_i D l;rw[aH]at a;split at a
   .
    rename_i d;simp only[ae]at d;obtain⟨p,g,k⟩:=d;have g:bw m mv=false:=by simpa using g
    have k:bw m fr=false:=by simpa using k
    cases a;rw[C3]at t;obtain⟨_,b,o,rfl⟩:=t;obtain⟨z,u,y⟩:=C.M.gm m _ l;rw[o]at u;cases u
    have r:∀c,(some b=some c\/∃i,(λ_=>none:Nat->Option Nat) i=some c)->Bk E' m c:=by
     rintro c(q|⟨i,q⟩);.cases q;exact .inl o
     .cases q
    obtain⟨x,w,A⟩:=j.bT (X:= .map n) (o:=some b) (q:=λ_=>none) (mv':=m::mv) (λB h=>dK.2 (.inr h)) (λc d=>j.gV C l (r c d) p g k) (λc d=>⟨m,_,dK.2 (.inl rfl),p,l,r c d⟩) (λ_ _=>rfl) λf=>⟨b,m4,by show h'.hp.ap b=_;rw[<-C.M.hp];exact y⟩;exact⟨_,x,w,C3.2 ⟨bf _,b,m4,rfl⟩⟩
   .cases a
  .cases a
 .cases a
theorem te{S:SS}:∀{L:List Nat},pA S L=true->∀m,m∈L->S.jQ m=true
 |[],_,m,b=>by cases b
 |a::L,h,m,b=>by
  unfold pA at h;rw[ae]at h;rcases co.1 b with rfl|b;.exact h.1
  .exact te h.2 m b
theorem CI{a:List Nat}:∀{L:List Nat},Nf a L=true->∀m,m∈L->bw m a=false
 |[],_,m,c=>by cases c
 |b::L,h,m,c=>by
  unfold Nf at h;rw[ae]at h;rcases co.1 c with rfl|c;.simpa using h.1
  .exact CI h.2 m c
theorem J.val(j:J S0 S' h' E' wr P T E mv fr)(C:JC S0 S' h' E' wr){u:U}{z0 x0:List SV}{cs:List HV}{x:D u}{k:List Nat}(l:Hv S' u z0 mv fr=some (x,x0,k))(s0:dy E' z0 cs):∃s,J S0 S' h' E' wr P T s mv (k++fr)/\Fm E.nx E s/\((s.mb=E.mb/\s.ib=E.ib)/\∀m,bw m mv=true->bw m k=false)/\∃c d,cs=c++d/\dw s.hp s.Z u c x/\dy E' x0 d:=by
 unfold Hv at l;split at l
 .
  rename_i k0 l0 o0;split at l
  .
   rename_i m0 t0;rw[aH]at l;split at l
   .
    rename_i y;rw[ae]at y;cases l;have r0:=te y.1;have A:=CI y.2
    obtain⟨w0,z⟩:=XD (Z2:=λb=>E.Z b\/∃m e,m∈k/\S'.st.ap m=some e/\Bk E' m b) j.M (λb a=> .inl a) (λm e b q a f=>by
     rcases f with f|⟨n,i,v,o,r⟩;.exact(j.M.own m e b q a).1 f
     .
      rcases j.rU m e b q a with⟨h,p,w⟩|⟨y0,u0,h,_,p,w⟩
      .
       have n0:S'.st.ap m=some e:=by rw[C.uL m h p];exact w
       have:=C.M.inj m n e i b n0 o ((j.bk h b).1 a) r;subst this;have:=r0 m v;rw[C.iB h p]at this;cases this
      .have:=C.M.inj y0 n u0 i b p o w r;subst this;rw[A y0 v]at h;cases h) (λb f=>by
     rcases f with f|⟨n,i,v,o,r⟩;.exact j.M.z b f
     .exact(C.M.own n i b o r).2) λb f B=>by
     rcases f with f|⟨n,i,v,o,r⟩;.exact j.M.zo b f B
     .rw[<-C.M.hp];exact uC (C.M.gm n i o) (C.M.py n i o) r (by rw[<-j.lo];exact B)
    refine⟨_,⟨w0,j.f1,j.f2,j.f3,j.f4,j.f5,j.nx,λt=>(j.v t).fm z (.inl rfl),j.p,j.mb,j.ib,λb a=> .inl (j.z b a),λb a=>?_,j.rU,j.tV,j.box,j.lo⟩,z,⟨⟨rfl,rfl⟩,λm q=>by cases p0:bw m k with
     |false=>rfl
     |true=>have:=A m (fq.1 p0);rw[q]at this;cases this⟩,?_⟩
    .
     rcases a with a|⟨n,i,v,o,r⟩
     .
      rcases j.z' b a with g|⟨m,e,h,p⟩;.exact .inl g
      .exact .inr ⟨m,e,fq.2 (cR _ (fq.1 h)),p⟩
     .exact .inr ⟨n,i,fq.2 (dX _ v),o,r⟩
    .
     obtain⟨c,d,v0,h,p,_⟩:=rZ (E:=E') (Q:=λb=>E.Z b\/∃m e,m∈k/\S'.st.ap m=some e/\Bk E' m b) (k:=3) (λb a=> .inl (j.z b a)) (λm e q=>C.M.gm m e (by rw[<-C.M.st];exact q)) (by rw[C.M.st];exact o0) s0 (kR (by rw[C.M.st];exact t0) λm e b q q0 a=> .inr ⟨m,e,q,by rw[<-C.M.st];exact q0,a⟩)
     exact⟨c,d,v0,by
      have:E.hp=E'.hp:=by rw[j.M.hp,C.M.hp]
      show dw E.hp _ u c x;rw[this];exact h,p⟩
   .cases l
  .cases l
 .cases l
theorem Fm.trans{n:Nat}{z j A:En}(a:Fm n z j)(b:Fm j.nx j A):Fm n z A:=⟨b.lo.trans a.lo,λm c w f d=>by obtain⟨D,o,i,p,q⟩:=b.zn m c w (aQ f a.nx) d;obtain⟨z0,w0,v0,C,u0⟩:=a.zn m D w f o;exact⟨z0,w0,λh=>v0 (i h),λk=>(p k).trans (C k),λx d=>((u0 x d).tT i).trans (q x ((zL C x).2 d))⟩,λx d=>b.z x (a.z x d),λx d=>by rw[b.h x (a.z x d),a.h x d],aU a.nx b.nx,λm f=>by rw[b.mb m (aQ f a.nx),a.mb m f],λm e u f d=>by obtain⟨v,o,i⟩:=b.row m e u (aQ f a.nx) d;obtain⟨y,p,q⟩:=a.row m e v f o;exact⟨y,p,q.trans i⟩,λm t k f d y0=>by obtain⟨n0,r,s⟩:=b.Ay m t k (aQ f a.nx) d y0;exact a.Ay m n0 k f r s,λm g e u f B d=>by obtain⟨v,r,s,r0⟩:=b.BA m g e u (aQ f a.nx) (aQ B a.nx) d;obtain⟨y,q0,p0,o0⟩:=a.BA m g e v f B r;refine⟨y,q0,λk l x0=>?_,λk=>(r0 k).trans (o0 k)⟩;obtain⟨t0,m0,l0⟩:=p0 k l x0;obtain⟨s0,k0,j0⟩:=s k t0 m0;exact⟨s0,k0,j0.trans l0⟩⟩
theorem Fm.refl{E:En}:Fm E.nx E E:=⟨rfl,λ_ c _ _ h=>⟨c,h,id,λ_=>rfl,λ_ _=>fK c _⟩,λ_ h=>h,λ_ _=>rfl,ar _,λ_ _=>rfl,λ_ _ a _ h=>⟨a,h,rfl⟩,λ_ t _ _ h b=>⟨t,h,b⟩,λ_ _ _ a _ _ h=>⟨a,h,fp.refl,λ_=>rfl⟩⟩
theorem J.parts(C:JC S0 S' h' E' wr):∀{f:List Kd}{s:List SV}{cs:List HV}{T:SS}{E:En}{mv fr:List Nat}{x:D (wK f)}{mv' m:List Nat},J S0 S' h' E' wr P T E mv fr->dy E' s cs->Al S' f s mv fr=some (x,mv',m)->∃b,J S0 S' h' E' wr P (jl f x T).2 b mv' m/\Fm E.nx E b/\dy b (jl f x T).1 cs/\(∀i,i<S0.nx->(jl f x T).2.st.ap i=T.st.ap i)/\∀t,(jl f x T).2.tmp t=T.tmp t
 |[],[],cs,T,E,mv,fr,x,mv',m,j,g,a=>by cases a;exact⟨E,j,Fm.refl,by unfold dy at g;subst g;show dy E [] [];unfold dy;rfl,λ_ _=>rfl,λ_=>rfl⟩
 |[],_::_,_,_,_,_,_,_,_,_,_,_,a=>by cases a
 | .o e::f,v::s,cs,T,E,mv,fr,x,mv',m,j,g,a=>by
  unfold Al at a;split at a
  .
   rename_i y k0 l;split at a
   .
    rename_i z q r;cases a;unfold dy at g;obtain⟨c,d,rfl,x0,w0⟩:=g;have v0:v.ag=false:=by unfold BP at l;cases v<;>first|rfl|cases l
    obtain⟨w,rfl,u0⟩:=Hq v0 x0;obtain⟨r0,A,o,s0,t0,_⟩:=j.own C l u0;obtain⟨b,B,h,n,z0,y0⟩:=J.parts C A w0 r;refine⟨b,B,o.trans h,?_,λi p=>(z0 i p).trans (t0 i p),λt=>y0 t⟩;show dy b (.row T.nx::_) _;unfold dy;exact⟨[w],d,rfl,V.fm h (.inl rfl) s0,n⟩
   .cases a
  .cases a
 | .o e::f,[],_,_,_,_,_,_,_,_,_,_,a=>by cases a
 | .s e::f,v::s,cs,T,E,mv,fr,x,mv',m,j,g,a=>by
  unfold Al at a;split at a
  .
   rename_i y k0 l;split at a
   .
    rename_i z q r;cases a;unfold dy at g;obtain⟨c,d,rfl,x0,w0⟩:=g;have v0:v.ag=false:=by unfold BO at l;cases v<;>first|rfl|cases l
    obtain⟨w,rfl,u0⟩:=Hq v0 x0;obtain⟨r0,A,o,s0,t0,_⟩:=j.mu C l u0;obtain⟨b,B,h,n,z0,y0⟩:=J.parts C A w0 r;refine⟨b,B,o.trans h,?_,λi p=>(z0 i p).trans (t0 i p),λt=>y0 t⟩;show dy b (.row T.nx::_) _;unfold dy;exact⟨[w],d,rfl,V.fm h (.inl rfl) s0,n⟩
   .cases a
  .cases a
 | .s e::f,[],_,_,_,_,_,_,_,_,_,_,a=>by cases a
 | .v u::f,s,cs,T,E,mv,fr,x,mv',m,j,g,a=>by
  unfold Al at a;split at a
  .
   rename_i c d m0;split at a
   .
    rename_i y k l0;split at a;.rename_i z q r;cases a;obtain⟨h0,n,rfl,f0,o0,n0⟩:=pM m0 g;obtain⟨r0,A,o,_,p0,g0,rfl,i0,q0⟩:=j.val C l0 o0;unfold dy at q0;subst q0;obtain⟨b,B,h,j0,z0,y0⟩:=J.parts C A n0 r;refine⟨b,B,o.trans h,?_,z0,y0⟩;show dy b (Ls.mk u y::_) _;unfold dy;exact⟨p0,n,by simp,nk.2 (i0.mono h.z h.h),j0⟩
    .cases a
   .cases a
  .cases a
theorem J.il(j:J S0 S' h' E' wr P T E mv fr){t:Nat}{s:SV}(c:V E s (h'.tmp t))(b:bw t P=false):J S0 S' h' E' wr P (T.il t s) E mv fr:=by
 refine⟨j.M.re rfl rfl rfl rfl rfl rfl,j.f1,j.f2,j.f3,j.f4,j.f5,j.nx,λi=>?_,λi a=>?_,j.mb,j.ib,j.z,j.z',j.rU,j.tV,j.box,j.lo⟩
 .
  unfold SS.il SS.tmp;simp only;rw[Tr.dg];by_cases h:i=t;.rw[aE h,h];exact c
  .rw[aG h];exact j.v i
 .
  unfold SS.il SS.tmp;simp only;rw[Tr.dg,aG];.exact j.p i a
  .rintro rfl;rw[a]at b;cases b
theorem J.IM(C:JC S0 S' h' E' wr)(w0:∀t,bw t P=true->S'.tmp t=S0.tmp t):∀{h:List Hi}{d:D (i6 h)}{T:SS}{E:En}{mv fr:List Nat}{S2:SS},J S0 S' h' E' wr P T E mv fr->jp S0 S' h mv fr=some d->oW S0 wr P h d T=some S2->∃E2 mv2 fr2,J S0 S' h' E' wr P S2 E2 mv2 fr2
 |[],d,T,E,mv,fr,S2,j,a,l=>by cases l;exact⟨E,mv,fr,j⟩
 | .aL t::h,d,T,E,mv,fr,S2,j,a,l=>J.IM C w0 (h:=h) j a l
 | .val t u::h,d,T,E,mv,fr,S2,j,a,l=>by
  unfold oW at l;rw[aH]at l;split at l;.cases l
  .
   rename_i B;unfold jp at a;rw[aH]at a;split at a
   .
    rename_i e0;have e0:(S'.tmp t).ag=u.ag:=by simpa using e0
    split at a
    .
     rename_i is hits;split at a
     .
      rename_i x k m9;split at a
      .
       rename_i y v;cases a;obtain⟨u9,y9,h0,g0,q4⟩:=lR hits (C.v t);obtain⟨r,n,r0,_,v9,c4,rfl,x9,f0⟩:=j.val C m9 h0;unfold dy at f0;subst f0;rw[bi]at*
       have hV:V r (Ls.mk u x) (h'.tmp t):=by rw[Xo];unfold qE;cases hu:u.ag with
        |true=>exact⟨v9,g0 (e0.trans hu),x9⟩
        |false=>rw[<-q4 (e0.trans hu)];exact x9
       exact J.IM C w0 (h:=h) (d:=y) (n.il hV (by simpa using B)) v l
      .cases a
     .cases a
    .cases a
   .cases a
 | .own t e::h,d,T,E,mv,fr,S2,j,a,l=>by
  unfold oW at l;rw[aH]at l;split at l;.cases l
  .
   rename_i B;unfold jp at a;split at a
   .
    rename_i x i0 l0;split at a;.rename_i y v;cases a;obtain⟨r,n,r0,v0,o1,_⟩:=j.own C l0 (C.v t);exact J.IM C w0 (h:=h) (d:=y) (n.il v0 (by simpa using B)) v l
    .cases a
   .cases a
 | .mu t e::h,d,T,E,mv,fr,S2,j,a,l=>by
  unfold oW at l;rw[aH]at l;split at l;.cases l
  .
   rename_i B;unfold jp at a;split at a
   .
    rename_i x i0 l0;split at a;.rename_i y v;cases a;obtain⟨r,n,r0,v0,o1,_⟩:=j.mu C l0 (C.v t);exact J.IM C w0 (h:=h) (d:=y) (n.il v0 (by simpa using B)) v l
    .cases a
   .cases a
 | .mp t::h,d,T,E,mv,fr,S2,j,a,l=>by
  unfold oW at l;rw[aH]at l;split at l;.cases l
  .
   rename_i B;unfold jp at a;split at a
   .
    rename_i x i0 l0;split at a;.rename_i y v;cases a;obtain⟨r,n,r0,v0⟩:=j.mp C l0 (C.v t);exact J.IM C w0 (h:=h) (d:=y) (n.il v0 (by simpa using B)) v l
    .cases a
   .cases a
 | .rw t e::h,d,T,E,mv,fr,S2,j,a,l=>by cases l
 | .cell t u::h,d,T,E,mv,fr,S2,j,a,l=>by
  unfold oW at l;rw[aH]at l;split at l;.cases l
  .
   rename_i B;unfold jp at a;split at a
   .
    rename_i m n9;split at a
    .
     rename_i z is m0;rw[aH]at a;split at a
     .
      rename_i n0;simp only[ae]at n0;obtain⟨j0,o0,z0,y0⟩:=n0;have z0:bw m mv=false:=by simpa using z0
      have y0:bw m fr=false:=by simpa using y0
      have j0:=au j0;subst j0;split at a
      .
       rename_i x k m9;split at a
       .
        rename_i y v;cases a;have hv:=C.v t;rw[n9,lZ]at hv;obtain⟨_,b,p0,hvt⟩:=hv;obtain⟨x0,w9,u9,z9,i9,h9,g9,f9,e9⟩:=C.M.gm m _ m0;rw[p0]at z9;cases z9
        have jm:J S0 S' h' E' wr P T E (m::mv) fr:=⟨j.M,j.f1,j.f2,j.f3,j.f4,j.f5,j.nx,j.v,j.p,j.mb,j.ib,j.z,j.z',λi e x0 s u0=>by
         rcases j.rU i e x0 s u0 with g|⟨j9,t9,w,q0⟩;.exact .inl g
         .exact .inr ⟨j9,t9,dK.2 (.inr w),q0⟩,j.tV,λi e s a0 d0=>by obtain⟨y9,h0,g0⟩:=j.box i e s a0 d0;exact⟨y9,h0,dK.2 (.inr g0)⟩,j.lo⟩
        obtain⟨r,n,r0,⟨⟨v0,v2⟩,v3⟩,v9,c4,rfl,x9,f0⟩:=jm.val C m9 e9;unfold dy at f0;subst f0;rw[bi]at*;have q9:=j.gV C m0 (.inl p0) o0 z0 y0
        have hor:∀c,(some b=some c\/∃i,(λ_=>none:Nat->Option Nat) i=some c)->c=b:=by
         rintro c(q|⟨i,q⟩);.cases q;rfl
         .cases q
        have hsep:∀t0 s0,T.st.ap t0=some s0->¬Bk r t0 b:=by intro t0 s0 h2 s9;refine q9.2.2.1 t0 s0 h2 ?_;unfold Bk at s9⊢;rw[v0,v2]at s9;exact s9
        obtain⟨k9,d9,hold⟩:=n.bT (X:= .box 0 [Ls.mk u x]) (o:=some b) (q:=λ_=>none) (mv':=m::mv) (λ_ h=>h) (λc r9=>by
         have:=hor c r9;subst this;refine⟨q9.1,λj0=>?_,hsep,q9.2.2.2⟩;rcases n.z' c j0 with g|⟨t0,s0,w,q0,g3⟩;.exact(C.M.own m _ c m0 (.inl p0)).1 g
         .have:=C.M.inj m t0 _ s0 c m0 q0 (.inl p0) g3;subst this;rw[fq,bD,<-fq,<-fq,v3 m (dK.2 (.inl rfl)),y0]at w;rcases w with w|w<;>cases w) (λc r9=>by have:=hor c r9;subst this;exact⟨m,_,dK.2 (.inl rfl),o0,m0,.inl p0⟩) (λ_ _=>rfl) λf=>⟨b,w9,v9,m4,by show h'.hp.ap b=_;rw[<-C.M.hp];exact i9,h9,g9,f9,dy.fm f (.inl rfl) (dA.2 (nk.2 x9))⟩
        refine J.IM C w0 (h:=h) (d:=y) (k9.il (lZ.2 ⟨bf _,b,m4,hvt⟩) (by simpa using B)) v l
       .cases a
      .cases a
     .cases a
    .cases a
   .cases a
 | .box t p::h,d,T,E,mv,fr,S2,j,a,l=>by
  unfold oW at l;unfold jp at a;split at l
  .
   rename_i m o n9;rw[n9]at a;try simp only at a
   rw[aH]at l;split at l
   .
    rename_i b9;rw[ae]at b9;obtain⟨a0,A⟩:=b9;have A:m<S0.nx:=by rw[de]at A;exact A
    split at l
    .
     rename_i z is0 a9;rw[a9]at a;try simp only at a
     split at a
     .
      rename_i z0 _ z' is hm0' b0;cases hm0';rw[aH]at a;split at a
      .
       rename_i l9;have l9:=au l9;subst l9;split at a
       .
        rename_i x i0 c9 hab;rw[aH]at a;split at a
        .
         rename_i n0;simp only[ae]at n0;obtain⟨o0,z0,y0⟩:=n0;have z0:bw m i0=false:=by simpa using z0
         have y0:bw m c9=false:=by simpa using y0
         split at a
         .
          rename_i y v;cases a;obtain⟨b,w9,u9,z9,i9,h9,g9,f9,e9⟩:=C.M.gm m _ b0;obtain⟨r,n,r0,c1,o1,t1⟩:=J.parts C j e9 hab
          have hTm:(jl p x T).2.st.ap m=none:=by cases hq:(jl p x T).2.st.ap m with
           |none=>rfl
           |some e=>have:=(n.box m e A a0 hq).2.2;rw[z0]at this;cases this
          obtain⟨M2,d9⟩:=HU (j:=m) (nx2:=(jl p x T).2.nx) (mb2:=r.mb) (ib2:=r.ib) (e:= .box z (jl p x T).1) n.M hTm (ar _) (aQ A n.nx) (λ_ _=>rfl) (λ_ _ _=>rfl) (λ_=>rfl) (λ_=>⟨_,_,rfl⟩) (λx0 u0=>n.gV C b0 ((n.bk A x0).1 u0) o0 z0 y0) (λhne k=>(n.ib m A k).trans (C.M.py m _ b0 rfl k)) λf=>⟨b,w9,u9,(n.mb m A).trans z9,by show h'.hp.ap b=_;rw[<-C.M.hp];exact i9,h9,g9,f9,dy.fm f (.inl rfl) c1⟩;have p9:∀i,((jl p x T).2.st.set m (.box z (jl p x T).1)).ap i=if i=m then some (.box z (jl p x T).1)else(jl p x T).2.st.ap i:=λi=>Tr.dg _ _ _ _
          have k9:J S0 S' h' E' wr P ((jl p x T).2.iy m (.box z (jl p x T).1)) ⟨h'.hp,r.Z,r.mb,r.ib,(jl p x T).2.st.set m (.box z (jl p x T).1),(jl p x T).2.nx,r.lo⟩ (m::i0) c9:=by
           refine⟨M2,n.f1,n.f2,n.f3,n.f4,n.f5,n.nx,λt=>(n.v t).fm d9 (.inl rfl),n.p,n.mb,n.ib,n.z,n.z',λi e x0 s u0=>?_,λi s k0=>?_,λi e s k0 d0=>?_,n.lo⟩
           .
            have s:((jl p x T).2.st.set m (.box z (jl p x T).1)).ap i=some e:=s;rw[p9]at s;split at s;.rename_i o9;subst o9;exact .inr ⟨i,_,dK.2 (.inl rfl),o0,b0,(n.bk A x0).1 u0⟩
            .
             rcases n.rU i e x0 s u0 with g|⟨j9,t9,w,q0⟩;.exact .inl g
             .exact .inr ⟨j9,t9,dK.2 (.inr w),q0⟩
           .
            show((jl p x T).2.st.set m (.box z (jl p x T).1)).ap i=_;rw[p9,aG];.exact n.tV i s k0
            .rintro rfl;rw[a0]at k0;cases k0
           .
            have c0:((jl p x T).2.st.set m (.box z (jl p x T).1)).ap i=some e:=d0;clear d0;rw[p9]at c0;split at c0;.rename_i o9;subst o9;cases c0;exact⟨.inl ⟨_,_,rfl⟩,by rw[a9];exactλh=>(by cases h),dK.2 (.inl rfl)⟩
            .obtain⟨y9,h0,g0⟩:=n.box i e s k0 c0;exact⟨y9,h0,dK.2 (.inr g0)⟩
          exact J.IM C w0 (h:=h) (d:=y) k9 v l
         .cases a
        .cases a
       .cases a
      .cases a
     .cases a
    .cases l
   .cases l
  .cases l
end
section
theorem xK(st:Tr iK):∀(wr:List Nat)(m:Nat),(mH st wr).ap m=if bw m wr=true then none else st.ap m
 |[],m=>by unfold mH bw;rw[aG (by simp)]
 |a::wr,m=>by
  unfold mH;rw[Tr.gU,xK st wr m];by_cases h:m=a;.rw[aE h,aE (dK.2 (.inl h))]
  .
   rw[aG h];by_cases b:bw m wr=true;.rw[aE b,aE (dK.2 (.inr b))]
   .
    rw[aG b,aG λd=>by
     rcases dK.1 d with c|c;.exact h c
     .exact b c]
theorem Cj(c:SS):∀(P:List Nat)(t:Nat),(sR c P).ap t=if bw t P=true then some (c.tmp t)else none
 |[],t=>by unfold sR bw;rw[aG (by simp)];rfl
 |a::P,t=>by
  unfold sR;rw[Tr.dg,Cj c P t];by_cases h:t=a;.rw[aE h,aE (dK.2 (.inl h)),h]
  .
   rw[aG h];by_cases b:bw t P=true;.rw[aE b,aE (dK.2 (.inr b))]
   .
    rw[aG b,aG λe=>by
     rcases dK.1 e with d|d;.exact h d
     .exact b d]
variable{S0 S' S2:SS}{h0 h':St}{E0 E':En}{hh:List Hi}{wr:List Nat}{d:D (i6 hh)}
theorem pH{m:Nat}(b:m<S0.nx):(S0.km S0.nx hh wr S0.kp).jQ m=bw m wr:=by
 show(Nat.ble S0.nx m||bw m wr)=_
 have:Nat.ble S0.nx m=false:=by cases a:Nat.ble S0.nx m with
  |false=>rfl
  |true=>rw[bS]at a;omega
 rw[this];rfl
theorem Ck(r0:da S0 h0 E0)(k9:dN S0 h0 E0)(v:da S' h' E')(l9:dN S' h' E')(g:Gr (S0.km S0.nx hh wr S0.kp) h0 E0 S' h' E')(i9:∀t,bw t (kY hh++S0.kp)=true->S'.tmp t=S0.tmp t){st1:Tr iK}{mv0:List Nat}{h2:List Hi}{d2:D (i6 h2)}(x:∀m e,st1.ap m=some e->S'.st.ap m=some e/\∃y0,S0.st.ap m=some y0/\(bw m wr=false/\e=y0\/bw m wr=true/\bw m mv0=true/\S'.kt m=true/\∃u xs z0,e= .row u xs/\y0= .row u z0/\z0.length=xs.length))(hun:∀m,m<S0.nx->bw m wr=false->st1.ap m=S0.st.ap m)(ha:jp S0 S' h2 mv0 []=some d2)(hc:oW S0 wr (kY hh++S0.kp) h2 d2 ⟨S0.nt,sR S0 (kY hh++S0.kp),st1,S0.nx,S0.lk,S0.base,S0.wr,S0.kp⟩=some S2):∃l0,da S2 h' l0/\dN S2 h' l0/\Gr (S0.km S0.nx hh wr S0.kp) h0 E0 (S2.km S0.nx hh wr S0.kp) h' l0/\(∀t,bw t (kY hh++S0.kp)=true->S2.tmp t=S0.tmp t)/\S2.nt=S0.nt/\S2.lk=S0.lk/\S2.base=S0.base/\S2.wr=S0.wr/\S2.kp=S0.kp:=by
 have b0:∀m,m<S0.nx->bw m wr=false->S'.st.ap m=S0.st.ap m:=λm a r=>g.uL m a (by rw[pH a];exact r);have C:JC S0 S' h' E' wr:=⟨v,l9.v,g.base,g.wr,b0⟩;have hlt:∀m e,st1.ap m=some e->m<S0.nx:=λm e a=>by obtain⟨_,y0,h0,_⟩:=x m e a;exact r0.lt m y0 h0
 have f:Fm S0.nx E' ⟨h'.hp,E'.Z,E'.mb,E'.ib,st1,S0.nx,E'.lo⟩:=⟨rfl,λm c w _ o=>⟨c,by rw[v.st];exact(x m _ o).1,id,λ_=>rfl,λb _=>by rw[v.hp];exact fK c _⟩,λ_ s=>s,λ_ _=>by rw[v.hp],ar _,λ_ _=>rfl,λm u xs _ o=>⟨xs,by rw[v.st];exact(x m _ o).1,rfl⟩,λm t k _ o e0=>⟨t,by rw[v.st];exact(x m _ o).1,e0⟩,λm g u xs _ _ o=>⟨xs,by rw[v.st];exact(x m _ o).1,fp.refl,λ_=>rfl⟩⟩
 have e9:da ⟨S0.nt,sR S0 (kY hh++S0.kp),st1,S0.nx,S0.lk,S0.base,S0.wr,S0.kp⟩ h' ⟨h'.hp,E'.Z,E'.mb,E'.ib,st1,S0.nx,E'.lo⟩:=by
  refine⟨rfl,rfl,rfl,hlt,λm e a=>?_,λm m0 e o0 b a hm'=>v.inj m m0 e o0 b (x m e a).1 (x m0 o0 hm').1,λm e b a s=>v.own m e b (x m e a).1 s,v.z,v.fr,λb s=>⟨(v.lk b s).1,λm e a q0=>?_⟩,v.rq,λm e a=>v.py m e (x m e a).1,v.zo⟩
  .
   obtain⟨n0,y0,x0,p⟩:=x m e a;have q:=v.gm m e n0;have v0:∀b,h'.hp.ap b=E'.hp.ap b:=λb=>by rw[v.hp]
   cases e with
    |box z i0=>
    have p: .box z i0=y0:=by
     rcases p with⟨_,p⟩|⟨_,_,_,u,xs,z0,p,_⟩;.exact p
     .cases p
    subst p;obtain⟨b,y,c9,B,u0,t9,s9,p5,p6⟩:=q;obtain⟨_,_,cs0,_,_,_,_,_,g9⟩:=r0.gm m _ x0;exact⟨b,y,c9,B,by show h'.hp.ap b=_;rw[<-v.hp];exact u0,t9,s9,p5,dy.fm f (.inr (by have:=Hp g9;rw[r0.nx]at this;exact this)) p6⟩
    |row e xs=>obtain⟨B,u0⟩:=q;exact⟨B,gB.fm (E:=E') (E':=⟨h'.hp,E'.Z,E'.mb,E'.ib,st1,S0.nx,E'.lo⟩) (λ_ q=>q) (λb _=>v0 b) (λb _=>v0 b) u0⟩
    |rows d0 e xs=>
    have p: .rows d0 e xs=y0:=by
     rcases p with⟨_,p⟩|⟨_,_,_,u,xs,z0,p,_⟩;.exact p
     .cases p
    subst p;obtain⟨g9,B,q⟩:=q;obtain⟨f9,_⟩:=r0.gm m _ x0;refine⟨by rw[r0.nx]at f9;exact f9,B,?_⟩;rcases q with q|⟨b,y,a0,z9,y9,x9,w9,v9,u9,k8,k9⟩;.exact .inl q
    refine .inr ⟨b,y,a0,by show h'.hp.ap b=_;rw[v0];exact z9,y9,x9,w9,λi l j0=>?_,u9,k8,k9⟩;obtain⟨p9,o9,n9⟩:=v9 i l j0;exact⟨p9,o9,gB.fm (E:=E') (E':=⟨h'.hp,E'.Z,E'.mb,E'.ib,st1,S0.nx,E'.lo⟩) (λ_ q=>q) (λb _=>v0 b) (λb _=>v0 b) n9⟩
    |mJ e xs w=>obtain⟨B,j,u0,t9,s9,b,y,a0,z9,y9,x9,w9,v9,u9⟩:=q;refine⟨B,j,u0,t9,s9,b,y,a0,by show h'.hp.ap b=_;rw[v0];exact z9,y9,x9,w9,λi l hij j0=>?_,u9⟩;obtain⟨p9,o9,n9⟩:=v9 i l hij j0;exact⟨p9,o9,gB.fm (E:=E') (E':=⟨h'.hp,E'.Z,E'.mb,E'.ib,st1,S0.nx,E'.lo⟩) (λ_ q=>q) (λb _=>v0 b) (λb _=>v0 b) n9⟩
    |map kvs=>obtain⟨b,B,u0⟩:=q;exact⟨b,B,by show h'.hp.ap b=_;rw[v0];exact u0⟩
    |zn c w=>obtain⟨B,u0⟩:=q;exact⟨B,λb s r=>by have:=u0 b s r;rw[v.hp]at this;exact this⟩
  .have:=(v.lk b s).2 m e (x m e a).1 q0;rw[g.Ha]at this;exact this
 have h9:∀t,SS.tmp ⟨S0.nt,sR S0 (kY hh++S0.kp),st1,S0.nx,S0.lk,S0.base,S0.wr,S0.kp⟩ t=if bw t (kY hh++S0.kp)=true then S0.tmp t else .any:=by
  intro t;unfold SS.tmp;simp only;rw[Cj];by_cases w0:bw t (kY hh++S0.kp)=true;.rw[aE w0,aE w0];rfl
  .rw[aG w0,aG w0]
 have j:J S0 S' h' E' wr (kY hh++S0.kp) ⟨S0.nt,sR S0 (kY hh++S0.kp),st1,S0.nx,S0.lk,S0.base,S0.wr,S0.kp⟩ ⟨h'.hp,E'.Z,E'.mb,E'.ib,st1,S0.nx,E'.lo⟩ mv0 []:=by
  refine⟨e9,rfl,rfl,rfl,rfl,rfl,ar _,λt=>?_,λt w0=>?_,λ_ _=>rfl,λ_ _ _=>rfl,λ_ s=>s,λ_ s=> .inl s,λm e b a s=>?_,λm a r=>?_,λm e a r j9=>?_,rfl⟩
  .
   rw[h9];by_cases w0:bw t (kY hh++S0.kp)=true;.rw[aE w0];have:=l9.v t;rw[i9 t w0]at this;exact this.fm f (.inr (by have:=acK (k9.v t);rw[r0.nx]at this;exact this))
   .rw[aG w0];exact G9
  .rw[h9,aE w0]
  .
   obtain⟨n0,y0,x0,p⟩:=x m e a;rcases p with⟨p,rfl⟩|⟨p,k0,b9,_⟩;.exact .inl ⟨r0.lt m e x0,p,x0⟩
   .exact .inr ⟨m,e,k0,b9,n0,s⟩
  .exact hun m a r
  .
   obtain⟨n0,y0,x0,p⟩:=x m e j9;rcases p with⟨p,_⟩|⟨_,k0,_,u,xs,z0,rfl,rfl,a9⟩;.rw[r]at p;cases p
   .exact⟨.inr ⟨u,xs,z0,rfl,x0,a9⟩,by rw[x0];exactλh=>(by cases h),k0⟩
 obtain⟨l0,mv2,fr2,n⟩:=J.IM C i9 (h:=h2) (d:=d2) j ha hc;refine⟨l0,n.M,⟨n.f1.trans (k9.nt.trans g.nt.symm),n.v⟩,⟨g.nt,g.lk,g.df,n.f1,n.f2,rfl,rfl,rfl,g.nx,n.nx,λb s=>n.z b (g.z b s),λb s=>?_,g.DC,λb s=>?_,λm a=>(n.mb m a).trans (g.mb m a),λm a g0=>?_,λm a f0=>?_,λm u xs a o=>?_,λb m e s a q0=>?_,λm t k a o e0=>?_,λm d0 u xs a j9 o=>?_,λm a g0 k=>(n.ib m a k).trans (g.ci m a g0 k),n.lo.trans g.lo,λm c w a o=>?_⟩,n.p,n.f1,n.f2,n.f3,n.f4,n.f5⟩
 .
  rcases n.z' b s with q|⟨m,e,s0,p0,t0⟩;.exact g.z' b q
  .
   rcases g.ow b ⟨m,e,p0,t0⟩with q|q;.exact .inr (.inl q)
   .exact .inr (.inr q)
 .
  obtain⟨m,e,a,q0⟩:=s;rcases n.rU m e b a q0 with⟨s0,p0,t0⟩|⟨m0,o0,_,_,t0,r9⟩;.exact g.ow b ⟨m,e,by rw[b0 m s0 p0];exact t0,(n.bk s0 b).1 q0⟩
  .exact g.ow b ⟨m0,o0,t0,r9⟩
 .have a:m<S0.nx:=a;rw[pH a]at g0;exact n.tV m a g0
 .
  have a:m<S0.nx:=a;have f0:S0.st.ap m=none:=f0;by_cases r:bw m wr=true
  .show S2.st.ap m=none;cases hq:S2.st.ap m with
   |none=>rfl
   |some e=>exact absurd f0 (n.box m e a r hq).2.1
  .exact(n.tV m a (by simpa using r)).trans f0
 .
  have a:m<S0.nx:=a;have o:S2.st.ap m=some (.row u xs):=o;by_cases r:bw m wr=true
  .
   rcases(n.box m _ a r o).1 with⟨z,i0,A⟩|⟨q9,m9,z0,A,h9,j0⟩;.cases A
   .cases A;exact⟨z0,h9,j0⟩
  .rw[n.tV m a (by simpa using r)]at o;exact⟨xs,o,rfl⟩
 .
  rcases n.rU m e b a q0 with⟨s0,p0,t0⟩|⟨m0,o0,_,p0,t0,r9⟩
  .
   refine⟨e,t0,?_⟩;have c0:=(n.bk s0 b).1 q0;unfold Bk at c0⊢;rw[g.mb m s0]at c0;rcases c0 with w|⟨k,w⟩;.exact .inl w
   .exact .inr ⟨k,by rw[<-g.ci m s0 (by rw[pH s0];exact p0)];exact w⟩
  .have:=(v.lk b (by rw[g.lk];exact s)).2 m0 o0 t0 r9;rw[(gy p0).2]at this;cases this
 .
  have a:m<S0.nx:=a;have o:S2.st.ap m=some t:=o;by_cases r:bw m wr=true;.rcases(n.box m _ a r o).1 with⟨z,i0,A⟩|⟨q9,m9,z0,A,_⟩<;>cases A<;>cases e0
  .rw[n.tV m a (by simpa using r)]at o;exact⟨t,o,e0⟩
 .
  have a:m<S0.nx:=a;have o:S2.st.ap m=some (.rows d0 u xs):=o;by_cases r:bw m wr=true;.rcases(n.box m _ a r o).1 with⟨z,i0,A⟩|⟨q9,m9,z0,A,_⟩<;>cases A
  .rw[n.tV m a (by simpa using r)]at o;exact⟨xs,o,fp.refl,λk=>(n.ib m a k).trans (g.ci m a (by rw[pH a];simpa using r) k)⟩
 .
  have a:m<S0.nx:=a;have o:S2.st.ap m=some (.zn c w):=o;by_cases r:bw m wr=true;.rcases(n.box m _ a r o).1 with⟨z,i0,A⟩|⟨q9,m9,z0,A,_⟩<;>cases A
  .
   have r:bw m wr=false:=by simpa using r
   rw[n.tV m a r]at o;obtain⟨d9,x0,n0,p,k0⟩:=g.zn m c w a (by rw[b0 m a r];exact o);exact⟨d9,x0,n0,λk=>(n.ib m a k).trans (p k),k0⟩
theorem yV(o:da S0 h0 E0)(B:dN S0 h0 E0)(z:da S' h' E')(A:dN S' h' E')(g:Gr (S0.km S0.nx hh wr S0.kp) h0 E0 S' h' E')(x0:∀t,bw t (kY hh++S0.kp)=true->S'.tmp t=S0.tmp t)(c:jp S0 S' hh [] []=some d)(a:we S0 hh wr d=some S2):∃n,da S2 h' n/\dN S2 h' n/\Gr (S0.km S0.nx hh wr S0.kp) h0 E0 (S2.km S0.nx hh wr S0.kp) h' n/\(∀t,bw t (kY hh++S0.kp)=true->S2.tmp t=S0.tmp t)/\S2.nt=S0.nt/\S2.lk=S0.lk/\S2.base=S0.base/\S2.wr=S0.wr/\S2.kp=S0.kp:=by
 have r0:∀m,m<S0.nx->bw m wr=false->S'.st.ap m=S0.st.ap m:=λm f h=>g.uL m f (by rw[pH f];exact h);have s:=xK S0.st wr
 have v0:∀m e,(mH S0.st wr).ap m=some e->bw m wr=false/\S0.st.ap m=some e/\S'.st.ap m=some e:=by
  intro m e f;rw[s]at f;split at f;.cases f
  .
   rename_i h;have h:bw m wr=false:=by simpa using h
   exact⟨h,f,by rw[r0 m (o.lt m e f) h];exact f⟩
 unfold we at a;split at a
 .
  rename_i t e r j0;split at a
  .
   rename_i m n0;split at a
   .
    rename_i u e0 i0;rw[aH]at a;split at a
    .
     rename_i z0;simp only[ae,bF,de]at z0;obtain⟨h,p0,m0⟩:=z0;subst m0;unfold jp at c;rw[n0]at c;simp only at c;split at c
     .
      rename_i k0 g0 b;split at c
      .
       rename_i y o0;cases c;unfold BP at b;simp only at b;split at b
       .
        rename_i f0 k w0;split at b
        .
         rename_i d0 l0;rw[aH]at b;split at b
         .
          rename_i C;simp only[ae]at C;cases b;obtain⟨t0,p⟩:=eo l0;cases t0;have p:k=k0:=p;subst p;obtain⟨u0,q,s0⟩:=g.row m u k p0 w0;have q:S0.st.ap m=some (.row u u0):=q;have y0:∀i,((mH S0.st wr).set m (.row u k)).ap i=if i=m then some (.row u k)else(mH S0.st wr).ap i:=λi=>Tr.dg _ _ _ _;refine Ck (hh:= .rw t u::r) o B z A g x0 (st1:=(mH S0.st wr).set m (.row u k)) (mv0:=[m]) (h2:=r) (d2:=y) (λi e j=>?_) (λi j l=>?_) o0 a
          .
           rw[y0]at j;split at j;.rename_i q0;subst q0;cases j;exact⟨w0,_,q,.inr ⟨h,dK.2 (.inl rfl),C.1,u,k,u0,rfl,rfl,s0⟩⟩
           .obtain⟨v,w,x⟩:=v0 i e j;exact⟨x,e,w,.inl ⟨v,rfl⟩⟩
          .rw[y0,aG (by rintro rfl;rw[h]at l;cases l),s,aG (by rw[l];simp)]
         .cases b
        .cases b
       .cases b
      .cases c
     .cases c
    .cases a
   .cases a
  .cases a
 .
  refine Ck o B z A g x0 (st1:=mH S0.st wr) (mv0:=[]) (λi e j=>?_) (λi j l=>?_) c a;.obtain⟨v,w,x⟩:=v0 i e j;exact⟨x,e,w,.inl ⟨v,rfl⟩⟩
  .rw[s,aG (by rw[l];simp)]
theorem AL(l:pA S0 wr=true)(g:Gr (S0.km S0.nx hh wr S0.kp) h0 E0 S' h' E')(j:S2.st=S'.st)(n:S2.nx=S'.nx)(b:S2.nt=S0.nt)(c:S2.lk=S0.lk)(e:S2.base=S0.base)(f:S2.wr=S0.wr)(i:S2.kp=S0.kp):Gr S0 h0 E0 S2 h' E':=g.re rfl rfl (λm a k=>by have a:m<S0.nx:=a;rw[pH a];cases o:bw m wr with
 |false=>rfl
 |true=>have:=te l m (fq.1 o);rw[k]at this;cases this) rfl rfl (λ_ h=>h) j n rfl rfl g.nt g.lk g.df b c e f i
end
theorem CS{α β:Type}{o:Option (Sum α β)}{f:α->Option β}{r:β}(h:aD o f=some r):(∃x,o=some (.inl x)/\f x=some r)\/o=some (.inr r):=by
 unfold aD at h;split at h;.exact .inl ⟨_,rfl,h⟩
 .cases h;exact .inr rfl
 .cases h
theorem pI{α β:Type}{o:Option α}{v:Sum α β}(h:DH o=some v):∃x,o=some x/\v= .inl x:=by
 unfold DH at h;split at h;.cases h;exact⟨_,rfl,rfl⟩
 .cases h
theorem oA{α β:Type}{o:Option β}{v:Sum α β}(h:ao o=some v):∃x,o=some x/\v= .inr x:=by
 unfold ao at h;split at h;.cases h;exact⟨_,rfl,rfl⟩
 .cases h
def TU(cx:Cx)(f:FuncId):Prop:=∀(h:St)(b n i:Nat)(y:gY)(e:List HV),h.hp.ap b=some (.cn y)->y.own=true->bw b h.lk=false->y.z=1->cu y 0 n=some e->n<=140737488355328->gL n 8=true->i<n->∃d a,(∃g,∀k,g<=k->call cx (run cx k) f [.sl b 0 n,.int .i64 (Int.ofNat i),.int .i64 (Int.ofNat (i+1))] h=some (.sl b 0 (n-1),⟨h.nt,h.dE,d,h.nx,h.lk,h.df⟩))/\(∀c,c≠b->d.ap c=h.hp.ap c)/\d.ap b=some (.cn a)/\a.own=true/\a.z=1/\cu a 0 (n-1)=some (e.eraseIdx i)
def gu(cx:Cx)(f:FuncId):Prop:=∀(i:Func)(t:Nat)(y:El),cx.fn.ap f=some i->i.params.toList=[t]->cx.gd t=some y->∀(h:St)(v:HV)(e:List HV)(k:Nat),(∀b,h.nx<=b->h.hp.ap b=none)->(∀b,bw b h.lk=true->b<h.nx)->jg h y.z v=some (e,k)->(v= .cK\/v= .gO\/v= .mj\/∃b o n,v= .sl b o n/\b<h.nx)->e.length=k*y.z->gL k y.lX=true->∃g a c,(∃j,∀k,j<=k->call cx (run cx k) f [v] h=some (g,⟨h.nt,h.dE,a,c,h.lk,h.df⟩))/\h.nx<=c/\(∀b,b<h.nx->a.ap b=h.hp.ap b)/\(∀b,c<=b->a.ap b=none)/\(g= .cK/\k=0\/∃b d,g= .sl b 0 k/\h.nx<=b/\b<c/\a.ap b=some (.cn d)/\d.own=true/\d.z=y.z/\cu d 0 (k*y.z)=some e)
def nE(cx:Cx)(ct:Tr rA)(f q:Nat):Prop:=(q=1->TU cx f)/\(q=2->gu cx f)/\(q=3->∀c,ct.ap f=some c->J1 cx f c)
section
variable{E:En}{S:SS}{h:St}{cy:Cy}{R:Type}{r:R}{K:SV->SS->Option R}
theorem Ij{hp:Tr Hm.Obj}{Z:Nat->Prop}{k:IntKind}:∀{xs:List Int}{cs:List HV},mB (dw hp Z (.int k)) cs xs->cs=xs.map (HV.int k)
 |[],_,h=>h
 |x::xs,_,⟨c,d,e,a,b⟩=>by have a:c=[.int k x]:=a;rw[e,a,Ij b];rfl
theorem EG{y:gY}{k:IntKind}{n:Nat}{xs:List Int}{hp:Tr Hm.Obj}{Z:Nat->Prop}(hg:cu y 0 n=some (xs.map (HV.int k)))(i:Nat)(x:Int)(c:xs[i]?=some x):∃cs,cu y (i*(U.int k).size) (U.int k).size=some cs/\dw hp Z (.int k) cs x:=by
 refine⟨[.int k x],?_,rfl⟩;show cu y (i*1) 1=_;have d:=ie hg;rw[cZ]at d;have e:=(aj.1 c).1;rw[fy]at hg⊢;refine⟨rfl,λj f=>?_⟩;have:j=0:=by omega
 subst this;obtain⟨a,b⟩:=hg.2 i (by omega);rw[hQ,fh];rw[br]at a b;refine⟨a,?_⟩;rw[b,js,c];rfl
theorem Na{α β:Type}(f:α->β):∀(l:List α)(i:Nat),(l.map f).eraseIdx i=(l.eraseIdx i).map f
 |[],_=>rfl
 |_::_,0=>rfl
 |a::l,i+1=>by show f a::(l.map f).eraseIdx i=f a::(l.eraseIdx i).map f;rw[Na f l i]
theorem Si{i:Nat}(h:i<=140737488355328):ai .i64 (Int.ofNat i) 1=Int.ofNat (i+1):=by show gj .i64 ((i:Int)+1)=((i+1:Nat):Int);unfold gj Cm;rw[av (by omega),av (by omega)];rfl
theorem OB(M:da S h E){u:U}{x:SV}{a:HV}{bT:List (D u)}{L:List Nat}(l:HR S.st (.bc u) x=some bT)(q:V E x a)(i:lL S.st [x]=some L):a= .cK\/a= .gO\/a= .mj\/∃b o n,a= .sl b o n/\b<h.nx:=by
 have j:∀m e,E.st.ap m=some e->oj E m e:=λm e k=>M.gm m e (by rw[<-M.st];exact k);have c:qE E.hp (λ_=>True) (.bc u) a bT:=xr (E:=E) (Q:=λ_=>True) (k:=3) (λ_ _=>trivial) j (by rw[M.st];exact l) q (uG (λ_ _ _ _ _=>trivial) (by rw[M.st];exact i));have c:dw E.hp (λ_=>True) (.bc u) [a] bT:=c;unfold dw at c;obtain⟨v,p,c⟩:=c;cases p;rcases c with⟨_,h|h|h⟩|⟨b,o,y,⟨f,_⟩,_,d,_⟩;.exact .inl h
 .exact .inr (.inl h)
 .exact .inr (.inr (.inl h))
 .
  refine .inr (.inr (.inr ⟨b,o,_,f,?_⟩));rcases cO b h.nx with g|g;.exact g
  .rw[M.hp,M.fr b g]at d;cases d
theorem sO{m:Nat}{w:Bool}(d:m<E.nx)(e:E.st.ap m=some (.zn true w)){Z:Nat->Prop}(f:∀b,Z b->Bz E m b):∀{u:U}{l:List HV}{x:D u},fI E.hp Z u l x->Vs E (lP m u x) l
 | .un,l,x,h=>by unfold fI at h;unfold lP Vs;exact h
 | .ah a b,l,x,h=>by unfold fI at h;obtain⟨v,r,rfl,c,n⟩:=h;unfold lP Vs;refine⟨v,r,rfl,?_,sO d e f n⟩;rw[Vl];unfold qE at c;unfold ia;cases g:a.ag with
  |true=>rw[g]at c;obtain⟨i,j,k⟩:=c;exact⟨i,j,(tn d).2 ((k.mono f λ_ _=>rfl).zb d e)⟩
  |false=>rw[g]at c;have c:dw E.hp Z a [v] x.1:=c;exact(tn d).2 ((c.mono f λ_ _=>rfl).zb d e)
 | .int _,l,x,h=>by cases h
 | .bool,l,x,h=>by cases h
 | .dH,l,x,h=>by cases h
 | .bc _,l,x,h=>by cases h
 | .fF _ _,l,x,h=>by cases h
 | .nil,l,x,h=>by cases h
def zq(Z:Nat->Prop)(i:Nat):Option Nat:= @ite _ (Z i) (Classical.propDecidable _) (some i) none
theorem pO{Z:Nat→Prop}{i b:Nat}:zq Z i=some b↔i=b∧Z b:=by
 unfold zq;by_cases h:Z i
 ·
  rw[aE h];constructor;·intro e;cases e;exact⟨rfl,h⟩
  ·rintro⟨rfl,_⟩;rfl
 ·
  rw[aG h];constructor;·intro e;cases e
  ·rintro⟨rfl,g⟩;exact absurd g h
theorem qL:∀{L:List Nat}{S:SS}{h:St}{E:En},da S h E->∃E',da (S.qM L) h E'/\Gr S h E (S.qM L) h E'/\(S.qM L).dE=S.dE
 |[],S,h,E,a=>⟨E,a,Gr.refl,rfl⟩
 |m::l,S,h,E,a=>by
  unfold SS.qM;split
  .
   rename_i i;rw[aH];split;.rename_i g;obtain⟨b,d⟩:=KV a i g;obtain⟨E',c,f,e⟩:=qL (L:=l) b;exact⟨E',c,d.trans f,e⟩
   .exact qL a
  .exact qL a
theorem Ku{f q:Nat}(k9:nE cy.cx cy.ct f q){args:List SV}{t9:List HV}(d:Kv cy S f q args K=some r)(M:da S h E)(B:Vs E args t9):∃v u0 s v0 E',(∃k0,∀k,k0<=k->call cy.cx (run cy.cx k) f t9 h=some (v,u0))/\da v0 u0 E'/\Gr S h E v0 u0 E'/\v0.dE=S.dE/\u0.dE=h.dE/\V E' s v/\K s v0=some r:=by
 unfold Kv at d;split at d
 .
  rename_i a l1 i l2 j;unfold Vs at B;obtain⟨va,r1,rfl,m0,B⟩:=B;unfold Vs at B;obtain⟨vi,r2,rfl,w9,B⟩:=B;unfold Vs at B;obtain⟨vj,r3,rfl,t0,B⟩:=B;unfold Vs at B;subst B;have w9:V E _ vi:=w9;have t0:V E _ vj:=t0;have m0:V E a va:=m0;rw[dT]at w9 t0;subst w9;subst t0;unfold Xf at d;split at d
  .
   rename_i m _;split at d
   .
    rename_i e A s0;split at d
    .
     rename_i ys hys;rw[aH]at d;split at d
     .
      rename_i hcw;obtain⟨hcan,a9⟩:=gy hcw;obtain⟨b0,g0⟩:=eC d;obtain⟨a0,hk2'⟩:=eC g0;obtain⟨z9,hk3⟩:=eC hk2';obtain⟨e0,i0⟩:=eo hys;cases e0;have i0:A=ys:=i0;subst i0;have z9:gL (([]:List Int).length+A.length) 8=true:=z9;rw[gp,br]at z9;unfold a5 at b0;simp only[ae,bF]at b0;obtain⟨n,rfl⟩:∃n:Nat,i=Int.ofNat n:=⟨_,qd b0.1⟩;have v9:n<A.length:=ll.1 b0.2;obtain⟨hl,f0⟩:=M.gm m _ s0;have a0:j=ai .i64 (Int.ofNat n) 1:=bA a0;rw[Si (by omega)]at a0;subst a0;rw[ij]at m0;have l9:=m0.2.2.1 _ A (by rw[M.st];exact s0);unfold ge at l9;unfold gB at f0
      cases p:E.mb m with
       |none=>rw[p]at f0;rw[f0]at v9;cases v9
       |some b=>
       rw[p]at f0 l9;subst l9;obtain⟨y,p1,p2,p3,p4,p5⟩:=f0;obtain⟨n0,C,g2⟩:=Hb (R:=dw E.hp E.Z (.int .i64)) (o:=0) (z:=(U.int .i64).size) (λ_ _ h=>dw.len h) (λi x x0=>by obtain⟨n0,r0,y0⟩:=p5 i x x0;exact⟨n0,by rw[br];exact r0,y0⟩);have C:cu y 0 (A.length*1)=some n0:=C;rw[hQ]at C;have hcs:=Ij g2;subst hcs;obtain⟨p0,l0,h0,f9,d2,d3,d4,d5⟩:=k9.1 rfl h b A.length n y _ (by rw[<-M.hp];exact p1) p2 (mc M s0 (.inl p) a9) p3 C hl z9 v9;have x9:∀j,(S.mI m).st.ap j=if j=m then none else S.st.ap j:=λj=>Tr.gU _ _ _;have o9:ig A (Int.ofNat n)=A.eraseIdx n:=rfl;have m9:(A.eraseIdx n).length=A.length-1:=by rw[tP,aE v9]
       have p9:cu l0 0 (A.length-1)=some ((A.eraseIdx n).map (HV.int .i64)):=by rw[d5,Na]
       have hyn:A.length-1<=l0.n:=by
        by_cases c0:A.length-1=0;.omega
        .rw[fy]at p9;have:=(p9.2 (A.length-2) (by omega)).1;omega
       have:=nj (st1:=(S.mI m).st) (hp':=p0) (nx':=h.nx) (o:=some b) (e:= .row (.int .i64) (ig A (Int.ofNat n))) M (λj e t0=>by
        rw[x9]at t0;split at t0;.cases t0
        .exact t0) (λj r0 y0=>by
        rw[x9]at y0;split at y0;.rename_i hjm;rw[hjm];exact hcan
        .exact absurd y0 r0) (λc q0=>by
        by_cases b9:c=b;.subst b9;exact .inr ⟨m,_,s0,.inl p,by rw[x9,aE rfl]⟩
        .exact .inl (f9 c b9)) (ar _) (λc q0=>by rw[f9 c (by have:=(M.own m _ b s0 (.inl p)).2;omega)];exact M.fr c q0) (λc q0=>by cases q0;exact⟨(M.own m _ b s0 (.inl p)).2,.inr ⟨m,_,s0,.inl p,by rw[x9,aE rfl],a9⟩⟩) λ_ _=>⟨by rw[o9,m9];omega,by rw[lx];refine⟨l0,d2,d3,d4,?_,λi x x0=>EG p9 i x x0⟩;rw[o9,m9];show(A.length-1)*1<=l0.n;omega⟩
       refine⟨_,_,_,_,_,h0,this.1,this.2,rfl,rfl,ij.2 ⟨bf _,rfl,λu h9 z=>?_,λt k z n9=>?_⟩,hk3⟩;.have z:((S.mI m).st.set S.nx (.row (.int .i64) (ig A (Int.ofNat n)))).ap S.nx=some (.row u h9):=z;rw[Tr.a8]at z;cases z;rw[lx];show _=HV.sl b 0 (ig A (Int.ofNat n)).length;rw[o9,m9]
       .have z:((S.mI m).st.set S.nx (.row (.int .i64) (ig A (Int.ofNat n)))).ap S.nx=some t:=z;rw[Tr.a8]at z;cases z;cases n9
     .cases d
    .cases d
   .cases d
  .cases d
 .
  rename_i x;unfold Vs at B;obtain⟨i9,r1,rfl,x0,B⟩:=B;unfold Vs at B;subst B;have x0:V E x i9:=x0;split at d
  .
   rename_i fn hfn;split at d
   .
    rename_i t ht;unfold uQ at d;split at d
    .
     rename_i y u e0 hu;rw[aH]at d;split at d
     .
      rename_i hsrc;split at d
      .
       rename_i z0 hnew;split at d
       .
        rename_i L y9;split at d
        .
         rename_i o0 hS1;split at d
         .
          rename_i iB S2 hown;obtain⟨hroom,g0⟩:=eC d;cases hown;obtain⟨w0,g9,C,i0,e2,e3,e4,e5,e6⟩:=ny M hS1;obtain⟨c,hsc,d9,hns⟩:=xj M x0 hnew y9 g9 C e3;have z:=pK e0 hu;have hcl:=mP (z:=u.size) (λ_ _ h=>h.len) d9;have hkind:=OB M hnew x0 y9;obtain⟨v',p0,u9,h0,s9,r9,q9,j0⟩:=k9.2.1 rfl fn t y hfn ht e0 h i9 c z0.length M.fr (λb p=>(M.lk b p).1) (by rw[z];exact hsc) hkind (by rw[z];exact hcl) (by have:gL (([]:List (D u)).length+z0.length) y.lX=true:=hroom;simpa using this);have hbig:z0.length<=140737488355328:=ud (by have:gL (([]:List (D u)).length+z0.length) y.lX=true:=hroom;simpa using this) (pt e0).2
          have e9:∀(o:Option Nat),(∀b,o=some b->b<u9/\h.nx<=b)->((∀u n0 x,dw w0.hp w0.Z u n0 x->dw p0 w0.Z u n0 x)->gB ⟨p0,w0.Z,w0.mb,w0.ib,w0.st,w0.nx,w0.lo⟩ o u z0)->ge o z0.length v'->∃v u0 s v0 E',(∃k0,∀k,k0<=k->call cy.cx (run cy.cx k) f [i9] h=some (v,u0))/\da v0 u0 E'/\Gr S h E v0 u0 E'/\v0.dE=S.dE/\u0.dE=h.dE/\V E' s v/\K s v0=some r:=by
           intro o ho hR c9;have:=nj (st1:=o0.st) (hp':=p0) (nx':=u9) (o:=o) (e:= .row u (aM [] z0)) g9 (λ_ _ h=>h) (λj r0 y0=>absurd y0 r0) (λb p=> .inl (r9 b p)) s9 q9 (λb p=>⟨(ho b p).1,.inl (ho b p).2⟩) λC _=>⟨hbig,by rw[lx];exact hR C⟩;refine⟨v',_,_,_,_,h0,this.1,C.trans this.2,i0,rfl,ij.2 ⟨bf _,BF c9,λw h9 z=>?_,λt k z n9=>?_⟩,g0⟩;.have z:(o0.st.set o0.nx (.row u (aM [] z0))).ap o0.nx=some (.row w h9):=z;rw[Tr.a8]at z;cases z;rw[lx];exact c9
           .have z:(o0.st.set o0.nx (.row u (aM [] z0))).ap o0.nx=some t:=z;rw[Tr.a8]at z;cases z;cases n9
          rcases j0 with⟨rfl,c0⟩|⟨b,l0,rfl,r0,y0,q3,q4,q5,j9⟩;.exact e9 none (λb p=>by cases p) (λ_=>eR.1 c0) ⟨c0,.inl rfl⟩
          .
           rw[z]at q5 j9;refine e9 (some b) (λc q0=>by cases q0;exact⟨y0,r0⟩) (λC=>⟨l0,q3,q4,q5,?_,λi x hxi=>?_⟩) rfl
           .
            by_cases c0:z0.length*u.size=0;.omega
            .have q6':=j9;rw[fy]at q6';have:=(q6'.2 (z0.length*u.size-1) (by omega)).1;omega
           .obtain⟨c1,c2,c3,w1,w2,w3,w4⟩:=lf (z:=u.size) (λ_ _ h=>h.len) d9 hxi;have:=eL j9 w1 w2 w3;rw[br]at this;exact⟨c2,this,C _ _ _ w4⟩
         .cases d
        .cases d
       .cases d
      .cases d
     .cases d
    .cases d
   .cases d
  .cases d
 .
  split at d
  .
   rename_i c q0;split at d
   .
    rename_i x x0;split at d
    .
     rename_i y9;obtain⟨y,e0,g0⟩:=iv d;clear d;have hent:∀m e,E.st.ap m=some e->oj E m e:=λm e s0=>M.gm m e (by rw[<-M.st];exact s0);have m0:fI h.hp E.Z c.a t9 x:=by rw[<-M.hp];exact lN (E:=E) (Q:=E.Z) (k:=3) (λ_ p=>p) hent (by rw[M.st];exact x0) B (kR (E:=E) (Q:=E.Z) (by rw[M.st];exact y9) λm' e' b' hm' he' hb'=>by cases hm')
     obtain⟨l,p0,u9,d0,h0,s9,r9,q9,j0,b5⟩:=k9.2.2 rfl c q0 h E.Z t9 x y M.fr (λb p=>(M.lk b p).1) M.z m0 e0
     have:=uR (st1:=S.st) (hp':=p0) (nx':=u9) (o:=none) (q:=zq d0) (e:= .zn true true) M (λ_ _ h=>h) (λj r0 y0=>absurd y0 r0) (λb p=> .inl (r9 b p)) s9 q9 (λh=>by cases h) (λb p=>by
      rcases p with p|⟨k,p⟩;.cases p
      .obtain⟨rfl,g⟩:=pO.1 p;exact⟨(j0 k g).2.1,.inl (j0 k g).1⟩) λ_ _=>⟨by show(bif Nat.beq S.nx S.nx then none else E.mb S.nx)=none;rw[show Nat.beq S.nx S.nx=true by simp];rfl,λb p _=>by obtain⟨i,p⟩:=p;have p:(bif Nat.beq S.nx S.nx then zq d0 i else E.ib S.nx i)=some b:=p;rw[show Nat.beq S.nx S.nx=true by simp]at p;exact(j0 b (pO.1 p).2).2.2⟩
     refine⟨one l,_,_,_,_,h0,this.1,this.2,rfl,rfl,vn ?_,g0⟩;refine sO (E:=tK E p0 S.nx none (zq d0) (S.st.set S.nx (.zn true true))) (w:=true) (bf _) (Tr.a8 _ _ _) (λb p=>⟨b,?_⟩) b5;show(bif Nat.beq S.nx S.nx then zq d0 b else E.ib S.nx b)=some b;rw[show Nat.beq S.nx S.nx=true by simp];exact pO.2 ⟨rfl,p⟩
    .cases d
   .cases d
  .cases d
 .cases d
theorem OJ{n:tl}(u:qr cy n){f:FuncId}{b:Code}{hh:List Hi}{S:SS}{h:St}{K:SS->Option R}(g:QG cy n f b hh S K=some r)(M:da S h E)(j:dN S h E)(u0:S.kp=[]):∃e h1 S2 c,(∃k0,∀k,k0<=k->run cy.cx k b h=some (e,h1))/\(∀a,e≠.exit a)/\da S2 h1 c/\dN S2 h1 c/\Gr S h E S2 h1 c/\K S2=some r:=by
 unfold QG at g;rw[aH]at g;split at g
 .
  rename_i s;obtain⟨d,t,l⟩:=iv g;split at l
  .
   rename_i S2 q;have o:da (S.km S.nx hh (kH S hh) S.kp) h E:=M.re rfl rfl rfl rfl rfl rfl;obtain⟨e,h1,p,v0,v,w,x,y,z,i⟩:=u _ _ _ _ _ _ _ t h E o ⟨j.nt,j.v⟩;have m:∀a,e≠.exit a:=by rintro a rfl;cases i
   have i:jp S p hh [] []=some d:=by cases e with
    |exit a=>exact absurd rfl (m a)
    |cS=>exact i
    |ret=>exact i
   obtain⟨c,A,B,C,t0,D,z0,y0,x0,w0⟩:=yV M j w x y z i q;exact⟨e,h1,S2,c,v,m,A,B,AL s C rfl rfl D z0 y0 x0 w0,l⟩
  .cases l
 .cases g
theorem Lu(z9:∀f c,cy.ct.ap f=some c->sA cy.cx f c)(hsp:∀f q,cy.sp.ap f=some q->nE cy.cx cy.ct f q){r9:tl}(v9:qr cy r9){f:FuncId}{args:List SV}{i:List HV}(a:Lv cy r9 f args S K=some r)(M:da S h E)(t:Vs E args i):∃v n s j E',(∃k0,∀k,k0<=k->call cy.cx (run cy.cx k) f i h=some (v,n))/\da j n E'/\Gr S h E j n E'/\j.dE=S.dE/\n.dE=h.dE/\V E' s v/\K s j=some r:=by
 unfold Lv at a;split at a
 .
  rename_i q r0;rw[aH]at a;split at a
  .
   rename_i v0;have v0:=au v0;subst v0;split at a;.unfold Vs at t;subst t;exact⟨.bool true,h,.bool true true,S,E,⟨0,λk _=>by unfold call;rw[r0];rfl⟩,M,Gr.refl,rfl,rfl,iV.2 rfl,a⟩
   .cases a
  .cases a
 .
  rename_i r0;split at a;.rename_i q v0;exact Ku (hsp f q v0) a M t
  split at a
  .
   rename_i c b0;split at a
   .
    rename_i x t9;split at a
    .
     rename_i m9 d0;split at a
     .
      rename_i D c9;obtain⟨y,s9,p⟩:=iv a;clear a;obtain⟨g,B,w,g0,e2,f0,e4,e5,e6⟩:=ny M c9;have hE1:g.hp=E.hp:=by rw[B.hp,M.hp]
      have y9:∀m e,E.st.ap m=some e->oj E m e:=λm e w0=>M.gm m e (by rw[<-M.st];exact w0)
      obtain⟨l,o,z,z0,a0,k9,j9,i9,h9,g9,f9⟩:∃l o z z0,(∃k0,∀k,k0<=k->call cy.cx (run cy.cx k) f i h=some (one l,⟨h.nt,h.dE,o,z,h.lk,h.df⟩))/\h.nx<=z/\(∀b,b<h.nx->o.ap b=h.hp.ap b)/\(∀b,z<=b->o.ap b=none)/\(∀b,g.Z b->z0 b)/\(∀b,z0 b->g.Z b\/h.nx<=b/\b<z/\ra o b)/\fI o z0 c.r l y:=by
       cases x9:c.r.fO with
        |true=>
        have p0:fI h.hp (λb=>E.Z b\/Ow S E b) c.a i x:=by rw[<-M.hp];exact lN (E:=E) (Q:=λb=>E.Z b\/Ow S E b) (k:=3) (λb d=> .inl d) y9 (by rw[M.st];exact t9) t (uG (λm e b w0 d=> .inr ⟨m,e,by rw[<-M.st];exact w0,d⟩) (by rw[M.st];exact d0))
        obtain⟨l,o,z,z0,A,u0,t0,q4,q5,q6,q7⟩:=z9 f c b0 h _ i x y M.fr (λb d=>(M.lk b d).1) (λb d=>by
         rcases d with d|⟨m,e,w0,d⟩;.exact M.z b d
         .exact(M.own m e b w0 d).2) p0 s9
        exact⟨l,o,z,g.Z,A,u0,t0,q4,λb d=>d,λb d=> .inl d,q7.fO x9⟩
        |false=>
        rw[x9]at f0;have p0:fI h.hp g.Z c.a i x:=by rw[<-M.hp];exact lN (E:=E) (Q:=g.Z) (k:=3) w.z y9 (by rw[M.st];exact t9) t (kR (E:=E) (Q:=g.Z) (by rw[M.st];exact d0) λm' e9 l9 hm' a9 b9=>f0 m' e9 l9 (fq.2 hm') (by rw[<-M.st];exact a9) b9)
        exact z9 f c b0 h _ i x y M.fr (λb d=>(M.lk b d).1) B.z p0 s9
      obtain⟨C,y0⟩:=OW B j9 k9 i9 h9 g9;have c0:=vn (qK (E:=⟨o,z0,g.mb,g.ib,g.st,g.nx,g.lo⟩) f9);rw[aH]at p;split at p;.obtain⟨E3,i0,e0,d9⟩:=qL (L:=m9) C;exact⟨one l,_,_,_,_,a0,i0,(w.trans y0).trans e0,d9.trans g0,rfl,c0.gr e0 C i0,p⟩
      .exact⟨one l,_,_,_,_,a0,C,w.trans y0,g0,rfl,c0,p⟩
     .cases a
    .cases a
   .cases a
  .
   split at a
   .
    rename_i s0 w9;split at a
    .
     rename_i b d;rw[aH]at a;split at a
     .
      rename_i hle;have u9:Nat.ble i.length s0.ntmps=true:=by rw[vJ t];exact hle
      split at a
      .
       rename_i hrj;obtain⟨e,x0,D,g,⟨k0,l0⟩,B,o9,w,_,p⟩:=v9 _ _ _ _ _ _ _ a ⟨s0.ntmps,lr 0 i .e,h.hp,h.nx,h.lk,.undef⟩ E (M.re rfl rfl rfl rfl rfl rfl) (sv t)
       have q9:∀(q0:∀u,e≠.exit u),qI cy D s0.results.toList (λl=>K (zU l) (S.mem D.st D.nx))=some r->∃v n s j E',(∃k0,∀k,k0<=k->call cy.cx (run cy.cx k) f i h=some (v,n))/\da j n E'/\Gr S h E j n E'/\j.dE=S.dE/\n.dE=h.dE/\V E' s v/\K s j=some r:=by
        intro q0 m0;obtain⟨l,j0,A,u0,t0⟩:=oq B o9 m0;refine⟨one j0,⟨h.nt,h.dE,x0.hp,x0.nx,h.lk,h.df⟩,zU l,S.mem D.st D.nx,g,⟨k0,λk n0=>?_⟩,?_,?_,rfl,rfl,vn u0,t0⟩
        .unfold call;rw[r0,w9];simp only;rw[d];simp only;rw[u9,l0 k n0];cases e with
         |exit u=>exact absurd rfl (q0 u)
         |cS=>simp only[fR];rw[A]
         |ret=>simp only[fR];rw[A]
        .exact B.re rfl rfl w.Ha.symm rfl rfl w.lk.symm
        .exact w.re rfl rfl (λ_ _ h=>h) rfl rfl (λ_ h=>h) rfl rfl rfl rfl rfl rfl rfl rfl rfl rfl rfl rfl
       cases e with
        |exit u=>cases p
        |cS=>exact q9 (λu o0=>by cases o0) p
        |ret=>exact q9 (λu o0=>by cases o0) p
      .
       rename_i hh hrj;obtain⟨e,x0,h0,p9,⟨k0,l0⟩,q0,C,n9,y0,m0⟩:=OJ v9 a (h:=⟨s0.ntmps,lr 0 i .e,h.hp,h.nx,h.lk,.undef⟩) (M.re rfl rfl rfl rfl rfl rfl) (sv t) rfl;obtain⟨l,j0,A,u0,t0⟩:=oq C n9 m0;refine⟨one j0,⟨h.nt,h.dE,x0.hp,x0.nx,h.lk,h.df⟩,zU l,S.mem h0.st h0.nx,p9,⟨k0,λk n0=>?_⟩,?_,?_,rfl,rfl,vn u0,t0⟩
       .unfold call;rw[r0,w9];simp only;rw[d];simp only;rw[u9,l0 k n0];cases e with
        |exit u=>exact absurd rfl (q0 u)
        |cS=>simp only[fR];rw[A]
        |ret=>simp only[fR];rw[A]
       .exact C.re rfl rfl y0.Ha.symm rfl rfl y0.lk.symm
       .exact y0.re rfl rfl (λ_ _ h=>h) rfl rfl (λ_ h=>h) rfl rfl rfl rfl rfl rfl rfl rfl rfl rfl rfl rfl
     .cases a
    .cases a
   .cases a
end
section
variable{α:Type}{Q:List HV->α->Prop}
theorem Fd{z:Nat}(b:∀c x,Q c x->c.length=z):∀{xs:List α}{cs:List HV}(k:Nat),mB Q cs xs->mB Q (cs.take (k*z)) (xs.take k)
 |[],cs,k,h=>by have h:cs=[]:=h;subst h;rw[vb,vb];rfl
 |x::xs,cs,0,_=>by rw[gf,gg,gg];rfl
 |x::xs,cs,k+1,⟨c,d,e,a,f⟩=>by rw[e,List.take_succ_cons];have g:=b _ _ a;refine⟨c,d.take (k*z),?_,a,Fd b k f⟩;rw[show(k+1)*z=c.length+k*z by rw[iG,g];omega,List.take_length_add_append]
theorem nB(xs bT:List α):(d7 xs bT).length=xs.length:=by unfold d7;rw[az,aY,cE];omega
theorem EZ{y:gY}{w:Bool}{z z':Nat}{xs bT:List α}{c:List HV}(b:∀c x,Q c x->c.length=z)(h:∀i x,xs[i]?=some x->∃cs,cu y (i*z) z=some cs/\Q cs x)(n:mB Q c bT)(f:xs.length*z<=y.n)(i:Nat)(x:α)(a:(d7 xs bT)[i]?=some x):∃cs,cu ⟨w,z',y.n,cr y.c 0 (c.take (Nat.min bT.length xs.length*z))⟩ (i*z) z=some cs/\Q cs x:=by
 have q:Nat.min bT.length xs.length<=bT.length:=sB _ _;have r:Nat.min bT.length xs.length<=xs.length:=rh _ _;have z0:Nat.min bT.length xs.length=bT.length\/Nat.min bT.length xs.length=xs.length:=by show min bT.length xs.length=_\/min bT.length xs.length=_;omega
 generalize y0:Nat.min bT.length xs.length=k at*;have g:=Fd b k n;have d:=mP b g;rw[aY (l:=bT),gZ q]at d;have x0:k*z<=y.n:=aU (cq z r) f;have o:=ic (T:=y.c) (w:=w) (z:=z') (n:=y.n) (p:=0) (c:=c.take (k*z)) (by omega);have e:i<xs.length:=by have:=(aj.1 a).1;rw[nB]at this;exact this
 unfold d7 at a;by_cases p:i<k
 .
  have a:(bT.take k)[i]?=some x:=by rw[bJ (by rw[aY];omega),fa,aE e]at a;rw[fa,aE p];exact a
  obtain⟨C,j,D,u,v,A,B⟩:=lf b g a;have:=eL o u v A;rw[br]at this;exact⟨j,this,B⟩
 .
  have s:(bT.take xs.length).length=k:=by rw[aY];omega
  have t:bT.length=k:=by omega
  rw[bB (by omega),s,gz,t,show k+(i-k)=i by omega]at a;obtain⟨cs,l,m⟩:=h i x a;refine⟨cs,nw l (.inr ?_) ?_,m⟩;.rw[d,br];exact cq z (by omega)
  .exact aU (se e) f
end
section
variable{E:En}{S:SS}{h:St}{cy:Cy}{R:Type}{r:R}{K:SV->SS->Option R}
theorem Ee(M:da S h E){st':Tr iK}(hg:∀j,st'.ap j=S.st.ap j):da (S.mem st' S.nx) h ⟨E.hp,E.Z,E.mb,E.ib,st',E.nx,E.lo⟩∧Gr S h E (S.mem st' S.nx) h ⟨E.hp,E.Z,E.mb,E.ib,st',E.nx,E.lo⟩:=by
 have f:Fm E.nx E ⟨E.hp,E.Z,E.mb,E.ib,st',E.nx,E.lo⟩:=⟨rfl,fun j c w _ d=>⟨c,by rw[M.st,←hg];exact d,id,fun _=>rfl,fun _ _=>fK c _⟩,fun _ h=>h,fun _ _=>rfl,ar _,fun _ _=>rfl,fun j u l _ d=>⟨l,by rw[M.st,←hg];exact d,rfl⟩,fun j t k _ d m=>⟨t,by rw[M.st,←hg];exact d,m⟩,fun j g u l _ _ d=>⟨l,by rw[M.st,←hg];exact d,fp.refl,fun _=>rfl⟩⟩;have z:∀j b,Bk ⟨E.hp,E.Z,E.mb,E.ib,st',E.nx,E.lo⟩ j b↔Bk E j b:=fun _ _=>jt;have g:∀j e,st'.ap j=some e→S.st.ap j=some e:=fun j e a=>by rw[←hg];exact a
 refine⟨⟨M.hp,rfl,M.nx,fun j e a=>M.lt j e (g j e a),fun j e a=>(M.gm j e (g j e a)).fm f rfl (fun _=>rfl) fun _ _=>rfl,fun j o e n b p q s v=>M.inj j o e n b (g j e p) (g o n q) s v,fun j e b a i=>M.own j e b (g j e a) i,M.z,M.fr,fun b i=>⟨(M.lk b i).1,fun j e a=>(M.lk b i).2 j e (g j e a)⟩,M.rq,fun j e a=>M.py j e (g j e a),M.zo⟩,⟨rfl,rfl,rfl,rfl,rfl,rfl,rfl,rfl,ar _,ar _,fun _ h=>h,fun _ h=> .inl h,fun _ _ _=>rfl,?_,fun _ _=>rfl,fun j _ _=>hg j,fun j _ x=>(hg j).trans x,fun j e l _ d=>⟨l,g j _ d,rfl⟩,fun b j e _ a i=>⟨e,g j e a,i⟩,fun j t k _ d m=>⟨t,g j _ d,m⟩,fun j y e l _ _ d=>⟨l,g j _ d,fp.refl,fun _=>rfl⟩,fun _ _ _ _=>rfl,rfl,fun j c w _ d=>⟨c,g j _ d,id,fun _=>rfl,fun _ _=>fK c _⟩⟩⟩;rintro b⟨j,e,a,i⟩;exact .inl ⟨j,e,g j e a,i⟩
theorem D9{st:Tr iK}{m:Nat}{e:iK}(b:st.ap m=some e)(j:Nat):(st.set m e).ap j=st.ap j:=by
 rw[Tr.dg];split;.rename_i a;rw[a,b]
 .rfl
theorem E6{hp:Tr Hm.Obj}{Z:Nat->Prop}:∀(l:List UInt8),mB (dw hp Z (.int .u8)) (l.map λc=>HV.int .u8 (Int.ofNat c.toNat)) (l.map λc=>Int.ofNat c.toNat)|[]=>rfl|c::l=>⟨[.int .u8 (Int.ofNat c.toNat)],l.map λc=>HV.int .u8 (Int.ofNat c.toNat),rfl,rfl,E6 l⟩
theorem E5{hp:Tr Hm.Obj}{Z:Nat->Prop}:∀{l:List Int}{c:List HV},mB (dw hp Z (.int .u8)) c l->rp l=true->pS c=some (l.map λc=>UInt8.ofNat c.toNat)
 |[],c,h,_=>by have h:c=[]:=h;rw[h];rfl
 |x::l,c,h,a=>by obtain⟨d,e,rfl,b,f⟩:=h;have b:d=[.int .u8 x]:=b;subst b;unfold rp at a;rw[cT,ae]at a;have:=E5 f a.2;obtain⟨n,rfl⟩:∃n:Nat,x=Int.ofNat n:=⟨x.toNat,(eN (bA a.1)).symm⟩;show(match pS e with|some l=>some (UInt8.ofNat n::l)|none=>none)=_;rw[this];rfl
theorem DL(M:da S h E){a b:Nat}{s:SV}{v:HV}{K:SV->Option R}(d:zg cy S a b s K=some r)(j:V E s v):Pu E h K r (gx cy.cx h a b v):=by
 unfold zg at d;split at d
 .
  rename_i x y o p;split at d
  .
   rename_i k l r0 n i;rw[dT]at j;subst j;refine⟨_,.int k (gj k n),?_,?_,d⟩;.unfold gx;rw[o,p];simp only;rw[i]
   .
    cases l;.exact dT.2 rfl
    .exact dT.2 rfl
  .rename_i b i;rw[qn]at j;subst j;refine⟨_,.dH b,?_,qn.2 rfl,d⟩;unfold gx;rw[o,p];simp only;rw[i]
  .
   rename_i i _;rw[aH]at d;split at d
   .
    rename_i f;rw[ae]at f;obtain⟨f,s0⟩:=f;split at d
    .
     rename_i u0 z;split at d
     .
      rename_i v0 w0;obtain⟨A,d⟩:=eC d;obtain⟨c,g,u,t⟩:=xj M (u:= .int .u8) j w0 z M Gr.refl (λm e b D=>by cases D);refine⟨_,.dH (D7 v0),?_,qn.2 rfl,d⟩
      have C:cellsOf h 1 v=some c:=by
       unfold jg at g;split at g;.exact absurd rfl (t _)
       .
        split at g;.rename_i l k w t0;cases g;exact w
        .cases g
      unfold ZU at f;rw[o]at f;simp only at f;split at f
      .
       rename_i e x0;split at f
       .
        rename_i q z0;split at f
        .
         rename_i y0;have B:=E5 u A;unfold gx;rw[o,p];simp only;rw[i];cases v;case dH s=>exact absurd rfl (t s)
         all_goals(simp only;rw[x0];simp only;rw[z0];simp only;rw[y0];simp only;rw[C];simp only;rw[B];rfl)
        .cases f
       .cases f
      .cases f
     .cases d
    .cases d
   .cases d
  .cases d
 .cases d
theorem OC(M:da S h E){u:U}{y:Nat}{x:SV}{g:HV}{bT:List (D u)}(a:Qv cy S u y x=some bT)(k:V E x g):oy cy.cx y g=true/\∃c,jg h u.size g=some (c,bT.length)/\mB (dw E.hp E.Z u) c bT/\∀(m:Nat)(o:Option R),xg x (ak bT) (Int.ofNat m) o=some r->rT g bT.length m=true/\o=some r:=by
 unfold Qv at a;split at a
 .
  rename_i b;rw[aH]at a;split at a
  .
   rename_i y0;obtain⟨z,i⟩:=eo a;cases z;have i:tg b=bT:=i;subst i;rw[qn]at k;subst k;obtain⟨w,A,n⟩:=oz y0;have C:(tg b).length=b.size:=by unfold tg;rw[cZ];rfl
   refine⟨?_,b.data.toList.map λc=>HV.int .u8 (Int.ofNat c.toNat),?_,E6 _,λm o d=>?_⟩;.unfold oy;rw[A];simp only;cases w0:w.sh<;>rw[w0]at n<;>first|rfl|cases n
   .rw[C];rfl
   .have d:aA (cL (ak (tg b)) (Int.ofNat m)) o=some r:=d;obtain⟨f,j⟩:=eC d;refine⟨?_,j⟩;have f:Int.ofNat (tg b).length<=Int.ofNat m:=bA f;show Nat.ble (tg b).length m=true;rw[bS];exact lm.1 f
  .cases a
 .cases a
 .
  rename_i z0 u0;rw[aH]at a;split at a
  .
   rename_i t;simp only[ae]at t;obtain⟨x0,B,p⟩:=t
   cases q:lL S.st [x]with
    |none=>rw[q]at p;cases p
    |some v0=>
    obtain⟨c,f,j,l⟩:=xj M k a q M Gr.refl (λm e b v=>by rw[B]at v;cases v);refine⟨uu x0 l,c,f,j,λm o d=>⟨?_,?_⟩⟩
    .
     unfold rT;split;.rename_i s;exact absurd rfl (l s)
     .rfl
    .
     unfold xg at d;split at d;.exact absurd rfl (z0 _)
     .exact d
  .cases a
theorem Li(M:da S h E){t t2:Nat}{a x:SV}{va vx:HV}(hk:Lj cy S t t2 a x K=some r)(ha:V E a va)(hx:V E x vx):Mv S h E K r (s7 cy.cx h t t2 va vx):=by
 unfold Lj at hk;split at hk
 .
  rename_i y u hy hu;have hz:=pK hy hu;split at hk
  .
   rename_i bT hnew;obtain⟨hsrc,c,hsc,hRd,hstr⟩:=OC (R:=R) (r:=r) M hnew hx;have hcl:=mP (z:=u.size) (λ_ _ h=>h.len) hRd
   have base:∀m,lenOf va=some m->rT vx bT.length m=true->s7 cy.cx h t t2 va vx=match(generalizing:=false)va with
    | .dH _=>none
    | .sl b o _=>match h.fD b o (c.take (Nat.mul (Nat.min bT.length m) u.size))with|some s'=>some (.val (.int .i64 (Int.ofNat (Nat.min bT.length m))) s')|none=>none
    | .jz b o _=>match h.fD b o (c.take (Nat.mul (Nat.min bT.length m) u.size))with|some s'=>some (.val (.int .i64 (Int.ofNat (Nat.min bT.length m))) s')|none=>none
    |_=>some (.val (.int .i64 0) h):=by intro m h1 h2;unfold s7;rw[hy];simp only;rw[hsrc,hz,hsc,h1];simp only;rw[h2];rfl
   have IJ:∀m,m<=140737488355328->(c.take (Nat.min bT.length m*u.size)).length=Nat.min bT.length m*u.size:=by intro m _;rw[aY,hcl];have:Nat.min bT.length m*u.size<=bT.length*u.size:=cq _ (sB _ _);omega
   split at hk
   .
    rename_i m;split at hk
    .
     rename_i e xs hm;split at hk
     .
      rename_i ys hys;rw[aH]at hk;split at hk
      .
       rename_i hcond;simp only[ae]at hcond;obtain⟨hcan,hlk⟩:=gy hcond.1;obtain⟨e0,e1⟩:=eo hys;cases e0;have e1:xs=ys:=e1;subst e1;rw[ij]at ha;have hrv:=ha.2.2.1 _ xs (by rw[M.st];exact hm);obtain⟨hl,hr⟩:=M.gm m _ hm;obtain⟨hfit,hk2⟩:=hstr xs.length _ hk;have hb:=base xs.length (oo hrv) hfit;rw[hb];unfold ge at hrv;unfold gB at hr
       cases hmb:E.mb m with
        |none=>
        rw[hmb]at hr hrv;have hr:xs=[]:=hr;subst hr;have hcp:d7 ([]:List (D u)) bT=[]:=by unfold d7;simp
        rw[hcp]at hk2;obtain⟨q1,q2⟩:=Ee M (st':=S.st.set m (.row u ([]:List (D u)))) (D9 hm);have hmin:FP ([]:List (D u)) bT=0:=by show Int.ofNat (min bT.length 0)=0;rw[Nat.min_zero];rfl
        rw[hmin]at hk2;refine⟨_,.int .i64 0,_,_,_,?_,q1,q2,rfl,rfl,dT.2 rfl,hk2⟩;rcases hrv.2 with rfl|rfl<;>rfl
        |some b=>
        rw[hmb]at hr hrv;subst hrv;obtain⟨y',p1,p2,p3,p4,p5⟩:=hr;have p1':h.hp.ap b=some (.cn y'):=by rw[<-M.hp];exact p1
        have htl:=IJ xs.length hl;have hle:Nat.min bT.length xs.length*u.size<=xs.length*u.size:=cq _ (rh _ _);have hw:=jE (o:=0) (c:=c.take (Nat.min bT.length xs.length*u.size)) p1' p2 (mc M hm (.inl hmb) hlk) (by rw[htl];omega);have:=rL (b:=b) (e:= .row u (d7 xs bT)) (hp':=h.hp.set b (.cn ⟨true,y'.z,y'.n,cr y'.c 0 (c.take (Nat.min bT.length xs.length*u.size))⟩)) M hm hcan (.inl hmb) (λc hc=>Tr.bW _ _ hc) (λu' xs' he=>by cases he;exact⟨xs,rfl,(nB xs bT).symm⟩) (λg u' xs' he=>by cases he) rfl λk1 _=>⟨by rw[nB];exact hl,by show gB _ (E.mb m) u (d7 xs bT);rw[hmb];refine⟨_,Tr.a8 _ _ _,rfl,p3,by rw[nB];exact p4,λi x hxi=>?_⟩;obtain⟨cs,w1,w2⟩:=EZ (w:=true) (z':=y'.z) (λ_ _ h=>h.len) p5 hRd p4 i x hxi;exact⟨cs,w1,k1 _ _ _ w2⟩⟩;refine⟨_,.int .i64 (Int.ofNat (Nat.min bT.length xs.length)),_,_,_,?_,this.1,this.2,rfl,rfl,dT.2 rfl,hk2⟩;show(match h.fD b 0 (c.take (Nat.min bT.length xs.length*u.size))with|some s'=>_|none=>none)=_;rw[hw]
      .cases hk
     .cases hk
    .cases hk
   .
    rename_i m g j;split at hk
    .
     rename_i g' e xs hm;rw[aH]at hk;split at hk
     .
      rename_i hcond;simp only[ae]at hcond;obtain⟨hg,hcw,hflat⟩:=hcond;have hg:=au hg;subst hg;obtain⟨hcan,hlk⟩:=gy hcw;obtain⟨l,hl0,hk1⟩:=iv hk;clear hk;split at hk1
      .
       rename_i ys hys;split at hk1
       .
        rename_i zs hzs;obtain⟨e0,e1⟩:=eo hys;cases e0;have e1:l=ys:=e1;subst e1;obtain⟨e2,e3⟩:=eo hzs;have e3:d7 l bT=zs:=e3;subst e3;rw[C2]at ha;obtain⟨k,l',rfl,hkl,hrv⟩:=ha.2.2.2 _ xs (by rw[M.st];exact hm);obtain⟨n,hn,hxn⟩:=kv hl0;cases hn;rw[hkl]at hxn;cases hxn;have hkx:=(aj.1 hkl).1;obtain⟨w0,hxl,hR⟩:=M.gm m _ hm;obtain⟨b0,y0,w1,w2,w3,w4,w5,w6,w7,w8,w9⟩:=hR.p hkx;obtain⟨hl,hwv,hr⟩:=w6 k l hkl;obtain⟨hfit,hk2⟩:=hstr l.length _ hk1;have hb:=base l.length (oo hrv) hfit;rw[hb];unfold ge at hrv
        cases hib:E.ib m k with
         |none=>
         rw[hib]at hr hrv;have hr:l=[]:=hr;subst hr;have hcp:d7 ([]:List (D u)) bT=[]:=by unfold d7;simp
         rw[hcp]at hk2;have hset:aI xs (Int.ofNat k) ([]:List (D u))=xs:=by show xs.set k []=xs;obtain⟨hlt,heq⟩:=aj.1 hkl;rw[<-heq];exact tq hlt
         rw[hset]at hk2;obtain⟨q1,q2⟩:=Ee M (st':=S.st.set m (.rows g u xs)) (D9 hm);have hmin:FP ([]:List (D u)) bT=0:=by show Int.ofNat (min bT.length 0)=0;rw[Nat.min_zero];rfl
         rw[hmin]at hk2;refine⟨_,.int .i64 0,_,_,_,?_,q1,q2,rfl,rfl,dT.2 rfl,hk2⟩;rcases hrv.2 with rfl|rfl<;>rfl
         |some b=>
         rw[hib]at hr hrv;subst hrv;obtain⟨y',p1,p2,p3,p4,p5⟩:=hr;have p1':h.hp.ap b=some (.cn y'):=by rw[<-M.hp];exact p1
         have htl:=IJ l.length hl;have hle:Nat.min bT.length l.length*u.size<=l.length*u.size:=cq _ (rh _ _);have hw:=jE (o:=0) (c:=c.take (Nat.min bT.length l.length*u.size)) p1' p2 (mc M hm (.inr ⟨k,hib⟩) hlk) (by rw[htl];omega);have hbb:b0≠b:=by rintro rfl;exact w9 k hib
         have hset:∀i l',(xs.set k (d7 l bT))[i]?=some l'->i=k/\l'=d7 l bT\/i≠k/\xs[i]?=some l':=by
          intro i l' hi;by_cases hik:i=k;.subst hik;rw[bq hkx]at hi;cases hi;exact .inl ⟨rfl,rfl⟩
          .rw[bE λq=>hik q.symm]at hi;exact .inr ⟨hik,hi⟩
         have:=rL (b:=b) (e:= .rows g u (aI xs (Int.ofNat k) (d7 l bT))) (hp':=h.hp.set b (.cn ⟨true,y'.z,y'.n,cr y'.c 0 (c.take (Nat.min bT.length l.length*u.size))⟩)) M hm hcan (.inr ⟨k,hib⟩) (λc hc=>Tr.bW _ _ hc) (λu' xs' he=>by cases he) (λg' u' xs' he=>by
          cases he;refine⟨xs,rfl,by show xs.length=(xs.set k _).length;rw[bC],λi l' hi=>?_⟩;by_cases hik:i=k;.subst hik;rw[hkl]at hi;cases hi;exact⟨d7 l bT,bq hkx,nB l bT⟩
          .exact⟨l',(bE λq=>hik q.symm).trans hi,rfl⟩) (by show some (xs.set k _).length=some xs.length;rw[bC]) λk1 _=>by
          refine⟨w0,by show(xs.set k _).length<=_;rw[bC];exact hxl,.inr ⟨b0,y0,w1,?_,w3,w4,by show(xs.set k _).length<=_;rw[bC];exact w5,λi l' hi=>?_,λi hi=>w7 i (by have hi:(xs.set k _).length<=i:=hi;rw[bC]at hi;exact hi),w8,w9⟩⟩;.show(h.hp.set b _).ap b0=_;rw[Tr.bW _ _ hbb,<-M.hp];exact w2
          .
           rcases hset i l' hi with⟨rfl,rfl⟩|⟨hik,hi⟩;.refine⟨by rw[nB];exact hl,by rw[nB];exact hwv,?_⟩;show gB _ (E.ib m i) u (d7 l bT);rw[hib];refine⟨_,Tr.a8 _ _ _,rfl,p3,by rw[nB];exact p4,λi x hxi=>?_⟩;obtain⟨cs,v1,v2⟩:=EZ (w:=true) (z':=y'.z) (λ_ _ h=>h.len) p5 hRd p4 i x hxi;exact⟨cs,v1,k1 _ _ _ v2⟩
           .
            obtain⟨v1,v2,v3⟩:=w6 i l' hi;refine⟨v1,v2,?_⟩;show gB _ (E.ib m i) u l';unfold gB at v3⊢
            cases hic:E.ib m i with
             |none=>rw[hic]at v3;exact v3
             |some b2=>
             rw[hic]at v3;obtain⟨y2,z1,z2,z3,z4,z5⟩:=v3;refine⟨y2,?_,z2,z3,z4,λi x hxi=>?_⟩;.show(h.hp.set b _).ap b2=_;rw[Tr.bW _ _ (by rintro rfl;exact hik (w8 _ _ _ hic hib)),<-M.hp];exact z1
             .obtain⟨cs,v1,v2⟩:=z5 i x hxi;exact⟨cs,v1,k1 _ _ _ v2⟩
         refine⟨_,.int .i64 (Int.ofNat (Nat.min bT.length l.length)),_,_,_,?_,this.1,this.2,rfl,rfl,dT.2 rfl,hk2⟩;show(match h.fD b 0 (c.take (Nat.min bT.length l.length*u.size))with|some s'=>_|none=>none)=_;rw[hw]
       .cases hk1
      .cases hk1
     .cases hk
    .cases hk
   .obtain⟨hfit,hk2⟩:=hstr 0 _ hk;rw[lF]at ha;subst ha;rw[base 0 rfl hfit];exact⟨_,.int .i64 0,h,S,E,rfl,M,Gr.refl,rfl,rfl,dT.2 rfl,hk2⟩
   .cases hk
  .cases hk
 .cases hk
theorem Ie(M:da S h E){K:SV->Option R}{s:SV}{v:HV}(a:GC S s K=some r)(d:V E s v):∃w n,K w=some r/\V E w (.int .i64 (Int.ofNat n))/\(∀m g j,s= .sub m g j->lenOf v=some n/\(v= .cK\/v= .gO\/∃b o l,v= .sl b o l))/\∀m,s= .map m->∃b p,v= .map b/\h.hp.ap b=some (.map p)/\p.length=n:=by
 unfold GC at a;split at a
 .
  rename_i m g j;split at a
  .
   rename_i x0 e z0 i;rw[aH]at a;split at a
   .
    rename_i f;have f:=au f;subst f;obtain⟨l,B,z⟩:=iv a;rw[C2]at d;obtain⟨k,w0,rfl,A,c⟩:=d.2.2.2 _ z0 (by rw[M.st];exact i);obtain⟨n,C,u⟩:=kv B;cases C;rw[A]at u;cases u;refine⟨_,l.length,z,dT.2 rfl,λ_ _ _ _=>⟨oo c,?_⟩,λm h=>by cases h⟩;unfold ge at c
    cases t:E.ib m k with
     |none=>
     rw[t]at c;rcases c.2 with h|h;.exact .inl h
     .exact .inr (.inl h)
     |some b=>rw[t]at c;exact .inr (.inr ⟨_,_,_,c⟩)
   .cases a
  .cases a
 .
  rename_i m;split at a;.rename_i D i;rw[C3]at d;obtain⟨_,b,y,rfl⟩:=d;obtain⟨y0,q,x⟩:=M.gm m _ i;rw[y]at q;cases q;refine⟨_,D.length,a,dT.2 rfl,λm g j h=>(by cases h),λ_ _=>⟨b,_,rfl,by rw[<-M.hp];exact x,?_⟩⟩;unfold B6;rw[cZ]
  .cases a
 .cases a
theorem EI(k:Int):∀(c:List (Int×Bool×Unit)),qO .i64 k (B6 c)=some (bif B5 c k then some (.bool (sf c k))else none)/\(B5 c k=false->sf c k=false)
 |[]=>⟨rfl,λ_=>rfl⟩
 |(a,b,u)::r=>by
  obtain⟨f,g⟩:=EI k r;have e:B6 ((a,b,u)::r)=(.int .i64 a,.bool b)::B6 r:=rfl;rw[e];unfold qO B5 sf;by_cases d:k=a;.simp[d]
  .simp[d];exact⟨f,g⟩
theorem Ec(k:Int)(v:Bool):∀(d:List (Int×Bool×Unit)),vl .i64 k (.bool v) (B6 d)=some (B6 (nL d k v))
 |[]=>rfl
 |(a,b,u)::r=>by
  have f:=Ec k v r;have e:B6 ((a,b,u)::r)=(.int .i64 a,.bool b)::B6 r:=rfl;rw[e];unfold vl nL;by_cases c:k=a;.simp[c];rfl
  .simp[c];rw[f];rfl
theorem Ey{m:SV}{K:List (Int×Bool×Unit)->Nat->Option R}(a:ML S m K=some r)(M:da S h E){v:HV}(g:V E m v):∃n c b,m= .map n/\S.st.ap n=some (.map c)/\E.mb n=some b/\v= .map b/\h.hp.ap b=some (.map (B6 c))/\K c n=some r:=by
 unfold ML at a;split at a
 .
  rename_i n;split at a;.rename_i c f;rw[C3]at g;obtain⟨_,b,e,rfl⟩:=g;obtain⟨j,d,i⟩:=M.gm n _ f;rw[e]at d;cases d;exact⟨n,c,b,rfl,f,e,rfl,by rw[<-M.hp];exact i,a⟩
  .cases a
 .cases a
theorem Gy(M:da S h E){K:SV->Option R}{t:Nat}{m i:SV}{ok:Bool}{g f:HV}(a:B8 cy S t m i ok K=some r)(v:V E m g)(hi:V E i f):Pu E h K r (oC cy.cx h t g f ok):=by
 unfold B8 at a;split at a
 .
  rename_i e l k s;rw[aH]at a;split at a
  .
   rename_i d;rw[ae]at d;obtain⟨n,c,b,rfl,y,z,rfl,p,q⟩:=Ey a M v;rw[dT]at hi;subst hi
   have w:cy.cx.xb e=some (.bool false):=by
    have:=d.2;unfold P9 at this;split at this;.assumption
    .cases this
   obtain⟨j,o⟩:=EI k c
   have x:oC cy.cx h t (.map b) (.int .i64 k) ok=some (.val (bif ok then .nf [.bool (sf c k),.bool (B5 c k)]else .bool (sf c k)) h):=by unfold oC;rw[s];simp only[wO];rw[p];simp only;rw[j];cases u:B5 c k with
    |true=>rfl
    |false=>simp only[kM];rw[w,o u]
   refine⟨_,_,x,?_,q⟩
   cases ok with
    |true=>exact C1.2 ⟨_,rfl,by unfold Vs;exact⟨_,_,rfl,iV.2 rfl,by unfold Vs;exact⟨_,_,rfl,iV.2 rfl,by unfold Vs;rfl⟩⟩⟩
    |false=>exact iV.2 rfl
  .cases a
 .cases a
theorem FI(M:da S h E){K:SS->Option R}{t:Nat}{m i w:SV}{vm vi vw:HV}(hk:A9 cy S t m i w K=some r)(hm:V E m vm)(hi:V E i vi)(hw:V E w vw):Ma S h E K r (pL cy.cx h t vm vi vw):=by
 unfold A9 at hk;split at hk
 .
  rename_i e l k l2 b he;obtain⟨n,kvs,c,rfl,h1,h2,rfl,h4,h5⟩:=Ey hk M hm;rw[dT]at hi;subst hi;rw[iV]at hw;subst hw;rw[aH]at h5;split at h5;.rename_i hcw;obtain⟨hcan,hlk⟩:=gy hcw;have hf:=mc M h1 (.inl h2) hlk;have:=rL (b:=c) (e:= .map (nL kvs k b)) (hp':=h.hp.set c (.map (B6 (nL kvs k b)))) M h1 hcan (.inl h2) (λc hc=>Tr.bW _ _ hc) (λu xs he=>by cases he) (λg u xs he=>by cases he) rfl λ_ _=>⟨c,h2,Tr.a8 _ _ _⟩;refine⟨_,_,_,?_,this.1,this.2,rfl,rfl,h5⟩;unfold pL;rw[he];simp only;unfold St.gV;rw[hf,h4];simp only[lh,fR];rw[Ec]
  .cases h5
 .cases hk
theorem Gw(M:da S h E)(e:K (.map S.nx) (S.bT (.map []))=some r):Mv S h E K r (CH h):=by have:=nj (st1:=S.st) (hp':=h.hp.set h.nx (.map [])) (nx':=h.nx+1) (o:=some h.nx) (e:= .map []) M (λ_ _ h=>h) (λj c d=>absurd d c) (λb a=> .inl (pF b a)) (dz _) (λb a=>vy M b a) (λb a=>by cases a;exact⟨bf _,.inl (ar _)⟩) λ_ _=>⟨h.nx,lx,Tr.a8 _ _ _⟩;exact⟨_,.map h.nx,_,_,_,rfl,this.1,this.2,rfl,rfl,C3.2 ⟨bf _,h.nx,lx,rfl⟩,e⟩
end
def Zb(cx:Cx)(h:St)(o:Op)(v:HV)(a:St):Prop:=∃c,∀k,c<=k->lD cx h o=some (.val v a)\/lD cx h o=some (.G6 a)/\v= .undef\/∃f b,lD cx h o=some (.call f b)/\call cx (run cx k) f b h=some (v,a)
def Zd(cy:Cy)(S:SS)(h:St)(E:En){R:Type}(K:SV->SS->Option R)(r:R)(o:Op):Prop:=∃s v b a c,Zb cy.cx h o v b/\da a b c/\Gr S h E a b c/\a.dE=S.dE/\b.dE=h.dE/\V c s v/\K s a=some r
section
variable{E:En}{S:SS}{h:St}{cy:Cy}{R:Type}{r:R}{K:SV->SS->Option R}
theorem fo{k:HV->Option Rs}{x:Operand}{v:HV}(g:h.ev x=some v):fQ h k x=k v:=by unfold fQ;rw[g]
theorem d6{S:SS}{x:Operand}{K:SV->Option R}(a:jP S x K=some r):∃s,S.ev x=some s/\K s=some r:=by
 unfold jP at a;split at a;.exact⟨_,by assumption,a⟩
 .cases a
theorem Mv.op{o:Op}{q:Option Rs}(m:Mv S h E K r q)(e:lD cy.cx h o=q):Zd cy S h E K r o:=by obtain⟨s,v,c,b,a,d,f,g,i,j,l,n⟩:=m;exact⟨s,v,c,b,a,⟨0,λk _=> .inl (by rw[e];exact d)⟩,f,g,i,j,l,n⟩
theorem Pu.op(M:da S h E){o:Op}{q:Option Rs}(p:Pu E h (λv=>K v S) r q)(e:lD cy.cx h o=q):Zd cy S h E K r o:=(Pu.mv M p).op e
theorem Vp{a b:List SV}:∀{u v:List HV},Vs E a u->Vs E b v->Vs E (a++b) (u++v):=by induction a with
 |nil=>intro u v c d;unfold Vs at c;subst c;exact d
 |cons s a g=>intro u v c d;unfold Vs at c;obtain⟨w,q,rfl,e,f⟩:=c;show Vs E (s::(a++b)) _;unfold Vs;exact⟨w,q++v,rfl,e,g f d⟩
theorem DP(M:da S h E){b:Builtin}{ts:List Nat}{args:List SV}{y0:List HV}(a:zm cy S b ts args K=some r)(f:Vs E args y0):Mv S h E K r (fz cy.cx h b ts y0):=by
 unfold zm at a;split at a
 .
  unfold Vs at f;obtain⟨v,q,rfl,d,c⟩:=f;unfold Vs at c;subst c;rw[aH]at a;split at a
  .
   rename_i t s k0;rw[aH]at a;split at a
   .
    rename_i x0;obtain⟨x,w0,z0⟩:=oz x0;obtain⟨p0,n,v0,u0,t0,s0⟩:=Ie M a d;refine Pu.mv M ⟨p0,_,?_,u0,v0⟩;unfold fz;simp only;rw[w0];simp only;split at z0
    .
     rename_i e m g j y;obtain⟨z,A⟩:=t0 m g j rfl;rw[y];rcases A with rfl|rfl|⟨b,o,l,rfl⟩;.simp only;rw[z]
     .simp only;rw[z]
     .simp only;rw[z]
    .rename_i n0 m0 m y;obtain⟨b,l0,rfl,A,q0⟩:=s0 m rfl;rw[y];simp only;rw[A,<-q0]
    .cases z0
   .cases a
  .exact Pu.mv M (O4 M a d)
 .unfold Vs at f;obtain⟨v,q,rfl,d,c⟩:=f;unfold Vs at c;obtain⟨o0,r0,rfl,w,i⟩:=c;unfold Vs at i;subst i;exact Li M a d w
 .
  unfold Vs at f;obtain⟨v,q,rfl,d,c⟩:=f;unfold Vs at c;obtain⟨o0,r0,rfl,w,i⟩:=c;unfold Vs at i;subst i
  exact Km M a d w λB k C D=>by
   rw[aH]at k;split at k;.exact K6 B k C D
   .exact G3 B k C D
 .obtain⟨s,d,c⟩:=jG a;obtain⟨v,p,u⟩:=H5 d f;refine Pu.mv M ⟨s,v,?_,u,c⟩;unfold fz;simp only;rw[p]
 .obtain⟨s,d,c⟩:=jG a;obtain⟨v,p,u⟩:=H5 d f;refine Pu.mv M ⟨s,v,?_,u,c⟩;unfold fz;simp only;rw[p]
 .cases a
theorem QM(a0:∀f c,cy.ct.ap f=some c->sA cy.cx f c)(s9:∀f q,cy.sp.ap f=some q->nE cy.cx cy.ct f q){m0:tl}(v9:qr cy m0){o:Op}(e:KO cy m0 S o K=some r)(M:da S h E)(n:dN S h E):Zd cy S h E K r o:=by
 unfold KO at e;split at e;.obtain⟨s,j,i⟩:=d6 e;obtain⟨v,a,d⟩:=bV n j;exact Pu.op M ⟨s,v,rfl,d,i⟩ (by show fQ _ _ _=_;rw[fo a])
 .obtain⟨s,j,i⟩:=d6 e;obtain⟨v,a,d⟩:=bV n j;exact Pu.op M ⟨s,v,rfl,d,i⟩ (by show fQ _ _ _=_;rw[fo a])
 .obtain⟨s,j,i⟩:=d6 e;obtain⟨v,a,d⟩:=bV n j;exact Pu.op M (KE i d (λs o0=>bV n o0) λs o0=>bV n o0) (by show fQ _ _ _=_;rw[fo a])
 .
  split at e;.rename_i l A;exact(I8 M A e).op rfl
  .cases e
 .
  obtain⟨s,j,i⟩:=d6 e;obtain⟨v,a,d⟩:=bV n j;split at i;.rename_i l A;exact(Ps M A d i).op (by show fQ _ _ _=_;rw[fo a])
  .cases i
 .
  split at e;.rename_i l A;obtain⟨q,a,d⟩:=za n A;exact Pu.op M (IY e d) (by show(match hM _ _ with|some l=>_|none=>_)=_;rw[a])
  .cases e
 .
  split at e;.rename_i l A;obtain⟨q,a,d⟩:=za n A;exact(zp M e d).op (by show(match hM _ _ with|some l=>_|none=>_)=_;rw[a])
  .cases e
 .obtain⟨s,j,i⟩:=d6 e;obtain⟨v,a,d⟩:=bV n j;exact Pu.op M (Cb M i d) (by show fQ _ _ _=_;rw[fo a])
 .obtain⟨s,j,i⟩:=d6 e;obtain⟨v,a,d⟩:=bV n j;obtain⟨B,p,u⟩:=d6 i;obtain⟨y0,y,z⟩:=bV n p;obtain⟨v0,w0,x0,C,D,z0,u0,t0,s0⟩:=Hz M u d z;exact⟨.undef,.undef,v0,w0,x0,⟨0,λk _=> .inr (.inl ⟨by show fQ _ _ _=_;rw[fo a,fo y];exact C,rfl⟩)⟩,D,z0,u0,t0,qm.2 rfl,s0⟩
 .obtain⟨s,j,i⟩:=d6 e;obtain⟨v,a,d⟩:=bV n j;obtain⟨B,p,u⟩:=jG i;obtain⟨w,C,D⟩:=OT M p d;exact Pu.op M ⟨B,w,C,D,u⟩ (by show fQ _ _ _=_;rw[fo a])
 .obtain⟨s,j,i⟩:=d6 e;obtain⟨v,a,d⟩:=bV n j;obtain⟨B,p,u⟩:=d6 i;obtain⟨y0,y,z⟩:=bV n p;obtain⟨n9,w,C,D,z0⟩:=Pt u d z;exact Pu.op M ⟨n9,w,rfl,D,z0⟩ (by show fQ _ _ _=_;rw[fo a,fo y,C])
 .obtain⟨s,j,i⟩:=d6 e;obtain⟨v,a,d⟩:=bV n j;obtain⟨B,p,u⟩:=jG i;obtain⟨w,C,D⟩:=Qk (h:=h) p d;exact Pu.op M ⟨B,w,C,D,u⟩ (by show fQ _ _ _=_;rw[fo a])
 .obtain⟨s,j,i⟩:=d6 e;obtain⟨v,a,d⟩:=bV n j;exact Pu.op M (DL M i d) (by show fQ _ _ _=_;rw[fo a])
 .
  rename_i f e0 n0;split at e;.rename_i l z9 A;obtain⟨r0,a,d⟩:=mL n A;exact Pu.op M ⟨_,.fn f r0,rfl,Ny.2 ⟨r0,rfl,d⟩,e⟩ (by show(match e0.toList,h.kg n0.toList with|[],some l=>_|_,_=>_)=_;rw[z9,a])
  .cases e
 .
  split at e;.exact(Gw M e).op rfl
  .cases e
 .obtain⟨s,j,i⟩:=d6 e;obtain⟨v,a,d⟩:=bV n j;obtain⟨B,p,u⟩:=d6 i;obtain⟨y0,y,z⟩:=bV n p;exact Pu.op M (Gy M u d z) (by show fQ _ _ _=_;rw[fo a,fo y])
 .obtain⟨s,j,i⟩:=d6 e;obtain⟨v,a,d⟩:=bV n j;obtain⟨B,p,u⟩:=d6 i;obtain⟨y0,y,z⟩:=bV n p;obtain⟨j9,c0,b0⟩:=d6 u;obtain⟨i9,q0,d0⟩:=bV n c0;obtain⟨v0,w0,x0,C,D,z0,u0,t0,s0⟩:=FI M b0 d z d0;exact⟨.undef,.undef,v0,w0,x0,⟨0,λk _=> .inr (.inl ⟨by show fQ _ _ _=_;rw[fo a,fo y,fo q0];exact C,rfl⟩)⟩,D,z0,u0,t0,qm.2 rfl,s0⟩
 .obtain⟨s,j,i⟩:=d6 e;obtain⟨v,a,d⟩:=bV n j;obtain⟨B,p,u⟩:=d6 i;obtain⟨y0,y,z⟩:=bV n p;exact(AD M u d z).op (by show fQ _ _ _=_;rw[fo a,fo y])
 .
  rename_i t x q9 w9 p9;obtain⟨s,j,i⟩:=d6 e;obtain⟨v,a,d⟩:=bV n j;split at i;.rename_i l y9 m A x9 t9;obtain⟨l9,l0,k0⟩:=zd n A;obtain⟨m9,j0,i0⟩:=zd n x9;obtain⟨k9,h0,g0⟩:=zd n t9;exact(HI M i d k0 i0 g0).op (by show(match h.ev x,n7 h q9,n7 h w9,n7 h p9 with|some v,some l,some y9,some m=>_|_,_,_,_=>_)=_;rw[a,l0,j0,h0])
  .cases i
 .obtain⟨s,j,i⟩:=d6 e;obtain⟨v,a,d⟩:=bV n j;exact Pu.op M (It M i d) (by show fQ _ _ _=_;rw[fo a])
 .obtain⟨s,j,i⟩:=d6 e;obtain⟨v,a,d⟩:=bV n j;obtain⟨B,p,u⟩:=d6 i;obtain⟨y0,y,z⟩:=bV n p;exact Pu.op M (GH M u d z) (by show fQ _ _ _=_;rw[fo a,fo y])
 .obtain⟨s,j,i⟩:=d6 e;obtain⟨v,a,d⟩:=bV n j;obtain⟨B,p,u⟩:=d6 i;obtain⟨y0,y,z⟩:=bV n p;exact Pu.op M (Ik u d z) (by show fQ _ _ _=_;rw[fo a,fo y])
 .obtain⟨s,j,i⟩:=d6 e;obtain⟨v,a,d⟩:=bV n j;obtain⟨B,p,u⟩:=jG i;obtain⟨w,C,D⟩:=DI (h:=h) p d;exact Pu.op M ⟨B,w,C,D,u⟩ (by show fQ _ _ _=_;rw[fo a])
 .
  rename_i c;split at e
  .
   rename_i b p0;split at e;.rename_i l A;obtain⟨r0,a,d⟩:=mL n A;exact(DP M e d).op (by show(match c.callee with| .builtin b=>_| .value f=>_|_=>_)=_;rw[p0];simp only;rw[a])
   .cases e
  .
   rename_i f p0;split at e
   .
    rename_i l A;obtain⟨r0,a,d⟩:=mL n A;obtain⟨s,j,i⟩:=d6 e;obtain⟨v,y,z⟩:=bV n j;split at i;.rename_i g n0;obtain⟨f0,rfl,q0⟩:=Ny.1 z;obtain⟨v,v0,B,w0,x0,⟨r9,C⟩,D,z0,u0,t0,s0,o9⟩:=Lu a0 s9 v9 i M (Vp d q0);refine⟨B,v,v0,w0,x0,⟨r9,λk u9=> .inr (.inr ⟨g,r0++f0,?_,C k u9⟩)⟩,D,z0,u0,t0,s0,o9⟩;show(match c.callee with| .builtin b=>_| .value f=>_|_=>_)=_;rw[p0];simp only;rw[a];simp only;rw[fo y];rfl
    .cases i
   .cases e
  .cases e
 .cases e
def uT(S:SS)(h:St)(E:En){R:Type}(K:SS->Option R)(r:R)(f:Nat->Option St):Prop:=∃b a c,(∃d,∀k,d<=k->f k=some b)/\da a b c/\dN a b c/\Gr S h E a b c/\(∀t,bw t S.kp=true->a.tmp t=S.tmp t)/\K a=some r
theorem HT{S b:SS}{h:St}(M:da S h E)(a:dN S h E){d:Option Nat}{s:SV}{v:HV}(hp:S.put d s=some b)(l:V E s v):da b (h.put d v) E/\dN b (h.put d v) E/\Gr S h E b (h.put d v) E/\∀t,bw t S.kp=true->b.tmp t=S.tmp t:=by
 unfold SS.put at hp;split at hp
 .
  rename_i t;rw[aH]at hp;split at hp
  .
   rename_i f;rw[aH]at hp;split at hp;.cases hp
   .
    rename_i i;cases hp;have e:h.put (some t) v=⟨h.nt,h.dE.set t v,h.hp,h.nx,h.lk,h.df⟩:=by unfold St.put;simp only;rw[<-a.nt,f];rfl
    rw[e];refine⟨M.re rfl rfl rfl rfl rfl rfl,⟨a.nt,λj=>?_⟩,Gr.refl.re rfl rfl (λ_ _ h=>h) rfl rfl (λ_ h=>h) rfl rfl rfl rfl rfl rfl rfl rfl rfl rfl rfl rfl,λj g=>?_⟩
    .
     unfold SS.tmp St.tmp;simp only;rw[Tr.dg,Tr.dg];by_cases c:j=t;.rw[aE c,aE c];exact l
     .rw[aG c,aG c];exact a.v j
    .unfold SS.tmp;simp only;rw[Tr.dg,aG];rintro rfl;exact i g
  .
   rename_i f;cases hp
   have e:h.put (some t) v=h:=by
    unfold St.put;simp only;rw[<-a.nt]
    have:Nat.blt t S.nt=false:=by cases k:Nat.blt t S.nt with
     |false=>rfl
     |true=>exact absurd k f
    rw[this];rfl
   rw[e];exact⟨M,a,Gr.refl,λ_ _=>rfl⟩
 .cases hp;exact⟨M,a,Gr.refl,λ_ _=>rfl⟩
theorem BM{S:SS}{d:Option Nat}{s:SV}{K:SS->Option R}(a:tz S d s K=some r):∃b,S.put d s=some b/\K b=some r:=by
 unfold tz at a;split at a;.exact⟨_,by assumption,a⟩
 .cases a
theorem vh(M:da S h E)(i:dN S h E){K:SS->Option R}{bG:Array Oper}{o:Oper}(j:tz S o.dst .undef K=some r)(l:takes h bG o=some false):uT S h E K r λk=>gQ cy.cx (run cy.cx k) bG h o:=by obtain⟨a,f,g⟩:=BM j;obtain⟨b,c,d,e⟩:=HT M i f (qm.2 rfl);refine⟨h.put o.dst .undef,a,E,⟨0,λk _=>?_⟩,b,c,d,e,g⟩;unfold gQ;rw[l]
theorem AW(z:∀f c,cy.ct.ap f=some c->sA cy.cx f c)(y0:∀f q,cy.sp.ap f=some q->nE cy.cx cy.ct f q){j:tl}(A:qr cy j)(M:da S h E)(i:dN S h E){K:SS->Option R}{bG:Array Oper}{o:Oper}(B:KO cy j S o.op (λv m=>tz m o.dst v K)=some r)(b:takes h bG o=some true):uT S h E K r λk=>gQ cy.cx (run cy.cx k) bG h o:=by
 obtain⟨s,v,w,r0,l,⟨w0,z0⟩,d,a,e,p,x0,C⟩:=QM z y0 A B M i;obtain⟨n,x,y⟩:=BM C;obtain⟨v0,u0,t0,s0⟩:=HT d (i.gr a M d e p) x x0;refine⟨w.put o.dst v,n,l,⟨w0,λk D=>?_⟩,v0,u0,a.trans t0,λt b=>?_,y⟩
 .
  show gQ cy.cx (run cy.cx k) bG h o=_;unfold gQ;rw[b];simp only;rcases z0 k D with g|⟨g,rfl⟩|⟨f,q0,g,u⟩;.rw[g]
  .rw[g]
  .rw[g];simp only;rw[u]
 .rw[s0 t (by rw[a.kp];exact b)];unfold SS.tmp;rw[e]
theorem Ed{S:SS}{h:St}(M:da S h E)(b:dN S h E){g:Nat}{s:SV}(c:V E s (h.tmp g)):da (S.il g s) h E/\dN (S.il g s) h E/\Gr S h E (S.il g s) h E:=by
 refine⟨M.re rfl rfl rfl rfl rfl rfl,⟨b.nt,λj=>?_⟩,Gr.refl.re rfl rfl (λ_ _ h=>h) rfl rfl (λ_ h=>h) rfl rfl rfl rfl rfl rfl rfl rfl rfl rfl rfl rfl⟩;unfold SS.il SS.tmp;simp only;rw[Tr.dg];by_cases a:j=g;.rw[aE a,a];exact c
 .rw[aG a];exact b.v j
theorem uT.il{S:SS}{h:St}{K:SS->Option R}{f:Nat->Option St}{g:Nat}{s:SV}(hg:Gr S h E (S.il g s) h E)(a:bw g S.kp=false)(p:uT (S.il g s) h E K r f):uT S h E K r f:=by obtain⟨e,d,c,i,j,k,l,m,n⟩:=p;refine⟨e,d,c,i,j,k,hg.trans l,λt b=>?_,n⟩;rw[m t b];unfold SS.il SS.tmp;simp only;rw[Tr.dg,aG];rintro rfl;rw[b]at a;cases a
theorem Bl(y:∀f c,cy.ct.ap f=some c->sA cy.cx f c)(B:∀f q,cy.sp.ap f=some q->nE cy.cx cy.ct f q){z0:tl}(z:qr cy z0)(M:da S h E)(l:dN S h E){K:SS->Option R}{bG:Array Oper}{o:Oper}(a:FR cy z0 bG S o K=some r):uT S h E K r λk=>gQ cy.cx (run cy.cx k) bG h o:=by
 unfold FR at a;split at a;.rename_i D;exact AW y B z M l a (by unfold takes;rw[D])
 .
  rename_i j w D;split at a
  .
   rename_i g x0;have d:takes h bG o=match h.tmp g with| .bool b=>some (b==w)| .any=>none|_=>some false:=by unfold takes;rw[D];simp only;rw[x0];rfl
   split at a
   .
    rename_i b v;have i:=l.v g;rw[v,iV]at i;rw[i]at d;simp only at d;rw[aH]at a;split at a;.rename_i C;exact AW y B z M l a (by rw[d,C])
    .rename_i C;exact vh M l a (by rw[d];simpa using C)
   .
    rename_i b v;have i:=l.v g;rw[v,iV]at i;rw[i]at d;simp only at d;rw[aH]at a;split at a;.cases a
    .
     rename_i t;have t:bw g S.kp=false:=by simpa using t
     have A:∀u,b=u->da (S.il g (.bool true u)) h E/\dN (S.il g (.bool true u)) h E/\Gr S h E (S.il g (.bool true u)) h E:=by intro u y0;exact Ed M l (iV.2 (by rw[i,y0]))
     rw[aH]at a;split at a
     .
      rename_i x;rw[x]at d;rcases sn a with⟨e,m⟩|⟨e,m⟩;.obtain⟨n,p,s⟩:=A true e;exact uT.il s t (AW y B z n p m (by rw[d,e];rfl))
      .obtain⟨n,p,s⟩:=A false e;exact uT.il s t (vh n p m (by rw[d,e];rfl))
     .
      rename_i x;have x:w=false:=by simpa using x
      rw[x]at d;rcases sn a with⟨e,m⟩|⟨e,m⟩;.obtain⟨n,p,s⟩:=A true e;exact uT.il s t (vh n p m (by rw[d,e];rfl))
      .obtain⟨n,p,s⟩:=A false e;exact uT.il s t (AW y B z n p m (by rw[d,e];rfl))
   .rename_i v;have i:=l.v g;rw[v,qm]at i;rw[i]at d;exact vh M l a d
   .cases a
  .cases a
theorem Eo(g:∀f c,cy.ct.ap f=some c->sA cy.cx f c)(m:∀f q,cy.sp.ap f=some q->nE cy.cx cy.ct f q){p:tl}(i:qr cy p){bG:Array Oper}:∀{l:List Oper}{S:SS}{h:St}{E:En}{K:SS->Option R},My cy p bG S l K=some r->da S h E->dN S h E->uT S h E K r λk=>jM cy.cx (run cy.cx k) bG h l
 |[],S,h,E,K,a,b,d=>⟨h,S,E,⟨0,λ_ _=>rfl⟩,b,d,Gr.refl,λ_ _=>rfl,a⟩
 |o::l,S,h,E,K,a,b,d=>by unfold My at a;obtain⟨w,q0,r0,⟨y,x0⟩,w0,v0,s,u0,t0⟩:=Bl g m i b d a;obtain⟨x,v,u,⟨z,A⟩,B,C,D,z0,y0⟩:=Eo g m i t0 w0 v0;refine⟨x,v,u,⟨max y z,λk j=>?_⟩,B,C,s.trans D,λt n=>by rw[z0 t (by rw[s.kp];exact n),u0 t n],y0⟩;show(match gQ cy.cx (run cy.cx k) bG h o with|some s0=>jM cy.cx (run cy.cx k) bG s0 l|none=>none)=_;have e:=x0 k (aU (kD _ _) j);have e:gQ cy.cx (run cy.cx k) bG h o=some w:=e;rw[e];exact A k (aU (jT _ _) j)
end
section
variable{E:En}{cy:Cy}{R:Type}{r:R}
def Q9(v:HV)(l:List Nat):Option (List Nat):=match v with| .ptr b _=>some (b::l)| .sl b _ _=>some (b::l)| .jz b _ _=>some (b::l)| .map _=>none|_=>some l
theorem DF{h:St}{a:Operand}{b:List Operand}{l L:List Nat}{v:HV}(h1:ip h b=some l)(h2:h.ev a=some v)(c:Q9 v l=some L):ip h (a::b)=some L:=by unfold ip;rw[h1];simp only;rw[h2];cases v<;>first|exact c|cases c
def wg(S:SS)(h:St)(E:En)(l L:List Nat):Prop:=∀b,bw b L=true->b<h.nx/\∀m e,S.st.ap m=some e->Bk E m b->bw m l=true
theorem oG{S:SS}{h:St}(M:da S h E){m b:Nat}{j:iK}{l L:List Nat}(n:S.st.ap m=some j)(k:Bk E m b)(g:wg S h E l L):wg S h E (m::l) (b::L):=by
 intro c a;rcases dK.1 a with rfl|a;.refine⟨M.rq m c k,λi d f e=>?_⟩;have:=M.inj i m d j c f n e k;exact dK.2 (.inl this)
 .exact⟨(g c a).1,λi d f e=>dK.2 (.inr ((g c a).2 i d f e))⟩
theorem up{S:SS}{h:St}{m:Nat}{l L:List Nat}(g:wg S h E l L):wg S h E (m::l) L:=λc a=>⟨(g c a).1,λf b e d=>dK.2 (.inr ((g c a).2 f b e d))⟩
theorem WX{S:SS}{h:St}(M:da S h E){b:Nat}{l L:List Nat}(d:E.Z b)(g:wg S h E l L):wg S h E l (b::L):=by
 intro c a;rcases dK.1 a with rfl|a;.exact⟨M.z c d,λj e i f=>absurd d (M.own j e c i f).1⟩
 .exact g c a
theorem Ca{S:SS}{h:St}(M:da S h E)(y0:dN S h E):∀{r0:List Operand}{l:List Nat},Gz S r0=some l->∃L,ip h r0=some L/\(∀b,bw b h.lk=true->bw b L=true)/\wg S h E l L
 |[],l,s=>by cases s;exact⟨h.lk,rfl,λ_ d=>d,M.lk⟩
 |a::r0,l,s=>by
  unfold Gz at s;split at s
  .
   rename_i b0 f0;obtain⟨L,h0,g0,B⟩:=Ca M y0 f0;have A:∀v s0,h.ev a=some v->Q9 v L=some s0->(∀b,bw b L=true->bw b s0=true)->wg S h E l s0->∃L,ip h (a::r0)=some L/\(∀b,bw b h.lk=true->bw b L=true)/\wg S h E l L:=λv s0 o0 k0 j0 i0=>⟨s0,DF h0 o0 k0,λb d=>j0 b (g0 b d),i0⟩;have w0:∀b c,bw b L=true->bw b (c::L)=true:=λb c d=>dK.2 (.inr d)
   have q0:∀m t0 o n v,S.st.ap m=some t0->(∀b,o=some b->Bk E m b)->ge o n v->h.ev a=some v->l=m::b0->∃L,ip h (a::r0)=some L/\(∀b,bw b h.lk=true->bw b L=true)/\wg S h E l L:=by
    intro m t0 o n v C c0 m0 f d0;subst d0;unfold ge at m0
    cases o with
     |none=>
     rcases m0.2 with rfl|rfl;.exact A _ L f rfl (λ_ d=>d) (up B)
     .exact A _ L f rfl (λ_ d=>d) (up B)
     |some b=>subst m0;exact A _ (b::L) f rfl (λc z0=>w0 c b z0) (oG M C (c0 b rfl) B)
   split at s
   .
    rename_i m o z;obtain⟨v,f,t⟩:=bV y0 z;rw[lZ]at t;obtain⟨_,b,d,rfl⟩:=t;rw[aH]at s;split at s;.rename_i x0;cases s;obtain⟨t0,x0⟩:=el.1 x0;exact A _ (b::L) f rfl (λc z0=>w0 c b z0) (oG M x0 (.inl d) B)
    .cases s
   .
    rename_i m o n z;obtain⟨v,f,t⟩:=bV y0 z;rw[uS]at t;obtain⟨_,b,d,rfl,_⟩:=t;rw[aH]at s;split at s;.rename_i x0;cases s;obtain⟨t0,x0⟩:=el.1 x0;exact A _ (b::L) f rfl (λc z0=>w0 c b z0) (oG M x0 (.inl d) B)
    .cases s
   .
    rename_i m o n z;obtain⟨v,f,t⟩:=bV y0 z;rw[zB]at t;obtain⟨_,b,d,rfl⟩:=t;rw[aH]at s;split at s;.rename_i x0;cases s;obtain⟨t0,x0⟩:=el.1 x0;exact A _ (b::L) f rfl (λc z0=>w0 c b z0) (oG M x0 (.inl d) B)
    .cases s
   .
    rename_i m z;obtain⟨v,f,t⟩:=bV y0 z;rw[ij]at t;split at s;.rename_i e v0 C;cases s;exact q0 m _ _ _ v C (λb d=> .inl d) (t.2.2.1 e v0 (by rw[M.st];exact C)) f rfl
    .rename_i g e v0 C;cases s;exact q0 m _ _ _ v C (λb d=> .inl d) (t.2.2.2 _ _ (by rw[M.st];exact C) rfl) f rfl
    .rename_i e v0 q C;cases s;exact q0 m _ _ _ v C (λb d=> .inl d) (t.2.2.2 _ _ (by rw[M.st];exact C) rfl) f rfl
    .cases s
   .
    rename_i m i o z;obtain⟨v,f,t⟩:=bV y0 z;rw[nY]at t;split at s;.rename_i e v0 C;cases s;obtain⟨b,j,d,_,_,rfl⟩:=t.2.2.1 e v0 (by rw[M.st];exact C);exact A _ (b::L) f rfl (λc z0=>w0 c b z0) (oG M C (.inl d) B)
    .rename_i g e v0 C;cases s;obtain⟨b,j,d,_,_,rfl⟩:=t.2.2.2 _ _ (by rw[M.st];exact C) rfl;exact A _ (b::L) f rfl (λc z0=>w0 c b z0) (oG M C (.inl d) B)
    .rename_i e v0 q C;cases s;obtain⟨b,j,d,_,_,rfl⟩:=t.2.2.2 _ _ (by rw[M.st];exact C) rfl;exact A _ (b::L) f rfl (λc z0=>w0 c b z0) (oG M C (.inl d) B)
    .cases s
   .
    rename_i m o n u j p z;obtain⟨v,f,t⟩:=bV y0 z;rw[wU]at t;obtain⟨_,b,k,d,_,_,rfl⟩:=t;rw[aH]at s;split at s;.rename_i x0;cases s;obtain⟨t0,x0⟩:=el.1 x0;exact A _ (b::L) f rfl (λc z0=>w0 c b z0) (oG M x0 (.inl d) B)
    .cases s
   .
    rename_i m q z;obtain⟨v,f,t⟩:=bV y0 z;rw[x6]at t;split at s;.rename_i e v0 C;cases s;obtain⟨k,_,_,D⟩:=t.2.2 e v0 (by rw[M.st];exact C);exact q0 m _ _ _ v C (λb d=> .inl d) D f rfl
    .cases s
   .
    rename_i m g j z;obtain⟨v,f,t⟩:=bV y0 z;rw[C2]at t;split at s
    .
     rename_i y9 e v0 C;rw[aH]at s;split at s;.rename_i n0;have n0:=au n0;subst n0;cases s;obtain⟨k,x9,_,_,D⟩:=t.2.2.2 e v0 (by rw[M.st];exact C);exact q0 m _ _ _ v C (λb d=> .inr ⟨k,d⟩) D f rfl
     .cases s
    .cases s
   .
    rename_i u x z;cases s;obtain⟨v,f,t⟩:=bV y0 z;have x0:(SV.val u x).ag=u.ag:=rfl;have D:=t;unfold V ia at D;rw[x0]at D
    cases u with
     |int _=>have D:CR E _ [v]:=D;unfold CR dw at D;cases D;exact A _ L f rfl (λ_ d=>d) B
     |bool=>have D:CR E _ [v]:=D;unfold CR dw at D;cases D;exact A _ L f rfl (λ_ d=>d) B
     |dH=>have D:CR E _ [v]:=D;unfold CR dw at D;cases D;exact A _ L f rfl (λ_ d=>d) B
     |un=>obtain⟨p0,rfl,_⟩:=D;exact A _ L f rfl (λ_ d=>d) B
     |nil=>have D:CR E _ [v]:=D;unfold CR dw at D;cases D;exact A _ L f rfl (λ_ d=>d) B
     |ah _ _=>obtain⟨p0,rfl,_⟩:=D;exact A _ L f rfl (λ_ d=>d) B
     |fF _ _=>obtain⟨p0,rfl,_⟩:=D;exact A _ L f rfl (λ_ d=>d) B
     |bc e=>
     rw[oJ]at t;rcases t with⟨_,rfl|rfl|rfl⟩|⟨b,o,y,⟨rfl,_⟩,u0,_⟩;.exact A _ L f rfl (λ_ d=>d) B
     .exact A _ L f rfl (λ_ d=>d) B
     .exact A _ L f rfl (λ_ d=>d) B
     .exact A _ (b::L) f rfl (λc z0=>w0 c b z0) (WX M u0 B)
   .rename_i u x z;cases s;obtain⟨v,f,t⟩:=bV y0 z;rw[qo]at t;obtain⟨b,o,y,l0,rfl,u0,_⟩:=t;exact A _ (b::L) f rfl (λc z0=>w0 c b z0) (WX M u0 B)
   .
    rename_i m e v0 z;obtain⟨v,f,t⟩:=bV y0 z;rw[zz]at t;split at s
    .
     rename_i c w C;cases s;obtain⟨u9,_,w9,o0,e0⟩:=t.2.2 c w (by rw[M.st];exact C);cases o0;rcases e0 with⟨_,rfl|rfl|rfl⟩|⟨b,o,y,⟨rfl,_⟩,u0,_⟩;.exact A _ L f rfl (λ_ d=>d) (up B)
     .exact A _ L f rfl (λ_ d=>d) (up B)
     .exact A _ L f rfl (λ_ d=>d) (up B)
     .exact A _ (b::L) f rfl (λc z0=>w0 c b z0) (oG M C (.inr u0) B)
    .cases s
   .rename_i m a0 z9 x z;cases s;obtain⟨v,f,p0,rfl,_⟩:=bV y0 z;exact A _ L f rfl (λ_ d=>d) B
   .
    rename_i m u x z;obtain⟨v,f,t⟩:=bV y0 z;rw[rx]at t;split at s;.rename_i c w C;cases s;obtain⟨b,o,y,l0,v9,rfl,u0,_⟩:=t.2.2 c w (by rw[M.st];exact C);exact A _ (b::L) f rfl (λc z0=>w0 c b z0) (oG M C (.inr u0) B)
    .cases s
   .rename_i z;cases s;obtain⟨v,f,t⟩:=bV y0 z;rw[Fc]at t;obtain⟨n,rfl⟩:=t;exact A _ L f rfl (λ_ d=>d) B
   .rename_i z;cases s;obtain⟨v,f,t⟩:=bV y0 z;rw[dT]at t;subst t;exact A _ L f rfl (λ_ d=>d) B
   .rename_i z;cases s;obtain⟨v,f,t⟩:=bV y0 z;rw[lF]at t;subst t;exact A _ L f rfl (λ_ d=>d) B
   .
    rename_i z;cases s;obtain⟨v,f,t⟩:=bV y0 z;rw[qp]at t;rcases t with rfl|rfl;.exact A _ L f rfl (λ_ d=>d) B
    .exact A _ L f rfl (λ_ d=>d) B
   .rename_i z;cases s;obtain⟨v,f,t⟩:=bV y0 z;rw[qm]at t;subst t;exact A _ L f rfl (λ_ d=>d) B
   .cases s
  .cases s
theorem Uv {S : SS} {h : St} (M : da S h E) {s : SV} {b : Nat} (hv : V E s (.map b)) : s = .any ∨ (∃ m i o, s = .pz m i o) ∨ (∃ m, s = .row m ∧ (∀ e xs, S.st.ap m ≠ some (.row e xs)) ∧ ∀ g e xs, S.st.ap m ≠ some (.rows g e xs)) ∨ (∃ m, s = .map m) ∨ (∃ m g j, s = .sub m g j) ∨ ∃ m q, s = .vw m q ∧ ∀ e xs, S.st.ap m ≠ some (.row e xs) := by
  have rv : ∀ o n, ge o n (.map b) → False := by
    intro o n h
    unfold ge at h
    cases o with
    | none => rcases h.2 with k | k <;> cases k
    | some _ => cases h
  cases s with
  | any => exact .inl rfl
  | undef => rw [qm] at hv; cases hv
  | int _ _ _ => rw [dT] at hv; cases hv
  | bool _ _ => rw [iV] at hv; cases hv
  | val u x =>
    exfalso
    cases u with
    | int _ => have k3 : CR E _ [_] := hv; unfold CR dw at k3; cases k3
    | bool => have k3 : CR E _ [_] := hv; unfold CR dw at k3; cases k3
    | dH => have k3 : CR E _ [_] := hv; unfold CR dw at k3; cases k3
    | un => obtain ⟨cs, k, _⟩ := hv; cases k
    | nil => have k3 : CR E _ [_] := hv; unfold CR dw at k3; cases k3
    | ah _ _ => obtain ⟨cs, k, _⟩ := hv; cases k
    | fF _ _ => obtain ⟨cs, k, _⟩ := hv; cases k
    | bc e =>
      rw [oJ] at hv
      rcases hv with ⟨_, k | k | k⟩ | ⟨b, o, y, ⟨k, _⟩, hz, _⟩ <;> cases k
  | agg _ => rw [zC] at hv; obtain ⟨_, k, _⟩ := hv; cases k
  | nf _ => rw [C1] at hv; obtain ⟨_, k, _⟩ := hv; cases k
  | fn _ _ => rw [Ny] at hv; obtain ⟨_, k, _⟩ := hv; cases k
  | sc => have k3 : CR E _ [_] := hv; unfold CR at k3; cases k3
  | cK => rw [lF] at hv; cases hv
  | gO => rw [qp] at hv; rcases hv with k | k <;> cases k
  | sd => have k3 : CR E _ [_] := hv; unfold CR at k3; cases k3
  | box _ _ => rw [lZ] at hv; obtain ⟨_, _, _, k⟩ := hv; cases k
  | sq _ _ _ => rw [uS] at hv; obtain ⟨_, _, _, k, _⟩ := hv; cases k
  | row m =>
    rw [ij] at hv
    exact .inr (.inr (.inl ⟨m, rfl, fun e xs hm => rv _ _ (hv.2.2.1 e xs (by rw [M.st]; exact hm)), fun g e xs hm => rv _ _ (hv.2.2.2 _ _ (by rw [M.st]; exact hm) rfl)⟩))
  | vw m q =>
    rw [x6] at hv
    refine .inr (.inr (.inr (.inr (.inr ⟨m, q, rfl, fun e xs hm => ?_⟩))))
    obtain ⟨k, _, _, k3⟩ := hv.2.2 e xs (by rw [M.st]; exact hm)
    exact rv _ _ k3
  | map m => exact .inr (.inr (.inr (.inl ⟨m, rfl⟩)))
  | sub m g j => exact .inr (.inr (.inr (.inr (.inl ⟨m, g, j, rfl⟩))))
  | vQ _ _ _ _ _ _ => rw [wU] at hv; obtain ⟨_, _, _, _, _, _, k⟩ := hv; cases k
  | jz _ _ _ => rw [zB] at hv; obtain ⟨_, _, _, k⟩ := hv; cases k
  | pz m i o => exact .inr (.inl ⟨m, i, o, rfl⟩)
  | sX _ _ => rw [qo] at hv; obtain ⟨_, _, _, _, k, _⟩ := hv; cases k
  | uk _ => rw [Fc] at hv; obtain ⟨_, k⟩ := hv; cases k
  | tj _ _ _ => rw [rx] at hv; obtain ⟨_, ⟨_, _, k⟩, _⟩ := hv; cases k
  | bv m u x =>
    exfalso
    cases u with
    | int _ => have k3 : CR E _ [_] := hv; unfold CR oe at k3; cases k3.2
    | bool => have k3 : CR E _ [_] := hv; unfold CR oe at k3; cases k3.2
    | dH => have k3 : CR E _ [_] := hv; unfold CR oe at k3; cases k3.2
    | un => obtain ⟨cs, k, _⟩ := hv; cases k
    | nil => have k3 : CR E _ [_] := hv; unfold CR oe at k3; cases k3.2
    | ah _ _ => obtain ⟨cs, k, _⟩ := hv; cases k
    | fF _ _ => obtain ⟨cs, k, _⟩ := hv; cases k
    | bc e =>
      rw [zz] at hv
      rcases hv.2.1 with k | k | k | ⟨_, _, _, k⟩ <;> cases k
theorem KP{S:SS}{h:St}(M:da S h E)(t:dN S h E){o:Op}(a:KQ S o=true):ly h o=false:=by
 unfold ly;split
 .
  rename_i c;split
  .
   rename_i u;split
   .
    rename_i b w;exfalso;unfold KQ at a;simp only at a;rw[u]at a;simp only at a
    cases f:S.kg c.args.toList with
     |none=>rw[f]at a;cases a
     |some l=>
     rw[f]at a;obtain⟨A,k,d⟩:=mL t f;rw[w]at k;cases k
     cases l with
      |nil=>unfold Vs at d;cases d
      |cons s l=>
      unfold Vs at d;obtain⟨v,q,e,p,n⟩:=d;cases e
      cases l with
       |cons z l=>unfold Vs at n;obtain⟨_,_,e,_⟩:=n;cases e
       |nil=>
       rcases Uv M p with rfl|⟨m,i,o,rfl⟩|⟨m,rfl,x,y⟩|⟨m,rfl⟩|⟨m,g,j,rfl⟩|⟨m,q,rfl,x⟩;.cases a
       .cases a
       .simp only at a;cases a
       .cases a
       .cases a
       .simp only at a;cases a
   .rfl
  .rfl
 .rfl
theorem uF{S:SS}{h:St}:∀(l:List Operand)(t:Nat),(zf S l).ap t=some (S.tmp t)/\(kh h l).ap t=some (h.tmp t)\/(zf S l).ap t=none/\(kh h l).ap t=none
 |[],t=> .inr ⟨rfl,rfl⟩
 | .tmp j::l,t=>by
  unfold zf kh;rw[Tr.dg,Tr.dg];by_cases a:t=j;.rw[aE a,aE a,a];exact .inl ⟨rfl,rfl⟩
  .rw[aG a,aG a];exact uF l t
 | .const _::l,t=>uF l t
 | .func _::l,t=>uF l t
 | .global _::l,t=>uF l t
theorem HC{S:SS}{h:St}(M:da S h E)(f:dN S h E){bG:Array Oper}{o:Oper}{K:SS->Option R}(a:FX bG o S K=some r):∃S2,K S2=some r/\da S2 h E/\dN S2 h E/\Gr S h E S2 h E/\∀t,bw t S.kp=true->S2.tmp t=S.tmp t:=by
 have j:K S=some r->∃S2,K S2=some r/\da S2 h E/\dN S2 h E/\Gr S h E S2 h E/\∀t,bw t S.kp=true->S2.tmp t=S.tmp t:=λi=>⟨S,i,M,f,Gr.refl,λ_ _=>rfl⟩;unfold FX at a;split at a;.exact j a
 .
  split at a
  .
   rename_i g _;split at a
   .
    rename_i b m;rw[aH]at a;split at a;.cases a
    .
     rename_i p;have l:=f.v g;rw[m,iV]at l;have k:∀c,b=c->K (S.il g (.bool true c))=some r->∃S2,K S2=some r/\da S2 h E/\dN S2 h E/\Gr S h E S2 h E/\∀t,bw t S.kp=true->S2.tmp t=S.tmp t:=by intro c n i;obtain⟨s,u,v⟩:=Ed M f (g:=g) (s:= .bool true c) (iV.2 (by rw[l,n]));refine⟨_,i,s,u,v,λt q=>?_⟩;unfold SS.il SS.tmp;simp only;rw[Tr.dg,aG];rintro rfl;exact p q
     rcases sn a with⟨d,e⟩|⟨d,e⟩;.exact k true d e
     .exact k false d e
   .exact j a
  .exact j a
theorem uT.gr{S S2:SS}{h:St}{K:SS->Option R}{f:Nat->Option St}(hg:Gr S h E S2 h E)(e:∀t,bw t S.kp=true->S2.tmp t=S.tmp t)(p:uT S2 h E K r f):uT S h E K r f:=by obtain⟨d,c,b,g,i,j,k,l,m⟩:=p;exact⟨d,c,b,g,i,j,hg.trans k,λt a=>(l t (by rw[hg.kp];exact a)).trans (e t a),m⟩
theorem z8(w0:∀f c,cy.ct.ap f=some c->sA cy.cx f c)(s0:∀f q,cy.sp.ap f=some q->nE cy.cx cy.ct f q){r0:tl}(u0:qr cy r0){bG:Array Oper}:∀{l:List Hm.Item}{S:SS}{h:St}{E:En}{K:SS->Option R},AR cy r0 bG S l K=some r->da S h E->dN S h E->uT S h E K r λk=>ga cy.cx (run cy.cx k) bG h l
 |[],S,h,E,K,i,g,n=>⟨h,S,E,⟨0,λ_ _=>rfl⟩,g,n,Gr.refl,λ_ _=>rfl,i⟩
 |x::l,S,h,E,K,i,g,n=>by
  unfold AR at i;obtain⟨A,i,g,n,y0,x0⟩:=HC g n i;refine uT.gr y0 x0 ?_;clear y0 x0;generalize A=S at i g n;split at i
  .
   rename_i q0 g0;rw[aH]at i;split at i
   .
    rename_i w;simp only[ae]at w;obtain⟨y,l0,k0,j0⟩:=Ca g n g0;have n0:da (S.cut bG x.o q0) (h.cut bG x.o y) E:=⟨g.hp,g.st,g.nx,g.lt,g.gm,g.inj,g.own,g.z,g.fr,j0,g.rq,g.py,g.zo⟩
    have i0:dN (S.cut bG x.o q0) (h.cut bG x.o y) E:=by
     refine⟨n.nt,λt=>?_⟩;unfold SS.cut St.cut SS.tmp St.tmp;rcases uF (S:=S) (h:=h) (oB bG x.o++x.o.op.operands.toList) t with⟨a,b⟩|⟨a,b⟩;.simp only[a,b];exact n.v t
     .simp only[a,b];exact G9
    obtain⟨u,z,p,⟨C,w9⟩,j,v9,u9,s9,t9⟩:=Bl w0 s0 u0 n0 i0 i;have s:Gr S h E (S.take x.o z) (h.take x.o u) p:=u9.re rfl rfl (λ_ _ h=>h) rfl rfl k0 rfl rfl rfl rfl rfl rfl rfl rfl rfl rfl rfl rfl
    have z0:da (S.take x.o z) (h.take x.o u) p:=by
     refine⟨j.hp,j.st,j.nx,j.lt,j.gm,j.inj,j.own,j.z,j.fr,λb B=>⟨?_,λm e f0 e0=>?_⟩,j.rq,j.py,j.zo⟩;.exact aQ (g.lk b B).1 s.nx
     .obtain⟨m0,C,D⟩:=s.O3 b m e B f0 e0;exact(g.lk b B).2 m m0 C D
    have h0:dN (S.take x.o z) (h.take x.o u) p:=by
     refine⟨n.nt,λt=>?_⟩;have p0:V p (S.tmp t) (h.tmp t):=(n.v t).gr s g z0;unfold SS.take St.take SS.tmp St.tmp
     cases v0:x.o.dst with
      |none=>simp only;exact p0
      |some d=>
      simp only;rw[Tr.dg,Tr.dg];by_cases o:t=d;.rw[aE o,aE o];exact v9.v d
      .rw[aG o,aG o];exact p0
    obtain⟨v,A,o0,⟨D,c0⟩,b0,a0,z9,y9,x9⟩:=z8 w0 s0 u0 t9 z0 h0;refine⟨v,A,o0,⟨max C D,λk t0=>?_⟩,b0,a0,s.trans z9,λt o=>?_,x9⟩
    .
     show(match ip h x.lk with
      |some d0=>bif ly h x.o.op then none else match gQ cy.cx (run cy.cx k) bG (h.cut bG x.o d0) x.o with|some t=>ga cy.cx (run cy.cx k) bG (h.take x.o t) l|none=>none
      |none=>none)=_
     rw[l0];simp only;rw[KP g n w.1];have e:gQ cy.cx (run cy.cx k) bG (h.cut bG x.o y) x.o=some u:=w9 k (aU (kD _ _) t0);rw[e];exact c0 k (aU (jT _ _) t0)
    .rw[y9 t o];unfold SS.take SS.tmp;cases v0:x.o.dst with
     |none=>rfl
     |some d=>rw[v0]at w;simp only;rw[Tr.dg,aG];rintro rfl;have v:(!bw t S.kp)=true:=w.2;have o:bw t S.kp=true:=o;rw[o]at v;cases v
   .cases i
  .cases i
end
section
variable{cy:Cy}
def Jk(cy:Cy){R:Type}(c:Code)(S:SS)(K:Ex->SS->Option R)(r:R)(h:St)(E:En):Prop:=∃e b a d,(∃f,∀k,f<=k->run cy.cx k c h=some (e,b))/\da a b d/\dN a b d/\Gr S h E a b d/\(∀t,bw t S.kp=true->a.tmp t=S.tmp t)/\K e a=some r
theorem l8{c:Code}{h:St}{q:Ex×St}{k0:Nat}(g:∀k,k0<=k->yx cy.cx (run cy.cx k) c h=some q):∃k0,∀k,k0<=k->run cy.cx k c h=some q:=by refine⟨k0+1,λk a=>?_⟩;cases k with
 |zero=>omega
 |succ k=>exact g k (by omega)
theorem ir{α β:Type}(f:α->Option (Sum α β))(n:Nat)(x:α):aB f n x=jk f n x:=by unfold aB;rw[(Mt λ(α β:Type)(f:α->Option (Sum α β))(n:Nat)=>jk f n).2]
theorem O1{w:tl}(a0:qr cy w){R:Type}{H:Tr (List Hi)}{B:Nat}{b:Code}{S:SS}{K:Ex->SS->Option R}{r:R}{h:St}{E:En}{hh:List Hi}(M:da S h E)(f0:dN S h E)(b0:pA S (kH S hh)=true):∀(n:Nat)(d:D (i6 hh))(o:SS)(h1:St)(s:En),jk (λd=>match we S hh (kH S hh) d with
 |some m=>w (Sum (D (i6 hh)) R) H B b (m.km S.nx hh (kH S hh) S.kp) λe a=>match e with| .cS=>DH (jp S a hh [] [])|e=>ao (K e (a.tD S))
 |none=>none) n d=some r->da o h1 s->dN o h1 s->Gr (S.km S.nx hh (kH S hh) S.kp) h E o h1 s->(∀t,bw t (kY hh++S.kp)=true->o.tmp t=S.tmp t)->jp S o hh [] []=some d->∃e i a E',(∃k0,∀k,k0<=k->run cy.cx k (.loop b) h1=some (e,i))/\da a i E'/\dN a i E'/\Gr S h E a i E'/\(∀t,bw t S.kp=true->a.tmp t=S.tmp t)/\K e a=some r:=by
 intro n
 induction n with
  |zero=>intro d o h1 s u;cases u
  |succ n v9=>
  intro d o h1 s u o0 e0 i0 y9 c0
  have u:aD ((λd=>match we S hh (kH S hh) d with
   |some m=>w (Sum (D (i6 hh)) R) H B b (m.km S.nx hh (kH S hh) S.kp) λe a=>match e with| .cS=>DH (jp S a hh [] [])|e=>ao (K e (a.tD S))
   |none=>none) d) (jk (λd=>match we S hh (kH S hh) d with
   |some m=>w (Sum (D (i6 hh)) R) H B b (m.km S.nx hh (kH S hh) S.kp) λe a=>match e with| .cS=>DH (jp S a hh [] [])|e=>ao (K e (a.tD S))
   |none=>none) n)=some r:=u
  have u0:∀(v:Sum (D (i6 hh)) R),(match we S hh (kH S hh) d with
   |some m=>w (Sum (D (i6 hh)) R) H B b (m.km S.nx hh (kH S hh) S.kp) λe a=>match e with| .cS=>DH (jp S a hh [] [])|e=>ao (K e (a.tD S))
   |none=>none)=some v->∃e f c g,(∃k0,∀k,k0<=k->run cy.cx k b h1=some (e,f))/\da c f g/\dN c f g/\Gr (S.km S.nx hh (kH S hh) S.kp) h E c f g/\(∀t,bw t (kY hh++S.kp)=true->c.tmp t=S.tmp t)/\(match(generalizing:=false)e with| .cS=>DH (jp S c hh [] [])|e=>ao (K e (c.tD S)))=some v:=by
   intro v x0;split at x0;.rename_i m d0;obtain⟨p0,n0,s0,h0,t9,q9,p9,o9,n9,m9⟩:=yV M f0 o0 e0 i0 y9 c0 d0;obtain⟨e,f,c,g,y,z,q,p,A,l⟩:=a0 _ _ _ _ _ _ _ x0 h1 p0 (n0.re rfl rfl rfl rfl rfl rfl) ⟨s0.nt,s0.v⟩;exact⟨e,f,c,g,y,z,q,h0.trans p,λt z0=>(A t z0).trans (t9 t z0),l⟩
   .cases x0
  rcases CS u with⟨l0,y0,z9⟩|y0
  .obtain⟨e,f,c,g,⟨k0,y⟩,z,q,p,A,l⟩:=u0 _ y0;cases e with
   |cS=>obtain⟨x,w0,j⟩:=pI l;cases j;obtain⟨j0,g0,m0,q0,⟨u9,s9⟩,r9⟩:=v9 l0 c f g z9 z q p A w0;refine⟨j0,g0,m0,q0,l8 (k0:=max k0 u9) λk C=>?_,r9⟩;show(match run cy.cx k b h1 with|some (.cS,v0)=>run cy.cx k (.loop b) v0|r=>r)=_;rw[y k (aU (kD _ _) C)];exact s9 k (aU (jT _ _) C)
   |ret=>obtain⟨x,_,j⟩:=oA l;cases j
   |exit w9=>obtain⟨x,_,j⟩:=oA l;cases j
  .
   obtain⟨e,f,c,g,⟨k0,y⟩,z,q,p,A,l⟩:=u0 _ y0
   have t0:∀(r0:e≠.cS),ao (α:=D (i6 hh)) (K e (c.tD S))=some (.inr r)->∃e i a E',(∃k0,∀k,k0<=k->run cy.cx k (.loop b) h1=some (e,i))/\da a i E'/\dN a i E'/\Gr S h E a i E'/\(∀t,bw t S.kp=true->a.tmp t=S.tmp t)/\K e a=some r:=by intro r0 x9;obtain⟨x,w0,j⟩:=oA x9;cases j;refine⟨e,f,c.tD S,g,l8 (k0:=k0) λk C=>?_,z.re rfl rfl rfl rfl rfl rfl,⟨q.nt,q.v⟩,AL b0 p rfl rfl p.LP p.Ha rfl rfl rfl,λt z0=>A t (fq.2 (cR _ (fq.1 z0))),w0⟩;show(match run cy.cx k b h1 with|some (.cS,v0)=>run cy.cx k (.loop b) v0|r=>r)=_;rw[y k C];cases e with
    |cS=>exact absurd rfl r0
    |ret=>rfl
    |exit _=>rfl
   cases e with
    |cS=>obtain⟨x,_,j⟩:=pI l;cases j
    |ret=>exact t0 (λh=>by cases h) l
    |exit w9=>exact t0 (λh=>by cases h) l
theorem UY(l9:∀f c,cy.ct.ap f=some c->sA cy.cx f c)(j9:∀f q,cy.sp.ap f=some q->nE cy.cx cy.ct f q){i9:tl}(r0:qr cy i9):qr cy (YI cy i9):=by
 intro R H cur c g p0 r o h C t0 x0;have f9:∀(c:Code)(f:Nat->Option St)(e:Ex)(q:uT g h C (λz9=>p0 e z9) r f)(k9:∀k s,f k=some s->yx cy.cx (run cy.cx k) c h=some (e,s)),Jk cy c g p0 r h C:=by intro c f e q k9;obtain⟨m9,z9,e9,⟨j0,p⟩,w,A,z,B,m⟩:=q;exact⟨e,m9,z9,e9,l8 (k0:=j0) λk v0=>k9 k m9 (p k v0),w,A,z,B,m⟩
 unfold YI at o;split at o;.exact⟨.cS,h,g,C,l8 (k0:=0) λk _=>rfl,t0,x0,Gr.refl,λ_ _=>rfl,o⟩
 .exact f9 _ _ .cS (Eo l9 j9 r0 o t0 x0) λk s u9=>by show(match jM _ _ _ _ _ with|some s0=>some (Ex.cS,s0)|none=>none)=_;rw[u9]
 .
  split at o
  .
   rename_i l hl
   exact f9 _ _ .cS (z8 l9 j9 r0 o t0 x0) λk s u9=>by
    show(match oF _ with
     |some l=>match ga _ _ _ _ l with|some s0=>some (Ex.cS,s0)|none=>none
     |none=>none)=_
    rw[hl];simp only;rw[u9]
  .cases o
 .
  rename_i a b;obtain⟨e,i,n,u,⟨y0,p⟩,w,A,z,B,m⟩:=r0 _ _ _ _ _ _ _ o h C t0 x0
  have f0:e≠.cS->p0 e n=some r->Jk cy (.seq a b) g p0 r h C:=λw9 o0=>⟨e,i,n,u,l8 (k0:=y0) λk v0=>by show(match run cy.cx k a h with|some (.cS,s0)=>run cy.cx k b s0|r=>r)=_;rw[p k v0];cases e with
   |cS=>exact absurd rfl w9
   |ret=>rfl
   |exit _=>rfl,w,A,z,B,o0⟩
  cases e with
   |ret=>exact f0 (λh=>by cases h) m
   |exit u0=>exact f0 (λh=>by cases h) m
   |cS=>obtain⟨k0,y9,l0,g0,⟨t9,s9⟩,e0,d0,c0,b0,r9⟩:=r0 _ _ _ _ _ _ _ m i u w A;refine⟨k0,y9,l0,g0,l8 (k0:=max y0 t9) λk v0=>?_,e0,d0,z.trans c0,λt n0=>(b0 t (by rw[z.kp];exact n0)).trans (B t n0),r9⟩;show(match run cy.cx k a h with|some (.cS,s0)=>run cy.cx k b s0|r=>r)=_;rw[p k (aU (kD _ _) v0)];exact s9 k (aU (jT _ _) v0)
 .
  rename_i x a b;split at o
  .
   rename_i l y m0;obtain⟨v,o9,n9⟩:=bV x0 m0;rw[iV]at n9;subst n9;rcases Ln o with⟨rfl,h0⟩|⟨rfl,h0⟩;.obtain⟨e,i,n,u,⟨y0,p⟩,w⟩:=r0 _ _ _ _ _ _ _ h0 h C t0 x0;refine⟨e,i,n,u,l8 (k0:=y0) λk v0=>?_,w⟩;show(match h.ev x with|some (.bool true)=>run cy.cx k a h|some (.bool false)=>run cy.cx k b h|_=>none)=_;rw[o9];exact p k v0
   .obtain⟨e,i,n,u,⟨y0,p⟩,w⟩:=r0 _ _ _ _ _ _ _ h0 h C t0 x0;refine⟨e,i,n,u,l8 (k0:=y0) λk v0=>?_,w⟩;show(match h.ev x with|some (.bool true)=>run cy.cx k a h|some (.bool false)=>run cy.cx k b h|_=>none)=_;rw[o9];exact p k v0
  .cases o
 .
  rename_i u0 b
  have i0:∀{e:Ex}{i:St}{j0:Nat},(∀k,j0<=k->run cy.cx k b h=some (e,i))->∀{k0:Ex},(match(generalizing:=false)e with| .exit j=>bif Nat.beq j u0 then Ex.cS else .exit j|e=>e)=k0->∃j0,∀k,j0<=k->run cy.cx k (.block u0 b) h=some (k0,i):=by intro e i j0 p k0 z0;refine l8 (k0:=j0) λk v0=>?_;show(match run cy.cx k b h with|some (.exit j,s0)=>bif Nat.beq j u0 then some (Ex.cS,s0)else some (.exit j,s0)|r=>r)=_;rw[p k v0];subst z0;cases e with
   |cS=>rfl
   |ret=>rfl
   |exit j=>show(bif Nat.beq j u0 then some (Ex.cS,i)else some (.exit j,i))=some (bif Nat.beq j u0 then Ex.cS else .exit j,i);cases Nat.beq j u0<;>rfl
  split at o
  .
   obtain⟨e,i,n,u,⟨y0,p⟩,w,A,z,B,m⟩:=r0 _ _ _ _ _ _ _ o h C t0 x0
   cases e with
    |cS=>exact⟨.cS,i,n,u,i0 p rfl,w,A,z,B,m⟩
    |ret=>exact⟨.ret,i,n,u,i0 p rfl,w,A,z,B,m⟩
    |exit j=>
    simp only at m;rw[aH]at m;split at m;.rename_i q0;exact⟨.cS,i,n,u,i0 p (by simp only;rw[q0];rfl),w,A,z,B,m⟩
    .
     rename_i q0
     have q0:Nat.beq j u0=false:=by cases v9:Nat.beq j u0 with
      |false=>rfl
      |true=>exact absurd v9 q0
     exact⟨.exit j,i,n,u,i0 p (by simp only;rw[q0];rfl),w,A,z,B,m⟩
  .
   rename_i w0 _;rw[aH]at o;split at o
   .
    rename_i a0;have p9:da (g.km g.nx w0 (kH g w0) g.kp) h C:=t0.re rfl rfl rfl rfl rfl rfl;have q9:dN (g.km g.nx w0 (kH g w0) g.kp) h C:=⟨x0.nt,x0.v⟩;have g9:∀{e:Ex}{i:St}{n:SS}{u:En}{y0:Nat},(∀k,y0<=k->run cy.cx k b h=some (e,i))->da n i u->dN n i u->Gr (g.km g.nx w0 (kH g w0) g.kp) h C n i u->(∀t,bw t (kY w0++g.kp)=true->n.tmp t=g.tmp t)->(match(generalizing:=false)e with| .exit j=>bif Nat.beq j u0 then Ex.cS else .exit j|e=>e)=e->p0 e (n.tD g)=some r->Jk cy (.block u0 b) g p0 r h C:=by intro e i n u y0 p w A z B z0 o0;exact⟨e,i,n.tD g,u,i0 p z0,w.re rfl rfl rfl rfl rfl rfl,⟨A.nt,A.v⟩,AL a0 z rfl rfl z.LP z.Ha rfl rfl rfl,λt n0=>B t (fq.2 (cR _ (fq.1 n0))),o0⟩
    have h9:∀{e:Ex}{i:St}{n:SS}{u:En}{y0:Nat}{d:D (i6 w0)},(∀k,y0<=k->run cy.cx k b h=some (e,i))->da n i u->dN n i u->Gr (g.km g.nx w0 (kH g w0) g.kp) h C n i u->(∀t,bw t (kY w0++g.kp)=true->n.tmp t=g.tmp t)->(match(generalizing:=false)e with| .exit j=>bif Nat.beq j u0 then Ex.cS else .exit j|e=>e)= .cS->jp g n w0 [] []=some d->(match we g w0 (kH g w0) d with|some l0=>p0 .cS l0|none=>none)=some r->Jk cy (.block u0 b) g p0 r h C:=by
     intro e i n u y0 d p w A z B z0 ha o0;split at o0;.rename_i l0 hS2;obtain⟨g0,e0,d0,c0,b0,c9,b9,a9,f4,f5⟩:=yV t0 x0 w A z B ha hS2;exact⟨.cS,i,l0,g0,i0 p z0,e0,d0,AL a0 c0 rfl rfl c9 b9 a9 f4 f5,λt n0=>b0 t (fq.2 (cR _ (fq.1 n0))),o0⟩
     .cases o0
    rcases CS o with⟨d,x9,h0⟩|x9
    .
     obtain⟨e,i,n,u,⟨y0,p⟩,w,A,z,B,m⟩:=r0 _ _ _ _ _ _ _ x9 h C p9 q9
     cases e with
      |cS=>obtain⟨x,m0,z0⟩:=pI m;cases z0;exact h9 p w A z B rfl m0 h0
      |ret=>obtain⟨x,_,z0⟩:=oA m;cases z0
      |exit j=>
      simp only at m;rw[aH]at m;split at m;.rename_i q0;obtain⟨x,m0,z0⟩:=pI m;cases z0;exact h9 p w A z B (by simp only;rw[q0];rfl) m0 h0
      .obtain⟨x,_,z0⟩:=oA m;cases z0
    .
     obtain⟨e,i,n,u,⟨y0,p⟩,w,A,z,B,m⟩:=r0 _ _ _ _ _ _ _ x9 h C p9 q9
     cases e with
      |cS=>obtain⟨x,_,z0⟩:=pI m;cases z0
      |ret=>obtain⟨x,m0,z0⟩:=oA m;cases z0;exact g9 p w A z B rfl m0
      |exit j=>
      simp only at m;rw[aH]at m;split at m;.obtain⟨x,_,z0⟩:=pI m;cases z0
      .
       rename_i q0
       have q0:Nat.beq j u0=false:=by cases v9:Nat.beq j u0 with
        |false=>rfl
        |true=>exact absurd v9 q0
       obtain⟨x,m0,z0⟩:=oA m;cases z0;exact g9 p w A z B (by simp only;rw[q0];rfl) m0
   .cases o
 .
  rename_i b;split at o
  .
   obtain⟨e,i,n,u,⟨y0,p⟩,w,A,z,B,m⟩:=r0 _ _ _ _ _ _ _ o h C t0 x0
   have f0:e≠.cS->p0 e n=some r->Jk cy (.loop b) g p0 r h C:=λw9 o0=>⟨e,i,n,u,l8 (k0:=y0) λk v0=>by show(match run cy.cx k b h with|some (.cS,s0)=>run cy.cx k (.loop b) s0|r=>r)=_;rw[p k v0];cases e with
    |cS=>exact absurd rfl w9
    |ret=>rfl
    |exit _=>rfl,w,A,z,B,o0⟩
   cases e with
    |ret=>exact f0 (λh=>by cases h) m
    |exit u0=>exact f0 (λh=>by cases h) m
    |cS=>obtain⟨k0,y9,l0,g0,⟨t9,s9⟩,e0,d0,c0,b0,r9⟩:=r0 _ _ _ _ _ _ _ m i u w A;refine⟨k0,y9,l0,g0,l8 (k0:=max y0 t9) λk v0=>?_,e0,d0,z.trans c0,λt n0=>(b0 t (by rw[z.kp];exact n0)).trans (B t n0),r9⟩;show(match run cy.cx k b h with|some (.cS,s0)=>run cy.cx k (.loop b) s0|r=>r)=_;rw[p k (aU (kD _ _) v0)];exact s9 k (aU (jT _ _) v0)
  .
   rename_i w0 _;rw[aH]at o;split at o
   .
    rename_i a0;split at o;.rename_i d9 K5;rw[ir]at o;exact O1 r0 t0 x0 a0 _ d9 (g.km g.nx w0 (kH g w0) g.kp) h C o (t0.re rfl rfl rfl rfl rfl rfl) ⟨x0.nt,x0.v⟩ Gr.refl (λ_ _=>rfl) K5
    .cases o
   .cases o
 .exact⟨_,h,g,C,l8 (k0:=0) λk _=>rfl,t0,x0,Gr.refl,λ_ _=>rfl,o⟩
 .exact⟨_,h,g,C,l8 (k0:=0) λk _=>rfl,t0,x0,Gr.refl,λ_ _=>rfl,o⟩
 .cases o
theorem La(a:∀f c,cy.ct.ap f=some c->sA cy.cx f c)(d:∀f q,cy.sp.ap f=some q->nE cy.cx cy.ct f q):∀n,qr cy (ex cy n):=by intro n;induction n with
 |zero=>intro i g k c j h r b;cases b
 |succ n e=>exact UY a d e
theorem Nj(m0:∀f c,cy.ct.ap f=some c->sA cy.cx f c)(b0:∀f q,cy.sp.ap f=some q->nE cy.cx cy.ct f q){f:FuncId}{fn:Func}(l0:cy.cx.fn.ap f=some fn)(a0:cy.cx.ext.ap f=none){a r:U}{H:Tr (List Hi)}{n:Nat}{F:D a->Option (D r)}(hF:∀x,GL cy n a r H fn x=F x):sA cy.cx f ⟨a,r,F⟩:=by
 intro h t A x y k0 f0 t0 n0 o;have o:F x=some y:=o;rw[<-hF x]at o;unfold GL at o;split at o
 .
  rename_i b i;rw[aH]at o;split at o
  .
   rename_i h0;have r0:Vs (⟨h.hp,t,λ_=>none,λ_ _=>none,.e,0,h.nx⟩:En) (md a x) A:=qK (E:=⟨h.hp,t,λ_=>none,λ_ _=>none,.e,0,h.nx⟩) n0;have g0:Nat.ble A.length fn.ntmps=true:=by rw[vJ r0];exact h0
   have p:∀(m:Nat)(e:iK),(Tr.e:Tr iK).ap m=some e->False:=λm e d=>by rw[Tr.kq]at d;cases d
   obtain⟨e,u0,w,s,⟨y9,x9⟩,j,w9,v,_,w0⟩:=La m0 b0 n _ _ _ _ _ _ _ o ⟨fn.ntmps,lr 0 A .e,h.hp,h.nx,h.lk,.undef⟩ ⟨h.hp,t,λ_=>none,λ_ _=>none,.e,0,h.nx⟩ ⟨rfl,rfl,rfl,λm e d=>(p m e d).elim,λm e d=>(p m e d).elim,λm _ e _ _ d=>(p m e d).elim,λm e _ d=>(p m e d).elim,t0,k0,λb i=>⟨f0 b i,λm e d=>(p m e d).elim⟩,λ_ _ d=>(by rcases d with d|⟨_,d⟩<;>cases d),λm e d=>(p m e d).elim,λb i i0=>absurd (t0 b i) (Nat.not_lt.2 i0)⟩ (sv r0);have s0:s.lo=h.nx:=v.lo;have x0:∀b,¬Ow (⟨fn.ntmps,qV 0 (md a x) .e,.e,0,[],0,[],[]⟩:SS) (⟨h.hp,t,λ_=>none,λ_ _=>none,.e,0,h.nx⟩:En) b:=λb⟨m,e,d,_⟩=>p m e d
   have q0:(∀u,e≠.exit u)->qI cy w fn.results.toList (λl=>match lL w.st l with|some _=>nJ w.st r l|none=>none)=some y->∃l z B C,(∃z9,∀k,z9<=k->call cy.cx (run cy.cx k) f A h=some (one l,⟨h.nt,h.dE,z,B,h.lk,h.df⟩))/\h.nx<=B/\(∀b,b<h.nx->z.ap b=h.hp.ap b)/\(∀b,B<=b->z.ap b=none)/\(∀b,t b->C b)/\(∀b,C b->t b\/h.nx<=b/\b<B/\ra z b)/\fI z C r l y:=by
    intro e0 c0;obtain⟨l,v9,p0,u9,v0⟩:=oq j w9 c0;split at v0
    .
     rename_i t9 o0;have d0:=lN (E:=s) (Q:=λb=>s.Z b\/Ow w s b) (k:=3) (λb i=> .inl i) (λm e d=>j.gm m e (by rw[<-j.st];exact d)) (by rw[j.st];exact v0) u9 (uG (λm e b d i=> .inr ⟨m,e,by rw[<-j.st];exact d,i⟩) (by rw[j.st];exact o0));refine⟨v9,u0.hp,u0.nx,λb=>s.Z b\/Ow w s b,⟨y9,λk j0=>?_⟩,v.nx,λb i=>v.DC b i (x0 b),j.fr,λb i=> .inl (v.z b i),λb i=>?_,by rw[<-j.hp];exact d0⟩
     .unfold call;rw[a0,l0];simp only;rw[i];simp only;rw[g0,x9 k j0];cases e with
      |exit u=>exact absurd rfl (e0 u)
      |cS=>simp only[fR];rw[p0]
      |ret=>simp only[fR];rw[p0]
     .
      rcases i with i|i
      .
       rcases v.z' b i with g|g|g;.exact .inl g
       .exact absurd g (x0 b)
       .exact .inr ⟨g,j.z b i,j.zo b i (by rw[s0];exact g)⟩
      .
       obtain⟨m,e,d,y0⟩:=i;rcases v.ow b ⟨m,e,d,y0⟩with g|g;.exact absurd g (x0 b)
       .exact .inr ⟨g,(j.own m e b d y0).2,by rw[<-j.hp];exact uC (j.gm m e d) (j.py m e d) y0 (by rw[s0];exact g)⟩
    .cases v0
   cases e with
    |exit u=>cases w0
    |cS=>exact q0 (λu z0=>by cases z0) w0
    |ret=>exact q0 (λu z0=>by cases z0) w0
  .cases o
 .cases o
theorem RR(w9:∀f c,cy.ct.ap f=some c→sA cy.cx f c)(i9:∀f q,cy.sp.ap f=some q→nE cy.cx cy.ct f q){f:FuncId}{fn:Func}(u9:cy.cx.fn.ap f=some fn)(h9:cy.cx.ext.ap f=none){a r:U}{H:Tr (List Hi)}{n:Nat}{F:D a→Option (D r)}(hF:∀x,fnF cy n a r H fn x=F x):J1 cy.cx f ⟨a,r,F⟩:=by
 intro h s w0 x y t9 p9 r0 x9 p;have p:F x=some y:=p;rw[←hF x]at p;unfold fnF at p;split at p
 ·
  rename_i b j;rw[aH]at p;split at p
  ·
   rename_i r9;let C:Tr iK:=(Tr.e).set 0 (.zn true false);let z:En:=⟨h.hp,fun _=>False,fun _=>none,fun m i=>if m=0 then zq s i else none,C,1,h.nx⟩;have l0:C.ap 0=some (.zn true false):=Tr.a8 _ _ _
   have A:∀m e,C.ap m=some e→m=0∧e= .zn true false:=by
    intro m e d;have d:((Tr.e).set 0 (.zn true false)).ap m=some e:=d;rw[Tr.dg]at d;split at d;·rename_i u0;cases d;exact⟨u0,rfl⟩
    ·rw[Tr.kq]at d;cases d
   have j0:∀b,Bk z 0 b↔s b:=by
    intro b;unfold Bk;constructor
    ·
     rintro(g|⟨i,g⟩);·cases g
     ·have g:zq s i=some b:=g;exact(pO.1 g).2
    ·intro g;refine .inr ⟨b,?_⟩;show zq s b=some b;exact pO.2 ⟨rfl,g⟩
   have s0:∀m b,Bk z m b→m=0∧s b:=by
    intro m b d;by_cases u0:m=0;·subst u0;exact⟨rfl,(j0 b).1 d⟩
    ·
     rcases d with g|⟨i,g⟩;·cases g
     ·have g:(if m=0 then zq s i else none)=some b:=g;rw[aG u0]at g;cases g
   have f0:Vs z (lP 0 a x) w0:=sO (E:=z) (w:=false) kA l0 (fun b j=>⟨b,by show zq s b=some b;exact pO.2 ⟨rfl,j⟩⟩) x9;have q9:Nat.ble w0.length fn.ntmps=true:=by rw[vJ f0];exact r9
   have y9:da (⟨fn.ntmps,qV 0 (lP 0 a x) .e,C,1,[0],1,[],[]⟩:SS) ⟨fn.ntmps,lr 0 w0 .e,h.hp,h.nx,h.lk,.undef⟩ z:=by
    refine⟨rfl,rfl,rfl,fun m e d=>?_,fun m e d=>?_,fun m e9 e t b d o9 _ _=>?_,fun m e b d j=>?_,fun b j=>j.elim,t9,fun b j=>⟨p9 b j,fun m e d u=>?_⟩,fun m b d=>r0 b (s0 m b d).2,fun m e d m9=>?_,fun b j _=>j.elim⟩;·rw[(A m e d).1];exact kA
    ·
     obtain⟨rfl,rfl⟩:=A m e d;refine⟨rfl,fun b j z0=>?_⟩;rcases z0 with z0|z0;·cases z0
     ·have:=r0 b ((j0 b).1 (.inr j));have z0:h.nx≤b:=z0;omega
    ·rw[(A m e d).1,(A e9 t o9).1]
    ·exact⟨fun h=>h,r0 b (s0 m b j).2⟩
    ·rw[(A m e d).1];rfl
    ·obtain⟨rfl,rfl⟩:=A m e d;cases m9
   obtain⟨e,k0,B,v,⟨f9,d9⟩,o,c9,w,_,o0⟩:=La w9 i9 n _ _ _ _ _ _ _ p ⟨fn.ntmps,lr 0 w0 .e,h.hp,h.nx,h.lk,.undef⟩ z y9 (sv f0);have g0:v.lo=h.nx:=w.lo;have h0:SS.jQ (⟨fn.ntmps,qV 0 (lP 0 a x) .e,C,1,[0],1,[],[]⟩:SS) 0=false:=rfl;have p0:B.st.ap 0=some (.zn true false):=(w.uL 0 kA h0).trans l0
   have i0:∀b,Ow (⟨fn.ntmps,qV 0 (lP 0 a x) .e,C,1,[0],1,[],[]⟩:SS) z b→Bk v 0 b:=by
    rintro b⟨m,t,d,u⟩;obtain⟨rfl,_⟩:=A m t d;rcases u with g|⟨i,g⟩;·cases g
    ·exact .inr ⟨i,by rw[w.ci 0 kA h0];exact g⟩
   have d0:(∀y0,e≠.exit y0)→qI cy B fn.results.toList (fun l=>match lL B.st l with|some n0=>bif bw 0 n0 then none else nJ B.st r l|none=>none)=some y→∃l v0 t0 m0,(∃g9,∀k,g9≤k→call cy.cx (run cy.cx k) f w0 h=some (one l,⟨h.nt,h.dE,v0,t0,h.lk,h.df⟩))∧h.nx≤t0∧(∀b,b<h.nx→v0.ap b=h.hp.ap b)∧(∀b,t0≤b→v0.ap b=none)∧(∀b,m0 b→h.nx≤b∧b<t0∧ra v0 b)∧fI v0 m0 r l y:=by
    intro l9 j9;obtain⟨l,b9,c0,a9,x0⟩:=oq o c9 j9;split at x0
    ·
     rename_i n0 z9;rw[aH]at x0;split at x0;·cases x0
     ·
      rename_i a0;have k9:=lN (E:=v) (Q:=fun b=>v.Z b∨∃m e,m≠0∧B.st.ap m=some e∧Bk v m b) (k:=3) (fun b j=> .inl j) (fun m e d=>o.gm m e (by rw[←o.st];exact d)) (by rw[o.st];exact x0) a9 (kR (E:=v) (by rw[o.st];exact z9) fun m e b d v9 j=> .inr ⟨m,e,by rintro rfl;exact a0 (fq.2 d),by rw[←o.st];exact v9,j⟩);refine⟨b9,k0.hp,k0.nx,fun b=>v.Z b∨∃m e,m≠0∧B.st.ap m=some e∧Bk v m b,⟨f9,fun k s9=>?_⟩,w.nx,fun b j=>?_,o.fr,fun b j=>?_,by rw[←o.hp];exact k9⟩
      ·unfold call;rw[h9,u9];simp only;rw[j];simp only;rw[q9,d9 k s9];cases e with
       |exit y0=>exact absurd rfl (l9 y0)
       |cS=>simp only[fR];rw[c0]
       |ret=>simp only[fR];rw[c0]
      ·
       by_cases e0:s b;·obtain⟨c',_,g2,_,b0⟩:=w.zn 0 true false kA p0;exact b0 b ⟨b,by show zq s b=some b;exact pO.2 ⟨rfl,e0⟩⟩
       ·exact w.DC b j fun⟨m,t,_,u⟩=>e0 (s0 m b u).2
      ·
       rcases j with j|⟨m,t,n9,d,u⟩
       ·
        have g:h.nx≤b:=by
         rcases w.z' b j with g|g|g;·exact g.elim
         ·exact absurd j (o.own 0 _ b p0 (i0 b g)).1
         ·exact g
        exact⟨g,o.z b j,o.zo b j (by rw[g0];exact g)⟩
       ·
        have g:h.nx≤b:=by
         rcases w.ow b ⟨m,t,d,u⟩with g|g;·exact absurd (o.inj m 0 _ _ b d p0 u (i0 b g)) n9
         ·exact g
        exact⟨g,(o.own m t b d u).2,by rw[←o.hp];exact uC (o.gm m t d) (o.py m t d) u (by rw[g0];exact g)⟩
    ·cases x0
   cases e with
    |exit y0=>cases o0
    |cS=>exact d0 (fun y0 q0=>by cases q0) o0
    |ret=>exact d0 (fun y0 q0=>by cases q0) o0
  ·cases p
 ·cases p
end
end Go.Ls
namespace Go.Hm
open Go Go.RowKit Go.Wk
theorem zt{s:St}{b:Nat}{x:gY}(h:s.cn b=some x):s.hp.ap b=some (.cn x):=by
 unfold St.cn at h;split at h;.rename_i y a;cases h;exact a
 .cases h
section
variable{ρ:Rn}{s s':St}{w w':World}
theorem t8{c o:Nat}{xs:Array Value}{T:TypeId}{us:List Value}(h:w.heap[c]?=some (.cells xs T (0,0)))(b:o+us.length<=xs.size):∃ys,(w.setCells c o us).heap[c]?=some (.cells ys T (0,0))/\ys.size=xs.size:=by
 have a:Wk.gY w c T xs.toList:=by unfold Wk.gY;simpa using h
 have:=vZ us o xs.toList w a (by simpa using b);refine⟨_,this,?_⟩;simp[wG];omega
theorem xm{c o i:Nat}{xs:Array Value}{T:TypeId}{us:List Value}{u:Value}(h:w.heap[c]?=some (.cells xs T (0,0)))(e:o+us.length<=xs.size)(a:us[i]?=some u):(w.setCells c o us).cell? ⟨c,o+i,none⟩=some u:=by have b:=gN a;rw[World.cell?_setCells_in c us o w (λj d=>by rw[nC h,hX (by omega)];rfl) i b];rw[G b]at a;exact a
theorem vY{c o i:Nat}{us:List Value}(h:i<o\/o+us.length<=i):(w.setCells c o us).cell? ⟨c,i,none⟩=w.cell? ⟨c,i,none⟩:=World.cell?_setCells_out c us o w _ λ_ _=>h
theorem fG.fD{b o:Nat}{l:List HV}{us:List Value}{r:RI}(h:eY ρ s.hp w)(k:ρ b=some r)(f:s.fD b o l=some s')(v0:dY ρ l us)(h1:∀x,x∈us->x.oneCell'=true):fG ρ s w ρ s' (w.setCells r.c (r.o+o) us)/\∃xs T,w.heap[r.c]?=some (.cells xs T (0,0))/\r.o+o+us.length<=xs.size:=by
 unfold St.fD at f
 cases w0:s.cn b with
  |none=>rw[w0]at f;cases f
  |some x=>
  rw[w0]at f;simp only[aH]at f;split at f
  .
   rename_i d;cases f;simp only[ae,bS]at d;obtain⟨p,_,j0⟩:=d;have n:=zt w0;have k0:=h.cn b x r n k;obtain⟨r0,q0,s0,p0,o0⟩:=k0;obtain⟨xs,T,D,n0,m0⟩:=o0 p;have w9:=fe v0;have x9:o+l.length<=x.n:=j0;have y0:r.o+o+us.length<=xs.size:=by omega
   obtain⟨a0,f0,e0⟩:=t8 (us:=us) D y0;have C:=Kp.setCells r.c us (r.o+o) w;have h0:∀c,c<w.heap.size->c≠r.c->(w.setCells r.c (r.o+o) us).heap[c]?=w.heap[c]?:=λc d j=>C.block c d (by simpa using j);have j:∀i,i≠b->(s.hp.set b (.cn ⟨true,x.z,x.n,cr x.c o l⟩)).ap i=s.hp.ap i:=λi a=>Tr.bW _ _ a;refine⟨⟨?_,λ_ _=>rfl,AK.of C λc d=>?_,?_,ar _⟩,xs,T,D,y0⟩
   .
    refine h.step (b:=b) (λi a=>rfl) (tL.refl _) C.size (λi a q t=>by rw[<-t];exact(j i a).symm) ?_ ?_ ?_ ?_
    .
     intro i q m a t z i0;refine h0 _ i0 ?_;have x0:s.hp.ap i=some q:=by rw[<-j i a];exact t
     exactλe=>h.inj b i _ q r m (λx=>a x.symm) n p x0 k z e.symm
    .
     intro y m g z;rw[k]at z;cases z;simp only at g;rw[Tr.a8]at g;cases g;refine⟨r0,q0,aQ s0 C.size,λi v a A=>?_,λ_=>⟨a0,T,f0,by rw[e0];exact n0,m0⟩⟩;simp only at A a;rw[gK]at A;split at A;.rename_i y9;obtain⟨u,B,z0⟩:=kw v0 _ v A;refine⟨u,?_,z0,h1 u (Y B)⟩;have:=xm D y0 B;rw[show r.o+i=r.o+o+(i-o)by omega];exact this
     .rename_i v9;obtain⟨u,B,z0,l0⟩:=p0 i v a A;refine⟨u,?_,z0,l0⟩;rw[vY (by omega)];exact B
    .intro z9 m g z;simp only at g;rw[Tr.a8]at g;cases g
    .
     intro i q s9 b0 r9 a t t9 u9 g0 u0;rw[k]at u0;cases u0;have x0:s.hp.ap i=some q:=by rw[<-j i a];exact t
     exactλe=>h.inj b i _ q r b0 (λx=>a x.symm) n p x0 k g0 e.symm
   .
    have:c=r.c:=by simpa using d
    subst this;exact⟨b,_,r,n,p,k,rfl⟩
   .
    intro c d;obtain⟨i,q,m,d0,c0,t0,rfl⟩:=d;left;by_cases a:i=b;.subst a;exact⟨i,_,m,n,p,t0,rfl⟩
    .exact⟨i,q,m,by rw[<-j i a];exact d0,c0,t0,rfl⟩
  .cases f
theorem fG.W9{b o n k z:Nat}{x:gY}{r r':RI}{r0:Tr HV}{bT:List HV}{us:List Value}{B:St}(h:eY ρ s.hp w)(hg:s.hp.ap b=some (.cn x))(o0:x.own=true)(y0:ρ b=some r)(u:ρ s.nx=none)(n0:dY ρ bT us)(h1:∀y,y∈us->y.oneCell'=true)(e9:bT.length=k*z)(e0:∀i v,i<(n+k)*z->r0.ap i=some v->i<n*z/\o+i<x.n/\x.c.ap (o+i)=some v\/n*z<=i/\bT[i-n*z]?=some v)(z9:B.hp=(s.hp.nU b).set s.nx (.cn ⟨true,z,(n+k)*z,r0⟩))(a9:B.nx=s.nx+1)(C:r'.n=(n+k)*z/\r'.z=z)(b0:w'=w.setCells r.c (r.o+o+n*z) us/\r'.c=r.c/\r'.o=r.o+o/\r'.gq=r.gq/\r.o+o+(n+k)*z<=r.gq\/Kp [] w w'/\r'.c=w.heap.size/\r'.o=0/\∃(ys:Array Value)(T:TypeId)(t0:List Value),w'.heap[r'.c]?=some (.cells ys T (0,0))/\ys.size=r'.gq/\(n+k)*z<=r'.gq/\t0.length=n*z/\(∀(i:Nat)(y:Value),(t0++us)[i]?=some y->ys[i]?=some y)/\∀(i:Nat)(y:Value),t0[i]?=some y->w.cell? ⟨r.c,r.o+o+i,none⟩=some y):fG ρ s w (pQ ρ s.nx r') B w':=by
 have p9:=h.cn b x r hg y0;obtain⟨i9,h9,s9,h0,r9⟩:=p9;obtain⟨k9,T,g0,q9,g9⟩:=r9 o0;have d9:=fe n0;have w0:=yr (r:=r') u;have c9:(n+k)*z=n*z+k*z:=go _ _ _;have f9:b≠s.nx:=by rintro rfl;rw[y0]at u;cases u
 have q0:∀i,i≠s.nx->∀q,B.hp.ap i=some q->i≠b/\s.hp.ap i=some q:=λi a q g=>by
  rw[z9,Tr.bW _ _ a,Tr.gU]at g;split at g;.cases g
  .rename_i p0;exact⟨p0,g⟩
 have y9:B.hp.ap s.nx=some (.cn ⟨true,z,(n+k)*z,r0⟩):=by rw[z9,Tr.a8]
 have d0:∀i q j,i≠s.nx->B.hp.ap i=some q->ρ i=some j->j.c≠r.c:=λi q j a g l=>by obtain⟨p0,l0⟩:=q0 i a q g;exactλe=>h.inj b i _ q r j (λx=>p0 x.symm) hg o0 l0 y0 l e.symm
 have i0:∀(x9:w.heap.size<=w'.heap.size)(d:AK (λc=>c=r.c) w w')(f:r'.c=r.c\/r'.c=w.heap.size)(f0:Av (pQ ρ s.nx r') w' r' ⟨true,z,(n+k)*z,r0⟩),fG ρ s w (pQ ρ s.nx r') B w':=by
  intro x9 d f f0;refine⟨?_,?_,⟨d.os,d.tape,d.output,d.size,λc f o9=>d.block c f λe=>o9 ?_⟩,?_,by omega⟩
  .
   refine h.step (b:=s.nx) (λi a=>kX _ _ a) w0 x9 (λi a q g=>(q0 i a q g).2) ?_ ?_ ?_ ?_;.exactλi q j a g l m9=>d.block _ m9 (d0 i q j a g l)
   .intro y j v0 l;rw[y9]at v0;cases v0;rw[gc]at l;cases l;exact f0
   .intro j9 j v0 l;rw[y9]at v0;cases v0
   .
    intro i q q' j r2 a g b9 b0 l a0;rw[gc]at a0;cases a0;rcases f with f|f;.rw[f];exact d0 i q j a g l
    .have:=h.at (q0 i a q g).2 l;omega
  .intro i a;refine kX _ _ ?_;omega
  .subst e;exact⟨b,_,r,hg,o0,y0,rfl⟩
  .
   intro c n9;obtain⟨i,q,j,s0,m,t,rfl⟩:=n9;by_cases a:i=s.nx
   .
    subst a;rw[gc]at t;cases t;rcases f with f|f;.left;rw[f];exact⟨b,_,r,hg,o0,y0,rfl⟩
    .right;omega
   .rw[kX _ _ a]at t;obtain⟨p0,l0⟩:=q0 i a q s0;exact .inl ⟨i,q,j,l0,m,t,rfl⟩
 rcases b0 with⟨rfl,D,u0,z0,w9⟩|⟨d,D,u0,ys,t9,t0,z0,w9,v9,k0,u9,l9⟩
 .
  have c0:r.o+o+n*z+us.length<=k9.size:=by omega
  have d:=Kp.setCells r.c us (r.o+o+n*z) w;obtain⟨ys,v9,k0⟩:=t8 (us:=us) g0 c0;refine i0 d.size (AK.of d λc f=>by simpa using f) (.inl D) ⟨C.1.symm,C.2.symm,by rw[D];exact aQ s9 d.size,λi v a x0=>?_,λ_=>⟨ys,T,by rw[D];exact v9,by rw[k0,z0];exact q9,by rw[u0,z0,C.1];omega⟩⟩;simp only at a x0;rw[D,u0];rcases e0 i v a x0 with⟨s0,m,t⟩|⟨s0,m⟩;.obtain⟨y,p,A,j0⟩:=h0 (o+i) v m t;refine⟨y,?_,VR.ext w0 _ _ A,j0⟩;rw[vY (by omega),gI];exact p
  .obtain⟨y,p,A⟩:=kw n0 _ v m;refine⟨y,?_,VR.ext w0 _ _ A,h1 y (Y p)⟩;have:=xm g0 c0 p;rw[show r.o+o+i=r.o+o+n*z+(i-n*z)by omega];exact this
 .
  refine i0 d.size ⟨d.os,d.tape,d.output,d.size,λc f _=>d.block c f (by simp)⟩ (.inr D) ⟨C.1.symm,C.2.symm,oS z0,λi v a x0=>?_,λ_=>⟨ys,t9,z0,w9,by rw[u0,C.1];omega⟩⟩;simp only at a x0;rw[nC z0,u0,br];rcases e0 i v a x0 with⟨s0,m,t⟩|⟨s0,m⟩
  .
   obtain⟨y,p,A,j0⟩:=h0 (o+i) v m t;have m0:i<t0.length:=by omega
   have:=l9 i _ (G m0);rw[show r.o+o+i=r.o+(o+i)by omega,p]at this;cases this;exact⟨_,u9 i _ (by rw[bJ m0,G m0]),VR.ext w0 _ _ A,j0⟩
  .obtain⟨y,p,A⟩:=kw n0 _ v m;refine⟨y,u9 i y ?_,VR.ext w0 _ _ A,h1 y (Y p)⟩;rw[bB (by omega),k0];exact p
end
section
variable{P:Program}
theorem B0:∀{n t:Nat}{x:qq},(Et P n).ap t=some x->qG P t=some x
 |0,t,x,h=>by cases h
 |i+1,t,x,h=>by
  unfold Et at h
  cases a:qG P i with
   |none=>rw[a]at h;exact B0 h
   |some y=>
   rw[a]at h;simp only[Tr.dg]at h;split at h;.rename_i b;rw[b,<-h];exact a
   .exact B0 h
theorem H6:∀{l:List Func}{i:Nat}{T:Tr Func}{f:Nat}{g:Func},(Ev l i T).ap f=some g->i<=f/\l[f-i]?=some g\/T.ap f=some g
 |[],i,T,f,g,h=> .inr h
 |a::l,i,T,f,g,h=>by
  unfold Ev at h;rcases H6 h with⟨b,c⟩|b
  .
   left;have b:i+1<=f:=b;refine⟨by omega,?_⟩;have:f-i=f-Nat.add i 1+1:=by show f-i=f-(i+1)+1;omega
   rw[this,dP];exact c
  .
   rw[Tr.dg]at b;split at b;.rename_i d;subst d;left;refine⟨ar _,?_⟩;rw[ee];exact b
   .exact .inr b
theorem Eu{f:Nat}{g:Func}(h:(Ev P.funcs.toList 0 .e).ap f=some g):P.funcs[f]?=some g:=by
 rcases H6 h with⟨_,b⟩|a;.simpa using b
 .cases a
structure Ty (P : Program) (t : Nat) (x : qq) (i : TypeInfo) : Prop where
  tC : P.info? t = some i
  size : i.size = x.size
  bytes : i.bytes = x.bytes
  zero : ∀ z, x.zero = some z → ∃ v, i.zero = some v ∧ KR v = some z
  agg : x.agg = LH P t
  sh : x.sh = pl P t
  ZT : ∃ d, P.underlying t = some d
theorem Ty.of{t:Nat}{x:qq}(h:qG P t=some x):∃i,Ty P t x i:=by
 unfold qG at h;split at h
 .
  rename_i i c;split at h;.cases h
  .
   rename_i d b;cases h;refine⟨i,c,rfl,rfl,λz a=>?_,rfl,rfl,d,b⟩;simp only at a;split at a;.rename_i v e;exact⟨v,e,a⟩
   .cases a
 .cases h
theorem lj{t e:Nat}(h:pl P t= .slice e):P.underlying t=some (.slice e):=by unfold pl at h;split at h<;>first|(cases h;assumption)|(split at h<;>cases h)|cases h
theorem AM{t n e:Nat}(h:pl P t= .fF n e):P.underlying t=some (.array n e):=by unfold pl at h;split at h<;>first|(cases h;assumption)|(split at h<;>cases h)|cases h
theorem F2{t:Nat}{k:IntKind}(h:pl P t= .int k):P.underlying t=some (.int k):=by unfold pl at h;split at h<;>first|(cases h;assumption)|(split at h<;>cases h)|cases h
theorem Qy{t:Nat}(h:pl P t= .bool):P.underlying t=some .bool:=by unfold pl at h;split at h<;>first|(cases h;assumption)|(split at h<;>cases h)|cases h
theorem vk{t:Nat}(h:pl P t= .dH):P.underlying t=some .string:=by unfold pl at h;split at h<;>first|(cases h;assumption)|(split at h<;>cases h)|cases h
theorem F1{t k e:Nat}(h:pl P t= .map k e):P.underlying t=some (.map k e):=by unfold pl at h;split at h<;>first|(cases h;assumption)|(split at h<;>cases h)|cases h
theorem Bt{t:Nat}{l:List (Nat×Nat)}(h:pl P t= .struct l):∃a,P.underlying t=some (.struct a)/\a.toList.mapM (λf=>(P.info? f.type).map λi=>(f.offset,i.size))=some l:=by
 unfold pl at h;split at h<;>first|cases h|skip
 rename_i a b;split at h;.rename_i d c;cases h;exact⟨a,b,c⟩
 .cases h
theorem Ez{α β:Type}{f:α->Option β}:∀{l:List α}{r:List β},l.mapM f=some r->∀(i:Nat)(y:β),r[i]?=some y->∃x,l[i]?=some x/\f x=some y
 |[],r,h,i,y,c=>by simp at h;subst h;simp at c
 |a::l,r,h,i,y,c=>by rw[tI]at h;cases d:f a with
  |none=>simp[d]at h
  |some b=>cases e:l.mapM f with
  |none=>simp[d,e]at h
  |some k=>simp[d,e]at h;subst h;cases i with
  |zero=>simp at c;subst c;exact⟨a,rfl,d⟩
  |succ i=>simp at c;obtain⟨x,g,j⟩:=Ez e i y c;exact⟨x,by simpa using g,j⟩
section
variable{t:Nat}{x:qq}{i:TypeInfo}(T:Ty P t x i)
theorem Ty.sizeOf(T:Ty P t x i)(w:World):(Go.sizeOf t).run P w= .ok x.size w:=by simp[Go.sizeOf,typeInfo,T.tC,T.size]
theorem Ty.isAgg(T:Ty P t x i)(w:World):(Go.isAgg t).run P w= .ok x.agg w:=by obtain⟨d,a⟩:=T.ZT;rw[T.agg];unfold LH;rw[a];cases d<;>simp[Go.isAgg,run_underlying a]
theorem Ty.Ka(T:Ty P t x i){z:HV}(c:x.zero=some z):∃v,KR v=some z/\∀w,(zeroValue t).run P w= .ok v w:=by obtain⟨v,a,b⟩:=T.zero z c;exact⟨v,b,λw=>by simp[zeroValue,typeInfo,T.tC,a]⟩
end
def iX(ρ:Rn)(n:Nat)(s:St)(F:dN):Prop:=s.nt=n/\∀t,VR ρ (s.tmp t) (ev n F (.tmp t))
section
variable{ρ:Rn}{n:Nat}{s:St}{F:dN}{w:World}
theorem bV(h:iX ρ n s F){x:Operand}{v:HV}(a:s.ev x=some v):VR ρ v (ev n F x):=by cases x with
 |tmp t=>cases a;exact h.2 t
 |const c=>exact uh a
 |func f=>cases a;unfold VR;exact⟨[],rfl,by unfold dY;rfl⟩
 |global g=>cases a
theorem mL(h:iX ρ n s F):∀{xs:List Operand}{l:List HV},s.kg xs=some l->dY ρ l (xs.map (ev n F))
 |[],l,a=>by cases a;unfold dY;rfl
 |x::xs,l,a=>by unfold St.kg at a;cases b:s.ev x with
  |none=>rw[b]at a;cases a
  |some v=>rw[b]at a;cases c:s.kg xs with
  |none=>rw[c]at a;cases a
  |some d=>rw[c]at a;cases a;unfold dY;exact⟨_,_,rfl,bV h b,mL h c⟩
def fC(P:Program)(n:Nat)(F:dN)(ρ:Rn)(s:St)(w:World)(o:Op):Rs->Prop| .val v a=>kx ρ s.nx a.nx->∃u b e,iL P n F w o u b/\VR e v u/\fG ρ s w e a b/\a.nt=s.nt/\a.dE=s.dE/\a.lk=s.lk| .G6 a=>∃b,XB P n F w o b/\fG ρ s w ρ a b/\a.nt=s.nt/\a.dE=s.dE/\a.lk=s.lk/\a.nx=s.nx| .call f j=>∃c:List Value,dY ρ j c/\∀(d:Option Nat)(t:Nat)(p:String)(h:Array Edge)(g:Option (Nat×Bool)),(execOp (ev n F) ⟨d,o,t,p,h,g⟩).run P w=(callFunc f c.toArray).run P w
theorem fG.refl(h:eY ρ s.hp w):fG ρ s w ρ s w:=⟨h,λ_ _=>rfl,AK.refl _ _,λ_ h=> .inl h,ar _⟩
theorem fC.pure{o:Op}{v:HV}{u:Value}(h:eY ρ s.hp w)(b:iL P n F w o u w)(a:VR ρ v u):fC P n F ρ s w o (.val v s):=λ_=>⟨u,w,ρ,b,a,fG.refl h,rfl,rfl,rfl⟩
end
end
theorem rI(k:IntKind)(n:Int):gj k n=k.wrap n:=by
 unfold gj;rw[aH];split
 .
  rename_i h;cases k<;>simp only[Cm,ae,bF,ec]at h;case i64=>rw[IntKind.wrap_i64];omega
  all_goals unfold IntKind.wrap;simp only[IntKind.bits,IntKind.signed,na,ec,ft];omega
 .rfl
section
variable{P:Program}{n:Nat}{F:dN}{ρ:Rn}{s:St}{w:World}
theorem LD{op:BinOp}{k:IntKind}{a b:Int}{v:HV}{t l:TypeId}{x y:Operand}(h:uP op k a b=some v)(c:ev n F x= .int k a)(e:ev n F y= .int k b):∃u,iL P n F w (.binOp op t x y l) u w/\VR ρ v u:=by
 cases op<;>simp only[uP,aH]at h
 case quo=>
  split at h;.cases h
  .
   rename_i f;have f:¬b=0:=by simpa using f
   cases h;refine⟨_,⟨λd j p i g=>?_⟩,by unfold VR;rfl⟩;simp[execOp,c,e,go_sem,f,rI]
 case rem=>
  split at h;.cases h
  .
   rename_i f;have f:¬b=0:=by simpa using f
   cases h;refine⟨_,⟨λd j p i g=>?_⟩,by unfold VR;rfl⟩;simp[execOp,c,e,go_sem,f]
 case shl=>cases h
 case shr=>cases h
 case eql=>cases h;refine⟨_,Sy c e,by unfold VR;rfl⟩
 case neq=>cases h;refine⟨_,So c e,by unfold VR;rfl⟩
 case lss=>cases h;exact⟨_,Sr c e,by unfold VR;rfl⟩
 case leq=>cases h;exact⟨_,Ss c e,by unfold VR;rfl⟩
 case gtr=>cases h;exact⟨_,Sw c e,by unfold VR;rfl⟩
 case geq=>cases h;exact⟨_,Sx c e,by unfold VR;rfl⟩
 all_goals cases h;refine⟨_,⟨λd j p i g=>?_⟩,by unfold VR;rfl⟩;simp[execOp,c,e,go_sem,rI];try rfl
theorem Bs{left:Bool}{k e:IntKind}{a b:Int}{v:HV}{t z:TypeId}{x y:Operand}(h:shift left k a b=some v)(l:ev n F x= .int k a)(o:ev n F y= .int e b):∃u,iL P n F w (.binOp (bif left then .shl else .shr) t x y z) u w/\VR ρ v u:=by
 cases b with
  |negSucc m=>cases h
  |ofNat m=>
  have j:¬Int.ofNat m<0:=by simp
  have i:(Int.ofNat m).toNat=m:=rfl;have f:Int.ofNat (Nat.pow 2 (Nat.min m k.bits))=(2:Int)^min m k.bits:=by show((2^min m k.bits:Nat):Int)=_;rw[FK]
  unfold shift at h;cases h;cases left
  .
   refine⟨.int k (a.fdiv (2^min m k.bits)),⟨λd r p q g=>?_⟩,by unfold VR;simp only[kM,f]⟩;have c:(binOp .shr t (.int k a) (.int e (Int.ofNat m))).run P w= .ok (.int k (a.fdiv (2^min m k.bits))) w:=by rw[binOp_shr];simp only[Op.shift,j,ft,i];rfl
   simp only[kM,execOp,l,o,Sem.run_bind,eqGuard_shr,Sem.run_pure,Result.andThen_ok,c]
  .
   refine⟨.int k (k.wrap (a*2^min m k.bits)),⟨λd r p q g=>?_⟩,by unfold VR;simp only[fR,f,rI];rfl⟩;have c:(binOp .shl t (.int k a) (.int e (Int.ofNat m))).run P w= .ok (.int k (k.wrap (a*2^min m k.bits))) w:=by rw[binOp_shl];simp only[Op.shift,j,ft,i];rfl
   simp only[fR,execOp,l,o,Sem.run_bind,eqGuard_shl,Sem.run_pure,Result.andThen_ok,c]
def wB:Bool->Value->Value->Option Bool|true,.int k a,.int c b=>if k=c then some (decide (a=b))else none|false,.bool a,.bool b=>some (a==b)|_,_,_=>none
def pv:List Bool->List Value->List Value->Option Bool
 |[],[],[]=>some true
 |p::e,a::c,b::d=>match wB p a b with|some true=>pv e c d|r=>r
 |_,_,_=>none
theorem Kx{p:Bool}{a b:HV}{u v:Value}{r:Bool}(c:VR ρ a u)(d:VR ρ b v)(h:yA p a b=some r):wB p u v=some r:=by
 unfold yA at h;split at h
 .
  unfold VR at c d;subst c d;rw[aH]at h;split at h;.rename_i e;have e:=bA e;cases h;simp[wB,e]
  .cases h
 .unfold VR at c d;subst c d;exact h
 .cases h
theorem Bx:∀{ps:List Bool}{a b:List HV}{u v:List Value}{r:Bool},dY ρ a u->dY ρ b v->ua ps a b=some r->pv ps u v=some r
 |[],[],[],u,v,r,c,d,h=>by unfold dY at c d;subst c d;exact h
 |[],[],_::_,u,v,r,c,d,h=>by cases h
 |[],_::_,_,u,v,r,c,d,h=>by cases h
 |_::_,[],_,u,v,r,c,d,h=>by cases h
 |_::_,_::_,[],u,v,r,c,d,h=>by cases h
 |p::ps,a::k,b::l,u,v,r,c,d,h=>by unfold dY at c d;obtain⟨m,o,rfl,f,g⟩:=c;obtain⟨t,x,rfl,i,j⟩:=d;unfold ua at h;unfold pv;cases e:yA p a b with
  |none=>rw[e]at h;cases h
  |some q=>rw[e]at h;rw[Kx f i e];cases q with
  |true=>exact Bx g j h
  |false=>exact h
structure ym (P : Program) (t : Nat) (m : List Bool) : Prop where
  guard : P.eqGuardType P.depth t = false
  eq : ∀ (us vs : List Value) (r : Bool) (w : World), us.length = m.length → vs.length = m.length → pv m us vs = some r → (Op.equal t (.agg us.toArray) (.agg vs.toArray)).run P w = .ok r w
def Du(P:Program)(f q:Nat):Prop:=∀(e:List HV)(s c:St)(v:HV)(ρ:Rn)(w:World)(a:List Value),yO q e s=some (v,c)->eY ρ s.hp w->kx ρ s.nx c.nx->dY ρ e a->(∃u d b,(callFunc f a.toArray).run P w= .ok (.value u) d/\VR b v u/\fG ρ s w b c d)\/(callFunc f a.toArray).run P w= .ok (.enter f a.toArray) w/\zF P f a.toArray w λu d=>∃b,VR b v u/\fG ρ s w b c d
structure gH (P : Program) (cx : Cx) : Prop where
  ti : ∀ t x, cx.ti.ap t = some x → qG P t = some x
  fn : ∀ f g, cx.fn.ap f = some g → P.funcs[f]? = some g
  nm : ∀ f g, cx.fn.ap f = some g → (g.name == "runtime.NumGoroutine") = false
  ext : ∀ f q, cx.ext.ap f = some q → Du P f q
  DJ : ∀ t m, cx.DJ.ap t = some m → ym P t m
  mix : P.follows .mixedOrders = true
variable{cx:Cx}
theorem gH.ty(h:gH P cx){t:Nat}{x:qq}(a:cx.ti.ap t=some x):∃i,Ty P t x i:=Ty.of (h.ti t x a)
theorem gH.sizeOf(h:gH P cx){t z:Nat}(a:cx.size t=some z)(w:World):(Go.sizeOf t).run P w= .ok z w:=by unfold Cx.size at a;cases b:cx.ti.ap t with
 |none=>rw[b]at a;cases a
 |some x=>rw[b]at a;cases a;obtain⟨i,c⟩:=h.ty b;exact c.sizeOf w
theorem Lg{op:BinOp}{b:Bool}{v:HV}(h:fW op b=some v):op= .eql/\v= .bool b\/op= .neq/\v= .bool (!b):=by
 unfold fW at h;split at h<;>cases h;.exact .inl ⟨rfl,rfl⟩
 .exact .inr ⟨rfl,rfl⟩
theorem x3{op:BinOp}{r:Bool}{v:HV}{t l:TypeId}{x y:Operand}{a b:Value}(h:fW op r=some v)(c:ev n F x=a)(e:ev n F y=b)(hg:∀op w,(eqGuard op t x y a b).run P w= .ok () w)(i:∀w,(binOp .eql t a b).run P w= .ok (.bool r) w)(j:∀w,(binOp .neq t a b).run P w= .ok (.bool (!r)) w):∃u,iL P n F w (.binOp op t x y l) u w/\VR ρ v u:=by
 rcases Lg h with⟨rfl,rfl⟩|⟨rfl,rfl⟩;.refine⟨.bool r,⟨λd k p f g=>?_⟩,by unfold VR;rfl⟩;simp only[execOp,c,e,Sem.run_bind,hg,Result.andThen_ok,i,Sem.run_pure]
 .refine⟨.bool (!r),⟨λd k p f g=>?_⟩,by unfold VR;rfl⟩;simp only[execOp,c,e,Sem.run_bind,hg,Result.andThen_ok,j,Sem.run_pure]
theorem Ly(C:gH P cx){op:BinOp}{a b v:HV}{t o0:TypeId}{x y:Operand}(h:lv cx op t a b=some v)(f:VR ρ a (ev n F x))(j:VR ρ b (ev n F y)):∃u,iL P n F w (.binOp op t x y o0) u w/\VR ρ v u:=by
 unfold lv at h;split at h
 .
  unfold VR at f j;split at h;.exact Bs (left:=true) h f j
  .exact Bs (left:=false) h f j
  .
   rw[aH]at h;split at h;.rename_i D;have D:=bA D;subst D;exact LD h f j
   .cases h
 .
  rename_i v0 u0;unfold VR at f j;split at h
  .
   rw[aH]at h;split at h
   .
    rename_i z0;simp only[bS]at z0;have z0:v0.size+u0.size<=1000000000:=z0;cases h;refine⟨.string (v0++u0),⟨λd j0 p k0 g=>?_⟩,by unfold VR;rfl⟩;have:¬9223372036854775807<(v0.size:Int)+(u0.size:Int):=by omega
    simp[execOp,f,j,eqGuard,binOp,Op.stringOp,IntKind.max,IntKind.signed,IntKind.bits,this]
   .cases h
  .
   refine x3 h f j (λop w=>?_) (λw=>?_) λw=>?_;.unfold eqGuard;split<;>simp
   .simp[binOp,Op.stringOp]
   .simp[binOp,Op.stringOp]
 .
  rename_i t0 s0;unfold VR at f j
  cases l:cx.ti.ap t with
   |none=>rw[l]at h;cases h
   |some z=>
   rw[l]at h;simp only at h;obtain⟨i,B⟩:=C.ty l;split at h
   .
    rename_i k;have w0:=Qy (B.sh.symm.trans k);have o:∀w,(Op.equal t (.bool t0) (.bool s0)).run P w= .ok (t0==s0) w:=λw=>by unfold Op.equal Op.maxDepth Op.equalIn;simp only[Sem.run_bind,run_underlying w0,Result.andThen_ok];rfl
    refine x3 h f j (λop w=>?_) (λw=>?_) λw=>?_;.unfold eqGuard;split<;>simp
    .simp only[binOp,Sem.run_bind,o,Result.andThen_ok,Sem.run_pure]
    .simp only[binOp,Sem.run_bind,o,Result.andThen_ok,Sem.run_pure]
   .cases h
 .
  unfold VR at f j;obtain⟨n0,f,r0,_⟩:=f;obtain⟨m0,j,q0,_⟩:=j
  cases l:cx.DJ.ap t with
   |none=>rw[l]at h;cases h
   |some m=>
   rw[l]at h;simp only[aH]at h;split at h
   .
    rename_i y0;simp only[ae]at y0;split at h
    .
     rename_i r x0;have p0:=C.DJ t m l;have o:∀w,(Op.equal t (.agg n0.toArray) (.agg m0.toArray)).run P w= .ok r w:=λw=>p0.eq n0 m0 r w (by rw[fe r0];exact au y0.1) (by rw[fe q0];exact au y0.2) (Bx r0 q0 x0);refine x3 h f j (λop w=>?_) (λw=>?_) λw=>?_;.unfold eqGuard;split<;>simp[p0.guard]
     .simp only[binOp,Sem.run_bind,o,Result.andThen_ok,Sem.run_pure]
     .simp only[binOp,Sem.run_bind,o,Result.andThen_ok,Sem.run_pure]
    .cases h
   .cases h
 .
  unfold VR at j
  cases l:cx.ti.ap t with
   |none=>rw[l]at h;cases h
   |some z=>
   rw[l]at h;simp only at h;obtain⟨i,B⟩:=C.ty l
   have A:∀{e:Nat}{r:Bool}{q:Option Addr}{m c:Nat},z.sh= .slice e->ev n F x= .slice q m c->q.isNone=r->fW op r=some v->∃u,iL P n F w (.binOp op t x y o0) u w/\VR ρ v u:=by
    intro e r q m c k f x0 h;have w0:=lj (B.sh.symm.trans k);have o:∀w,(Op.equal t (.slice q m c) (.slice none 0 0)).run P w= .ok r w:=λw=>by rw[<-x0];unfold Op.equal Op.maxDepth Op.equalIn;simp only[Sem.run_bind,run_underlying w0,Result.andThen_ok];cases q<;>rfl
    refine x3 h f j (λop w=>?_) (λw=>?_) λw=>?_;.unfold eqGuard;split<;>simp
    .simp only[binOp,Sem.run_bind,o,Result.andThen_ok,Sem.run_pure]
    .simp only[binOp,Sem.run_bind,o,Result.andThen_ok,Sem.run_pure]
   split at h;.rename_i k;unfold VR at f;exact A k f rfl h
   .rename_i k;unfold VR at f;obtain⟨r,l0,_,f,_⟩:=f;exact A k f rfl h
   .rename_i k;unfold VR at f;obtain⟨r,l0,_,f,_⟩:=f;exact A k f rfl h
   .rename_i k;unfold VR at f;obtain⟨a,f⟩:=f;exact A k f rfl h
   .rename_i k;unfold VR at f;obtain⟨a,c,f,_⟩:=f;exact A k f rfl h
   .cases h
 .cases h
end
section
variable{P:Program}{n:Nat}{F:dN}{ρ:Rn}{s:St}{w:World}{cx:Cx}
theorem qQ{r:RI}{x:gY}(h:Av ρ w r x):∀{k o:Nat}{l:List HV},cu x o k=some l->∃us,dY ρ l us/\Dw w r.c (r.o+o) us/\(∀u,u∈us->u.oneCell'=true)/\us.length=k
 |0,o,l,a=>by cases a;exact⟨[],by unfold dY;rfl,λj v b=>by simp at b,(λu y=>by cases y),rfl⟩
 |k+1,o,l,a=>by
  unfold cu at a
  cases b:x.ap o with
   |none=>rw[b]at a;cases a
   |some v=>
   rw[b]at a
   cases d:cu x (Nat.add o 1) k with
    |none=>rw[d]at a;cases a
    |some A=>
    rw[d]at a;cases a;obtain⟨us,e,f,g,i⟩:=qQ h d;rw[gY.GJ]at b;split at b
    .
     rename_i t;obtain⟨u,m,p,q⟩:=h.2.2.2.1 o v t b;refine⟨u::us,by unfold dY;exact⟨u,us,rfl,p,e⟩,λj z c=>?_,λz c=>?_,by simp[i]⟩
     .cases j with
      |zero=>simp at c;subst c;exact m
      |succ j=>simp at c;have:=f j z c;rw[show r.o+o+(j+1)=r.o+Nat.add o 1+j by show _=r.o+(o+1)+j;omega];exact this
     .
      rcases co.1 c with rfl|c;.exact q
      .exact g z c
    .cases b
theorem xY(a:eY ρ s.hp w){b:Nat}{x:gY}{r:RI}(h:s.cn b=some x)(c:ρ b=some r):Av ρ w r x:=a.cn b x r (zt h) c
theorem td(D:eY ρ s.hp w){z m:Nat}{v:HV}{u:Value}{l:List HV}(h:cellsOf s z v=some l)(e:lenOf v=some m)(d:VR ρ v u):∃us a c,u= .slice a m c/\m<=c/\c<=maxLen/\m<=140737488355328/\dY ρ l us/\us.length=m*z/\(∀y,y∈us->y.oneCell'=true)/\(m=0/\us=[]\/∃b o,a=some ⟨b,o,none⟩/\Dw w b o us):=by
 unfold cellsOf at h;split at h;.cases h;cases e;unfold VR at d;exact⟨[],none,0,d,ar _,aP _,aP _,by unfold dY;rfl,by simp,(λ_ h=>by cases h),.inl ⟨rfl,rfl⟩⟩
 .cases h;cases e;unfold VR at d;obtain⟨a,d⟩:=d;exact⟨[],some a,0,d,ar _,aP _,aP _,by unfold dY;rfl,by simp,(λ_ h=>by cases h),.inl ⟨rfl,rfl⟩⟩
 .cases h;cases e;unfold VR at d;obtain⟨a,c,d,x0⟩:=d;exact⟨[],some a,c,d,aP _,x0,aP _,by unfold dY;rfl,by simp,(λ_ h=>by cases h),.inl ⟨rfl,rfl⟩⟩
 .
  cases e;unfold VR at d;obtain⟨r,f,p,q,t,B,C,z0,y0⟩:=d;split at h;.rename_i x A;obtain⟨us,g,i,j,k⟩:=qQ (xY D A p) h;exact⟨us,_,f,q,t,z0,y0,g,k,j,.inr ⟨_,_,rfl,i⟩⟩
  .cases h
 .
  cases e;unfold VR at d;obtain⟨r,f,p,q,t,B,C⟩:=d;split at h;.rename_i x A;obtain⟨us,g,i,j,k⟩:=qQ (xY D A p) h;exact⟨us,_,f,q,t,B,C,g,k,j,.inr ⟨_,_,rfl,i⟩⟩
  .cases h
 .cases h
theorem qc{v:HV}{u:Value}{m:Nat}(h:i5 v=some m)(a:VR ρ v u):∃k,u= .int k (m:Int):=by
 unfold i5 at h;split at h;.cases h;unfold VR at a;exact⟨_,a⟩
 .cases h
theorem Ic(x0:gH P cx)(y0:eY ρ s.hp w){t:Nat}{a:HV}{x:Operand}{r:Rs}(h:iQ cx s t a=some r)(d:VR ρ a (ev n F x)):∃v,r= .val v s/\∃u,iL P n F w (.load t x) u w/\VR ρ v u:=by
 unfold iQ at h;split at h
 .
  rename_i b o;unfold VR at d;obtain⟨q,u0,d⟩:=d;split at h
  .
   rename_i y t0;obtain⟨i,g⟩:=x0.ty t0;split at h
   .
    rename_i z e;have k:=xY y0 e u0;rw[aH]at h;split at h
    .
     rename_i c;split at h;.rename_i l w0;cases h;obtain⟨m,p,A,B,C⟩:=qQ k w0;refine⟨_,rfl,.agg m.toArray,LJ (λw=>by rw[g.isAgg,c]) (λw=>by rw[g.sizeOf,C]) d A,?_⟩;unfold VR;exact⟨m,rfl,p,B⟩
     .cases h
    .
     rename_i c;split at h
     .
      rename_i v f;cases h;rw[gY.GJ]at f;split at f
      .
       rename_i v0;obtain⟨u,D,z0,s0⟩:=k.2.2.2.1 o v v0 f;refine⟨_,rfl,u,?_,z0⟩;have c:y.agg=false:=by simpa using c
       refine LK (b:=q.c) (o:=q.o+o) (j:=0) (cs:=[u]) (λw=>by rw[g.isAgg,c]) d (λj z e=>?_) rfl
       cases j with
        |zero=>simp at e;subst e;exact D
        |succ j=>simp at e
      .cases f
     .cases h
   .cases h
  .cases h
 .cases h
theorem Pc(k:gH P cx){t i:Nat}{a:HV}{x:Operand}{r:Rs}(h:mN cx s t a i=some r)(c:VR ρ a (ev n F x)):∃v,r= .val v s/\∃u,iL P n F w (.fieldAddr t x i) u w/\VR ρ v u:=by
 unfold mN at h;split at h
 .
  rename_i b o;unfold VR at c;obtain⟨q,C,c⟩:=c;split at h
  .
   rename_i y y0;obtain⟨j,g⟩:=k.ty y0;split at h
   .
    rename_i w0 D;obtain⟨x0,z0,z⟩:=Bt (g.sh.symm.trans D);split at h
    .rename_i p m A;cases h;obtain⟨f,l,e⟩:=Ez z i _ A;cases d:P.info? f.type with
     |none=>simp[d]at e
     |some v0=>simp only[d,ms,eP,Prod.mk.injEq]at e;obtain⟨rfl,B⟩:=e;refine⟨_,rfl,_,LL (z:=m) z0 (by simpa using l) (λw=>by simp[Go.sizeOf,typeInfo,d,B]) c,?_⟩;unfold VR;exact⟨q,C,by rw[gI];rfl⟩
    .cases h
   .cases h
  .cases h
 .cases h
theorem K4(A:gH P cx){t:Nat}{a i:HV}{x y:Operand}{r:Rs}(h:fJ cx s t a i=some r)(c:VR ρ a (ev n F x))(x0:VR ρ i (ev n F y)):∃v,r= .val v s/\∃u,iL P n F w (.indexAddr t x y) u w/\VR ρ v u:=by
 unfold fJ at h;split at h
 .
  rename_i z w0;obtain⟨v0,B⟩:=A.ty w0;split at h
  .
   rename_i j y0;obtain⟨k,C⟩:=qc y0 x0;split at h
   .
    rename_i m e b o l;have p:=AM (B.sh.symm.trans l);unfold VR at c;obtain⟨q,f,c⟩:=c;split at h
    .
     rename_i D g;rw[aH]at h;split at h;.rename_i d;cases h;refine⟨_,rfl,_,PK p (A.sizeOf g) c C (ku.1 d),?_⟩;unfold VR;exact⟨q,f,by rw[gI];rfl⟩
     .cases h
    .cases h
   .
    rename_i e b o m l;have p:=lj (B.sh.symm.trans l);unfold VR at c;obtain⟨q,z0,f,c,_⟩:=c;split at h
    .
     rename_i D g;rw[aH]at h;split at h;.rename_i d;cases h;refine⟨_,rfl,_,Fa p (A.sizeOf g) c C (ku.1 d),?_⟩;unfold VR;exact⟨q,f,by rw[gI];rfl⟩
     .cases h
    .cases h
   .
    rename_i e b o m l;have p:=lj (B.sh.symm.trans l);unfold VR at c;obtain⟨q,z0,f,c,_⟩:=c;split at h
    .
     rename_i D g;rw[aH]at h;split at h;.rename_i d;cases h;refine⟨_,rfl,_,Fa p (A.sizeOf g) c C (ku.1 d),?_⟩;unfold VR;exact⟨q,f,by rw[gI];rfl⟩
     .cases h
    .cases h
   .cases h
  .cases h
 .cases h
end
section
variable{P:Program}{n:Nat}{F:dN}{ρ:Rn}{s:St}{w:World}{cx:Cx}
theorem CA(d:iX ρ n s F){o:Option Operand}{v:Option HV}{m:Option Nat}(h:n7 s o=some v)(a:fw v=some m):m=none/\o.map (ev n F)=none\/∃j k,m=some j/\o.map (ev n F)=some (.int k (j:Int)):=by cases o with
 |none=>cases h;cases a;exact .inl ⟨rfl,rfl⟩
 |some x=>unfold n7 at h;simp only at h;cases c:s.ev x with
 |none=>rw[c]at h;cases h
 |some v=>rw[c]at h;cases h;unfold fw at a;simp only at a;cases b:i5 v with
 |none=>rw[b]at a;cases a
 |some j=>rw[b]at a;cases a;obtain⟨k,e⟩:=qc b (bV d c);exact .inr ⟨j,k,rfl,by simp[e]⟩
theorem lK{j:Bool}{len cap l h m:Nat}{lo hi d:Option Value}(g:lo=none/\l=0\/∃k,lo=some (.int k (l:Int)))(f:hi=none/\h=len/\d=none\/∃k,hi=some (.int k (h:Int)))(a:d=none/\m=cap\/∃k,d=some (.int k (m:Int)))(h1:l<=h)(h2:h<=m)(e:m<=cap):(Instr.sliceBounds j len cap lo hi d).run P w= .ok (l,h,m) w:=by
 have b:∀(k:IntKind)(i y:Nat)(c:BoundsCode),i<=y->(Instr.sliceBound (.int k (i:Int)) y c).run P w= .ok i w:=λk i y c hi=>by simp[Instr.sliceBound,asIntOf,hi]
 rcases g with⟨rfl,rfl⟩|⟨o,rfl⟩<;>rcases f with⟨rfl,rfl,rfl⟩|⟨p,rfl⟩<;>rcases a with⟨a,rfl⟩|⟨q,a⟩<;>(first|(cases a;done)|skip)<;>(try subst a)<;>(try cases a)<;>simp[Instr.sliceBounds,b,h1,h2,e]
theorem oZ{t e z:TypeId}{x:Operand}{lo hi b:Option Operand}{a:Option Addr}{len cap l h m:Nat}(f:P.underlying t=some (.slice e))(j:∀w,(Go.sizeOf e).run P w= .ok z w)(i:ev n F x= .slice a len cap)(c:∀w,(Instr.sliceBounds true len cap (lo.map (ev n F)) (hi.map (ev n F)) (b.map (ev n F))).run P w= .ok (l,h,m) w):iL P n F w (.slice t x lo hi b) (.slice (if m=l then a else a.map (·.add (l*z))) (h-l) (m-l)) w:=by refine⟨fun d o p k g=>?_⟩;simp[execOp,i,Instr.sliceAt,Instr.slice,run_underlying f,c,j]
theorem DT{t e z len:TypeId}{x:Operand}{lo hi b:Option Operand}{a:Addr}{l h m:Nat}(f:P.underlying t=some (.array len e))(j:∀w,(Go.sizeOf e).run P w= .ok z w)(i:ev n F x= .pointer (some a))(c:∀w,(Instr.sliceBounds false len len (lo.map (ev n F)) (hi.map (ev n F)) (b.map (ev n F))).run P w= .ok (l,h,m) w):iL P n F w (.slice t x lo hi b) (.slice (some (if m=l then a else a.add (l*z))) (h-l) (m-l)) w:=by refine⟨λd o p k g=>?_⟩;simp[execOp,i,Instr.sliceAt,run_underlying f,Instr.sureAddr,c,j]
theorem DS{t:TypeId}{x:Operand}{lo hi:Option Operand}{b:ByteArray}{l h m:Nat}(c:P.underlying t=some .string)(e:ev n F x= .string b)(a:∀w,(Instr.sliceBounds false b.size b.size (lo.map (ev n F)) (hi.map (ev n F)) none).run P w= .ok (l,h,m) w):iL P n F w (.slice t x lo hi none) (.string (b.extract l h)) w:=by refine⟨λd i p f g=>?_⟩;simp[execOp,e,Instr.sliceAt,Instr.slice,run_underlying c,a]
theorem ql(c o k:Nat):Addr.add ⟨c,o,none⟩ k=⟨c,o+k,none⟩:=Addr.add_lit c o k
theorem yL{b o z l h m c cap:Nat}{r:RI}{mk:Nat->Nat->Nat->HV}{a:Addr}(i:a=⟨r.c,r.o+o,none⟩)(q:l<=h)(u:h<=m)(v:m<=maxLen)(k:l≠m\/l=0->VR ρ (mk b (o+l*z) (h-l)) (.slice (some ⟨r.c,r.o+(o+l*z),none⟩) (h-l) (m-l))):VR ρ (part mk b o z l h) (.slice (some (if m=l then a else a.add (l*z))) (h-l) (m-l)):=by
 unfold part;rw[aH];split;.rename_i d;simp only[ae,ju]at d;have:=au d.1;subst this;unfold VR;exact⟨_,_,by rw[ee],by omega⟩
 .
  rename_i d;subst i
  have g:l≠m\/l=0:=by
   by_cases f:l=0;.exact .inr f
   .
    left;intro t;apply d;have:h=l:=by omega
    subst this;simp only[ae,ju,wo,true_and]
    cases j:Nat.beq h 0 with
     |false=>rfl
     |true=>exact absurd (au j) f
  have:=k g
  have e:(if m=l then(⟨r.c,r.o+o,none⟩:Addr)else Addr.add ⟨r.c,r.o+o,none⟩ (l*z))=⟨r.c,r.o+(o+l*z),none⟩:=by
   split
   .
    rename_i p;rcases g with h|h;.exact absurd p.symm h
    .subst h;simp
   .rw[ql,gI]
  rw[e];exact this
theorem OE(x0:gH P cx)(hH:eY ρ s.hp w)(t9:iX ρ n s F){t:Nat}{a:HV}{lo hi g9:Option HV}{x:Operand}{d0 j0 t0:Option Operand}{r:Rs}(h:eG cx s t a lo hi g9=some r)(f:VR ρ a (ev n F x))(h1:n7 s d0=some lo)(h2:n7 s j0=some hi)(h3:n7 s t0=some g9):∃v,r= .val v s∧∃u,iL P n F w (.slice t x d0 j0 t0) u w∧VR ρ v u:=by
 unfold eG at h;split at h
 ·
  rename_i z o9 z9 m0 g0 hl' hh' hm';obtain⟨ti,i0⟩:=x0.ty g0;have q1:=CA t9 h1 hl';have f9:=CA t9 h2 hh';have n9:=CA t9 h3 hm'
  have u0:d0.map (ev n F)=none∧dW 0 o9=0∨∃k,d0.map (ev n F)=some (.int k (dW 0 o9:Nat)):=by
   rcases q1 with⟨rfl,g⟩|⟨j,k,rfl,g⟩;·exact .inl ⟨g,rfl⟩
   ·exact .inr ⟨k,g⟩
  simp only at h;generalize dW 0 o9=l at h u0
  have f0:∀d,m0=none→j0.map (ev n F)=none∧dW d z9=d∧t0.map (ev n F)=none∨∃k,j0.map (ev n F)=some (.int k (dW d z9:Nat)):=by
   intro d r9;rcases f9 with⟨rfl,g⟩|⟨j,k,rfl,g⟩
   ·
    left;refine⟨g,rfl,?_⟩;rcases n9 with⟨_,g⟩|⟨j,k,z0,_⟩;·exact g
    ·rw[r9]at z0;cases z0
   ·exact .inr ⟨k,g⟩
  have e0:m0=none→t0.map (ev n F)=none:=fun r9=>by
   rcases n9 with⟨_,h⟩|⟨j,k,z0,_⟩;·exact h
   ·rw[r9]at z0;cases z0
  have l0:∀m,m0=some m→∃k,t0.map (ev n F)=some (.int k (m:Int)):=fun m D=>by
   rcases n9 with⟨h0,_⟩|⟨j,k,z0,h⟩;·rw[D]at h0;cases h0
   ·rw[D]at z0;cases z0;exact⟨k,h⟩
  have k0:∀m,z9=some m→∃k,j0.map (ev n F)=some (.int k (m:Int)):=fun m D=>by
   rcases f9 with⟨h0,_⟩|⟨j,k,z0,h⟩;·rw[D]at h0;cases h0
   ·rw[D]at z0;cases z0;exact⟨k,h⟩
  split at h
  ·
   rename_i e b o q0 v0;have y0:=lj (i0.sh.symm.trans v0);split at h
   ·
    rename_i B y o0 hy;split at h
    ·
     rename_i v p;cases h;refine⟨v,rfl,?_⟩;unfold VR at f;obtain⟨r,w0,r0,f,v9,c0,u9,e9,c5⟩:=f;have hB:=xY hH hy r0;obtain⟨g1,a0,_⟩:=hB;unfold iH at p;simp only[aH]at p;split at p
     ·
      rename_i A;simp only[ae,bS]at A;obtain⟨⟨c9,d9⟩,b0,p0,b9⟩:=A;have p0:=au p0
      have k9:∀k,Nat.add o (Nat.mul k B)≤y.n→k≤w0:=fun k s9=>by
       have s9:o+k*B≤y.n:=s9;have:k*B≤w0*B:=by rw[←p0,a0];rw[←p0,a0]at s9;omega
       exact pD this c9
      have j9:=k9 _ b9;split at p
      ·
       cases p;refine⟨_,oZ y0 (x0.sizeOf o0) f fun w=>lK u0 (f0 q0 rfl) (.inl ⟨e0 rfl,rfl⟩) b0 j9 (ar _),?_⟩
       have:=yL (ρ:=ρ) (b:=b) (z:=B) (mk:= .sl) (r:=r) (c:=0) (cap:=0) (a:=⟨r.c,r.o+o,none⟩) rfl b0 j9 e9 fun h9=>by
        unfold VR;have D:(w0-l)*r.z+l*r.z=w0*r.z:=by rw[←go];congr 1;omega
        have:r.z=B:=by rw[←a0,p0]
        rw[this]at D c0 u9;refine⟨r,w0-l,r0,rfl,by omega,by rw[this];omega,by rw[this];omega,by omega,by omega⟩
       split;·rename_i C;rw[aE C]at this;exact this
       ·rename_i C;rw[aG C]at this;exact this
      ·cases p
      ·
       rename_i m s0;split at p
       ·
        rename_i l9;simp only[ae,bS]at l9;obtain⟨m9,a9⟩:=l9;have i9:=k9 _ a9;obtain⟨p9,k0⟩:=k0 _ rfl;obtain⟨q9,l0⟩:=l0 _ rfl;have d2':l≤s0:=b0;have e1':s0≤m:=m9;have d0':s0≤140737488355328:=d9;have hv1:=oZ (w:=w) y0 (x0.sizeOf o0) f fun w=>lK u0 (.inr ⟨p9,k0⟩) (.inr ⟨q9,l0⟩) b0 m9 i9;refine⟨_,hv1,?_⟩;split at p
        ·
         rename_i C;have C:=au C;cases p;have:s0=l:=by omega
         unfold VR;refine⟨⟨r.c,r.o+o,none⟩,?_⟩;have h0:s0-l=0:=by omega
         have h1:m-l=0:=by omega
         simp[h0,h1,C]
        ·
         rename_i C;have C:m≠l:=fun e=>C (by rw[e];exact wo l);split at p
         ·
          rename_i y9;have y9:=au y9;have y9:o+m*B=y.n:=y9;cases p;have g0:r.z=B:=by rw[←a0,p0]
          have D:(m-l)*r.z+l*r.z=m*r.z:=by rw[←go];congr 1;omega
          have hmm:m*B≤w0*B:=cq _ i9;rw[g0]at D c0 u9;unfold VR;rw[aG C];simp only[dW,ms,ql];refine⟨r,m-l,r0,by rw[gI];rfl,by show s0-l≤m-l;omega,?_,?_,by omega,?_⟩;·rw[g0,←g1];show y.n≤o+l*B+(m-l)*B;omega
          ·rw[g0];show r.o+(o+l*B)+(m-l)*B≤r.gq;omega
          ·show s0-l≤_;omega
         ·cases p;unfold VR;trivial
       ·cases p
     ·cases p
    ·cases h
   ·cases h
  ·
   rename_i e b o q0 v0;have y0:=lj (i0.sh.symm.trans v0);split at h
   ·
    rename_i B o0;rw[aH]at h;split at h
    ·
     rename_i A;simp only[ae,bS]at A;cases h;unfold VR at f;obtain⟨r,w0,r0,f,v9,c0,u9⟩:=f;refine⟨_,rfl,_,oZ y0 (x0.sizeOf o0) f fun w=>lK u0 (f0 q0 rfl) (.inl ⟨e0 rfl,rfl⟩) A.1 (aU A.2 v9) (ar _),?_⟩;have:=yL (ρ:=ρ) (b:=b) (z:=B) (mk:= .jz) (r:=r) (c:=0) (cap:=0) (a:=⟨r.c,r.o+o,none⟩) rfl A.1 (aU A.2 v9) c0 (fun h9=>by unfold VR;exact⟨r,w0-l,r0,rfl,by omega,by omega,by omega⟩);split;·rename_i C;rw[aE C]at this;exact this
     ·rename_i C;rw[aG C]at this;exact this
    ·cases h
   ·cases h
  ·
   rename_i e v0 v0 hs2 hs3 hs4;have y0:=lj (i0.sh.symm.trans hs2);split at h
   ·
    rename_i z3 v w9 p;cases h;refine⟨v,rfl,?_⟩;have w9:=fun w=>x0.sizeOf w9 w;unfold gT at p;simp only[aH]at p;split at p
    ·
     rename_i A;simp only[ae]at A;have hl:=au A.1;have x9:=au A.2.1;have D:=au A.2.2;subst hl
     have n0:∀(q:Option Addr)(c:Nat),ev n F x= .slice q 0 c→(m0=none∨∃j,m0=some j∧∃i,z9=some i)→iL P n F w (.slice t x d0 j0 t0) (.slice q 0 (match m0 with|none=>c|some _=>0)) w:=by
      intro q c f how;rcases how with rfl|⟨j,rfl,i,rfl⟩
      ·
       have:=oZ (w:=w) y0 w9 f fun w=>lK u0 (f0 0 rfl) (.inl ⟨e0 rfl,rfl⟩) (aP _) (by rw[x9];exact aP _) (ar _);rw[x9]at this
       have e:(if c=0 then q else q.map (·.add (0*z3)))=q:=by cases q with
        |none=>simp
        |some a=>simp[Addr.add]
       rw[e]at this;exact this
      ·obtain⟨p9,k0⟩:=k0 _ rfl;obtain⟨q9,l0⟩:=l0 _ rfl;simp only[dW]at x9 D;subst x9 D;have:=oZ (w:=w) y0 w9 f fun w=>lK u0 (.inr ⟨p9,k0⟩) (.inr ⟨q9,l0⟩) (aP _) (ar _) (aP _);simpa using this
     split at p;·cases p;unfold VR at f;exact⟨_,n0 _ _ f (.inl rfl),by unfold VR;rfl⟩
     ·cases p;unfold VR at f;exact⟨_,n0 _ _ f (.inr ⟨_,rfl,_,rfl⟩),by unfold VR;rfl⟩
     ·cases p;unfold VR at f;obtain⟨a,f⟩:=f;exact⟨_,n0 _ _ f (.inl rfl),by unfold VR;exact⟨a,rfl⟩⟩
     ·cases p;unfold VR at f;obtain⟨a,f⟩:=f;exact⟨_,n0 _ _ f (.inr ⟨_,rfl,_,rfl⟩),by unfold VR;exact⟨a,rfl⟩⟩
     ·cases p;unfold VR at f;obtain⟨a,c,f,x0⟩:=f;exact⟨_,n0 _ _ f (.inl rfl),by unfold VR;exact⟨a,c,rfl,x0⟩⟩
     ·cases p;unfold VR at f;obtain⟨a,c,f,x0⟩:=f;exact⟨_,n0 _ _ f (.inr ⟨_,rfl,_,rfl⟩),by unfold VR;exact⟨a,rfl⟩⟩
     ·cases p
    ·cases p
   ·cases h
  ·
   rename_i q0 e b o v0;have y0:=AM (i0.sh.symm.trans v0);split at h
   ·
    rename_i B o0;rw[aH]at h;split at h
    ·
     rename_i A;simp only[ae,bS]at A;cases h;unfold VR at f;obtain⟨r,r0,f⟩:=f;have hmax:q0≤maxLen:=by unfold maxLen;omega
     refine⟨_,rfl,_,DT y0 (x0.sizeOf o0) f fun w=>lK u0 (f0 q0 rfl) (.inl ⟨e0 rfl,rfl⟩) A.2.1 A.2.2 (ar _),?_⟩;exact yL (ρ:=ρ) (b:=b) (z:=B) (mk:= .jz) (r:=r) (c:=0) (cap:=0) (a:=⟨r.c,r.o+o,none⟩) rfl A.2.1 A.2.2 hmax fun h9=>by unfold VR;exact⟨r,q0-l,r0,rfl,by omega,by omega,by omega⟩
    ·cases h
   ·cases h
  ·
   rename_i b v0;have y0:=vk (i0.sh.symm.trans v0);split at h
   ·
    rw[aH]at h;split at h
    ·
     rename_i A;simp only[ae,bS]at A;cases h;unfold VR at f
     have hxm:t0=none:=by have:=e0 rfl;cases t0 with
      |none=>rfl
      |some y=>cases this
     subst hxm;refine⟨_,rfl,_,DS y0 f fun w=>lK u0 (f0 b.size rfl) (.inl ⟨rfl,rfl⟩) A.1 A.2 (ar _),by unfold VR;rfl⟩
    ·cases h
   ·cases h
  ·cases h
 ·cases h
end
theorem DN(l:List UInt8):∀(b:ByteArray),l.foldl (λr n=>r.push n) b=⟨⟨b.data.toList++l⟩⟩:=by induction l with
 |nil=>intro b;simp
 |cons a l c=>intro b;rw[fL,c];simp[ByteArray.push]
section
variable{P:Program}{n:Nat}{F:dN}{ρ:Rn}{s:St}{w:World}{cx:Cx}
theorem xe:∀{l:List HV}{us:List Value}{c:List UInt8},pS l=some c->dY ρ l us->∃d:List Int,us=d.map (Value.int .u8)/\c=d.map λn=>UInt8.ofNat n.toNat
 |[],us,c,h,b=>by cases h;unfold dY at b;exact⟨[],by simp[b],rfl⟩
 |a::l,us,c,h,b=>by
  unfold pS at h;split at h;.rename_i e;cases e
  .
   rename_i m r e;cases e;unfold dY at b;obtain⟨u,k,rfl,f,g⟩:=b;split at h;.rename_i j i;cases h;obtain⟨d,rfl,rfl⟩:=xe i g;unfold VR at f;exact⟨Int.ofNat m::d,by rw[f];rfl,rfl⟩
   .cases h
  .cases h
theorem GD{z:Nat}{v:HV}{l:List HV}(h:cellsOf s z v=some l):∃m,lenOf v=some m:=by cases v<;>first|exact⟨_,rfl⟩|cases h
theorem Lx{v:HV}{u:Value}{l:List HV}{h:List UInt8}(y:eY ρ s.hp w)(k:cellsOf s 1 v=some l)(z:pS l=some h)(y0:VR ρ v u):∃a m c,u= .slice a m c/\(Conv.bytesToString (.slice a m c)).run P w= .ok (.string ⟨⟨h⟩⟩) w:=by
 obtain⟨m,B⟩:=GD k;obtain⟨t0,g,c,p,x0,w0,v0,r,f,u0,t⟩:=td y k B y0;obtain⟨d,e,rfl⟩:=xe z r;refine⟨g,m,c,p,?_⟩;rw[e,cZ,hQ]at f;rcases t with⟨_,x⟩|⟨b,o,rfl,i⟩
 .
  rw[x]at e;have D:d=[]:=by simpa using e.symm
  subst D;have C:m=0:=f.symm;subst C
  cases g with
   |none=>rfl
   |some q=>rw[run_bytesToString w q 0 c [] (by simp[loadCells,loadCellsFrom])];rfl
 .
  rw[e]at i;have A:(loadCells ⟨b,o,none⟩ m).run P w= .ok (d.map (Value.int .u8)).toArray w:=by have:=run_loadCells_list (P:=P) w ⟨b,o,none⟩ (d.map (Value.int .u8)) (λj v z0=>by rw[ql];exact i j v z0);rw[cZ,f]at this;exact this
  rw[run_bytesToString w _ m c d A];have:=DN (d.map λn=>UInt8.ofNat n.toNat) ByteArray.empty;rw[List.foldl_map]at this;rw[this];rfl
theorem IL(t:gH P cx)(v0:eY ρ s.hp w){A B:TypeId}{a:HV}{x:Operand}{r:Rs}(h:gx cx s A B a=some r)(j:VR ρ a (ev n F x)):∃v,r= .val v s/\∃u,iL P n F w (.convert A B x) u w/\VR ρ v u:=by
 unfold gx at h;split at h
 .
  rename_i f0 e0 n0 m0;obtain⟨i0,y⟩:=t.ty n0;obtain⟨h0,o⟩:=t.ty m0;obtain⟨y0,z⟩:=y.ZT;split at h;.rename_i k q m f;cases h;have i:=F2 (o.sh.symm.trans f);unfold VR at j;exact⟨_,rfl,_,LM z i j,by unfold VR;rw[rI]⟩
  .rename_i b f;cases h;have i:=vk (o.sh.symm.trans f);unfold VR at j;refine⟨_,rfl,.string b,⟨λd l0 p D g=>?_⟩,by unfold VR;rfl⟩;cases y0<;>simp[execOp,j,convert,run_underlying z,run_underlying i]
  .
   rename_i f j0;have i:=vk (o.sh.symm.trans f);split at h
   .
    rename_i e r0;have p0:=lj (y.sh.symm.trans r0);split at h
    .
     rename_i q s0;obtain⟨g0,C⟩:=t.ty s0;split at h
     .
      rename_i q0;have o0:=F2 (C.sh.symm.trans q0);split at h
      .
       rename_i l t0;split at h;.rename_i z0 u0;cases h;obtain⟨k0,m,c,x0,w0⟩:=Lx (P:=P) v0 t0 u0 j;refine⟨_,rfl,.string ⟨⟨z0⟩⟩,⟨λd l0 p D g=>?_⟩,by unfold VR;rfl⟩;simp[execOp,x0,convert,run_underlying p0,run_underlying i,run_underlying o0,w0]
       .cases h
      .cases h
     .cases h
    .cases h
   .cases h
  .cases h
 .cases h
theorem MQ(o:gH P cx)(B:eY ρ s.hp w){t:TypeId}{x:Operand}{v:HV}{m:Nat}(f:VR ρ v (ev n F x))(j:∃z,cx.ti.ap t=some z/\((∃e,z.sh= .slice e/\∀b,v≠.dH b)\/z.sh= .dH/\∃b,v= .dH b))(h:lenOf v=some m):iL P n F w (.call {callee:= .builtin .len,args:= #[x],argTypes:= #[t]}) (.int .i64 (m:Int)) w:=by
 obtain⟨z,y,j⟩:=j;obtain⟨i,l⟩:=o.ty y;rcases j with⟨e,j,q⟩|⟨j,b,rfl⟩
 .
  have k:=lj (l.sh.symm.trans j)
  have:∃a c,ev n F x= .slice a m c:=by
   unfold lenOf at h;split at h;.cases h;unfold VR at f;exact⟨_,_,f⟩
   .cases h;unfold VR at f;obtain⟨a,f⟩:=f;exact⟨_,_,f⟩
   .cases h;unfold VR at f;obtain⟨a,c,f,_⟩:=f;exact⟨_,_,f⟩
   .cases h;unfold VR at f;obtain⟨r,c,_,f,_⟩:=f;exact⟨_,_,f⟩
   .cases h;unfold VR at f;obtain⟨r,c,_,f,_⟩:=f;exact⟨_,_,f⟩
   .rename_i b;exact absurd rfl (q b)
   .cases h
  obtain⟨a,c,u⟩:=this;exact Sv k u
 .have k:=vk (l.sh.symm.trans j);cases h;unfold VR at f;refine⟨λd C p A g=>?_⟩;simp[execOp,f,resolve,invoke,builtin,Builtin.len_,run_underlying k,goInt]
end
section
variable{P:Program}{n:Nat}{F:dN}{ρ:Rn}{s:St}{w:World}{cx:Cx}
theorem O9(q:gH P cx){t:TypeId}{x i:Operand}{w0 x0:HV}{r:Rs}(h:mM cx s t w0 x0=some r)(a:VR ρ w0 (ev n F x))(p0:VR ρ x0 (ev n F i)):∃v,r= .val v s/\∃u,iL P n F w (.index t x i) u w/\VR ρ v u:=by
 unfold mM at h;split at h
 .
  rename_i j o0;obtain⟨k,y0⟩:=qc o0 p0;split at h
  .
   rename_i b;unfold VR at a;split at h
   .
    rename_i z C;obtain⟨l0,f⟩:=q.ty C;split at h
    .
     rename_i A;have B:=vk (f.sh.symm.trans A);split at h;.rename_i c q0;cases h;refine⟨_,rfl,_,⟨λd i0 p k0 g=>?_⟩,by unfold VR;rfl⟩;simp[execOp,a,y0,Instr.index,asIntOf,run_underlying B,q0]
     .cases h
    .cases h
   .cases h
  .
   rename_i l;unfold VR at a;obtain⟨g0,a,t0,j0⟩:=a;split at h
   .
    rename_i z C;obtain⟨l0,f⟩:=q.ty C;split at h
    .
     rename_i m e A;have B:=AM (f.sh.symm.trans A);split at h
     .
      rename_i y m0;obtain⟨h0,D⟩:=q.ty m0;rw[aH]at h;split at h
      .
       rename_i z0;simp only[ae,ju]at z0;obtain⟨v0,o,u0⟩:=z0;have o:=au o;split at h;.rename_i v n0;cases h;obtain⟨u,s0,r0⟩:=kw t0 j v n0;exact⟨_,rfl,u,Je B (λw=>by rw[D.sizeOf,o]) (λw=>by rw[D.isAgg,v0]) a y0 (ku.1 u0) s0,r0⟩
       .cases h
      .cases h
     .cases h
    .cases h
   .cases h
  .cases h
 .cases h
theorem xN(a:gH P cx){t e:Nat}(h:cx.sS t=some e):∃k q,P.underlying t=some (.map k e)/\P.underlying k=some (.int q):=by
 unfold Cx.sS at h;split at h
 .
  rename_i x g;obtain⟨i,b⟩:=a.ty g;split at h
  .
   rename_i k m f;split at h
   .
    rename_i y l;obtain⟨j,c⟩:=a.ty l;split at h;.rename_i q d;cases h;exact⟨k,q,F1 (b.sh.symm.trans f),F2 (c.sh.symm.trans d)⟩
    .cases h
   .cases h
  .cases h
 .cases h
theorem uv{q q0:IntKind}{k:Int}:∀{f:List (HV×HV)}{c:List MapEntry}{r:Option HV}(i:Nat),hO ρ f c->qO q k f=some r->r=none/\Instr.findNow (.int q0) (.int q k) c i=some none\/∃v u j,r=some v/\Instr.findNow (.int q0) (.int q k) c i=some (some (j,u))/\VR ρ v u
 |[],c,r,i,d,h=>by unfold hO at d;subst d;cases h;exact .inl ⟨rfl,rfl⟩
 |(a,v)::f,c,r,i,d,h=>by
  unfold hO at d;obtain⟨e,x,rfl,⟨y,b,rfl⟩,g,m,o⟩:=d;unfold VR at g;unfold qO at h;simp only[aH,bF]at h;split at h
  .
   rename_i t;subst t;split at h;.rename_i l;subst l;cases h;right;refine⟨v,e.val,i,rfl,?_,m⟩;unfold Instr.findNow;rw[g];simp[Instr.sameNow]
   .
    rename_i l;have:=uv (q0:=q0) (i+1) o h;unfold Instr.findNow;rw[g];have p:(k==b)=false:=by simpa using l
    simp only[Instr.sameNow,fY,p];exact this
  .cases h
theorem mo{k:TypeId}{q d:IntKind}{a:Int}(c:P.underlying k=some (.int q))(b:Bool):(Instr.checkKey b 10000 k (.int d a)).run P w= .ok () w:=by unfold Instr.checkKey;simp[run_underlying c]
theorem KX(g0:gH P cx)(x9:eY ρ s.hp w){t:TypeId}{x i:Operand}{m d0:HV}{ok:Bool}{r:Rs}(h:oC cx s t m d0 ok=some r)(z0:VR ρ m (ev n F x))(u0:VR ρ d0 (ev n F i)):∃v,r= .val v s/\∃u,iL P n F w (.lookup t x i ok) u w/\VR ρ v u:=by
 unfold oC at h;split at h
 .
  rename_i e q k w9;obtain⟨r0,k0,q0,s0⟩:=xN g0 w9;unfold VR at u0
  have c0:∀(f:List (HV×HV))(a:Array MapEntry)(o:Option HV),qO q k f=some o->hO ρ f a.toList->(∀p9:World,ev n F x= .map none/\a= #[]\/∃c y0,ev n F x= .map (some c)/\(getObj c).run P w= .ok (.map a y0) w)->((o=none/\∃z,cx.xb e=some z/\r= .val (bif ok then .nf [z,.bool false]else z) s)\/∃v,o=some v/\r= .val (bif ok then .nf [v,.bool true]else v) s)->∃v,r= .val v s/\∃u,iL P n F w (.lookup t x i ok) u w/\VR ρ v u:=by
   intro f a o B i0 h0 t9;have C:=h0 w;clear h0
   have j0:∀(v:HV)(u:Value)(b:Bool)(A:(Instr.findKey r0 (.int q k) a.toList).run P w= .ok (if b then some (0,u)else none) w\/∃j,b=true/\(Instr.findKey r0 (.int q k) a.toList).run P w= .ok (some (j,u)) w)(l:b=false->(zeroValue e).run P w= .ok u w)(D:VR ρ v u),∃u,iL P n F w (.lookup t x i ok) u w/\VR ρ (bif ok then .nf [v,.bool b]else v) u:=by
    intro v u b A l D;refine⟨if ok then .tuple #[u,.bool b]else u,⟨λd n9 p o9 g=>?_⟩,?_⟩
    .
     cases b with
      |true=>
      have A:∃j,(Instr.findKey r0 (.int q k) a.toList).run P w= .ok (some (j,u)) w:=by
       rcases A with h|⟨j,_,h⟩;.exact⟨0,h⟩
       .exact⟨j,h⟩
      obtain⟨j,A⟩:=A;rcases C with⟨C,rfl⟩|⟨c,y0,C,n0⟩;.simp[execOp,C,u0,Instr.lookup,run_underlying q0,mo s0,A]
      .simp[execOp,C,u0,Instr.lookup,run_underlying q0,mo s0,A,n0]
      |false=>
      have A:(Instr.findKey r0 (.int q k) a.toList).run P w= .ok none w:=by
       rcases A with h|⟨j,h,_⟩;.exact h
       .cases h
      have l:=l rfl;rcases C with⟨C,rfl⟩|⟨c,y0,C,n0⟩;.simp[execOp,C,u0,Instr.lookup,run_underlying q0,mo s0,A,l]
      .simp[execOp,C,u0,Instr.lookup,run_underlying q0,mo s0,A,n0,l]
    .cases ok with
     |true=>show VR ρ (.nf [v,.bool b]) (.tuple #[u,.bool b]);unfold VR;refine⟨[u,.bool b],rfl,?_⟩;unfold dY;refine⟨u,[.bool b],rfl,D,?_⟩;unfold dY;exact⟨.bool b,[],rfl,by unfold VR;rfl,by unfold dY;rfl⟩
     |false=>exact D
   have e0:∀l0,Instr.findNow (.int k0) (.int q k) a.toList 0=some l0->(Instr.findKey r0 (.int q k) a.toList).run P w= .ok l0 w:=λl0 u9=>by simp[Instr.findKey,run_underlying s0,u9]
   rcases t9 with⟨m0,z,l,t0⟩|⟨v,m0,t0⟩
   .
    subst m0;rcases uv (q0:=k0) 0 i0 B with⟨_,o0⟩|⟨v,u,j,v0,_⟩
    .
     unfold Cx.xb at l;split at l;.rename_i y q9;obtain⟨m9,a0⟩:=g0.ty q9;obtain⟨u,s9,r9⟩:=a0.Ka l;exact⟨_,t0,j0 z u false (.inl (e0 _ o0)) (λ_=>r9 w) (uh s9)⟩
     .cases l
    .cases v0
   .
    subst m0;rcases uv (q0:=k0) 0 i0 B with⟨v0,_⟩|⟨l9,u,j,v0,o0,y9⟩;.cases v0
    .cases v0;exact⟨_,t0,j0 v u true (.inr ⟨j,rfl,e0 _ o0⟩) (λh=>by cases h) y9⟩
  have f0:∀o,wO s q k m=some o->∃f a,qO q k f=some o/\hO ρ f a.toList/\∀p9:World,ev n F x= .map none/\a= #[]\/∃c y0,ev n F x= .map (some c)/\(getObj c).run P w= .ok (.map a y0) w:=by
   intro o B;unfold wO at B;split at B
   .
    rename_i b;unfold VR at z0;obtain⟨b0,t0,z0⟩:=z0;split at B;.rename_i f v9;obtain⟨a,z9,x0,w0⟩:=x9.map b f b0 v9 t0;refine⟨f,a,B,w0,λ_=> .inr ⟨b0.c,z9,z0,?_⟩⟩;simp[getObj,Sem.run,x0]
    .cases B
   .cases B;unfold VR at z0;exact⟨[],#[],rfl,by unfold hO;rfl,λ_=> .inl ⟨z0,rfl⟩⟩
   .cases B
  split at h;.rename_i v D;cases h;obtain⟨f,a,x0,w0,p0⟩:=f0 _ D;exact c0 f a (some v) x0 w0 p0 (.inr ⟨v,rfl,rfl⟩)
  .
   rename_i D;obtain⟨f,a,x0,w0,p0⟩:=f0 _ D;split at h;.rename_i z l;cases h;exact c0 f a none x0 w0 p0 (.inl ⟨rfl,z,l,rfl⟩)
   .cases h
  .cases h
 .cases h
theorem B2{b:Bool}{args:List Operand}{l:List HV}{v:HV}{ts:Array TypeId}(k:iX ρ n s F)(m:s.kg args=some l)(h:xF b l=some v):∃u,iL P n F w (.call {callee:= .builtin (bif b then .max else .min),args:=args.toArray,argTypes:=ts}) u w/\VR ρ v u:=by
 have j:=mL k m;unfold xF at h;split at h
 .rename_i a c;cases h;unfold dY at j;obtain⟨o,q,d,e,f⟩:=j;unfold dY at f;obtain⟨p,r,rfl,g,i⟩:=f;unfold dY at i;subst i;unfold VR at e g;match args,d with
  |[x,y],d=>simp only[List.map_cons,List.map_nil,List.cons.injEq,and_true]at d;rw[e,g]at d;cases b with
   |false=>refine⟨_,Sp d.1 d.2,?_⟩;unfold VR;simp only[kM,aH,bF];congr 1
   |true=>refine⟨_,Sq d.1 d.2,?_⟩;unfold VR;simp only[fR,aH,bF];congr 1
 .cases h
end
section
variable{P:Program}{n:Nat}{F:dN}{ρ:Rn}{s:St}{w:World}{cx:Cx}
theorem uD(o:gH P cx){e:Nat}{y:El}(h:cx.wd e=some y):∃a:Value,TS P e y.z a y.lX/\∀ρ:Rn,dY ρ y.zc a.cells.toList/\∀u,u∈a.cells.toList->u.oneCell'=true:=by
 unfold Cx.wd at h;split at h
 .
  rename_i x t;obtain⟨i,b⟩:=o.ty t;split at h
  .
   rename_i v r;obtain⟨a,l,m⟩:=b.zero v r;split at h
   .
    rename_i c p;rw[aH]at h;split at h;.rename_i f;cases h;simp only[ae,bS]at f;obtain⟨j,k,d⟩:=f;have d:=au d;have g:∀ρ:Rn,dY ρ c a.cells.toList/\∀u,u∈a.cells.toList->u.oneCell'=true:=λρ=>oX p (uh m);have q:=fe (g λ_=>none).1;refine⟨a,⟨⟨i,b.tC,l,b.size,b.bytes⟩,?_,j,k⟩,g⟩;show a.cells.size=x.size;rw[<-d,<-q];simp
    .cases h
   .cases h
  .cases h
 .cases h
theorem oM(b:gH P cx){t:Nat}{y:El}(h:cx.gd t=some y):∃e,P.underlying t=some (.slice e)/\cx.wd e=some y:=by
 unfold Cx.gd at h;split at h
 .
  rename_i x d;obtain⟨i,a⟩:=b.ty d;split at h;.rename_i e c;exact⟨e,lj (a.sh.symm.trans c),h⟩
  .cases h
 .cases h
theorem AP{o:Op}{v:HV}{u:Value}{z:Nat}{l:List HV}{us ex:List Value}{T:TypeId}(b:eY ρ s.hp w)(f:iL P n F w o u (w.alloc (.cells (us++ex).toArray T)))(d:dY ρ l us)(h1:∀x,x∈us->x.oneCell'=true)(e:∀a:Rn,a s.nx=some ⟨w.heap.size,0,l.length,z,(us++ex).length⟩->VR a v u):fC P n F ρ s w o (.val v (s.bT z l).2):=by intro c;have g:ρ s.nx=none:=c s.nx (ar _) (bf _);exact⟨u,_,_,f,e _ (gc _ _ _),fG.bT b g d h1 (Kp.refl _ w) rfl,rfl,rfl,rfl⟩
theorem PD(j:gH P cx)(g:eY ρ s.hp w){t:Nat}{r:Rs}(h:nT cx s t=some r):fC P n F ρ s w (.alloc t) r:=by
 unfold nT at h;split at h
 .
  rename_i x m;obtain⟨i,a⟩:=j.ty m;split at h
  .
   rename_i z o;split at h
   .
    rename_i c k;cases h;obtain⟨p,b,d⟩:=a.Ka o;obtain⟨e,f⟩:=oX (ρ:=ρ) k (uh b);refine AP (us:=p.cells.toList) (ex:=[]) (T:=t) (u:= .pointer (some ⟨w.heap.size,0,none⟩)) g ?_ e f λq l=>?_;.rw[bi];exact LN d (by simp)
    .unfold VR;exact⟨_,l,rfl⟩
   .cases h
  .cases h
 .cases h
theorem Vd(e:eY ρ s.hp w){t:TypeId}{x:Operand}{v:HV}{r:Rs}(h:s8 s v=some r)(j:VR ρ v (ev n F x)):fC P n F ρ s w (.box t x) r:=by
 unfold s8 at h;split at h
 .
  rename_i c f;cases h;obtain⟨a,b⟩:=oX f j;refine AP (us:=(ev n F x).cells.toList) (ex:=[]) (T:=t) (u:= .pointer (some ⟨w.heap.size,0,none⟩)) e ⟨λd l p k g=>?_⟩ a b λm i=>?_;.simp[execOp,Instr.box,newVar,newRow]
  .unfold VR;exact⟨_,i,rfl⟩
 .cases h
theorem rX{l:List HV}{us:List Value}(h:dY ρ l us):∀k,dY ρ (hJ l k) (List.replicate k us).flatten
 |0=>by unfold hJ dY;rfl
 |k+1=>by unfold hJ;rw[g5,kU];exact C4 h (rX h k)
theorem yI(l:List HV):∀k,(hJ l k).length=k*l.length
 |0=>by simp[hJ]
 |k+1=>by unfold hJ;rw[az,yI l k,go];omega
theorem vq{us:List Value}(h:∀u,u∈us->u.oneCell'=true)(k:Nat):∀u,u∈(List.replicate k us).flatten->u.oneCell'=true:=by intro u a;obtain⟨r,b,a⟩:=jU.1 a;rw[dh b]at a;exact h u a
theorem DE(z:gH P cx)(x0:eY ρ s.hp w){t:Nat}{x y:Operand}{l c:HV}{r:Rs}(h:iC cx s t l c=some r)(o:VR ρ l (ev n F x))(q:VR ρ c (ev n F y)):fC P n F ρ s w (.makeSlice t x y) r:=by
 unfold iC at h;split at h
 .
  rename_i a m k f q0 t0;rw[aH]at h;split at h
  .
   rename_i A;simp only[ae,bS,gL]at A;cases h;obtain⟨y0,v⟩:=A;have v:k*a.lX<=4294967296:=v;obtain⟨l0,o⟩:=qc q0 o;obtain⟨k0,q⟩:=qc t0 q;obtain⟨e,n0,f⟩:=oM z f;obtain⟨z0,b,u⟩:=uD z f;obtain⟨i,u0,m0,o0,v0⟩:=b.tC;have i0:k<=4294967296:=by have:k*1<=k*a.lX:=jS _ b.R1;omega
   have w0:(i.bytes:Int)*(k:Int)<=281474976710656:=by
    rw[v0];have:((k*a.lX:Nat):Int)<=4294967296:=by omega
    rw[Int.natCast_mul,Int.mul_comm]at this;omega
   have j:=run_make (P:=P) w t e i z0 n0 u0 m0 l0 k0 (m:Int) (k:Int) (by omega) (by omega) w0 (by omega);simp only[db]at j;rw[o0,<-b.cells,ph]at j;have C:=rX (u ρ).1 k;have r0:=fe (u ρ).1;have D:a.zc.length=a.z:=by rw[<-r0];simpa using b.cells
   refine AP (us:=(List.replicate k z0.cells.toList).flatten) (ex:=[]) (T:=e) (u:= .slice (some ⟨w.heap.size,0,none⟩) m k) x0 ⟨λd h0 p j0 g=>?_⟩ C (vq (u ρ).2 k) λg0 p0=>?_;.simp[execOp,o,q,j]
   .
    unfold VR;have B:=yI a.zc k;have s0:=fe C;refine⟨_,k,p0,rfl,y0,?_,?_,by unfold maxLen;omega,by omega⟩;.simp only[B,D];omega
    .simp only[bi,s0,B,D];omega
  .cases h
 .cases h
theorem OA(y0:gH P cx)(z0:eY ρ s.hp w){t:Nat}{x y:Operand}{a v:HV}{r:Rs}(h:qj cx s t a v=some r)(k:VR ρ a (ev n F x))(r0:VR ρ v (ev n F y)):fC P n F ρ s w (.store t x y) r:=by
 unfold qj at h;split at h
 .
  rename_i b o;split at h
  .
   rename_i z c q0 x0;obtain⟨i,D⟩:=y0.ty q0;rw[aH]at h;split at h
   .
    rename_i m;have m:=au m;split at h
    .
     rename_i l e;cases h;unfold VR at k;obtain⟨q,t0,k⟩:=k;obtain⟨A,B⟩:=oX x0 r0;obtain⟨u0,l0,p0,u,n0⟩:=fG.fD z0 t0 e A B;have v0:=fe A;have C:=run_storeCells_cells (P:=P) q.c (q.o+o) (ev n F y).cells.toList 0 w (λj w0=>by rw[nC u,hX (by omega)];rfl) (λj w0=>by simp[World.frozen?,u]) B;simp only[fh]at C
     have f:l.nt=s.nt/\l.dE=s.dE/\l.lk=s.lk/\l.nx=s.nx:=by
      unfold St.fD at e;split at e
      .
       rw[aH]at e;split at e;.cases e;exact⟨rfl,rfl,rfl,rfl⟩
       .cases e
      .cases e
     refine⟨_,⟨λd m0 p o0 g=>?_⟩,u0,f.1,f.2.1,f.2.2.1,f.2.2.2⟩;have s0:(ev n F y).cells.size=z.size:=by rw[<-m,<-v0];simp
     simp[execOp,k,Instr.storeAt,Instr.sureAddr,storeVar,D.sizeOf,s0,C]
    .cases h
   .cases h
  .cases h
 .cases h
theorem H9(q:eY ρ s.hp w){t:TypeId}{r:Rs}(h:CH s=some r):fC P n F ρ s w (.makeMap t none) r:=by
 unfold CH at h;cases h;intro A;have y0:ρ s.nx=none:=A s.nx (ar _) (bf _);have D:∀c,c<w.heap.size->(w.alloc (.map #[] 0)).heap[c]?=w.heap[c]?:=λc B=>(Kp.alloc w (.map #[] 0)).block c B (by simp);have m:∀i,i≠s.nx->(s.hp.set s.nx (.map [])).ap i=s.hp.ap i:=λi a=>Tr.bW _ _ a;have z0:=yr (r:=⟨w.heap.size,0,0,0,0⟩) y0;refine⟨.map (some w.heap.size),w.alloc (.map #[] 0),pQ ρ s.nx ⟨w.heap.size,0,0,0,0⟩,⟨λd r0 p x0 g=>?_⟩,?_,⟨?_,?_,AK.of (Kp.alloc w _) (λ_ h=>by cases h),?_,dz _⟩,rfl,rfl,rfl⟩;.simp[execOp,Instr.makeMap]
 .unfold VR;exact⟨_,gc _ _ _,rfl⟩
 .
  refine q.step (b:=s.nx) (λi a=>kX _ _ a) z0 (Kp.alloc w _).size (λi a o l=>by rw[<-l];exact(m i a).symm) (λi o r a l e u=>D _ u) ?_ ?_ ?_;.intro x r j e;simp only[Tr.a8]at j;cases j
  .intro w0 r j e;simp only[Tr.a8]at j;cases j;rw[gc]at e;cases e;exact⟨#[],0,heap_alloc_new w _,by unfold hO;rfl⟩
  .intro i o t0 r s0 a l v0 u0 e v;rw[gc]at v;cases v;have u:=q.at (by rw[<-m i a];exact l) e;simp only;omega
 .intro b f;refine kX _ _ ?_;simp only[Nat.add_eq]at f;omega
 .
  intro c C;obtain⟨b,o,r,y,z,k,rfl⟩:=C;by_cases f:b=s.nx;.subst f;rw[gc]at k;cases k;exact .inr (ar _)
  .rw[kX _ _ f]at k;exact .inl ⟨b,o,r,by rw[<-m b f];exact y,z,k,rfl⟩
end
def vX(cs:List Value):Nat->List Value->List Value|_,[]=>cs|o,v::a=>vX (cs.set o v) (o+1) a
theorem EN(a:Nat):∀(l:List Value)(k:Nat)(A:List Value),(l.zipIdx k).foldl (λcs(c,j)=>cs.setIfInBounds (a+j) c) A.toArray=(vX A (a+k) l).toArray
 |[],k,A=>rfl
 |v::l,k,A=>by
  rw[List.zipIdx_cons,fL];have:A.toArray.setIfInBounds (a+k) v=(A.set (a+k) v).toArray:=by simp
  simp only[this];rw[EN a l (k+1),vX];rfl
theorem Eb:∀(l cs:List Value)(o:Nat),(vX cs o l).length=cs.length
 |[],cs,o=>rfl
 |v::l,cs,o=>by rw[vX,Eb];simp
section
variable{P:Program}{n:Nat}{F:dN}{ρ:Rn}{s:St}{w:World}{cx:Cx}
theorem SA{cs:List HV}{us:List Value}{v:HV}{u:Value}(h:dY ρ cs us)(o:Nat)(f:VR ρ v u):dY ρ (cs.set o v) (us.set o u):=by
 refine vK (by simp[fe h]) λi x y b a=>?_;rw[gR]at b a;split at b
 .
  rename_i c;rw[aE c]at a;split at b
  .
   split at a;.cases b;cases a;exact f
   .cases a
  .cases b
 .rename_i c;rw[aG c]at a;obtain⟨z,d,e⟩:=kw h i x b;rw[d]at a;cases a;exact e
theorem zS:∀{l:List HV}{c:List Value}{cs:List HV}{us:List Value}(o:Nat),dY ρ cs us->dY ρ l c->dY ρ (sK cs o l) (vX us o c)
 |[],c,cs,us,o,h,b=>by unfold dY at b;subst b;exact h
 |a::l,c,cs,us,o,h,b=>by unfold dY at b;obtain⟨u,f,rfl,d,e⟩:=b;rw[sK,vX];exact zS (o+1) (SA h o d) e
theorem Ea:∀{c us:List Value}(o:Nat),(∀u,u∈us->u.oneCell'=true)->(∀u,u∈c->u.oneCell'=true)->∀u,u∈vX us o c->u.oneCell'=true
 |[],us,o,h,_,u,b=>h u b
 |v::c,us,o,h,d,u,b=>by
  rw[vX]at b;refine Ea (o+1) (λy a=>?_) (λy a=>d y (cX _ a)) u b;rcases cM a with a|rfl;.exact h y a
  .exact d _ (bZ ..)
def tm(ρ:Rn):List (Nat×HV)->List (Nat×Value)->Prop|[],b=>b=[]|(i,a)::l,b=>∃u c,b=(i,u)::c/\VR ρ a u/\tm ρ l c
theorem s4(h:iX ρ n s F):∀{ps:List (Nat×Operand)}{l:List (Nat×HV)},hM s ps=some l->tm ρ l (ps.map λ(i,x)=>(i,ev n F x))
 |[],l,a=>by cases a;unfold tm;rfl
 |(i,x)::ps,l,a=>by unfold hM at a;cases b:s.ev x with
  |none=>rw[b]at a;cases a
  |some v=>rw[b]at a;cases c:hM s ps with
  |none=>rw[c]at a;cases a
  |some d=>rw[c]at a;cases a;unfold tm;exact⟨_,_,rfl,bV h b,s4 h c⟩
theorem vE{t:Nat->Option (Nat×Nat)}:∀{ps:List (Nat×HV)}{e:List (Nat×Value)}{cs l:List HV}{us:List Value},sY t cs ps=some l->tm ρ ps e->dY ρ cs us->(∀u,u∈us->u.oneCell'=true)->∃a,Instr.fill t us.toArray e=some a.toArray/\dY ρ l a/\(∀u,u∈a->u.oneCell'=true)/\a.length=us.length
 |[],e,cs,l,us,h,b,d,g=>by unfold tm at b;subst b;cases h;exact⟨us,rfl,d,g,rfl⟩
 |(i,v)::ps,e,cs,l,us,h,b,d,g=>by
  unfold tm at b;obtain⟨u,r0,rfl,C,D⟩:=b;unfold sY at h;split at h
  .
   rename_i o z u0;split at h
   .
    rename_i c x0;rw[aH]at h;split at h
    .
     rename_i q;simp only[ae,bS]at q;obtain⟨f,k⟩:=q;have f:=au f;have k:o+z<=cs.length:=k;obtain⟨m,z0⟩:=oX x0 C;have v0:=fe m;have t0:=fe d;have r:u.cells.size=z:=by rw[<-f,<-v0];simp
     obtain⟨a,x,y,A,B⟩:=vE h D (zS o d m) (Ea o g z0);refine⟨a,?_,y,A,by rw[B,Eb]⟩;unfold Instr.fill;have y0:(decide (u.cells.size≠z)||decide (o+u.cells.size>us.toArray.size))=false:=by simp[r];omega
     simp only[u0];have s0:¬(decide (u.cells.size≠z)||decide (o+u.cells.size>us.toArray.size))=true:=by rw[y0];simp
     have w0:u.cells.zipIdx.foldl (λcs(c,j)=>cs.setIfInBounds (o+j) c) us.toArray=(vX us o u.cells.toList).toArray:=by have:=EN o u.cells.toList 0 us;simp only[fh]at this;rw[<-this,<-Array.foldl_toList,Array.toList_zipIdx]
     split;.rename_i p;exfalso;rw[r]at p;simp at p;omega
     .rw[w0];exact x
    .cases h
   .cases h
  .cases h
theorem Pr(z0:gH P cx)(C:eY ρ s.hp w)(s0:iX ρ n s F){t:Nat}{ps:Array (Nat×Operand)}{l:List (Nat×HV)}{r:Rs}(p0:hM s ps.toList=some l)(h:la cx s t l=some r):fC P n F ρ s w (.build t ps) r:=by
 have D:=s4 s0 p0;have i0:(ps.map λ(i,x)=>(i,ev n F x)).toList=ps.toList.map λ(i,x)=>(i,ev n F x):=by simp
 unfold la at h;split at h
 .
  rename_i x n0;obtain⟨i,c⟩:=z0.ty n0;split at h
  .
   rename_i z y0;obtain⟨f0,t0,y⟩:=c.Ka y0;have x0:=uh (ρ:=ρ) t0;unfold VR at x0;obtain⟨v,rfl,A,B⟩:=x0;split at h
   .
    rename_i m0 o;obtain⟨j0,u,q0⟩:=Bt (c.sh.symm.trans o);split at h
    .
     rename_i q k;cases h;obtain⟨a,b,f,j,u0⟩:=vE k D A B;refine fC.pure C (u:= .agg a.toArray) ⟨λd l0 p v0 g=>?_⟩ (by unfold VR;exact⟨a,rfl,f,j⟩);have b:Instr.fill (m0.toArray[.]?) v.toArray (ps.toList.map λ(i,x)=>(i,ev n F x))=some a.toArray:=by rw[<-b];congr 1;funext i;simp
     have r0:P.built t (ps.toList.map λ(i,x)=>(i,ev n F x))=some a.toArray:=by
      obtain⟨k0,w0,g0⟩:=c.zero _ y0;have:k0= .agg v.toArray:=by have:=y w;simp[zeroValue,typeInfo,c.tC,w0]at this;exact this
      subst this;unfold Program.built;rw[c.tC,u];simp only[w0,q0];exact b
     have:=run_build (P:=P) w t (ps.map λ(i,x)=>(i,ev n F x)) a.toArray (by simpa using r0);simp[execOp,this]
    .cases h
   .
    rename_i m e o;have u:=AM (c.sh.symm.trans o);split at h
    .
     rename_i q k;split at h;.rename_i h0 o0;cases h;obtain⟨a,b,f,j,u0⟩:=vE o0 D A B;refine fC.pure C (u:= .agg a.toArray) ⟨λd l0 p v0 g=>?_⟩ (by unfold VR;exact⟨a,rfl,f,j⟩);have b:Instr.fill (λi=>some (i*q,q)) v.toArray (ps.toList.map λ(i,x)=>(i,ev n F x))=some a.toArray:=b;simp[execOp,Instr.build,y,run_underlying u,z0.sizeOf k,Value.cells,b]
     .cases h
    .cases h
   .cases h
  .cases h
 .cases h
end
section
variable{P:Program}{n:Nat}{F:dN}{ρ:Rn}{s:St}{w:World}{cx:Cx}
theorem CP (hc : gH P cx) (hH : eY ρ s.hp w) (hE : iX ρ n s F) {t len : Nat} {ps : Array (Nat × Operand)} {l : List (Nat × HV)} {r : Rs} (hl : hM s ps.toList = some l) (h : fg cx s t len l = some r) : fC P n F ρ s w (.buildSlice t len ps) r := by
  have hP := s4 hE hl
  unfold fg at h
  split at h
  · rename_i y hy
    obtain ⟨e, hu, hel⟩ := oM hc hy
    obtain ⟨zv, hEl, hz⟩ := uD hc hel
    obtain ⟨i, hi, hz0, hsz, hby⟩ := hEl.tC
    rw [aH] at h
    split at h
    · rename_i hcond
      simp only [ae, bS] at hcond
      split at h
      · rename_i l' hl'
        cases h
        have hzl : y.zc.length = y.z := by rw [← fe (hz ρ).1]; simpa using hEl.cells
        obtain ⟨us', g1, g2, g3, g4⟩ := vE hl' hP (rX (hz ρ).1 len) (vq (hz ρ).2 len)
        have hlen : us'.length = len * y.z := by rw [g4, fe (rX (hz ρ).1 len), yI, hzl]
        have hb : len * y.z ≤ 16000000 := by
          calc len * y.z ≤ 4000 * 4000 := tG hcond.1 hcond.2
            _ = 16000000 := by rfl
        refine AP (us := us') (ex := []) (T := e) (u := .slice (some ⟨w.heap.size, 0, none⟩) len len) hH ⟨fun d t' p af g => ?_⟩ g2 g3 (fun ρ' hr => ?_)
        · have hrun : (Instr.buildSlice t len (ps.map fun (i, x) => (i, ev n F x))).run P w = .ok (.slice (some ⟨w.heap.size, 0, none⟩) len len) (w.alloc (.cells (us' ++ []).toArray e)) := by
            rw [bi]
            by_cases h0 : len = 0
            · subst h0
              have : us' = [] := by simpa using hlen
              subst this
              have g1 : Instr.fill (fun i => some (i * y.z, y.z)) #[] (ps.toList.map fun (i, x) => (i, ev n F x)) = some #[] := by simpa using g1
              have g1 : Instr.fill (fun i => some (i * y.z, y.z)) #[] (ps.toList.map fun x => (x.1, ev n F x.2)) = some #[] := g1
              have h0 : Array.range 0 = #[] := rfl
              simp [Instr.buildSlice, run_underlying hu, sizeOf, typeInfo, hi, hsz, h0, g1, newRow]
            · have hp := hEl.Z9
              have hne : ¬ len * i.size = 0 := by
                rw [hsz]; exact Nat.mul_ne_zero h0 (by omega)
              refine run_buildSlice w t e len _ us'.toArray i zv hu hi hz0 (by rw [hsz]; omega) hne ?_
              have hm := ph zv.cells len
              rw [hEl.cells] at hm
              unfold madeCells at hm
              rw [hsz, hm]
              have : (ps.map fun (i, x) => (i, ev n F x)).toList = ps.toList.map fun (i, x) => (i, ev n F x) := by simp
              rw [this]
              exact g1
          simp [execOp, hrun]
        · unfold VR
          have hl2 := fe g2
          refine ⟨_, len, hr, rfl, ar _, ?_, ?_, by unfold maxLen; omega, by omega⟩
          · simp only; omega
          · simp only [bi]; omega
      · cases h
    · cases h
  · cases h
theorem Mn(r0:gH P cx)(u0:eY ρ s.hp w){t z k:Nat}{x:HV}{u:Value}{l:List HV}(hi:oy cx t x=true)(h:jg s z x=some (l,k))(f:VR ρ x u):∃us,_root_.Go.Src P z t u k us w/\dY ρ l us/\l.length=k*z:=by
 unfold oy at hi;split at hi
 .
  rename_i y p0;obtain⟨i,C⟩:=r0.ty p0
  have o0:∀e,y.sh= .slice e->(∀b,x≠.dH b)->∃us,_root_.Go.Src P z t u k us w/\dY ρ l us/\l.length=k*z:=by
   intro e g A;have d:=lj (C.sh.symm.trans g)
   have:∃p m,cellsOf s z x=some p/\lenOf x=some m/\p=l/\m=k:=by
    unfold jg at h;split at h;.rename_i b;exact absurd rfl (A b)
    .
     split at h;.rename_i p m r v;cases h;exact⟨_,_,r,v,rfl,rfl⟩
     .cases h
   obtain⟨p,m,r,v,rfl,rfl⟩:=this;obtain⟨us,a,c,x0,m0,l0,k0,D,z0,w0,v0⟩:=td u0 r v f;refine⟨us,?_,D,by rw[<-fe D];exact z0⟩;rw[x0];rcases v0 with⟨rfl,rfl⟩|⟨b,o,rfl,q0⟩
   .cases a with
    |none=>exact⟨.inl ⟨e,d⟩,λ_=>rfl,run_firstCells_none w z 0 0 c,run_firstCells_none w.drew z 0 0 c,by simp,λ_ h=>by cases h⟩
    |some q=>exact _root_.Go.Src.ofSlice w d q 0 c [] (by simp) (λj u d=>by simp at d) λ_ h=>by cases h
   .exact _root_.Go.Src.ofSlice w d ⟨b,o,none⟩ m c us z0 (λj u d=>by rw[ql];exact q0 j u d) w0
  split at hi
  .
   rename_i b g;have d:=vk (C.sh.symm.trans g);unfold jg at h;simp only[aH]at h;split at h;.rename_i B;have B:=au B;subst B;cases h;unfold VR at f;subst f;refine⟨_,_root_.Go.Src.ofString w d b,?_,by simp⟩;unfold byteCells;refine vK (by simp) λi x u f d=>?_;simp only[js,Option.map_eq_some_iff]at f d;obtain⟨a,t0,rfl⟩:=f;obtain⟨n0,y0,rfl⟩:=d;rw[t0]at y0;cases y0;unfold VR;rfl
   .cases h
  .cases hi
  .rename_i e g A;exact o0 e g λb s0=>A b s0
  .cases hi
 .cases hi
end
end Go.Hm
