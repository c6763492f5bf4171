/-
  The statement BootClones: the configuration's law, of whatever arguments.
-/
import Derived.Test.YtfjeeggbdncodaaGreatGe
import Derived.Test.YtfjeeggbdncodaaGreatRows
set_option linter.unusedVariables false
set_option linter.unusedSimpArgs false
set_option linter.constructorNameAsVariable false
set_option linter.unusedSectionVars false
noncomputable section
set_option maxHeartbeats 4000000
set_option maxRecDepth 100000
namespace Go.Bo
open Go Go.Ls
theorem mB{X:Type}{l:List X}{b:Nat}(h:Sh l)(a:b<=1000:=by decide):aO ([]:List X) l b=true:=ce (by show 0+l.length<=_;omega) a
theorem Aw{X:Type}{l:List X}{x:X}{b i:Nat}(h:l.length=i)(hi:i<=1000)(a:b<=1000:=by decide):aO l (x::[]) b=true:=ce (by show l.length+1<=_;omega) a
theorem mg{X α:Type}{Q:α->Prop}{l:List X}{f:List X×Int×Unit->Option (Sum (List X×Int×Unit) (Sum (List X×Unit) α))}{K:List X×Unit->Option α}(a:Sh l)(h:∀(i:Nat)(x:X)(jN:List X),l[i]?=some x->i<=1000->jN.length=i->Ok (f (jN,(i:Int),())) λr=>r= .inl (jN++[x],ai .i64 (i:Int) 1,()))(d:Ok (f (l,(l.length:Int),())) λr=>r= .inr (.inl (l,())))(c:Ok (K (l,())) Q):Ok (aD (aB f 1000000000 ([],0,())) K) Q:=by refine cz (λi=>(l.take i,(i:Int),())) l.length rfl (by have:l.length<=1000:=a;omega) (λi e=>?_) (by show Ok (f (l.take l.length,_)) _;rw[bO];exact d) c;have a:l.length<=1000:=a;have b:l[i]?=some l[i]:=G e;refine(h i l[i] (l.take i) b (by omega) (by rw[aY];omega)).mono λr g=>?_;rw[g,dC b,bI (by omega)]
theorem xQ{X α:Type}{Q:α->Prop}{f:List X×Int×Unit->Option (Sum (List X×Int×Unit) (Sum (List X×Unit) α))}{K:List X×Unit->Option α}(b:Ok (f (([]:List X),(0:Int),())) λr=>r= .inr (.inl (([]:List X),())))(a:Ok (K (([]:List X),())) Q):Ok (aD (aB f 1000000000 ([],0,())) K) Q:=mg (l:=[]) (aP _) (λi x d c=>by cases c) b a
theorem QM{α:Type}{Q:α->Prop}{K:Unit×Unit->Option α}(a:Ok (K ((),())) Q):Ok (aD (aB (α:=D (.ah .nil iU)) (λd=>ad (ay d.2.1 0) none (ao (some (.inl ((),()))))) 1000000000 ((),0,())) K) Q:=cz (λ_=>((),(0:Int),())) 0 rfl (by decide) (λi b=>absurd b (Nat.not_lt_zero i)) (aw rfl (bj (ab rfl))) a
theorem tv{X:Type}{l:List X}{i:Nat}{x:X}(h:l[i]?=some x):ay (i:Int) (ak l)=true:=cB (aj.1 h).1
section
variable{c:D cc}{n1 n2:Int}{m:Nat}{t:D kK}{a:eI}{fr:List uT}{n8:Int}{ac:List fj}{ag:List (List Int)}{so:List (Int×Int×Unit)}{n13:Int}{fi:List (D jV)}{dn dm:Int}{b:BL}{pr:List C3}
structure Zp (c : D cc) : Prop where
  n : Sh c.1
  z : Sh c.2.1
  a : Sh c.2.2.2.2.2.2.2.2.2.2.2.1
  f : Sh c.2.2.2.2.2.2.2.2.2.2.1
  fd : ∀ f, f ∈ c.2.2.2.2.2.2.2.2.2.2.1 → Sh (X := Int) f.2.1
  p : Sh c.2.2.2.2.2.2.2.2.2.2.2.2.1
  pd : ∀ p, p ∈ c.2.2.2.2.2.2.2.2.2.2.2.2.1 → Sh p.2.1
structure ClE (a : eI) (fr : List uT) : Prop where
  z : ∀ z, z ∈ cw a → ∃ p q r s u : List Int, z.2.2.2.2.2.1 = [p, q, r, s, u] ∧ Sh p ∧ Sh q ∧ Sh r ∧ Sh s ∧ Sh u
  f : ∀ f, f ∈ fr → Sh f.2.2.2.2.2.2.2.2.2.2.2.2.2.2.1 ∧ Sh (X := Int) f.2.2.2.2.2.2.2.2.2.2.2.2.2.2.2.1
theorem RN(h:Y4 m t a fr ac ag so fi b pr)(l:Zp c)(z:ClE a fr)(u0:∀x,x∈b->Sh x):PO (AA c n1 n2 m t a fr n8 ac ag so n13 fi dn dm b pr,())=some (AA c n1 n2 m t a fr n8 ac ag so n13 fi dn dm b pr,()):=by
 refine cC ?_;have A:∀{v:Type}{x:v},Sh (List.replicate m x):=λ{v x}=>by show(List.replicate m x).length<=1000;rw[aR];exact h.m
 have o:∀{v:Type},Sh ([]:List v):=λ{v}=>aP _;unfold PO;refine aq (mB l.n) (aq (mB l.z) (aq (mB l.a) (mg (l:=c.2.2.2.2.2.2.2.2.2.2.1) l.f (λi x k d g f=>be (tv d) (aa (aC d) (aq (mB (l.fd x (Y d))) (aq (Aw f g) (ab rfl))))) (aw cJ (bj (ab rfl))) ?_)));refine mg (l:=c.2.2.2.2.2.2.2.2.2.2.2.2.1) l.p (λi x k d g f=>be (tv d) (aa (aC d) (aq (mB (l.pd x (Y d))) (aq (Aw f g) (ab rfl))))) (aw cJ (bj (ab rfl))) ?_;refine aq (mB A) (aq (mB h.ac) (aq (mB o) (aq (mB h.so) (aq (mB o) (aq (mB o) ?_)))));refine mg (l:=List.replicate m t) A (λi x k d g f=>be (tv d) (aa (aC d) (aq (mB (by rw[dh (Y d),h.t];exact o)) (aq (Aw f g) (ab rfl))))) (aw cJ (bj (ab rfl))) ?_;refine mg (l:=List.replicate m []) A (λi x k d g f=>be (tv d) (aa (aC d) (aq (mB (by rw[dh (Y d)];exact o)) (aq (Aw f g) (ab rfl))))) (aw cJ (bj (ab rfl))) ?_;refine aq (mB h.a.n) ?_;refine mg (l:=cw a) h.a.z (λi x k d g f=>be (tv d) (aa (aC d) ?_)) (aw cJ (bj (ab rfl))) ?_;.obtain⟨p,q,r,s,u,e,C,z0,y0,x0,w0⟩:=z.z x (Y d);obtain⟨q0,p0,o0,n0,m0,s0,w⟩:=x;have e:s0=[p,q,r,s,u]:=e;subst e;exact aq (mB C) (aq (mB z0) (aq (mB y0) (aq (mB x0) (aq (mB w0) (aq (Aw f g) (ab rfl))))))
 refine mg (l:=cP a) h.a.c (λi x k d g f=>be (tv d) (aa (aC d) (mg (l:=x.1) (h.a.cl x (Y d)).1 (λj y r0 B t0 v0=>be (tv B) (aa (aC B) (aq (mB ((h.a.cl x (Y d)).2 y (Y B))) (aq (Aw v0 t0) (ab rfl))))) (aw cJ (bj (ab rfl))) (aq (Aw f g) (ab rfl))))) (aw cJ (bj (ab rfl))) ?_;refine mg (l:=fr) h.fr.1 (λi x k d g f=>be (tv d) (aa (aC d) (aq (mB (z.f x (Y d)).1) (aq (mB (z.f x (Y d)).2) (aq (Aw f g) (ab rfl)))))) (aw cJ (bj (ab rfl))) ?_;refine xQ (aw rfl (bj (ab rfl))) ?_;refine mg (l:=ag) h.ag.1 (λi x k d g f=>be (tv d) (aa (aC d) (aq (mB (h.ag.2 x (Y d))) (aq (Aw f g) (ab rfl))))) (aw cJ (bj (ab rfl))) ?_;refine xQ (aw rfl (bj (ab rfl))) ?_;refine mg (l:=fi) h.fi.1 (λi x k d g f=>be (tv d) (aa (aC d) (QM (aq (mB (h.fi.2 x (Y d)).2) (aq (Aw f g) (ab rfl)))))) (aw cJ (bj (ab rfl))) ?_;refine mg (l:=b) h.b.1 (λi x k d g f=>be (tv d) (aa (aC d) (aq (mB (u0 x (Y d))) (aq (Aw f g) (ab rfl))))) (aw cJ (bj (ab rfl))) ?_;refine xQ (aw rfl (bj (ab rfl))) ?_;refine xQ (aw rfl (bj (ab rfl))) ?_;refine mg (l:=pr) h.pr.1 (λi x k d g f=>be (tv d) (aa (aC d) ?_)) (aw cJ (bj (ab rfl))) ?_;.have n:=h.pr.2 x (Y d);exact aq (mB n.c) (QM (aq (mB n.t) (aq (mB (by rw[n.t0];exact o)) (aq (mB n.a) (aq (mB n.b) (aq (mB n.d) (aq (mB n.e) (aq (Aw f g) (ab rfl)))))))))
 refine xQ (aw rfl (bj (ab rfl))) ?_;exact ab rfl
end
end Go.Bo
set_option maxHeartbeats 4000000
set_option maxRecDepth 100000
namespace Go.Bo
open Go Go.Ls
theorem clc{c:D cc}(d:uX c):Zp c:=by
 have o:=(tA d.jN).1;have r:c.1.length<=4:=by have:=d.yL;unfold ik at this;simp only[ae]at this;have:=di this.1;omega
 have s:c.2.1.length<=6:=by have:=d.A2;unfold gQ at this;simp only[ae]at this;have:=di this.1;omega
 have j:=me d.oh;have q:c.2.2.2.2.2.2.2.2.2.2.1.length<=4:=by rw[<-mC];exact j.2.1
 have k:∀f,f∈c.2.2.2.2.2.2.2.2.2.2.1->f.2.1.length<=512:=by
  intro f l;have:=d.oh;unfold dq at this;simp only[ae]at this;have:=bR.1 this.2.2 f l;unfold nM at this;simp only[ae]at this;obtain⟨g,_,i⟩:=this;have g:=di g;have i:ak f.2.1<=d8 .i64 f.1 32:=eZ (by simpa using i);have n:∀p:Int,1<=p->p<=16->ak f.2.1<=d8 .i64 p 32->f.2.1.length<=512:=by intro p a b h;have e:d8 .i64 p 32=p*32:=kS (n:=p*32) (by omega) (by omega);rw[e,aJ]at h;omega
  exact n f.1 g.1 g.2 i
 refine⟨?_,?_,?_,?_,λf j=>?_,?_,λp m=>?_⟩;.show c.1.length<=1000;omega
 .show c.2.1.length<=1000;omega
 .show c.2.2.2.2.2.2.2.2.2.2.2.1.length<=1000;omega
 .show c.2.2.2.2.2.2.2.2.2.2.1.length<=1000;omega
 .have:=k f j;show f.2.1.length<=1000;omega
 .have:=d.np;show c.2.2.2.2.2.2.2.2.2.2.2.2.1.length<=1000;omega
 .have:=(d.prog p m).1;show p.2.1.length<=1000;omega
def NdP(p:C3):Prop:=∀n,n∈p.2.2.2.2.2.2.2.1.2.1->∃e,ax n.2.1 0=some e
theorem XJ{f:Int}{t:D rJ}{e:Int}(h:su (f,())=some (t,e,())):∀n,n∈t.2.1->∃e,ax n.2.1 0=some e:=by
 have g:Ok (su (f,())) λr=>∀n,n∈r.1.2.1->∃e,ax n.2.1 0=some e:=by
  have d:Ok (yd (f,())) λ_=>True:=by unfold yd;exact aN (λ_=>ab trivial) λ_=>ab trivial
  unfold su;exact bb d λ_ _=>aN (λ_=>ab λn a=>by cases a) λ_=>ab λn a=>by rcases cj.1 a with rfl;exact⟨0,rfl⟩
 obtain⟨r,b,c⟩:=g;rw[h]at b;cases b;exact c
def Sh0(f:uT):Prop:=f.2.2.2.2.2.2.2.2.2.2.2.2.2.2.1=[]/\f.2.2.2.2.2.2.2.2.2.2.2.2.2.2.2.1=[]
theorem XS{c:D cc}(A:uX c){m:Nat}{t:D kK}{a0:eI}{fr0:List uT}{n8:Int}{ac0:List fj}{ag:List (List Int)}{so:List (Int×Int×Unit)}{n13:Int}{fi:List (D jV)}{dn dm:Int}{b:BL}(B:∀f,f∈fr0->Sh0 f)(z:ac0.length<=8)(p0:fi.length<=4):∀{i:Nat}{k:Kn},n7 c (AA c 0 0 m t a0 fr0 n8 ac0 ag so n13 fi dn dm b []) i k->∃a fr ac pr,k=AA c 0 0 m t a fr n8 ac ag so n13 fi dn dm b pr/\(∀f,f∈fr->Sh0 f)/\ac.length<=8/\∀p,p∈pr->Vj p/\NdP p:=by
 intro i k h
 induction h with
  |zero=>exact⟨_,_,_,_,rfl,B,z,λp n=>by cases n⟩
  | @succ i k p j v f x0 q e o0 n l r0 q0 t0 g s z0=>
  obtain⟨a,fr,ac,pr,rfl,o,s0,x⟩:=z0;obtain⟨r,u,y0⟩:=Dl ac p.1 1;have l:yg (ac,p.1,1,())=some (j,q,0,()):=l;rw[l]at u;cases u;have n0:j.length=ac.length:=(y0 rfl).1;have g:f.toNat<fr.length:=g;have C:fr[f.toNat]?=some fr[f.toNat]:=G g;obtain⟨w0,v0⟩:=Qi s;have u0:=XJ s;refine⟨v,fr.set f.toNat (P7 ((fr[f.toNat]?).getD vK) p.1 (i:Int)),j,pr++[X2 p x0 (mA fi)],rfl,λy d=>?_,by omega,λy d=>?_⟩
  .
   rcases cM d with d|rfl;.exact o y d
   .rw[C];have w:=o _ (ew g);exact⟨w.1,w.2⟩
  .
   rcases bD.1 d with d|d;.exact x y d
   .rcases cj.1 d with rfl;have:=(A.prog p (Y n)).1;refine⟨⟨by show List.length p.2.1<=1000;omega,w0,v0,aP _,aP _,aP _,?_⟩,u0⟩;show(mA fi).length<=1000;unfold mA;rw[cZ];omega
def KF(k:Kn):Prop:=∃c n q m t a d r f g i o h l j b e,k=AA c n q m t a d r f g i o h l j b e/\Y4 m t a d f g i h b e/\Zp c/\ClE a d/\(∀x,x∈b->Sh x)/\∀p,p∈e->NdP p
theorem Yh:KF zK:=by
 have a:∀{b:Type}{c:b->Prop},∀x,x∈([]:List b)->c x:=λx d=>by cases d
 exact⟨zK.1,0,0,0,(0,[],()),zA,[],0,[],[],[],0,[],0,0,[],[],rfl,⟨aP _,rfl,⟨aP _,aP _,a,aP _,a⟩,⟨aP _,a⟩,aP _,⟨aP _,a⟩,aP _,⟨aP _,a⟩,⟨aP _,a⟩,⟨aP _,a⟩⟩,⟨aP _,aP _,aP _,aP _,a,aP _,a⟩,⟨a,a⟩,a,a⟩
theorem aca{l:List (List Int)}(h:l.length=5)(a:∀k:Nat,k<=4->∃x,l[k]?=some x/\Sh x):∃p q r s u:List Int,l=[p,q,r,s,u]/\Sh p/\Sh q/\Sh r/\Sh s/\Sh u:=by match l,h with
 |[p,q,r,s,u],_=>obtain⟨_,b,g⟩:=a 0 (by decide);obtain⟨_,c,i⟩:=a 1 (by decide);obtain⟨_,d,j⟩:=a 2 (by decide);obtain⟨_,e,m⟩:=a 3 (by decide);obtain⟨_,f,n⟩:=a 4 (by decide);cases b;cases c;cases d;cases e;cases f;exact⟨_,_,_,_,_,rfl,g,i,j,m,n⟩
theorem Yi{c:D cc}(b:uX c)(hd:∀f,f∈ea c->∀x,x∈f.2.1->0<=(x:Int)){k:Kn}(h:SA c k):KF k:=by
 rcases h with rfl|⟨a9,k0,e,v,m⟩;.exact Yh
 .
  obtain⟨p9,r0⟩:=KT b v;obtain⟨m9,o0⟩:=F0 p9 m.run;have s:=Mh o0;have s0:=m.fr;have p0:=m.pr;have hp8:List.length (kh c)<=8:=b.np.2;have c9:0<=e/\e<=256:=by obtain⟨t,a,q,f0,f9,o,v9,e0,d0,c0,b0,a0,z9,y9,x9,k0,z0,j0,_⟩:=v;obtain⟨l,w,w9,_⟩:=x3 (zt b);rw[w9]at z0;cases z0;exact(SB b w rfl j0).1
  obtain⟨t,a,q,f0,f9,o,v9,e0,d0,c0,b0,a0,z9,y9,x9,k0,z0,j0,j9,i9,h9,g9,i0,h0,rfl⟩:=v;have n:=b.oh;have x0:=uF b;have j:=n;unfold dq mT at j;simp only[ae]at j;have w0:=di j.1.2.2.2.1;have v0:=di j.1.2.2.2.2.1;have r:=vu n (ea c).length (ar _);have d9:=r.1;rw[AZ c n]at i0;cases i0;rw[G9 w0.1 w0.2 (by omega) (by omega) r.2]at h0;cases h0;have r9:=QQ k0;have C:=QP j9;have B:=QO g9;have u9:=Xd i9;have s9:=WE v0.1 v0.2 h9;obtain⟨k9,q,u⟩:=q;obtain⟨l9,o,u⟩:=o;have C:q=[]:=C;have B:o=[]:=B;subst C B u9 s9;obtain⟨y0,u0,g0,l0,rfl,g,e9,t0⟩:=XS b (m:=c.1.length) (t:=t) (a0:=a) (fr0:=List.replicate e.toNat vK) (n8:=k9) (ac0:=CJ c) (n13:=l9) (λf d=>by rw[dh d];exact⟨rfl,rfl⟩) x0.a r0.1 m.run;have s0:u0.length=e.toNat:=s0;have p0:l0.length=(kh c).length:=p0;have s:Vk y0:=s;refine⟨_,_,_,_,_,_,_,_,_,_,_,_,_,_,_,_,_,rfl,⟨?_,r9,s,⟨?_,λf d=>⟨(g f d).1,by rw[(g f d).2];rfl⟩⟩,?_,⟨by decide,λl w=>?_⟩,?_,⟨?_,λy n0=>?_⟩,⟨?_,BO hd _ (ar _)⟩,⟨?_,λp A=>(t0 p A).1⟩⟩,clc b,⟨λz n9=>?_,λf d=>⟨by rw[(g f d).1];exact aP _,by rw[(g f d).2];exact aP _⟩⟩,λx o9=>?_,λp A=>(t0 p A).2⟩;.have:c.1.length<=4:=x0.n;omega
  .show u0.length<=1000;omega
  .show g0.length<=1000;omega
  .rw[dh w];exact aP _
  .show(List.replicate _ _).length<=1000;rw[aR];omega
  .have:=r0.1;exact aU this (by decide)
  .obtain⟨i,b9⟩:=bn n0;exact MW n (ar _) y n0
  .show(mK c (ea c).length).length<=1000;omega
  .show l0.length<=1000;omega
  .have q9:VA y0 m9:=o0;have q0:=(tQ (q9.vz z n9)).1;have m0:=tM q0;exact aca q0.len λk t9=>⟨_,m0.qy k t9,aU (m0.len k) (by decide)⟩
  .have:=r.2 x o9;show x.length<=1000;omega
end Go.Bo
set_option maxHeartbeats 4000000
set_option maxRecDepth 100000
namespace Go.Bo
open Go Go.Ls
theorem fr5{z:List (List Int)}(h:∃p q r s u:List Int,z=[p,q,r,s,u]/\Sh p/\Sh q/\Sh r/\Sh s/\Sh u):∀k:Nat,k<5->∃l,z[k]?=some l/\Sh l:=by obtain⟨p,q,r,s,u,rfl,a,b,c,d,e⟩:=h;intro k f;match k,f with
 |0,_=>exact⟨_,rfl,a⟩
 |1,_=>exact⟨_,rfl,b⟩
 |2,_=>exact⟨_,rfl,c⟩
 |3,_=>exact⟨_,rfl,d⟩
 |4,_=>exact⟨_,rfl,e⟩
theorem UE{c:D cc}{k:Kn}{f10:DW (c,())=some (true,())}(x0:yf (c,())=some (k,(0:Int),()))(w0:Hg (c,())=some (k,(0:Int),()))(p:DV (k,k,())=some (true,()))(t0:KF k):F9 (c,())=some (true,()):=by
 obtain⟨j0,o0,m0,m,t,a,u,l0,s,k0,h0,n0,i0,y0,z0,b,C,rfl,h,v0,v,A,s0⟩:=t0;have u0:=RN (n1:=o0) (n2:=m0) (n8:=l0) (n13:=n0) (dn:=y0) (dm:=z0) h v0 v A;refine cC ?_;unfold F9;refine aa f10 (aw rfl (aa x0 (aw rfl (aa w0 (aa u0 (aw rfl (aa p (aw rfl (aa p (aw rfl ?_))))))))));refine fS (l:=u) h.fr.1 (λi x d f e=>be (cB (l:=u) f) (aa (aC d) (kl e))) ly ?_;refine fS (l:=C) h.pr.1 (λi x d f e=>be (cB (l:=C) f) (aK (P:=λ_=>True) (aa (aC d) (aa (aC d) (fS (l:=x.2.2.2.2.2.2.2.1.2.1) (h.pr.2 x (Y d)).t (λj y g o n=>be (cB o) (aa (aC d) (aa (aC g) ((s0 x (Y d) y (Y g)).elim λw p0=>aa p0 (kl n))))) ly (a4 trivial)))) λ_ _=>kl e)) ly ?_;refine fS (l:=b) h.b.1 (λi x d f e=>be (cB (l:=b) f) (aK (P:=λ_=>True) (aa (aC d) (fS (l:=x) (A x (Y d)) (λj y g o n=>be (cB o) (aa (aC d) (aa (aC g) (aa (aC g) (kl n))))) ly (a4 trivial))) λ_ _=>kl e)) ly ?_;refine fS (l:=s) h.ac (λi x d f e=>be (cB (l:=s) f) (aa (aC d) (aa (aC d) (kl e)))) ly ?_;refine fS (l:=cw a) h.a.z (λi z r f e=>be (cB (l:=cw a) f) (aK (P:=λ_=>True) (cz (λq=>((q:Int),())) 5 rfl (by decide) (λq r0=>?_) (aw rfl (bj (ab rfl))) (a4 trivial)) λ_ _=>kl e)) ly ?_;.obtain⟨l,B,q0⟩:=fr5 (v.z z (Y r)) q r0;exact be (eK (by show(q:Int)<5;omega)) (aK (P:=λ_=>True) (aa (aC r) (aa (aC B) (fS (l:=l) q0 (λj y g o n=>be (cB o) (aa (aC r) (aa (aC B) (aa (aC g) (aa (aC g) (kl n)))))) ly (a4 trivial)))) λ_ _=>kl (bI (by omega)))
 exact aa p (be rfl (ab rfl))
theorem KS(c:D cc)(g:Ls.wd cc c):F9 (c,())=some (true,()):=by
 obtain⟨b,d,y⟩:=Ws c;have m:∀f,f∈ea c->∀x,x∈f.2.1->0<=(x:Int):=by intro f A x C;have t:=g.2.2.2.2.2.2.2.2.2.2.1.1 f A;exact Rh (t.2.1.1 x C)
 cases b;.refine cC ?_;unfold F9;exact aa d (be rfl (ab rfl))
 obtain⟨y0,x0,w0,v0,u0⟩:=y rfl;obtain⟨n,a,w⟩:=Wr c y0 x0 w0 v0;have i:∀r:D (.ah fR iU),yf (c,())=some r->bH r.2.1 0=true->F9 (c,())=some (true,()):=by intro r v z;refine cC ?_;unfold F9;exact aa d (aw rfl (aa v (be z (ab rfl))))
 obtain⟨r,p,B⟩:=TC c;rw[a]at p;cases p;by_cases o:n=0
 .
  subst o;have h:=B rfl;obtain⟨⟨k,e,u⟩,q,z0,s⟩:=U6 h a w;by_cases l:e=0;.subst l;exact UE (f10:=d) q z0 (T6 h m s) (Yi h m s)
  .exact i _ q (by rw[gK,aX l];rfl)
 .
  have j:bH n 0=true:=by rw[gK,aX o];rfl
  refine i (zK,n,()) (cC ?_) j;unfold yf;exact aa a (be j (ab rfl))
end Go.Bo
namespace Go.Proofs.YtfjeeggbdncodaaGreat
open Go Go.Hm Go.Ls Go.Bo Go.ChangeShapes Go.WideShapes Go.ChangeAt Go.RowKit Go.Wk
theorem own : ownKnob Tryz.prog.godebug = none := by kernel_rfl
theorem laidOut : laidOutB Tryz.prog = true := by kernel_rfl
theorem r3 : qB Tryz.prog 3 iT := HM Tryz.underlying3
theorem r22 : qB Tryz.prog 22 lI := m8 Tryz.underlying22 (bA (by kernel_rfl)) (by kernel_rfl) (bA (by kernel_rfl)) r3
theorem ZS : qB Tryz.prog 206 (.ah iT (.ah iT (.ah iT iU))) := nq (go := 4) Tryz.underlying206 (by kernel_rfl) (dd (s := 1) r3 rfl (by kernel_rfl) (dd (s := 1) r3 rfl (by kernel_rfl) (dd (s := 1) r3 rfl (by kernel_rfl) (dd (s := 1) r3 rfl (by kernel_rfl) (pA rfl)))))
theorem r23 : qB Tryz.prog 23 (.bc (.ah iT (.ah iT (.ah iT iU)))) := m8 Tryz.underlying23 (bA (by kernel_rfl)) (by kernel_rfl) (bA (by kernel_rfl)) ZS
theorem r5 : qB Tryz.prog 5 (.int .u8) := HM Tryz.underlying5
theorem r67 : qB Tryz.prog 67 (.bc (.int .u8)) := m8 Tryz.underlying67 (bA (by kernel_rfl)) (by kernel_rfl) (bA (by kernel_rfl)) r5
theorem r69 : qB Tryz.prog 69 (.ah iT (.ah (.bc (.int .u8)) .un)) := nq (go := 2) Tryz.underlying69 (by kernel_rfl) (dd (s := 1) r3 rfl (by kernel_rfl) (dd (s := 1) r67 rfl (by kernel_rfl) (pA rfl)))
theorem r24 : qB Tryz.prog 24 (.bc (.ah iT (.ah (.bc (.int .u8)) .un))) := m8 Tryz.underlying24 (bA (by kernel_rfl)) (by kernel_rfl) (bA (by kernel_rfl)) r69
theorem r71 : qB Tryz.prog 71 (.ah iT (.ah iT (.ah iT (.ah iT iU)))) := nq (go := 5) Tryz.underlying71 (by kernel_rfl) (dd (s := 1) r3 rfl (by kernel_rfl) (dd (s := 1) r3 rfl (by kernel_rfl) (dd (s := 1) r3 rfl (by kernel_rfl) (dd (s := 1) r3 rfl (by kernel_rfl) (dd (s := 1) r3 rfl (by kernel_rfl) (pA rfl))))))
theorem r25 : qB Tryz.prog 25 (.bc (.ah iT (.ah iT (.ah iT (.ah iT iU))))) := m8 Tryz.underlying25 (bA (by kernel_rfl)) (by kernel_rfl) (bA (by kernel_rfl)) r71
theorem ZT : qB Tryz.prog 152 (.ah iT (.ah iT (.ah iT (.ah iT (.ah iT (.ah iT (.ah iT iU))))))) := nq (go := 8) Tryz.underlying152 (by kernel_rfl) (dd (s := 1) r3 rfl (by kernel_rfl) (dd (s := 1) r3 rfl (by kernel_rfl) (dd (s := 1) r3 rfl (by kernel_rfl) (dd (s := 1) r3 rfl (by kernel_rfl) (dd (s := 1) r3 rfl (by kernel_rfl) (dd (s := 1) r3 rfl (by kernel_rfl) (dd (s := 1) r3 rfl (by kernel_rfl) (dd (s := 1) r3 rfl (by kernel_rfl) (pA rfl)))))))))
theorem r72 : qB Tryz.prog 72 (.bc (.ah iT (.ah iT (.ah iT (.ah iT (.ah iT (.ah iT (.ah iT iU)))))))) := m8 Tryz.underlying72 (bA (by kernel_rfl)) (by kernel_rfl) (bA (by kernel_rfl)) ZT
theorem r99 : qB Tryz.prog 99 (.ah iT (.ah (.bc (.ah iT (.ah iT (.ah iT (.ah iT (.ah iT (.ah iT (.ah iT iU)))))))) .un)) := nq (go := 2) Tryz.underlying99 (by kernel_rfl) (dd (s := 1) r3 rfl (by kernel_rfl) (dd (s := 1) r72 rfl (by kernel_rfl) (pA rfl)))
theorem r26 : qB Tryz.prog 26 (.bc (.ah iT (.ah (.bc (.ah iT (.ah iT (.ah iT (.ah iT (.ah iT (.ah iT (.ah iT iU)))))))) .un))) := m8 Tryz.underlying26 (bA (by kernel_rfl)) (by kernel_rfl) (bA (by kernel_rfl)) r99
theorem r28 : qB Tryz.prog 28 (.ah lI (.ah (.bc (.ah iT (.ah iT (.ah iT iU)))) (.ah iT (.ah iT (.ah iT (.ah iT (.ah iT (.ah iT (.ah iT (.ah iT (.ah (.bc (.ah iT (.ah (.bc (.int .u8)) .un))) (.ah (.bc (.ah iT (.ah iT (.ah iT (.ah iT iU))))) (.ah (.bc (.ah iT (.ah (.bc (.ah iT (.ah iT (.ah iT (.ah iT (.ah iT (.ah iT (.ah iT iU)))))))) .un))) .un))))))))))))) := nq (go := 13) Tryz.underlying28 (by kernel_rfl) (dd (s := 1) r22 rfl (by kernel_rfl) (dd (s := 1) r23 rfl (by kernel_rfl) (dd (s := 1) r3 rfl (by kernel_rfl) (dd (s := 1) r3 rfl (by kernel_rfl) (dd (s := 1) r3 rfl (by kernel_rfl) (dd (s := 1) r3 rfl (by kernel_rfl) (dd (s := 1) r3 rfl (by kernel_rfl) (dd (s := 1) r3 rfl (by kernel_rfl) (dd (s := 1) r3 rfl (by kernel_rfl) (dd (s := 1) r3 rfl (by kernel_rfl) (dd (s := 1) r24 rfl (by kernel_rfl) (dd (s := 1) r25 rfl (by kernel_rfl) (dd (s := 1) r26 rfl (by kernel_rfl) (pA rfl))))))))))))))
set_option maxRecDepth 100000 in
theorem wO (os : Os) (started : os.Started) (H : Type) (enc : TypeId × Value → H) :
    ReturnsInHanded {} Tryz.checked os 9 .any (Rows.bootClonesSpec.pre6 enc Tryz.prog Tryz.f9 Rows.bootClonesRow.domain false) (Rows.bootClonesSpec.post enc Tryz.prog Tryz.f9 false true false false) := by
  refine returnsInHanded_of_change_sized (C := Tryz.checked) own started (by kernel_rfl) Tryz.func9
    (ChangeSpec.witness6 (enc := enc) (C := Tryz.checked) false ⟨#[], #[.agg #[.slice none 0 0, .slice none 0 0, .int .i64 0, .int .i64 0, .int .i64 0, .int .i64 0, .int .i64 0, .int .i64 0, .int .i64 0, .int .i64 0, .slice none 0 0, .slice none 0 0, .slice none 0 0]], []⟩ 8 (by kernel_rfl) (by kernel_rfl) (by kernel_rfl) (by kernel_rfl)) ?_
  intro W base args ds gs nT hval0 hW hcnd0 hsz0 _
  have hsz : (DataW.weightsEach Tryz.prog (Tryz.f9.params.toList ++ Rows.bootClonesSpec.plain.varTypes Tryz.prog) (ds ++ gs)).all (· ≤ reachBytes) = true := hsz0
  have hval : ∀ (j : Nat) t v, Tryz.f9.params[j]? = some t → args[j]? = some v → Value.okWide Tryz.prog W .any base t v := hval0
  clear hcnd0 hsz0 hval0
  have hW' := hW
  obtain ⟨p, q, hA0, hV, rfl, hfz, hnd⟩ := hW
  have hA : DataW.TrodAll enc Tryz.prog W 0 (fun _ => true) true Tryz.f9.params.toList args.toList ds p := hA0
  clear hA0
  rw [Tryz.params9] at hA hval hsz
  obtain ⟨v0, d0, rfl, rfl, h0⟩ := trodAll_one hA
  obtain ⟨rfl, rfl⟩ := trodVars_none hV
  simp only [bi] at hW' hsz
  have hlt := hW'.lt
  have hwt : ∀ (j : Nat) (t : TypeId) (d : DataW H), ([28] : List TypeId)[j]? = some t → [d0][j]? = some d → ∀ n, n ∈ d.weights Tryz.prog t → n ≤ reachBytes := by
    intro j t d ht hd n hn
    have := bR.1 hsz n (DataW.weights_mem_each (ts := [28] ++ Rows.bootClonesSpec.plain.varTypes Tryz.prog) (by rw [bJ (by have := (aj.1 ht).1; exact this)]; exact ht) hd n hn)
    simpa using this
  obtain ⟨xs0, rfl, hxs0⟩ := okWide_struct Tryz.underlying28 (hval 0 28 v0 rfl rfl)
  have i_0 := KU W
  obtain ⟨hp1, nx1, ρ1, s0, a0, i_1, m0, y0, z0, g0⟩ := r28.arg h0 (hwt 0 28 d0 rfl rfl) (.inl ⟨rfl, _, rfl⟩) .e 0 (fun _ => none) i_0
  have hk : ∀ (W' : World), Below W.heap.size W W' → ∀ (t : TypeId) (v : Value) (d : DataW H) (ps : List MemPlace), Tryz.prog.readableRec t = true → t < Tryz.prog.types.size → DataW.Trod enc Tryz.prog W 0 (fun _ => true) true t v d ps → (∀ x ∈ ps, x.block < W.heap.size) → DataW.Trod enc Tryz.prog W' 0 (fun b => decide (b < W.heap.size)) true t v d ps :=
    fun W' hb t v d ps hr hs h hl => Below.trod laidOut hr hs h hb hl
  refine (UD UY n9 e9 k9 i_1 (args := [s0]) (x := (a0, ())) (by unfold Hm.dY; exact ⟨_, _, rfl, y0, by unfold Hm.dY; rfl⟩) ⟨_, _, rfl, z0, rfl⟩ (KS a0 g0)).mono ?_
  rintro v W' ⟨rfl, kp⟩
  have hb : Below W.heap.size W W' := ⟨kp.os, kp.tape, kp.output, kp.size, fun k hk => kp.block k hk (by simp)⟩
  refine ⟨_, _, _, [], _, [], hW', trodAll_mk1 (shut_bool Tryz.underlying4 true), trodAll_mk1 (hk W' hb _ _ _ _ (by kernel_rfl) (bA (by kernel_rfl)) h0 (fun x hx => hlt x (by simp [hx]))), rfl, hb.frame _, fun h => by cases h⟩
theorem jh {a b : Bool} (h : a = true) (k : b = true) : (a && b) = true := by rw [h, k]; rfl
theorem j0 : (Rows.bootClonesRow.wf (OpenSpec.ofChange Rows.bootClonesSpec)) = true := by kernel_rfl
theorem j1 : (laidOutB Tryz.pinned.checked.prog) = true := by kernel_rfl
theorem j2 : (mapsRowed Tryz.pinned.checked.prog) = true := by kernel_rfl
theorem j3 : (Tryz.f9.params.all (Tryz.pinned.checked.prog.readableRec ·)) = true := by kernel_rfl
theorem j4 : (namedTie Tryz.pinned.checked.prog Rows.bootClonesRow.named Rows.bootClonesSpec.vars) = true := by kernel_rfl
theorem j5 : ((Rows.bootClonesRow.stops == [])) = true := by kernel_rfl
theorem j6 : ((Tryz.pinned.checked.prog.stops == [])) = true := by kernel_rfl
theorem j7 : ((Rows.bootClonesRow.knobs == [])) = true := by kernel_rfl
theorem j8 : ((Tryz.pinned.checked.prog.stopKnobs == [])) = true := by kernel_rfl
theorem j9 : ((Rows.bootClonesRow.inPlace == Tryz.pinned.checked.prog.inPlace 9)) = true := by kernel_rfl
theorem j10 : ((Rows.bootClonesRow.unfollowed == Tryz.pinned.checked.prog.unfollowed 9)) = true := by kernel_rfl
theorem j11 : ((Rows.bootClonesRow.recurses == Tryz.pinned.checked.prog.recurses 9)) = true := by kernel_rfl
theorem j12 : ((Rows.bootClonesRow.named == Tryz.pinned.checked.prog.varsNamed 9)) = true := by kernel_rfl
theorem j13 : ((Rows.bootClonesRow.maps == (Tryz.f9.params.toList ++ Rows.bootClonesSpec.plain.varTypes Tryz.pinned.checked.prog).any (Tryz.pinned.checked.prog.mapsRec ·))) = true := by kernel_rfl
theorem j14 : ((Rows.bootClonesRow.ifaces == (Tryz.f9.params.toList ++ Rows.bootClonesSpec.plain.varTypes Tryz.pinned.checked.prog).any (Tryz.pinned.checked.prog.ifacesRec ·))) = true := by kernel_rfl
theorem j15 : ((Rows.bootClonesRow.mapsOut == Tryz.pinned.checked.prog.mapsAmong Tryz.f9.resultTypes.toList)) = true := by kernel_rfl
theorem j16 : ((Rows.bootClonesRow.loops == (Tryz.f9.params.toList ++ Rows.bootClonesSpec.plain.varTypes Tryz.pinned.checked.prog).any (Tryz.pinned.checked.prog.loopsFrom ·))) = true := by kernel_rfl
theorem j17 : ((Rows.bootClonesRow.wideKeys == (Tryz.f9.params.toList ++ Rows.bootClonesSpec.plain.varTypes Tryz.pinned.checked.prog ++ Tryz.f9.resultTypes.toList).any (Tryz.pinned.checked.prog.wideKeysFrom ·))) = true := by kernel_rfl
theorem j18 : (Rows.bootClonesSpec.vars.all (Tryz.pinned.checked.prog.varReadable ·)) = true := by kernel_rfl
theorem j19 : (Tryz.f9.resultTypes.all (fun t => Tryz.pinned.checked.prog.readableRec t && decide (t < Tryz.pinned.checked.prog.types.size))) = true := by kernel_rfl
theorem j20 : ((Rows.bootClonesRow.ifacesOut == Tryz.f9.resultTypes.toList.any (Tryz.pinned.checked.prog.ifacesRec ·))) = true := by kernel_rfl
theorem j21 : ((Rows.bootClonesRow.loopsOut == Tryz.f9.resultTypes.toList.any (Tryz.pinned.checked.prog.loopsFrom ·))) = true := by kernel_rfl
theorem j22 : ((Rows.bootClonesRow.plainKeys == Tryz.pinned.checked.prog.plainKeys)) = true := by kernel_rfl
theorem j23 : (Rows.bootClonesRow.shortTexts.isNone) = true := by kernel_rfl
theorem j24 : (Tryz.pinned.checked.prog.stopsHeard) = true := by kernel_rfl
theorem j25 : (Tryz.pinned.checked.prog.mayEnter) = true := by kernel_rfl
theorem j26 : ((Rows.bootClonesRow.lifted == Tryz.pinned.checked.prog.liftsFinal)) = true := by kernel_rfl
theorem j27 : ((Tryz.pinned.checked.prog.make == some Rows.bootClonesRow.make)) = true := by kernel_rfl
theorem j29 : ((Rows.bootClonesRow.pinned == Rows.bootClonesRow.pinnedBy)) = true := by kernel_rfl
theorem j30 : ((Rows.bootClonesRow.veiled == (Tryz.f9.params.toList ++ Rows.bootClonesSpec.plain.varTypes Tryz.pinned.checked.prog ++ Tryz.f9.resultTypes.toList).any (Tryz.pinned.checked.prog.veiledRec ·))) = true := by kernel_rfl
theorem j31 : (Rows.bootClonesRow.veiledFits Tryz.pinned.checked.prog Tryz.f9.params.toList (Tryz.f9.params.toList ++ Rows.bootClonesSpec.plain.varTypes Tryz.pinned.checked.prog ++ Tryz.f9.resultTypes.toList)) = true := by kernel_rfl
theorem jn : Tryz.pinned.checked.prog.funcNamed Rows.bootClonesRow.func = some 9 := by kernel_rfl
theorem ji : Tryz.f9.isInstance Tryz.pinned.checked.prog Rows.bootClonesRow.origin Rows.bootClonesRow.targs := bA (by kernel_rfl)
theorem jw : Tryz.f9.isWrapper Tryz.pinned.checked.prog Rows.bootClonesRow.wrapper Rows.bootClonesRow.mainSum := by unfold Func.isWrapper; first | (rw [aE (by decide +kernel)]; kernel_rfl) | (rw [aG (by decide +kernel)]; exact ⟨rfl, rfl⟩)
theorem bootClones_holds : Rows.BootClonesSaid :=
  OpenClaim.holds_of_wide 9 Tryz.f9 rfl rfl rfl rfl rfl rfl rfl ⟨rfl, rfl, rfl, rfl, rfl⟩ rfl rfl rfl rfl rfl jn Tryz.func9 (jh (jh (jh (jh (jh (jh (jh (jh (jh (jh (jh (jh (jh (jh (jh (jh (jh (jh (jh (jh (jh (jh (jh (jh (jh (jh (jh (jh (jh (jh (jh j0 j1) j2) j3) j4) j5) j6) j7) j8) j9) j10) j11) j12) j13) j14) j15) j16) j17) j18) j19) j20) j21) j22) j23) j24) j25) j26) j27) (by kernel_rfl)) j29) j30) j31)
    ji jw
    (fun os started H enc _ => wO os started H enc)
end Go.Proofs.YtfjeeggbdncodaaGreat
