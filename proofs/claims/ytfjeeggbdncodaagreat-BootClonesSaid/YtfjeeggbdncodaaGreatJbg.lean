/-
  The statement BootClones: the configuration's law, of whatever arguments.
-/
import Derived.Test.YtfjeeggbdncodaaGreatGe
import Derived.Test.YtfjeeggbdncodaaGreatRows
set_option linter.unusedVariables false
set_option linter.unusedSimpArgs false
set_option linter.constructorNameAsVariable false
set_option linter.unusedSectionVars false
noncomputable section
set_option maxHeartbeats 4000000
set_option maxRecDepth 100000
namespace Go.Bo
open Go Go.Ls
theorem mF{X:Type}{l:List X}{b:Nat}(h:Sh l)(a:b<=1000:=by decide):aO ([]:List X) l b=true:=ce (by show 0+l.length<=_;omega) a
theorem AA{X:Type}{l:List X}{x:X}{b i:Nat}(h:l.length=i)(hi:i<=1000)(a:b<=1000:=by decide):aO l (x::[]) b=true:=ce (by show l.length+1<=_;omega) a
theorem ml{X α:Type}{Q:α->Prop}{l:List X}{f:List X×Int×Unit->Option (Sum (List X×Int×Unit) (Sum (List X×Unit) α))}{K:List X×Unit->Option α}(a:Sh l)(h:∀(i:Nat)(x:X)(jR:List X),l[i]?=some x->i<=1000->jR.length=i->Ok (f (jR,(i:Int),())) λr=>r= .inl (jR++[x],ai .i64 (i:Int) 1,()))(d:Ok (f (l,(l.length:Int),())) λr=>r= .inr (.inl (l,())))(c:Ok (K (l,())) Q):Ok (aD (aB f 1000000000 ([],0,())) K) Q:=by refine cz (λi=>(l.take i,(i:Int),())) l.length rfl (by have:l.length<=1000:=a;omega) (λi e=>?_) (by show Ok (f (l.take l.length,_)) _;rw[bO];exact d) c;have a:l.length<=1000:=a;have b:l[i]?=some l[i]:=G e;refine(h i l[i] (l.take i) b (by omega) (by rw[aY];omega)).mono λr g=>?_;rw[g,dC b,bI (by omega)]
theorem xU{X α:Type}{Q:α->Prop}{f:List X×Int×Unit->Option (Sum (List X×Int×Unit) (Sum (List X×Unit) α))}{K:List X×Unit->Option α}(b:Ok (f (([]:List X),(0:Int),())) λr=>r= .inr (.inl (([]:List X),())))(a:Ok (K (([]:List X),())) Q):Ok (aD (aB f 1000000000 ([],0,())) K) Q:=ml (l:=[]) (aP _) (λi x d c=>by cases c) b a
theorem QU{α:Type}{Q:α->Prop}{K:Unit×Unit->Option α}(a:Ok (K ((),())) Q):Ok (aD (aB (α:=D (.ah .nil iU)) (λd=>ad (ay d.2.1 0) none (ao (some (.inl ((),()))))) 1000000000 ((),0,())) K) Q:=cz (λ_=>((),(0:Int),())) 0 rfl (by decide) (λi b=>absurd b (Nat.not_lt_zero i)) (aw rfl (bj (ab rfl))) a
theorem tA{X:Type}{l:List X}{i:Nat}{x:X}(h:l[i]?=some x):ay (i:Int) (ak l)=true:=cB (aj.1 h).1
section
variable{c:D cc}{n1 n2:Int}{m:Nat}{t:D kO}{a:eI}{fr:List uX}{n8:Int}{ac:List fj}{ag:List (List Int)}{so:List (Int×Int×Unit)}{n13:Int}{fi:List (D jZ)}{dn dm:Int}{b:BL}{pr:List C7}
structure Zz (c : D cc) : Prop where
  n : Sh c.1
  z : Sh c.2.1
  a : Sh c.2.2.2.2.2.2.2.2.2.2.2.1
  f : Sh c.2.2.2.2.2.2.2.2.2.2.1
  fd : ∀ f, f ∈ c.2.2.2.2.2.2.2.2.2.2.1 → Sh (X := Int) f.2.1
  p : Sh c.2.2.2.2.2.2.2.2.2.2.2.2.1
  pd : ∀ p, p ∈ c.2.2.2.2.2.2.2.2.2.2.2.2.1 → Sh p.2.1
structure ClE (a : eI) (fr : List uX) : Prop where
  z : ∀ z, z ∈ cw a → ∃ p q r s u : List Int, z.2.2.2.2.2.1 = [p, q, r, s, u] ∧ Sh p ∧ Sh q ∧ Sh r ∧ Sh s ∧ Sh u
  f : ∀ f, f ∈ fr → Sh f.2.2.2.2.2.2.2.2.2.2.2.2.2.2.1 ∧ Sh (X := Int) f.2.2.2.2.2.2.2.2.2.2.2.2.2.2.2.1
theorem RV(h:Zc m t a fr ac ag so fi b pr)(l:Zz c)(z:ClE a fr)(u0:∀x,x∈b->Sh x):PY (AE c n1 n2 m t a fr n8 ac ag so n13 fi dn dm b pr,())=some (AE c n1 n2 m t a fr n8 ac ag so n13 fi dn dm b pr,()):=by
 refine cC ?_;have A:∀{v:Type}{x:v},Sh (List.replicate m x):=λ{v x}=>by show(List.replicate m x).length<=1000;rw[aR];exact h.m
 have o:∀{v:Type},Sh ([]:List v):=λ{v}=>aP _;unfold PY;refine aq (mF l.n) (aq (mF l.z) (aq (mF l.a) (ml (l:=c.2.2.2.2.2.2.2.2.2.2.1) l.f (λi x k d g f=>be (tA d) (aa (aC d) (aq (mF (l.fd x (Y d))) (aq (AA f g) (ab rfl))))) (aw cJ (bj (ab rfl))) ?_)));refine ml (l:=c.2.2.2.2.2.2.2.2.2.2.2.2.1) l.p (λi x k d g f=>be (tA d) (aa (aC d) (aq (mF (l.pd x (Y d))) (aq (AA f g) (ab rfl))))) (aw cJ (bj (ab rfl))) ?_;refine aq (mF A) (aq (mF h.ac) (aq (mF o) (aq (mF h.so) (aq (mF o) (aq (mF o) ?_)))));refine ml (l:=List.replicate m t) A (λi x k d g f=>be (tA d) (aa (aC d) (aq (mF (by rw[dh (Y d),h.t];exact o)) (aq (AA f g) (ab rfl))))) (aw cJ (bj (ab rfl))) ?_;refine ml (l:=List.replicate m []) A (λi x k d g f=>be (tA d) (aa (aC d) (aq (mF (by rw[dh (Y d)];exact o)) (aq (AA f g) (ab rfl))))) (aw cJ (bj (ab rfl))) ?_;refine aq (mF h.a.n) ?_;refine ml (l:=cw a) h.a.z (λi x k d g f=>be (tA d) (aa (aC d) ?_)) (aw cJ (bj (ab rfl))) ?_;.obtain⟨p,q,r,s,u,e,C,z0,y0,x0,w0⟩:=z.z x (Y d);obtain⟨q0,p0,o0,n0,m0,s0,w⟩:=x;have e:s0=[p,q,r,s,u]:=e;subst e;exact aq (mF C) (aq (mF z0) (aq (mF y0) (aq (mF x0) (aq (mF w0) (aq (AA f g) (ab rfl))))))
 refine ml (l:=cP a) h.a.c (λi x k d g f=>be (tA d) (aa (aC d) (ml (l:=x.1) (h.a.cl x (Y d)).1 (λj y r0 B t0 v0=>be (tA B) (aa (aC B) (aq (mF ((h.a.cl x (Y d)).2 y (Y B))) (aq (AA v0 t0) (ab rfl))))) (aw cJ (bj (ab rfl))) (aq (AA f g) (ab rfl))))) (aw cJ (bj (ab rfl))) ?_;refine ml (l:=fr) h.fr.1 (λi x k d g f=>be (tA d) (aa (aC d) (aq (mF (z.f x (Y d)).1) (aq (mF (z.f x (Y d)).2) (aq (AA f g) (ab rfl)))))) (aw cJ (bj (ab rfl))) ?_;refine xU (aw rfl (bj (ab rfl))) ?_;refine ml (l:=ag) h.ag.1 (λi x k d g f=>be (tA d) (aa (aC d) (aq (mF (h.ag.2 x (Y d))) (aq (AA f g) (ab rfl))))) (aw cJ (bj (ab rfl))) ?_;refine xU (aw rfl (bj (ab rfl))) ?_;refine ml (l:=fi) h.fi.1 (λi x k d g f=>be (tA d) (aa (aC d) (QU (aq (mF (h.fi.2 x (Y d)).2) (aq (AA f g) (ab rfl)))))) (aw cJ (bj (ab rfl))) ?_;refine ml (l:=b) h.b.1 (λi x k d g f=>be (tA d) (aa (aC d) (aq (mF (u0 x (Y d))) (aq (AA f g) (ab rfl))))) (aw cJ (bj (ab rfl))) ?_;refine xU (aw rfl (bj (ab rfl))) ?_;refine xU (aw rfl (bj (ab rfl))) ?_;refine ml (l:=pr) h.pr.1 (λi x k d g f=>be (tA d) (aa (aC d) ?_)) (aw cJ (bj (ab rfl))) ?_;.have n:=h.pr.2 x (Y d);exact aq (mF n.c) (QU (aq (mF n.t) (aq (mF (by rw[n.t0];exact o)) (aq (mF n.a) (aq (mF n.b) (aq (mF n.d) (aq (mF n.e) (aq (AA f g) (ab rfl)))))))))
 refine xU (aw rfl (bj (ab rfl))) ?_;exact ab rfl
end
end Go.Bo
set_option maxHeartbeats 4000000
set_option maxRecDepth 100000
namespace Go.Bo
open Go Go.Ls
theorem clc{c:D cc}(d:u5 c):Zz c:=by
 have o:=(tE d.jR).1;have r:c.1.length<=4:=by have:=d.yP;unfold im at this;simp only[ae]at this;have:=di this.1;omega
 have s:c.2.1.length<=6:=by have:=d.A6;unfold gS at this;simp only[ae]at this;have:=di this.1;omega
 have j:=mi d.om;have q:c.2.2.2.2.2.2.2.2.2.2.1.length<=4:=by rw[<-mG];exact j.2.1
 have k:∀f,f∈c.2.2.2.2.2.2.2.2.2.2.1->f.2.1.length<=512:=by
  intro f l;have:=d.om;unfold dq at this;simp only[ae]at this;have:=bR.1 this.2.2 f l;unfold nQ at this;simp only[ae]at this;obtain⟨g,_,i⟩:=this;have g:=di g;have i:ak f.2.1<=d8 .i64 f.1 32:=eZ (by simpa using i);have n:∀p:Int,1<=p->p<=16->ak f.2.1<=d8 .i64 p 32->f.2.1.length<=512:=by intro p a b h;have e:d8 .i64 p 32=p*32:=kW (n:=p*32) (by omega) (by omega);rw[e,aJ]at h;omega
  exact n f.1 g.1 g.2 i
 refine⟨?_,?_,?_,?_,λf j=>?_,?_,λp m=>?_⟩;.show c.1.length<=1000;omega
 .show c.2.1.length<=1000;omega
 .show c.2.2.2.2.2.2.2.2.2.2.2.1.length<=1000;omega
 .show c.2.2.2.2.2.2.2.2.2.2.1.length<=1000;omega
 .have:=k f j;show f.2.1.length<=1000;omega
 .have:=d.np;show c.2.2.2.2.2.2.2.2.2.2.2.2.1.length<=1000;omega
 .have:=(d.prog p m).1;show p.2.1.length<=1000;omega
def NdP(p:C7):Prop:=∀n,n∈p.2.2.2.2.2.2.2.1.2.1->∃e,ax n.2.1 0=some e
theorem XR{f:Int}{t:D rN}{e:Int}(h:sy (f,())=some (t,e,())):∀n,n∈t.2.1->∃e,ax n.2.1 0=some e:=by
 have g:Ok (sy (f,())) λr=>∀n,n∈r.1.2.1->∃e,ax n.2.1 0=some e:=by
  have d:Ok (yh (f,())) λ_=>True:=by unfold yh;exact aN (λ_=>ab trivial) λ_=>ab trivial
  unfold sy;exact bb d λ_ _=>aN (λ_=>ab λn a=>by cases a) λ_=>ab λn a=>by rcases cj.1 a with rfl;exact⟨0,rfl⟩
 obtain⟨r,b,c⟩:=g;rw[h]at b;cases b;exact c
def Sh0(f:uX):Prop:=f.2.2.2.2.2.2.2.2.2.2.2.2.2.2.1=[]/\f.2.2.2.2.2.2.2.2.2.2.2.2.2.2.2.1=[]
theorem X0{c:D cc}(A:u5 c){m:Nat}{t:D kO}{a0:eI}{fr0:List uX}{n8:Int}{ac0:List fj}{ag:List (List Int)}{so:List (Int×Int×Unit)}{n13:Int}{fi:List (D jZ)}{dn dm:Int}{b:BL}(B:∀f,f∈fr0->Sh0 f)(z:ac0.length<=8)(p0:fi.length<=4):∀{i:Nat}{k:Kn},od c (AE c 0 0 m t a0 fr0 n8 ac0 ag so n13 fi dn dm b []) i k->∃a fr ac pr,k=AE c 0 0 m t a fr n8 ac ag so n13 fi dn dm b pr/\(∀f,f∈fr->Sh0 f)/\ac.length<=8/\∀p,p∈pr->Vr p/\NdP p:=by
 intro i k h
 induction h with
  |zero=>exact⟨_,_,_,_,rfl,B,z,λp n=>by cases n⟩
  | @succ i k p j v f x0 q e o0 n l r0 q0 t0 g s z0=>
  obtain⟨a,fr,ac,pr,rfl,o,s0,x⟩:=z0;obtain⟨r,u,y0⟩:=Dq ac p.1 1;have l:yk (ac,p.1,1,())=some (j,q,0,()):=l;rw[l]at u;cases u;have n0:j.length=ac.length:=(y0 rfl).1;have g:f.toNat<fr.length:=g;have C:fr[f.toNat]?=some fr[f.toNat]:=G g;obtain⟨w0,v0⟩:=Qq s;have u0:=XR s;refine⟨v,fr.set f.toNat (Qf ((fr[f.toNat]?).getD vO) p.1 (i:Int)),j,pr++[Ya p x0 (mE fi)],rfl,λy d=>?_,by omega,λy d=>?_⟩
  .
   rcases cM d with d|rfl;.exact o y d
   .rw[C];have w:=o _ (ew g);exact⟨w.1,w.2⟩
  .
   rcases bD.1 d with d|d;.exact x y d
   .rcases cj.1 d with rfl;have:=(A.prog p (Y n)).1;refine⟨⟨by show List.length p.2.1<=1000;omega,w0,v0,aP _,aP _,aP _,?_⟩,u0⟩;show(mE fi).length<=1000;unfold mE;rw[cZ];omega
def KF(k:Kn):Prop:=∃c n q m t a d r f g i o h l j b e,k=AE c n q m t a d r f g i o h l j b e/\Zc m t a d f g i h b e/\Zz c/\ClE a d/\(∀x,x∈b->Sh x)/\∀p,p∈e->NdP p
theorem Yp:KF zK:=by
 have a:∀{b:Type}{c:b->Prop},∀x,x∈([]:List b)->c x:=λx d=>by cases d
 exact⟨zK.1,0,0,0,(0,[],()),zA,[],0,[],[],[],0,[],0,0,[],[],rfl,⟨aP _,rfl,⟨aP _,aP _,a,aP _,a⟩,⟨aP _,a⟩,aP _,⟨aP _,a⟩,aP _,⟨aP _,a⟩,⟨aP _,a⟩,⟨aP _,a⟩⟩,⟨aP _,aP _,aP _,aP _,a,aP _,a⟩,⟨a,a⟩,a,a⟩
theorem acj{l:List (List Int)}(h:l.length=5)(a:∀k:Nat,k<=4->∃x,l[k]?=some x/\Sh x):∃p q r s u:List Int,l=[p,q,r,s,u]/\Sh p/\Sh q/\Sh r/\Sh s/\Sh u:=by match l,h with
 |[p,q,r,s,u],_=>obtain⟨_,b,g⟩:=a 0 (by decide);obtain⟨_,c,i⟩:=a 1 (by decide);obtain⟨_,d,j⟩:=a 2 (by decide);obtain⟨_,e,m⟩:=a 3 (by decide);obtain⟨_,f,n⟩:=a 4 (by decide);cases b;cases c;cases d;cases e;cases f;exact⟨_,_,_,_,_,rfl,g,i,j,m,n⟩
theorem Yq{c:D cc}(b:u5 c)(hd:∀f,f∈ea c->∀x,x∈f.2.1->0<=(x:Int)){k:Kn}(h:SJ c k):KF k:=by
 rcases h with rfl|⟨a9,k0,e,v,m⟩;.exact Yp
 .
  obtain⟨p9,r0⟩:=K2 b v;obtain⟨m9,o0⟩:=Gd p9 m.run;have s:=Mr o0;have s0:=m.fr;have p0:=m.pr;have hp8:List.length (kl c)<=8:=b.np.2;have c9:0<=e/\e<=256:=by obtain⟨t,a,q,f0,f9,o,v9,e0,d0,c0,b0,a0,z9,y9,x9,k0,z0,j0,_⟩:=v;obtain⟨l,w,w9,_⟩:=ya (zy b);rw[w9]at z0;cases z0;exact(SK b w rfl j0).1
  obtain⟨t,a,q,f0,f9,o,v9,e0,d0,c0,b0,a0,z9,y9,x9,k0,z0,j0,j9,i9,h9,g9,i0,h0,rfl⟩:=v;have n:=b.om;have x0:=uJ b;have j:=n;unfold dq mX at j;simp only[ae]at j;have w0:=di j.1.2.2.2.1;have v0:=di j.1.2.2.2.2.1;have r:=vB n (ea c).length (ar _);have d9:=r.1;rw[A3 c n]at i0;cases i0;rw[Hf w0.1 w0.2 (by omega) (by omega) r.2]at h0;cases h0;have r9:=QY k0;have C:=QX j9;have B:=QW g9;have u9:=Xl i9;have s9:=WN v0.1 v0.2 h9;obtain⟨k9,q,u⟩:=q;obtain⟨l9,o,u⟩:=o;have C:q=[]:=C;have B:o=[]:=B;subst C B u9 s9;obtain⟨y0,u0,g0,l0,rfl,g,e9,t0⟩:=X0 b (m:=c.1.length) (t:=t) (a0:=a) (fr0:=List.replicate e.toNat vO) (n8:=k9) (ac0:=CO c) (n13:=l9) (λf d=>by rw[dh d];exact⟨rfl,rfl⟩) x0.a r0.1 m.run;have s0:u0.length=e.toNat:=s0;have p0:l0.length=(kl c).length:=p0;have s:Vt y0:=s;refine⟨_,_,_,_,_,_,_,_,_,_,_,_,_,_,_,_,_,rfl,⟨?_,r9,s,⟨?_,λf d=>⟨(g f d).1,by rw[(g f d).2];rfl⟩⟩,?_,⟨by decide,λl w=>?_⟩,?_,⟨?_,λy n0=>?_⟩,⟨?_,BT hd _ (ar _)⟩,⟨?_,λp A=>(t0 p A).1⟩⟩,clc b,⟨λz n9=>?_,λf d=>⟨by rw[(g f d).1];exact aP _,by rw[(g f d).2];exact aP _⟩⟩,λx o9=>?_,λp A=>(t0 p A).2⟩;.have:c.1.length<=4:=x0.n;omega
  .show u0.length<=1000;omega
  .show g0.length<=1000;omega
  .rw[dh w];exact aP _
  .show(List.replicate _ _).length<=1000;rw[aR];omega
  .have:=r0.1;exact aU this (by decide)
  .obtain⟨i,b9⟩:=bn n0;exact M6 n (ar _) y n0
  .show(mO c (ea c).length).length<=1000;omega
  .show l0.length<=1000;omega
  .have q9:VA y0 m9:=o0;have q0:=(tU (q9.vz z n9)).1;have m0:=tQ q0;exact acj q0.len λk t9=>⟨_,m0.qC k t9,aU (m0.len k) (by decide)⟩
  .have:=r.2 x o9;show x.length<=1000;omega
end Go.Bo
set_option maxHeartbeats 4000000
set_option maxRecDepth 100000
namespace Go.Bo
open Go Go.Ls
theorem fr5{z:List (List Int)}(h:∃p q r s u:List Int,z=[p,q,r,s,u]/\Sh p/\Sh q/\Sh r/\Sh s/\Sh u):∀k:Nat,k<5->∃l,z[k]?=some l/\Sh l:=by obtain⟨p,q,r,s,u,rfl,a,b,c,d,e⟩:=h;intro k f;match k,f with
 |0,_=>exact⟨_,rfl,a⟩
 |1,_=>exact⟨_,rfl,b⟩
 |2,_=>exact⟨_,rfl,c⟩
 |3,_=>exact⟨_,rfl,d⟩
 |4,_=>exact⟨_,rfl,e⟩
theorem UM{c:D cc}{k:Kn}{f10:D0 (c,())=some (true,())}(x0:yj (c,())=some (k,(0:Int),()))(w0:Ho (c,())=some (k,(0:Int),()))(p:DZ (k,k,())=some (true,()))(t0:KF k):F9 (c,())=some (true,()):=by
 obtain⟨j0,o0,m0,m,t,a,u,l0,s,k0,h0,n0,i0,y0,z0,b,C,rfl,h,v0,v,A,s0⟩:=t0;have u0:=RV (n1:=o0) (n2:=m0) (n8:=l0) (n13:=n0) (dn:=y0) (dm:=z0) h v0 v A;refine cC ?_;unfold F9;refine aa f10 (aw rfl (aa x0 (aw rfl (aa w0 (aa u0 (aw rfl (aa p (aw rfl (aa p (aw rfl ?_))))))))));refine fU (l:=u) h.fr.1 (λi x d f e=>be (cB (l:=u) f) (aa (aC d) (kr e))) lC ?_;refine fU (l:=C) h.pr.1 (λi x d f e=>be (cB (l:=C) f) (aK (P:=λ_=>True) (aa (aC d) (aa (aC d) (fU (l:=x.2.2.2.2.2.2.2.1.2.1) (h.pr.2 x (Y d)).t (λj y g o n=>be (cB o) (aa (aC d) (aa (aC g) ((s0 x (Y d) y (Y g)).elim λw p0=>aa p0 (kr n))))) lC (a4 trivial)))) λ_ _=>kr e)) lC ?_;refine fU (l:=b) h.b.1 (λi x d f e=>be (cB (l:=b) f) (aK (P:=λ_=>True) (aa (aC d) (fU (l:=x) (A x (Y d)) (λj y g o n=>be (cB o) (aa (aC d) (aa (aC g) (aa (aC g) (kr n))))) lC (a4 trivial))) λ_ _=>kr e)) lC ?_;refine fU (l:=s) h.ac (λi x d f e=>be (cB (l:=s) f) (aa (aC d) (aa (aC d) (kr e)))) lC ?_;refine fU (l:=cw a) h.a.z (λi z r f e=>be (cB (l:=cw a) f) (aK (P:=λ_=>True) (cz (λq=>((q:Int),())) 5 rfl (by decide) (λq r0=>?_) (aw rfl (bj (ab rfl))) (a4 trivial)) λ_ _=>kr e)) lC ?_;.obtain⟨l,B,q0⟩:=fr5 (v.z z (Y r)) q r0;exact be (eK (by show(q:Int)<5;omega)) (aK (P:=λ_=>True) (aa (aC r) (aa (aC B) (fU (l:=l) q0 (λj y g o n=>be (cB o) (aa (aC r) (aa (aC B) (aa (aC g) (aa (aC g) (kr n)))))) lC (a4 trivial)))) λ_ _=>kr (bI (by omega)))
 exact aa p (be rfl (ab rfl))
theorem K1(c:D cc)(g:Ls.wi cc c):F9 (c,())=some (true,()):=by
 obtain⟨b,d,y⟩:=WA c;have m:∀f,f∈ea c->∀x,x∈f.2.1->0<=(x:Int):=by intro f A x C;have t:=g.2.2.2.2.2.2.2.2.2.2.1.1 f A;exact Rr (t.2.1.1 x C)
 cases b;.refine cC ?_;unfold F9;exact aa d (be rfl (ab rfl))
 obtain⟨y0,x0,w0,v0,u0⟩:=y rfl;obtain⟨n,a,w⟩:=Wz c y0 x0 w0 v0;have i:∀r:D (.ah fT iU),yj (c,())=some r->bH r.2.1 0=true->F9 (c,())=some (true,()):=by intro r v z;refine cC ?_;unfold F9;exact aa d (aw rfl (aa v (be z (ab rfl))))
 obtain⟨r,p,B⟩:=TK c;rw[a]at p;cases p;by_cases o:n=0
 .
  subst o;have h:=B rfl;obtain⟨⟨k,e,u⟩,q,z0,s⟩:=Ve h a w;by_cases l:e=0;.subst l;exact UM (f10:=d) q z0 (Ue h m s) (Yq h m s)
  .exact i _ q (by rw[gM,aX l];rfl)
 .
  have j:bH n 0=true:=by rw[gM,aX o];rfl
  refine i (zK,n,()) (cC ?_) j;unfold yj;exact aa a (be j (ab rfl))
end Go.Bo
namespace Go.Proofs.YtfjeeggbdncodaaGreat
open Go Go.Hm Go.Ls Go.Bo Go.ChangeShapes Go.WideShapes Go.ChangeAt Go.RowKit Go.Wk
theorem own:ownKnob Tryz.prog.godebug=none:=by kernel_rfl
theorem laidOut:laidOutB Tryz.prog=true:=by kernel_rfl
theorem r3:qF Tryz.prog 3 iT:=HS Tryz.underlying3
theorem r22:qF Tryz.prog 22 lI:=ng Tryz.underlying22 (bA (by kernel_rfl)) (by kernel_rfl) (bA (by kernel_rfl)) r3
theorem Z0:qF Tryz.prog 206 (.ah iT (.ah iT (.ah iT iU))):=nv (gq:=4) Tryz.underlying206 (by kernel_rfl) (dd (s:=1) r3 rfl (by kernel_rfl) (dd (s:=1) r3 rfl (by kernel_rfl) (dd (s:=1) r3 rfl (by kernel_rfl) (dd (s:=1) r3 rfl (by kernel_rfl) (pE rfl)))))
theorem r23:qF Tryz.prog 23 (.bc (.ah iT (.ah iT (.ah iT iU)))):=ng Tryz.underlying23 (bA (by kernel_rfl)) (by kernel_rfl) (bA (by kernel_rfl)) Z0
theorem r5:qF Tryz.prog 5 (.int .u8):=HS Tryz.underlying5
theorem r67:qF Tryz.prog 67 (.bc (.int .u8)):=ng Tryz.underlying67 (bA (by kernel_rfl)) (by kernel_rfl) (bA (by kernel_rfl)) r5
theorem r69:qF Tryz.prog 69 (.ah iT (.ah (.bc (.int .u8)) .un)):=nv (gq:=2) Tryz.underlying69 (by kernel_rfl) (dd (s:=1) r3 rfl (by kernel_rfl) (dd (s:=1) r67 rfl (by kernel_rfl) (pE rfl)))
theorem r24:qF Tryz.prog 24 (.bc (.ah iT (.ah (.bc (.int .u8)) .un))):=ng Tryz.underlying24 (bA (by kernel_rfl)) (by kernel_rfl) (bA (by kernel_rfl)) r69
theorem r71:qF Tryz.prog 71 (.ah iT (.ah iT (.ah iT (.ah iT iU)))):=nv (gq:=5) Tryz.underlying71 (by kernel_rfl) (dd (s:=1) r3 rfl (by kernel_rfl) (dd (s:=1) r3 rfl (by kernel_rfl) (dd (s:=1) r3 rfl (by kernel_rfl) (dd (s:=1) r3 rfl (by kernel_rfl) (dd (s:=1) r3 rfl (by kernel_rfl) (pE rfl))))))
theorem r25:qF Tryz.prog 25 (.bc (.ah iT (.ah iT (.ah iT (.ah iT iU))))):=ng Tryz.underlying25 (bA (by kernel_rfl)) (by kernel_rfl) (bA (by kernel_rfl)) r71
theorem Z1:qF Tryz.prog 152 (.ah iT (.ah iT (.ah iT (.ah iT (.ah iT (.ah iT (.ah iT iU))))))):=nv (gq:=8) Tryz.underlying152 (by kernel_rfl) (dd (s:=1) r3 rfl (by kernel_rfl) (dd (s:=1) r3 rfl (by kernel_rfl) (dd (s:=1) r3 rfl (by kernel_rfl) (dd (s:=1) r3 rfl (by kernel_rfl) (dd (s:=1) r3 rfl (by kernel_rfl) (dd (s:=1) r3 rfl (by kernel_rfl) (dd (s:=1) r3 rfl (by kernel_rfl) (dd (s:=1) r3 rfl (by kernel_rfl) (pE rfl)))))))))
theorem r72:qF Tryz.prog 72 (.bc (.ah iT (.ah iT (.ah iT (.ah iT (.ah iT (.ah iT (.ah iT iU)))))))):=ng Tryz.underlying72 (bA (by kernel_rfl)) (by kernel_rfl) (bA (by kernel_rfl)) Z1
theorem r99:qF Tryz.prog 99 (.ah iT (.ah (.bc (.ah iT (.ah iT (.ah iT (.ah iT (.ah iT (.ah iT (.ah iT iU)))))))) .un)):=nv (gq:=2) Tryz.underlying99 (by kernel_rfl) (dd (s:=1) r3 rfl (by kernel_rfl) (dd (s:=1) r72 rfl (by kernel_rfl) (pE rfl)))
theorem r26:qF Tryz.prog 26 (.bc (.ah iT (.ah (.bc (.ah iT (.ah iT (.ah iT (.ah iT (.ah iT (.ah iT (.ah iT iU)))))))) .un))):=ng Tryz.underlying26 (bA (by kernel_rfl)) (by kernel_rfl) (bA (by kernel_rfl)) r99
theorem r28:qF Tryz.prog 28 (.ah lI (.ah (.bc (.ah iT (.ah iT (.ah iT iU)))) (.ah iT (.ah iT (.ah iT (.ah iT (.ah iT (.ah iT (.ah iT (.ah iT (.ah (.bc (.ah iT (.ah (.bc (.int .u8)) .un))) (.ah (.bc (.ah iT (.ah iT (.ah iT (.ah iT iU))))) (.ah (.bc (.ah iT (.ah (.bc (.ah iT (.ah iT (.ah iT (.ah iT (.ah iT (.ah iT (.ah iT iU)))))))) .un))) .un))))))))))))):=nv (gq:=13) Tryz.underlying28 (by kernel_rfl) (dd (s:=1) r22 rfl (by kernel_rfl) (dd (s:=1) r23 rfl (by kernel_rfl) (dd (s:=1) r3 rfl (by kernel_rfl) (dd (s:=1) r3 rfl (by kernel_rfl) (dd (s:=1) r3 rfl (by kernel_rfl) (dd (s:=1) r3 rfl (by kernel_rfl) (dd (s:=1) r3 rfl (by kernel_rfl) (dd (s:=1) r3 rfl (by kernel_rfl) (dd (s:=1) r3 rfl (by kernel_rfl) (dd (s:=1) r3 rfl (by kernel_rfl) (dd (s:=1) r24 rfl (by kernel_rfl) (dd (s:=1) r25 rfl (by kernel_rfl) (dd (s:=1) r26 rfl (by kernel_rfl) (pE rfl))))))))))))))
set_option maxRecDepth 100000 in
theorem wS (os : Os) (started : os.Started) (H : Type) (enc : TypeId × Value → H) :
    ReturnsInHanded {} Tryz.checked os 9 .any (Rows.bootClonesSpec.pre6 enc Tryz.prog Tryz.f9 Rows.bootClonesRow.domain false) (Rows.bootClonesSpec.post enc Tryz.prog Tryz.f9 false true false false) := by
  refine returnsInHanded_of_change_sized (C := Tryz.checked) own started (by kernel_rfl) Tryz.func9
    (ChangeSpec.witness6 (enc := enc) (C := Tryz.checked) false ⟨#[], #[.agg #[.slice none 0 0, .slice none 0 0, .int .i64 0, .int .i64 0, .int .i64 0, .int .i64 0, .int .i64 0, .int .i64 0, .int .i64 0, .int .i64 0, .slice none 0 0, .slice none 0 0, .slice none 0 0]], []⟩ 8 (by kernel_rfl) (by kernel_rfl) (by kernel_rfl) (by kernel_rfl)) ?_
  intro W base args ds gs nX hval0 hW hcnd0 hsz0 _
  have hsz : (DataW.weightsEach Tryz.prog (Tryz.f9.params.toList ++ Rows.bootClonesSpec.plain.varTypes Tryz.prog) (ds ++ gs)).all (· ≤ reachBytes) = true := hsz0
  have hval : ∀ (j : Nat) t v, Tryz.f9.params[j]? = some t → args[j]? = some v → Value.okWide Tryz.prog W .any base t v := hval0
  clear hcnd0 hsz0 hval0
  have hW' := hW
  obtain ⟨p, q, hA0, hV, rfl, hfz, hnd⟩ := hW
  have hA : DataW.TrodAll enc Tryz.prog W 0 (fun _ => true) true Tryz.f9.params.toList args.toList ds p := hA0
  clear hA0
  rw [Tryz.params9] at hA hval hsz
  obtain ⟨v0, d0, rfl, rfl, h0⟩ := trodAll_one hA
  obtain ⟨rfl, rfl⟩ := trodVars_none hV
  simp only [bi] at hW' hsz
  have hlt := hW'.lt
  have hwt : ∀ (j : Nat) (t : TypeId) (d : DataW H), ([28] : List TypeId)[j]? = some t → [d0][j]? = some d → ∀ n, n ∈ d.weights Tryz.prog t → n ≤ reachBytes := by
    intro j t d ht hd n hn
    have := bR.1 hsz n (DataW.weights_mem_each (ts := [28] ++ Rows.bootClonesSpec.plain.varTypes Tryz.prog) (by rw [bJ (by have := (aj.1 ht).1; exact this)]; exact ht) hd n hn)
    simpa using this
  obtain ⟨xs0, rfl, hxs0⟩ := okWide_struct Tryz.underlying28 (hval 0 28 v0 rfl rfl)
  have i_0 := K3 W
  obtain ⟨hp1, nx1, ρ1, s0, a0, i_1, m0, y0, z0, g0⟩ := r28.arg h0 (hwt 0 28 d0 rfl rfl) (.inl ⟨rfl, _, rfl⟩) .e 0 (fun _ => none) i_0
  have hk : ∀ (W' : World), Below W.heap.size W W' → ∀ (t : TypeId) (v : Value) (d : DataW H) (ps : List MemPlace), Tryz.prog.readableRec t = true → t < Tryz.prog.types.size → DataW.Trod enc Tryz.prog W 0 (fun _ => true) true t v d ps → (∀ x ∈ ps, x.block < W.heap.size) → DataW.Trod enc Tryz.prog W' 0 (fun b => decide (b < W.heap.size)) true t v d ps :=
    fun W' hb t v d ps hr hs h hl => Below.trod laidOut hr hs h hb hl
  refine (UL U6 n9 e9 k9 i_1 (args := [s0]) (x := (a0, ())) (by unfold Hm.dY; exact ⟨_, _, rfl, y0, by unfold Hm.dY; rfl⟩) ⟨_, _, rfl, z0, rfl⟩ (K1 a0 g0)).mono ?_
  rintro v W' ⟨rfl, kp⟩
  have hb : Below W.heap.size W W' := ⟨kp.os, kp.tape, kp.output, kp.size, fun k hk => kp.block k hk (by simp)⟩
  refine ⟨_, _, _, [], _, [], hW', trodAll_mk1 (shut_bool Tryz.underlying4 true), trodAll_mk1 (hk W' hb _ _ _ _ (by kernel_rfl) (bA (by kernel_rfl)) h0 (fun x hx => hlt x (by simp [hx]))), rfl, hb.frame _, fun h => by cases h⟩
theorem jo{a b:Bool}(h:a=true)(k:b=true):(a&&b)=true:=by rw[h,k];rfl
theorem j0:Rows.bootClonesRow.wf (OpenSpec.ofChange Rows.bootClonesSpec)=true:=by kernel_rfl
theorem j1:laidOutB Tryz.pinned.checked.prog=true:=by kernel_rfl
theorem j2:mapsRowed Tryz.pinned.checked.prog=true:=by kernel_rfl
theorem j3:(Tryz.f9.params.all (Tryz.pinned.checked.prog.readableRec .))=true:=by kernel_rfl
theorem j4:namedTie Tryz.pinned.checked.prog Rows.bootClonesRow.named Rows.bootClonesSpec.vars=true:=by kernel_rfl
theorem j5:(Rows.bootClonesRow.stops==[])=true:=by kernel_rfl
theorem j6:(Tryz.pinned.checked.prog.stops==[])=true:=by kernel_rfl
theorem j7:(Rows.bootClonesRow.knobs==[])=true:=by kernel_rfl
theorem j8:(Tryz.pinned.checked.prog.stopKnobs==[])=true:=by kernel_rfl
theorem j9:(Rows.bootClonesRow.inPlace==Tryz.pinned.checked.prog.inPlace 9)=true:=by kernel_rfl
theorem j10:(Rows.bootClonesRow.unfollowed==Tryz.pinned.checked.prog.unfollowed 9)=true:=by kernel_rfl
theorem j11:(Rows.bootClonesRow.recurses==Tryz.pinned.checked.prog.recurses 9)=true:=by kernel_rfl
theorem j12:(Rows.bootClonesRow.named==Tryz.pinned.checked.prog.varsNamed 9)=true:=by kernel_rfl
theorem j13:((Rows.bootClonesRow.maps==(Tryz.f9.params.toList++Rows.bootClonesSpec.plain.varTypes Tryz.pinned.checked.prog).any (Tryz.pinned.checked.prog.mapsRec .)))=true:=by kernel_rfl
theorem j14:((Rows.bootClonesRow.ifaces==(Tryz.f9.params.toList++Rows.bootClonesSpec.plain.varTypes Tryz.pinned.checked.prog).any (Tryz.pinned.checked.prog.ifacesRec .)))=true:=by kernel_rfl
theorem j15:(Rows.bootClonesRow.mapsOut==Tryz.pinned.checked.prog.mapsAmong Tryz.f9.resultTypes.toList)=true:=by kernel_rfl
theorem j16:((Rows.bootClonesRow.loops==(Tryz.f9.params.toList++Rows.bootClonesSpec.plain.varTypes Tryz.pinned.checked.prog).any (Tryz.pinned.checked.prog.loopsFrom .)))=true:=by kernel_rfl
theorem j17:((Rows.bootClonesRow.wideKeys==(Tryz.f9.params.toList++Rows.bootClonesSpec.plain.varTypes Tryz.pinned.checked.prog++Tryz.f9.resultTypes.toList).any (Tryz.pinned.checked.prog.wideKeysFrom .)))=true:=by kernel_rfl
theorem j18:(Rows.bootClonesSpec.vars.all (Tryz.pinned.checked.prog.varReadable .))=true:=by kernel_rfl
theorem j19:Tryz.f9.resultTypes.all (λt=>Tryz.pinned.checked.prog.readableRec t&&decide (t<Tryz.pinned.checked.prog.types.size))=true:=by kernel_rfl
theorem j20:((Rows.bootClonesRow.ifacesOut==Tryz.f9.resultTypes.toList.any (Tryz.pinned.checked.prog.ifacesRec .)))=true:=by kernel_rfl
theorem j21:((Rows.bootClonesRow.loopsOut==Tryz.f9.resultTypes.toList.any (Tryz.pinned.checked.prog.loopsFrom .)))=true:=by kernel_rfl
theorem j22:(Rows.bootClonesRow.plainKeys==Tryz.pinned.checked.prog.plainKeys)=true:=by kernel_rfl
theorem j23:Rows.bootClonesRow.shortTexts.isNone=true:=by kernel_rfl
theorem j24:Tryz.pinned.checked.prog.stopsHeard=true:=by kernel_rfl
theorem j25:Tryz.pinned.checked.prog.mayEnter=true:=by kernel_rfl
theorem j26:(Rows.bootClonesRow.lifted==Tryz.pinned.checked.prog.liftsFinal)=true:=by kernel_rfl
theorem j27:(Tryz.pinned.checked.prog.make==some Rows.bootClonesRow.make)=true:=by kernel_rfl
theorem j29:(Rows.bootClonesRow.pinned==Rows.bootClonesRow.pinnedBy)=true:=by kernel_rfl
theorem j30:((Rows.bootClonesRow.veiled==(Tryz.f9.params.toList++Rows.bootClonesSpec.plain.varTypes Tryz.pinned.checked.prog++Tryz.f9.resultTypes.toList).any (Tryz.pinned.checked.prog.veiledRec .)))=true:=by kernel_rfl
theorem j31:Rows.bootClonesRow.veiledFits Tryz.pinned.checked.prog Tryz.f9.params.toList (Tryz.f9.params.toList++Rows.bootClonesSpec.plain.varTypes Tryz.pinned.checked.prog++Tryz.f9.resultTypes.toList)=true:=by kernel_rfl
theorem jn:Tryz.pinned.checked.prog.funcNamed Rows.bootClonesRow.func=some 9:=by kernel_rfl
theorem ji:Tryz.f9.isInstance Tryz.pinned.checked.prog Rows.bootClonesRow.origin Rows.bootClonesRow.targs:=bA (by kernel_rfl)
theorem jw:Tryz.f9.isWrapper Tryz.pinned.checked.prog Rows.bootClonesRow.wrapper Rows.bootClonesRow.mainSum:=by unfold Func.isWrapper;first|(rw[aE (by decide+kernel)];kernel_rfl)|(rw[aG (by decide+kernel)];exact⟨rfl,rfl⟩)
theorem bootClones_holds:Rows.BootClonesSaid:=OpenClaim.holds_of_wide 9 Tryz.f9 rfl rfl rfl rfl rfl rfl rfl ⟨rfl,rfl,rfl,rfl,rfl⟩ rfl rfl rfl rfl rfl jn Tryz.func9 (jo (jo (jo (jo (jo (jo (jo (jo (jo (jo (jo (jo (jo (jo (jo (jo (jo (jo (jo (jo (jo (jo (jo (jo (jo (jo (jo (jo (jo (jo (jo j0 j1) j2) j3) j4) j5) j6) j7) j8) j9) j10) j11) j12) j13) j14) j15) j16) j17) j18) j19) j20) j21) j22) j23) j24) j25) j26) j27) (by kernel_rfl)) j29) j30) j31) ji jw λc d a b _=>wS c d a b
end Go.Proofs.YtfjeeggbdncodaaGreat
