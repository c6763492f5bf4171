/-
  Rules, functions and laws for the last text, part b.
-/
import Derived.Test.YtfjeeggbdncodaaGreatGa
import Derived.Deep.AppendSrc
import Derived.Laws.BytesString
import Derived.Deep.Upon
import Derived.Great.BuildSlice
set_option linter.unusedVariables false
set_option linter.unusedSimpArgs false
set_option linter.constructorNameAsVariable false
set_option linter.unusedSectionVars false
noncomputable section
namespace Go.Ls
open Go Go.Hm
theorem dY.i5{hp hp':Tr Hm.Obj}{Z j:Nat->Prop}:∀{u:U}{cs:List HV}{x:D u},u.i5=true->dY hp Z u cs x->dY hp' j u cs x
 | .int _,_,_,_,h=>h
 | .bool,_,_,_,h=>h
 | .ef,_,_,_,h=>h
 | .un,_,_,_,h=>h
 | .nil,_,_,_,h=>h
 | .ai a b,_,_,f,⟨c,d,e,g,i⟩=>by have f:(a.i5&&b.i5)=true:=f;rw[ae]at f;exact⟨c,d,e,g.i5 f.1,i.i5 f.2⟩
 | .im n e,_,_,f,⟨g,i⟩=>⟨g,nN (λ_ _ h=>h.i5 f) i⟩
 | .bw e,_,_,f,_=>by cases f
theorem tT.i5{hp hp':Tr Hm.Obj}{Z c:Nat->Prop}{u:U}{v:HV}{x:D u}(a:u.i5=true)(h:tT hp Z u v x):tT hp' c u v x:=by unfold tT at*;cases b:u.ag with
 |true=>rw[b]at h;obtain⟨d,e,f⟩:=h;exact⟨d,e,f.i5 a⟩
 |false=>rw[b]at h;exact dY.i5 a h
theorem iz.i5{hp hp':Tr Hm.Obj}{Z d:Nat->Prop}:∀{u:U}{l:List HV}{x:D u},u.i5=true->iz hp Z u l x->iz hp' d u l x
 | .un,l,x,_,h=>h
 | .ai a b,l,x,c,⟨v,r,e,f,g⟩=>by have c:(a.i5&&b.i5)=true:=c;rw[ae]at c;exact⟨v,r,e,f.i5 c.1,iz.i5 c.2 g⟩
 | .int _,_,_,_,h=>h.elim
 | .bool,_,_,_,h=>h.elim
 | .ef,_,_,_,h=>h.elim
 | .nil,_,_,_,h=>h.elim
 | .bw _,_,_,_,h=>h.elim
 | .im _ _,_,_,_,h=>h.elim
section
variable{E:En}{S:SS}{h:St}{cy:Cy}{R:Type}{r:R}{K:SV->SS->Option R}
theorem KQ{α:Type}{hp:Tr Hm.Obj}{Z:Nat->Prop}{z:Nat}{Q:List HV->α->Prop}{v:HV}{xs:List α}(l:Oc hp Z z Q v xs)(j:∀c x,Q c x->c.length=z)(hh:hp=h.hp):∃cs,iW h z v=some (cs,xs.length)/\nO Q cs xs/\∀s,v≠.ef s:=by
 rcases l with⟨rfl,rfl|rfl|rfl⟩|⟨b,o,y,f,m,g,n,p,i⟩;.exact⟨[],rfl,rfl,λs a=>by cases a⟩
 .exact⟨[],rfl,rfl,λs a=>by cases a⟩
 .exact⟨[],rfl,rfl,λs a=>by cases a⟩
 .obtain⟨cs,d,e⟩:=FD j i;have k:h.cp b=some y:=jK (by rw[<-hh];exact g);obtain⟨rfl,_⟩:=f;refine⟨cs,?_,e,λs a=>by cases a⟩;unfold iW;simp only[cellsOf,lenOf];rw[k];simp only;rw[show Nat.mul xs.length z=xs.length*z from rfl,d]
theorem tw{cx:Cx}{t:Nat}{x:SV}{v:HV}(c:wC cx t x=true)(f:∀s,v≠.ef s):nG cx t v=true:=by obtain⟨u,b,a⟩:=nH c;unfold nG;rw[b];simp only;cases d:u.sh with
 |slice e=>cases v<;>first|rfl|exact absurd rfl (f _)
 |_=>rw[d]at a;cases x<;>simp at a
inductive DM(S S2:SS)(h:St)(E:En)(u:U):List (D u)->HV->Prop|nil(v:HV)(hv:v= .cM\/v= .gz):DM S S2 h E u [] v|cp(m b:Nat)(e:iK)(y:gK)(xs:List (D u))(h1:S.st.ap m=some e)(h2:E.mb m=some b)(h3:S2.st.ap m=none)(h4:bu m S.lk=false)(h5:h.hp.ap b=some (.cp y))(h6:y.own=true)(h7:y.z=u.size)(h8:xs.length*u.size<=y.n)(h9:∀i x,xs[i]?=some x->∃cs,cF y (i*u.size) u.size=some cs/\dY E.hp E.Z u cs x):DM S S2 h E u xs (.sl b 0 xs.length)
theorem Jm(M:dc S h E){u:U}{a:SV}{v0:HV}{ia:List (D u)}{S2:SS}(c:Jn S u a=some (ia,S2))(v:V E a v0):DM S S2 h E u ia v0/\S2=S.mem S2.st S.nx/\(∀j e,S2.st.ap j=some e->S.st.ap j=some e)/\∀j,S.st.ap j≠none->S2.st.ap j=none->S.jU j=true:=by
 unfold Jn at c;split at c;.cases c;exact⟨.nil _ (.inl (kW.1 v)),rfl,λ_ _ h=>h,λ_ o g=>absurd g o⟩
 .cases c;exact⟨.nil _ (pH.1 v),rfl,λ_ _ h=>h,λ_ o g=>absurd g o⟩
 .
  rename_i m;split at c
  .
   rename_i e i t;split at c
   .
    rename_i u0 B;rw[aH]at c;split at c
    .
     rename_i x;cases c;obtain⟨z,A⟩:=gf x;have s:∀j,(S.lZ m).st.ap j=if j=m then none else S.st.ap j:=λj=>Tr.gC _ _ _;obtain⟨w,n⟩:=eD B;cases w;have n:i=ia:=n;subst n;rw[hG]at v;have f:=v.2.2.1 u i (by rw[M.st];exact t);obtain⟨r0,d⟩:=M.hD m _ t;refine⟨?_,rfl,λj e l=>?_,λj o g=>?_⟩
     .unfold fO at f;unfold gx at d;cases p:E.mb m with
      |none=>rw[p]at f d;subst d;exact .nil _ f.2
      |some b=>rw[p]at f d;subst f;obtain⟨y,C,z0,y0,x0,w0⟩:=d;exact .cp m b _ y i t p (by rw[s,aA rfl]) A (by rw[<-M.hp];exact C) z0 y0 x0 w0
     .
      rw[s]at l;split at l;.cases l
      .exact l
     .
      rw[s]at g;split at g;.subst_vars;exact z
      .exact absurd g o
    .cases c
   .cases c
  .cases c
 .
  rename_i m q;split at c
  .
   rename_i e i t;split at c
   .
    rename_i u0 B;rw[aH]at c;split at c
    .
     rename_i x;cases c;obtain⟨z,A⟩:=gf x;have s:∀j,(S.lZ m).st.ap j=if j=m then none else S.st.ap j:=λj=>Tr.gC _ _ _;obtain⟨w,n⟩:=eD B;cases w;have n:i=u0:=n;subst n;rw[wV]at v;obtain⟨k,rfl,s0,f⟩:=v.2.2 _ i (by rw[M.st];exact t);obtain⟨r0,d⟩:=M.hD m _ t;have t0:(eS i 0 (Int.ofNat k)).length=k:=by show((i.drop 0).take (k-0)).length=k;simp;omega
     have d:=Am s0 d;refine⟨?_,rfl,λj e l=>?_,λj o g=>?_⟩
     .unfold fO at f;unfold gx at d;cases p:E.mb m with
      |none=>rw[p]at f d;have d:eS i 0 (Int.ofNat k)=[]:=d;rw[d];exact .nil _ f.2
      |some b=>rw[p]at f d;have f:v0= .sl b 0 k:=f;obtain⟨y,C,z0,y0,x0,w0⟩:=d;have:=DM.cp (S:=S) (S2:=S.lZ m) (h:=h) (E:=E) (u:=_) m b _ y (eS i 0 (Int.ofNat k)) t p (by rw[s,aA rfl]) A (by rw[<-M.hp];exact C) z0 y0 x0 w0;rw[t0]at this;rw[f];exact this
     .
      rw[s]at l;split at l;.cases l
      .exact l
     .
      rw[s]at g;split at g;.subst_vars;exact z
      .exact absurd g o
    .cases c
   .cases c
  .cases c
 .cases c
theorem Ct(M:dc S h E){u:U}{z:Nat}{S2:SS}{C:HV}{ia bP:List (D u)}{c:List HV}(l9:DM S S2 h E u ia C)(s0:S2=S.mem S2.st S.nx)(e9:∀j e,S2.st.ap j=some e->S.st.ap j=some e)(d9:∀j,S.st.ap j≠none->S2.st.ap j=none->S.jU j=true)(j9:z=u.size)(y0:nO (dY E.hp E.Z u) c bP)(o9:(ia++bP).length<=140737488355328)(i0:K (.row S2.nx) (S2.bP (.row u (aX ia bP)))=some r):Mv S h E K r (gE h z C c bP.length):=by
 subst j9;have l0:=nk (z:=u.size) (λ_ _ h=>h.len) y0;have t9:S2.bP (.row u (aX ia bP))=S.mem (S2.st.set S.nx (.row u (aX ia bP))) (Nat.add S.nx 1):=by rw[s0];rfl
 have n9:S2.nx=S.nx:=by rw[s0];rfl
 rw[t9,n9]at i0
 have z0:∀(l:Tr Hm.Obj)(s:Nat)(o:Option Nat)(v:HV),(∀b,b<h.nx->l.ap b=h.hp.ap b\/∃j e,S.st.ap j=some e/\Bk E j b/\S2.st.ap j=none)->h.nx<=s->(∀b,s<=b->l.ap b=none)->(∀b,o=some b->b<s/\(h.nx<=b\/∃j e,S.st.ap j=some e/\Bk E j b/\S2.st.ap j=none/\bu j S.lk=false))->((∀u n x,dY E.hp E.Z u n x->dY l E.Z u n x)->gx ⟨l,E.Z,E.mb,E.ib,E.st,E.nx⟩ o u (ia++bP))->fO o (ia++bP).length v->iP v=some [v]->gE h u.size C c bP.length=some (.val v ⟨h.nt,h.dC,l,s,h.lk,h.df⟩)->Mv S h E K r (gE h u.size C c bP.length):=by
  intro l s o v c0 b0 a0 z9 y9 x9 w9 v9;have:=mD (st1:=S2.st) (hp':=l) (nx':=s) (o:=o) (e:= .row u (aX ia bP)) M e9 d9 c0 b0 a0 z9 λa _=>⟨o9,by rw[kQ];exact y9 a⟩;refine⟨_,v,_,_,_,v9,this.1,this.2,rfl,rfl,hG.2 ⟨?_,w9,λe d0 f=>?_,λt k f p9=>by have f:(S2.st.set S.nx (.row u (aX ia bP))).ap S.nx=some t:=f;rw[Tr.a8]at f;cases f;cases p9⟩,i0⟩;.exact a7 _
  .have f:(S2.st.set S.nx (.row u (aX ia bP))).ap S.nx=some (.row e d0):=f;rw[Tr.a8]at f;cases f;rw[kQ];exact x9
 cases l9 with
  |nil v x0=>
  by_cases h0:bP.length=0;.have m9:bP=[]:=eN.1 h0;subst m9;refine z0 h.hp h.nx none C (λb p=> .inl rfl) (au _) M.fr (λb p=>by cases p) (λ_=>rfl) ⟨rfl,x0⟩ (by rcases x0 with rfl|rfl<;>rfl) ?_;rcases x0 with rfl|rfl<;>rfl
  .
   have g0:Nat.beq bP.length 0=false:=jD h0;refine z0 (h.hp.set h.nx (.cp ⟨true,u.size,c.length,cr .e 0 c⟩)) (h.nx+1) (some h.nx) (.sl h.nx 0 bP.length) (λb p=> .inl (o4 b p)) (dg _) (ul M) (λb p=>by cases p;exact⟨a7 _,.inl (au _)⟩) (λa=>?_) rfl rfl ?_;.refine⟨_,Tr.a8 _ _ _,rfl,rfl,by show([]++bP).length*_<=c.length;rw[hT,l0];exact au _,λi x q=>?_⟩;rw[hT]at q;obtain⟨c9,u9,b9,i9,h9,g9,f9⟩:=lw (z:=u.size) (λ_ _ h=>h.len) y0 q;refine⟨u9,?_,a _ _ _ f9⟩;have q9:=il (T:=(.e:Tr HV)) (w:=true) (z:=u.size) (n:=c.length) (p:=0) (c:=c) (by omega);have:=fz q9 i9 h9 g9;rw[bi]at this;exact this
   .
    rcases x0 with rfl|rfl;.show(bif Nat.beq bP.length 0 then _ else _)=_;rw[g0];rfl
    .show(bif Nat.beq bP.length 0 then _ else _)=_;rw[g0];rfl
  |cp m b e y d0 w A w0 r0 q0 p0 o0 a9 n0=>
  have k0:=mm M w (.inl A) r0;have s9:=(M.own m e b w (.inl A)).2;have r9:(y.own&&(h.gD b&&Nat.beq y.z u.size))=true:=by rw[p0,o0];unfold St.gD;rw[k0];simp
  have m0:gE h u.size (.sl b 0 ia.length) c bP.length=bif Nat.ble (Nat.add 0 (Nat.mul (Nat.add ia.length bP.length) u.size)) y.n then match h.fo b (Nat.add 0 (Nat.mul ia.length u.size)) c with|some e0=>some (.val (.sl b 0 (Nat.add ia.length bP.length)) e0)|none=>none else bif Nat.ble (Nat.add 0 (Nat.mul ia.length u.size)) y.n then some (.val (.sl h.nx 0 (Nat.add ia.length bP.length)) ⟨h.nt,h.dC,(h.hp.nr b).set h.nx (.cp ⟨true,u.size,Nat.mul (Nat.add ia.length bP.length) u.size,cr y.c (Nat.mul ia.length u.size) c⟩),Nat.add h.nx 1,h.lk,h.df⟩)else none:=by show(match h.cp b with|some x=>_|none=>none)=_;rw[jK q0];simp only;rw[r9];rfl
  have f0:(ia.length+bP.length)*u.size=ia.length*u.size+c.length:=by rw[fY,l0]
  by_cases j0:ia.length*u.size+c.length<=y.n
  .
   have k9:=jO (o:=0+ia.length*u.size) (c:=c) q0 p0 k0 (by omega);refine z0 (h.hp.set b (.cp ⟨true,y.z,y.n,cr y.c (0+ia.length*u.size) c⟩)) h.nx (some b) (.sl b 0 (ia.length+bP.length)) (λd g=>?_) (au _) (λd g=>?_) (λd g=>?_) (λa=>?_) (by show _=HV.sl b 0 (ia++bP).length;rw[ax]) rfl ?_
   .
    by_cases B:d=b;.subst B;exact .inr ⟨m,e,w,.inl A,w0⟩
    .exact .inl (Tr.bS _ _ B)
   .rw[Tr.bS _ _ (by omega)];exact M.fr d g
   .cases g;exact⟨s9,.inr ⟨m,e,w,.inl A,w0,r0⟩⟩
   .rw[bi]at*;refine⟨_,Tr.a8 _ _ _,rfl,o0,by rw[ax,f0];exact j0,Gp (w:=true) (z':=y.z) (n:=y.n) (λ_ _ h=>h.len) (λi x q=>?_) (nN (λ_ _ h=>a _ _ _ h) y0) (by rw[f0];exact j0)⟩;obtain⟨n,u0,t0⟩:=n0 i x q;exact⟨n,u0,a _ _ _ t0⟩
   .rw[m0];rw[show Nat.ble (Nat.add 0 (Nat.mul (Nat.add ia.length bP.length) u.size)) y.n=true by rw[bO];show 0+(ia.length+bP.length)*u.size<=y.n;omega];show(match h.fo b (0+ia.length*u.size) c with|some e0=>_|none=>none)=_;rw[k9];rfl
  .
   refine z0 ((h.hp.nr b).set h.nx (.cp ⟨true,u.size,(ia.length+bP.length)*u.size,cr y.c (ia.length*u.size) c⟩)) (h.nx+1) (some h.nx) (.sl h.nx 0 (ia.length+bP.length)) (λd g=>?_) (dg _) (λd g=>?_) (λd g=>by cases g;exact⟨a7 _,.inl (au _)⟩) (λa=>?_) (by show _=HV.sl h.nx 0 (ia++bP).length;rw[ax]) rfl ?_
   .
    by_cases B:d=b;.subst B;exact .inr ⟨m,e,w,.inl A,w0⟩
    .exact .inl (by rw[Tr.bS _ _ (by omega),Tr.gC,aB B])
   .rw[Tr.bS _ _ (by omega),Tr.gC,aB (by omega)];exact M.fr d (by omega)
   .refine⟨_,Tr.a8 _ _ _,rfl,rfl,by rw[ax];exact au _,Gp (w:=true) (z':=u.size) (n:=(ia.length+bP.length)*u.size) (λ_ _ h=>h.len) (λi x q=>?_) (nN (λ_ _ h=>a _ _ _ h) y0) (au _)⟩;obtain⟨n,u0,t0⟩:=n0 i x q;exact⟨n,u0,a _ _ _ t0⟩
   .
    rw[m0]
    rw[show Nat.ble (Nat.add 0 (Nat.mul (Nat.add ia.length bP.length) u.size)) y.n=false by cases v0:Nat.ble (Nat.add 0 (Nat.mul (Nat.add ia.length bP.length) u.size)) y.n with
     |false=>rfl
     |true=>rw[bO]at v0;have v0:0+(ia.length+bP.length)*u.size<=y.n:=v0;omega]
    rw[show Nat.ble (Nat.add 0 (Nat.mul ia.length u.size)) y.n=true by rw[bO];show 0+ia.length*u.size<=y.n;omega];rfl
theorem v6(M:dc S h E){u:U}{x:SV}{f:HV}{bP:List (D u)}{L:List Nat}{o:SS}{d:En}(y:V E x f)(w:Gu S.st (.bw u) x=some bP)(q:mZ S.st [x]=some L)(z:dc o h d)(C:Gr S h E o h d)(p:∀m e b,bu m (bif u.i5 then []else L)=true->S.st.ap m=some e->Bk E m b->d.Z b):∃c,iW h u.size f=some (c,bP.length)/\nO (dY d.hp d.Z u) c bP/\∀s,f≠.ef s:=by
 have z0:d.hp=E.hp:=by rw[z.hp,M.hp]
 have g:u.i5=true\/pN E d.Z 3 [x]:=by cases i:u.i5 with
  |true=>exact .inl rfl
  |false=>rw[i]at p;exact .inr (mz (E:=E) (Q:=d.Z) (by rw[M.st];exact q) λu0 B A v0 x0 y0=>p u0 B A (fs.2 v0) (by rw[<-M.st];exact x0) y0)
 have t:∀m e,E.st.ap m=some e->oN E m e:=λm e w0=>M.hD m e (by rw[<-M.st];exact w0);rcases g with i|g;.have a:tT E.hp (λ_=>True) (.bw u) f bP:=wd (E:=E) (Q:=λ_=>True) (k:=3) (λ_ _=>trivial) t (by rw[M.st];exact w) y (tH (λ_ _ _ _ _=>trivial) (by rw[M.st];exact q));have a:dY E.hp (λ_=>True) (.bw u) [f] bP:=a;unfold dY at a;obtain⟨v,j,a⟩:=a;cases j;obtain⟨c,k,l,n⟩:=KQ (h:=h) a (λ_ _ h=>h.len) M.hp;exact⟨c,k,nN (λ_ _ h=>h.i5 i) l,n⟩
 .have a:tT E.hp d.Z (.bw u) f bP:=wd (E:=E) (Q:=d.Z) (k:=3) C.z t (by rw[M.st];exact w) y g;have a:dY E.hp d.Z (.bw u) [f] bP:=a;unfold dY at a;obtain⟨v,j,a⟩:=a;cases j;obtain⟨c,k,l,n⟩:=KQ (h:=h) a (λ_ _ h=>h.len) M.hp;exact⟨c,k,by rw[z0];exact l,n⟩
theorem Fu(M:dc S h E){t o:Nat}{a x:SV}{e p:HV}(b:tO cy S t o a x K=some r)(y0:V E a e)(m0:V E x p):Mv S h E K r (hQ cy.cx h t o e p):=by
 unfold tO at b;split at b
 .
  rename_i y u g o0;rw[aH]at b;split at b
  .
   rename_i p0;split at b
   .
    rename_i m t0;split at b
    .
     rename_i b0 C;split at b
     .
      rename_i a0 z0;split at b
      .
       rename_i j z9 r0;obtain⟨l,v0⟩:=ep b;clear b;obtain⟨k,d,f,z,y9,A,x9,w9,v9⟩:=mO M z0;have i:=pa g o0;have u9:k.hp=E.hp:=by rw[d.hp,M.hp]
       obtain⟨c,q0,D,s0⟩:=v6 M m0 t0 C d f A;have x0:V k a e:=y0.gr f M d;obtain⟨n,l0,k0,j0⟩:=Jm d r0 x0
       have u0:lenOf e=some j.length:=by cases n with
        |nil v n0=>rcases n0 with rfl|rfl<;>rfl
        |cp=>rfl
       have w0:(j++m).length<=140737488355328:=by rw[ax];exact tc l (oO g).2
       obtain⟨s,v,B,w,q,i0,h0,g0,f0,e0,d0,c0⟩:=Ct (z:=y.z) d n l0 k0 j0 i D w0 v0;refine⟨s,v,B,w,q,?_,h0,f.trans g0,f0.trans z,e0,d0,c0⟩;unfold hQ;rw[g];simp only;rw[tw p0 s0,i,q0,u0];simp only;rw[show gu (Nat.add j.length m.length) y.lq=true from l,<-i];exact i0
      .cases b
     .cases b
    .cases b
   .cases b
  .cases b
 .cases b
theorem Ny(M:dc S h E){m g:Nat}{e:U}{xs:List (List (D e))}{v0:List (D e)}{f0 v:HV}{o:Option Nat}{st1:Tr iK}(h1:∀a f,st1.ap a=some f->S.st.ap a=some f)(h2:∀a,S.st.ap a≠none->st1.ap a=none->S.jU a=true)(w0:S.st.ap m=some (.rows g e xs))(m0:st1.ap m=some (.rows g e xs))(hc:S.jU m=true)(w9:bu m S.lk=false)(l0:fO (E.mb m) xs.length f0)(v9:∀c,o=some c->∃a f,S.st.ap a=some f/\Bk E a c/\st1.ap a=none/\bu a S.lk=false)(hv:fO o v0.length v)(hr:gx E o e v0)(hl:v0.length<=140737488355328)(hbig:xs.length+1<=140737488355328)(n0:K (.row S.nx) (S.mem ((st1.nr m).set S.nx (.rows S.nx e (xs++[v0]))) (Nat.add S.nx 1))=some r):Mv S h E K r (gE h 1 f0 [v] 1):=by
 obtain⟨_,_,i0⟩:=M.hD m _ w0;let y0:=st1.nr m;let q:Nat->Option Nat:=λi=>if i=xs.length then o else E.ib m i;have g0:q xs.length=o:=aA rfl;have s0:∀i,i≠xs.length->q i=E.ib m i:=λi B=>aB B;have d0:∀a,y0.ap a=if a=m then none else st1.ap a:=λa=>Tr.gC _ _ _
 have hst:∀a f,y0.ap a=some f->a≠m/\st1.ap a=some f:=λa f r0=>by
  rw[d0]at r0;split at r0;.cases r0
  .exact⟨by assumption,r0⟩
 have s1:∀a f,y0.ap a=some f->S.st.ap a=some f:=λa f r0=>h1 a f (hst a f r0).2
 have s2:∀a,S.st.ap a≠none->y0.ap a=none->S.jU a=true:=λa h3 x9=>by
  rw[d0]at x9;split at x9;.subst_vars;exact hc
  .exact h2 a h3 x9
 have b0:y0.ap m=none:=by rw[d0,aA rfl]
 have d9:∀b,(∃k,q k=some b)->∃a f,S.st.ap a=some f/\Bk E a b/\y0.ap a=none/\bu a S.lk=false:=by
  rintro b⟨k,n0⟩;by_cases g9:k=xs.length;.rw[g9,g0]at n0;obtain⟨a,f,d,s,C,k4⟩:=v9 b n0;exact⟨a,f,d,s,by rw[d0];split<;>first|rfl|exact C,k4⟩
  .rw[s0 k g9]at n0;exact⟨m,_,w0,.inr ⟨k,n0⟩,b0,w9⟩
 have a0:∀c,o=some c->¬Bk E m c:=by intro c A w;obtain⟨a,f,d,s,C,_⟩:=v9 c A;have:=M.inj a m f _ c d w0 s w;subst this;rw[m0]at C;cases C
 have y9:∀(z0:Tr Hm.Obj)(k0 b:Nat)(t0:gK),(∀c,c<h.nx->c≠b->E.mb m≠some c->z0.ap c=h.hp.ap c)->(b<h.nx->E.mb m=some b)->h.nx<=k0->b<k0->(∀c,k0<=c->z0.ap c=none)->z0.ap b=some (.cp t0)->t0.own=true->t0.z=1->xs.length+1<=t0.n->(∀i l,xs[i]?=some l->∃w,cF t0 i 1=some [w]/\fO (E.ib m i) l.length w)->cF t0 xs.length 1=some [v]->gE h 1 f0 [v] 1=some (.val (.sl b 0 (xs.length+1)) ⟨h.nt,h.dC,z0,k0,h.lk,h.df⟩)->Mv S h E K r (gE h 1 f0 [v] 1):=by
  intro z0 k0 b t0 o9 j0 n9 b4 b5 b6 b7 b8 b9 J4 NU NT;have c9:∀c,c<h.nx->c≠b->E.mb m≠some c->z0.ap c=E.hp.ap c:=λc d s C=>by rw[M.hp];exact o9 c d s C
  have:=yP (st1:=y0) (hp':=z0) (nx':=k0) (o:=some b) (q:=q) (e:= .rows S.nx e (xs++[v0])) M s1 s2 (λc A=>by
   by_cases q0:c=b;.subst q0;exact .inr ⟨m,_,w0,.inl (j0 A),b0⟩
   .
    by_cases p0:E.mb m=some c;.exact .inr ⟨m,_,w0,.inl p0,b0⟩
    .exact .inl (o9 c A q0 p0)) n9 b5 (λf9=>by cases f9) (λc A=>by
   rcases A with A|A
   .
    cases A;refine⟨b4,?_⟩;by_cases e0:b<h.nx;.exact .inr ⟨m,_,w0,.inl (j0 e0),b0,w9⟩
    .exact .inl (by omega)
   .obtain⟨a,f,d,s,C⟩:=d9 c A;exact⟨aP (M.own a f c d s).2 n9,.inr ⟨a,f,d,s,C⟩⟩) λg1 _=>by
   have hmb:(uA E z0 S.nx (some b) q (y0.set S.nx (.rows S.nx e (xs++[v0])))).mb S.nx=some b:=by show(bif Nat.beq S.nx S.nx then _ else _)=_;rw[show Nat.beq S.nx S.nx=true by simp];rfl
   have c0:∀k,(uA E z0 S.nx (some b) q (y0.set S.nx (.rows S.nx e (xs++[v0])))).ib S.nx k=q k:=λk=>by show(bif Nat.beq S.nx S.nx then _ else _)=_;rw[show Nat.beq S.nx S.nx=true by simp];rfl
   have e9:∀c,(∃a f,S.st.ap a=some f/\Bk E a c)->E.mb m≠some c->z0.ap c=E.hp.ap c:=λc⟨a,f,d,s⟩C=>by refine c9 c (M.own a f c d s).2 (λq0=>?_) C;subst q0;exact C (j0 (M.own a f c d s).2)
   have hR2:∀i,xs.length<=i->E.ib m i=none:=λi B=>by
    rcases i0 with⟨_,_,k⟩|⟨_,_,_,_,_,_,_,_,k,_⟩;.exact k i
    .exact k i B
   have hR3:∀i j c,E.ib m i=some c->E.ib m j=some c->i=j:=λi j c d s=>by
    rcases i0 with⟨_,_,k⟩|⟨_,_,_,_,_,_,_,_,_,k,_⟩;.rw[k]at d;cases d
    .exact k i j c d s
   have m9:∀i c,E.ib m i=some c->E.mb m≠some c:=λi c d s=>by
    rcases i0 with⟨_,_,k⟩|⟨_,_,u0,_,_,_,_,_,_,_,k⟩;.rw[k]at d;cases d
    .rw[u0]at s;cases s;exact k i d
   have x0:∀c,E.Z c->z0.ap c=E.hp.ap c:=λc t9=>by have k9:=M.z c t9;refine c9 c k9 (λq0=>?_) λp0=>(M.own m _ c w0 (.inl p0)).1 t9;subst q0;exact(M.own m _ c w0 (.inl (j0 k9))).1 t9
   refine⟨a7 _,by rw[ax];exact hbig,.inr ⟨b,t0,hmb,b6,b7,b8,by rw[ax];exact b9,λi l o0=>?_,λi B=>?_,λi j c d s=>?_,λi d=>?_⟩⟩
   .
    rw[c0];by_cases h9:i<xs.length;.rw[bL h9]at o0;have hx:=i0.p h9;obtain⟨_,_,_,_,_,_,_,q9,_⟩:=hx;obtain⟨p9,_,w3⟩:=q9 i l o0;rw[s0 i (by omega)];refine⟨p9,J4 i l o0,gx.fm (E:=E) (E':=uA E z0 S.nx (some b) q (y0.set S.nx (.rows S.nx e (xs++[v0])))) (λ_ k=>k) x0 (λc A=>e9 c ⟨m,_,w0,.inr ⟨i,A⟩⟩ (m9 i c A)) w3⟩
    .
     have hie:i=xs.length:=by have:=(aj.1 o0).1;rw[ax]at this;have:i<xs.length+1:=this;omega
     subst hie;rw[bA (au _),dW]at o0;cases o0;rw[g0];refine⟨hl,⟨v,NU,hv⟩,gx.fm (E:=E) (E':=uA E z0 S.nx (some b) q (y0.set S.nx (.rows S.nx e (xs++[v0])))) (λ_ k=>k) x0 (λc A=>e9 c ?_ λp0=>a0 c A (.inl p0)) hr⟩;obtain⟨a,f,d,s,_⟩:=v9 c A;exact⟨a,f,d,s⟩
   .rw[ax]at B;have B:xs.length+1<=i:=B;rw[c0,s0 i (by omega)];exact hR2 i (by omega)
   .
    rw[c0]at d s;by_cases B:i=xs.length
    .
     by_cases h0:j=xs.length;.rw[B,h0]
     .rw[B,g0]at d;rw[s0 j h0]at s;exact absurd (.inr ⟨j,s⟩) (a0 c d)
    .
     rw[s0 i B]at d;by_cases h0:j=xs.length;.rw[h0,g0]at s;exact absurd (.inr ⟨i,d⟩) (a0 c s)
     .rw[s0 j h0]at s;exact hR3 i j c d s
   .
    rw[c0]at d;obtain⟨a,f,p9,w2,_⟩:=d9 b ⟨i,d⟩;have e0:=j0 (M.own a f b p9 w2).2;by_cases B:i=xs.length;.rw[B,g0]at d;exact a0 b d (.inl e0)
    .rw[s0 i B]at d;exact m9 i b d e0
  refine⟨_,_,_,_,_,NT,this.1,this.2,rfl,rfl,hG.2 ⟨a7 _,rfl,λu zs x0=>?_,λt k x0 hk'=>?_⟩,n0⟩;.have x0:(y0.set S.nx (.rows S.nx e (xs++[v0]))).ap S.nx=some (.row u zs):=x0;rw[Tr.a8]at x0;cases x0
  .have x0:(y0.set S.nx (.rows S.nx e (xs++[v0]))).ap S.nx=some t:=x0;rw[Tr.a8]at x0;cases x0;cases hk';show fO (bif Nat.beq S.nx S.nx then some b else _) _ _;rw[show Nat.beq S.nx S.nx=true by simp,ax];rfl
 rcases i0 with⟨u0,s9,r9⟩|⟨b,y,u0,s9,r9,a9,p5,q9,p7,p8,p9⟩;.subst s9;rw[u0]at l0;refine y9 (h.hp.set h.nx (.cp ⟨true,1,1,cr .e 0 [v]⟩)) (h.nx+1) h.nx _ (λc d _ _=>o4 c d) (λk=>absurd k (pP _)) (dg _) (a7 _) (ul M) (Tr.a8 _ _ _) rfl rfl (au _) (λi l B=>by cases B) (il (c:=[v]) (p:=0) (by simp)) ?_;rcases l0.2 with rfl|rfl<;>rfl
 .
  rw[u0]at l0;have l0:f0= .sl b 0 xs.length:=l0;subst l0;have b9:h.hp.ap b=some (.cp y):=by rw[<-M.hp];exact s9
  have j9:=mm M w0 (.inl u0) w9;have hbn:=(M.own m _ b w0 (.inl u0)).2;have hcond:(y.own&&(h.gD b&&Nat.beq y.z 1))=true:=by rw[r9,a9];unfold St.gD;rw[j9];simp
  have m0:xs.length*1=xs.length:=gU _;have l9:gE h 1 (.sl b 0 xs.length) [v] 1=bif Nat.ble (Nat.add 0 (Nat.mul (Nat.add xs.length 1) 1)) y.n then match h.fo b (Nat.add 0 (Nat.mul xs.length 1)) [v]with|some s'=>some (.val (.sl b 0 (Nat.add xs.length 1)) s')|none=>none else bif Nat.ble (Nat.add 0 (Nat.mul xs.length 1)) y.n then some (.val (.sl h.nx 0 (Nat.add xs.length 1)) ⟨h.nt,h.dC,(h.hp.nr b).set h.nx (.cp ⟨true,1,Nat.mul (Nat.add xs.length 1) 1,cr y.c (Nat.mul xs.length 1) [v]⟩),Nat.add h.nx 1,h.lk,h.df⟩)else none:=by show(match h.cp b with|some x=>_|none=>none)=_;rw[jK b9];simp only;rw[hcond];rfl
  have rows:∀(w:Bool)(z n p:Nat),p=xs.length->xs.length+1<=n->∀i l,xs[i]?=some l->∃z9,cF ⟨w,z,n,cr y.c p [v]⟩ i 1=some [z9]/\fO (E.ib m i) l.length z9:=by rintro w z n p rfl f9 i l B;obtain⟨_,⟨z9,s,C⟩,_⟩:=q9 i l B;have:=(aj.1 B).1;exact⟨z9,od s (by simp;omega) (by omega),C⟩
  by_cases i9:xs.length+1<=y.n
  .
   have hw:=jO (o:=0+xs.length*1) (c:=[v]) b9 r9 j9 (by rw[m0];show 0+xs.length+1<=y.n;omega);refine y9 (h.hp.set b (.cp ⟨true,y.z,y.n,cr y.c (0+xs.length*1) [v]⟩)) h.nx b _ (λc _ s _=>Tr.bS _ _ s) (λ_=>u0) (au _) hbn (λc A=>?_) (Tr.a8 _ _ _) rfl a9 i9 (rows _ _ _ _ (by omega) i9) ?_ ?_;.rw[Tr.bS _ _ (by omega)];exact M.fr c A
   .have:=il (T:=y.c) (w:=true) (z:=y.z) (n:=y.n) (p:=0+xs.length*1) (c:=[v]) (by rw[m0];show 0+xs.length+1<=y.n;omega);rw[show 0+xs.length*1=xs.length by omega]at this⊢;exact this
   .rw[l9,show Nat.ble (Nat.add 0 (Nat.mul (Nat.add xs.length 1) 1)) y.n=true by rw[bO];show 0+(xs.length+1)*1<=y.n;omega];show(match h.fo b (0+xs.length*1) [v]with|some s'=>_|none=>none)=_;rw[hw]
  .
   refine y9 ((h.hp.nr b).set h.nx (.cp ⟨true,1,Nat.mul (Nat.add xs.length 1) 1,cr y.c (Nat.mul xs.length 1) [v]⟩)) (h.nx+1) h.nx _ (λc d _ C=>?_) (λk=>absurd k (pP _)) (dg _) (a7 _) (λc A=>?_) (Tr.a8 _ _ _) rfl rfl ?_ (rows _ _ _ _ m0 ?_) ?_ ?_;.rw[Tr.bS _ _ (by omega),Tr.gC,aB];rintro rfl;exact C u0
   .rw[Tr.bS _ _ (by omega),Tr.gC,aB (by omega)];exact M.fr c (by omega)
   .show xs.length+1<=(xs.length+1)*1;omega
   .show xs.length+1<=(xs.length+1)*1;omega
   .have:=il (T:=y.c) (w:=true) (z:=1) (n:=Nat.mul (Nat.add xs.length 1) 1) (p:=Nat.mul xs.length 1) (c:=[v]) (by show xs.length*1+1<=(xs.length+1)*1;omega);have e1:Nat.mul xs.length 1=xs.length:=m0;rw[e1]at this⊢;exact this
   .
    rw[l9,show Nat.ble (Nat.add 0 (Nat.mul (Nat.add xs.length 1) 1)) y.n=false by cases u9:Nat.ble (Nat.add 0 (Nat.mul (Nat.add xs.length 1) 1)) y.n with
     |false=>rfl
     |true=>rw[bO]at u9;have u9:0+(xs.length+1)*1<=y.n:=u9;omega,show Nat.ble (Nat.add 0 (Nat.mul xs.length 1)) y.n=true by rw[bO];show 0+xs.length*1<=y.n;omega]
    rfl
theorem JH(M:dc S h E){t p0:Nat}{a x:SV}{C o0:HV}(c:JI cy S t p0 a x K=some r)(D:V E a C)(s0:V E x o0):Mv S h E K r (hQ cy.cx h t p0 C o0):=by
 unfold JI at c;split at c
 .
  rename_i y u q z9;split at c
  .
   rename_i m k;split at c
   .
    rename_i g e f z w o h0;rw[aH]at c;split at c
    .
     rename_i y0;simp only[ae,bB]at y0;obtain⟨y9,A,a0⟩:=y0;subst y9;have A:=aw A;subst A;split at c
     .
      rename_i m0 d i0;rw[aH]at c;split at c
      .
       rename_i j;simp only[ae]at j;obtain⟨j,u0⟩:=j;obtain⟨v0,x0⟩:=ep c;obtain⟨b,n0,o9,x9,w9,l9,k9,B,v9⟩:=M.hD k _ h0;obtain⟨v,m9,rfl,u9,t9,s9,p,q0,r9,q9⟩:=vG M i0 (dT.1 v9);obtain⟨i,n⟩:=gf j;have i:S.jU m=true:=by rw[p]at i;exact i
       have n:bu m S.lk=false:=by rw[p]at n;exact n
       have e0:d.st.ap m=some (.rows g e f):=by cases w0:d.st.ap m with
        |none=>rw[w0]at u0;cases u0
        |some l0=>rw[q0 m l0 w0]at o;exact o
       rw[hG]at D;have t0:=D.2.2.2 _ _ (by rw[M.st];exact o) rfl;rw[tQ]at s0;obtain⟨_,p9,z0,rfl,_⟩:=s0;rw[x9]at z0;cases z0;have j0:f.length+1<=140737488355328:=tc v0 (oO q).2;have k0:(d.lZ m).bP (.rows d.nx e (aX f [m0]))=S.mem ((d.st.nr m).set S.nx (.rows S.nx e (f++[m0]))) (Nat.add S.nx 1):=by rw[p];rfl
       have d0:d.nx=S.nx:=by rw[p];rfl
       rw[k0,d0]at x0;have r0:y.z=1:=pa q z9;have g0:=g5 B;have n9:y.z=1:=r0;have b0:iW h 1 (.sl b 0 1)=some ([v],1):=by unfold iW;simp only[cellsOf,lenOf];rw[jK (by rw[<-M.hp];exact w9)];simp only;have:n0.n=1:=g0.symm;rw[this]at B;show(match cF n0 0 1,some 1 with|some l,some k=>some (l,k)|_,_=>none)=_;rw[B]
       have f0:lenOf C=some f.length:=nB t0;have:=Ny (r:=r) (K:=K) M q0 r9 o e0 i n t0 q9 u9 t9 s9 j0 x0;unfold hQ;rw[q];simp only;rw[tw a0 (λs c0=>by cases c0),r0,b0,f0];simp only;rw[show gu (Nat.add f.length 1) y.lq=true from v0];exact this
      .cases c
     .cases c
    .cases c
   .cases c
  .cases c
 .cases c
def Si(E:En)(m j n:Nat)(st:Tr iK):En:=⟨E.hp,E.Z,λa=>bif Nat.beq a n then E.ib m j else E.mb a,λa k=>bif Nat.beq a n then none else bif Nat.beq a m&&Nat.beq k j then none else E.ib a k,st,n+1⟩
theorem MW(M:dc S h E){m g j:Nat}{e:U}{xs:List (List (D e))}{l:List (D e)}(A:S.st.ap m=some (.rows g e xs))(t0:S.jU m=true)(x9:bu m S.lk=false)(y9:xs[j]?=some l):dc ((S.iE m (.mM e xs (Int.ofNat j))).bP (.row e l)) h (Si E m j S.nx ((S.st.set m (.mM e xs (Int.ofNat j))).set S.nx (.row e l)))/\Gr S h E ((S.iE m (.mM e xs (Int.ofNat j))).bP (.row e l)) h (Si E m j S.nx ((S.st.set m (.mM e xs (Int.ofNat j))).set S.nx (.row e l))):=by
 have hlt:=M.lt m _ A;have B:m≠S.nx:=by omega
 obtain⟨hg,g9,k9⟩:=M.hD m _ A;have z9:j<xs.length:=(aj.1 y9).1;obtain⟨b,y,r9,c9,b9,a9,p5,q9,p7,p9,o9⟩:=k9.p z9;let s0:=(S.st.set m (.mM e xs (Int.ofNat j))).set S.nx (.row e l);let n:En:=Si E m j S.nx s0;have m0:∀a,a≠S.nx->n.mb a=E.mb a:=λa d=>by show(bif Nat.beq a S.nx then _ else _)=_;rw[jD d];rfl
 have s9:n.mb S.nx=E.ib m j:=by show(bif Nat.beq S.nx S.nx then _ else _)=_;rw[show Nat.beq S.nx S.nx=true by simp];rfl
 have u9:∀k,n.ib S.nx k=none:=λk=>by show(bif Nat.beq S.nx S.nx then _ else _)=_;rw[show Nat.beq S.nx S.nx=true by simp];rfl
 have q0:∀a k,a≠S.nx->¬(a=m/\k=j)->n.ib a k=E.ib a k:=λa k d z0=>by
  show(bif Nat.beq a S.nx then _ else bif Nat.beq a m&&Nat.beq k j then _ else _)=_
  rw[jD d,show(Nat.beq a m&&Nat.beq k j)=false by cases o:Nat.beq a m&&Nat.beq k j with
   |false=>rfl
   |true=>rw[ae]at o;exact absurd ⟨aw o.1,aw o.2⟩ z0]
  rfl
 have d0:n.ib m j=none:=by show(bif Nat.beq m S.nx then _ else bif Nat.beq m m&&Nat.beq j j then _ else _)=_;rw[jD B,show(Nat.beq m m&&Nat.beq j j)=true by simp];rfl
 have j0:∀a k c,a≠S.nx->n.ib a k=some c->E.ib a k=some c:=λa k c d z0=>by
  by_cases o:a=m/\k=j;.obtain⟨rfl,rfl⟩:=o;rw[d0]at z0;cases z0
  .rw[q0 a k d o]at z0;exact z0
 have e0:∀a,s0.ap a=if a=S.nx then some (.row e l)else if a=m then some (.mM e xs (Int.ofNat j))else S.st.ap a:=λa=>by show((S.st.set m _).set S.nx _).ap a=_;rw[Tr.dk,Tr.dk]
 have y0:∀a t,s0.ap a=some t->a=S.nx/\t= .row e l\/a=m/\t= .mM e xs (Int.ofNat j)\/a≠S.nx/\a≠m/\S.st.ap a=some t:=by
  intro a t d;rw[e0]at d;split at d;.cases d;exact .inl ⟨by assumption,rfl⟩
  .
   split at d;.cases d;exact .inr (.inl ⟨by assumption,rfl⟩)
   .exact .inr (.inr ⟨by assumption,by assumption,d⟩)
 have z:∀a c,a≠S.nx->Bk n a c->Bk E a c:=λa c d t0=>by
  rcases t0 with q|⟨k,q⟩;.rw[m0 a d]at q;exact .inl q
  .exact .inr ⟨k,j0 a k c d q⟩
 have u0:∀c,Bk n S.nx c->E.ib m j=some c:=λc t0=>by
  rcases t0 with q|⟨k,q⟩;.rw[s9]at q;exact q
  .rw[u9]at q;cases q
 have c0:∀c,Bk n m c->E.ib m j≠some c:=λc t0 o=>by
  rcases t0 with q|⟨k,q⟩;.rw[m0 m B,r9]at q;cases q;exact o9 j o
  .
   by_cases z0:k=j;.subst z0;rw[d0]at q;cases q
   .exact z0 (p9 k j c (j0 m k c B q) o)
 have m9:∀a t k,a<S.nx->s0.ap a=some t->t.rn=some k->∃p0,S.st.ap a=some p0/\p0.rn=some k:=λa t k d C z0=>by
  rcases y0 a t C with⟨q,_⟩|⟨rfl,rfl⟩|⟨_,_,q⟩;.omega
  .cases z0;exact⟨_,A,rfl⟩
  .exact⟨t,q,z0⟩
 have h0:∀a v0 u x,a<S.nx->s0.ap a=some (.rows v0 u x)->S.st.ap a=some (.rows v0 u x)/\∀k,n.ib a k=E.ib a k:=λa v0 u x d C=>by
  rcases y0 a _ C with⟨q,_⟩|⟨_,q⟩|⟨s,x0,q⟩;.omega
  .cases q
  .exact⟨q,λk=>q0 a k s λo=>x0 o.1⟩
 have n9:∀a u x,a<S.nx->s0.ap a=some (.row u x)->∃l9,S.st.ap a=some (.row u l9)/\l9.length=x.length:=λa u x d C=>by
  rcases y0 a _ C with⟨q,_⟩|⟨_,q⟩|⟨_,_,q⟩;.omega
  .cases q
  .exact⟨x,q,rfl⟩
 have f:Fm E.nx E n:=⟨λ_ q=>q,λ_ _=>rfl,by rw[M.nx];exact dg _,λa d=>m0 a (by rw[M.nx]at d;omega),λa u x d C=>by rw[M.nx]at d;rw[M.st];exact n9 a u x d C,λa t k d C z0=>by rw[M.nx]at d;rw[M.st];exact m9 a t k d C z0,λa v0 u x d hg' C=>by rw[M.nx]at d;rw[M.st];exact⟨x,(h0 a v0 u x d C).1,gb.refl,(h0 a v0 u x d C).2⟩⟩;obtain⟨e9,k2,d9⟩:=q9 j l y9;refine⟨⟨M.hp,rfl,rfl,λa t d=>?_,λa t d=>?_,λa w0 t p0 c d g0 o0 r0=>?_,λa t c d p=>?_,M.z,M.fr,λc n0=>⟨(M.lk c n0).1,λa t d p=>?_⟩,λa c p=>?_,λa t d w9=>?_⟩,⟨rfl,rfl,rfl,rfl,rfl,rfl,rfl,rfl,au _,dg _,λ_ q=>q,λc q=> .inl q,λ_ _ _=>rfl,λc f9=>?_,λa d=>m0 a (by omega),λa d k0=>?_,λa d f0=>?_,n9,λc a t n0 d p=>?_,m9,λa v0 u x d _ C=>⟨x,(h0 a v0 u x d C).1,gb.refl,(h0 a v0 u x d C).2⟩,λa d k0 k=>q0 a k (by omega) λo=>?_⟩⟩
 .
  show a<S.nx+1;rcases y0 a t d with⟨q,_⟩|⟨q,_⟩|⟨_,_,q⟩;.omega
  .omega
  .have:=M.lt a t q;omega
 .
  rcases y0 a t d with⟨rfl,rfl⟩|⟨rfl,rfl⟩|⟨s,x0,q⟩;.refine⟨e9,?_⟩;show gx n (n.mb S.nx) e l;rw[s9];exact d9.fm (λ_ q=>q) (λ_ _=>rfl) λ_ _=>rfl
  .
   refine⟨g9,j,rfl,z9,d0,b,y,by show n.mb a=_;rw[m0 a B];exact r9,c9,b9,a9,p5,λi t9 i9 h9=>?_,λi j9=>?_,λi v9 c x0 q2=>p9 i v9 c (j0 a i c B x0) (j0 a v9 c B q2),λi q=>o9 i (j0 a i b B q)⟩;.obtain⟨l0,w2,w3⟩:=q9 i t9 h9;have b0:n.ib a i=E.ib a i:=q0 a i B λo=>i9 o.2;refine⟨l0,by show∃v,_/\fO (n.ib a i) _ v;rw[b0];exact w2,?_⟩;show gx n (n.ib a i) e t9;rw[b0];exact w3.fm (λ_ q=>q) (λ_ _=>rfl) λ_ _=>rfl
   .show n.ib a i=none;rw[q0 a i B λo=>by omega];exact p7 i j9
  .exact(M.hD a t q).fm f (m0 a s) (λk=>q0 a k s λo=>x0 o.1) λ_ _=>rfl
 .
  rcases y0 a t d with⟨rfl,rfl⟩|⟨rfl,rfl⟩|⟨s,x0,q⟩
  .
   have a0:=u0 c o0;rcases y0 w0 p0 g0 with⟨rfl,rfl⟩|⟨rfl,rfl⟩|⟨i0,l0,w⟩;.rfl
   .exact absurd a0 (c0 c r0)
   .exact absurd (M.inj w0 m _ _ c w A (z w0 c i0 r0) (.inr ⟨j,a0⟩)) l0
  .
   rcases y0 w0 p0 g0 with⟨rfl,rfl⟩|⟨rfl,rfl⟩|⟨i0,l0,w⟩;.exact absurd (u0 c r0) (c0 c o0)
   .rfl
   .exact absurd (M.inj w0 a _ _ c w A (z w0 c i0 r0) (z a c B o0)) l0
  .
   rcases y0 w0 p0 g0 with⟨rfl,rfl⟩|⟨rfl,rfl⟩|⟨i0,l0,w⟩;.exact absurd (M.inj a m _ _ c q A (z a c s o0) (.inr ⟨j,u0 c r0⟩)) x0
   .exact absurd (M.inj a w0 _ _ c q A (z a c s o0) (z w0 c B r0)) x0
   .exact M.inj a w0 t p0 c q w (z a c s o0) (z w0 c i0 r0)
 .
  rcases y0 a t d with⟨rfl,rfl⟩|⟨rfl,rfl⟩|⟨s,x0,q⟩;.exact M.own m _ c A (.inr ⟨j,u0 c p⟩)
  .exact M.own a _ c A (z a c B p)
  .exact M.own a t c q (z a c s p)
 .
  rcases y0 a t d with⟨rfl,rfl⟩|⟨rfl,rfl⟩|⟨s,x0,q⟩;.have:=(M.lk c n0).2 m _ A (.inr ⟨j,u0 c p⟩);rw[x9]at this;cases this
  .exact(M.lk c n0).2 a _ A (z a c B p)
  .exact(M.lk c n0).2 a t q (z a c s p)
 .
  by_cases d:a=S.nx;.subst d;exact M.rN m c (.inr ⟨j,u0 c p⟩)
  .exact M.rN a c (z a c d p)
 .
  intro k;rcases y0 a t d with⟨rfl,rfl⟩|⟨rfl,rfl⟩|⟨s,x0,q⟩;.exact u9 k
  .cases w9
  .show n.ib a k=none;rw[q0 a k s λo=>x0 o.1];exact M.tk a t q w9 k
 .
  obtain⟨a,t,d,p⟩:=f9;rcases y0 a t d with⟨rfl,rfl⟩|⟨rfl,rfl⟩|⟨s,x0,q⟩;.exact .inl ⟨m,_,A,.inr ⟨j,u0 c p⟩⟩
  .exact .inl ⟨a,_,A,z a c B p⟩
  .exact .inl ⟨a,t,q,z a c s p⟩
 .show s0.ap a=_;rw[e0,aB (by omega),aB λq=>by subst q;rw[t0]at k0;cases k0]
 .show s0.ap a=_;rw[e0,aB (by omega),aB λq=>by subst q;rw[A]at f0;cases f0];exact f0
 .
  rcases y0 a t d with⟨rfl,rfl⟩|⟨rfl,rfl⟩|⟨s,x0,q⟩;.have:=(M.lk c n0).2 m _ A (.inr ⟨j,u0 c p⟩);rw[x9]at this;cases this
  .exact⟨_,A,z a c B p⟩
  .exact⟨t,q,z a c s p⟩
 .obtain⟨rfl,_⟩:=o;rw[t0]at k0;cases k0
theorem I3(M:dc S h E){a x:SV}{w y0:HV}{o:Option Rs}{y:SV->SS->Option R}(c:I4 S a y=some r)(i:V E a w)(z0:V E x y0)(F:∀{f:SS}{E':En}{b:SV},dc f h E'->y b f=some r->V E' b w->V E' x y0->Mv f h E' K r o):Mv S h E K r o:=by
 unfold I4 at c;split at c
 .
  rename_i m g j;split at c
  .
   rename_i e0 e p D;rw[aH]at c;split at c
   .
    rename_i q;rw[ae]at q;have s0:=aw q.1;subst s0;obtain⟨t0,o0⟩:=gf q.2;obtain⟨l,p0,q0⟩:=jq c;obtain⟨n,rfl,C⟩:=lL p0;obtain⟨z,B⟩:=MW M D t0 o0 C;rw[BG]at i;obtain⟨_,_,u0,i⟩:=i;obtain⟨k,d0,x0,A,w0⟩:=i e p (by rw[M.st];exact D);cases x0;rw[C]at A;cases A
    have n0:V (Si E m n S.nx ((S.st.set m (.mM e p (Int.ofNat n))).set S.nx (.row e l))) (.row S.nx) w:=by
     refine hG.2 ⟨a7 _,u0,λu f0 d=>?_,λt k d r0=>?_⟩;.have d:((S.st.set m (.mM e p (Int.ofNat n))).set S.nx (.row e l)).ap S.nx=some (.row u f0):=d;rw[Tr.a8]at d;cases d;show fO (bif Nat.beq S.nx S.nx then E.ib m n else _) _ _;rw[show Nat.beq S.nx S.nx=true by simp];exact w0
     .have d:((S.st.set m (.mM e p (Int.ofNat n))).set S.nx (.row e l)).ap S.nx=some t:=d;rw[Tr.a8]at d;cases d;cases r0
    obtain⟨s,v,v0,f,E',m0,l0,k0,j0,i0,h0,g0⟩:=F z q0 n0 (z0.gr B M z);exact⟨s,v,v0,f,E',m0,l0,B.trans k0,j0,i0,h0,g0⟩
   .cases c
  .cases c
 .exact F M c i z0
end
section
variable{E:En}{S:SS}{h:St}{cy:Cy}{R:Type}{r:R}{K:SV->SS->Option R}
def VO(E:En):Option SV->Option HV->Prop|none,o=>o=none|some s,o=>∃v,o=some v/\V E s v
theorem xV(d:dB S h E){x:Option Operand}{o:Option SV}(a:Hc S x=some o):∃q,nq h x=some q/\VO E o q:=by
 unfold Hc at a;split at a;.cases a;exact⟨none,rfl,rfl⟩
 .
  split at a;.rename_i s e;cases a;obtain⟨v,b,c⟩:=bV d e;exact⟨some v,by unfold nq;simp only;rw[b],v,rfl,c⟩
  .cases a
theorem lr{d:Nat}{o:Option SV}{q:Option HV}{x:Int}(b:kV (Int.ofNat d) o=some x)(a:VO E o q)(c:0<=x):∃p,fd q=some p/\dM d p=x.toNat:=by
 unfold kV at b;split at b;.cases b;have a:q=none:=a;subst a;exact⟨none,rfl,rfl⟩
 .cases b;obtain⟨v,rfl,a⟩:=a;rw[d7]at a;subst a;obtain⟨n,rfl⟩:∃n:Nat,x=Int.ofNat n:=⟨_,pu c⟩;exact⟨some n,rfl,rfl⟩
 .cases b
theorem jx{o:Option SV}{q:Option HV}(b:uB o=true)(a:VO E o q):∃p,fd q=some p/\dM 0 p=0/\(o.isSome=true->p=some 0):=by
 unfold uB at b;split at b;.have a:q=none:=a;subst a;exact⟨none,rfl,rfl,λh=>by cases h⟩
 .
  rename_i k x;have b:x=0:=by simpa using b
  subst b;obtain⟨v,rfl,a⟩:=a;rw[d7]at a;subst a;exact⟨some 0,rfl,rfl,λ_=>rfl⟩
 .cases b
theorem oa{lo hi n:Int}(h:dx lo hi n=true):0<=lo/\lo<=hi/\hi<=n:=by unfold dx at h;simp only[ae,bB]at h;exact⟨h.1,h.2.1,h.2.2⟩
theorem NK{α:Type}{xs:List α}{lo hi:Int}{i:Nat}{x:α}(h:(eS xs lo hi)[i]?=some x):xs[lo.toNat+i]?=some x/\lo.toNat+i<hi.toNat:=by
 unfold eS at h;rw[eU]at h;split at h;.rw[gh]at h;exact⟨h,by omega⟩
 .cases h
theorem NJ{α:Type}{xs:List α}{lo hi:Int}(h:dx lo hi (ak xs)=true):(eS xs lo hi).length=hi.toNat-lo.toNat:=by
 obtain⟨b,c,a⟩:=oa h;unfold eS;unfold ak at a;rw[aR,cB];have:hi.toNat<=xs.length:=by obtain⟨n,rfl⟩:∃n:Nat,hi=Int.ofNat n:=⟨_,pu (by omega)⟩;exact kK.1 a
 omega
theorem yt(M:dc S h E){t e z:Nat}{x:pI}{u:U}{xs:List (D u)}{s:HV}{lo hi:Option SV}{l hh:Int}{q p:Option HV}(y9:cy.cx.ti.ap t=some x)(v0:x.sh= .slice e)(g:cy.cx.size e=some z)(a0:u.size=z)(x9:1<=z)(C:V E (.val (.bw u) xs) s)(f0:kV 0 lo=some l)(g0:kV (ak xs) hi=some hh)(z0:dx l hh (ak xs)=true)(t9:VO E lo q)(u9:VO E hi p):∃v,ew cy.cx h t s q p none=some (.val v h)/\V E (.val (.bw u) (eS xs l hh)) v:=by
 subst a0;obtain⟨t0,s9,s0⟩:=oa z0;obtain⟨n9,q0,p0⟩:=lr (d:=0) f0 t9 t0;obtain⟨c,o0,j⟩:=lr (d:=xs.length) g0 u9 (by omega);have f:=NJ z0;have d0:l.toNat<=hh.toNat:=by omega
 have x0:hh.toNat<=xs.length:=by obtain⟨n,rfl⟩:∃n:Nat,hh=Int.ofNat n:=⟨_,pu (by omega)⟩;exact kK.1 s0
 have y0:∀w,ew cy.cx h t w q p none=match x.sh,w with
  | .slice e,.sl b o n=>match cy.cx.size e,h.cp b with
   |some z,some y=>match ii y b o n z l.toNat c none with|some v=>some (.val v h)|none=>none
   |_,_=>none
  | .slice e,.jh b o n=>match cy.cx.size e,(none:Option Nat)with|some z,none=>let a:=dM n c;bif Nat.ble l.toNat a&&Nat.ble a n then some (.val (Hm.part HV.jh b o z l.toNat a) h)else none|_,_=>none
  | .slice e,v=>match cy.cx.size e,gB v l.toNat c none with|some _,some u=>some (.val u h)|_,_=>none
  | .im m e,.ptr b o=>match cy.cx.size e,(none:Option Nat)with|some z,none=>let a:=dM m c;bif Nat.ble m 1000000&&(Nat.ble l.toNat a&&Nat.ble a m)then some (.val (Hm.part HV.jh b o z l.toNat a) h)else none|_,_=>none
  | .ef,.ef b=>match(none:Option Nat)with|none=>let a:=dM b.size c;bif Nat.ble l.toNat a&&Nat.ble a b.size then some (.val (.ef (b.extract l.toNat a)) h)else none|some _=>none
  |_,_=>none:=by intro w;unfold ew;rw[y9,q0,o0,show fd none=some none from rfl];simp only;rw[p0];rfl
 rw[nV]at C;rcases C with⟨m0,d⟩|⟨b,o,y,⟨d,A⟩,k0,B,r9,q9,j0⟩
 .
  subst m0;have l0:hh.toNat=0:=by simpa using x0
  have e0:l.toNat=0:=by omega
  have c0:eS ([]:List (D u)) l hh=[]:=by apply eN.1;rw[f];omega
  have n0:dM 0 c=0:=by rw[l0]at j;exact j
  have k:(Nat.beq l.toNat 0&&(Nat.beq (dM 0 c) 0&&Nat.beq (dM 0 (none:Option Nat)) 0))=true:=by rw[e0,n0];rfl
  refine⟨s,?_,?_⟩
  .
   rw[y0];rw[v0];rcases d with rfl|rfl|rfl;.show(match cy.cx.size e,gB HV.cM l.toNat c none with|some _,some u=>some (Rs.val u h)|_,_=>none)=_;rw[g];unfold gB;rw[k];rfl
   .show(match cy.cx.size e,gB HV.gz l.toNat c none with|some _,some u=>some (Rs.val u h)|_,_=>none)=_;rw[g];unfold gB;rw[k];rfl
   .show(match cy.cx.size e,gB HV.lV l.toNat c none with|some _,some u=>some (Rs.val u h)|_,_=>none)=_;rw[g];unfold gB;rw[k];rfl
  .rw[c0,nV];exact .inl ⟨rfl,d⟩
 .
  subst d;have p9:hh.toNat*u.size<=xs.length*u.size:=co _ x0;have h0:(Nat.ble 1 u.size&&Nat.ble hh.toNat 140737488355328&&(Nat.ble l.toNat hh.toNat&&(Nat.beq y.z u.size&&Nat.ble (Nat.add o (Nat.mul hh.toNat u.size)) y.n)))=true:=by simp only[ae,bO];refine⟨⟨x9,by omega⟩,d0,by rw[A];simp,?_⟩;show o+hh.toNat*u.size<=y.n;omega
  have b0:ii y b o xs.length u.size l.toNat c none=some (Hm.part HV.sl b o u.size l.toNat hh.toNat):=by unfold ii;simp only;rw[j,h0];rfl
  have i0:h.cp b=some y:=jK (by rw[<-M.hp];exact B);refine⟨Hm.part HV.sl b o u.size l.toNat hh.toNat,?_,?_⟩;.rw[y0,v0];simp only;rw[g,i0];simp only;rw[b0]
  .
   rw[nV];unfold Hm.part;rw[aH];split;.rename_i w0;simp only[ae]at w0;have:=aw w0.1;exact .inl ⟨eN.1 (by rw[f];omega),.inr (.inr rfl)⟩
   .
    refine .inr ⟨b,o+l.toNat*u.size,y,⟨by rw[f];rfl,A⟩,k0,B,?_,by omega,λi w z9=>?_⟩
    .
     rw[f];have:l.toNat*u.size+(hh.toNat-l.toNat)*u.size=hh.toNat*u.size:=by rw[<-fY];congr 1;omega
     omega
    .obtain⟨w9,o9⟩:=NK z9;obtain⟨r0,u0,v9⟩:=j0 _ w w9;refine⟨r0,?_,v9⟩;rw[fY]at u0;rw[gn];exact u0
theorem kk{t e z:Nat}{x:pI}{w u:HV}{i g j:Option HV}{b a c:Option Nat}(n:cy.cx.ti.ap t=some x)(l:x.sh= .slice e)(f:cy.cx.size e=some z)(h1:fd i=some b)(h2:fd g=some a)(k:fd j=some c)(m:w= .cM\/w= .gz\/w= .lV)(d:gB w (dM 0 b) a c=some u):ew cy.cx h t w i g j=some (.val u h):=by
 unfold ew;rw[n,h1,h2,k];simp only;rw[l];rcases m with rfl|rfl|rfl;.show(match cy.cx.size e,gB HV.cM (dM 0 b) a c with|some _,some u=>some (Rs.val u h)|_,_=>none)=_;rw[f,d]
 .show(match cy.cx.size e,gB HV.gz (dM 0 b) a c with|some _,some u=>some (Rs.val u h)|_,_=>none)=_;rw[f,d]
 .show(match cy.cx.size e,gB HV.lV (dM 0 b) a c with|some _,some u=>some (Rs.val u h)|_,_=>none)=_;rw[f,d]
theorem yM{t e z b o n:Nat}{x:pI}{y:gK}{v:HV}{g f i:Option HV}{c a d:Option Nat}(p:cy.cx.ti.ap t=some x)(m:x.sh= .slice e)(q:cy.cx.size e=some z)(h1:fd g=some c)(h2:fd f=some a)(j:fd i=some d)(k:h.cp b=some y)(l:ii y b o n z (dM 0 c) a d=some v):ew cy.cx h t (.sl b o n) g f i=some (.val v h):=by unfold ew;rw[p,h1,h2,j];simp only;rw[m];simp only;rw[q,k];simp only;rw[l]
theorem zz{w:HV}{b a:Option Nat}(c:dM 0 b=0)(hh:dM 0 a=0)(d:w= .cM\/w= .gz\/w= .lV):gB w (dM 0 b) a none=some w:=by unfold gB;rw[c,hh];rcases d with rfl|rfl|rfl<;>rfl
theorem Bi{w:HV}{a:Option Nat}(b:dM 0 a=0)(c:w= .cM\/w= .gz\/w= .lV):∃u,gB w (dM 0 a) (some 0) (some 0)=some u/\(u= .cM\/u= .gz)/\(w= .cM->u= .cM):=by
 unfold gB;rw[b];rcases c with rfl|rfl|rfl;.exact⟨_,rfl,.inl rfl,λ_=>rfl⟩
 .exact⟨_,rfl,.inr rfl,λh=>by cases h⟩
 .exact⟨_,rfl,.inr rfl,λh=>by cases h⟩
theorem Dc{d:Nat}{o:Option SV}{q:Option HV}{l:Nat}(b:(match o with|none=>some d|some v=>uQ v)=some l)(a:VO E o q):∃p,fd q=some p/\dM d p=l:=by cases o with
 |none=>cases b;have a:q=none:=a;subst a;exact⟨none,rfl,rfl⟩
 |some s=>obtain⟨v,rfl,a⟩:=a;obtain⟨k,rfl⟩:=nF b;rw[d7]at a;subst a;exact⟨some l,rfl,rfl⟩
theorem VO.mono{E':En}(c:∀s v,V E s v->V E' s v):∀{o:Option SV}{q:Option HV},VO E o q->VO E' o q|none,_,h=>h|some _,_,⟨v,a,b⟩=>⟨v,a,c _ _ b⟩
theorem PU(M:dc S h E)(m:Nat):dc (S.lZ m) h (E7 E S m)/\Fm E.nx E (E7 E S m):=by have b:dc (⟨S.nt,S.dC,S.st,S.nx,S.lk,0,S.wr,S.kp⟩:SS) h E:=⟨M.hp,M.st,M.nx,M.lt,M.hD,M.inj,M.own,M.z,M.fr,M.lk,M.rN,M.tk⟩;obtain⟨a,c⟩:=xL b (m:=m) (by unfold SS.jU;show(Nat.ble 0 m||_)=true;simp);exact⟨⟨a.hp,a.st,a.nx,a.lt,a.hD,a.inj,a.own,a.z,a.fr,a.lk,a.rN,a.tk⟩,c.fm b a⟩
theorem Aa(M:dc S h E){t e z m:Nat}{x:pI}{u:U}{xs:List (D u)}{g:HV}{lo hi:Option SV}{l hh:Int}{n k:Option HV}(x0:cy.cx.ti.ap t=some x)(z0:x.sh= .slice e)(w0:cy.cx.size e=some z)(y0:u.size=z)(v0:1<=z)(d:S.st.ap m=some (.row u xs))(i:V E (.row m) g)(A:kV 0 lo=some l)(y:kV (ak xs) hi=some hh)(a:dx l hh (ak xs)=true)(t0:VO E lo n)(u0:VO E hi k):∃v,ew cy.cx h t g n k none=some (.val v h)/\V (E7 E S m) (.val (.bw u) (eS xs l hh)) v:=by
 obtain⟨o,p⟩:=PU M m;have j:∀s v,V E s v->V (E7 E S m) s v:=λs v f=>f.fm p (.inl rfl);rw[hG]at i;have f:=i.2.2.1 u xs (by rw[M.st];exact d);obtain⟨B,C⟩:=M.hD m _ d;have q:V (E7 E S m) (.val (.bw u) xs) g:=by rw[nV];exact zp (E:=E) (Q:=(E7 E S m).Z) (λc a=> .inr ⟨by rw[d];rfl,.inl a⟩) (λb w=> .inl w) B f C
 exact yt o x0 z0 w0 y0 v0 q A y a (t0.mono j) (u0.mono j)
theorem Gj(M:dc S h E){t:Nat}{a:SV}{C:HV}{lo hi m9:Option SV}{y9 z9 p0:Option HV}(c:Ev cy S t a lo hi m9 K=some r)(g:V E a C)(s0:VO E lo y9)(t0:VO E hi z9)(q:VO E m9 p0):Mv S h E K r (ew cy.cx h t C y9 z9 p0):=by
 have u0:∀s v,ew cy.cx h t C y9 z9 p0=some (.val v h)->V E s v->K s S=some r->Mv S h E K r (ew cy.cx h t C y9 z9 p0):=λs v A y0 v9=>⟨s,v,h,S,E,A,M,Gr.refl,rfl,rfl,y0,v9⟩;unfold Ev at c;split at c
 .
  rename_i x w0;split at c
  .
   rename_i e D;split at c
   .
    rename_i z v0;split at c
    .
     rename_i u o0;have q:p0=none:=q;subst q;split at c
     .
      rename_i l f q0 r0;rw[aH]at c;split at c;.rename_i d;simp only[ae,bO]at d;obtain⟨A,y0⟩:=ep c;obtain⟨v,n0,e0⟩:=yt M w0 D v0 (aw d.1) d.2 g q0 r0 A s0 t0;exact u0 _ v n0 e0 y0
      .cases c
     .cases c
    .
     rename_i u o0 m;rw[aH]at c;split at c
     .
      rename_i d;simp only[ae,bO]at d;obtain⟨k0,i,B,_⟩:=jx d.1.1.1.2 s0;obtain⟨m0,j,z0,j0⟩:=jx d.1.1.2 t0;obtain⟨l9,f0,r9,c0⟩:=jx d.1.2 q;have:=j0 d.2;subst this;have:=c0 rfl;subst this;have h0:=aw d.1.1.1.1.1;subst h0;rw[nV]at g;rcases g with⟨p9,A⟩|⟨b,o,y,⟨A,g9⟩,y0,v9,a9,h5,h6⟩;.obtain⟨w,n0,e0,_⟩:=Bi B A;exact u0 _ w (kk w0 D v0 i j f0 A n0) (pH.2 e0) c
      .
       subst A;refine u0 _ .gz (yM w0 D v0 i j f0 (jK (by rw[<-M.hp];exact v9)) ?_) (pH.2 (.inr rfl)) c;unfold ii;simp only;rw[B];have g0:(Nat.ble 1 u.size&&Nat.ble (dM o0.length (some 0)) 140737488355328&&(Nat.ble 0 (dM o0.length (some 0))&&(Nat.beq y.z u.size&&Nat.ble (Nat.add o (Nat.mul (dM o0.length (some 0)) u.size)) y.n)))=true:=by simp only[ae,bO];refine⟨⟨d.1.1.1.1.2,a5 _⟩,a5 _,by rw[g9];simp,?_⟩;show o+0*u.size<=y.n;omega
       rw[g0];have x9:(Nat.ble (dM o0.length (some 0)) 0&&Nat.ble (Nat.add o (Nat.mul 0 u.size)) y.n)=true:=by simp only[ae,bO];refine⟨au _,?_⟩;show o+0*u.size<=y.n;omega
       show(bif Nat.ble (dM o0.length (some 0)) 0&&Nat.ble (Nat.add o (Nat.mul 0 u.size)) y.n then _ else _)=_;rw[x9];rfl
     .cases c
    .
     have q:p0=none:=q;subst q;rw[aH]at c;split at c;.rename_i d;simp only[ae]at d;obtain⟨k0,i,B,_⟩:=jx d.1 s0;obtain⟨m0,j,z0,j0⟩:=jx d.2 t0;have x0:=kW.1 g;exact u0 _ C (kk w0 D v0 i j rfl (.inl x0) (zz B z0 (.inl x0))) g c
     .
      split at c;.rename_i l f q0 r0;obtain⟨A,y0⟩:=ep c;obtain⟨g0,x9,w9⟩:=oa A;obtain⟨k0,i,B⟩:=lr (d:=0) q0 s0 g0;obtain⟨m0,j,z0⟩:=lr (d:=0) r0 t0 (by omega);have x0:=kW.1 g;exact u0 _ C (kk w0 D v0 i j rfl (.inl x0) (zz (by rw[B];omega) (by rw[z0];omega) (.inl x0))) g y0
      .cases c
    .
     rw[aH]at c;split at c;.rename_i d;simp only[ae]at d;obtain⟨k0,i,B,_⟩:=jx d.1.1.1 s0;obtain⟨m0,j,z0,j0⟩:=jx d.1.1.2 t0;obtain⟨l9,f0,r9,c0⟩:=jx d.1.2 q;have:=j0 d.2;subst this;have:=c0 rfl;subst this;have x0:=kW.1 g;obtain⟨w,n0,e0,q9⟩:=Bi B (.inl x0);exact u0 _ w (kk w0 D v0 i j f0 (.inl x0) n0) (kW.2 (q9 x0)) c
     .cases c
    .
     have q:p0=none:=q;subst q;rw[aH]at c;split at c;.rename_i d;simp only[ae]at d;obtain⟨k0,i,B,_⟩:=jx d.1 s0;obtain⟨m0,j,z0,j0⟩:=jx d.2 t0;have x0:C= .cM\/C= .gz\/C= .lV:=(pH.1 g).imp_right .inl;exact u0 _ C (kk w0 D v0 i j rfl x0 (zz B z0 x0)) g c
     .cases c
    .
     rw[aH]at c;split at c;.rename_i d;simp only[ae]at d;obtain⟨k0,i,B,_⟩:=jx d.1.1.1 s0;obtain⟨m0,j,z0,j0⟩:=jx d.1.1.2 t0;obtain⟨l9,f0,r9,c0⟩:=jx d.1.2 q;have:=j0 d.2;subst this;have:=c0 rfl;subst this;have x0:C= .cM\/C= .gz\/C= .lV:=(pH.1 g).imp_right .inl;obtain⟨w,n0,e0,q9⟩:=Bi B x0;exact u0 _ w (kk w0 D v0 i j f0 x0 n0) (pH.2 e0) c
     .cases c
    .
     rename_i m;have q:p0=none:=q;subst q;split at c
     .
      rename_i u o0 d0;split at c
      .
       rename_i f r0;rw[aH]at c;split at c
       .
        rename_i d;simp only[ae,bO]at d;obtain⟨h0,t9⟩:=d;have h0:=aw h0;rw[aH]at c;split at c
        .
         rename_i e9;subst h0;obtain⟨A,y0⟩:=ep c;obtain⟨g0,x9,w9⟩:=oa A;obtain⟨k0,i,B,_⟩:=jx e9 s0;obtain⟨m0,j,z0⟩:=lr (d:=o0.length) r0 t0 (by omega);have b0:f.toNat<=o0.length:=by obtain⟨n,rfl⟩:∃n:Nat,f=Int.ofNat n:=⟨_,pu (by omega)⟩;exact kK.1 w9
         obtain⟨hl1,u9⟩:=M.hD m _ d0;rw[hG]at g;have l0:=g.2.2.1 u o0 (by rw[M.st];exact d0);have o9:f=Int.ofNat f.toNat:=pu (by omega);unfold fO at l0
         cases i0:E.mb m with
          |none=>
          rw[i0]at l0;have p9:f.toNat=0:=by have:=l0.1;omega
          have n9:C= .cM\/C= .gz\/C= .lV:=l0.2.imp_right .inl;have h9:dM 0 m0=0:=by rw[l0.1]at z0;omega
          refine u0 _ C (kk w0 D v0 i j rfl n9 (zz B h9 n9)) (wV.2 ⟨g.1,g.2.1,λe b9 a0=>?_⟩) y0;rw[M.st,d0]at a0;cases a0;exact⟨f.toNat,o9,b0,by rw[i0];exact⟨p9,l0.2⟩⟩
          |some b=>
          rw[i0]at l0;subst l0;unfold gx at u9;rw[i0]at u9;obtain⟨y,d9,p2,c9,p4,p5⟩:=u9;have hmul:=co u.size b0;refine u0 _ (.sl b 0 f.toNat) (yM w0 D v0 i j rfl (jK (by rw[<-M.hp];exact d9)) ?_) (wV.2 ⟨g.1,rfl,λe b9 a0=>?_⟩) y0
          .
           unfold ii;simp only;rw[B,z0];have i9:(Nat.ble 1 u.size&&Nat.ble f.toNat 140737488355328&&(Nat.ble 0 f.toNat&&(Nat.beq y.z u.size&&Nat.ble (Nat.add 0 (Nat.mul f.toNat u.size)) y.n)))=true:=by simp only[ae,bO];refine⟨⟨t9,by omega⟩,a5 _,by rw[c9];simp,?_⟩;show 0+f.toNat*u.size<=y.n;omega
           rw[i9];show some (Hm.part HV.sl b 0 u.size 0 f.toNat)=_;unfold Hm.part;rw[show(Nat.beq f.toNat 0&&!Nat.beq 0 0)=false by simp];show some (HV.sl b (0+0*u.size) (f.toNat-0))=_;rw[fP,iR]
          .rw[M.st,d0]at a0;cases a0;exact⟨f.toNat,o9,b0,by rw[i0];rfl⟩
        .
         split at c
         .
          rename_i l q0;rw[aH]at c;split at c
          .
           rw[aH]at c;split at c;.rename_i f9;obtain⟨A,y0⟩:=ep c;obtain⟨v,s9,k9⟩:=Aa M w0 D v0 h0 t9 d0 g q0 r0 A s0 t0;obtain⟨j9,n0⟩:=xL M f9;exact⟨_,v,h,_,_,s9,j9,n0,rfl,rfl,k9,y0⟩
           .cases c
          .obtain⟨A,y0⟩:=ep c;obtain⟨v,s9,k9⟩:=Aa M w0 D v0 h0 t9 d0 g q0 r0 A s0 t0;exact u0 _ v s9 FB y0
         .cases c
       .cases c
      .cases c
     .cases c
    .cases c
   .cases c
  .
   rename_i k e D;split at c
   .
    rename_i z m o v0;have q:p0=none:=q;subst q;split at c
    .
     rename_i l f q0 r0;rw[aH]at c;split at c;.rename_i d;simp only[ae,bO,dJ]at d;rw[lv]at g;obtain⟨A,b,i0,rfl⟩:=g;have i:∃p,fd y9=some p/\dM 0 p=l:=Dc (d:=0) q0 s0;have j:∃p,fd z9=some p/\dM k p=f:=Dc (d:=k) r0 t0;obtain⟨k0,i,B⟩:=i;obtain⟨m0,j,z0⟩:=j;refine u0 _ (.jh b (o+l*z) (f-l)) ?_ (yc.2 ⟨A,b,i0,rfl⟩) c;unfold ew;rw[w0,i,j,show fd none=some none from rfl];simp only;rw[D];simp only;rw[v0];simp only;rw[B,z0];rw[show(Nat.ble k 1000000&&(Nat.ble l f&&Nat.ble f k))=true by simp only[ae,bO];exact⟨d.1,by omega,d.2.2⟩];show some (Rs.val (Hm.part HV.jh b o z l f) h)=_;unfold Hm.part;rw[show(Nat.beq f l&&!Nat.beq l 0)=false by rw[jD (by omega)];rfl];rfl
     .cases c
    .cases c
   .cases c
  .
   rename_i D;split at c
   .
    rename_i s;have q:p0=none:=q;subst q;split at c
    .
     rename_i l f q0 r0;obtain⟨A,y0⟩:=ep c;obtain⟨g0,x9,w9⟩:=oa A;obtain⟨k0,i,B⟩:=lr (d:=0) q0 s0 g0;obtain⟨m0,j,z0⟩:=lr (d:=s.size) r0 t0 (by omega);rw[pF]at g;subst g;have b0:f.toNat<=s.size:=by obtain⟨n,rfl⟩:∃n:Nat,f=Int.ofNat n:=⟨_,pu (by omega)⟩;exact kK.1 w9
     refine u0 _ (.ef (s.extract l.toNat f.toNat)) ?_ (pF.2 rfl) y0;unfold ew;rw[w0,i,j,show fd none=some none from rfl];simp only;rw[D];simp only;rw[B,z0];rw[show(Nat.ble l.toNat f.toNat&&Nat.ble f.toNat s.size)=true by simp only[ae,bO];exact⟨by omega,b0⟩];rfl
    .cases c
   .cases c
  .cases c
 .cases c
end
def tZ(cx:Cx)(f:FuncId)(c:zm):Prop:=∀(h:St)(a:Nat->Prop)(i:List HV)(x:D c.a)(y:D c.r),(∀b,h.nx<=b->h.hp.ap b=none)->(∀b,bu b h.lk=true->b<h.nx)->(∀b,a b->b<h.nx)->iz h.hp a c.a i x->c.F x=some y->∃l d e g,(∃j,∀k,j<=k->call cx (run cx k) f i h=some (one l,⟨h.nt,h.dC,d,e,h.lk,h.df⟩))/\h.nx<=e/\(∀b,b<h.nx->d.ap b=h.hp.ap b)/\(∀b,e<=b->d.ap b=none)/\(∀b,a b->g b)/\(∀b,g b->a b\/h.nx<=b/\b<e)/\iz d g c.r l y
def pJ(cy:Cy)(n:sn):Prop:=∀(i:Type)(l:Tr (List Hi))(m:Nat)(c:Code)(a:SS)(j:Ex->SS->Option i)(r:i),n i l m c a j=some r->∀(h:St)(f:En),dc a h f->dB a h f->∃e d b g,(∃o,∀k,o<=k->run cy.cx k c h=some (e,d))/\dc b d g/\dB b d g/\Gr a h f b d g/\(∀t,bu t a.kp=true->b.tmp t=a.tmp t)/\j e b=some r
section
variable{E:En}{S:SS}{h:St}{cy:Cy}{R:Type}{r:R}{K:SV->SS->Option R}
theorem dc.re{S S2:SS}{h h2:St}(M:dc S h E)(d:S2.st=S.st)(g:S2.nx=S.nx)(l:S2.lk=S.lk)(i:h2.hp=h.hp)(f:h2.nx=h.nx)(n:h2.lk=h.lk):dc S2 h2 E:=by
 refine⟨by rw[i];exact M.hp,by rw[d];exact M.st,by rw[g];exact M.nx,λm e a=>?_,λm e a=>?_,λm o e k b a j=>?_,λm e b a c=>?_,λb c=>?_,λb c=>?_,λb c=>?_,λm b c=>?_,λm e a=>?_⟩;.rw[d]at a;rw[g];exact M.lt m e a
 .rw[d]at a;exact M.hD m e a
 .rw[d]at a j;exact M.inj m o e k b a j
 .rw[d]at a;rw[f];exact M.own m e b a c
 .rw[f];exact M.z b c
 .rw[f]at c;rw[i];exact M.fr b c
 .rw[n]at c;rw[f,l,d];exact M.lk b c
 .rw[f];exact M.rN m b c
 .rw[d]at a;exact M.tk m e a
theorem Ow.re{S S2:SS}{b:Nat}(a:S2.st=S.st):Ow S2 E b↔Ow S E b:=by unfold Ow;rw[a]
theorem Gr.re {Sa S2 S' : SS} {ha h2 h' : St} {E' : En} (g : Gr Sa ha E S' h' E') (e1 : S.st = Sa.st) (e2 : S.nx = Sa.nx) (e3 : ∀ m, m < Sa.nx → S.jU m = false → Sa.jU m = false) (a1 : h.hp = ha.hp) (a2 : h.nx = ha.nx) (a3 : ∀ b, bu b h.lk = true → bu b ha.lk = true) (hS : S2.st = S'.st) (hn : S2.nx = S'.nx) (b1 : h2.hp = h'.hp) (b2 : h2.nx = h'.nx)
    (c1 : h2.nt = h.nt) (c2 : h2.lk = h.lk) (c3 : h2.df = h.df) (c4 : S2.nt = S.nt) (c5 : S2.lk = S.lk) (c6 : S2.base = S.base) (c7 : S2.wr = S.wr) (c8 : S2.kp = S.kp) : Gr S h E S2 h2 E' where
  nt := c1
  lk := c2
  df := c3
  Kj := c4
  FC := c5
  base := c6
  wr := c7
  kp := c8
  nx := by rw [a2, b2]; exact g.nx
  wX := by rw [e2, hn]; exact g.wX
  z := g.z
  z' := fun b hb => by
    rw [a2, Ow.re e1]; exact g.z' b hb
  EH := fun b hb ho => by
    rw [a2] at hb
    rw [Ow.re e1] at ho
    rw [b1, a1]; exact g.EH b hb ho
  ow := fun b hb => by
    rw [Ow.re hS] at hb
    rw [a2, Ow.re e1]; exact g.ow b hb
  mb := fun m hm => g.mb m (by rw [← e2]; exact hm)
  uY := fun m hm hc => by
    rw [hS, e1]; exact g.uY m (by rw [← e2]; exact hm) (e3 m (by rw [← e2]; exact hm) hc)
  Hg := fun m hm hd => by
    rw [hS]; exact g.Hg m (by rw [← e2]; exact hm) (by rw [← e1]; exact hd)
  row := fun m e xs hm hx => by
    rw [hS] at hx
    rw [e1]; exact g.row m e xs (by rw [← e2]; exact hm) hx
  Nq := fun b m e hb hm hmb => by
    rw [hS] at hm
    rw [e1]; exact g.Nq b m e (a3 b hb) hm hmb
  y6 := fun m t k hm hx hk => by
    rw [hS] at hx
    rw [e1]; exact g.y6 m t k (by rw [← e2]; exact hm) hx hk
  Ai := fun m g' e xs hm hg hx => by
    rw [hS] at hx
    rw [e1]; exact g.Ai m g' e xs (by rw [← e2]; exact hm) (by rw [← e2]; exact hg) hx
  ci := fun m hm hc => g.ci m (by rw [← e2]; exact hm) (e3 m (by rw [← e2]; exact hm) hc)
theorem xt{l:List SV}{a:List HV}(b:Vs E l a):V E (Ah l) (one a):=by
 have f:a.length=l.length:=by
  have:∀(l:List SV)(a:List HV),Vs E l a->a.length=l.length:=by intro l;induction l with
   |nil=>intro a h;unfold Vs at h;subst h;rfl
   |cons s l g=>intro a h;unfold Vs at h;obtain⟨v,r,rfl,_,c⟩:=h;simp[g r c]
  exact this l a b
 match l,a,f with
  |[],[],_=>exact BF.2 ⟨[],rfl,b⟩
  |[s],[v],_=>unfold Vs at b;obtain⟨i,r,e,d,c⟩:=b;cases e;exact d
  |s::j::l,v::i::a,_=>exact BF.2 ⟨_,rfl,b⟩
theorem wT:∀{l:List SV}{a:List HV},Vs E l a->a.length=l.length
 |[],a,h=>by unfold Vs at h;subst h;rfl
 |s::l,a,h=>by unfold Vs at h;obtain⟨v,r,rfl,_,b⟩:=h;simp[wT b]
theorem Dv:∀(l:List SV)(i t:Nat)(T:Tr SV),(uV i l T).ap t=if i<=t/\t<i+l.length then l[t-i]? else T.ap t
 |[],i,t,T=>by unfold uV;rw[aB (by rintro⟨a,b⟩;simp only[fZ]at b;omega)]
 |v::l,i,t,T=>by
  unfold uV;rw[Dv l (i+1) t];by_cases h:t=i;.subst h;rw[aB (by omega),Tr.a8,aA (by simp)];simp
  .
   rw[Tr.bS _ _ h];by_cases c:i+1<=t/\t<i+1+l.length;.rw[aA c,aA (by simp only[bp];omega)];rw[show t-i=t-(i+1)+1 by omega,dD]
   .rw[aB c,aB (by simp only[bp];omega)]
theorem yK:∀(l:List HV)(i t:Nat)(T:Tr HV),(lU i l T).ap t=if i<=t/\t<i+l.length then l[t-i]? else T.ap t
 |[],i,t,T=>by unfold lU;rw[aB (by rintro⟨a,b⟩;simp only[fZ]at b;omega)]
 |v::l,i,t,T=>by
  unfold lU;rw[yK l (i+1) t];by_cases h:t=i;.subst h;rw[aB (by omega),Tr.a8,aA (by simp)];simp
  .
   rw[Tr.bS _ _ h];by_cases c:i+1<=t/\t<i+1+l.length;.rw[aA c,aA (by simp only[bp];omega)];rw[show t-i=t-(i+1)+1 by omega,dD]
   .rw[aB c,aB (by simp only[bp];omega)]
theorem uv{l:List SV}{d:List HV}(c:Vs E l d){n nx:Nat}{hp:Tr Hm.Obj}{lk:List Nat}{st:Tr iK}{i:Nat}{g:List Nat}{base:Nat}{wr:List Nat}:dB ⟨n,uV 0 l .e,st,i,g,base,wr,[]⟩ ⟨n,lU 0 d .e,hp,nx,lk,.undef⟩ E:=by
 refine⟨rfl,λt=>?_⟩;unfold SS.tmp St.tmp;simp only;rw[Dv,yK,wT c];by_cases a:0<=t/\t<0+l.length;.rw[aA a,aA a];have b:l[t-0]?=some (l[t-0]'(by omega)):=G (by omega);obtain⟨v,e,f⟩:=Fy c b;rw[b,e];exact f
 .rw[aB a,aB a,Tr.kN,Tr.kN];exact FB
theorem oZ{S:SS}{h:St}(M:dc S h E)(d:dB S h E):∀{e:List ResultVar}{K:List SV->Option R},sD cy S e K=some r->∃l c,pm cy.cx h e=some c/\Vs E l c/\K l=some r
 |[],K,b=>⟨[],[],rfl,by unfold Vs;rfl,b⟩
 | .tmp t::e,K,b=>by unfold sD at b;obtain⟨l,c,f,g,i⟩:=oZ M d b;exact⟨S.tmp t::l,h.tmp t::c,by unfold pm;rw[f],by unfold Vs;exact⟨_,_,rfl,d.v t,g⟩,i⟩
 | .cell a t::e,K,b=>by unfold sD at b;obtain⟨s,v,j,k,m⟩:=AU M b (d.v a);obtain⟨l,c,f,g,i⟩:=oZ M d m;exact⟨s::l,v::c,by unfold pm;rw[j];simp only;rw[f],by unfold Vs;exact⟨_,_,rfl,k,g⟩,i⟩
end
theorem dy{b a:Nat}{l:List Nat}:bu b (a::l)=true↔b=a∨bu b l=true:=by rw[fs,fs,cm]
section
variable{E:En}
mutual theorem B9:∀{s:SV}{cs:List HV},CR E s cs->kb E.nx s=true
 | .any,_,_=>by unfold kb;rfl
 | .undef,_,_=>by unfold kb;rfl
 | .int _ _ _,_,_=>by unfold kb;rfl
 | .bool _ _,_,_=>by unfold kb;rfl
 | .val _ _,_,_=>by unfold kb;rfl
 | .agg is,_,h=>by unfold CR at h;unfold kb;exact FQ h
 | .mx vs,_,h=>by unfold CR at h;obtain⟨l,_,h⟩:=h;unfold kb;exact Kb h
 | .fn _ vs,_,h=>by unfold CR at h;obtain⟨l,_,h⟩:=h;unfold kb;exact Kb h
 | .rc,_,_=>by unfold kb;rfl
 | .cM,_,_=>by unfold kb;rfl
 | .gz,_,_=>by unfold kb;rfl
 | .rf,_,_=>by unfold kb;rfl
 | .box m _,_,h=>by unfold CR at h;unfold kb;rw[dJ];exact h.1
 | .rt m _ _,_,h=>by unfold CR at h;unfold kb;rw[dJ];exact h.1
 | .row m,_,h=>by unfold CR at h;unfold kb;rw[dJ];exact h.1
 | .oU m _ _,_,h=>by unfold CR at h;unfold kb;rw[dJ];exact h.1
 | .rX _ _,_,_=>by unfold kb;rfl
 | .uE m _ _ _ _ _,_,h=>by unfold CR at h;unfold kb;rw[dJ];exact h.1
 | .sub m g _,_,h=>by unfold CR at h;unfold kb;rw[ae,dJ,dJ];exact⟨h.1,h.2.1⟩
 | .map m,_,h=>by unfold CR at h;unfold kb;rw[dJ];exact h.1
 | .jh m _ _,_,h=>by unfold CR at h;unfold kb;rw[dJ];exact h.1
 | .vw m _,_,h=>by unfold CR at h;unfold kb;rw[dJ];exact h.1 theorem FQ:∀{is:List SV}{cs:List HV},du E is cs->oJ E.nx is=true
 |[],_,_=>by unfold oJ;rfl
 |i::is,_,h=>by unfold du at h;obtain⟨c,d,_,h1,h2⟩:=h;unfold oJ;rw[B9 h1,FQ h2];rfl theorem Kb:∀{is:List SV}{cs:List HV},Vs E is cs->oJ E.nx is=true
 |[],_,_=>by unfold oJ;rfl
 |i::is,_,h=>by
  unfold Vs at h;obtain⟨c,d,_,h1,h2⟩:=h;unfold oJ
  have:kb E.nx i=true:=by unfold iv at h1;cases hi:i.ag with
   |true=>rw[hi]at h1;obtain⟨cs,_,h3⟩:=h1;exact B9 h3
   |false=>rw[hi]at h1;exact B9 h1
  rw[this,Kb h2];rfl end
theorem aaU{s:SV}{v:HV}(h:V E s v):kb E.nx s=true:=by unfold V iv at h;cases a:s.ag with
 |true=>rw[a]at h;obtain⟨c,_,b⟩:=h;exact B9 b
 |false=>rw[a]at h;exact B9 h
theorem Gy{T:SS}{h:St}(M:dc T h E){j nx2:Nat}{mb2:Nat→Option Nat}{ib2:Nat→Nat→Option Nat}{e:iK}(o0:T.st.ap j=none)(h1:T.nx≤nx2)(h2:j<nx2)(z0:∀i,i≠j→mb2 i=E.mb i)(w:∀i,i≠j→∀k,ib2 i k=E.ib i k)(s0:j<T.nx→mb2 j=E.mb j)(y0:j<T.nx→∃z D,e= .box z D)(r:∀b,(mb2 j=some b∨∃k,ib2 j k=some b)→b<h.nx∧¬E.Z b∧(∀m e,T.st.ap m=some e→¬Bk E m b)∧bu b h.lk=false)(r0:e.rn=none→∀k,ib2 j k=none)(q0:Fm E.nx E ⟨h.hp,E.Z,mb2,ib2,T.st.set j e,nx2⟩→oN ⟨h.hp,E.Z,mb2,ib2,T.st.set j e,nx2⟩ j e):dc (T.mem (T.st.set j e) nx2) h ⟨h.hp,E.Z,mb2,ib2,T.st.set j e,nx2⟩∧Fm E.nx E ⟨h.hp,E.Z,mb2,ib2,T.st.set j e,nx2⟩:=by
 have p0:∀i,(T.st.set j e).ap i=if i=j then some e else T.st.ap i:=fun i=>Tr.dk _ _ _ _
 have n:∀i d,(T.st.set j e).ap i=some d→i=j∧d=e∨i≠j∧T.st.ap i=some d:=by
  intro i d o;rw[p0]at o;split at o;·cases o;exact .inl ⟨by assumption,rfl⟩
  ·exact .inr ⟨by assumption,o⟩
 have s:∀i,i≠j→∀b,Bk ⟨h.hp,E.Z,mb2,ib2,T.st.set j e,nx2⟩ i b↔Bk E i b:=by
  intro i o b;show(mb2 i=some b∨∃k,ib2 i k=some b)↔E.mb i=some b∨∃k,E.ib i k=some b;rw[z0 i o];constructor
  ·
   rintro(q|⟨k,q⟩);·exact .inl q
   ·rw[w i o]at q;exact .inr ⟨k,q⟩
  ·
   rintro(q|⟨k,q⟩);·exact .inl q
   ·exact .inr ⟨k,by rw[w i o];exact q⟩
 have f:Fm E.nx E ⟨h.hp,E.Z,mb2,ib2,T.st.set j e,nx2⟩:=⟨fun _ c=>c,fun _ _=>by rw[M.hp],by rw[M.nx];exact h1,fun m a=>by
  by_cases y:m=j;·subst y;exact s0 (by rw[←M.nx];exact a)
  ·exact z0 m y,fun m u w0 a B=>by
  rcases n m _ B with⟨rfl,g⟩|⟨_,g⟩;·obtain⟨z,D,q⟩:=y0 (by rw[←M.nx];exact a);rw[q]at g;cases g
  ·exact⟨w0,by rw[M.st];exact g,rfl⟩,fun m t k a B x0=>by
  rcases n m _ B with⟨rfl,g⟩|⟨_,g⟩;·obtain⟨z,D,q⟩:=y0 (by rw[←M.nx];exact a);rw[g,q]at x0;cases x0
  ·exact⟨t,by rw[M.st];exact g,x0⟩,fun m C u w0 a _ B=>by
  rcases n m _ B with⟨rfl,g⟩|⟨l,g⟩;·obtain⟨z,D,q⟩:=y0 (by rw[←M.nx];exact a);rw[q]at g;cases g
  ·exact⟨w0,by rw[M.st];exact g,gb.refl,w m l⟩⟩
 refine⟨⟨rfl,rfl,rfl,fun m d a=>?_,fun m d a=>?_,fun m v v0 u0 b a t0 c x=>?_,fun m d b a c=>?_,M.z,M.fr,fun b c=>⟨(M.lk b c).1,fun m d a p=>?_⟩,fun m b p=>?_,fun m d a l=>?_⟩,f⟩
 ·
  rcases n m _ a with⟨rfl,_⟩|⟨_,g⟩;·exact h2
  ·exact aP (M.lt m d g) h1
 ·
  rcases n m _ a with⟨rfl,rfl⟩|⟨l,g⟩;·exact q0 f
  ·exact(M.hD m d g).fm f (z0 m l) (w m l) fun b _=>by rw[M.hp]
 ·
  rcases n m _ a with⟨rfl,rfl⟩|⟨l,g⟩
  ·
   rcases n v _ t0 with⟨rfl,rfl⟩|⟨A,C⟩;·rfl
   ·rw[s v A]at x;exact absurd x ((r b c).2.2.1 v u0 C)
  ·
   rw[s m l]at c;rcases n v _ t0 with⟨rfl,rfl⟩|⟨A,C⟩;·exact absurd c ((r b x).2.2.1 m v0 g)
   ·rw[s v A]at x;exact M.inj m v v0 u0 b g C c x
 ·
  rcases n m _ a with⟨rfl,rfl⟩|⟨l,g⟩;·exact⟨(r b c).2.1,(r b c).1⟩
  ·rw[s m l]at c;exact M.own m d b g c
 ·
  rcases n m _ a with⟨rfl,rfl⟩|⟨l,g⟩;·have:=(r b p).2.2.2;rw[c]at this;cases this
  ·rw[s m l]at p;exact(M.lk b c).2 m d g p
 ·
  by_cases y:m=j;·subst y;exact(r b p).1
  ·rw[s m y]at p;exact M.rN m b p
 ·
  rcases n m _ a with⟨rfl,rfl⟩|⟨A,g⟩;·exact r0 l
  ·intro k;show ib2 m k=none;rw[w m A];exact M.tk m d g l k
theorem VJ{T:SS}{h:St}(M:dc T h E){Z2:Nat->Prop}(h1:∀b,E.Z b->Z2 b)(h2:∀m e b,T.st.ap m=some e->Bk E m b->¬Z2 b)(j:∀b,Z2 b->b<h.nx):dc T h ⟨E.hp,Z2,E.mb,E.ib,E.st,E.nx⟩/\Fm E.nx E ⟨E.hp,Z2,E.mb,E.ib,E.st,E.nx⟩:=by have f:Fm E.nx E ⟨E.hp,Z2,E.mb,E.ib,E.st,E.nx⟩:=⟨h1,λ_ _=>rfl,au _,λ_ _=>rfl,λm u d _ a=>⟨d,a,rfl⟩,λm t k _ a l=>⟨t,a,l⟩,λm g u d _ _ a=>⟨d,a,gb.refl,λ_=>rfl⟩⟩;exact⟨⟨M.hp,M.st,M.nx,M.lt,λm e c=>(M.hD m e c).fm f rfl (λ_=>rfl) λ_ _=>rfl,M.inj,λm e b c i=>⟨h2 m e b c i,(M.own m e b c i).2⟩,j,M.fr,M.lk,M.rN,M.tk⟩,f⟩
end
structure J (S0 S' : SS) (h' : St) (E' : En) (wr P : List Nat) (T : SS) (E : En) (mv fr : List Nat) : Prop where
  M : dc T h' E
  f1 : T.nt = S0.nt
  f2 : T.lk = S0.lk
  f3 : T.base = S0.base
  f4 : T.wr = S0.wr
  f5 : T.kp = S0.kp
  nx : S0.nx ≤ T.nx
  v : ∀ t, V E (T.tmp t) (h'.tmp t)
  p : ∀ t, bu t P = true → T.tmp t = S0.tmp t
  mb : ∀ m, m < S0.nx → E.mb m = E'.mb m
  ib : ∀ m, m < S0.nx → ∀ k, E.ib m k = E'.ib m k
  z : ∀ b, E'.Z b → E.Z b
  z' : ∀ b, E.Z b → E'.Z b ∨ ∃ m e, bu m fr = true ∧ S'.st.ap m = some e ∧ Bk E' m b
  qV : ∀ m e b, T.st.ap m = some e → Bk E m b → (m < S0.nx ∧ bu m wr = false ∧ S0.st.ap m = some e) ∨ ∃ m' e', bu m' mv = true ∧ S'.jT m' = true ∧ S'.st.ap m' = some e' ∧ Bk E' m' b
  vr : ∀ m, m < S0.nx → bu m wr = false → T.st.ap m = S0.st.ap m
  box : ∀ m e, m < S0.nx → bu m wr = true → T.st.ap m = some e → ((∃ z is, e = .box z is) ∨ ∃ u xs xs0, e = .row u xs ∧ S0.st.ap m = some (.row u xs0) ∧ xs0.length = xs.length) ∧ S0.st.ap m ≠ none ∧ bu m mv = true
section
variable{S0 S' T:SS}{h':St}{E' E:En}{wr P mv fr:List Nat}
structure JC (S0 S' : SS) (h' : St) (E' : En) (wr : List Nat) : Prop where
  M : dc S' h' E'
  v : ∀ t, V E' (S'.tmp t) (h'.tmp t)
  WQ : S'.base = S0.nx
  fwr : S'.wr = wr
  uY : ∀ m, m < S0.nx → bu m wr = false → S'.st.ap m = S0.st.ap m
theorem JC.ia(C:JC S0 S' h' E' wr){m:Nat}(c:m<S0.nx)(b:bu m wr=false):S'.jU m=false:=by unfold SS.jU;rw[C.WQ,C.fwr,b];cases a:Nat.ble S0.nx m with
 |false=>rfl
 |true=>rw[bO]at a;omega
theorem J.bk(j:J S0 S' h' E' wr P T E mv fr){m:Nat}(a:m<S0.nx)(b:Nat):Bk E m b↔Bk E' m b:=by
 unfold Bk;rw[j.mb m a];constructor
 ·
  rintro(q|⟨k,q⟩);·exact .inl q
  ·rw[j.ib m a]at q;exact .inr ⟨k,q⟩
 ·
  rintro(q|⟨k,q⟩);·exact .inl q
  ·exact .inr ⟨k,by rw[j.ib m a];exact q⟩
theorem J.gD(j:J S0 S' h' E' wr P T E mv fr)(C:JC S0 S' h' E' wr){m b:Nat}{e:iK}(f:S'.st.ap m=some e)(d:Bk E' m b)(q:S'.jT m=true)(h1:bu m mv=false)(h2:bu m fr=false):b<h'.nx/\¬E.Z b/\(∀m e,T.st.ap m=some e->¬Bk E m b)/\bu b h'.lk=false:=by
 obtain⟨p,r⟩:=gf q;refine⟨(C.M.own m e b f d).2,λu=>?_,λi k s o=>?_,mm C.M f d r⟩
 .
  rcases j.z' b u with g|⟨n,l,a,c,h⟩;.exact(C.M.own m e b f d).1 g
  .have:=C.M.inj m n e l b f c d h;subst this;rw[h2]at a;cases a
 .
  rcases j.qV i k b s o with⟨a,c,h⟩|⟨n,l,a,_,c,h⟩
  .
   have t:S'.st.ap i=some k:=by rw[C.uY i a c];exact h
   have:=C.M.inj m i e k b f t d ((j.bk a b).1 o);subst this;rw[C.ia a c]at p;cases p
  .have:=C.M.inj m n e l b f c d h;subst this;rw[h1]at a;cases a
def wm(E:En)(hp:Tr Hm.Obj)(T:SS)(X:iK)(o:Option Nat)(q:Nat->Option Nat):En:=⟨hp,E.Z,λi=>if i=T.nx then o else E.mb i,λi k=>if i=T.nx then q k else E.ib i k,T.st.set T.nx X,T.nx+1⟩
theorem ml{hp:Tr Hm.Obj}{X:iK}{o:Option Nat}{q:Nat->Option Nat}:(wm E hp T X o q).mb T.nx=o:=aA rfl
theorem oT{hp:Tr Hm.Obj}{X:iK}{o:Option Nat}{q:Nat->Option Nat}{k:Nat}:(wm E hp T X o q).ib T.nx k=q k:=aA rfl
theorem J.bP(j:J S0 S' h' E' wr P T E mv fr){X:iK}{o:Option Nat}{q:Nat→Option Nat}{mv':List Nat}(C:∀m,bu m mv=true→bu m mv'=true)(t0:∀b,(o=some b∨∃i,q i=some b)→b<h'.nx∧¬E.Z b∧(∀m e,T.st.ap m=some e→¬Bk E m b)∧bu b h'.lk=false)(s0:∀b,(o=some b∨∃i,q i=some b)→∃d l,bu d mv'=true∧S'.jT d=true∧S'.st.ap d=some l∧Bk E' d b)(x:X.rn=none→∀i,q i=none)(v0:Fm E.nx E (wm E h'.hp T X o q)→oN (wm E h'.hp T X o q) T.nx X):J S0 S' h' E' wr P (T.bP X) (wm E h'.hp T X o q) mv' fr∧Fm E.nx E (wm E h'.hp T X o q)∧∀i,i<S0.nx→(T.bP X).st.ap i=T.st.ap i:=by
 have x0:T.st.ap T.nx=none:=by cases x:T.st.ap T.nx with
  |none=>rfl
  |some l=>have:=j.M.lt _ _ x;omega
 have s:∀i,i≠T.nx→(wm E h'.hp T X o q).mb i=E.mb i:=fun i c=>aB c;have r:∀i,i≠T.nx→∀k,(wm E h'.hp T X o q).ib i k=E.ib i k:=fun i c k=>aB c
 have A:∀b,Bk (wm E h'.hp T X o q) T.nx b↔o=some b∨∃i,q i=some b:=by
  intro b;unfold Bk;rw[ml];constructor
  ·
   rintro(w|⟨k,w⟩);·exact .inl w
   ·rw[oT]at w;exact .inr ⟨k,w⟩
  ·
   rintro(w|⟨k,w⟩);·exact .inl w
   ·exact .inr ⟨k,by rw[oT];exact w⟩
 have w0:∀i,i≠T.nx→∀b,Bk (wm E h'.hp T X o q) i b↔Bk E i b:=by
  intro i c b;unfold Bk;rw[s i c];constructor
  ·
   rintro(w|⟨k,w⟩);·exact .inl w
   ·rw[r i c]at w;exact .inr ⟨k,w⟩
  ·
   rintro(w|⟨k,w⟩);·exact .inl w
   ·exact .inr ⟨k,by rw[r i c];exact w⟩
 obtain⟨D,z⟩:dc (T.mem (T.st.set T.nx X) (T.nx+1)) h' (wm E h'.hp T X o q)∧Fm E.nx E (wm E h'.hp T X o q):=Gy (j:=T.nx) (nx2:=T.nx+1) (e:=X) j.M x0 (dg _) (a7 _) s r (fun h=>absurd h (pP _)) (fun h=>absurd h (pP _)) (fun b n=>t0 b ((A b).1 n)) (fun u0 k=>(aA rfl).trans (x u0 k)) v0;have B:∀i,(T.st.set T.nx X).ap i=if i=T.nx then some X else T.st.ap i:=fun i=>Tr.dk _ _ _ _;have v:∀i,i<S0.nx→(T.st.set T.nx X).ap i=T.st.ap i:=fun i c=>by rw[B,aB];have:=j.nx;omega
 refine⟨⟨D,j.f1,j.f2,j.f3,j.f4,j.f5,aM j.nx (dg _),fun t=>(j.v t).fm z (.inl rfl),j.p,fun m a=>?_,fun m a k=>?_,j.z,j.z',fun m f b a n=>?_,fun m a y=>?_,fun m f a y p=>?_⟩,z,v⟩;·exact(s m (by have:=j.nx;omega)).trans (j.mb m a)
 ·exact(r m (by have:=j.nx;omega) k).trans (j.ib m a k)
 ·
  have a:(T.st.set T.nx X).ap m=some f:=a;rw[B]at a;split at a;·rename_i u;subst u;exact .inr (s0 b ((A b).1 n))
  ·
   rename_i u;rcases j.qV m f b a ((w0 m u b).1 n)with g|⟨d,l,z0,y0⟩;·exact .inl g
   ·exact .inr ⟨d,l,C d z0,y0⟩
 ·exact(v m a).trans (j.vr m a y)
 ·have p:(T.st.set T.nx X).ap m=some f:=p;rw[v m a]at p;obtain⟨r0,q0,p0⟩:=j.box m f a y p;exact⟨r0,q0,C m p0⟩
theorem J.own(j:J S0 S' h' E' wr P T E mv fr)(C:JC S0 S' h' E' wr){e:U}{s:SV}{v:HV}{xs:List (D e)}{mv':List Nat}(a:Ax S' e s mv fr=some (xs,mv'))(d:V E' s v):∃p,J S0 S' h' E' wr P (T.bP (.row e xs)) p mv' fr/\Fm E.nx E p/\V p (.row T.nx) v/\(∀i,i<S0.nx->(T.bP (.row e xs)).st.ap i=T.st.ap i)/\∀m,bu m mv=true->bu m mv'=true:=by
 have y0:∀(o:Option Nat)(mv':List Nat),(∀m,bu m mv=true->bu m mv'=true)->(∀b,o=some b->b<h'.nx/\¬E.Z b/\(∀m e,T.st.ap m=some e->¬Bk E m b)/\bu b h'.lk=false)->(∀b,o=some b->∃y p0,bu y mv'=true/\S'.jT y=true/\S'.st.ap y=some p0/\Bk E' y b)->xs.length<=140737488355328->gx E' o e xs->fO o xs.length v->iP v=some [v]->∃p,J S0 S' h' E' wr P (T.bP (.row e xs)) p mv' fr/\Fm E.nx E p/\V p (.row T.nx) v/\(∀i,i<S0.nx->(T.bP (.row e xs)).st.ap i=T.st.ap i)/\∀m,bu m mv=true->bu m mv'=true:=by
  intro o mv' s0 a k0 m0 B z0 n0
  have r0:∀b,(o=some b\/∃i,(λ_=>none:Nat->Option Nat) i=some b)->o=some b:=by
   rintro b(q|⟨i,q⟩);.exact q
   .cases q
  obtain⟨j0,o0,l0⟩:=j.bP (X:= .row e xs) (o:=o) (q:=λ_=>none) s0 (λb c=>a b (r0 b c)) (λb c=>k0 b (r0 b c)) (λ_ _=>rfl) λf=>⟨m0,by rw[ml];exact gx.fm (E:=E') (E':=wm E h'.hp T (.row e xs) o λ_=>none) j.z (λb _=>by show h'.hp.ap b=_;rw[C.M.hp]) (λb _=>by show h'.hp.ap b=_;rw[C.M.hp]) B⟩;refine⟨_,j0,o0,hG.2 ⟨a7 _,n0,λu n l=>?_,λt k l w0=>?_⟩,l0,s0⟩;.have l:(T.st.set T.nx (.row e xs)).ap T.nx=some (.row u n):=l;rw[Tr.a8]at l;cases l;rw[ml];exact z0
  .have l:(T.st.set T.nx (.row e xs)).ap T.nx=some t:=l;rw[Tr.a8]at l;cases l;cases w0
 unfold Ax at a;split at a
 .
  rename_i m;split at a
  .
   rename_i u n g;split at a
   .
    rename_i q0 v0;rw[aH]at a;split at a
    .
     rename_i z;simp only[ae]at z;obtain⟨A,w,x⟩:=z;have w:bu m mv=false:=by simpa using w
     have x:bu m fr=false:=by simpa using x
     cases a;obtain⟨x0,r⟩:=eD v0;cases x0;have r:n=xs:=r;subst r;rw[hG]at d;have z0:=d.2.2.1 e n (by rw[C.M.st];exact g);obtain⟨t0,B⟩:=C.M.hD m _ g;exact y0 (E'.mb m) (m::mv) (λy h=>dy.2 (.inr h)) (λb c=>j.gD C g (.inl c) A w x) (λb c=>⟨m,_,dy.2 (.inl rfl),A,g,.inl c⟩) t0 B z0 d.2.1
    .cases a
   .cases a
  .cases a
 .cases a;rw[kW]at d;subst d;exact y0 none mv (λ_ h=>h) (λb c=>by cases c) (λb c=>by cases c) (a5 _) rfl ⟨rfl,.inl rfl⟩ rfl
 .cases a;rw[pH]at d;exact y0 none mv (λ_ h=>h) (λb c=>by cases c) (λb c=>by cases c) (a5 _) rfl ⟨rfl,d⟩ (by rcases d with rfl|rfl<;>rfl)
 .
  rename_i m q;split at a
  .
   rename_i u n g;split at a
   .
    rename_i q0 v0;rw[aH]at a;split at a
    .
     rename_i z;simp only[ae]at z;obtain⟨A,w,x⟩:=z;have w:bu m mv=false:=by simpa using w
     have x:bu m fr=false:=by simpa using x
     cases a;obtain⟨x0,r⟩:=eD v0;cases x0;have r:n=q0:=r;subst r;rw[wV]at d;obtain⟨k,rfl,w0,z0⟩:=d.2.2 _ n (by rw[C.M.st];exact g);obtain⟨t0,B⟩:=C.M.hD m _ g;have u0:(eS n 0 (Int.ofNat k)).length=k:=by show((n.drop 0).take (k-0)).length=k;simp;omega
     exact y0 (E'.mb m) (m::mv) (λy h=>dy.2 (.inr h)) (λb c=>j.gD C g (.inl c) A w x) (λb c=>⟨m,_,dy.2 (.inl rfl),A,g,.inl c⟩) (by rw[u0];omega) (Am w0 B) (by rw[u0];exact z0) d.2.1
    .cases a
   .cases a
  .cases a
 .cases a
theorem J.lP(j:J S0 S' h' E' wr P T E mv fr)(C:JC S0 S' h' E' wr){e:U}{s:SV}{v:HV}{xs:List (List (D e))}{mv':List Nat}(d:Aw S' e s mv fr=some (xs,mv'))(o:V E' s v):∃z,J S0 S' h' E' wr P (T.bP (.rows T.nx e xs)) z mv' fr/\Fm E.nx E z/\V z (.row T.nx) v/\(∀i,i<S0.nx->(T.bP (.rows T.nx e xs)).st.ap i=T.st.ap i)/\∀m,bu m mv=true->bu m mv'=true:=by
 unfold Aw at d;split at d
 .
  rename_i m;split at d
  .
   rename_i g u p r;split at d
   .
    rename_i w9 g0;rw[aH]at d;split at d
    .
     rename_i o0;simp only[ae]at o0;obtain⟨n0,z0,y0⟩:=o0;have z0:bu m mv=false:=by simpa using z0
     have y0:bu m fr=false:=by simpa using y0
     cases d;obtain⟨m0,A⟩:=eD g0;cases m0;have A:p=xs:=A;subst A;rw[hG]at o;have h0:=o.2.2.2 _ _ (by rw[C.M.st];exact r) rfl;obtain⟨_,i0,l0⟩:=C.M.hD m _ r;have x0:∀b,h'.hp.ap b=E'.hp.ap b:=λb=>by rw[C.M.hp]
     obtain⟨t0,B,u0⟩:=j.bP (X:= .rows T.nx e p) (o:=E'.mb m) (q:=E'.ib m) (mv':=m::mv) (λd0 h=>dy.2 (.inr h)) (λb n=>j.gD C r n n0 z0 y0) (λb n=>⟨m,_,dy.2 (.inl rfl),n0,r,n⟩) (λv0=>by cases v0) λf=>⟨a7 _,i0,by
      rcases l0 with⟨s0,r0,q0⟩|⟨b,y,s0,r0,q0,c0,b0,a0,z9,y9,x9⟩;.exact .inl ⟨by rw[ml];exact s0,r0,λi=>by rw[oT];exact q0 i⟩
      refine .inr ⟨b,y,by rw[ml];exact s0,by show h'.hp.ap b=_;rw[x0];exact r0,q0,c0,b0,λi l j0=>?_,λi k0=>by rw[oT];exact z9 i k0,λi f0 c w x=>by rw[oT]at w x;exact y9 i f0 c w x,λi=>by rw[oT];exact x9 i⟩;obtain⟨w,x,e0⟩:=a0 i l j0;refine⟨w,by rw[oT];exact x,?_⟩;rw[oT];exact gx.fm (E:=E') (E':=wm E h'.hp T (.rows T.nx e p) (E'.mb m) (E'.ib m)) j.z (λb _=>x0 b) (λb _=>x0 b) e0⟩
     refine⟨_,t0,B,hG.2 ⟨a7 _,o.2.1,λu p0 a=>?_,λt k a w0=>?_⟩,u0,λd0 h=>dy.2 (.inr h)⟩;.have a:(T.st.set T.nx (.rows T.nx e p)).ap T.nx=some (.row u p0):=a;rw[Tr.a8]at a;cases a
     .have a:(T.st.set T.nx (.rows T.nx e p)).ap T.nx=some t:=a;rw[Tr.a8]at a;cases a;cases w0;rw[ml];exact h0
    .cases d
   .cases d
  .cases d
 .
  cases d;have o:=kW.1 o;subst o;obtain⟨t0,B,u0⟩:=j.bP (X:= .rows T.nx e []) (o:=none) (q:=λ_=>none) (mv':=mv) (λ_ h=>h) (λb n=>by rcases n with q|⟨_,q⟩<;>cases q) (λb n=>by rcases n with q|⟨_,q⟩<;>cases q) (λv0=>by cases v0) λf=>⟨a7 _,a5 _,.inl ⟨ml,rfl,λi=>oT⟩⟩;refine⟨_,t0,B,hG.2 ⟨a7 _,rfl,λu p0 a=>?_,λt k a w0=>?_⟩,u0,λ_ h=>h⟩;.have a:(T.st.set T.nx (.rows T.nx e [])).ap T.nx=some (.row u p0):=a;rw[Tr.a8]at a;cases a
  .have a:(T.st.set T.nx (.rows T.nx e [])).ap T.nx=some t:=a;rw[Tr.a8]at a;cases a;cases w0;rw[ml];exact⟨rfl,.inl rfl⟩
 .cases d
theorem J.mp(j:J S0 S' h' E' wr P T E mv fr)(C:JC S0 S' h' E' wr){s:SV}{v:HV}{n:List (Int×Bool×Unit)}{mv':List Nat}(a:Ww S' s mv fr=some (n,mv'))(t:V E' s v):∃e,J S0 S' h' E' wr P (T.bP (.map n)) e mv' fr/\Fm E.nx E e/\V e (.map T.nx) v:=by
 unfold Ww at a;split at a
 .
  rename_i m;split at a
  .
   rename_i D l;rw[aH]at a;split at a
   .
    rename_i d;simp only[ae]at d;obtain⟨p,g,k⟩:=d;have g:bu m mv=false:=by simpa using g
    have k:bu m fr=false:=by simpa using k
    cases a;rw[BH]at t;obtain⟨_,b,o,rfl⟩:=t;obtain⟨z,u,y⟩:=C.M.hD m _ l;rw[o]at u;cases u
    have r:∀c,(some b=some c\/∃i,(λ_=>none:Nat->Option Nat) i=some c)->Bk E' m c:=by
     rintro c(q|⟨i,q⟩);.cases q;exact .inl o
     .cases q
    obtain⟨x,w,A⟩:=j.bP (X:= .map n) (o:=some b) (q:=λ_=>none) (mv':=m::mv) (λB h=>dy.2 (.inr h)) (λc d=>j.gD C l (r c d) p g k) (λc d=>⟨m,_,dy.2 (.inl rfl),p,l,r c d⟩) (λ_ _=>rfl) λf=>⟨b,ml,by show h'.hp.ap b=_;rw[<-C.M.hp];exact y⟩;exact⟨_,x,w,BH.2 ⟨a7 _,b,ml,rfl⟩⟩
   .cases a
  .cases a
 .cases a
theorem sg{S:SS}:∀{L:List Nat},oV S L=true->∀m,m∈L->S.jU m=true
 |[],_,m,b=>by cases b
 |a::L,h,m,b=>by
  unfold oV at h;rw[ae]at h;rcases cm.1 b with rfl|b;.exact h.1
  .exact sg h.2 m b
theorem Bn{a:List Nat}:∀{L:List Nat},LB a L=true->∀m,m∈L->bu m a=false
 |[],_,m,c=>by cases c
 |b::L,h,m,c=>by
  unfold LB at h;rw[ae]at h;rcases cm.1 c with rfl|c;.simpa using h.1
  .exact Bn h.2 m c
theorem J.val(j:J S0 S' h' E' wr P T E mv fr)(C:JC S0 S' h' E' wr){u:U}{B y0:List SV}{cs:List HV}{x:D u}{k:List Nat}(h:FZ S' u B mv fr=some (x,y0,k))(t0:du E' B cs):∃o,J S0 S' h' E' wr P T o mv (k++fr)/\Fm E.nx E o/\((o.mb=E.mb/\o.ib=E.ib)/\∀m,bu m mv=true->bu m k=false)/\∃c d,cs=c++d/\dY o.hp o.Z u c x/\du E' y0 d:=by
 unfold FZ at h;split at h
 .
  rename_i l0 m0 p0;split at h
  .
   rename_i n0 u0;rw[aH]at h;split at h
   .
    rename_i y;rw[ae]at y;cases h;have s0:=sg y.1;have A:=Bn y.2
    obtain⟨x0,z⟩:=VJ (Z2:=λb=>E.Z b\/∃m e,m∈k/\S'.st.ap m=some e/\Bk E' m b) j.M (λb a=> .inl a) (λm e b l a n=>by
     rcases n with n|⟨q,p,v,r,s⟩;.exact(j.M.own m e b l a).1 n
     .
      rcases j.qV m e b l a with⟨f,i,w⟩|⟨z0,v0,f,_,i,w⟩
      .
       have o0:S'.st.ap m=some e:=by rw[C.uY m f i];exact w
       have:=C.M.inj m q e p b o0 r ((j.bk f b).1 a) s;subst this;have:=s0 m v;rw[C.ia f i]at this;cases this
      .have:=C.M.inj z0 q v0 p b i r w s;subst this;rw[A z0 v]at f;cases f) λb n=>by
     rcases n with n|⟨q,p,v,r,s⟩;.exact j.M.z b n
     .exact(C.M.own q p b r s).2
    refine⟨_,⟨x0,j.f1,j.f2,j.f3,j.f4,j.f5,j.nx,λt=>(j.v t).fm z (.inl rfl),j.p,j.mb,j.ib,λb a=> .inl (j.z b a),λb a=>?_,j.qV,j.vr,j.box⟩,z,⟨⟨rfl,rfl⟩,λm l=>by cases q0:bu m k with
     |false=>rfl
     |true=>have:=A m (fs.1 q0);rw[l]at this;cases this⟩,?_⟩
    .
     rcases a with a|⟨q,p,v,r,s⟩
     .
      rcases j.z' b a with g|⟨m,e,f,i⟩;.exact .inl g
      .exact .inr ⟨m,e,fs.2 (cW _ (fs.1 f)),i⟩
     .exact .inr ⟨q,p,fs.2 (eo _ v),r,s⟩
    .
     obtain⟨c,d,w0,f,i,_⟩:=qZ (E:=E') (Q:=λb=>E.Z b\/∃m e,m∈k/\S'.st.ap m=some e/\Bk E' m b) (k:=3) (λb a=> .inl (j.z b a)) (λm e l=>C.M.hD m e (by rw[<-C.M.st];exact l)) (by rw[C.M.st];exact p0) t0 (mz (by rw[C.M.st];exact u0) λm e b l r0 a=> .inr ⟨m,e,l,by rw[<-C.M.st];exact r0,a⟩)
     exact⟨c,d,w0,by
      have:E.hp=E'.hp:=by rw[j.M.hp,C.M.hp]
      show dY E.hp _ u c x;rw[this];exact f,i⟩
   .cases h
  .cases h
 .cases h
theorem Fm.trans{n:Nat}{q f r:En}(a:Fm n q f)(b:Fm f.nx f r):Fm n q r:=⟨λx d=>b.z x (a.z x d),λx d=>by rw[b.h x (a.z x d),a.h x d],aM a.nx b.nx,λm c=>by rw[b.mb m (aP c a.nx),a.mb m c],λm e j c d=>by obtain⟨o,u,v⟩:=b.row m e j (aP c a.nx) d;obtain⟨p,w,y⟩:=a.row m e o c u;exact⟨p,w,y.trans v⟩,λm t k c d z=>by obtain⟨w0,h,i⟩:=b.y6 m t k (aP c a.nx) d z;exact a.y6 m w0 k c h i,λm g e j c s d=>by obtain⟨o,h,i,D⟩:=b.Ai m g e j (aP c a.nx) (aP s a.nx) d;obtain⟨p,z0,y0,x0⟩:=a.Ai m g e o c s h;refine⟨p,z0,λk l A=>?_,λk=>(D k).trans (x0 k)⟩;obtain⟨B,v0,u0⟩:=y0 k l A;obtain⟨C,t0,s0⟩:=i k B v0;exact⟨C,t0,s0.trans u0⟩⟩
theorem Fm.refl{E:En}:Fm E.nx E E:=⟨λ_ h=>h,λ_ _=>rfl,au _,λ_ _=>rfl,λ_ _ a _ h=>⟨a,h,rfl⟩,λ_ t _ _ h b=>⟨t,h,b⟩,λ_ _ _ a _ _ h=>⟨a,h,gb.refl,λ_=>rfl⟩⟩
theorem J.parts(C:JC S0 S' h' E' wr):∀{f:List Kd}{s:List SV}{cs:List HV}{T:SS}{E:En}{mv fr:List Nat}{x:D (vF f)}{mv' m:List Nat},J S0 S' h' E' wr P T E mv fr->du E' s cs->yQ S' f s mv fr=some (x,mv',m)->∃b,J S0 S' h' E' wr P (i6 f x T).2 b mv' m/\Fm E.nx E b/\du b (i6 f x T).1 cs/\(∀i,i<S0.nx->(i6 f x T).2.st.ap i=T.st.ap i)/\∀t,(i6 f x T).2.tmp t=T.tmp t
 |[],[],cs,T,E,mv,fr,x,mv',m,j,g,a=>by cases a;exact⟨E,j,Fm.refl,by unfold du at g;subst g;show du E [] [];unfold du;rfl,λ_ _=>rfl,λ_=>rfl⟩
 |[],_::_,_,_,_,_,_,_,_,_,_,_,a=>by cases a
 | .o e::f,v::s,cs,T,E,mv,fr,x,mv',m,j,g,a=>by
  unfold yQ at a;split at a
  .
   rename_i y k0 l;split at a
   .
    rename_i z q r;cases a;unfold du at g;obtain⟨c,d,rfl,x0,w0⟩:=g;have v0:v.ag=false:=by unfold Ax at l;cases v<;>first|rfl|cases l
    obtain⟨w,rfl,u0⟩:=FR v0 x0;obtain⟨r0,A,o,s0,t0,_⟩:=j.own C l u0;obtain⟨b,B,h,n,z0,y0⟩:=J.parts C A w0 r;refine⟨b,B,o.trans h,?_,λi p=>(z0 i p).trans (t0 i p),λt=>y0 t⟩;show du b (.row T.nx::_) _;unfold du;exact⟨[w],d,rfl,V.fm h (.inl rfl) s0,n⟩
   .cases a
  .cases a
 | .o e::f,[],_,_,_,_,_,_,_,_,_,_,a=>by cases a
 | .s e::f,v::s,cs,T,E,mv,fr,x,mv',m,j,g,a=>by
  unfold yQ at a;split at a
  .
   rename_i y k0 l;split at a
   .
    rename_i z q r;cases a;unfold du at g;obtain⟨c,d,rfl,x0,w0⟩:=g;have v0:v.ag=false:=by unfold Aw at l;cases v<;>first|rfl|cases l
    obtain⟨w,rfl,u0⟩:=FR v0 x0;obtain⟨r0,A,o,s0,t0,_⟩:=j.lP C l u0;obtain⟨b,B,h,n,z0,y0⟩:=J.parts C A w0 r;refine⟨b,B,o.trans h,?_,λi p=>(z0 i p).trans (t0 i p),λt=>y0 t⟩;show du b (.row T.nx::_) _;unfold du;exact⟨[w],d,rfl,V.fm h (.inl rfl) s0,n⟩
   .cases a
  .cases a
 | .s e::f,[],_,_,_,_,_,_,_,_,_,_,a=>by cases a
 | .v u::f,s,cs,T,E,mv,fr,x,mv',m,j,g,a=>by
  unfold yQ at a;split at a
  .
   rename_i c d m0;split at a
   .
    rename_i y k l0;split at a;.rename_i z q r;cases a;obtain⟨h0,n,rfl,f0,o0,n0⟩:=pc m0 g;obtain⟨r0,A,o,_,p0,g0,rfl,i0,q0⟩:=j.val C l0 o0;unfold du at q0;subst q0;obtain⟨b,B,h,j0,z0,y0⟩:=J.parts C A n0 r;refine⟨b,B,o.trans h,?_,z0,y0⟩;show du b (Ls.mk u y::_) _;unfold du;exact⟨p0,n,by simp,mE.2 (i0.mono h.z h.h),j0⟩
    .cases a
   .cases a
  .cases a
theorem J.hJ(j:J S0 S' h' E' wr P T E mv fr){t:Nat}{s:SV}(c:V E s (h'.tmp t))(b:bu t P=false):J S0 S' h' E' wr P (T.hJ t s) E mv fr:=by
 refine⟨j.M.re rfl rfl rfl rfl rfl rfl,j.f1,j.f2,j.f3,j.f4,j.f5,j.nx,λi=>?_,λi a=>?_,j.mb,j.ib,j.z,j.z',j.qV,j.vr,j.box⟩
 .
  unfold SS.hJ SS.tmp;simp only;rw[Tr.dk];by_cases h:i=t;.rw[aA h,h];exact c
  .rw[aB h];exact j.v i
 .
  unfold SS.hJ SS.tmp;simp only;rw[Tr.dk,aB];.exact j.p i a
  .rintro rfl;rw[a]at b;cases b
theorem J.Hp(C:JC S0 S' h' E' wr)(w0:∀t,bu t P=true->S'.tmp t=S0.tmp t):∀{h:List Hi}{d:D (iH h)}{T:SS}{E:En}{mv fr:List Nat}{S2:SS},J S0 S' h' E' wr P T E mv fr->i8 S0 S' h mv fr=some d->oh S0 wr P h d T=some S2->∃E2 mv2 fr2,J S0 S' h' E' wr P S2 E2 mv2 fr2
 |[],d,T,E,mv,fr,S2,j,a,l=>by cases l;exact⟨E,mv,fr,j⟩
 | .bE t::h,d,T,E,mv,fr,S2,j,a,l=>J.Hp C w0 (h:=h) j a l
 | .val t u::h,d,T,E,mv,fr,S2,j,a,l=>by
  unfold oh at l;rw[aH]at l;split at l;.cases l
  .
   rename_i B;unfold i8 at a;rw[aH]at a;split at a
   .
    rename_i e0;have e0:(S'.tmp t).ag=u.ag:=by simpa using e0
    split at a
    .
     rename_i is hits;split at a
     .
      rename_i x k m9;split at a
      .
       rename_i y v;cases a;obtain⟨u9,y9,h0,g0,q4⟩:=li hits (C.v t);obtain⟨s,n,r0,_,v9,c4,rfl,x9,f0⟩:=j.val C m9 h0;unfold du at f0;subst f0;rw[bf]at*
       have hV:V s (Ls.mk u x) (h'.tmp t):=by rw[Vq];unfold tT;cases hu:u.ag with
        |true=>exact⟨v9,g0 (e0.trans hu),x9⟩
        |false=>rw[<-q4 (e0.trans hu)];exact x9
       exact J.Hp C w0 (h:=h) (d:=y) (n.hJ hV (by simpa using B)) v l
      .cases a
     .cases a
    .cases a
   .cases a
 | .own t e::h,d,T,E,mv,fr,S2,j,a,l=>by
  unfold oh at l;rw[aH]at l;split at l;.cases l
  .
   rename_i B;unfold i8 at a;split at a
   .
    rename_i x i0 l0;split at a;.rename_i y v;cases a;obtain⟨s,n,r0,v0,o1,_⟩:=j.own C l0 (C.v t);exact J.Hp C w0 (h:=h) (d:=y) (n.hJ v0 (by simpa using B)) v l
    .cases a
   .cases a
 | .lP t e::h,d,T,E,mv,fr,S2,j,a,l=>by
  unfold oh at l;rw[aH]at l;split at l;.cases l
  .
   rename_i B;unfold i8 at a;split at a
   .
    rename_i x i0 l0;split at a;.rename_i y v;cases a;obtain⟨s,n,r0,v0,o1,_⟩:=j.lP C l0 (C.v t);exact J.Hp C w0 (h:=h) (d:=y) (n.hJ v0 (by simpa using B)) v l
    .cases a
   .cases a
 | .mp t::h,d,T,E,mv,fr,S2,j,a,l=>by
  unfold oh at l;rw[aH]at l;split at l;.cases l
  .
   rename_i B;unfold i8 at a;split at a
   .
    rename_i x i0 l0;split at a;.rename_i y v;cases a;obtain⟨s,n,r0,v0⟩:=j.mp C l0 (C.v t);exact J.Hp C w0 (h:=h) (d:=y) (n.hJ v0 (by simpa using B)) v l
    .cases a
   .cases a
 | .rw t e::h,d,T,E,mv,fr,S2,j,a,l=>by cases l
 | .cell t u::h,d,T,E,mv,fr,S2,j,a,l=>by
  unfold oh at l;rw[aH]at l;split at l;.cases l
  .
   rename_i B;unfold i8 at a;split at a
   .
    rename_i m n9;split at a
    .
     rename_i z is m0;rw[aH]at a;split at a
     .
      rename_i n0;simp only[ae]at n0;obtain⟨j0,o0,z0,y0⟩:=n0;have z0:bu m mv=false:=by simpa using z0
      have y0:bu m fr=false:=by simpa using y0
      have j0:=aw j0;subst j0;split at a
      .
       rename_i x k m9;split at a
       .
        rename_i y v;cases a;have hv:=C.v t;rw[n9,lv]at hv;obtain⟨_,b,p0,hvt⟩:=hv;obtain⟨x0,w9,u9,z9,i9,h9,g9,f9,e9⟩:=C.M.hD m _ m0;rw[p0]at z9;cases z9
        have jm:J S0 S' h' E' wr P T E (m::mv) fr:=⟨j.M,j.f1,j.f2,j.f3,j.f4,j.f5,j.nx,j.v,j.p,j.mb,j.ib,j.z,j.z',λi e x0 r u0=>by
         rcases j.qV i e x0 r u0 with g|⟨j9,t9,w,q0⟩;.exact .inl g
         .exact .inr ⟨j9,t9,dy.2 (.inr w),q0⟩,j.vr,λi e r a0 d0=>by obtain⟨y9,h0,g0⟩:=j.box i e r a0 d0;exact⟨y9,h0,dy.2 (.inr g0)⟩⟩
        obtain⟨s,n,r0,⟨⟨v0,v2⟩,v3⟩,v9,c4,rfl,x9,f0⟩:=jm.val C m9 e9;unfold du at f0;subst f0;rw[bf]at*;have q9:=j.gD C m0 (.inl p0) o0 z0 y0
        have hor:∀c,(some b=some c\/∃i,(λ_=>none:Nat->Option Nat) i=some c)->c=b:=by
         rintro c(q|⟨i,q⟩);.cases q;rfl
         .cases q
        have hsep:∀t0 s0,T.st.ap t0=some s0->¬Bk s t0 b:=by intro t0 s0 h2 s9;refine q9.2.2.1 t0 s0 h2 ?_;unfold Bk at s9⊢;rw[v0,v2]at s9;exact s9
        obtain⟨k9,d9,hold⟩:=n.bP (X:= .box 0 [Ls.mk u x]) (o:=some b) (q:=λ_=>none) (mv':=m::mv) (λ_ h=>h) (λc r9=>by
         have:=hor c r9;subst this;refine⟨q9.1,λj0=>?_,hsep,q9.2.2.2⟩;rcases n.z' c j0 with g|⟨t0,s0,w,q0,g3⟩;.exact(C.M.own m _ c m0 (.inl p0)).1 g
         .have:=C.M.inj m t0 _ s0 c m0 q0 (.inl p0) g3;subst this;rw[fs,bR,<-fs,<-fs,v3 m (dy.2 (.inl rfl)),y0]at w;rcases w with w|w<;>cases w) (λc r9=>by have:=hor c r9;subst this;exact⟨m,_,dy.2 (.inl rfl),o0,m0,.inl p0⟩) (λ_ _=>rfl) λf=>⟨b,w9,v9,ml,by show h'.hp.ap b=_;rw[<-C.M.hp];exact i9,h9,g9,f9,du.fm f (.inl rfl) (dT.2 (mE.2 x9))⟩
        refine J.Hp C w0 (h:=h) (d:=y) (k9.hJ (lv.2 ⟨a7 _,b,ml,hvt⟩) (by simpa using B)) v l
       .cases a
      .cases a
     .cases a
    .cases a
   .cases a
 | .box t p::h,d,T,E,mv,fr,S2,j,a,l=>by
  unfold oh at l;unfold i8 at a;split at l
  .
   rename_i m o n9;rw[n9]at a;try simp only at a
   rw[aH]at l;split at l
   .
    rename_i b9;rw[ae]at b9;obtain⟨a0,A⟩:=b9;have A:m<S0.nx:=by rw[dJ]at A;exact A
    split at l
    .
     rename_i z is0 a9;rw[a9]at a;try simp only at a
     split at a
     .
      rename_i z0 _ z' is hm0' b0;cases hm0';rw[aH]at a;split at a
      .
       rename_i l9;have l9:=aw l9;subst l9;split at a
       .
        rename_i x i0 c9 hab;rw[aH]at a;split at a
        .
         rename_i n0;simp only[ae]at n0;obtain⟨o0,z0,y0⟩:=n0;have z0:bu m i0=false:=by simpa using z0
         have y0:bu m c9=false:=by simpa using y0
         split at a
         .
          rename_i y v;cases a;obtain⟨b,w9,u9,z9,i9,h9,g9,f9,e9⟩:=C.M.hD m _ b0;obtain⟨s,n,r0,c1,o1,t1⟩:=J.parts C j e9 hab
          have hTm:(i6 p x T).2.st.ap m=none:=by cases hq:(i6 p x T).2.st.ap m with
           |none=>rfl
           |some e=>have:=(n.box m e A a0 hq).2.2;rw[z0]at this;cases this
          obtain⟨M2,d9⟩:=Gy (j:=m) (nx2:=(i6 p x T).2.nx) (mb2:=s.mb) (ib2:=s.ib) (e:= .box z (i6 p x T).1) n.M hTm (au _) (aP A n.nx) (λ_ _=>rfl) (λ_ _ _=>rfl) (λ_=>rfl) (λ_=>⟨_,_,rfl⟩) (λx0 u0=>n.gD C b0 ((n.bk A x0).1 u0) o0 z0 y0) (λhne k=>(n.ib m A k).trans (C.M.tk m _ b0 rfl k)) λf=>⟨b,w9,u9,(n.mb m A).trans z9,by show h'.hp.ap b=_;rw[<-C.M.hp];exact i9,h9,g9,f9,du.fm f (.inl rfl) c1⟩;have p9:∀i,((i6 p x T).2.st.set m (.box z (i6 p x T).1)).ap i=if i=m then some (.box z (i6 p x T).1)else(i6 p x T).2.st.ap i:=λi=>Tr.dk _ _ _ _
          have k9:J S0 S' h' E' wr P ((i6 p x T).2.iE m (.box z (i6 p x T).1)) ⟨h'.hp,s.Z,s.mb,s.ib,(i6 p x T).2.st.set m (.box z (i6 p x T).1),(i6 p x T).2.nx⟩ (m::i0) c9:=by
           refine⟨M2,n.f1,n.f2,n.f3,n.f4,n.f5,n.nx,λt=>(n.v t).fm d9 (.inl rfl),n.p,n.mb,n.ib,n.z,n.z',λi e x0 r u0=>?_,λi r k0=>?_,λi e r k0 d0=>?_⟩
           .
            have r:((i6 p x T).2.st.set m (.box z (i6 p x T).1)).ap i=some e:=r;rw[p9]at r;split at r;.rename_i o9;subst o9;exact .inr ⟨i,_,dy.2 (.inl rfl),o0,b0,(n.bk A x0).1 u0⟩
            .
             rcases n.qV i e x0 r u0 with g|⟨j9,t9,w,q0⟩;.exact .inl g
             .exact .inr ⟨j9,t9,dy.2 (.inr w),q0⟩
           .
            show((i6 p x T).2.st.set m (.box z (i6 p x T).1)).ap i=_;rw[p9,aB];.exact n.vr i r k0
            .rintro rfl;rw[a0]at k0;cases k0
           .
            have c0:((i6 p x T).2.st.set m (.box z (i6 p x T).1)).ap i=some e:=d0;clear d0;rw[p9]at c0;split at c0;.rename_i o9;subst o9;cases c0;exact⟨.inl ⟨_,_,rfl⟩,by rw[a9];exactλh=>(by cases h),dy.2 (.inl rfl)⟩
            .obtain⟨y9,h0,g0⟩:=n.box i e r k0 c0;exact⟨y9,h0,dy.2 (.inr g0)⟩
          exact J.Hp C w0 (h:=h) (d:=y) k9 v l
         .cases a
        .cases a
       .cases a
      .cases a
     .cases a
    .cases l
   .cases l
  .cases l
end
section
theorem wB(st:Tr iK):∀(wr:List Nat)(m:Nat),(lY st wr).ap m=if bu m wr=true then none else st.ap m
 |[],m=>by unfold lY bu;rw[aB (by simp)]
 |a::wr,m=>by
  unfold lY;rw[Tr.gC,wB st wr m];by_cases h:m=a;.rw[aA h,aA (dy.2 (.inl h))]
  .
   rw[aB h];by_cases b:bu m wr=true;.rw[aA b,aA (dy.2 (.inr b))]
   .
    rw[aB b,aB λd=>by
     rcases dy.1 d with c|c;.exact h c
     .exact b c]
theorem A2(c:SS):∀(P:List Nat)(t:Nat),(rQ c P).ap t=if bu t P=true then some (c.tmp t)else none
 |[],t=>by unfold rQ bu;rw[aB (by simp)];rfl
 |a::P,t=>by
  unfold rQ;rw[Tr.dk,A2 c P t];by_cases h:t=a;.rw[aA h,aA (dy.2 (.inl h)),h]
  .
   rw[aB h];by_cases b:bu t P=true;.rw[aA b,aA (dy.2 (.inr b))]
   .
    rw[aB b,aB λe=>by
     rcases dy.1 e with d|d;.exact h d
     .exact b d]
variable{S0 S' S2:SS}{h0 h':St}{E0 E':En}{hh:List Hi}{wr:List Nat}{d:D (iH hh)}
theorem o7{m:Nat}(b:m<S0.nx):(S0.jQ S0.nx hh wr S0.kp).jU m=bu m wr:=by
 show(Nat.ble S0.nx m||bu m wr)=_
 have:Nat.ble S0.nx m=false:=by cases a:Nat.ble S0.nx m with
  |false=>rfl
  |true=>rw[bO]at a;omega
 rw[this];rfl
theorem A3(t0:dc S0 h0 E0)(o9:dB S0 h0 E0)(s:dc S' h' E')(p9:dB S' h' E')(g:Gr (S0.jQ S0.nx hh wr S0.kp) h0 E0 S' h' E')(l9:∀t,bu t (kw hh++S0.kp)=true->S'.tmp t=S0.tmp t){st1:Tr iK}{mv0:List Nat}{h2:List Hi}{d2:D (iH h2)}(v:∀m e,st1.ap m=some e->S'.st.ap m=some e/\∃x,S0.st.ap m=some x/\(bu m wr=false/\e=x\/bu m wr=true/\bu m mv0=true/\S'.jT m=true/\∃u xs B,e= .row u xs/\x= .row u B/\B.length=xs.length))(hun:∀m,m<S0.nx->bu m wr=false->st1.ap m=S0.st.ap m)(a9:i8 S0 S' h2 mv0 []=some d2)(hc:oh S0 wr (kw hh++S0.kp) h2 d2 ⟨S0.nt,rQ S0 (kw hh++S0.kp),st1,S0.nx,S0.lk,S0.base,S0.wr,S0.kp⟩=some S2):∃n0,dc S2 h' n0/\dB S2 h' n0/\Gr (S0.jQ S0.nx hh wr S0.kp) h0 E0 (S2.jQ S0.nx hh wr S0.kp) h' n0/\(∀t,bu t (kw hh++S0.kp)=true->S2.tmp t=S0.tmp t)/\S2.nt=S0.nt/\S2.lk=S0.lk/\S2.base=S0.base/\S2.wr=S0.wr/\S2.kp=S0.kp:=by
 have n9:∀m,m<S0.nx->bu m wr=false->S'.st.ap m=S0.st.ap m:=λm a r=>g.uY m a (by rw[o7 a];exact r);have C:JC S0 S' h' E' wr:=⟨s,p9.v,g.base,g.wr,n9⟩;have hlt:∀m e,st1.ap m=some e->m<S0.nx:=λm e a=>by obtain⟨_,x,h0,_⟩:=v m e a;exact t0.lt m x h0
 have f:Fm S0.nx E' ⟨h'.hp,E'.Z,E'.mb,E'.ib,st1,S0.nx⟩:=⟨λ_ p=>p,λ_ _=>by rw[s.hp],au _,λ_ _=>rfl,λm u xs _ o=>⟨xs,by rw[s.st];exact(v m _ o).1,rfl⟩,λm t k _ o i0=>⟨t,by rw[s.st];exact(v m _ o).1,i0⟩,λm g u xs _ _ o=>⟨xs,by rw[s.st];exact(v m _ o).1,gb.refl,λ_=>rfl⟩⟩
 have f9:dc ⟨S0.nt,rQ S0 (kw hh++S0.kp),st1,S0.nx,S0.lk,S0.base,S0.wr,S0.kp⟩ h' ⟨h'.hp,E'.Z,E'.mb,E'.ib,st1,S0.nx⟩:=by
  refine⟨rfl,rfl,rfl,hlt,λm e a=>?_,λm o0 e p0 b a hm'=>s.inj m o0 e p0 b (v m e a).1 (v o0 p0 hm').1,λm e b a p=>s.own m e b (v m e a).1 p,s.z,s.fr,λb p=>⟨(s.lk b p).1,λm e a s0=>?_⟩,s.rN,λm e a=>s.tk m e (v m e a).1⟩
  .
   obtain⟨l0,x,v0,n⟩:=v m e a;have q:=s.hD m e l0;have y0:∀b,h'.hp.ap b=E'.hp.ap b:=λb=>by rw[s.hp]
   cases e with
    |box z g0=>
    have n: .box z g0=x:=by
     rcases n with⟨_,n⟩|⟨_,_,_,u,xs,B,n,_⟩;.exact n
     .cases n
    subst n;obtain⟨b,y,e9,x0,r0,v9,u9,p5,p6⟩:=q;obtain⟨_,_,cs0,_,_,_,_,_,j9⟩:=t0.hD m _ v0;exact⟨b,y,e9,x0,by show h'.hp.ap b=_;rw[<-s.hp];exact r0,v9,u9,p5,du.fm f (.inr (by have:=FQ j9;rw[t0.nx]at this;exact this)) p6⟩
    |row e xs=>obtain⟨x0,r0⟩:=q;exact⟨x0,gx.fm (E:=E') (E':=⟨h'.hp,E'.Z,E'.mb,E'.ib,st1,S0.nx⟩) (λ_ q=>q) (λb _=>y0 b) (λb _=>y0 b) r0⟩
    |rows f0 e xs=>
    have n: .rows f0 e xs=x:=by
     rcases n with⟨_,n⟩|⟨_,_,_,u,xs,B,n,_⟩;.exact n
     .cases n
    subst n;obtain⟨j9,x0,q⟩:=q;obtain⟨i9,_⟩:=t0.hD m _ v0;refine⟨by rw[t0.nx]at i9;exact i9,x0,?_⟩;rcases q with q|⟨b,y,c0,b0,a0,z9,y9,x9,w9,k8,k9⟩;.exact .inl q
    refine .inr ⟨b,y,c0,by show h'.hp.ap b=_;rw[y0];exact b0,a0,z9,y9,λi l m0=>?_,w9,k8,k9⟩;obtain⟨s9,r9,q9⟩:=x9 i l m0;exact⟨s9,r9,gx.fm (E:=E') (E':=⟨h'.hp,E'.Z,E'.mb,E'.ib,st1,S0.nx⟩) (λ_ q=>q) (λb _=>y0 b) (λb _=>y0 b) q9⟩
    |mM e xs w=>obtain⟨x0,j,r0,v9,u9,b,y,c0,b0,a0,z9,y9,x9,w9⟩:=q;refine⟨x0,j,r0,v9,u9,b,y,c0,by show h'.hp.ap b=_;rw[y0];exact b0,a0,z9,y9,λi l hij m0=>?_,w9⟩;obtain⟨s9,r9,q9⟩:=x9 i l hij m0;exact⟨s9,r9,gx.fm (E:=E') (E':=⟨h'.hp,E'.Z,E'.mb,E'.ib,st1,S0.nx⟩) (λ_ q=>q) (λb _=>y0 b) (λb _=>y0 b) q9⟩
    |map kvs=>obtain⟨b,x0,r0⟩:=q;exact⟨b,x0,by show h'.hp.ap b=_;rw[y0];exact r0⟩
  .have:=(s.lk b p).2 m e (v m e a).1 s0;rw[g.FC]at this;exact this
 have k9:∀t,SS.tmp ⟨S0.nt,rQ S0 (kw hh++S0.kp),st1,S0.nx,S0.lk,S0.base,S0.wr,S0.kp⟩ t=if bu t (kw hh++S0.kp)=true then S0.tmp t else .any:=by
  intro t;unfold SS.tmp;simp only;rw[A2];by_cases A:bu t (kw hh++S0.kp)=true;.rw[aA A,aA A];rfl
  .rw[aB A,aB A]
 have j:J S0 S' h' E' wr (kw hh++S0.kp) ⟨S0.nt,rQ S0 (kw hh++S0.kp),st1,S0.nx,S0.lk,S0.base,S0.wr,S0.kp⟩ ⟨h'.hp,E'.Z,E'.mb,E'.ib,st1,S0.nx⟩ mv0 []:=by
  refine⟨f9,rfl,rfl,rfl,rfl,rfl,au _,λt=>?_,λt A=>?_,λ_ _=>rfl,λ_ _ _=>rfl,λ_ p=>p,λ_ p=> .inl p,λm e b a p=>?_,λm a r=>?_,λm e a r m9=>?_⟩
  .
   rw[k9];by_cases A:bu t (kw hh++S0.kp)=true;.rw[aA A];have:=p9.v t;rw[l9 t A]at this;exact this.fm f (.inr (by have:=aaU (o9.v t);rw[t0.nx]at this;exact this))
   .rw[aB A];exact FB
  .rw[k9,aA A]
  .
   obtain⟨l0,x,v0,n⟩:=v m e a;rcases n with⟨n,rfl⟩|⟨n,e0,d9,_⟩;.exact .inl ⟨t0.lt m e v0,n,v0⟩
   .exact .inr ⟨m,e,e0,d9,l0,p⟩
  .exact hun m a r
  .
   obtain⟨l0,x,v0,n⟩:=v m e m9;rcases n with⟨n,_⟩|⟨_,e0,_,u,xs,B,rfl,rfl,c9⟩;.rw[r]at n;cases n
   .exact⟨.inr ⟨u,xs,B,rfl,v0,c9⟩,by rw[v0];exactλh=>(by cases h),e0⟩
 obtain⟨n0,mv2,fr2,c⟩:=J.Hp C l9 (h:=h2) (d:=d2) j a9 hc;refine⟨n0,c.M,⟨c.f1.trans (o9.nt.trans g.nt.symm),c.v⟩,⟨g.nt,g.lk,g.df,c.f1,c.f2,rfl,rfl,rfl,g.nx,c.nx,λb p=>c.z b (g.z b p),λb p=>?_,g.EH,λb p=>?_,λm a=>(c.mb m a).trans (g.mb m a),λm a k0=>?_,λm a j0=>?_,λm u xs a o=>?_,λb m e p a s0=>?_,λm t k a o i0=>?_,λm f0 u xs a m9 o=>?_,λm a k0 k=>(c.ib m a k).trans (g.ci m a k0 k)⟩,c.p,c.f1,c.f2,c.f3,c.f4,c.f5⟩
 .
  rcases c.z' b p with q|⟨m,e,u0,q0,w0⟩;.exact g.z' b q
  .
   rcases g.ow b ⟨m,e,q0,w0⟩with q|q;.exact .inr (.inl q)
   .exact .inr (.inr q)
 .
  obtain⟨m,e,a,s0⟩:=p;rcases c.qV m e b a s0 with⟨u0,q0,w0⟩|⟨o0,p0,_,_,w0,t9⟩;.exact g.ow b ⟨m,e,by rw[n9 m u0 q0];exact w0,(c.bk u0 b).1 s0⟩
  .exact g.ow b ⟨o0,p0,w0,t9⟩
 .have a:m<S0.nx:=a;rw[o7 a]at k0;exact c.vr m a k0
 .
  have a:m<S0.nx:=a;have j0:S0.st.ap m=none:=j0;by_cases r:bu m wr=true
  .show S2.st.ap m=none;cases hq:S2.st.ap m with
   |none=>rfl
   |some e=>exact absurd j0 (c.box m e a r hq).2.1
  .exact(c.vr m a (by simpa using r)).trans j0
 .
  have a:m<S0.nx:=a;have o:S2.st.ap m=some (.row u xs):=o;by_cases r:bu m wr=true
  .
   rcases(c.box m _ a r o).1 with⟨z,g0,z0⟩|⟨h9,g9,B,z0,b9,m0⟩;.cases z0
   .cases z0;exact⟨B,b9,m0⟩
  .rw[c.vr m a (by simpa using r)]at o;exact⟨xs,o,rfl⟩
 .
  rcases c.qV m e b a s0 with⟨u0,q0,w0⟩|⟨o0,p0,_,q0,w0,t9⟩
  .
   refine⟨e,w0,?_⟩;have d0:=(c.bk u0 b).1 s0;unfold Bk at d0⊢;rw[g.mb m u0]at d0;rcases d0 with w|⟨k,w⟩;.exact .inl w
   .exact .inr ⟨k,by rw[<-g.ci m u0 (by rw[o7 u0];exact q0)];exact w⟩
  .have:=(s.lk b (by rw[g.lk];exact p)).2 o0 p0 w0 t9;rw[(gf q0).2]at this;cases this
 .
  have a:m<S0.nx:=a;have o:S2.st.ap m=some t:=o;by_cases r:bu m wr=true;.rcases(c.box m _ a r o).1 with⟨z,g0,z0⟩|⟨h9,g9,B,z0,_⟩<;>cases z0<;>cases i0
  .rw[c.vr m a (by simpa using r)]at o;exact⟨t,o,i0⟩
 .
  have a:m<S0.nx:=a;have o:S2.st.ap m=some (.rows f0 u xs):=o;by_cases r:bu m wr=true;.rcases(c.box m _ a r o).1 with⟨z,g0,z0⟩|⟨h9,g9,B,z0,_⟩<;>cases z0
  .rw[c.vr m a (by simpa using r)]at o;exact⟨xs,o,gb.refl,λk=>(c.ib m a k).trans (g.ci m a (by rw[o7 a];simpa using r) k)⟩
theorem xM(o:dc S0 h0 E0)(B:dB S0 h0 E0)(z:dc S' h' E')(A:dB S' h' E')(g:Gr (S0.jQ S0.nx hh wr S0.kp) h0 E0 S' h' E')(x0:∀t,bu t (kw hh++S0.kp)=true->S'.tmp t=S0.tmp t)(c:i8 S0 S' hh [] []=some d)(a:uX S0 hh wr d=some S2):∃n,dc S2 h' n/\dB S2 h' n/\Gr (S0.jQ S0.nx hh wr S0.kp) h0 E0 (S2.jQ S0.nx hh wr S0.kp) h' n/\(∀t,bu t (kw hh++S0.kp)=true->S2.tmp t=S0.tmp t)/\S2.nt=S0.nt/\S2.lk=S0.lk/\S2.base=S0.base/\S2.wr=S0.wr/\S2.kp=S0.kp:=by
 have r0:∀m,m<S0.nx->bu m wr=false->S'.st.ap m=S0.st.ap m:=λm f h=>g.uY m f (by rw[o7 f];exact h);have s:=wB S0.st wr
 have v0:∀m e,(lY S0.st wr).ap m=some e->bu m wr=false/\S0.st.ap m=some e/\S'.st.ap m=some e:=by
  intro m e f;rw[s]at f;split at f;.cases f
  .
   rename_i h;have h:bu m wr=false:=by simpa using h
   exact⟨h,f,by rw[r0 m (o.lt m e f) h];exact f⟩
 unfold uX at a;split at a
 .
  rename_i t e r j0;split at a
  .
   rename_i m n0;split at a
   .
    rename_i u e0 i0;rw[aH]at a;split at a
    .
     rename_i z0;simp only[ae,bB,dJ]at z0;obtain⟨h,p0,m0⟩:=z0;subst m0;unfold i8 at c;rw[n0]at c;simp only at c;split at c
     .
      rename_i k0 g0 b;split at c
      .
       rename_i y o0;cases c;unfold Ax at b;simp only at b;split at b
       .
        rename_i f0 k w0;split at b
        .
         rename_i d0 l0;rw[aH]at b;split at b
         .
          rename_i C;simp only[ae]at C;cases b;obtain⟨t0,p⟩:=eD l0;cases t0;have p:k=k0:=p;subst p;obtain⟨u0,q,s0⟩:=g.row m u k p0 w0;have q:S0.st.ap m=some (.row u u0):=q;have y0:∀i,((lY S0.st wr).set m (.row u k)).ap i=if i=m then some (.row u k)else(lY S0.st wr).ap i:=λi=>Tr.dk _ _ _ _;refine A3 (hh:= .rw t u::r) o B z A g x0 (st1:=(lY S0.st wr).set m (.row u k)) (mv0:=[m]) (h2:=r) (d2:=y) (λi e j=>?_) (λi j l=>?_) o0 a
          .
           rw[y0]at j;split at j;.rename_i q0;subst q0;cases j;exact⟨w0,_,q,.inr ⟨h,dy.2 (.inl rfl),C.1,u,k,u0,rfl,rfl,s0⟩⟩
           .obtain⟨v,w,x⟩:=v0 i e j;exact⟨x,e,w,.inl ⟨v,rfl⟩⟩
          .rw[y0,aB (by rintro rfl;rw[h]at l;cases l),s,aB (by rw[l];simp)]
         .cases b
        .cases b
       .cases b
      .cases c
     .cases c
    .cases a
   .cases a
  .cases a
 .
  refine A3 o B z A g x0 (st1:=lY S0.st wr) (mv0:=[]) (λi e j=>?_) (λi j l=>?_) c a;.obtain⟨v,w,x⟩:=v0 i e j;exact⟨x,e,w,.inl ⟨v,rfl⟩⟩
  .rw[s,aB (by rw[l];simp)]
theorem zn(l:oV S0 wr=true)(g:Gr (S0.jQ S0.nx hh wr S0.kp) h0 E0 S' h' E')(j:S2.st=S'.st)(n:S2.nx=S'.nx)(b:S2.nt=S0.nt)(c:S2.lk=S0.lk)(e:S2.base=S0.base)(f:S2.wr=S0.wr)(i:S2.kp=S0.kp):Gr S0 h0 E0 S2 h' E':=g.re rfl rfl (λm a k=>by have a:m<S0.nx:=a;rw[o7 a];cases o:bu m wr with
 |false=>rfl
 |true=>have:=sg l m (fs.1 o);rw[k]at this;cases this) rfl rfl (λ_ h=>h) j n rfl rfl g.nt g.lk g.df b c e f i
end
theorem Bu{α β:Type}{o:Option (Sum α β)}{f:α->Option β}{r:β}(h:aE o f=some r):(∃x,o=some (.inl x)/\f x=some r)\/o=some (.inr r):=by
 unfold aE at h;split at h;.exact .inl ⟨_,rfl,h⟩
 .cases h;exact .inr rfl
 .cases h
theorem o8{α β:Type}{o:Option α}{v:Sum α β}(h:Cj o=some v):∃x,o=some x/\v= .inl x:=by
 unfold Cj at h;split at h;.cases h;exact⟨_,rfl,rfl⟩
 .cases h
theorem nI{α β:Type}{o:Option β}{v:Sum α β}(h:ao o=some v):∃x,o=some x/\v= .inr x:=by
 unfold ao at h;split at h;.cases h;exact⟨_,rfl,rfl⟩
 .cases h
def R5(cx:Cx)(f:FuncId):Prop:=∀(h:St)(b n i:Nat)(y:gK)(e:List HV),h.hp.ap b=some (.cp y)->y.own=true->bu b h.lk=false->y.z=1->cF y 0 n=some e->n<=140737488355328->gu n 8=true->i<n->∃d a,(∃g,∀k,g<=k->call cx (run cx k) f [.sl b 0 n,.int .i64 (Int.ofNat i),.int .i64 (Int.ofNat (i+1))] h=some (.sl b 0 (n-1),⟨h.nt,h.dC,d,h.nx,h.lk,h.df⟩))/\(∀c,c≠b->d.ap c=h.hp.ap c)/\d.ap b=some (.cp a)/\a.own=true/\a.z=1/\cF a 0 (n-1)=some (e.eraseIdx i)
def kE(cx:Cx)(f:FuncId):Prop:=∀(i:Func)(t:Nat)(y:El),cx.fn.ap f=some i->i.params.toList=[t]->cx.fN t=some y->∀(h:St)(v:HV)(e:List HV)(k:Nat),(∀b,h.nx<=b->h.hp.ap b=none)->(∀b,bu b h.lk=true->b<h.nx)->iW h y.z v=some (e,k)->(v= .cM\/v= .gz\/v= .lV\/∃b o n,v= .sl b o n/\b<h.nx)->e.length=k*y.z->gu k y.lq=true->∃g a c,(∃j,∀k,j<=k->call cx (run cx k) f [v] h=some (g,⟨h.nt,h.dC,a,c,h.lk,h.df⟩))/\h.nx<=c/\(∀b,b<h.nx->a.ap b=h.hp.ap b)/\(∀b,c<=b->a.ap b=none)/\(g= .cM/\k=0\/∃b d,g= .sl b 0 k/\h.nx<=b/\b<c/\a.ap b=some (.cp d)/\d.own=true/\d.z=y.z/\cF d 0 (k*y.z)=some e)
def om(cx:Cx)(f q:Nat):Prop:=(q=1->R5 cx f)/\(q=2->kE cx f)
section
variable{E:En}{S:SS}{h:St}{cy:Cy}{R:Type}{r:R}{K:SV->SS->Option R}
theorem G0{hp:Tr Hm.Obj}{Z:Nat->Prop}{k:IntKind}:∀{xs:List Int}{cs:List HV},nO (dY hp Z (.int k)) cs xs->cs=xs.map (HV.int k)
 |[],_,h=>h
 |x::xs,_,⟨c,d,e,a,b⟩=>by have a:c=[.int k x]:=a;rw[e,a,G0 b];rfl
theorem Dg{y:gK}{k:IntKind}{n:Nat}{xs:List Int}{hp:Tr Hm.Obj}{Z:Nat->Prop}(hg:cF y 0 n=some (xs.map (HV.int k)))(i:Nat)(x:Int)(c:xs[i]?=some x):∃cs,cF y (i*(U.int k).size) (U.int k).size=some cs/\dY hp Z (.int k) cs x:=by
 refine⟨[.int k x],?_,rfl⟩;show cF y (i*1) 1=_;have d:=g5 hg;rw[db]at d;have e:=(aj.1 c).1;rw[fV]at hg⊢;refine⟨rfl,λj f=>?_⟩;have:j=0:=by omega
 subst this;obtain⟨a,b⟩:=hg.2 i (by omega);rw[gU,fu];rw[bi]at a b;refine⟨a,?_⟩;rw[b,jc,c];rfl
theorem Lx{α β:Type}(f:α->β):∀(l:List α)(i:Nat),(l.map f).eraseIdx i=(l.eraseIdx i).map f
 |[],_=>rfl
 |_::_,0=>rfl
 |a::l,i+1=>by show f a::(l.map f).eraseIdx i=f a::(l.eraseIdx i).map f;rw[Lx f l i]
theorem QC{i:Nat}(h:i<=140737488355328):ah .i64 (Int.ofNat i) 1=Int.ofNat (i+1):=by show fT .i64 ((i:Int)+1)=((i+1:Nat):Int);unfold fT A5;rw[ar (by omega),ar (by omega)];rfl
theorem MY(M:dc S h E){u:U}{x:SV}{a:HV}{bP:List (D u)}{L:List Nat}(l:Gu S.st (.bw u) x=some bP)(q:V E x a)(i:mZ S.st [x]=some L):a= .cM\/a= .gz\/a= .lV\/∃b o n,a= .sl b o n/\b<h.nx:=by
 have j:∀m e,E.st.ap m=some e->oN E m e:=λm e k=>M.hD m e (by rw[<-M.st];exact k);have c:tT E.hp (λ_=>True) (.bw u) a bP:=wd (E:=E) (Q:=λ_=>True) (k:=3) (λ_ _=>trivial) j (by rw[M.st];exact l) q (tH (λ_ _ _ _ _=>trivial) (by rw[M.st];exact i));have c:dY E.hp (λ_=>True) (.bw u) [a] bP:=c;unfold dY at c;obtain⟨v,p,c⟩:=c;cases p;rcases c with⟨_,h|h|h⟩|⟨b,o,y,⟨f,_⟩,_,d,_⟩;.exact .inl h
 .exact .inr (.inl h)
 .exact .inr (.inr (.inl h))
 .
  refine .inr (.inr (.inr ⟨b,o,_,f,?_⟩));rcases cI b h.nx with g|g;.exact g
  .rw[M.hp,M.fr b g]at d;cases d
theorem I9{f q:Nat}(g9:om cy.cx f q){args:List SV}{b9:List HV}(d:Ja cy S f q args K=some r)(M:dc S h E)(z:Vs E args b9):∃v z0 s C E',(∃k0,∀k,k0<=k->call cy.cx (run cy.cx k) f b9 h=some (v,z0))/\dc C z0 E'/\Gr S h E C z0 E'/\C.dC=S.dC/\z0.dC=h.dC/\V E' s v/\K s C=some r:=by
 unfold Ja at d;split at d
 .
  rename_i a l1 i l2 j;unfold Vs at z;obtain⟨va,r1,rfl,g0,z⟩:=z;unfold Vs at z;obtain⟨vi,r2,rfl,e0,z⟩:=z;unfold Vs at z;obtain⟨vj,r3,rfl,y0,z⟩:=z;unfold Vs at z;subst z;have e0:V E _ vi:=e0;have y0:V E _ vj:=y0;have g0:V E a va:=g0;rw[d7]at e0 y0;subst e0;subst y0;unfold Vg at d;split at d
  .
   rename_i m _;split at d
   .
    rename_i e l t0;split at d
    .
     rename_i ys hys;rw[aH]at d;split at d
     .
      rename_i hcw;obtain⟨hcan,k9⟩:=gf hcw;obtain⟨j0,y9⟩:=ep d;obtain⟨i0,hk2'⟩:=ep y9;obtain⟨h0,hk3⟩:=ep hk2';obtain⟨e0,o0⟩:=eD hys;cases e0;have o0:l=ys:=o0;subst o0;have h0:gu (([]:List Int).length+l.length) 8=true:=h0;rw[fZ,bi]at h0;unfold aU at j0;simp only[ae,bB]at j0;obtain⟨n,rfl⟩:∃n:Nat,i=Int.ofNat n:=⟨_,pu j0.1⟩;have d0:n<l.length:=kJ.1 j0.2;obtain⟨hl,m0⟩:=M.hD m _ t0;have i0:j=ah .i64 (Int.ofNat n) 1:=br i0;rw[QC (by omega)]at i0;subst i0;rw[hG]at g0;have w9:=g0.2.2.1 _ l (by rw[M.st];exact t0);unfold fO at w9;unfold gx at m0
      cases p:E.mb m with
       |none=>rw[p]at m0;rw[m0]at d0;cases d0
       |some b=>
       rw[p]at m0 w9;subst w9;obtain⟨y,p1,p2,p3,p4,p5⟩:=m0;obtain⟨r0,A,g2⟩:=FD (R:=dY E.hp E.Z (.int .i64)) (o:=0) (z:=(U.int .i64).size) (λ_ _ h=>dY.len h) (λi x v0=>by obtain⟨r0,s0,x0⟩:=p5 i x v0;exact⟨r0,by rw[bi];exact s0,x0⟩);have A:cF y 0 (l.length*1)=some r0:=A;rw[gU]at A;have hcs:=G0 g2;subst hcs;obtain⟨n0,p0,c0,q9,d2,d3,d4,d5⟩:=g9.1 rfl h b l.length n y _ (by rw[<-M.hp];exact p1) p2 (mm M t0 (.inl p) k9) p3 A hl h0 d0;have f0:∀j,(S.lZ m).st.ap j=if j=m then none else S.st.ap j:=λj=>Tr.gC _ _ _;have a0:g8 l (Int.ofNat n)=l.eraseIdx n:=rfl;have x9:(l.eraseIdx n).length=l.length-1:=by rw[sU,aA d0]
       have b0:cF p0 0 (l.length-1)=some ((l.eraseIdx n).map (HV.int .i64)):=by rw[d5,Lx]
       have hyn:l.length-1<=p0.n:=by
        by_cases l0:l.length-1=0;.omega
        .rw[fV]at b0;have:=(b0.2 (l.length-2) (by omega)).1;omega
       have:=mD (st1:=(S.lZ m).st) (hp':=n0) (nx':=h.nx) (o:=some b) (e:= .row (.int .i64) (g8 l (Int.ofNat n))) M (λj e y0=>by
        rw[f0]at y0;split at y0;.cases y0
        .exact y0) (λj s0 x0=>by
        rw[f0]at x0;split at x0;.rename_i hjm;rw[hjm];exact hcan
        .exact absurd x0 s0) (λc q0=>by
        by_cases l9:c=b;.subst l9;exact .inr ⟨m,_,t0,.inl p,by rw[f0,aA rfl]⟩
        .exact .inl (q9 c l9)) (au _) (λc q0=>by rw[q9 c (by have:=(M.own m _ b t0 (.inl p)).2;omega)];exact M.fr c q0) (λc q0=>by cases q0;exact⟨(M.own m _ b t0 (.inl p)).2,.inr ⟨m,_,t0,.inl p,by rw[f0,aA rfl],k9⟩⟩) λ_ _=>⟨by rw[a0,x9];omega,by rw[kQ];refine⟨p0,d2,d3,d4,?_,λi x v0=>Dg b0 i x v0⟩;rw[a0,x9];show(l.length-1)*1<=p0.n;omega⟩
       refine⟨_,_,_,_,_,c0,this.1,this.2,rfl,rfl,hG.2 ⟨a7 _,rfl,λu s9 g=>?_,λt k g z9=>?_⟩,hk3⟩;.have g:((S.lZ m).st.set S.nx (.row (.int .i64) (g8 l (Int.ofNat n)))).ap S.nx=some (.row u s9):=g;rw[Tr.a8]at g;cases g;rw[kQ];show _=HV.sl b 0 (g8 l (Int.ofNat n)).length;rw[a0,x9]
       .have g:((S.lZ m).st.set S.nx (.row (.int .i64) (g8 l (Int.ofNat n)))).ap S.nx=some t:=g;rw[Tr.a8]at g;cases g;cases z9
     .cases d
    .cases d
   .cases d
  .cases d
 .
  rename_i x;unfold Vs at z;obtain⟨t9,r1,rfl,v0,z⟩:=z;unfold Vs at z;subst z;have v0:V E x t9:=v0;split at d
  .
   rename_i fn hfn;split at d
   .
    rename_i t ht;unfold tO at d;split at d
    .
     rename_i y u v9 hu;rw[aH]at d;split at d
     .
      rename_i hsrc;split at d
      .
       rename_i B j9;split at d
       .
        rename_i L o9;split at d
        .
         rename_i u0 hS1;split at d
         .
          rename_i ia S2 hown;obtain⟨h9,y9⟩:=ep d;cases hown;obtain⟨w0,r9,A,o0,e2,e3,e4,e5,e6⟩:=mO M hS1;obtain⟨c,hsc,n9,hns⟩:=v6 M v0 j9 o9 r9 A e3;have g:=pa v9 hu;have hcl:=nk (z:=u.size) (λ_ _ h=>h.len) n9;have hkind:=MY M j9 v0 o9;obtain⟨c9,n0,f9,c0,a9,b2,b3,b4⟩:=g9.2 rfl fn t y hfn ht v9 h t9 c B.length M.fr (λb p=>(M.lk b p).1) (by rw[g];exact hsc) hkind (by rw[g];exact hcl) (by have:gu (([]:List (D u)).length+B.length) y.lq=true:=h9;simpa using this);have hbig:B.length<=140737488355328:=tc (by have:gu (([]:List (D u)).length+B.length) y.lq=true:=h9;simpa using this) (oO v9).2
          have p9:∀(o:Option Nat),(∀b,o=some b->b<f9/\h.nx<=b)->((∀u r0 x,dY w0.hp w0.Z u r0 x->dY n0 w0.Z u r0 x)->gx ⟨n0,w0.Z,w0.mb,w0.ib,w0.st,w0.nx⟩ o u B)->fO o B.length c9->∃v z0 s C E',(∃k0,∀k,k0<=k->call cy.cx (run cy.cx k) f [t9] h=some (v,z0))/\dc C z0 E'/\Gr S h E C z0 E'/\C.dC=S.dC/\z0.dC=h.dC/\V E' s v/\K s C=some r:=by
           intro o i9 hR m9;have:=mD (st1:=u0.st) (hp':=n0) (nx':=f9) (o:=o) (e:= .row u (aX [] B)) r9 (λ_ _ h=>h) (λj s0 x0=>absurd x0 s0) (λb p=> .inl (b2 b p)) a9 b3 (λb p=>⟨(i9 b p).1,.inl (i9 b p).2⟩) λA _=>⟨hbig,by rw[kQ];exact hR A⟩;refine⟨c9,_,_,_,_,c0,this.1,A.trans this.2,o0,rfl,hG.2 ⟨a7 _,An m9,λw s9 g=>?_,λt k g z9=>?_⟩,y9⟩;.have g:(u0.st.set u0.nx (.row u (aX [] B))).ap u0.nx=some (.row w s9):=g;rw[Tr.a8]at g;cases g;rw[kQ];exact m9
           .have g:(u0.st.set u0.nx (.row u (aX [] B))).ap u0.nx=some t:=g;rw[Tr.a8]at g;cases g;cases z9
          rcases b4 with⟨rfl,l0⟩|⟨b,p0,rfl,s0,x0,q3,q4,e9,u9⟩;.exact p9 none (λb p=>by cases p) (λ_=>eN.1 l0) ⟨l0,.inl rfl⟩
          .
           rw[g]at e9 u9;refine p9 (some b) (λc q0=>by cases q0;exact⟨x0,s0⟩) (λA=>⟨p0,q3,q4,e9,?_,λi x hxi=>?_⟩) rfl
           .
            by_cases l0:B.length*u.size=0;.omega
            .have d9:=u9;rw[fV]at d9;have:=(d9.2 (B.length*u.size-1) (by omega)).1;omega
           .obtain⟨c1,c2,c3,w1,w2,w3,w4⟩:=lw (z:=u.size) (λ_ _ h=>h.len) n9 hxi;have:=fz u9 w1 w2 w3;rw[bi]at this;exact⟨c2,this,A _ _ _ w4⟩
         .cases d
        .cases d
       .cases d
      .cases d
     .cases d
    .cases d
   .cases d
  .cases d
 .cases d
theorem M7{n:sn}(u:pJ cy n){f:FuncId}{b:Code}{hh:List Hi}{S:SS}{h:St}{K:SS->Option R}(g:O8 cy n f b hh S K=some r)(M:dc S h E)(j:dB S h E)(u0:S.kp=[]):∃e h1 S2 c,(∃k0,∀k,k0<=k->run cy.cx k b h=some (e,h1))/\(∀a,e≠.exit a)/\dc S2 h1 c/\dB S2 h1 c/\Gr S h E S2 h1 c/\K S2=some r:=by
 unfold O8 at g;rw[aH]at g;split at g
 .
  rename_i s;obtain⟨d,t,l⟩:=jq g;split at l
  .
   rename_i S2 q;have o:dc (S.jQ S.nx hh (ke S hh) S.kp) h E:=M.re rfl rfl rfl rfl rfl rfl;obtain⟨e,h1,p,v0,v,w,x,y,z,i⟩:=u _ _ _ _ _ _ _ t h E o ⟨j.nt,j.v⟩;have m:∀a,e≠.exit a:=by rintro a rfl;cases i
   have i:i8 S p hh [] []=some d:=by cases e with
    |exit a=>exact absurd rfl (m a)
    |cN=>exact i
    |ret=>exact i
   obtain⟨c,A,B,C,t0,D,z0,y0,x0,w0⟩:=xM M j w x y z i q;exact⟨e,h1,S2,c,v,m,A,B,zn s C rfl rfl D z0 y0 x0 w0,l⟩
  .cases l
 .cases g
theorem JY(e0:∀f c,cy.ct.ap f=some c->tZ cy.cx f c)(b9:∀f q,cy.sp.ap f=some q->om cy.cx f q){w9:sn}(a0:pJ cy w9){f:FuncId}{args:List SV}{i:List HV}(a:JZ cy w9 f args S K=some r)(M:dc S h E)(p:Vs E args i):∃v n s j E',(∃k0,∀k,k0<=k->call cy.cx (run cy.cx k) f i h=some (v,n))/\dc j n E'/\Gr S h E j n E'/\j.dC=S.dC/\n.dC=h.dC/\V E' s v/\K s j=some r:=by
 unfold JZ at a;split at a
 .
  rename_i q r0;rw[aH]at a;split at a
  .
   rename_i w0;have w0:=aw w0;subst w0;split at a;.unfold Vs at p;subst p;exact⟨.bool true,h,.bool true true,S,E,⟨0,λk _=>by unfold call;rw[r0];rfl⟩,M,Gr.refl,rfl,rfl,ix.2 rfl,a⟩
   .cases a
  .cases a
 .
  rename_i r0;split at a;.rename_i q w0;exact I9 (b9 f q w0) a M p
  split at a
  .
   rename_i c f0;split at a
   .
    rename_i x y9;split at a
    .
     rename_i L g0;split at a
     .
      rename_i A i9;obtain⟨y,x9,y0⟩:=jq a;clear a;obtain⟨g,z,C,j9,e2,h0,e4,e5,e6⟩:=mO M i9;have hE1:g.hp=E.hp:=by rw[z.hp,M.hp]
      have d0:∀m e,E.st.ap m=some e->oN E m e:=λm e x0=>M.hD m e (by rw[<-M.st];exact x0)
      obtain⟨l,o,u,B,g9,q9,p9,o9,n9,m9,l9⟩:∃l o u B,(∃k0,∀k,k0<=k->call cy.cx (run cy.cx k) f i h=some (one l,⟨h.nt,h.dC,o,u,h.lk,h.df⟩))/\h.nx<=u/\(∀b,b<h.nx->o.ap b=h.hp.ap b)/\(∀b,u<=b->o.ap b=none)/\(∀b,g.Z b->B b)/\(∀b,B b->g.Z b\/h.nx<=b/\b<u)/\iz o B c.r l y:=by
       cases c0:c.r.i5 with
        |true=>
        have p0:iz h.hp (λb=>E.Z b\/Ow S E b) c.a i x:=by rw[<-M.hp];exact n6 (E:=E) (Q:=λb=>E.Z b\/Ow S E b) (k:=3) (λb d=> .inl d) d0 (by rw[M.st];exact y9) p (tH (λm e b x0 d=> .inr ⟨m,e,by rw[<-M.st];exact x0,d⟩) (by rw[M.st];exact g0))
        obtain⟨l,o,u,B,w,v0,u0,q4,q5,q6,q7⟩:=e0 f c f0 h _ i x y M.fr (λb d=>(M.lk b d).1) (λb d=>by
         rcases d with d|⟨m,e,x0,d⟩;.exact M.z b d
         .exact(M.own m e b x0 d).2) p0 x9
        exact⟨l,o,u,g.Z,w,v0,u0,q4,λb d=>d,λb d=> .inl d,q7.i5 c0⟩
        |false=>
        rw[c0]at h0;have p0:iz h.hp g.Z c.a i x:=by rw[<-M.hp];exact n6 (E:=E) (Q:=g.Z) (k:=3) C.z d0 (by rw[M.st];exact y9) p (mz (E:=E) (Q:=g.Z) (by rw[M.st];exact g0) λa9 k9 r9 d9 f9 h9=>h0 a9 k9 r9 (fs.2 d9) (by rw[<-M.st];exact f9) h9)
        exact e0 f c f0 h _ i x y M.fr (λb d=>(M.lk b d).1) z.z p0 x9
      obtain⟨t0,D⟩:=Ni z p9 q9 o9 n9 m9;refine⟨one l,_,_,_,_,g9,t0,C.trans D,j9,rfl,?_,y0⟩;exact xt (qb (E:=⟨o,B,g.mb,g.ib,g.st,g.nx⟩) l9)
     .cases a
    .cases a
   .cases a
  .
   split at a
   .
    rename_i s0 b0;split at a
    .
     rename_i b d;rw[aH]at a;split at a
     .
      rename_i e9;have z9:Nat.ble i.length s0.ntmps=true:=by rw[wT p];exact e9
      split at a
      .
       rename_i c9;obtain⟨e,z0,A,g,⟨k0,l0⟩,z,t9,C,_,y0⟩:=a0 _ _ _ _ _ _ _ a ⟨s0.ntmps,lU 0 i .e,h.hp,h.nx,h.lk,.undef⟩ E (M.re rfl rfl rfl rfl rfl rfl) (uv p)
       have v9:∀(q0:∀t,e≠.exit t),sD cy A s0.results.toList (λl=>K (Ah l) (S.mem A.st A.nx))=some r->∃v n s j E',(∃k0,∀k,k0<=k->call cy.cx (run cy.cx k) f i h=some (v,n))/\dc j n E'/\Gr S h E j n E'/\j.dC=S.dC/\n.dC=h.dC/\V E' s v/\K s j=some r:=by
        intro q0 m0;obtain⟨l,j0,w,v0,u0⟩:=oZ z t9 m0;refine⟨one j0,⟨h.nt,h.dC,z0.hp,z0.nx,h.lk,h.df⟩,Ah l,S.mem A.st A.nx,g,⟨k0,λk n0=>?_⟩,?_,?_,rfl,rfl,xt v0,u0⟩
        .unfold call;rw[r0,b0];simp only;rw[d];simp only;rw[z9,l0 k n0];cases e with
         |exit t=>exact absurd rfl (q0 t)
         |cN=>simp only[gg];rw[w]
         |ret=>simp only[gg];rw[w]
        .exact z.re rfl rfl C.FC.symm rfl rfl C.lk.symm
        .exact C.re rfl rfl (λ_ _ h=>h) rfl rfl (λ_ h=>h) rfl rfl rfl rfl rfl rfl rfl rfl rfl rfl rfl rfl
       cases e with
        |exit t=>cases y0
        |cN=>exact v9 (λt o0=>by cases o0) y0
        |ret=>exact v9 (λt o0=>by cases o0) y0
      .
       rename_i hh c9;obtain⟨e,z0,i0,u9,⟨k0,l0⟩,q0,t0,s9,D,m0⟩:=M7 a0 a (h:=⟨s0.ntmps,lU 0 i .e,h.hp,h.nx,h.lk,.undef⟩) (M.re rfl rfl rfl rfl rfl rfl) (uv p) rfl;obtain⟨l,j0,w,v0,u0⟩:=oZ t0 s9 m0;refine⟨one j0,⟨h.nt,h.dC,z0.hp,z0.nx,h.lk,h.df⟩,Ah l,S.mem i0.st i0.nx,u9,⟨k0,λk n0=>?_⟩,?_,?_,rfl,rfl,xt v0,u0⟩
       .unfold call;rw[r0,b0];simp only;rw[d];simp only;rw[z9,l0 k n0];cases e with
        |exit t=>exact absurd rfl (q0 t)
        |cN=>simp only[gg];rw[w]
        |ret=>simp only[gg];rw[w]
       .exact t0.re rfl rfl D.FC.symm rfl rfl D.lk.symm
       .exact D.re rfl rfl (λ_ _ h=>h) rfl rfl (λ_ h=>h) rfl rfl rfl rfl rfl rfl rfl rfl rfl rfl rfl rfl
     .cases a
    .cases a
   .cases a
end
section
variable{α:Type}{Q:List HV->α->Prop}
theorem DL{z:Nat}(b:∀c x,Q c x->c.length=z):∀{xs:List α}{cs:List HV}(k:Nat),nO Q cs xs->nO Q (cs.take (k*z)) (xs.take k)
 |[],cs,k,h=>by have h:cs=[]:=h;subst h;rw[t7,t7];rfl
 |x::xs,cs,0,_=>by rw[fP,fQ,fQ];rfl
 |x::xs,cs,k+1,⟨c,d,e,a,f⟩=>by rw[e,List.take_succ_cons];have g:=b _ _ a;refine⟨c,d.take (k*z),?_,a,DL b k f⟩;rw[show(k+1)*z=c.length+k*z by rw[ig,g];omega,List.take_length_add_append]
theorem mR(xs bP:List α):(dR xs bP).length=xs.length:=by unfold dR;rw[ax,aR,cB];omega
theorem DC{y:gK}{w:Bool}{z z':Nat}{xs bP:List α}{c:List HV}(b:∀c x,Q c x->c.length=z)(h:∀i x,xs[i]?=some x->∃cs,cF y (i*z) z=some cs/\Q cs x)(n:nO Q c bP)(f:xs.length*z<=y.n)(i:Nat)(x:α)(a:(dR xs bP)[i]?=some x):∃cs,cF ⟨w,z',y.n,cr y.c 0 (c.take (Nat.min bP.length xs.length*z))⟩ (i*z) z=some cs/\Q cs x:=by
 have q:Nat.min bP.length xs.length<=bP.length:=rA _ _;have r:Nat.min bP.length xs.length<=xs.length:=qt _ _;have z0:Nat.min bP.length xs.length=bP.length\/Nat.min bP.length xs.length=xs.length:=by show min bP.length xs.length=_\/min bP.length xs.length=_;omega
 generalize y0:Nat.min bP.length xs.length=k at*;have g:=DL b k n;have d:=nk b g;rw[aR (l:=bP),gG q]at d;have x0:k*z<=y.n:=aM (co z r) f;have o:=il (T:=y.c) (w:=w) (z:=z') (n:=y.n) (p:=0) (c:=c.take (k*z)) (by omega);have e:i<xs.length:=by have:=(aj.1 a).1;rw[mR]at this;exact this
 unfold dR at a;by_cases p:i<k
 .
  have a:(bP.take k)[i]?=some x:=by rw[bL (by rw[aR];omega),eU,aA e]at a;rw[eU,aA p];exact a
  obtain⟨C,j,D,u,v,A,B⟩:=lw b g a;have:=fz o u v A;rw[bi]at this;exact⟨j,this,B⟩
 .
  have s:(bP.take xs.length).length=k:=by rw[aR];omega
  have t:bP.length=k:=by omega
  rw[bA (by omega),s,gh,t,show k+(i-k)=i by omega]at a;obtain⟨cs,l,m⟩:=h i x a;refine⟨cs,od l (.inr ?_) ?_,m⟩;.rw[d,bi];exact co z (by omega)
  .exact aM (rh e) f
end
section
variable{E:En}{S:SS}{h:St}{cy:Cy}{R:Type}{r:R}{K:SV->SS->Option R}
theorem CT(M:dc S h E){st':Tr iK}(hg:∀j,st'.ap j=S.st.ap j):dc (S.mem st' S.nx) h ⟨E.hp,E.Z,E.mb,E.ib,st',E.nx⟩∧Gr S h E (S.mem st' S.nx) h ⟨E.hp,E.Z,E.mb,E.ib,st',E.nx⟩:=by
 have f:Fm E.nx E ⟨E.hp,E.Z,E.mb,E.ib,st',E.nx⟩:=⟨fun _ h=>h,fun _ _=>rfl,au _,fun _ _=>rfl,fun j u i _ c=>⟨i,by rw[M.st,←hg];exact c,rfl⟩,fun j t k _ c l=>⟨t,by rw[M.st,←hg];exact c,l⟩,fun j g u i _ _ c=>⟨i,by rw[M.st,←hg];exact c,gb.refl,fun _=>rfl⟩⟩;have x:∀j b,Bk ⟨E.hp,E.Z,E.mb,E.ib,st',E.nx⟩ j b↔Bk E j b:=fun _ _=>mg;have g:∀j e,st'.ap j=some e→S.st.ap j=some e:=fun j e a=>by rw[←hg];exact a
 refine⟨⟨M.hp,rfl,M.nx,fun j e a=>M.lt j e (g j e a),fun j e a=>(M.hD j e (g j e a)).fm f rfl (fun _=>rfl) fun _ _=>rfl,fun j n e m b o p q s=>M.inj j n e m b (g j e o) (g n m p) q s,fun j e b a d=>M.own j e b (g j e a) d,M.z,M.fr,fun b d=>⟨(M.lk b d).1,fun j e a=>(M.lk b d).2 j e (g j e a)⟩,M.rN,fun j e a=>M.tk j e (g j e a)⟩,⟨rfl,rfl,rfl,rfl,rfl,rfl,rfl,rfl,au _,au _,fun _ h=>h,fun _ h=> .inl h,fun _ _ _=>rfl,?_,fun _ _=>rfl,fun j _ _=>hg j,fun j _ v=>(hg j).trans v,fun j e i _ c=>⟨i,g j _ c,rfl⟩,fun b j e _ a d=>⟨e,g j e a,d⟩,fun j t k _ c l=>⟨t,g j _ c,l⟩,fun j w e i _ _ c=>⟨i,g j _ c,gb.refl,fun _=>rfl⟩,fun _ _ _ _=>rfl⟩⟩;rintro b⟨j,e,a,d⟩;exact .inl ⟨j,e,g j e a,d⟩
theorem CN{st:Tr iK}{m:Nat}{e:iK}(b:st.ap m=some e)(j:Nat):(st.set m e).ap j=st.ap j:=by
 rw[Tr.dk];split;.rename_i a;rw[a,b]
 .rfl
theorem DG{hp:Tr Hm.Obj}{Z:Nat->Prop}:∀(l:List UInt8),nO (dY hp Z (.int .u8)) (l.map λc=>HV.int .u8 (Int.ofNat c.toNat)) (l.map λc=>Int.ofNat c.toNat)|[]=>rfl|c::l=>⟨[.int .u8 (Int.ofNat c.toNat)],l.map λc=>HV.int .u8 (Int.ofNat c.toNat),rfl,rfl,DG l⟩
theorem DF{hp:Tr Hm.Obj}{Z:Nat->Prop}:∀{l:List Int}{c:List HV},nO (dY hp Z (.int .u8)) c l->qy l=true->ph c=some (l.map λc=>UInt8.ofNat c.toNat)
 |[],c,h,_=>by have h:c=[]:=h;rw[h];rfl
 |x::l,c,h,a=>by obtain⟨d,e,rfl,b,f⟩:=h;have b:d=[.int .u8 x]:=b;subst b;unfold qy at a;rw[cP,ae]at a;have:=DF f a.2;obtain⟨n,rfl⟩:∃n:Nat,x=Int.ofNat n:=⟨x.toNat,(eG (br a.1)).symm⟩;show(match ph e with|some l=>some (UInt8.ofNat n::l)|none=>none)=_;rw[this];rfl
theorem Co(M:dc S h E){a b:Nat}{s:SV}{v:HV}{K:SV->Option R}(d:xY cy S a b s K=some r)(j:V E s v):Pu E h K r (ge cy.cx h a b v):=by
 unfold xY at d;split at d
 .
  rename_i x y o p;split at d
  .
   rename_i k l r0 n i;rw[d7]at j;subst j;refine⟨_,.int k (fT k n),?_,?_,d⟩;.unfold ge;rw[o,p];simp only;rw[i]
   .
    cases l;.exact d7.2 rfl
    .exact d7.2 rfl
  .rename_i b i;rw[pF]at j;subst j;refine⟨_,.ef b,?_,pF.2 rfl,d⟩;unfold ge;rw[o,p];simp only;rw[i]
  .
   rename_i i _;rw[aH]at d;split at d
   .
    rename_i f;rw[ae]at f;obtain⟨f,s0⟩:=f;split at d
    .
     rename_i u0 z;split at d
     .
      rename_i v0 w0;obtain⟨A,d⟩:=ep d;obtain⟨c,g,u,t⟩:=v6 M (u:= .int .u8) j w0 z M Gr.refl (λm e b D=>by cases D);refine⟨_,.ef (CK v0),?_,pF.2 rfl,d⟩
      have C:cellsOf h 1 v=some c:=by
       unfold iW at g;split at g;.exact absurd rfl (t _)
       .
        split at g;.rename_i l k w t0;cases g;exact w
        .cases g
      unfold XW at f;rw[o]at f;simp only at f;split at f
      .
       rename_i e x0;split at f
       .
        rename_i q z0;split at f
        .
         rename_i y0;have B:=DF u A;unfold ge;rw[o,p];simp only;rw[i];cases v;case ef s=>exact absurd rfl (t s)
         all_goals(simp only;rw[x0];simp only;rw[z0];simp only;rw[y0];simp only;rw[C];simp only;rw[B];rfl)
        .cases f
       .cases f
      .cases f
     .cases d
    .cases d
   .cases d
  .cases d
 .cases d
theorem MZ(M:dc S h E){u:U}{y:Nat}{x:SV}{g:HV}{bP:List (D u)}(a:OX cy S u y x=some bP)(k:V E x g):nG cy.cx y g=true/\∃c,iW h u.size g=some (c,bP.length)/\nO (dY E.hp E.Z u) c bP/\∀(m:Nat)(o:Option R),vZ x (ak bP) (Int.ofNat m) o=some r->qU g bP.length m=true/\o=some r:=by
 unfold OX at a;split at a
 .
  rename_i b;rw[aH]at a;split at a
  .
   rename_i y0;obtain⟨z,i⟩:=eD a;cases z;have i:sj b=bP:=i;subst i;rw[pF]at k;subst k;obtain⟨w,A,n⟩:=nH y0;have C:(sj b).length=b.size:=by unfold sj;rw[db];rfl
   refine⟨?_,b.data.toList.map λc=>HV.int .u8 (Int.ofNat c.toNat),?_,DG _,λm o d=>?_⟩;.unfold nG;rw[A];simp only;cases w0:w.sh<;>rw[w0]at n<;>first|rfl|cases n
   .rw[C];rfl
   .have d:aC (cH (ak (sj b)) (Int.ofNat m)) o=some r:=d;obtain⟨f,j⟩:=ep d;refine⟨?_,j⟩;have f:Int.ofNat (sj b).length<=Int.ofNat m:=br f;show Nat.ble (sj b).length m=true;rw[bO];exact kK.1 f
  .cases a
 .cases a
 .
  rename_i z0 u0;rw[aH]at a;split at a
  .
   rename_i t;simp only[ae]at t;obtain⟨x0,B,p⟩:=t
   cases q:mZ S.st [x]with
    |none=>rw[q]at p;cases p
    |some v0=>
    obtain⟨c,f,j,l⟩:=v6 M k a q M Gr.refl (λm e b v=>by rw[B]at v;cases v);refine⟨tw x0 l,c,f,j,λm o d=>⟨?_,?_⟩⟩
    .
     unfold qU;split;.rename_i s;exact absurd rfl (l s)
     .rfl
    .
     unfold vZ at d;split at d;.exact absurd rfl (z0 _)
     .exact d
  .cases a
theorem JP(M:dc S h E){t t2:Nat}{a x:SV}{va vx:HV}(hk:JQ cy S t t2 a x K=some r)(ha:V E a va)(hx:V E x vx):Mv S h E K r (sc cy.cx h t t2 va vx):=by
 unfold JQ at hk;split at hk
 .
  rename_i y u hy hu;have hz:=pa hy hu;split at hk
  .
   rename_i bP hnew;obtain⟨hsrc,c,hsc,hRd,hstr⟩:=MZ (R:=R) (r:=r) M hnew hx;have hcl:=nk (z:=u.size) (λ_ _ h=>h.len) hRd
   have base:∀m,lenOf va=some m->qU vx bP.length m=true->sc cy.cx h t t2 va vx=match(generalizing:=false)va with
    | .ef _=>none
    | .sl b o _=>match h.fo b o (c.take (Nat.mul (Nat.min bP.length m) u.size))with|some s'=>some (.val (.int .i64 (Int.ofNat (Nat.min bP.length m))) s')|none=>none
    | .jh b o _=>match h.fo b o (c.take (Nat.mul (Nat.min bP.length m) u.size))with|some s'=>some (.val (.int .i64 (Int.ofNat (Nat.min bP.length m))) s')|none=>none
    |_=>some (.val (.int .i64 0) h):=by intro m h1 h2;unfold sc;rw[hy];simp only;rw[hsrc,hz,hsc,h1];simp only;rw[h2];rfl
   have Hl:∀m,m<=140737488355328->(c.take (Nat.min bP.length m*u.size)).length=Nat.min bP.length m*u.size:=by intro m _;rw[aR,hcl];have:Nat.min bP.length m*u.size<=bP.length*u.size:=co _ (rA _ _);omega
   split at hk
   .
    rename_i m;split at hk
    .
     rename_i e xs hm;split at hk
     .
      rename_i ys hys;rw[aH]at hk;split at hk
      .
       rename_i hcond;simp only[ae]at hcond;obtain⟨hcan,hlk⟩:=gf hcond.1;obtain⟨e0,e1⟩:=eD hys;cases e0;have e1:xs=ys:=e1;subst e1;rw[hG]at ha;have hrv:=ha.2.2.1 _ xs (by rw[M.st];exact hm);obtain⟨hl,hr⟩:=M.hD m _ hm;obtain⟨hfit,hk2⟩:=hstr xs.length _ hk;have hb:=base xs.length (nB hrv) hfit;rw[hb];unfold fO at hrv;unfold gx at hr
       cases hmb:E.mb m with
        |none=>
        rw[hmb]at hr hrv;have hr:xs=[]:=hr;subst hr;have hcp:dR ([]:List (D u)) bP=[]:=by unfold dR;simp
        rw[hcp]at hk2;obtain⟨q1,q2⟩:=CT M (st':=S.st.set m (.row u ([]:List (D u)))) (CN hm);have hmin:Ek ([]:List (D u)) bP=0:=by show Int.ofNat (min bP.length 0)=0;rw[Nat.min_zero];rfl
        rw[hmin]at hk2;refine⟨_,.int .i64 0,_,_,_,?_,q1,q2,rfl,rfl,d7.2 rfl,hk2⟩;rcases hrv.2 with rfl|rfl<;>rfl
        |some b=>
        rw[hmb]at hr hrv;subst hrv;obtain⟨y',p1,p2,p3,p4,p5⟩:=hr;have p1':h.hp.ap b=some (.cp y'):=by rw[<-M.hp];exact p1
        have htl:=Hl xs.length hl;have hle:Nat.min bP.length xs.length*u.size<=xs.length*u.size:=co _ (qt _ _);have hw:=jO (o:=0) (c:=c.take (Nat.min bP.length xs.length*u.size)) p1' p2 (mm M hm (.inl hmb) hlk) (by rw[htl];omega);have:=qN (b:=b) (e:= .row u (dR xs bP)) (hp':=h.hp.set b (.cp ⟨true,y'.z,y'.n,cr y'.c 0 (c.take (Nat.min bP.length xs.length*u.size))⟩)) M hm hcan (.inl hmb) (λc hc=>Tr.bS _ _ hc) (λu' xs' he=>by cases he;exact⟨xs,rfl,(mR xs bP).symm⟩) (λg u' xs' he=>by cases he) rfl λk1 _=>⟨by rw[mR];exact hl,by show gx _ (E.mb m) u (dR xs bP);rw[hmb];refine⟨_,Tr.a8 _ _ _,rfl,p3,by rw[mR];exact p4,λi x hxi=>?_⟩;obtain⟨cs,w1,w2⟩:=DC (w:=true) (z':=y'.z) (λ_ _ h=>h.len) p5 hRd p4 i x hxi;exact⟨cs,w1,k1 _ _ _ w2⟩⟩;refine⟨_,.int .i64 (Int.ofNat (Nat.min bP.length xs.length)),_,_,_,?_,this.1,this.2,rfl,rfl,d7.2 rfl,hk2⟩;show(match h.fo b 0 (c.take (Nat.min bP.length xs.length*u.size))with|some s'=>_|none=>none)=_;rw[hw]
      .cases hk
     .cases hk
    .cases hk
   .
    rename_i m g j;split at hk
    .
     rename_i g' e xs hm;rw[aH]at hk;split at hk
     .
      rename_i hcond;simp only[ae]at hcond;obtain⟨hg,hcw,hflat⟩:=hcond;have hg:=aw hg;subst hg;obtain⟨hcan,hlk⟩:=gf hcw;obtain⟨l,hl0,hk1⟩:=jq hk;clear hk;split at hk1
      .
       rename_i ys hys;split at hk1
       .
        rename_i zs hzs;obtain⟨e0,e1⟩:=eD hys;cases e0;have e1:l=ys:=e1;subst e1;obtain⟨e2,e3⟩:=eD hzs;have e3:dR l bP=zs:=e3;subst e3;rw[BG]at ha;obtain⟨k,l',rfl,hkl,hrv⟩:=ha.2.2.2 _ xs (by rw[M.st];exact hm);obtain⟨n,hn,hxn⟩:=lL hl0;cases hn;rw[hkl]at hxn;cases hxn;have hkx:=(aj.1 hkl).1;obtain⟨w0,hxl,hR⟩:=M.hD m _ hm;obtain⟨b0,y0,w1,w2,w3,w4,w5,w6,w7,w8,w9⟩:=hR.p hkx;obtain⟨hl,hwv,hr⟩:=w6 k l hkl;obtain⟨hfit,hk2⟩:=hstr l.length _ hk1;have hb:=base l.length (nB hrv) hfit;rw[hb];unfold fO at hrv
        cases hib:E.ib m k with
         |none=>
         rw[hib]at hr hrv;have hr:l=[]:=hr;subst hr;have hcp:dR ([]:List (D u)) bP=[]:=by unfold dR;simp
         rw[hcp]at hk2;have hset:aG xs (Int.ofNat k) ([]:List (D u))=xs:=by show xs.set k []=xs;obtain⟨hlt,heq⟩:=aj.1 hkl;rw[<-heq];exact sv hlt
         rw[hset]at hk2;obtain⟨q1,q2⟩:=CT M (st':=S.st.set m (.rows g u xs)) (CN hm);have hmin:Ek ([]:List (D u)) bP=0:=by show Int.ofNat (min bP.length 0)=0;rw[Nat.min_zero];rfl
         rw[hmin]at hk2;refine⟨_,.int .i64 0,_,_,_,?_,q1,q2,rfl,rfl,d7.2 rfl,hk2⟩;rcases hrv.2 with rfl|rfl<;>rfl
         |some b=>
         rw[hib]at hr hrv;subst hrv;obtain⟨y',p1,p2,p3,p4,p5⟩:=hr;have p1':h.hp.ap b=some (.cp y'):=by rw[<-M.hp];exact p1
         have htl:=Hl l.length hl;have hle:Nat.min bP.length l.length*u.size<=l.length*u.size:=co _ (qt _ _);have hw:=jO (o:=0) (c:=c.take (Nat.min bP.length l.length*u.size)) p1' p2 (mm M hm (.inr ⟨k,hib⟩) hlk) (by rw[htl];omega);have hbb:b0≠b:=by rintro rfl;exact w9 k hib
         have hset:∀i l',(xs.set k (dR l bP))[i]?=some l'->i=k/\l'=dR l bP\/i≠k/\xs[i]?=some l':=by
          intro i l' hi;by_cases hik:i=k;.subst hik;rw[be hkx]at hi;cases hi;exact .inl ⟨rfl,rfl⟩
          .rw[bz λq=>hik q.symm]at hi;exact .inr ⟨hik,hi⟩
         have:=qN (b:=b) (e:= .rows g u (aG xs (Int.ofNat k) (dR l bP))) (hp':=h.hp.set b (.cp ⟨true,y'.z,y'.n,cr y'.c 0 (c.take (Nat.min bP.length l.length*u.size))⟩)) M hm hcan (.inr ⟨k,hib⟩) (λc hc=>Tr.bS _ _ hc) (λu' xs' he=>by cases he) (λg' u' xs' he=>by
          cases he;refine⟨xs,rfl,by show xs.length=(xs.set k _).length;rw[bx],λi l' hi=>?_⟩;by_cases hik:i=k;.subst hik;rw[hkl]at hi;cases hi;exact⟨dR l bP,be hkx,mR l bP⟩
          .exact⟨l',(bz λq=>hik q.symm).trans hi,rfl⟩) (by show some (xs.set k _).length=some xs.length;rw[bx]) λk1 _=>by
          refine⟨w0,by show(xs.set k _).length<=_;rw[bx];exact hxl,.inr ⟨b0,y0,w1,?_,w3,w4,by show(xs.set k _).length<=_;rw[bx];exact w5,λi l' hi=>?_,λi hi=>w7 i (by have hi:(xs.set k _).length<=i:=hi;rw[bx]at hi;exact hi),w8,w9⟩⟩;.show(h.hp.set b _).ap b0=_;rw[Tr.bS _ _ hbb,<-M.hp];exact w2
          .
           rcases hset i l' hi with⟨rfl,rfl⟩|⟨hik,hi⟩;.refine⟨by rw[mR];exact hl,by rw[mR];exact hwv,?_⟩;show gx _ (E.ib m i) u (dR l bP);rw[hib];refine⟨_,Tr.a8 _ _ _,rfl,p3,by rw[mR];exact p4,λi x hxi=>?_⟩;obtain⟨cs,v1,v2⟩:=DC (w:=true) (z':=y'.z) (λ_ _ h=>h.len) p5 hRd p4 i x hxi;exact⟨cs,v1,k1 _ _ _ v2⟩
           .
            obtain⟨v1,v2,v3⟩:=w6 i l' hi;refine⟨v1,v2,?_⟩;show gx _ (E.ib m i) u l';unfold gx at v3⊢
            cases hic:E.ib m i with
             |none=>rw[hic]at v3;exact v3
             |some b2=>
             rw[hic]at v3;obtain⟨y2,z1,z2,z3,z4,z5⟩:=v3;refine⟨y2,?_,z2,z3,z4,λi x hxi=>?_⟩;.show(h.hp.set b _).ap b2=_;rw[Tr.bS _ _ (by rintro rfl;exact hik (w8 _ _ _ hic hib)),<-M.hp];exact z1
             .obtain⟨cs,v1,v2⟩:=z5 i x hxi;exact⟨cs,v1,k1 _ _ _ v2⟩
         refine⟨_,.int .i64 (Int.ofNat (Nat.min bP.length l.length)),_,_,_,?_,this.1,this.2,rfl,rfl,d7.2 rfl,hk2⟩;show(match h.fo b 0 (c.take (Nat.min bP.length l.length*u.size))with|some s'=>_|none=>none)=_;rw[hw]
       .cases hk1
      .cases hk1
     .cases hk
    .cases hk
   .obtain⟨hfit,hk2⟩:=hstr 0 _ hk;rw[kW]at ha;subst ha;rw[base 0 rfl hfit];exact⟨_,.int .i64 0,h,S,E,rfl,M,Gr.refl,rfl,rfl,d7.2 rfl,hk2⟩
   .cases hk
  .cases hk
 .cases hk
theorem GW(M:dc S h E){K:SV->Option R}{s:SV}{v:HV}(a:EW S s K=some r)(d:V E s v):∃w n,K w=some r/\V E w (.int .i64 (Int.ofNat n))/\(∀m g j,s= .sub m g j->lenOf v=some n/\(v= .cM\/v= .gz\/∃b o l,v= .sl b o l))/\∀m,s= .map m->∃b p,v= .map b/\h.hp.ap b=some (.map p)/\p.length=n:=by
 unfold EW at a;split at a
 .
  rename_i m g j;split at a
  .
   rename_i x0 e z0 i;rw[aH]at a;split at a
   .
    rename_i f;have f:=aw f;subst f;obtain⟨l,B,z⟩:=jq a;rw[BG]at d;obtain⟨k,w0,rfl,A,c⟩:=d.2.2.2 _ z0 (by rw[M.st];exact i);obtain⟨n,C,u⟩:=lL B;cases C;rw[A]at u;cases u;refine⟨_,l.length,z,d7.2 rfl,λ_ _ _ _=>⟨nB c,?_⟩,λm h=>by cases h⟩;unfold fO at c
    cases t:E.ib m k with
     |none=>
     rw[t]at c;rcases c.2 with h|h;.exact .inl h
     .exact .inr (.inl h)
     |some b=>rw[t]at c;exact .inr (.inr ⟨_,_,_,c⟩)
   .cases a
  .cases a
 .
  rename_i m;split at a;.rename_i D i;rw[BH]at d;obtain⟨_,b,y,rfl⟩:=d;obtain⟨y0,q,x⟩:=M.hD m _ i;rw[y]at q;cases q;refine⟨_,D.length,a,d7.2 rfl,λm g j h=>(by cases h),λ_ _=>⟨b,_,rfl,by rw[<-M.hp];exact x,?_⟩⟩;unfold AO;rw[db]
  .cases a
 .cases a
theorem Di(k:Int):∀(c:List (Int×Bool×Unit)),qf .i64 k (AO c)=some (bif AN c k then some (.bool (ri c k))else none)/\(AN c k=false->ri c k=false)
 |[]=>⟨rfl,λ_=>rfl⟩
 |(a,b,u)::r=>by
  obtain⟨f,g⟩:=Di k r;have e:AO ((a,b,u)::r)=(.int .i64 a,.bool b)::AO r:=rfl;rw[e];unfold qf AN ri;by_cases d:k=a;.simp[d]
  .simp[d];exact⟨f,g⟩
theorem CQ(k:Int)(v:Bool):∀(d:List (Int×Bool×Unit)),uf .i64 k (.bool v) (AO d)=some (AO (m6 d k v))
 |[]=>rfl
 |(a,b,u)::r=>by
  have f:=CQ k v r;have e:AO ((a,b,u)::r)=(.int .i64 a,.bool b)::AO r:=rfl;rw[e];unfold uf m6;by_cases c:k=a;.simp[c];rfl
  .simp[c];rw[f];rfl
theorem C8{m:SV}{K:List (Int×Bool×Unit)->Nat->Option R}(a:La S m K=some r)(M:dc S h E){v:HV}(g:V E m v):∃n c b,m= .map n/\S.st.ap n=some (.map c)/\E.mb n=some b/\v= .map b/\h.hp.ap b=some (.map (AO c))/\K c n=some r:=by
 unfold La at a;split at a
 .
  rename_i n;split at a;.rename_i c f;rw[BH]at g;obtain⟨_,b,e,rfl⟩:=g;obtain⟨j,d,i⟩:=M.hD n _ f;rw[e]at d;cases d;exact⟨n,c,b,rfl,f,e,rfl,by rw[<-M.hp];exact i,a⟩
  .cases a
 .cases a
theorem ES(M:dc S h E){K:SV->Option R}{t:Nat}{m i:SV}{ok:Bool}{g f:HV}(a:AQ cy S t m i ok K=some r)(v:V E m g)(hi:V E i f):Pu E h K r (nL cy.cx h t g f ok):=by
 unfold AQ at a;split at a
 .
  rename_i e l k s;rw[aH]at a;split at a
  .
   rename_i d;rw[ae]at d;obtain⟨n,c,b,rfl,y,z,rfl,p,q⟩:=C8 a M v;rw[d7]at hi;subst hi
   have w:cy.cx.vV e=some (.bool false):=by
    have:=d.2;unfold Ox at this;split at this;.assumption
    .cases this
   obtain⟨j,o⟩:=Di k c
   have x:nL cy.cx h t (.map b) (.int .i64 k) ok=some (.val (bif ok then .mx [.bool (ri c k),.bool (AN c k)]else .bool (ri c k)) h):=by unfold nL;rw[s];simp only[vI];rw[p];simp only;rw[j];cases u:AN c k with
    |true=>rfl
    |false=>simp only[kg];rw[w,o u]
   refine⟨_,_,x,?_,q⟩
   cases ok with
    |true=>exact BF.2 ⟨_,rfl,by unfold Vs;exact⟨_,_,rfl,ix.2 rfl,by unfold Vs;exact⟨_,_,rfl,ix.2 rfl,by unfold Vs;rfl⟩⟩⟩
    |false=>exact ix.2 rfl
  .cases a
 .cases a
theorem Ec(M:dc S h E){K:SS->Option R}{t:Nat}{m i w:SV}{v s x:HV}(f:zN cy S t m i w K=some r)(z0:V E m v)(hi:V E i s)(p:V E w x):Ma S h E K r (pb cy.cx h t v s x):=by
 unfold zN at f;split at f
 .
  rename_i e l k x0 b a;obtain⟨n,q,c,rfl,o,j,rfl,y,d⟩:=C8 f M z0;rw[d7]at hi;subst hi;rw[ix]at p;subst p;rw[aH]at d;split at d;.rename_i B;obtain⟨A,D⟩:=gf B;have C:=mm M o (.inl j) D;have:=qN (b:=c) (e:= .map (m6 q k b)) (hp':=h.hp.set c (.map (AO (m6 q k b)))) M o A (.inl j) (λc z=>Tr.bS _ _ z) (λu y0 a=>by cases a) (λg u y0 a=>by cases a) rfl λ_ _=>⟨c,j,Tr.a8 _ _ _⟩;refine⟨_,_,_,?_,this.1,this.2,rfl,rfl,d⟩;unfold pb;rw[a];simp only;unfold St.gD;rw[C,y];simp only[kF,gg];rw[CQ]
  .cases d
 .cases f
theorem EQ(M:dc S h E)(e:K (.map S.nx) (S.bP (.map []))=some r):Mv S h E K r (Bm h):=by have:=mD (st1:=S.st) (hp':=h.hp.set h.nx (.map [])) (nx':=h.nx+1) (o:=some h.nx) (e:= .map []) M (λ_ _ h=>h) (λj c d=>absurd d c) (λb a=> .inl (o4 b a)) (dg _) (λb a=>ul M b a) (λb a=>by cases a;exact⟨a7 _,.inl (au _)⟩) λ_ _=>⟨h.nx,kQ,Tr.a8 _ _ _⟩;exact⟨_,.map h.nx,_,_,_,rfl,this.1,this.2,rfl,rfl,BH.2 ⟨a7 _,h.nx,kQ,rfl⟩,e⟩
end
def Xl(cx:Cx)(h:St)(o:Op)(v:HV)(a:St):Prop:=∃c,∀k,c<=k->kU cx h o=some (.val v a)\/kU cx h o=some (.Fx a)/\v= .undef\/∃f b,kU cx h o=some (.call f b)/\call cx (run cx k) f b h=some (v,a)
def Xo(cy:Cy)(S:SS)(h:St)(E:En){R:Type}(K:SV->SS->Option R)(r:R)(o:Op):Prop:=∃s v b a c,Xl cy.cx h o v b/\dc a b c/\Gr S h E a b c/\a.dC=S.dC/\b.dC=h.dC/\V c s v/\K s a=some r
section
variable{E:En}{S:SS}{h:St}{cy:Cy}{R:Type}{r:R}{K:SV->SS->Option R}
theorem fb{k:HV->Option Rs}{x:Operand}{v:HV}(g:h.ev x=some v):fD h k x=k v:=by unfold fD;rw[g]
theorem dQ{S:SS}{x:Operand}{K:SV->Option R}(a:jy S x K=some r):∃s,S.ev x=some s/\K s=some r:=by
 unfold jy at a;split at a;.exact⟨_,by assumption,a⟩
 .cases a
theorem Mv.op{o:Op}{q:Option Rs}(m:Mv S h E K r q)(e:kU cy.cx h o=q):Xo cy S h E K r o:=by obtain⟨s,v,c,b,a,d,f,g,i,j,l,n⟩:=m;exact⟨s,v,c,b,a,⟨0,λk _=> .inl (by rw[e];exact d)⟩,f,g,i,j,l,n⟩
theorem Pu.op(M:dc S h E){o:Op}{q:Option Rs}(p:Pu E h (λv=>K v S) r q)(e:kU cy.cx h o=q):Xo cy S h E K r o:=(Pu.mv M p).op e
theorem TL{a b:List SV}:∀{u v:List HV},Vs E a u->Vs E b v->Vs E (a++b) (u++v):=by induction a with
 |nil=>intro u v c d;unfold Vs at c;subst c;exact d
 |cons s a g=>intro u v c d;unfold Vs at c;obtain⟨w,q,rfl,e,f⟩:=c;show Vs E (s::(a++b)) _;unfold Vs;exact⟨w,q++v,rfl,e,g f d⟩
theorem Cs(M:dc S h E){b:Builtin}{ts:List Nat}{args:List SV}{y0:List HV}(a:xZ cy S b ts args K=some r)(f:Vs E args y0):Mv S h E K r (ff cy.cx h b ts y0):=by
 unfold xZ at a;split at a
 .
  unfold Vs at f;obtain⟨v,q,rfl,d,c⟩:=f;unfold Vs at c;subst c;rw[aH]at a;split at a
  .
   rename_i t s k0;rw[aH]at a;split at a
   .
    rename_i x0;obtain⟨x,w0,z0⟩:=nH x0;obtain⟨p0,n,v0,u0,t0,s0⟩:=GW M a d;refine Pu.mv M ⟨p0,_,?_,u0,v0⟩;unfold ff;simp only;rw[w0];simp only;split at z0
    .
     rename_i e m g j y;obtain⟨z,A⟩:=t0 m g j rfl;rw[y];rcases A with rfl|rfl|⟨b,o,l,rfl⟩;.simp only;rw[z]
     .simp only;rw[z]
     .simp only;rw[z]
    .rename_i n0 m0 m y;obtain⟨b,l0,rfl,A,q0⟩:=s0 m rfl;rw[y];simp only;rw[A,<-q0]
    .cases z0
   .cases a
  .exact Pu.mv M (Nr M a d)
 .unfold Vs at f;obtain⟨v,q,rfl,d,c⟩:=f;unfold Vs at c;obtain⟨o0,r0,rfl,w,i⟩:=c;unfold Vs at i;subst i;exact JP M a d w
 .
  unfold Vs at f;obtain⟨v,q,rfl,d,c⟩:=f;unfold Vs at c;obtain⟨o0,r0,rfl,w,i⟩:=c;unfold Vs at i;subst i
  exact I3 M a d w λB k C D=>by
   rw[aH]at k;split at k;.exact JH B k C D
   .exact Fu B k C D
 .obtain⟨s,d,c⟩:=jl a;obtain⟨v,p,u⟩:=GL d f;refine Pu.mv M ⟨s,v,?_,u,c⟩;unfold ff;simp only;rw[p]
 .obtain⟨s,d,c⟩:=jl a;obtain⟨v,p,u⟩:=GL d f;refine Pu.mv M ⟨s,v,?_,u,c⟩;unfold ff;simp only;rw[p]
 .cases a
theorem Pe(a0:∀f c,cy.ct.ap f=some c->tZ cy.cx f c)(s9:∀f q,cy.sp.ap f=some q->om cy.cx f q){m0:sn}(v9:pJ cy m0){o:Op}(e:Jq cy m0 S o K=some r)(M:dc S h E)(n:dB S h E):Xo cy S h E K r o:=by
 unfold Jq at e;split at e;.obtain⟨s,j,i⟩:=dQ e;obtain⟨v,a,d⟩:=bV n j;exact Pu.op M ⟨s,v,rfl,d,i⟩ (by show fD _ _ _=_;rw[fb a])
 .obtain⟨s,j,i⟩:=dQ e;obtain⟨v,a,d⟩:=bV n j;exact Pu.op M ⟨s,v,rfl,d,i⟩ (by show fD _ _ _=_;rw[fb a])
 .obtain⟨s,j,i⟩:=dQ e;obtain⟨v,a,d⟩:=bV n j;exact Pu.op M (Jj i d (λs o0=>bV n o0) λs o0=>bV n o0) (by show fD _ _ _=_;rw[fb a])
 .
  split at e;.rename_i l A;exact(HI M A e).op rfl
  .cases e
 .
  obtain⟨s,j,i⟩:=dQ e;obtain⟨v,a,d⟩:=bV n j;split at i;.rename_i l A;exact(NQ M A d i).op (by show fD _ _ _=_;rw[fb a])
  .cases i
 .
  split at e;.rename_i l A;obtain⟨q,a,d⟩:=xU n A;exact Pu.op M (Hx e d) (by show(match gR _ _ with|some l=>_|none=>_)=_;rw[a])
  .cases e
 .
  split at e;.rename_i l A;obtain⟨q,a,d⟩:=xU n A;exact(x3 M e d).op (by show(match gR _ _ with|some l=>_|none=>_)=_;rw[a])
  .cases e
 .obtain⟨s,j,i⟩:=dQ e;obtain⟨v,a,d⟩:=bV n j;exact Pu.op M (AU M i d) (by show fD _ _ _=_;rw[fb a])
 .obtain⟨s,j,i⟩:=dQ e;obtain⟨v,a,d⟩:=bV n j;obtain⟨B,p,u⟩:=dQ i;obtain⟨y0,y,z⟩:=bV n p;obtain⟨v0,w0,x0,C,D,z0,u0,t0,s0⟩:=F9 M u d z;exact⟨.undef,.undef,v0,w0,x0,⟨0,λk _=> .inr (.inl ⟨by show fD _ _ _=_;rw[fb a,fb y];exact C,rfl⟩)⟩,D,z0,u0,t0,pE.2 rfl,s0⟩
 .obtain⟨s,j,i⟩:=dQ e;obtain⟨v,a,d⟩:=bV n j;obtain⟨B,p,u⟩:=jl i;obtain⟨w,C,D⟩:=Nd M p d;exact Pu.op M ⟨B,w,C,D,u⟩ (by show fD _ _ _=_;rw[fb a])
 .obtain⟨s,j,i⟩:=dQ e;obtain⟨v,a,d⟩:=bV n j;obtain⟨B,p,u⟩:=dQ i;obtain⟨y0,y,z⟩:=bV n p;obtain⟨n9,w,C,D,z0⟩:=NR u d z;exact Pu.op M ⟨n9,w,rfl,D,z0⟩ (by show fD _ _ _=_;rw[fb a,fb y,C])
 .obtain⟨s,j,i⟩:=dQ e;obtain⟨v,a,d⟩:=bV n j;obtain⟨B,p,u⟩:=jl i;obtain⟨w,C,D⟩:=OJ (h:=h) p d;exact Pu.op M ⟨B,w,C,D,u⟩ (by show fD _ _ _=_;rw[fb a])
 .obtain⟨s,j,i⟩:=dQ e;obtain⟨v,a,d⟩:=bV n j;exact Pu.op M (Co M i d) (by show fD _ _ _=_;rw[fb a])
 .
  rename_i f e0 n0;split at e;.rename_i l z9 A;obtain⟨r0,a,d⟩:=l4 n A;exact Pu.op M ⟨_,.fn f r0,rfl,LX.2 ⟨r0,rfl,d⟩,e⟩ (by show(match e0.toList,h.jI n0.toList with|[],some l=>_|_,_=>_)=_;rw[z9,a])
  .cases e
 .
  split at e;.exact(EQ M e).op rfl
  .cases e
 .obtain⟨s,j,i⟩:=dQ e;obtain⟨v,a,d⟩:=bV n j;obtain⟨B,p,u⟩:=dQ i;obtain⟨y0,y,z⟩:=bV n p;exact Pu.op M (ES M u d z) (by show fD _ _ _=_;rw[fb a,fb y])
 .obtain⟨s,j,i⟩:=dQ e;obtain⟨v,a,d⟩:=bV n j;obtain⟨B,p,u⟩:=dQ i;obtain⟨y0,y,z⟩:=bV n p;obtain⟨j9,c0,b0⟩:=dQ u;obtain⟨i9,q0,d0⟩:=bV n c0;obtain⟨v0,w0,x0,C,D,z0,u0,t0,s0⟩:=Ec M b0 d z d0;exact⟨.undef,.undef,v0,w0,x0,⟨0,λk _=> .inr (.inl ⟨by show fD _ _ _=_;rw[fb a,fb y,fb q0];exact C,rfl⟩)⟩,D,z0,u0,t0,pE.2 rfl,s0⟩
 .obtain⟨s,j,i⟩:=dQ e;obtain⟨v,a,d⟩:=bV n j;obtain⟨B,p,u⟩:=dQ i;obtain⟨y0,y,z⟩:=bV n p;exact(zb M u d z).op (by show fD _ _ _=_;rw[fb a,fb y])
 .
  rename_i t x q9 w9 p9;obtain⟨s,j,i⟩:=dQ e;obtain⟨v,a,d⟩:=bV n j;split at i;.rename_i l y9 m A x9 t9;obtain⟨l9,l0,k0⟩:=xV n A;obtain⟨m9,j0,i0⟩:=xV n x9;obtain⟨k9,h0,g0⟩:=xV n t9;exact(Gj M i d k0 i0 g0).op (by show(match h.ev x,nq h q9,nq h w9,nq h p9 with|some v,some l,some y9,some m=>_|_,_,_,_=>_)=_;rw[a,l0,j0,h0])
  .cases i
 .obtain⟨s,j,i⟩:=dQ e;obtain⟨v,a,d⟩:=bV n j;exact Pu.op M (G7 M i d) (by show fD _ _ _=_;rw[fb a])
 .obtain⟨s,j,i⟩:=dQ e;obtain⟨v,a,d⟩:=bV n j;obtain⟨B,p,u⟩:=dQ i;obtain⟨y0,y,z⟩:=bV n p;exact Pu.op M (E4 M u d z) (by show fD _ _ _=_;rw[fb a,fb y])
 .obtain⟨s,j,i⟩:=dQ e;obtain⟨v,a,d⟩:=bV n j;obtain⟨B,p,u⟩:=dQ i;obtain⟨y0,y,z⟩:=bV n p;exact Pu.op M (G1 u d z) (by show fD _ _ _=_;rw[fb a,fb y])
 .obtain⟨s,j,i⟩:=dQ e;obtain⟨v,a,d⟩:=bV n j;obtain⟨B,p,u⟩:=jl i;obtain⟨w,C,D⟩:=Ck (h:=h) p d;exact Pu.op M ⟨B,w,C,D,u⟩ (by show fD _ _ _=_;rw[fb a])
 .
  rename_i c;split at e
  .
   rename_i b p0;split at e;.rename_i l A;obtain⟨r0,a,d⟩:=l4 n A;exact(Cs M e d).op (by show(match c.callee with| .builtin b=>_| .value f=>_|_=>_)=_;rw[p0];simp only;rw[a])
   .cases e
  .
   rename_i f p0;split at e
   .
    rename_i l A;obtain⟨r0,a,d⟩:=l4 n A;obtain⟨s,j,i⟩:=dQ e;obtain⟨v,y,z⟩:=bV n j;split at i;.rename_i g n0;obtain⟨f0,rfl,q0⟩:=LX.1 z;obtain⟨v,v0,B,w0,x0,⟨r9,C⟩,D,z0,u0,t0,s0,o9⟩:=JY a0 s9 v9 i M (TL d q0);refine⟨B,v,v0,w0,x0,⟨r9,λk u9=> .inr (.inr ⟨g,r0++f0,?_,C k u9⟩)⟩,D,z0,u0,t0,s0,o9⟩;show(match c.callee with| .builtin b=>_| .value f=>_|_=>_)=_;rw[p0];simp only;rw[a];simp only;rw[fb y];rfl
    .cases i
   .cases e
  .cases e
 .cases e
def tR(S:SS)(h:St)(E:En){R:Type}(K:SS->Option R)(r:R)(f:Nat->Option St):Prop:=∃b a c,(∃d,∀k,d<=k->f k=some b)/\dc a b c/\dB a b c/\Gr S h E a b c/\(∀t,bu t S.kp=true->a.tmp t=S.tmp t)/\K a=some r
theorem Gx{S b:SS}{h:St}(M:dc S h E)(a:dB S h E){d:Option Nat}{s:SV}{v:HV}(hp:S.put d s=some b)(l:V E s v):dc b (h.put d v) E/\dB b (h.put d v) E/\Gr S h E b (h.put d v) E/\∀t,bu t S.kp=true->b.tmp t=S.tmp t:=by
 unfold SS.put at hp;split at hp
 .
  rename_i t;rw[aH]at hp;split at hp
  .
   rename_i f;rw[aH]at hp;split at hp;.cases hp
   .
    rename_i i;cases hp;have e:h.put (some t) v=⟨h.nt,h.dC.set t v,h.hp,h.nx,h.lk,h.df⟩:=by unfold St.put;simp only;rw[<-a.nt,f];rfl
    rw[e];refine⟨M.re rfl rfl rfl rfl rfl rfl,⟨a.nt,λj=>?_⟩,Gr.refl.re rfl rfl (λ_ _ h=>h) rfl rfl (λ_ h=>h) rfl rfl rfl rfl rfl rfl rfl rfl rfl rfl rfl rfl,λj g=>?_⟩
    .
     unfold SS.tmp St.tmp;simp only;rw[Tr.dk,Tr.dk];by_cases c:j=t;.rw[aA c,aA c];exact l
     .rw[aB c,aB c];exact a.v j
    .unfold SS.tmp;simp only;rw[Tr.dk,aB];rintro rfl;exact i g
  .
   rename_i f;cases hp
   have e:h.put (some t) v=h:=by
    unfold St.put;simp only;rw[<-a.nt]
    have:Nat.blt t S.nt=false:=by cases k:Nat.blt t S.nt with
     |false=>rfl
     |true=>exact absurd k f
    rw[this];rfl
   rw[e];exact⟨M,a,Gr.refl,λ_ _=>rfl⟩
 .cases hp;exact⟨M,a,Gr.refl,λ_ _=>rfl⟩
theorem Au{S:SS}{d:Option Nat}{s:SV}{K:SS->Option R}(a:sE S d s K=some r):∃b,S.put d s=some b/\K b=some r:=by
 unfold sE at a;split at a;.exact⟨_,by assumption,a⟩
 .cases a
theorem ud(M:dc S h E)(i:dB S h E){K:SS->Option R}{bD:Array Oper}{o:Oper}(j:sE S o.dst .undef K=some r)(l:takes h bD o=some false):tR S h E K r λk=>gy cy.cx (run cy.cx k) bD h o:=by obtain⟨a,f,g⟩:=Au j;obtain⟨b,c,d,e⟩:=Gx M i f (pE.2 rfl);refine⟨h.put o.dst .undef,a,E,⟨0,λk _=>?_⟩,b,c,d,e,g⟩;unfold gy;rw[l]
theorem zB(z:∀f c,cy.ct.ap f=some c->tZ cy.cx f c)(y0:∀f q,cy.sp.ap f=some q->om cy.cx f q){j:sn}(A:pJ cy j)(M:dc S h E)(i:dB S h E){K:SS->Option R}{bD:Array Oper}{o:Oper}(B:Jq cy j S o.op (λv m=>sE m o.dst v K)=some r)(b:takes h bD o=some true):tR S h E K r λk=>gy cy.cx (run cy.cx k) bD h o:=by
 obtain⟨s,v,w,r0,l,⟨w0,z0⟩,d,a,e,p,x0,C⟩:=Pe z y0 A B M i;obtain⟨n,x,y⟩:=Au C;obtain⟨v0,u0,t0,s0⟩:=Gx d (i.gr a M d e p) x x0;refine⟨w.put o.dst v,n,l,⟨w0,λk D=>?_⟩,v0,u0,a.trans t0,λt b=>?_,y⟩
 .
  show gy cy.cx (run cy.cx k) bD h o=_;unfold gy;rw[b];simp only;rcases z0 k D with g|⟨g,rfl⟩|⟨f,q0,g,u⟩;.rw[g]
  .rw[g]
  .rw[g];simp only;rw[u]
 .rw[s0 t (by rw[a.kp];exact b)];unfold SS.tmp;rw[e]
theorem CS{S:SS}{h:St}(M:dc S h E)(b:dB S h E){g:Nat}{s:SV}(c:V E s (h.tmp g)):dc (S.hJ g s) h E/\dB (S.hJ g s) h E/\Gr S h E (S.hJ g s) h E:=by
 refine⟨M.re rfl rfl rfl rfl rfl rfl,⟨b.nt,λj=>?_⟩,Gr.refl.re rfl rfl (λ_ _ h=>h) rfl rfl (λ_ h=>h) rfl rfl rfl rfl rfl rfl rfl rfl rfl rfl rfl rfl⟩;unfold SS.hJ SS.tmp;simp only;rw[Tr.dk];by_cases a:j=g;.rw[aA a,a];exact c
 .rw[aB a];exact b.v j
theorem tR.hJ{S:SS}{h:St}{K:SS->Option R}{f:Nat->Option St}{g:Nat}{s:SV}(hg:Gr S h E (S.hJ g s) h E)(a:bu g S.kp=false)(p:tR (S.hJ g s) h E K r f):tR S h E K r f:=by obtain⟨e,d,c,i,j,k,l,m,n⟩:=p;refine⟨e,d,c,i,j,k,hg.trans l,λt b=>?_,n⟩;rw[m t b];unfold SS.hJ SS.tmp;simp only;rw[Tr.dk,aB];rintro rfl;rw[b]at a;cases a
theorem zY(y:∀f c,cy.ct.ap f=some c->tZ cy.cx f c)(B:∀f q,cy.sp.ap f=some q->om cy.cx f q){z0:sn}(z:pJ cy z0)(M:dc S h E)(l:dB S h E){K:SS->Option R}{bD:Array Oper}{o:Oper}(a:Eo cy z0 bD S o K=some r):tR S h E K r λk=>gy cy.cx (run cy.cx k) bD h o:=by
 unfold Eo at a;split at a;.rename_i D;exact zB y B z M l a (by unfold takes;rw[D])
 .
  rename_i j w D;split at a
  .
   rename_i g x0;have d:takes h bD o=match h.tmp g with| .bool b=>some (b==w)| .any=>none|_=>some false:=by unfold takes;rw[D];simp only;rw[x0];rfl
   split at a
   .
    rename_i b v;have i:=l.v g;rw[v,ix]at i;rw[i]at d;simp only at d;rw[aH]at a;split at a;.rename_i C;exact zB y B z M l a (by rw[d,C])
    .rename_i C;exact ud M l a (by rw[d];simpa using C)
   .
    rename_i b v;have i:=l.v g;rw[v,ix]at i;rw[i]at d;simp only at d;rw[aH]at a;split at a;.cases a
    .
     rename_i t;have t:bu g S.kp=false:=by simpa using t
     have A:∀u,b=u->dc (S.hJ g (.bool true u)) h E/\dB (S.hJ g (.bool true u)) h E/\Gr S h E (S.hJ g (.bool true u)) h E:=by intro u y0;exact CS M l (ix.2 (by rw[i,y0]))
     rw[aH]at a;split at a
     .
      rename_i x;rw[x]at d;rcases rq a with⟨e,m⟩|⟨e,m⟩;.obtain⟨n,p,s⟩:=A true e;exact tR.hJ s t (zB y B z n p m (by rw[d,e];rfl))
      .obtain⟨n,p,s⟩:=A false e;exact tR.hJ s t (ud n p m (by rw[d,e];rfl))
     .
      rename_i x;have x:w=false:=by simpa using x
      rw[x]at d;rcases rq a with⟨e,m⟩|⟨e,m⟩;.obtain⟨n,p,s⟩:=A true e;exact tR.hJ s t (ud n p m (by rw[d,e];rfl))
      .obtain⟨n,p,s⟩:=A false e;exact tR.hJ s t (zB y B z n p m (by rw[d,e];rfl))
   .rename_i v;have i:=l.v g;rw[v,pE]at i;rw[i]at d;exact ud M l a d
   .cases a
  .cases a
theorem C0(g:∀f c,cy.ct.ap f=some c->tZ cy.cx f c)(m:∀f q,cy.sp.ap f=some q->om cy.cx f q){p:sn}(i:pJ cy p){bD:Array Oper}:∀{l:List Oper}{S:SS}{h:St}{E:En}{K:SS->Option R},KY cy p bD S l K=some r->dc S h E->dB S h E->tR S h E K r λk=>ju cy.cx (run cy.cx k) bD h l
 |[],S,h,E,K,a,b,d=>⟨h,S,E,⟨0,λ_ _=>rfl⟩,b,d,Gr.refl,λ_ _=>rfl,a⟩
 |o::l,S,h,E,K,a,b,d=>by unfold KY at a;obtain⟨w,q0,r0,⟨y,x0⟩,w0,v0,s,u0,t0⟩:=zY g m i b d a;obtain⟨x,v,u,⟨z,A⟩,B,C,D,z0,y0⟩:=C0 g m i t0 w0 v0;refine⟨x,v,u,⟨max y z,λk j=>?_⟩,B,C,s.trans D,λt n=>by rw[z0 t (by rw[s.kp];exact n),u0 t n],y0⟩;show(match gy cy.cx (run cy.cx k) bD h o with|some s0=>ju cy.cx (run cy.cx k) bD s0 l|none=>none)=_;have e:=x0 k (aM (jZ _ _) j);have e:gy cy.cx (run cy.cx k) bD h o=some w:=e;rw[e];exact A k (aM (jA _ _) j)
end
section
variable{E:En}{cy:Cy}{R:Type}{r:R}
def PA(v:HV)(l:List Nat):Option (List Nat):=match v with| .ptr b _=>some (b::l)| .sl b _ _=>some (b::l)| .jh b _ _=>some (b::l)| .map _=>none|_=>some l
theorem Ch{h:St}{a:Operand}{b:List Operand}{l L:List Nat}{v:HV}(h1:hK h b=some l)(h2:h.ev a=some v)(c:PA v l=some L):hK h (a::b)=some L:=by unfold hK;rw[h1];simp only;rw[h2];cases v<;>first|exact c|cases c
def uZ(S:SS)(h:St)(E:En)(l L:List Nat):Prop:=∀b,bu b L=true->b<h.nx/\∀m e,S.st.ap m=some e->Bk E m b->bu m l=true
theorem qd{S:SS}{h:St}(M:dc S h E){m b:Nat}{j:iK}{l L:List Nat}(n:S.st.ap m=some j)(k:Bk E m b)(g:uZ S h E l L):uZ S h E (m::l) (b::L):=by
 intro c a;rcases dy.1 a with rfl|a;.refine⟨M.rN m c k,λi d f e=>?_⟩;have:=M.inj i m d j c f n e k;exact dy.2 (.inl this)
 .exact⟨(g c a).1,λi d f e=>dy.2 (.inr ((g c a).2 i d f e))⟩
theorem GV{S:SS}{h:St}{m:Nat}{l L:List Nat}(g:uZ S h E l L):uZ S h E (m::l) L:=λc a=>⟨(g c a).1,λf b e d=>dy.2 (.inr ((g c a).2 f b e d))⟩
theorem UY{S:SS}{h:St}(M:dc S h E){b:Nat}{l L:List Nat}(d:E.Z b)(g:uZ S h E l L):uZ S h E l (b::L):=by
 intro c a;rcases dy.1 a with rfl|a;.exact⟨M.z c d,λj e i f=>absurd d (M.own j e c i f).1⟩
 .exact g c a
theorem AS{S:SS}{h:St}(M:dc S h E)(y0:dB S h E):∀{t0:List Operand}{l:List Nat},ET S t0=some l->∃L,hK h t0=some L/\(∀b,bu b h.lk=true->bu b L=true)/\uZ S h E l L
 |[],l,f=>by cases f;exact⟨h.lk,rfl,λ_ d=>d,M.lk⟩
 |a::t0,l,f=>by
  unfold ET at f;split at f
  .
   rename_i e0 h0;obtain⟨L,j0,i0,z⟩:=AS M y0 h0;have w:∀v u0,h.ev a=some v->PA v L=some u0->(∀b,bu b L=true->bu b u0=true)->uZ S h E l u0->∃L,hK h (a::t0)=some L/\(∀b,bu b h.lk=true->bu b L=true)/\uZ S h E l L:=λv u0 n0 m0 l0 k0=>⟨u0,Ch j0 n0 m0,λb d=>l0 b (i0 b d),k0⟩;have w0:∀b c,bu b L=true->bu b (c::L)=true:=λb c d=>dy.2 (.inr d)
   have s0:∀m v0 o n v,S.st.ap m=some v0->(∀b,o=some b->Bk E m b)->fO o n v->h.ev a=some v->l=m::e0->∃L,hK h (a::t0)=some L/\(∀b,bu b h.lk=true->bu b L=true)/\uZ S h E l L:=by
    intro m v0 o n v B f0 q0 s g0;subst g0;unfold fO at q0
    cases o with
     |none=>
     rcases q0.2 with rfl|rfl;.exact w _ L s rfl (λ_ d=>d) (GV z)
     .exact w _ L s rfl (λ_ d=>d) (GV z)
     |some b=>subst q0;exact w _ (b::L) s rfl (λc D=>w0 c b D) (qd M B (f0 b rfl) z)
   split at f
   .
    rename_i m o A;obtain⟨v,s,t⟩:=bV y0 A;rw[lv]at t;obtain⟨_,b,d,rfl⟩:=t;rw[aH]at f;split at f;.rename_i z0;cases f;obtain⟨v0,z0⟩:=ez.1 z0;exact w _ (b::L) s rfl (λc D=>w0 c b D) (qd M z0 (.inl d) z)
    .cases f
   .
    rename_i m o n A;obtain⟨v,s,t⟩:=bV y0 A;rw[tQ]at t;obtain⟨_,b,d,rfl,_⟩:=t;rw[aH]at f;split at f;.rename_i z0;cases f;obtain⟨v0,z0⟩:=ez.1 z0;exact w _ (b::L) s rfl (λc D=>w0 c b D) (qd M z0 (.inl d) z)
    .cases f
   .
    rename_i m o n A;obtain⟨v,s,t⟩:=bV y0 A;rw[yc]at t;obtain⟨_,b,d,rfl⟩:=t;rw[aH]at f;split at f;.rename_i z0;cases f;obtain⟨v0,z0⟩:=ez.1 z0;exact w _ (b::L) s rfl (λc D=>w0 c b D) (qd M z0 (.inl d) z)
    .cases f
   .
    rename_i m A;obtain⟨v,s,t⟩:=bV y0 A;rw[hG]at t;split at f;.rename_i e x0 B;cases f;exact s0 m _ _ _ v B (λb d=> .inl d) (t.2.2.1 e x0 (by rw[M.st];exact B)) s rfl
    .rename_i g e x0 B;cases f;exact s0 m _ _ _ v B (λb d=> .inl d) (t.2.2.2 _ _ (by rw[M.st];exact B) rfl) s rfl
    .rename_i e x0 q B;cases f;exact s0 m _ _ _ v B (λb d=> .inl d) (t.2.2.2 _ _ (by rw[M.st];exact B) rfl) s rfl
    .cases f
   .
    rename_i m i o A;obtain⟨v,s,t⟩:=bV y0 A;rw[nj]at t;split at f;.rename_i e x0 B;cases f;obtain⟨b,j,d,_,_,rfl⟩:=t.2.2.1 e x0 (by rw[M.st];exact B);exact w _ (b::L) s rfl (λc D=>w0 c b D) (qd M B (.inl d) z)
    .rename_i g e x0 B;cases f;obtain⟨b,j,d,_,_,rfl⟩:=t.2.2.2 _ _ (by rw[M.st];exact B) rfl;exact w _ (b::L) s rfl (λc D=>w0 c b D) (qd M B (.inl d) z)
    .rename_i e x0 q B;cases f;obtain⟨b,j,d,_,_,rfl⟩:=t.2.2.2 _ _ (by rw[M.st];exact B) rfl;exact w _ (b::L) s rfl (λc D=>w0 c b D) (qd M B (.inl d) z)
    .cases f
   .
    rename_i m o n u j p A;obtain⟨v,s,t⟩:=bV y0 A;rw[vP]at t;obtain⟨_,b,k,d,_,_,rfl⟩:=t;rw[aH]at f;split at f;.rename_i z0;cases f;obtain⟨v0,z0⟩:=ez.1 z0;exact w _ (b::L) s rfl (λc D=>w0 c b D) (qd M z0 (.inl d) z)
    .cases f
   .
    rename_i m q A;obtain⟨v,s,t⟩:=bV y0 A;rw[wV]at t;split at f;.rename_i e x0 B;cases f;obtain⟨k,_,_,C⟩:=t.2.2 e x0 (by rw[M.st];exact B);exact s0 m _ _ _ v B (λb d=> .inl d) C s rfl
    .cases f
   .
    rename_i m g j A;obtain⟨v,s,t⟩:=bV y0 A;rw[BG]at t;split at f
    .
     rename_i c0 e x0 B;rw[aH]at f;split at f;.rename_i r0;have r0:=aw r0;subst r0;cases f;obtain⟨k,b0,_,_,C⟩:=t.2.2.2 e x0 (by rw[M.st];exact B);exact s0 m _ _ _ v B (λb d=> .inr ⟨k,d⟩) C s rfl
     .cases f
    .cases f
   .
    rename_i u x A;cases f;obtain⟨v,s,t⟩:=bV y0 A;have z0:(SV.val u x).ag=u.ag:=rfl;have C:=t;unfold V iv at C;rw[z0]at C
    cases u with
     |int _=>have C:CR E _ [v]:=C;unfold CR dY at C;cases C;exact w _ L s rfl (λ_ d=>d) z
     |bool=>have C:CR E _ [v]:=C;unfold CR dY at C;cases C;exact w _ L s rfl (λ_ d=>d) z
     |ef=>have C:CR E _ [v]:=C;unfold CR dY at C;cases C;exact w _ L s rfl (λ_ d=>d) z
     |un=>obtain⟨o0,rfl,_⟩:=C;exact w _ L s rfl (λ_ d=>d) z
     |nil=>have C:CR E _ [v]:=C;unfold CR dY at C;cases C;exact w _ L s rfl (λ_ d=>d) z
     |ai _ _=>obtain⟨o0,rfl,_⟩:=C;exact w _ L s rfl (λ_ d=>d) z
     |im _ _=>obtain⟨o0,rfl,_⟩:=C;exact w _ L s rfl (λ_ d=>d) z
     |bw e=>
     rw[nV]at t;rcases t with⟨_,rfl|rfl|rfl⟩|⟨b,o,y,⟨rfl,_⟩,p0,_⟩;.exact w _ L s rfl (λ_ d=>d) z
     .exact w _ L s rfl (λ_ d=>d) z
     .exact w _ L s rfl (λ_ d=>d) z
     .exact w _ (b::L) s rfl (λc D=>w0 c b D) (UY M p0 z)
   .rename_i u x A;cases f;obtain⟨v,s,t⟩:=bV y0 A;rw[pG]at t;obtain⟨b,o,y,d0,rfl,p0,_⟩:=t;exact w _ (b::L) s rfl (λc D=>w0 c b D) (UY M p0 z)
   .rename_i A;cases f;obtain⟨v,s,t⟩:=bV y0 A;rw[d7]at t;subst t;exact w _ L s rfl (λ_ d=>d) z
   .rename_i A;cases f;obtain⟨v,s,t⟩:=bV y0 A;rw[kW]at t;subst t;exact w _ L s rfl (λ_ d=>d) z
   .
    rename_i A;cases f;obtain⟨v,s,t⟩:=bV y0 A;rw[pH]at t;rcases t with rfl|rfl;.exact w _ L s rfl (λ_ d=>d) z
    .exact w _ L s rfl (λ_ d=>d) z
   .rename_i A;cases f;obtain⟨v,s,t⟩:=bV y0 A;rw[pE]at t;subst t;exact w _ L s rfl (λ_ d=>d) z
   .cases f
  .cases f
theorem SK {S : SS} {h : St} (M : dc S h E) {s : SV} {b : Nat} (hv : V E s (.map b)) : s = .any ∨ (∃ m i o, s = .oU m i o) ∨ (∃ m, s = .row m ∧ (∀ e xs, S.st.ap m ≠ some (.row e xs)) ∧ ∀ g e xs, S.st.ap m ≠ some (.rows g e xs)) ∨ (∃ m, s = .map m) ∨ (∃ m g j, s = .sub m g j) ∨ ∃ m q, s = .vw m q ∧ ∀ e xs, S.st.ap m ≠ some (.row e xs) := by
  have rv : ∀ o n, fO o n (.map b) → False := by
    intro o n h
    unfold fO at h
    cases o with
    | none => rcases h.2 with k | k <;> cases k
    | some _ => cases h
  cases s with
  | any => exact .inl rfl
  | undef => rw [pE] at hv; cases hv
  | int _ _ _ => rw [d7] at hv; cases hv
  | bool _ _ => rw [ix] at hv; cases hv
  | val u x =>
    exfalso
    cases u with
    | int _ => have k3 : CR E _ [_] := hv; unfold CR dY at k3; cases k3
    | bool => have k3 : CR E _ [_] := hv; unfold CR dY at k3; cases k3
    | ef => have k3 : CR E _ [_] := hv; unfold CR dY at k3; cases k3
    | un => obtain ⟨cs, k, _⟩ := hv; cases k
    | nil => have k3 : CR E _ [_] := hv; unfold CR dY at k3; cases k3
    | ai _ _ => obtain ⟨cs, k, _⟩ := hv; cases k
    | im _ _ => obtain ⟨cs, k, _⟩ := hv; cases k
    | bw e =>
      rw [nV] at hv
      rcases hv with ⟨_, k | k | k⟩ | ⟨b, o, y, ⟨k, _⟩, hz, _⟩ <;> cases k
  | agg _ => rw [yd] at hv; obtain ⟨_, k, _⟩ := hv; cases k
  | mx _ => rw [BF] at hv; obtain ⟨_, k, _⟩ := hv; cases k
  | fn _ _ => rw [LX] at hv; obtain ⟨_, k, _⟩ := hv; cases k
  | rc => have k3 : CR E _ [_] := hv; unfold CR at k3; cases k3
  | cM => rw [kW] at hv; cases hv
  | gz => rw [pH] at hv; rcases hv with k | k <;> cases k
  | rf => have k3 : CR E _ [_] := hv; unfold CR at k3; cases k3
  | box _ _ => rw [lv] at hv; obtain ⟨_, _, _, k⟩ := hv; cases k
  | rt _ _ _ => rw [tQ] at hv; obtain ⟨_, _, _, k, _⟩ := hv; cases k
  | row m =>
    rw [hG] at hv
    exact .inr (.inr (.inl ⟨m, rfl, fun e xs hm => rv _ _ (hv.2.2.1 e xs (by rw [M.st]; exact hm)), fun g e xs hm => rv _ _ (hv.2.2.2 _ _ (by rw [M.st]; exact hm) rfl)⟩))
  | vw m q =>
    rw [wV] at hv
    refine .inr (.inr (.inr (.inr (.inr ⟨m, q, rfl, fun e xs hm => ?_⟩))))
    obtain ⟨k, _, _, k3⟩ := hv.2.2 e xs (by rw [M.st]; exact hm)
    exact rv _ _ k3
  | map m => exact .inr (.inr (.inr (.inl ⟨m, rfl⟩)))
  | sub m g j => exact .inr (.inr (.inr (.inr (.inl ⟨m, g, j, rfl⟩))))
  | uE _ _ _ _ _ _ => rw [vP] at hv; obtain ⟨_, _, _, _, _, _, k⟩ := hv; cases k
  | jh _ _ _ => rw [yc] at hv; obtain ⟨_, _, _, k⟩ := hv; cases k
  | oU m i o => exact .inr (.inl ⟨m, i, o, rfl⟩)
  | rX _ _ => rw [pG] at hv; obtain ⟨_, _, _, _, k, _⟩ := hv; cases k
theorem Jr{S:SS}{h:St}(M:dc S h E)(t:dB S h E){o:Op}(a:Js S o=true):kR h o=false:=by
 unfold kR;split
 .
  rename_i c;split
  .
   rename_i u;split
   .
    rename_i b w;exfalso;unfold Js at a;simp only at a;rw[u]at a;simp only at a
    cases f:S.jI c.args.toList with
     |none=>rw[f]at a;cases a
     |some l=>
     rw[f]at a;obtain⟨A,k,d⟩:=l4 t f;rw[w]at k;cases k
     cases l with
      |nil=>unfold Vs at d;cases d
      |cons s l=>
      unfold Vs at d;obtain⟨v,q,e,p,n⟩:=d;cases e
      cases l with
       |cons z l=>unfold Vs at n;obtain⟨_,_,e,_⟩:=n;cases e
       |nil=>
       rcases SK M p with rfl|⟨m,i,o,rfl⟩|⟨m,rfl,x,y⟩|⟨m,rfl⟩|⟨m,g,j,rfl⟩|⟨m,q,rfl,x⟩;.cases a
       .cases a
       .simp only at a;cases a
       .cases a
       .cases a
       .simp only at a;cases a
   .rfl
  .rfl
 .rfl
theorem tG{S:SS}{h:St}:∀(l:List Operand)(t:Nat),(xX S l).ap t=some (S.tmp t)/\(jJ h l).ap t=some (h.tmp t)\/(xX S l).ap t=none/\(jJ h l).ap t=none
 |[],t=> .inr ⟨rfl,rfl⟩
 | .tmp j::l,t=>by
  unfold xX jJ;rw[Tr.dk,Tr.dk];by_cases a:t=j;.rw[aA a,aA a,a];exact .inl ⟨rfl,rfl⟩
  .rw[aB a,aB a];exact tG l t
 | .const _::l,t=>tG l t
 | .func _::l,t=>tG l t
 | .global _::l,t=>tG l t
theorem Gd{S:SS}{h:St}(M:dc S h E)(f:dB S h E){bD:Array Oper}{o:Oper}{K:SS->Option R}(a:Et bD o S K=some r):∃S2,K S2=some r/\dc S2 h E/\dB S2 h E/\Gr S h E S2 h E/\∀t,bu t S.kp=true->S2.tmp t=S.tmp t:=by
 have j:K S=some r->∃S2,K S2=some r/\dc S2 h E/\dB S2 h E/\Gr S h E S2 h E/\∀t,bu t S.kp=true->S2.tmp t=S.tmp t:=λi=>⟨S,i,M,f,Gr.refl,λ_ _=>rfl⟩;unfold Et at a;split at a;.exact j a
 .
  split at a
  .
   rename_i g _;split at a
   .
    rename_i b m;rw[aH]at a;split at a;.cases a
    .
     rename_i p;have l:=f.v g;rw[m,ix]at l;have k:∀c,b=c->K (S.hJ g (.bool true c))=some r->∃S2,K S2=some r/\dc S2 h E/\dB S2 h E/\Gr S h E S2 h E/\∀t,bu t S.kp=true->S2.tmp t=S.tmp t:=by intro c n i;obtain⟨s,u,v⟩:=CS M f (g:=g) (s:= .bool true c) (ix.2 (by rw[l,n]));refine⟨_,i,s,u,v,λt q=>?_⟩;unfold SS.hJ SS.tmp;simp only;rw[Tr.dk,aB];rintro rfl;exact p q
     rcases rq a with⟨d,e⟩|⟨d,e⟩;.exact k true d e
     .exact k false d e
   .exact j a
  .exact j a
theorem tR.gr{S S2:SS}{h:St}{K:SS->Option R}{f:Nat->Option St}(hg:Gr S h E S2 h E)(e:∀t,bu t S.kp=true->S2.tmp t=S.tmp t)(p:tR S2 h E K r f):tR S h E K r f:=by obtain⟨d,c,b,g,i,j,k,l,m⟩:=p;exact⟨d,c,b,g,i,j,hg.trans k,λt a=>(l t (by rw[hg.kp];exact a)).trans (e t a),m⟩
theorem yF(w0:∀f c,cy.ct.ap f=some c->tZ cy.cx f c)(s0:∀f q,cy.sp.ap f=some q->om cy.cx f q){r0:sn}(u0:pJ cy r0){bD:Array Oper}:∀{l:List Hm.Item}{S:SS}{h:St}{E:En}{K:SS->Option R},zw cy r0 bD S l K=some r->dc S h E->dB S h E->tR S h E K r λk=>fK cy.cx (run cy.cx k) bD h l
 |[],S,h,E,K,i,g,j=>⟨h,S,E,⟨0,λ_ _=>rfl⟩,g,j,Gr.refl,λ_ _=>rfl,i⟩
 |x::l,S,h,E,K,i,g,j=>by
  unfold zw at i;obtain⟨A,i,g,j,y0,x0⟩:=Gd g j i;refine tR.gr y0 x0 ?_;clear y0 x0;generalize A=S at i g j;split at i
  .
   rename_i q0 g0;rw[aH]at i;split at i
   .
    rename_i w;simp only[ae]at w;obtain⟨y,l0,k0,j0⟩:=AS g j g0;have n0:dc (S.cut bD x.o q0) (h.cut bD x.o y) E:=⟨g.hp,g.st,g.nx,g.lt,g.hD,g.inj,g.own,g.z,g.fr,j0,g.rN,g.tk⟩
    have i0:dB (S.cut bD x.o q0) (h.cut bD x.o y) E:=by
     refine⟨j.nt,λt=>?_⟩;unfold SS.cut St.cut SS.tmp St.tmp;rcases tG (S:=S) (h:=h) (nJ bD x.o++x.o.op.operands.toList) t with⟨a,b⟩|⟨a,b⟩;.simp only[a,b];exact j.v t
     .simp only[a,b];exact FB
    obtain⟨u,z,p,⟨C,w9⟩,n,v9,u9,s9,t9⟩:=zY w0 s0 u0 n0 i0 i;have s:Gr S h E (S.take x.o z) (h.take x.o u) p:=u9.re rfl rfl (λ_ _ h=>h) rfl rfl k0 rfl rfl rfl rfl rfl rfl rfl rfl rfl rfl rfl rfl
    have z0:dc (S.take x.o z) (h.take x.o u) p:=by
     refine⟨n.hp,n.st,n.nx,n.lt,n.hD,n.inj,n.own,n.z,n.fr,λb B=>⟨?_,λm e f0 e0=>?_⟩,n.rN,n.tk⟩;.exact aP (g.lk b B).1 s.nx
     .obtain⟨m0,C,D⟩:=s.Nq b m e B f0 e0;exact(g.lk b B).2 m m0 C D
    have h0:dB (S.take x.o z) (h.take x.o u) p:=by
     refine⟨j.nt,λt=>?_⟩;have p0:V p (S.tmp t) (h.tmp t):=(j.v t).gr s g z0;unfold SS.take St.take SS.tmp St.tmp
     cases v0:x.o.dst with
      |none=>simp only;exact p0
      |some d=>
      simp only;rw[Tr.dk,Tr.dk];by_cases o:t=d;.rw[aA o,aA o];exact v9.v d
      .rw[aB o,aB o];exact p0
    obtain⟨v,A,o0,⟨D,c0⟩,b0,a0,z9,y9,x9⟩:=yF w0 s0 u0 t9 z0 h0;refine⟨v,A,o0,⟨max C D,λk t0=>?_⟩,b0,a0,s.trans z9,λt o=>?_,x9⟩
    .
     show(match hK h x.lk with
      |some d0=>bif kR h x.o.op then none else match gy cy.cx (run cy.cx k) bD (h.cut bD x.o d0) x.o with|some t=>fK cy.cx (run cy.cx k) bD (h.take x.o t) l|none=>none
      |none=>none)=_
     rw[l0];simp only;rw[Jr g j w.1];have e:gy cy.cx (run cy.cx k) bD (h.cut bD x.o y) x.o=some u:=w9 k (aM (jZ _ _) t0);rw[e];exact c0 k (aM (jA _ _) t0)
    .rw[y9 t o];unfold SS.take SS.tmp;cases v0:x.o.dst with
     |none=>rfl
     |some d=>rw[v0]at w;simp only;rw[Tr.dk,aB];rintro rfl;have v:(!bu t S.kp)=true:=w.2;have o:bu t S.kp=true:=o;rw[o]at v;cases v
   .cases i
  .cases i
end
section
variable{cy:Cy}
def HU(cy:Cy){R:Type}(c:Code)(S:SS)(K:Ex->SS->Option R)(r:R)(h:St)(E:En):Prop:=∃e b a d,(∃f,∀k,f<=k->run cy.cx k c h=some (e,b))/\dc a b d/\dB a b d/\Gr S h E a b d/\(∀t,bu t S.kp=true->a.tmp t=S.tmp t)/\K e a=some r
theorem lA{c:Code}{h:St}{q:Ex×St}{k0:Nat}(g:∀k,k0<=k->xo cy.cx (run cy.cx k) c h=some q):∃k0,∀k,k0<=k->run cy.cx k c h=some q:=by refine⟨k0+1,λk a=>?_⟩;cases k with
 |zero=>omega
 |succ k=>exact g k (by omega)
theorem hN{α β:Type}(f:α->Option (Sum α β))(n:Nat)(x:α):aF f n x=i4 f n x:=by unfold aF;rw[(KT λ(α β:Type)(f:α->Option (Sum α β))(n:Nat)=>i4 f n).2]
theorem Nn{w:sn}(a0:pJ cy w){R:Type}{H:Tr (List Hi)}{B:Nat}{b:Code}{S:SS}{K:Ex->SS->Option R}{r:R}{h:St}{E:En}{hh:List Hi}(M:dc S h E)(f0:dB S h E)(b0:oV S (ke S hh)=true):∀(n:Nat)(d:D (iH hh))(o:SS)(h1:St)(s:En),i4 (λd=>match uX S hh (ke S hh) d with
 |some m=>w (Sum (D (iH hh)) R) H B b (m.jQ S.nx hh (ke S hh) S.kp) λe a=>match e with| .cN=>Cj (i8 S a hh [] [])|e=>ao (K e (a.sH S))
 |none=>none) n d=some r->dc o h1 s->dB o h1 s->Gr (S.jQ S.nx hh (ke S hh) S.kp) h E o h1 s->(∀t,bu t (kw hh++S.kp)=true->o.tmp t=S.tmp t)->i8 S o hh [] []=some d->∃e i a E',(∃k0,∀k,k0<=k->run cy.cx k (.loop b) h1=some (e,i))/\dc a i E'/\dB a i E'/\Gr S h E a i E'/\(∀t,bu t S.kp=true->a.tmp t=S.tmp t)/\K e a=some r:=by
 intro n
 induction n with
  |zero=>intro d o h1 s u;cases u
  |succ n v9=>
  intro d o h1 s u o0 e0 i0 y9 c0
  have u:aE ((λd=>match uX S hh (ke S hh) d with
   |some m=>w (Sum (D (iH hh)) R) H B b (m.jQ S.nx hh (ke S hh) S.kp) λe a=>match e with| .cN=>Cj (i8 S a hh [] [])|e=>ao (K e (a.sH S))
   |none=>none) d) (i4 (λd=>match uX S hh (ke S hh) d with
   |some m=>w (Sum (D (iH hh)) R) H B b (m.jQ S.nx hh (ke S hh) S.kp) λe a=>match e with| .cN=>Cj (i8 S a hh [] [])|e=>ao (K e (a.sH S))
   |none=>none) n)=some r:=u
  have u0:∀(v:Sum (D (iH hh)) R),(match uX S hh (ke S hh) d with
   |some m=>w (Sum (D (iH hh)) R) H B b (m.jQ S.nx hh (ke S hh) S.kp) λe a=>match e with| .cN=>Cj (i8 S a hh [] [])|e=>ao (K e (a.sH S))
   |none=>none)=some v->∃e f c g,(∃k0,∀k,k0<=k->run cy.cx k b h1=some (e,f))/\dc c f g/\dB c f g/\Gr (S.jQ S.nx hh (ke S hh) S.kp) h E c f g/\(∀t,bu t (kw hh++S.kp)=true->c.tmp t=S.tmp t)/\(match(generalizing:=false)e with| .cN=>Cj (i8 S c hh [] [])|e=>ao (K e (c.sH S)))=some v:=by
   intro v x0;split at x0;.rename_i m d0;obtain⟨p0,n0,s0,h0,t9,q9,p9,o9,n9,m9⟩:=xM M f0 o0 e0 i0 y9 c0 d0;obtain⟨e,f,c,g,y,z,q,p,A,l⟩:=a0 _ _ _ _ _ _ _ x0 h1 p0 (n0.re rfl rfl rfl rfl rfl rfl) ⟨s0.nt,s0.v⟩;exact⟨e,f,c,g,y,z,q,h0.trans p,λt z0=>(A t z0).trans (t9 t z0),l⟩
   .cases x0
  rcases Bu u with⟨l0,y0,z9⟩|y0
  .obtain⟨e,f,c,g,⟨k0,y⟩,z,q,p,A,l⟩:=u0 _ y0;cases e with
   |cN=>obtain⟨x,w0,j⟩:=o8 l;cases j;obtain⟨j0,g0,m0,q0,⟨u9,s9⟩,r9⟩:=v9 l0 c f g z9 z q p A w0;refine⟨j0,g0,m0,q0,lA (k0:=max k0 u9) λk C=>?_,r9⟩;show(match run cy.cx k b h1 with|some (.cN,v0)=>run cy.cx k (.loop b) v0|r=>r)=_;rw[y k (aM (jZ _ _) C)];exact s9 k (aM (jA _ _) C)
   |ret=>obtain⟨x,_,j⟩:=nI l;cases j
   |exit w9=>obtain⟨x,_,j⟩:=nI l;cases j
  .
   obtain⟨e,f,c,g,⟨k0,y⟩,z,q,p,A,l⟩:=u0 _ y0
   have t0:∀(r0:e≠.cN),ao (α:=D (iH hh)) (K e (c.sH S))=some (.inr r)->∃e i a E',(∃k0,∀k,k0<=k->run cy.cx k (.loop b) h1=some (e,i))/\dc a i E'/\dB a i E'/\Gr S h E a i E'/\(∀t,bu t S.kp=true->a.tmp t=S.tmp t)/\K e a=some r:=by intro r0 x9;obtain⟨x,w0,j⟩:=nI x9;cases j;refine⟨e,f,c.sH S,g,lA (k0:=k0) λk C=>?_,z.re rfl rfl rfl rfl rfl rfl,⟨q.nt,q.v⟩,zn b0 p rfl rfl p.Kj p.FC rfl rfl rfl,λt z0=>A t (fs.2 (cW _ (fs.1 z0))),w0⟩;show(match run cy.cx k b h1 with|some (.cN,v0)=>run cy.cx k (.loop b) v0|r=>r)=_;rw[y k C];cases e with
    |cN=>exact absurd rfl r0
    |ret=>rfl
    |exit _=>rfl
   cases e with
    |cN=>obtain⟨x,_,j⟩:=o8 l;cases j
    |ret=>exact t0 (λh=>by cases h) l
    |exit w9=>exact t0 (λh=>by cases h) l
theorem Th(l9:∀f c,cy.ct.ap f=some c->tZ cy.cx f c)(j9:∀f q,cy.sp.ap f=some q->om cy.cx f q){i9:sn}(r0:pJ cy i9):pJ cy (WS cy i9):=by
 intro R H cur c g p0 r o h C t0 x0;have f9:∀(c:Code)(f:Nat->Option St)(e:Ex)(q:tR g h C (λz9=>p0 e z9) r f)(k9:∀k s,f k=some s->xo cy.cx (run cy.cx k) c h=some (e,s)),HU cy c g p0 r h C:=by intro c f e q k9;obtain⟨m9,z9,e9,⟨j0,p⟩,w,A,z,B,m⟩:=q;exact⟨e,m9,z9,e9,lA (k0:=j0) λk v0=>k9 k m9 (p k v0),w,A,z,B,m⟩
 unfold WS at o;split at o;.exact⟨.cN,h,g,C,lA (k0:=0) λk _=>rfl,t0,x0,Gr.refl,λ_ _=>rfl,o⟩
 .exact f9 _ _ .cN (C0 l9 j9 r0 o t0 x0) λk s u9=>by show(match ju _ _ _ _ _ with|some s0=>some (Ex.cN,s0)|none=>none)=_;rw[u9]
 .
  split at o
  .
   rename_i l hl
   exact f9 _ _ .cN (yF l9 j9 r0 o t0 x0) λk s u9=>by
    show(match nS _ with
     |some l=>match fK _ _ _ _ l with|some s0=>some (Ex.cN,s0)|none=>none
     |none=>none)=_
    rw[hl];simp only;rw[u9]
  .cases o
 .
  rename_i a b;obtain⟨e,i,n,u,⟨y0,p⟩,w,A,z,B,m⟩:=r0 _ _ _ _ _ _ _ o h C t0 x0
  have f0:e≠.cN->p0 e n=some r->HU cy (.seq a b) g p0 r h C:=λw9 o0=>⟨e,i,n,u,lA (k0:=y0) λk v0=>by show(match run cy.cx k a h with|some (.cN,s0)=>run cy.cx k b s0|r=>r)=_;rw[p k v0];cases e with
   |cN=>exact absurd rfl w9
   |ret=>rfl
   |exit _=>rfl,w,A,z,B,o0⟩
  cases e with
   |ret=>exact f0 (λh=>by cases h) m
   |exit u0=>exact f0 (λh=>by cases h) m
   |cN=>obtain⟨k0,y9,l0,g0,⟨t9,s9⟩,e0,d0,c0,b0,r9⟩:=r0 _ _ _ _ _ _ _ m i u w A;refine⟨k0,y9,l0,g0,lA (k0:=max y0 t9) λk v0=>?_,e0,d0,z.trans c0,λt n0=>(b0 t (by rw[z.kp];exact n0)).trans (B t n0),r9⟩;show(match run cy.cx k a h with|some (.cN,s0)=>run cy.cx k b s0|r=>r)=_;rw[p k (aM (jZ _ _) v0)];exact s9 k (aM (jA _ _) v0)
 .
  rename_i x a b;split at o
  .
   rename_i l y m0;obtain⟨v,o9,n9⟩:=bV x0 m0;rw[ix]at n9;subst n9;rcases JT o with⟨rfl,h0⟩|⟨rfl,h0⟩;.obtain⟨e,i,n,u,⟨y0,p⟩,w⟩:=r0 _ _ _ _ _ _ _ h0 h C t0 x0;refine⟨e,i,n,u,lA (k0:=y0) λk v0=>?_,w⟩;show(match h.ev x with|some (.bool true)=>run cy.cx k a h|some (.bool false)=>run cy.cx k b h|_=>none)=_;rw[o9];exact p k v0
   .obtain⟨e,i,n,u,⟨y0,p⟩,w⟩:=r0 _ _ _ _ _ _ _ h0 h C t0 x0;refine⟨e,i,n,u,lA (k0:=y0) λk v0=>?_,w⟩;show(match h.ev x with|some (.bool true)=>run cy.cx k a h|some (.bool false)=>run cy.cx k b h|_=>none)=_;rw[o9];exact p k v0
  .cases o
 .
  rename_i u0 b
  have i0:∀{e:Ex}{i:St}{j0:Nat},(∀k,j0<=k->run cy.cx k b h=some (e,i))->∀{k0:Ex},(match(generalizing:=false)e with| .exit j=>bif Nat.beq j u0 then Ex.cN else .exit j|e=>e)=k0->∃j0,∀k,j0<=k->run cy.cx k (.block u0 b) h=some (k0,i):=by intro e i j0 p k0 z0;refine lA (k0:=j0) λk v0=>?_;show(match run cy.cx k b h with|some (.exit j,s0)=>bif Nat.beq j u0 then some (Ex.cN,s0)else some (.exit j,s0)|r=>r)=_;rw[p k v0];subst z0;cases e with
   |cN=>rfl
   |ret=>rfl
   |exit j=>show(bif Nat.beq j u0 then some (Ex.cN,i)else some (.exit j,i))=some (bif Nat.beq j u0 then Ex.cN else .exit j,i);cases Nat.beq j u0<;>rfl
  split at o
  .
   obtain⟨e,i,n,u,⟨y0,p⟩,w,A,z,B,m⟩:=r0 _ _ _ _ _ _ _ o h C t0 x0
   cases e with
    |cN=>exact⟨.cN,i,n,u,i0 p rfl,w,A,z,B,m⟩
    |ret=>exact⟨.ret,i,n,u,i0 p rfl,w,A,z,B,m⟩
    |exit j=>
    simp only at m;rw[aH]at m;split at m;.rename_i q0;exact⟨.cN,i,n,u,i0 p (by simp only;rw[q0];rfl),w,A,z,B,m⟩
    .
     rename_i q0
     have q0:Nat.beq j u0=false:=by cases v9:Nat.beq j u0 with
      |false=>rfl
      |true=>exact absurd v9 q0
     exact⟨.exit j,i,n,u,i0 p (by simp only;rw[q0];rfl),w,A,z,B,m⟩
  .
   rename_i w0 _;rw[aH]at o;split at o
   .
    rename_i a0;have p9:dc (g.jQ g.nx w0 (ke g w0) g.kp) h C:=t0.re rfl rfl rfl rfl rfl rfl;have q9:dB (g.jQ g.nx w0 (ke g w0) g.kp) h C:=⟨x0.nt,x0.v⟩;have g9:∀{e:Ex}{i:St}{n:SS}{u:En}{y0:Nat},(∀k,y0<=k->run cy.cx k b h=some (e,i))->dc n i u->dB n i u->Gr (g.jQ g.nx w0 (ke g w0) g.kp) h C n i u->(∀t,bu t (kw w0++g.kp)=true->n.tmp t=g.tmp t)->(match(generalizing:=false)e with| .exit j=>bif Nat.beq j u0 then Ex.cN else .exit j|e=>e)=e->p0 e (n.sH g)=some r->HU cy (.block u0 b) g p0 r h C:=by intro e i n u y0 p w A z B z0 o0;exact⟨e,i,n.sH g,u,i0 p z0,w.re rfl rfl rfl rfl rfl rfl,⟨A.nt,A.v⟩,zn a0 z rfl rfl z.Kj z.FC rfl rfl rfl,λt n0=>B t (fs.2 (cW _ (fs.1 n0))),o0⟩
    have h9:∀{e:Ex}{i:St}{n:SS}{u:En}{y0:Nat}{d:D (iH w0)},(∀k,y0<=k->run cy.cx k b h=some (e,i))->dc n i u->dB n i u->Gr (g.jQ g.nx w0 (ke g w0) g.kp) h C n i u->(∀t,bu t (kw w0++g.kp)=true->n.tmp t=g.tmp t)->(match(generalizing:=false)e with| .exit j=>bif Nat.beq j u0 then Ex.cN else .exit j|e=>e)= .cN->i8 g n w0 [] []=some d->(match uX g w0 (ke g w0) d with|some l0=>p0 .cN l0|none=>none)=some r->HU cy (.block u0 b) g p0 r h C:=by
     intro e i n u y0 d p w A z B z0 ha o0;split at o0;.rename_i l0 hS2;obtain⟨g0,e0,d0,c0,b0,c9,b9,a9,f4,f5⟩:=xM t0 x0 w A z B ha hS2;exact⟨.cN,i,l0,g0,i0 p z0,e0,d0,zn a0 c0 rfl rfl c9 b9 a9 f4 f5,λt n0=>b0 t (fs.2 (cW _ (fs.1 n0))),o0⟩
     .cases o0
    rcases Bu o with⟨d,x9,h0⟩|x9
    .
     obtain⟨e,i,n,u,⟨y0,p⟩,w,A,z,B,m⟩:=r0 _ _ _ _ _ _ _ x9 h C p9 q9
     cases e with
      |cN=>obtain⟨x,m0,z0⟩:=o8 m;cases z0;exact h9 p w A z B rfl m0 h0
      |ret=>obtain⟨x,_,z0⟩:=nI m;cases z0
      |exit j=>
      simp only at m;rw[aH]at m;split at m;.rename_i q0;obtain⟨x,m0,z0⟩:=o8 m;cases z0;exact h9 p w A z B (by simp only;rw[q0];rfl) m0 h0
      .obtain⟨x,_,z0⟩:=nI m;cases z0
    .
     obtain⟨e,i,n,u,⟨y0,p⟩,w,A,z,B,m⟩:=r0 _ _ _ _ _ _ _ x9 h C p9 q9
     cases e with
      |cN=>obtain⟨x,_,z0⟩:=o8 m;cases z0
      |ret=>obtain⟨x,m0,z0⟩:=nI m;cases z0;exact g9 p w A z B rfl m0
      |exit j=>
      simp only at m;rw[aH]at m;split at m;.obtain⟨x,_,z0⟩:=o8 m;cases z0
      .
       rename_i q0
       have q0:Nat.beq j u0=false:=by cases v9:Nat.beq j u0 with
        |false=>rfl
        |true=>exact absurd v9 q0
       obtain⟨x,m0,z0⟩:=nI m;cases z0;exact g9 p w A z B (by simp only;rw[q0];rfl) m0
   .cases o
 .
  rename_i b;split at o
  .
   obtain⟨e,i,n,u,⟨y0,p⟩,w,A,z,B,m⟩:=r0 _ _ _ _ _ _ _ o h C t0 x0
   have f0:e≠.cN->p0 e n=some r->HU cy (.loop b) g p0 r h C:=λw9 o0=>⟨e,i,n,u,lA (k0:=y0) λk v0=>by show(match run cy.cx k b h with|some (.cN,s0)=>run cy.cx k (.loop b) s0|r=>r)=_;rw[p k v0];cases e with
    |cN=>exact absurd rfl w9
    |ret=>rfl
    |exit _=>rfl,w,A,z,B,o0⟩
   cases e with
    |ret=>exact f0 (λh=>by cases h) m
    |exit u0=>exact f0 (λh=>by cases h) m
    |cN=>obtain⟨k0,y9,l0,g0,⟨t9,s9⟩,e0,d0,c0,b0,r9⟩:=r0 _ _ _ _ _ _ _ m i u w A;refine⟨k0,y9,l0,g0,lA (k0:=max y0 t9) λk v0=>?_,e0,d0,z.trans c0,λt n0=>(b0 t (by rw[z.kp];exact n0)).trans (B t n0),r9⟩;show(match run cy.cx k b h with|some (.cN,s0)=>run cy.cx k (.loop b) s0|r=>r)=_;rw[p k (aM (jZ _ _) v0)];exact s9 k (aM (jA _ _) v0)
  .
   rename_i w0 _;rw[aH]at o;split at o
   .
    rename_i a0;split at o;.rename_i d9 JG;rw[hN]at o;exact Nn r0 t0 x0 a0 _ d9 (g.jQ g.nx w0 (ke g w0) g.kp) h C o (t0.re rfl rfl rfl rfl rfl rfl) ⟨x0.nt,x0.v⟩ Gr.refl (λ_ _=>rfl) JG
    .cases o
   .cases o
 .exact⟨_,h,g,C,lA (k0:=0) λk _=>rfl,t0,x0,Gr.refl,λ_ _=>rfl,o⟩
 .exact⟨_,h,g,C,lA (k0:=0) λk _=>rfl,t0,x0,Gr.refl,λ_ _=>rfl,o⟩
 .cases o
theorem P2(a:∀f c,cy.ct.ap f=some c->tZ cy.cx f c)(d:∀f q,cy.sp.ap f=some q->om cy.cx f q):∀n,pJ cy (ex cy n):=by intro n;induction n with
 |zero=>intro i g k c j h r b;cases b
 |succ n e=>exact Th a d e
theorem Tu(n0:∀f c,cy.ct.ap f=some c->tZ cy.cx f c)(d0:∀f q,cy.sp.ap f=some q->om cy.cx f q){f:FuncId}{fn:Func}(m0:cy.cx.fn.ap f=some fn)(c0:cy.cx.ext.ap f=none){a r:U}{H:Tr (List Hi)}{n:Nat}{F:D a->Option (D r)}(hF:∀x,E8 cy n a r H fn x=F x):tZ cy.cx f ⟨a,r,F⟩:=by
 intro h s z x y l0 h0 p0 o0 j;have j:F x=some y:=j;rw[<-hF x]at j;unfold E8 at j;split at j
 .
  rename_i b i;rw[aH]at j;split at j
  .
   rename_i j0;have t0:Vs (⟨h.hp,s,λ_=>none,λ_ _=>none,.e,0⟩:En) (lC a x) z:=qb (E:=⟨h.hp,s,λ_=>none,λ_ _=>none,.e,0⟩) o0;have i0:Nat.ble z.length fn.ntmps=true:=by rw[wT t0];exact j0
   have p:∀(m:Nat)(e:iK),(Tr.e:Tr iK).ap m=some e->False:=λm e d=>by rw[Tr.kN]at d;cases d
   obtain⟨e,v0,v,u,⟨a0,z9⟩,o,y9,w,_,x0⟩:=P2 n0 d0 n _ _ _ _ _ _ _ j ⟨fn.ntmps,lU 0 z .e,h.hp,h.nx,h.lk,.undef⟩ ⟨h.hp,s,λ_=>none,λ_ _=>none,.e,0⟩ ⟨rfl,rfl,rfl,λm e d=>(p m e d).elim,λm e d=>(p m e d).elim,λm _ e _ _ d=>(p m e d).elim,λm e _ d=>(p m e d).elim,p0,l0,λb i=>⟨h0 b i,λm e d=>(p m e d).elim⟩,λ_ _ d=>(by rcases d with d|⟨_,d⟩<;>cases d),λm e d=>(p m e d).elim⟩ (uv t0);have y0:∀b,¬Ow (⟨fn.ntmps,uV 0 (lC a x) .e,.e,0,[],0,[],[]⟩:SS) (⟨h.hp,s,λ_=>none,λ_ _=>none,.e,0⟩:En) b:=λb⟨m,e,d,_⟩=>p m e d
   have s0:(∀t,e≠.exit t)->sD cy v fn.results.toList (λl=>match mZ v.st l with|some _=>pZ v.st r l|none=>none)=some y->∃l A B C,(∃b0,∀k,b0<=k->call cy.cx (run cy.cx k) f z h=some (one l,⟨h.nt,h.dC,A,B,h.lk,h.df⟩))/\h.nx<=B/\(∀b,b<h.nx->A.ap b=h.hp.ap b)/\(∀b,B<=b->A.ap b=none)/\(∀b,s b->C b)/\(∀b,C b->s b\/h.nx<=b/\b<B)/\iz A C r l y:=by
    intro g0 e0;obtain⟨l,x9,r0,w9,w0⟩:=oZ o y9 e0;split at w0
    .
     rename_i v9 q0;have f0:=n6 (E:=u) (Q:=λb=>u.Z b\/Ow v u b) (k:=3) (λb i=> .inl i) (λm e d=>o.hD m e (by rw[<-o.st];exact d)) (by rw[o.st];exact w0) w9 (tH (λm e b d i=> .inr ⟨m,e,by rw[<-o.st];exact d,i⟩) (by rw[o.st];exact q0));refine⟨x9,v0.hp,v0.nx,λb=>u.Z b\/Ow v u b,⟨a0,λk k0=>?_⟩,w.nx,λb i=>w.EH b i (y0 b),o.fr,λb i=> .inl (w.z b i),λb i=>?_,by rw[<-o.hp];exact f0⟩
     .unfold call;rw[c0,m0];simp only;rw[i];simp only;rw[i0,z9 k k0];cases e with
      |exit t=>exact absurd rfl (g0 t)
      |cN=>simp only[gg];rw[r0]
      |ret=>simp only[gg];rw[r0]
     .
      rcases i with i|i
      .
       rcases w.z' b i with g|g|g;.exact .inl g
       .exact absurd g (y0 b)
       .exact .inr ⟨g,o.z b i⟩
      .
       obtain⟨m,e,d,u0⟩:=i;rcases w.ow b ⟨m,e,d,u0⟩with g|g;.exact absurd g (y0 b)
       .exact .inr ⟨g,(o.own m e b d u0).2⟩
    .cases w0
   cases e with
    |exit t=>cases x0
    |cN=>exact s0 (λt z0=>by cases z0) x0
    |ret=>exact s0 (λt z0=>by cases z0) x0
  .cases j
 .cases j
end
end Go.Ls
namespace Go.Hm
open Go Go.RowKit Go.Wk
theorem x7{s:St}{b:Nat}{x:gK}(h:s.cp b=some x):s.hp.ap b=some (.cp x):=by
 unfold St.cp at h;split at h;.rename_i y a;cases h;exact a
 .cases h
section
variable{ρ:Rn}{s s':St}{w w':World}
theorem s7{c o:Nat}{xs:Array Value}{T:TypeId}{us:List Value}(h:w.heap[c]?=some (.cells xs T (0,0)))(d:o+us.length<=xs.size):∃a,(w.setCells c o us).heap[c]?=some (.cells a T (0,0))/\a.size=xs.size:=by
 have b:Wk.gK w c T xs.toList:=by unfold Wk.gK;simpa using h
 have:=uL us o xs.toList w b (by simpa using d);refine⟨_,this,?_⟩;simp[vB];omega
theorem wa{c o i:Nat}{xs:Array Value}{T:TypeId}{us:List Value}{u:Value}(h:w.heap[c]?=some (.cells xs T (0,0)))(e:o+us.length<=xs.size)(a:us[i]?=some u):(w.setCells c o us).cell? ⟨c,o+i,none⟩=some u:=by have b:=gv a;rw[World.cell?_setCells_in c us o w (λj d=>by rw[mS h,gW (by omega)];rfl) i b];rw[G b]at a;exact a
theorem uK{c o i:Nat}{us:List Value}(h:i<o\/o+us.length<=i):(w.setCells c o us).cell? ⟨c,i,none⟩=w.cell? ⟨c,i,none⟩:=World.cell?_setCells_out c us o w _ λ_ _=>h
theorem fp.fo{b o:Nat}{l:List HV}{us:List Value}{r:RI}(h:eT ρ s.hp w)(k:ρ b=some r)(f:s.fo b o l=some s')(v0:dN ρ l us)(h1:∀x,x∈us->x.oneCell'=true):fp ρ s w ρ s' (w.setCells r.c (r.o+o) us)/\∃xs T,w.heap[r.c]?=some (.cells xs T (0,0))/\r.o+o+us.length<=xs.size:=by
 unfold St.fo at f
 cases w0:s.cp b with
  |none=>rw[w0]at f;cases f
  |some x=>
  rw[w0]at f;simp only[aH]at f;split at f
  .
   rename_i d;cases f;simp only[ae,bO]at d;obtain⟨p,_,j0⟩:=d;have n:=x7 w0;have k0:=h.cp b x r n k;obtain⟨r0,q0,s0,p0,o0⟩:=k0;obtain⟨xs,T,D,n0,m0⟩:=o0 p;have w9:=eW v0;have x9:o+l.length<=x.n:=j0;have y0:r.o+o+us.length<=xs.size:=by omega
   obtain⟨a0,f0,e0⟩:=s7 (us:=us) D y0;have C:=Kp.setCells r.c us (r.o+o) w;have h0:∀c,c<w.heap.size->c≠r.c->(w.setCells r.c (r.o+o) us).heap[c]?=w.heap[c]?:=λc d j=>C.block c d (by simpa using j);have j:∀i,i≠b->(s.hp.set b (.cp ⟨true,x.z,x.n,cr x.c o l⟩)).ap i=s.hp.ap i:=λi a=>Tr.bS _ _ a;refine⟨⟨?_,λ_ _=>rfl,zg.of C λc d=>?_,?_,au _⟩,xs,T,D,y0⟩
   .
    refine h.step (b:=b) (λi a=>rfl) (sQ.refl _) C.size (λi a q t=>by rw[<-t];exact(j i a).symm) ?_ ?_ ?_ ?_
    .
     intro i q m a t z i0;refine h0 _ i0 ?_;have x0:s.hp.ap i=some q:=by rw[<-j i a];exact t
     exactλe=>h.inj b i _ q r m (λx=>a x.symm) n p x0 k z e.symm
    .
     intro y m g z;rw[k]at z;cases z;simp only at g;rw[Tr.a8]at g;cases g;refine⟨r0,q0,aP s0 C.size,λi v a A=>?_,λ_=>⟨a0,T,f0,by rw[e0];exact n0,m0⟩⟩;simp only at A a;rw[gq]at A;split at A;.rename_i y9;obtain⟨u,B,z0⟩:=jW v0 _ v A;refine⟨u,?_,z0,h1 u (Y B)⟩;have:=wa D y0 B;rw[show r.o+i=r.o+o+(i-o)by omega];exact this
     .rename_i v9;obtain⟨u,B,z0,l0⟩:=p0 i v a A;refine⟨u,?_,z0,l0⟩;rw[uK (by omega)];exact B
    .intro z9 m g z;simp only at g;rw[Tr.a8]at g;cases g
    .
     intro i q s9 b0 r9 a t t9 u9 g0 u0;rw[k]at u0;cases u0;have x0:s.hp.ap i=some q:=by rw[<-j i a];exact t
     exactλe=>h.inj b i _ q r b0 (λx=>a x.symm) n p x0 k g0 e.symm
   .
    have:c=r.c:=by simpa using d
    subst this;exact⟨b,_,r,n,p,k,rfl⟩
   .
    intro c d;obtain⟨i,q,m,d0,c0,t0,rfl⟩:=d;left;by_cases a:i=b;.subst a;exact⟨i,_,m,n,p,t0,rfl⟩
    .exact⟨i,q,m,by rw[<-j i a];exact d0,c0,t0,rfl⟩
  .cases f
theorem fp.Va{b o n k z:Nat}{x:gK}{r r':RI}{q0:Tr HV}{bP:List HV}{us:List Value}{B:St}(h:eT ρ s.hp w)(hg:s.hp.ap b=some (.cp x))(n0:x.own=true)(x0:ρ b=some r)(u:ρ s.nx=none)(m0:dN ρ bP us)(h1:∀y,y∈us->y.oneCell'=true)(d9:bP.length=k*z)(d0:∀i v,i<(n+k)*z->q0.ap i=some v->i<n*z/\o+i<x.n/\x.c.ap (o+i)=some v\/n*z<=i/\bP[i-n*z]?=some v)(y9:B.hp=(s.hp.nr b).set s.nx (.cp ⟨true,z,(n+k)*z,q0⟩))(hsn:B.nx=s.nx+1)(D:r'.n=(n+k)*z/\r'.z=z)(a0:w'=w.setCells r.c (r.o+o+n*z) us/\r'.c=r.c/\r'.o=r.o+o/\r'.ga=r.ga/\r.o+o+(n+k)*z<=r.ga\/Kp [] w w'/\r'.c=w.heap.size/\r'.o=0/\∃(C:Array Value)(T:TypeId)(s0:List Value),w'.heap[r'.c]?=some (.cells C T (0,0))/\C.size=r'.ga/\(n+k)*z<=r'.ga/\s0.length=n*z/\(∀(i:Nat)(y:Value),(s0++us)[i]?=some y->C[i]?=some y)/\∀(i:Nat)(y:Value),s0[i]?=some y->w.cell? ⟨r.c,r.o+o+i,none⟩=some y):fp ρ s w (pf ρ s.nx r') B w':=by
 have o9:=h.cp b x r hg x0;obtain⟨h9,g9,r9,g0,q9⟩:=o9;obtain⟨j9,T,f0,p9,f9⟩:=q9 n0;have c9:=eW m0;have v0:=xk (r:=r') u;have b9:(n+k)*z=n*z+k*z:=fY _ _ _;have e9:b≠s.nx:=by rintro rfl;rw[x0]at u;cases u
 have p0:∀i,i≠s.nx->∀q,B.hp.ap i=some q->i≠b/\s.hp.ap i=some q:=λi a q g=>by
  rw[y9,Tr.bS _ _ a,Tr.gC]at g;split at g;.cases g
  .rename_i o0;exact⟨o0,g⟩
 have x9:B.hp.ap s.nx=some (.cp ⟨true,z,(n+k)*z,q0⟩):=by rw[y9,Tr.a8]
 have c0:∀i q j,i≠s.nx->B.hp.ap i=some q->ρ i=some j->j.c≠r.c:=λi q j a g l=>by obtain⟨o0,k0⟩:=p0 i a q g;exactλe=>h.inj b i _ q r j (λx=>o0 x.symm) hg n0 k0 x0 l e.symm
 have h0:∀(w9:w.heap.size<=w'.heap.size)(d:zg (λc=>c=r.c) w w')(f:r'.c=r.c\/r'.c=w.heap.size)(e0:y5 (pf ρ s.nx r') w' r' ⟨true,z,(n+k)*z,q0⟩),fp ρ s w (pf ρ s.nx r') B w':=by
  intro w9 d f e0;refine⟨?_,?_,⟨d.os,d.tape,d.output,d.size,λc f n9=>d.block c f λe=>n9 ?_⟩,?_,by omega⟩
  .
   refine h.step (b:=s.nx) (λi a=>ku _ _ a) v0 w9 (λi a q g=>(p0 i a q g).2) ?_ ?_ ?_ ?_;.exactλi q j a g l l9=>d.block _ l9 (c0 i q j a g l)
   .intro y j u0 l;rw[x9]at u0;cases u0;rw[fM]at l;cases l;exact e0
   .intro i9 j u0 l;rw[x9]at u0;cases u0
   .
    intro i q q' j r2 a g a9 a0 l z9;rw[fM]at z9;cases z9;rcases f with f|f;.rw[f];exact c0 i q j a g l
    .have:=h.at (p0 i a q g).2 l;omega
  .intro i a;refine ku _ _ ?_;omega
  .subst e;exact⟨b,_,r,hg,n0,x0,rfl⟩
  .
   intro c m9;obtain⟨i,q,j,r0,m,t,rfl⟩:=m9;by_cases a:i=s.nx
   .
    subst a;rw[fM]at t;cases t;rcases f with f|f;.left;rw[f];exact⟨b,_,r,hg,n0,x0,rfl⟩
    .right;omega
   .rw[ku _ _ a]at t;obtain⟨o0,k0⟩:=p0 i a q r0;exact .inl ⟨i,q,j,k0,m,t,rfl⟩
 rcases a0 with⟨rfl,z0,t0,y0,v9⟩|⟨d,z0,t0,C,s9,s0,y0,v9,u9,j0,t9,k9⟩
 .
  have b0:r.o+o+n*z+us.length<=j9.size:=by omega
  have d:=Kp.setCells r.c us (r.o+o+n*z) w;obtain⟨C,u9,j0⟩:=s7 (us:=us) f0 b0;refine h0 d.size (zg.of d λc f=>by simpa using f) (.inl z0) ⟨D.1.symm,D.2.symm,by rw[z0];exact aP r9 d.size,λi v a w0=>?_,λ_=>⟨C,T,by rw[z0];exact u9,by rw[j0,y0];exact p9,by rw[t0,y0,D.1];omega⟩⟩;simp only at a w0;rw[z0,t0];rcases d0 i v a w0 with⟨r0,m,t⟩|⟨r0,m⟩;.obtain⟨y,p,A,i0⟩:=g0 (o+i) v m t;refine⟨y,?_,VR.ext v0 _ _ A,i0⟩;rw[uK (by omega),gn];exact p
  .obtain⟨y,p,A⟩:=jW m0 _ v m;refine⟨y,?_,VR.ext v0 _ _ A,h1 y (Y p)⟩;have:=wa f0 b0 p;rw[show r.o+o+i=r.o+o+n*z+(i-n*z)by omega];exact this
 .
  refine h0 d.size ⟨d.os,d.tape,d.output,d.size,λc f _=>d.block c f (by simp)⟩ (.inr z0) ⟨D.1.symm,D.2.symm,oc y0,λi v a w0=>?_,λ_=>⟨C,s9,y0,v9,by rw[t0,D.1];omega⟩⟩;simp only at a w0;rw[mS y0,t0,bi];rcases d0 i v a w0 with⟨r0,m,t⟩|⟨r0,m⟩
  .
   obtain⟨y,p,A,i0⟩:=g0 (o+i) v m t;have l0:i<s0.length:=by omega
   have:=k9 i _ (G l0);rw[show r.o+o+i=r.o+(o+i)by omega,p]at this;cases this;exact⟨_,t9 i _ (by rw[bL l0,G l0]),VR.ext v0 _ _ A,i0⟩
  .obtain⟨y,p,A⟩:=jW m0 _ v m;refine⟨y,t9 i y ?_,VR.ext v0 _ _ A,h1 y (Y p)⟩;rw[bA (by omega),j0];exact p
end
section
variable{P:Program}
theorem AH:∀{n t:Nat}{x:pI},(C4 P n).ap t=some x->pX P t=some x
 |0,t,x,h=>by cases h
 |i+1,t,x,h=>by
  unfold C4 at h
  cases a:pX P i with
   |none=>rw[a]at h;exact AH h
   |some y=>
   rw[a]at h;simp only[Tr.dk]at h;split at h;.rename_i b;rw[b,<-h];exact a
   .exact AH h
theorem GM:∀{l:List Func}{i:Nat}{T:Tr Func}{f:Nat}{g:Func},(C6 l i T).ap f=some g->i<=f/\l[f-i]?=some g\/T.ap f=some g
 |[],i,T,f,g,h=> .inr h
 |a::l,i,T,f,g,h=>by
  unfold C6 at h;rcases GM h with⟨b,c⟩|b
  .
   left;have b:i+1<=f:=b;refine⟨by omega,?_⟩;have:f-i=f-Nat.add i 1+1:=by show f-i=f-(i+1)+1;omega
   rw[this,dD];exact c
  .
   rw[Tr.dk]at b;split at b;.rename_i d;subst d;left;refine⟨au _,?_⟩;rw[dW];exact b
   .exact .inr b
theorem C5{f:Nat}{g:Func}(h:(C6 P.funcs.toList 0 .e).ap f=some g):P.funcs[f]?=some g:=by
 rcases GM h with⟨_,b⟩|a;.simpa using b
 .cases a
structure Ty (P : Program) (t : Nat) (x : pI) (i : TypeInfo) : Prop where
  sG : P.info? t = some i
  size : i.size = x.size
  bytes : i.bytes = x.bytes
  zero : ∀ z, x.zero = some z → ∃ v, i.zero = some v ∧ Jt v = some z
  agg : x.agg = Ka P t
  sh : x.sh = oH P t
  XV : ∃ d, P.underlying t = some d
theorem Ty.of{t:Nat}{x:pI}(h:pX P t=some x):∃i,Ty P t x i:=by
 unfold pX at h;split at h
 .
  rename_i i c;split at h;.cases h
  .
   rename_i d b;cases h;refine⟨i,c,rfl,rfl,λz a=>?_,rfl,rfl,d,b⟩;simp only at a;split at a;.rename_i v e;exact⟨v,e,a⟩
   .cases a
 .cases h
theorem kH{t e:Nat}(h:oH P t= .slice e):P.underlying t=some (.slice e):=by unfold oH at h;split at h<;>first|(cases h;assumption)|(split at h<;>cases h)|cases h
theorem zo{t n e:Nat}(h:oH P t= .im n e):P.underlying t=some (.array n e):=by unfold oH at h;split at h<;>first|(cases h;assumption)|(split at h<;>cases h)|cases h
theorem Ey{t:Nat}{k:IntKind}(h:oH P t= .int k):P.underlying t=some (.int k):=by unfold oH at h;split at h<;>first|(cases h;assumption)|(split at h<;>cases h)|cases h
theorem O1{t:Nat}(h:oH P t= .bool):P.underlying t=some .bool:=by unfold oH at h;split at h<;>first|(cases h;assumption)|(split at h<;>cases h)|cases h
theorem ue{t:Nat}(h:oH P t= .ef):P.underlying t=some .string:=by unfold oH at h;split at h<;>first|(cases h;assumption)|(split at h<;>cases h)|cases h
theorem Ew{t k e:Nat}(h:oH P t= .map k e):P.underlying t=some (.map k e):=by unfold oH at h;split at h<;>first|(cases h;assumption)|(split at h<;>cases h)|cases h
theorem Ac{t:Nat}{l:List (Nat×Nat)}(h:oH P t= .struct l):∃a,P.underlying t=some (.struct a)/\a.toList.mapM (λf=>(P.info? f.type).map λi=>(f.offset,i.size))=some l:=by
 unfold oH at h;split at h<;>first|cases h|skip
 rename_i a b;split at h;.rename_i d c;cases h;exact⟨a,b,c⟩
 .cases h
theorem C9{α β:Type}{f:α->Option β}:∀{l:List α}{r:List β},l.mapM f=some r->∀(i:Nat)(y:β),r[i]?=some y->∃x,l[i]?=some x/\f x=some y
 |[],r,h,i,y,c=>by simp at h;subst h;simp at c
 |a::l,r,h,i,y,c=>by rw[sL]at h;cases d:f a with
  |none=>simp[d]at h
  |some b=>cases e:l.mapM f with
  |none=>simp[d,e]at h
  |some k=>simp[d,e]at h;subst h;cases i with
  |zero=>simp at c;subst c;exact⟨a,rfl,d⟩
  |succ i=>simp at c;obtain⟨x,g,j⟩:=C9 e i y c;exact⟨x,by simpa using g,j⟩
section
variable{t:Nat}{x:pI}{i:TypeInfo}(T:Ty P t x i)
theorem Ty.sizeOf(T:Ty P t x i)(w:World):(Go.sizeOf t).run P w= .ok x.size w:=by simp[Go.sizeOf,typeInfo,T.sG,T.size]
theorem Ty.isAgg(T:Ty P t x i)(w:World):(Go.isAgg t).run P w= .ok x.agg w:=by obtain⟨d,a⟩:=T.XV;rw[T.agg];unfold Ka;rw[a];cases d<;>simp[Go.isAgg,run_underlying a]
theorem Ty.IV(T:Ty P t x i){z:HV}(c:x.zero=some z):∃v,Jt v=some z/\∀w,(zeroValue t).run P w= .ok v w:=by obtain⟨v,a,b⟩:=T.zero z c;exact⟨v,b,λw=>by simp[zeroValue,typeInfo,T.sG,a]⟩
end
def iA(ρ:Rn)(n:Nat)(s:St)(F:dB):Prop:=s.nt=n/\∀t,VR ρ (s.tmp t) (ev n F (.tmp t))
section
variable{ρ:Rn}{n:Nat}{s:St}{F:dB}{w:World}
theorem bV(h:iA ρ n s F){x:Operand}{v:HV}(a:s.ev x=some v):VR ρ v (ev n F x):=by cases x with
 |tmp t=>cases a;exact h.2 t
 |const c=>exact th a
 |func f=>cases a;unfold VR;exact⟨[],rfl,by unfold dN;rfl⟩
 |global g=>cases a
theorem l4(h:iA ρ n s F):∀{xs:List Operand}{l:List HV},s.jI xs=some l->dN ρ l (xs.map (ev n F))
 |[],l,a=>by cases a;unfold dN;rfl
 |x::xs,l,a=>by unfold St.jI at a;cases b:s.ev x with
  |none=>rw[b]at a;cases a
  |some v=>rw[b]at a;cases c:s.jI xs with
  |none=>rw[c]at a;cases a
  |some d=>rw[c]at a;cases a;unfold dN;exact⟨_,_,rfl,bV h b,l4 h c⟩
def fk(P:Program)(n:Nat)(F:dB)(ρ:Rn)(s:St)(w:World)(o:Op):Rs->Prop| .val v a=>jX ρ s.nx a.nx->∃u b e,iq P n F w o u b/\VR e v u/\fp ρ s w e a b/\a.nt=s.nt/\a.dC=s.dC/\a.lk=s.lk| .Fx a=>∃b,VH P n F w o b/\fp ρ s w ρ a b/\a.nt=s.nt/\a.dC=s.dC/\a.lk=s.lk/\a.nx=s.nx| .call f j=>∃c:List Value,dN ρ j c/\∀(d:Option Nat)(t:Nat)(p:String)(h:Array Edge)(g:Option (Nat×Bool)),(execOp (ev n F) ⟨d,o,t,p,h,g⟩).run P w=(callFunc f c.toArray).run P w
theorem fp.refl(h:eT ρ s.hp w):fp ρ s w ρ s w:=⟨h,λ_ _=>rfl,zg.refl _ _,λ_ h=> .inl h,au _⟩
theorem fk.pure{o:Op}{v:HV}{u:Value}(h:eT ρ s.hp w)(b:iq P n F w o u w)(a:VR ρ v u):fk P n F ρ s w o (.val v s):=λ_=>⟨u,w,ρ,b,a,fp.refl h,rfl,rfl,rfl⟩
end
end
theorem qK(k:IntKind)(n:Int):fT k n=k.wrap n:=by
 unfold fT;rw[aH];split
 .
  rename_i h;cases k<;>simp only[A5,ae,bB,dU]at h;case i64=>rw[IntKind.wrap_i64];omega
  all_goals unfold IntKind.wrap;simp only[IntKind.bits,IntKind.signed,mt,dU,fc];omega
 .rfl
section
variable{P:Program}{n:Nat}{F:dB}{ρ:Rn}{s:St}{w:World}
theorem J7{op:BinOp}{k:IntKind}{a b:Int}{v:HV}{t l:TypeId}{x y:Operand}(h:vN op k a b=some v)(c:ev n F x= .int k a)(e:ev n F y= .int k b):∃u,iq P n F w (.binOp op t x y l) u w/\VR ρ v u:=by
 cases op<;>simp only[vN,aH]at h
 case quo=>
  split at h;.cases h
  .
   rename_i f;have f:¬b=0:=by simpa using f
   cases h;refine⟨_,⟨λd j p i g=>?_⟩,by unfold VR;rfl⟩;simp[execOp,c,e,go_sem,f,qK]
 case rem=>
  split at h;.cases h
  .
   rename_i f;have f:¬b=0:=by simpa using f
   cases h;refine⟨_,⟨λd j p i g=>?_⟩,by unfold VR;rfl⟩;simp[execOp,c,e,go_sem,f]
 case shl=>cases h
 case shr=>cases h
 case eql=>cases h;refine⟨_,QQ c e,by unfold VR;rfl⟩
 case neq=>cases h;refine⟨_,QI c e,by unfold VR;rfl⟩
 case lss=>cases h;exact⟨_,QL c e,by unfold VR;rfl⟩
 case leq=>cases h;exact⟨_,QM c e,by unfold VR;rfl⟩
 case gtr=>cases h;exact⟨_,QO c e,by unfold VR;rfl⟩
 case geq=>cases h;exact⟨_,QP c e,by unfold VR;rfl⟩
 all_goals cases h;refine⟨_,⟨λd j p i g=>?_⟩,by unfold VR;rfl⟩;simp[execOp,c,e,go_sem,qK];try rfl
theorem Ab{left:Bool}{k e:IntKind}{a b:Int}{v:HV}{t z:TypeId}{x y:Operand}(h:shift left k a b=some v)(l:ev n F x= .int k a)(o:ev n F y= .int e b):∃u,iq P n F w (.binOp (bif left then .shl else .shr) t x y z) u w/\VR ρ v u:=by
 cases b with
  |negSucc m=>cases h
  |ofNat m=>
  have j:¬Int.ofNat m<0:=by simp
  have i:(Int.ofNat m).toNat=m:=rfl;have f:Int.ofNat (Nat.pow 2 (Nat.min m k.bits))=(2:Int)^min m k.bits:=by show((2^min m k.bits:Nat):Int)=_;rw[Ef]
  unfold shift at h;cases h;cases left
  .
   refine⟨.int k (a.fdiv (2^min m k.bits)),⟨λd r p q g=>?_⟩,by unfold VR;simp only[kg,f]⟩;have c:(binOp .shr t (.int k a) (.int e (Int.ofNat m))).run P w= .ok (.int k (a.fdiv (2^min m k.bits))) w:=by rw[binOp_shr];simp only[Op.shift,j,fc,i];rfl
   simp only[kg,execOp,l,o,Sem.run_bind,eqGuard_shr,Sem.run_pure,Result.andThen_ok,c]
  .
   refine⟨.int k (k.wrap (a*2^min m k.bits)),⟨λd r p q g=>?_⟩,by unfold VR;simp only[gg,f,qK];rfl⟩;have c:(binOp .shl t (.int k a) (.int e (Int.ofNat m))).run P w= .ok (.int k (k.wrap (a*2^min m k.bits))) w:=by rw[binOp_shl];simp only[Op.shift,j,fc,i];rfl
   simp only[gg,execOp,l,o,Sem.run_bind,eqGuard_shl,Sem.run_pure,Result.andThen_ok,c]
def vu:Bool->Value->Value->Option Bool|true,.int k a,.int c b=>if k=c then some (decide (a=b))else none|false,.bool a,.bool b=>some (a==b)|_,_,_=>none
def oQ:List Bool->List Value->List Value->Option Bool
 |[],[],[]=>some true
 |p::e,a::c,b::d=>match vu p a b with|some true=>oQ e c d|r=>r
 |_,_,_=>none
theorem Jc{p:Bool}{a b:HV}{u v:Value}{r:Bool}(c:VR ρ a u)(d:VR ρ b v)(h:xr p a b=some r):vu p u v=some r:=by
 unfold xr at h;split at h
 .
  unfold VR at c d;subst c d;rw[aH]at h;split at h;.rename_i e;have e:=br e;cases h;simp[vu,e]
  .cases h
 .unfold VR at c d;subst c d;exact h
 .cases h
theorem Ag:∀{ps:List Bool}{a b:List HV}{u v:List Value}{r:Bool},dN ρ a u->dN ρ b v->s8 ps a b=some r->oQ ps u v=some r
 |[],[],[],u,v,r,c,d,h=>by unfold dN at c d;subst c d;exact h
 |[],[],_::_,u,v,r,c,d,h=>by cases h
 |[],_::_,_,u,v,r,c,d,h=>by cases h
 |_::_,[],_,u,v,r,c,d,h=>by cases h
 |_::_,_::_,[],u,v,r,c,d,h=>by cases h
 |p::ps,a::k,b::l,u,v,r,c,d,h=>by unfold dN at c d;obtain⟨m,o,rfl,f,g⟩:=c;obtain⟨t,x,rfl,i,j⟩:=d;unfold s8 at h;unfold oQ;cases e:xr p a b with
  |none=>rw[e]at h;cases h
  |some q=>rw[e]at h;rw[Jc f i e];cases q with
  |true=>exact Ag g j h
  |false=>exact h
structure xh (P : Program) (t : Nat) (m : List Bool) : Prop where
  guard : P.eqGuardType P.depth t = false
  eq : ∀ (us vs : List Value) (r : Bool) (w : World), us.length = m.length → vs.length = m.length → oQ m us vs = some r → (Op.equal t (.agg us.toArray) (.agg vs.toArray)).run P w = .ok r w
def B6(P:Program)(f q:Nat):Prop:=∀(e:List HV)(s c:St)(v:HV)(ρ:Rn)(w:World)(a:List Value),xG q e s=some (v,c)->eT ρ s.hp w->jX ρ s.nx c.nx->dN ρ e a->(∃u d b,(callFunc f a.toArray).run P w= .ok (.value u) d/\VR b v u/\fp ρ s w b c d)\/(callFunc f a.toArray).run P w= .ok (.enter f a.toArray) w/\yh P f a.toArray w λu d=>∃b,VR b v u/\fp ρ s w b c d
structure gm (P : Program) (cx : Cx) : Prop where
  ti : ∀ t x, cx.ti.ap t = some x → pX P t = some x
  fn : ∀ f g, cx.fn.ap f = some g → P.funcs[f]? = some g
  nm : ∀ f g, cx.fn.ap f = some g → (g.name == "runtime.NumGoroutine") = false
  ext : ∀ f q, cx.ext.ap f = some q → B6 P f q
  Cl : ∀ t m, cx.Cl.ap t = some m → xh P t m
  mix : P.follows .mixedOrders = true
variable{cx:Cx}
theorem gm.ty(h:gm P cx){t:Nat}{x:pI}(a:cx.ti.ap t=some x):∃i,Ty P t x i:=Ty.of (h.ti t x a)
theorem gm.sizeOf(h:gm P cx){t z:Nat}(a:cx.size t=some z)(w:World):(Go.sizeOf t).run P w= .ok z w:=by unfold Cx.size at a;cases b:cx.ti.ap t with
 |none=>rw[b]at a;cases a
 |some x=>rw[b]at a;cases a;obtain⟨i,c⟩:=h.ty b;exact c.sizeOf w
theorem JN{op:BinOp}{b:Bool}{v:HV}(h:fG op b=some v):op= .eql/\v= .bool b\/op= .neq/\v= .bool (!b):=by
 unfold fG at h;split at h<;>cases h;.exact .inl ⟨rfl,rfl⟩
 .exact .inr ⟨rfl,rfl⟩
theorem wU{op:BinOp}{r:Bool}{v:HV}{t l:TypeId}{x y:Operand}{a b:Value}(h:fG op r=some v)(c:ev n F x=a)(e:ev n F y=b)(hg:∀op w,(eqGuard op t x y a b).run P w= .ok () w)(i:∀w,(binOp .eql t a b).run P w= .ok (.bool r) w)(j:∀w,(binOp .neq t a b).run P w= .ok (.bool (!r)) w):∃u,iq P n F w (.binOp op t x y l) u w/\VR ρ v u:=by
 rcases JN h with⟨rfl,rfl⟩|⟨rfl,rfl⟩;.refine⟨.bool r,⟨λd k p f g=>?_⟩,by unfold VR;rfl⟩;simp only[execOp,c,e,Sem.run_bind,hg,Result.andThen_ok,i,Sem.run_pure]
 .refine⟨.bool (!r),⟨λd k p f g=>?_⟩,by unfold VR;rfl⟩;simp only[execOp,c,e,Sem.run_bind,hg,Result.andThen_ok,j,Sem.run_pure]
theorem J2(C:gm P cx){op:BinOp}{a b v:HV}{t o0:TypeId}{x y:Operand}(h:lu cx op t a b=some v)(f:VR ρ a (ev n F x))(j:VR ρ b (ev n F y)):∃u,iq P n F w (.binOp op t x y o0) u w/\VR ρ v u:=by
 unfold lu at h;split at h
 .
  unfold VR at f j;split at h;.exact Ab (left:=true) h f j
  .exact Ab (left:=false) h f j
  .
   rw[aH]at h;split at h;.rename_i D;have D:=br D;subst D;exact J7 h f j
   .cases h
 .
  rename_i v0 u0;unfold VR at f j;split at h
  .
   rw[aH]at h;split at h
   .
    rename_i z0;simp only[bO]at z0;have z0:v0.size+u0.size<=1000000000:=z0;cases h;refine⟨.string (v0++u0),⟨λd j0 p k0 g=>?_⟩,by unfold VR;rfl⟩;have:¬9223372036854775807<(v0.size:Int)+(u0.size:Int):=by omega
    simp[execOp,f,j,eqGuard,binOp,Op.stringOp,IntKind.max,IntKind.signed,IntKind.bits,this]
   .cases h
  .
   refine wU h f j (λop w=>?_) (λw=>?_) λw=>?_;.unfold eqGuard;split<;>simp
   .simp[binOp,Op.stringOp]
   .simp[binOp,Op.stringOp]
 .
  rename_i t0 s0;unfold VR at f j
  cases l:cx.ti.ap t with
   |none=>rw[l]at h;cases h
   |some z=>
   rw[l]at h;simp only at h;obtain⟨i,B⟩:=C.ty l;split at h
   .
    rename_i k;have w0:=O1 (B.sh.symm.trans k);have o:∀w,(Op.equal t (.bool t0) (.bool s0)).run P w= .ok (t0==s0) w:=λw=>by unfold Op.equal Op.maxDepth Op.equalIn;simp only[Sem.run_bind,run_underlying w0,Result.andThen_ok];rfl
    refine wU h f j (λop w=>?_) (λw=>?_) λw=>?_;.unfold eqGuard;split<;>simp
    .simp only[binOp,Sem.run_bind,o,Result.andThen_ok,Sem.run_pure]
    .simp only[binOp,Sem.run_bind,o,Result.andThen_ok,Sem.run_pure]
   .cases h
 .
  unfold VR at f j;obtain⟨n0,f,r0,_⟩:=f;obtain⟨m0,j,q0,_⟩:=j
  cases l:cx.Cl.ap t with
   |none=>rw[l]at h;cases h
   |some m=>
   rw[l]at h;simp only[aH]at h;split at h
   .
    rename_i y0;simp only[ae]at y0;split at h
    .
     rename_i r x0;have p0:=C.Cl t m l;have o:∀w,(Op.equal t (.agg n0.toArray) (.agg m0.toArray)).run P w= .ok r w:=λw=>p0.eq n0 m0 r w (by rw[eW r0];exact aw y0.1) (by rw[eW q0];exact aw y0.2) (Ag r0 q0 x0);refine wU h f j (λop w=>?_) (λw=>?_) λw=>?_;.unfold eqGuard;split<;>simp[p0.guard]
     .simp only[binOp,Sem.run_bind,o,Result.andThen_ok,Sem.run_pure]
     .simp only[binOp,Sem.run_bind,o,Result.andThen_ok,Sem.run_pure]
    .cases h
   .cases h
 .
  unfold VR at j
  cases l:cx.ti.ap t with
   |none=>rw[l]at h;cases h
   |some z=>
   rw[l]at h;simp only at h;obtain⟨i,B⟩:=C.ty l
   have A:∀{e:Nat}{r:Bool}{q:Option Addr}{m c:Nat},z.sh= .slice e->ev n F x= .slice q m c->q.isNone=r->fG op r=some v->∃u,iq P n F w (.binOp op t x y o0) u w/\VR ρ v u:=by
    intro e r q m c k f x0 h;have w0:=kH (B.sh.symm.trans k);have o:∀w,(Op.equal t (.slice q m c) (.slice none 0 0)).run P w= .ok r w:=λw=>by rw[<-x0];unfold Op.equal Op.maxDepth Op.equalIn;simp only[Sem.run_bind,run_underlying w0,Result.andThen_ok];cases q<;>rfl
    refine wU h f j (λop w=>?_) (λw=>?_) λw=>?_;.unfold eqGuard;split<;>simp
    .simp only[binOp,Sem.run_bind,o,Result.andThen_ok,Sem.run_pure]
    .simp only[binOp,Sem.run_bind,o,Result.andThen_ok,Sem.run_pure]
   split at h;.rename_i k;unfold VR at f;exact A k f rfl h
   .rename_i k;unfold VR at f;obtain⟨r,l0,_,f,_⟩:=f;exact A k f rfl h
   .rename_i k;unfold VR at f;obtain⟨r,l0,_,f,_⟩:=f;exact A k f rfl h
   .rename_i k;unfold VR at f;obtain⟨a,f⟩:=f;exact A k f rfl h
   .rename_i k;unfold VR at f;obtain⟨a,c,f,_⟩:=f;exact A k f rfl h
   .cases h
 .cases h
end
section
variable{P:Program}{n:Nat}{F:dB}{ρ:Rn}{s:St}{w:World}{cx:Cx}
theorem qh{r:RI}{x:gK}(h:y5 ρ w r x):∀{k o:Nat}{l:List HV},cF x o k=some l->∃us,dN ρ l us/\B8 w r.c (r.o+o) us/\(∀u,u∈us->u.oneCell'=true)/\us.length=k
 |0,o,l,a=>by cases a;exact⟨[],by unfold dN;rfl,λj v b=>by simp at b,(λu y=>by cases y),rfl⟩
 |k+1,o,l,a=>by
  unfold cF at a
  cases b:x.ap o with
   |none=>rw[b]at a;cases a
   |some v=>
   rw[b]at a
   cases d:cF x (Nat.add o 1) k with
    |none=>rw[d]at a;cases a
    |some A=>
    rw[d]at a;cases a;obtain⟨us,e,f,g,i⟩:=qh h d;rw[gK.E6]at b;split at b
    .
     rename_i t;obtain⟨u,m,p,q⟩:=h.2.2.2.1 o v t b;refine⟨u::us,by unfold dN;exact⟨u,us,rfl,p,e⟩,λj z c=>?_,λz c=>?_,by simp[i]⟩
     .cases j with
      |zero=>simp at c;subst c;exact m
      |succ j=>simp at c;have:=f j z c;rw[show r.o+o+(j+1)=r.o+Nat.add o 1+j by show _=r.o+(o+1)+j;omega];exact this
     .
      rcases cm.1 c with rfl|c;.exact q
      .exact g z c
    .cases b
theorem wR(a:eT ρ s.hp w){b:Nat}{x:gK}{r:RI}(h:s.cp b=some x)(c:ρ b=some r):y5 ρ w r x:=a.cp b x r (x7 h) c
theorem sf(D:eT ρ s.hp w){z m:Nat}{v:HV}{u:Value}{l:List HV}(h:cellsOf s z v=some l)(e:lenOf v=some m)(d:VR ρ v u):∃us a c,u= .slice a m c/\m<=c/\c<=maxLen/\m<=140737488355328/\dN ρ l us/\us.length=m*z/\(∀y,y∈us->y.oneCell'=true)/\(m=0/\us=[]\/∃b o,a=some ⟨b,o,none⟩/\B8 w b o us):=by
 unfold cellsOf at h;split at h;.cases h;cases e;unfold VR at d;exact⟨[],none,0,d,au _,a5 _,a5 _,by unfold dN;rfl,by simp,(λ_ h=>by cases h),.inl ⟨rfl,rfl⟩⟩
 .cases h;cases e;unfold VR at d;obtain⟨a,d⟩:=d;exact⟨[],some a,0,d,au _,a5 _,a5 _,by unfold dN;rfl,by simp,(λ_ h=>by cases h),.inl ⟨rfl,rfl⟩⟩
 .cases h;cases e;unfold VR at d;obtain⟨a,c,d,x0⟩:=d;exact⟨[],some a,c,d,a5 _,x0,a5 _,by unfold dN;rfl,by simp,(λ_ h=>by cases h),.inl ⟨rfl,rfl⟩⟩
 .
  cases e;unfold VR at d;obtain⟨r,f,p,q,t,B,C,z0,y0⟩:=d;split at h;.rename_i x A;obtain⟨us,g,i,j,k⟩:=qh (wR D A p) h;exact⟨us,_,f,q,t,z0,y0,g,k,j,.inr ⟨_,_,rfl,i⟩⟩
  .cases h
 .
  cases e;unfold VR at d;obtain⟨r,f,p,q,t,B,C⟩:=d;split at h;.rename_i x A;obtain⟨us,g,i,j,k⟩:=qh (wR D A p) h;exact⟨us,_,f,q,t,B,C,g,k,j,.inr ⟨_,_,rfl,i⟩⟩
  .cases h
 .cases h
theorem pt{v:HV}{u:Value}{m:Nat}(h:iY v=some m)(a:VR ρ v u):∃k,u= .int k (m:Int):=by
 unfold iY at h;split at h;.cases h;unfold VR at a;exact⟨_,a⟩
 .cases h
theorem GS(x0:gm P cx)(y0:eT ρ s.hp w){t:Nat}{a:HV}{x:Operand}{r:Rs}(h:iw cx s t a=some r)(d:VR ρ a (ev n F x)):∃v,r= .val v s/\∃u,iq P n F w (.load t x) u w/\VR ρ v u:=by
 unfold iw at h;split at h
 .
  rename_i b o;unfold VR at d;obtain⟨q,u0,d⟩:=d;split at h
  .
   rename_i y t0;obtain⟨i,g⟩:=x0.ty t0;split at h
   .
    rename_i z e;have k:=wR y0 e u0;rw[aH]at h;split at h
    .
     rename_i c;split at h;.rename_i l w0;cases h;obtain⟨m,p,A,B,C⟩:=qh k w0;refine⟨_,rfl,.agg m.toArray,Kc (λw=>by rw[g.isAgg,c]) (λw=>by rw[g.sizeOf,C]) d A,?_⟩;unfold VR;exact⟨m,rfl,p,B⟩
     .cases h
    .
     rename_i c;split at h
     .
      rename_i v f;cases h;rw[gK.E6]at f;split at f
      .
       rename_i v0;obtain⟨u,D,z0,s0⟩:=k.2.2.2.1 o v v0 f;refine⟨_,rfl,u,?_,z0⟩;have c:y.agg=false:=by simpa using c
       refine Ke (b:=q.c) (o:=q.o+o) (j:=0) (cs:=[u]) (λw=>by rw[g.isAgg,c]) d (λj z e=>?_) rfl
       cases j with
        |zero=>simp at e;subst e;exact D
        |succ j=>simp at e
      .cases f
     .cases h
   .cases h
  .cases h
 .cases h
theorem NA(k:gm P cx){t i:Nat}{a:HV}{x:Operand}{r:Rs}(h:l7 cx s t a i=some r)(c:VR ρ a (ev n F x)):∃v,r= .val v s/\∃u,iq P n F w (.fieldAddr t x i) u w/\VR ρ v u:=by
 unfold l7 at h;split at h
 .
  rename_i b o;unfold VR at c;obtain⟨q,C,c⟩:=c;split at h
  .
   rename_i y y0;obtain⟨j,g⟩:=k.ty y0;split at h
   .
    rename_i w0 D;obtain⟨x0,z0,z⟩:=Ac (g.sh.symm.trans D);split at h
    .rename_i p m A;cases h;obtain⟨f,l,e⟩:=C9 z i _ A;cases d:P.info? f.type with
     |none=>simp[d]at e
     |some v0=>simp only[d,lN,eL,Prod.mk.injEq]at e;obtain⟨rfl,B⟩:=e;refine⟨_,rfl,_,Kf (z:=m) z0 (by simpa using l) (λw=>by simp[Go.sizeOf,typeInfo,d,B]) c,?_⟩;unfold VR;exact⟨q,C,by rw[gn];rfl⟩
    .cases h
   .cases h
  .cases h
 .cases h
theorem JF(A:gm P cx){t:Nat}{a i:HV}{x y:Operand}{r:Rs}(h:fX cx s t a i=some r)(c:VR ρ a (ev n F x))(x0:VR ρ i (ev n F y)):∃v,r= .val v s/\∃u,iq P n F w (.indexAddr t x y) u w/\VR ρ v u:=by
 unfold fX at h;split at h
 .
  rename_i z w0;obtain⟨v0,B⟩:=A.ty w0;split at h
  .
   rename_i j y0;obtain⟨k,C⟩:=pt y0 x0;split at h
   .
    rename_i m e b o l;have p:=zo (B.sh.symm.trans l);unfold VR at c;obtain⟨q,f,c⟩:=c;split at h
    .
     rename_i D g;rw[aH]at h;split at h;.rename_i d;cases h;refine⟨_,rfl,_,N6 p (A.sizeOf g) c C (jV.1 d),?_⟩;unfold VR;exact⟨q,f,by rw[gn];rfl⟩
     .cases h
    .cases h
   .
    rename_i e b o m l;have p:=kH (B.sh.symm.trans l);unfold VR at c;obtain⟨q,z0,f,c,_⟩:=c;split at h
    .
     rename_i D g;rw[aH]at h;split at h;.rename_i d;cases h;refine⟨_,rfl,_,DJ p (A.sizeOf g) c C (jV.1 d),?_⟩;unfold VR;exact⟨q,f,by rw[gn];rfl⟩
     .cases h
    .cases h
   .
    rename_i e b o m l;have p:=kH (B.sh.symm.trans l);unfold VR at c;obtain⟨q,z0,f,c,_⟩:=c;split at h
    .
     rename_i D g;rw[aH]at h;split at h;.rename_i d;cases h;refine⟨_,rfl,_,DJ p (A.sizeOf g) c C (jV.1 d),?_⟩;unfold VR;exact⟨q,f,by rw[gn];rfl⟩
     .cases h
    .cases h
   .cases h
  .cases h
 .cases h
end
section
variable{P:Program}{n:Nat}{F:dB}{ρ:Rn}{s:St}{w:World}{cx:Cx}
theorem Bf(d:iA ρ n s F){o:Option Operand}{v:Option HV}{m:Option Nat}(h:nq s o=some v)(a:fd v=some m):m=none/\o.map (ev n F)=none\/∃j k,m=some j/\o.map (ev n F)=some (.int k (j:Int)):=by cases o with
 |none=>cases h;cases a;exact .inl ⟨rfl,rfl⟩
 |some x=>unfold nq at h;simp only at h;cases c:s.ev x with
 |none=>rw[c]at h;cases h
 |some v=>rw[c]at h;cases h;unfold fd at a;simp only at a;cases b:iY v with
 |none=>rw[b]at a;cases a
 |some j=>rw[b]at a;cases a;obtain⟨k,e⟩:=pt b (bV d c);exact .inr ⟨j,k,rfl,by simp[e]⟩
theorem lc{j:Bool}{len cap l h m:Nat}{lo hi d:Option Value}(g:lo=none/\l=0\/∃k,lo=some (.int k (l:Int)))(f:hi=none/\h=len/\d=none\/∃k,hi=some (.int k (h:Int)))(a:d=none/\m=cap\/∃k,d=some (.int k (m:Int)))(h1:l<=h)(h2:h<=m)(e:m<=cap):(Instr.sliceBounds j len cap lo hi d).run P w= .ok (l,h,m) w:=by
 have b:∀(k:IntKind)(i y:Nat)(c:BoundsCode),i<=y->(Instr.sliceBound (.int k (i:Int)) y c).run P w= .ok i w:=λk i y c hi=>by simp[Instr.sliceBound,asIntOf,hi]
 rcases g with⟨rfl,rfl⟩|⟨o,rfl⟩<;>rcases f with⟨rfl,rfl,rfl⟩|⟨p,rfl⟩<;>rcases a with⟨a,rfl⟩|⟨q,a⟩<;>(first|(cases a;done)|skip)<;>(try subst a)<;>(try cases a)<;>simp[Instr.sliceBounds,b,h1,h2,e]
theorem oj{t e z:TypeId}{x:Operand}{lo hi b:Option Operand}{a:Option Addr}{len cap l h m:Nat}(f:P.underlying t=some (.slice e))(j:∀w,(Go.sizeOf e).run P w= .ok z w)(i:ev n F x= .slice a len cap)(c:∀w,(Instr.sliceBounds true len cap (lo.map (ev n F)) (hi.map (ev n F)) (b.map (ev n F))).run P w= .ok (l,h,m) w):iq P n F w (.slice t x lo hi b) (.slice (if m=l then a else a.map (·.add (l*z))) (h-l) (m-l)) w:=by refine⟨fun d o p k g=>?_⟩;simp[execOp,i,Instr.sliceAt,Instr.slice,run_underlying f,c,j]
theorem Cz{t e z len:TypeId}{x:Operand}{lo hi b:Option Operand}{a:Addr}{l h m:Nat}(f:P.underlying t=some (.array len e))(j:∀w,(Go.sizeOf e).run P w= .ok z w)(i:ev n F x= .pointer (some a))(c:∀w,(Instr.sliceBounds false len len (lo.map (ev n F)) (hi.map (ev n F)) (b.map (ev n F))).run P w= .ok (l,h,m) w):iq P n F w (.slice t x lo hi b) (.slice (some (if m=l then a else a.add (l*z))) (h-l) (m-l)) w:=by refine⟨λd o p k g=>?_⟩;simp[execOp,i,Instr.sliceAt,run_underlying f,Instr.sureAddr,c,j]
theorem Cv{t:TypeId}{x:Operand}{lo hi:Option Operand}{b:ByteArray}{l h m:Nat}(c:P.underlying t=some .string)(e:ev n F x= .string b)(a:∀w,(Instr.sliceBounds false b.size b.size (lo.map (ev n F)) (hi.map (ev n F)) none).run P w= .ok (l,h,m) w):iq P n F w (.slice t x lo hi none) (.string (b.extract l h)) w:=by refine⟨λd i p f g=>?_⟩;simp[execOp,e,Instr.sliceAt,Instr.slice,run_underlying c,a]
theorem pD(c o k:Nat):Addr.add ⟨c,o,none⟩ k=⟨c,o+k,none⟩:=Addr.add_lit c o k
theorem xD{b o z l h m c cap:Nat}{r:RI}{mk:Nat->Nat->Nat->HV}{a:Addr}(i:a=⟨r.c,r.o+o,none⟩)(q:l<=h)(u:h<=m)(v:m<=maxLen)(k:l≠m\/l=0->VR ρ (mk b (o+l*z) (h-l)) (.slice (some ⟨r.c,r.o+(o+l*z),none⟩) (h-l) (m-l))):VR ρ (part mk b o z l h) (.slice (some (if m=l then a else a.add (l*z))) (h-l) (m-l)):=by
 unfold part;rw[aH];split;.rename_i d;simp only[ae,jd]at d;have:=aw d.1;subst this;unfold VR;exact⟨_,_,by rw[dW],by omega⟩
 .
  rename_i d;subst i
  have g:l≠m\/l=0:=by
   by_cases f:l=0;.exact .inr f
   .
    left;intro t;apply d;have:h=l:=by omega
    subst this;simp only[ae,jd,vg,true_and]
    cases j:Nat.beq h 0 with
     |false=>rfl
     |true=>exact absurd (aw j) f
  have:=k g
  have e:(if m=l then(⟨r.c,r.o+o,none⟩:Addr)else Addr.add ⟨r.c,r.o+o,none⟩ (l*z))=⟨r.c,r.o+(o+l*z),none⟩:=by
   split
   .
    rename_i p;rcases g with h|h;.exact absurd p.symm h
    .subst h;simp
   .rw[pD,gn]
  rw[e];exact this
theorem M3(x0:gm P cx)(hH:eT ρ s.hp w)(t9:iA ρ n s F){t:Nat}{a:HV}{lo hi g9:Option HV}{x:Operand}{d0 j0 t0:Option Operand}{r:Rs}(h:ew cx s t a lo hi g9=some r)(f:VR ρ a (ev n F x))(h1:nq s d0=some lo)(h2:nq s j0=some hi)(h3:nq s t0=some g9):∃v,r= .val v s∧∃u,iq P n F w (.slice t x d0 j0 t0) u w∧VR ρ v u:=by
 unfold ew at h;split at h
 ·
  rename_i z o9 z9 m0 g0 hl' hh' hm';obtain⟨ti,i0⟩:=x0.ty g0;have q1:=Bf t9 h1 hl';have f9:=Bf t9 h2 hh';have n9:=Bf t9 h3 hm'
  have u0:d0.map (ev n F)=none∧dM 0 o9=0∨∃k,d0.map (ev n F)=some (.int k (dM 0 o9:Nat)):=by
   rcases q1 with⟨rfl,g⟩|⟨j,k,rfl,g⟩;·exact .inl ⟨g,rfl⟩
   ·exact .inr ⟨k,g⟩
  simp only at h;generalize dM 0 o9=l at h u0
  have f0:∀d,m0=none→j0.map (ev n F)=none∧dM d z9=d∧t0.map (ev n F)=none∨∃k,j0.map (ev n F)=some (.int k (dM d z9:Nat)):=by
   intro d r9;rcases f9 with⟨rfl,g⟩|⟨j,k,rfl,g⟩
   ·
    left;refine⟨g,rfl,?_⟩;rcases n9 with⟨_,g⟩|⟨j,k,z0,_⟩;·exact g
    ·rw[r9]at z0;cases z0
   ·exact .inr ⟨k,g⟩
  have e0:m0=none→t0.map (ev n F)=none:=fun r9=>by
   rcases n9 with⟨_,h⟩|⟨j,k,z0,_⟩;·exact h
   ·rw[r9]at z0;cases z0
  have l0:∀m,m0=some m→∃k,t0.map (ev n F)=some (.int k (m:Int)):=fun m D=>by
   rcases n9 with⟨h0,_⟩|⟨j,k,z0,h⟩;·rw[D]at h0;cases h0
   ·rw[D]at z0;cases z0;exact⟨k,h⟩
  have k0:∀m,z9=some m→∃k,j0.map (ev n F)=some (.int k (m:Int)):=fun m D=>by
   rcases f9 with⟨h0,_⟩|⟨j,k,z0,h⟩;·rw[D]at h0;cases h0
   ·rw[D]at z0;cases z0;exact⟨k,h⟩
  split at h
  ·
   rename_i e b o q0 v0;have y0:=kH (i0.sh.symm.trans v0);split at h
   ·
    rename_i B y o0 hy;split at h
    ·
     rename_i v p;cases h;refine⟨v,rfl,?_⟩;unfold VR at f;obtain⟨r,w0,r0,f,v9,c0,u9,e9,c5⟩:=f;have hB:=wR hH hy r0;obtain⟨g1,a0,_⟩:=hB;unfold ii at p;simp only[aH]at p;split at p
     ·
      rename_i A;simp only[ae,bO]at A;obtain⟨⟨c9,d9⟩,b0,p0,b9⟩:=A;have p0:=aw p0
      have k9:∀k,Nat.add o (Nat.mul k B)≤y.n→k≤w0:=fun k s9=>by
       have s9:o+k*B≤y.n:=s9;have:k*B≤w0*B:=by rw[←p0,a0];rw[←p0,a0]at s9;omega
       exact oY this c9
      have j9:=k9 _ b9;split at p
      ·
       cases p;refine⟨_,oj y0 (x0.sizeOf o0) f fun w=>lc u0 (f0 q0 rfl) (.inl ⟨e0 rfl,rfl⟩) b0 j9 (au _),?_⟩
       have:=xD (ρ:=ρ) (b:=b) (z:=B) (mk:= .sl) (r:=r) (c:=0) (cap:=0) (a:=⟨r.c,r.o+o,none⟩) rfl b0 j9 e9 fun h9=>by
        unfold VR;have D:(w0-l)*r.z+l*r.z=w0*r.z:=by rw[←fY];congr 1;omega
        have:r.z=B:=by rw[←a0,p0]
        rw[this]at D c0 u9;refine⟨r,w0-l,r0,rfl,by omega,by rw[this];omega,by rw[this];omega,by omega,by omega⟩
       split;·rename_i C;rw[aA C]at this;exact this
       ·rename_i C;rw[aB C]at this;exact this
      ·cases p
      ·
       rename_i m s0;split at p
       ·
        rename_i l9;simp only[ae,bO]at l9;obtain⟨m9,a9⟩:=l9;have i9:=k9 _ a9;obtain⟨p9,k0⟩:=k0 _ rfl;obtain⟨q9,l0⟩:=l0 _ rfl;have d2':l≤s0:=b0;have e1':s0≤m:=m9;have d0':s0≤140737488355328:=d9;have hv1:=oj (w:=w) y0 (x0.sizeOf o0) f fun w=>lc u0 (.inr ⟨p9,k0⟩) (.inr ⟨q9,l0⟩) b0 m9 i9;refine⟨_,hv1,?_⟩;split at p
        ·
         rename_i C;have C:=aw C;cases p;have:s0=l:=by omega
         unfold VR;refine⟨⟨r.c,r.o+o,none⟩,?_⟩;have h0:s0-l=0:=by omega
         have h1:m-l=0:=by omega
         simp[h0,h1,C]
        ·
         rename_i C;have C:m≠l:=fun e=>C (by rw[e];exact vg l);split at p
         ·
          rename_i y9;have y9:=aw y9;have y9:o+m*B=y.n:=y9;cases p;have g0:r.z=B:=by rw[←a0,p0]
          have D:(m-l)*r.z+l*r.z=m*r.z:=by rw[←fY];congr 1;omega
          have hmm:m*B≤w0*B:=co _ i9;rw[g0]at D c0 u9;unfold VR;rw[aB C];simp only[dM,lN,pD];refine⟨r,m-l,r0,by rw[gn];rfl,by show s0-l≤m-l;omega,?_,?_,by omega,?_⟩;·rw[g0,←g1];show y.n≤o+l*B+(m-l)*B;omega
          ·rw[g0];show r.o+(o+l*B)+(m-l)*B≤r.ga;omega
          ·show s0-l≤_;omega
         ·cases p;unfold VR;trivial
       ·cases p
     ·cases p
    ·cases h
   ·cases h
  ·
   rename_i e b o q0 v0;have y0:=kH (i0.sh.symm.trans v0);split at h
   ·
    rename_i B o0;rw[aH]at h;split at h
    ·
     rename_i A;simp only[ae,bO]at A;cases h;unfold VR at f;obtain⟨r,w0,r0,f,v9,c0,u9⟩:=f;refine⟨_,rfl,_,oj y0 (x0.sizeOf o0) f fun w=>lc u0 (f0 q0 rfl) (.inl ⟨e0 rfl,rfl⟩) A.1 (aM A.2 v9) (au _),?_⟩;have:=xD (ρ:=ρ) (b:=b) (z:=B) (mk:= .jh) (r:=r) (c:=0) (cap:=0) (a:=⟨r.c,r.o+o,none⟩) rfl A.1 (aM A.2 v9) c0 (fun h9=>by unfold VR;exact⟨r,w0-l,r0,rfl,by omega,by omega,by omega⟩);split;·rename_i C;rw[aA C]at this;exact this
     ·rename_i C;rw[aB C]at this;exact this
    ·cases h
   ·cases h
  ·
   rename_i e v0 v0 hs2 hs3 hs4;have y0:=kH (i0.sh.symm.trans hs2);split at h
   ·
    rename_i z3 v w9 p;cases h;refine⟨v,rfl,?_⟩;have w9:=fun w=>x0.sizeOf w9 w;unfold gB at p;simp only[aH]at p;split at p
    ·
     rename_i A;simp only[ae]at A;have hl:=aw A.1;have x9:=aw A.2.1;have D:=aw A.2.2;subst hl
     have n0:∀(q:Option Addr)(c:Nat),ev n F x= .slice q 0 c→(m0=none∨∃j,m0=some j∧∃i,z9=some i)→iq P n F w (.slice t x d0 j0 t0) (.slice q 0 (match m0 with|none=>c|some _=>0)) w:=by
      intro q c f how;rcases how with rfl|⟨j,rfl,i,rfl⟩
      ·
       have:=oj (w:=w) y0 w9 f fun w=>lc u0 (f0 0 rfl) (.inl ⟨e0 rfl,rfl⟩) (a5 _) (by rw[x9];exact a5 _) (au _);rw[x9]at this
       have e:(if c=0 then q else q.map (·.add (0*z3)))=q:=by cases q with
        |none=>simp
        |some a=>simp[Addr.add]
       rw[e]at this;exact this
      ·obtain⟨p9,k0⟩:=k0 _ rfl;obtain⟨q9,l0⟩:=l0 _ rfl;simp only[dM]at x9 D;subst x9 D;have:=oj (w:=w) y0 w9 f fun w=>lc u0 (.inr ⟨p9,k0⟩) (.inr ⟨q9,l0⟩) (a5 _) (au _) (a5 _);simpa using this
     split at p;·cases p;unfold VR at f;exact⟨_,n0 _ _ f (.inl rfl),by unfold VR;rfl⟩
     ·cases p;unfold VR at f;exact⟨_,n0 _ _ f (.inr ⟨_,rfl,_,rfl⟩),by unfold VR;rfl⟩
     ·cases p;unfold VR at f;obtain⟨a,f⟩:=f;exact⟨_,n0 _ _ f (.inl rfl),by unfold VR;exact⟨a,rfl⟩⟩
     ·cases p;unfold VR at f;obtain⟨a,f⟩:=f;exact⟨_,n0 _ _ f (.inr ⟨_,rfl,_,rfl⟩),by unfold VR;exact⟨a,rfl⟩⟩
     ·cases p;unfold VR at f;obtain⟨a,c,f,x0⟩:=f;exact⟨_,n0 _ _ f (.inl rfl),by unfold VR;exact⟨a,c,rfl,x0⟩⟩
     ·cases p;unfold VR at f;obtain⟨a,c,f,x0⟩:=f;exact⟨_,n0 _ _ f (.inr ⟨_,rfl,_,rfl⟩),by unfold VR;exact⟨a,rfl⟩⟩
     ·cases p
    ·cases p
   ·cases h
  ·
   rename_i q0 e b o v0;have y0:=zo (i0.sh.symm.trans v0);split at h
   ·
    rename_i B o0;rw[aH]at h;split at h
    ·
     rename_i A;simp only[ae,bO]at A;cases h;unfold VR at f;obtain⟨r,r0,f⟩:=f;have hmax:q0≤maxLen:=by unfold maxLen;omega
     refine⟨_,rfl,_,Cz y0 (x0.sizeOf o0) f fun w=>lc u0 (f0 q0 rfl) (.inl ⟨e0 rfl,rfl⟩) A.2.1 A.2.2 (au _),?_⟩;exact xD (ρ:=ρ) (b:=b) (z:=B) (mk:= .jh) (r:=r) (c:=0) (cap:=0) (a:=⟨r.c,r.o+o,none⟩) rfl A.2.1 A.2.2 hmax fun h9=>by unfold VR;exact⟨r,q0-l,r0,rfl,by omega,by omega,by omega⟩
    ·cases h
   ·cases h
  ·
   rename_i b v0;have y0:=ue (i0.sh.symm.trans v0);split at h
   ·
    rw[aH]at h;split at h
    ·
     rename_i A;simp only[ae,bO]at A;cases h;unfold VR at f
     have hxm:t0=none:=by have:=e0 rfl;cases t0 with
      |none=>rfl
      |some y=>cases this
     subst hxm;refine⟨_,rfl,_,Cv y0 f fun w=>lc u0 (f0 b.size rfl) (.inl ⟨rfl,rfl⟩) A.1 A.2 (au _),by unfold VR;rfl⟩
    ·cases h
   ·cases h
  ·cases h
 ·cases h
end
theorem Cr(l:List UInt8):∀(b:ByteArray),l.foldl (λr n=>r.push n) b=⟨⟨b.data.toList++l⟩⟩:=by induction l with
 |nil=>intro b;simp
 |cons a l c=>intro b;rw[fw,c];simp[ByteArray.push]
section
variable{P:Program}{n:Nat}{F:dB}{ρ:Rn}{s:St}{w:World}{cx:Cx}
theorem vX:∀{l:List HV}{us:List Value}{c:List UInt8},ph l=some c->dN ρ l us->∃d:List Int,us=d.map (Value.int .u8)/\c=d.map λn=>UInt8.ofNat n.toNat
 |[],us,c,h,b=>by cases h;unfold dN at b;exact⟨[],by simp[b],rfl⟩
 |a::l,us,c,h,b=>by
  unfold ph at h;split at h;.rename_i e;cases e
  .
   rename_i m r e;cases e;unfold dN at b;obtain⟨u,k,rfl,f,g⟩:=b;split at h;.rename_i j i;cases h;obtain⟨d,rfl,rfl⟩:=vX i g;unfold VR at f;exact⟨Int.ofNat m::d,by rw[f];rfl,rfl⟩
   .cases h
  .cases h
theorem EX{z:Nat}{v:HV}{l:List HV}(h:cellsOf s z v=some l):∃m,lenOf v=some m:=by cases v<;>first|exact⟨_,rfl⟩|cases h
theorem J1{v:HV}{u:Value}{l:List HV}{h:List UInt8}(y:eT ρ s.hp w)(k:cellsOf s 1 v=some l)(z:ph l=some h)(y0:VR ρ v u):∃a m c,u= .slice a m c/\(Conv.bytesToString (.slice a m c)).run P w= .ok (.string ⟨⟨h⟩⟩) w:=by
 obtain⟨m,B⟩:=EX k;obtain⟨t0,g,c,p,x0,w0,v0,r,f,u0,t⟩:=sf y k B y0;obtain⟨d,e,rfl⟩:=vX z r;refine⟨g,m,c,p,?_⟩;rw[e,db,gU]at f;rcases t with⟨_,x⟩|⟨b,o,rfl,i⟩
 .
  rw[x]at e;have D:d=[]:=by simpa using e.symm
  subst D;have C:m=0:=f.symm;subst C
  cases g with
   |none=>rfl
   |some q=>rw[run_bytesToString w q 0 c [] (by simp[loadCells,loadCellsFrom])];rfl
 .
  rw[e]at i;have A:(loadCells ⟨b,o,none⟩ m).run P w= .ok (d.map (Value.int .u8)).toArray w:=by have:=run_loadCells_list (P:=P) w ⟨b,o,none⟩ (d.map (Value.int .u8)) (λj v z0=>by rw[pD];exact i j v z0);rw[db,f]at this;exact this
  rw[run_bytesToString w _ m c d A];have:=Cr (d.map λn=>UInt8.ofNat n.toNat) ByteArray.empty;rw[List.foldl_map]at this;rw[this];rfl
theorem Ho(t:gm P cx)(v0:eT ρ s.hp w){A B:TypeId}{a:HV}{x:Operand}{r:Rs}(h:ge cx s A B a=some r)(j:VR ρ a (ev n F x)):∃v,r= .val v s/\∃u,iq P n F w (.convert A B x) u w/\VR ρ v u:=by
 unfold ge at h;split at h
 .
  rename_i f0 e0 n0 m0;obtain⟨i0,y⟩:=t.ty n0;obtain⟨h0,o⟩:=t.ty m0;obtain⟨y0,z⟩:=y.XV;split at h;.rename_i k q m f;cases h;have i:=Ey (o.sh.symm.trans f);unfold VR at j;exact⟨_,rfl,_,Kg z i j,by unfold VR;rw[qK]⟩
  .rename_i b f;cases h;have i:=ue (o.sh.symm.trans f);unfold VR at j;refine⟨_,rfl,.string b,⟨λd l0 p D g=>?_⟩,by unfold VR;rfl⟩;cases y0<;>simp[execOp,j,convert,run_underlying z,run_underlying i]
  .
   rename_i f j0;have i:=ue (o.sh.symm.trans f);split at h
   .
    rename_i e r0;have p0:=kH (y.sh.symm.trans r0);split at h
    .
     rename_i q s0;obtain⟨g0,C⟩:=t.ty s0;split at h
     .
      rename_i q0;have o0:=Ey (C.sh.symm.trans q0);split at h
      .
       rename_i l t0;split at h;.rename_i z0 u0;cases h;obtain⟨k0,m,c,x0,w0⟩:=J1 (P:=P) v0 t0 u0 j;refine⟨_,rfl,.string ⟨⟨z0⟩⟩,⟨λd l0 p D g=>?_⟩,by unfold VR;rfl⟩;simp[execOp,x0,convert,run_underlying p0,run_underlying i,run_underlying o0,w0]
       .cases h
      .cases h
     .cases h
    .cases h
   .cases h
  .cases h
 .cases h
theorem Le(o:gm P cx)(B:eT ρ s.hp w){t:TypeId}{x:Operand}{v:HV}{m:Nat}(f:VR ρ v (ev n F x))(j:∃z,cx.ti.ap t=some z/\((∃e,z.sh= .slice e/\∀b,v≠.ef b)\/z.sh= .ef/\∃b,v= .ef b))(h:lenOf v=some m):iq P n F w (.call {callee:= .builtin .len,args:= #[x],argTypes:= #[t]}) (.int .i64 (m:Int)) w:=by
 obtain⟨z,y,j⟩:=j;obtain⟨i,l⟩:=o.ty y;rcases j with⟨e,j,q⟩|⟨j,b,rfl⟩
 .
  have k:=kH (l.sh.symm.trans j)
  have:∃a c,ev n F x= .slice a m c:=by
   unfold lenOf at h;split at h;.cases h;unfold VR at f;exact⟨_,_,f⟩
   .cases h;unfold VR at f;obtain⟨a,f⟩:=f;exact⟨_,_,f⟩
   .cases h;unfold VR at f;obtain⟨a,c,f,_⟩:=f;exact⟨_,_,f⟩
   .cases h;unfold VR at f;obtain⟨r,c,_,f,_⟩:=f;exact⟨_,_,f⟩
   .cases h;unfold VR at f;obtain⟨r,c,_,f,_⟩:=f;exact⟨_,_,f⟩
   .rename_i b;exact absurd rfl (q b)
   .cases h
  obtain⟨a,c,u⟩:=this;exact QN k u
 .have k:=ue (l.sh.symm.trans j);cases h;unfold VR at f;refine⟨λd C p A g=>?_⟩;simp[execOp,f,resolve,invoke,builtin,Builtin.len_,run_underlying k,goInt]
end
section
variable{P:Program}{n:Nat}{F:dB}{ρ:Rn}{s:St}{w:World}{cx:Cx}
theorem Nw(q:gm P cx){t:TypeId}{x i:Operand}{w0 x0:HV}{r:Rs}(h:l5 cx s t w0 x0=some r)(a:VR ρ w0 (ev n F x))(p0:VR ρ x0 (ev n F i)):∃v,r= .val v s/\∃u,iq P n F w (.index t x i) u w/\VR ρ v u:=by
 unfold l5 at h;split at h
 .
  rename_i j o0;obtain⟨k,y0⟩:=pt o0 p0;split at h
  .
   rename_i b;unfold VR at a;split at h
   .
    rename_i z C;obtain⟨l0,f⟩:=q.ty C;split at h
    .
     rename_i A;have B:=ue (f.sh.symm.trans A);split at h;.rename_i c q0;cases h;refine⟨_,rfl,_,⟨λd i0 p k0 g=>?_⟩,by unfold VR;rfl⟩;simp[execOp,a,y0,Instr.index,asIntOf,run_underlying B,q0]
     .cases h
    .cases h
   .cases h
  .
   rename_i l;unfold VR at a;obtain⟨g0,a,t0,j0⟩:=a;split at h
   .
    rename_i z C;obtain⟨l0,f⟩:=q.ty C;split at h
    .
     rename_i m e A;have B:=zo (f.sh.symm.trans A);split at h
     .
      rename_i y m0;obtain⟨h0,D⟩:=q.ty m0;rw[aH]at h;split at h
      .
       rename_i z0;simp only[ae,jd]at z0;obtain⟨v0,o,u0⟩:=z0;have o:=aw o;split at h;.rename_i v n0;cases h;obtain⟨u,s0,r0⟩:=jW t0 j v n0;exact⟨_,rfl,u,HO B (λw=>by rw[D.sizeOf,o]) (λw=>by rw[D.isAgg,v0]) a y0 (jV.1 u0) s0,r0⟩
       .cases h
      .cases h
     .cases h
    .cases h
   .cases h
  .cases h
 .cases h
theorem wE(a:gm P cx){t e:Nat}(h:cx.rR t=some e):∃k q,P.underlying t=some (.map k e)/\P.underlying k=some (.int q):=by
 unfold Cx.rR at h;split at h
 .
  rename_i x g;obtain⟨i,b⟩:=a.ty g;split at h
  .
   rename_i k m f;split at h
   .
    rename_i y l;obtain⟨j,c⟩:=a.ty l;split at h;.rename_i q d;cases h;exact⟨k,q,Ew (b.sh.symm.trans f),Ey (c.sh.symm.trans d)⟩
    .cases h
   .cases h
  .cases h
 .cases h
theorem tx{q q0:IntKind}{k:Int}:∀{f:List (HV×HV)}{c:List MapEntry}{r:Option HV}(i:Nat),gT ρ f c->qf q k f=some r->r=none/\Instr.findNow (.int q0) (.int q k) c i=some none\/∃v u j,r=some v/\Instr.findNow (.int q0) (.int q k) c i=some (some (j,u))/\VR ρ v u
 |[],c,r,i,d,h=>by unfold gT at d;subst d;cases h;exact .inl ⟨rfl,rfl⟩
 |(a,v)::f,c,r,i,d,h=>by
  unfold gT at d;obtain⟨e,x,rfl,⟨y,b,rfl⟩,g,m,o⟩:=d;unfold VR at g;unfold qf at h;simp only[aH,bB]at h;split at h
  .
   rename_i t;subst t;split at h;.rename_i l;subst l;cases h;right;refine⟨v,e.val,i,rfl,?_,m⟩;unfold Instr.findNow;rw[g];simp[Instr.sameNow]
   .
    rename_i l;have:=tx (q0:=q0) (i+1) o h;unfold Instr.findNow;rw[g];have p:(k==b)=false:=by simpa using l
    simp only[Instr.sameNow,fI,p];exact this
  .cases h
theorem lJ{k:TypeId}{q d:IntKind}{a:Int}(c:P.underlying k=some (.int q))(b:Bool):(Instr.checkKey b 10000 k (.int d a)).run P w= .ok () w:=by unfold Instr.checkKey;simp[run_underlying c]
theorem Jy(g0:gm P cx)(x9:eT ρ s.hp w){t:TypeId}{x i:Operand}{m d0:HV}{ok:Bool}{r:Rs}(h:nL cx s t m d0 ok=some r)(z0:VR ρ m (ev n F x))(u0:VR ρ d0 (ev n F i)):∃v,r= .val v s/\∃u,iq P n F w (.lookup t x i ok) u w/\VR ρ v u:=by
 unfold nL at h;split at h
 .
  rename_i e q k w9;obtain⟨r0,k0,q0,s0⟩:=wE g0 w9;unfold VR at u0
  have c0:∀(f:List (HV×HV))(a:Array MapEntry)(o:Option HV),qf q k f=some o->gT ρ f a.toList->(∀p9:World,ev n F x= .map none/\a= #[]\/∃c y0,ev n F x= .map (some c)/\(getObj c).run P w= .ok (.map a y0) w)->((o=none/\∃z,cx.vV e=some z/\r= .val (bif ok then .mx [z,.bool false]else z) s)\/∃v,o=some v/\r= .val (bif ok then .mx [v,.bool true]else v) s)->∃v,r= .val v s/\∃u,iq P n F w (.lookup t x i ok) u w/\VR ρ v u:=by
   intro f a o B i0 h0 t9;have C:=h0 w;clear h0
   have j0:∀(v:HV)(u:Value)(b:Bool)(A:(Instr.findKey r0 (.int q k) a.toList).run P w= .ok (if b then some (0,u)else none) w\/∃j,b=true/\(Instr.findKey r0 (.int q k) a.toList).run P w= .ok (some (j,u)) w)(l:b=false->(zeroValue e).run P w= .ok u w)(D:VR ρ v u),∃u,iq P n F w (.lookup t x i ok) u w/\VR ρ (bif ok then .mx [v,.bool b]else v) u:=by
    intro v u b A l D;refine⟨if ok then .tuple #[u,.bool b]else u,⟨λd n9 p o9 g=>?_⟩,?_⟩
    .
     cases b with
      |true=>
      have A:∃j,(Instr.findKey r0 (.int q k) a.toList).run P w= .ok (some (j,u)) w:=by
       rcases A with h|⟨j,_,h⟩;.exact⟨0,h⟩
       .exact⟨j,h⟩
      obtain⟨j,A⟩:=A;rcases C with⟨C,rfl⟩|⟨c,y0,C,n0⟩;.simp[execOp,C,u0,Instr.lookup,run_underlying q0,lJ s0,A]
      .simp[execOp,C,u0,Instr.lookup,run_underlying q0,lJ s0,A,n0]
      |false=>
      have A:(Instr.findKey r0 (.int q k) a.toList).run P w= .ok none w:=by
       rcases A with h|⟨j,h,_⟩;.exact h
       .cases h
      have l:=l rfl;rcases C with⟨C,rfl⟩|⟨c,y0,C,n0⟩;.simp[execOp,C,u0,Instr.lookup,run_underlying q0,lJ s0,A,l]
      .simp[execOp,C,u0,Instr.lookup,run_underlying q0,lJ s0,A,n0,l]
    .cases ok with
     |true=>show VR ρ (.mx [v,.bool b]) (.tuple #[u,.bool b]);unfold VR;refine⟨[u,.bool b],rfl,?_⟩;unfold dN;refine⟨u,[.bool b],rfl,D,?_⟩;unfold dN;exact⟨.bool b,[],rfl,by unfold VR;rfl,by unfold dN;rfl⟩
     |false=>exact D
   have e0:∀l0,Instr.findNow (.int k0) (.int q k) a.toList 0=some l0->(Instr.findKey r0 (.int q k) a.toList).run P w= .ok l0 w:=λl0 u9=>by simp[Instr.findKey,run_underlying s0,u9]
   rcases t9 with⟨m0,z,l,t0⟩|⟨v,m0,t0⟩
   .
    subst m0;rcases tx (q0:=k0) 0 i0 B with⟨_,o0⟩|⟨v,u,j,v0,_⟩
    .
     unfold Cx.vV at l;split at l;.rename_i y q9;obtain⟨m9,a0⟩:=g0.ty q9;obtain⟨u,s9,r9⟩:=a0.IV l;exact⟨_,t0,j0 z u false (.inl (e0 _ o0)) (λ_=>r9 w) (th s9)⟩
     .cases l
    .cases v0
   .
    subst m0;rcases tx (q0:=k0) 0 i0 B with⟨v0,_⟩|⟨l9,u,j,v0,o0,y9⟩;.cases v0
    .cases v0;exact⟨_,t0,j0 v u true (.inr ⟨j,rfl,e0 _ o0⟩) (λh=>by cases h) y9⟩
  have f0:∀o,vI s q k m=some o->∃f a,qf q k f=some o/\gT ρ f a.toList/\∀p9:World,ev n F x= .map none/\a= #[]\/∃c y0,ev n F x= .map (some c)/\(getObj c).run P w= .ok (.map a y0) w:=by
   intro o B;unfold vI at B;split at B
   .
    rename_i b;unfold VR at z0;obtain⟨b0,t0,z0⟩:=z0;split at B;.rename_i f v9;obtain⟨a,z9,x0,w0⟩:=x9.map b f b0 v9 t0;refine⟨f,a,B,w0,λ_=> .inr ⟨b0.c,z9,z0,?_⟩⟩;simp[getObj,Sem.run,x0]
    .cases B
   .cases B;unfold VR at z0;exact⟨[],#[],rfl,by unfold gT;rfl,λ_=> .inl ⟨z0,rfl⟩⟩
   .cases B
  split at h;.rename_i v D;cases h;obtain⟨f,a,x0,w0,p0⟩:=f0 _ D;exact c0 f a (some v) x0 w0 p0 (.inr ⟨v,rfl,rfl⟩)
  .
   rename_i D;obtain⟨f,a,x0,w0,p0⟩:=f0 _ D;split at h;.rename_i z l;cases h;exact c0 f a none x0 w0 p0 (.inl ⟨rfl,z,l,rfl⟩)
   .cases h
  .cases h
 .cases h
theorem AK{b:Bool}{args:List Operand}{l:List HV}{v:HV}{ts:Array TypeId}(k:iA ρ n s F)(m:s.jI args=some l)(h:wv b l=some v):∃u,iq P n F w (.call {callee:= .builtin (bif b then .max else .min),args:=args.toArray,argTypes:=ts}) u w/\VR ρ v u:=by
 have j:=l4 k m;unfold wv at h;split at h
 .rename_i a c;cases h;unfold dN at j;obtain⟨o,q,d,e,f⟩:=j;unfold dN at f;obtain⟨p,r,rfl,g,i⟩:=f;unfold dN at i;subst i;unfold VR at e g;match args,d with
  |[x,y],d=>simp only[List.map_cons,List.map_nil,List.cons.injEq,and_true]at d;rw[e,g]at d;cases b with
   |false=>refine⟨_,QJ d.1 d.2,?_⟩;unfold VR;simp only[kg,aH,bB];congr 1
   |true=>refine⟨_,QK d.1 d.2,?_⟩;unfold VR;simp only[gg,aH,bB];congr 1
 .cases h
end
section
variable{P:Program}{n:Nat}{F:dB}{ρ:Rn}{s:St}{w:World}{cx:Cx}
theorem tE(o:gm P cx){e:Nat}{y:El}(h:cx.uW e=some y):∃a:Value,R4 P e y.z a y.lq/\∀ρ:Rn,dN ρ y.zc a.cells.toList/\∀u,u∈a.cells.toList->u.oneCell'=true:=by
 unfold Cx.uW at h;split at h
 .
  rename_i x t;obtain⟨i,b⟩:=o.ty t;split at h
  .
   rename_i v r;obtain⟨a,l,m⟩:=b.zero v r;split at h
   .
    rename_i c p;rw[aH]at h;split at h;.rename_i f;cases h;simp only[ae,bO]at f;obtain⟨j,k,d⟩:=f;have d:=aw d;have g:∀ρ:Rn,dN ρ c a.cells.toList/\∀u,u∈a.cells.toList->u.oneCell'=true:=λρ=>oi p (th m);have q:=eW (g λ_=>none).1;refine⟨a,⟨⟨i,b.sG,l,b.size,b.bytes⟩,?_,j,k⟩,g⟩;show a.cells.size=x.size;rw[<-d,<-q];simp
    .cases h
   .cases h
  .cases h
 .cases h
theorem nZ(b:gm P cx){t:Nat}{y:El}(h:cx.fN t=some y):∃e,P.underlying t=some (.slice e)/\cx.uW e=some y:=by
 unfold Cx.fN at h;split at h
 .
  rename_i x d;obtain⟨i,a⟩:=b.ty d;split at h;.rename_i e c;exact⟨e,kH (a.sh.symm.trans c),h⟩
  .cases h
 .cases h
theorem zt{o:Op}{v:HV}{u:Value}{z:Nat}{l:List HV}{us ex:List Value}{T:TypeId}(b:eT ρ s.hp w)(f:iq P n F w o u (w.alloc (.cells (us++ex).toArray T)))(d:dN ρ l us)(h1:∀x,x∈us->x.oneCell'=true)(e:∀a:Rn,a s.nx=some ⟨w.heap.size,0,l.length,z,(us++ex).length⟩->VR a v u):fk P n F ρ s w o (.val v (s.bP z l).2):=by intro c;have g:ρ s.nx=none:=c s.nx (au _) (a7 _);exact⟨u,_,_,f,e _ (fM _ _ _),fp.bP b g d h1 (Kp.refl _ w) rfl,rfl,rfl,rfl⟩
theorem N1(j:gm P cx)(g:eT ρ s.hp w){t:Nat}{r:Rs}(h:nf cx s t=some r):fk P n F ρ s w (.alloc t) r:=by
 unfold nf at h;split at h
 .
  rename_i x m;obtain⟨i,a⟩:=j.ty m;split at h
  .
   rename_i z o;split at h
   .
    rename_i c k;cases h;obtain⟨p,b,d⟩:=a.IV o;obtain⟨e,f⟩:=oi (ρ:=ρ) k (th b);refine zt (us:=p.cells.toList) (ex:=[]) (T:=t) (u:= .pointer (some ⟨w.heap.size,0,none⟩)) g ?_ e f λq l=>?_;.rw[bf];exact Kh d (by simp)
    .unfold VR;exact⟨_,l,rfl⟩
   .cases h
  .cases h
 .cases h
theorem TA(e:eT ρ s.hp w){t:TypeId}{x:Operand}{v:HV}{r:Rs}(h:sd s v=some r)(j:VR ρ v (ev n F x)):fk P n F ρ s w (.box t x) r:=by
 unfold sd at h;split at h
 .
  rename_i c f;cases h;obtain⟨a,b⟩:=oi f j;refine zt (us:=(ev n F x).cells.toList) (ex:=[]) (T:=t) (u:= .pointer (some ⟨w.heap.size,0,none⟩)) e ⟨λd l p k g=>?_⟩ a b λm i=>?_;.simp[execOp,Instr.box,newVar,newRow]
  .unfold VR;exact⟨_,i,rfl⟩
 .cases h
theorem qX{l:List HV}{us:List Value}(h:dN ρ l us):∀k,dN ρ (gP l k) (List.replicate k us).flatten
 |0=>by unfold gP dN;rfl
 |k+1=>by unfold gP;rw[gH,ko];exact BI h (qX h k)
theorem xA(l:List HV):∀k,(gP l k).length=k*l.length
 |0=>by simp[gP]
 |k+1=>by unfold gP;rw[ax,xA l k,fY];omega
theorem uh{us:List Value}(h:∀u,u∈us->u.oneCell'=true)(k:Nat):∀u,u∈(List.replicate k us).flatten->u.oneCell'=true:=by intro u a;obtain⟨r,b,a⟩:=jB.1 a;rw[eA b]at a;exact h u a
theorem Cg(z:gm P cx)(x0:eT ρ s.hp w){t:Nat}{x y:Operand}{l c:HV}{r:Rs}(h:ic cx s t l c=some r)(o:VR ρ l (ev n F x))(q:VR ρ c (ev n F y)):fk P n F ρ s w (.makeSlice t x y) r:=by
 unfold ic at h;split at h
 .
  rename_i a m k f q0 t0;rw[aH]at h;split at h
  .
   rename_i A;simp only[ae,bO,gu]at A;cases h;obtain⟨y0,v⟩:=A;have v:k*a.lq<=4294967296:=v;obtain⟨l0,o⟩:=pt q0 o;obtain⟨k0,q⟩:=pt t0 q;obtain⟨e,n0,f⟩:=nZ z f;obtain⟨z0,b,u⟩:=tE z f;obtain⟨i,u0,m0,o0,v0⟩:=b.sG;have i0:k<=4294967296:=by have:k*1<=k*a.lq:=jz _ b.Qp;omega
   have w0:(i.bytes:Int)*(k:Int)<=281474976710656:=by
    rw[v0];have:((k*a.lq:Nat):Int)<=4294967296:=by omega
    rw[Int.natCast_mul,Int.mul_comm]at this;omega
   have j:=run_make (P:=P) w t e i z0 n0 u0 m0 l0 k0 (m:Int) (k:Int) (by omega) (by omega) w0 (by omega);simp only[cY]at j;rw[o0,<-b.cells,oD]at j;have C:=qX (u ρ).1 k;have r0:=eW (u ρ).1;have D:a.zc.length=a.z:=by rw[<-r0];simpa using b.cells
   refine zt (us:=(List.replicate k z0.cells.toList).flatten) (ex:=[]) (T:=e) (u:= .slice (some ⟨w.heap.size,0,none⟩) m k) x0 ⟨λd h0 p j0 g=>?_⟩ C (uh (u ρ).2 k) λg0 p0=>?_;.simp[execOp,o,q,j]
   .
    unfold VR;have B:=xA a.zc k;have s0:=eW C;refine⟨_,k,p0,rfl,y0,?_,?_,by unfold maxLen;omega,by omega⟩;.simp only[B,D];omega
    .simp only[bf,s0,B,D];omega
  .cases h
 .cases h
theorem MX(y0:gm P cx)(z0:eT ρ s.hp w){t:Nat}{x y:Operand}{a v:HV}{r:Rs}(h:pB cx s t a v=some r)(k:VR ρ a (ev n F x))(r0:VR ρ v (ev n F y)):fk P n F ρ s w (.store t x y) r:=by
 unfold pB at h;split at h
 .
  rename_i b o;split at h
  .
   rename_i z c q0 x0;obtain⟨i,D⟩:=y0.ty q0;rw[aH]at h;split at h
   .
    rename_i m;have m:=aw m;split at h
    .
     rename_i l e;cases h;unfold VR at k;obtain⟨q,t0,k⟩:=k;obtain⟨A,B⟩:=oi x0 r0;obtain⟨u0,l0,p0,u,n0⟩:=fp.fo z0 t0 e A B;have v0:=eW A;have C:=run_storeCells_cells (P:=P) q.c (q.o+o) (ev n F y).cells.toList 0 w (λj w0=>by rw[mS u,gW (by omega)];rfl) (λj w0=>by simp[World.frozen?,u]) B;simp only[fu]at C
     have f:l.nt=s.nt/\l.dC=s.dC/\l.lk=s.lk/\l.nx=s.nx:=by
      unfold St.fo at e;split at e
      .
       rw[aH]at e;split at e;.cases e;exact⟨rfl,rfl,rfl,rfl⟩
       .cases e
      .cases e
     refine⟨_,⟨λd m0 p o0 g=>?_⟩,u0,f.1,f.2.1,f.2.2.1,f.2.2.2⟩;have s0:(ev n F y).cells.size=z.size:=by rw[<-m,<-v0];simp
     simp[execOp,k,Instr.storeAt,Instr.sureAddr,storeVar,D.sizeOf,s0,C]
    .cases h
   .cases h
  .cases h
 .cases h
theorem GP(q:eT ρ s.hp w){t:TypeId}{r:Rs}(h:Bm s=some r):fk P n F ρ s w (.makeMap t none) r:=by
 unfold Bm at h;cases h;intro A;have y0:ρ s.nx=none:=A s.nx (au _) (a7 _);have D:∀c,c<w.heap.size->(w.alloc (.map #[] 0)).heap[c]?=w.heap[c]?:=λc B=>(Kp.alloc w (.map #[] 0)).block c B (by simp);have m:∀i,i≠s.nx->(s.hp.set s.nx (.map [])).ap i=s.hp.ap i:=λi a=>Tr.bS _ _ a;have z0:=xk (r:=⟨w.heap.size,0,0,0,0⟩) y0;refine⟨.map (some w.heap.size),w.alloc (.map #[] 0),pf ρ s.nx ⟨w.heap.size,0,0,0,0⟩,⟨λd r0 p x0 g=>?_⟩,?_,⟨?_,?_,zg.of (Kp.alloc w _) (λ_ h=>by cases h),?_,dg _⟩,rfl,rfl,rfl⟩;.simp[execOp,Instr.makeMap]
 .unfold VR;exact⟨_,fM _ _ _,rfl⟩
 .
  refine q.step (b:=s.nx) (λi a=>ku _ _ a) z0 (Kp.alloc w _).size (λi a o l=>by rw[<-l];exact(m i a).symm) (λi o r a l e u=>D _ u) ?_ ?_ ?_;.intro x r j e;simp only[Tr.a8]at j;cases j
  .intro w0 r j e;simp only[Tr.a8]at j;cases j;rw[fM]at e;cases e;exact⟨#[],0,heap_alloc_new w _,by unfold gT;rfl⟩
  .intro i o t0 r s0 a l v0 u0 e v;rw[fM]at v;cases v;have u:=q.at (by rw[<-m i a];exact l) e;simp only;omega
 .intro b f;refine ku _ _ ?_;simp only[Nat.add_eq]at f;omega
 .
  intro c C;obtain⟨b,o,r,y,z,k,rfl⟩:=C;by_cases f:b=s.nx;.subst f;rw[fM]at k;cases k;exact .inr (au _)
  .rw[ku _ _ f]at k;exact .inl ⟨b,o,r,by rw[<-m b f];exact y,z,k,rfl⟩
end
def uJ(cs:List Value):Nat->List Value->List Value|_,[]=>cs|o,v::a=>uJ (cs.set o v) (o+1) a
theorem Dp(a:Nat):∀(l:List Value)(k:Nat)(A:List Value),(l.zipIdx k).foldl (λcs(c,j)=>cs.setIfInBounds (a+j) c) A.toArray=(uJ A (a+k) l).toArray
 |[],k,A=>rfl
 |v::l,k,A=>by
  rw[List.zipIdx_cons,fw];have:A.toArray.setIfInBounds (a+k) v=(A.set (a+k) v).toArray:=by simp
  simp only[this];rw[Dp a l (k+1),uJ];rfl
theorem CP:∀(l cs:List Value)(o:Nat),(uJ cs o l).length=cs.length
 |[],cs,o=>rfl
 |v::l,cs,o=>by rw[uJ,CP];simp
section
variable{P:Program}{n:Nat}{F:dB}{ρ:Rn}{s:St}{w:World}{cx:Cx}
theorem QR{cs:List HV}{us:List Value}{v:HV}{u:Value}(h:dN ρ cs us)(o:Nat)(f:VR ρ v u):dN ρ (cs.set o v) (us.set o u):=by
 refine ux (by simp[eW h]) λi x y b a=>?_;rw[gA]at b a;split at b
 .
  rename_i c;rw[aA c]at a;split at b
  .
   split at a;.cases b;cases a;exact f
   .cases a
  .cases b
 .rename_i c;rw[aB c]at a;obtain⟨z,d,e⟩:=jW h i x b;rw[d]at a;cases a;exact e
theorem yw:∀{l:List HV}{c:List Value}{cs:List HV}{us:List Value}(o:Nat),dN ρ cs us->dN ρ l c->dN ρ (rJ cs o l) (uJ us o c)
 |[],c,cs,us,o,h,b=>by unfold dN at b;subst b;exact h
 |a::l,c,cs,us,o,h,b=>by unfold dN at b;obtain⟨u,f,rfl,d,e⟩:=b;rw[rJ,uJ];exact yw (o+1) (QR h o d) e
theorem CO:∀{c us:List Value}(o:Nat),(∀u,u∈us->u.oneCell'=true)->(∀u,u∈c->u.oneCell'=true)->∀u,u∈uJ us o c->u.oneCell'=true
 |[],us,o,h,_,u,b=>h u b
 |v::c,us,o,h,d,u,b=>by
  rw[uJ]at b;refine CO (o+1) (λy a=>?_) (λy a=>d y (cT _ a)) u b;rcases cO a with a|rfl;.exact h y a
  .exact d _ (bX ..)
def sr(ρ:Rn):List (Nat×HV)->List (Nat×Value)->Prop|[],b=>b=[]|(i,a)::l,b=>∃u c,b=(i,u)::c/\VR ρ a u/\sr ρ l c
theorem r8(h:iA ρ n s F):∀{ps:List (Nat×Operand)}{l:List (Nat×HV)},gR s ps=some l->sr ρ l (ps.map λ(i,x)=>(i,ev n F x))
 |[],l,a=>by cases a;unfold sr;rfl
 |(i,x)::ps,l,a=>by unfold gR at a;cases b:s.ev x with
  |none=>rw[b]at a;cases a
  |some v=>rw[b]at a;cases c:gR s ps with
  |none=>rw[c]at a;cases a
  |some d=>rw[c]at a;cases a;unfold sr;exact⟨_,_,rfl,bV h b,r8 h c⟩
theorem uq{t:Nat->Option (Nat×Nat)}:∀{ps:List (Nat×HV)}{e:List (Nat×Value)}{cs l:List HV}{us:List Value},rY t cs ps=some l->sr ρ ps e->dN ρ cs us->(∀u,u∈us->u.oneCell'=true)->∃a,Instr.fill t us.toArray e=some a.toArray/\dN ρ l a/\(∀u,u∈a->u.oneCell'=true)/\a.length=us.length
 |[],e,cs,l,us,h,b,d,g=>by unfold sr at b;subst b;cases h;exact⟨us,rfl,d,g,rfl⟩
 |(i,v)::ps,e,cs,l,us,h,b,d,g=>by
  unfold sr at b;obtain⟨u,r0,rfl,C,D⟩:=b;unfold rY at h;split at h
  .
   rename_i o z u0;split at h
   .
    rename_i c x0;rw[aH]at h;split at h
    .
     rename_i q;simp only[ae,bO]at q;obtain⟨f,k⟩:=q;have f:=aw f;have k:o+z<=cs.length:=k;obtain⟨m,z0⟩:=oi x0 C;have v0:=eW m;have t0:=eW d;have r:u.cells.size=z:=by rw[<-f,<-v0];simp
     obtain⟨a,x,y,A,B⟩:=uq h D (yw o d m) (CO o g z0);refine⟨a,?_,y,A,by rw[B,CP]⟩;unfold Instr.fill;have y0:(decide (u.cells.size≠z)||decide (o+u.cells.size>us.toArray.size))=false:=by simp[r];omega
     simp only[u0];have s0:¬(decide (u.cells.size≠z)||decide (o+u.cells.size>us.toArray.size))=true:=by rw[y0];simp
     have w0:u.cells.zipIdx.foldl (λcs(c,j)=>cs.setIfInBounds (o+j) c) us.toArray=(uJ us o u.cells.toList).toArray:=by have:=Dp o u.cells.toList 0 us;simp only[fu]at this;rw[<-this,<-Array.foldl_toList,Array.toList_zipIdx]
     split;.rename_i p;exfalso;rw[r]at p;simp at p;omega
     .rw[w0];exact x
    .cases h
   .cases h
  .cases h
theorem NP(z0:gm P cx)(C:eT ρ s.hp w)(s0:iA ρ n s F){t:Nat}{ps:Array (Nat×Operand)}{l:List (Nat×HV)}{r:Rs}(p0:gR s ps.toList=some l)(h:ky cx s t l=some r):fk P n F ρ s w (.build t ps) r:=by
 have D:=r8 s0 p0;have i0:(ps.map λ(i,x)=>(i,ev n F x)).toList=ps.toList.map λ(i,x)=>(i,ev n F x):=by simp
 unfold ky at h;split at h
 .
  rename_i x n0;obtain⟨i,c⟩:=z0.ty n0;split at h
  .
   rename_i z y0;obtain⟨f0,t0,y⟩:=c.IV y0;have x0:=th (ρ:=ρ) t0;unfold VR at x0;obtain⟨v,rfl,A,B⟩:=x0;split at h
   .
    rename_i m0 o;obtain⟨j0,u,q0⟩:=Ac (c.sh.symm.trans o);split at h
    .
     rename_i q k;cases h;obtain⟨a,b,f,j,u0⟩:=uq k D A B;refine fk.pure C (u:= .agg a.toArray) ⟨λd l0 p v0 g=>?_⟩ (by unfold VR;exact⟨a,rfl,f,j⟩);have b:Instr.fill (m0.toArray[.]?) v.toArray (ps.toList.map λ(i,x)=>(i,ev n F x))=some a.toArray:=by rw[<-b];congr 1;funext i;simp
     have r0:P.built t (ps.toList.map λ(i,x)=>(i,ev n F x))=some a.toArray:=by
      obtain⟨k0,w0,g0⟩:=c.zero _ y0;have:k0= .agg v.toArray:=by have:=y w;simp[zeroValue,typeInfo,c.sG,w0]at this;exact this
      subst this;unfold Program.built;rw[c.sG,u];simp only[w0,q0];exact b
     have:=run_build (P:=P) w t (ps.map λ(i,x)=>(i,ev n F x)) a.toArray (by simpa using r0);simp[execOp,this]
    .cases h
   .
    rename_i m e o;have u:=zo (c.sh.symm.trans o);split at h
    .
     rename_i q k;split at h;.rename_i h0 o0;cases h;obtain⟨a,b,f,j,u0⟩:=uq o0 D A B;refine fk.pure C (u:= .agg a.toArray) ⟨λd l0 p v0 g=>?_⟩ (by unfold VR;exact⟨a,rfl,f,j⟩);have b:Instr.fill (λi=>some (i*q,q)) v.toArray (ps.toList.map λ(i,x)=>(i,ev n F x))=some a.toArray:=b;simp[execOp,Instr.build,y,run_underlying u,z0.sizeOf k,Value.cells,b]
     .cases h
    .cases h
   .cases h
  .cases h
 .cases h
end
section
variable{P:Program}{n:Nat}{F:dB}{ρ:Rn}{s:St}{w:World}{cx:Cx}
theorem Bs (hc : gm P cx) (hH : eT ρ s.hp w) (hE : iA ρ n s F) {t len : Nat} {ps : Array (Nat × Operand)} {l : List (Nat × HV)} {r : Rs} (hl : gR s ps.toList = some l) (h : eZ cx s t len l = some r) : fk P n F ρ s w (.buildSlice t len ps) r := by
  have hP := r8 hE hl
  unfold eZ at h
  split at h
  · rename_i y hy
    obtain ⟨e, hu, hel⟩ := nZ hc hy
    obtain ⟨zv, hEl, hz⟩ := tE hc hel
    obtain ⟨i, hi, hz0, hsz, hby⟩ := hEl.sG
    rw [aH] at h
    split at h
    · rename_i hcond
      simp only [ae, bO] at hcond
      split at h
      · rename_i l' hl'
        cases h
        have hzl : y.zc.length = y.z := by rw [← eW (hz ρ).1]; simpa using hEl.cells
        obtain ⟨us', g1, g2, g3, g4⟩ := uq hl' hP (qX (hz ρ).1 len) (uh (hz ρ).2 len)
        have hlen : us'.length = len * y.z := by rw [g4, eW (qX (hz ρ).1 len), xA, hzl]
        have hb : len * y.z ≤ 16000000 := by
          calc len * y.z ≤ 4000 * 4000 := sJ hcond.1 hcond.2
            _ = 16000000 := by rfl
        refine zt (us := us') (ex := []) (T := e) (u := .slice (some ⟨w.heap.size, 0, none⟩) len len) hH ⟨fun d t' p af g => ?_⟩ g2 g3 (fun ρ' hr => ?_)
        · have hrun : (Instr.buildSlice t len (ps.map fun (i, x) => (i, ev n F x))).run P w = .ok (.slice (some ⟨w.heap.size, 0, none⟩) len len) (w.alloc (.cells (us' ++ []).toArray e)) := by
            rw [bf]
            by_cases h0 : len = 0
            · subst h0
              have : us' = [] := by simpa using hlen
              subst this
              have g1 : Instr.fill (fun i => some (i * y.z, y.z)) #[] (ps.toList.map fun (i, x) => (i, ev n F x)) = some #[] := by simpa using g1
              have g1 : Instr.fill (fun i => some (i * y.z, y.z)) #[] (ps.toList.map fun x => (x.1, ev n F x.2)) = some #[] := g1
              have h0 : Array.range 0 = #[] := rfl
              simp [Instr.buildSlice, run_underlying hu, sizeOf, typeInfo, hi, hsz, h0, g1, newRow]
            · have hp := hEl.Yk
              have hne : ¬ len * i.size = 0 := by
                rw [hsz]; exact Nat.mul_ne_zero h0 (by omega)
              refine run_buildSlice w t e len _ us'.toArray i zv hu hi hz0 (by rw [hsz]; omega) hne ?_
              have hm := oD zv.cells len
              rw [hEl.cells] at hm
              unfold madeCells at hm
              rw [hsz, hm]
              have : (ps.map fun (i, x) => (i, ev n F x)).toList = ps.toList.map fun (i, x) => (i, ev n F x) := by simp
              rw [this]
              exact g1
          simp [execOp, hrun]
        · unfold VR
          have hl2 := eW g2
          refine ⟨_, len, hr, rfl, au _, ?_, ?_, by unfold maxLen; omega, by omega⟩
          · simp only; omega
          · simp only [bf]; omega
      · cases h
    · cases h
  · cases h
theorem KP(r0:gm P cx)(u0:eT ρ s.hp w){t z k:Nat}{x:HV}{u:Value}{l:List HV}(hi:nG cx t x=true)(h:iW s z x=some (l,k))(f:VR ρ x u):∃us,_root_.Go.Src P z t u k us w/\dN ρ l us/\l.length=k*z:=by
 unfold nG at hi;split at hi
 .
  rename_i y p0;obtain⟨i,C⟩:=r0.ty p0
  have o0:∀e,y.sh= .slice e->(∀b,x≠.ef b)->∃us,_root_.Go.Src P z t u k us w/\dN ρ l us/\l.length=k*z:=by
   intro e g A;have d:=kH (C.sh.symm.trans g)
   have:∃p m,cellsOf s z x=some p/\lenOf x=some m/\p=l/\m=k:=by
    unfold iW at h;split at h;.rename_i b;exact absurd rfl (A b)
    .
     split at h;.rename_i p m r v;cases h;exact⟨_,_,r,v,rfl,rfl⟩
     .cases h
   obtain⟨p,m,r,v,rfl,rfl⟩:=this;obtain⟨us,a,c,x0,m0,l0,k0,D,z0,w0,v0⟩:=sf u0 r v f;refine⟨us,?_,D,by rw[<-eW D];exact z0⟩;rw[x0];rcases v0 with⟨rfl,rfl⟩|⟨b,o,rfl,q0⟩
   .cases a with
    |none=>exact⟨.inl ⟨e,d⟩,λ_=>rfl,run_firstCells_none w z 0 0 c,run_firstCells_none w.drew z 0 0 c,by simp,λ_ h=>by cases h⟩
    |some q=>exact _root_.Go.Src.ofSlice w d q 0 c [] (by simp) (λj u d=>by simp at d) λ_ h=>by cases h
   .exact _root_.Go.Src.ofSlice w d ⟨b,o,none⟩ m c us z0 (λj u d=>by rw[pD];exact q0 j u d) w0
  split at hi
  .
   rename_i b g;have d:=ue (C.sh.symm.trans g);unfold iW at h;simp only[aH]at h;split at h;.rename_i B;have B:=aw B;subst B;cases h;unfold VR at f;subst f;refine⟨_,_root_.Go.Src.ofString w d b,?_,by simp⟩;unfold byteCells;refine ux (by simp) λi x u f d=>?_;simp only[jc,Option.map_eq_some_iff]at f d;obtain⟨a,t0,rfl⟩:=f;obtain⟨n0,y0,rfl⟩:=d;rw[t0]at y0;cases y0;unfold VR;rfl
   .cases h
  .cases hi
  .rename_i e g A;exact o0 e g λb s0=>A b s0
  .cases hi
 .cases hi
end
section
variable{P:Program}{n:Nat}{F:dB}{ρ:Rn}{s:St}{w:World}{cx:Cx}
theorem sX{a:St}{b o:Nat}{l:List HV}(h:s.fo b o l=some a):a.nt=s.nt/\a.dC=s.dC/\a.lk=s.lk/\a.nx=s.nx:=by
 unfold St.fo at h;split at h
 .
  rw[aH]at h;split at h;.cases h;exact⟨rfl,rfl,rfl,rfl⟩
  .cases h
 .cases h
theorem ol{t a:TypeId}{c e:Operand}{v:Value}{b:World}(h:∀ty,(Builtin.append_ #[t,a] ty #[ev n F c,ev n F e]).run P w= .ok v b):iq P n F w (.call {callee:= .builtin .append,args:= #[c,e],argTypes:= #[t,a]}) v b:=by refine⟨λd i p f g=>?_⟩;simp[execOp,resolve,invoke,builtin,h]
theorem Dl {t t2 ty e : TypeId} {i : TypeInfo} {zv : Value} {z lq : Nat} (ht : P.underlying t = some (.slice e)) (hE : R4 P e z zv lq) {a : Option Addr} {m cap k : Nat} {x : Value} {olds news : List Value}
    (hold : (Builtin.firstCells z m (.slice a m cap)).run P w.drew = .ok olds.toArray w.drew) (hol : olds.length = m * z) (hs : _root_.Go.Src P z t2 x k news w) (hg : cap < m + k) (hb : (m + k) * lq ≤ 4294967296) :
    ∃ c ex, (Builtin.append_ #[t, t2] ty #[.slice a m cap, x]).run P w = .ok (.slice (some ⟨w.heap.size, 0, none⟩) (m + k) c) (w.drew.alloc (.cells ((olds ++ news) ++ ex).toArray e)) ∧ m + k ≤ c ∧ c ≤ maxLen ∧ ((olds ++ news) ++ ex).length = c * z := by
  obtain ⟨i, hi, hz, hsz, hby⟩ := hE.sG
  have hbd : m + k ≤ 4294967296 := by
    have : (m + k) * 1 ≤ (m + k) * lq := jz _ hE.Qp
    omega
  have hfit : Builtin.nextslicecap (m + k) cap * i.bytes ≤ 281474976710656 := by
    have h1 := nextslicecap_le hg
    rw [hby]
    calc Builtin.nextslicecap (m + k) cap * lq ≤ 2 * (m + k) * lq := co _ h1
      _ = 2 * ((m + k) * lq) := by rw [t4]
      _ ≤ 281474976710656 := by omega
  have hrun := run_append_grow_src (P := P) w t t2 ty e i zv ht hi hz a m cap olds (by rw [hsz]; exact hold) x k news (by rw [hsz]; exact hs) hg (by omega) hfit
  have hge := grownCap_ge w (m + k) cap e
  refine ⟨grownCap w (m + k) cap e, (Builtin.zeroCells zv.cells (grownCap w (m + k) cap e - (m + k))).toList, ?_, hge, grownCap_le_maxLen w _ cap e (by unfold maxLen; omega), ?_⟩
  · rw [hrun]
    have : (olds ++ news).toArray ++ Builtin.zeroCells zv.cells (grownCap w (m + k) cap e - (m + k)) = ((olds ++ news) ++ (Builtin.zeroCells zv.cells (grownCap w (m + k) cap e - (m + k))).toList).toArray := by
      apply ua
      simp
    rw [this]
  · rw [ax, ax, hol, hs.newsLen, Array.length_toList, size_zeroCells, hE.cells, ← fY, ← fY]
    congr 1
    omega
theorem Ft{t p e:TypeId}{zv:Value}{z lq k m:Nat}{o0 x:Operand}{a:HV}{bP:List HV}{r:Rs}{us:List Value}(w0:eT ρ s.hp w)(h0:P.underlying t=some (.slice e))(s0:R4 P e z zv lq)(v9:lenOf a=some m)(k9:(m+k)*lq<=4294967296)(h:gE s z a bP k=some r)(g:VR ρ a (ev n F o0))(B:_root_.Go.Src P z p (ev n F x) k us w)(r0:dN ρ bP us)(w9:bP.length=k*z):fk P n F ρ s w (.call {callee:= .builtin .append,args:= #[o0,x],argTypes:= #[t,p]}) r:=by
 obtain⟨i,k0,hz0,i0,hby⟩:=s0.sG;have hpos:=s0.Yk;have hbd:m+k<=4294967296:=by have:(m+k)*1<=(m+k)*lq:=jz _ s0.Qp;omega
 have hnew:bP.length=us.length:=(eW r0).symm
 have l9:∀(q:Option Addr)(f0:HV),ev n F o0= .slice q 0 0->m=0->VR ρ f0 (.slice q 0 0)->(bif Nat.beq k 0 then some (Rs.val f0 s)else some (.val (.sl s.nx 0 k) (s.bP z bP).2))=some r->fk P n F ρ s w (.call {callee:= .builtin .append,args:= #[o0,x],argTypes:= #[t,p]}) r:=by
  intro q f0 g hm0 hav m0;clear h;subst hm0;rw[aH]at m0;split at m0
  .
   rename_i u0;have u0:=aw u0;subst u0;cases m0;have hus:us=[]:=by have:=B.newsLen;simpa using this
   subst hus;refine fk.pure w0 (u:= .slice q 0 0) (ol λd=>?_) hav;rw[g];exact run_append_nothing w t p d e i h0 k0 q 0 0 (au _) _ (by rw[i0];exact B)
  .
   rename_i u0;have u0:k≠0:=λh0=>u0 (by rw[h0];rfl);cases m0;intro z9;have g0:ρ s.nx=none:=z9 s.nx (au _) (a7 _)
   have q0:(Builtin.firstCells z 0 (.slice q 0 0)).run P w.drew= .ok ([]:List Value).toArray w.drew:=by cases q with
    |none=>simp[Builtin.firstCells]
    |some q=>simp[Builtin.firstCells,loadCells,loadCellsFrom]
   have hrun:∀d,∃c z0,(Builtin.append_ #[t,p] d #[.slice q 0 0,ev n F x]).run P w= .ok (.slice (some ⟨w.heap.size,0,none⟩) (0+k) c) (w.drew.alloc (.cells ([]++us++z0).toArray e))/\0+k<=c/\c<=maxLen/\([]++us++z0).length=c*z:=λd=>Dl (i:=i) h0 s0 q0 (by simp) B (by omega) k9;obtain⟨c,z0,l0,y0,b0,t0⟩:=hrun 0;have r9:∀d,(Builtin.append_ #[t,p] d #[.slice q 0 0,ev n F x]).run P w=(Builtin.append_ #[t,p] 0 #[.slice q 0 0,ev n F x]).run P w:=λd=>rfl;simp only[hT,bi]at l0 y0 t0;refine⟨.slice (some ⟨w.heap.size,0,none⟩) k c,_,_,ol λd=>by rw[g,r9 d];exact l0,?_,fp.bP (z:=z) (us:=us) (ex:=z0) (w1:=w.drew) w0 g0 r0 (λy C=>B.one y C) (Kp.drew w) rfl,rfl,rfl,rfl⟩;unfold VR;refine⟨_,c,fM _ _ _,rfl,y0,?_,?_,b0,by omega⟩;.simp only[w9,bi];exact co _ y0
   .simp only[bi];rw[t0];exact au _
 unfold gE at h;split at h
 .
  rename_i b o len;cases v9;unfold VR at g;obtain⟨q,f,p0,g,c9,n9,d0,m9,c5⟩:=g;split at h
  .
   rename_i y C;have x9:=x7 C;have hB:=w0.cp b y q x9 p0;obtain⟨g1,a9,g0,g3,g4⟩:=hB;simp only[aH]at h;split at h
   .
    rename_i i9;simp only[ae]at i9;obtain⟨t9,hfree,q9⟩:=i9;have q9:=aw q9;obtain⟨n0,T,c0,g6,g7⟩:=g4 t9;have s9:q.z=z:=by rw[<-a9,q9]
    rw[s9]at n9 d0;have hmk:∀j,j*z<=f*z->j<=f:=λj v0=>oY v0 hpos;have hnk:(m+k)*z=m*z+k*z:=fY _ _ _;have r9:∀d,(Builtin.append_ #[t,p] d #[.slice (some ⟨q.c,q.o+o,none⟩) m f,ev n F x]).run P w=(Builtin.append_ #[t,p] 0 #[.slice (some ⟨q.c,q.o+o,none⟩) m f,ev n F x]).run P w:=λd=>rfl
    have d9:m+k<=f->∀d,(Builtin.append_ #[t,p] d #[.slice (some ⟨q.c,q.o+o,none⟩) m f,ev n F x]).run P w= .ok (.slice (some ⟨q.c,q.o+o,none⟩) (m+k) f) (w.setCells q.c (q.o+o+m*z) us):=by
     intro A d;have hfit:q.o+o+m*z+us.length<=n0.size:=by have:=B.newsLen;have:(m+k)*z<=f*z:=co _ A;omega
     have:=run_append_room_src (P:=P) w t p d e i h0 k0 q.c (q.o+o) m f (ev n F x) k us (by rw[i0];exact B) A (λj v0=>by rw[i0,mS c0,gW (by omega)];rfl) (λj v0=>by simp[World.frozen?,c0]);rw[i0]at this;exact this
    split at h
    .
     rename_i x0;simp only[bO]at x0;have x0:o+(m+k)*z<=y.n:=x0;have A:m+k<=f:=hmk _ (by omega);split at h
     .
      rename_i s' f9;cases h;obtain⟨g9,_⟩:=fp.fo w0 p0 f9 r0 λy C=>B.one y C;have y9:=sX f9;intro _;refine⟨.slice (some ⟨q.c,q.o+o,none⟩) (m+k) f,_,ρ,ol λd=>by rw[g];exact d9 A d,?_,?_,y9.1,y9.2.1,y9.2.2.1⟩;.unfold VR;exact⟨q,f,p0,rfl,A,by rw[s9];exact n9,by rw[s9];exact d0,m9,by show m+k<=_;omega⟩
      .
       have b9:q.o+Nat.add o (Nat.mul m z)=q.o+o+m*z:=by show q.o+(o+m*z)=_;omega
       rw[b9]at g9;exact g9
     .cases h
    .
     split at h
     .
      rename_i x0;simp only[bO]at x0;have x0:o+m*z<=y.n:=x0
      have e9:∀e0,(∀i v,i<(m+k)*z->e0.ap i=some v->i<m*z/\o+i<y.n/\y.c.ap (o+i)=some v\/m*z<=i/\bP[i-m*z]?=some v)->r= .val (.sl s.nx 0 (m+k)) ⟨s.nt,s.dC,(s.hp.nr b).set s.nx (.cp ⟨true,z,(m+k)*z,e0⟩),s.nx+1,s.lk,s.df⟩->fk P n F ρ s w (.call {callee:= .builtin .append,args:= #[o0,x],argTypes:= #[t,p]}) r:=by
       intro e0 j9 hr;subst hr;intro z9;have g0:ρ s.nx=none:=z9 s.nx (au _) (a7 _);by_cases A:m+k<=f
       .
        refine⟨_,_,pf ρ s.nx ⟨q.c,q.o+o,(m+k)*z,z,q.ga⟩,ol λd=>by rw[g];exact d9 A d,?_,fp.Va (r':=⟨q.c,q.o+o,(m+k)*z,z,q.ga⟩) (bP:=bP) (us:=us) w0 x9 t9 p0 g0 r0 (λy C=>B.one y C) w9 j9 rfl rfl ⟨rfl,rfl⟩ (.inl ⟨rfl,rfl,rfl,rfl,?_⟩),rfl,rfl,rfl⟩
        .
         unfold VR;refine⟨_,f,fM _ _ _,rfl,A,?_,?_,m9,by omega⟩;.simp only[bi];exact co _ A
         .simp only[fu];exact d0
        .have:(m+k)*z<=f*z:=co _ A;omega
       .
        have hcm:m*z<=f*z:=co _ c9;have j0:((n0.toList.drop (q.o+o)).take (m*z)).length=m*z:=by rw[aR,cB,Array.length_toList];omega
        have h9:∀j u,((n0.toList.drop (q.o+o)).take (m*z))[j]?=some u->w.cell? ⟨q.c,q.o+o+j,none⟩=some u:=λj u D=>by have v0:=gv D;rw[j0]at v0;rw[eU,aA v0,gh,kq]at D;rw[mS c0];exact D
        have q0:=run_firstCells_some (P:=P) w.drew z m ⟨q.c,q.o+o,none⟩ m f _ j0 (λj u D=>by rw[pD];exact h9 j u D);obtain⟨c,z0,l0,y0,b0,t0⟩:=Dl (ty:=0) (i:=i) h0 s0 q0 j0 B (by omega) k9;refine⟨_,_,pf ρ s.nx ⟨w.heap.size,0,(m+k)*z,z,((n0.toList.drop (q.o+o)).take (m*z)++us++z0).length⟩,ol λd=>by rw[g,r9 d];exact l0,?_,fp.Va (bP:=bP) (us:=us) w0 x9 t9 p0 g0 r0 (λy C=>B.one y C) w9 j9 rfl rfl ⟨rfl,rfl⟩ (.inr ⟨?_,rfl,rfl,((n0.toList.drop (q.o+o)).take (m*z)++us++z0).toArray,e,_,?_,by simp only[pR],?_,j0,?_,h9⟩),rfl,rfl,rfl⟩
        .
         unfold VR;refine⟨_,c,fM _ _ _,rfl,y0,?_,?_,b0,by omega⟩;.simp only[bi];exact co _ y0
         .simp only[bi];rw[t0];exact au _
        .exact(Kp.drew w).trans (Kp.alloc _ _)
        .exact heap_alloc_new w.drew _
        .simp only;rw[t0];exact co _ y0
        .intro j u D;simp only[sw];rw[bL (gv D)];exact D
      split at h
      .
       rename_i u9;have u9:=aw u9;subst u9;cases h;refine e9 (cr y.c (m*z) bP) (λi v k0 l=>?_) rfl;rw[gq]at l;split at l;.rename_i hin2;exact .inr ⟨hin2.1,l⟩
       .
        rename_i hout;left;have:i<m*z:=by omega
        exact⟨this,by omega,by rw[bi];exact l⟩
      .
       split at h
       .
        rename_i o9 q0;cases h;obtain⟨p9,k2⟩:=qi q0;have p9:o9.length=m*z:=p9;refine e9 (cr .e 0 (o9++bP)) (λi v k0 l=>?_) rfl;rw[gq]at l;split at l
        .
         rw[iR]at l;rcases cI i o9.length with a0|a0;.rw[bL a0]at l;obtain⟨k3,k4⟩:=k2 i v l;exact .inl ⟨by omega,k3,k4⟩
         .rw[bA a0,p9]at l;exact .inr ⟨by omega,l⟩
        .rw[Tr.kN]at l;cases l
       .cases h
     .cases h
   .cases h
  .cases h
 .cases v9;unfold VR at g;exact l9 none .cM g rfl (by unfold VR;rfl) h
 .cases v9;unfold VR at g;obtain⟨a,g⟩:=g;exact l9 (some a) .gz g rfl (by unfold VR;exact⟨a,rfl⟩) h
 .cases h
theorem J8(b:gm P cx)(d:eT ρ s.hp w){t g:TypeId}{i j:Operand}{a x:HV}{r:Rs}(h:hQ cx s t g a x=some r)(A:VR ρ a (ev n F i))(B:VR ρ x (ev n F j)):fk P n F ρ s w (.call {callee:= .builtin .append,args:= #[i,j],argTypes:= #[t,g]}) r:=by
 unfold hQ at h;split at h
 .
  rename_i C c;obtain⟨e,z,c⟩:=nZ b c;obtain⟨x0,q,D⟩:=tE b c;simp only[aH]at h;split at h
  .
   rename_i y;split at h
   .
    rename_i z0 k m v u;split at h;.rename_i f;simp only[gu,bO]at f;obtain⟨y0,l,o,p⟩:=KP b d y v B;exact Ft d z q u f h A l o p
    .cases h
   .cases h
  .cases h
 .cases h
end
section
variable{P:Program}{n:Nat}{F:dB}{ρ:Rn}{s:St}{w:World}{cx:Cx}
theorem I8(r0:gm P cx)(A:eT ρ s.hp w){t z k m:Nat}{x:HV}{u:Value}{l:List HV}(hi:nG cx t x=true)(h:iW s z x=some (l,k))(x0:VR ρ x u)(q0:qU x k m=true):∃us,(Builtin.firstCells z (Nat.min k m) u).run P w= .ok us.toArray w/\dN ρ (l.take (Nat.min k m*z)) us/\(∀y,y∈us->y.oneCell'=true)/\∀v0:World,(Builtin.lenOf u).run P v0= .ok k v0:=by
 obtain⟨us,f,u0,f0⟩:=KP r0 A hi h x0;have o0:Nat.min k m<=k:=rA _ _;have m0:∀y,y∈us.take (Nat.min k m*z)->y.oneCell'=true:=λy j0=>f.one y (em j0);have r:us.length=k*z:=f.newsLen;refine⟨us.take (Nat.min k m*z),?_,N8 _ u0,m0,f.len⟩;by_cases y0:∃b,x= .ef b
 .
  obtain⟨b,rfl⟩:=y0;have p0:k<=m:=by simpa [qU]using q0
  have n0:Nat.min k m=k:=gG p0;rw[n0,<-r,bN];exact f.cells
 .
  have:∃g d,cellsOf s z x=some g/\lenOf x=some d/\g=l/\d=k:=by
   unfold iW at h;split at h;.exact absurd ⟨_,rfl⟩ y0
   .
    split at h;.rename_i g d i p;cases h;exact⟨_,_,i,p,rfl,rfl⟩
    .cases h
  obtain⟨g,d,i,p,rfl,rfl⟩:=this;obtain⟨w0,a,c,i0,e0,d0,c0,b0,h0,a0,g0⟩:=sf A i p x0;have C:=f.cells;rw[i0]at C⊢;have z0:(us.take (Nat.min d m*z)).length=Nat.min d m*z:=by rw[aR,r];exact gG (co _ o0)
  rcases g0 with⟨rfl,rfl⟩|⟨b,o,rfl,B⟩
  .
   have t0:Nat.min 0 m=0:=gG (a5 _);have k0:us=[]:=by simpa using r
   subst k0;rw[t0,t7]
   cases a with
    |none=>exact run_firstCells_none w z 0 0 c
    |some q=>exact run_firstCells_some w z 0 q 0 c [] (by simp) λj v e=>by simp at e
  .
   have l0:us=w0:=by have:=run_firstCells_some (P:=P) w z d ⟨b,o,none⟩ d c w0 h0 (λj v e=>by rw[pD];exact B j v e);rw[C]at this;injection this with s0 h6;simpa using s0
   subst l0;exact run_firstCells_some w z (Nat.min d m) ⟨b,o,none⟩ d c _ z0 λj v e=>by rw[pD];have D:=gv e;rw[z0]at D;rw[eU,aA D]at e;exact B j v e
theorem DK{t a:TypeId}{c e:Operand}{v:Value}{b:World}(h:∀ty,(Builtin.copy_ #[t,a] ty #[ev n F c,ev n F e]).run P w= .ok v b):iq P n F w (.call {callee:= .builtin .copy,args:= #[c,e],argTypes:= #[t,a]}) v b:=by refine⟨λd i p f g=>?_⟩;simp[execOp,resolve,invoke,builtin,h]
theorem Qg(D:gm P cx)(C:eT ρ s.hp w){t x0:TypeId}{z w0:Operand}{a x:HV}{r:Rs}(h:sc cx s t x0 a x=some r)(d:VR ρ a (ev n F z))(a0:VR ρ x (ev n F w0)):fk P n F ρ s w (.call {callee:= .builtin .copy,args:= #[z,w0],argTypes:= #[t,x0]}) r:=by
 unfold sc at h;split at h
 .
  rename_i l0 z0;obtain⟨e,o0,z0⟩:=nZ D z0;obtain⟨s9,k0,v9⟩:=tE D z0;obtain⟨i,r0,u9,p0,w9⟩:=k0.sG;simp only[aH]at h;split at h
  .
   rename_i c0;split at h
   .
    rename_i l k m h0 u;split at h
    .
     rename_i j0;obtain⟨n0,A,v0,u0,t0⟩:=I8 D C c0 h0 a0 j0;have m0:∀(b o f p:Nat)(q:RI)(g:St),ρ b=some q->ev n F z= .slice (some ⟨q.c,q.o+o,none⟩) m p->s.fo b o (l.take (Nat.min k m*l0.z))=some g->fk P n F ρ s w (.call {callee:= .builtin .copy,args:= #[z,w0],argTypes:= #[t,x0]}) (.val (.int .i64 (Int.ofNat (Nat.min k m))) g):=by intro b o f p q g y d v;obtain⟨d0,t9,y9,s0,x9⟩:=fp.fo C y v v0 u0;have y0:=sX v;have q0:=run_storeCells_cells (P:=P) q.c (q.o+o) n0 0 w (λj i0=>by rw[mS s0,gW (by omega)];rfl) (λj i0=>by simp[World.frozen?,s0]) u0;simp only[fu]at q0;intro _;refine⟨.int .i64 (Int.ofNat (Nat.min k m)),_,ρ,DK λz9=>?_,by unfold VR;rfl,d0,y0.1,y0.2.1,y0.2.2.1⟩;simp only[Builtin.copy_,d];simp[run_underlying o0,t0,sizeOf,typeInfo,r0,p0,A,q0,goInt]
     split at h;.cases h
     .
      rename_i b o f;split at h;.rename_i g v;cases h;cases u;unfold VR at d;obtain⟨q,p,y,d,_⟩:=d;exact m0 b o 0 p q g y d v
      .cases h
     .
      rename_i b o f;split at h;.rename_i g v;cases h;cases u;unfold VR at d;obtain⟨q,p,y,d,_⟩:=d;exact m0 b o 0 p q g y d v
      .cases h
     .
      rename_i g0 f0 e0;cases h
      have:∃q c,ev n F z= .slice q 0 c/\m=0:=by
       cases a;case cM=>cases u;unfold VR at d;exact⟨_,_,d,rfl⟩
       case gz=>cases u;unfold VR at d;obtain⟨q,d⟩:=d;exact⟨_,_,d,rfl⟩
       case lV=>cases u;unfold VR at d;obtain⟨q,c,d,_⟩:=d;exact⟨_,_,d,rfl⟩
       case ef b=>exact absurd rfl (g0 b)
       case sl b o f=>exact absurd rfl (f0 b o f)
       case jh b o f=>exact absurd rfl (e0 b o f)
       all_goals cases u
      obtain⟨q,c,d,rfl⟩:=this;have B:Nat.min k 0=0:=iB (a5 _);rw[B]at A;have b0:n0=[]:=by have:=eW v0;rw[B]at this;simpa using this
      subst b0;refine fk.pure C (u:= .int .i64 0) (DK λz9=>?_) (by unfold VR;rfl);simp only[Builtin.copy_,d];cases q<;>simp[run_underlying o0,t0,sizeOf,typeInfo,r0,p0,B,A,storeCells,goInt]
    .cases h
   .cases h
  .cases h
 .cases h
theorem NM(C:gm P cx)(B:eT ρ s.hp w){t:TypeId}{l:Operand}{a:HV}{r:Rs}(h:oe cx s t a=some r)(f:VR ρ a (ev n F l)):fk P n F ρ s w (.call {callee:= .builtin .clear,args:= #[l],argTypes:= #[t]}) r:=by
 unfold oe at h;split at h
 .
  rename_i n0 u;obtain⟨e,x,u⟩:=nZ C u;obtain⟨m,x0,y⟩:=tE C u;obtain⟨i,w0,s0,k0,l0⟩:=x0.sG;have z:∀q c,ev n F l= .slice q 0 c->fk P n F ρ s w (.call {callee:= .builtin .clear,args:= #[l],argTypes:= #[t]}) (.val .undef s):=by intro q c f;refine fk.pure B (u:=undef) ⟨λd q0 p y0 g=>?_⟩ (by unfold VR;rfl);cases q<;>simp[execOp,f,resolve,invoke,builtin,Builtin.clear_,run_underlying x,undef]
  split at h
  .
   rename_i b o k;split at h
   .
    rename_i j0 D;cases h;unfold VR at f;obtain⟨q,o0,t0,f,_⟩:=f;obtain⟨u0,i0,p0,A,m0⟩:=fp.fo B t0 D (qX (y ρ).1 k) (uh (y ρ).2 k);have v:=sX D;have z0:=run_storeCells_cells (P:=P) q.c (q.o+o) (List.replicate k m.cells.toList).flatten 0 w (λj v0=>by rw[mS A,gW (by omega)];rfl) (λj v0=>by simp[World.frozen?,A]) (uh (y ρ).2 k);simp only[fu]at z0;have r0:Builtin.zeroCells m.cells k=(List.replicate k m.cells.toList).flatten.toArray:=by have:=oD m.cells k;rw[<-this];rfl
    intro _;refine⟨undef,_,ρ,⟨λd q0 p y0 g=>?_⟩,by unfold VR;rfl,u0,v.1,v.2.1,v.2.2.1⟩
    cases k with
     |zero=>simp[execOp,f,resolve,invoke,builtin,Builtin.clear_,run_underlying x,undef,World.setCells]
     |succ k=>simp[execOp,f,resolve,invoke,builtin,Builtin.clear_,run_underlying x,zeroValue,typeInfo,w0,s0,r0,z0,undef]
   .cases h
  .cases h;unfold VR at f;exact z _ _ f
  .cases h;unfold VR at f;obtain⟨q,f⟩:=f;exact z _ _ f
  .cases h;unfold VR at f;obtain⟨q,c,f,_⟩:=f;exact z _ _ f
  .cases h
 .cases h
theorem yv {q q0 : IntKind} {k : Int} {v : HV} {u : Value} (hv : VR ρ v u) : ∀ {es es' : List (HV × HV)} {en : List MapEntry} (i : Nat) (born : Nat), gT ρ es en → uf q k v es = some es' →
    (Instr.findNow (.int q0) (.int q k) en i = some none ∧ gT ρ es' (en ++ [{ key := .int q k, val := u, born := born }])) ∨
    ∃ j e, i ≤ j ∧ Instr.findNow (.int q0) (.int q k) en i = some (some (j, e.val)) ∧ en[j - i]? = some e ∧ e.key = .int q k ∧ gT ρ es' (en.set (j - i) { e with key := .int q k, val := u })
  | [], es', en, i, born, hm, h => by
    unfold gT at hm
    subst hm
    cases h
    left
    refine ⟨rfl, ?_⟩
    unfold gT
    exact ⟨_, [], rfl, ⟨q, k, rfl⟩, by unfold VR; rfl, hv, by unfold gT; rfl⟩
  | (a, x) :: es, es', en, i, born, hm, h => by
    unfold gT at hm
    obtain ⟨e, en', rfl, ⟨q', b, rfl⟩, h2, h3, h4⟩ := hm
    unfold VR at h2
    unfold uf at h
    simp only [aH, bB] at h
    split at h
    · rename_i hq
      subst hq
      split at h
      · rename_i hk
        subst hk
        cases h
        right
        refine ⟨i, e, au _, ?_, by simp, h2, ?_⟩
        · unfold Instr.findNow
          rw [h2]
          simp [Instr.sameNow]
        · rw [dW, lX]
          unfold gT
          exact ⟨_, en', rfl, ⟨q, k, rfl⟩, by unfold VR; rfl, hv, h4⟩
      · rename_i hk
        split at h
        · rename_i l hl
          cases h
          have hb : (k == b) = false := by simpa using hk
          have hstep : Instr.findNow (.int q0) (.int q k) (e :: en') i = Instr.findNow (.int q0) (.int q k) en' (i + 1) := by
            conv => lhs; unfold Instr.findNow
            rw [h2]
            simp only [Instr.sameNow, fI, hb]
          rcases yv hv (i + 1) born h4 hl with ⟨g1, g2⟩ | ⟨j, e', g0, g1, g2, g3, g4⟩
          · left
            refine ⟨hstep.trans g1, ?_⟩
            rw [List.cons_append]
            unfold gT
            exact ⟨e, _, rfl, ⟨q, b, rfl⟩, by unfold VR; exact h2, h3, g2⟩
          · right
            have : j - i = (j - (i + 1)) + 1 := by omega
            refine ⟨j, e', by omega, hstep.trans g1, by rw [this]; simpa using g2, g3, ?_⟩
            rw [this, List.set_cons_succ]
            unfold gT
            exact ⟨e, _, rfl, ⟨q, b, rfl⟩, by unfold VR; exact h2, h3, g4⟩
        · cases h
    · cases h
theorem IZ(r0:gm P cx)(s0:eT ρ s.hp w){t:TypeId}{x y z:Operand}{m i v:HV}{r:Rs}(h:pb cx s t m i v=some r)(u0:VR ρ m (ev n F x))(i0:VR ρ i (ev n F y))(j9:VR ρ v (ev n F z)):fk P n F ρ s w (.mapUpdate t x y z) r:=by
 unfold pb at h;split at h
 .
  rename_i e b q k q9;obtain⟨z9,h9,b0,q0⟩:=wE r0 q9;unfold VR at u0 i0;obtain⟨f,D,u0⟩:=u0;rw[aH]at h;split at h
  .
   split at h
   .
    rename_i w9 x0;obtain⟨A,y0,m0,v9⟩:=s0.map b w9 f x0 D;split at h
    .
     rename_i n0 p9;cases h;have f0:(getObj f.c).run P w= .ok (.map A y0) w:=by simp[getObj,Sem.run,m0]
     have j0:=oc m0
     have g0:∀(l:Array MapEntry)(u:Nat),gT ρ n0 l.toList->VH P n F w (.mapUpdate t x y z) {w with heap:=w.heap.setIfInBounds f.c (.map l u)}->fk P n F ρ s w (.mapUpdate t x y z) (.Fx ⟨s.nt,s.dC,s.hp.set b (.map n0),s.nx,s.lk,s.df⟩):=by
      intro l u s9 u9;have l9:({w with heap:=w.heap.setIfInBounds f.c (.map l u)}:World).heap[f.c]?=some (.map l u):=by simp[j0]
      have e0:∀c,c<w.heap.size->c≠f.c->({w with heap:=w.heap.setIfInBounds f.c (.map l u)}:World).heap[c]?=w.heap[c]?:=λc r0 C=>by simp only;rw[Array.getElem?_setIfInBounds,aB λe=>C e.symm]
      have C:∀i,i≠b->(s.hp.set b (.map n0)).ap i=s.hp.ap i:=λi a=>Tr.bS _ _ a;refine⟨_,u9,⟨?_,λ_ _=>rfl,⟨rfl,rfl,rfl,by simp,λc r0 t9=>e0 c r0 λe=>t9 ⟨b,_,f,x0,rfl,D,e.symm⟩⟩,?_,au _⟩,rfl,rfl,rfl,rfl⟩
      .
       refine s0.step (b:=b) (λi a=>rfl) (sQ.refl _) (by simp) (λi a o w0=>by rw[<-w0];exact(C i a).symm) ?_ ?_ ?_ ?_;.intro i o z0 a w0 v0 n9;refine e0 _ n9 λB=>?_;exact s0.inj b i _ o f z0 (λx=>a x.symm) x0 rfl (by rw[<-C i a];exact w0) D v0 B.symm
       .intro y z0 t0 v0;simp only[Tr.a8]at t0;cases t0
       .intro c9 z0 t0 v0;simp only[Tr.a8]at t0;cases t0;rw[D]at v0;cases v0;exact⟨l,u,l9,s9⟩
       .intro i o o' e9 r2 a w0 b9 a9 k9 d0;rw[D]at d0;cases d0;exactλB=>s0.inj b i _ o f e9 (λx=>a x.symm) x0 rfl (by rw[<-C i a];exact w0) D k9 B.symm
      .
       intro c r9;obtain⟨i,o,z0,g9,f9,y9,rfl⟩:=r9;left;by_cases a:i=b;.subst a;exact⟨i,_,z0,x0,rfl,y9,rfl⟩
       .exact⟨i,o,z0,by rw[<-C i a];exact g9,f9,y9,rfl⟩
     have c0:∀(l:Array MapEntry)(u:Nat),(setObj f.c (.map l u)).run P w= .ok () {w with heap:=w.heap.setIfInBounds f.c (.map l u)}:=λl u=>by simp[setObj,Sem.run,m0]
     rcases yv (q0:=h9) j9 0 y0 v9 p9 with⟨h0,p0⟩|⟨j,B,k0,h0,p0,i9,a0⟩
     .
      refine g0 (A.push {key:= .int q k,val:=ev n F z,born:=y0}) (y0+1) (by simpa using p0) ⟨λd d9 p x9 g=>?_⟩;have l0:(Instr.findKey z9 (.int q k) A.toList).run P w= .ok none w:=by simp[Instr.findKey,run_underlying q0,h0]
      simp[execOp,u0,i0,Instr.mapUpdate,run_underlying b0,f0,lJ q0,l0,c0]
     .
      have l0:(Instr.findKey z9 (.int q k) A.toList).run P w= .ok (some (j,B.val)) w:=by simp[Instr.findKey,run_underlying q0,h0]
      rw[iR]at p0 a0;have o0:A[j]?=some B:=by simpa using p0
      have j0:j<A.size:=by
       rcases cI j A.size with h|h;.exact h
       .rw[rD h]at o0;cases o0
      have m9:(A.modify j λe=>{e with key:= .int q k,val:=ev n F z}).toList=A.toList.set j {B with key:= .int q k,val:=ev n F z}:=by
       apply mH;intro i;rw[kq,sA,gA];by_cases k0:j=i;.subst k0;rw[aA rfl,aA rfl,o0];simp[j0]
       .rw[aB k0,aB k0];simp
      refine g0 (A.modify j λe=>{e with key:= .int q k,val:=ev n F z}) y0 (by rw[m9];exact a0) ⟨λd d9 p x9 g=>?_⟩;have o9:(Instr.keyThatStays (.int q k) (.int q k)).run P w= .ok (.int q k) w:=by simp[Instr.keyThatStays,Instr.sameBits]
      simp[execOp,u0,i0,Instr.mapUpdate,run_underlying b0,f0,lJ q0,l0,o0,i9,o9,c0]
    .cases h
   .cases h
  .cases h
 .cases h
end
section
variable{P:Program}{n:Nat}{F:dB}{ρ:Rn}{s:St}{w:World}{cx:Cx}
theorem bM{k:HV->Option Rs}{x:Operand}{r:Rs}(h:fD s k x=some r):∃v,s.ev x=some v/\k v=some r:=by
 unfold fD at h;split at h;.rename_i v a;exact⟨v,a,h⟩
 .cases h
theorem fk.ob{o:Op}{r:Rs}(c:eT ρ s.hp w)(h:∃v,r= .val v s/\∃u,iq P n F w o u w/\VR ρ v u):fk P n F ρ s w o r:=by obtain⟨v,rfl,u,a,b⟩:=h;exact fk.pure c a b
theorem Be{xs:List Operand}{a:HV}(h:s.jI xs=some [a]):∃x,xs=[x]/\s.ev x=some a:=by
 cases xs with
  |nil=>cases h
  |cons x xs=>
  unfold St.jI at h
  cases c:s.ev x with
   |none=>rw[c]at h;cases h
   |some v=>
   rw[c]at h
   cases b:s.jI xs with
    |none=>rw[b]at h;cases h
    |some l=>
    rw[b]at h;cases h
    cases xs with
     |nil=>exact⟨x,rfl,c⟩
     |cons y d=>
     exfalso;unfold St.jI at b;split at b;.split at b<;>cases b
     .cases b
theorem G9{xs:List Operand}{a b:HV}(h:s.jI xs=some [a,b]):∃x y,xs=[x,y]/\s.ev x=some a/\s.ev y=some b:=by cases xs with
 |nil=>cases h
 |cons x xs=>unfold St.jI at h;cases c:s.ev x with
 |none=>rw[c]at h;cases h
 |some v=>rw[c]at h;cases d:s.jI xs with
 |none=>rw[d]at h;cases h
 |some l=>rw[d]at h;cases h;obtain⟨y,rfl,e⟩:=Be d;exact⟨x,y,rfl,c,e⟩
theorem Hw(D:gm P cx)(f:eT ρ s.hp w)(o:iA ρ n s F){b:Builtin}{ts:List Nat}{xs:List Operand}{l:List HV}{r:Rs}(B:s.jI xs=some l)(h:ff cx s b ts l=some r):fk P n F ρ s w (.call {callee:= .builtin b,args:=xs.toArray,argTypes:=ts.toArray}) r:=by
 unfold ff at h;split at h
 .
  rename_i t v;obtain⟨x,rfl,c⟩:=Be B;clear B;replace c:=bV o c;split at h
  .
   rename_i z u0;obtain⟨i,t0⟩:=D.ty u0;split at h;.rename_i k e C;cases h;have x0:=Ew (t0.sh.symm.trans C);unfold VR at c;refine fk.pure f (u:= .int .i64 0) ⟨λd e0 p s0 g=>?_⟩ (by unfold VR;rfl);simp[execOp,c,resolve,invoke,builtin,Builtin.len_,run_underlying x0,goInt]
   .
    rename_i k e b C;split at h
    .
     rename_i j m0;cases h;have x0:=Ew (t0.sh.symm.trans C);unfold VR at c;obtain⟨q,h0,c⟩:=c;obtain⟨A,r0,q0,p0⟩:=f.map b j q m0 h0
     have k0:∀{j:List (HV×HV)}{A:List MapEntry},gT ρ j A->A.length=j.length:=by intro j;induction j with
      |nil=>intro A h;unfold gT at h;rw[h];rfl
      |cons a j f0=>intro A h;unfold gT at h;obtain⟨e,d0,rfl,_,_,_,o0⟩:=h;simp[f0 o0]
     have g0:A.size=j.length:=by rw[<-k0 p0];simp
     refine fk.pure f (u:= .int .i64 (j.length:Int)) ⟨λd e0 p s0 g=>?_⟩ (by unfold VR;rfl);have l0:(getObj q.c).run P w= .ok (.map A r0) w:=by simp[getObj,Sem.run,q0]
     simp[execOp,c,resolve,invoke,builtin,Builtin.len_,run_underlying x0,goInt,l0,g0]
    .cases h
   .rename_i b C;cases h;exact fk.pure f (Le D f c ⟨z,u0,.inr ⟨C,b,rfl⟩⟩ rfl) (by unfold VR;rfl)
   .cases h
   .
    rename_i c0 e C i0;split at h;.rename_i m j0;cases h;exact fk.pure f (Le D f c ⟨z,u0,.inl ⟨e,C,λb n0=>i0 b n0⟩⟩ j0) (by unfold VR;rfl)
    .cases h
   .cases h
  .cases h
 .obtain⟨x,y,rfl,c,v0⟩:=G9 B;exact J8 D f h (bV o c) (bV o v0)
 .obtain⟨x,y,rfl,c,v0⟩:=G9 B;exact Qg D f h (bV o c) (bV o v0)
 .obtain⟨x,rfl,c⟩:=Be B;exact NM D f h (bV o c)
 .
  split at h;.rename_i v w0;cases h;obtain⟨u,z0,y0⟩:=AK (b:=false) (w:=w) (P:=P) (ts:=ts.toArray) o B w0;exact fk.pure f z0 y0
  .cases h
 .
  split at h;.rename_i v w0;cases h;obtain⟨u,z0,y0⟩:=AK (b:=true) (w:=w) (P:=P) (ts:=ts.toArray) o B w0;exact fk.pure f z0 y0
  .cases h
 .cases h
theorem VL{op:UnOp}{t:TypeId}{x:Operand}{v:HV}{r:Rs}(h:yL s op v=some r)(a:VR ρ v (ev n F x)):∃v,r= .val v s/\∃u,iq P n F w (.unOp op t x) u w/\VR ρ v u:=by
 unfold yL at h;split at h;.cases h;unfold VR at a;exact⟨_,rfl,_,QH a,by unfold VR;rfl⟩
 .rename_i k m;cases h;unfold VR at a;refine⟨_,rfl,.int k (k.wrap (0-m)),⟨λd c p b g=>?_⟩,by unfold VR;rw[qK];rfl⟩;simp[execOp,a,Op.unary,Op.intArith]
 .cases h
theorem Bl(k:gm P cx)(i:eT ρ s.hp w)(e:iA ρ n s F){o:Op}{r:Rs}(h:kU cx s o=some r):fk P n F ρ s w o r:=by
 unfold kU at h;split at h;.obtain⟨v,a,h⟩:=bM h;cases h;exact fk.pure i (N5 rfl) (bV e a)
 .obtain⟨v,a,h⟩:=bM h;cases h;exact fk.pure i (HP rfl) (bV e a)
 .
  obtain⟨v,a,h⟩:=bM h;have a:=bV e a;unfold ql at h;split at h
  .
   unfold VR at a;split at h;.rename_i u j;cases h;exact fk.pure i (HM a rfl) (bV e j)
   .cases h
  .
   unfold VR at a;split at h;.rename_i u j;cases h;exact fk.pure i (HN a rfl) (bV e j)
   .cases h
  .cases h
 .exact N1 k i h
 .obtain⟨v,a,h⟩:=bM h;exact TA i h (bV e a)
 .
  split at h;.rename_i l x;exact NP k i e x h
  .cases h
 .
  split at h;.rename_i l x;exact Bs k i e x h
  .cases h
 .obtain⟨v,a,h⟩:=bM h;exact fk.ob i (GS k i h (bV e a))
 .obtain⟨v,a,h⟩:=bM h;obtain⟨u,j,h⟩:=bM h;exact MX k i h (bV e a) (bV e j)
 .
  obtain⟨v,a,h⟩:=bM h;have a:=bV e a;unfold vK at h;split at h;.cases h;have t0:=a;unfold VR at t0;obtain⟨q,D,A⟩:=t0;exact fk.pure i (CA A) (by rw[A]at a;exact a)
  .cases h
 .
  obtain⟨v,a,h⟩:=bM h;obtain⟨u,j,h⟩:=bM h;split at h;.rename_i q D;cases h;obtain⟨z,B,x0⟩:=J2 (P:=P) (w:=w) k D (bV e a) (bV e j);exact fk.pure i B x0
  .cases h
 .obtain⟨v,a,h⟩:=bM h;exact fk.ob i (VL h (bV e a))
 .obtain⟨v,a,h⟩:=bM h;exact fk.ob i (Ho k i h (bV e a))
 .
  rename_i f s0 u0;split at h
  .
   rename_i l w0 x;cases h;have v0:=l4 e x;have w0:s0= #[]:=by apply ua;simpa using w0
   subst w0;refine fk.pure i (u:= .func (.func f) #[] (u0.toList.map (ev n F)).toArray) (N7 (by apply ua;simp)) ?_;unfold VR;exact⟨_,rfl,v0⟩
  .cases h
 .exact GP i h
 .obtain⟨v,a,h⟩:=bM h;obtain⟨u,j,h⟩:=bM h;exact Cg k i h (bV e a) (bV e j)
 .
  split at h;.rename_i v l q m a x D q0;exact fk.ob i (M3 k i e h (bV e a) x D q0)
  .cases h
 .obtain⟨v,a,h⟩:=bM h;exact fk.ob i (NA k h (bV e a))
 .obtain⟨v,a,h⟩:=bM h;obtain⟨u,j,h⟩:=bM h;exact fk.ob i (JF k h (bV e a) (bV e j))
 .obtain⟨v,a,h⟩:=bM h;obtain⟨u,j,h⟩:=bM h;exact fk.ob i (Nw k h (bV e a) (bV e j))
 .obtain⟨v,a,h⟩:=bM h;obtain⟨u,j,h⟩:=bM h;exact fk.ob i (Jy k i h (bV e a) (bV e j))
 .obtain⟨v,a,h⟩:=bM h;obtain⟨u,j,h⟩:=bM h;obtain⟨z,p0,h⟩:=bM h;exact IZ k i h (bV e a) (bV e j) (bV e p0)
 .
  obtain⟨v,a,h⟩:=bM h;have a:=bV e a;unfold ln at h;split at h
  .
   split at h;.rename_i u j;cases h;unfold VR at a;obtain⟨z0,A,B⟩:=a;obtain⟨y,x0,r0⟩:=jW B _ u j;exact fk.pure i (FA A (by simpa using x0)) r0
   .cases h
  .cases h
 .
  rename_i c;obtain⟨m0,y0,n0⟩:=c;split at h
  .
   rename_i b C;simp only at C;subst C;split at h;.rename_i l x;have:=Hw (P:=P) k i e x h;simpa using this
   .cases h
  .
   rename_i f C;simp only at C;subst C;split at h
   .
    rename_i l x;obtain⟨v,a,h⟩:=bM h;have a:=bV e a;have v0:=l4 e x;unfold Ff at h;split at h
    .
     rename_i g u0;cases h;unfold VR at a;obtain⟨z0,A,B⟩:=a;refine⟨y0.toList.map (ev n F)++z0,BI v0 B,λd t p o0 l0=>?_⟩;have:y0.map (ev n F)++z0.toArray=(y0.toList.map (ev n F)++z0).toArray:=by apply ua;simp
     simp only[execOp,resolve,A,Deferred.ofValue,Sem.run_bind,Sem.run_pure,Result.andThen_ok,invoke];rw[<-this];simp
    .cases h
   .cases h
  .cases h
 .cases h
end
structure cZ (s s' : St) : Prop where
  nx : s.nx ≤ s'.nx
  bE : ∀ b, b < s.nx → bu b s.lk = true → s'.hp.ap b = s.hp.ap b
  nt : s'.nt = s.nt
  lk : s'.lk = s.lk
  df : s'.df = s.df
  yn : ∀ b o, s'.hp.ap b = some o → oB o = false → s.hp.ap b = some o
  oE : ∀ b, s'.nx ≤ b → s.hp.ap b = none → s'.hp.ap b = none
theorem qM{hp:Tr Obj}{n:Nat}{x:Obj}(h:oB x=true):∀b o,(hp.set n x).ap b=some o->oB o=false->hp.ap b=some o:=by
 intro b o a c;rw[Tr.dk]at a;split at a;.cases a;rw[h]at c;cases c
 .exact a
theorem py{hp:Tr Obj}{n:Nat}{x:Obj}{b:Nat}(h:b≠n)(a:hp.ap b=none):(hp.set n x).ap b=none:=by rw[Tr.bS _ _ h];exact a
theorem cZ.refl(s:St):cZ s s:=⟨au _,λ_ _ _=>rfl,rfl,rfl,rfl,λ_ _ h _=>h,λ_ _ h=>h⟩
theorem cZ.trans{a b c:St}(h:cZ a b)(k:cZ b c):cZ a c:=⟨aM h.nx k.nx,λx g e=>by rw[k.bE x (aP g h.nx) (by rw[h.lk];exact e),h.bE x g e],k.nt.trans h.nt,k.lk.trans h.lk,k.df.trans h.df,λb o d f=>h.yn b o (k.yn b o d f) f,λb d i=>k.oE b d (h.oE b (aM k.nx d) i)⟩
def Fr(s:St):Prop:=∀b,s.nx<=b->s.hp.ap b=none
theorem cZ.fr{s c:St}(g:cZ s c)(h:Fr s):Fr c:=λb a=>g.oE b a (h b (aM g.nx a))
section
variable{s s':St}{cx:Cx}
theorem cZ.bP(s:St)(z:Nat)(l:List HV):cZ s (s.bP z l).2:=⟨dg _,λb a _=>Tr.bS _ _ (by omega),rfl,rfl,rfl,qM rfl,λb a=>py (by have a:s.nx+1<=b:=a;omega)⟩
theorem cZ.put(s:St)(d:Option Nat)(v:HV):cZ s (s.put d v):=by
 cases d with
  |none=>exact cZ.refl s
  |some d=>
  unfold St.put;simp only[aH];split;.exact⟨au _,λ_ _ _=>rfl,rfl,rfl,rfl,λ_ _ h _=>h,λ_ _ h=>h⟩
  .exact cZ.refl s
theorem Bb{b c:Nat}(h:s.gD b=true)(a:bu c s.lk=true):c≠b:=by rintro rfl;unfold St.gD at h;rw[a]at h;cases h
theorem cZ.fo{b o:Nat}{l:List HV}(h:s.fo b o l=some s'):cZ s s':=by
 unfold St.fo at h;split at h
 .
  rw[aH]at h;split at h;.rename_i d;cases h;simp only[ae]at d;exact⟨au _,λc _ f=>Tr.bS _ _ (Bb d.2.1 f),rfl,rfl,rfl,qM rfl,λc _ e=>py (by rintro rfl;rename_i a _;unfold St.cp at a;rw[e]at a;cases a) e⟩
  .cases h
 .cases h
def Ko(s:St):Rs->Prop| .val _ s'=>cZ s s'| .Fx s'=>cZ s s'| .call _ _=>True
theorem Dm{b z k:Nat}{c:Tr HV}(h:s.gD b=true):cZ s ⟨s.nt,s.dC,(s.hp.nr b).set s.nx (.cp ⟨true,z,k,c⟩),Nat.add s.nx 1,s.lk,s.df⟩:=⟨dg _,λx a d=>by simp only;rw[Tr.bS _ _ (by omega),Tr.gC,aB (Bb h d)],rfl,rfl,rfl,λx o a f=>by
 have:=qM (hp:=s.hp.nr b) rfl x o a f;rw[Tr.gC]at this;split at this;.cases this
 .exact this,λx a e=>py (by have a:s.nx+1<=x:=a;omega) (by rw[Tr.gC];split<;>first|rfl|exact e)⟩
theorem Bw{z k:Nat}{a:HV}{bP:List HV}{r:Rs}(h:gE s z a bP k=some r):Ko s r:=by
 unfold gE at h;split at h
 .
  split at h
  .
   simp only[aH]at h;split at h
   .
    rename_i b;simp only[ae]at b;split at h
    .
     split at h;.rename_i c;cases h;exact cZ.fo c
     .cases h
    .
     split at h
     .
      split at h;.cases h;exact Dm b.2.1
      .
       split at h;.cases h;exact Dm b.2.1
       .cases h
     .cases h
   .cases h
  .cases h
 .
  rw[aH]at h;split at h;.cases h;exact cZ.refl s
  .cases h;exact cZ.bP s _ _
 .
  rw[aH]at h;split at h;.cases h;exact cZ.refl s
  .cases h;exact cZ.bP s _ _
 .cases h
theorem zd{b:Builtin}{ts:List Nat}{l:List HV}{r:Rs}(h:ff cx s b ts l=some r):Ko s r:=by
 unfold ff at h;split at h
 .
  split at h
  .
   split at h;.cases h;exact cZ.refl s
   .
    split at h;.cases h;exact cZ.refl s
    .cases h
   .cases h;exact cZ.refl s
   .cases h
   .
    split at h;.cases h;exact cZ.refl s
    .cases h
   .cases h
  .cases h
 .
  unfold hQ at h;split at h
  .
   rw[aH]at h;split at h
   .
    split at h
    .
     rw[aH]at h;split at h;.exact Bw h
     .cases h
    .cases h
   .cases h
  .cases h
 .
  unfold sc at h;split at h
  .
   rw[aH]at h;split at h
   .
    split at h
    .
     rw[aH]at h;split at h
     .
      split at h;.cases h
      .
       split at h;.rename_i a;cases h;exact cZ.fo a
       .cases h
      .
       split at h;.rename_i a;cases h;exact cZ.fo a
       .cases h
      .cases h;exact cZ.refl s
     .cases h
    .cases h
   .cases h
  .cases h
 .
  unfold oe at h;split at h
  .
   split at h
   .
    split at h;.rename_i a;cases h;exact cZ.fo a
    .cases h
   .cases h;exact cZ.refl s
   .cases h;exact cZ.refl s
   .cases h;exact cZ.refl s
   .cases h
  .cases h
 .
  split at h;.cases h;exact cZ.refl s
  .cases h
 .
  split at h;.cases h;exact cZ.refl s
  .cases h
 .cases h
theorem sb{o:Op}{r:Rs}(h:kU cx s o=some r):Ko s r:=by
 unfold kU at h;split at h;.obtain⟨v,a,h⟩:=bM h;cases h;exact cZ.refl s
 .obtain⟨v,a,h⟩:=bM h;cases h;exact cZ.refl s
 .
  obtain⟨v,a,h⟩:=bM h;unfold ql at h;split at h
  .
   split at h;.cases h;exact cZ.refl s
   .cases h
  .
   split at h;.cases h;exact cZ.refl s
   .cases h
  .cases h
 .
  unfold nf at h;split at h
  .
   split at h
   .
    split at h;.cases h;exact cZ.bP s _ _
    .cases h
   .cases h
  .cases h
 .
  obtain⟨v,a,h⟩:=bM h;unfold sd at h;split at h;.cases h;exact cZ.bP s _ _
  .cases h
 .
  split at h
  .
   unfold ky at h;split at h
   .
    split at h
    .
     split at h
     .
      split at h;.cases h;exact cZ.refl s
      .cases h
     .
      split at h
      .
       split at h;.cases h;exact cZ.refl s
       .cases h
      .cases h
     .cases h
    .cases h
   .cases h
  .cases h
 .
  split at h
  .
   unfold eZ at h;split at h
   .
    rw[aH]at h;split at h
    .
     split at h;.cases h;exact cZ.bP s _ _
     .cases h
    .cases h
   .cases h
  .cases h
 .
  obtain⟨v,a,h⟩:=bM h;unfold iw at h;split at h
  .
   split at h
   .
    split at h
    .
     rw[aH]at h;split at h
     .
      split at h;.cases h;exact cZ.refl s
      .cases h
     .
      split at h;.cases h;exact cZ.refl s
      .cases h
    .cases h
   .cases h
  .cases h
 .
  obtain⟨v,a,h⟩:=bM h;obtain⟨u,d,h⟩:=bM h;unfold pB at h;split at h
  .
   split at h
   .
    rw[aH]at h;split at h
    .
     split at h;.rename_i j;cases h;exact cZ.fo j
     .cases h
    .cases h
   .cases h
  .cases h
 .
  obtain⟨v,a,h⟩:=bM h;unfold vK at h;split at h;.cases h;exact cZ.refl s
  .cases h
 .
  obtain⟨v,a,h⟩:=bM h;obtain⟨u,d,h⟩:=bM h;split at h;.cases h;exact cZ.refl s
  .cases h
 .
  obtain⟨v,a,h⟩:=bM h;unfold yL at h;split at h;.cases h;exact cZ.refl s
  .cases h;exact cZ.refl s
  .cases h
 .
  obtain⟨v,a,h⟩:=bM h;unfold ge at h;split at h
  .
   split at h;.cases h;exact cZ.refl s
   .cases h;exact cZ.refl s
   .
    split at h
    .
     split at h
     .
      split at h
      .
       split at h
       .
        split at h;.cases h;exact cZ.refl s
        .cases h
       .cases h
      .cases h
     .cases h
    .cases h
   .cases h
  .cases h
 .
  split at h;.cases h;exact cZ.refl s
  .cases h
 .unfold Bm at h;cases h;exact⟨dg _,λb e _=>Tr.bS _ _ (by omega),rfl,rfl,rfl,qM rfl,λb e=>py (by have e:s.nx+1<=b:=e;omega)⟩
 .
  obtain⟨v,a,h⟩:=bM h;obtain⟨u,d,h⟩:=bM h;unfold ic at h;split at h
  .
   rw[aH]at h;split at h;.cases h;exact cZ.bP s _ _
   .cases h
  .cases h
 .
  split at h
  .
   unfold ew at h;split at h
   .
    simp only at h;split at h
    .
     split at h
     .
      split at h;.cases h;exact cZ.refl s
      .cases h
     .cases h
    .
     split at h
     .
      rw[aH]at h;split at h;.cases h;exact cZ.refl s
      .cases h
     .cases h
    .
     split at h;.cases h;exact cZ.refl s
     .cases h
    .
     split at h
     .
      rw[aH]at h;split at h;.cases h;exact cZ.refl s
      .cases h
     .cases h
    .
     split at h
     .
      rw[aH]at h;split at h;.cases h;exact cZ.refl s
      .cases h
     .cases h
    .cases h
   .cases h
  .cases h
 .
  obtain⟨v,a,h⟩:=bM h;unfold l7 at h;split at h
  .
   split at h
   .
    split at h
    .
     split at h;.cases h;exact cZ.refl s
     .cases h
    .cases h
   .cases h
  .cases h
 .
  obtain⟨v,a,h⟩:=bM h;obtain⟨u,d,h⟩:=bM h;unfold fX at h;split at h
  .
   split at h
   .
    split at h
    .
     split at h
     .
      rw[aH]at h;split at h;.cases h;exact cZ.refl s
      .cases h
     .cases h
    .
     split at h
     .
      rw[aH]at h;split at h;.cases h;exact cZ.refl s
      .cases h
     .cases h
    .
     split at h
     .
      rw[aH]at h;split at h;.cases h;exact cZ.refl s
      .cases h
     .cases h
    .cases h
   .cases h
  .cases h
 .
  obtain⟨v,a,h⟩:=bM h;obtain⟨u,d,h⟩:=bM h;unfold l5 at h;split at h
  .
   split at h
   .
    split at h
    .
     split at h
     .
      split at h;.cases h;exact cZ.refl s
      .cases h
     .cases h
    .cases h
   .
    split at h
    .
     split at h
     .
      split at h
      .
       rw[aH]at h;split at h
       .
        split at h;.cases h;exact cZ.refl s
        .cases h
       .cases h
      .cases h
     .cases h
    .cases h
   .cases h
  .cases h
 .
  obtain⟨v,a,h⟩:=bM h;obtain⟨u,d,h⟩:=bM h;unfold nL at h;split at h
  .
   split at h;.cases h;exact cZ.refl s
   .
    split at h;.cases h;exact cZ.refl s
    .cases h
   .cases h
  .cases h
 .
  obtain⟨v,a,h⟩:=bM h;obtain⟨u,d,h⟩:=bM h;obtain⟨z,k,h⟩:=bM h;unfold pb at h;split at h
  .
   rw[aH]at h;split at h
   .
    rename_i f;split at h
    .
     split at h;.cases h;exact⟨au _,λc _ g=>Tr.bS _ _ (Bb f g),rfl,rfl,rfl,qM rfl,λc _ i=>py (by rintro rfl;simp_all) i⟩
     .cases h
    .cases h
   .cases h
  .cases h
 .
  obtain⟨v,a,h⟩:=bM h;unfold ln at h;split at h
  .
   split at h;.cases h;exact cZ.refl s
   .cases h
  .cases h
 .
  split at h
  .
   split at h;.exact zd h
   .cases h
  .
   split at h
   .
    obtain⟨v,a,h⟩:=bM h;unfold Ff at h;split at h;.cases h;trivial
    .cases h
   .cases h
  .cases h
 .cases h
end
def io(a:nM):Prop:=∀c s e s',a c s=some (e,s')->cZ s s'
section
variable{cx:Cx}{ih:nM}
theorem Br(hi:io ih){f:FuncId}{args:List HV}{s s':St}{v:HV}(h:call cx ih f args s=some (v,s')):cZ s s':=by
 unfold call at h;split at h
 .
  unfold xG at h;split at h
  .
   rw[aH]at h;split at h;.cases h;exact cZ.bP _ _ _
   .cases h
  .cases h;exact cZ.refl _
  .cases h
 .
  split at h
  .
   split at h
   .
    rw[aH]at h;split at h
    .
     split at h;.cases h
     .
      rename_i c b a;split at h;.cases h;have:=hi _ _ _ _ a;exact⟨this.nx,this.bE,rfl,rfl,rfl,this.yn,this.oE⟩
      .cases h
     .cases h
    .cases h
   .cases h
  .cases h
theorem la(hi:io ih){bD:Array Oper}{o:Oper}{s s':St}(h:gy cx ih bD s o=some s'):cZ s s':=by
 unfold gy at h;split at h
 .
  split at h;.rename_i v b a;cases h;exact(sb a:cZ s b).trans (cZ.put _ _ _)
  .rename_i b a;cases h;exact(sb a:cZ s b).trans (cZ.put _ _ _)
  .
   split at h;.rename_i a;cases h;exact(Br hi a).trans (cZ.put _ _ _)
   .cases h
  .cases h
 .cases h;exact cZ.put _ _ _
 .cases h
theorem rK(hi:io ih){bD:Array Oper}:∀{l:List Oper}{s s':St},ju cx ih bD s l=some s'->cZ s s'
 |[],s,s',h=>by cases h;exact cZ.refl s
 |o::l,s,s',h=>by
  unfold ju at h;split at h;.rename_i b a;exact(la hi a).trans (rK hi h)
  .cases h
theorem tn{s:St}:∀{l:List Operand}{L:List Nat},hK s l=some L->∀b,bu b s.lk=true->bu b L=true
 |[],L,h,b,c=>by cases h;exact c
 |a::l,L,h,b,c=>by
  unfold hK at h;split at h;.rename_i e d;have ih:=tn d b c;split at h<;>cases h<;>first|exact ih|(unfold bu;rw[ih,vn])
  .cases h
theorem ta(hi:io ih){bD:Array Oper}:∀{l:List Item}{s s':St},fK cx ih bD s l=some s'->cZ s s'
 |[],s,s',h=>by cases h;exact cZ.refl s
 |x::l,s,s',h=>by
  unfold fK at h;split at h
  .
   rename_i i a;rw[aH]at h;split at h;.cases h
   .
    split at h;.rename_i f e;have g:=la hi e;have:cZ s (s.take x.o f):=⟨g.nx,λb c d=>g.bE b c (tn a b d),rfl,rfl,rfl,g.yn,g.oE⟩;exact this.trans (ta hi h)
    .cases h
  .cases h
theorem Ga(hi:io ih):io (xo cx ih):=by
 intro c s e s' h;unfold xo at h;split at h;.cases h;exact cZ.refl s
 .
  split at h;.rename_i a;cases h;exact rK hi a
  .cases h
 .
  split at h
  .
   split at h;.rename_i a;cases h;exact ta hi a
   .cases h
  .cases h
 .
  split at h;.rename_i b a;exact(hi _ _ _ _ a).trans (hi _ _ _ _ h)
  .exact hi _ _ _ _ h
 .
  split at h;.exact hi _ _ _ _ h
  .exact hi _ _ _ _ h
  .cases h
 .
  split at h;.rename_i a;rw[aH]at h;split at h<;>(cases h;exact hi _ _ _ _ a)
  .exact hi _ _ _ _ h
 .
  split at h;.rename_i b a;exact(hi _ _ _ _ a).trans (hi _ _ _ _ h)
  .exact hi _ _ _ _ h
 .cases h;exact cZ.refl s
 .cases h;exact cZ.refl s
 .cases h
theorem ug:∀k,io (run cx k)
 |0=>λ_ _ _ _ h=>by cases h
 |k+1=>Ga (ug k)
end
end Go.Hm
