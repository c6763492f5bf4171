/-
  Rules, functions and laws for the last text, part c.
-/
import Derived.Test.YtfjeeggbdncodaaGreatGb
import Derived.Lib.MakeNoZero
import Derived.Test.YtfjeeggbdncodaaGreatProg
import Derived.KernelRfl
import Derived.Laws.StructEq
import Derived.ChangeKeysEq
set_option linter.unusedVariables false
set_option linter.unusedSimpArgs false
set_option linter.constructorNameAsVariable false
set_option linter.unusedSectionVars false
noncomputable section
namespace Go.Hm
open Go Go.RowKit Go.Wk
section
variable{P:Program}{n:Nat}{F:dN}{ρ:Rn}{s:St}{w:World}{cx:Cx}
theorem tS{a:St}{b o:Nat}{l:List HV}(h:s.fD b o l=some a):a.nt=s.nt/\a.dE=s.dE/\a.lk=s.lk/\a.nx=s.nx:=by
 unfold St.fD at h;split at h
 .
  rw[aH]at h;split at h;.cases h;exact⟨rfl,rfl,rfl,rfl⟩
  .cases h
 .cases h
theorem o3{t a:TypeId}{c e:Operand}{v:Value}{b:World}(h:∀ty,(Builtin.append_ #[t,a] ty #[ev n F c,ev n F e]).run P w= .ok v b):iL P n F w (.call {callee:= .builtin .append,args:= #[c,e],argTypes:= #[t,a]}) v b:=by refine⟨λd i p f g=>?_⟩;simp[execOp,resolve,invoke,builtin,h]
theorem EK {t t2 ty e : TypeId} {i : TypeInfo} {zv : Value} {z lX : Nat} (ht : P.underlying t = some (.slice e)) (hE : TS P e z zv lX) {a : Option Addr} {m cap k : Nat} {x : Value} {olds news : List Value}
    (hold : (Builtin.firstCells z m (.slice a m cap)).run P w.drew = .ok olds.toArray w.drew) (hol : olds.length = m * z) (hs : _root_.Go.Src P z t2 x k news w) (hg : cap < m + k) (hb : (m + k) * lX ≤ 4294967296) :
    ∃ c ex, (Builtin.append_ #[t, t2] ty #[.slice a m cap, x]).run P w = .ok (.slice (some ⟨w.heap.size, 0, none⟩) (m + k) c) (w.drew.alloc (.cells ((olds ++ news) ++ ex).toArray e)) ∧ m + k ≤ c ∧ c ≤ maxLen ∧ ((olds ++ news) ++ ex).length = c * z := by
  obtain ⟨i, hi, hz, hsz, hby⟩ := hE.tC
  have hbd : m + k ≤ 4294967296 := by
    have : (m + k) * 1 ≤ (m + k) * lX := jS _ hE.R1
    omega
  have hfit : Builtin.nextslicecap (m + k) cap * i.bytes ≤ 281474976710656 := by
    have h1 := nextslicecap_le hg
    rw [hby]
    calc Builtin.nextslicecap (m + k) cap * lX ≤ 2 * (m + k) * lX := cq _ h1
      _ = 2 * ((m + k) * lX) := by rw [u7]
      _ ≤ 281474976710656 := by omega
  have hrun := run_append_grow_src (P := P) w t t2 ty e i zv ht hi hz a m cap olds (by rw [hsz]; exact hold) x k news (by rw [hsz]; exact hs) hg (by omega) hfit
  have hge := grownCap_ge w (m + k) cap e
  refine ⟨grownCap w (m + k) cap e, (Builtin.zeroCells zv.cells (grownCap w (m + k) cap e - (m + k))).toList, ?_, hge, grownCap_le_maxLen w _ cap e (by unfold maxLen; omega), ?_⟩
  · rw [hrun]
    have : (olds ++ news).toArray ++ Builtin.zeroCells zv.cells (grownCap w (m + k) cap e - (m + k)) = ((olds ++ news) ++ (Builtin.zeroCells zv.cells (grownCap w (m + k) cap e - (m + k))).toList).toArray := by
      apply ve
      simp
    rw [this]
  · rw [az, az, hol, hs.newsLen, Array.length_toList, size_zeroCells, hE.cells, ← go, ← go]
    congr 1
    omega
theorem G2{t p e:TypeId}{zv:Value}{z lX k m:Nat}{o0 x:Operand}{a:HV}{bT:List HV}{r:Rs}{us:List Value}(w0:eY ρ s.hp w)(h0:P.underlying t=some (.slice e))(s0:TS P e z zv lX)(v9:lenOf a=some m)(k9:(m+k)*lX<=4294967296)(h:gW s z a bT k=some r)(g:VR ρ a (ev n F o0))(B:_root_.Go.Src P z p (ev n F x) k us w)(r0:dY ρ bT us)(w9:bT.length=k*z):fC P n F ρ s w (.call {callee:= .builtin .append,args:= #[o0,x],argTypes:= #[t,p]}) r:=by
 obtain⟨i,k0,hz0,i0,hby⟩:=s0.tC;have hpos:=s0.Z9;have hbd:m+k<=4294967296:=by have:(m+k)*1<=(m+k)*lX:=jS _ s0.R1;omega
 have hnew:bT.length=us.length:=(fe r0).symm
 have l9:∀(q:Option Addr)(f0:HV),ev n F o0= .slice q 0 0->m=0->VR ρ f0 (.slice q 0 0)->(bif Nat.beq k 0 then some (Rs.val f0 s)else some (.val (.sl s.nx 0 k) (s.bT z bT).2))=some r->fC P n F ρ s w (.call {callee:= .builtin .append,args:= #[o0,x],argTypes:= #[t,p]}) r:=by
  intro q f0 g hm0 hav m0;clear h;subst hm0;rw[aH]at m0;split at m0
  .
   rename_i u0;have u0:=au u0;subst u0;cases m0;have hus:us=[]:=by have:=B.newsLen;simpa using this
   subst hus;refine fC.pure w0 (u:= .slice q 0 0) (o3 λd=>?_) hav;rw[g];exact run_append_nothing w t p d e i h0 k0 q 0 0 (ar _) _ (by rw[i0];exact B)
  .
   rename_i u0;have u0:k≠0:=λh0=>u0 (by rw[h0];rfl);cases m0;intro z9;have g0:ρ s.nx=none:=z9 s.nx (ar _) (bf _)
   have q0:(Builtin.firstCells z 0 (.slice q 0 0)).run P w.drew= .ok ([]:List Value).toArray w.drew:=by cases q with
    |none=>simp[Builtin.firstCells]
    |some q=>simp[Builtin.firstCells,loadCells,loadCellsFrom]
   have hrun:∀d,∃c z0,(Builtin.append_ #[t,p] d #[.slice q 0 0,ev n F x]).run P w= .ok (.slice (some ⟨w.heap.size,0,none⟩) (0+k) c) (w.drew.alloc (.cells ([]++us++z0).toArray e))/\0+k<=c/\c<=maxLen/\([]++us++z0).length=c*z:=λd=>EK (i:=i) h0 s0 q0 (by simp) B (by omega) k9;obtain⟨c,z0,l0,y0,b0,t0⟩:=hrun 0;have r9:∀d,(Builtin.append_ #[t,p] d #[.slice q 0 0,ev n F x]).run P w=(Builtin.append_ #[t,p] 0 #[.slice q 0 0,ev n F x]).run P w:=λd=>rfl;simp only[iw,br]at l0 y0 t0;refine⟨.slice (some ⟨w.heap.size,0,none⟩) k c,_,_,o3 λd=>by rw[g,r9 d];exact l0,?_,fG.bT (z:=z) (us:=us) (ex:=z0) (w1:=w.drew) w0 g0 r0 (λy C=>B.one y C) (Kp.drew w) rfl,rfl,rfl,rfl⟩;unfold VR;refine⟨_,c,gc _ _ _,rfl,y0,?_,?_,b0,by omega⟩;.simp only[w9,br];exact cq _ y0
   .simp only[br];rw[t0];exact ar _
 unfold gW at h;split at h
 .
  rename_i b o len;cases v9;unfold VR at g;obtain⟨q,f,p0,g,c9,n9,d0,m9,c5⟩:=g;split at h
  .
   rename_i y C;have x9:=zt C;have hB:=w0.cn b y q x9 p0;obtain⟨g1,a9,g0,g3,g4⟩:=hB;simp only[aH]at h;split at h
   .
    rename_i i9;simp only[ae]at i9;obtain⟨t9,hfree,q9⟩:=i9;have q9:=au q9;obtain⟨n0,T,c0,g6,g7⟩:=g4 t9;have s9:q.z=z:=by rw[<-a9,q9]
    rw[s9]at n9 d0;have hmk:∀j,j*z<=f*z->j<=f:=λj v0=>pD v0 hpos;have hnk:(m+k)*z=m*z+k*z:=go _ _ _;have r9:∀d,(Builtin.append_ #[t,p] d #[.slice (some ⟨q.c,q.o+o,none⟩) m f,ev n F x]).run P w=(Builtin.append_ #[t,p] 0 #[.slice (some ⟨q.c,q.o+o,none⟩) m f,ev n F x]).run P w:=λd=>rfl
    have d9:m+k<=f->∀d,(Builtin.append_ #[t,p] d #[.slice (some ⟨q.c,q.o+o,none⟩) m f,ev n F x]).run P w= .ok (.slice (some ⟨q.c,q.o+o,none⟩) (m+k) f) (w.setCells q.c (q.o+o+m*z) us):=by
     intro A d;have hfit:q.o+o+m*z+us.length<=n0.size:=by have:=B.newsLen;have:(m+k)*z<=f*z:=cq _ A;omega
     have:=run_append_room_src (P:=P) w t p d e i h0 k0 q.c (q.o+o) m f (ev n F x) k us (by rw[i0];exact B) A (λj v0=>by rw[i0,nC c0,hX (by omega)];rfl) (λj v0=>by simp[World.frozen?,c0]);rw[i0]at this;exact this
    split at h
    .
     rename_i x0;simp only[bS]at x0;have x0:o+(m+k)*z<=y.n:=x0;have A:m+k<=f:=hmk _ (by omega);split at h
     .
      rename_i s' f9;cases h;obtain⟨g9,_⟩:=fG.fD w0 p0 f9 r0 λy C=>B.one y C;have y9:=tS f9;intro _;refine⟨.slice (some ⟨q.c,q.o+o,none⟩) (m+k) f,_,ρ,o3 λd=>by rw[g];exact d9 A d,?_,?_,y9.1,y9.2.1,y9.2.2.1⟩;.unfold VR;exact⟨q,f,p0,rfl,A,by rw[s9];exact n9,by rw[s9];exact d0,m9,by show m+k<=_;omega⟩
      .
       have b9:q.o+Nat.add o (Nat.mul m z)=q.o+o+m*z:=by show q.o+(o+m*z)=_;omega
       rw[b9]at g9;exact g9
     .cases h
    .
     split at h
     .
      rename_i x0;simp only[bS]at x0;have x0:o+m*z<=y.n:=x0
      have e9:∀e0,(∀i v,i<(m+k)*z->e0.ap i=some v->i<m*z/\o+i<y.n/\y.c.ap (o+i)=some v\/m*z<=i/\bT[i-m*z]?=some v)->r= .val (.sl s.nx 0 (m+k)) ⟨s.nt,s.dE,(s.hp.nU b).set s.nx (.cn ⟨true,z,(m+k)*z,e0⟩),s.nx+1,s.lk,s.df⟩->fC P n F ρ s w (.call {callee:= .builtin .append,args:= #[o0,x],argTypes:= #[t,p]}) r:=by
       intro e0 j9 hr;subst hr;intro z9;have g0:ρ s.nx=none:=z9 s.nx (ar _) (bf _);by_cases A:m+k<=f
       .
        refine⟨_,_,pQ ρ s.nx ⟨q.c,q.o+o,(m+k)*z,z,q.gq⟩,o3 λd=>by rw[g];exact d9 A d,?_,fG.W9 (r':=⟨q.c,q.o+o,(m+k)*z,z,q.gq⟩) (bT:=bT) (us:=us) w0 x9 t9 p0 g0 r0 (λy C=>B.one y C) w9 j9 rfl rfl ⟨rfl,rfl⟩ (.inl ⟨rfl,rfl,rfl,rfl,?_⟩),rfl,rfl,rfl⟩
        .
         unfold VR;refine⟨_,f,gc _ _ _,rfl,A,?_,?_,m9,by omega⟩;.simp only[br];exact cq _ A
         .simp only[fh];exact d0
        .have:(m+k)*z<=f*z:=cq _ A;omega
       .
        have hcm:m*z<=f*z:=cq _ c9;have j0:((n0.toList.drop (q.o+o)).take (m*z)).length=m*z:=by rw[aY,cE,Array.length_toList];omega
        have h9:∀j u,((n0.toList.drop (q.o+o)).take (m*z))[j]?=some u->w.cell? ⟨q.c,q.o+o+j,none⟩=some u:=λj u D=>by have v0:=gN D;rw[j0]at v0;rw[fa,aE v0,gz,kV]at D;rw[nC c0];exact D
        have q0:=run_firstCells_some (P:=P) w.drew z m ⟨q.c,q.o+o,none⟩ m f _ j0 (λj u D=>by rw[ql];exact h9 j u D);obtain⟨c,z0,l0,y0,b0,t0⟩:=EK (ty:=0) (i:=i) h0 s0 q0 j0 B (by omega) k9;refine⟨_,_,pQ ρ s.nx ⟨w.heap.size,0,(m+k)*z,z,((n0.toList.drop (q.o+o)).take (m*z)++us++z0).length⟩,o3 λd=>by rw[g,r9 d];exact l0,?_,fG.W9 (bT:=bT) (us:=us) w0 x9 t9 p0 g0 r0 (λy C=>B.one y C) w9 j9 rfl rfl ⟨rfl,rfl⟩ (.inr ⟨?_,rfl,rfl,((n0.toList.drop (q.o+o)).take (m*z)++us++z0).toArray,e,_,?_,by simp only[qz],?_,j0,?_,h9⟩),rfl,rfl,rfl⟩
        .
         unfold VR;refine⟨_,c,gc _ _ _,rfl,y0,?_,?_,b0,by omega⟩;.simp only[br];exact cq _ y0
         .simp only[br];rw[t0];exact ar _
        .exact(Kp.drew w).trans (Kp.alloc _ _)
        .exact heap_alloc_new w.drew _
        .simp only;rw[t0];exact cq _ y0
        .intro j u D;simp only[tr];rw[bJ (gN D)];exact D
      split at h
      .
       rename_i u9;have u9:=au u9;subst u9;cases h;refine e9 (cr y.c (m*z) bT) (λi v k0 l=>?_) rfl;rw[gK]at l;split at l;.rename_i hin2;exact .inr ⟨hin2.1,l⟩
       .
        rename_i hout;left;have:i<m*z:=by omega
        exact⟨this,by omega,by rw[br];exact l⟩
      .
       split at h
       .
        rename_i o9 q0;cases h;obtain⟨p9,k2⟩:=qS q0;have p9:o9.length=m*z:=p9;refine e9 (cr .e 0 (o9++bT)) (λi v k0 l=>?_) rfl;rw[gK]at l;split at l
        .
         rw[jd]at l;rcases cO i o9.length with a0|a0;.rw[bJ a0]at l;obtain⟨k3,k4⟩:=k2 i v l;exact .inl ⟨by omega,k3,k4⟩
         .rw[bB a0,p9]at l;exact .inr ⟨by omega,l⟩
        .rw[Tr.kq]at l;cases l
       .cases h
     .cases h
   .cases h
  .cases h
 .cases v9;unfold VR at g;exact l9 none .cK g rfl (by unfold VR;rfl) h
 .cases v9;unfold VR at g;obtain⟨a,g⟩:=g;exact l9 (some a) .gO g rfl (by unfold VR;exact⟨a,rfl⟩) h
 .cases h
theorem LF(b:gH P cx)(d:eY ρ s.hp w){t g:TypeId}{i j:Operand}{a x:HV}{r:Rs}(h:iu cx s t g a x=some r)(A:VR ρ a (ev n F i))(B:VR ρ x (ev n F j)):fC P n F ρ s w (.call {callee:= .builtin .append,args:= #[i,j],argTypes:= #[t,g]}) r:=by
 unfold iu at h;split at h
 .
  rename_i C c;obtain⟨e,z,c⟩:=oM b c;obtain⟨x0,q,D⟩:=uD b c;simp only[aH]at h;split at h
  .
   rename_i y;split at h
   .
    rename_i z0 k m v u;split at h;.rename_i f;simp only[gL,bS]at f;obtain⟨y0,l,o,p⟩:=Mn b d y v B;exact G2 d z q u f h A l o p
    .cases h
   .cases h
  .cases h
 .cases h
end
section
variable{P:Program}{n:Nat}{F:dN}{ρ:Rn}{s:St}{w:World}{cx:Cx}
theorem Kt(r0:gH P cx)(A:eY ρ s.hp w){t z k m:Nat}{x:HV}{u:Value}{l:List HV}(hi:oy cx t x=true)(h:jg s z x=some (l,k))(x0:VR ρ x u)(q0:rT x k m=true):∃us,(Builtin.firstCells z (Nat.min k m) u).run P w= .ok us.toArray w/\dY ρ (l.take (Nat.min k m*z)) us/\(∀y,y∈us->y.oneCell'=true)/\∀v0:World,(Builtin.lenOf u).run P v0= .ok k v0:=by
 obtain⟨us,f,u0,f0⟩:=Mn r0 A hi h x0;have o0:Nat.min k m<=k:=sB _ _;have m0:∀y,y∈us.take (Nat.min k m*z)->y.oneCell'=true:=λy j0=>f.one y (eB j0);have r:us.length=k*z:=f.newsLen;refine⟨us.take (Nat.min k m*z),?_,PM _ u0,m0,f.len⟩;by_cases y0:∃b,x= .dH b
 .
  obtain⟨b,rfl⟩:=y0;have p0:k<=m:=by simpa [rT]using q0
  have n0:Nat.min k m=k:=gZ p0;rw[n0,<-r,bO];exact f.cells
 .
  have:∃g d,cellsOf s z x=some g/\lenOf x=some d/\g=l/\d=k:=by
   unfold jg at h;split at h;.exact absurd ⟨_,rfl⟩ y0
   .
    split at h;.rename_i g d i p;cases h;exact⟨_,_,i,p,rfl,rfl⟩
    .cases h
  obtain⟨g,d,i,p,rfl,rfl⟩:=this;obtain⟨w0,a,c,i0,e0,d0,c0,b0,h0,a0,g0⟩:=td A i p x0;have C:=f.cells;rw[i0]at C⊢;have z0:(us.take (Nat.min d m*z)).length=Nat.min d m*z:=by rw[aY,r];exact gZ (cq _ o0)
  rcases g0 with⟨rfl,rfl⟩|⟨b,o,rfl,B⟩
  .
   have t0:Nat.min 0 m=0:=gZ (aP _);have k0:us=[]:=by simpa using r
   subst k0;rw[t0,vb]
   cases a with
    |none=>exact run_firstCells_none w z 0 0 c
    |some q=>exact run_firstCells_some w z 0 q 0 c [] (by simp) λj v e=>by simp at e
  .
   have l0:us=w0:=by have:=run_firstCells_some (P:=P) w z d ⟨b,o,none⟩ d c w0 h0 (λj v e=>by rw[ql];exact B j v e);rw[C]at this;injection this with s0 h6;simpa using s0
   subst l0;exact run_firstCells_some w z (Nat.min d m) ⟨b,o,none⟩ d c _ z0 λj v e=>by rw[ql];have D:=gN e;rw[z0]at D;rw[fa,aE D]at e;exact B j v e
theorem Fb{t a:TypeId}{c e:Operand}{v:Value}{b:World}(h:∀ty,(Builtin.copy_ #[t,a] ty #[ev n F c,ev n F e]).run P w= .ok v b):iL P n F w (.call {callee:= .builtin .copy,args:= #[c,e],argTypes:= #[t,a]}) v b:=by refine⟨λd i p f g=>?_⟩;simp[execOp,resolve,invoke,builtin,h]
theorem RP(D:gH P cx)(C:eY ρ s.hp w){t x0:TypeId}{z w0:Operand}{a x:HV}{r:Rs}(h:s7 cx s t x0 a x=some r)(d:VR ρ a (ev n F z))(a0:VR ρ x (ev n F w0)):fC P n F ρ s w (.call {callee:= .builtin .copy,args:= #[z,w0],argTypes:= #[t,x0]}) r:=by
 unfold s7 at h;split at h
 .
  rename_i l0 z0;obtain⟨e,o0,z0⟩:=oM D z0;obtain⟨s9,k0,v9⟩:=uD D z0;obtain⟨i,r0,u9,p0,w9⟩:=k0.tC;simp only[aH]at h;split at h
  .
   rename_i c0;split at h
   .
    rename_i l k m h0 u;split at h
    .
     rename_i j0;obtain⟨n0,A,v0,u0,t0⟩:=Kt D C c0 h0 a0 j0;have m0:∀(b o f p:Nat)(q:RI)(g:St),ρ b=some q->ev n F z= .slice (some ⟨q.c,q.o+o,none⟩) m p->s.fD b o (l.take (Nat.min k m*l0.z))=some g->fC P n F ρ s w (.call {callee:= .builtin .copy,args:= #[z,w0],argTypes:= #[t,x0]}) (.val (.int .i64 (Int.ofNat (Nat.min k m))) g):=by intro b o f p q g y d v;obtain⟨d0,t9,y9,s0,x9⟩:=fG.fD C y v v0 u0;have y0:=tS v;have q0:=run_storeCells_cells (P:=P) q.c (q.o+o) n0 0 w (λj i0=>by rw[nC s0,hX (by omega)];rfl) (λj i0=>by simp[World.frozen?,s0]) u0;simp only[fh]at q0;intro _;refine⟨.int .i64 (Int.ofNat (Nat.min k m)),_,ρ,Fb λz9=>?_,by unfold VR;rfl,d0,y0.1,y0.2.1,y0.2.2.1⟩;simp only[Builtin.copy_,d];simp[run_underlying o0,t0,sizeOf,typeInfo,r0,p0,A,q0,goInt]
     split at h;.cases h
     .
      rename_i b o f;split at h;.rename_i g v;cases h;cases u;unfold VR at d;obtain⟨q,p,y,d,_⟩:=d;exact m0 b o 0 p q g y d v
      .cases h
     .
      rename_i b o f;split at h;.rename_i g v;cases h;cases u;unfold VR at d;obtain⟨q,p,y,d,_⟩:=d;exact m0 b o 0 p q g y d v
      .cases h
     .
      rename_i g0 f0 e0;cases h
      have:∃q c,ev n F z= .slice q 0 c/\m=0:=by
       cases a;case cK=>cases u;unfold VR at d;exact⟨_,_,d,rfl⟩
       case gO=>cases u;unfold VR at d;obtain⟨q,d⟩:=d;exact⟨_,_,d,rfl⟩
       case mj=>cases u;unfold VR at d;obtain⟨q,c,d,_⟩:=d;exact⟨_,_,d,rfl⟩
       case dH b=>exact absurd rfl (g0 b)
       case sl b o f=>exact absurd rfl (f0 b o f)
       case jz b o f=>exact absurd rfl (e0 b o f)
       all_goals cases u
      obtain⟨q,c,d,rfl⟩:=this;have B:Nat.min k 0=0:=iY (aP _);rw[B]at A;have b0:n0=[]:=by have:=fe v0;rw[B]at this;simpa using this
      subst b0;refine fC.pure C (u:= .int .i64 0) (Fb λz9=>?_) (by unfold VR;rfl);simp only[Builtin.copy_,d];cases q<;>simp[run_underlying o0,t0,sizeOf,typeInfo,r0,p0,B,A,storeCells,goInt]
    .cases h
   .cases h
  .cases h
 .cases h
theorem Po(C:gH P cx)(B:eY ρ s.hp w){t:TypeId}{l:Operand}{a:HV}{r:Rs}(h:oU cx s t a=some r)(f:VR ρ a (ev n F l)):fC P n F ρ s w (.call {callee:= .builtin .clear,args:= #[l],argTypes:= #[t]}) r:=by
 unfold oU at h;split at h
 .
  rename_i n0 u;obtain⟨e,x,u⟩:=oM C u;obtain⟨m,x0,y⟩:=uD C u;obtain⟨i,w0,s0,k0,l0⟩:=x0.tC;have z:∀q c,ev n F l= .slice q 0 c->fC P n F ρ s w (.call {callee:= .builtin .clear,args:= #[l],argTypes:= #[t]}) (.val .undef s):=by intro q c f;refine fC.pure B (u:=undef) ⟨λd q0 p y0 g=>?_⟩ (by unfold VR;rfl);cases q<;>simp[execOp,f,resolve,invoke,builtin,Builtin.clear_,run_underlying x,undef]
  split at h
  .
   rename_i b o k;split at h
   .
    rename_i j0 D;cases h;unfold VR at f;obtain⟨q,o0,t0,f,_⟩:=f;obtain⟨u0,i0,p0,A,m0⟩:=fG.fD B t0 D (rX (y ρ).1 k) (vq (y ρ).2 k);have v:=tS D;have z0:=run_storeCells_cells (P:=P) q.c (q.o+o) (List.replicate k m.cells.toList).flatten 0 w (λj v0=>by rw[nC A,hX (by omega)];rfl) (λj v0=>by simp[World.frozen?,A]) (vq (y ρ).2 k);simp only[fh]at z0;have r0:Builtin.zeroCells m.cells k=(List.replicate k m.cells.toList).flatten.toArray:=by have:=ph m.cells k;rw[<-this];rfl
    intro _;refine⟨undef,_,ρ,⟨λd q0 p y0 g=>?_⟩,by unfold VR;rfl,u0,v.1,v.2.1,v.2.2.1⟩
    cases k with
     |zero=>simp[execOp,f,resolve,invoke,builtin,Builtin.clear_,run_underlying x,undef,World.setCells]
     |succ k=>simp[execOp,f,resolve,invoke,builtin,Builtin.clear_,run_underlying x,zeroValue,typeInfo,w0,s0,r0,z0,undef]
   .cases h
  .cases h;unfold VR at f;exact z _ _ f
  .cases h;unfold VR at f;obtain⟨q,f⟩:=f;exact z _ _ f
  .cases h;unfold VR at f;obtain⟨q,c,f,_⟩:=f;exact z _ _ f
  .cases h
 .cases h
theorem zR {q q0 : IntKind} {k : Int} {v : HV} {u : Value} (hv : VR ρ v u) : ∀ {es es' : List (HV × HV)} {en : List MapEntry} (i : Nat) (born : Nat), hO ρ es en → vl q k v es = some es' →
    (Instr.findNow (.int q0) (.int q k) en i = some none ∧ hO ρ es' (en ++ [{ key := .int q k, val := u, born := born }])) ∨
    ∃ j e, i ≤ j ∧ Instr.findNow (.int q0) (.int q k) en i = some (some (j, e.val)) ∧ en[j - i]? = some e ∧ e.key = .int q k ∧ hO ρ es' (en.set (j - i) { e with key := .int q k, val := u })
  | [], es', en, i, born, hm, h => by
    unfold hO at hm
    subst hm
    cases h
    left
    refine ⟨rfl, ?_⟩
    unfold hO
    exact ⟨_, [], rfl, ⟨q, k, rfl⟩, by unfold VR; rfl, hv, by unfold hO; rfl⟩
  | (a, x) :: es, es', en, i, born, hm, h => by
    unfold hO at hm
    obtain ⟨e, en', rfl, ⟨q', b, rfl⟩, h2, h3, h4⟩ := hm
    unfold VR at h2
    unfold vl at h
    simp only [aH, bF] at h
    split at h
    · rename_i hq
      subst hq
      split at h
      · rename_i hk
        subst hk
        cases h
        right
        refine ⟨i, e, ar _, ?_, by simp, h2, ?_⟩
        · unfold Instr.findNow
          rw [h2]
          simp [Instr.sameNow]
        · rw [ee, mD]
          unfold hO
          exact ⟨_, en', rfl, ⟨q, k, rfl⟩, by unfold VR; rfl, hv, h4⟩
      · rename_i hk
        split at h
        · rename_i l hl
          cases h
          have hb : (k == b) = false := by simpa using hk
          have hstep : Instr.findNow (.int q0) (.int q k) (e :: en') i = Instr.findNow (.int q0) (.int q k) en' (i + 1) := by
            conv => lhs; unfold Instr.findNow
            rw [h2]
            simp only [Instr.sameNow, fY, hb]
          rcases zR hv (i + 1) born h4 hl with ⟨g1, g2⟩ | ⟨j, e', g0, g1, g2, g3, g4⟩
          · left
            refine ⟨hstep.trans g1, ?_⟩
            rw [List.cons_append]
            unfold hO
            exact ⟨e, _, rfl, ⟨q, b, rfl⟩, by unfold VR; exact h2, h3, g2⟩
          · right
            have : j - i = (j - (i + 1)) + 1 := by omega
            refine ⟨j, e', by omega, hstep.trans g1, by rw [this]; simpa using g2, g3, ?_⟩
            rw [this, List.set_cons_succ]
            unfold hO
            exact ⟨e, _, rfl, ⟨q, b, rfl⟩, by unfold VR; exact h2, h3, g4⟩
        · cases h
    · cases h
theorem Kf(r0:gH P cx)(s0:eY ρ s.hp w){t:TypeId}{x y z:Operand}{m i v:HV}{r:Rs}(h:pL cx s t m i v=some r)(u0:VR ρ m (ev n F x))(i0:VR ρ i (ev n F y))(j9:VR ρ v (ev n F z)):fC P n F ρ s w (.mapUpdate t x y z) r:=by
 unfold pL at h;split at h
 .
  rename_i e b q k q9;obtain⟨z9,h9,b0,q0⟩:=xN r0 q9;unfold VR at u0 i0;obtain⟨f,D,u0⟩:=u0;rw[aH]at h;split at h
  .
   split at h
   .
    rename_i w9 x0;obtain⟨A,y0,m0,v9⟩:=s0.map b w9 f x0 D;split at h
    .
     rename_i n0 p9;cases h;have f0:(getObj f.c).run P w= .ok (.map A y0) w:=by simp[getObj,Sem.run,m0]
     have j0:=oS m0
     have g0:∀(l:Array MapEntry)(u:Nat),hO ρ n0 l.toList->XB P n F w (.mapUpdate t x y z) {w with heap:=w.heap.setIfInBounds f.c (.map l u)}->fC P n F ρ s w (.mapUpdate t x y z) (.G6 ⟨s.nt,s.dE,s.hp.set b (.map n0),s.nx,s.lk,s.df⟩):=by
      intro l u s9 u9;have l9:({w with heap:=w.heap.setIfInBounds f.c (.map l u)}:World).heap[f.c]?=some (.map l u):=by simp[j0]
      have e0:∀c,c<w.heap.size->c≠f.c->({w with heap:=w.heap.setIfInBounds f.c (.map l u)}:World).heap[c]?=w.heap[c]?:=λc r0 C=>by simp only;rw[Array.getElem?_setIfInBounds,aG λe=>C e.symm]
      have C:∀i,i≠b->(s.hp.set b (.map n0)).ap i=s.hp.ap i:=λi a=>Tr.bW _ _ a;refine⟨_,u9,⟨?_,λ_ _=>rfl,⟨rfl,rfl,rfl,by simp,λc r0 t9=>e0 c r0 λe=>t9 ⟨b,_,f,x0,rfl,D,e.symm⟩⟩,?_,ar _⟩,rfl,rfl,rfl,rfl⟩
      .
       refine s0.step (b:=b) (λi a=>rfl) (tL.refl _) (by simp) (λi a o w0=>by rw[<-w0];exact(C i a).symm) ?_ ?_ ?_ ?_;.intro i o z0 a w0 v0 n9;refine e0 _ n9 λB=>?_;exact s0.inj b i _ o f z0 (λx=>a x.symm) x0 rfl (by rw[<-C i a];exact w0) D v0 B.symm
       .intro y z0 t0 v0;simp only[Tr.a8]at t0;cases t0
       .intro c9 z0 t0 v0;simp only[Tr.a8]at t0;cases t0;rw[D]at v0;cases v0;exact⟨l,u,l9,s9⟩
       .intro i o o' e9 r2 a w0 b9 a9 k9 d0;rw[D]at d0;cases d0;exactλB=>s0.inj b i _ o f e9 (λx=>a x.symm) x0 rfl (by rw[<-C i a];exact w0) D k9 B.symm
      .
       intro c r9;obtain⟨i,o,z0,g9,f9,y9,rfl⟩:=r9;left;by_cases a:i=b;.subst a;exact⟨i,_,z0,x0,rfl,y9,rfl⟩
       .exact⟨i,o,z0,by rw[<-C i a];exact g9,f9,y9,rfl⟩
     have c0:∀(l:Array MapEntry)(u:Nat),(setObj f.c (.map l u)).run P w= .ok () {w with heap:=w.heap.setIfInBounds f.c (.map l u)}:=λl u=>by simp[setObj,Sem.run,m0]
     rcases zR (q0:=h9) j9 0 y0 v9 p9 with⟨h0,p0⟩|⟨j,B,k0,h0,p0,i9,a0⟩
     .
      refine g0 (A.push {key:= .int q k,val:=ev n F z,born:=y0}) (y0+1) (by simpa using p0) ⟨λd d9 p x9 g=>?_⟩;have l0:(Instr.findKey z9 (.int q k) A.toList).run P w= .ok none w:=by simp[Instr.findKey,run_underlying q0,h0]
      simp[execOp,u0,i0,Instr.mapUpdate,run_underlying b0,f0,mo q0,l0,c0]
     .
      have l0:(Instr.findKey z9 (.int q k) A.toList).run P w= .ok (some (j,B.val)) w:=by simp[Instr.findKey,run_underlying q0,h0]
      rw[jd]at p0 a0;have o0:A[j]?=some B:=by simpa using p0
      have j0:j<A.size:=by
       rcases cO j A.size with h|h;.exact h
       .rw[sE h]at o0;cases o0
      have m9:(A.modify j λe=>{e with key:= .int q k,val:=ev n F z}).toList=A.toList.set j {B with key:= .int q k,val:=ev n F z}:=by
       apply nq;intro i;rw[kV,tw,gR];by_cases k0:j=i;.subst k0;rw[aE rfl,aE rfl,o0];simp[j0]
       .rw[aG k0,aG k0];simp
      refine g0 (A.modify j λe=>{e with key:= .int q k,val:=ev n F z}) y0 (by rw[m9];exact a0) ⟨λd d9 p x9 g=>?_⟩;have o9:(Instr.keyThatStays (.int q k) (.int q k)).run P w= .ok (.int q k) w:=by simp[Instr.keyThatStays,Instr.sameBits]
      simp[execOp,u0,i0,Instr.mapUpdate,run_underlying b0,f0,mo q0,l0,o0,i9,o9,c0]
    .cases h
   .cases h
  .cases h
 .cases h
end
section
variable{P:Program}{n:Nat}{F:dN}{ρ:Rn}{s:St}{w:World}{cx:Cx}
theorem bQ{k:HV->Option Rs}{x:Operand}{r:Rs}(h:fQ s k x=some r):∃v,s.ev x=some v/\k v=some r:=by
 unfold fQ at h;split at h;.rename_i v a;exact⟨v,a,h⟩
 .cases h
theorem fC.oQ{o:Op}{r:Rs}(c:eY ρ s.hp w)(h:∃v,r= .val v s/\∃u,iL P n F w o u w/\VR ρ v u):fC P n F ρ s w o r:=by obtain⟨v,rfl,u,a,b⟩:=h;exact fC.pure c a b
theorem Cz{xs:List Operand}{a:HV}(h:s.kg xs=some [a]):∃x,xs=[x]/\s.ev x=some a:=by
 cases xs with
  |nil=>cases h
  |cons x xs=>
  unfold St.kg at h
  cases c:s.ev x with
   |none=>rw[c]at h;cases h
   |some v=>
   rw[c]at h
   cases b:s.kg xs with
    |none=>rw[b]at h;cases h
    |some l=>
    rw[b]at h;cases h
    cases xs with
     |nil=>exact⟨x,rfl,c⟩
     |cons y d=>
     exfalso;unfold St.kg at b;split at b;.split at b<;>cases b
     .cases b
theorem Iv{xs:List Operand}{a b:HV}(h:s.kg xs=some [a,b]):∃x y,xs=[x,y]/\s.ev x=some a/\s.ev y=some b:=by cases xs with
 |nil=>cases h
 |cons x xs=>unfold St.kg at h;cases c:s.ev x with
 |none=>rw[c]at h;cases h
 |some v=>rw[c]at h;cases d:s.kg xs with
 |none=>rw[d]at h;cases h
 |some l=>rw[d]at h;cases h;obtain⟨y,rfl,e⟩:=Cz d;exact⟨x,y,rfl,c,e⟩
theorem IX(D:gH P cx)(f:eY ρ s.hp w)(o:iX ρ n s F){b:Builtin}{ts:List Nat}{xs:List Operand}{l:List HV}{r:Rs}(B:s.kg xs=some l)(h:fz cx s b ts l=some r):fC P n F ρ s w (.call {callee:= .builtin b,args:=xs.toArray,argTypes:=ts.toArray}) r:=by
 unfold fz at h;split at h
 .
  rename_i t v;obtain⟨x,rfl,c⟩:=Cz B;clear B;replace c:=bV o c;split at h
  .
   rename_i z u0;obtain⟨i,t0⟩:=D.ty u0;split at h;.rename_i k e C;cases h;have x0:=F1 (t0.sh.symm.trans C);unfold VR at c;refine fC.pure f (u:= .int .i64 0) ⟨λd e0 p s0 g=>?_⟩ (by unfold VR;rfl);simp[execOp,c,resolve,invoke,builtin,Builtin.len_,run_underlying x0,goInt]
   .
    rename_i k e b C;split at h
    .
     rename_i j m0;cases h;have x0:=F1 (t0.sh.symm.trans C);unfold VR at c;obtain⟨q,h0,c⟩:=c;obtain⟨A,r0,q0,p0⟩:=f.map b j q m0 h0
     have k0:∀{j:List (HV×HV)}{A:List MapEntry},hO ρ j A->A.length=j.length:=by intro j;induction j with
      |nil=>intro A h;unfold hO at h;rw[h];rfl
      |cons a j f0=>intro A h;unfold hO at h;obtain⟨e,d0,rfl,_,_,_,o0⟩:=h;simp[f0 o0]
     have g0:A.size=j.length:=by rw[<-k0 p0];simp
     refine fC.pure f (u:= .int .i64 (j.length:Int)) ⟨λd e0 p s0 g=>?_⟩ (by unfold VR;rfl);have l0:(getObj q.c).run P w= .ok (.map A r0) w:=by simp[getObj,Sem.run,q0]
     simp[execOp,c,resolve,invoke,builtin,Builtin.len_,run_underlying x0,goInt,l0,g0]
    .cases h
   .rename_i b C;cases h;exact fC.pure f (MQ D f c ⟨z,u0,.inr ⟨C,b,rfl⟩⟩ rfl) (by unfold VR;rfl)
   .cases h
   .
    rename_i c0 e C i0;split at h;.rename_i m j0;cases h;exact fC.pure f (MQ D f c ⟨z,u0,.inl ⟨e,C,λb n0=>i0 b n0⟩⟩ j0) (by unfold VR;rfl)
    .cases h
   .cases h
  .cases h
 .obtain⟨x,y,rfl,c,v0⟩:=Iv B;exact LF D f h (bV o c) (bV o v0)
 .obtain⟨x,y,rfl,c,v0⟩:=Iv B;exact RP D f h (bV o c) (bV o v0)
 .obtain⟨x,rfl,c⟩:=Cz B;exact Po D f h (bV o c)
 .
  split at h;.rename_i v w0;cases h;obtain⟨u,z0,y0⟩:=B2 (b:=false) (w:=w) (P:=P) (ts:=ts.toArray) o B w0;exact fC.pure f z0 y0
  .cases h
 .
  split at h;.rename_i v w0;cases h;obtain⟨u,z0,y0⟩:=B2 (b:=true) (w:=w) (P:=P) (ts:=ts.toArray) o B w0;exact fC.pure f z0 y0
  .cases h
 .cases h
theorem XG{op:UnOp}{t:TypeId}{x:Operand}{v:HV}{r:Rs}(h:Ah s op v=some r)(a:VR ρ v (ev n F x)):∃v,r= .val v s/\∃u,iL P n F w (.unOp op t x) u w/\VR ρ v u:=by
 unfold Ah at h;split at h;.cases h;unfold VR at a;exact⟨_,rfl,_,Sn a,by unfold VR;rfl⟩
 .rename_i k m;cases h;unfold VR at a;refine⟨_,rfl,.int k (k.wrap (0-m)),⟨λd c p b g=>?_⟩,by unfold VR;rw[rI];rfl⟩;simp[execOp,a,Op.unary,Op.intArith]
 .cases h
theorem CF(k:gH P cx)(i:eY ρ s.hp w)(e:iX ρ n s F){o:Op}{r:Rs}(h:lD cx s o=some r):fC P n F ρ s w o r:=by
 unfold lD at h;split at h;.obtain⟨v,a,h⟩:=bQ h;cases h;exact fC.pure i (PH rfl) (bV e a)
 .obtain⟨v,a,h⟩:=bQ h;cases h;exact fC.pure i (Jf rfl) (bV e a)
 .
  obtain⟨v,a,h⟩:=bQ h;have a:=bV e a;unfold qW at h;split at h
  .
   unfold VR at a;split at h;.rename_i u j;cases h;exact fC.pure i (Jc a rfl) (bV e j)
   .cases h
  .
   unfold VR at a;split at h;.rename_i u j;cases h;exact fC.pure i (Jd a rfl) (bV e j)
   .cases h
  .cases h
 .exact PD k i h
 .obtain⟨v,a,h⟩:=bQ h;exact Vd i h (bV e a)
 .
  split at h;.rename_i l x;exact Pr k i e x h
  .cases h
 .
  split at h;.rename_i l x;exact CP k i e x h
  .cases h
 .obtain⟨v,a,h⟩:=bQ h;exact fC.oQ i (Ic k i h (bV e a))
 .obtain⟨v,a,h⟩:=bQ h;obtain⟨u,j,h⟩:=bQ h;exact OA k i h (bV e a) (bV e j)
 .
  obtain⟨v,a,h⟩:=bQ h;have a:=bV e a;unfold wQ at h;split at h;.cases h;have t0:=a;unfold VR at t0;obtain⟨q,D,A⟩:=t0;exact fC.pure i (DU A) (by rw[A]at a;exact a)
  .cases h
 .
  obtain⟨v,a,h⟩:=bQ h;obtain⟨u,j,h⟩:=bQ h;split at h;.rename_i q D;cases h;obtain⟨z,B,x0⟩:=Ly (P:=P) (w:=w) k D (bV e a) (bV e j);exact fC.pure i B x0
  .cases h
 .obtain⟨v,a,h⟩:=bQ h;exact fC.oQ i (XG h (bV e a))
 .obtain⟨v,a,h⟩:=bQ h;exact fC.oQ i (IL k i h (bV e a))
 .
  rename_i f s0 u0;split at h
  .
   rename_i l w0 x;cases h;have v0:=mL e x;have w0:s0= #[]:=by apply ve;simpa using w0
   subst w0;refine fC.pure i (u:= .func (.func f) #[] (u0.toList.map (ev n F)).toArray) (PL (by apply ve;simp)) ?_;unfold VR;exact⟨_,rfl,v0⟩
  .cases h
 .exact H9 i h
 .obtain⟨v,a,h⟩:=bQ h;obtain⟨u,j,h⟩:=bQ h;exact DE k i h (bV e a) (bV e j)
 .
  split at h;.rename_i v l q m a x D q0;exact fC.oQ i (OE k i e h (bV e a) x D q0)
  .cases h
 .obtain⟨v,a,h⟩:=bQ h;exact fC.oQ i (Pc k h (bV e a))
 .obtain⟨v,a,h⟩:=bQ h;obtain⟨u,j,h⟩:=bQ h;exact fC.oQ i (K4 k h (bV e a) (bV e j))
 .obtain⟨v,a,h⟩:=bQ h;obtain⟨u,j,h⟩:=bQ h;exact fC.oQ i (O9 k h (bV e a) (bV e j))
 .obtain⟨v,a,h⟩:=bQ h;obtain⟨u,j,h⟩:=bQ h;exact fC.oQ i (KX k i h (bV e a) (bV e j))
 .obtain⟨v,a,h⟩:=bQ h;obtain⟨u,j,h⟩:=bQ h;obtain⟨z,p0,h⟩:=bQ h;exact Kf k i h (bV e a) (bV e j) (bV e p0)
 .
  obtain⟨v,a,h⟩:=bQ h;have a:=bV e a;unfold lV at h;split at h
  .
   split at h;.rename_i u j;cases h;unfold VR at a;obtain⟨z0,A,B⟩:=a;obtain⟨y,x0,r0⟩:=kw B _ u j;exact fC.pure i (G8 A (by simpa using x0)) r0
   .cases h
  .cases h
 .
  rename_i c;obtain⟨m0,y0,n0⟩:=c;split at h
  .
   rename_i b C;simp only at C;subst C;split at h;.rename_i l x;have:=IX (P:=P) k i e x h;simpa using this
   .cases h
  .
   rename_i f C;simp only at C;subst C;split at h
   .
    rename_i l x;obtain⟨v,a,h⟩:=bQ h;have a:=bV e a;have v0:=mL e x;unfold GS at h;split at h
    .
     rename_i g u0;cases h;unfold VR at a;obtain⟨z0,A,B⟩:=a;refine⟨y0.toList.map (ev n F)++z0,C4 v0 B,λd t p o0 l0=>?_⟩;have:y0.map (ev n F)++z0.toArray=(y0.toList.map (ev n F)++z0).toArray:=by apply ve;simp
     simp only[execOp,resolve,A,Deferred.ofValue,Sem.run_bind,Sem.run_pure,Result.andThen_ok,invoke];rw[<-this];simp
    .cases h
   .cases h
  .cases h
 .cases h
end
structure dc (s s' : St) : Prop where
  nx : s.nx ≤ s'.nx
  aL : ∀ b, b < s.nx → bw b s.lk = true → s'.hp.ap b = s.hp.ap b
  nt : s'.nt = s.nt
  lk : s'.lk = s.lk
  df : s'.df = s.df
  tT : ∀ b o, s'.hp.ap b = some o → pe o = false → s.hp.ap b = some o
  pi : ∀ b, s'.nx ≤ b → s.hp.ap b = none → s'.hp.ap b = none
theorem rK{hp:Tr Obj}{n:Nat}{x:Obj}(h:pe x=true):∀b o,(hp.set n x).ap b=some o->pe o=false->hp.ap b=some o:=by
 intro b o a c;rw[Tr.dg]at a;split at a;.cases a;rw[h]at c;cases c
 .exact a
theorem qg{hp:Tr Obj}{n:Nat}{x:Obj}{b:Nat}(h:b≠n)(a:hp.ap b=none):(hp.set n x).ap b=none:=by rw[Tr.bW _ _ h];exact a
theorem dc.refl(s:St):dc s s:=⟨ar _,λ_ _ _=>rfl,rfl,rfl,rfl,λ_ _ h _=>h,λ_ _ h=>h⟩
theorem dc.trans{a b c:St}(h:dc a b)(k:dc b c):dc a c:=⟨aU h.nx k.nx,λx g e=>by rw[k.aL x (aQ g h.nx) (by rw[h.lk];exact e),h.aL x g e],k.nt.trans h.nt,k.lk.trans h.lk,k.df.trans h.df,λb o d f=>h.tT b o (k.tT b o d f) f,λb d i=>k.pi b d (h.pi b (aU k.nx d) i)⟩
def Fr(s:St):Prop:=∀b,s.nx<=b->s.hp.ap b=none
theorem dc.fr{s c:St}(g:dc s c)(h:Fr s):Fr c:=λb a=>g.pi b a (h b (aU g.nx a))
section
variable{s s':St}{cx:Cx}
theorem dc.bT(s:St)(z:Nat)(l:List HV):dc s (s.bT z l).2:=⟨dz _,λb a _=>Tr.bW _ _ (by omega),rfl,rfl,rfl,rK rfl,λb a=>qg (by have a:s.nx+1<=b:=a;omega)⟩
theorem dc.put(s:St)(d:Option Nat)(v:HV):dc s (s.put d v):=by
 cases d with
  |none=>exact dc.refl s
  |some d=>
  unfold St.put;simp only[aH];split;.exact⟨ar _,λ_ _ _=>rfl,rfl,rfl,rfl,λ_ _ h _=>h,λ_ _ h=>h⟩
  .exact dc.refl s
theorem Ct{b c:Nat}(h:s.gV b=true)(a:bw c s.lk=true):c≠b:=by rintro rfl;unfold St.gV at h;rw[a]at h;cases h
theorem dc.fD{b o:Nat}{l:List HV}(h:s.fD b o l=some s'):dc s s':=by
 unfold St.fD at h;split at h
 .
  rw[aH]at h;split at h;.rename_i d;cases h;simp only[ae]at d;exact⟨ar _,λc _ f=>Tr.bW _ _ (Ct d.2.1 f),rfl,rfl,rfl,rK rfl,λc _ e=>qg (by rintro rfl;rename_i a _;unfold St.cn at a;rw[e]at a;cases a) e⟩
  .cases h
 .cases h
def LV(s:St):Rs->Prop| .val _ s'=>dc s s'| .G6 s'=>dc s s'| .call _ _=>True
theorem EL{b z k:Nat}{c:Tr HV}(h:s.gV b=true):dc s ⟨s.nt,s.dE,(s.hp.nU b).set s.nx (.cn ⟨true,z,k,c⟩),Nat.add s.nx 1,s.lk,s.df⟩:=⟨dz _,λx a d=>by simp only;rw[Tr.bW _ _ (by omega),Tr.gU,aG (Ct h d)],rfl,rfl,rfl,λx o a f=>by
 have:=rK (hp:=s.hp.nU b) rfl x o a f;rw[Tr.gU]at this;split at this;.cases this
 .exact this,λx a e=>qg (by have a:s.nx+1<=x:=a;omega) (by rw[Tr.gU];split<;>first|rfl|exact e)⟩
theorem CU{z k:Nat}{a:HV}{bT:List HV}{r:Rs}(h:gW s z a bT k=some r):LV s r:=by
 unfold gW at h;split at h
 .
  split at h
  .
   simp only[aH]at h;split at h
   .
    rename_i b;simp only[ae]at b;split at h
    .
     split at h;.rename_i c;cases h;exact dc.fD c
     .cases h
    .
     split at h
     .
      split at h;.cases h;exact EL b.2.1
      .
       split at h;.cases h;exact EL b.2.1
       .cases h
     .cases h
   .cases h
  .cases h
 .
  rw[aH]at h;split at h;.cases h;exact dc.refl s
  .cases h;exact dc.bT s _ _
 .
  rw[aH]at h;split at h;.cases h;exact dc.refl s
  .cases h;exact dc.bT s _ _
 .cases h
theorem AF{b:Builtin}{ts:List Nat}{l:List HV}{r:Rs}(h:fz cx s b ts l=some r):LV s r:=by
 unfold fz at h;split at h
 .
  split at h
  .
   split at h;.cases h;exact dc.refl s
   .
    split at h;.cases h;exact dc.refl s
    .cases h
   .cases h;exact dc.refl s
   .cases h
   .
    split at h;.cases h;exact dc.refl s
    .cases h
   .cases h
  .cases h
 .
  unfold iu at h;split at h
  .
   rw[aH]at h;split at h
   .
    split at h
    .
     rw[aH]at h;split at h;.exact CU h
     .cases h
    .cases h
   .cases h
  .cases h
 .
  unfold s7 at h;split at h
  .
   rw[aH]at h;split at h
   .
    split at h
    .
     rw[aH]at h;split at h
     .
      split at h;.cases h
      .
       split at h;.rename_i a;cases h;exact dc.fD a
       .cases h
      .
       split at h;.rename_i a;cases h;exact dc.fD a
       .cases h
      .cases h;exact dc.refl s
     .cases h
    .cases h
   .cases h
  .cases h
 .
  unfold oU at h;split at h
  .
   split at h
   .
    split at h;.rename_i a;cases h;exact dc.fD a
    .cases h
   .cases h;exact dc.refl s
   .cases h;exact dc.refl s
   .cases h;exact dc.refl s
   .cases h
  .cases h
 .
  split at h;.cases h;exact dc.refl s
  .cases h
 .
  split at h;.cases h;exact dc.refl s
  .cases h
 .cases h
theorem s6{o:Op}{r:Rs}(h:lD cx s o=some r):LV s r:=by
 unfold lD at h;split at h;.obtain⟨v,a,h⟩:=bQ h;cases h;exact dc.refl s
 .obtain⟨v,a,h⟩:=bQ h;cases h;exact dc.refl s
 .
  obtain⟨v,a,h⟩:=bQ h;unfold qW at h;split at h
  .
   split at h;.cases h;exact dc.refl s
   .cases h
  .
   split at h;.cases h;exact dc.refl s
   .cases h
  .cases h
 .
  unfold nT at h;split at h
  .
   split at h
   .
    split at h;.cases h;exact dc.bT s _ _
    .cases h
   .cases h
  .cases h
 .
  obtain⟨v,a,h⟩:=bQ h;unfold s8 at h;split at h;.cases h;exact dc.bT s _ _
  .cases h
 .
  split at h
  .
   unfold la at h;split at h
   .
    split at h
    .
     split at h
     .
      split at h;.cases h;exact dc.refl s
      .cases h
     .
      split at h
      .
       split at h;.cases h;exact dc.refl s
       .cases h
      .cases h
     .cases h
    .cases h
   .cases h
  .cases h
 .
  split at h
  .
   unfold fg at h;split at h
   .
    rw[aH]at h;split at h
    .
     split at h;.cases h;exact dc.bT s _ _
     .cases h
    .cases h
   .cases h
  .cases h
 .
  obtain⟨v,a,h⟩:=bQ h;unfold iQ at h;split at h
  .
   split at h
   .
    split at h
    .
     rw[aH]at h;split at h
     .
      split at h;.cases h;exact dc.refl s
      .cases h
     .
      split at h;.cases h;exact dc.refl s
      .cases h
    .cases h
   .cases h
  .cases h
 .
  obtain⟨v,a,h⟩:=bQ h;obtain⟨u,d,h⟩:=bQ h;unfold qj at h;split at h
  .
   split at h
   .
    rw[aH]at h;split at h
    .
     split at h;.rename_i j;cases h;exact dc.fD j
     .cases h
    .cases h
   .cases h
  .cases h
 .
  obtain⟨v,a,h⟩:=bQ h;unfold wQ at h;split at h;.cases h;exact dc.refl s
  .cases h
 .
  obtain⟨v,a,h⟩:=bQ h;obtain⟨u,d,h⟩:=bQ h;split at h;.cases h;exact dc.refl s
  .cases h
 .
  obtain⟨v,a,h⟩:=bQ h;unfold Ah at h;split at h;.cases h;exact dc.refl s
  .cases h;exact dc.refl s
  .cases h
 .
  obtain⟨v,a,h⟩:=bQ h;unfold gx at h;split at h
  .
   split at h;.cases h;exact dc.refl s
   .cases h;exact dc.refl s
   .
    split at h
    .
     split at h
     .
      split at h
      .
       split at h
       .
        split at h;.cases h;exact dc.refl s
        .cases h
       .cases h
      .cases h
     .cases h
    .cases h
   .cases h
  .cases h
 .
  split at h;.cases h;exact dc.refl s
  .cases h
 .unfold CH at h;cases h;exact⟨dz _,λb e _=>Tr.bW _ _ (by omega),rfl,rfl,rfl,rK rfl,λb e=>qg (by have e:s.nx+1<=b:=e;omega)⟩
 .
  obtain⟨v,a,h⟩:=bQ h;obtain⟨u,d,h⟩:=bQ h;unfold iC at h;split at h
  .
   rw[aH]at h;split at h;.cases h;exact dc.bT s _ _
   .cases h
  .cases h
 .
  split at h
  .
   unfold eG at h;split at h
   .
    simp only at h;split at h
    .
     split at h
     .
      split at h;.cases h;exact dc.refl s
      .cases h
     .cases h
    .
     split at h
     .
      rw[aH]at h;split at h;.cases h;exact dc.refl s
      .cases h
     .cases h
    .
     split at h;.cases h;exact dc.refl s
     .cases h
    .
     split at h
     .
      rw[aH]at h;split at h;.cases h;exact dc.refl s
      .cases h
     .cases h
    .
     split at h
     .
      rw[aH]at h;split at h;.cases h;exact dc.refl s
      .cases h
     .cases h
    .cases h
   .cases h
  .cases h
 .
  obtain⟨v,a,h⟩:=bQ h;unfold mN at h;split at h
  .
   split at h
   .
    split at h
    .
     split at h;.cases h;exact dc.refl s
     .cases h
    .cases h
   .cases h
  .cases h
 .
  obtain⟨v,a,h⟩:=bQ h;obtain⟨u,d,h⟩:=bQ h;unfold fJ at h;split at h
  .
   split at h
   .
    split at h
    .
     split at h
     .
      rw[aH]at h;split at h;.cases h;exact dc.refl s
      .cases h
     .cases h
    .
     split at h
     .
      rw[aH]at h;split at h;.cases h;exact dc.refl s
      .cases h
     .cases h
    .
     split at h
     .
      rw[aH]at h;split at h;.cases h;exact dc.refl s
      .cases h
     .cases h
    .cases h
   .cases h
  .cases h
 .
  obtain⟨v,a,h⟩:=bQ h;obtain⟨u,d,h⟩:=bQ h;unfold mM at h;split at h
  .
   split at h
   .
    split at h
    .
     split at h
     .
      split at h;.cases h;exact dc.refl s
      .cases h
     .cases h
    .cases h
   .
    split at h
    .
     split at h
     .
      split at h
      .
       rw[aH]at h;split at h
       .
        split at h;.cases h;exact dc.refl s
        .cases h
       .cases h
      .cases h
     .cases h
    .cases h
   .cases h
  .cases h
 .
  obtain⟨v,a,h⟩:=bQ h;obtain⟨u,d,h⟩:=bQ h;unfold oC at h;split at h
  .
   split at h;.cases h;exact dc.refl s
   .
    split at h;.cases h;exact dc.refl s
    .cases h
   .cases h
  .cases h
 .
  obtain⟨v,a,h⟩:=bQ h;obtain⟨u,d,h⟩:=bQ h;obtain⟨z,k,h⟩:=bQ h;unfold pL at h;split at h
  .
   rw[aH]at h;split at h
   .
    rename_i f;split at h
    .
     split at h;.cases h;exact⟨ar _,λc _ g=>Tr.bW _ _ (Ct f g),rfl,rfl,rfl,rK rfl,λc _ i=>qg (by rintro rfl;simp_all) i⟩
     .cases h
    .cases h
   .cases h
  .cases h
 .
  obtain⟨v,a,h⟩:=bQ h;unfold lV at h;split at h
  .
   split at h;.cases h;exact dc.refl s
   .cases h
  .cases h
 .
  split at h
  .
   split at h;.exact AF h
   .cases h
  .
   split at h
   .
    obtain⟨v,a,h⟩:=bQ h;unfold GS at h;split at h;.cases h;trivial
    .cases h
   .cases h
  .cases h
 .cases h
end
def iJ(a:od):Prop:=∀c s e s',a c s=some (e,s')->dc s s'
section
variable{cx:Cx}{ih:od}
theorem CN(hi:iJ ih){f:FuncId}{args:List HV}{s s':St}{v:HV}(h:call cx ih f args s=some (v,s')):dc s s':=by
 unfold call at h;split at h
 .
  unfold yO at h;split at h
  .
   rw[aH]at h;split at h;.cases h;exact dc.bT _ _ _
   .cases h
  .cases h;exact dc.refl _
  .cases h
 .
  split at h
  .
   split at h
   .
    rw[aH]at h;split at h
    .
     split at h;.cases h
     .
      rename_i c b a;split at h;.cases h;have:=hi _ _ _ _ a;exact⟨this.nx,this.aL,rfl,rfl,rfl,this.tT,this.pi⟩
      .cases h
     .cases h
    .cases h
   .cases h
  .cases h
theorem lJ(hi:iJ ih){bG:Array Oper}{o:Oper}{s s':St}(h:gQ cx ih bG s o=some s'):dc s s':=by
 unfold gQ at h;split at h
 .
  split at h;.rename_i v b a;cases h;exact(s6 a:dc s b).trans (dc.put _ _ _)
  .rename_i b a;cases h;exact(s6 a:dc s b).trans (dc.put _ _ _)
  .
   split at h;.rename_i a;cases h;exact(CN hi a).trans (dc.put _ _ _)
   .cases h
  .cases h
 .cases h;exact dc.put _ _ _
 .cases h
theorem sL(hi:iJ ih){bG:Array Oper}:∀{l:List Oper}{s s':St},jM cx ih bG s l=some s'->dc s s'
 |[],s,s',h=>by cases h;exact dc.refl s
 |o::l,s,s',h=>by
  unfold jM at h;split at h;.rename_i b a;exact(lJ hi a).trans (sL hi h)
  .cases h
theorem um{s:St}:∀{l:List Operand}{L:List Nat},ip s l=some L->∀b,bw b s.lk=true->bw b L=true
 |[],L,h,b,c=>by cases h;exact c
 |a::l,L,h,b,c=>by
  unfold ip at h;split at h;.rename_i e d;have ih:=um d b c;split at h<;>cases h<;>first|exact ih|(unfold bw;rw[ih,ww])
  .cases h
theorem ub(hi:iJ ih){bG:Array Oper}:∀{l:List Item}{s s':St},ga cx ih bG s l=some s'->dc s s'
 |[],s,s',h=>by cases h;exact dc.refl s
 |x::l,s,s',h=>by
  unfold ga at h;split at h
  .
   rename_i i a;rw[aH]at h;split at h;.cases h
   .
    split at h;.rename_i f e;have g:=lJ hi e;have:dc s (s.take x.o f):=⟨g.nx,λb c d=>g.aL b c (um a b d),rfl,rfl,rfl,g.tT,g.pi⟩;exact this.trans (ub hi h)
    .cases h
  .cases h
theorem HA(hi:iJ ih):iJ (yx cx ih):=by
 intro c s e s' h;unfold yx at h;split at h;.cases h;exact dc.refl s
 .
  split at h;.rename_i a;cases h;exact sL hi a
  .cases h
 .
  split at h
  .
   split at h;.rename_i a;cases h;exact ub hi a
   .cases h
  .cases h
 .
  split at h;.rename_i b a;exact(hi _ _ _ _ a).trans (hi _ _ _ _ h)
  .exact hi _ _ _ _ h
 .
  split at h;.exact hi _ _ _ _ h
  .exact hi _ _ _ _ h
  .cases h
 .
  split at h;.rename_i a;rw[aH]at h;split at h<;>(cases h;exact hi _ _ _ _ a)
  .exact hi _ _ _ _ h
 .
  split at h;.rename_i b a;exact(hi _ _ _ _ a).trans (hi _ _ _ _ h)
  .exact hi _ _ _ _ h
 .cases h;exact dc.refl s
 .cases h;exact dc.refl s
 .cases h
theorem vo:∀k,iJ (run cx k)
 |0=>λ_ _ _ _ h=>by cases h
 |k+1=>HA (vo k)
end
section
variable{P:Program}{n:Nat}{bG:Array Oper}{rest:List Oper}{k:dN->World->Prop}{F:dN}{w w':World}{o:Oper}{v:Value}
theorem PQ(e:Region.wanted o (yielded bG (fr n F).tmps)=false)(c:Wk.LW P n bG rest k (rM F o.dst undef) w):Wk.LW P n bG (o::rest) k F w:=by unfold Wk.LW at*;intro a d;refine wpList_step λf b=>?_;rw[e];simp only[ec,ft];rw[xP];exact b _ _ (c a d)
theorem Jj(f:Region.wanted o (yielded bG (fr n F).tmps)=true)(h:(execOp (ev n F) o).run P w= .ok (.value v) w')(d:Wk.LW P n bG rest k (rM F o.dst v) w'):Wk.LW P n bG (o::rest) k F w:=by unfold Wk.LW at*;intro b e;refine wpList_step λa c=>?_;rw[f];simp only[fY];unfold Oper.wp;rw[qh,h];show a ((fr n F).put o.dst v) w';rw[xP];exact c _ _ (d b e)
theorem SM(f:Region.wanted o (yielded bG (fr n F).tmps)=true)(h:(execOp (ev n F) o).run P w= .ok .skip w')(d:Wk.LW P n bG rest k (rM F o.dst undef) w'):Wk.LW P n bG (o::rest) k F w:=by unfold Wk.LW at*;intro b e;refine wpList_step λa c=>?_;rw[f];simp only[fY];unfold Oper.wp;rw[qh,h];show a ((fr n F).put o.dst undef) w';rw[xP];exact c _ _ (d b e)
theorem PR{f:FuncId}{args:Array Value}{R:Value->World->Prop}(l:Region.wanted o (yielded bG (fr n F).tmps)=true)(h:(execOp (ev n F) o).run P w= .ok (.enter f args) w)(g:zF P f args w R)(i:∀v w',R v w'->Wk.LW P n bG rest k (rM F o.dst v) w'):Wk.LW P n bG (o::rest) k F w:=by unfold Wk.LW at*;intro b j;refine wpList_step λa c=>?_;rw[l];simp only[fY];unfold Oper.wp;rw[qh,h];refine Calls.mono g ?_;rintro e w'⟨v,rfl,d⟩;show a ((fr n F).put o.dst v) w';rw[xP];exact c _ _ (i v w' d b j)
end
section
variable{P:Program}{n:Nat}{F:dN}{ρ ρ':Rn}{s s':St}{w w':World}{cx:Cx}{ih:od}
theorem oD(s:St)(d:Option Nat)(v:HV):(s.put d v).nx=s.nx:=by cases d with
 |none=>rfl
 |some d=>unfold St.put;simp only[aH];split<;>rfl
theorem oE(s:St)(d:Option Nat)(v:HV):(s.put d v).hp=s.hp:=by cases d with
 |none=>rfl
 |some d=>unfold St.put;simp only[aH];split<;>rfl
theorem SB{v:HV}{u:Value}(h:VR ρ v u)(h1:∀b,v≠.bool b)(h2:v≠.any):∀b,u≠.bool b:=by
 intro b a;subst a;cases v;case any=>exact h2 rfl
 case bool c=>exact h1 c rfl
 all_goals unfold VR at h;simp[undef]at h
theorem vV{bG:Array Oper}{o:Oper}{b:Bool}(i:iX ρ n s F)(h:takes s bG o=some b):Region.wanted o (yielded bG (fr n F).tmps)=b:=by
 unfold takes at h;unfold Region.wanted;split at h;.rename_i e;cases h;rw[e]
 .
  rename_i j y e;rw[e];simp only;split at h
  .
   rename_i g f;have d:=i.2 g;split at h;.rename_i c m;cases h;rw[m]at d;unfold VR at d;rw[Ht f d];cases c<;>cases y<;>rfl
   .cases h
   .
    rename_i r t;cases h;have u:=SB d (λb a=>r b a) λl=>t l
    have x:yielded bG (fr n F).tmps j=none:=by
     unfold yielded;rw[f];simp only[Option.bind_some];have p:=qh n F;have q:∀b,(fr n F).tmps[g]?≠some (.bool b):=by intro b a;apply u b;rw[<-p];show(fr n F).tmps.getD g undef=_;rw[li,a];rfl
     split;.rename_i b a;exact absurd a (q b)
     .rfl
    rw[x];rfl
  .cases h
theorem Bg(s:St)(d t:Nat)(v:HV):(s.put (some d) v).tmp t=if d<s.nt/\t=d then v else s.tmp t:=by
 unfold St.put;simp only[aH];split
 .
  rename_i h;have h:=ku.1 h;unfold St.tmp;simp only[Tr.dg];by_cases a:t=d;.rw[aE a,aE ⟨h,a⟩]
  .rw[aG a,aG λx=>a x.2]
 .rename_i h;rw[aG λx=>h (ku.2 x.1)]
theorem M8(n:Nat)(F:dN)(d t:Nat)(u:Value):ev n (iy F d u) (.tmp t)=if d<n/\t=d then u else ev n F (.tmp t):=by
 show(bif Nat.blt t n then iy F d u t else undef)=if d<n/\t=d then u else bif Nat.blt t n then F t else undef;by_cases b:t=d
 .
  subst b;by_cases a:t<n;.rw[aE ⟨a,rfl⟩,ku.2 a,Ou];rfl
  .
   have:Nat.blt t n=false:=by cases c:Nat.blt t n with
    |false=>rfl
    |true=>exact absurd (ku.1 c) a
   rw[aG λx=>a x.1,this];rfl
 .rw[aG λx=>b x.2,mW _ _ b]
theorem iX.put(h:iX ρ n s F)(d:Option Nat){v:HV}{u:Value}(a:VR ρ v u):iX ρ n (s.put d v) (rM F d u):=by
 cases d with
  |none=>exact h
  |some d=>
  refine⟨?_,λt=>?_⟩;.rw[<-h.1];unfold St.put;simp only[aH];split<;>rfl
  .
   show VR ρ _ (ev n (iy F d u) (.tmp t));rw[Bg,M8,h.1];split;.exact a
   .exact h.2 t
theorem iX.ext(h:iX ρ n s F)(e:tL ρ ρ')(h1:s'.nt=s.nt)(h2:s'.dE=s.dE)(a:s'.df=s.df):iX ρ' n s' F:=by
 refine⟨h1.trans h.1,λt=>?_⟩;have:s'.tmp t=s.tmp t:=by unfold St.tmp;rw[h2,a]
 rw[this];exact VR.ext e _ _ (h.2 t)
def Zf(K:Am):Ex->dN->World->Prop| .cS=>K.cS| .ret=>K.ret| .exit a=>Wk.xG a K.uy
def uU(P:Program)(ih:od):Prop:=∀c s e s',ih c s=some (e,s')->∀(n:Nat)(ρ:Rn)(F:dN)(w:World)(b:Am),iX ρ n s F->eY ρ s.hp w->Fr s->kx ρ s.nx s'.nx->(∀ρ' a w',iX ρ' n s' a->fG ρ s w ρ' s' w'->Zf b e a w')->W P n c b F w
def C9(ρ:Rn)(s:St)(w:World)(s':St)(v:HV)(u:Value)(w':World):Prop:=∃ρ',VR ρ' v u/\fG ρ s w ρ' s' w'
theorem CB:∀(l:List HV)(i t:Nat)(T:Tr HV),(lr i l T).ap t=if i<=t/\t<i+l.length then l[t-i]? else T.ap t
 |[],i,t,T=>by rw[aG (by simp only[gp];omega)];rfl
 |v::a,i,t,T=>by
  show(lr (i+1) a (T.set i v)).ap t=_;rw[CB a,Tr.dg,bx];by_cases h:t=i;.subst h;rw[aG (by omega),aE rfl,aE (by omega),ee];rfl
  .
   rw[aG h];by_cases b:i+1<=t/\t<i+1+a.length
   .
    rw[aE b,aE (by omega)];have:t-i=t-(i+1)+1:=by omega
    rw[this,dP]
   .rw[aG b,aG (by omega)]
theorem I1{args:List HV}{us:List Value}{m:Nat}{hp:Tr Obj}{nx:Nat}{lk:List Nat}(h:dY ρ args us)(f:args.length<=m):iX ρ m ⟨m,lr 0 args .e,hp,nx,lk,.undef⟩ (oI us.toArray):=by
 refine⟨rfl,λt=>?_⟩;have e:=fe h;unfold St.tmp;simp only[CB,aP,true_and,br,jd,Tr.kq];show VR ρ _ (bif Nat.blt t m then oI us.toArray t else undef);by_cases a:t<args.length
 .
  rw[aE a,ku.2 (by omega)];rw[G a];obtain⟨u,b,c⟩:=kw h t _ (G a);have:oI us.toArray t=u:=by unfold oI;simp[li,b]
  simp only[fR,this];exact c
 .
  rw[aG a];have d:oI us.toArray t=undef:=by unfold oI;have:us[t]?=none:=fA (by omega);simp[li,this]
  simp only[d];unfold VR;cases Nat.blt t m<;>rfl
theorem Gh{g:ResultVar->Sem Value}(z:∀t,g (.tmp t)=pure ((fr n F).tmps.getD t undef))(A:∀a t,g (.cell a t)=do loadVar t (<-asAddr ((fr n F).tmps.getD a undef)))(r:gH P cx)(p:eY ρ s.hp w)(d:iX ρ n s F):∀{f:List ResultVar}{l:List HV},pY cx s f=some l->∃us,(f.mapM g).run P w= .ok us w/\dY ρ l us
 |[],l,h=>by cases h;exact⟨[],by simp,by unfold dY;rfl⟩
 | .tmp t::f,l,h=>by
  unfold pY at h;split at h;.rename_i s0 B;cases h;obtain⟨us,i,j⟩:=Gh z A r p d B;have x:(fr n F).tmps.getD t undef=ev n F (.tmp t):=congrFun (qh n F) (.tmp t);refine⟨ev n F (.tmp t)::us,?_,by unfold dY;exact⟨_,us,rfl,d.2 t,j⟩⟩;simp only[tI,z,Sem.run_bind,Sem.run_pure,Result.andThen_ok,i,x]
  .cases h
 | .cell a t::f,l,h=>by
  unfold pY at h;split at h
  .
   rename_i u r0 e;split at h
   .
    rename_i s0 B;cases h;obtain⟨us,i,j⟩:=Gh z A r p d B;have x:(fr n F).tmps.getD a undef=ev n F (.tmp a):=congrFun (qh n F) (.tmp a);obtain⟨v,t0,y,z0,y0⟩:=Ic (P:=P) (n:=n) (F:=F) (w:=w) r p e (d.2 a) (x:= .tmp a);cases t0
    have u0:∃q,ev n F (.tmp a)= .pointer (some q):=by
     have:=d.2 a;unfold iQ at e;split at e;.rename_i b o w0;rw[w0]at this;unfold VR at this;obtain⟨q,_,h⟩:=this;exact⟨_,h⟩
     .cases e
    obtain⟨q,C⟩:=u0;have c:=z0.run none 0 "" #[] none;simp only[execOp,C,Instr.loadAt,Instr.sureAddr,Sem.run_bind,Sem.run_pure,Result.andThen_ok]at c
    have v0:(loadVar t q).run P w= .ok y w:=by cases D:(loadVar t q).run P w with
     |ok a b=>rw[D]at c;simp only[Result.andThen_ok]at c;injection c with m x0;injection m with m;rw[m,x0]
     |halt a b=>rw[D]at c;cases c
    refine⟨y::us,?_,by unfold dY;exact⟨_,us,rfl,y0,j⟩⟩;simp only[tI,A,Sem.run_bind,Sem.run_pure,Result.andThen_ok,x,C,asAddr,v0,i]
   .cases h
  .cases h
theorem HO (hc : gH P cx) (hH : eY ρ s.hp w) (hE : iX ρ n s F) {rs : Array ResultVar} {l : List HV} (h : pY cx s rs.toList = some l) : ∃ u, Vv P rs n F w u ∧ VR ρ (one l) u := by
  have hres : ∃ us, (∀ fn : Func, fn.results = rs → (results fn (fr n F).tmps).run P w = .ok (if h : us.toArray.size = 1 then us.toArray[0] else .tuple us.toArray) w) ∧ dY ρ l us := by
    let g0 : ResultVar → Sem Value := fun x => match x with
      | .tmp t => pure ((fr n F).tmps.getD t undef)
      | .cell a t => do loadVar t (← asAddr ((fr n F).tmps.getD a undef))
    obtain ⟨us, h1, h2⟩ := Gh (P := P) (g := g0) (fun _ => rfl) (fun _ _ => rfl) hc hH hE h
    have key : ∀ g : ResultVar → Sem Value, (∀ t, g (.tmp t) = pure ((fr n F).tmps.getD t undef)) → (∀ a t, g (.cell a t) = (do loadVar t (← asAddr ((fr n F).tmps.getD a undef)))) → (rs.toList.mapM g).run P w = .ok us w := by
      intro g q1 q2
      have : g = g0 := funext fun x => by cases x <;> first | exact q1 _ | exact q2 _ _
      rw [this]; exact h1
    refine ⟨us, fun fn hr => ?_, h2⟩
    unfold results
    rw [hr]
    simp only [Sem.run_bind, Array.mapM_eq_mapM_toList, Sem.run_map]
    rw [key]
    · rfl
    · intro t; rfl
    · intro a t; rfl
  obtain ⟨us, h1, h2⟩ := hres
  have hl := fe h2
  refine ⟨if h : us.toArray.size = 1 then us.toArray[0] else .tuple us.toArray, h1, ?_⟩
  · match l, us, h2, hl with
    | [], [], _, _ => show VR ρ (.nf []) (.tuple #[]); unfold VR; exact ⟨[], rfl, by unfold dY; rfl⟩
    | [a], [u], h2, _ =>
      unfold dY at h2
      obtain ⟨u', us', h3, h4, h5⟩ := h2
      cases h3
      exact h4
    | a :: b :: l, u :: u2 :: us, h2, _ =>
      show VR ρ (.nf (a :: b :: l)) _
      simp only [qz, bx]
      rw [dif_neg (by omega)]
      unfold VR
      exact ⟨_, rfl, h2⟩
theorem IW(j:gH P cx)(hi:uU P ih)(hg:iJ ih){f:FuncId}{args:List HV}{v:HV}{us:List Value}(h:call cx ih f args s=some (v,s'))(y:eY ρ s.hp w)(y0:Fr s)(z:kx ρ s.nx s'.nx)(t:dY ρ args us):(∃u w',(callFunc f us.toArray).run P w= .ok (.value u) w'/\C9 ρ s w s' v u w')\/(callFunc f us.toArray).run P w= .ok (.enter f us.toArray) w/\zF P f us.toArray w (C9 ρ s w s' v):=by
 unfold call at h;split at h
 .
  rename_i q v0;rcases j.ext f q v0 args s s' v ρ w us h y z t with⟨u,w',ρ',m,p,z0⟩|h;.exact .inl ⟨u,w',m,ρ',p,z0⟩
  .exact .inr h
 .
  split at h
  .
   rename_i a B;have C:=j.fn f a B;have w0:=j.nm f a B;split at h
   .
    rename_i c A;rw[aH]at h;split at h
    .
     rename_i D;simp only[bS]at D;right;have s0:=fe t;refine⟨?_,?_⟩
     .
      have:(a.name== "runtime.NumGoroutine")=false:=w0;have r:¬a.name= "runtime.NumGoroutine" :=by simpa using this
      simp[callFunc,Sem.run,C,r,A,program]
     .
      split at h;.cases h
      .
       rename_i e g r u0;split at h
       .
        rename_i l x0;cases h;refine L0 C A rfl rfl (by simp;omega) ?_;have x:∀ρ' d w',iX ρ' a.ntmps g d->fG ρ ⟨a.ntmps,lr 0 args .e,s.hp,s.nx,s.lk,.undef⟩ w ρ' g w'->∃u,Vv P a.results a.ntmps d w' u/\C9 ρ s w ⟨s.nt,s.dE,g.hp,g.nx,s.lk,s.df⟩ (one l) u w':=by intro ρ' d w' i b;obtain⟨u,m,p⟩:=HO (P:=P) j b.rY i x0;exact⟨u,m,ρ',p,⟨b.rY,b.ug,b.kp,b.dr,b.nx⟩⟩
        refine hi c _ e g u0 a.ntmps ρ _ w _ (I1 t D) y y0 z ?_;intro ρ' d w' i b
        cases e with
         |cS=>exact x ρ' d w' i b
         |ret=>exact x ρ' d w' i b
         |exit t0=>exact(r t0 rfl).elim
       .cases h
      .cases h
    .cases h
   .cases h
  .cases h
theorem yy(x:gH P cx)(hi:uU P ih)(hg:iJ ih){bG:Array Oper}{o:Oper}{rest:List Oper}{k:dN->World->Prop}(h:gQ cx ih bG s o=some s')(j:iX ρ n s F)(r:eY ρ s.hp w)(C:takes s bG o=some true->∀f args,lD cx s o.op=some (.call f args)->Fr s)(m:kx ρ s.nx s'.nx)(K:∀ρ' u w',iX ρ' n s' (rM F o.dst u)->fG ρ s w ρ' s' w'->Wk.LW P n bG rest k (rM F o.dst u) w'):Wk.LW P n bG (o::rest) k F w:=by
 unfold gQ at h;split at h
 .
  rename_i y;have p:=vV j y;split at h
  .
   rename_i v c l;cases h;have D:=CF (P:=P) (w:=w) x r j l;have d:=oD c o.dst v;have e:=oE c o.dst v;rw[d]at m;obtain⟨u,w',ρ',q,t,b,i,g,B⟩:=D m;refine Jj p (q.run _ _ _ _ _) (K ρ' _ w' ?_ ?_);.exact(j.ext (b.ext m) i g (s6 l:dc s c).df).put _ t
   .exact⟨by rw[e];exact b.rY,by rw[d];exact b.ug,b.kp,by rw[e];exact b.dr,by rw[d];exact b.nx⟩
  .rename_i c l;cases h;obtain⟨w',q,b,i,g,B,z0⟩:=CF (P:=P) (w:=w) x r j l;have d:=oD c o.dst .undef;have e:=oE c o.dst .undef;refine SM p (q.run _ _ _ _ _) (K ρ _ w' ((j.ext (tL.refl _) i g (s6 l:dc s c).df).put _ (by unfold VR;rfl)) ?_);exact⟨by rw[e];exact b.rY,by rw[d];exact b.ug,b.kp,by rw[e];exact b.dr,by rw[d];exact b.nx⟩
  .
   rename_i f args l;obtain⟨y0,q,t⟩:=CF (P:=P) (w:=w) x r j l;split at h
   .
    rename_i v c a;cases h;have d:=oD c o.dst v;have e:=oE c o.dst v;rw[d]at m
    have A:c.nt=s.nt/\c.dE=s.dE:=by
     unfold call at a;split at a
     .
      unfold yO at a;split at a
      .
       rw[aH]at a;split at a;.cases a;exact⟨rfl,rfl⟩
       .cases a
      .cases a;exact⟨rfl,rfl⟩
      .cases a
     .
      split at a
      .
       split at a
       .
        rw[aH]at a;split at a
        .
         split at a;.cases a
         .
          split at a;.cases a;exact⟨rfl,rfl⟩
          .cases a
         .cases a
        .cases a
       .cases a
      .cases a
    have z:∀u w',C9 ρ s w c v u w'->Wk.LW P n bG rest k (rM F o.dst u) w':=by rintro u w'⟨ρ',i,g⟩;refine K ρ' _ w' ((j.ext (g.ext m) A.1 A.2 (CN hg a).df).put _ i) ?_;exact⟨by rw[e];exact g.rY,by rw[d];exact g.ug,g.kp,by rw[e];exact g.dr,by rw[d];exact g.nx⟩
    rcases IW x hi hg a r (C y _ _ l) m q with⟨u,w',b,i⟩|⟨b,i⟩;.exact Jj p ((t _ _ _ _ _).trans b) (z u w' i)
    .exact PR p ((t _ _ _ _ _).trans b) i z
   .cases h
  .cases h
 .rename_i y;have p:=vV j y;cases h;refine PQ p (K ρ _ w (j.put _ (by unfold VR;rfl)) ?_);have d:=oD s o.dst .undef;have e:=oE s o.dst .undef;exact⟨by rw[e];exact r,λ_ _=>rfl,AK.refl _ _,by rw[e];exactλ_ h=> .inl h,by rw[d];exact ar _⟩
 .cases h
theorem BC(i:gH P cx)(hi:uU P ih)(hg:iJ ih){bG:Array Oper}{k:dN->World->Prop}:∀{l:List Oper}{s s':St}{ρ:Rn}{F:dN}{w:World},jM cx ih bG s l=some s'->iX ρ n s F->eY ρ s.hp w->Fr s->kx ρ s.nx s'.nx->(∀ρ' g w',iX ρ' n s' g->fG ρ s w ρ' s' w'->k g w')->Wk.LW P n bG l k F w
 |[],s,s',ρ,F,w,h,b,d,c,e,a=>by cases h;exact Hc (a ρ F w b (fG.refl d))
 |o::l,s,s',ρ,F,w,h,b,d,c,e,a=>by
  unfold jM at h;split at h;.rename_i z j;have p:=lJ hg j;have q:=sL hg h;refine yy i hi hg j b d (λ_ _ _ _=>c) (e.sub (ar _) q.nx) λC A B r f=>?_;exact BC i hi hg h r f.rY (p.fr c) (f.undef e) λy m x t u=>a y m x t (f.trans u)
  .cases h
end
theorem qf(m i:Nat):dk m i=m.testBit i:=by
 unfold dk uO;rw[Nat.testBit_eq_decide_div_mod_eq];show Nat.beq (m/2^i%2) 1=_;by_cases h:m/2^i%2=1;.rw[h];simp
 .rw[aX h];cases a:Nat.beq (m/2^i%2) 1 with
  |false=>rfl
  |true=>exact absurd (au a) h
theorem nO(a b i:Nat):dk (Nat.land a b) i=(dk a i&&dk b i):=by simp only[qf];exact Nat.testBit_and a b i
theorem lU(a b i:Nat):dk (Nat.lor a b) i=(dk a i||dk b i):=by simp only[qf];exact Nat.testBit_or a b i
theorem qP(i j:Nat):dk (uO i) j=true↔i=j:=by rw[qf];unfold uO;show(2^i).testBit j=true↔_;rw[Nat.testBit_two_pow];simp
theorem GI(n i:Nat):dk (Nat.sub (uO n) 1) i=true↔i<n:=by rw[qf];unfold uO;show(2^n-1).testBit i=true↔_;rw[Nat.testBit_two_pow_sub_one];simp
theorem sU(i:Nat):dk 0 i=false:=by rw[qf];simp
theorem tY{a b:Nat}(h:sub a b=true){i:Nat}(hi:dk a i=true):dk b i=true:=by unfold sub at h;have h:=au h;rw[<-h,nO]at hi;simp only[ae]at hi;exact hi.2
structure TV (T : Tr Nat) (i : Nat) (es : List Edge) (m0 m : Nat) : Prop where
  mono : ∀ j, dk m0 j = true → dk m j = true
  Nd : ∀ e, e ∈ es → Region.binds .any e = true → e.on < i
  of : ∀ j, dk m j = true → dk m0 j = true ∨ ∃ e, e ∈ es ∧ Region.binds .any e = true ∧ (e.on = j ∨ dk ((T.ap e.on).getD 0) j = true)
theorem zx{T:Tr Nat}{i:Nat}:∀{q:List Edge}{g m:Nat},CW T i q g=some m->TV T i q g m
 |[],g,m,h=>by cases h;exact⟨λ_ h=>h,λ_ h=>(by cases h),λ_ h=> .inl h⟩
 |e::r,g,m,h=>by
  unfold CW at h;split at h
  .
   rename_i f;obtain⟨k,l,n⟩:=zx h;refine⟨k,λa b c=>?_,λj d=>?_⟩
   .
    rcases co.1 b with rfl|b;.rw[f]at c;cases c
    .exact l a b c
   .
    rcases n j d with h|⟨a,o,p⟩;.exact .inl h
    .exact .inr ⟨a,cX _ o,p⟩
  .
   rename_i f;rw[aH]at h;split at h
   .
    rename_i s;obtain⟨k,l,n⟩:=zx h;refine⟨λj d=>k j (by rw[lU,d];rfl),λa b c=>?_,λj d=>?_⟩
    .
     rcases co.1 b with rfl|b;.exact ku.1 s
     .exact l a b c
    .
     rcases n j d with h|⟨a,o,p⟩
     .
      rw[lU,lU,ff,ff]at h;rcases h with h|h|h;.exact .inl h
      .exact .inr ⟨e,bZ,f,.inl ((qP _ _).1 h)⟩
      .exact .inr ⟨e,bZ,f,.inr h⟩
     .exact .inr ⟨a,cX _ o,p⟩
   .cases h
theorem CV:∀{r:List Oper}{i:Nat}{T a:Tr Nat},I2 r i T=some a->(∀j,j<i->a.ap j=T.ap j)/\∀(k:Nat)(o:Oper),r[k]?=some o->∃m,a.ap (i+k)=some m/\TV a (i+k) o.after.toList 0 m
 |[],i,T,a,h=>by cases h;exact⟨λ_ _=>rfl,λk o b=>by simp at b⟩
 |o::r,i,T,a,h=>by
  unfold I2 at h;split at h
  .
   rename_i m u;obtain⟨l,t⟩:=CV h;have n:∀j,j<i->a.ap j=T.ap j:=λj c=>by rw[l j (qw c),Tr.bW _ _ (by omega)]
   refine⟨n,λk v b=>?_⟩
   cases k with
    |zero=>
    simp at b;subst b;refine⟨m,by rw[fh,l i (bf i),Tr.a8],?_⟩;obtain⟨p,d,q⟩:=zx u;refine⟨p,d,λj c=>?_⟩;rcases q j c with h|⟨e,f,g,s⟩;.exact .inl h
    .exact .inr ⟨e,f,g,by rw[n e.on (d e f g)];exact s⟩
    |succ k=>simp at b;have:=t k v b;rw[show i+(k+1)=Nat.add i 1+k by show _=i+1+k;omega];exact this
  .cases h
theorem I3{bG:List Oper}{T:Tr Nat}(h:I2 bG 0 .e=some T){S:Array Bool}(q:yn bG S):∀(i:Nat)(o:Oper),bG[i]?=some o->(∀e∈o.after.toList,Region.binds .any e=true->S.getD e.on false=true)->∀j,dk ((T.ap i).getD 0) j=true->S.getD j false=true:=by
 intro i
 induction i using Nat.strongRecOn with
  |_ i v=>
  intro o l s j g;obtain⟨m,d,b⟩:=(CV h).2 i o l;rw[br]at d b;rw[d]at g;rcases b.of j g with a|⟨e,a,f,c⟩;.rw[sU]at a;cases a
  .
   have u:=b.Nd e a f;have n:=s e a f;rcases c with rfl|c;.exact n
   .
    have k:e.on<bG.length:=by have:=gN l;omega
    exact v e.on u _ (G k) (λp t r=>q e.on _ (G k) n p t r) j c
def mE(e:Nat)(r:List (Nat×List Nat))(q j:Nat):Prop:=dk e j=true\/∃(a:Nat)(x:Nat×List Nat),a<q/\r[a]?=some x/\x.1=j
theorem pU{e i q j:Nat}{lk:List Nat}{r:List (Nat×List Nat)}:mE e ((i,lk)::r) (q+1) j↔mE (Nat.lor e (uO i)) r q j:=by
 unfold mE;rw[lU,ff,qP];constructor
 ·
  rintro(h|⟨b,x,d,a,c⟩);·exact .inl (.inl h)
  ·cases b with
   |zero=>simp at a;subst a;exact .inl (.inr c)
   |succ b=>simp at a;exact .inr ⟨b,x,by omega,a,c⟩
 ·
  rintro((h|h)|⟨b,x,d,a,c⟩);·exact .inl h
  ·exact .inr ⟨0,(i,lk),by omega,rfl,h⟩
  ·exact .inr ⟨b+1,x,by omega,by simpa using a,c⟩
theorem B3:∀{l:List Nat}{j:Nat},dk (Gu l) j=true->j∈l
 |[],j,h=>by have:dk 0 j=true:=h;rw[sU]at this;cases this
 |a::l,j,h=>by
  have h:dk (Nat.lor (uO a) (Gu l)) j=true:=h;rw[lU,ff,qP]at h;rcases h with rfl|h;.exact bZ
  .exact cX _ (B3 h)
theorem zZ{p:Op->Bool}:∀{l:List Oper}{i k:Nat}{o:Oper},l[k]?=some o->p o.op=true->dk (me p l i) (i+k)=true
 |[],i,k,o,h,b=>by simp at h
 |a::l,i,k,o,h,b=>by show dk (Nat.lor _ (me p l (i+1))) _=true;rw[lU,ff];cases k with
  |zero=>simp at h;subst h;left;rw[b];exact(qP _ _).2 (fh i).symm
  |succ k=>simp at h;right;rw[show i+(k+1)=i+1+k by omega];exact zZ h b
theorem Ac{p:PC}:∀{r:List (Nat×List Nat)}{e:Nat},sV p e r=true→(∀j,j<p.bG.length→mE e r r.length j)∧∀(q:Nat)(x:Nat×List Nat),r[q]?=some x→x.1<p.bG.length∧¬mE e r q x.1∧(∀j,dk (p.ob x.1) j=true→mE e r q j)∧(dk p.ch x.1=true→∀j,mE e r q j→(dk p.ch j=true→dk (p.ob x.1) j=true)∧(dk p.fl j=true→dk (p.ob x.1) j=true)∧(dk p.ld j=true→dk (p.ob x.1) j=true∨j∈x.2))∧(dk p.ld x.1=true→∀j,mE e r q j→dk p.ch j=true→dk (p.ob x.1) j=true)
 |[],e,h=>by have h:=au (show Nat.beq e (Nat.sub (uO p.bG.length) 1)=true from h);subst h;exact⟨fun j a=> .inl ((GI _ _).2 a),fun q x b=>by simp at b⟩
 |(i,z0)::r,e,h=>by
  unfold sV at h;simp only[ae,ff,ju]at h;obtain⟨n,o,s,c,d,t⟩:=h;obtain⟨l,m⟩:=Ac t;refine⟨fun j a=>pU.2 (l j a),fun q x b=>?_⟩
  cases q with
   |zero=>
   simp at b;subst b
   have g:∀j,mE e ((i,z0)::r) 0 j↔dk e j=true:=fun j=>⟨fun h=>by
    rcases h with h|⟨y0,x,h,_⟩;·exact h
    ·omega,.inl⟩
   refine⟨ku.1 n,?_,fun j a=>(g j).2 (tY s a),fun f j a=>?_,fun y j a w=>?_⟩;·rw[g];intro k;rw[o]at k;cases k
   ·
    have a:=(g j).1 a;rcases c with c|⟨c,u,v⟩;·rw[f]at c;cases c
    ·refine⟨fun b=>tY c (by rw[nO,a,b];rfl),fun b=>tY u (by rw[nO,a,b];rfl),fun b=>?_⟩;have:=tY v (i:=j) (by rw[nO,a,b];rfl);rw[lU,ff]at this;exact this.imp id B3
   ·
    have a:=(g j).1 a;rcases d with d|d;·rw[y]at d;cases d
    ·exact tY d (by rw[nO,a,w];rfl)
   |succ q=>simp at b;obtain⟨z,A,B,C,D⟩:=m q x b;exact⟨z,fun h=>A (pU.1 h),fun j a=>pU.2 (B j a),fun f j a=>C f j (pU.1 a),fun f j a=>D f j (pU.1 a)⟩
theorem CX{bG:List Oper}:∀{l:List Nat}{c:List Operand},G4 bG l=some c->∀j,j∈l->∃(o:Oper)(a:Operand),bG[j]?=some o/\m7 o.op=some a/\a∈c
 |[],c,h,j,b=>by cases b
 |a::l,c,h,j,b=>by
  unfold G4 at h;split at h
  .
   rename_i o k;split at h
   .
    rename_i x m;split at h
    .
     rename_i p i;cases h;rcases co.1 b with rfl|b;.exact⟨o,x,k,m,bZ⟩
     .obtain⟨n,d,e,f,g⟩:=CX i j b;exact⟨n,d,e,f,cX _ g⟩
    .cases h
   .cases h
  .cases h
theorem zY{bG:List Oper}:∀{l:List (Nat×List Nat)}{c:List Item},xE bG l=some c->c.length=l.length/\∀(q:Nat)(x:Item),c[q]?=some x->∃lk,l[q]?=some (x.i,lk)/\bG[x.i]?=some x.o/\∀j,j∈lk->∃(o:Oper)(a:Operand),bG[j]?=some o/\m7 o.op=some a/\a∈x.lk
 |[],c,h=>by cases h;exact⟨rfl,λq x b=>by simp at b⟩
 |(i,lk)::l,c,h=>by
  unfold xE at h;split at h
  .
   rename_i o n;split at h
   .
    rename_i r k;split at h
    .rename_i s m;cases h;obtain⟨d,e⟩:=zY m;refine⟨by simp[d],λq x b=>?_⟩;cases q with
     |zero=>simp at b;subst b;exact⟨lk,rfl,n,CX k⟩
     |succ q=>simp at b;obtain⟨p,f,g⟩:=e q x b;exact⟨p,by simpa using f,g⟩
    .cases h
   .cases h
  .cases h
theorem nr:∀{r:List Oper}{i:Nat}{e W':Tr Nat},tR r i e=some W'->(∀d j,e.ap d=some j->W'.ap d=some j)/\∀(k:Nat)(o:Oper)(d:Nat),r[k]?=some o->o.dst=some d->W'.ap d=some (i+k)
 |[],i,e,W',h=>by cases h;exact⟨λ_ _ h=>h,λk o d a=>by simp at a⟩
 |o::r,i,e,W',h=>by
  unfold tR at h;split at h
  .
   rename_i d l;split at h;.cases h
   .
    rename_i p;obtain⟨f,g⟩:=nr h;refine⟨λc j m=>f c j ?_,λk n c a b=>?_⟩;.rw[Tr.bW _ _ ?_];exact m;rintro rfl;rw[p]at m;cases m
    .cases k with
     |zero=>simp at a;subst a;rw[l]at b;cases b;exact f _ _ (Tr.a8 _ _ _)
     |succ k=>simp at a;rw[show i+(k+1)=Nat.add i 1+k by show _=i+1+k;omega];exact g k n c a b
  .rename_i l;obtain⟨f,g⟩:=nr h;refine⟨f,λk n c a b=>?_⟩;cases k with
   |zero=>simp at a;subst a;rw[l]at b;cases b
   |succ k=>simp at a;rw[show i+(k+1)=Nat.add i 1+k by show _=i+1+k;omega];exact g k n c a b
theorem xq{p:PC}{d:Tr Nat}{i:Nat}:∀{l:List Operand},pZ p d i l=true->∀t,Operand.tmp t∈l->∀j,d.ap t=some j->j=i\/dk (p.ob i) j=true\/dk (p.ob j) i=true
 |[],h,t,f,j,e=>by cases f
 |x::l,h,t,f,j,e=>by
  have g:pZ p d i l=true/\(x= .tmp t->j=i\/dk (p.ob i) j=true\/dk (p.ob j) i=true):=by cases x with
   |tmp u=>unfold pZ at h;rw[ae]at h;refine⟨h.2,λb=>?_⟩;cases b;have a:=h.1;rw[e]at a;simp only[ff]at a;exact a.imp au id
   |const c=>exact⟨h,λb=>by cases b⟩
   |func c=>exact⟨h,λb=>by cases b⟩
   |_ c=>exact⟨h,λb=>by cases b⟩
  rcases co.1 f with a|a;.exact g.2 a.symm
  .exact xq g.1 t a j e
theorem oL{p:PC}{c:Tr Nat}:∀{r:List Oper}{i:Nat},xl p c r i=true->∀(k:Nat)(o:Oper),r[k]?=some o->ut o.op=true/\Il p (i+k) o.guard=true/\pZ p c (i+k) o.op.operands.toList=true/\yw p c (i+k) (m7 o.op)=true
 |[],i,h,k,o,b=>by simp at b
 |a::r,i,h,k,o,b=>by unfold xl at h;simp only[ae]at h;obtain⟨d,e,f,g,j⟩:=h;cases k with
  |zero=>simp at b;subst b;exact⟨d,e,f,g⟩
  |succ k=>simp at b;rw[show i+(k+1)=Nat.add i 1+k by show _=i+1+k;omega];exact oL j k o b
structure pC (bG : List Oper) (its : List Item) (A : Nat → Nat → Prop) : Prop where
  all : ∀ i, i < bG.length → ∃ (q : Nat) (x : Item), its[q]? = some x ∧ x.i = i
  op : ∀ (q : Nat) (x : Item), its[q]? = some x → bG[x.i]? = some x.o
  inj : ∀ (q q' : Nat) (x x' : Item), its[q]? = some x → its[q']? = some x' → x.i = x'.i → q = q'
  nX : ∀ (q : Nat) (x : Item), its[q]? = some x → ∀ j, A x.i j → ∃ (q' : Nat) (x' : Item), q' < q ∧ its[q']? = some x' ∧ x'.i = j
  Nd : ∀ (i : Nat) (o : Oper), bG[i]? = some o → ∀ e ∈ o.after.toList, Region.binds .any e = true → e.on < i
  ob : ∀ S : Array Bool, yn bG S → ∀ (i : Nat) (o : Oper), bG[i]? = some o → (∀ e ∈ o.after.toList, Region.binds .any e = true → S.getD e.on false = true) → ∀ j, A i j → S.getD j false = true
  ch : ∀ (q : Nat) (x : Item), its[q]? = some x → fX x.o.op = true → ∀ (q' : Nat) (x' : Item), q' < q → its[q']? = some x' → (fX x'.o.op = true ∨ sj x'.o.op = true → A x.i x'.i) ∧ (qN x'.o.op = true → A x.i x'.i ∨ ∃ a, m7 x'.o.op = some a ∧ a ∈ x.lk)
  ld : ∀ (q : Nat) (x : Item), its[q]? = some x → qN x.o.op = true → ∀ (q' : Nat) (x' : Item), q' < q → its[q']? = some x' → fX x'.o.op = true → A x.i x'.i
  Me : ∀ (i j : Nat) (o o' : Oper) (d : Nat), bG[i]? = some o → bG[j]? = some o' → o.dst = some d → o'.dst = some d → i = j
  Ri : ∀ (i : Nat) (o : Oper), bG[i]? = some o → ut o.op = true
  reads : ∀ (i : Nat) (o : Oper) (t : Nat), bG[i]? = some o → Operand.tmp t ∈ o.op.operands.toList → ∀ (j : Nat) (o' : Oper), bG[j]? = some o' → o'.dst = some t → j = i ∨ A i j ∨ A j i
  guard : ∀ (i : Nat) (o : Oper) (j : Nat) (w : Bool), bG[i]? = some o → o.guard = some (j, w) → A i j
  T8 : ∀ (i : Nat) (o : Oper) (t : Nat), bG[i]? = some o → m7 o.op = some (.tmp t) → ∀ (j : Nat) (o' : Oper), bG[j]? = some o' → o'.dst = some t → A i j
theorem KD{bG:List Oper}{C:List Item}(h:oF bG=some C):∃A,pC bG C A:=by
 unfold oF at h;split at h
 ·
  rename_i j0 g0;split at h
  ·
   rename_i k9 r0;rw[aH]at h;split at h
   ·
    rename_i B;rw[ae]at B;generalize s0:(⟨bG,j0,me fX bG 0,me sj bG 0,me qN bG 0⟩:PC)=p at h B;generalize FT p (EJ qN bG 0) 0 (EJ fX bG 0)=l at h B;have c0:p.bG=bG:=by rw[←s0]
    have b0:∀i,p.ob i=(j0.ap i).getD 0:=fun i=>by rw[←s0];rfl
    have p0:p.ch=me fX bG 0:=by rw[←s0]
    have a0:p.fl=me sj bG 0:=by rw[←s0]
    have i0:p.ld=me qN bG 0:=by rw[←s0]
    obtain⟨h0,w0⟩:=Ac B.1;rw[c0]at h0 w0;obtain⟨m9,v⟩:=zY h
    have m0:=fun q j=>show mE 0 l q j↔∃(b:Nat)(x:Nat×List Nat),b<q∧l[b]?=some x∧x.1=j from⟨fun h=>by
     rcases h with h|h;·rw[sU]at h;cases h
     ·exact h,.inr⟩
    have e0:∀(b:Nat)(y:Nat×List Nat),l[b]?=some y→∃x:Item,C[b]?=some x∧x.i=y.1:=fun b y f0=>by
     have u:b<C.length:=by rw[m9];exact gN f0
     obtain⟨D,f,_⟩:=v b _ (G u);rw[f0]at f;cases f;exact⟨_,G u,rfl⟩
    have k0:∀(b q:Nat)(c:Item),b<q→C[b]?=some c→mE 0 l q c.i:=fun b q c u n=>by obtain⟨D,f,_⟩:=v b c n;exact(m0 q _).2 ⟨b,_,u,f,rfl⟩
    have y0:∀(l0:Op→Bool)(q:Nat)(x:Item),C[q]?=some x→l0 x.o.op=true→dk (me l0 bG 0) x.i=true:=fun l0 q x k r9=>by obtain⟨D,_,r,_⟩:=v q x k;have:=zZ (i:=0) r r9;rwa [br]at this
    refine⟨fun i j=>dk (p.ob i) j=true,?_,?_,?_,?_,?_,?_,?_,?_,?_,?_,?_,?_,?_⟩;·intro i t9;obtain⟨q,y,_,r,g⟩:=(m0 _ _).1 (h0 i t9);obtain⟨x,z0,v0⟩:=e0 q y r;exact⟨q,x,z0,v0.trans g⟩
    ·intro q x k;obtain⟨D,_,r,_⟩:=v q x k;exact r
    ·
     have d0:∀(q b:Nat)(x c:Item),b<q→C[q]?=some x→C[b]?=some c→x.i≠c.i:=fun q b x c u k n z=>by obtain⟨D,f,_⟩:=v q x k;exact(w0 q _ f).2.1 (by rw[show(x.i,D).1=c.i from z];exact k0 b q c u n)
     intro q b x c k n z;rcases nl q b with h|h|h;·exact absurd z.symm (d0 b q c x h n k)
     ·exact h
     ·exact absurd z (d0 q b x c h k n)
    ·intro q x k j q0;obtain⟨D,f,_⟩:=v q x k;obtain⟨b,y,r,g,z0⟩:=(m0 _ _).1 ((w0 q _ f).2.2.1 j q0);obtain⟨c,v0,o0⟩:=e0 b y g;exact⟨b,c,r,v0,o0.trans z0⟩
    ·intro i o s e z w9;obtain⟨m,f,r⟩:=(CV g0).2 i o s;rw[br]at r;exact r.Nd e z w9
    ·intro l9 y9 i o s z j q0;rw[b0]at q0;exact I3 g0 y9 i o s z j q0
    ·
     intro q x k n0 b c u n;obtain⟨D,f,r,g⟩:=v q x k;obtain⟨p9,o9,n9⟩:=(w0 q _ f).2.2.2.1 (by rw[p0];exact y0 fX q x k n0) c.i (k0 b q c u n);refine⟨fun h=>?_,fun h=>?_⟩
     ·
      rcases h with h|h;·exact p9 (by rw[p0];exact y0 _ b c n h)
      ·exact o9 (by rw[a0];exact y0 _ b c n h)
     ·
      rcases n9 (by rw[i0];exact y0 _ b c n h)with h|h;·exact .inl h
      ·obtain⟨x0,a,z0,v0,o0⟩:=g _ h;obtain⟨_,_,z9,_⟩:=v b c n;rw[z9]at z0;cases z0;exact .inr ⟨a,v0,o0⟩
    ·intro q x k s9 b c u n n0;obtain⟨D,f,_⟩:=v q x k;exact(w0 q _ f).2.2.2.2 (by rw[i0];exact y0 _ q x k s9) c.i (k0 b q c u n) (by rw[p0];exact y0 _ b c n n0)
    ·intro i j o x0 d s t0 u0 v9;have f:=(nr r0).2 i o d s u0;have r:=(nr r0).2 j x0 d t0 v9;rw[f]at r;simp only[eP]at r;omega
    ·intro i o s;exact(oL B.2 i o s).1
    ·intro i o t s q9 j x0 t0 u0;obtain⟨_,_,g,_⟩:=oL B.2 i o s;have f:=(nr r0).2 j x0 t t0 u0;rw[br]at f g;exact xq g t q9 j f
    ·intro i o j w s u9;obtain⟨_,g,_⟩:=oL B.2 i o s;rw[u9,br]at g;exact g
    ·intro i o t s x9 j x0 t0 u0;obtain⟨_,_,_,g⟩:=oL B.2 i o s;have f:=(nr r0).2 j x0 t t0 u0;rw[x9,br]at g;rw[br]at f;unfold yw at g;simp only[f]at g;exact g
   ·cases h
  ·cases h
 ·cases h
def St.at(s:St)(h2:Tr Obj):St:=⟨s.nt,s.dE,h2,s.nx,s.lk,s.df⟩
def St.Q2(s:St)(X:Obj):St:=⟨s.nt,s.dE,s.hp.set s.nx X,Nat.add s.nx 1,s.lk,s.df⟩
inductive Ji(fl:Bool)(s:St)(h2:Tr Obj):Rs->Rs->Prop|xn(v:HV):Ji fl s h2 (.val v s) (.val v (s.at h2))|bT(v:HV)(X:Obj)(h:fl=true):Ji fl s h2 (.val v (s.Q2 X)) (.val v ((s.at h2).Q2 X))
def Rs.to(s:St):Rs->Rs| .val v _=> .val v s|_=> .val .undef s
section
variable{cx:Cx}{s:St}{h2:Tr Obj}{r:Rs}
theorem mf{fl:Bool}{f1 f2:Option Rs}(a:f2=f1.map (Rs.to (s.at h2)))(b:f1=f1.map (Rs.to s))(h:f1=some r):∃c,f2=some c/\Ji fl s h2 r c:=by subst h;simp only[ms,eP]at a b;refine⟨_,a,?_⟩;rw[b];cases r<;>exact .xn _
theorem wP(x:Operand):(s.at h2).ev x=s.ev x:=by cases x<;>rfl
theorem GP:∀xs:List Operand,(s.at h2).kg xs=s.kg xs
 |[]=>rfl
 |x::xs=>by unfold St.kg;rw[wP,GP xs]
theorem GQ(x:Option Operand):n7 (s.at h2) x=n7 s x:=by cases x with
 |none=>rfl
 |some x=>unfold n7;simp only[wP]
theorem uz:∀xs:List (Nat×Operand),hM (s.at h2) xs=hM s xs
 |[]=>rfl
 |(i,x)::xs=>by unfold hM;rw[wP,uz xs]
theorem jv{k:HV->Option Rs}{x:Operand}{v:HV}(h:s.ev x=some v):fQ (s.at h2) k x=k v:=by unfold fQ;rw[wP,h]
theorem HW(a b:St)(c:HV)(x y:Option HV):qW a c x y=(qW b c x y).map (Rs.to a):=by unfold qW;((try simp only[aH]);repeat'(first|rfl|split))
theorem E7(a b:St)(t:Nat)(l:List (Nat×HV)):la cx a t l=(la cx b t l).map (Rs.to a):=by unfold la;((try simp only[aH]);repeat'(first|rfl|split))
theorem ME(a b:St)(v:HV):wQ a v=(wQ b v).map (Rs.to a):=by unfold wQ;((try simp only[aH]);repeat'(first|rfl|split))
theorem Qj(a b:St)(op:UnOp)(v:HV):Ah a op v=(Ah b op v).map (Rs.to a):=by unfold Ah;((try simp only[aH]);repeat'(first|rfl|split))
theorem Ae(a b:St)(v:HV)(i:Nat):lV a v i=(lV b v i).map (Rs.to a):=by unfold lV;((try simp only[aH]);repeat'(first|rfl|split))
theorem EQ(a b:St)(t:Nat)(v:HV)(i:Nat):mN cx a t v i=(mN cx b t v i).map (Rs.to a):=by unfold mN;((try simp only[aH]);repeat'(first|rfl|split))
theorem Cp(a b:St)(t:Nat)(v i:HV):fJ cx a t v i=(fJ cx b t v i).map (Rs.to a):=by unfold fJ;((try simp only[aH]);repeat'(first|rfl|split))
theorem EH(a b:St)(t:Nat)(v i:HV):mM cx a t v i=(mM cx b t v i).map (Rs.to a):=by unfold mM;((try simp only[aH]);repeat'(first|rfl|split))
theorem Nt(a b:St)(op:BinOp)(t:Nat)(v u:HV):(match lv cx op t v u with|some r=>some (Rs.val r a)|none=>none)=(match lv cx op t v u with|some r=>some (Rs.val r b)|none=>none).map (Rs.to a):=by cases lv cx op t v u<;>rfl
def wb(b:Nat):HV->Prop| .ptr c _=>c=b| .sl c _ _=>c=b| .jz c _ _=>c=b|_=>False
theorem A0{b:Nat}(h:h2.ap b=s.hp.ap b):(s.at h2).cn b=s.cn b:=by unfold St.cn St.at;rw[h]
theorem Ra{t:Nat}{v:HV}(h:∀b,wb b v->h2.ap b=s.hp.ap b):iQ cx (s.at h2) t v=(iQ cx s t v).map (Rs.to (s.at h2)):=by
 unfold iQ
 cases v with
  |ptr b o=>
  simp only;rw[A0 (h b rfl)];try simp only[aH]
  repeat'(first|rfl|split)
  |_=>rfl
theorem O2{t:Nat}{v:HV}:iQ cx s t v=(iQ cx s t v).map (Rs.to s):=by unfold iQ;((try simp only[aH]);repeat'(first|rfl|split))
theorem Lt{v:HV}{z:Nat}(h:∀b,wb b v->h2.ap b=s.hp.ap b):cellsOf (s.at h2) z v=cellsOf s z v:=by unfold cellsOf;cases v with
 |sl b o n=>show(match(s.at h2).cn b with|some x=>_|none=>_)=_;rw[A0 (h b rfl)];rfl
 |jz b o n=>show(match(s.at h2).cn b with|some x=>_|none=>_)=_;rw[A0 (h b rfl)];rfl
 |_=>rfl
theorem IK{t a:Nat}{v:HV}(h:∀b,wb b v->h2.ap b=s.hp.ap b):gx cx (s.at h2) t a v=(gx cx s t a v).map (Rs.to (s.at h2)):=by unfold gx;repeat'(first|rfl|rw[Lt (by assumption)]|split)
theorem GW{t a:Nat}{v:HV}:gx cx s t a v=(gx cx s t a v).map (Rs.to s):=by unfold gx;repeat'(first|rfl|split)
theorem OD{t:Nat}{v:HV}{lo hi c:Option HV}(h:∀b o n,v= .sl b o n->h2.ap b=s.hp.ap b):eG cx (s.at h2) t v lo hi c=(eG cx s t v lo hi c).map (Rs.to (s.at h2)):=by
 unfold eG
 cases cx.ti.ap t with
  |none=>rfl
  |some x=>
  cases fw lo with
   |none=>rfl
   |some lo=>
   cases fw hi with
    |none=>rfl
    |some hi=>
    cases fw c with
     |none=>rfl
     |some c=>
     obtain⟨a,f,e,g,d⟩:=x;cases d<;>cases v<;>first|rfl|skip
     all_goals try simp only
     all_goals try rw[A0 (h _ _ _ rfl)]
     all_goals try simp only[aH]
     all_goals repeat'(first|rfl|split)
theorem Kw{t:Nat}{v:HV}{lo hi a:Option HV}:eG cx s t v lo hi a=(eG cx s t v lo hi a).map (Rs.to s):=by unfold eG;(try simp only[aH]);repeat'(first|rfl|split)
theorem KY{t b:Nat}{v:HV}(a:wb b v)(c:s.hp.ap b=none):iQ cx s t v=none:=by
 cases v<;>first|exact a.elim|rfl|skip
 cases a;unfold iQ St.cn;simp only[c];split<;>rfl
theorem IU{z b:Nat}{v:HV}(a:wb b v)(c:s.hp.ap b=none):cellsOf s z v=none:=by
 cases v<;>first|exact a.elim|rfl|skip
 all_goals cases a;show(match s.cn _ with|some x=>cu x _ _|none=>none)=none;unfold St.cn;simp only[c]
theorem DK{t d b:Nat}{v:HV}(a:wb b v)(c:s.hp.ap b=none):gx cx s t d v=none:=by
 unfold gx;split
 .
  split;.exact a.elim
  .exact a.elim
  .repeat'(first|rfl|(rw[IU a c])|split)
  .rfl
 .rfl
theorem HH{t b o n:Nat}{lo hi c:Option HV}(d:s.hp.ap b=none):eG cx s t (.sl b o n) lo hi c=none:=by
 unfold eG
 cases cx.ti.ap t with
  |none=>rfl
  |some x=>
  cases fw lo with
   |none=>rfl
   |some lo=>
   cases fw hi with
    |none=>rfl
    |some hi=>
    cases fw c with
     |none=>rfl
     |some c=>
     obtain⟨a,g,f,i,e⟩:=x;cases e<;>first|rfl|skip
     show(match cx.size _,s.cn b with|some z,some y=>_|_,_=>none)=none;unfold St.cn;rw[d];split<;>first|rfl|(rename_i h;cases h)
theorem LG{t:Nat}(h:nT cx s t=some r):∃a,nT cx (s.at h2) t=some a/\Ji true s h2 r a:=by
 unfold nT at h⊢;split at h
 .
  rename_i c;split at h
  .
   rename_i d;split at h;.rename_i b;cases h;exact⟨_,rfl,.bT _ (.cn _) rfl⟩
   .cases h
  .cases h
 .cases h
theorem R2{v:HV}(h:s8 s v=some r):∃a,s8 (s.at h2) v=some a/\Ji true s h2 r a:=by
 unfold s8 at h⊢;split at h;.rename_i b;cases h;exact⟨_,rfl,.bT _ (.cn _) rfl⟩
 .cases h
theorem AJ{t n:Nat}{l:List (Nat×HV)}(h:fg cx s t n l=some r):∃a,fg cx (s.at h2) t n l=some a/\Ji true s h2 r a:=by
 unfold fg at h⊢;split at h
 .
  rename_i d;rw[aH]at h;split at h
  .
   rename_i b;split at h;.rename_i c;cases h;rw[b];exact⟨_,rfl,.bT _ (.cn _) rfl⟩
   .cases h
  .cases h
 .cases h
theorem B4{t:Nat}{l c:HV}(h:iC cx s t l c=some r):∃a,iC cx (s.at h2) t l c=some a/\Ji true s h2 r a:=by
 unfold iC at h⊢;split at h
 .
  rename_i d h2 e;simp only[aH]at h⊢;split at h;.rename_i b;cases h;rw[aE b];exact⟨_,rfl,.bT _ (.cn _) rfl⟩
  .cases h
 .cases h
theorem Pj{o:Op}(h:lD cx s o=some r)(j:fX o=false)(p0:ut o=true)(z0:ly s o=false)(D:∀a v b,m7 o=some a->s.ev a=some v->wb b v->s.hp.ap b≠none->h2.ap b=s.hp.ap b):∃e,lD cx (s.at h2) o=some e/\Ji (sj o) s h2 r e:=by
 cases o;case move x=>obtain⟨v,g,h⟩:=bQ (h:fQ s _ x=some r);refine⟨_,jv g,?_⟩;cases h;exact .xn _
 case assign x=>obtain⟨v,g,h⟩:=bQ (h:fQ s _ x=some r);refine⟨_,jv g,?_⟩;cases h;exact .xn _
 case pick c a b=>obtain⟨v,g,h⟩:=bQ (h:fQ s _ c=some r);show∃e,fQ (s.at h2) _ c=some e/\_;rw[jv g,wP,wP];exact mf (HW _ _ _ _ _) (HW _ _ _ _ _) h
 case alloc t=>exact LG h
 case box t x=>obtain⟨v,g,h⟩:=bQ (h:fQ s _ x=some r);show∃e,fQ (s.at h2) _ x=some e/\_;rw[jv g];exact R2 h
 case build t C=>
  have h:(match hM s C.toList with|some l=>la cx s t l|none=>none)=some r:=h;show∃e,(match hM (s.at h2) C.toList with|some l=>la cx (s.at h2) t l|none=>none)=some e/\_;rw[uz];split at h;.rename_i l A;exact mf (E7 _ _ _ _) (E7 _ _ _ _) h
  .cases h
 case buildSlice t n C=>
  have h:(match hM s C.toList with|some l=>fg cx s t n l|none=>none)=some r:=h;show∃e,(match hM (s.at h2) C.toList with|some l=>fg cx (s.at h2) t n l|none=>none)=some e/\_;rw[uz];split at h;.rename_i l A;exact AJ h
  .cases h
 case load t x=>obtain⟨v,g,h⟩:=bQ (h:fQ s _ x=some r);show∃e,fQ (s.at h2) _ x=some e/\_;rw[jv g];exact mf (Ra λb k=>D x v b rfl g k λB=>by rw[KY k B]at h;cases h) O2 h
 case nilCheck x=>obtain⟨v,g,h⟩:=bQ (h:fQ s _ x=some r);show∃e,fQ (s.at h2) _ x=some e/\_;rw[jv g];exact mf (ME _ _ _) (ME _ _ _) h
 case binOp o0 t x y p=>obtain⟨v,g,h⟩:=bQ (h:fQ s _ x=some r);obtain⟨u,q,h⟩:=bQ h;show∃e,fQ (s.at h2) _ x=some e/\_;rw[jv g,jv q];exact mf (Nt _ s _ _ _ _) (Nt _ _ _ _ _ _) h
 case unOp o0 t x=>obtain⟨v,g,h⟩:=bQ (h:fQ s _ x=some r);show∃e,fQ (s.at h2) _ x=some e/\_;rw[jv g];exact mf (Qj _ _ _ _) (Qj _ _ _ _) h
 case convert a b x=>obtain⟨v,g,h⟩:=bQ (h:fQ s _ x=some r);show∃e,fQ (s.at h2) _ x=some e/\_;rw[jv g];exact mf (IK λb k=>D x v b rfl g k λB=>by rw[DK k B]at h;cases h) GW h
 case makeFunc f x0 y0=>
  cases f with
   |func f=>
   have h:(match x0.toList,s.kg y0.toList with|[],some l=>some (Rs.val (.fn f l) s)|_,_=>none)=some r:=h;show∃e,(match x0.toList,(s.at h2).kg y0.toList with|[],some l=>some (Rs.val (.fn f l) (s.at h2))|_,_=>none)=some e/\_;rw[GP];split at h;.cases h;exact⟨_,rfl,.xn _⟩
   .cases h
   |_=>cases h
 case makeMap t m=>cases m with
  |none=>cases(h:some _=some r);exact⟨_,rfl,.bT _ (.map []) rfl⟩
  |some m=>cases h
 case makeSlice t l c=>obtain⟨v,g,h⟩:=bQ (h:fQ s _ l=some r);obtain⟨u,q,h⟩:=bQ h;show∃e,fQ (s.at h2) _ l=some e/\_;rw[jv g,jv q];exact B4 h
 case slice t x t0 w0 s0=>
  have h:(match s.ev x,n7 s t0,n7 s w0,n7 s s0 with|some v,some l,some h,some m=>eG cx s t v l h m|_,_,_,_=>none)=some r:=h;show∃e,(match(s.at h2).ev x,n7 (s.at h2) t0,n7 (s.at h2) w0,n7 (s.at h2) s0 with|some v,some l,some h,some m=>eG cx (s.at h2) t v l h m|_,_,_,_=>none)=some e/\_;rw[wP,GQ,GQ,GQ];split at h;.rename_i v l k0 m q0 n0 m0 l0;exact mf (OD λb o n k=>D x v b rfl q0 (by rw[k];rfl) λB=>by rw[k,HH B]at h;cases h) Kw h
  .cases h
 case fieldAddr t x i=>obtain⟨v,g,h⟩:=bQ (h:fQ s _ x=some r);show∃e,fQ (s.at h2) _ x=some e/\_;rw[jv g];exact mf (EQ _ s _ _ _) (EQ _ _ _ _ _) h
 case indexAddr t x i=>obtain⟨v,g,h⟩:=bQ (h:fQ s _ x=some r);obtain⟨u,q,h⟩:=bQ h;show∃e,fQ (s.at h2) _ x=some e/\_;rw[jv g,jv q];exact mf (Cp _ s _ _ _) (Cp _ _ _ _ _) h
 case index t x i=>obtain⟨v,g,h⟩:=bQ (h:fQ s _ x=some r);obtain⟨u,q,h⟩:=bQ h;show∃e,fQ (s.at h2) _ x=some e/\_;rw[jv g,jv q];exact mf (EH _ s _ _ _) (EH _ _ _ _ _) h
 case lookup=>cases p0
 case extract x i=>obtain⟨v,g,h⟩:=bQ (h:fQ s _ x=some r);show∃e,fQ (s.at h2) _ x=some e/\_;rw[jv g];exact mf (Ae _ s _ _) (Ae _ _ _ _) h
 case call c=>
  obtain⟨r0,z,w⟩:=c
  cases r0 with
   |builtin b=>
   have h:(match s.kg z.toList with|some l=>fz cx s b w.toList l|none=>none)=some r:=h;show∃e,(match(s.at h2).kg z.toList with|some l=>fz cx (s.at h2) b w.toList l|none=>none)=some e/\_;rw[GP];split at h
   .
    rename_i l A
    rw[show ly s (.call ⟨.builtin b,z,w⟩)=match b with
     | .len=>match s.kg z.toList with|some [.map _]=>true|_=>false
     |_=>false by cases b<;>rfl]at z0
    rw[A]at z0
    have u0:∀a:St,(∀d,b= .len->l≠[.map d])->fX (.call ⟨.builtin b,z,w⟩)=false->fz cx a b w.toList l=(fz cx s b w.toList l).map (Rs.to a):=by
     intro a A j;unfold fz;split
     .
      split
      .
       split<;>first|rfl|skip
       .rename_i d _ _;exact absurd rfl (A d rfl)
       .split<;>rfl
      .rfl
     .cases j
     .cases j
     .cases j
     .split<;>rfl
     .split<;>rfl
     .rfl
    have v0:∀d,b= .len->l≠[.map d]:=by rintro d rfl rfl;cases z0
    exact mf (u0 _ v0 j) (u0 s v0 j) h
   .cases h
   |_=>cases j
 case store=>cases j
 case mapUpdate=>cases j
 all_goals cases h
end
def uj(f:Nat->Option Obj):Nat->Tr Obj|0=> .e|k+1=>match f k with|some o=>(uj f k).set k o|none=>uj f k
theorem yS(f:Nat->Option Obj):∀(n b:Nat),(uj f n).ap b=if b<n then f b else none
 |0,b=>by simp[uj,Tr.kq]
 |n+1,b=>by
  unfold uj;split
  .
   rename_i o c;rw[Tr.dg];by_cases h:b=n;.subst h;rw[aE rfl,aE (by omega),c]
   .
    rw[aG h,yS f n b];by_cases a:b<n;.rw[aE a,aE (by omega)]
    .rw[aG a,aG (by omega)]
  .
   rename_i c;rw[yS f n b];by_cases h:b=n;.subst h;rw[aG (by omega),aE (by omega),c]
   .
    by_cases a:b<n;.rw[aE a,aE (by omega)]
    .rw[aG a,aG (by omega)]
section
variable{ρ ρ' ρ0:Rn}{s c t:St}{w w' w0:World}{H H' hp:Tr Obj}
theorem eY.sub(h:eY ρ H w)(k:∀b o r,hp.ap b=some o->ρ b=some r->H.ap b=some o):eY ρ hp w:=⟨λb x r d a=>h.cn b x r (k b _ r d a) a,λb j r d a=>h.map b j r (k b _ r d a) a,λb e o n r i l d m a f g=>h.inj b e o n r i l (k b _ r d f) m (k e _ i a g) f g⟩
theorem eY.heap(h:eY ρ H w)(e:w'.heap=w.heap):eY ρ H w':=⟨λb x r a d=>(h.cn b x r a d).mv (tL.refl _) (by rw[e];exact ar _) (by rw[e]),λb f r a d=>by rw[e];exact h.map b f r a d,h.inj⟩
theorem Dr.sub{b:Nat}(h:Dr ρ hp b)(k:∀b o r,hp.ap b=some o->ρ b=some r->H.ap b=some o):Dr ρ H b:=by obtain⟨i,o,r,d,e,a,f⟩:=h;exact⟨i,o,r,k i o r d a,e,a,f⟩
theorem fG.Rp{e:St}(h:fG ρ0 s w0 ρ e w)(k:fG ρ c w ρ' t w')(i:c.hp=e.hp)(h1:s.nx<=c.nx)(h2:t.nx<=e.nx):fG ρ0 s w0 ρ' (e.at t.hp) w':=by
 refine⟨k.rY,λb a=>?_,⟨k.kp.os.trans h.kp.os,k.kp.tape.trans h.kp.tape,k.kp.output.trans h.kp.output,aU h.kp.size k.kp.size,λb a f=>?_⟩,λb a=>?_,h.nx⟩;.have a:b<s.nx\/e.nx<=b:=a;rw[k.ug b (by omega),h.ug b a]
 .
  have j:=h.kp.size;rw[k.kp.block b (by omega) λg=>?_,h.kp.block b a f];rw[i]at g;rcases h.dr b g with d|d;.exact f d
  .omega
 .
  have j:=h.kp.size;rcases k.dr b a with d|d;.rw[i]at d;exact h.dr b d
  .right;omega
theorem fG.XF(k:fG ρ c w ρ' t w')(A:eY ρ H w)(sub:∀b o r,c.hp.ap b=some o->ρ b=some r->H.ap b=some o)(f0:Fr c)(tT:∀b o,t.hp.ap b=some o->pe o=false->c.hp.ap b=some o)(e:tL ρ ρ')(C:∀b o,H'.ap b=some o->b<t.nx/\t.hp.ap b=some o\/t.nx<=b/\H.ap b=some o):fG ρ (c.at H) w ρ' (t.at H') w':=by
 have e0:=k.nx;have D:∀b,t.nx<=b->ρ' b=ρ b:=λb m=>k.ug b (.inr m)
 have o0:∀b o,c.hp.ap b=some o->b<c.nx:=λb o m=>by
  rcases cO b c.nx with h|h;.exact h
  .rw[f0 b h]at m;cases m
 have n0:∀b o r,t.nx<=b->H.ap b=some o->ρ b=some r->¬Dr ρ c.hp r.c:=by rintro b o r m p f⟨x0,s0,m0,d,z,v,B⟩;have:=o0 x0 s0 d;exact A.inj x0 b s0 o m0 r (by omega) (sub x0 s0 m0 d v) z p v f B
 have l0:∀b o r,t.nx<=b->H.ap b=some o->ρ b=some r->w'.heap[r.c]?=w.heap[r.c]?:=λb o r m p f=>k.kp.block _ (A.at p f) (n0 b o r m p f)
 have r0:∀b a o j r q,b<t.nx->t.hp.ap b=some o->pe o=true->t.nx<=a->H.ap a=some j->ρ' b=some r->ρ a=some q->r.c≠q.c:=by
  intro b a o j r q m p y0 g0 p0 f n u0;rcases k.dr r.c ⟨b,o,r,p,y0,f,rfl⟩with g|g;.rw[u0]at g;exact n0 a j q g0 p0 n g
  .have:=A.at p0 n;omega
 refine⟨⟨λb x r z0 l=>?_,λb q0 r z0 l=>?_,λb a o j r q t0 z0 p l f n=>?_⟩,k.ug,⟨k.kp.os,k.kp.tape,k.kp.output,k.kp.size,λb m h0=>k.kp.block b m λh=>h0 (h.sub sub)⟩,λb m=>?_,e0⟩
 .
  rcases C b _ z0 with⟨_,g⟩|⟨d,g⟩;.exact k.rY.cn b x r g l
  .rw[D b d]at l;exact(A.cn b x r g l).mv e k.kp.size (l0 b _ r d g l)
 .
  rcases C b _ z0 with⟨_,g⟩|⟨d,g⟩;.exact k.rY.map b q0 r g l
  .rw[D b d]at l;obtain⟨j0,k0,v,B⟩:=A.map b q0 r g l;exact⟨j0,k0,by rw[l0 b _ r d g l];exact v,B.ext e⟩
 .
  rcases C b _ z0 with⟨d,g⟩|⟨d,g⟩
  .
   rcases C a _ l with⟨y,u⟩|⟨y,u⟩;.exact k.rY.inj b a o j r q t0 g p u f n
   .rw[D a y]at n;exact r0 b a o j r q d g p y u f n
  .
   rw[D b d]at f;rcases C a _ l with⟨y,u⟩|⟨y,u⟩
   .cases y0:pe j with
    |true=>exactλu0=>r0 a b j o q r y u y0 d g n f u0.symm
    |false=>have z:=tT a j u y0;rw[k.ug a (.inl (o0 a j z))]at n;exact A.inj b a o j r q t0 g p (sub a j q z n) f n
   .rw[D a y]at n;exact A.inj b a o j r q t0 g p u f n
 .
  obtain⟨i,o,r,d,z,v,B⟩:=m;rcases C i _ d with⟨_,g⟩|⟨i0,g⟩
  .
   rcases k.dr b ⟨i,o,r,g,z,v,B⟩with v0|v0;.exact .inl (v0.sub sub)
   .exact .inr v0
  .rw[D i i0]at v;exact .inl ⟨i,o,r,g,z,v,B⟩
open Classical in theorem oV{s:St}:∀{l:List Operand}{t:Nat},(kh s l).ap t=if Operand.tmp t∈l then some (s.tmp t)else none
 |[],t=>by simp[kh,Tr.kq]
 |x::l,t=>by
  cases x with
   |tmp u=>
   show((kh s l).set u (s.tmp u)).ap t=_;rw[Tr.dg,oV];by_cases h:t=u;·subst h;rw[aE rfl,aE bZ]
   ·
    rw[aG h];have:Operand.tmp t∈Operand.tmp u::l↔Operand.tmp t∈l:=by simp[co,h]
    simp only[this]
   |const v=>show(kh s l).ap t=_;rw[oV];simp[co]
   |func v=>show(kh s l).ap t=_;rw[oV];simp[co]
   |_ v=>show(kh s l).ap t=_;rw[oV];simp[co]
open Classical in theorem IH{s:St}{bG:Array Oper}{o:Oper}{l:List Nat}{t:Nat}:(s.cut bG o l).tmp t=if Operand.tmp t∈oB bG o++o.op.operands.toList then s.tmp t else .any:=by
 unfold St.tmp St.cut;simp only[oV];split<;>rename_i h<;>split at h<;>first|(cases h;done)|skip
 .cases h;rw[aE (by assumption)];rfl
 .rw[aG (by assumption)]
theorem Ni{s:St}{bG:Array Oper}{o:Oper}{l:List Nat}{x:Operand}(a:x∈o.op.operands.toList):(s.cut bG o l).ev x=s.ev x:=by cases x with
 |tmp t=>show some _=some _;rw[IH,aE (cR _ a)]
 |_=>rfl
theorem II{s:St}{bG:Array Oper}{o:Oper}{l:List Nat}:∀{xs:List Operand},(∀x,x∈xs->x∈o.op.operands.toList)->(s.cut bG o l).kg xs=s.kg xs
 |[],_=>rfl
 |x::xs,h=>by unfold St.kg;rw[Ni (h x bZ),II λy a=>h y (cX _ a)]
theorem I9{o:Op}{a:Operand}(h:m7 o=some a):a∈o.operands.toList:=by
 cases o<;>first|(cases h;done)|skip
 all_goals cases h;simp[Op.operands]
theorem G5{o:Op}{a:Operand}(h:m7 o=some a):qN o=true:=by cases o<;>first|(cases h;done)|rfl
theorem z6{s:St}{bG:Array Oper}{o:Oper}{l:List Nat}(h:ly s o.op=false):ly (s.cut bG o l) o.op=false:=by
 cases d:o.op<;>try rfl
 rename_i c;obtain⟨e,a,g⟩:=c;cases e<;>try rfl
 rename_i b;cases b<;>try rfl
 rw[d]at h;have h:(match s.kg a.toList with|some [.map _]=>true|_=>false)=false:=h;show(match(s.cut bG o l).kg a.toList with|some [.map _]=>true|_=>false)=false;rw[II λx f=>?_];.exact h
 .rw[d];simp[Op.operands,Call.operands];simpa using f
theorem xH{s:St}:∀{l:List Operand}{L:List Nat},ip s l=some L->∀a v b,a∈l->s.ev a=some v->wb b v->bw b L=true
 |[],L,h,a,v,b,d,f,e=>by cases d
 |x::l,L,h,a,v,b,d,f,e=>by
  unfold ip at h;split at h
  .
   rename_i j i;rcases co.1 d with rfl|d
   .
    rw[f]at h;cases v<;>first|exact e.elim|skip
    all_goals cases e;cases h;unfold bw;simp
   .have g:=xH i a v b d f e;split at h<;>cases h<;>first|exact g|(unfold bw;rw[g,ww])
  .cases h
end
theorem Bm{cx:Cx}{y:od}{bG:Array Oper}{o:Oper}{c t:St}{h2:Tr Obj}(h:gQ cx y bG c o=some t)(C:fX o.op=false)(y0:ut o.op=true)(x0:ly c o.op=false)(B:∀a v b,m7 o.op=some a->c.ev a=some v->wb b v->c.hp.ap b≠none->h2.ap b=c.hp.ap b):∃j,gQ cx y bG (c.at h2) o=some j/\j.nt=t.nt/\(∀z,j.tmp z=t.tmp z)/\(takes (c.at h2) bG o=some true->∀f args,lD cx (c.at h2) o.op≠some (.call f args))/\(t.hp=c.hp/\t.nx=c.nx/\j.hp=h2/\j.nx=c.nx\/sj o.op=true/\∃X,t.hp=c.hp.set c.nx X/\t.nx=c.nx+1/\j.hp=h2.set c.nx X/\j.nx=c.nx+1):=by
 have u:∀(a b:St)(d:Option Nat)(v:HV),a.nt=b.nt->a.dE=b.dE->a.df=b.df->(a.put d v).nt=(b.put d v).nt/\∀z,(a.put d v).tmp z=(b.put d v).tmp z:=by
  intro a b d v p h2 x
  cases d with
   |none=>exact⟨p,λz=>by show a.tmp z=b.tmp z;unfold St.tmp;rw[h2,x]⟩
   |some d=>
   refine⟨?_,λz=>?_⟩;.unfold St.put;simp only[aH];split<;>split<;>exact p
   .
    rw[Bg,Bg,p];have:a.tmp z=b.tmp z:=by unfold St.tmp;rw[h2,x]
    rw[this]
 have n:takes (c.at h2) bG o=takes c bG o:=rfl;have v0:takes c bG o=some false->t=c.put o.dst .undef:=λD=>by unfold gQ at h;rw[D]at h;cases h;rfl
 cases i:takes c bG o with
  |none=>unfold gQ at h;rw[i]at h;cases h
  |some b=>
  cases b with
   |false=>
   have e:=v0 i;subst e;obtain⟨k,l⟩:=u (c.at h2) c o.dst .undef rfl rfl rfl;refine⟨(c.at h2).put o.dst .undef,?_,k,l,λg=>?_,.inl ⟨oE _ _ _,oD _ _ _,oE _ _ _,oD _ _ _⟩⟩;.unfold gQ;rw[n,i]
   .rw[n,i]at g;cases g
   |true=>
   unfold gQ at h;rw[i]at h;simp only at h
   cases q:lD cx c o.op with
    |none=>rw[q]at h;cases h
    |some r=>
    rw[q]at h;obtain⟨u0,m,A⟩:=Pj q C y0 x0 B
    cases A with
     |xn v=>
     cases h;obtain⟨k,l⟩:=u (c.at h2) c o.dst v rfl rfl rfl;refine⟨(c.at h2).put o.dst v,?_,k,l,λ_ f args g=>?_,.inl ⟨oE _ _ _,oD _ _ _,oE _ _ _,oD _ _ _⟩⟩;.unfold gQ;rw[n,i,m]
     .rw[m]at g;cases g
     |bT v X z0=>
     cases h;obtain⟨k,l⟩:=u ((c.at h2).Q2 X) (c.Q2 X) o.dst v rfl rfl rfl;refine⟨((c.at h2).Q2 X).put o.dst v,?_,k,l,λ_ f args g=>?_,.inr ⟨z0,X,oE _ _ _,oD _ _ _,oE _ _ _,oD _ _ _⟩⟩;.unfold gQ;rw[n,i,m]
     .rw[m]at g;cases g
section
variable{P:Program}{n:Nat}
theorem Sm{l:List Oper}{q0:Nat}{K:Am}{F:dN}{w:World}(m:Array Bool->dN->World->Prop)(r0:P.follows .mixedOrders=true)(w0:∀(i:Nat)(o:Oper),l[i]?=some o->∀e∈o.after.toList,Region.binds .any e=true->e.on<i)(D:m (Array.replicate l.length false) F {w with drawn:=w.drawn+1})(step:∀a i o F w,yn l a->a.size=l.length->l[i]?=some o->a.getD i false=false->(∀e∈o.after.toList,Region.binds .any e=true->a.getD e.on false=true)->m a F w->LW P n l.toArray [o] (λc f=>m (a.setIfInBounds i true) c f) F w)(v0:∀a F w,(∀i,i<l.length->a.getD i false=true)->m a F w->K.cS F w):W P n (.region q0 l.toArray true) K F w:=by
 unfold W;refine wp_region_any r0 ?_
 have n0:∀(p:Nat)(a:Array Bool)(c:dN)(f:World),a.size=l.length->GY a=p->yn l a->m a c f->wpAny P .any l.toArray (Lf n K) p a (fr n c) f:=by
  intro p
  induction p with
   |zero=>
   intro a c f k B v u;have r:∀i,i<l.length->a.getD i false=true:=λi h=>Pn B (by omega);have y:Region.ready .any l.toArray a=[]:=by rw[List.eq_nil_iff_forall_not_mem];intro i h;obtain⟨o,d,q,_⟩:=(wF k).1 h;rw[r i (gN d)]at q;cases q
   exact⟨y,c,rfl,v0 a c f r u⟩
   |succ p p0=>
   intro a c f k B v u;refine⟨λy=>?_,λi h=>?_⟩
   .
    exfalso
    have r:∀i,i<l.length->a.getD i false=true:=by intro i;induction i using Nat.strongRecOn with
     |_ i o0=>intro t;cases g:a.getD i false with
     |true=>rfl
     |false=>have d:=G t;have C:i∈Region.ready .any l.toArray a:=(wF k).2 ⟨_,d,g,λe s y0=>by have:=w0 i _ d e s y0;exact o0 e.on this (by omega)⟩;rw[y]at C;cases C
    have:GY a=0:=by
     unfold GY;rw[l4];intro b g;obtain⟨i,h,rfl⟩:=List.getElem_of_mem g;have u0:i<a.size:=by simpa using h
     have:=r i (by omega);simp only[Array.getD,u0,dif_pos]at this;simpa using this
    omega
   .
    obtain⟨o,d,q,A⟩:=(wF k).1 h;have k0:=gN d;have t:i<a.size:=by omega
    have x0:yn l (a.setIfInBounds i true):=by
     intro j m0 z x e s g;rw[jF t]at x⊢;split;.rfl
     .
      rename_i j0;split at x;.rename_i t0;subst t0;rw[d]at z;cases z;exact A e s g
      .exact v j m0 z x e s g
    exact Hu d (step a i o c f v k d q A u) λl0 i0 z0=>p0 _ _ _ (by simpa using k) (by have:=RS t q;omega) x0 z0
 refine n0 _ _ F _ (by simp) ?_ ?_ D;.unfold GY;simp[List.countP_replicate]
 .intro i o _ s0;exfalso;simp[Array.getD]at s0
end
section
variable{P:Program}{n:Nat}{cx:Cx}{ih:od}{bG:Array Oper}
structure zD (cx : Cx) (ih : od) (bG : Array Oper) (its : List Item) (s s' : St) (σ : Nat → St) : Prop where
  first : σ 0 = s
  tB : σ its.length = s'
  step : ∀ (q : Nat) (x : Item), its[q]? = some x → ∃ L t, ip (σ q) x.lk = some L ∧ ly (σ q) x.o.op = false ∧ gQ cx ih bG ((σ q).cut bG x.o L) x.o = some t ∧ σ (q + 1) = (σ q).take x.o t
theorem tx:∀{c:List Item}{s a:St},ga cx ih bG s c=some a->∃σ,zD cx ih bG c s a σ
 |[],s,a,h=>by cases h;exact⟨λ_=>s,rfl,rfl,λq x l=>by simp at l⟩
 |x::c,s,a,h=>by
  unfold ga at h;split at h
  .
   rename_i d i;rw[aH]at h;split at h;.cases h
   .
    rename_i j;split at h
    .rename_i t k;obtain⟨σ,e,f,g⟩:=tx h;refine⟨λq=>match q with|0=>s|q+1=>σ q,rfl,f,λq y b=>?_⟩;cases q with
     |zero=>simp at b;subst b;exact⟨d,t,i,by simpa using j,k,e⟩
     |succ q=>exact g q y (by simpa using b)
    .cases h
  .cases h
section
variable{its:List Item}{s s':St}{σ:Nat->St}(T:zD cx ih bG its s s' σ)(hg:iJ ih)
include T hg
theorem Be{q:Nat}(h:q<its.length):dc (σ q) (σ (q+1)):=by obtain⟨i,t,a,_,c,d⟩:=T.step q _ (G h);have g:=lJ hg c;rw[d];exact⟨g.nx,λb e f=>g.aL b e (um a b f),rfl,rfl,rfl,g.tT,g.pi⟩
theorem Kk{q:Nat}:∀{d:Nat},q+d<=its.length->(σ q).nx<=(σ (q+d)).nx
 |0,_=>ar _
 |d+1,h=>aU (Kk (d:=d) (by omega)) (Be T hg (q:=q+d) (by omega)).nx
theorem ja{q q':Nat}(h:q<=q')(a:q'<=its.length):(σ q).nx<=(σ q').nx:=by have:=Kk T hg (q:=q) (d:=q'-q) (by omega);rwa [show q+(q'-q)=q' by omega]at this
theorem FM(hF:Fr s):∀{q:Nat},q<=its.length->Fr (σ q)
 |0,_=>by rw[T.first];exact hF
 |q+1,h=>(Be T hg (q:=q) (by omega)).fr (FM hF (by omega))
theorem Kl:∀{q:Nat},q<=its.length->(σ q).nt=s.nt
 |0,_=>by rw[T.first]
 |q+1,h=>(Be T hg (q:=q) (by omega)).nt.trans (Kl (by omega))
theorem Qn{q:Nat}{x:Item}{t:Nat}(c:its[q]?=some x)(hd:x.o.dst≠some t):(σ (q+1)).tmp t=(σ q).tmp t:=by obtain⟨e,u,f,_,g,a⟩:=T.step q x c;rw[a];unfold St.take St.tmp;cases b:x.o.dst with
 |none=>rfl
 |some d=>simp only;rw[Tr.bW _ _ (by rintro rfl;exact hd b)]
theorem Mh{q t:Nat}:∀{d:Nat},q+d<=its.length->(∀(m:Nat)(x:Item),q<=m->m<q+d->its[m]?=some x->x.o.dst≠some t)->(σ (q+d)).tmp t=(σ q).tmp t
 |0,_,_=>rfl
 |d+1,h,a=>by have b:=G (l:=its) (i:=q+d) (by omega);exact(Qn T hg b (a (q+d) _ (by omega) (by omega) b)).trans (Mh (d:=d) (by omega) λm x c e=>a m x c (by omega))
theorem rP{q q' t:Nat}(h:q<=q')(c:q'<=its.length)(b:∀(m:Nat)(x:Item),q<=m->m<q'->its[m]?=some x->x.o.dst≠some t):(σ q').tmp t=(σ q).tmp t:=by have:=Mh T hg (q:=q) (t:=t) (d:=q'-q) (by omega) λm x a d=>b m x a (by omega);rwa [show q+(q'-q)=q' by omega]at this
theorem Oy{A:Nat->Nat->Prop}(c:pC bG.toList its A){q b:Nat}{x:Item}(e:its[q]?=some x)(i:b<(σ q).nx)(j:fX x.o.op=true->∀L,ip (σ q) x.lk=some L->bw b L=true):(σ (q+1)).hp.ap b=(σ q).hp.ap b:=by
 obtain⟨L,t,f,k,a,g⟩:=T.step q x e;rw[g];show t.hp.ap b=(σ q).hp.ap b
 cases d:fX x.o.op with
  |true=>exact(lJ hg a).aL b i (j d L f)
  |false=>
  obtain⟨m,_,_,_,_,h⟩:=Bm (h2:=(σ q).hp) a d (c.Ri _ _ (c.op q x e)) (z6 k) λ_ _ _ _ _ _ _=>rfl;rcases h with⟨h,_⟩|⟨_,l,h,_⟩;.rw[h];rfl
  .rw[h];exact Tr.bW _ _ (by have:((σ q).cut bG x.o L).nx=(σ q).nx:=rfl;omega)
theorem Hx{A:Nat->Nat->Prop}(c:pC bG.toList its A){q b:Nat}:∀{d:Nat},q+d<=its.length->b<(σ q).nx->(∀(m:Nat)(x:Item),q<=m->m<q+d->its[m]?=some x->fX x.o.op=true->∀L,ip (σ m) x.lk=some L->bw b L=true)->(σ (q+d)).hp.ap b=(σ q).hp.ap b
 |0,_,_,_=>rfl
 |d+1,h,g,e=>by have f:=G (l:=its) (i:=q+d) (by omega);have j:=Kk T hg (q:=q) (d:=d) (by omega);exact(Oy T hg c f (by omega) λa=>e (q+d) _ (by omega) (by omega) f a).trans (Hx c (d:=d) (by omega) g λm x a i=>e m x a (by omega))
theorem vg{A:Nat->Nat->Prop}(c:pC bG.toList its A){q q' b:Nat}(h:q<=q')(f:q'<=its.length)(d:b<(σ q).nx)(e:∀(m:Nat)(x:Item),q<=m->m<q'->its[m]?=some x->fX x.o.op=true->∀L,ip (σ m) x.lk=some L->bw b L=true):(σ q').hp.ap b=(σ q).hp.ap b:=by have:=Hx T hg c (q:=q) (b:=b) (d:=q'-q) (by omega) d λm x a g=>e m x a (by omega);rwa [show q+(q'-q)=q' by omega]at this
theorem vf{b:Nat}:∀{q:Nat},q<=its.length->s.nx<=b->b<(σ q).nx->∃(m:Nat)(x:Item),m<q/\its[m]?=some x/\(σ m).nx<=b/\b<(σ (m+1)).nx
 |0,_,d,a=>by rw[T.first]at a;omega
 |q+1,h,d,a=>by
  rcases cO b (σ q).nx with c|c;.obtain⟨m,x,f,e⟩:=vf (q:=q) (by omega) d c;exact⟨m,x,by omega,e⟩
  .exact⟨q,_,bf q,G (by omega),c,a⟩
end
structure Vq (its : List Item) (S : Array Bool) (τ : Nat) : Prop where
  le : τ ≤ its.length
  nX : ∀ (q : Nat) (x : Item), q < τ → its[q]? = some x → fX x.o.op = true → S.getD x.i false = true
  qC : ∀ x : Item, its[τ]? = some x → fX x.o.op = true ∧ S.getD x.i false = false
theorem Mm(its:List Item)(S:Array Bool):∃a,Vq its S a:=by
 have l:∀d a,a+d=its.length->(∀(q:Nat)(x:Item),q<a->its[q]?=some x->fX x.o.op=true->S.getD x.i false=true)->∃a,Vq its S a:=by
  intro d
  induction d with
   |zero=>intro a i c;refine⟨a,by omega,c,λx e=>?_⟩;have:=gN e;omega
   |succ d ih=>
   intro a i c;have e:=G (l:=its) (i:=a) (by omega);by_cases f:fX (its[a]'(by omega)).o.op=true/\S.getD (its[a]'(by omega)).i false=false;.exact⟨a,by omega,c,λx b=>by rw[e]at b;cases b;exact f⟩
   .
    refine ih (a+1) (by omega) λq x j b g=>?_;rcases cO q a with h|h;.exact c q x h b g
    .
     have:q=a:=by omega
     subst this;rw[e]at b;cases b
     cases k:S.getD (its[q]'(by omega)).i false with
      |true=>rfl
      |false=>exact absurd ⟨g,k⟩ f
 exact l its.length 0 (by omega) λq x j=>by omega
structure Au (its : List Item) (n : Nat) (s s' : St) (σ : Nat → St) (ρ0 : Rn) (w0 : World) (S : Array Bool) (F : dN) (w : World) (ρ : Rn) (H : Tr Obj) (τ : Nat) : Prop where
  xh : Vq its S τ
  post : fG ρ0 s w0 ρ ⟨s.nt, s.dE, H, s'.nx, s.lk, s.df⟩ w
  iB : ∀ b r, ρ b = some r → b < s.nx → H.ap b = (σ τ).hp.ap b
  EA : ∀ b r (q : Nat) (x : Item), ρ b = some r → its[q]? = some x → (σ q).nx ≤ b → b < (σ (q + 1)).nx → H.ap b = (σ (max τ (q + 1))).hp.ap b
  Uu : ∀ b (q : Nat) (x : Item), its[q]? = some x → S.getD x.i false = false → (σ q).nx ≤ b → b < (σ (q + 1)).nx → ρ b = none
  set : ∀ t (q : Nat) (x : Item), its[q]? = some x → x.o.dst = some t → S.getD x.i false = true → VR ρ ((σ (q + 1)).tmp t) (ev n F (.tmp t))
  FJ : ∀ t, (∀ (q : Nat) (x : Item), its[q]? = some x → x.o.dst = some t → S.getD x.i false = false) → VR ρ (s.tmp t) (ev n F (.tmp t))
end
section
variable{P:Program}{n:Nat}{cx:Cx}{ih:od}{bG:Array Oper}{its:List Item}{s s':St}{σ:Nat->St}{A:Nat->Nat->Prop}{ρ ρ' ρ0:Rn}{w w' w0:World}{S:Array Bool}{F:dN}{H:Tr Obj}{τ p:Nat}{x:Item}
theorem Iw(n:Nat)(F:dN){d:Option Nat}{z:Nat}(u:Value)(h:d≠some z):ev n (rM F d u) (.tmp z)=ev n F (.tmp z):=by cases d with
 |none=>rfl
 |some d=>show ev n (iy F d u) (.tmp z)=_;rw[M8,aG];rintro⟨_,rfl⟩;exact h rfl
theorem Pg(c:pC bG.toList its A)(T:zD cx ih bG its s s' σ)(hg:iJ ih)(D:Au its n s s' σ ρ0 w0 S F w ρ H τ)(l:its[p]?=some x)(u:S.getD x.i false=false)(v0:∀j,A x.i j->S.getD j false=true)(t0:∀(q:Nat)(y:Item),its[q]?=some y->S.getD y.i false=true->∀j,A y.i j->S.getD j false=true){t:Nat}(h:∀(q:Nat)(y:Item),its[q]?=some y->y.o.dst=some t->y.i=x.i\/A x.i y.i\/A y.i x.i):VR ρ ((σ p).tmp t) (ev n F (.tmp t)):=by
 have o0:p<its.length:=gN l;by_cases B:∃(q:Nat)(y:Item),its[q]?=some y/\y.o.dst=some t
 .
  obtain⟨q,y,a,g⟩:=B;have n0:q<its.length:=gN a;have C:∀(b:Nat)(f:Item),its[b]?=some f->f.o.dst=some t->b=q:=λb f e v=>c.inj b q f y e a (c.Me _ _ _ _ t (c.op _ _ e) (c.op _ _ a) v g);have y0:p<=q->S.getD y.i false=false->VR ρ ((σ p).tmp t) (ev n F (.tmp t)):=λp0 s0=>by rw[rP T hg (aP p) (by omega) λm z _ x0 k i=>by have:=C m z k i;omega,T.first];refine D.FJ t λb f e v=>?_;have:=C b f e v;subst this;rw[a]at e;cases e;exact s0
  rcases h q y a g with d|d|d;.have:=c.inj q p y x a l d;subst this;exact y0 (ar _) (by rw[d];exact u)
  .obtain⟨b,z0,x0,o,r⟩:=c.nX p x l y.i d;have:=c.inj b q z0 y o a r;subst this;rw[rP T hg (q:=b+1) (by omega) (by omega) λm z r0 q0 k i=>by have:=C m z k i;omega];exact D.set t b y a g (v0 _ d)
  .obtain⟨b,z0,x0,o,r⟩:=c.nX q y a x.i d;have:=c.inj b p z0 x o l r;subst this;refine y0 (by omega) ?_;cases u0:S.getD y.i false with
   |false=>rfl
   |true=>rw[t0 q y a u0 _ d]at u;cases u
 .rw[rP T hg (aP p) (by omega) λm z _ _ k i=>B ⟨m,z,k,i⟩,T.first];exact D.FJ t λq y a g=>absurd ⟨q,y,a,g⟩ B
theorem EX(c:pC bG.toList its A)(T:zD cx ih bG its s s' σ)(hg:iJ ih)(u:s.nt=n)(D:Au its n s s' σ ρ0 w0 S F w ρ H τ)(e:its[p]?=some x)(m:S.getD x.i false=false)(k:∀j,A x.i j->S.getD j false=true)(o:∀(q:Nat)(y:Item),its[q]?=some y->S.getD y.i false=true->∀j,A y.i j->S.getD j false=true)(L:List Nat):iX ρ n ((σ p).cut bG x.o L) F:=by
 have z:p<its.length:=gN e;refine⟨(Kl T hg (q:=p) (by omega)).trans u,λt=>?_⟩;rw[IH];split
 .
  rename_i a;refine Pg c T hg D e m k o λq y i h=>?_;rcases bD.1 a with a|a
  .
   unfold oB at a;split at a
   .
    rename_i j b r;split at a
    .rename_i g d;simp at a;subst a;have l:=c.guard x.i x.o j b (c.op p x e) r;cases f:bG[j]? with
     |none=>rw[f]at d;cases d
     |some v=>rw[f]at d;have d:v.dst=some t:=d;have:y.i=j:=c.Me _ _ _ _ t (c.op q y i) (by simpa using f) h d;rw[this];exact .inr (.inl l)
    .cases a
   .cases a
  .exact c.reads x.i x.o t (c.op p x e) a y.i y.o (c.op q y i) h
 .unfold VR;trivial
theorem EW(d:pC bG.toList its A)(D:Au its n s s' σ ρ0 w0 S F w ρ H τ)(f:its[p]?=some x){c:St}{u:Value}(l:σ (p+1)=(σ p).take x.o c)(k:∀z,VR ρ' (c.tmp z) (ev n (rM F x.o.dst u) (.tmp z)))(e:tL ρ ρ')(hi:x.i<S.size):(∀t(q:Nat)(y:Item),its[q]?=some y->y.o.dst=some t->(S.setIfInBounds x.i true).getD y.i false=true->VR ρ' ((σ (q+1)).tmp t) (ev n (rM F x.o.dst u) (.tmp t)))/\∀t,(∀(q:Nat)(y:Item),its[q]?=some y->y.o.dst=some t->(S.setIfInBounds x.i true).getD y.i false=false)->VR ρ' (s.tmp t) (ev n (rM F x.o.dst u) (.tmp t)):=by
 refine⟨λt q y a b j=>?_,λt i=>?_⟩
 .
  by_cases h:y.i=x.i
  .
   have:=d.inj q p y x a f h;subst this;rw[f]at a;cases a;rw[l];have:((σ q).take x.o c).tmp t=c.tmp t:=by unfold St.take;rw[b];show(match((σ q).dE.set t (c.tmp t)).ap t with|some v=>v|none=>_)=_;rw[Tr.a8]
   rw[this];exact k t
  .
   rw[jF hi,aG h]at j;rw[Iw];.exact VR.ext e _ _ (D.set t q y a b j)
   .intro g;exact h (d.Me _ _ _ _ t (d.op q y a) (d.op p x f) b g)
 .
  rw[Iw]
  .
   refine VR.ext e _ _ (D.FJ t λq y a b=>?_);have:=i q y a b;rw[jF hi]at this;split at this;.cases this
   .exact this
  .intro g;have:=i p x f g;rw[jF hi,aE rfl]at this;cases this
theorem IB(t9:gH P cx)(hi:uU P ih)(v:pC bG.toList its A)(T:zD cx ih bG its s s' σ)(hg:iJ ih)(hF:Fr s)(r9:s.nt=n)(f9:kx ρ0 s.nx s'.nx)(D:Au its n s s' σ ρ0 w0 S F w ρ H τ)(i:its[p]?=some x)(z0:x.i<S.size)(z:S.getD x.i false=false)(r0:∀j,A x.i j->S.getD j false=true)(j0:∀(q:Nat)(y:Item),its[q]?=some y->S.getD y.i false=true->∀j,A y.i j->S.getD j false=true)(y0:fX x.o.op=true):LW P n bG [x.o] (λb0 w'=>∃ρ' H' g,Au its n s s' σ ρ0 w0 (S.setIfInBounds x.i true) b0 w' ρ' H' g) F w:=by
 have d9:p<its.length:=gN i;obtain⟨a0,t,g9,e9,h0,n0⟩:=T.step p x i;have l0:=lJ hg h0;have q9:(σ (p+1)).nx=t.nx:=by rw[n0];rfl
 have i0:(σ (p+1)).hp=t.hp:=by rw[n0];rfl
 have j9:s.nx<=(σ p).nx:=by have:=ja T hg (aP p) (by omega);rwa [T.first]at this
 have b9:(σ p).nx<=t.nx:=l0.nx;have i9:t.nx<=s'.nx:=by have:=ja T hg (q:=p+1) (q':=its.length) (by omega) (ar _);rwa [T.tB,q9]at this
 have s0:=FM T hg hF (q:=p) (by omega)
 have l9:∀b o,(σ p).hp.ap b=some o->b<(σ p).nx:=λb o a=>by
  rcases cO b (σ p).nx with h|h;.exact h
  .rw[s0 b h]at a;cases a
 have m9:τ=p:=by
  rcases nl τ p with h|h|h;.have c:=G (l:=its) (i:=τ) (by omega);obtain⟨k,d⟩:=D.xh.qC _ c;have:=r0 _ ((v.ch p x i y0 τ _ h c).1 (.inl k));rw[this]at d;cases d
  .exact h
  .have:=D.xh.nX p x h i y0;rw[this]at z;cases z
 subst m9
 have d0:∀b o r,(σ τ).hp.ap b=some o->ρ b=some r->H.ap b=some o:=by
  intro b o r a B;have u9:=l9 b o a;rcases cO b s.nx with h|h;.rw[D.iB b r B h];exact a
  .obtain⟨m,y,k,d,l,k0⟩:=vf T hg (q:=τ) (by omega) h u9;rw[D.EA b r m y B d l k0,kC (by omega)];exact a
 have c0:kx ρ (σ τ).nx t.nx:=λb k d=>D.Uu b τ x i z k (by omega);refine yy t9 hi hg h0 (EX v T hg r9 D i z r0 j0 a0) (D.post.rY.sub d0) (λ_ _ _ _=>s0) c0 λρ' u w' x9 u0=>Hc ?_;have e:=u0.ext c0;let f:Nat->Option Obj:=λb=>if b<t.nx then t.hp.ap b else H.ap b;have q0:∀b,(uj f s'.nx).ap b=if b<s'.nx then f b else none:=yS f s'.nx
 have w9:∀b o,(uj f s'.nx).ap b=some o->b<t.nx/\t.hp.ap b=some o\/t.nx<=b/\H.ap b=some o:=by
  intro b o a;rw[q0]at a;split at a
  .
   by_cases h:b<t.nx;.simp only[f,aE h]at a;exact .inl ⟨h,a⟩
   .simp only[f,aG h]at a;exact .inr ⟨by omega,a⟩
  .cases a
 have f0:∀b,b<t.nx->(uj f s'.nx).ap b=t.hp.ap b:=λb a=>by rw[q0,aE (by omega)];simp only[f,aE a]
 have s9:∀b,t.nx<=b->b<s'.nx->(uj f s'.nx).ap b=H.ap b:=λb a v9=>by rw[q0,aE v9];simp only[f];rw[aG (by omega)]
 have n9:=u0.XF (H:=H) (H':=uj f s'.nx) D.post.rY d0 s0 l0.tT e w9;have p9:=D.post.Rp n9 rfl j9 i9;obtain⟨g,C⟩:=Mm its (S.setIfInBounds x.i true)
 have k9:∀(q:Nat)(y:Item),τ<q->its[q]?=some y->fX y.o.op=true->(S.setIfInBounds x.i true).getD y.i false=false:=by
  intro q y o0 c x0;have p0:y.i≠x.i:=λh=>by have:=v.inj q τ y x c i h;omega
  rw[jF z0,aG p0]
  cases a:S.getD y.i false with
   |false=>rfl
   |true=>have:=j0 q y c a _ ((v.ch q y c x0 τ x o0 i).1 (.inl y0));rw[this]at z;cases z
 have g0:τ+1<=g:=by
  rcases cO τ g with h|h;.exact h
  .
   exfalso;have c:=G (l:=its) (i:=g) (by omega);obtain⟨k,d⟩:=C.qC _ c;rcases cO g τ with l|l;.have:=r0 _ ((v.ch τ x i y0 g _ l c).1 (.inl k));rw[jF z0,this]at d;split at d<;>cases d
   .
    have:g=τ:=by omega
    subst this;have d:=(C.qC x i).2;rw[jF z0,aE rfl]at d;cases d
 have m0:∀q t0 b,τ+1<=q->q<=t0->t0<=g->b<(σ q).nx->(σ t0).hp.ap b=(σ q).hp.ap b:=λq t0 b k d l a=>vg T hg v d (by have:=C.le;omega) a (λm y k0 h9 c x0=>by have:=C.nX m y (by omega) c x0;rw[k9 m y (by omega) c x0]at this;cases this);have e0:=EW v D i (u:=u) n0 x9.2 e z0;refine⟨ρ',uj f s'.nx,g,C,p9,?_,?_,?_,e0.1,e0.2⟩;.intro b r B a;rw[f0 b (by omega),m0 (τ+1) g b (ar _) g0 (ar _) (by omega),i0]
 .
  intro b r q y B c k d;have o0:q<its.length:=gN c;rcases cO τ q with h|h
  .
   have z9:=ja T hg (q:=τ+1) (q':=q) (by omega) (by omega);have y9:=ja T hg (q:=q+1) (q':=its.length) (by omega) (ar _);rw[T.tB]at y9;rw[s9 b (by omega) (by omega)];have o9:ρ b=some r:=by rw[<-u0.ug b (.inr (by omega))];exact B
   rw[D.EA b r q y o9 c k d,ri (by omega)];rcases Nat.le_total g (q+1)with l|l;.rw[ri l]
   .rw[kC l,m0 (q+1) g b (by omega) l (ar _) d]
  .have z9:=ja T hg (q:=q+1) (q':=τ+1) (by omega) (by omega);rw[kC (by omega),f0 b (by omega),m0 (τ+1) g b (ar _) g0 (ar _) (by omega),i0]
 .
  intro b q y c v0 k d;have o0:q<its.length:=gN c;rw[jF z0]at v0;split at v0;.cases v0
  .
   rename_i p0;have c9:q≠τ:=λh=>by subst h;rw[i]at c;cases c;exact p0 rfl
   rw[u0.ug b ?_];.exact D.Uu b q y c v0 k d
   .
    show b<(σ τ).nx\/t.nx<=b;rcases cO q τ with h|h;.have:=ja T hg (q:=q+1) (q':=τ) (by omega) (by omega);left;omega
    .have:=ja T hg (q:=τ+1) (q':=q) (by omega) (by omega);right;omega
theorem IA(hc:gH P cx)(hi:uU P ih)(k:pC bG.toList its A)(T:zD cx ih bG its s s' σ)(hg:iJ ih)(hF:Fr s)(hn:s.nt=n)(hU:kx ρ0 s.nx s'.nx)(D:Au its n s s' σ ρ0 w0 S F w ρ H τ)(i:its[p]?=some x)(n0:x.i<S.size)(r0:S.getD x.i false=false)(a0:∀j,A x.i j->S.getD j false=true)(y9:∀(q:Nat)(y:Item),its[q]?=some y->S.getD y.i false=true->∀j,A y.i j->S.getD j false=true)(p0:fX x.o.op=false):LW P n bG [x.o] (λn9 w'=>∃ρ' H' τ',Au its n s s' σ ρ0 w0 (S.setIfInBounds x.i true) n9 w' ρ' H' τ') F w:=by
 have hp:p<its.length:=gN i;obtain⟨y0,t,hL,hm,u9,e0⟩:=T.step p x i;have f9:=lJ hg u9;have hnx1:(σ (p+1)).nx=t.nx:=by rw[e0];rfl
 have hhp1:(σ (p+1)).hp=t.hp:=by rw[e0];rfl
 have nx0:s.nx<=(σ p).nx:=by have:=ja T hg (aP p) (by omega);rwa [T.first]at this
 have nx1:(σ p).nx<=t.nx:=f9.nx;have nx2:t.nx<=s'.nx:=by have:=ja T hg (q:=p+1) (q':=its.length) (by omega) (ar _);rwa [T.tB,hnx1]at this
 have j9:=FM T hg hF (q:=p) (by omega);have i0:=EX k T hg hn D i r0 a0 y9 y0
 have s9:∀(m:Nat)(y:Item),its[m]?=some y->A y.i x.i->S.getD y.i false=false:=by intro m y c b9;cases l:S.getD y.i false with
  |false=>rfl
  |true=>have:=y9 m y c l _ b9;rw[this]at r0;cases r0
 have m9:∀a v b,m7 x.o.op=some a->((σ p).cut bG x.o y0).ev a=some v->wb b v->((σ p).cut bG x.o y0).hp.ap b≠none->H.ap b=((σ p).cut bG x.o y0).hp.ap b:=by
  intro a v b q0 d0 l v0;have v0:(σ p).hp.ap b≠none:=v0;show H.ap b=(σ p).hp.ap b;have v9:=G5 q0
  have z9:b<(σ p).nx:=by
   rcases cO b (σ p).nx with h|h;.exact h
   .exact absurd (j9 b h) v0
  have z0:∃r,ρ b=some r:=by
   have:=bV i0 d0;cases v<;>first|exact l.elim|skip
   .cases l;unfold VR at this;obtain⟨r,h,_⟩:=this;exact⟨r,h⟩
   .cases l;unfold VR at this;obtain⟨r,_,h,_⟩:=this;exact⟨r,h⟩
   .cases l;unfold VR at this;obtain⟨r,_,h,_⟩:=this;exact⟨r,h⟩
  obtain⟨r,z0⟩:=z0
  have hτ:p<τ:=by
   rcases cO p τ with h|h;.exact h
   .
    exfalso;have c:=G (l:=its) (i:=τ) (by omega);obtain⟨d,g⟩:=D.xh.qC _ c;rcases cO τ p with o|o;.have:=a0 _ (k.ld p x i v9 τ _ o c d);rw[this]at g;cases g
    .
     have:τ=p:=by omega
     subst this;have:=(D.xh.qC x i).1;rw[p0]at this;cases this
  have x9:(σ τ).hp.ap b=(σ p).hp.ap b:=by
   refine vg T hg k (by omega) D.xh.le z9 λm y x0 s0 c C Lm hLm=>?_
   have hpm:p<m:=by
    rcases cO p m with h|h;.exact h
    .
     have:m=p:=by omega
     subst this;rw[i]at c;cases c;rw[p0]at C;cases C
   rcases(k.ch m y c C p x hpm i).2 v9 with B|⟨a',B,c0⟩;.have:=D.xh.nX m y s0 c C;rw[s9 m y c B]at this;cases this
   .rw[q0]at B;cases B;refine xH hLm a v b c0 ?_ l;rw[Ni (I9 q0)]at d0;rw[<-d0];cases a with
    |tmp z=>show some _=some _;congr 1;refine rP T hg x0 (by have:=D.xh.le;omega) λr9 l0 b0 h9 t9 hd'=>?_;have e9:=k.T8 x.i x.o z (k.op p x i) q0 l0.i l0.o (k.op r9 l0 t9) hd';obtain⟨q',x',h11,d9,c9⟩:=k.nX p x i _ e9;have:=k.inj q' r9 x' l0 d9 t9 c9;omega
    |_=>rfl
  rcases cO b s.nx with h|h;.rw[D.iB b r z0 h,x9]
  .obtain⟨m,y,d,g,o,x0⟩:=vf T hg (q:=p) (by omega) h z9;rw[D.EA b r m y z0 g o x0,kC (by omega),x9]
 obtain⟨u0,i9,g2,h9,g9,j0⟩:=Bm (h2:=H) u9 p0 (k.Ri _ _ (k.op p x i)) (z6 hm) m9;have k0:((σ p).cut bG x.o y0).nx=(σ p).nx:=rfl;have k9:(((σ p).cut bG x.o y0).at H).nx=(σ p).nx:=rfl;have p9:u0.nx=t.nx:=by rcases j0 with⟨_,d,_,g⟩|⟨_,t0,_,d,_,g⟩<;>rw[d,g]
 have o9:kx ρ (σ p).nx u0.nx:=λb d g=>D.Uu b p x i r0 d (by omega);refine yy (s:=((σ p).cut bG x.o y0).at H) hc hi hg i9 ⟨i0.1,i0.2⟩ D.post.rY (λh f l9 hh=>absurd hh (g9 h f l9)) o9 λρ' u w' a9 g0=>Hc ?_;have e:=g0.ext o9;have hpost:=D.post.Rp g0 rfl nx0 (by rw[p9];exact nx2);have q9:=EW k D i (u:=u) e0 (λz=>by rw[<-h9];exact a9.2 z) e n0
 have hst:Vq its (S.setIfInBounds x.i true) τ:=by
  refine⟨D.xh.le,λq y f0 c C=>?_,λy c=>?_⟩
  .
   rw[jF n0];split;.rfl
   .exact D.xh.nX q y f0 c C
  .
   obtain⟨d,g⟩:=D.xh.qC y c;refine⟨d,?_⟩;rw[jF n0,aG];.exact g
   .intro he;have:=k.inj τ p y x c i he;subst this;rw[i]at c;cases c;rw[p0]at d;cases d
 have m0:∀b,b<(σ p).nx\/t.nx<=b->ρ' b=ρ b:=λb l=>g0.ug b (by rw[k9,p9];exact l)
 have h0:∀b,b≠(σ p).nx\/t.nx=(σ p).nx->u0.hp.ap b=H.ap b:=by
  intro b l;rcases j0 with⟨_,_,d,_⟩|⟨_,t0,_,d,g,_⟩;.rw[d]
  .rw[g];rw[k0]at d⊢;exact Tr.bW _ _ (by omega)
 refine⟨ρ',u0.hp,τ,hst,hpost,?_,?_,?_,q9.1,q9.2⟩;.intro b r z0 l;rw[h0 b (.inl (by omega))];exact D.iB b r (by rw[<-m0 b (.inl (by omega))];exact z0) l
 .
  intro b r q y z0 c d g;have f0:q<its.length:=gN c;rcases nl q p with h|h|h;.have:=ja T hg (q:=q+1) (q':=p) (by omega) (by omega);rw[h0 b (.inl (by omega))];exact D.EA b r q y (by rw[<-m0 b (.inl (by omega))];exact z0) c d g
  .
   subst h;rw[i]at c;cases c;rcases j0 with⟨_,o,_⟩|⟨hfl,t0,o,x0,s0,_⟩;.rw[k0]at o;omega
   .
    rw[k0]at o x0 s0;have l:b=(σ q).nx:=by omega
    have hget:u0.hp.ap b=some t0:=by rw[s0,l,Tr.a8]
    have w9:(σ (q+1)).hp.ap b=some t0:=by rw[hhp1,o,l];exact Tr.a8 _ _ _
    rw[hget];rcases Nat.le_total τ (q+1)with B|B;.rw[ri B,w9]
    .rw[kC B,vg T hg k B D.xh.le g λm y c0 b0 c C=>?_,w9];have:=D.xh.nX m y b0 c C;rw[s9 m y c ((k.ch m y c C q x (by omega) i).1 (.inr hfl))]at this;cases this
  .have:=ja T hg (q:=p+1) (q':=q) (by omega) (by omega);rw[h0 b (by omega)];exact D.EA b r q y (by rw[<-m0 b (.inr (by omega))];exact z0) c d g
 .
  intro b q y c o0 d g;have f0:q<its.length:=gN c;rw[jF n0]at o0;split at o0;.cases o0
  .
   rename_i v0;have hqp:q≠p:=λh=>by subst h;rw[i]at c;cases c;exact v0 rfl
   rw[m0 b ?_];.exact D.Uu b q y c o0 d g
   .
    rcases cO q p with h|h;.have:=ja T hg (q:=q+1) (q':=p) (by omega) (by omega);left;omega
    .have:=ja T hg (q:=p+1) (q':=q) (by omega) (by omega);right;omega
theorem RJ(v:gH P cx)(hi:uU P ih)(hg:iJ ih){z9:Nat}{l:List Item}{K:Am}(l9:oF bG.toList=some l)(h:ga cx ih bG s l=some s')(v0:iX ρ n s F)(r9:eY ρ s.hp w)(r0:Fr s)(q0:kx ρ s.nx s'.nx)(q9:∀ρ' k w',iX ρ' n s' k->fG ρ s w ρ' s' w'->K.cS k w'):W P n (.region z9 bG true) K F w:=by
 obtain⟨A,e⟩:=KD l9;obtain⟨σ,a⟩:=tx h;have c0:bG=bG.toList.toArray:=by simp
 have x9:s.nx<=s'.nx:=by have:=ja a hg (aP l.length) (ar _);rwa [a.first,a.tB]at this
 have g9:W P n (.region z9 bG.toList.toArray true) K F w:=by
  refine Sm (l:=bG.toList) (λS k w'=>∃ρ' x0 y0,Au l n s s' σ ρ w S k w' ρ' x0 y0) v.mix e.Nd ?_ ?_ ?_
  .
   obtain⟨τ,n0⟩:=Mm l (Array.replicate bG.toList.length false)
   have d0:∀i,(Array.replicate bG.toList.length false).getD i false=false:=λi=>by
    by_cases h:i<bG.toList.length;.simp[Array.getD]
    .simp[Array.getD]
   have h9:∀b,b<s.nx->(σ τ).hp.ap b=s.hp.ap b:=λb g=>by have:=vg a hg e (aP τ) n0.le (b:=b) (by rw[a.first];exact g) (λm y _ f d n9=>by have:=n0.nX m y f d n9;rw[d0]at this;cases this);rw[this,a.first]
   have y9:∀(q:Nat)(y:Item)b,l[q]?=some y->(σ q).nx<=b->b<(σ (q+1)).nx->ρ b=none:=λq y b d u f=>by have k9:q<l.length:=gN d;have v9:=ja a hg (aP q) (by omega);have u9:=ja a hg (q:=q+1) (q':=l.length) (by omega) (ar _);rw[a.first]at v9;rw[a.tB]at u9;exact q0 b (by omega) (by omega)
   refine⟨ρ,s.hp,τ,n0,⟨r9.heap rfl,λ_ _=>rfl,⟨rfl,rfl,rfl,ar _,λ_ _ _=>rfl⟩,λ_ h=> .inl h,x9⟩,?_,?_,?_,?_,?_⟩;.intro b r _ g;exact(h9 b g).symm
   .intro b r q y z0 d u f;rw[y9 q y b d u f]at z0;cases z0
   .intro b q y d _ u f;exact y9 q y b d u f
   .intro t q y d B t0;rw[d0]at t0;cases t0
   .intro t _;exact v0.2 t
  .
   rintro S i o k w' p0 j9 u0 j0 m9⟨ρ',x0,y0,D⟩;obtain⟨p,x,l0,b0⟩:=e.all i (gN u0);have a0:=e.op p x l0;rw[b0,u0]at a0;cases a0;subst b0;have k0:=e.ob S p0 x.i x.o u0 m9;have g0:∀(q:Nat)(y:Item),l[q]?=some y->S.getD y.i false=true->∀j,A y.i j->S.getD j false=true:=λq y d t0=>e.ob S p0 y.i y.o (e.op q y d) (p0 y.i y.o (e.op q y d) t0);have e0:x.i<S.size:=by rw[j9];exact gN u0
   rw[<-c0]
   cases h0:fX x.o.op with
    |true=>exact IB v hi e a hg r0 v0.1 q0 D l0 e0 j0 k0 g0 h0
    |false=>exact IA v hi e a hg r0 v0.1 q0 D l0 e0 j0 k0 g0 h0
  .
   rintro S k w' p9⟨ρ',x0,y0,D⟩;have i0:∀(q:Nat)(y:Item),l[q]?=some y->S.getD y.i false=true:=λq y d=>p9 y.i (gN (e.op q y d))
   have i9:y0=l.length:=by
    rcases cO y0 l.length with h|h;.have d:=G h;have:=(D.xh.qC _ d).2;rw[i0 _ _ d]at this;cases this
    .have:=D.xh.le;omega
   subst i9
   have w9:∀b o r,s'.hp.ap b=some o->ρ' b=some r->x0.ap b=some o:=by
    intro b o r g z0;have f0:=FM a hg r0 (q:=l.length) (ar _);rw[a.tB]at f0
    have o9:b<s'.nx:=by
     rcases cO b s'.nx with h|h;.exact h
     .rw[f0 b h]at g;cases g
    rcases cO b s.nx with h|h;.rw[D.iB b r z0 h,a.tB];exact g
    .obtain⟨m,y,u,f,t9,s9⟩:=vf a hg (q:=l.length) (ar _) h (by rw[a.tB];exact o9);rw[D.EA b r m y z0 f t9 s9,kC (by omega),a.tB];exact g
   refine q9 ρ' k w' ⟨?_,λt=>?_⟩ ⟨D.post.rY.sub w9,D.post.ug,D.post.kp,λc v=>D.post.dr c (v.sub w9),x9⟩;.have:=Kl a hg (q:=l.length) (ar _);rw[a.tB]at this;exact this.trans v0.1
   .
    by_cases m0:∃(q:Nat)(y:Item),l[q]?=some y/\y.o.dst=some t;.obtain⟨q,y,d,B⟩:=m0;have k9:q<l.length:=gN d;have:=D.set t q y d B (i0 q y d);have C:=rP a hg (q:=q+1) (q':=l.length) (t:=t) (by omega) (ar _) (λm z u f s0 o0=>by have:=e.inj m q z y s0 d (e.Me _ _ _ _ t (e.op _ _ s0) (e.op _ _ d) o0 B);omega);rw[a.tB]at C;rw[C];exact this
    .have:=D.FJ t λq y d B=>absurd ⟨q,y,d,B⟩ m0;have C:=rP a hg (q:=0) (q':=l.length) (t:=t) (aP _) (ar _) λm z _ _ s0 o0=>m0 ⟨m,z,s0,o0⟩;rw[a.tB,a.first]at C;rw[C];exact this
 rw[c0];exact g9
end
section
variable{P:Program}{cx:Cx}
theorem Q8{b:Code}{e:Ex}{a:St}{n:Nat}{K:Am}{F:dN}{w:World}(k:Nat)(hi:∀j,j<k->uU P (run cx j))(hg:∀j,iJ (run cx j)){s:St}{ρ:Rn}(h:run cx k (.loop b) s=some (e,a))(m:iX ρ n s F)(o:eY ρ s.hp w)(d:Fr s)(f:kx ρ s.nx a.nx)(p:∀l c i,iX l n a c->fG ρ s w l a i->Zf K e c i):W P n (.loop b) K F w:=by
 refine Vn (σ:=Nat) (λj=>j) (λj F w=>j<=k/\∃s ρ,run cx j (.loop b) s=some (e,a)/\iX ρ n s F/\eY ρ s.hp w/\Fr s/\kx ρ s.nx a.nx/\∀l c i,iX l n a c->fG ρ s w l a i->Zf K e c i) k ⟨ar _,s,ρ,h,m,o,d,f,p⟩ ?_;rintro j F w⟨u0,s,ρ,h,m,o,d,f,p⟩
 cases j with
  |zero=>cases h
  |succ j=>
  have h:(match run cx j b s with|some (.cS,x0)=>run cx j (.loop b) x0|r=>r)=some (e,a):=h;split at h;.rename_i y x;have B:=hg j _ _ _ _ x;have C:=hg j _ _ _ _ h;refine hi j (by omega) b s .cS y x n ρ F w _ m o d (f.sub (ar _) C.nx) λu v z q g=>?_;exact⟨j,bf j,by omega,y,u,h,q,g.rY,B.fr d,g.undef f,λv0 A w0 D y0=>p v0 A w0 D (g.trans y0)⟩
  .
   rename_i t;have t:e≠.cS:=λz0=>by subst z0;exact t a h
   refine hi j (by omega) b s e a h n ρ F w _ m o d f λu v z q g=>?_;have:=p u v z q g
   cases e with
    |cS=>exact absurd rfl t
    |ret=>exact this
    |exit t0=>exact this
theorem Uf(t0:gH P cx):∀k,uU P (run cx k):=by
 intro k
 induction k using Nat.strongRecOn with
  |_ k r0=>
  intro c s e d h n y u w D f g o p i
  cases k with
   |zero=>cases h
   |succ k=>
   have v:=r0 k (bf k);have w0:=vo (cx:=cx) k;have n0:=h
   match c,h with
    | .skip,h=>cases h;exact Vm (i y u w f (fG.refl g))
    | .region B y0 false,h=>
     have h:(match jM cx (run cx k) y0 s y0.toList with|some d=>some (Ex.cS,d)|none=>none)=some (e,d):=h;split at h
     .
      rename_i u0 A;cases h;have:=BC (P:=P) (n:=n) (k:=D.cS) t0 v w0 A f g o p i;have s0:y0=y0.toList.toArray:=by simp
      rw[s0];refine PE ?_;rw[<-s0];exact this
     .cases h
    | .region B y0 true,h=>
     have h:(match oF y0.toList with
      |some l=>match ga cx (run cx k) y0 s l with|some d=>some (Ex.cS,d)|none=>none
      |none=>none)=some (e,d):=h
     split at h
     .
      rename_i l j0;split at h;.rename_i u0 A;cases h;exact RJ t0 v w0 j0 A f g o p i
      .cases h
     .cases h
    | .seq a b,h=>
     have h:(match run cx k a s with|some (.cS,d)=>run cx k b d|r=>r)=some (e,d):=h;split at h;.rename_i u0 A;have p0:=w0 _ _ _ _ A;have o0:=w0 _ _ _ _ h;refine Sl (v _ _ _ _ A n y u w _ f g o (p.sub (ar _) o0.nx) λC m t z q=>?_);exact v _ _ _ _ h n C m t D z q.rY (p0.fr o) (q.undef p) λg0 q0 h0 m0 i0=>i g0 q0 h0 m0 (q.trans i0)
     .
      rename_i x0;have x0:e≠.cS:=λk0=>by subst k0;exact x0 d h
      refine Sl (v _ _ _ _ h n y u w _ f g o p λC m t z q=>?_);have:=i C m t z q
      cases e with
       |cS=>exact absurd rfl x0
       |ret=>exact this
       |exit B=>exact this
    | .cond x a b,h=>
     have h:(match s.ev x with|some (.bool true)=>run cx k a s|some (.bool false)=>run cx k b s|_=>none)=some (e,d):=h;split at h;.rename_i v0;have:=bV f v0;unfold VR at this;exact PF this (v _ _ _ _ h n y u w D f g o p i)
     .rename_i v0;have:=bV f v0;unfold VR at this;exact PG this (v _ _ _ _ h n y u w D f g o p i)
     .cases h
    | .block B b,h=>
     have h:(match run cx k b s with|some (.exit j,d)=>bif Nat.beq j B then some (Ex.cS,d)else some (.exit j,d)|r=>r)=some (e,d):=h;split at h
     .
      rename_i j u0 A;rw[aH]at h;split at h;.rename_i z0;cases h;refine C0 (v _ _ _ _ A n y u w _ f g o p λC m t z q=>?_);show Wk.xG j ((B,D.cS)::D.uy) m t;unfold Wk.xG;rw[z0];exact i C m t z q
      .
       rename_i z0;cases h;refine C0 (v _ _ _ _ A n y u w _ f g o p λC m t z q=>?_);show Wk.xG j ((B,D.cS)::D.uy) m t;unfold Wk.xG
       have z0:Nat.beq j B=false:=by cases l0:Nat.beq j B with
        |false=>rfl
        |true=>exact absurd l0 z0
       rw[z0];exact i C m t z q
     .rename_i x0;refine C0 (v _ _ _ _ h n y u w _ f g o p λC m t z q=>?_);have:=i C m t z q;cases e with
      |cS=>exact this
      |ret=>exact this
      |exit j=>exact absurd h (x0 j d)
    | .loop b,h=>exact Q8 (k+1) (λj z0=>r0 j z0) vo n0 f g o p i
    | .exit B,h=>cases h;exact Vo (i y u w f (fG.refl g))
    | .ret,h=>cases h;exact Y7 (i y u w f (fG.refl g))
    | .rangeFunc _ _ _ _,h=>cases h
    | .scope _,h=>cases h
    | .label _,h=>cases h
    | .goto _,h=>cases h
    | .refuse _,h=>cases h
theorem E4(b:gH P cx)(k:Nat){f:FuncId}{fn:Func}{args:List HV}{s e:St}{v:HV}{us:List Value}{ρ:Rn}{w:World}(d:cx.fn.ap f=some fn)(p:cx.ext.ap f=none)(h:call cx (run cx k) f args s=some (v,e))(j:eY ρ s.hp w)(i:Fr s)(l:kx ρ s.nx e.nx)(o:dY ρ args us):zF P f us.toArray w (C9 ρ s w e v):=by
 rcases IW b (Uf b k) (vo k) h j i l o with⟨u,q,a,_⟩|⟨_,a⟩
 .
  exfalso;unfold call at h;rw[p,d]at h;simp only at h
  cases g:fn.body with
   |none=>rw[g]at h;cases h
   |some c=>
   have m:=b.fn f fn d;have n:¬fn.name= "runtime.NumGoroutine" :=by simpa using b.nm f fn d
   have:(callFunc f us.toArray).run P w= .ok (.enter f us.toArray) w:=by simp[callFunc,Sem.run,m,n,g,program]
   rw[this]at a;cases a
 .exact a
end
theorem Aj:∀(n t:Nat)(jR:Array Value),(∀x,x∈jR.toList->x.oneCell'=true)->∀x,x∈(Extern.BytealgMakeNoZero.digits n t jR).toList->x.oneCell'=true
 |0,_,_,h=>h
 |n+1,t,jR,h=>by
  unfold Extern.BytealgMakeNoZero.digits;refine Aj n _ _ λx a=>?_;rw[Array.toList_push,bD]at a;rcases a with a|a;.exact h x a
  .simp at a;subst a;rfl
theorem OH {P : Program} {w : World} {t e : TypeId} (ht : P.underlying t = some (.slice e)) (n : Nat) (hn : n ≤ 281474976710656) (q : Question) (hq : q.forced = false) :
    ((do
        let .slice wd ← underlying t | stuck "bytealg.MakeNoZero: slice type expected"
        if (n : Int) < 0 || (n : Int) > 2 ^ 48 then runtimePanic (.error "makeslice: len out of range")
        let cap ← choose (.appendCap (n : Int).toNat 0 wd)
        askRoom cap
        let bytes ← choose q
        let a ← newRow wd (Extern.BytealgMakeNoZero.digits cap bytes #[])
        pure (.slice (some a) (n : Int).toNat cap)) : Sem Value).run P w = .ok (.slice (some ⟨w.heap.size, 0, none⟩) n (Extern.BytealgMakeNoZero.digits (grownCap w n 0 e) (q.cut (w.tape (w.drawn + 1) q)) #[]).size) (w.drew.drew.alloc (.cells (Extern.BytealgMakeNoZero.digits (grownCap w n 0 e) (q.cut (w.tape (w.drawn + 1) q)) #[]) e)) := by
  have h1 : ¬ (n : Int) < 0 := by omega
  have h2 : ¬ (281474976710656 : Int) < (n : Int) := by omega
  have hq2 : (Question.appendCap n 0 e).forced = false := rfl
  simp [run_underlying ht, h1, h2, hq, hq2, newRow, Lib.size_digits, grownCap]
theorem QC{P:Program}{w:World}{ps:Array TypeId}{t e:TypeId}(c:P.underlying t=some (.slice e))(n:Nat)(b:n<=281474976710656):∃cs:Array Value,(∀x,x∈cs.toList->x.oneCell'=true)/\(Extern.BytealgMakeNoZero.makeNoZero ps #[t] #[.int .i64 n]).run P w= .ok (.slice (some ⟨w.heap.size,0,none⟩) n cs.size) (w.drew.drew.alloc (.cells cs e))/\n<=cs.size/\(n<=maxLen->cs.size<=maxLen):=by
 refine⟨_,Aj _ _ _ λx d=>by simp at d,OH c n b _ rfl,?_,?_⟩;.rw[Lib.size_digits];simpa using grownCap_ge w n 0 e
 .intro a;rw[Lib.size_digits];simpa using grownCap_le_maxLen w n 0 e a
theorem UB{P:Program}{f:Nat}{fn:Func}{ps:Array TypeId}{t e:TypeId}(A:P.funcs[f]?=some fn)(z0:(fn.name== "runtime.NumGoroutine")=false)(q:fn.body.isNone=true)(D:Extern.findNext fn=none)(z:Extern.find fn=some (Extern.BytealgMakeNoZero.makeNoZero ps #[t]))(w0:P.underlying t=some (.slice e)):Du P f 1:=by
 intro t0 s q0 v u0 w p0 h o p j;unfold yO at h;split at h
 .
  rename_i s _ _ _ n s0;rw[aH]at h;split at h
  .
   rename_i C;simp only[bS]at C;cases h;unfold dY at j;obtain⟨u,o0,rfl,d,g⟩:=j;unfold dY at g;subst g;unfold VR at d;subst d;obtain⟨a,y0,k,l,m⟩:=QC (P:=P) (w:=w) (ps:=ps) w0 n (by omega)
   have x0:(callFunc f #[.int .i64 (Int.ofNat n)]).run P w= .ok (.value (.slice (some ⟨w.heap.size,0,none⟩) n a.size)) (w.drew.drew.alloc (.cells a e)):=by
    have r:fn.body=none:=by simpa using q
    have:(Extern.BytealgMakeNoZero.makeNoZero ps #[t] #[.int .i64 (Int.ofNat n)]).run P w= .ok (.slice (some ⟨w.heap.size,0,none⟩) n a.size) (w.drew.drew.alloc (.cells a e)):=k;unfold callFunc;simp only[Sem.run_bind,program,Sem.run,Result.andThen_ok,A,z0,r,D,z,mark];simp only[ec,ft,Option.isNone_none,fY,Sem.run_bind,Sem.run,Result.andThen_ok,this];rfl
   have B:(a.toList.take n).length=n:=by simp;omega
   have v0:u0 s.nx=none:=p s.nx (ar _) (bf _);have c:=fG.bT (z:=1) (l:=List.replicate n .any) (us:=a.toList.take n) (ex:=a.toList.drop n) (T:=e) (w1:=w.drew.drew) o v0 (vK (by simp[B]) λi x u b r0=>by rw[cm]at b;split at b<;>cases b;unfold VR;trivial) (λx b=>y0 x (eB b)) ((Kp.drew w).trans (Kp.drew _)) rfl;rw[dQ]at c;have y:a.toList.toArray=a:=by simp
   rw[y]at c;refine .inl ⟨_,_,_,x0,?_,c⟩;unfold VR;refine⟨_,a.size,gc _ _ _,by simp,l,?_,?_,m (by unfold maxLen;omega),by omega⟩;.simp;omega
   .simp
  .cases h
 .exact absurd ‹1=2› (by decide)
 .cases h
theorem YS{P:Program}{n:Nat}{ext:Tr Nat}{DJ:Tr (List Bool)}(a:P.funcs.toList.all (λg=>! g.name== "runtime.NumGoroutine")=true)(i:∀f q,ext.ap f=some q->Du P f q)(d:∀t m,DJ.ap t=some m->ym P t m)(e:P.follows .mixedOrders=true):gH P ⟨Et P n,Ev P.funcs.toList 0 .e,ext,DJ⟩:=by refine⟨λt x h=>B0 h,λf g h=>Eu h,λf g h=>?_,i,d,e⟩;have b:=Eu h;rw[bR]at a;have c:=a g (Y (by rw[kV];exact b));simpa using c
theorem xA{α:Type}{Q:Nat->α->Prop}(f:Nat)(q:α)(h:(Tr.e:Tr α).ap f=some q):Q f q:=by rw[Tr.kq]at h;cases h
theorem pu{α:Type}{Q:Nat->α->Prop}{t:Tr α}{a:Nat}{b:α}(d:∀f q,t.ap f=some q->Q f q)(h:Q a b)(f:Nat)(q:α)(c:(t.set a b).ap f=some q):Q f q:=by
 rw[Tr.dg]at c;split at c;.rename_i e;subst e;simp only[eP]at c;subst c;exact h
 .exact d f q c
theorem Qm{P:Program}{f:Nat}{fn:Func}(A:P.funcs[f]?=some fn)(B:(fn.name== "runtime.NumGoroutine")=false)(i:fn.body.isSome=true)(x0:∀w,zF P f #[] w λv k=>v= .bool true/\Kp [] w k):Du P f 2:=by
 intro t0 s r0 v u0 w q0 h e s0 d;unfold yO at h;split at h;.rename_i y0;cases y0
 .
  cases h;unfold dY at d;subst d;refine .inr ⟨?_,zF.mono (x0 w) λu k⟨y,a⟩=>⟨u0,by unfold VR;exact y,⟨λb x r g d=>?_,λb p r g d=>?_,λb l o w0 r v0 j C z0 D=>e.inj b l o w0 r v0 j C z0 D⟩,λ_ _=>rfl,⟨a.os,a.tape,a.output,a.size,λb i _=>a.block b i (by simp)⟩,λ_ h=> .inl h,ar _⟩⟩
  .
   have j:¬fn.name= "runtime.NumGoroutine" :=by simpa using B
   obtain⟨c,z⟩:=el.1 i;simp[callFunc,Sem.run,A,j,z,program]
  .exact(e.cn b x r g d).mv (tL.refl _) a.size (a.block _ (e.at g d) (by simp))
  .obtain⟨n,m,q,t⟩:=e.map b p r g d;exact⟨n,m,by rw[a.block _ (e.at g d) (by simp)];exact q,t⟩
 .cases h
open Go.Proofs
def GU:Cx:=⟨Et Tryz.prog 371,Ev Tryz.prog.funcs.toList 0 .e,Tr.e.set 104 1,.e⟩
theorem nmB:Tryz.prog.funcs.toList.all (λg=>! g.name== "runtime.NumGoroutine")=true:=by kernel_rfl
def Iu:Func:=(Tryz.prog.funcs[104]?).getD default
theorem UD:Tryz.prog.funcs[104]?=some Iu:=by kernel_rfl
theorem UC:(Iu.name== "runtime.NumGoroutine")=false:=by kernel_rfl
theorem OZ:Iu.body.isNone=true:=by kernel_rfl
theorem OX:Extern.findNext Iu=none:=by kernel_rfl
theorem OY:Extern.find Iu=some (Extern.BytealgMakeNoZero.makeNoZero #[3] #[67]):=by kernel_rfl
def ack:TypeId:=match Tryz.prog.underlying 67 with|some (.slice e)=>e|_=>0
theorem UA:Tryz.prog.underlying 67=some (.slice ack):=by kernel_rfl
theorem WU:Tryz.prog.follows .mixedOrders=true:=by kernel_rfl
theorem WT:Du Tryz.prog 104 1:=UB UD UC OZ OX OY UA
theorem U7:gH Tryz.prog GU:=YS nmB (pu xA WT) xA WU
def T9:St:=⟨0,.e,.e,0,[],.undef⟩
def rp:Option (HV×St)->Bool|some (.bool b,_)=>b|_=>false
theorem LB:rp (call GU (run GU 100000) 11 [] T9)=true:=by kernel_rfl
theorem Pz:(GU.fn.ap 11).isSome=true:=by kernel_rfl
theorem LC:(GU.ext.ap 11).isNone=true:=by kernel_rfl
theorem Uw(b:Nat)(o:Obj)(h:T9.hp.ap b=some o):False:=by rw[show T9.hp= .e from rfl,Tr.kq]at h;cases h
theorem Py(w:World):zF Tryz.prog 11 #[] w λv j=>v= .bool true/\Kp [] w j:=by
 have h:=LB
 cases d:call GU (run GU 100000) 11 [] T9 with
  |none=>rw[d]at h;cases h
  |some r=>
  rw[d]at h;obtain⟨v,s⟩:=r;cases v<;>first|(cases h;done)|skip
  rename_i b;have c:b=true:=h;subst c
  cases g:GU.fn.ap 11 with
   |none=>have:=Pz;rw[g]at this;cases this
   |some n=>
   have l:GU.ext.ap 11=none:=by simpa using LC
   refine Calls.mono (E4 (ρ:=λ_=>none) (w:=w) (us:=[]) U7 100000 g l d ⟨λb x r h=>(Uw b _ h).elim,λb x r h=>(Uw b _ h).elim,λb m o p r q _ h=>(Uw b _ h).elim⟩ (λb _=>Tr.kq b) (λ_ _ _=>rfl) (by unfold dY;rfl)) ?_;rintro e j⟨v,rfl,t,f,a⟩;unfold VR at f;refine⟨v,rfl,f,a.kp.os,a.kp.tape,a.kp.output,a.kp.size,λb c _=>a.kp.block b c ?_⟩;rintro⟨i,o,r,k,_⟩;exact Uw _ _ k
def Sc(P:Program)(t:Nat):Option (Nat×Nat):=match P.underlying t with
 |some (.array n e)=>bif P.plainKey e&&((match P.underlying e with|some (.int _)=>true|_=>false)&&(P.cellsOf e==1&&P.cellsOf t==n))then some (n,e)else none
 |_=>none
def sk(P:Program):Nat->List Field->List Bool->Bool
 |_,[],[]=>true
 |o,f::b,a=>f.name != "_" &&(f.offset==o&&match Sc P f.type with|some (n,_)=>a.take n==List.replicate n true&&sk P (o+n) b (a.drop n)|none=>match a with
  |p::a=>P.plainKey f.type&&((match P.underlying f.type with|some (.int _)=>p|some .bool=>!p|_=>false)&&sk P (o+1) b a)
  |[]=>false)
 |_,_,_=>false
theorem Pv{α:Type}{b:Bool}{x y:α}(h:(bif b then some x else none)=some y):b=true/\x=y:=by
 cases b;.cases h
 .cases h;exact⟨rfl,rfl⟩
theorem EF{P:Program}{e:Nat}(d:Nat)(w:World)(g:P.plainKey e=true)(f:P.cellsOf e=1){p:IntKind}(l:P.underlying e=some (.int p)){ps:List Bool}{A B:List Value}{n:Nat}{r:Bool}(y:n<=A.length)(z:n<=B.length):∀(k j:Nat),j+k=n->pv (List.replicate k true++ps) (A.drop j) (B.drop j)=some r->∃q,(Op.eqItems (d+1) e (P.cellsOf e) (A.take n).toArray (B.take n).toArray (List.range' j k)).run P w= .ok q w/\(q=false->r=false)/\(q=true->pv ps (A.drop n) (B.drop n)=some r)
 |0,j,C,h=>by
  refine⟨true,rfl,(λh=>by cases h),λ_=>?_⟩;have:j=n:=by omega
  subst this;exact h
 |k+1,j,C,h=>by
  have m:j<A.length:=by omega
  have o:j<B.length:=by omega
  rw[dR m,dR o,g5,List.cons_append]at h;unfold pv at h;have i:j<n:=by omega
  have u:(Go.part e (A.take n).toArray (j*P.cellsOf e)).run P w= .ok A[j] w:=run_part_plain w g (by rw[f,hQ];simp[m,i]);have v:(Go.part e (B.take n).toArray (j*P.cellsOf e)).run P w= .ok B[j] w:=run_part_plain w g (by rw[f,hQ];simp[o,i])
  cases c:wB true A[j] B[j]with
   |none=>rw[c]at h;cases h
   |some q=>
   rw[c]at h
   have x:(Op.equalIn (d+1) e A[j] B[j]).run P w= .ok q w:=by
    unfold wB at c;split at c
    .
     rename_i k a x0 b y0 s t;split at c;.rename_i D;subst D;simp only[eP]at c;rw[s,t,run_equalIn_int (P:=P) w d e k p a b l,<-c];rfl
     .cases c
    .rename_i z0 _ _;exact absurd z0 (by decide)
    .cases c
   rw[List.range'_succ];simp only[Op.eqItems,Sem.run_bind,u,Result.andThen_ok,v,x,Sem.run_ite]
   cases q with
    |true=>simp only[l5,ec,ft];exact EF d w g f l y z k (j+1) (by omega) h
    |false=>cases h;exact⟨false,by simp only[lh,fY,Sem.run_pure],λ_=>rfl,λh=>by cases h⟩
theorem s5{P:Program}(d:Nat):∀(v:List Field)(ps:List Bool)(o:Nat)(us c:List Value)(r:Bool)(w:World),sk P o v ps=true->us.length=o+ps.length->c.length=o+ps.length->pv ps (us.drop o) (c.drop o)=some r->(Op.eqFields (d+2) us.toArray c.toArray v).run P w= .ok r w
 |[],[],o,us,c,r,w,_,y,z,g=>by rw[dV (by simp at y;omega),dV (by simp at z;omega)]at g;cases g;rfl
 |[],_::_,o,us,c,r,w,h,y,z,g=>by cases h
 |f::v,ps,o,us,c,r,w,h,y,z,g=>by
  unfold sk at h;simp only[ae]at h;obtain⟨l0,x,h⟩:=h;have x:f.offset=o:=by simpa using x
  have w0:f.name≠ "_" :=by simpa using l0
  split at h
  .
   rename_i n e l;simp only[ae,beq_iff_eq]at h;obtain⟨u0,z0⟩:=h;unfold Sc at l;split at l
   .
    rename_i b0 f0 t;obtain⟨A,l⟩:=Pv l;cases l;simp only[ae,beq_iff_eq]at A;obtain⟨p0,x0,A,g0⟩:=A
    obtain⟨u,m⟩:∃u,P.underlying e=some (.int u):=by
     split at x0;.exact⟨_,by assumption⟩
     .cases x0
    obtain⟨i,o0⟩:=info_of_underlying t;obtain⟨d0,n0⟩:=info_of_underlying m;have e0:n<=ps.length:=by have:=eT List.length u0;simp at this;omega
    have k0:ps=List.replicate n true++ps.drop n:=by rw[<-u0,dQ]
    have q0:∀y0:List Value,(Go.part f.type y0.toArray f.offset).run P w= .ok (.agg ((y0.drop o).take n).toArray) w:=by intro y0;simp[Go.part,isAgg,run_underlying t,run_sizeOf w o0,x,g0,List.extract]
    rw[k0]at g;obtain⟨q,j0,i0,h0⟩:=EF (n:=n) d w p0 A m (ps:=ps.drop n) (A:=us.drop o) (B:=c.drop o) (r:=r) (by simp;omega) (by simp;omega) n 0 (by omega) (by simpa using g);have D:(Op.equalIn (d+2) f.type (.agg ((us.drop o).take n).toArray) (.agg ((c.drop o).take n).toArray)).run P w= .ok q w:=by rw[run_equalIn_array w (d+1) _ _ t n0,List.range_eq_range'];exact j0
    simp only[Op.eqFields,w0,ne_eq,not_false_eq_true,fY,Sem.run_bind,q0,Result.andThen_ok,D,Sem.run_ite]
    cases q with
     |true=>simp only[l5,ec,ft];have:=h0 rfl;rw[i8,i8]at this;exact s5 d v (ps.drop n) (o+n) us c r w z0 (by simp;omega) (by simp;omega) this
     |false=>rw[i0 rfl];simp only[lh,fY,Sem.run_pure]
   .cases l
  .
   split at h
   .
    rename_i p ps;simp only[ae]at h;obtain⟨v0,s,z0⟩:=h;simp only[bx]at y z;have t:o<us.length:=by omega
    have t0:o<c.length:=by omega
    rw[dR t,dR t0]at g;unfold pv at g
    cases j:wB p us[o] c[o]with
     |none=>rw[j]at g;cases g
     |some q=>
     rw[j]at g;have s0:(Go.part f.type us.toArray f.offset).run P w= .ok us[o] w:=run_part_plain w v0 (by rw[x];simp[t]);have r0:(Go.part f.type c.toArray f.offset).run P w= .ok c[o] w:=run_part_plain w v0 (by rw[x];simp[t0])
     have D:(Op.equalIn (d+2) f.type us[o] c[o]).run P w= .ok q w:=by
      unfold wB at j;split at j
      .
       rename_i k a c0 b B C;split at j
       .
        rename_i m0;subst m0;simp only[eP]at j
        obtain⟨u,m⟩:∃u,P.underlying f.type=some (.int u):=by
         split at s;.exact⟨_,by assumption⟩
         .cases s
         .cases s
        rw[B,C,run_equalIn_int (P:=P) w (d+1) f.type k u a b m,<-j];rfl
       .cases j
      .
       rename_i a b B C;simp only[eP]at j
       have m:P.underlying f.type=some .bool:=by
        split at s;.cases s
        .assumption
        .cases s
       rw[B,C,run_equalIn_bool' (P:=P) w (d+1) f.type a b m,<-j]
      .cases j
     simp only[Op.eqFields,w0,ne_eq,not_false_eq_true,fY,Sem.run_bind,s0,Result.andThen_ok,r0,D,Sem.run_ite]
     cases q with
      |true=>simp only[l5,ec,ft];exact s5 d v ps (o+1) us c r w z0 (by omega) (by omega) g
      |false=>cases g;simp only[lh,fY,Sem.run_pure]
   .cases h
theorem ze{P:Program}{t:Nat}{m:List Bool}(hg:P.eqGuardType P.depth t=false)(c:P.underlying t=some (.struct (P.fieldsOf t)))(hp:P.stoodInHeld t=false)(b:sk P 0 (P.fieldsOf t).toList m=true):ym P t m:=by refine⟨hg,λd e r w f g a=>?_⟩;show(Op.equalIn (9999+1) t _ _).run P w=_;rw[run_equalIn_struct w 9999 t _ _ c hp];exact s5 9997 _ m 0 d e r w b (by omega) (by omega) a
end Go.Hm
namespace Go.Bo
open Go Go.Hm Go.Ls Go.Proofs
def tf{α:Type}(f:Nat->Option α)(d:Nat):Nat->Nat->Tr α:=Nat.rec (λ_ _=> .e) (λ_ c a b=> .n (c (Nat.mul 2 a) (Nat.add a b)) (f b) (c (Nat.mul 2 a) (Nat.add (Nat.mul 2 a) b))) d
theorem xf{α:Type}{f:Nat->Option α}{x:α}:∀{d a b j:Nat},(tf f d a b).ap j=some x->f (a*j+b)=some x
 |0,a,b,j,h=>by have h:(Tr.e:Tr α).ap j=some x:=h;rw[Tr.kq]at h;cases h
 |d+1,a,b,j,h=>by
  have h:(Tr.n (tf f d (2*a) (a+b)) (f b) (tf f d (2*a) (2*a+b))).ap j=some x:=h;rw[Tr.uw]at h;split at h;.rename_i c;subst c;rw[Nat.mul_zero,br];exact h
  .
   split at h;.rename_i c e;have:=xf h;obtain⟨i,rfl⟩:∃i,j=2*i+1:=⟨(j-1)/2,by omega⟩;rw[show(2*i+1-1)/2=i by omega]at this;rw[show a*(2*i+1)+b=2*a*i+(a+b)by rw[Nat.mul_add,<-u7,Nat.mul_comm a 2];omega];exact this
   .rename_i c e;have:=xf h;obtain⟨i,rfl⟩:∃i,j=2*i+2:=⟨(j-1)/2,by omega⟩;rw[show(2*i+2-1)/2=i by omega]at this;rw[show a*(2*i+2)+b=2*a*i+(2*a+b)by rw[Nat.mul_add,<-u7,Nat.mul_comm a 2];omega];exact this
def eA:Cx:=⟨tf (qG Tryz.prog) 10 1 0,tf (λi=>Tryz.prog.funcs[i]?) 10 1 0,(Tr.e.set 104 1).set 11 2,(((((Tr.e.set 152 [true,true,true,true,true,true,true,true]).set 71 [true,true,true,true,true]).set 149 [true,true]).set 74 [true,true,true,true,true,true]).set 183 [true,false]).set 94 [true,true,true,true,true,true,true,true,true]⟩
def YH:Func:=(Tryz.prog.funcs[11]?).getD default
theorem Y0:Tryz.prog.funcs[11]?=some YH:=by kernel_rfl
theorem YZ:(YH.name== "runtime.NumGoroutine")=false:=by kernel_rfl
theorem Sb:YH.body.isSome=true:=by kernel_rfl
theorem rS{P:Program}{t:Nat}(h:(match P.underlying t with|some (.struct _)=>true|_=>false)=true):P.underlying t=some (.struct (P.fieldsOf t)):=by
 unfold Program.fieldsOf;split at h;.rename_i b a;rw[a]
 .cases h
theorem U0:Tryz.prog.underlying 152=some (.struct (Tryz.prog.fieldsOf 152)):=rS (by kernel_rfl)
theorem U3:ym Tryz.prog 152 [true,true,true,true,true,true,true,true]:=ze (by kernel_rfl) U0 (by kernel_rfl) (by kernel_rfl)
theorem YL:Tryz.prog.underlying 71=some (.struct (Tryz.prog.fieldsOf 71)):=rS (by kernel_rfl)
theorem YO:ym Tryz.prog 71 [true,true,true,true,true]:=ze (by kernel_rfl) YL (by kernel_rfl) (by kernel_rfl)
theorem U1:Tryz.prog.underlying 149=some (.struct (Tryz.prog.fieldsOf 149)):=rS (by kernel_rfl)
theorem U4:ym Tryz.prog 149 [true,true]:=ze (by kernel_rfl) U1 (by kernel_rfl) (by kernel_rfl)
theorem YK:Tryz.prog.underlying 74=some (.struct (Tryz.prog.fieldsOf 74)):=rS (by kernel_rfl)
theorem YN:ym Tryz.prog 74 [true,true,true,true,true,true]:=ze (by kernel_rfl) YK (by kernel_rfl) (by kernel_rfl)
theorem UZ:Tryz.prog.underlying 183=some (.struct (Tryz.prog.fieldsOf 183)):=rS (by kernel_rfl)
theorem U2:ym Tryz.prog 183 [true,false]:=ze (by kernel_rfl) UZ (by kernel_rfl) (by kernel_rfl)
theorem YJ:Tryz.prog.underlying 94=some (.struct (Tryz.prog.fieldsOf 94)):=rS (by kernel_rfl)
theorem YM:ym Tryz.prog 94 [true,true,true,true,true,true,true,true,true]:=ze (by kernel_rfl) YJ (by kernel_rfl) (by kernel_rfl)
theorem U6:gH Tryz.prog eA:=by
 refine⟨λt x h=>?_,λf g h=>?_,λf g h=>?_,pu (pu xA WT) (Qm Y0 YZ Sb Py),pu (pu (pu (pu (pu (pu xA U3) YO) U4) YN) U2) YM,WU⟩;.have:=xf (f:=qG Tryz.prog) (d:=10) (a:=1) (b:=0) h;rw[tp,fh]at this;exact this
 .have:=xf (f:=λi=>Tryz.prog.funcs[i]?) (d:=10) (a:=1) (b:=0) h;rw[tp,fh]at this;exact this
 .have a:=xf (f:=λi=>Tryz.prog.funcs[i]?) (d:=10) (a:=1) (b:=0) h;rw[tp,fh]at a;have b:=nmB;rw[bR]at b;have c:=b g (Y (by rw[kV];exact a));simpa using c
def o4(cx:Cx)(c:Code)(h:St)(e:Ex)(a:St):Prop:=∃b,∀k,b<=k->run cx k c h=some (e,a)
section
variable{cx:Cx}{h h1 h':St}{a c:Code}{e:Ex}
theorem pV{q:Ex×St}{k0:Nat}(g:∀k,k0<=k->yx cx (run cx k) c h=some q):o4 cx c h q.1 q.2:=by refine⟨k0+1,λk b=>?_⟩;cases k with
 |zero=>omega
 |succ k=>exact g k (by omega)
theorem iq(p:o4 cx a h .cS h1)(q:o4 cx c h1 e h'):o4 cx (.seq a c) h e h':=by obtain⟨d,p⟩:=p;obtain⟨f,q⟩:=q;refine pV (q:=(e,h')) (k0:=max d f) λk b=>?_;show(match run cx k a h with|some (.cS,g)=>run cx k c g|r=>r)=_;rw[p k (aU (kD _ _) b)];exact q k (aU (jT _ _) b)
theorem Ky(p:o4 cx a h .ret h1):o4 cx (.seq a c) h .ret h1:=by obtain⟨d,p⟩:=p;refine pV (q:=(.ret,h1)) (k0:=d) λk b=>?_;show(match run cx k a h with|some (.cS,f)=>run cx k c f|r=>r)=_;rw[p k b]
theorem BB:o4 cx .skip h .cS h:=pV (q:=(.cS,h)) (k0:=0) λ_ _=>rfl
theorem yB:o4 cx .ret h .ret h:=pV (q:=(.ret,h)) (k0:=0) λ_ _=>rfl
theorem iA{j:Nat}{bG:Array Oper}(p:∀b,jM cx b bG h bG.toList=some h1):o4 cx (.region j bG false) h .cS h1:=pV (q:=(.cS,h1)) (k0:=0) λk _=>by show(match jM cx (run cx k) bG h bG.toList with|some d=>some (Ex.cS,d)|none=>none)=_;rw[p]
theorem Kz{j:Nat}{bG:Array Oper}{l:List Hm.Item}(b:oF bG.toList=some l)(p:∀d,ga cx d bG h l=some h1):o4 cx (.region j bG true) h .cS h1:=pV (q:=(.cS,h1)) (k0:=0) λk _=>by
 show(match oF bG.toList with
  |some l=>match ga cx (run cx k) bG h l with|some f=>some (Ex.cS,f)|none=>none
  |none=>none)=_
 rw[b];simp only;rw[p]
theorem wC{x:Operand}{b:Bool}(f:h.ev x=some (.bool b))(p:o4 cx (bif b then a else c) h e h'):o4 cx (.cond x a c) h e h':=by obtain⟨g,p⟩:=p;refine pV (q:=(e,h')) (k0:=g) λk d=>?_;show(match h.ev x with|some (.bool true)=>run cx k a h|some (.bool false)=>run cx k c h|_=>none)=_;rw[f];cases b with
 |true=>exact p k d
 |false=>exact p k d
theorem jH{b:od}{bG:Array Oper}{o:Oper}{l:List Oper}{v:HV}(hg:o.guard=none)(hd:lD cx h o.op=some (.val v h1))(p:jM cx b bG (h1.put o.dst v) l=some h'):jM cx b bG h (o::l)=some h':=by show(match gQ cx b bG h o with|some d=>jM cx b bG d l|none=>none)=_;unfold gQ takes;rw[hg];simp only;rw[hd];exact p
end
def AX(t:Nat)(a b c d:String):Code:= .seq (.region 0 #[⟨some 2,.assign (.const (.slice none 0 0)),t,a,#[],none⟩] false) (.seq (.seq (.region 1 #[⟨some 3,.move (.tmp 0),t,b,#[],none⟩,⟨some 4,.binOp .eql t (.tmp 3) (.const (.slice none 0 0)) t,4,b,#[⟨0,.data⟩],none⟩] false) (.cond (.tmp 4) (.seq (.region 2 #[⟨some 2,.assign (.const (.slice none 0 0)),t,c,#[],none⟩] false) .ret) .skip)) (.seq (.region 3 #[⟨some 5,.buildSlice t 0 #[],t,d,#[],none⟩,⟨some 6,.move (.tmp 0),t,d,#[],none⟩,⟨some 7,.call ⟨.builtin .append,#[.tmp 5,.tmp 6],#[t,t]⟩,t,d,#[⟨0,.data⟩,⟨1,.data⟩],none⟩,⟨some 2,.assign (.tmp 7),t,d,#[⟨2,.data⟩,⟨2,.chain⟩,⟨0,.phase⟩,⟨1,.phase⟩,⟨2,.phase⟩],none⟩] false) .ret))
theorem gn{cx:Cx}{f:FuncId}{fn:Func}{a b c d:String}(f0:cx.fn.ap f=some fn)(g9:cx.ext.ap f=none)(o9:fn.ntmps=8)(m9:fn.results.toList=[.tmp 2])(u9:∀t,fn.params.toList=[t]→fn.body=some (AX t a b c d)∧∀y,cx.gd t=some y→Nat.ble y.z 4000=true):gu cx f:=by
 intro c9 t y e0 n9 j h v q k r0 p9 z0 v0 d0 l9;rw[f0]at e0;cases e0;obtain⟨l,n0⟩:=u9 t n9;have n0:=n0 y j
 obtain⟨e,j9⟩:∃x:qq,cx.ti.ap t=some x∧∃e,x.sh= .slice e:=by
  unfold Cx.gd at j;split at j
  ·
   rename_i x f9;split at j;·exact⟨x,f9,_,by assumption⟩
   ·cases j
  ·cases j
 obtain⟨D,d9,C⟩:=j9
 have e9:1≤y.z:=by
  unfold Cx.gd at j;rw[D]at j;simp only at j;rw[C]at j;simp only at j;unfold Cx.wd at j;split at j
  ·
   split at j
   ·
    split at j
    ·
     rw[aH]at j;split at j;·rename_i x0;simp only[ae,bS]at x0;cases j;exact x0.1
     ·cases j
    ·cases j
   ·cases j
  ·cases j
 let z:St:=⟨8,lr 0 [v] .e,h.hp,h.nx,h.lk,.undef⟩;let y0:St:=(z.put (some 2) .cK).put (some 3) v
 have u0:∀(e:Ex)(g:St),(∀m0,e≠.exit m0)→o4 cx (AX t a b c d) z e g→∃k0,∀k,k0≤k→call cx (run cx k) f [v] h=some (g.tmp 2,⟨h.nt,h.dE,g.hp,g.nx,h.lk,h.df⟩):=by intro e g s9⟨k0,w0⟩;refine⟨k0,fun k q0=>?_⟩;unfold call;rw[g9,f0];simp only;rw[l];simp only;rw[o9];show(match run cx k (AX t a b c d) z with|some (.exit _,_)=>none|some (_,z9)=>_|none=>none)=_;rw[w0 k q0,m9];cases e with
  |exit m0=>exact absurd rfl (s9 m0)
  |cS=>rfl
  |ret=>rfl
 have b0:o4 cx (.region 0 #[⟨some 2,.assign (.const (.slice none 0 0)),t,a,#[],none⟩] false) z .cS (z.put (some 2) .cK):=iA fun l0=>jH rfl rfl rfl;have a0:∀w:Bool,lv cx .eql t v .cK=some (.bool w)→o4 cx (.region 1 #[⟨some 3,.move (.tmp 0),t,b,#[],none⟩,⟨some 4,.binOp .eql t (.tmp 3) (.const (.slice none 0 0)) t,4,b,#[⟨0,.data⟩],none⟩] false) (z.put (some 2) .cK) .cS (y0.put (some 4) (.bool w)):=by intro w p;refine iA fun l0=>jH rfl rfl (jH (v:= .bool w) rfl ?_ rfl);show(match lv cx .eql t v .cK with|some r=>some (Rs.val r y0)|none=>none)=_;rw[p]
 have h0:∀w:Bool,(w=true↔v= .cK)→(v= .cK∨v= .gO∨v= .mj∨∃b o n,v= .sl b o n∧b<h.nx)→lv cx .eql t v .cK=some (.bool w):=by
  intro w p h9;rcases h9 with rfl|rfl|rfl|⟨b,o,n,rfl,_⟩
  ·
   have:w=true:=p.2 rfl;subst this
   show(match cx.ti.ap t with
    |some u=>match u.sh,HV.cK with| .slice _,.cK=>fW .eql true| .slice _,.sl _ _ _=>fW .eql false| .slice _,.jz _ _ _=>fW .eql false| .slice _,.gO=>fW .eql false| .slice _,.mj=>fW .eql false|_,_=>none
    |none=>none)=_
   rw[D];simp only;rw[C];rfl
  ·
   have:w=false:=by cases w with
    |false=>rfl
    |true=>cases p.1 rfl
   subst this
   show(match cx.ti.ap t with
    |some u=>match u.sh,HV.gO with| .slice _,.cK=>fW .eql true| .slice _,.sl _ _ _=>fW .eql false| .slice _,.jz _ _ _=>fW .eql false| .slice _,.gO=>fW .eql false| .slice _,.mj=>fW .eql false|_,_=>none
    |none=>none)=_
   rw[D];simp only;rw[C];rfl
  ·
   have:w=false:=by cases w with
    |false=>rfl
    |true=>cases p.1 rfl
   subst this
   show(match cx.ti.ap t with
    |some u=>match u.sh,HV.mj with| .slice _,.cK=>fW .eql true| .slice _,.sl _ _ _=>fW .eql false| .slice _,.jz _ _ _=>fW .eql false| .slice _,.gO=>fW .eql false| .slice _,.mj=>fW .eql false|_,_=>none
    |none=>none)=_
   rw[D];simp only;rw[C];rfl
  ·
   have:w=false:=by cases w with
    |false=>rfl
    |true=>cases p.1 rfl
   subst this
   show(match cx.ti.ap t with
    |some u=>match u.sh,HV.sl b o n with| .slice _,.cK=>fW .eql true| .slice _,.sl _ _ _=>fW .eql false| .slice _,.jz _ _ _=>fW .eql false| .slice _,.gO=>fW .eql false| .slice _,.mj=>fW .eql false|_,_=>none
    |none=>none)=_
   rw[D];simp only;rw[C];rfl
 by_cases o0:v= .cK
 ·
  subst o0;have q0:k=0:=by have:jg h y.z .cK=some ([],0):=rfl;rw[this]at z0;cases z0;rfl
  refine⟨.cK,h.hp,h.nx,u0 .ret ((y0.put (some 4) (.bool true)).put (some 2) .cK) (fun _ h=>by cases h) ?_,ar _,fun _ _=>rfl,r0,.inl ⟨rfl,q0⟩⟩;refine iq b0 (Ky ?_);refine iq (a0 true (h0 true ⟨fun _=>rfl,fun _=>rfl⟩ v0)) (wC (b:=true) rfl ?_);exact iq (iA fun l0=>jH rfl rfl rfl) yB
 ·
  let B:gY:=⟨true,y.z,(hJ y.zc 0).length,cr .e 0 (hJ y.zc 0)⟩;let m:=h.hp.set h.nx (.cn B);let t0:St:=y0.put (some 4) (.bool false);let i0:St:=⟨8,t0.dE.set 5 (.sl h.nx 0 0),m,h.nx+1,h.lk,.undef⟩;let i:St:=i0.put (some 6) v
  have c0:bw h.nx h.lk=false:=by cases A:bw h.nx h.lk with
   |false=>rfl
   |true=>have:=p9 _ A;omega
  have k9:jg i y.z v=some (q,k):=by
   rcases v0 with rfl|rfl|rfl|⟨b,o,n,rfl,l⟩;·exact absurd rfl o0
   ·exact z0
   ·exact z0
   ·
    have e:i.cn b=h.cn b:=by show(match m.ap b with|some (.cn x)=>some x|_=>none)=_;rw[show m.ap b=h.hp.ap b from Tr.bW _ _ (by omega)];rfl
    have y9:jg i y.z (.sl b o n)=jg h y.z (.sl b o n):=by unfold jg;simp only[cellsOf];rw[e]
    rw[y9];exact z0
  have g0:i.cn h.nx=some B:=by show(match m.ap h.nx with|some (.cn x)=>some x|_=>none)=_;rw[show m.ap h.nx=_ from Tr.a8 _ _ _]
  have r9:oy cx t v=true:=by unfold oy;rw[D];simp only;rw[C];rcases v0 with rfl|rfl|rfl|⟨b,o,n,rfl,l⟩<;>rfl
  have w9:iu cx i t t (.sl h.nx 0 0) v=gW i y.z (.sl h.nx 0 0) q k:=by unfold iu;rw[j];simp only;rw[r9,k9];simp only[lenOf];rw[show Nat.add 0 k=k from br k,l9];rfl
  have x0:(B.own&&(i.gV h.nx&&Nat.beq B.z y.z))=true:=by show(true&&(!bw h.nx h.lk&&Nat.beq y.z y.z))=true;rw[c0];simp
  have v9:gW i y.z (.sl h.nx 0 0) q k=bif Nat.ble (Nat.add 0 (Nat.mul (Nat.add 0 k) y.z)) B.n then match i.fD h.nx (Nat.add 0 (Nat.mul 0 y.z)) q with|some z9=>some (.val (.sl h.nx 0 (Nat.add 0 k)) z9)|none=>none else bif Nat.ble (Nat.add 0 (Nat.mul 0 y.z)) B.n then some (.val (.sl i.nx 0 (Nat.add 0 k)) ⟨i.nt,i.dE,(i.hp.nU h.nx).set i.nx (.cn ⟨true,y.z,Nat.mul (Nat.add 0 k) y.z,cr B.c (Nat.mul 0 y.z) q⟩),Nat.add i.nx 1,i.lk,i.df⟩)else none:=by show(match i.cn h.nx with|some x=>_|none=>none)=_;rw[g0];simp only;rw[x0];rfl
  have x9:B.n=0:=rfl
  have j0:∀(w:HV)(s:St),gW i y.z (.sl h.nx 0 0) q k=some (.val w s)→(s.put (some 7) w).tmp 7=w→o4 cx (AX t a b c d) z .ret ((s.put (some 7) w).put (some 2) w):=by
   intro w s p i9;refine iq b0 (iq (iq (a0 false (h0 false ⟨fun h=>(by cases h),fun h=>absurd h o0⟩ v0)) (wC (b:=false) rfl BB)) (iq (iA fun l0=>?_) yB));refine jH (v:= .sl h.nx 0 0) (h1:=⟨8,t0.dE,m,h.nx+1,h.lk,.undef⟩) rfl ?_ ?_;·show fg cx t0 t 0 []=_;unfold fg;rw[j];simp only;rw[n0];rfl
   ·
    refine jH (v:=v) (h1:=i0) rfl rfl ?_;refine jH (v:=w) (h1:=s) rfl ?_ ?_;·show iu cx i t t (.sl h.nx 0 0) v=_;rw[w9,p]
    ·refine jH (v:=w) (h1:=s.put (some 7) w) rfl ?_ rfl;show some (Rs.val ((s.put (some 7) w).tmp 7) (s.put (some 7) w))=_;rw[i9]
  rw[v9,x9]at j0;by_cases w0:k=0
  ·
   subst w0;have t9:q=[]:=eR.1 (by rw[d0,gf]);subst t9;have s0:Nat.ble (Nat.add 0 (Nat.mul (Nat.add 0 0) y.z)) 0=true:=by rw[bS];show 0+0*y.z≤0;rw[gf];exact ar _
   have p:i.fD h.nx (Nat.add 0 (Nat.mul 0 y.z)) []=some ⟨8,i.dE,m.set h.nx (.cn ⟨true,y.z,0,B.c⟩),h.nx+1,h.lk,.undef⟩:=by
    unfold St.fD;rw[g0];simp only;have p0:Nat.add 0 (Nat.mul 0 y.z)=0:=by show 0+0*y.z=0;rw[gf]
    rw[p0];show(bif true&&(!bw h.nx h.lk&&true)then _ else none)=_;rw[c0];rfl
   have:=j0 (.sl h.nx 0 0) ⟨8,i.dE,m.set h.nx (.cn ⟨true,y.z,0,B.c⟩),h.nx+1,h.lk,.undef⟩ (by rw[s0,p];rfl) rfl;refine⟨.sl h.nx 0 0,_,_,u0 .ret _ (fun _ h=>by cases h) this,dz _,fun b l=>?_,fun b l=>?_,.inr ⟨h.nx,⟨true,y.z,0,B.c⟩,rfl,ar _,bf _,Tr.a8 _ _ _,rfl,rfl,?_⟩⟩;·show((h.hp.set h.nx (.cn B)).set h.nx _).ap b=_;rw[Tr.bW _ _ (by omega),Tr.bW _ _ (by omega)]
   ·have l:h.nx+1≤b:=l;show((h.hp.set h.nx (.cn B)).set h.nx _).ap b=_;rw[Tr.bW _ _ (by omega),Tr.bW _ _ (by omega)];exact r0 b (by omega)
   ·rw[gf];rfl
  ·
   have b9:1≤k*y.z:=Nat.mul_pos (Nat.pos_of_ne_zero w0) e9
   have s0:Nat.ble (Nat.add 0 (Nat.mul (Nat.add 0 k) y.z)) 0=false:=by cases A:Nat.ble (Nat.add 0 (Nat.mul (Nat.add 0 k) y.z)) 0 with
    |false=>rfl
    |true=>rw[bS]at A;have A:0+(0+k)*y.z≤0:=A;rw[br,br]at A;omega
   have p0:Nat.mul 0 y.z=0:=gf _;have q9:Nat.add 0 k=k:=br k;have:=j0 (.sl (h.nx+1) 0 k) ⟨8,i.dE,(m.nU h.nx).set (h.nx+1) (.cn ⟨true,y.z,k*y.z,cr B.c 0 q⟩),h.nx+1+1,h.lk,.undef⟩ (by rw[s0,p0,q9];rfl) rfl;refine⟨.sl (h.nx+1) 0 k,_,_,u0 .ret _ (fun _ h=>by cases h) this,by show h.nx≤h.nx+1+1;omega,fun b l=>?_,fun b l=>?_,.inr ⟨h.nx+1,⟨true,y.z,k*y.z,cr B.c 0 q⟩,rfl,dz _,bf _,Tr.a8 (m.nU h.nx) (h.nx+1) _,rfl,rfl,?_⟩⟩;·show(((h.hp.set h.nx (.cn B)).nU h.nx).set (h.nx+1) _).ap b=_;rw[Tr.bW _ _ (by omega),Tr.gU,aG (by omega),Tr.bW _ _ (by omega)]
   ·have l:h.nx+1+1≤b:=l;show(((h.hp.set h.nx (.cn B)).nU h.nx).set (h.nx+1) _).ap b=_;rw[Tr.bW _ _ (by omega),Tr.gU,aG (by omega),Tr.bW _ _ (by omega)];exact r0 b (by omega)
   ·rw[←d0];exact ic (by omega)
theorem Xd:eA.gd 22=some ⟨[.int .i64 0],1,8⟩:=by kernel_rfl
theorem sz3:eA.size 3=some 1:=by kernel_rfl
theorem Qz:(match eA.ti.ap 22 with
 |some x=>match x.sh with| .slice e=>Nat.beq e 3|_=>false
 |none=>false)=true:=by kernel_rfl
theorem Qw{h:St}{b n:Nat}{y:gY}{lo hi i:Option HV}{l u m:Option Nat}{v:HV}(k:h.cn b=some y)(h1:fw lo=some l)(h2:fw hi=some u)(j:fw i=some m)(p:iH y b 0 n 1 (dW 0 l) u m=some v):eG eA h 22 (.sl b 0 n) lo hi i=some (.val v h):=by have d:=Qz;unfold eG;rw[h1,h2,j];cases g:eA.ti.ap 22 with
 |none=>rw[g]at d;cases d
 |some x=>rw[g]at d;simp only at d⊢;cases f:x.sh with
 |slice e=>rw[f]at d;have o:e=3:=au d;subst o;simp only;rw[sz3,k];simp only;rw[p]
 |_=>rw[f]at d;cases d
theorem tZ{y:gY}{b n l:Nat}{hi:Option Nat}(g:y.z=1)(f:l<=dW n hi)(i:dW n hi<=y.n)(d:dW n hi<=140737488355328):iH y b 0 n 1 l hi none=some (Hm.part HV.sl b 0 1 l (dW n hi)):=by unfold iH;simp only;rw[show(Nat.ble 1 1&&Nat.ble (dW n hi) 140737488355328&&(Nat.ble l (dW n hi)&&(Nat.beq y.z 1&&Nat.ble (Nat.add 0 (Nat.mul (dW n hi) 1)) y.n)))=true by simp only[ae,bS];refine⟨⟨ar _,d⟩,f,by rw[g];rfl,?_⟩;show 0+dW n hi*1<=y.n;omega];rfl
theorem aad:eA.fn.ap 233=some Tryz.f233:=by kernel_rfl
theorem acn:eA.ext.ap 233=none:=by kernel_rfl
theorem gE{cx:Cx}{h h':St}{b:od}{bG:Array Oper}{o:Oper}{l:List Oper}(v:HV)(hg:o.guard=none)(hd:lD cx h o.op=some (.val v h))(p:jM cx b bG (h.put o.dst v) l=some h'):jM cx b bG h (o::l)=some h':=jH hg hd p
def wh(o:Oper)(op:Op)(d:Nat):Prop:=o.op=op/\o.dst=some d/\o.guard=none
theorem z7{cx:Cx}{h h1 h':St}{b:od}{bG:Array Oper}{x:Hm.Item}{l:List Hm.Item}{op:Op}{d:Nat}(v:HV)(n:x.lk=[])(r:wh x.o op d)(o:ly h op=false)(hd:lD cx ⟨h.nt,kh h op.operands.toList,h.hp,h.nx,h.lk,.any⟩ op=some (.val v h1))(q:h1.nt=h.nt)(m:Nat.blt d h.nt=true)(p:ga cx b bG ⟨h.nt,h.dE.set d v,h1.hp,h1.nx,h.lk,h.df⟩ l=some h'):ga cx b bG h (x::l)=some h':=by
 obtain⟨f,g,i⟩:=r
 show(match ip h x.lk with
  |some s=>bif ly h x.o.op then none else match gQ cx b bG (h.cut bG x.o s) x.o with|some t=>ga cx b bG (h.take x.o t) l|none=>none
  |none=>none)=_
 rw[n];show(bif ly h x.o.op then none else match gQ cx b bG (h.cut bG x.o h.lk) x.o with|some t=>ga cx b bG (h.take x.o t) l|none=>none)=_;rw[f,o];have k:h.cut bG x.o h.lk=⟨h.nt,kh h op.operands.toList,h.hp,h.nx,h.lk,.any⟩:=by unfold St.cut oB;rw[i,f];rfl
 have e:gQ cx b bG (h.cut bG x.o h.lk) x.o=some (h1.put (some d) v):=by unfold gQ takes;rw[i];simp only;rw[k,f,hd,g]
 rw[e];show ga cx b bG (h.take x.o (h1.put (some d) v)) l=_;have j:h.take x.o (h1.put (some d) v)=⟨h.nt,h.dE.set d v,h1.hp,h1.nx,h.lk,h.df⟩:=by unfold St.take St.put;rw[g];simp only;rw[q,m];unfold St.tmp;simp only[fR];rw[Tr.a8]
 rw[j];exact p
theorem lS{cx:Cx}{h h':St}{b:od}{bG:Array Oper}{x:Hm.Item}{l:List Hm.Item}{op:Op}{d:Nat}(v:HV)(g:x.lk=[])(j:wh x.o op d)(i:ly h op=false)(hd:lD cx ⟨h.nt,kh h op.operands.toList,h.hp,h.nx,h.lk,.any⟩ op=some (.val v ⟨h.nt,kh h op.operands.toList,h.hp,h.nx,h.lk,.any⟩))(f:Nat.blt d h.nt=true)(p:ga cx b bG ⟨h.nt,h.dE.set d v,h.hp,h.nx,h.lk,h.df⟩ l=some h'):ga cx b bG h (x::l)=some h':=z7 v g j i hd rfl f p
theorem Ym{h:St}{b n:Nat}:fz eA h .len [22] [.sl b 0 n]=some (.val (.int .i64 (Int.ofNat n)) h):=by have d:=Qz;unfold fz;simp only;cases f:eA.ti.ap 22 with
 |none=>rw[f]at d;cases d
 |some x=>rw[f]at d;simp only at d⊢;cases g:x.sh with
 |slice e=>rfl
 |_=>rw[g]at d;cases d
theorem XU{x:HV}(h:∀s,x≠.dH s):oy eA 22 x=true:=by have b:=Qz;unfold oy;cases d:eA.ti.ap 22 with
 |none=>rw[d]at b;cases b
 |some t=>rw[d]at b;simp only at b⊢;cases f:t.sh with
 |slice e=>cases x<;>first|rfl|exact absurd rfl (h _)
 |_=>rw[f]at b;cases b
theorem Y3{h:St}{b i k:Nat}{y:gY}{x:HV}{bT:List HV}(d:h.hp.ap b=some (.cn y))(g:y.own=true)(f:bw b h.lk=false)(p:y.z=1)(o:∀s,x≠.dH s)(m:jg h 1 x=some (bT,k))(r:bT.length=k)(l:gL (i+k) 8=true)(q:i+k<=y.n):iu eA h 22 22 (.sl b 0 i) x=some (.val (.sl b 0 (i+k)) ⟨h.nt,h.dE,h.hp.set b (.cn ⟨true,y.z,y.n,cr y.c i bT⟩),h.nx,h.lk,h.df⟩):=by
 unfold iu;rw[Xd];simp only;rw[XU o,m];simp only[lenOf];rw[show gL (Nat.add i k) 8=true from l];show gW h 1 (.sl b 0 i) bT k=_;have j:Nat.add 0 (Nat.mul i 1)=i:=by show 0+i*1=i;omega
 have n:=jE (o:=i) (c:=bT) d g f (by omega);show(match h.cn b with|some x=>_|none=>none)=_;rw[jb d];simp only;rw[show(y.own&&(h.gV b&&Nat.beq y.z 1))=true by rw[g,p];unfold St.gV;rw[f];rfl];rw[show Nat.ble (Nat.add 0 (Nat.mul (Nat.add i k) 1)) y.n=true by rw[bS];show 0+(i+k)*1<=y.n;omega];rw[j,n];rfl
theorem RX{h:St}{b o m:Nat}{y:gY}(d:h.hp.ap b=some (.cn y))(i:y.own=true)(g:bw b h.lk=false)(f:o+(hJ [HV.int .i64 0] m).length<=y.n):oU eA h 22 (.sl b o m)=some (.val .undef ⟨h.nt,h.dE,h.hp.set b (.cn ⟨true,y.z,y.n,cr y.c o (hJ [.int .i64 0] m)⟩),h.nx,h.lk,h.df⟩):=by unfold oU;rw[Xd];simp only;rw[jE d i g f]
theorem Gj{g:St}{k b n:Nat}(d:g.tmp k= .sl b 0 n):lD eA g (.call ⟨.builtin .len,#[.tmp k],#[22]⟩)=some (.val (.int .i64 (Int.ofNat n)) g):=by show fz eA g .len [22] [g.tmp k]=_;rw[d];exact Ym
theorem vv{g:St}{k b n:Nat}{y:gY}{lo hi d:Option Operand}{lo' hi' mx':Option HV}{l u m:Option Nat}{v:HV}(r:g.tmp k= .sl b 0 n)(f:n7 g lo=some lo')(i:n7 g hi=some hi')(j:n7 g d=some mx')(p:g.cn b=some y)(h1:fw lo'=some l)(h2:fw hi'=some u)(o:fw mx'=some m)(q:iH y b 0 n 1 (dW 0 l) u m=some v):lD eA g (.slice 22 (.tmp k) lo hi d)=some (.val v g):=by show(match some (g.tmp k),n7 g lo,n7 g hi,n7 g d with|some v,some l,some h,some m=>eG eA g 22 v l h m|_,_,_,_=>none)=_;rw[r,f,i,j];exact Qw p h1 h2 o q
theorem Up{g:St}{p q:Nat}{v x:HV}{r:Option Rs}(d:g.tmp p=v)(f:g.tmp q=x)(b:iu eA g 22 22 v x=r):lD eA g (.call ⟨.builtin .append,#[.tmp p,.tmp q],#[22,22]⟩)=r:=by show iu eA g 22 22 (g.tmp p) (g.tmp q)=_;rw[d,f,b]
theorem OO{g:St}{p:Nat}{v:HV}{r:Option Rs}(d:g.tmp p=v)(b:oU eA g 22 v=r):lD eA g (.call ⟨.builtin .clear,#[.tmp p],#[22]⟩)=r:=by show oU eA g 22 (g.tmp p)=_;rw[d,b]
def Xg:Array Oper:=match Tryz.f233.body with|some (.seq _ (.seq _ (.seq _ (.seq _ (.seq (.region _ o _) _)))))=>o|_=> #[]
def pq(i:Nat):Hm.Item:=⟨i,(Xg.toList[i]?).getD ⟨none,.move (.tmp 0),0,"",#[],none⟩,[]⟩
theorem Yb:oF Xg.toList=some [pq 0,pq 1,pq 2,pq 3,pq 4,pq 5,pq 6,pq 7]:=by kernel_rfl
theorem di0:wh (pq 0).o (.move (.tmp 0)) 20:=⟨by kernel_rfl,by kernel_rfl,by kernel_rfl⟩
theorem di1:wh (pq 1).o (.move (.tmp 1)) 21:=⟨by kernel_rfl,by kernel_rfl,by kernel_rfl⟩
theorem di2:wh (pq 2).o (.slice 22 (.tmp 20) none (some (.tmp 21)) none) 22:=⟨by kernel_rfl,by kernel_rfl,by kernel_rfl⟩
theorem di3:wh (pq 3).o (.move (.tmp 0)) 23:=⟨by kernel_rfl,by kernel_rfl,by kernel_rfl⟩
theorem di4:wh (pq 4).o (.move (.tmp 2)) 24:=⟨by kernel_rfl,by kernel_rfl,by kernel_rfl⟩
theorem di5:wh (pq 5).o (.slice 22 (.tmp 23) (some (.tmp 24)) none none) 25:=⟨by kernel_rfl,by kernel_rfl,by kernel_rfl⟩
theorem di6:wh (pq 6).o (.call ⟨.builtin .append,#[.tmp 22,.tmp 25],#[22,22]⟩) 26:=⟨by kernel_rfl,by kernel_rfl,by kernel_rfl⟩
theorem di7:wh (pq 7).o (.assign (.tmp 26)) 0:=⟨by kernel_rfl,by kernel_rfl,by kernel_rfl⟩
theorem U5:TU eA 233:=by
 intro h b n i y D r0 s9 j0 z t p0 w0 m0;have y0:=ie t;have g0:n<=y.n:=by rw[fy]at t;have:=(t.2 (n-1) (by omega)).1;omega
 let m:HV:= .sl b 0 n;let p:HV:= .int .i64 (Int.ofNat i);let q:HV:= .int .i64 (Int.ofNat (i+1));let v0:St:=⟨33,lr 0 [m,p,q] .e,h.hp,h.nx,h.lk,.undef⟩;have z0:∀g:St,g.hp=h.hp->g.cn b=some y:=λg e=>jb (by rw[e];exact r0);obtain⟨b0,z9⟩:∃v,iH y b 0 n 1 i (some (i+1)) (some n)=some v:=by unfold iH;simp only[dW];rw[show(Nat.ble 1 1&&Nat.ble (i+1) 140737488355328&&(Nat.ble i (i+1)&&(Nat.beq y.z 1&&Nat.ble (Nat.add 0 (Nat.mul (i+1) 1)) y.n)))=true by simp only[ae,bS];refine⟨⟨ar _,by omega⟩,dz _,by rw[z];rfl,?_⟩;show 0+(i+1)*1<=y.n;omega];rw[show(Nat.ble (i+1) n&&Nat.ble (Nat.add 0 (Nat.mul n 1)) y.n)=true by simp only[ae,bS];refine⟨m0,?_⟩;show 0+n*1<=y.n;omega];simp only[fR];cases Nat.beq n i<;>cases Nat.beq (Nat.add 0 (Nat.mul n 1)) y.n<;>exact⟨_,rfl⟩
 have u9:decide (Int.ofNat i=Int.ofNat (i+1))=false:=by rw[mS];intro h;have:=Int.ofNat.inj h;omega
 obtain⟨w,u,q9,p9,r9,i0⟩:∃x u,iH y b 0 n 1 (i+1) none none=some x/\(∀s,x≠.dH s)/\(∀g:St,g.hp=h.hp->jg g 1 x=some (u,n-(i+1)))/\u=D.drop (i+1):=by
  have h0:=tZ (y:=y) (b:=b) (n:=n) (l:=i+1) (hi:=none) z m0 g0 p0;by_cases u0:n=i+1
  .
   refine⟨.mj,[],?_,(λs h=>by cases h),λg _=>?_,?_⟩;.rw[h0];unfold Hm.part;simp only[dW];rw[show(Nat.beq n (i+1)&&!Nat.beq (i+1) 0)=true by rw[u0];simp;rfl];rfl
   .rw[u0,ee];rfl
   .rw[dV (by omega)]
  .
   refine⟨.sl b (i+1) (n-(i+1)),D.drop (i+1),?_,(λs h=>by cases h),λg y9=>?_,rfl⟩;.rw[h0];unfold Hm.part;simp only[dW];rw[show(Nat.beq n (i+1)&&!Nat.beq (i+1) 0)=false by rw[Ls.kb u0];rfl];show some (HV.sl b (0+(i+1)*1) (n-(i+1)))=_;rw[hQ,br]
   .unfold jg;simp only[cellsOf,lenOf];rw[z0 g y9];simp only;have v9:Nat.mul (n-(i+1)) 1=n-(i+1):=hQ _;rw[v9];have:=eL (c1:=D.take (i+1)) (c2:=D.drop (i+1)) (c3:=[]) t (by rw[bi,dQ]) (p:=i+1) (by rw[aY,y0];omega) rfl;rw[br,cE,y0]at this;rw[this]
 have t9:u.length=n-(i+1):=by rw[i0,cE,y0]
 have l0:i+(n-(i+1))=n-1:=by omega
 let C:gY:=⟨true,y.z,y.n,cr y.c i u⟩;let B:=h.hp.set b (.cn C);let a0:gY:=⟨true,y.z,y.n,cr C.c (n-1) [.int .i64 0]⟩;let x0:=B.set b (.cn a0);have q0:B.ap b=some (.cn C):=Tr.a8 _ _ _;have i9:iH C b 0 (n-1) 1 (n-1) (some n) none=some (.sl b (n-1) 1):=by rw[tZ (y:=C) (b:=b) (n:=n-1) (l:=n-1) (hi:=some n) z (by show n-1<=n;omega) g0 p0];unfold Hm.part;simp only[dW];rw[show(Nat.beq n (n-1)&&!Nat.beq (n-1) 0)=false by rw[Ls.kb (by omega)];rfl];show some (HV.sl b (0+(n-1)*1) (n-(n-1)))=_;rw[hQ,br,show n-(n-1)=1 by omega]
 have j9:iH y b 0 n 1 0 (some i) none=some (.sl b 0 i):=by rw[tZ (y:=y) (b:=b) (n:=n) (l:=0) (hi:=some i) z (aP _) (by show i<=y.n;omega) (by show i<=_;omega)];unfold Hm.part;simp only[dW];rw[show(Nat.beq i 0&&!Nat.beq 0 0)=false by simp];show some (HV.sl b (0+0*1) (i-0))=_;rfl
 obtain⟨c,o0⟩:∃c,Tryz.f233.body=some c:=⟨_,rfl⟩;let o:HV:= .int .i64 (Int.ofNat n);let f:HV:= .sl b 0 (n-1);let f0:St:=((((((v0.put (some 6) .cK).put (some 8) m).put (some 9) p).put (some 10) q).put (some 11) m).put (some 12) o).put (some 13) b0;let t0:St:=((f0.put (some 14) p).put (some 15) q).put (some 16) (.bool false);let e0:St:=((t0.put (some 18) m).put (some 19) o).put (some 7) o;let d0:St:=⟨33,(((((((e0.dE.set 20 m).set 21 p).set 22 (.sl b 0 i)).set 23 m).set 24 q).set 25 w).set 26 f).set 0 f,B,h.nx,h.lk,.undef⟩;let c0:St:=((((d0.put (some 27) f).put (some 28) f).put (some 29) (.int .i64 (Int.ofNat (n-1)))).put (some 30) o).put (some 31) (.sl b (n-1) 1);let s0:St:=⟨33,c0.dE,x0,h.nx,h.lk,.undef⟩
 have n9:o4 eA c v0 .ret ((s0.put (some 32) f).put (some 6) f):=by
  cases o0;refine iq (iA λA=>gE .cK rfl (by kernel_rfl) rfl) (iq (h1:=f0) ?_ (iq (h1:=t0) ?_ (iq (h1:=e0) ?_ (iq (h1:=d0) ?_ (iq (h1:=s0) ?_ (iq (iA λA=>jH (v:=f) rfl rfl (jH (v:=f) rfl rfl rfl)) yB))))))
  .
   refine iA λA=>gE m rfl (by kernel_rfl) (gE p rfl (by kernel_rfl) (gE q rfl (by kernel_rfl) (gE m rfl (by kernel_rfl) (gE o rfl ?_ (gE b0 rfl ?_ (by kernel_rfl))))));.exact Gj (b:=b) (n:=n) (by kernel_rfl)
   .exact vv (b:=b) (n:=n) (lo':=some p) (hi':=some q) (mx':=some o) (by kernel_rfl) (by kernel_rfl) (by kernel_rfl) (by kernel_rfl) (z0 _ (by kernel_rfl)) rfl rfl rfl z9
  .refine iq (h1:=t0) (iA λA=>gE p rfl (by kernel_rfl) (gE q rfl (by kernel_rfl) (gE (.bool false) rfl ?_ (by kernel_rfl)))) (wC (b:=false) (by kernel_rfl) BB);show(match some (HV.bool (decide (Int.ofNat i=Int.ofNat (i+1))))with|some r=>some (Rs.val r _)|none=>none)=_;rw[u9]
  .refine iA λA=>gE m rfl (by kernel_rfl) (gE o rfl ?_ (gE o rfl (by kernel_rfl) (by kernel_rfl)));exact Gj (b:=b) (n:=n) (by kernel_rfl)
  .
   refine Kz Yb λA=>lS m rfl di0 (by kernel_rfl) (by kernel_rfl) (by kernel_rfl) (lS p rfl di1 (by kernel_rfl) (by kernel_rfl) (by kernel_rfl) (lS (.sl b 0 i) rfl di2 (by kernel_rfl) (vv (b:=b) (n:=n) (lo':=none) (hi':=some p) (mx':=none) (by kernel_rfl) (by kernel_rfl) (by kernel_rfl) (by kernel_rfl) (z0 _ (by kernel_rfl)) rfl rfl rfl j9) (by kernel_rfl) (lS m rfl di3 (by kernel_rfl) (by kernel_rfl) (by kernel_rfl) (lS q rfl di4 (by kernel_rfl) (by kernel_rfl) (by kernel_rfl) (lS w rfl di5 (by kernel_rfl) (vv (b:=b) (n:=n) (lo':=some q) (hi':=none) (mx':=none) (by kernel_rfl) (by kernel_rfl) (by kernel_rfl) (by kernel_rfl) (z0 _ (by kernel_rfl)) rfl rfl rfl q9) (by kernel_rfl) (z7 (h1:=⟨33,(Tr.e.set 25 w).set 22 (.sl b 0 i),B,h.nx,h.lk,.any⟩) f rfl di6 (by kernel_rfl) ?_ (by kernel_rfl) (by kernel_rfl) (lS f rfl di7 (by kernel_rfl) (by kernel_rfl) (by kernel_rfl) (by kernel_rfl))))))));have:=Y3 (h:=⟨33,(Tr.e.set 25 w).set 22 (.sl b 0 i),h.hp,h.nx,h.lk,.any⟩) (b:=b) (i:=i) (k:=n-(i+1)) (y:=y) (x:=w) (bT:=u) r0 s9 j0 z p9 (r9 _ rfl) t9 (by rw[l0];unfold gL at w0⊢;rw[bS]at w0⊢;have w0:n*8<=4294967296:=w0;show(n-1)*8<=4294967296;omega) (by omega);rw[l0]at this;have e:∀g:St,g=⟨33,(Tr.e.set 25 w).set 22 (.sl b 0 i),h.hp,h.nx,h.lk,.any⟩->lD eA g (.call ⟨.builtin .append,#[.tmp 22,.tmp 25],#[22,22]⟩)=some (.val f ⟨33,(Tr.e.set 25 w).set 22 (.sl b 0 i),B,h.nx,h.lk,.any⟩):=by intro g t;subst t;exact Up rfl rfl this
   exact e _ (by kernel_rfl)
  .
   refine iA λA=>gE f rfl (by kernel_rfl) (gE f rfl (by kernel_rfl) (gE (.int .i64 (Int.ofNat (n-1))) rfl ?_ (gE o rfl (by kernel_rfl) (gE (.sl b (n-1) 1) rfl ?_ (jH (h1:=s0) (v:= .undef) rfl ?_ (by kernel_rfl))))));.exact Gj (b:=b) (n:=n-1) (by kernel_rfl)
   .exact vv (b:=b) (n:=n-1) (lo':=some (.int .i64 (Int.ofNat (n-1)))) (hi':=some o) (mx':=none) (by kernel_rfl) (by kernel_rfl) (by kernel_rfl) (by kernel_rfl) (jb q0) rfl rfl rfl i9
   .exact OO (v:= .sl b (n-1) 1) (by kernel_rfl) (RX (h:=c0) q0 rfl j0 (by show n-1+1<=y.n;omega))
 obtain⟨o9,w9⟩:=n9;refine⟨x0,a0,⟨o9,λk x9=>?_⟩,λd n0=>?_,Tr.a8 _ _ _,rfl,z,?_⟩
 .
  unfold call;rw[acn,aad];simp only;rw[o0];simp only;show(match run eA k c v0 with|some (.exit _,_)=>none|some (_,g9)=>_|none=>none)=_;rw[w9 k x9];have e:∀g:St,g.tmp 6=f->g.hp=x0->g.nx=h.nx->(match pY eA g Tryz.f233.results.toList with|some l=>some (one l,(⟨h.nt,h.dE,g.hp,g.nx,h.lk,h.df⟩:St))|none=>none)=some (f,⟨h.nt,h.dE,x0,h.nx,h.lk,h.df⟩):=by intro g m9 l9 k9;show some (g.tmp 6,(⟨h.nt,h.dE,g.hp,g.nx,h.lk,h.df⟩:St))=_;rw[m9,l9,k9]
  exact e _ (by kernel_rfl) (by kernel_rfl) (by kernel_rfl)
 .show((h.hp.set b _).set b _).ap d=_;rw[Tr.bW _ _ n0,Tr.bW _ _ n0]
 .
  rw[fy];rw[fy]at t;refine⟨by rw[tP,aE (by omega),y0],λj h9=>?_⟩;rw[br];refine⟨by show j<y.n;omega,?_⟩;show(cr (cr y.c i u) (n-1) [.int .i64 0]).ap j=_;rw[gK,aG (by simp only[bx,gp];omega),gK,iZ];by_cases k0:j<i;.rw[aG (by omega),aE k0];have:=(t.2 j (by omega)).2;rw[br]at this;exact this
  .rw[aE (by omega),aG k0,i0,gz,show i+1+(j-i)=j+1 by omega]
theorem tb{t:Nat}(h:(match eA.gd t with|some y=>Nat.ble y.z 4000|none=>true)=true)(y:El)(b:eA.gd t=some y):Nat.ble y.z 4000=true:=by rw[b]at h;exact h
theorem c77:gu eA 77:=gn (fn:=Tryz.f77) (a:= "slices.go:355") (b:= "slices.go:357") (c:= "slices.go:358") (d:= "slices.go:362") (by kernel_rfl) (by kernel_rfl) (by kernel_rfl) (by kernel_rfl) λt h=>by have h:[22]=[t]:=h;cases h;exact⟨by kernel_rfl,tb (by kernel_rfl)⟩
theorem acE:gu eA 118:=gn (fn:=Tryz.f118) (a:= "slices.go:355") (b:= "slices.go:357") (c:= "slices.go:358") (d:= "slices.go:362") (by kernel_rfl) (by kernel_rfl) (by kernel_rfl) (by kernel_rfl) λt h=>by have h:[23]=[t]:=h;cases h;exact⟨by kernel_rfl,tb (by kernel_rfl)⟩
theorem c49:gu eA 49:=gn (fn:=Tryz.f49) (a:= "slices.go:355") (b:= "slices.go:357") (c:= "slices.go:358") (d:= "slices.go:362") (by kernel_rfl) (by kernel_rfl) (by kernel_rfl) (by kernel_rfl) λt h=>by have h:[25]=[t]:=h;cases h;exact⟨by kernel_rfl,tb (by kernel_rfl)⟩
theorem acD:gu eA 121:=gn (fn:=Tryz.f121) (a:= "slices.go:355") (b:= "slices.go:357") (c:= "slices.go:358") (d:= "slices.go:362") (by kernel_rfl) (by kernel_rfl) (by kernel_rfl) (by kernel_rfl) λt h=>by have h:[67]=[t]:=h;cases h;exact⟨by kernel_rfl,tb (by kernel_rfl)⟩
theorem acC:gu eA 124:=gn (fn:=Tryz.f124) (a:= "slices.go:355") (b:= "slices.go:357") (c:= "slices.go:358") (d:= "slices.go:362") (by kernel_rfl) (by kernel_rfl) (by kernel_rfl) (by kernel_rfl) λt h=>by have h:[72]=[t]:=h;cases h;exact⟨by kernel_rfl,tb (by kernel_rfl)⟩
theorem acy:gu eA 197:=gn (fn:=Tryz.f197) (a:= "bytes.go:1391") (b:= "bytes.go:1392") (c:= "bytes.go:1393") (d:= "bytes.go:1395") (by kernel_rfl) (by kernel_rfl) (by kernel_rfl) (by kernel_rfl) λt h=>by have h:[67]=[t]:=h;cases h;exact⟨by kernel_rfl,tb (by kernel_rfl)⟩
theorem acx:gu eA 248:=gn (fn:=Tryz.f248) (a:= "slices.go:355") (b:= "slices.go:357") (c:= "slices.go:358") (d:= "slices.go:362") (by kernel_rfl) (by kernel_rfl) (by kernel_rfl) (by kernel_rfl) λt h=>by have h:[34]=[t]:=h;cases h;exact⟨by kernel_rfl,tb (by kernel_rfl)⟩
theorem acw:gu eA 249:=gn (fn:=Tryz.f249) (a:= "slices.go:355") (b:= "slices.go:357") (c:= "slices.go:358") (d:= "slices.go:362") (by kernel_rfl) (by kernel_rfl) (by kernel_rfl) (by kernel_rfl) λt h=>by have h:[35]=[t]:=h;cases h;exact⟨by kernel_rfl,tb (by kernel_rfl)⟩
theorem acv:gu eA 250:=gn (fn:=Tryz.f250) (a:= "slices.go:355") (b:= "slices.go:357") (c:= "slices.go:358") (d:= "slices.go:362") (by kernel_rfl) (by kernel_rfl) (by kernel_rfl) (by kernel_rfl) λt h=>by have h:[43]=[t]:=h;cases h;exact⟨by kernel_rfl,tb (by kernel_rfl)⟩
def XW:Tr Nat:=((((((((((Tr.e).set 77 2).set 118 2).set 49 2).set 121 2).set 124 2).set 197 2).set 248 2).set 249 2).set 250 2).set 233 1
theorem iz{ct:Tr rA}{t:Tr Nat}{g s:Nat}(h:∀f q,t.ap f=some q->nE eA ct f q)(d:nE eA ct g s):∀f q,(t.set g s).ap f=some q->nE eA ct f q:=by
 intro f i b;rw[Tr.dg]at b;split at b;.rename_i e;subst e;cases b;exact d
 .exact h f i b
theorem kQ{ct:Tr rA}{f:Nat}(h:gu eA f):nE eA ct f 2:=⟨λh=>(by cases h),λ_=>h,λh=>by cases h⟩
theorem XV{ct:Tr rA}:∀f q,(Tr.e:Tr Nat).ap f=some q->nE eA ct f q:=λf q h=>by rw[Tr.kq]at h;cases h
theorem FY{ct:Tr rA}:∀f q,XW.ap f=some q->nE eA ct f q:=iz (iz (iz (iz (iz (iz (iz (iz (iz (iz XV (kQ c77)) (kQ acE)) (kQ c49)) (kQ acD)) (kQ acC)) (kQ acy)) (kQ acx)) (kQ acw)) (kQ acv)) ⟨λ_=>U5,λh=>(by cases h),λh=>by cases h⟩
end Go.Bo
namespace Go.Ls
open Go Go.Hm
noncomputable section
def ni:List Bool->List SV->List SV|true::m,.int _ k x::r=> .int true k x::ni m r|true::m,.bool _ b::r=> .bool true b::ni m r|_::m,v::r=>v::ni m r|_,l=>l
def GM(cy:Cy)(d:List Bool)(k:Nat)(a r:U)(H:Tr (List Hi))(fn:Func)(x:D a):Option (D r):=match fn.body with
 |some b=>bif Nat.ble (ni d (md a x)).length fn.ntmps then ex cy k (D r) H 0 b ⟨fn.ntmps,qV 0 (ni d (md a x)) .e,.e,0,[],0,[],[]⟩ λe c=>match e with| .exit _=>none|_=>qI cy c fn.results.toList λl=>match lL c.st l with|some _=>nJ c.st r l|none=>none else none
 |none=>none
theorem yT{E:En}:∀{m:List Bool}{l:List SV}{args:List HV},Vs E l args->Vs E (ni m l) args
 |[],_,_,h=>by unfold ni;exact h
 |true::_,[],_,h=>h
 |false::_,[],_,h=>h
 |false::m,v::r,_,h=>by unfold ni;unfold Vs at h⊢;obtain⟨a,c,rfl,d,e⟩:=h;exact⟨a,c,rfl,d,yT e⟩
 |true::m,v::r,_,h=>by
  unfold Vs at h;obtain⟨a,c,rfl,d,e⟩:=h;have f:=yT (m:=m) e;cases v;case int l k x=>unfold ni Vs;exact⟨a,c,rfl,d,f⟩
  case bool l b=>unfold ni Vs;exact⟨a,c,rfl,d,f⟩
  all_goals(unfold ni Vs;exact⟨a,c,rfl,d,f⟩)
section
variable{cy:Cy}
theorem RQ(m0:∀f c,cy.ct.ap f=some c->sA cy.cx f c)(b0:∀f q,cy.sp.ap f=some q->nE cy.cx cy.ct f q){f:FuncId}{fn:Func}(l0:cy.cx.fn.ap f=some fn)(a0:cy.cx.ext.ap f=none){a r:U}{H:Tr (List Hi)}{n:Nat}{F:D a->Option (D r)}{x0:List Bool}(hF:∀x y,F x=some y->GM cy x0 n a r H fn x=some y):sA cy.cx f ⟨a,r,F⟩:=by
 intro h u A x y k0 f0 s0 n0 o;have o:F x=some y:=o;have o:=hF x y o;unfold GM at o;split at o
 .
  rename_i b i;rw[aH]at o;split at o
  .
   rename_i h0;have r0:Vs (⟨h.hp,u,λ_=>none,λ_ _=>none,.e,0,h.nx⟩:En) (ni x0 (md a x)) A:=yT<|qK (E:=⟨h.hp,u,λ_=>none,λ_ _=>none,.e,0,h.nx⟩) n0;have g0:Nat.ble A.length fn.ntmps=true:=by rw[vJ r0];exact h0
   have s:∀(m:Nat)(e:iK),(Tr.e:Tr iK).ap m=some e->False:=λm e d=>by rw[Tr.kq]at d;cases d
   obtain⟨e,t0,w,p,⟨y9,x9⟩,j,w9,t,_,v0⟩:=La m0 b0 n _ _ _ _ _ _ _ o ⟨fn.ntmps,lr 0 A .e,h.hp,h.nx,h.lk,.undef⟩ ⟨h.hp,u,λ_=>none,λ_ _=>none,.e,0,h.nx⟩ ⟨rfl,rfl,rfl,λm e d=>(s m e d).elim,λm e d=>(s m e d).elim,λm _ e _ _ d=>(s m e d).elim,λm e _ d=>(s m e d).elim,s0,k0,λb i=>⟨f0 b i,λm e d=>(s m e d).elim⟩,λ_ _ d=>(by rcases d with d|⟨_,d⟩<;>cases d),λm e d=>(s m e d).elim,λb i i0=>absurd (s0 b i) (Nat.not_lt.2 i0)⟩ (sv r0);have w0:∀b,¬Ow (⟨fn.ntmps,qV 0 (ni x0 (md a x)) .e,.e,0,[],0,[],[]⟩:SS) (⟨h.hp,u,λ_=>none,λ_ _=>none,.e,0,h.nx⟩:En) b:=λb⟨m,e,d,_⟩=>s m e d
   have q0:(∀v,e≠.exit v)->qI cy w fn.results.toList (λl=>match lL w.st l with|some _=>nJ w.st r l|none=>none)=some y->∃l z B C,(∃z9,∀k,z9<=k->call cy.cx (run cy.cx k) f A h=some (one l,⟨h.nt,h.dE,z,B,h.lk,h.df⟩))/\h.nx<=B/\(∀b,b<h.nx->z.ap b=h.hp.ap b)/\(∀b,B<=b->z.ap b=none)/\(∀b,u b->C b)/\(∀b,C b->u b\/h.nx<=b/\b<B/\ra z b)/\fI z C r l y:=by
    intro e0 c0;obtain⟨l,v9,p0,u9,u0⟩:=oq j w9 c0;split at u0
    .
     rename_i t9 o0;have d0:=lN (E:=p) (Q:=λb=>p.Z b\/Ow w p b) (k:=3) (λb i=> .inl i) (λm e d=>j.gm m e (by rw[<-j.st];exact d)) (by rw[j.st];exact u0) u9 (uG (λm e b d i=> .inr ⟨m,e,by rw[<-j.st];exact d,i⟩) (by rw[j.st];exact o0));refine⟨v9,t0.hp,t0.nx,λb=>p.Z b\/Ow w p b,⟨y9,λk j0=>?_⟩,t.nx,λb i=>t.DC b i (w0 b),j.fr,λb i=> .inl (t.z b i),λb i=>?_,by rw[<-j.hp];exact d0⟩
     .unfold call;rw[a0,l0];simp only;rw[i];simp only;rw[g0,x9 k j0];cases e with
      |exit v=>exact absurd rfl (e0 v)
      |cS=>simp only[fR];rw[p0]
      |ret=>simp only[fR];rw[p0]
     .
      rcases i with i|i
      .
       rcases t.z' b i with g|g|g;.exact .inl g
       .exact absurd g (w0 b)
       .exact .inr ⟨g,j.z b i,j.zo b i (by rw[show p.lo=h.nx from t.lo];exact g)⟩
      .
       obtain⟨m,e,d,y0⟩:=i;rcases t.ow b ⟨m,e,d,y0⟩with g|g;.exact absurd g (w0 b)
       .exact .inr ⟨g,(j.own m e b d y0).2,by rw[<-j.hp];exact uC (j.gm m e d) (j.py m e d) y0 (by rw[show p.lo=h.nx from t.lo];exact g)⟩
    .cases u0
   cases e with
    |exit v=>cases v0
    |cS=>exact q0 (λv z0=>by cases z0) v0
    |ret=>exact q0 (λv z0=>by cases z0) v0
  .cases o
 .cases o
end
end
end Go.Ls
namespace Go.Bo
open Go Go.Hm Go.Ls Go.Proofs
def X2:Tr (List Hi):=((Tr.e).set 205 [.box 0 [.v (.bc (.int .i64)),.v (.int .i64),.v (.int .i64),.o (.ah (.int .i64) (.ah (.int .i64) (.ah (.int .i64) (.ah (.int .i64) (.ah (.int .i64) (.ah (.fF 5 (.bc (.int .i64))) .un)))))),.o (.ah (.bc (.bc (.int .i64))) .un)],.val 6 .bool]).set 252 [.cell 6 (.ah (.bc (.bc (.int .i64))) .un),.val 7 (.int .i64)]
def vP(ct:Tr rA)(hi:Tr (Tr (List Hi))):Cy:=⟨eA,zj Tryz.prog [75,186] 20,ct,hi,XW,X2⟩
def Dv(ct:Tr rA):Prop:=∀f c,ct.ap f=some c->sA eA f c
theorem ta{ct:Tr rA}{g:Nat}{c:rA}(h:Dv ct)(d:sA eA g c):Dv (ct.set g c):=by
 intro f b a;rw[Tr.dg]at a;split at a;.rename_i e;subst e;cases a;exact d
 .exact h f b a
abbrev KK:Type:={a:Tr rA//Dv a}
def k0:KK:=⟨Tr.e,λf c h=>by have h:(Tr.e:Tr rA).ap f=some c:=h;rw[Tr.kq]at h;cases h⟩
theorem acu{ct:Tr rA}{hi:Tr (Tr (List Hi))}(b:Dv ct){f:FuncId}{fn:Func}(c:eA.fn.ap f=some fn)(d:eA.ext.ap f=none){a r:U}{H:Tr (List Hi)}{n:Nat}{F:D a->Option (D r)}(hF:∀x,GL (vP ct hi) n a r H fn x=F x):sA eA f ⟨a,r,F⟩:=Nj (cy:=vP ct hi) b FY c d hF
theorem ctB(hi:Tr (Tr (List Hi))){ct:Tr rA}(b:Dv ct)(f:FuncId)(fn:Func)(H:Tr (List Hi)){a r:U}{F:D a->Option (D r)}(h:(eA.fn.ap f,eA.ext.ap f)=(some fn,none))(hF:∀x,GL (vP ct hi) 1000 a r H fn x=F x):Dv (ct.set f ⟨a,r,F⟩):=ta b (acu b (eT Prod.fst h) (eT Prod.snd h) hF)
def kp(l:List Nat)(r:List Hi):List Hi:=l.map .aL++r
def hs(l:List (Nat×List Hi)):Tr (List Hi):=l.foldl (λt p=>t.set p.1 p.2) Tr.e
def hu(t:Tr (Tr (List Hi)))(l:List (Nat×Tr (List Hi))):Tr (Tr (List Hi)):=l.foldl (λt p=>t.set p.1 p.2) t
def ht(l:List (Nat×Tr (List Hi))):Tr (Tr (List Hi)):=hu Tr.e l
def kB(hi:Tr (Tr (List Hi)))(k:KK)(f:FuncId)(fn:Func)(H:Tr (List Hi)){a r:U}(F:D a->Option (D r))(h:(eA.fn.ap f,eA.ext.ap f)=(some fn,none):=by kernel_rfl)(hF:∀x,GL (vP k.1 hi) 1000 a r H fn x=F x:=by intro x;kernel_rfl):KK:=⟨k.1.set f ⟨a,r,F⟩,ctB hi k.2 f fn H h hF⟩
theorem Nk{ct:Tr rA}{hi:Tr (Tr (List Hi))}(b:Dv ct){f:FuncId}{fn:Func}(c:eA.fn.ap f=some fn)(d:eA.ext.ap f=none){a r:U}{H:Tr (List Hi)}{n:Nat}{F:D a->Option (D r)}{e:List Bool}(hF:∀x y,F x=some y->GM (vP ct hi) e n a r H fn x=some y):sA eA f ⟨a,r,F⟩:=RQ (cy:=vP ct hi) b FY c d hF
theorem MO{ct:Tr rA}{hi:Tr (Tr (List Hi))}{a r:U}{F:D a->Option (D r)}{fn:Func}{H:Tr (List Hi)}{n:Nat}{d:List Bool}{b:D a->Bool}{q:D a->D a}(e:∀x,b x=true->q x=x)(f:∀x,GM (vP ct hi) d n a r H fn (q x)=F x):∀x y,ad (b x) (F x) none=some y->GM (vP ct hi) d n a r H fn x=some y:=by intro x y h;cases c:b x with
 |false=>rw[c]at h;cases h
 |true=>rw[c]at h;have h:F x=some y:=h;rw[<-f x,e x c]at h;exact h
abbrev cU:U:= .ah iT iU
abbrev kN:U:= .ah iT (.ah iT cU)
abbrev rO:U:= .ah iT kN
abbrev kf:U:= .bc rO
abbrev Bd:U:= .bc kN
abbrev og:U:= .ah iT (.ah (.bc (.int .u8)) .un)
abbrev Mg:U:= .bc og
abbrev WC:U:= .ah iT rO
abbrev pR:U:= .ah iT (.ah iT WC)
abbrev Bb:U:= .bc pR
abbrev tW:U:= .ah iT (.ah Bb .un)
abbrev WM:U:= .bc tW
abbrev cc:U:= .ah lI (.ah Bd (.ah iT (.ah iT (.ah iT (.ah iT (.ah iT (.ah iT (.ah iT (.ah iT (.ah Mg (.ah kf (.ah WM .un))))))))))))
abbrev XI:U:= .ah pR (.ah pR .un)
def iI:Tr (Tr (List Hi)):=ht [(182,hs [(0,[]),(1,kp [0,1,7] [.val 8 iT])]),(106,Tr.e),(179,Tr.e),(107,Tr.e)]
def D0(x:D (.ah cc .un)):Option (D bU):=ad (ay 20 (ak x.1.1)) (some (false,())) (ad (ay 20 (ak x.1.2.1)) (some (false,())) (ad (ay 20 (ak x.1.2.2.2.2.2.2.2.2.2.2.1)) (some (false,())) (ad (ay 20 (ak x.1.2.2.2.2.2.2.2.2.2.2.2.1)) (some (false,())) (ad (ay 20 (ak x.1.2.2.2.2.2.2.2.2.2.2.2.2.1)) (some (false,())) (aD (aB (λa=>ad (ay a.1 (ak x.1.2.2.2.2.2.2.2.2.2.2.1)) (am (ax x.1.2.2.2.2.2.2.2.2.2.2.1 a.1) λc=>ad (ay 1000 (ak c.2.1)) (ao (ao (some (false,())))) (some (.inl (ai .i64 a.1 1,())))) (ao (some (.inl ())))) 1000000000 (0,())) λe=>aD (aB (λb=>ad (ay b.1 (ak x.1.2.2.2.2.2.2.2.2.2.2.2.2.1)) (am (ax x.1.2.2.2.2.2.2.2.2.2.2.2.2.1 b.1) λd=>ad (ay 100 (ak d.2.1)) (ao (ao (some (false,())))) (some (.inl (ai .i64 b.1 1,())))) (ao (some (.inl ())))) 1000000000 (0,())) λf=>some (true,()))))))
def k10:=kB iI k0 10 Tryz.f10 (hs [(0,[.aL 1]),(1,kp [1,36,37] [.val 38 iT]),(4,[]),(5,kp [48,49] [.val 50 iT])]) D0
def nF(x:D (.ah iT cU)):Option (D bU):=ad (cL x.2.1 x.1) (some (cL x.1 x.2.2.1,())) (some (false,()))
def k42:=kB iI k10 42 Tryz.f42 Tr.e nF
def PX(x:D (.ah cc .un)):Option (D iU):=am (nF (ak x.1.1,1,4,())) λb=>ad (bL b.1) (some (1,())) (aD (aB (λa=>ad (ay a.1 (ak x.1.1)) (am (ax x.1.1 a.1) λc=>am (nF (c,0,3,())) λd=>ad (bL d.1) (ao (ao (some (1,())))) (some (.inl (ai .i64 a.1 1,())))) (ao (some (.inl ())))) 1000000000 (0,())) λe=>some (0,()))
def k30:=kB iI k42 30 Tryz.f30 (hs [(0,[]),(1,kp [11,12] [.val 13 iT])]) PX
def PU(x:D (.ah cc .un)):Option (D iU):=am (nF (ak x.1.2.1,1,6,())) λd=>ad (bL d.1) (some (1,())) (aD (aB (λa=>ad (ay a.2.2.1 (ak x.1.2.1)) (am (ax x.1.2.1 a.2.2.1) λb=>am (nF (b.1,0,3,())) λe=>ad (bL e.1) (ao (ao (some (1,())))) (am (nF (b.2.1,0,1,())) λf=>ad (bL f.1) (ao (ao (some (1,())))) (am (nF (b.2.2.1,1,256,())) λg=>ad (bL g.1) (ao (ao (some (1,())))) (am (nF (b.2.2.2.1,0,b.2.2.1,())) λh=>ad (bL h.1) (ao (ao (some (1,())))) (ad (a6 b.2.1 0) (some (.inl (ai .i64 a.1 b.2.2.1,ai .i64 a.2.1 1,ai .i64 a.2.2.1 1,()))) (some (.inl (ai .i64 a.1 b.2.2.1,a.2.1,ai .i64 a.2.2.1 1,())))))))) (ao (some (.inl (a.1,a.2.1,()))))) 1000000000 (0,0,0,())) λc=>ad (a6 c.2.1 0) (some (1,())) (ad (ay 256 c.1) (some (1,())) (some (0,()))))
def k31:=kB iI k30 31 Tryz.f31 (hs [(0,[.val 3 iT,.val 4 iT]),(1,.val 3 iT:: .val 4 iT::kp [13,14] [.val 15 iT])]) PU
def PT(x:D (.ah cc .un)):Option (D iU):=am (nF (x.1.2.2.2.1,1,16,())) λc=>ad c.1 (am (nF (x.1.2.2.1,1,x.1.2.2.2.1,())) λd=>ad d.1 (am (nF (x.1.2.2.2.2.1,1,16,())) λf=>ad f.1 (am (nF (x.1.2.2.2.2.2.1,1,16,())) λg=>ad g.1 (am (nF (x.1.2.2.2.2.2.2.1,0,64,())) λh=>ad h.1 (am (nF (x.1.2.2.2.2.2.2.2.1,0,32,())) λi=>ad i.1 (am (nF (x.1.2.2.2.2.2.2.2.2.1,1,256,())) λj=>ad j.1 (am (nF (x.1.2.2.2.2.2.2.2.2.2.1,1,32,())) λk=>ad k.1 (ad (bL (cL (ak x.1.2.2.2.2.2.2.2.2.2.2.1) 4)) (some (1,())) (aD (aB (λb=>ad (ay b.1 (ak x.1.2.2.2.2.2.2.2.2.2.2.1)) (am (ax x.1.2.2.2.2.2.2.2.2.2.2.1 b.1) λa=>am (nF (a.1,1,16,())) λe=>ad (bL e.1) (ao (ao (some (1,())))) (ad (bH (lM .i64 (ak a.2.1) 32) 0) (ao (ao (some (1,())))) (ad (ay (d8 .i64 a.1 32) (ak a.2.1)) (ao (ao (some (1,())))) (some (.inl (ai .i64 b.1 1,())))))) (ao (some (.inl ())))) 1000000000 (0,())) λl=>some (0,()))) (some (1,()))) (some (1,()))) (some (1,()))) (some (1,()))) (some (1,()))) (some (1,()))) (some (1,()))) (some (1,()))
def k32:=kB iI k31 32 Tryz.f32 (hs [(0,[]),(1,kp [55,56] [.val 57 iT])]) PT
def N7(x:D (.ah kf .un)):Option (D bU):=aD (aB (λa=>ad (ay a.1 (ak x.1)) (am (ax x.1 a.1) λb=>ad (a6 a.1 0) (ad (bH b.1 (-1)) (ao (ao (some (false,())))) (ad (ay 0 a.1) (ad (ay b.1 0) (ao (ao (some (false,())))) (ad (cL a.1 b.1) (ao (ao (some (false,())))) (some (.inl (ai .i64 a.1 1,()))))) (some (.inl (ai .i64 a.1 1,()))))) (ad (ay 0 a.1) (ad (ay b.1 0) (ao (ao (some (false,())))) (ad (cL a.1 b.1) (ao (ao (some (false,())))) (some (.inl (ai .i64 a.1 1,()))))) (some (.inl (ai .i64 a.1 1,()))))) (ao (some (.inl ())))) 1000000000 (0,())) λc=>some (true,())
def abt:=kB iI k32 177 Tryz.f177 (hs [(0,[]),(1,kp [5,6] [.val 7 iT])]) N7
def wk(x:D iU):Option (D bU):=ad (cL 0 x.1) (some (cL x.1 1048576,())) (some (false,()))
def aaX:=kB iI abt 226 Tryz.f226 Tr.e wk
def N6(x:D (.ah kf .un)):Option (D bU):=aD (aB (λb=>ad (ay b.1 (ak x.1)) (am (ax x.1 b.1) λa=>am (wk (a.2.1,())) λc=>ad (bL c.1) (ao (ao (some (false,())))) (am (wk (a.2.2.1,())) λd=>ad (bL d.1) (ao (ao (some (false,())))) (am (wk (a.2.2.2.1,())) λe=>ad (bL e.1) (ao (ao (some (false,())))) (am (wk (a.2.2.2.2.1,())) λf=>ad (bL f.1) (ao (ao (some (false,())))) (some (.inl (ai .i64 b.1 1,()))))))) (ao (some (.inl ())))) 1000000000 (0,())) λi=>am (ax x.1 0) λg=>ad (a6 g.2.2.1 0) (am (ax x.1 0) λh=>some (a6 h.2.2.2.1 0,())) (some (false,()))
def abs:=kB iI aaX 178 Tryz.f178 (hs [(0,[.aL 0]),(1,kp [0,5,6] [.val 7 iT])]) N6
def Fy(x:D (.ah kf .un)):Option (D (.ah lI .un)):=aA (gP (ak x.1) (ak x.1) 8) (aD (aB (λa=>ad (ay a.2.1 (ak x.1)) (am (ax x.1 a.2.1) λb=>aA (a5 a.1 a.2.1) (am (ax a.1 a.2.1) λc=>aA (a5 a.1 a.2.1) (am (ax a.1 a.2.1) λf=>ad (ay 0 a.2.1) (aA (a5 (aI a.1 a.2.1 (ai .i64 c b.2.1)) b.1) (am (ax (aI a.1 a.2.1 (ai .i64 c b.2.1)) b.1) λd=>aA (a5 (aI a.1 a.2.1 (ai .i64 c b.2.1)) b.1) (am (ax (aI a.1 a.2.1 (ai .i64 c b.2.1)) b.1) λg=>some (.inl (aI (aI a.1 a.2.1 (ai .i64 c b.2.1)) b.1 (bo .i64 d b.2.1),ai .i64 a.2.1 1,()))))) (some (.inl (aI a.1 a.2.1 (ai .i64 c b.2.1),ai .i64 a.2.1 1,())))))) (ao (some (.inl (a.1,()))))) 1000000000 (er (ak x.1) 0,0,())) λe=>some (e.1,()))
def abq:=kB iI abs 181 Tryz.f181 (hs [(0,[.own 3 iT]),(1,.own 3 iT::kp [9,10] [.val 11 iT])]) Fy
def FA(x:D (.ah lI .un)):Option (D iU):=ad (ay (ak x.1) 1) none (am (ax x.1 0) λb=>aD (aB (λa=>ad (ay a.2.1 (ak x.1)) (am (ax x.1 a.2.1) λc=>some (.inl (bN a.1 c,ai .i64 a.2.1 1,()))) (ao (some (.inl (a.1,()))))) 1000000000 (b,1,())) λd=>some (d.1,()))
def abr:=kB iI abq 180 Tryz.f180 (hs [(0,[.val 3 iT]),(1,[.aL 0,.val 3 iT,.val 4 iT])]) FA
def As(x:D (.ah kf .un)):Option (D iU):=ad (ay (ak x.1) 1) (some (9,())) (ad (ay 8 (ak x.1)) (some (9,())) (am (N7 (x.1,())) λc=>ad (bL c.1) (some (1,())) (am (N6 (x.1,())) λd=>ad (bL d.1) (some (2,())) (aD (aB (λa=>ad (ay a.1 (ak x.1)) (am (ax x.1 a.1) λb=>ad (ay b.2.2.2.2.1 b.2.1) (ao (ao (ad (cL 0 a.1) (some (17,())) (am (Fy (x.1,())) λe=>am (FA (e.1,())) λf=>ad (ay f.1 0) (some (11,())) (some (0,())))))) (some (.inl (ai .i64 a.1 1,())))) (ao (some (.inl ())))) 1000000000 (0,())) λi=>am (Fy (x.1,())) λg=>am (FA (g.1,())) λh=>ad (ay h.1 0) (some (11,())) (some (0,()))))))
def aca:=kB iI abr 105 Tryz.f105 Tr.e As
def Dt(x:D (.ah kf iU)):Option (D cU):=am (As (x.1,())) λf=>ad (bH f.1 0) (some (0,f.1,())) (ad (ay x.2.1 0) (some (0,2,())) (ad (ay 1048576 x.2.1) (some (0,2,())) (aA (gP (ak x.1) (ak x.1) 8) (aA (dJ 1 (ak x.1) (ak x.1)) (aD (aB (λb=>ad (ay b.2.1 (ak (eX x.1 1 (ak x.1)))) (am (ax (eX x.1 1 (ak x.1)) b.2.1) λc=>aA (a5 b.1 c.1) (am (ax b.1 c.1) λg=>aA (a5 b.1 c.1) (am (ax b.1 c.1) λk=>some (.inl (aI b.1 c.1 (ai .i64 g c.2.2.1),ai .i64 b.2.1 1,()))))) (ao (some (.inl (b.1,()))))) 1000000000 (er (ak x.1) 0,0,())) λd=>aD (aB (λa=>ad (ay a.1 (ak d.1)) (aA (a5 d.1 a.1) (am (ax d.1 a.1) λe=>ad (a6 a.1 0) (ad (ay x.2.1 e) (ao (ao (some (a.1,0,())))) (ad (ay 0 a.1) (am (ax x.1 a.1) λh=>ad (ay h.2.2.1 e) (ao (ao (some (a.1,0,())))) (some (.inl (ai .i64 a.1 1,())))) (some (.inl (ai .i64 a.1 1,()))))) (ad (ay 0 a.1) (am (ax x.1 a.1) λi=>ad (ay i.2.2.1 e) (ao (ao (some (a.1,0,())))) (some (.inl (ai .i64 a.1 1,())))) (some (.inl (ai .i64 a.1 1,())))))) (ao (some (.inl ())))) 1000000000 (0,())) λj=>some (-1,0,()))))))
def ab9:=kB iI aca 108 Tryz.f108 (hs [(0,kp [0,1] [.own 7 iT]),(1,kp [0,1] (.own 7 iT::kp [27,28] [.val 29 iT])),(4,[]),(5,kp [0,1,43,44] [.val 45 iT])]) Dt
def PS(x:D (.ah cc .un)):Option (D iU):=am (As (x.1.2.2.2.2.2.2.2.2.2.2.2.1,())) λd=>ad (bH d.1 0) (some (d.1,())) (aD (aB (λc=>ad (ay c.1 (ak x.1.2.2.2.2.2.2.2.2.2.2.2.1)) (am (ax x.1.2.2.2.2.2.2.2.2.2.2.2.1 c.1) λk=>ad (bH k.2.1 0) (ao (ao (ad (cL 0 c.1) (some (1,())) (aD (aB (λa=>ad (ay a.2.1 (ak x.1.2.1)) (am (ax x.1.2.1 a.2.1) λg=>some (.inl (ai .i64 a.1 (bo .i64 g.2.2.1 g.2.2.2.1),ai .i64 a.2.1 1,()))) (ao (some (.inl (a.1,()))))) 1000000000 (bo .i64 (v6 .i64 x.1.2.2.2.2.2.2.2.1) 1,0,())) λh=>ad (ay h.1 0) (some (18,())) (am (Dt (x.1.2.2.2.2.2.2.2.2.2.2.2.1,h.1,())) λi=>ad (bH i.2.1 0) (some (18,())) (ad (bH i.1 (-1)) (some (18,())) (some (0,())))))))) (some (.inl (ai .i64 c.1 1,())))) (ao (some (.inl ())))) 1000000000 (0,())) λl=>aD (aB (λb=>ad (ay b.2.1 (ak x.1.2.1)) (am (ax x.1.2.1 b.2.1) λj=>some (.inl (ai .i64 b.1 (bo .i64 j.2.2.1 j.2.2.2.1),ai .i64 b.2.1 1,()))) (ao (some (.inl (b.1,()))))) 1000000000 (bo .i64 (v6 .i64 x.1.2.2.2.2.2.2.2.1) 1,0,())) λe=>ad (ay e.1 0) (some (18,())) (am (Dt (x.1.2.2.2.2.2.2.2.2.2.2.2.1,e.1,())) λf=>ad (bH f.2.1 0) (some (18,())) (ad (bH f.1 (-1)) (some (18,())) (some (0,())))))
def k33:=kB iI ab9 33 Tryz.f33 (hs [(0,[.aL 1,.val 4 iT]),(1,.aL 1:: .val 4 iT::kp [23,24] [.val 25 iT])]) PS
def Tc(x:D iU):Option (D (.ah XI bU)):=ad (a6 x.1 1) (some (((0,-1,1,0,0,-1,0,0,()),(0,511,512,15,0,3,3,15,()),()),true,())) (ad (a6 x.1 2) (some (((0,0,1,0,0,0,0,0,()),(0,511,512,0,0,0,0,0,()),()),true,())) (ad (a6 x.1 3) (some (((0,0,1,0,0,0,0,0,()),(0,511,512,0,0,0,3,0,()),()),true,())) (ad (a6 x.1 4) (some (((0,0,1,0,0,0,0,0,()),(0,511,512,0,1,0,0,0,()),()),true,())) (ad (a6 x.1 5) (ad (a6 x.1 5) (ad (a6 x.1 6) (some (((0,0,0,0,0,0,0,0,()),(0,511,0,31,255,0,0,0,()),()),true,())) (some (((0,0,0,0,0,0,0,0,()),(0,511,0,31,0,0,0,0,()),()),true,()))) (ad (a6 x.1 7) (ad (a6 x.1 7) (ad (a6 x.1 8) (some (((0,0,0,0,0,0,0,0,()),(0,15,0,31,255,3,0,0,()),()),true,())) (some (((0,0,0,0,0,0,0,0,()),(0,15,0,31,0,3,0,0,()),()),true,()))) (ad (a6 x.1 9) (some (((0,0,0,0,0,0,0,0,()),(0,0,16,0,0,3,0,0,()),()),true,())) (ad (a6 x.1 10) (some (((0,0,0,0,0,0,0,0,()),(0,0,0,0,0,3,0,0,()),()),true,())) (ad (a6 x.1 11) (some (((0,0,0,0,0,0,0,0,()),(0,0,0,0,48,0,0,0,()),()),true,())) (ad (a6 x.1 12) (some (((0,0,0,0,0,0,0,0,()),(0,0,0,0,0,0,0,0,()),()),true,())) (some (((0,0,0,0,0,0,0,0,()),(0,0,0,0,0,0,0,0,()),()),false,()))))))) (ad (a6 x.1 8) (ad (a6 x.1 8) (some (((0,0,0,0,0,0,0,0,()),(0,15,0,31,255,3,0,0,()),()),true,())) (some (((0,0,0,0,0,0,0,0,()),(0,15,0,31,0,3,0,0,()),()),true,()))) (ad (a6 x.1 9) (some (((0,0,0,0,0,0,0,0,()),(0,0,16,0,0,3,0,0,()),()),true,())) (ad (a6 x.1 10) (some (((0,0,0,0,0,0,0,0,()),(0,0,0,0,0,3,0,0,()),()),true,())) (ad (a6 x.1 11) (some (((0,0,0,0,0,0,0,0,()),(0,0,0,0,48,0,0,0,()),()),true,())) (ad (a6 x.1 12) (some (((0,0,0,0,0,0,0,0,()),(0,0,0,0,0,0,0,0,()),()),true,())) (some (((0,0,0,0,0,0,0,0,()),(0,0,0,0,0,0,0,0,()),()),false,()))))))))) (ad (a6 x.1 6) (ad (a6 x.1 6) (some (((0,0,0,0,0,0,0,0,()),(0,511,0,31,255,0,0,0,()),()),true,())) (some (((0,0,0,0,0,0,0,0,()),(0,511,0,31,0,0,0,0,()),()),true,()))) (ad (a6 x.1 7) (ad (a6 x.1 7) (ad (a6 x.1 8) (some (((0,0,0,0,0,0,0,0,()),(0,15,0,31,255,3,0,0,()),()),true,())) (some (((0,0,0,0,0,0,0,0,()),(0,15,0,31,0,3,0,0,()),()),true,()))) (ad (a6 x.1 9) (some (((0,0,0,0,0,0,0,0,()),(0,0,16,0,0,3,0,0,()),()),true,())) (ad (a6 x.1 10) (some (((0,0,0,0,0,0,0,0,()),(0,0,0,0,0,3,0,0,()),()),true,())) (ad (a6 x.1 11) (some (((0,0,0,0,0,0,0,0,()),(0,0,0,0,48,0,0,0,()),()),true,())) (ad (a6 x.1 12) (some (((0,0,0,0,0,0,0,0,()),(0,0,0,0,0,0,0,0,()),()),true,())) (some (((0,0,0,0,0,0,0,0,()),(0,0,0,0,0,0,0,0,()),()),false,()))))))) (ad (a6 x.1 8) (ad (a6 x.1 8) (some (((0,0,0,0,0,0,0,0,()),(0,15,0,31,255,3,0,0,()),()),true,())) (some (((0,0,0,0,0,0,0,0,()),(0,15,0,31,0,3,0,0,()),()),true,()))) (ad (a6 x.1 9) (some (((0,0,0,0,0,0,0,0,()),(0,0,16,0,0,3,0,0,()),()),true,())) (ad (a6 x.1 10) (some (((0,0,0,0,0,0,0,0,()),(0,0,0,0,0,3,0,0,()),()),true,())) (ad (a6 x.1 11) (some (((0,0,0,0,0,0,0,0,()),(0,0,0,0,48,0,0,0,()),()),true,())) (ad (a6 x.1 12) (some (((0,0,0,0,0,0,0,0,()),(0,0,0,0,0,0,0,0,()),()),true,())) (some (((0,0,0,0,0,0,0,0,()),(0,0,0,0,0,0,0,0,()),()),false,())))))))))))))
def aaW:=kB iI k33 227 Tryz.f227 Tr.e Tc
def N0(x:D (.ah pR .un)):Option (D (.ah (.fF 7 iT) .un)):=some (x.1.2.1::x.1.2.2.1::x.1.2.2.2.1::x.1.2.2.2.2.1::x.1.2.2.2.2.2.1::x.1.2.2.2.2.2.2.1::x.1.2.2.2.2.2.2.2.1::[],())
def aaV:=kB iI aaW 228 Tryz.f228 Tr.e N0
def Dl(x:D iU):Option (D bU):=ad (a6 x.1 1) (some (true,())) (some (a6 x.1 3,()))
def aaU:=kB iI aaV 229 Tryz.f229 Tr.e Dl
def oi(x:D (.ah pR .un)):Option (D iU):=am (Tc (x.1.1,())) λe=>ad (bL e.2.1) (some (1,())) (am (N0 (x.1,())) λb=>am (N0 (e.1.1,())) λc=>am (N0 (e.1.2.1,())) λa=>aD (ad (ay (bm 0 b.1 0) (bm 0 c.1 0)) (ad (a6 (bm 0 a.1 0) 0) (ao (some (1,()))) (some (.inl (2,())))) (ad (ay (bm 0 a.1 0) (bm 0 b.1 0)) (ad (a6 (bm 0 a.1 0) 0) (ao (some (1,()))) (some (.inl (2,())))) (some (.inl (0,()))))) λg=>aD (ad (ay (bm 0 b.1 1) (bm 0 c.1 1)) (ad (a6 (bm 0 a.1 1) 0) (ao (some (1,()))) (some (.inl (2,())))) (ad (ay (bm 0 a.1 1) (bm 0 b.1 1)) (ad (a6 (bm 0 a.1 1) 0) (ao (some (1,()))) (some (.inl (2,())))) (some (.inl (g.1,()))))) λh=>aD (ad (ay (bm 0 b.1 2) (bm 0 c.1 2)) (ad (a6 (bm 0 a.1 2) 0) (ao (some (1,()))) (some (.inl (2,())))) (ad (ay (bm 0 a.1 2) (bm 0 b.1 2)) (ad (a6 (bm 0 a.1 2) 0) (ao (some (1,()))) (some (.inl (2,())))) (some (.inl (h.1,()))))) λi=>aD (ad (ay (bm 0 b.1 3) (bm 0 c.1 3)) (ad (a6 (bm 0 a.1 3) 0) (ao (some (1,()))) (some (.inl (2,())))) (ad (ay (bm 0 a.1 3) (bm 0 b.1 3)) (ad (a6 (bm 0 a.1 3) 0) (ao (some (1,()))) (some (.inl (2,())))) (some (.inl (i.1,()))))) λj=>aD (ad (ay (bm 0 b.1 4) (bm 0 c.1 4)) (ad (a6 (bm 0 a.1 4) 0) (ao (some (1,()))) (some (.inl (2,())))) (ad (ay (bm 0 a.1 4) (bm 0 b.1 4)) (ad (a6 (bm 0 a.1 4) 0) (ao (some (1,()))) (some (.inl (2,())))) (some (.inl (j.1,()))))) λk=>aD (ad (ay (bm 0 b.1 5) (bm 0 c.1 5)) (ad (a6 (bm 0 a.1 5) 0) (ao (some (1,()))) (some (.inl (2,())))) (ad (ay (bm 0 a.1 5) (bm 0 b.1 5)) (ad (a6 (bm 0 a.1 5) 0) (ao (some (1,()))) (some (.inl (2,())))) (some (.inl (k.1,()))))) λl=>aD (ad (ay (bm 0 b.1 6) (bm 0 c.1 6)) (ad (a6 (bm 0 a.1 6) 0) (ao (some (1,()))) (some (.inl (2,())))) (ad (ay (bm 0 a.1 6) (bm 0 b.1 6)) (ad (a6 (bm 0 a.1 6) 0) (ao (some (1,()))) (some (.inl (2,())))) (some (.inl (l.1,()))))) λd=>ad (a6 e.1.2.1.2.2.2.2.2.2.1 3) (am (Dl (x.1.2.2.2.2.2.2.1,())) λf=>ad (bL f.1) (some (2,())) (ad (a6 x.1.1 1) (ad (a6 x.1.2.2.2.2.2.1 (-1)) (ad (bH x.1.2.2.2.1 0) (some (2,())) (some (d.1,()))) (some (d.1,()))) (some (d.1,())))) (ad (a6 x.1.1 1) (ad (a6 x.1.2.2.2.2.2.1 (-1)) (ad (bH x.1.2.2.2.1 0) (some (2,())) (some (d.1,()))) (some (d.1,()))) (some (d.1,()))))
def abp:=kB iI aaU 183 Tryz.f183 (hs [(2,kp [1,3,6,7] (.val 8 iT::kp [27,28] []))]) oi
def J0(x:D (.ah Bb .un)):Option (D iU):=ad (ay 48 (ak x.1)) (some (9,())) (aD (aB (λa=>ad (ay a.1 (ak x.1)) (am (ax x.1 a.1) λc=>am (oi (c,())) λb=>ad (bH b.1 0) (ao (ao (some (b.1,())))) (some (.inl (ai .i64 a.1 1,())))) (ao (some (.inl ())))) 1000000000 (0,())) λd=>some (0,()))
def ab8:=kB iI abp 109 Tryz.f109 (hs [(0,[]),(1,kp [9,10] [.val 11 iT])]) J0
def Wg(x:D (.ah cc .un)):Option (D iU):=am (nF (ak x.1.2.2.2.2.2.2.2.2.2.2.2.2.1,1,8,())) λd=>ad (bL d.1) (some (1,())) (aD (aB (λa=>ad (ay a.1 (ak x.1.2.2.2.2.2.2.2.2.2.2.2.2.1)) (am (ax x.1.2.2.2.2.2.2.2.2.2.2.2.2.1 a.1) λb=>am (J0 (b.2.1,())) λc=>ad (bH c.1 0) (ao (ao (some (c.1,())))) (am (nF (b.1,0,bo .i64 (ak x.1.2.2.2.2.2.2.2.2.2.2.2.1) 1,())) λe=>ad (bL e.1) (ao (ao (some (2,())))) (some (.inl (ai .i64 a.1 1,()))))) (ao (some (.inl ())))) 1000000000 (0,())) λf=>some (0,()))
def k34:=kB iI ab8 34 Tryz.f34 (hs [(0,[]),(1,kp [1,12,13] [.val 14 iT])]) Wg
def zH(x:D (.ah cc .un)):Option (D iU):=am (PX (x.1,())) λa=>ad (bH a.1 0) (some (a.1,())) (am (PU (x.1,())) λb=>ad (bH b.1 0) (some (b.1,())) (am (PT (x.1,())) λc=>ad (bH c.1 0) (some (c.1,())) (am (PS (x.1,())) λd=>ad (bH d.1 0) (some (d.1,())) (am (Wg (x.1,())) λe=>ad (bH e.1 0) (some (e.1,())) (some (0,()))))))
def k12:=kB iI k34 12 Tryz.f12 Tr.e zH
def Wf(x:D (.ah cc .un)):Option (D bU):=ad (ay (ak x.1.1) 1) (some (false,())) (ad (ay 4 (ak x.1.1)) (some (false,())) (ad (ay (ak x.1.2.1) 1) (some (false,())) (ad (ay 6 (ak x.1.2.1)) (some (false,())) (aD (aB (λc=>ad (ay c.1 (ak x.1.1)) (am (ax x.1.1 c.1) λd=>ad (ay d 0) (ao (ao (some (false,())))) (ad (cL 4 d) (ao (ao (some (false,())))) (some (.inl (ai .i64 c.1 1,()))))) (ao (some (.inl ())))) 1000000000 (0,())) λf=>aD (aB (λb=>ad (ay b.2.2.1 (ak x.1.2.1)) (am (ax x.1.2.1 b.2.2.1) λa=>ad (ay a.1 0) (ao (ao (some (false,())))) (ad (cL 4 a.1) (ao (ao (some (false,())))) (ad (bH a.2.1 0) (ad (bH a.2.1 1) (ao (ao (some (false,())))) (ad (ay a.2.2.1 1) (ao (ao (some (false,())))) (ad (ay 256 a.2.2.1) (ao (ao (some (false,())))) (ad (ay a.2.2.2.1 0) (ao (ao (some (false,())))) (ad (ay a.2.2.1 a.2.2.2.1) (ao (ao (some (false,())))) (ad b.2.1 (some (.inl (ai .i64 b.1 a.2.2.1,true,ai .i64 b.2.2.1 1,()))) (some (.inl (ai .i64 b.1 a.2.2.1,a6 a.2.1 0,ai .i64 b.2.2.1 1,()))))))))) (ad (ay a.2.2.1 1) (ao (ao (some (false,())))) (ad (ay 256 a.2.2.1) (ao (ao (some (false,())))) (ad (ay a.2.2.2.1 0) (ao (ao (some (false,())))) (ad (ay a.2.2.1 a.2.2.2.1) (ao (ao (some (false,())))) (ad b.2.1 (some (.inl (ai .i64 b.1 a.2.2.1,true,ai .i64 b.2.2.1 1,()))) (some (.inl (ai .i64 b.1 a.2.2.1,a6 a.2.1 0,ai .i64 b.2.2.1 1,()))))))))))) (ao (some (.inl (b.1,b.2.1,()))))) 1000000000 (0,false,0,())) λe=>ad e.2.1 (some (cL e.1 256,())) (some (false,()))))))
def k35:=kB iI k12 35 Tryz.f35 (hs [(0,[.aL 1]),(1,kp [1,32,33] [.val 34 iT]),(4,[.val 5 iT,.val 6 .bool]),(5,.val 5 iT:: .val 6 .bool::kp [46,47] [.val 48 iT])]) Wf
def Wd(x:D (.ah cc .un)):Option (D bU):=ad (ay x.1.2.2.2.1 1) (some (false,())) (ad (ay 16 x.1.2.2.2.1) (some (false,())) (ad (ay x.1.2.2.1 1) (some (false,())) (ad (ay x.1.2.2.2.1 x.1.2.2.1) (some (false,())) (ad (ay x.1.2.2.2.2.1 1) (some (false,())) (ad (ay 16 x.1.2.2.2.2.1) (some (false,())) (ad (ay x.1.2.2.2.2.2.1 1) (some (false,())) (ad (ay 16 x.1.2.2.2.2.2.1) (some (false,())) (ad (ay x.1.2.2.2.2.2.2.1 0) (some (false,())) (ad (ay 64 x.1.2.2.2.2.2.2.1) (some (false,())) (ad (ay x.1.2.2.2.2.2.2.2.1 0) (some (false,())) (ad (ay 32 x.1.2.2.2.2.2.2.2.1) (some (false,())) (ad (ay x.1.2.2.2.2.2.2.2.2.1 1) (some (false,())) (ad (ay 256 x.1.2.2.2.2.2.2.2.2.1) (some (false,())) (ad (ay x.1.2.2.2.2.2.2.2.2.2.1 1) (some (false,())) (ad (ay 32 x.1.2.2.2.2.2.2.2.2.2.1) (some (false,())) (ad (ay 4 (ak x.1.2.2.2.2.2.2.2.2.2.2.1)) (some (false,())) (aD (aB (λb=>ad (ay b.1 (ak x.1.2.2.2.2.2.2.2.2.2.2.1)) (am (ax x.1.2.2.2.2.2.2.2.2.2.2.1 b.1) λa=>ad (ay a.1 1) (ao (ao (some (false,())))) (ad (ay 16 a.1) (ao (ao (some (false,())))) (ad (bH (lM .i64 (ak a.2.1) 32) 0) (ao (ao (some (false,())))) (ad (ay (d8 .i64 a.1 32) (ak a.2.1)) (ao (ao (some (false,())))) (some (.inl (ai .i64 b.1 1,()))))))) (ao (some (.inl ())))) 1000000000 (0,())) λc=>some (true,()))))))))))))))))))
def k36:=kB iI k35 36 Tryz.f36 (hs [(0,[]),(1,kp [88,89] [.val 90 iT])]) Wd
def yl(x:D iU):Option (D bU):=ad (cL 0 x.1) (some (cL x.1 1048576,())) (some (false,()))
def ab7:=kB iI k36 110 Tryz.f110 Tr.e yl
def JZ(x:D (.ah kf iU)):Option (D iU):=aD (aB (λa=>ad (ay a.2.1 (ak x.1)) (am (ax x.1 a.2.1) λb=>ad (a6 b.1 x.2.1) (am (ax x.1 a.2.1) λc=>some (.inl (ai .i64 a.1 c.2.1,ai .i64 a.2.1 1,()))) (some (.inl (a.1,ai .i64 a.2.1 1,())))) (ao (some (.inl (a.1,()))))) 1000000000 (0,1,())) λd=>some (d.1,())
def ab6:=kB iI ab7 111 Tryz.f111 (hs [(0,[.val 5 iT]),(1,kp [0,1] [.val 5 iT,.val 6 iT])]) JZ
def Jp(x:D (.ah kf .un)):Option (D iU):=ad (ay (ak x.1) 1) (some (9,())) (ad (ay 8 (ak x.1)) (some (9,())) (aD (aB (λa=>ad (ay a.1 (ak x.1)) (ad (a6 a.1 0) (am (ax x.1 a.1) λe=>ad (bH e.1 (-1)) (ao (ao (some (1,())))) (ad (ay 0 a.1) (am (ax x.1 a.1) λn=>ad (ay n.1 0) (ao (ao (some (1,())))) (am (ax x.1 a.1) λs=>ad (cL a.1 s.1) (ao (ao (some (1,())))) (some (.inl (ai .i64 a.1 1,()))))) (some (.inl (ai .i64 a.1 1,()))))) (ad (ay 0 a.1) (am (ax x.1 a.1) λt=>ad (ay t.1 0) (ao (ao (some (1,())))) (am (ax x.1 a.1) λu=>ad (cL a.1 u.1) (ao (ao (some (1,())))) (some (.inl (ai .i64 a.1 1,()))))) (some (.inl (ai .i64 a.1 1,()))))) (ao (some (.inl ())))) 1000000000 (0,())) λB=>aD (aB (λb=>ad (ay b.1 (ak x.1)) (am (ax x.1 b.1) λv=>am (yl (v.2.1,())) λw=>ad (bL w.1) (ao (ao (some (2,())))) (am (ax x.1 b.1) λf=>am (yl (f.2.2.1,())) λg=>ad (bL g.1) (ao (ao (some (2,())))) (am (ax x.1 b.1) λh=>am (yl (h.2.2.2.1,())) λi=>ad (bL i.1) (ao (ao (some (2,())))) (am (ax x.1 b.1) λj=>am (yl (j.2.2.2.2.1,())) λk=>ad (bL k.1) (ao (ao (some (2,())))) (some (.inl (ai .i64 b.1 1,()))))))) (ao (some (.inl ())))) 1000000000 (0,())) λy=>am (ax x.1 0) λl=>ad (bH l.2.2.1 0) (some (2,())) (am (ax x.1 0) λm=>ad (bH m.2.2.2.1 0) (some (2,())) (aD (aB (λc=>ad (ay c.1 (ak x.1)) (am (ax x.1 c.1) λo=>am (ax x.1 c.1) λp=>ad (ay p.2.2.2.2.1 o.2.1) (ao (ao (some (17,())))) (some (.inl (ai .i64 c.1 1,())))) (ao (some (.inl ())))) 1000000000 (0,())) λz=>aD (aB (λd=>ad (ay d.1 (ak x.1)) (am (ax x.1 d.1) λq=>am (JZ (x.1,d.1,())) λr=>ad (ay q.2.1 r.1) (ao (ao (some (11,())))) (some (.inl (ai .i64 d.1 1,())))) (ao (some (.inl ())))) 1000000000 (0,())) λA=>some (0,())))))
def k37:=kB iI ab6 37 Tryz.f37 (hs [(0,[.aL 0]),(1,[.aL 0,.val 3 iT]),(4,[.aL 0]),(5,[.aL 0,.val 4 iT]),(8,[.aL 0]),(9,[.aL 0,.val 5 iT]),(12,[]),(13,[.aL 0,.val 6 iT])]) Jp
def Hn(x:D (.ah cc .un)):Option (D cU):=aD (aB (λa=>ad (ay a.2.2.1 (ak x.1.2.1)) (am (ax x.1.2.1 a.2.2.1) λb=>some (.inl (ai .i64 a.1 b.2.2.1,ai .i64 a.2.1 (bo .i64 b.2.2.1 b.2.2.2.1),ai .i64 a.2.2.1 1,()))) (ao (some (.inl (a.1,a.2.1,()))))) 1000000000 (0,0,0,())) λc=>some (c.1,c.2.1,())
def k38:=kB iI k37 38 Tryz.f38 (hs [(0,[.val 4 iT,.val 5 iT]),(1,.val 4 iT:: .val 5 iT::kp [9,10] [.val 11 iT])]) Hn
def Jo(x:D (.ah kf iU)):Option (D cU):=am (Jp (x.1,())) λd=>ad (bH d.1 0) (some (0,d.1,())) (ad (ay x.2.1 0) (some (0,2,())) (ad (ay 1048576 x.2.1) (some (0,2,())) (aD (aB (λa=>ad (ay a.1 (ak x.1)) (aD (aD (aB (λb=>ad (ay b.2.1 (ak x.1)) (am (ax x.1 b.2.1) λe=>ad (a6 e.1 a.1) (am (ax x.1 b.2.1) λf=>some (.inl (ai .i64 b.1 f.2.2.1,ai .i64 b.2.1 1,()))) (some (.inl (b.1,ai .i64 b.2.1 1,())))) (ao (some (.inl (b.1,()))))) 1000000000 (0,ai .i64 a.1 1,())) λc=>ad (a6 a.1 0) (ad (ay x.2.1 c.1) (ao (ao (ao (some (a.1,0,()))))) (ad (ay 0 a.1) (am (ax x.1 a.1) λg=>ad (ay g.2.2.1 c.1) (ao (ao (ao (some (a.1,0,()))))) (some (.inl ()))) (some (.inl ())))) (ad (ay 0 a.1) (am (ax x.1 a.1) λh=>ad (ay h.2.2.1 c.1) (ao (ao (ao (some (a.1,0,()))))) (some (.inl ()))) (some (.inl ())))) λi=>some (.inl (ai .i64 a.1 1,()))) (ao (some (.inl ())))) 1000000000 (0,())) λj=>some (-1,0,()))))
def k39:=kB iI k38 39 Tryz.f39 (hs [(0,[]),(1,kp [0,1] [.val 7 iT]),(2,kp [0,1,7] []),(4,kp [0,1,7] [.val 8 iT]),(5,kp [0,1,7] [.val 8 iT,.val 9 iT])]) Jo
def eV(x:D (.ah iT cU)):Option (D bU):=ad (cL x.2.1 x.1) (some (cL x.1 x.2.2.1,())) (some (false,()))
def ab5:=kB iI k39 112 Tryz.f112 Tr.e eV
def qt(x:D (.ah pR .un)):Option (D (.ah pR .un)):=ad (a6 x.1.1 1) (some ((x.1.1,x.1.2.1,x.1.2.2.1,x.1.2.2.2.1,0,x.1.2.2.2.2.2.1,x.1.2.2.2.2.2.2.1,x.1.2.2.2.2.2.2.2.1,()),())) (ad (a6 x.1.1 2) (some ((x.1.1,x.1.2.1,x.1.2.2.1,0,0,0,0,0,()),())) (ad (a6 x.1.1 3) (some ((x.1.1,x.1.2.1,x.1.2.2.1,0,0,0,x.1.2.2.2.2.2.2.1,0,()),())) (ad (a6 x.1.1 4) (some ((x.1.1,x.1.2.1,x.1.2.2.1,0,x.1.2.2.2.2.1,0,0,0,()),())) (ad (a6 x.1.1 5) (some ((x.1.1,x.1.2.1,0,x.1.2.2.2.1,0,0,0,0,()),())) (ad (a6 x.1.1 6) (some ((x.1.1,x.1.2.1,0,x.1.2.2.2.1,x.1.2.2.2.2.1,0,0,0,()),())) (ad (a6 x.1.1 7) (some ((x.1.1,x.1.2.1,0,x.1.2.2.2.1,0,x.1.2.2.2.2.2.1,0,0,()),())) (ad (a6 x.1.1 8) (some ((x.1.1,x.1.2.1,0,x.1.2.2.2.1,x.1.2.2.2.2.1,x.1.2.2.2.2.2.1,0,0,()),())) (ad (a6 x.1.1 9) (some ((x.1.1,0,x.1.2.2.1,0,0,x.1.2.2.2.2.2.1,0,0,()),())) (ad (a6 x.1.1 10) (some ((x.1.1,0,0,0,0,x.1.2.2.2.2.2.1,0,0,()),())) (ad (a6 x.1.1 11) (some ((x.1.1,0,0,0,x.1.2.2.2.2.1,0,0,0,()),())) (some ((x.1.1,0,0,0,0,0,0,0,()),()))))))))))))
def ab4:=kB iI ab5 113 Tryz.f113 Tr.e qt
def o5(x:D (.ah pR .un)):Option (D bU):=am (eV (x.1.2.1,0,511,())) λb=>am (eV (x.1.2.2.1,1,512,())) λa=>ad (a6 x.1.2.2.2.2.2.2.1 1) (ad (a6 x.1.1 1) (am (eV (x.1.2.2.2.2.2.1,-1,3,())) λm=>ad m.1 (am (eV (x.1.2.2.2.1,0,15,())) λy=>ad y.1 (ad (cL 0 x.1.2.2.2.2.2.1) (am (eV (x.1.2.1,-1,511,())) λz=>ad z.1 (ad a.1 (am (eV (x.1.2.2.2.2.2.2.2.1,0,15,())) λA=>ad A.1 (some (true,())) (some (false,()))) (some (false,()))) (some (false,()))) (am (eV (x.1.2.1,-1,511,())) λB=>ad B.1 (ad a.1 (am (eV (x.1.2.2.2.2.2.2.2.1,0,15,())) λC=>ad C.1 (some (a6 x.1.2.2.2.1 0,())) (some (false,()))) (some (false,()))) (some (false,())))) (am (eV (x.1.2.1,-1,511,())) λz0=>ad z0.1 (ad a.1 (am (eV (x.1.2.2.2.2.2.2.2.1,0,15,())) λy0=>ad y0.1 (some (false,())) (some (false,()))) (some (false,()))) (some (false,())))) (am (eV (x.1.2.1,-1,511,())) λc=>ad c.1 (ad a.1 (am (eV (x.1.2.2.2.2.2.2.2.1,0,15,())) λd=>ad d.1 (some (false,())) (some (false,()))) (some (false,()))) (some (false,())))) (ad (a6 x.1.1 2) (ad b.1 (some (a.1,())) (some (false,()))) (ad (a6 x.1.1 3) (ad b.1 (ad a.1 (some (true,())) (some (false,()))) (some (false,()))) (ad (a6 x.1.1 4) (ad b.1 (ad a.1 (am (eV (x.1.2.2.2.2.1,0,1,())) λe=>some (e.1,())) (some (false,()))) (some (false,()))) (ad (a6 x.1.1 5) (ad b.1 (am (eV (x.1.2.2.2.1,0,31,())) λf=>some (f.1,())) (some (false,()))) (ad b.1 (am (eV (x.1.2.2.2.1,0,31,())) λg=>ad g.1 (am (eV (x.1.2.2.2.2.1,0,255,())) λh=>some (h.1,())) (some (false,()))) (some (false,())))))))) (ad (a6 x.1.1 1) (am (eV (x.1.2.2.2.2.2.1,-1,3,())) λi=>ad i.1 (am (eV (x.1.2.2.2.1,0,15,())) λj=>ad j.1 (ad (cL 0 x.1.2.2.2.2.2.1) (am (eV (x.1.2.1,-1,511,())) λk=>ad k.1 (ad a.1 (ad (a6 x.1.2.2.2.2.2.2.1 3) (am (eV (x.1.2.2.2.2.2.2.2.1,0,15,())) λl=>ad l.1 (some (true,())) (some (false,()))) (some (false,()))) (some (false,()))) (some (false,()))) (am (eV (x.1.2.1,-1,511,())) λn=>ad n.1 (ad a.1 (ad (a6 x.1.2.2.2.2.2.2.1 3) (am (eV (x.1.2.2.2.2.2.2.2.1,0,15,())) λo=>ad o.1 (some (a6 x.1.2.2.2.1 0,())) (some (false,()))) (some (false,()))) (some (false,()))) (some (false,())))) (am (eV (x.1.2.1,-1,511,())) λp=>ad p.1 (ad a.1 (ad (a6 x.1.2.2.2.2.2.2.1 3) (am (eV (x.1.2.2.2.2.2.2.2.1,0,15,())) λq=>ad q.1 (some (false,())) (some (false,()))) (some (false,()))) (some (false,()))) (some (false,())))) (am (eV (x.1.2.1,-1,511,())) λr=>ad r.1 (ad a.1 (ad (a6 x.1.2.2.2.2.2.2.1 3) (am (eV (x.1.2.2.2.2.2.2.2.1,0,15,())) λs=>ad s.1 (some (false,())) (some (false,()))) (some (false,()))) (some (false,()))) (some (false,())))) (ad (a6 x.1.1 2) (ad b.1 (some (a.1,())) (some (false,()))) (ad (a6 x.1.1 3) (ad b.1 (ad a.1 (some (a6 x.1.2.2.2.2.2.2.1 3,())) (some (false,()))) (some (false,()))) (ad (a6 x.1.1 4) (ad b.1 (ad a.1 (am (eV (x.1.2.2.2.2.1,0,1,())) λt=>some (t.1,())) (some (false,()))) (some (false,()))) (ad (a6 x.1.1 5) (ad b.1 (am (eV (x.1.2.2.2.1,0,31,())) λu=>some (u.1,())) (some (false,()))) (ad b.1 (am (eV (x.1.2.2.2.1,0,31,())) λv=>ad v.1 (am (eV (x.1.2.2.2.2.1,0,255,())) λw=>some (w.1,())) (some (false,()))) (some (false,()))))))))
def abo:=kB iI ab4 184 Tryz.f184 Tr.e o5
def mR(x:D (.ah pR .un)):Option (D bU):=am (eV (x.1.2.2.2.2.2.1,0,3,())) λa=>ad a.1 (am (eV (x.1.2.1,0,15,())) λc=>ad c.1 (am (eV (x.1.2.2.2.1,0,31,())) λb=>ad (a6 x.1.1 7) (some (b.1,())) (ad (a6 x.1.1 8) (ad b.1 (am (eV (x.1.2.2.2.2.1,0,255,())) λg=>some (g.1,())) (some (false,()))) (ad (a6 x.1.1 9) (ad a.1 (am (eV (x.1.2.2.1,0,16,())) λh=>some (h.1,())) (some (false,()))) (ad (a6 x.1.1 10) (some (a.1,())) (ad (a6 x.1.1 11) (am (eV (x.1.2.2.2.2.1,0,48,())) λi=>some (i.1,())) (ad (a6 x.1.1 12) (some (true,())) (am (o5 (x.1,())) λj=>some (j.1,())))))))) (ad (a6 x.1.1 7) (some (false,())) (ad (a6 x.1.1 8) (some (false,())) (ad (a6 x.1.1 9) (ad a.1 (am (eV (x.1.2.2.1,0,16,())) λk=>some (k.1,())) (some (false,()))) (ad (a6 x.1.1 10) (some (a.1,())) (ad (a6 x.1.1 11) (am (eV (x.1.2.2.2.2.1,0,48,())) λl=>some (l.1,())) (ad (a6 x.1.1 12) (some (true,())) (am (o5 (x.1,())) λm=>some (m.1,()))))))))) (ad (a6 x.1.1 7) (some (false,())) (ad (a6 x.1.1 8) (some (false,())) (ad (a6 x.1.1 9) (ad a.1 (am (eV (x.1.2.2.1,0,16,())) λd=>some (d.1,())) (some (false,()))) (ad (a6 x.1.1 10) (some (a.1,())) (ad (a6 x.1.1 11) (am (eV (x.1.2.2.2.2.1,0,48,())) λe=>some (e.1,())) (ad (a6 x.1.1 12) (some (true,())) (am (o5 (x.1,())) λf=>some (f.1,()))))))))
def ab3:=kB iI abo 114 Tryz.f114 Tr.e mR
def SO(x:D (.ah Bb .un)):Option (D iU):=ad (ay 48 (ak x.1)) (some (9,())) (aD (aB (λc=>ad (ay c.1 (ak x.1)) (am (ax x.1 c.1) λd=>am (eV (d.1,1,12,())) λe=>ad (bL e.1) (ao (ao (some (1,())))) (am (ax x.1 c.1) λf=>am (ax x.1 c.1) λa=>am (qt (f,())) λb=>ad (bL (fc (a6 b.1.1 a.1) (fc (a6 b.1.2.1 a.2.1) (fc (a6 b.1.2.2.1 a.2.2.1) (fc (a6 b.1.2.2.2.1 a.2.2.2.1) (fc (a6 b.1.2.2.2.2.1 a.2.2.2.2.1) (fc (a6 b.1.2.2.2.2.2.1 a.2.2.2.2.2.1) (fc (a6 b.1.2.2.2.2.2.2.1 a.2.2.2.2.2.2.1) (fc (a6 b.1.2.2.2.2.2.2.2.1 a.2.2.2.2.2.2.2.1) true))))))))) (ao (ao (some (1,())))) (am (ax x.1 c.1) λg=>am (mR (g,())) λh=>ad (bL h.1) (ao (ao (some (2,())))) (some (.inl (ai .i64 c.1 1,())))))) (ao (some (.inl ())))) 1000000000 (0,())) λi=>some (0,()))
def k40:=kB iI ab3 40 Tryz.f40 (hs [(0,[]),(1,[.aL 0,.val 3 iT])]) SO
def L4(x:D (.ah cc .un)):Option (D iU):=am (Wf (x.1,())) λh=>ad (bL h.1) (some (1,())) (am (Wd (x.1,())) λi=>ad (bL i.1) (some (1,())) (am (Jp (x.1.2.2.2.2.2.2.2.2.2.2.2.1,())) λe=>ad (bH e.1 0) (some (e.1,())) (aD (aB (λa=>ad (ay a.1 (ak x.1.2.2.2.2.2.2.2.2.2.2.2.1)) (am (ax x.1.2.2.2.2.2.2.2.2.2.2.2.1 a.1) λj=>ad (bH j.2.1 0) (ao (ao (some (1,())))) (some (.inl (ai .i64 a.1 1,())))) (ao (some (.inl ())))) 1000000000 (0,())) λl=>am (Hn (x.1,())) λf=>ad (ay (bo .i64 (bo .i64 f.2.1 x.1.2.2.2.2.2.2.2.1) 1) 0) (some (18,())) (am (Jo (x.1.2.2.2.2.2.2.2.2.2.2.2.1,bo .i64 (bo .i64 f.2.1 x.1.2.2.2.2.2.2.2.1) 1,())) λg=>ad (bH g.2.1 0) (some (18,())) (ad (bH g.1 (-1)) (some (18,())) (ad (ay (ak x.1.2.2.2.2.2.2.2.2.2.2.2.2.1) 1) (some (1,())) (ad (ay 8 (ak x.1.2.2.2.2.2.2.2.2.2.2.2.2.1)) (some (1,())) (aD (aB (λb=>ad (ay b.1 (ak x.1.2.2.2.2.2.2.2.2.2.2.2.2.1)) (am (ax x.1.2.2.2.2.2.2.2.2.2.2.2.2.1 b.1) λc=>am (SO (c.2.1,())) λd=>ad (bH d.1 0) (ao (ao (some (d.1,())))) (ad (ay c.1 0) (ao (ao (some (2,())))) (ad (cL (ak x.1.2.2.2.2.2.2.2.2.2.2.2.1) c.1) (ao (ao (some (2,())))) (some (.inl (ai .i64 b.1 1,())))))) (ao (some (.inl ())))) 1000000000 (0,())) λk=>some (0,())))))))))
def k13:=kB iI k40 13 Tryz.f13 (hs [(0,[.aL 1]),(1,kp [1,29,30] [.val 31 iT]),(4,[]),(5,kp [1,75,76] [.val 77 iT])]) L4
def F3(x:D (.ah cc .un)):Option (D bU):=am (D0 (x.1,())) λa=>ad (bL a.1) (some (true,())) (am (zH (x.1,())) λb=>am (L4 (x.1,())) λc=>ad (a6 b.1 c.1) (some (true,())) (some (false,())))
theorem n3:eA.fn.ap 3=some Tryz.f3:=by kernel_rfl
theorem e3:eA.ext.ap 3=none:=by kernel_rfl
def k3:=kB iI k13 3 Tryz.f3 Tr.e F3
abbrev eH:U:= .ah iT (.ah iT (.ah iT (.ah iT (.ah iT (.ah (.fF 5 lI) .un)))))
abbrev xd:U:= .bc eH
abbrev fu:U:= .ah (.bc lI) .un
abbrev WJ:U:= .bc fu
abbrev du:U:= .ah lI (.ah iT (.ah iT (.ah xd (.ah WJ .un))))
abbrev Kj:U:= .ah iT (.ah (.bc .bool) .un)
abbrev WG:U:= .bc Kj
abbrev zO:U:= .ah iT (.ah WG .un)
abbrev tX:U:= .bc cU
abbrev XL:U:= .fF 2 og
abbrev Ki:U:= .ah iT (.ah XL .un)
abbrev WF:U:= .bc Ki
abbrev zN:U:= .ah iT (.ah WF .un)
abbrev kk:U:= .ah iT bU
abbrev Kh:U:= .ah (.fF 8 iT) (.ah (.fF 2 iT) (.ah .nil .un))
abbrev yu:U:= .ah iT (.ah Kh .un)
abbrev jZ:U:= .ah iT (.ah iT (.ah iT (.ah iT (.ah iT (.ah .bool (.ah kk (.ah yu (.ah (.bc .bool) .un))))))))
abbrev Bc:U:= .bc jZ
abbrev yt:U:= .ah iT (.ah iT og)
abbrev WE:U:= .bc yt
abbrev ns:U:= .ah iT (.ah iT (.ah (.bc (.bc (.int .u8))) (.ah Mg (.ah WE .un))))
abbrev XO:U:= .ah iT (.ah pR cU)
abbrev Ql:U:= .bc XO
abbrev XJ:U:= .ah iT (.ah iT (.ah iT (.ah iT (.ah iT (.ah .bool bU)))))
abbrev XK:U:= .bc XJ
abbrev Kg:U:= .ah iT (.ah iT (.ah .bool (.ah iT (.ah XK .un))))
abbrev Mf:U:= .bc Kg
abbrev XN:U:= .ah iT (.ah iT (.ah (.int .u64) .un))
abbrev XP:U:= .bc XN
abbrev kO:U:= .ah iT (.ah XP .un)
abbrev WL:U:= .bc kO
abbrev XM:U:= .ah iT kk
abbrev wy:U:= .bc XM
abbrev WK:U:= .bc wy
abbrev vU:U:= .ah iT (.ah iT (.ah iT (.ah iT (.ah iT (.ah iT (.ah iT (.ah iT (.ah iT (.ah iT (.ah .bool (.ah .bool (.ah .bool (.ah iT (.ah tX (.ah (.bc (.int .u8)) .un)))))))))))))))
abbrev WH:U:= .bc vU
abbrev Hw:U:= .ah iT (.ah iT (.ah iT (.ah iT (.ah WC (.ah .nil .un)))))
abbrev ZV:U:= .ah iT (.ah (.fF 8 (.int .u64)) .un)
abbrev ZW:U:= .bc ZV
abbrev rN:U:= .ah iT (.ah ZW (.ah tX .un))
abbrev xc:U:= .ah iT (.ah iT (.ah iT (.ah iT (.ah iT (.ah Bb (.ah Hw (.ah rN (.ah lI (.ah lI (.ah lI (.ah lI rO)))))))))))
abbrev WD:U:= .bc xc
abbrev fT:U:= .ah cc (.ah iT (.ah iT (.ah lI (.ah WL (.ah WK (.ah du (.ah WH (.ah zO (.ah kf (.ah Bd (.ah (.bc lI) (.ah tX (.ah zN (.ah Bc (.ah ns (.ah lI (.ah WD (.ah Ql (.ah Mf .un)))))))))))))))))))
def aap:KK:=⟨k3.1.set 294 ⟨.un,.un,λ_=>none⟩,ta k3.2 λh b c x y _ _ _ _ a=>by cases a⟩
def b0:List Kd:=[.v lI,.v iT,.v iT,.o eH,.o fu]
def b1:List Kd:=[.v fu]
def b2:List Kd:=[.v iT,.v iT,.v iT,.v iT,.v iT,.o iT,.o iT,.o iT,.o iT,.o iT]
def b3:List Kd:=[.v (.fF 256 .bool)]
def b4:List Kd:=[.v iT,.v iT,.v iT,.v iT,.v iT,.v .bool,.v kk,.v yu,.o .bool]
def b5:List Kd:=[.v iT,.v iT,.o (.bc (.int .u8)),.o og,.o yt]
def b6:List Kd:=[.s iT]
def b7:List Kd:=[.v eH]
def b8:List Kd:=[.v cc,.v iT,.v iT,.o iT,.o kO,.o wy,.v du,.o vU,.v zO,.v kf,.v Bd,.v (.bc lI),.v tX,.v zN,.v Bc,.v ns,.v lI,.o xc,.v Ql,.v Mf]
def ef:Tr (Tr (List Hi)):=hu iI [(116,hs [(0,[.own 5 iT]),(1,.aL 1:: .own 5 iT::kp [8,9] [.val 10 iT])]),(117,Tr.e),(119,hs [(0,[.own 5 og]),(1,.aL 1:: .own 5 og::kp [8,9] [.val 10 iT])]),(120,Tr.e),(122,hs [(0,[.own 5 tW]),(1,.aL 1:: .own 5 tW::kp [8,9] [.val 10 iT])]),(123,Tr.e),(230,hs [(0,[]),(1,kp [0,1,7] [.val 8 iT])]),(186,Tr.e),(187,Tr.e),(237,hs [(0,[]),(1,kp [0,1,7] [.val 8 iT])]),(238,Tr.e),(189,Tr.e),(236,hs [(0,[.mp 3]),(1,.mp 3::kp [10,11] [.val 12 iT]),(2,.mp 3::kp [10,11,12] []),(4,.mp 3::kp [10,11,12] []),(5,.mp 3::kp [10,11,12,16,17] [.val 18 iT])]),(293,hs [(0,[.rw 0 iT]),(1,.rw 0 iT::kp [1,2,3] [.val 8 iT]),(2,.rw 0 iT::kp [1,2,3,8] []),(4,.rw 0 iT::kp [1,2,3,8] []),(5,.rw 0 iT::kp [1,2,3,8] [.val 9 iT])]),(275,hs [(0,.rw 0 iT::kp [1,2,6] [.val 7 iT]),(1,.rw 0 iT::kp [1,2,6] [.val 7 iT,.val 8 iT]),(4,[.rw 0 iT]),(5,.rw 0 iT::kp [1,2] [.val 6 iT]),(6,.rw 0 iT::kp [1,2] [.val 6 iT]),(8,.rw 0 iT::kp [1,2,6] [.val 7 iT]),(9,.rw 0 iT::kp [1,2,6] [.val 7 iT,.val 8 iT])]),(244,Tr.e),(242,Tr.e),(245,Tr.e),(279,Tr.e),(204,hs [(0,[.box 1 b0,.aL 2]),(1,.box 1 b0::kp [2,22] [.val 23 iT]),(2,.box 1 b0::kp [2,22,23] []),(6,.box 1 b0::kp [2,3,22,23,26] []),(8,[.box 1 b0,.aL 2]),(9,.box 1 b0::kp [2,49] [.val 50 iT]),(10,.box 1 b0::kp [2,49,50] []),(12,kp [1,2,5] (.own 6 lI::kp [49,50] [])),(13,kp [1,2,5] (.own 6 lI::kp [49,50,61] [.val 62 iT]))]),(205,hs [(0,.box 0 b0::kp [1,2] [.own 7 iT]),(1,.box 0 b0::kp [1,2] [.own 7 iT,.aL 16,.val 17 iT])]),(206,Tr.e),(254,hs [(0,[.box 0 b0]),(1,.box 0 b0::kp [1,10,11] [.val 12 iT])]),(137,hs [(0,[.own 5 iT]),(1,.aL 1:: .own 5 iT::kp [8,9] [.val 10 iT])]),(138,Tr.e),(55,Tr.e),(234,Tr.e),(277,Tr.e),(252,hs [(0,kp [1,2,3] [.box 6 b1,.mp 9]),(1,kp [1,2,3] (.box 6 b1:: .mp 9::kp [23,24] [.val 25 iT])),(4,kp [1,3,6] [.own 12 iT]),(5,kp [1,2,3,6] [.own 12 iT,.aL 55,.val 56 iT])])]
def JL(x:D iU):Option (D bU):=ad (cL 0 x.1) (some (cL x.1 16,())) (some (false,()))
def abn:=kB ef aap 185 Tryz.f185 Tr.e JL
def JY(x:D (.ah lI iU)):Option (D (.ah lI iU)):=ad (ay 4 (ak x.1)) (some ([],9,())) (aD (aB (λa=>ad (ay a.2.2.1 (ak x.1)) (am (ax x.1 a.2.2.1) λc=>ad (ay c 1) (ao (ao (some ([],2,())))) (am (JL (c,())) λd=>ad (bL d.1) (ao (ao (some ([],2,())))) (aA (aO a.2.1 (a.1::[]) 8) (some (.inl (ai .i64 a.1 (ai .i64 1 c),aM a.2.1 (a.1::[]),ai .i64 a.2.2.1 1,())))))) (ao (some (.inl (a.1,a.2.1,()))))) 1000000000 (0,[],0,())) λb=>ad (ay x.2.1 0) (some ([],2,())) (ad (ay 64 x.2.1) (some ([],2,())) (aA (aO b.2.1 (b.1::ai .i64 b.1 x.2.1::[]) 8) (some (aM b.2.1 (b.1::ai .i64 b.1 x.2.1::[]),0,())))))
def ab2:=kB ef abn 115 Tryz.f115 (hs [(0,[.aL 1,.val 6 iT,.own 7 iT]),(1,.aL 1:: .val 6 iT:: .own 7 iT::kp [13,14] [.val 15 iT])]) JY
def Hl(x:D (.ah cc .un)):Option (D (.ah lI .un)):=aD (aB (λa=>ad (ay a.2.1 (ak x.1.2.2.2.2.2.2.2.2.2.2.1)) (am (ax x.1.2.2.2.2.2.2.2.2.2.2.1 a.2.1) λb=>aA (aO a.1 (b.1::[]) 8) (some (.inl (aM a.1 (b.1::[]),ai .i64 a.2.1 1,())))) (ao (some (.inl (a.1,()))))) 1000000000 ([],0,())) λc=>am (JY (c.1,x.1.2.2.2.2.2.2.1,())) λd=>some (d.1,())
def k41:=kB ef ab2 41 Tryz.f41 Tr.e Hl
def V8(x:D (.ah cc .un)):Option (D (.ah cc .un)):=aA (aO [] x.1.1 8) (aA (aO [] x.1.2.1 32) (aA (aO [] x.1.2.2.2.2.2.2.2.2.2.2.2.1 40) (aD (aB (λa=>ad (ay a.2.1 (ak x.1.2.2.2.2.2.2.2.2.2.2.1)) (am (ax x.1.2.2.2.2.2.2.2.2.2.2.1 a.2.1) λc=>aA (aO [] c.2.1 1) (aA (aO a.1 ((c.1,aM [] c.2.1,())::[]) 32) (some (.inl (aM a.1 ((c.1,aM [] c.2.1,())::[]),ai .i64 a.2.1 1,()))))) (ao (some (.inl (a.1,()))))) 1000000000 ([],0,())) λe=>aD (aB (λb=>ad (ay b.2.1 (ak x.1.2.2.2.2.2.2.2.2.2.2.2.2.1)) (am (ax x.1.2.2.2.2.2.2.2.2.2.2.2.2.1 b.2.1) λd=>aA (aO [] d.2.1 64) (aA (aO b.1 ((d.1,aM [] d.2.1,())::[]) 32) (some (.inl (aM b.1 ((d.1,aM [] d.2.1,())::[]),ai .i64 b.2.1 1,()))))) (ao (some (.inl (b.1,()))))) 1000000000 ([],0,())) λf=>some ((aM [] x.1.1,aM [] x.1.2.1,x.1.2.2.1,x.1.2.2.2.1,x.1.2.2.2.2.1,x.1.2.2.2.2.2.1,x.1.2.2.2.2.2.2.1,x.1.2.2.2.2.2.2.2.1,x.1.2.2.2.2.2.2.2.2.1,x.1.2.2.2.2.2.2.2.2.2.1,e.1,aM [] x.1.2.2.2.2.2.2.2.2.2.2.2.1,f.1,()),()))))
def k43:=kB ef k41 43 Tryz.f43 Tr.e V8
def Hk(x:D iU):Option (D (.ah kO iU)):=ad (ay x.1 1) (some ((0,[],()),1,())) (ad (ay 16 x.1) (some ((0,[],()),1,())) (some ((x.1,[],()),0,())))
def k44:=kB ef k43 44 Tryz.f44 Tr.e Hk
def Ds(x:D (.ah du .un)):Option (D bU):=ad (ay (ak x.1.1) 1) (some (false,())) (ad (ay 4 (ak x.1.1)) (some (false,())) (ad (ay 64 x.1.2.2.1) (some (false,())) (ad (ay x.1.2.1 1) (some (false,())) (ad (ay x.1.2.2.1 x.1.2.1) (some (false,())) (ad (ay (ak x.1.2.2.2.1) 1) (some (false,())) (ad (ay 6 (ak x.1.2.2.2.1)) (some (false,())) (aD (aB (λa=>ad (ay a.1 (ak x.1.1)) (am (ax x.1.1 a.1) λb=>ad (ay b 0) (ao (ao (some (bL (cL 0 a.1),())))) (ad (cL 4 b) (ao (ao (some (bL (cL 0 a.1),())))) (some (.inl (ai .i64 a.1 1,()))))) (ao (some (.inl ())))) 1000000000 (0,())) λc=>some (true,()))))))))
def ab1:=kB ef k44 125 Tryz.f125 Tr.e Ds
def rf(x:D (.ah eH .un)):Option (D bU):=ad (cL 0 x.1.1) (ad (ay x.1.1 4) (ad (a6 x.1.2.1 0) (ad (cL 0 x.1.2.2.1) (ad (ay x.1.2.2.1 256) (ad (cL 1 x.1.2.2.2.1) (ad (cL x.1.2.2.2.1 (bo .i64 256 x.1.2.2.1)) (ad (cL 0 x.1.2.2.2.2.1) (some (cL x.1.2.2.2.2.1 x.1.2.2.2.1,())) (some (false,()))) (some (false,()))) (some (false,()))) (some (false,()))) (some (false,()))) (ad (a6 x.1.2.1 1) (ad (cL 0 x.1.2.2.1) (ad (ay x.1.2.2.1 256) (ad (cL 1 x.1.2.2.2.1) (ad (cL x.1.2.2.2.1 (bo .i64 256 x.1.2.2.1)) (ad (cL 0 x.1.2.2.2.2.1) (some (cL x.1.2.2.2.2.1 x.1.2.2.2.1,())) (some (false,()))) (some (false,()))) (some (false,()))) (some (false,()))) (some (false,()))) (some (false,())))) (some (false,()))) (some (false,()))
def abm:=kB ef ab1 188 Tryz.f188 Tr.e rf
def wj(x:D iU):Option (D bU):=some (bH x.1 x.1,())
def aaz:=kB ef abm 276 Tryz.f276 Tr.e wj
def NU(x:D cU):Option (D bU):=am (wj (x.1,())) λa=>ad a.1 (am (wj (x.2.1,())) λb=>ad (bL b.1) (some (true,())) (some (ay x.1 x.2.1,()))) (some (ay x.1 x.2.1,()))
def aaC:=kB ef aaz 270 Tryz.f270 Tr.e NU
def NT(x:D iU):Option (D bU):=some (bH x.1 x.1,())
def aaB:=kB ef aaC 271 Tryz.f271 Tr.e NT
def gC(x:D (.ah lI iU)):Option (D kk):=aD (aB (λa=>ad (ay a.1 a.2.1) (am (ax x.1 (ek .i64 (rV .u64 (ek .u64 (ai .i64 a.1 a.2.1)) 1))) λc=>am (NU (c,x.2.1,())) λd=>ad d.1 (some (.inl (ai .i64 (ek .i64 (rV .u64 (ek .u64 (ai .i64 a.1 a.2.1)) 1)) 1,a.2.1,()))) (some (.inl (a.1,ek .i64 (rV .u64 (ek .u64 (ai .i64 a.1 a.2.1)) 1),())))) (ao (some (.inl (a.1,()))))) 1000000000 (0,ak x.1,())) λb=>ad (ay b.1 (ak x.1)) (am (ax x.1 b.1) λe=>ad (a6 e x.2.1) (some (b.1,true,())) (am (ax x.1 b.1) λf=>am (NT (f,())) λg=>ad g.1 (am (NT (x.2.1,())) λh=>some (b.1,h.1,())) (some (b.1,false,())))) (some (b.1,false,()))
def aaT:=kB ef aaB 231 Tryz.f231 (hs [(0,kp [0,1,6] [.val 7 iT]),(1,kp [0,1,6] [.val 7 iT,.val 8 iT])]) gC
def lg(x:D (.ah eH cU)):Option (D bU):=aA (cV x.2.2.1) (ad (cL x.1.2.2.1 x.2.1) (aA (bH (fB .i64 1 x.2.2.1) 0) (ad (a6 (lM .i64 x.2.1 (fB .i64 1 x.2.2.1)) 0) (ad (cL (fB .i64 1 x.2.2.1) x.1.2.2.2.1) (some (cL x.2.1 (bo .i64 (ai .i64 x.1.2.2.1 x.1.2.2.2.1) (fB .i64 1 x.2.2.1)),())) (some (false,()))) (some (false,())))) (some (false,())))
def aaS:=kB ef aaT 232 Tryz.f232 Tr.e lg
def JW(x:D rO):Option (D (.ah eH iU)):=am (rf ((x.1,x.2.1,x.2.2.1,x.2.2.2.1,x.2.2.2.2.1,[]::[]::[]::[]::[]::[],()),())) λp=>ad (bL p.1) (some ((0,0,0,0,0,[]::[]::[]::[]::[]::[],()),2,())) (aD (aB (λa=>ad (ay a.2.1 (ai .i64 x.2.2.1 x.2.2.2.1)) (am (gC (a.1.2.2.2.2.2.1,bK .i64 a.2.1 1,())) λb=>ad (bL b.2.1) (am (gC (a.1.2.2.2.2.2.1,a.2.1,())) λl=>aA (dJ l.1 (ak a.1.2.2.2.2.2.1) (ak a.1.2.2.2.2.2.1)) (ad (a6 l.1 (ak a.1.2.2.2.2.2.1)) (aA (aO a.1.2.2.2.2.2.1 (a.2.1::[]) 8) (some (.inl ((a.1.1,a.1.2.1,a.1.2.2.1,a.1.2.2.2.1,a.1.2.2.2.2.1,aM a.1.2.2.2.2.2.1 (a.2.1::[]),a.1.2.2.2.2.2.2.1,a.1.2.2.2.2.2.2.2.1,a.1.2.2.2.2.2.2.2.2.1,a.1.2.2.2.2.2.2.2.2.2.1,()),ai .i64 a.2.1 1,())))) none)) (am (lg ((a.1.1,a.1.2.1,a.1.2.2.1,a.1.2.2.2.1,a.1.2.2.2.2.1,a.1.2.2.2.2.2.1::a.1.2.2.2.2.2.2.1::a.1.2.2.2.2.2.2.2.1::a.1.2.2.2.2.2.2.2.2.1::a.1.2.2.2.2.2.2.2.2.2.1::[],()),bN a.2.1 (bK .i64 a.2.1 1),1,())) λs=>ad (bL s.1) (am (gC (a.1.2.2.2.2.2.1,a.2.1,())) λm=>aA (dJ m.1 (ak a.1.2.2.2.2.2.1) (ak a.1.2.2.2.2.2.1)) (ad (a6 m.1 (ak a.1.2.2.2.2.2.1)) (aA (aO a.1.2.2.2.2.2.1 (a.2.1::[]) 8) (some (.inl ((a.1.1,a.1.2.1,a.1.2.2.1,a.1.2.2.2.1,a.1.2.2.2.2.1,aM a.1.2.2.2.2.2.1 (a.2.1::[]),a.1.2.2.2.2.2.2.1,a.1.2.2.2.2.2.2.2.1,a.1.2.2.2.2.2.2.2.2.1,a.1.2.2.2.2.2.2.2.2.2.1,()),ai .i64 a.2.1 1,())))) none)) (aA (a5 a.1.2.2.2.2.2.1 b.1) (aA (a6 (ai .i64 b.1 1) (ai .i64 b.1 1)) (aA (aO [] a.1.2.2.2.2.2.1 8) (am (gC (a.1.2.2.2.2.2.2.1,bK .i64 (bN a.2.1 (bK .i64 a.2.1 1)) 2,())) λc=>ad (bL c.2.1) (am (gC (a.1.2.2.2.2.2.2.1,bN a.2.1 (bK .i64 a.2.1 1),())) λn=>aA (dJ n.1 (ak a.1.2.2.2.2.2.2.1) (ak a.1.2.2.2.2.2.2.1)) (ad (a6 n.1 (ak a.1.2.2.2.2.2.2.1)) (aA (aO a.1.2.2.2.2.2.2.1 (bN a.2.1 (bK .i64 a.2.1 1)::[]) 8) (some (.inl ((a.1.1,a.1.2.1,a.1.2.2.1,a.1.2.2.2.1,a.1.2.2.2.2.1,ig a.1.2.2.2.2.2.1 b.1,aM a.1.2.2.2.2.2.2.1 (bN a.2.1 (bK .i64 a.2.1 1)::[]),a.1.2.2.2.2.2.2.2.1,a.1.2.2.2.2.2.2.2.2.1,a.1.2.2.2.2.2.2.2.2.2.1,()),ai .i64 a.2.1 1,())))) none)) (am (lg ((a.1.1,a.1.2.1,a.1.2.2.1,a.1.2.2.2.1,a.1.2.2.2.2.1,ig a.1.2.2.2.2.2.1 b.1::a.1.2.2.2.2.2.2.1::a.1.2.2.2.2.2.2.2.1::a.1.2.2.2.2.2.2.2.2.1::a.1.2.2.2.2.2.2.2.2.2.1::[],()),bN (bN a.2.1 (bK .i64 a.2.1 1)) (bK .i64 (bN a.2.1 (bK .i64 a.2.1 1)) 2),2,())) λt=>ad (bL t.1) (am (gC (a.1.2.2.2.2.2.2.1,bN a.2.1 (bK .i64 a.2.1 1),())) λo=>aA (dJ o.1 (ak a.1.2.2.2.2.2.2.1) (ak a.1.2.2.2.2.2.2.1)) (ad (a6 o.1 (ak a.1.2.2.2.2.2.2.1)) (aA (aO a.1.2.2.2.2.2.2.1 (bN a.2.1 (bK .i64 a.2.1 1)::[]) 8) (some (.inl ((a.1.1,a.1.2.1,a.1.2.2.1,a.1.2.2.2.1,a.1.2.2.2.2.1,ig a.1.2.2.2.2.2.1 b.1,aM a.1.2.2.2.2.2.2.1 (bN a.2.1 (bK .i64 a.2.1 1)::[]),a.1.2.2.2.2.2.2.2.1,a.1.2.2.2.2.2.2.2.2.1,a.1.2.2.2.2.2.2.2.2.2.1,()),ai .i64 a.2.1 1,())))) none)) (aA (a5 a.1.2.2.2.2.2.2.1 c.1) (aA (a6 (ai .i64 c.1 1) (ai .i64 c.1 1)) (aA (aO [] a.1.2.2.2.2.2.2.1 8) (am (gC (a.1.2.2.2.2.2.2.2.1,bK .i64 (bN (bN a.2.1 (bK .i64 a.2.1 1)) (bK .i64 (bN a.2.1 (bK .i64 a.2.1 1)) 2)) 4,())) λe=>ad (bL e.2.1) (am (gC (a.1.2.2.2.2.2.2.2.1,bN (bN a.2.1 (bK .i64 a.2.1 1)) (bK .i64 (bN a.2.1 (bK .i64 a.2.1 1)) 2),())) λg=>aA (dJ g.1 (ak a.1.2.2.2.2.2.2.2.1) (ak a.1.2.2.2.2.2.2.2.1)) (ad (a6 g.1 (ak a.1.2.2.2.2.2.2.2.1)) (aA (aO a.1.2.2.2.2.2.2.2.1 (bN (bN a.2.1 (bK .i64 a.2.1 1)) (bK .i64 (bN a.2.1 (bK .i64 a.2.1 1)) 2)::[]) 8) (some (.inl ((a.1.1,a.1.2.1,a.1.2.2.1,a.1.2.2.2.1,a.1.2.2.2.2.1,ig a.1.2.2.2.2.2.1 b.1,ig a.1.2.2.2.2.2.2.1 c.1,aM a.1.2.2.2.2.2.2.2.1 (bN (bN a.2.1 (bK .i64 a.2.1 1)) (bK .i64 (bN a.2.1 (bK .i64 a.2.1 1)) 2)::[]),a.1.2.2.2.2.2.2.2.2.1,a.1.2.2.2.2.2.2.2.2.2.1,()),ai .i64 a.2.1 1,())))) none)) (am (lg ((a.1.1,a.1.2.1,a.1.2.2.1,a.1.2.2.2.1,a.1.2.2.2.2.1,ig a.1.2.2.2.2.2.1 b.1::ig a.1.2.2.2.2.2.2.1 c.1::a.1.2.2.2.2.2.2.2.1::a.1.2.2.2.2.2.2.2.2.1::a.1.2.2.2.2.2.2.2.2.2.1::[],()),bN (bN (bN a.2.1 (bK .i64 a.2.1 1)) (bK .i64 (bN a.2.1 (bK .i64 a.2.1 1)) 2)) (bK .i64 (bN (bN a.2.1 (bK .i64 a.2.1 1)) (bK .i64 (bN a.2.1 (bK .i64 a.2.1 1)) 2)) 4),3,())) λq=>ad (bL q.1) (am (gC (a.1.2.2.2.2.2.2.2.1,bN (bN a.2.1 (bK .i64 a.2.1 1)) (bK .i64 (bN a.2.1 (bK .i64 a.2.1 1)) 2),())) λh=>aA (dJ h.1 (ak a.1.2.2.2.2.2.2.2.1) (ak a.1.2.2.2.2.2.2.2.1)) (ad (a6 h.1 (ak a.1.2.2.2.2.2.2.2.1)) (aA (aO a.1.2.2.2.2.2.2.2.1 (bN (bN a.2.1 (bK .i64 a.2.1 1)) (bK .i64 (bN a.2.1 (bK .i64 a.2.1 1)) 2)::[]) 8) (some (.inl ((a.1.1,a.1.2.1,a.1.2.2.1,a.1.2.2.2.1,a.1.2.2.2.2.1,ig a.1.2.2.2.2.2.1 b.1,ig a.1.2.2.2.2.2.2.1 c.1,aM a.1.2.2.2.2.2.2.2.1 (bN (bN a.2.1 (bK .i64 a.2.1 1)) (bK .i64 (bN a.2.1 (bK .i64 a.2.1 1)) 2)::[]),a.1.2.2.2.2.2.2.2.2.1,a.1.2.2.2.2.2.2.2.2.2.1,()),ai .i64 a.2.1 1,())))) none)) (aA (a5 a.1.2.2.2.2.2.2.2.1 e.1) (aA (a6 (ai .i64 e.1 1) (ai .i64 e.1 1)) (aA (aO [] a.1.2.2.2.2.2.2.2.1 8) (am (gC (a.1.2.2.2.2.2.2.2.2.1,bK .i64 (bN (bN (bN a.2.1 (bK .i64 a.2.1 1)) (bK .i64 (bN a.2.1 (bK .i64 a.2.1 1)) 2)) (bK .i64 (bN (bN a.2.1 (bK .i64 a.2.1 1)) (bK .i64 (bN a.2.1 (bK .i64 a.2.1 1)) 2)) 4)) 8,())) λf=>ad (bL f.2.1) (am (gC (a.1.2.2.2.2.2.2.2.2.1,bN (bN (bN a.2.1 (bK .i64 a.2.1 1)) (bK .i64 (bN a.2.1 (bK .i64 a.2.1 1)) 2)) (bK .i64 (bN (bN a.2.1 (bK .i64 a.2.1 1)) (bK .i64 (bN a.2.1 (bK .i64 a.2.1 1)) 2)) 4),())) λi=>aA (dJ i.1 (ak a.1.2.2.2.2.2.2.2.2.1) (ak a.1.2.2.2.2.2.2.2.2.1)) (ad (a6 i.1 (ak a.1.2.2.2.2.2.2.2.2.1)) (aA (aO a.1.2.2.2.2.2.2.2.2.1 (bN (bN (bN a.2.1 (bK .i64 a.2.1 1)) (bK .i64 (bN a.2.1 (bK .i64 a.2.1 1)) 2)) (bK .i64 (bN (bN a.2.1 (bK .i64 a.2.1 1)) (bK .i64 (bN a.2.1 (bK .i64 a.2.1 1)) 2)) 4)::[]) 8) (some (.inl ((a.1.1,a.1.2.1,a.1.2.2.1,a.1.2.2.2.1,a.1.2.2.2.2.1,ig a.1.2.2.2.2.2.1 b.1,ig a.1.2.2.2.2.2.2.1 c.1,ig a.1.2.2.2.2.2.2.2.1 e.1,aM a.1.2.2.2.2.2.2.2.2.1 (bN (bN (bN a.2.1 (bK .i64 a.2.1 1)) (bK .i64 (bN a.2.1 (bK .i64 a.2.1 1)) 2)) (bK .i64 (bN (bN a.2.1 (bK .i64 a.2.1 1)) (bK .i64 (bN a.2.1 (bK .i64 a.2.1 1)) 2)) 4)::[]),a.1.2.2.2.2.2.2.2.2.2.1,()),ai .i64 a.2.1 1,())))) none)) (am (lg ((a.1.1,a.1.2.1,a.1.2.2.1,a.1.2.2.2.1,a.1.2.2.2.2.1,ig a.1.2.2.2.2.2.1 b.1::ig a.1.2.2.2.2.2.2.1 c.1::ig a.1.2.2.2.2.2.2.2.1 e.1::a.1.2.2.2.2.2.2.2.2.1::a.1.2.2.2.2.2.2.2.2.2.1::[],()),bN (bN (bN (bN a.2.1 (bK .i64 a.2.1 1)) (bK .i64 (bN a.2.1 (bK .i64 a.2.1 1)) 2)) (bK .i64 (bN (bN a.2.1 (bK .i64 a.2.1 1)) (bK .i64 (bN a.2.1 (bK .i64 a.2.1 1)) 2)) 4)) (bK .i64 (bN (bN (bN a.2.1 (bK .i64 a.2.1 1)) (bK .i64 (bN a.2.1 (bK .i64 a.2.1 1)) 2)) (bK .i64 (bN (bN a.2.1 (bK .i64 a.2.1 1)) (bK .i64 (bN a.2.1 (bK .i64 a.2.1 1)) 2)) 4)) 8),4,())) λr=>ad (bL r.1) (am (gC (a.1.2.2.2.2.2.2.2.2.1,bN (bN (bN a.2.1 (bK .i64 a.2.1 1)) (bK .i64 (bN a.2.1 (bK .i64 a.2.1 1)) 2)) (bK .i64 (bN (bN a.2.1 (bK .i64 a.2.1 1)) (bK .i64 (bN a.2.1 (bK .i64 a.2.1 1)) 2)) 4),())) λj=>aA (dJ j.1 (ak a.1.2.2.2.2.2.2.2.2.1) (ak a.1.2.2.2.2.2.2.2.2.1)) (ad (a6 j.1 (ak a.1.2.2.2.2.2.2.2.2.1)) (aA (aO a.1.2.2.2.2.2.2.2.2.1 (bN (bN (bN a.2.1 (bK .i64 a.2.1 1)) (bK .i64 (bN a.2.1 (bK .i64 a.2.1 1)) 2)) (bK .i64 (bN (bN a.2.1 (bK .i64 a.2.1 1)) (bK .i64 (bN a.2.1 (bK .i64 a.2.1 1)) 2)) 4)::[]) 8) (some (.inl ((a.1.1,a.1.2.1,a.1.2.2.1,a.1.2.2.2.1,a.1.2.2.2.2.1,ig a.1.2.2.2.2.2.1 b.1,ig a.1.2.2.2.2.2.2.1 c.1,ig a.1.2.2.2.2.2.2.2.1 e.1,aM a.1.2.2.2.2.2.2.2.2.1 (bN (bN (bN a.2.1 (bK .i64 a.2.1 1)) (bK .i64 (bN a.2.1 (bK .i64 a.2.1 1)) 2)) (bK .i64 (bN (bN a.2.1 (bK .i64 a.2.1 1)) (bK .i64 (bN a.2.1 (bK .i64 a.2.1 1)) 2)) 4)::[]),a.1.2.2.2.2.2.2.2.2.2.1,()),ai .i64 a.2.1 1,())))) none)) (aA (a5 a.1.2.2.2.2.2.2.2.2.1 f.1) (aA (a6 (ai .i64 f.1 1) (ai .i64 f.1 1)) (aA (aO [] a.1.2.2.2.2.2.2.2.2.1 8) (am (gC (a.1.2.2.2.2.2.2.2.2.2.1,bN (bN (bN (bN a.2.1 (bK .i64 a.2.1 1)) (bK .i64 (bN a.2.1 (bK .i64 a.2.1 1)) 2)) (bK .i64 (bN (bN a.2.1 (bK .i64 a.2.1 1)) (bK .i64 (bN a.2.1 (bK .i64 a.2.1 1)) 2)) 4)) (bK .i64 (bN (bN (bN a.2.1 (bK .i64 a.2.1 1)) (bK .i64 (bN a.2.1 (bK .i64 a.2.1 1)) 2)) (bK .i64 (bN (bN a.2.1 (bK .i64 a.2.1 1)) (bK .i64 (bN a.2.1 (bK .i64 a.2.1 1)) 2)) 4)) 8),())) λk=>aA (dJ k.1 (ak a.1.2.2.2.2.2.2.2.2.2.1) (ak a.1.2.2.2.2.2.2.2.2.2.1)) (ad (a6 k.1 (ak a.1.2.2.2.2.2.2.2.2.2.1)) (aA (aO a.1.2.2.2.2.2.2.2.2.2.1 (bN (bN (bN (bN a.2.1 (bK .i64 a.2.1 1)) (bK .i64 (bN a.2.1 (bK .i64 a.2.1 1)) 2)) (bK .i64 (bN (bN a.2.1 (bK .i64 a.2.1 1)) (bK .i64 (bN a.2.1 (bK .i64 a.2.1 1)) 2)) 4)) (bK .i64 (bN (bN (bN a.2.1 (bK .i64 a.2.1 1)) (bK .i64 (bN a.2.1 (bK .i64 a.2.1 1)) 2)) (bK .i64 (bN (bN a.2.1 (bK .i64 a.2.1 1)) (bK .i64 (bN a.2.1 (bK .i64 a.2.1 1)) 2)) 4)) 8)::[]) 8) (some (.inl ((a.1.1,a.1.2.1,a.1.2.2.1,a.1.2.2.2.1,a.1.2.2.2.2.1,ig a.1.2.2.2.2.2.1 b.1,ig a.1.2.2.2.2.2.2.1 c.1,ig a.1.2.2.2.2.2.2.2.1 e.1,ig a.1.2.2.2.2.2.2.2.2.1 f.1,aM a.1.2.2.2.2.2.2.2.2.2.1 (bN (bN (bN (bN a.2.1 (bK .i64 a.2.1 1)) (bK .i64 (bN a.2.1 (bK .i64 a.2.1 1)) 2)) (bK .i64 (bN (bN a.2.1 (bK .i64 a.2.1 1)) (bK .i64 (bN a.2.1 (bK .i64 a.2.1 1)) 2)) 4)) (bK .i64 (bN (bN (bN a.2.1 (bK .i64 a.2.1 1)) (bK .i64 (bN a.2.1 (bK .i64 a.2.1 1)) 2)) (bK .i64 (bN (bN a.2.1 (bK .i64 a.2.1 1)) (bK .i64 (bN a.2.1 (bK .i64 a.2.1 1)) 2)) 4)) 8)::[]),()),ai .i64 a.2.1 1,())))) none)))))))))))))))))))))) (ao (some (.inl (a.1,()))))) 1000000000 ((x.1,x.2.1,x.2.2.1,x.2.2.2.1,x.2.2.2.2.1,[],[],[],[],[],()),x.2.2.1,())) λd=>some ((d.1.1,d.1.2.1,d.1.2.2.1,d.1.2.2.2.1,d.1.2.2.2.2.1,d.1.2.2.2.2.2.1::d.1.2.2.2.2.2.2.1::d.1.2.2.2.2.2.2.2.1::d.1.2.2.2.2.2.2.2.2.1::d.1.2.2.2.2.2.2.2.2.2.1::[],()),0,()))
def ab0:=kB ef aaS 126 Tryz.f126 (hs [(0,[.aL 10,.box 12 b2]),(1,kp [2,3,10] [.box 12 b2,.val 13 iT])]) JW
def FC(x:D iU):Option (D (.ah fu iU)):=ad (ay x.1 1) (some (([],()),1,())) (ad (ay 6 x.1) (some (([],()),1,())) (aA (gP x.1 x.1 24) (some ((er x.1 [],()),0,()))))
def abZ:=kB ef ab0 127 Tryz.f127 Tr.e FC
def Jn(x:D (.ah lI (.ah iT (.ah iT (.ah Bd .un))))):Option (D (.ah du iU)):=aA (aO [] x.1 8) (aA (gP (ak x.2.2.2.1) (ak x.2.2.2.1) 160) (am (Ds ((aM [] x.1,x.2.1,x.2.2.1,er (ak x.2.2.2.1) (0,0,0,0,0,[]::[]::[]::[]::[]::[],()),[],()),())) λf=>ad (bL f.1) (some (([],0,0,[],[],()),2,())) (aD (aB (α:=D (.ah (.ah du .un) (.ah du cU))) (λa=>ad (ay a.2.2.2.1 (ak x.2.2.2.1)) (am (ax x.2.2.2.1 a.2.2.2.1) λc=>am (JW (c.1,c.2.1,a.2.2.1,c.2.2.1,c.2.2.2.1,())) λd=>ad (bH d.2.1 0) (ao (ao (some (([],0,0,[],[],()),d.2.1,())))) (aA (a5 a.2.1.2.2.2.1 a.2.2.2.1) (am (ax a.2.1.2.2.2.1 a.2.2.2.1) λi=>some (.inl ((a.1.1,()),(a.2.1.1,a.2.1.2.1,a.2.1.2.2.1,aI a.2.1.2.2.2.1 a.2.2.2.1 d.1,a.2.1.2.2.2.2.1,()),ai .i64 a.2.2.1 c.2.2.1,ai .i64 a.2.2.2.1 1,()))))) (ao (some (.inl ((a.1.1,()),a.2.1,()))))) 1000000000 ((([],0,0,[],[],()),()),(aM [] x.1,x.2.1,x.2.2.1,er (ak x.2.2.2.1) (0,0,0,0,0,[]::[]::[]::[]::[]::[],()),[],()),0,0,())) λg=>aD (aB (α:=D (.ah du iU)) (λb=>ad (ay b.2.1 (ak x.1)) (am (FC (ak x.2.2.2.1,())) λe=>aA (aO b.1.2.2.2.2.1 ((e.1.1,())::[]) 24) (some (.inl ((b.1.1,b.1.2.1,b.1.2.2.1,b.1.2.2.2.1,aM b.1.2.2.2.2.1 ((e.1.1,())::[]),()),ai .i64 b.2.1 1,())))) (ao (some (.inl (b.1,()))))) 1000000000 (g.2.1,0,())) λh=>some (h.1,0,()))))
def k45:=kB ef abZ 45 Tryz.f45 (hs [(0,kp [0,3] [.box 8 [.v du],.box 10 b0]),(1,kp [0,3] (.box 8 [.v du]:: .box 10 b0:: .val 11 iT::kp [30,31] [.val 32 iT])),(4,[.aL 8,.box 10 b0]),(5,kp [3,8] [.box 10 b0,.aL 65,.val 66 iT])]) Jn
def tF(x:D (.ah eH .un)):Option (D iU):=am (rf (x.1,())) λu0=>ad (bL u0.1) (some (2,())) (aD (aB (λf=>ad (ay f.1 (ak (bm [] x.1.2.2.2.2.2.1 0))) (am (ax (bm [] x.1.2.2.2.2.2.1 0) f.1) λA=>am (lg (x.1,A,0,())) λm0=>ad (bL m0.1) (ao (ao (some (3,())))) (ad (ay 0 f.1) (am (ax (bm [] x.1.2.2.2.2.2.1 0) (bo .i64 f.1 1)) λg0=>ad (cL A g0) (ao (ao (some (10,())))) (some (.inl (ai .i64 f.1 1,())))) (some (.inl (ai .i64 f.1 1,()))))) (ao (some (.inl ())))) 1000000000 (0,())) λb9=>aD (aB (λj=>ad (ay j.1 (ak (bm [] x.1.2.2.2.2.2.1 1))) (am (ax (bm [] x.1.2.2.2.2.2.1 1) j.1) λv0=>am (lg (x.1,v0,1,())) λm9=>ad (bL m9.1) (ao (ao (some (3,())))) (ad (ay 0 j.1) (am (ax (bm [] x.1.2.2.2.2.2.1 1) (bo .i64 j.1 1)) λj9=>ad (cL v0 j9) (ao (ao (some (10,())))) (some (.inl (ai .i64 j.1 1,())))) (some (.inl (ai .i64 j.1 1,()))))) (ao (some (.inl ())))) 1000000000 (0,())) λi9=>aD (aB (λg=>ad (ay g.1 (ak (bm [] x.1.2.2.2.2.2.1 2))) (am (ax (bm [] x.1.2.2.2.2.2.1 2) g.1) λy=>am (lg (x.1,y,2,())) λt0=>ad (bL t0.1) (ao (ao (some (3,())))) (ad (ay 0 g.1) (am (ax (bm [] x.1.2.2.2.2.2.1 2) (bo .i64 g.1 1)) λs0=>ad (cL y s0) (ao (ao (some (10,())))) (some (.inl (ai .i64 g.1 1,())))) (some (.inl (ai .i64 g.1 1,()))))) (ao (some (.inl ())))) 1000000000 (0,())) λh9=>aD (aB (λh=>ad (ay h.1 (ak (bm [] x.1.2.2.2.2.2.1 3))) (am (ax (bm [] x.1.2.2.2.2.2.1 3) h.1) λz=>am (lg (x.1,z,3,())) λr0=>ad (bL r0.1) (ao (ao (some (3,())))) (ad (ay 0 h.1) (am (ax (bm [] x.1.2.2.2.2.2.1 3) (bo .i64 h.1 1)) λq0=>ad (cL z q0) (ao (ao (some (10,())))) (some (.inl (ai .i64 h.1 1,())))) (some (.inl (ai .i64 h.1 1,()))))) (ao (some (.inl ())))) 1000000000 (0,())) λg9=>aD (aB (λi=>ad (ay i.1 (ak (bm [] x.1.2.2.2.2.2.1 4))) (am (ax (bm [] x.1.2.2.2.2.2.1 4) i.1) λB=>am (lg (x.1,B,4,())) λp0=>ad (bL p0.1) (ao (ao (some (3,())))) (ad (ay 0 i.1) (am (ax (bm [] x.1.2.2.2.2.2.1 4) (bo .i64 i.1 1)) λo0=>ad (cL B o0) (ao (ao (some (10,())))) (some (.inl (ai .i64 i.1 1,())))) (some (.inl (ai .i64 i.1 1,()))))) (ao (some (.inl ())))) 1000000000 (0,())) λf9=>aD (aB (λk=>ad (ay k.2.1 (ak (bm [] x.1.2.2.2.2.2.1 0))) (aD (am (ax (bm [] x.1.2.2.2.2.2.1 0) k.2.1) λC=>aD (aB (λa=>ad (ay a.2.1 (ai .i64 C 1)) (aA (cV a.2.1) (aA (ay a.2.1 256) (am (ax a.1.1 a.2.1) λn0=>ad n0 (ao (ao (ao (ao (ao (some (7,()))))))) (aA (cV a.2.1) (aA (ay a.2.1 256) (am (ax a.1.1 a.2.1) λe9=>some (.inl ((aI a.1.1 a.2.1 true,()),ai .i64 a.2.1 1,())))))))) (ao (some (.inl ((a.1.1,()),()))))) 1000000000 ((k.1.1,()),C,())) λl0=>some (.inl ((l0.1.1,()),()))) λk0=>some (.inl ((k0.1.1,()),ai .i64 k.2.1 1,()))) (ao (some (.inl ((k.1.1,()),()))))) 1000000000 ((List.replicate 256 false,()),0,())) λj0=>aD (aB (λl=>ad (ay l.2.1 (ak (bm [] x.1.2.2.2.2.2.1 1))) (aD (am (ax (bm [] x.1.2.2.2.2.2.1 1) l.2.1) λz0=>aD (aB (λb=>ad (ay b.2.1 (ai .i64 z0 2)) (aA (cV b.2.1) (aA (ay b.2.1 256) (am (ax b.1.1 b.2.1) λi0=>ad i0 (ao (ao (ao (ao (ao (some (7,()))))))) (aA (cV b.2.1) (aA (ay b.2.1 256) (am (ax b.1.1 b.2.1) λd9=>some (.inl ((aI b.1.1 b.2.1 true,()),ai .i64 b.2.1 1,())))))))) (ao (some (.inl ((b.1.1,()),()))))) 1000000000 ((l.1.1,()),z0,())) λh0=>some (.inl ((h0.1.1,()),()))) λf0=>some (.inl ((f0.1.1,()),ai .i64 l.2.1 1,()))) (ao (some (.inl ((l.1.1,()),()))))) 1000000000 ((j0.1.1,()),0,())) λe0=>aD (aB (λm=>ad (ay m.2.1 (ak (bm [] x.1.2.2.2.2.2.1 2))) (aD (am (ax (bm [] x.1.2.2.2.2.2.1 2) m.2.1) λy0=>aD (aB (λc=>ad (ay c.2.1 (ai .i64 y0 4)) (aA (cV c.2.1) (aA (ay c.2.1 256) (am (ax c.1.1 c.2.1) λd0=>ad d0 (ao (ao (ao (ao (ao (some (7,()))))))) (aA (cV c.2.1) (aA (ay c.2.1 256) (am (ax c.1.1 c.2.1) λc9=>some (.inl ((aI c.1.1 c.2.1 true,()),ai .i64 c.2.1 1,())))))))) (ao (some (.inl ((c.1.1,()),()))))) 1000000000 ((m.1.1,()),y0,())) λc0=>some (.inl ((c0.1.1,()),()))) λb0=>some (.inl ((b0.1.1,()),ai .i64 m.2.1 1,()))) (ao (some (.inl ((m.1.1,()),()))))) 1000000000 ((e0.1.1,()),0,())) λa0=>aD (aB (λn=>ad (ay n.2.1 (ak (bm [] x.1.2.2.2.2.2.1 3))) (aD (am (ax (bm [] x.1.2.2.2.2.2.1 3) n.2.1) λx0=>aD (aB (λd=>ad (ay d.2.1 (ai .i64 x0 8)) (aA (cV d.2.1) (aA (ay d.2.1 256) (am (ax d.1.1 d.2.1) λz9=>ad z9 (ao (ao (ao (ao (ao (some (7,()))))))) (aA (cV d.2.1) (aA (ay d.2.1 256) (am (ax d.1.1 d.2.1) λa9=>some (.inl ((aI d.1.1 d.2.1 true,()),ai .i64 d.2.1 1,())))))))) (ao (some (.inl ((d.1.1,()),()))))) 1000000000 ((n.1.1,()),x0,())) λy9=>some (.inl ((y9.1.1,()),()))) λx9=>some (.inl ((x9.1.1,()),ai .i64 n.2.1 1,()))) (ao (some (.inl ((n.1.1,()),()))))) 1000000000 ((a0.1.1,()),0,())) λw9=>aD (aB (λo=>ad (ay o.2.1 (ak (bm [] x.1.2.2.2.2.2.1 4))) (aD (am (ax (bm [] x.1.2.2.2.2.2.1 4) o.2.1) λw0=>aD (aB (λe=>ad (ay e.2.1 (ai .i64 w0 16)) (aA (cV e.2.1) (aA (ay e.2.1 256) (am (ax e.1.1 e.2.1) λv9=>ad v9 (ao (ao (ao (ao (ao (some (7,()))))))) (aA (cV e.2.1) (aA (ay e.2.1 256) (am (ax e.1.1 e.2.1) λx62=>some (.inl ((aI e.1.1 e.2.1 true,()),ai .i64 e.2.1 1,())))))))) (ao (some (.inl ((e.1.1,()),()))))) 1000000000 ((o.1.1,()),w0,())) λu9=>some (.inl ((u9.1.1,()),()))) λt9=>some (.inl ((t9.1.1,()),ai .i64 o.2.1 1,()))) (ao (some (.inl ((o.1.1,()),()))))) 1000000000 ((w9.1.1,()),0,())) λx65=>aD (aB (λp=>ad (ay p.1 (ak (bm [] x.1.2.2.2.2.2.1 0))) (am (ax (bm [] x.1.2.2.2.2.2.1 0) p.1) λt=>am (gC (bm [] x.1.2.2.2.2.2.1 0,bK .i64 t 1,())) λs9=>ad s9.2.1 (am (lg (x.1,bN t (bK .i64 t 1),1,())) λr9=>ad r9.1 (ao (ao (some (11,())))) (some (.inl (ai .i64 p.1 1,())))) (some (.inl (ai .i64 p.1 1,())))) (ao (some (.inl ())))) 1000000000 (0,())) λx70=>aD (aB (λq=>ad (ay q.1 (ak (bm [] x.1.2.2.2.2.2.1 1))) (am (ax (bm [] x.1.2.2.2.2.2.1 1) q.1) λu=>am (gC (bm [] x.1.2.2.2.2.2.1 1,bK .i64 u 2,())) λq9=>ad q9.2.1 (am (lg (x.1,bN u (bK .i64 u 2),2,())) λp9=>ad p9.1 (ao (ao (some (11,())))) (some (.inl (ai .i64 q.1 1,())))) (some (.inl (ai .i64 q.1 1,())))) (ao (some (.inl ())))) 1000000000 (0,())) λx75=>aD (aB (λr=>ad (ay r.1 (ak (bm [] x.1.2.2.2.2.2.1 2))) (am (ax (bm [] x.1.2.2.2.2.2.1 2) r.1) λv=>am (gC (bm [] x.1.2.2.2.2.2.1 2,bK .i64 v 4,())) λo9=>ad o9.2.1 (am (lg (x.1,bN v (bK .i64 v 4),3,())) λn9=>ad n9.1 (ao (ao (some (11,())))) (some (.inl (ai .i64 r.1 1,())))) (some (.inl (ai .i64 r.1 1,())))) (ao (some (.inl ())))) 1000000000 (0,())) λx80=>aD (aB (λs=>ad (ay s.1 (ak (bm [] x.1.2.2.2.2.2.1 3))) (am (ax (bm [] x.1.2.2.2.2.2.1 3) s.1) λw=>am (gC (bm [] x.1.2.2.2.2.2.1 3,bK .i64 w 8,())) λl9=>ad l9.2.1 (am (lg (x.1,bN w (bK .i64 w 8),4,())) λk9=>ad k9.1 (ao (ao (some (11,())))) (some (.inl (ai .i64 s.1 1,())))) (some (.inl (ai .i64 s.1 1,())))) (ao (some (.inl ())))) 1000000000 (0,())) λx85=>some (0,()))
def abl:=kB ef k45 190 Tryz.f190 (hs [(4,kp [1,23,24] []),(5,kp [1,3,4,23,24,28,29] [.val 30 iT]),(12,.aL 1:: .box 7 b3::kp [54,55] []),(13,.aL 1:: .box 7 b3::kp [8,54,55,59,60] [.val 61 iT]),(14,.aL 1:: .box 7 b3::kp [8,54,55,59,60,61] []),(16,.aL 1:: .box 7 b3::kp [8,54,55,59,60,61] []),(17,.aL 1:: .box 7 b3::kp [8,11] (.val 12 iT::kp [54,55,59,60,61] [])),(24,kp [1,81] []),(25,kp [1,13,81,87,88] [.val 89 iT])]) tF
def Ju(x:D iU):Option (D bU):=ad (cL 0 x.1) (some (ay x.1 256,())) (some (false,()))
def aaR:=kB ef abl 235 Tryz.f235 Tr.e Ju
def Ap(x:D (.ah fu iU)):Option (D iU):=ad (ay x.2.1 1) (some (1,())) (ad (ay 6 x.2.1) (some (1,())) (ad (bH (ak x.1.1) x.2.1) (some (3,())) (aD (aB (λa=>ad (ay a.2.1 (ak x.1.1)) (aD (am (ax x.1.1 a.2.1) λe=>aD (aB (λd=>ad (ay d.1 (ak e)) (am (ax e d.1) λk=>am (Ju (k,())) λl=>ad (bL l.1) (ao (ao (ao (ao (ao (some (2,()))))))) (some (.inl (ai .i64 d.1 1,())))) (ao (some (.inl ())))) 1000000000 (0,())) λo=>some (.inl (ai .i64 a.1 (ak e),()))) λm=>some (.inl (m.1,ai .i64 a.2.1 1,()))) (ao (some (.inl (a.1,()))))) 1000000000 (0,0,())) λn=>aD (aB (λc=>ad (ay c.2.1 (ak x.1.1)) (aD (am (ax x.1.1 c.2.1) λf=>aD (aB (λb=>ad (ay b.2.1 (ak f)) (am (ax f b.2.1) λg=>some (.inl (nL b.1 g true,ai .i64 b.2.1 1,()))) (ao (some (.inl (b.1,()))))) 1000000000 (c.1,0,())) λh=>some (.inl (h.1,()))) λi=>some (.inl (i.1,ai .i64 c.2.1 1,()))) (ao (some (.inl (c.1,()))))) 1000000000 ([],0,())) λj=>ad (bH (ak j.1) n.1) (some (7,())) (some (0,())))))
def abk:=kB ef aaR 191 Tryz.f191 (hs [(0,[.aL 2,.val 5 iT]),(1,.aL 2:: .val 5 iT::kp [22,23] [.val 24 iT]),(2,.aL 2:: .val 5 iT::kp [22,23,24] []),(4,kp [2,5,7,22,23,24] []),(5,kp [2,5,7,22,23,24,28,29] [.val 30 iT])]) Ap
def Fx(x:D (.ah du iU)):Option (D iU):=aD (aB (λa=>ad (ay a.1 (ak x.1.2.2.2.1)) (am (ax x.1.2.2.2.1 a.1) λb=>ad (cL b.2.2.1 x.2.1) (ad (ay x.2.1 (ai .i64 b.2.2.1 b.2.2.2.1)) (ao (ao (some (a.1,())))) (some (.inl (ai .i64 a.1 1,())))) (some (.inl (ai .i64 a.1 1,())))) (ao (some (.inl ())))) 1000000000 (0,())) λc=>some (-1,())
def abj:=kB ef abk 192 Tryz.f192 Tr.e Fx
def Fo(x:D (.ah eH iU)):Option (D cU):=am (gC (bm [] x.1.2.2.2.2.2.1 0,jD .i64 x.2.1 0,())) λa=>ad a.2.1 (some (0,jD .i64 x.2.1 0,())) (am (gC (bm [] x.1.2.2.2.2.2.1 1,jD .i64 x.2.1 1,())) λb=>ad b.2.1 (some (1,jD .i64 x.2.1 1,())) (am (gC (bm [] x.1.2.2.2.2.2.1 2,jD .i64 x.2.1 3,())) λc=>ad c.2.1 (some (2,jD .i64 x.2.1 3,())) (am (gC (bm [] x.1.2.2.2.2.2.1 3,jD .i64 x.2.1 7,())) λd=>ad d.2.1 (some (3,jD .i64 x.2.1 7,())) (am (gC (bm [] x.1.2.2.2.2.2.1 4,jD .i64 x.2.1 15,())) λe=>ad e.2.1 (some (4,jD .i64 x.2.1 15,())) (some (-1,0,()))))))
def aaQ:=kB ef abj 239 Tryz.f239 Tr.e Fo
def Fw(x:D (.ah eH iU)):Option (D bU):=am (tF (x.1,())) λa=>ad (bH a.1 0) (some (false,())) (am (lg (x.1,x.2.1,0,())) λb=>ad (bL b.1) (some (false,())) (am (Fo (x.1,x.2.1,())) λc=>some (cL 0 c.1,())))
def abi:=kB ef aaQ 193 Tryz.f193 Tr.e Fw
def u4(x:D (.ah du .un)):Option (D iU):=am (Ds (x.1,())) λn=>ad (bL n.1) (some (2,())) (aD (aB (λc=>ad (ay c.2.1 (ak x.1.2.2.2.1)) (am (ax x.1.2.2.2.1 c.2.1) λh=>am (tF (h,())) λl=>ad (bH l.1 0) (ao (ao (some (l.1,())))) (ad (bH h.2.2.1 c.1) (ao (ao (some (10,())))) (some (.inl (ai .i64 c.1 h.2.2.2.1,ai .i64 c.2.1 1,()))))) (ao (some (.inl ())))) 1000000000 (0,0,())) λB=>ad (bH (ak x.1.2.2.2.2.1) (ak x.1.1)) (some (3,())) (aD (aB (λf=>ad (ay f.1 (ak x.1.2.2.2.2.1)) (aD (am (ax x.1.2.2.2.2.1 f.1) λi=>am (Ap ((i.1,()),ak x.1.2.2.2.1,())) λm=>ad (bH m.1 0) (ao (ao (ao (some (m.1,()))))) (aD (aB (λg=>ad (ay g.1 (ak i.1)) (am (ax i.1 g.1) λv=>ad (ay x.1.2.2.1 (ak v)) (ao (ao (ao (ao (ao (some (9,()))))))) (some (.inl (ai .i64 g.1 1,())))) (ao (some (.inl ())))) 1000000000 (0,())) λw=>some (.inl ()))) λy=>some (.inl (ai .i64 f.1 1,()))) (ao (some (.inl ())))) 1000000000 (0,())) λz=>aD (aB (λd=>ad (ay d.2.1 (ak x.1.2.2.2.2.1)) (aD (am (ax x.1.2.2.2.2.1 d.2.1) λj=>aD (aB (λa=>ad (ay a.2.1 (ak j.1)) (aD (am (ax j.1 a.2.1) λk=>aD (aB (λb=>ad (ay b.2.1 (ak k)) (am (ax k b.2.1) λe=>am (Fx (x.1,e,())) λo=>ad (bH o.1 a.2.1) (ao (ao (ao (ao (ao (ao (ao (ao (some (2,())))))))))) (ad (sf b.1 e) (ao (ao (ao (ao (ao (ao (ao (ao (some (7,())))))))))) (am (ax x.1.2.2.2.1 a.2.1) λp=>am (Fw (p,e,())) λq=>ad q.1 (ao (ao (ao (ao (ao (ao (ao (ao (some (7,())))))))))) (some (.inl (nL b.1 e true,ai .i64 b.2.1 1,())))))) (ao (some (.inl (b.1,()))))) 1000000000 (a.1,0,())) λr=>some (.inl (r.1,()))) λs=>some (.inl (s.1,ai .i64 a.2.1 1,()))) (ao (some (.inl (a.1,()))))) 1000000000 (d.1,0,())) λt=>some (.inl (t.1,()))) λu=>some (.inl (u.1,ai .i64 d.2.1 1,()))) (ao (some (.inl (d.1,()))))) 1000000000 ([],0,())) λA=>some (0,())))
def abY:=kB ef abi 128 Tryz.f128 (hs [(0,[.aL 1]),(1,.aL 1:: .val 3 iT::kp [23,24] [.val 25 iT]),(4,[.aL 1]),(5,kp [1,51,52] [.val 53 iT]),(6,kp [1,51,52,53] []),(8,kp [1,51,52,53] []),(9,kp [1,51,52,53,66,67] [.val 68 iT]),(12,[.mp 12]),(13,.aL 1:: .mp 12::kp [81,82] [.val 83 iT]),(14,.aL 1:: .mp 12::kp [81,82,83] []),(16,.aL 1:: .mp 12::kp [81,82,83] []),(17,.aL 1:: .mp 12::kp [81,82,83,88,89] [.val 90 iT]),(18,.aL 1:: .mp 12::kp [81,82,83,88,89,90] []),(20,.aL 1:: .mp 12::kp [81,82,83,88,89,90] []),(21,.aL 1:: .mp 12::kp [15,81,82,83,88,89,90,95,96] [.val 97 iT])]) u4
def Jm(x:D (.ah du .un)):Option (D iU):=am (u4 (x.1,())) λb=>ad (bH b.1 0) (some (0,())) (am (ax x.1.2.2.2.1 (bo .i64 (ak x.1.2.2.2.1) 1)) λa=>some (ai .i64 a.2.2.1 a.2.2.2.1,()))
def k46:=kB ef abY 46 Tryz.f46 Tr.e Jm
def F47(x:D .un):Option (D (.ah vU .un)):=some ((0,0,-1,-1,-1,-1,-1,-1,-1,0,false,false,false,0,[],[],()),())
def k47:=kB ef k46 47 Tryz.f47 Tr.e F47
def Hj(x:D iU):Option (D (.ah zO iU)):=ad (ay x.1 1) (some ((0,[],()),1,())) (ad (ay 32 x.1) (some ((0,[],()),1,())) (some ((x.1,[],()),0,())))
def k48:=kB ef k47 48 Tryz.f48 Tr.e Hj
def Hh(x:D .un):Option (D fu):=aA (gP 4 4 24) (some (er 4 [],()))
def k50:=kB ef k48 50 Tryz.f50 Tr.e Hh
def Da(x:D iU):Option (D (.ah tX iU)):=ad (ay x.1 0) (some ([],2,())) (ad (ay 64 x.1) (some ([],2,())) (aA (gP x.1 x.1 16) (some (er x.1 (0,0,()),0,()))))
def k51:=kB ef k50 51 Tryz.f51 Tr.e Da
def Hg(x:D iU):Option (D (.ah zN iU)):=ad (ay x.1 0) (some ((0,[],()),2,())) (ad (ay 32 x.1) (some ((0,[],()),2,())) (some ((x.1,[],()),0,())))
def k52:=kB ef k51 52 Tryz.f52 Tr.e Hg
def XA(x:D .un):Option (D (.ah kk .un)):=some ((0,false,()),())
def abX:=kB ef k52 129 Tryz.f129 Tr.e XA
def JT(x:D (.ah (.bc .bool) .un)):Option (D cU):=ad (ay 16 (ak x.1)) (some (0,9,())) (aD (aB (λa=>ad (ay a.2.1 (ak x.1)) (am (ax x.1 a.2.1) λb=>ad b (aA (cV a.2.1) (some (.inl (QL .i64 a.1 (fB .i64 1 a.2.1),ai .i64 a.2.1 1,())))) (some (.inl (a.1,ai .i64 a.2.1 1,())))) (ao (some (.inl (a.1,()))))) 1000000000 (0,0,())) λc=>some (c.1,0,()))
def abW:=kB ef abX 130 Tryz.f130 (hs [(0,[.val 4 iT]),(1,.val 4 iT::kp [10,11] [.val 12 iT])]) JT
def Xx(x:D cU):Option (D bU):=ad (cL 0 x.1) (aA (cV x.2.1) (some (ay x.1 (fB .i64 1 x.2.1),()))) (some (false,()))
def abh:=kB ef abW 194 Tryz.f194 Tr.e Xx
def JR(x:D cU):Option (D (.ah (.bc (.int .u8)) iU)):=am (JL (x.1,())) λb=>ad (bL b.1) (some ([],2,())) (am (Xx (x.2.1,x.1,())) λc=>ad (bL c.1) (some ([],3,())) (aA (gP 32 32 1) (aA (cL (ak (73::78::79::68::[])) (ak (er 32 0))) (aA (a5 (d7 (er 32 0) (73::78::79::68::[])) 4) (am (ax (d7 (er 32 0) (73::78::79::68::[])) 4) λf=>aA (a5 (aI (d7 (er 32 0) (73::78::79::68::[])) 4 (ek .u8 x.1)) 5) (am (ax (aI (d7 (er 32 0) (73::78::79::68::[])) 4 (ek .u8 x.1)) 5) λg=>aA (a5 (aI (aI (d7 (er 32 0) (73::78::79::68::[])) 4 (ek .u8 x.1)) 5 (ek .u8 x.2.1)) 6) (am (ax (aI (aI (d7 (er 32 0) (73::78::79::68::[])) 4 (ek .u8 x.1)) 5 (ek .u8 x.2.1)) 6) λh=>aA (dJ 0 7 (ak (aI (aI (aI (d7 (er 32 0) (73::78::79::68::[])) 4 (ek .u8 x.1)) 5 (ek .u8 x.2.1)) 6 (ek .u8 (rV .i64 x.2.1 8))))) (aD (aB (λa=>ad (ay a.2.1 7) (aA (a5 (eX (aI (aI (aI (d7 (er 32 0) (73::78::79::68::[])) 4 (ek .u8 x.1)) 5 (ek .u8 x.2.1)) 6 (ek .u8 (rV .i64 x.2.1 8))) 0 7) a.2.1) (am (ax (aI (aI (aI (d7 (er 32 0) (73::78::79::68::[])) 4 (ek .u8 x.1)) 5 (ek .u8 x.2.1)) 6 (ek .u8 (rV .i64 x.2.1 8))) a.2.1) λd=>some (.inl (ai .i64 a.1 (ek .i64 d),ai .i64 a.2.1 1,())))) (ao (some (.inl (a.1,()))))) 1000000000 (0,0,())) λe=>aA (a5 (aI (aI (aI (d7 (er 32 0) (73::78::79::68::[])) 4 (ek .u8 x.1)) 5 (ek .u8 x.2.1)) 6 (ek .u8 (rV .i64 x.2.1 8))) 7) (am (ax (aI (aI (aI (d7 (er 32 0) (73::78::79::68::[])) 4 (ek .u8 x.1)) 5 (ek .u8 x.2.1)) 6 (ek .u8 (rV .i64 x.2.1 8))) 7) λi=>some (aI (aI (aI (aI (d7 (er 32 0) (73::78::79::68::[])) 4 (ek .u8 x.1)) 5 (ek .u8 x.2.1)) 6 (ek .u8 (rV .i64 x.2.1 8))) 7 (ek .u8 (lM .i64 e.1 251)),0,()))))))))))
def abV:=kB ef abh 131 Tryz.f131 (hs [(0,[.aL 6,.val 7 iT]),(1,.aL 6:: .val 7 iT::kp [34,35] [.val 36 iT])]) JR
def L3(x:D (.ah cc .un)):Option (D (.ah Bc (.ah (.bc (.bc (.int .u8))) .un))):=am (Hl (x.1,())) λf=>am (ax f.1 (bo .i64 (ak f.1) 1)) λg=>aA (gP g g 24) (aD (aB (λd=>ad (ay d.2.1 (ak (er (α:=List Int) g []))) (aA (gP 32 32 1) (aA (a5 d.1 d.2.1) (aA (a5 d.1 d.2.1) (some (.inl (aI d.1 d.2.1 (er 32 0),ai .i64 d.2.1 1,())))))) (ao (some (.inl (d.1,()))))) 1000000000 (er (α:=List Int) g [],0,())) λp=>aD (aB (λb=>ad (ay b.2.2.1 (ak x.1.2.2.2.2.2.2.2.2.2.2.1)) (aD (am (ax x.1.2.2.2.2.2.2.2.2.2.2.1 b.2.2.1) λc=>am (ax f.1 b.2.2.1) λq=>am (XA ()) λr=>aA (gP c.1 c.1 1) (aD (aB (λa=>ad (ay a.2.2.1 (pm .i64 (ak c.2.1) 32)) (aA (a5 a.2.1.2.2.2.2.2.2.2.2.1 a.2.2.1) (am (ax a.2.1.2.2.2.2.2.2.2.2.1 a.2.2.1) λs=>am (ax f.1 b.2.2.1) λh=>aA (a5 a.1 (ai .i64 (ai .i64 h 1) a.2.2.1)) (aA (a5 a.1 (ai .i64 (ai .i64 h 1) a.2.2.1)) (aA (dJ (d8 .i64 a.2.2.1 32) (ak c.2.1) (ak c.2.1)) (am (ax a.1 (ai .i64 (ai .i64 h 1) a.2.2.1)) λl=>some (.inl (aI a.1 (ai .i64 (ai .i64 h 1) a.2.2.1) (d7 l (eX c.2.1 (d8 .i64 a.2.2.1 32) (ak c.2.1))),(a.2.1.1,a.2.1.2.1,a.2.1.2.2.1,a.2.1.2.2.2.1,a.2.1.2.2.2.2.1,a.2.1.2.2.2.2.2.1,a.2.1.2.2.2.2.2.2.1,a.2.1.2.2.2.2.2.2.2.1,aI a.2.1.2.2.2.2.2.2.2.2.1 a.2.2.1 true,()),ai .i64 a.2.2.1 1,()))))))) (ao (some (.inl (a.1,a.2.1,()))))) 1000000000 (b.1,(c.1,pm .i64 (ak c.2.1) 32,q,-1,-1,false,r.1,(0,(0::0::0::0::0::0::0::0::[],0::0::[],(),()),()),er c.1 false,()),0,())) λe=>am (JT (e.2.1.2.2.2.2.2.2.2.2.1,())) λm=>am (JR (e.2.1.2.1,m.1,())) λn=>am (ax f.1 b.2.2.1) λi=>aA (a5 e.1 i) (aA (a5 e.1 i) (am (ax e.1 i) λo=>aA (aO b.2.1 (e.2.1::[]) 200) (some (.inl (aI e.1 i (d7 o n.1),aM b.2.1 (e.2.1::[]),()))))))) λj=>some (.inl (j.1,j.2.1,ai .i64 b.2.2.1 1,()))) (ao (some (.inl (b.1,b.2.1,()))))) 1000000000 (p.1,[],0,())) λk=>some (k.2.1,k.1,()))
def k53:=kB ef abV 53 Tryz.f53 (hs [(0,kp [1,4] [.mu 5 (.int .u8)]),(1,kp [1,4] [.mu 5 (.int .u8),.aL 26,.val 27 iT]),(4,[.mu 5 (.int .u8),.own 7 jZ]),(5,.aL 4:: .mu 5 (.int .u8):: .own 7 jZ::kp [36,37] [.val 38 iT]),(6,.aL 4:: .mu 5 (.int .u8):: .own 7 jZ::kp [36,37,38] []),(8,.aL 4:: .mu 5 (.int .u8)::kp [7,8] (.box 10 b4::kp [36,37,38] [])),(9,.aL 4:: .mu 5 (.int .u8)::kp [7,8,9] (.box 10 b4::kp [36,37,38,59] [.val 60 iT]))]) L3
def JI(x:D (.ah (.bc (.int .u8)) .un)):Option (D bU):=some (a6 (ak x.1) 32,())
def W3:=kB ef k53 195 Tryz.f195 Tr.e JI
def W8:Tr (List Hi):=Tr.e
def Xw(x:D (.ah ns (.ah yt .un))):Option (D iU):=GL (vP W3.1 ef) 1000 (.ah ns (.ah yt .un)) iU W8 Tryz.f196 x
def abg:=kB ef W3 196 Tryz.f196 W8 Xw (hF:=λx=>rfl)
def Ol(x:D (.ah ns .un)):Option (D iU):=ad (ay x.1.1 1) (some (2,())) (ad (ay 16 x.1.1) (some (2,())) (ad (ay x.1.2.1 0) (some (2,())) (ad (ay 1099511627776 x.1.2.1) (some (2,())) (ad (ay (ak x.1.2.2.1) 1) (some (2,())) (ad (ay 256 (ak x.1.2.2.1)) (some (2,())) (aD (aB (λd=>ad (ay d.1 (ak x.1.2.2.1)) (am (ax x.1.2.2.1 d.1) λh=>am (JI (h,())) λi=>ad (bL i.1) (ao (ao (some (3,())))) (some (.inl (ai .i64 d.1 1,())))) (ao (some (.inl ())))) 1000000000 (0,())) λn=>aD (aB (λb=>ad (ay b.2.1 (ak x.1.2.2.2.1)) (am (ax x.1.2.2.2.1 b.2.1) λf=>ad (cL f.1 b.1) (ao (ao (some (10,())))) (ad (cL (ak x.1.2.2.1) f.1) (ao (ao (some (10,())))) (some (.inl (f.1,ai .i64 b.2.1 1,()))))) (ao (some (.inl ())))) 1000000000 (-1,0,())) λo=>aD (aB (λe=>ad (ay e.1 (ak x.1.2.2.2.1)) (am (ax x.1.2.2.2.1 e.1) λj=>am (JI (j.2.1,())) λk=>ad (bL k.1) (ao (ao (some (3,())))) (some (.inl (ai .i64 e.1 1,())))) (ao (some (.inl ())))) 1000000000 (0,())) λl=>ad (ay x.1.1 (ak x.1.2.2.2.2.1)) (some (8,())) (aD (aB (λa=>ad (ay a.2.1 (ak x.1.2.2.2.2.1)) (am (ax x.1.2.2.2.2.1 a.2.1) λc=>am (Xw (x.1,c,())) λg=>ad (bH g.1 0) (ao (ao (some (g.1,())))) (ad (cL c.1 a.1) (ao (ao (some (10,())))) (ad (cL x.1.2.1 c.1) (ao (ao (some (10,())))) (some (.inl (c.1,ai .i64 a.2.1 1,())))))) (ao (some (.inl ())))) 1000000000 (-1,0,())) λm=>some (0,()))))))))
def abU:=kB ef abg 132 Tryz.f132 (hs [(0,[.aL 1]),(1,kp [1,44,45] [.val 46 iT]),(4,[.aL 1]),(5,.aL 1:: .val 5 iT::kp [55,56] [.val 57 iT]),(8,[.aL 1]),(9,kp [1,77,78] [.val 79 iT]),(12,[]),(13,.aL 1:: .val 5 iT::kp [95,96] [.val 97 iT])]) Ol
def JP(x:D (.ah ns .un)):Option (D (.ah ns .un)):=aD (aB (λa=>ad (ay a.2.1 (ak x.1.2.2.1)) (am (ax x.1.2.2.1 a.2.1) λf=>aA (aO [] f 1) (aA (aO a.1.2.2.1 (aM [] f::[]) 24) (some (.inl ((a.1.1,a.1.2.1,aM a.1.2.2.1 (aM [] f::[]),a.1.2.2.2.1,a.1.2.2.2.2.1,()),ai .i64 a.2.1 1,()))))) (ao (some (.inl (a.1,()))))) 1000000000 ((x.1.1,x.1.2.1,[],[],[],()),0,())) λg=>aD (aB (λb=>ad (ay b.2.1 (ak x.1.2.2.2.1)) (am (ax x.1.2.2.2.1 b.2.1) λe=>aA (aO [] e.2.1 1) (aA (aO b.1.2.2.2.1 ((e.1,aM [] e.2.1,())::[]) 32) (some (.inl ((b.1.1,b.1.2.1,b.1.2.2.1,aM b.1.2.2.2.1 ((e.1,aM [] e.2.1,())::[]),b.1.2.2.2.2.1,()),ai .i64 b.2.1 1,()))))) (ao (some (.inl (b.1,()))))) 1000000000 (g.1,0,())) λh=>aD (aB (λc=>ad (ay c.2.1 (ak x.1.2.2.2.2.1)) (am (ax x.1.2.2.2.2.1 c.2.1) λd=>aA (aO [] d.2.2.2.1 1) (aA (aO c.1.2.2.2.2.1 ((d.1,d.2.1,d.2.2.1,aM [] d.2.2.2.1,())::[]) 48) (some (.inl ((c.1.1,c.1.2.1,c.1.2.2.1,c.1.2.2.2.1,aM c.1.2.2.2.2.1 ((d.1,d.2.1,d.2.2.1,aM [] d.2.2.2.1,())::[]),()),ai .i64 c.2.1 1,()))))) (ao (some (.inl (c.1,()))))) 1000000000 (h.1,0,())) λi=>some (i.1,())
def abT:=kB ef abU 133 Tryz.f133 (hs [(0,kp [1,2] [.box 3 b5]),(1,kp [1,2] (.box 3 b5::kp [16,17] [.val 18 iT])),(4,kp [1,2] [.box 3 b5]),(5,kp [1,2] (.box 3 b5::kp [31,32] [.val 33 iT])),(8,[.aL 2,.box 3 b5]),(9,.aL 2:: .box 3 b5::kp [50,51] [.val 52 iT])]) JP
def L2(x:D (.ah iT (.ah (.bc (.bc (.int .u8))) .un))):Option (D (.ah ns iU)):=am (Ol ((x.1,0,x.2.1,[],[],()),())) λa=>ad (bH a.1 0) (some ((0,0,[],[],[],()),a.1,())) (am (JP ((x.1,0,x.2.1,[],[],()),())) λb=>some (b.1,0,()))
def k54:=kB ef abT 54 Tryz.f54 Tr.e L2
def rc(x:D (.ah kf iU)):Option (D bU):=am (As (x.1,())) λa=>ad (a6 a.1 0) (ad (cL 0 x.2.1) (some (ay x.2.1 (ak x.1),())) (some (false,()))) (some (false,()))
def aaP:=kB ef k54 240 Tryz.f240 Tr.e rc
def JH(x:D (.ah kf cU)):Option (D iU):=am (As (x.1,())) λa=>ad (bH a.1 0) (some (a.1,())) (am (rc (x.1,x.2.1,())) λb=>ad (bL b.1) (some (6,())) (am (wk (x.2.2.1,())) λc=>ad (bL c.1) (some (2,())) (some (0,()))))
def abf:=kB ef aaP 198 Tryz.f198 Tr.e JH
def wn(x:D (.ah kf iU)):Option (D (.ah lI .un)):=am (rc (x.1,x.2.1,())) λb=>ad (bL b.1) (some ([],())) (aD (aB (λa=>ad (cL 0 a.2.1) (aA (aO a.1 (a.2.1::[]) 8) (am (ax x.1 a.2.1) λc=>some (.inl (aM a.1 (a.2.1::[]),c.1,())))) (ao (some (.inl (a.1,()))))) 1000000000 ([],x.2.1,())) λd=>some (d.1,()))
def abe:=kB ef abf 199 Tryz.f199 (hs [(0,[.own 5 iT]),(1,[.aL 0,.own 5 iT,.val 6 iT])]) wn
def Fv(x:D (.ah kf cU)):Option (D (.ah kf .un)):=aA (aO [] x.1 40) (am (wn (x.1,x.2.1,())) λc=>aD (aB (λa=>ad (ay a.2.1 (ak c.1)) (am (ax c.1 a.2.1) λb=>aA (a5 a.1 b) (am (ax a.1 b) λe=>aA (a5 a.1 b) (am (ax a.1 b) λd=>some (.inl (aI a.1 b (d.1,ai .i64 e.2.1 x.2.2.1,d.2.2),ai .i64 a.2.1 1,()))))) (ao (some (.inl (a.1,()))))) 1000000000 (aM [] x.1,0,())) λf=>some (f.1,()))
def abd:=kB ef abe 200 Tryz.f200 (hs [(0,[.own 7 rO]),(1,.aL 2:: .own 7 rO::kp [14,15] [.val 16 iT])]) Fv
def yk(x:D (.ah kf cU)):Option (D (.ah kf cU)):=am (JH (x.1,x.2.1,x.2.2.1,())) λc=>ad (bH c.1 0) (some ([],-1,c.1,())) (am (wn (x.1,x.2.1,())) λd=>aD (aB (λa=>ad (ay a.1 (ak d.1)) (am (ax d.1 a.1) λb=>am (ax x.1 b) λe=>am (ax x.1 b) λf=>ad (ay f.2.2.2.2.1 (ai .i64 e.2.1 x.2.2.1)) (ao (ao (some ([],b,17,())))) (some (.inl (ai .i64 a.1 1,())))) (ao (some (.inl ())))) 1000000000 (0,())) λh=>am (Fv (x.1,x.2.1,x.2.2.1,())) λg=>some (g.1,-1,0,()))
def abS:=kB ef abd 134 Tryz.f134 (hs [(0,kp [0,1,2] []),(1,kp [0,1,2,21,22] [.val 23 iT])]) yk
def Fi(x:D (.ah xd .un)):Option (D iU):=ad (ay 6 (ak x.1)) (some (9,())) (aD (aB (λa=>ad (ay a.1 (ak x.1)) (am (ax x.1 a.1) λb=>ad (ay b.1 0) (ao (ao (some (2,())))) (ad (cL 4 b.1) (ao (ao (some (2,())))) (ad (bH b.2.1 0) (ad (bH b.2.1 1) (ao (ao (some (1,())))) (some (.inl (ai .i64 a.1 1,())))) (some (.inl (ai .i64 a.1 1,())))))) (ao (some (.inl ())))) 1000000000 (0,())) λc=>some (0,()))
def aaA:=kB ef abS 274 Tryz.f274 (hs [(0,[]),(1,kp [8,9] [.val 10 iT])]) Fi
def Fl(x:D (.ah xd iU)):Option (D iU):=am (Fi (x.1,())) λa=>ad (bH a.1 0) (some (a.1,())) (ad (ay x.2.1 0) (some (2,())) (ad (cL 4 x.2.1) (some (2,())) (some (0,()))))
def aaO:=kB ef aaA 241 Tryz.f241 Tr.e Fl
def rb(x:D cU):Option (D iU):=ad (ay x.2.1 x.1) (some (d8 .i64 2 (bo .i64 x.1 x.2.1),())) (some (ai .i64 (d8 .i64 2 (bo .i64 x.2.1 x.1)) 1,()))
def aaN:=kB ef aaO 243 Tryz.f243 Tr.e rb
def qs(x:D cU):Option (D iU):=am (wj (x.1,())) λb=>am (wj (x.2.1,())) λa=>ad b.1 (ad a.1 (some (0,())) (some (-1,()))) (ad a.1 (some (1,())) (ad (ay x.1 x.2.1) (some (-1,())) (ad (ay x.2.1 x.1) (some (1,())) (some (0,())))))
def aaM:=kB ef aaN 246 Tryz.f246 Tr.e qs
def Dm(x:D (.ah xd kk)):Option (D (.ah lI iU)):=am (Fl (x.1,x.2.1,())) λw=>ad (bH w.1 0) (some ([],w.1,())) (aD (aB (λc=>ad (ay c.2.1 (ak x.1)) (am (ax x.1 c.2.1) λr0=>ad (bL x.2.2.1) (aA (aO c.1 (c.2.1::[]) 8) (some (.inl (aM c.1 (c.2.1::[]),ai .i64 c.2.1 1,())))) (ad (a6 r0.2.1 0) (aA (aO c.1 (c.2.1::[]) 8) (some (.inl (aM c.1 (c.2.1::[]),ai .i64 c.2.1 1,())))) (some (.inl (c.1,ai .i64 c.2.1 1,()))))) (ao (some (.inl (c.1,()))))) 1000000000 ([],0,())) λf=>aD (aB (λd=>ad (cL d.2.2.1 (ak f.1)) (aD (aB (λh=>ad (ay h.2.1 d.2.2.1) (aD (aD (aB (λb=>ad (ay d.2.1 b.2.1) (aA (a5 b.1 b.2.1) (am (ax b.1 b.2.1) λz0=>aA (a5 b.1 (bo .i64 b.2.1 1)) (am (ax b.1 (bo .i64 b.2.1 1)) λl=>am (ax x.1 z0) λn9=>am (rb (x.2.1,n9.1,())) λi=>am (ax x.1 z0) λw0=>ad (a6 w0.2.1 0) (am (ax x.1 l) λv0=>am (rb (x.2.1,v0.1,())) λy=>am (ax x.1 l) λu0=>ad (a6 u0.2.1 0) (am (qs (ai .i64 (d8 .i64 2 i.1) 1,ai .i64 (d8 .i64 2 y.1) 1,())) λt0=>ad (ay t0.1 0) (aA (a5 b.1 (bo .i64 b.2.1 1)) (am (ax b.1 (bo .i64 b.2.1 1)) λn=>aA (a5 b.1 b.2.1) (am (ax b.1 b.2.1) λs0=>aA (a5 b.1 b.2.1) (am (ax b.1 b.2.1) λm9=>aA (a5 (aI b.1 b.2.1 n) (bo .i64 b.2.1 1)) (am (ax (aI b.1 b.2.1 n) (bo .i64 b.2.1 1)) λl9=>some (.inl (aI (aI b.1 b.2.1 n) (bo .i64 b.2.1 1) s0,bo .i64 b.2.1 1,()))))))) (ao (some (.inl (b.1,()))))) (am (qs (ai .i64 (d8 .i64 2 i.1) 1,d8 .i64 2 y.1,())) λq0=>ad (ay q0.1 0) (aA (a5 b.1 (bo .i64 b.2.1 1)) (am (ax b.1 (bo .i64 b.2.1 1)) λo=>aA (a5 b.1 b.2.1) (am (ax b.1 b.2.1) λp0=>aA (a5 b.1 b.2.1) (am (ax b.1 b.2.1) λk9=>aA (a5 (aI b.1 b.2.1 o) (bo .i64 b.2.1 1)) (am (ax (aI b.1 b.2.1 o) (bo .i64 b.2.1 1)) λj9=>some (.inl (aI (aI b.1 b.2.1 o) (bo .i64 b.2.1 1) p0,bo .i64 b.2.1 1,()))))))) (ao (some (.inl (b.1,())))))) (am (ax x.1 l) λo0=>am (rb (x.2.1,o0.1,())) λz=>am (ax x.1 l) λn0=>ad (a6 n0.2.1 0) (am (qs (d8 .i64 2 i.1,ai .i64 (d8 .i64 2 z.1) 1,())) λm0=>ad (ay m0.1 0) (aA (a5 b.1 (bo .i64 b.2.1 1)) (am (ax b.1 (bo .i64 b.2.1 1)) λp=>aA (a5 b.1 b.2.1) (am (ax b.1 b.2.1) λl0=>aA (a5 b.1 b.2.1) (am (ax b.1 b.2.1) λi9=>aA (a5 (aI b.1 b.2.1 p) (bo .i64 b.2.1 1)) (am (ax (aI b.1 b.2.1 p) (bo .i64 b.2.1 1)) λh9=>some (.inl (aI (aI b.1 b.2.1 p) (bo .i64 b.2.1 1) l0,bo .i64 b.2.1 1,()))))))) (ao (some (.inl (b.1,()))))) (am (qs (d8 .i64 2 i.1,d8 .i64 2 z.1,())) λk0=>ad (ay k0.1 0) (aA (a5 b.1 (bo .i64 b.2.1 1)) (am (ax b.1 (bo .i64 b.2.1 1)) λq=>aA (a5 b.1 b.2.1) (am (ax b.1 b.2.1) λj0=>aA (a5 b.1 b.2.1) (am (ax b.1 b.2.1) λg9=>aA (a5 (aI b.1 b.2.1 q) (bo .i64 b.2.1 1)) (am (ax (aI b.1 b.2.1 q) (bo .i64 b.2.1 1)) λf9=>some (.inl (aI (aI b.1 b.2.1 q) (bo .i64 b.2.1 1) j0,bo .i64 b.2.1 1,()))))))) (ao (some (.inl (b.1,()))))))))) (ao (some (.inl (b.1,()))))) 1000000000 (h.1,h.2.1,())) λi0=>some (.inl (i0.1,()))) λh0=>some (.inl (h0.1,ai .i64 h.2.1 1,()))) (ao (some (.inl (h.1,()))))) 1000000000 (d.1,ai .i64 d.2.1 1,())) λg0=>some (.inl (g0.1,d.2.2.1,ai .i64 d.2.2.1 20,()))) (ao (some (.inl (d.1,d.2.1,()))))) 1000000000 (f.1,0,20,())) λr=>aD (aB (λg=>ad (ay g.2.1 (ak f.1)) (aD (aD (aB (λa=>ad (ay r.2.1 a.2.1) (aA (a5 a.1 a.2.1) (am (ax a.1 a.2.1) λA=>aA (a5 a.1 (bo .i64 a.2.1 1)) (am (ax a.1 (bo .i64 a.2.1 1)) λj=>am (ax x.1 A) λf0=>am (rb (x.2.1,f0.1,())) λk=>am (ax x.1 A) λe0=>ad (a6 e0.2.1 0) (am (ax x.1 j) λd0=>am (rb (x.2.1,d0.1,())) λB=>am (ax x.1 j) λc0=>ad (a6 c0.2.1 0) (am (qs (ai .i64 (d8 .i64 2 k.1) 1,ai .i64 (d8 .i64 2 B.1) 1,())) λb0=>ad (ay b0.1 0) (aA (a5 a.1 (bo .i64 a.2.1 1)) (am (ax a.1 (bo .i64 a.2.1 1)) λs=>aA (a5 a.1 a.2.1) (am (ax a.1 a.2.1) λa0=>aA (a5 a.1 a.2.1) (am (ax a.1 a.2.1) λe9=>aA (a5 (aI a.1 a.2.1 s) (bo .i64 a.2.1 1)) (am (ax (aI a.1 a.2.1 s) (bo .i64 a.2.1 1)) λd9=>some (.inl (aI (aI a.1 a.2.1 s) (bo .i64 a.2.1 1) a0,bo .i64 a.2.1 1,()))))))) (ao (some (.inl (a.1,()))))) (am (qs (ai .i64 (d8 .i64 2 k.1) 1,d8 .i64 2 B.1,())) λz9=>ad (ay z9.1 0) (aA (a5 a.1 (bo .i64 a.2.1 1)) (am (ax a.1 (bo .i64 a.2.1 1)) λt=>aA (a5 a.1 a.2.1) (am (ax a.1 a.2.1) λy9=>aA (a5 a.1 a.2.1) (am (ax a.1 a.2.1) λc9=>aA (a5 (aI a.1 a.2.1 t) (bo .i64 a.2.1 1)) (am (ax (aI a.1 a.2.1 t) (bo .i64 a.2.1 1)) λb9=>some (.inl (aI (aI a.1 a.2.1 t) (bo .i64 a.2.1 1) y9,bo .i64 a.2.1 1,()))))))) (ao (some (.inl (a.1,())))))) (am (ax x.1 j) λx9=>am (rb (x.2.1,x9.1,())) λC=>am (ax x.1 j) λw9=>ad (a6 w9.2.1 0) (am (qs (d8 .i64 2 k.1,ai .i64 (d8 .i64 2 C.1) 1,())) λv9=>ad (ay v9.1 0) (aA (a5 a.1 (bo .i64 a.2.1 1)) (am (ax a.1 (bo .i64 a.2.1 1)) λu=>aA (a5 a.1 a.2.1) (am (ax a.1 a.2.1) λu9=>aA (a5 a.1 a.2.1) (am (ax a.1 a.2.1) λa9=>aA (a5 (aI a.1 a.2.1 u) (bo .i64 a.2.1 1)) (am (ax (aI a.1 a.2.1 u) (bo .i64 a.2.1 1)) λx69=>some (.inl (aI (aI a.1 a.2.1 u) (bo .i64 a.2.1 1) u9,bo .i64 a.2.1 1,()))))))) (ao (some (.inl (a.1,()))))) (am (qs (d8 .i64 2 k.1,d8 .i64 2 C.1,())) λt9=>ad (ay t9.1 0) (aA (a5 a.1 (bo .i64 a.2.1 1)) (am (ax a.1 (bo .i64 a.2.1 1)) λv=>aA (a5 a.1 a.2.1) (am (ax a.1 a.2.1) λs9=>aA (a5 a.1 a.2.1) (am (ax a.1 a.2.1) λx73=>aA (a5 (aI a.1 a.2.1 v) (bo .i64 a.2.1 1)) (am (ax (aI a.1 a.2.1 v) (bo .i64 a.2.1 1)) λx74=>some (.inl (aI (aI a.1 a.2.1 v) (bo .i64 a.2.1 1) s9,bo .i64 a.2.1 1,()))))))) (ao (some (.inl (a.1,()))))))))) (ao (some (.inl (a.1,()))))) 1000000000 (g.1,g.2.1,())) λr9=>some (.inl (r9.1,()))) λq9=>some (.inl (q9.1,ai .i64 g.2.1 1,()))) (ao (some (.inl (g.1,()))))) 1000000000 (r.1,ai .i64 r.2.1 1,())) λp9=>aD (aB (λe=>ad (ay e.2.1 (ak f.1)) (aD (aD (aB (λm=>ad (cL m.2.2.1 (ak f.1)) none (ao (some (.inl (m.1,m.2.1,()))))) 1000000000 (e.1,0,d8 .i64 2 e.2.1,())) λy0=>ad (ay (ai .i64 y0.2.1 e.2.1) (ak f.1)) none (some (.inl (y0.1,d8 .i64 e.2.1 2,())))) λx0=>some (.inl (x0.1,x0.2.1,()))) (ao (some (.inl (e.1,()))))) 1000000000 (p9.1,20,())) λo9=>some (o9.1,0,()))
def abc:=kB ef aaM 201 Tryz.f201 (hs [(0,kp [3,4] [.own 9 iT]),(1,kp [2,3,4] (.own 9 iT::kp [19,20] [.val 21 iT]))]) Dm
def De(x:D (.ah eH .un)):Option (D iU):=am (tF (x.1,())) λa=>ad (bH a.1 0) (some (0,())) (some (fB .i64 (ak (bm [] x.1.2.2.2.2.2.1 4)) 4,()))
def aay:=kB ef abc 278 Tryz.f278 Tr.e De
def Fk(x:D (.ah eH .un)):Option (D iU):=am (tF (x.1,())) λa=>ad (bH a.1 0) (am (De (x.1,())) λb=>some (ai .i64 0 b.1,())) (am (De (x.1,())) λc=>some (ai .i64 (ai .i64 (ai .i64 (ai .i64 (ai .i64 0 (fB .i64 (ak (bm [] x.1.2.2.2.2.2.1 0)) 0)) (fB .i64 (ak (bm [] x.1.2.2.2.2.2.1 1)) 1)) (fB .i64 (ak (bm [] x.1.2.2.2.2.2.1 2)) 2)) (fB .i64 (ak (bm [] x.1.2.2.2.2.2.1 3)) 3)) c.1,()))
def aaL:=kB ef aay 247 Tryz.f247 Tr.e Fk
def Fu(x:D (.ah du iU)):Option (D iU):=am (ax x.1.2.2.2.1 x.2.1) λb=>am (Fk (b,())) λc=>aD (aB (λa=>ad (ay a.2.1 (ak x.1.2.2.2.2.1)) (am (ax x.1.2.2.2.2.1 a.2.1) λd=>am (ax d.1 x.2.1) λe=>some (.inl (ai .i64 a.1 (ak e),ai .i64 a.2.1 1,()))) (ao (some (.inl (a.1,()))))) 1000000000 (c.1,0,())) λf=>some (f.1,())
def abb:=kB ef aaL 202 Tryz.f202 (hs [(0,[.val 5 iT]),(1,.aL 1:: .val 5 iT::kp [15,16] [.val 17 iT])]) Fu
def Ft(x:D (.ah du iU)):Option (D iU):=am (ax x.1.2.2.2.1 x.2.1) λa=>am (Fu (x.1,x.2.1,())) λb=>some (bo .i64 b.1 a.2.2.2.2.1,())
def MX:=kB ef abb 203 Tryz.f203 Tr.e Ft
def SN(x:D (.ah eH iU)):Option (D (.ah eH cU)):=am (tF (x.1,())) λe=>ad (bH e.1 0) (some ((0,0,0,0,0,[]::[]::[]::[]::[]::[],()),0,e.1,())) (ad (a6 (ak (bm [] x.1.2.2.2.2.2.1 0)) 0) (ad (a6 (ak (bm [] x.1.2.2.2.2.2.1 1)) 0) (ad (a6 (ak (bm [] x.1.2.2.2.2.2.1 2)) 0) (ad (a6 (ak (bm [] x.1.2.2.2.2.2.1 3)) 0) (ad (a6 (ak (bm [] x.1.2.2.2.2.2.1 4)) 0) (some ((0,0,0,0,0,[]::[]::[]::[]::[]::[],()),0,16,())) (aA (aO [] (bm [] x.1.2.2.2.2.2.1 0) 8) (aA (aO [] (bm [] x.1.2.2.2.2.2.1 1) 8) (aA (aO [] (bm [] x.1.2.2.2.2.2.1 2) 8) (aA (aO [] (bm [] x.1.2.2.2.2.2.1 3) 8) (aA (aO [] (bm [] x.1.2.2.2.2.2.1 4) 8) (aA (a5 (aM [] (bm [] x.1.2.2.2.2.2.1 4)) 0) (am (ax (aM [] (bm [] x.1.2.2.2.2.2.1 4)) 0) λa=>aA (dJ 1 (ak (aM [] (bm [] x.1.2.2.2.2.2.1 4))) (ak (aM [] (bm [] x.1.2.2.2.2.2.1 4)))) (am (gC (aM [] (bm [] x.1.2.2.2.2.2.1 3),ai .i64 a 8,())) λi=>aA (dJ i.1 (ak (aM [] (bm [] x.1.2.2.2.2.2.1 3))) (ak (aM [] (bm [] x.1.2.2.2.2.2.1 3)))) (ad (a6 i.1 (ak (aM [] (bm [] x.1.2.2.2.2.2.1 3)))) (aA (aO (aM [] (bm [] x.1.2.2.2.2.2.1 3)) (ai .i64 a 8::[]) 8) (am (gC (aM [] (bm [] x.1.2.2.2.2.2.1 2),ai .i64 a 4,())) λj=>aA (dJ j.1 (ak (aM [] (bm [] x.1.2.2.2.2.2.1 2))) (ak (aM [] (bm [] x.1.2.2.2.2.2.1 2)))) (ad (a6 j.1 (ak (aM [] (bm [] x.1.2.2.2.2.2.1 2)))) (aA (aO (aM [] (bm [] x.1.2.2.2.2.2.1 2)) (ai .i64 a 4::[]) 8) (am (gC (aM [] (bm [] x.1.2.2.2.2.2.1 1),ai .i64 a 2,())) λk=>aA (dJ k.1 (ak (aM [] (bm [] x.1.2.2.2.2.2.1 1))) (ak (aM [] (bm [] x.1.2.2.2.2.2.1 1)))) (ad (a6 k.1 (ak (aM [] (bm [] x.1.2.2.2.2.2.1 1)))) (aA (aO (aM [] (bm [] x.1.2.2.2.2.2.1 1)) (ai .i64 a 2::[]) 8) (am (gC (aM [] (bm [] x.1.2.2.2.2.2.1 0),ai .i64 a 1,())) λl=>aA (dJ l.1 (ak (aM [] (bm [] x.1.2.2.2.2.2.1 0))) (ak (aM [] (bm [] x.1.2.2.2.2.2.1 0)))) (ad (a6 l.1 (ak (aM [] (bm [] x.1.2.2.2.2.2.1 0)))) (aA (aO (aM [] (bm [] x.1.2.2.2.2.2.1 0)) (ai .i64 a 1::[]) 8) (some ((x.1.1,x.1.2.1,x.1.2.2.1,x.1.2.2.2.1,x.1.2.2.2.2.1,aM (aM [] (bm [] x.1.2.2.2.2.2.1 0)) (ai .i64 a 1::[])::aM (aM [] (bm [] x.1.2.2.2.2.2.1 1)) (ai .i64 a 2::[])::aM (aM [] (bm [] x.1.2.2.2.2.2.1 2)) (ai .i64 a 4::[])::aM (aM [] (bm [] x.1.2.2.2.2.2.1 3)) (ai .i64 a 8::[])::eX (aM [] (bm [] x.1.2.2.2.2.2.1 4)) 1 (ak (aM [] (bm [] x.1.2.2.2.2.2.1 4)))::[],()),a,0,()))) none))) none))) none))) none)))))))))) (aA (aO [] (bm [] x.1.2.2.2.2.2.1 0) 8) (aA (aO [] (bm [] x.1.2.2.2.2.2.1 1) 8) (aA (aO [] (bm [] x.1.2.2.2.2.2.1 2) 8) (aA (aO [] (bm [] x.1.2.2.2.2.2.1 3) 8) (aA (aO [] (bm [] x.1.2.2.2.2.2.1 4) 8) (aA (a5 (aM [] (bm [] x.1.2.2.2.2.2.1 3)) 0) (am (ax (aM [] (bm [] x.1.2.2.2.2.2.1 3)) 0) λb=>aA (dJ 1 (ak (aM [] (bm [] x.1.2.2.2.2.2.1 3))) (ak (aM [] (bm [] x.1.2.2.2.2.2.1 3)))) (am (gC (aM [] (bm [] x.1.2.2.2.2.2.1 2),ai .i64 b 4,())) λm=>aA (dJ m.1 (ak (aM [] (bm [] x.1.2.2.2.2.2.1 2))) (ak (aM [] (bm [] x.1.2.2.2.2.2.1 2)))) (ad (a6 m.1 (ak (aM [] (bm [] x.1.2.2.2.2.2.1 2)))) (aA (aO (aM [] (bm [] x.1.2.2.2.2.2.1 2)) (ai .i64 b 4::[]) 8) (am (gC (aM [] (bm [] x.1.2.2.2.2.2.1 1),ai .i64 b 2,())) λn=>aA (dJ n.1 (ak (aM [] (bm [] x.1.2.2.2.2.2.1 1))) (ak (aM [] (bm [] x.1.2.2.2.2.2.1 1)))) (ad (a6 n.1 (ak (aM [] (bm [] x.1.2.2.2.2.2.1 1)))) (aA (aO (aM [] (bm [] x.1.2.2.2.2.2.1 1)) (ai .i64 b 2::[]) 8) (am (gC (aM [] (bm [] x.1.2.2.2.2.2.1 0),ai .i64 b 1,())) λo=>aA (dJ o.1 (ak (aM [] (bm [] x.1.2.2.2.2.2.1 0))) (ak (aM [] (bm [] x.1.2.2.2.2.2.1 0)))) (ad (a6 o.1 (ak (aM [] (bm [] x.1.2.2.2.2.2.1 0)))) (aA (aO (aM [] (bm [] x.1.2.2.2.2.2.1 0)) (ai .i64 b 1::[]) 8) (some ((x.1.1,x.1.2.1,x.1.2.2.1,x.1.2.2.2.1,x.1.2.2.2.2.1,aM (aM [] (bm [] x.1.2.2.2.2.2.1 0)) (ai .i64 b 1::[])::aM (aM [] (bm [] x.1.2.2.2.2.2.1 1)) (ai .i64 b 2::[])::aM (aM [] (bm [] x.1.2.2.2.2.2.1 2)) (ai .i64 b 4::[])::eX (aM [] (bm [] x.1.2.2.2.2.2.1 3)) 1 (ak (aM [] (bm [] x.1.2.2.2.2.2.1 3)))::aM [] (bm [] x.1.2.2.2.2.2.1 4)::[],()),b,0,()))) none))) none))) none)))))))))) (aA (aO [] (bm [] x.1.2.2.2.2.2.1 0) 8) (aA (aO [] (bm [] x.1.2.2.2.2.2.1 1) 8) (aA (aO [] (bm [] x.1.2.2.2.2.2.1 2) 8) (aA (aO [] (bm [] x.1.2.2.2.2.2.1 3) 8) (aA (aO [] (bm [] x.1.2.2.2.2.2.1 4) 8) (aA (a5 (aM [] (bm [] x.1.2.2.2.2.2.1 2)) 0) (am (ax (aM [] (bm [] x.1.2.2.2.2.2.1 2)) 0) λc=>aA (dJ 1 (ak (aM [] (bm [] x.1.2.2.2.2.2.1 2))) (ak (aM [] (bm [] x.1.2.2.2.2.2.1 2)))) (am (gC (aM [] (bm [] x.1.2.2.2.2.2.1 1),ai .i64 c 2,())) λf=>aA (dJ f.1 (ak (aM [] (bm [] x.1.2.2.2.2.2.1 1))) (ak (aM [] (bm [] x.1.2.2.2.2.2.1 1)))) (ad (a6 f.1 (ak (aM [] (bm [] x.1.2.2.2.2.2.1 1)))) (aA (aO (aM [] (bm [] x.1.2.2.2.2.2.1 1)) (ai .i64 c 2::[]) 8) (am (gC (aM [] (bm [] x.1.2.2.2.2.2.1 0),ai .i64 c 1,())) λg=>aA (dJ g.1 (ak (aM [] (bm [] x.1.2.2.2.2.2.1 0))) (ak (aM [] (bm [] x.1.2.2.2.2.2.1 0)))) (ad (a6 g.1 (ak (aM [] (bm [] x.1.2.2.2.2.2.1 0)))) (aA (aO (aM [] (bm [] x.1.2.2.2.2.2.1 0)) (ai .i64 c 1::[]) 8) (some ((x.1.1,x.1.2.1,x.1.2.2.1,x.1.2.2.2.1,x.1.2.2.2.2.1,aM (aM [] (bm [] x.1.2.2.2.2.2.1 0)) (ai .i64 c 1::[])::aM (aM [] (bm [] x.1.2.2.2.2.2.1 1)) (ai .i64 c 2::[])::eX (aM [] (bm [] x.1.2.2.2.2.2.1 2)) 1 (ak (aM [] (bm [] x.1.2.2.2.2.2.1 2)))::aM [] (bm [] x.1.2.2.2.2.2.1 3)::aM [] (bm [] x.1.2.2.2.2.2.1 4)::[],()),c,0,()))) none))) none)))))))))) (aA (aO [] (bm [] x.1.2.2.2.2.2.1 0) 8) (aA (aO [] (bm [] x.1.2.2.2.2.2.1 1) 8) (aA (aO [] (bm [] x.1.2.2.2.2.2.1 2) 8) (aA (aO [] (bm [] x.1.2.2.2.2.2.1 3) 8) (aA (aO [] (bm [] x.1.2.2.2.2.2.1 4) 8) (aA (a5 (aM [] (bm [] x.1.2.2.2.2.2.1 1)) 0) (am (ax (aM [] (bm [] x.1.2.2.2.2.2.1 1)) 0) λd=>aA (dJ 1 (ak (aM [] (bm [] x.1.2.2.2.2.2.1 1))) (ak (aM [] (bm [] x.1.2.2.2.2.2.1 1)))) (am (gC (aM [] (bm [] x.1.2.2.2.2.2.1 0),ai .i64 d 1,())) λh=>aA (dJ h.1 (ak (aM [] (bm [] x.1.2.2.2.2.2.1 0))) (ak (aM [] (bm [] x.1.2.2.2.2.2.1 0)))) (ad (a6 h.1 (ak (aM [] (bm [] x.1.2.2.2.2.2.1 0)))) (aA (aO (aM [] (bm [] x.1.2.2.2.2.2.1 0)) (ai .i64 d 1::[]) 8) (some ((x.1.1,x.1.2.1,x.1.2.2.1,x.1.2.2.2.1,x.1.2.2.2.2.1,aM (aM [] (bm [] x.1.2.2.2.2.2.1 0)) (ai .i64 d 1::[])::eX (aM [] (bm [] x.1.2.2.2.2.2.1 1)) 1 (ak (aM [] (bm [] x.1.2.2.2.2.2.1 1)))::aM [] (bm [] x.1.2.2.2.2.2.1 2)::aM [] (bm [] x.1.2.2.2.2.2.1 3)::aM [] (bm [] x.1.2.2.2.2.2.1 4)::[],()),d,0,()))) none)))))))))) (aA (aO [] (bm [] x.1.2.2.2.2.2.1 0) 8) (aA (aO [] (bm [] x.1.2.2.2.2.2.1 1) 8) (aA (aO [] (bm [] x.1.2.2.2.2.2.1 2) 8) (aA (aO [] (bm [] x.1.2.2.2.2.2.1 3) 8) (aA (aO [] (bm [] x.1.2.2.2.2.2.1 4) 8) (aA (a5 (aM [] (bm [] x.1.2.2.2.2.2.1 0)) 0) (am (ax (aM [] (bm [] x.1.2.2.2.2.2.1 0)) 0) λp=>aA (dJ 1 (ak (aM [] (bm [] x.1.2.2.2.2.2.1 0))) (ak (aM [] (bm [] x.1.2.2.2.2.2.1 0)))) (some ((x.1.1,x.1.2.1,x.1.2.2.1,x.1.2.2.2.1,x.1.2.2.2.2.1,eX (aM [] (bm [] x.1.2.2.2.2.2.1 0)) 1 (ak (aM [] (bm [] x.1.2.2.2.2.2.1 0)))::aM [] (bm [] x.1.2.2.2.2.2.1 1)::aM [] (bm [] x.1.2.2.2.2.2.1 2)::aM [] (bm [] x.1.2.2.2.2.2.1 3)::aM [] (bm [] x.1.2.2.2.2.2.1 4)::[],()),p,0,()))))))))))
def Dh(x:D (.ah eH iU)):Option (D (.ah eH cU)):=ad (a6 x.2.1 0) (SN x) none
theorem ZN(x:D (.ah eH iU)):GM (vP MX.1 ef) [false,true] 1000 (.ah eH iU) (.ah eH cU) Tr.e Tryz.f251 (x.1,(0:Int),())=SN x:=by kernel_rfl
theorem Z4(x:D (.ah eH iU))(h:a6 x.2.1 0=true):(x.1,(0:Int),())=x:=by have h:x.2.1=0:=bA h;obtain⟨a,b,u⟩:=x;cases h;rfl
theorem aac:eA.fn.ap 251=some Tryz.f251:=by kernel_rfl
theorem acm:eA.ext.ap 251=none:=by kernel_rfl
def aaK:KK:=⟨MX.1.set 251 ⟨.ah eH iU,.ah eH cU,Dh⟩,ta MX.2 (Nk (hi:=ef) MX.2 aac acm (MO (b:=λ(x:D (.ah eH iU))=>a6 x.2.1 0) (q:=λ(x:D (.ah eH iU))=>(x.1,(0:Int),())) Z4 ZN))⟩
def Ao(x:D (.ah fu iU)):Option (D iU):=am (Ap ((x.1.1,()),ak x.1.1,())) λa=>ad (bH a.1 0) (some (a.1,())) (ad (ay x.2.1 0) (some (2,())) (ad (cL (ak x.1.1) x.2.1) (some (2,())) (some (0,()))))
def aaJ:=kB ef aaK 255 Tryz.f255 Tr.e Ao
def An(x:D (.ah fu (.ah iT (.ah lI .un)))):Option (D (.ah fu .un)):=aA (gP (ak x.1.1) (ak x.1.1) 24) (aD (aB (λa=>ad (ay a.2.1 (ak x.1.1)) (am (ax x.1.1 a.2.1) λb=>ad (a6 a.2.1 x.2.1) (aA (gP (ak x.2.2.1) (ak x.2.2.1) 8) (aA (a5 a.1.1 a.2.1) (aA (a5 a.1.1 a.2.1) (aA (a5 (aI a.1.1 a.2.1 (er (ak x.2.2.1) 0)) a.2.1) (aA (a5 (aI a.1.1 a.2.1 (er (ak x.2.2.1) 0)) a.2.1) (am (ax (aI a.1.1 a.2.1 (er (ak x.2.2.1) 0)) a.2.1) λc=>some (.inl ((aI (aI a.1.1 a.2.1 (er (ak x.2.2.1) 0)) a.2.1 (d7 c x.2.2.1),()),ai .i64 a.2.1 1,())))))))) (aA (gP (ak b) (ak b) 8) (aA (a5 a.1.1 a.2.1) (aA (a5 a.1.1 a.2.1) (aA (a5 (aI a.1.1 a.2.1 (er (ak b) 0)) a.2.1) (aA (a5 (aI a.1.1 a.2.1 (er (ak b) 0)) a.2.1) (am (ax (aI a.1.1 a.2.1 (er (ak b) 0)) a.2.1) λd=>some (.inl ((aI (aI a.1.1 a.2.1 (er (ak b) 0)) a.2.1 (d7 d b),()),ai .i64 a.2.1 1,()))))))))) (ao (some (.inl ((a.1.1,()),()))))) 1000000000 ((er (ak x.1.1) [],()),0,())) λe=>some ((e.1.1,()),()))
def aaI:=kB ef aaJ 256 Tryz.f256 (hs [(0,[.aL 6,.box 7 b6]),(1,kp [1,2,3,6] [.box 7 b6,.aL 17,.val 18 iT])]) An
def NX(x:D (.ah fu iU)):Option (D (.ah fu (.ah lI iU))):=am (Ao ((x.1.1,()),x.2.1,())) λb=>ad (bH b.1 0) (some (([],()),[],b.1,())) (am (ax x.1.1 x.2.1) λa=>aA (gP (ak a) (ak a) 8) (am (ax x.1.1 x.2.1) λc=>am (An ((x.1.1,()),x.2.1,[],())) λd=>some ((d.1.1,()),d7 (er (ak a) 0) c,0,())))
def W2:=kB ef aaI 253 Tryz.f253 Tr.e NX
def W7:Tr (List Hi):=hs [(0,kp [1,2,3] [.box 6 b7]),(1,kp [1,2,3] [.box 6 b7,.val 9 iT])]
def Xv(x:D (.ah eH cU)):Option (D (.ah eH iU)):=GL (vP W2.1 ef) 1000 (.ah eH cU) (.ah eH iU) W7 Tryz.f280 x
def aax:=kB ef W2 280 Tryz.f280 W7 Xv (hF:=λx=>rfl)
def wm(x:D (.ah fu iU)):Option (D (.ah fu cU)):=am (Ao ((x.1.1,()),x.2.1,())) λb=>ad (bH b.1 0) (some (([],()),0,b.1,())) (am (ax x.1.1 x.2.1) λa=>ad (a6 (ak a) 0) (some (([],()),0,6,())) (aA (dJ 0 (bo .i64 (ak a) 1) (ak a)) (am (ax a (bo .i64 (ak a) 1)) λc=>am (An ((x.1.1,()),x.2.1,eX a 0 (bo .i64 (ak a) 1),())) λd=>some ((d.1.1,()),c,0,()))))
def MW:=kB ef aax 207 Tryz.f207 Tr.e wm
def QH(c:List (List Int))(z:Int)(l:List Int):Option (D (.ah fu iU)):=am (Ao ((c,()),z,())) λh=>ad (bH h.1 0) (some (([],()),h.1,())) (aD (aB (α:=D (.ah (.bc kk) iU)) (λd=>ad (ay d.2.1 (ak c)) (aD (am (ax c d.2.1) λi=>aD (aB (α:=D (.ah (.bc kk) iU)) (λe=>ad (ay e.2.1 (ak i)) (am (ax i e.2.1) λk=>some (.inl (nL e.1 k true,ai .i64 e.2.1 1,()))) (ao (some (.inl (e.1,()))))) 1000000000 (d.1,0,())) λm=>some (.inl (m.1,()))) λn=>some (.inl (n.1,ai .i64 d.2.1 1,()))) (ao (some (.inl (d.1,()))))) 1000000000 ([],0,())) λo=>aD (aB (α:=D (.ah (.ah fu .un) (.ah (.bc kk) iU))) (λa=>ad (ay a.2.2.1 (ak l)) (aA (a5 l a.2.2.1) (am (ax l a.2.2.1) λf=>am (Ju (f,())) λp=>ad (bL p.1) (ao (ao (some (([],()),2,())))) (ad (sf a.2.1 f) (ao (ao (some (([],()),7,())))) (some (.inl ((a.1.1,()),nL a.2.1 f true,ai .i64 a.2.2.1 1,())))))) (ao (some (.inl ((a.1.1,()),a.2.1,()))))) 1000000000 ((([],()),()),o.1,0,())) λt=>am (ax c z) λg=>aA (gP (ak g) (ak g) 8) (am (ax c z) λq=>aD (aB (α:=D (.ah lI iU)) (λb=>ad (ay b.2.1 (ak l)) (aA (a5 l (bo .i64 (bo .i64 (ak l) 1) b.2.1)) (am (ax l (bo .i64 (bo .i64 (ak l) 1) b.2.1)) λj=>aA (aO b.1 (j::[]) 8) (some (.inl (aM b.1 (j::[]),ai .i64 b.2.1 1,()))))) (ao (some (.inl (b.1,()))))) 1000000000 (d7 (er (ak g) 0) q,0,())) λr=>am (An ((c,()),z,r.1,())) λs=>some (s.1,0,())))
def YY{β:Type}(a:D du):Option (Sum (D du×Unit) β):=aB (α:=D (.ah du iU)) (λb=>ad (ay b.2.1 (ak (aM [] a.2.2.2.1))) (aD (aD (aA (a5 b.1.2.2.2.1 b.2.1) (am (ax b.1.2.2.2.1 b.2.1) λp=>aA (aO [] (bm [] p.2.2.2.2.2.1 0) 8) (aA (a5 b.1.2.2.2.1 b.2.1) (am (ax b.1.2.2.2.1 b.2.1) λg=>some (.inl ((b.1.1,b.1.2.1,b.1.2.2.1,aI b.1.2.2.2.1 b.2.1 (g.1,g.2.1,g.2.2.1,g.2.2.2.1,g.2.2.2.2.1,aM [] (bm [] p.2.2.2.2.2.1 0)::bm [] g.2.2.2.2.2.1 1::bm [] g.2.2.2.2.2.1 2::bm [] g.2.2.2.2.2.1 3::bm [] g.2.2.2.2.2.1 4::[],g.2.2.2.2.2.2),b.1.2.2.2.2.1,()),())))))) λk=>aD (aA (a5 k.1.2.2.2.1 b.2.1) (am (ax k.1.2.2.2.1 b.2.1) λl=>aA (aO [] (bm [] l.2.2.2.2.2.1 1) 8) (aA (a5 k.1.2.2.2.1 b.2.1) (am (ax k.1.2.2.2.1 b.2.1) λc=>some (.inl ((k.1.1,k.1.2.1,k.1.2.2.1,aI k.1.2.2.2.1 b.2.1 (c.1,c.2.1,c.2.2.1,c.2.2.2.1,c.2.2.2.2.1,bm [] c.2.2.2.2.2.1 0::aM [] (bm [] l.2.2.2.2.2.1 1)::bm [] c.2.2.2.2.2.1 2::bm [] c.2.2.2.2.2.1 3::bm [] c.2.2.2.2.2.1 4::[],c.2.2.2.2.2.2),k.1.2.2.2.2.1,()),())))))) λh=>aD (aA (a5 h.1.2.2.2.1 b.2.1) (am (ax h.1.2.2.2.1 b.2.1) λm=>aA (aO [] (bm [] m.2.2.2.2.2.1 2) 8) (aA (a5 h.1.2.2.2.1 b.2.1) (am (ax h.1.2.2.2.1 b.2.1) λd=>some (.inl ((h.1.1,h.1.2.1,h.1.2.2.1,aI h.1.2.2.2.1 b.2.1 (d.1,d.2.1,d.2.2.1,d.2.2.2.1,d.2.2.2.2.1,bm [] d.2.2.2.2.2.1 0::bm [] d.2.2.2.2.2.1 1::aM [] (bm [] m.2.2.2.2.2.1 2)::bm [] d.2.2.2.2.2.1 3::bm [] d.2.2.2.2.2.1 4::[],d.2.2.2.2.2.2),h.1.2.2.2.2.1,()),())))))) λi=>aD (aA (a5 i.1.2.2.2.1 b.2.1) (am (ax i.1.2.2.2.1 b.2.1) λn=>aA (aO [] (bm [] n.2.2.2.2.2.1 3) 8) (aA (a5 i.1.2.2.2.1 b.2.1) (am (ax i.1.2.2.2.1 b.2.1) λe=>some (.inl ((i.1.1,i.1.2.1,i.1.2.2.1,aI i.1.2.2.2.1 b.2.1 (e.1,e.2.1,e.2.2.1,e.2.2.2.1,e.2.2.2.2.1,bm [] e.2.2.2.2.2.1 0::bm [] e.2.2.2.2.2.1 1::bm [] e.2.2.2.2.2.1 2::aM [] (bm [] n.2.2.2.2.2.1 3)::bm [] e.2.2.2.2.2.1 4::[],e.2.2.2.2.2.2),i.1.2.2.2.2.1,()),())))))) λj=>aD (aA (a5 j.1.2.2.2.1 b.2.1) (am (ax j.1.2.2.2.1 b.2.1) λo=>aA (aO [] (bm [] o.2.2.2.2.2.1 4) 8) (aA (a5 j.1.2.2.2.1 b.2.1) (am (ax j.1.2.2.2.1 b.2.1) λf=>some (.inl ((j.1.1,j.1.2.1,j.1.2.2.1,aI j.1.2.2.2.1 b.2.1 (f.1,f.2.1,f.2.2.1,f.2.2.2.1,f.2.2.2.2.1,bm [] f.2.2.2.2.2.1 0::bm [] f.2.2.2.2.2.1 1::bm [] f.2.2.2.2.2.1 2::bm [] f.2.2.2.2.2.1 3::aM [] (bm [] o.2.2.2.2.2.1 4)::[],f.2.2.2.2.2.2),j.1.2.2.2.2.1,()),())))))) λq=>some (.inl (q.1,()))) λr=>some (.inl (r.1,ai .i64 b.2.1 1,()))) (ao (some (.inl (b.1,()))))) 1000000000 ((aM [] a.1,a.2.1,a.2.2.1,aM [] a.2.2.2.1,aM [] a.2.2.2.2.1,()),0,())
def Y6{β:Type}(a:D du):Option (Sum (D du×Unit) β):=aB (α:=D (.ah du iU)) (λb=>ad (ay b.2.1 (ak a.2.2.2.2.1)) (aD (aA (a5 b.1.2.2.2.2.1 b.2.1) (am (ax b.1.2.2.2.2.1 b.2.1) λd=>aA (aO [] d.1 24) (aD (aB (α:=D (.ah (.bc lI) iU)) (λc=>ad (ay c.2.1 (ak (aM [] d.1))) (aA (a5 c.1 c.2.1) (am (ax c.1 c.2.1) λe=>aA (aO [] e 8) (aA (a5 c.1 c.2.1) (am (ax c.1 c.2.1) λh=>some (.inl (aI c.1 c.2.1 (aM [] e),ai .i64 c.2.1 1,())))))) (ao (some (.inl (c.1,()))))) 1000000000 (aM [] d.1,0,())) λf=>aA (a5 b.1.2.2.2.2.1 b.2.1) (am (ax b.1.2.2.2.2.1 b.2.1) λi=>some (.inl ((b.1.1,b.1.2.1,b.1.2.2.1,b.1.2.2.2.1,aI b.1.2.2.2.2.1 b.2.1 (f.1,()),()),())))))) λg=>some (.inl (g.1,ai .i64 b.2.1 1,()))) (ao (some (.inl (b.1,()))))) 1000000000 (a,0,())
def YR{β:Type}(a:D du)(z u:Int):Option (Sum (D du×Unit) β):=aB (α:=D (.ah du iU)) (λb=>ad (ay b.2.1 (ak a.2.2.2.2.1)) (ad (bH b.2.1 u) (aA (a5 b.1.2.2.2.2.1 b.2.1) (am (ax b.1.2.2.2.2.1 b.2.1) λf=>am (NX ((f.1,()),z,())) λd=>ad (a6 d.2.2.1 0) (aA (a5 b.1.2.2.2.2.1 b.2.1) (am (ax b.1.2.2.2.2.1 b.2.1) λj=>aD (aB (α:=D (.ah du iU)) (λc=>ad (ay c.2.1 (ak d.2.1)) (am (ax d.2.1 c.2.1) λg=>aA (a5 c.1.2.2.2.1 z) (am (ax c.1.2.2.2.1 z) λh=>am (Xv (h,g,0,())) λe=>ad (a6 e.2.1 0) (aA (a5 c.1.2.2.2.1 z) (am (ax c.1.2.2.2.1 z) λk=>some (.inl ((c.1.1,c.1.2.1,c.1.2.2.1,aI c.1.2.2.2.1 z e.1,c.1.2.2.2.2.1,()),ai .i64 c.2.1 1,())))) (some (.inl (c.1,ai .i64 c.2.1 1,()))))) (ao (some (.inl (c.1,()))))) 1000000000 ((b.1.1,b.1.2.1,b.1.2.2.1,b.1.2.2.2.1,aI b.1.2.2.2.2.1 b.2.1 (d.1.1,()),()),0,())) λi=>some (.inl (i.1,ai .i64 b.2.1 1,())))) (some (.inl (b.1,ai .i64 b.2.1 1,()))))) (some (.inl (b.1,ai .i64 b.2.1 1,())))) (ao (some (.inl (b.1,()))))) 1000000000 (a,0,())
def KA(a:D du)(z u:Int):Option (D (.ah du bU)):=aD (aB (α:=D (.ah du (.ah lI iU))) (λb=>ad (ay b.2.2.1 a.2.1) (aA (a5 b.1.2.2.2.1 z) (am (ax b.1.2.2.2.1 z) λf=>am (Dh (f,0,())) λd=>ad (bH d.2.2.1 0) (ao (some (.inl (b.1,b.2.1,())))) (aA (a5 b.1.2.2.2.1 z) (am (ax b.1.2.2.2.1 z) λh=>aA (aO b.2.1 (d.2.1::[]) 8) (some (.inl ((b.1.1,b.1.2.1,b.1.2.2.1,aI b.1.2.2.2.1 z d.1,b.1.2.2.2.2.1,()),aM b.2.1 (d.2.1::[]),ai .i64 b.2.2.1 1,()))))))) (ao (some (.inl (b.1,b.2.1,()))))) 1000000000 (a,[],0,())) λc=>aA (a5 c.1.2.2.2.2.1 u) (am (ax c.1.2.2.2.2.1 u) λg=>am (QH g.1 z c.2.1) λe=>ad (a6 e.2.1 0) (aA (a5 c.1.2.2.2.2.1 u) (am (ax c.1.2.2.2.2.1 u) λi=>some ((c.1.1,c.1.2.1,c.1.2.2.1,c.1.2.2.2.1,aI c.1.2.2.2.2.1 u (e.1.1,()),()),ay 0 (ak c.2.1),()))) (some (c.1,ay 0 (ak c.2.1),())))
def Jl(x:D (.ah du (.ah iT (.ah .bool bU)))):Option (D (.ah du cU)):=am (u4 (x.1,())) λi=>ad (bH i.1 0) (some (([],0,0,[],[],()),0,i.1,())) (ad (ay x.2.1 0) (some (([],0,0,[],[],()),0,2,())) (ad (cL (ak x.1.1) x.2.1) (some (([],0,0,[],[],()),0,2,())) (am (ax x.1.1 x.2.1) λk=>am (Dm (x.1.2.2.2.1,k,x.2.2.1,())) λj=>aD (aB (α:=D (.ah (.ah du .un) iU)) (λe=>ad (ay e.2.1 (ak j.1)) (aD (am (ax j.1 e.2.1) λd=>am (Ft (x.1,d,())) λs=>ad (ay s.1 1) (some (.inl ((e.1.1,()),()))) (aA (aO [] x.1.1 8) (aA (aO [] x.1.2.2.2.1 160) (aA (aO [] x.1.2.2.2.2.1 24) (aD (YY x.1) λp=>aD (Y6 p.1) λa=>aA (a5 a.1.2.2.2.2.1 x.2.1) (am (ax a.1.2.2.2.2.1 x.2.1) λq=>am (ax q.1 d) λr=>ad (a6 (ak r) 0) (am (KA a.1 d x.2.1) λb=>ad (bL b.2.1) (aD (YR b.1 d x.2.1) λt=>am (KA t.1 d x.2.1) λc=>aA (a5 c.1.2.2.2.2.1 x.2.1) (am (ax c.1.2.2.2.2.1 x.2.1) λl=>am (wm ((l.1,()),d,())) λf=>ad (bH f.2.2.1 0) (ao (ao (ao (some (([],0,0,[],[],()),0,f.2.2.1,()))))) (aA (a5 c.1.2.2.2.2.1 x.2.1) (am (ax c.1.2.2.2.2.1 x.2.1) λu=>ao (ao (ao (some ((c.1.1,c.1.2.1,c.1.2.2.1,c.1.2.2.2.1,aI c.1.2.2.2.2.1 x.2.1 (f.1.1,()),()),f.2.1,0,())))))))) (aA (a5 b.1.2.2.2.2.1 x.2.1) (am (ax b.1.2.2.2.2.1 x.2.1) λm=>am (wm ((m.1,()),d,())) λg=>ad (bH g.2.2.1 0) (ao (ao (ao (some (([],0,0,[],[],()),0,g.2.2.1,()))))) (aA (a5 b.1.2.2.2.2.1 x.2.1) (am (ax b.1.2.2.2.2.1 x.2.1) λv=>ao (ao (ao (some ((b.1.1,b.1.2.1,b.1.2.2.1,b.1.2.2.2.1,aI b.1.2.2.2.2.1 x.2.1 (g.1.1,()),()),g.2.1,0,()))))))))) (aA (a5 a.1.2.2.2.2.1 x.2.1) (am (ax a.1.2.2.2.2.1 x.2.1) λn=>am (wm ((n.1,()),d,())) λh=>ad (bH h.2.2.1 0) (ao (ao (ao (some (([],0,0,[],[],()),0,h.2.2.1,()))))) (aA (a5 a.1.2.2.2.2.1 x.2.1) (am (ax a.1.2.2.2.2.1 x.2.1) λw=>ao (ao (ao (some ((a.1.1,a.1.2.1,a.1.2.2.1,a.1.2.2.2.1,aI a.1.2.2.2.2.1 x.2.1 (h.1.1,()),()),h.2.1,0,())))))))))))))) λo=>some (.inl ((o.1.1,()),ai .i64 e.2.1 1,()))) (ao (some (.inl ((e.1.1,()),()))))) 1000000000 ((([],0,0,[],[],()),()),0,())) λy=>some (([],0,0,[],[],()),0,16,()))))
def Ar(x:D (.ah du (.ah iT (.ah .bool bU)))):Option (D (.ah du cU)):=ad (bL x.2.2.2.1) (Jl x) none
theorem ZQ(x:D (.ah du (.ah iT (.ah .bool bU)))):GM (vP MW.1 ef) [false,false,false,true] 1000 (.ah du (.ah iT (.ah .bool bU))) (.ah du cU) (hs [(0,[.box 8 [.v du]]),(1,kp [1,3,4] (.box 8 [.v du]::kp [49,50] [.val 51 iT])),(2,kp [1,3,4] (.box 8 [.v du]::kp [49,50,51] [])),(4,kp [1,8,15] [.box 16 b0]),(5,kp [1,8,15] [.box 16 b0,.aL 93,.val 94 iT])]) Tryz.f135 (x.1,x.2.1,x.2.2.1,false,())=Jl x:=by kernel_rfl
theorem Z7(x:D (.ah du (.ah iT (.ah .bool bU))))(h:bL x.2.2.2.1=true):(x.1,x.2.1,x.2.2.1,false,())=x:=by obtain⟨a,b,c,d,u⟩:=x;cases d with
 |false=>rfl
 |true=>cases h
theorem aaf:eA.fn.ap 135=some Tryz.f135:=by kernel_rfl
theorem acp:eA.ext.ap 135=none:=by kernel_rfl
def abR:KK:=⟨MW.1.set 135 ⟨.ah du (.ah iT (.ah .bool bU)),.ah du cU,Ar⟩,ta MW.2 (Nk (hi:=ef) MW.2 aaf acp (MO (b:=λ(x:D (.ah du (.ah iT (.ah .bool bU))))=>bL x.2.2.2.1) (q:=λ(x:D (.ah du (.ah iT (.ah .bool bU))))=>(x.1,x.2.1,x.2.2.1,false,())) Z7 ZQ))⟩
def yh(x:D iU):Option (D bU):=ad (cL 0 x.1) (some (cL x.1 4294967295,())) (some (false,()))
def aba:=kB ef abR 208 Tryz.f208 Tr.e yh
def sy(x:D iU):Option (D (.ah rN iU)):=am (yh (x.1,())) λa=>ad (bL a.1) (some ((0,[],[],()),2,())) (some ((x.1,(x.1,0::0::0::0::0::0::0::0::[],())::[],[],()),0,()))
def abQ:=kB ef aba 136 Tryz.f136 Tr.e sy
def JF(x:D (.ah kk .un)):Option (D bU):=ad (cL 0 x.1.1) (ad (cL x.1.1 1073741824) (ad x.1.2.1 (some (bL (a6 x.1.1 0),())) (some (true,()))) (some (false,()))) (some (false,()))
def aa9:=kB ef abQ 209 Tryz.f209 Tr.e JF
def JE(x:D (.ah kk .un)):Option (D bU):=ad (ay 0 x.1.1) (some (bL x.1.2.1,())) (some (false,()))
def aa8:=kB ef aa9 210 Tryz.f210 Tr.e JE
def Aq(x:D (.ah kk .un)):Option (D cU):=am (JF (x.1,())) λa=>ad (bL a.1) (some (0,1,())) (am (JE (x.1,())) λb=>ad b.1 (some (bo .i64 x.1.1 1,0,())) (some (x.1.1,0,())))
def abP:=kB ef aa8 139 Tryz.f139 Tr.e Aq
def zK:D fT:=(([],[],0,0,0,0,0,0,0,0,[],[],[],()),0,0,[],[],[],([],0,0,[],[],()),[],(0,[],()),[],[],[],[],(0,[],()),[],(0,0,[],[],[],()),[],[],[],[],())
def BV(c:D cc)(a:D (.ah (.ah fT .un) (.ah fT iU))):Option (Sum (D (.ah (.ah fT .un) (.ah fT iU))) (Sum (D (.ah (.ah fT .un) (.ah fT .un))) (D (.ah fT iU)))):=ad (ay a.2.2.1 (ak c.2.2.2.2.2.2.2.2.2.2.2.2.1)) (am (ax a.2.1.1.2.2.2.2.2.2.2.2.2.2.2.2.1 a.2.2.1) λd=>am (yk (a.2.1.2.2.2.2.2.2.2.2.2.1,d.1,1,())) λi=>ad (bH i.2.2.1 0) (ao (ao (some (zK,17,())))) (am (Ar (a.2.1.2.2.2.2.2.2.1,0,true,false,())) λb=>ad (bH b.2.2.1 0) (ao (ao (some (zK,16,())))) (aA (a5 a.2.1.2.2.2.2.2.2.2.1 b.2.1) (am (ax a.2.1.2.2.2.2.2.2.2.1 b.2.1) λg=>aA (a5 (aI a.2.1.2.2.2.2.2.2.2.1 b.2.1 (1,g.2)) b.2.1) (am (ax (aI a.2.1.2.2.2.2.2.2.2.1 b.2.1 (1,g.2)) b.2.1) λe=>aA (a5 (aI (aI a.2.1.2.2.2.2.2.2.2.1 b.2.1 (1,g.2)) b.2.1 (e.1,e.2.1,d.1,e.2.2.2)) b.2.1) (am (ax (aI (aI a.2.1.2.2.2.2.2.2.2.1 b.2.1 (1,g.2)) b.2.1 (e.1,e.2.1,d.1,e.2.2.2)) b.2.1) λh=>am (sy (b.2.1,())) λj=>aD (aB (α:=D (.ah lI iU)) (λf=>ad (ay f.2.1 (ak a.2.1.2.2.2.2.2.2.2.2.2.2.2.2.2.2.1)) (am (ax a.2.1.2.2.2.2.2.2.2.2.2.2.2.2.2.2.1 f.2.1) λm=>am (Aq (m.2.2.2.2.2.2.1,())) λk=>aA (aO f.1 (k.1::[]) 8) (some (.inl (aM f.1 (k.1::[]),ai .i64 f.2.1 1,())))) (ao (some (.inl (f.1,()))))) 1000000000 ([],0,())) λl=>aA (aO [] d.2.1 64) (aA (aO a.2.1.2.2.2.2.2.2.2.2.2.2.2.2.2.2.2.2.2.1 ((0,0,-1,0,d.1,aM [] d.2.1,(0,0,0,0,(0,0,0,0,0,0,()),(),()),j.1,[],[],[],l.1,0,0,0,0,-1,())::[]) 360) (some (.inl ((a.1.1,()),(a.2.1.1,a.2.1.2.1,a.2.1.2.2.1,a.2.1.2.2.2.1,a.2.1.2.2.2.2.1,a.2.1.2.2.2.2.2.1,b.1,aI (aI (aI a.2.1.2.2.2.2.2.2.2.1 b.2.1 (1,g.2)) b.2.1 (e.1,e.2.1,d.1,e.2.2.2)) b.2.1 (h.1,h.2.1,h.2.2.1,a.2.2.1,h.2.2.2.2),a.2.1.2.2.2.2.2.2.2.2.1,i.1,a.2.1.2.2.2.2.2.2.2.2.2.2.1,a.2.1.2.2.2.2.2.2.2.2.2.2.2.1,a.2.1.2.2.2.2.2.2.2.2.2.2.2.2.1,a.2.1.2.2.2.2.2.2.2.2.2.2.2.2.2.1,a.2.1.2.2.2.2.2.2.2.2.2.2.2.2.2.2.1,a.2.1.2.2.2.2.2.2.2.2.2.2.2.2.2.2.2.1,a.2.1.2.2.2.2.2.2.2.2.2.2.2.2.2.2.2.2.1,aM a.2.1.2.2.2.2.2.2.2.2.2.2.2.2.2.2.2.2.2.1 ((0,0,-1,0,d.1,aM [] d.2.1,(0,0,0,0,(0,0,0,0,0,0,()),(),()),j.1,[],[],[],l.1,0,0,0,0,-1,())::[]),a.2.1.2.2.2.2.2.2.2.2.2.2.2.2.2.2.2.2.2.2.1,a.2.1.2.2.2.2.2.2.2.2.2.2.2.2.2.2.2.2.2.2.2.1,()),ai .i64 a.2.2.1 1,())))))))))) (ao (some (.inl ((a.1.1,()),a.2.1,()))))
def Uy{β:Type}(c e:D cc):Option (Sum (D fT×Unit) β):=aB (α:=D (.ah fT iU)) (λa=>ad (ay a.2.1 (ak c.1)) (am (Hk (c.2.2.2.2.1,())) λb=>aA (aO a.1.2.2.2.1 (-1::[]) 8) (aA (aO a.1.2.2.2.2.1 (b.1::[]) 32) (aA (aO a.1.2.2.2.2.2.1 ([]::[]) 24) (some (.inl ((a.1.1,a.1.2.1,a.1.2.2.1,aM a.1.2.2.2.1 (-1::[]),aM a.1.2.2.2.2.1 (b.1::[]),aM a.1.2.2.2.2.2.1 ([]::[]),a.1.2.2.2.2.2.2),ai .i64 a.2.1 1,())))))) (ao (some (.inl (a.1,()))))) 1000000000 ((e,0,0,[],[],[],([],0,0,[],[],()),[],(0,[],()),[],[],[],[],(0,[],()),[],(0,0,[],[],[],()),[],[],[],[],()),0,())
def UW{β:Type}(k:D fT)(a:D du)(n:Int):Option (Sum (D fT×Unit) β):=aB (α:=D (.ah fT iU)) (λb=>ad (ay b.2.1 n) (am (F47 ()) λc=>aA (aO b.1.2.2.2.2.2.2.2.1 (c.1::[]) 144) (some (.inl ((b.1.1,b.1.2.1,b.1.2.2.1,b.1.2.2.2.1,b.1.2.2.2.2.1,b.1.2.2.2.2.2.1,b.1.2.2.2.2.2.2.1,aM b.1.2.2.2.2.2.2.2.1 (c.1::[]),b.1.2.2.2.2.2.2.2.2),ai .i64 b.2.1 1,())))) (ao (some (.inl (b.1,()))))) 1000000000 ((k.1,k.2.1,k.2.2.1,k.2.2.2.1,k.2.2.2.2.1,k.2.2.2.2.2.1,a,k.2.2.2.2.2.2.2),0,())
def yj(x:D (.ah cc .un)):Option (D (.ah fT iU)):=am (zH (x.1,())) λb=>ad (bH b.1 0) (some (zK,b.1,())) (am (Hl (x.1,())) λc=>am (ax c.1 (bo .i64 (ak c.1) 1)) λk=>am (nF (k,1,256,())) λl=>ad (bL l.1) (some (zK,9,())) (am (V8 (x.1,())) λn=>aD (Uy x.1 n.1) λo=>am (Jn (x.1.1,x.1.2.2.1,x.1.2.2.2.1,x.1.2.1,())) λe=>am (Jm (e.1,())) λp=>aD (UW o.1 e.1 p.1) λa=>am (Hj (x.1.2.2.2.2.2.2.2.2.2.1,())) λf=>aA (aO [] x.1.2.2.2.2.2.2.2.2.2.2.2.1 40) (am (Hh ()) λg=>am (Da (x.1.2.2.2.2.2.2.1,())) λh=>am (Hg (x.1.2.2.2.2.2.2.2.1,())) λi=>am (L3 (x.1,())) λd=>am (L2 (x.1.2.2.2.2.2.1,d.2.1,())) λj=>aD (aB (α:=D (.ah (.ah fT .un) (.ah fT iU))) (BV x.1) 1000000000 ((zK,()),(a.1.1,a.1.2.1,a.1.2.2.1,a.1.2.2.2.1,a.1.2.2.2.2.1,a.1.2.2.2.2.2.1,a.1.2.2.2.2.2.2.1,a.1.2.2.2.2.2.2.2.1,f.1,aM [] x.1.2.2.2.2.2.2.2.2.2.2.2.1,a.1.2.2.2.2.2.2.2.2.2.2.1,g.1,h.1,i.1,d.1,j.1,a.1.2.2.2.2.2.2.2.2.2.2.2.2.2.2.2.2.1,a.1.2.2.2.2.2.2.2.2.2.2.2.2.2.2.2.2.2.1,a.1.2.2.2.2.2.2.2.2.2.2.2.2.2.2.2.2.2.2.1,a.1.2.2.2.2.2.2.2.2.2.2.2.2.2.2.2.2.2.2.2.1,()),0,())) λm=>some (m.2.1,0,()))))
def k14:=kB ef abP 14 Tryz.f14 (hs [(0,kp [1,2] [.box 6 b8]),(1,kp [1,2] [.box 6 b8,.aL 35,.val 36 iT]),(4,kp [1,2] [.box 6 b8]),(5,kp [1,2] [.box 6 b8,.aL 76,.val 77 iT]),(8,[.box 2 [.v fT],.box 6 b8]),(9,[.box 2 [.v fT],.box 6 b8,.aL 130,.val 131 iT])]) yj
def Xy(x:D cU):Option (D bU):=ad (cL 0 x.1) (aA (cV (ek .u64 x.2.1)) (some (ay x.1 (fB .i64 1 (ek .u64 x.2.1)),()))) (some (false,()))
def abu:=kB ef k14 160 Tryz.f160 Tr.e Xy
def L1(x:D cU):Option (D (.ah (.bc (.int .u8)) iU)):=ad (ay x.1 0) (some ([],2,())) (ad (ay 16 x.1) (some ([],2,())) (am (Xy (x.2.1,x.1,())) λb=>ad (bL b.1) (some ([],3,())) (aA (gP 32 32 1) (aA (a5 (er 32 0) 0) (am (ax (er 32 0) 0) λe=>aA (a5 (aI (er 32 0) 0 73) 1) (am (ax (aI (er 32 0) 0 73) 1) λg=>aA (a5 (aI (aI (er 32 0) 0 73) 1 78) 2) (am (ax (aI (aI (er 32 0) 0 73) 1 78) 2) λh=>aA (a5 (aI (aI (aI (er 32 0) 0 73) 1 78) 2 79) 3) (am (ax (aI (aI (aI (er 32 0) 0 73) 1 78) 2 79) 3) λi=>aA (a5 (aI (aI (aI (aI (er 32 0) 0 73) 1 78) 2 79) 3 68) 4) (am (ax (aI (aI (aI (aI (er 32 0) 0 73) 1 78) 2 79) 3 68) 4) λj=>aA (a5 (aI (aI (aI (aI (aI (er 32 0) 0 73) 1 78) 2 79) 3 68) 4 (ek .u8 x.1)) 5) (am (ax (aI (aI (aI (aI (aI (er 32 0) 0 73) 1 78) 2 79) 3 68) 4 (ek .u8 x.1)) 5) λk=>aA (a5 (aI (aI (aI (aI (aI (aI (er 32 0) 0 73) 1 78) 2 79) 3 68) 4 (ek .u8 x.1)) 5 (ek .u8 (lM .i64 x.2.1 256))) 6) (am (ax (aI (aI (aI (aI (aI (aI (er 32 0) 0 73) 1 78) 2 79) 3 68) 4 (ek .u8 x.1)) 5 (ek .u8 (lM .i64 x.2.1 256))) 6) λl=>aD (aB (λa=>ad (ay a.2.1 7) (aA (a5 (aI (aI (aI (aI (aI (aI (aI (er 32 0) 0 73) 1 78) 2 79) 3 68) 4 (ek .u8 x.1)) 5 (ek .u8 (lM .i64 x.2.1 256))) 6 (ek .u8 (pm .i64 x.2.1 256))) a.2.1) (am (ax (aI (aI (aI (aI (aI (aI (aI (er 32 0) 0 73) 1 78) 2 79) 3 68) 4 (ek .u8 x.1)) 5 (ek .u8 (lM .i64 x.2.1 256))) 6 (ek .u8 (pm .i64 x.2.1 256))) a.2.1) λd=>some (.inl (ai .i64 a.1 (ek .i64 d),ai .i64 a.2.1 1,())))) (ao (some (.inl (a.1,()))))) 1000000000 (0,0,())) λc=>aA (a5 (aI (aI (aI (aI (aI (aI (aI (er 32 0) 0 73) 1 78) 2 79) 3 68) 4 (ek .u8 x.1)) 5 (ek .u8 (lM .i64 x.2.1 256))) 6 (ek .u8 (pm .i64 x.2.1 256))) 7) (am (ax (aI (aI (aI (aI (aI (aI (aI (er 32 0) 0 73) 1 78) 2 79) 3 68) 4 (ek .u8 x.1)) 5 (ek .u8 (lM .i64 x.2.1 256))) 6 (ek .u8 (pm .i64 x.2.1 256))) 7) λf=>some (aI (aI (aI (aI (aI (aI (aI (aI (er 32 0) 0 73) 1 78) 2 79) 3 68) 4 (ek .u8 x.1)) 5 (ek .u8 (lM .i64 x.2.1 256))) 6 (ek .u8 (pm .i64 x.2.1 256))) 7 (ek .u8 (lM .i64 c.1 251)),0,())))))))))))))
def k76:=kB ef abu 76 Tryz.f76 (hs [(0,[.aL 6,.val 7 iT]),(1,[.aL 6,.val 7 iT,.val 8 iT])]) L1
end Go.Bo
