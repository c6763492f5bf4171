/-
  The statement BootNews: the configuration's law, of whatever arguments.
-/
import Derived.Test.YtfjeeggbdncodaaGreatGd
import Derived.Test.YtfjeeggbdncodaaGreatRows
set_option linter.unusedVariables false
set_option linter.unusedSimpArgs false
set_option linter.constructorNameAsVariable false
set_option linter.unusedSectionVars false
noncomputable section
namespace Go.Zs
structure kC where
  AD : Int
  A1 : Int
  start : Int
  count : Int
  min : Int
  gD : List (List Int)
def fe(z:kC)(f:Int)(k:Nat):Bool:=decide (z.start<=f)&&decide (f.tmod (2^k)=0)&&decide ((2:Int)^k<=z.count)&&decide (f<=z.start+z.count-2^k)
def eO(z:kC):Bool:=decide (0<=z.AD)&&decide (z.AD<4)&&(decide (z.A1=0)||decide (z.A1=1))&&decide (0<=z.start)&&decide (z.start<256)&&decide (1<=z.count)&&decide (z.count<=256-z.start)&&decide (0<=z.min)&&decide (z.min<=z.count)
def wW(l:List Int):Prop:=l.Pairwise (.< .)
def lb(l:List Int)(t:Int):Nat:=l.countP λx=>decide (x<t)
theorem wW.nil:wW []:=List.Pairwise.nil
theorem v5{l:List Int}(h:wW l){i j:Nat}{x y:Int}(hi:l[i]?=some x)(d:l[j]?=some y)(c:i<j):x<y:=by obtain⟨a,rfl⟩:=aj.1 hi;obtain⟨b,rfl⟩:=aj.1 d;exact gV.1 h i j a b c
def Hy(f:Int)(k:Nat):Int:=((f.toNat^^^2^k:Nat):Int)
theorem lg{z:kC}(h:eO z=true):0<=z.AD/\z.AD<4/\(z.A1=0\/z.A1=1)/\0<=z.start/\z.start<256/\1<=z.count/\z.count<=256-z.start/\0<=z.min/\z.min<=z.count:=by unfold eO at h;simp only[ae,eX,bB]at h;omega
theorem ll{z:kC}{f:Int}{k:Nat}(a:eO z=true)(h:fe z f k=true):0<=f/\f+2^k<=256/\z.start<=f/\f+2^k<=z.start+z.count/\f.tmod (2^k)=0:=by have b:=lg a;unfold fe at h;simp only[ae,bB]at h;omega
theorem OW{l:List Int}:∀{a:Int},wW l->(∀f,f∈l->a<=f)->∀{i:Nat}{x:Int},l[i]?=some x->a+i<=x:=by induction l with
 |nil=>intro a _ _ i x b;simp at b
 |cons y l h=>intro a g c i x b;cases i with
 |zero=>simp at b;subst b;have:=c y (by simp);simpa using this
 |succ i=>have d:=gX.1 g;have:=h (a:=a+1) d.2 (λf e=>by have j:=c y (by simp);have k:=d.1 f e;omega) (i:=i) (x:=x) (by simpa using b);omega
theorem z7{l:List Int}(d:wW l)(h:∀f,f∈l->0<=f/\f<256):l.length<=256:=by
 rcases Nat.eq_zero_or_pos l.length with b|b;.omega
 .have a:l[l.length-1]?=some l[l.length-1]:=G (by omega);have e:=OW d (λf c=>(h f c).1) a;have g:=(h _ (Y a)).2;omega
def fF(z:kC)(k:Nat):List Int:=z.gD.getD k []
def aG(z:kC)(k:Nat)(l:List Int):kC:={z with gD:=z.gD.set k l}
theorem Qo:∀k:Fin 4,∀x:Fin 256,x.val%2^k.val=0->x.val^^^2^k.val=if x.val%2^(k.val+1)=0 then x.val+2^k.val else x.val-2^k.val:=by decide+kernel
theorem iQ{z:kC}(h:eO z=true){x:Int}{k:Nat}:fe z x k=true↔z.start≤x∧x%2^k=0∧(2:Int)^k≤z.count∧x≤z.start+z.count-2^k:=by
 have e:=lg h;unfold fe;simp only[ae,bB];constructor;·rintro⟨⟨⟨b,a⟩,c⟩,d⟩;rw[fJ (by omega)]at a;exact⟨b,a,c,d⟩
 ·rintro⟨b,a,c,d⟩;rw[←fJ (by omega)]at a;exact⟨⟨⟨b,a⟩,c⟩,d⟩
theorem EY{k:Nat}(h:k<=4):k=0\/k=1\/k=2\/k=3\/k=4:=by omega
theorem Jh:(2:Int)^0=1:=rfl
theorem We:(2:Int)^1=2:=rfl
theorem Wd:(2:Int)^2=4:=rfl
theorem Wc:(2:Int)^3=8:=rfl
theorem Yi:(2:Int)^4=16:=rfl
theorem zD{x:Int}{k:Nat}(c:k<4)(a:0<=x)(h1:x<256)(f:x%2^k=0):x%2^(k+1)=0/\Hy x k=x+2^k\/x%2^(k+1)=2^k/\Hy x k=x-2^k:=by
 obtain⟨m,rfl⟩:=qG a;have e:m<256:=by omega
 have h:=Qo ⟨k,c⟩ ⟨m,e⟩;simp only at h;have b:Hy (m:Int) k=((m^^^2^k:Nat):Int):=by simp[Hy]
 have d:k=0\/k=1\/k=2\/k=3:=by omega
 rw[b];rcases d with rfl|rfl|rfl|rfl;.have:=h (by omega);simp only[Nat.reducePow,Nat.reduceAdd,Jh,We]at*;split at this<;>omega
 .simp only[Nat.reducePow,Nat.reduceAdd,We,Wd]at*;have:=h (by omega);split at this<;>omega
 .simp only[Nat.reducePow,Nat.reduceAdd,Wd,Wc]at*;have:=h (by omega);split at this<;>omega
 .simp only[Nat.reducePow,Nat.reduceAdd,Wc,Yi]at*;have:=h (by omega);split at this<;>omega
theorem UT{x y f:Int}{k j:Nat}(b:k<=j)(a:j<=4)(e:x%2^k=0)(g:y%2^j=0)(h1:x<=f)(h2:f<x+2^k)(c:y<=f)(d:f<y+2^j):y<=x/\x+2^k<=y+2^j:=by rcases EY a with rfl|rfl|rfl|rfl|rfl<;>rcases EY (aM b a)with rfl|rfl|rfl|rfl|rfl<;>simp only[Jh,We,Wd,Wc,Yi]at* <;>omega
theorem Lb{z:kC}(h:z.gD.length=5){k:Nat}(a:5<=k):fF z k=[]:=by unfold fF;rw[cc,fh (by omega)];rfl
theorem Px{z:kC}(h:z.gD.length=5){k j:Nat}(b:k<5){l:List Int}:fF (aG z k l) j=if j=k then l else fF z j:=by
 unfold fF aG;simp only[cc,gA];by_cases a:k=j;.subst a;rw[aA rfl,aA rfl,aA (by omega)];rfl
 .rw[aB a,aB λe=>a e.symm]
theorem AP{z:kC}(h:z.gD.length=5){k:Nat}(a:k<5):z.gD[k]?=some (fF z k):=by unfold fF;rw[cc,G (by omega)];rfl
def pT(z:kC)(f:Int):Prop:=∃k x,x∈fF z k/\x<=f/\f<x+2^k
structure qC (z : kC) : Prop where
  eO : eO z = true
  len : z.gD.length = 5
  xq : ∀ k, wW (fF z k)
  jR : ∀ k x, x ∈ fF z k → fe z x k = true
  Hf : ∀ k x j y f, x ∈ fF z k → y ∈ fF z j → x ≤ f → f < x + 2 ^ k → y ≤ f → f < y + 2 ^ j → k = j ∧ x = y
  jU : ∀ k x, k < 4 → x ∈ fF z k → Hy x k ∈ fF z k → fe z (min x (Hy x k)) (k + 1) = false
section
variable{z z1 z2:kC}
theorem qC.EY(h:qC z){k:Nat}{x:Int}(b:x∈fF z k):k<=4:=by
 rcases cI k 5 with a|a;.omega
 .rw[Lb h.len a]at b;cases b
theorem qC.J3(h:qC z){k:Nat}{x:Int}(c:fe z x k=true):0<=x/\x+2^k<=256/\z.start<=x/\x+2^k<=z.start+z.count/\x%2^k=0:=by have a:=ll h.eO c;have b:=(iQ h.eO).1 c;exact⟨a.1,a.2.1,b.1,by omega,b.2.1⟩
theorem mi(k:Nat):(0:Int)<2^k:=Int.pow_pos (by omega)
theorem Aq(k:Nat):(2:Int)^(k+1)=2^k+2^k:=by rw[mf];omega
theorem QA{x:Int}{k:Nat}(h:x%2^(k+1)=0):x%2^k=0/\(x+2^k)%2^k=0:=by
 obtain⟨c,rfl⟩:=Int.dvd_of_emod_eq_zero h;rw[mf,Int.mul_assoc];constructor;.exact Int.mul_emod_right _ _
 .rw[show(2:Int)^k*(2*c)+2^k=2^k*(2*c+1)by rw[Int.mul_add,Int.mul_one]];exact Int.mul_emod_right _ _
theorem qC.Lr(h:qC z):∀(k:Nat)(x:Int),k<=4->fe z x k=true->(∀f,x<=f->f<x+2^k->pT z f)->∃j y,k<=j/\y∈fF z j/\y<=x/\x+2^k<=y+2^j:=by
 intro k
 induction k with
  |zero=>intro x _ i g;obtain⟨j,y,u0,d,q⟩:=g x (bW _) (by rw[Jh];omega);exact⟨j,y,a5 _,u0,d,by rw[Jh];omega⟩
  |succ k s=>
  intro x m0 i g;have e:=h.J3 i;have n0:=(iQ h.eO).1 i;have n:=QA e.2.2.2.2;have j0:=Aq k;have i0:=mi k;have y0:fe z x k=true:=(iQ h.eO).2 ⟨by omega,n.1,by omega,by omega⟩;have x0:fe z (x+2^k) k=true:=(iQ h.eO).2 ⟨by omega,n.2,by omega,by omega⟩;obtain⟨l,m,r0,b,u,q0⟩:=s x (by omega) y0 λf d q=>g f d (by omega);obtain⟨a,t,p0,c,v,o0⟩:=s (x+2^k) (by omega) x0 λf d q=>g f (by omega) (by omega);have w0:=h.EY b;have v0:=h.EY c;have t0:=(h.J3 (h.jR _ _ b)).2.2.2.2;have s0:=(h.J3 (h.jR _ _ c)).2.2.2.2;by_cases l0:k<l;.obtain⟨o,p⟩:=UT (f:=x) (show k+1<=l by omega) w0 e.2.2.2.2 t0 (bW _) (by omega) u (by omega);exact⟨l,m,by omega,b,o,p⟩
  .
   by_cases k0:k<a;.obtain⟨o,p⟩:=UT (f:=x+2^k) (show k+1<=a by omega) v0 e.2.2.2.2 s0 (by omega) (by omega) v (by omega);exact⟨a,t,by omega,c,o,p⟩
   .
    exfalso;have w:l=k:=by omega
    have A:a=k:=by omega
    subst w;subst A;have B:m=x:=by omega
    have C:t=x+2^a:=by omega
    subst B;subst C;have z0:=zD (x:=m) (k:=a) (by omega) (by omega) (by omega) n.1;rcases z0 with⟨_,r⟩|⟨D,_⟩;.have:=h.jU a m (by omega) b (by rw[r];exact c);rw[r,Int.min_eq_left (by omega),i]at this;cases this
    .rw[e.2.2.2.2]at D;omega
theorem Gc:∀{l m:List Int},wW l→wW m→(∀x,x∈l↔x∈m)→l=m
 |[],[],_,_,_=>rfl
 |[],b::m,_,_,h=>by have:=(h b).2 (by simp);cases this
 |a::l,[],_,_,h=>by have:=(h a).1 (by simp);cases this
 |a::l,b::m,n,o,h=>by
  have f:=gX.1 n;have g:=gX.1 o
  have k:a=b:=by
   have i:=(h a).1 (by simp);have j:=(h b).2 (by simp);rcases cm.1 i with e|e;·exact e
   ·
    rcases cm.1 j with d|d;·exact d.symm
    ·have:=g.1 a e;have:=f.1 b d;omega
  subst k;congr 1;refine Gc f.2 g.2 fun x=>?_;constructor
  ·
   intro c;rcases cm.1 ((h x).1 (by simp[c]))with e|e;·have:=f.1 x c;omega
   ·exact e
  ·
   intro c;rcases cm.1 ((h x).2 (by simp[c]))with e|e;·have:=g.1 x c;omega
   ·exact e
theorem qC.sub(h1:qC z1)(h2:qC z2)(hp:∀x k,fe z1 x k=fe z2 x k)(e:∀f,pT z1 f↔pT z2 f):∀k x,x∈fF z1 k→x∈fF z2 k:=by
 intro k x b;have q:=h1.EY b;have n:=h1.jR k x b;have C:=mi k;obtain⟨j,y,r,a,s,t⟩:=h2.Lr k x q (by rw[←hp];exact n) fun f c d=>(e f).1 ⟨k,x,b,c,d⟩;have p:=h2.EY a;have o:=h2.jR j y a;obtain⟨i,u,v,g,w,A⟩:=h1.Lr j y p (by rw[hp];exact o) fun f c d=>(e f).2 ⟨j,y,a,c,d⟩;obtain⟨B,h⟩:=h1.Hf k x i u x b g (bW _) (by omega) (by omega) (by omega);subst h;have l:j=k:=by omega
 subst l;have m:y=x:=by omega
 rw[←m];exact a
theorem qC.ext(h1:qC z1)(h2:qC z2)(h:z1.AD=z2.AD)(i:z1.A1=z2.A1)(d:z1.start=z2.start)(e:z1.count=z2.count)(j:z1.min=z2.min)(b:∀f,pT z1 f↔pT z2 f):z1=z2:=by
 have c:∀x k,fe z1 x k=fe z2 x k:=fun x k=>by unfold fe;rw[d,e]
 have g:∀k,fF z1 k=fF z2 k:=fun k=>Gc (h1.xq k) (h2.xq k) fun x=>⟨h1.sub h2 c b k x,h2.sub h1 (fun x k=>(c x k).symm) (fun f=>(b f).symm) k x⟩
 have l:z1.gD=z2.gD:=by
  apply mH;intro k;rcases cI k 5 with a|a;·rw[AP h1.len a,AP h2.len a,g]
  ·rw[fh (by have:=h1.len;omega),fh (by have:=h2.len;omega)]
 cases z1;cases z2;simp_all
end
theorem PF(a:Int)(l:List Int)(t:Int):lb (a::l) t=lb l t+if a<t then 1 else 0:=by unfold lb;rw[List.countP_cons];simp
theorem PE{l:List Int}{t:Int}(h:∀x,x∈l->t<=x):lb l t=0:=by unfold lb;rw[lx];intro x a;have:=h x a;simp;omega
theorem Lg:∀{l:List Int}{t:Int},wW l->t∈l->l[lb l t]?=some t
 |[],_,_,h=>by cases h
 |a::l,t,c,h=>by
  have b:=gX.1 c;rw[PF];rcases cm.1 h with rfl|h;.have:lb l t=0:=PE (λx d=>by have:=b.1 x d;omega);simp[this]
  .have:=b.1 t h;simp[this,Lg b.2 h]
theorem Lw{l:List Int}{t x:Int}(d:wW l)(k:t∈l):x∈l.eraseIdx (lb l t)↔x∈l∧x≠t:=by
 have b:=Lg d k;rw[List.mem_eraseIdx_iff_getElem?];constructor
 ·
  rintro⟨i,c,a⟩;refine⟨Y a,?_⟩;rintro rfl;rcases lW c with h|h;·have:=v5 d a b h;omega
  ·have:=v5 d b a h;omega
 ·
  rintro⟨a,j⟩;obtain⟨i,c,g⟩:=List.getElem_of_mem a;have f:l[i]?=some x:=by rw[G c,g]
  refine⟨i,?_,f⟩;intro e;rw[e,b]at f;exact j (ej f).symm
theorem Jw{z:kC}(a:z.gD=[[],[],[],[],[]])(k:Nat):fF z k=[]:=by unfold fF;rw[a];match k with
 |0=>rfl
 |1=>rfl
 |2=>rfl
 |3=>rfl
 |4=>rfl
 |k+5=>rfl
def geP:Option Int->Int->Bool|some q,f=>decide (f<=q)|none,_=>false
def Hr(z:kC)(k:Nat):Option Int->List Int->Int|_,[]=>0|p,f::r=>if fe z f k=false then 3 else if geP p f=true then 10 else Hr z k (some f) r
def Pv(s:List Bool)(i:Nat):Nat->Option (List Bool)|0=>some s|n+1=>if s.getD i false=true then none else Pv (s.set i true) (i+1) n
def mC(k:Nat):List Bool->List Int->Option (List Bool)|s,[]=>some s|s,f::r=>match Pv s f.toNat (2^k)with|none=>none|some a=>mC k a r
def AE:List Bool:=List.replicate 256 false
theorem EL:AE.length=256:=aN
def cp(f:Nat):Nat->List (List Int)->Option (Nat×Nat)|_,[]=>none|k,l::r=>if decide (((f/2^k*2^k:Nat):Int)∈l)=true then some (k,f/2^k*2^k)else cp f (k+1) r
section
variable{f k:Nat}{ls:List (List Int)}{l:List Int}
theorem rx(a:cp f 0 ls=cp f k (ls.drop k))(h:ls.length<=k):cp f 0 ls=none:=by rw[a,ed h];rfl
end
theorem df{p:Prop} [Decidable p](h:¬p):decide p=false:=aQ h
def qB{α:Type} [Inhabited α](l:List α)(i:Int):α:=l.getD i.toNat default
def dR{α:Type}(l a:List α):List α:=a.take l.length++l.drop a.length
end Go.Zs
set_option maxHeartbeats 1000000
namespace Go.Zs
theorem ir{l:List (List Int)}{i:Nat}(hi:i<l.length):l.set i (l.getD i [])=l:=by
 apply mH;intro j;rw[gA];split;.rename_i h;subst h;simp[hi]
 .rfl
end Go.Zs
set_option maxHeartbeats 1000000
namespace Go.Zs
def zl(z:kC)(l:List (List Int)):kC:={z with gD:=l}
def uz(l:List Int)(i:Nat):Nat->List Int|0=>l|m+1=>uz (l.set i 0) (i+1) m
theorem zL:∀(m i:Nat)(l:List Int),(uz l i m).length=l.length
 |0,_,_=>rfl
 |m+1,i,l=>by unfold uz;rw[zL];exact bx ..
theorem Dn(l:List Int)(i g:Nat)(h:i<l.length)(x:Int):(l.set i x).getD g 0=if g=i then x else l.getD g 0:=by
 simp only[cc,gA];by_cases a:i=g;.rw[aA a,aA h,aA a.symm];rfl
 .rw[aB a,aB λe=>a e.symm]
theorem FW:∀(m i:Nat)(l:List Int)(g:Nat),i+m<=l.length->(uz l i m).getD g 0=if i<=g/\g<i+m then 0 else l.getD g 0
 |0,i,l,g,_=>by rw[aB (by omega)];rfl
 |m+1,i,l,g,h=>by
  unfold uz;rw[FW m (i+1) _ g (by rw[bx];omega),Dn l i g (by omega)];by_cases a:i+1<=g/\g<i+1+m;.rw[aA a,aA (by omega)]
  .
   rw[aB a];by_cases b:g=i;.rw[aA b,aA (by omega)]
   .rw[aB b,aB (by omega)]
structure WI (z : kC) (s : List Int) (D : Nat → Int → Prop) (l : List (List Int)) (left : List Int) : Prop where
  len : l.length = 5
  Db : left.length = 256
  xq : ∀ k, wW (fF (zl z l) k)
  jR : ∀ k x, x ∈ fF (zl z l) k → fe z x k = true ∧ D k x
  Hf : ∀ k x j y g, x ∈ fF (zl z l) k → y ∈ fF (zl z l) j → x ≤ g → g < x + 2 ^ k → y ≤ g → g < y + 2 ^ j → k = j ∧ x = y
  PD : ∀ g : Nat, g < 256 → (left.getD g 0 ≠ 0 ↔ s.getD g 0 ≠ 0 ∧ ¬ pT (zl z l) g)
  sub : ∀ g, pT (zl z l) g → s.getD g.toNat 0 ≠ 0
  max : ∀ j x, D j x → j ≤ 4 → fe z x j = true → ∃ g, x ≤ g ∧ g < x + 2 ^ j ∧ (s.getD g.toNat 0 = 0 ∨ ∃ i y, j ≤ i ∧ y ∈ fF (zl z l) i ∧ y ≤ g ∧ g < y + 2 ^ i)
section
variable{z:kC}{s left left':List Int}{D D':Nat->Int->Prop}{l:List (List Int)}{k:Nat}{f:Int}
theorem WI.mono(h:WI z s D l left)(h1:∀j x,fe z x j=true->D j x->D' j x)(h2:∀j x,fe z x j=true->j<=4->D' j x->D j x):WI z s D' l left:=⟨h.len,h.Db,h.xq,λk x a=>⟨(h.jR k x a).1,h1 k x (h.jR k x a).1 (h.jR k x a).2⟩,h.Hf,h.PD,h.sub,λj x d c b=>h.max j x (h2 j x b c d) c b⟩
theorem WI.skip(h:WI z s D l left)(v:eO z=true)(C:k<=4)(q:∀j x,D j x->k<=j)(u:fe z f k=true->∃g,f<=g/\g<f+2^k/\left.getD g.toNat 0=0):WI z s (λj x=>D j x\/j=k/\x=f) l left:=by
 refine⟨h.len,h.Db,h.xq,λk x e=>⟨(h.jR k x e).1,.inl (h.jR k x e).2⟩,h.Hf,h.PD,h.sub,?_⟩;rintro j x(r|⟨rfl,rfl⟩)t b;.exact h.max j x r t b
 .
  obtain⟨g,n,o,p⟩:=u b;have B:=ll v b;refine⟨g,n,o,?_⟩;have c:=h.PD g.toNat (by omega);rw[eG (by omega)]at c;by_cases d:s.getD g.toNat 0=0;.exact .inl d
  .
   have a:pT (zl z l) g:=by refine Classical.byContradiction λa=>?_;exact c.2 ⟨d,a⟩ p
   obtain⟨i,y,m,w,A⟩:=a;exact .inr ⟨i,y,q _ _ (h.jR i y m).2,m,w,A⟩
theorem WI.add(h:WI z s D l left)(i0:eO z=true)(e0:k≤4)(hi:fe z f k=true)(p0:∀j x,D j x→k<j∨j=k∧x<f)(n0:∀g:Nat,f≤g→(g:Int)<f+2^k→left.getD g 0≠0)(j0:left'.length=256)(m0:∀g:Nat,left'.getD g 0=if f≤(g:Int)∧(g:Int)<f+2^k then 0 else left.getD g 0):WI z s (fun j x=>D j x∨j=k∧x=f) (l.set k (l.getD k []++[f])) left':=by
 have f0:=ll i0 hi;have t0:∀j,fF (zl z (l.set k (l.getD k []++[f]))) j=if j=k then fF (zl z l) k++[f]else fF (zl z l) j:=fun j=>Px (z:=zl z l) h.len (by omega)
 have n:∀j y,y∈fF (zl z (l.set k (l.getD k []++[f]))) j↔y∈fF (zl z l) j∨j=k∧y=f:=by
  intro j y;rw[t0];by_cases B:j=k;·subst B;rw[aA rfl,bR];simp
  ·rw[aB B];simp[B]
 have A:∀g,f≤g→g<f+2^k→s.getD g.toNat 0≠0∧¬pT (zl z l) g:=by intro g x0 w0;have e:((g.toNat:Nat):Int)=g:=eG (by omega);have:=(h.PD g.toNat (by omega)).1 (n0 g.toNat (by omega) (by omega));rw[e]at this;exact this
 have u0:∀g,pT (zl z (l.set k (l.getD k []++[f]))) g↔pT (zl z l) g∨f≤g∧g<f+2^k:=by
  intro g;constructor
  ·
   rintro⟨j,y,c,m,d⟩;rcases(n j y).1 c with c|⟨rfl,rfl⟩;·exact .inl ⟨j,y,c,m,d⟩
   ·exact .inr ⟨m,d⟩
  ·
   rintro(⟨j,y,c,m,d⟩|⟨m,d⟩);·exact⟨j,y,(n j y).2 (.inl c),m,d⟩
   ·exact⟨k,f,(n k f).2 (.inr ⟨rfl,rfl⟩),m,d⟩
 refine⟨by simpa using h.len,j0,fun j=>?_,fun j y c=>?_,fun j y i u g c s0 m d r q=>?_,fun g o=>?_,fun g o=>?_,fun j x w k0 l0=>?_⟩
 ·
  rw[t0];split;·refine gl.2 ⟨h.xq k,qE ..,fun a o0 b v0=>?_⟩;simp only[cq]at v0;subst v0;rcases p0 _ _ (h.jR k a o0).2 with p|p<;>omega
  ·exact h.xq j
 ·
  rcases(n j y).1 c with c|⟨rfl,rfl⟩;·exact⟨(h.jR j y c).1,.inl (h.jR j y c).2⟩
  ·exact⟨hi,.inr ⟨rfl,rfl⟩⟩
 ·
  rcases(n j y).1 c with r0|⟨z0,y0⟩
  ·
   rcases(n i u).1 s0 with C|⟨t,v⟩;·exact h.Hf j y i u g r0 C m d r q
   ·rw[v]at r q;rw[t]at q;exact absurd ⟨j,y,r0,m,d⟩ (A g r q).2
  ·
   rw[y0]at m d;rw[z0]at d;rcases(n i u).1 s0 with C|⟨t,v⟩;·exact absurd ⟨i,u,C,r,q⟩ (A g m d).2
   ·exact⟨z0.trans t.symm,y0.trans v.symm⟩
 ·
  rw[m0,u0];by_cases p:f≤(g:Int)∧(g:Int)<f+2^k;·rw[aA p];simp[p]
  ·rw[aB p,h.PD g o];simp only[p,or_false]
 ·
  rcases(u0 g).1 o with o|o;·exact h.sub g o
  ·exact(A g o.1 o.2).1
 ·
  rcases w with w|⟨rfl,rfl⟩;·obtain⟨g,x0,w0,q0⟩:=h.max j x w k0 l0;refine⟨g,x0,w0,q0.imp id ?_⟩;rintro⟨i,y,c,h0,g0⟩;exact⟨i,y,c,(n i y).2 (.inl h0),g0⟩
  ·have d0:=mi j;exact⟨x,bW _,by omega,.inr ⟨j,x,au _,(n j x).2 (.inr ⟨rfl,rfl⟩),bW _,by omega⟩⟩
theorem WI.Ys(h:WI z s D l left)(b:eO z=true)(k:Nat):(fF (zl z l) k).length<=256:=by refine z7 (h.xq k) λf a=>?_;have:=ll b (h.jR k f a).1;have:=mi k;omega
theorem WI.ok(h:WI z s (fun _ _=>True) l left)(c:eO z=true):qC (zl z l)∧∀g,pT (zl z l) g↔z.start≤g∧g<z.start+z.count∧s.getD g.toNat 0≠0:=by
 refine⟨⟨c,h.len,h.xq,fun k x b=>(h.jR k x b).1,h.Hf,fun k x x0 b p=>?_⟩,fun g=>⟨fun n=>?_,fun n=>?_⟩⟩
 ·
  refine pS.2 fun y0=>?_;have C:=ll c (h.jR k x b).1;have B:=(iQ c).1 (h.jR k x b).1;have r0:=mi k;have q0:=Aq k;obtain⟨g,o,m,a⟩:=h.max (k+1) _ trivial (by omega) y0;have z0:x≤g∧g<x+2^k∨Hy x k≤g∧g<Hy x k+2^k:=by clear a;rcases zD x0 C.1 (by omega) B.2.1 with⟨_,e⟩|⟨_,e⟩<;>rw[e]at o m⊢<;>omega
  have q:∀y,y∈fF (zl z l) k→y≤g→g<y+2^k→False:=by
   intro y j r t;rcases a with a|⟨i,u,p0,w0,v0,u0⟩;·exact h.sub g ⟨k,y,j,r,t⟩ a
   ·have:=(h.Hf k y i u g j w0 r t v0 u0).1;omega
  rcases z0 with d|d;·exact q x b d.1 d.2
  ·exact q _ p d.1 d.2
 ·obtain⟨k,x,b,w,A⟩:=n;have:=ll c (h.jR k x b).1;exact⟨by omega,by omega,h.sub g ⟨k,x,b,w,A⟩⟩
 ·
  have p:=lg c;obtain⟨v,o,m,a⟩:=h.max 0 g trivial (by omega) ((iQ c).2 (by rw[Jh];omega));rw[Jh]at m;have e:v=g:=by omega
  subst e;rcases a with a|⟨i,y,_,j,t0,s0⟩;·exact absurd a n.2.2
  ·exact⟨i,y,j,t0,s0⟩
end
end Go.Zs
set_option maxHeartbeats 1000000
namespace Go.Zs
end Go.Zs
set_option maxHeartbeats 1000000
namespace Go.Zs
theorem jk{α:Type}(l:List α)(i g:Nat)(h:i<l.length)(x d:α):(l.set i x).getD g d=if g=i then x else l.getD g d:=by
 simp only[cc,gA];by_cases a:i=g;.rw[aA a,aA h,aA a.symm];rfl
 .rw[aB a,aB λe=>a e.symm]
structure MB (d : List Bool) (s : List Int) : Prop where
  dl : d.length = 256
  sl : s.length = 256
  t : ∀ g, d.getD g false = true → s.getD g 0 = 1
  f : ∀ g, d.getD g false = false → s.getD g 0 = 0
section
variable{z:kC}{k:Nat}{l:List Int}
theorem mb0:MB AE (List.replicate 256 0):=⟨EL,by rw[aN],λg a=>by unfold AE at a;rw[cc,cd]at a;split at a<;>simp at a,λg _=>by rw[cc,cd];split<;>rfl⟩
end
end Go.Zs
set_option maxHeartbeats 1000000
namespace Go.Zs
end Go.Zs
set_option maxHeartbeats 1000000
namespace Go.Zs
end Go.Zs
set_option maxHeartbeats 1000000
namespace Go.Zs
end Go.Zs
set_option maxHeartbeats 1000000
namespace Go.Zs
end Go.Zs
set_option maxHeartbeats 1000000
namespace Go.Zs
end Go.Zs
namespace Go.Bo
open Go Go.Ls
theorem Ra(zl:List Zn):Ok (DS (zl,())) λr=>r.1=0->zl.length<=6:=by
 unfold DS;refine aL (λ_=>ab λh=>by cases h) λh=>?_;have d:ak zl<=6:=eY h;rw[aJ]at d;refine aK (P:=λ_=>True) (bq (I:=λi s=>s=((i:Int),())) (m:=zl.length) rfl (by omega) ?_ ?_) λ_ _=>ab (λ_=>by omega);.rintro i s b rfl;have c:Ok (some (Sum.inl (ah .i64 ((i:Int),()).1 1,())):Option (Sum (Int×Unit) (Sum Unit RI))) (gS (λs=>s=(((i+1:Nat):Int),())) (gS (λ_=>True) λr=>r.1=0->zl.length<=6)):=⟨_,rfl,by show(ah .i64 (i:Int) 1,())=_;rw[bH (by omega)]⟩;have a:∀e:Int,e≠0->Ok (ao (ao (some (e,()))):Option (Sum (Int×Unit) (Sum Unit RI))) (gS (λs=>s=(((i+1:Nat):Int),())) (gS (λ_=>True) λr=>r.1=0->zl.length<=6)):=λe f=>bo (bo (ab λh=>absurd h f));exact bg (cD b) (aZ (cL b) λx g=>aL (λ_=>a 2 (by decide)) λ_=>aL (λ_=>a 2 (by decide)) λ_=>aL (λ_=>aL (λ_=>a 1 (by decide)) λ_=>c) λ_=>c)
 .rintro s rfl;exact av cU ⟨_,rfl,trivial⟩
theorem Ri(zl:List Zn)(n:Int):Ok (DV (zl,n,())) λr=>r.1=0->zl.length<=6:=by unfold DV;refine aZ (Ra zl) λr b=>aL (λh=>ab λa=>absurd a (iX h)) λh=>?_;have:=b (fq h);exact aL (λ_=>ab λ_=>this) λ_=>aL (λ_=>ab λ_=>this) λ_=>ab λ_=>this
theorem Rh(a b:Int):Ok (qq (a,b,())) λ_=>True:=by unfold qq;exact aL (λ_=>ab trivial) λ_=>ab trivial
theorem Rg(a b:Int):Ok (pK (a,b,())) λ_=>True:=by
 have h:∀a,Ok (u7 (a,())) λ_=>True:=λa=>by unfold u7;exact ab trivial
 unfold pK;exact aZ (h a) λ_ _=>aZ (h b) λ_ _=>aL (λ_=>aL (λ_=>ab trivial) λ_=>ab trivial) λ_=>aL (λ_=>ab trivial) λ_=>aL (λ_=>ab trivial) λ_=>aL (λ_=>ab trivial) λ_=>ab trivial
def Ix(n m:Nat)(l:List Int):Prop:=l.length=m/\∀e,e∈l->0<=e/\e<(n:Int)
theorem Lo{n m:Nat}{l:List Int}{i x:Int}(h:Ix n m l)(b:0<=x/\x<(n:Int)):Ix n m (aG l i x):=by
 refine⟨by rw[jt];exact h.1,λe a=>?_⟩;rcases C7 a with a|rfl;.exact h.2 e a
 .exact b
theorem uI{j:Nat}(a:0<j)(h:j<=100000):bb .i64 (j:Int) 1=((j-1:Nat):Int):=by rw[fa (by omega) (by omega)];omega
theorem swp{n m j:Nat}{l:List Int}{β:Type}{Q:Sum (List Int×Int×Unit) β->Prop}(h:Ix n m l)(d:0<j)(q:j<m)(s:m<=1000)(g:∀b,Ix n m b->Q (.inl (b,((j-1:Nat):Int),()))):Ok (aC (aU l (bb .i64 (j:Int) 1)) (am (az l (bb .i64 (j:Int) 1)) λa=>aC (aU l (j:Int)) (am (az l (j:Int)) λc=>aC (aU l (j:Int)) (am (az l (j:Int)) λi=>aC (aU (aG l (j:Int) a) (bb .i64 (j:Int) 1)) (am (az (aG l (j:Int) a) (bb .i64 (j:Int) 1)) λk=>some (.inl (aG (aG l (j:Int) a) (bb .i64 (j:Int) 1) c,bb .i64 (j:Int) 1,()))))))) Q:=by have r:=h.1;rw[uI d (by omega)];refine aq (eu (by omega)) (aZ (cL (l:=l) (i:=j-1) (by omega)) λa e=>aq (eu (by omega)) (aZ (cL (l:=l) (i:=j) (by omega)) λc f=>aq (eu (by omega)) (aZ (cL (l:=l) (i:=j) (by omega)) λi o=>aq (eu (by rw[jt];omega)) (aZ (cL (l:=aG l (j:Int) a) (i:=j-1) (by rw[jt];omega)) λk p=>?_))));exact⟨_,rfl,g _ (Lo (Lo h (h.2 _ (Y e))) (h.2 _ (Y f)))⟩
theorem LH{α:Type}{a b:Int}{T E:Option α}{Q:α->Prop}(d:Ok T Q)(c:Ok E Q):Ok (am (pK (a,b,())) λx=>ad (ay x.1 0) T E) Q:=aZ (Rg a b) λ_ _=>aL (λ_=>d) λ_=>c
theorem PN{α:Type}{a b:Int}{f:RI->Option α}{Q:α->Prop}(h:∀x,Ok (f x) Q):Ok (am (qq (a,b,())) f) Q:=aZ (Rh a b) λx _=>h x
theorem MQ{α:Type}{zl:List Zn}{e:Int}{f:Zn->Option α}{Q:α->Prop}(a:0<=e/\e<(zl.length:Int))(h:∀x,Ok (f x) Q):Ok (am (az zl e) f) Q:=aZ (oC a.1 (by rw[aJ];exact a.2)) λx _=>h x
def InN(n:Nat)(l:List Int):Prop:=l.length<=6/\∀e,e∈l->0<=e/\e<(n:Int)
theorem Ii(zl:List Zn)(nd:Int)(b:Bool):Ok (B1 (zl,nd,b,())) λr=>InN zl.length r.1:=by
 unfold B1;refine aZ (Ri zl nd) λu9 t=>aL (λ_=>ab ⟨a5 _,λe f=>by cases f⟩) λh=>?_;have D:=t (fq h);refine aK (P:=λs:List Int×Unit=>Ix zl.length s.1.length s.1/\s.1.length<=6) (bq (I:=λi s=>s.2=((i:Int),())/\Ix zl.length s.1.length s.1/\s.1.length<=i) (m:=zl.length) ⟨rfl,⟨rfl,λe f=>by cases f⟩,au _⟩ (by omega) ?_ ?_) ?_
 .
  rintro i⟨l,s0⟩v⟨rfl,d,w⟩;have d:Ix zl.length l.length l:=d;have w:l.length<=i:=w
  have o0:Ok (some (Sum.inl (aX l [(i:Int)],ah .i64 (i:Int) 1,())):Option (Sum (List Int×Int×Unit) (Sum (List Int×Unit) (List Int×Int×Unit)))) (gS (λs=>s.2=(((i+1:Nat):Int),())/\Ix zl.length s.1.length s.1/\s.1.length<=i+1) (gS (λs:List Int×Unit=>Ix zl.length s.1.length s.1/\s.1.length<=6) λr=>InN zl.length r.1)):=by
   rw[bH (by omega)];refine aV ⟨rfl,⟨rfl,λe f=>?_⟩,?_⟩
   .
    rcases bR.1 f with f|f;.exact d.2 e f
    .rcases cq.1 f with rfl;omega
   .show(l++[(i:Int)]).length<=i+1;rw[ax];exact sS w 1
  refine bg (cD v) (aZ (cL v) λx _=>aL (λ_=>aq (cj (by show l.length+1<=10000;omega) (by decide)) o0) λ_=>aL (λ_=>aq (cj (by show l.length+1<=10000;omega) (by decide)) o0) λ_=>?_);show Ok (some (Sum.inl (l,ah .i64 (i:Int) 1,()))) _;rw[bH (by omega)];exact aV ⟨rfl,d,by show l.length<=i+1;omega⟩
 .rintro⟨l,s0⟩⟨rfl,d,w⟩;exact av cU (bo (aV ⟨d,by have:l.length<=zl.length:=w;show l.length<=6;omega⟩))
 rintro⟨l,u⟩⟨d,u0⟩;have d:Ix zl.length l.length l:=d;have u0:l.length<=6:=u0;refine aK (P:=λs:List Int×Int×Unit=>s.1=l/\s.2.1=0) (bq (I:=λi s=>s=(l,(0:Int),(20:Int),())) (m:=0) rfl (by decide) (λi s v=>by omega) ?_) ?_;.rintro s rfl;exact av (kT (by rw[aJ];show(l.length:Int)<20;omega)) (bo (aV ⟨rfl,rfl⟩))
 rintro⟨c,a,w9⟩⟨w0,v0⟩;have w0:c=l:=w0;have v0:a=0:=v0;subst w0 v0;refine aK (P:=λs:List Int×Unit=>Ix zl.length c.length s.1) (pp (I:=λk(s:List Int×Int×Unit)=>∃i:Nat,s.2=((i:Int),())/\c.length-i<=k/\1<=i/\Ix zl.length c.length s.1) (k:=c.length) ⟨1,rfl,by omega,by omega,d⟩ (by omega) ?_) ?_
 .
  rintro k⟨f0,s0⟩⟨i,rfl,y9,a0,z0⟩;have z0:Ix zl.length c.length f0:=z0;refine aL (λp0=>?_) λp0=>bo (aV (P:=λs:List Int×Unit=>Ix zl.length c.length s.1) z0);have v:i<c.length:=by have:=kj p0;rw[aJ]at this;simp only at this;omega
  refine aK (P:=λs:List Int×Unit=>Ix zl.length c.length s.1) (aK (P:=λs:List Int×Unit=>Ix zl.length c.length s.1) (pp (I:=λk(s:List Int×Int×Unit)=>∃j:Nat,s.2=((j:Int),())/\j<=k/\j<c.length/\Ix zl.length c.length s.1) (k:=i) (n:=1000000000) ⟨i,rfl,by omega,v,z0⟩ (by omega) ?_) ?_) ?_
  .
   rintro k⟨o,s0⟩⟨j,rfl,z9,h0,m⟩;have m:Ix zl.length c.length o:=m;have x9:=m.1;have k0:∀n:Nat,(0:Int)<(n:Int)->0<n:=λn h=>by omega
   refine aL (λt=>?_) λ_=>bo (aV (P:=λs:List Int×Unit=>Ix zl.length c.length s.1) m);have t:0<j:=k0 j (kj t);have q0:=uI t (by omega);have y0:∀{z m0:Type}{A:z->Prop}{B:m0->Prop},Ok (ao (some (Sum.inl (o,()))):Option (Sum z (Sum (List Int×Unit) m0))) (gS A (gS (λs:List Int×Unit=>Ix zl.length c.length s.1) B)):=⟨.inr (.inl (o,())),rfl,m⟩;refine aq (eu (l:=o) (i:=j) (by omega)) (aZ (cL (l:=o) (i:=j) (by omega)) λt9 j0=>?_);have r0:=m.2 _ (Y j0);refine aq (by show aU o (bb .i64 (j:Int) 1)=true;rw[q0];exact eu (by omega)) (aZ (P:=λx=>0<=x/\x<(zl.length:Int)) ?_ λs9 C=>?_);.show Ok (az o (bb .i64 (j:Int) 1)) _;rw[q0];exact(cL (l:=o) (i:=j-1) (by omega)).mono λy g0=>m.2 _ (Y g0)
   have x0:=λ{z:Type}{l0:Sum (List Int×Int×Unit) z->Prop}i0=>swp (β:=z) (Q:=l0) m t h0 (by omega) i0;refine MQ r0 λr9=>PN λq9=>MQ r0 λp9=>aL (λ_=>?_) λ_=>?_
   .
    refine MQ C λd0=>PN λc0=>MQ C λb0=>aL (λ_=>LH (x0 λt0 q=>?_) y0) λ_=>LH (x0 λt0 q=>?_) y0;.exact⟨by omega,j-1,rfl,by omega,by omega,q⟩
    .exact⟨by omega,j-1,rfl,by omega,by omega,q⟩
   .
    refine MQ C λd0=>PN λc0=>MQ C λb0=>aL (λ_=>LH (x0 λt0 q=>?_) y0) λ_=>LH (x0 λt0 q=>?_) y0;.exact⟨by omega,j-1,rfl,by omega,by omega,q⟩
    .exact⟨by omega,j-1,rfl,by omega,by omega,q⟩
  .rintro⟨p,n0⟩g;exact aV g
  .rintro⟨p,n0⟩g;show Ok (some (Sum.inl (p,ah .i64 (i:Int) 1,()))) _;rw[bH (by omega)];exact aV ⟨by omega,i+1,rfl,by omega,by omega,g⟩
 .
  rintro⟨p,n0⟩g;have g:Ix zl.length c.length p:=g;refine aK (P:=λs:List Int×Unit=>s.1=p) (bq (I:=λi s=>s=(p,(20:Int),())) (m:=0) rfl (by decide) (λi s v=>by omega) ?_) ?_;.rintro s rfl;exact av (cE (by rw[aJ];show(c.length:Int)<=20;omega)) ⟨.inr (.inl (p,())),rfl,rfl⟩
  .rintro⟨e0,v9⟩D;have D:e0=p:=D;subst D;exact ab ⟨by rw[g.1];exact u0,g.2⟩
theorem H2(z:Zn)(h:lM (dA z) 100000):Ok (BR (z,())) λ_=>True:=by unfold BR;exact aZ (tX z h) λ_ _=>aL (λ_=>ab trivial) λ_=>ab trivial
theorem Re(z:Zn)(h:lM (dA z) 100000):Ok (DU (z,())) λ_=>True:=by unfold DU;exact aZ (tX z h) λ_ _=>aL (λ_=>aZ (H2 z h) λ_ _=>ab trivial) λ_=>aZ (H2 z h) λ_ _=>ab trivial
theorem Ru(a:eK)(i:Int)(b:Kz a)(g:Sz a)(d:0<=i)(h1:i<((cu a).length:Int)):Ok (D0 (a,i,())) λ_=>True:=by
 unfold D0;refine aZ (oC (l:=cu a) d (by rw[aJ];exact h1)) λz h=>aZ (Re z (g.z z (Y h))) λn _=>?_;have k:(cK a).length<=4:=by rw[b.nc];exact b.nn.2
 refine aK (P:=λ_=>True) (bq (I:=λq s=>s.2=((q:Int),())) (m:=(cK a).length) rfl (by omega) ?_ ?_) λ_ _=>ab trivial
 .
  rintro q⟨u,j⟩e rfl;refine bg (cD (l:=cK a) e) (aZ (cL (l:=cK a) e) λc f=>aZ (oC (l:=c.1) d ?_) λl _=>?_);.rw[aJ,(b.cl c (Y f)).1];exact h1
  .exact⟨_,rfl,by show(ah .i64 (q:Int) 1,())=_;rw[bH (by omega)]⟩
 .rintro⟨u,j⟩rfl;exact av (cU (l:=cK a)) ⟨_,rfl,trivial⟩
theorem Rt(a:eK)(i:Int)(c:Kz a)(d:Sz a)(b:0<=i)(h1:i<((cu a).length:Int)):Ok (DZ (a,i,())) λ_=>True:=by unfold DZ;exact aZ (oC (l:=cu a) b (by rw[aJ];exact h1)) λz _=>aZ (Ru a i c d b h1) λ_ _=>ab trivial
theorem BU(ls:List (List Int))(i:Int)(f:∀l,l∈ls->l.length<=100000):Ok (yT ((ls,()),i,())) λr=>r.1=0->ls.length<=6/\wY ls/\∃z:Nat,i=(z:Int)/\z<ls.length:=by unfold yT;refine aZ (Il ls _ f) λk d=>aL (λh=>ab λg=>absurd g (iX h)) λh=>?_;obtain⟨_,j,b,e⟩:=d (fq h);refine aL (λ_=>ab λh=>by cases h) λc=>aL (λ_=>ab λh=>by cases h) λa=>ab λ_=>?_;have c:0<=i:=eY c;have a:i<ak ls:=qa a;have b:ak ls<=6:=b;rw[aJ]at a b;exact⟨by omega,e,i.toNat,by omega,by omega⟩
theorem uu{l:List Int}:dR (eh (ak l) 0) l=l:=by unfold dR eh;rw[aN,aJ,cY,bN,List.drop_replicate,dW];exact bf l
theorem O3{X:Type}{T:List X}{d:X}{i m:Nat}(h:i<T.length):(T.take i++List.replicate (m+1) d).set i T[i]=T.take (i+1)++List.replicate m d:=by
 have a:(T.take i).length=i:=by rw[aR];omega
 rw[List.set_append,aB (by omega),a,dW,gH,lX,ja,G h,Option.toList_some,cn];rfl
theorem iu{X:Type}{l:List X}{i:Nat}{x:X}:aG l (i:Int) x=l.set i x:=by unfold aG;rw[cY]
theorem CU{T a:List (List Int)}{d:List Int}{i:Nat}{β:Type}{Q:Sum ((List (List Int)×Unit)×Int×Unit) β->Prop}(hi:i<T.length)(g:i<=1000)(hd:d.length<=10000)(e:T.set i d=a)(c:Q (.inl ((a,()),((i+1:Nat):Int),()))):Ok (aC (gw (ak d) (ak d) 8) (aC (aU T (i:Int)) (aC (aU T (i:Int)) (aC (aU (aG T (i:Int) (eh (ak d) 0)) (i:Int)) (aC (aU (aG T (i:Int) (eh (ak d) 0)) (i:Int)) (am (az (aG T (i:Int) (eh (ak d) 0)) (i:Int)) λb=>some (.inl ((aG (aG T (i:Int) (eh (ak d) 0)) (i:Int) (dR b d),()),ah .i64 (i:Int) 1,())))))))) Q:=by
 refine aq (iZ (by rw[aJ];omega) (by rw[aJ];show(d.length:Int)<=10000;omega) (by decide)) (aq (eu hi) (aq (eu hi) (aq (eu (by rw[jt];exact hi)) (aq (eu (by rw[jt];exact hi)) (aZ (P:=λx=>x=eh (ak d) (0:Int)) ⟨_,?_,rfl⟩ λb f=>?_)))));.show(aG T (i:Int) (eh (ak d) 0))[i]?=_;rw[iu,be hi]
 .subst f;refine⟨_,rfl,?_⟩;rw[uu,iu,iu,eM,e,bH (by omega)];exact c
theorem tW(ls:List (List Int))(z:Nat)(l:List Int)(x:z<ls.length)(v:ls.length<=6)(b:∀m,m∈ls->m.length<=10000)(q:l.length<=10000):yS ((ls,()),(z:Int),l,())=some ((ls.set z l,()),()):=by
 have t:Ok (yS ((ls,()),(z:Int),l,())) λr=>r=((ls.set z l,()),()):=by
  have p:(ls.set z l).length=ls.length:=bx;unfold yS;refine aq (iZ (by rw[aJ];omega) (by rw[aJ];show(ls.length:Int)<=10000;omega) (by decide)) (aK (P:=λs:(List (List Int)×Unit)×Unit=>s.1.1=ls.set z l) (bq (I:=λi s=>s=(((ls.set z l).take i++List.replicate (ls.length-i) [],()),(i:Int),())) (m:=ls.length) ?_ (by omega) ?_ ?_) ?_);.show((eh (ak ls) ([]:List Int),()),(0:Int),())=_;unfold eh;rw[aJ,cY];rfl
  .
   rintro i s c rfl;have w:((ls.set z l).take i++List.replicate (ls.length-i) ([]:List Int)).length=ls.length:=by rw[ax,aR,aN,p];omega
   have g:i<(ls.set z l).length:=by omega
   have j:i<((ls.set z l).take i++List.replicate (ls.length-i) ([]:List Int)).length:=by omega
   have e:∀d:List Int,(ls.set z l)[i]=d->((ls.set z l).take i++List.replicate (ls.length-i) ([]:List Int)).set i d=(ls.set z l).take (i+1)++List.replicate (ls.length-(i+1)) []:=λd a=>by rw[<-a,show ls.length-i=ls.length-(i+1)+1 by omega,O3 g]
   refine bg (cD c) (aZ (cL c) λk f=>aL (λa=>?_) λa=>?_)
   .
    have a:(i:Int)=(z:Int):=kM a;have a:i=z:=by omega
    exact CU j (by omega) q (e l (by subst a;exact List.getElem_set_self g)) rfl
   .have a:(i:Int)≠(z:Int):=mj a;have a:z≠i:=λh=>a (by rw[h]);refine CU j (by omega) (b k (Y f)) (e k ?_) rfl;rw[List.getElem_set_ne a];rw[G c]at f;exact ej f
  .rintro s rfl;refine av cU ⟨_,rfl,?_⟩;show(ls.set z l).take ls.length++List.replicate (ls.length-ls.length) ([]:List Int)=_;rw[dW,dp (by omega)];exact bf _
  .rintro⟨⟨s,u⟩,A⟩b;have b:s=ls.set z l:=b;subst b;exact ab rfl
 obtain⟨y,n,o⟩:=t;rw[n,o]
theorem Rd(ls:List (List Int))(i:Int)(c:∀l,l∈ls->l.length<=10000):Ok (Mn ((ls,()),i,())) λr=>r.2.2.1=0->ls.length<=6/\wY ls/\∃z:Nat,i=(z:Int)/\ls[z]?=some r.2.1/\r.1.1=ls.set z []:=by unfold Mn;refine aZ (BU ls i λl h=>by have:=c l h;omega) λm g=>aL (λh=>ab λk=>absurd k (iX h)) λh=>?_;obtain⟨f,j,z,rfl,d⟩:=g (fq h);refine aZ (cL d) λa b=>aq (iZ (by rw[aJ];omega) (by rw[aJ];have:=c a (Y b);show(a.length:Int)<=10000;omega) (by decide)) (aZ (cL d) λn e=>aa (tW ls z [] d f c (by decide)) (ab λ_=>⟨f,j,z,rfl,?_,rfl⟩));rw[b]at e;cases e;show ls[z]?=some (dR (eh (ak a) 0) a);rw[uu];exact b
theorem Rr(ls:List (List Int))(i:Int)(c:∀l,l∈ls->l.length<=10000):Ok (vd ((ls,()),i,())) λr=>r.2.2.1=0->ls.length<=6/\wY ls/\∃(z:Nat)(l:List Int),i=(z:Int)/\ls[z]?=some (l++[r.2.1])/\r.1.1=ls.set z l:=by
 unfold vd;refine aZ (BU ls i λl h=>by have:=c l h;omega) λs k=>aL (λh=>ab λo=>absurd o (iX h)) λh=>?_;obtain⟨g,n,z,rfl,j⟩:=k (fq h);refine aZ (cL j) λa f=>aL (λ_=>ab λh=>by cases h) λd=>?_;have q:=c a (Y f);have d:ak a≠0:=mj d;rw[aJ]at d;have e:bb .i64 (ak a) 1=((a.length-1:Nat):Int):=by rw[aJ];exact uI (by omega) (by omega)
 have m:eS a 0 ((a.length-1:Nat):Int)=a.take (a.length-1):=by unfold eS;rw[cY];rfl
 simp only[e,m];refine aq ?_ (aZ (cL (l:=a) (i:=a.length-1) (by omega)) λp b=>aa (tW ls z (a.take (a.length-1)) j g c (by rw[aR];omega)) (ab λ_=>⟨g,n,z,a.take (a.length-1),rfl,?_,rfl⟩));.unfold dx;rw[aJ,ar (show(0:Int)<=0 by omega),ar (show(0:Int)<=((a.length-1:Nat):Int)by omega),ar (show((a.length-1:Nat):Int)<=(a.length:Int)by omega)];rfl
 .rw[f];congr 1;have b:a[a.length-1]?=some p:=b;have:=ja (l:=a) (i:=a.length-1);rw[b,show a.length-1+1=a.length by omega,bN]at this;exact this
def Pq(z:Zn)(L:Nat->List Int):Zn:=(z.1,z.2.1,z.2.2.1,z.2.2.2.1,z.2.2.2.2.1,[L 0,L 1,L 2,L 3,L 4],())
def TH(z:Zn)(k:Nat)(f:Int)(t:List Int)(j:Nat):List Int:=if j<k then [f+2^j]else if j=k then t else dA z j
structure CD (z : Zn) (f : Int) (z' : Zn) (k : Nat) (t : List Int) : Prop where
  k4 : k ≤ 4
  lo : ∀ j, j < k → dA z j = []
  hd : dA z k = f :: t
  z' : z' = Pq z (TH z k f t)
theorem wt{z:Zn}{L:Nat->List Int}{a b c d e:List Int}(f:a=L 0)(h1:b=L 1)(h2:c=L 2)(g:d=L 3)(h:e=L 4):((z.1,z.2.1,z.2.2.1,z.2.2.2.1,z.2.2.2.2.1,[a,b,c,d,e],()):Zn)=Pq z L:=by subst f h1 h2 g h;rfl
theorem Dd{l:List Int}(h:aY (ak l) 0=true):l=[]:=by have h:=kM h;rw[aJ]at h;exact hX (by omega)
theorem uR{l:List Int}(h:aY (ak l) 0=false):∃f t,l=f::t:=by have h:=mj h;rw[aJ]at h;cases l with
 |nil=>exact absurd rfl h
 |cons f t=>exact⟨f,t,rfl⟩
theorem rm{l:List Int}(h:l.length<=1000):a4 [] l 8=true:=cj (by show 0+l.length<=10000;omega) (by decide)
theorem PS{l:List Int}{f:Int}{t:List Int}(h:l=f::t):aU (aX [] l) 0=true:=by subst h;exact eu (l:=f::t) (i:=0) (by simp)
theorem JG{l:List Int}{f:Int}{t:List Int}(h:l=f::t):az (aX [] l) 0=some f:=by subst h;rfl
theorem Hl{l:List Int}{f:Int}{t:List Int}(h:l=f::t):dx 1 (ak (aX [] l)) (ak (aX [] l))=true:=by
 subst h;unfold dx;have:(1:Int)<=ak (aX [] (f::t)):=by rw[aJ];show(1:Int)<=((t.length+1:Nat):Int);omega
 rw[ar (show(0:Int)<=1 by decide),ar this,ar (bW _)];rfl
theorem OS{l:List Int}{f:Int}{t:List Int}(h:l=f::t):eS (aX [] l) 1 (ak (aX [] l))=t:=by subst h;unfold eS;rw[aJ,cY];show t.take (t.length+1-1)=t;rw[Nat.add_sub_cancel,bN]
theorem uT{β:Type}{Q:β->Prop}{l:List Int}{g:Int}{R:Option β}(c:l=[])(b:Ok R Q):Ok (am (gj (aX [] l,g,())) λa=>aC (dx a.1 (ak (aX [] l)) (ak (aX [] l))) (ad (aY a.1 (ak (aX [] l))) (aC (a4 (aX [] l) (g::[]) 8) R) none)) Q:=by subst c;exact As (l:=[]) (λi j x y _ h=>by cases h) (λx d=>by cases d) (by decide) b
theorem uN{l:List Int}{f g c:Int}(a:l=[])(h:f+c=g)(d:0<=f)(h1:f<=256)(b:0<=c)(c1:c<=16):aX (aX [] l) [ah .i64 f c]=[g]:=by subst a;rw[cz (by omega) (by omega),h];rfl
theorem H3(z:Zn)(n:lM (dA z) 1000):Ok (BV (z,0,())) λr=>(r.2.2.1=0->Cu z/\∃k t,CD z r.2.1 r.1 k t)/\(sI (z,())=some (0,())->r.2.2.1≠0->∀k,k<=4->dA z k=[]):=by
 have p:(bs [] z.2.2.2.2.2.1 0).length<=1000:=n 0 (by decide);have q:(bs [] z.2.2.2.2.2.1 1).length<=1000:=n 1 (by decide);have s:(bs [] z.2.2.2.2.2.1 2).length<=1000:=n 2 (by decide);have u:(bs [] z.2.2.2.2.2.1 3).length<=1000:=n 3 (by decide);have v:(bs [] z.2.2.2.2.2.1 4).length<=1000:=n 4 (by decide);unfold BV Q0;refine bg rfl (pq (tX z (n.mono (by decide))) λv0 x0 y0=>aL (λh=>ab ⟨λw0=>absurd w0 (iX h),λe=>by rw[x0]at e;rw[ej e]at h;cases h⟩) λh=>?_);have l:=y0 (fq h);have o:∀(k:Nat)(f:Int)(t:List Int),k<=4->bs [] z.2.2.2.2.2.1 k=f::t->0<=f/\f<=256:=λk f t z0 e=>by have D:=(l.fr k z0).2 f (by show f∈bs [] z.2.2.2.2.2.1 k;rw[e];exact bX ..);have:=pw k;have:=l.pl.1;have:=l.pl.2.2;have:=D.1;have:=D.2.1;omega
 refine aL (λx=>?_) λx=>?_
 .
  have a:=Dd x;refine aL (λy=>?_) λy=>?_
  .
   have b:=Dd y;refine aL (λA=>?_) λA=>?_
   .
    have g:=Dd A;refine aL (λB=>?_) λB=>?_
    .
     have i:=Dd B;refine aL (λC=>?_) λC=>?_;.have m:=Dd C;exact ab ⟨λh=>(by cases h),λ_ _ k z0=>by rcases k with _|_|_|_|_|k<;>first|assumption|omega⟩
     .
      obtain⟨f,t,m⟩:=uR C;obtain⟨c,d⟩:=o 4 f t (by decide) m;refine aq (rm p) (aq (rm q) (aq (rm s) (aq (rm u) (aq (rm v) (aq (PS m) (aa (JG m) (aq (Hl m) (uT i (uT g (uT b (uT a (ab ⟨λ_=>⟨l,4,t,by decide,λj w=>?_,m,wt (uN a rfl c d (by decide) (by decide)) (uN b rfl c d (by decide) (by decide)) (uN g rfl c d (by decide) (by decide)) (uN i rfl c d (by decide) (by decide)) (OS m)⟩,λ_ h=>absurd rfl h⟩))))))))))));rcases show j=0\/j=1\/j=2\/j=3 by omega with rfl|rfl|rfl|rfl;.exact a
      .exact b
      .exact g
      .exact i
    .
     obtain⟨f,t,i⟩:=uR B;obtain⟨c,d⟩:=o 3 f t (by decide) i;refine aq (rm p) (aq (rm q) (aq (rm s) (aq (rm u) (aq (rm v) (aq (PS i) (aa (JG i) (aq (Hl i) (uT g (uT b (uT a (ab ⟨λ_=>⟨l,3,t,by decide,λj w=>?_,i,wt (uN a rfl c d (by decide) (by decide)) (uN b rfl c d (by decide) (by decide)) (uN g rfl c d (by decide) (by decide)) (OS i) rfl⟩,λ_ h=>absurd rfl h⟩)))))))))));rcases show j=0\/j=1\/j=2 by omega with rfl|rfl|rfl;.exact a
     .exact b
     .exact g
   .
    obtain⟨f,t,g⟩:=uR A;obtain⟨c,d⟩:=o 2 f t (by decide) g;refine aq (rm p) (aq (rm q) (aq (rm s) (aq (rm u) (aq (rm v) (aq (PS g) (aa (JG g) (aq (Hl g) (uT b (uT a (ab ⟨λ_=>⟨l,2,t,by decide,λj w=>?_,g,wt (uN a rfl c d (by decide) (by decide)) (uN b rfl c d (by decide) (by decide)) (OS g) rfl rfl⟩,λ_ h=>absurd rfl h⟩))))))))));rcases show j=0\/j=1 by omega with rfl|rfl;.exact a
    .exact b
  .obtain⟨f,t,b⟩:=uR y;obtain⟨c,d⟩:=o 1 f t (by decide) b;refine aq (rm p) (aq (rm q) (aq (rm s) (aq (rm u) (aq (rm v) (aq (PS b) (aa (JG b) (aq (Hl b) (uT a (ab ⟨λ_=>⟨l,1,t,by decide,λj w=>?_,b,wt (uN a rfl c d (by decide) (by decide)) (OS b) rfl rfl rfl⟩,λ_ h=>absurd rfl h⟩)))))))));rcases show j=0 by omega with rfl;.exact a
 .obtain⟨f,t,a⟩:=uR x;obtain⟨c,d⟩:=o 0 f t (by decide) a;refine aq (rm p) (aq (rm q) (aq (rm s) (aq (rm u) (aq (rm v) (aq (PS a) (aa (JG a) (aq (Hl a) (ab ⟨λ_=>⟨l,0,t,by decide,λj w=>?_,a,wt (OS a) rfl rfl rfl rfl⟩,λ_ h=>absurd rfl h⟩))))))));omega
def nz(z:Zn):Zn:=Pq z (dA z)
theorem wq{z:Zn}{L:Nat->List Int}{k:Nat}(h:k<=4):dA (Pq z L) k=L k:=by rcases show k=0\/k=1\/k=2\/k=3\/k=4 by omega with rfl|rfl|rfl|rfl|rfl<;>rfl
theorem zq{z:Zn}{k:Nat}(h:k<=4):dA (nz z) k=dA z k:=wq h
theorem qS{b h:D iT}{nd:List Int}{cl:List sR}{T c:List Zn}{i k:Nat}{z:Zn}{g:Zn->Zn->Zn}{β:Type}{Q:Sum (eK×Unit) β->Prop}(a:T[i]?=some z)(j:(bs [] z.2.2.2.2.2.1 k).length<=1000)(l:T.set i (g z z)=c)(f:Q (.inl ((nd,b,h,c,cl,()),()))):Ok (aC (aU T (i:Int)) (am (az T (i:Int)) λe=>aC (a4 [] (bs [] e.2.2.2.2.2.1 k) 8) (aC (aU T (i:Int)) (am (az T (i:Int)) λm=>(some (.inl ((nd,b,h,aG T (i:Int) (g e m),cl,()),())):Option (Sum (eK×Unit) β)))))) Q:=by have d:i<T.length:=(aj.1 a).1;refine aq (eu d) (aa (aI a) (aq (rm j) (aq (eu d) (aa (aI a) ⟨_,rfl,?_⟩))));rw[iu,l];exact f
theorem Nm{T:List Zn}{i:Nat}{z:Zn}(h:T[i]?=some z):((T.take i).map nz++T.drop i).set i (nz z)=(T.take (i+1)).map nz++T.drop (i+1):=by
 have a:i<T.length:=(aj.1 h).1;have b:((T.take i).map nz).length=i:=by rw[db,aR];omega
 rw[List.set_append,aB (by omega),b,dW,ja,h,rB,cn];congr 1;rw[d8 a];rfl
theorem Pw{T:List Zn}{i:Nat}{z:Zn}(h:T[i]?=some z):((T.take i).map nz++T.drop i)[i]?=some z:=by
 have b:i<T.length:=(aj.1 h).1;have a:((T.take i).map nz).length=i:=by rw[db,aR];omega
 rw[bA (by omega),a,dW,gh];exact h
theorem ir{X:Type}{T:List X}{i:Nat}{x:X}(h:T[i]?=some x):T.set i x=T:=by obtain⟨a,rfl⟩:=aj.1 h;exact sv a
end Go.Bo
set_option maxHeartbeats 4000000
namespace Go.Bo
open Go Go.Ls
inductive yl(z0:Zn):List Int->Zn->Prop where|nil:yl z0 [] z0|Gg{l z f z' k t}:yl z0 l z->Cu z->CD z f z' k t->yl z0 (l++[f]) z'
structure Tk(zl:List Zn)(cl:List sR)(cpu:Nat)(f:Int)(zl':List Zn)(cl':List sR):Prop where ex:∃(zi:Nat)(z0:Zn)(ls:List (List Int))(l0:List Int),zl[zi]?=some z0/\cl[cpu]?=some (ls,())/\ls[zi]?=some l0/\((l0≠[]/\zl'=zl/\∃l,l0=l++[f]/\cl'=cl.set cpu (ls.set zi l,()))\/l0=[]/\∃(l:List Int)(z':Zn),yl z0 (f::l) z'/\(f::l).length<=64/\zl'=zl.set zi z'/\cl'=cl.set cpu (ls.set zi l.reverse,()))
theorem BC(a:eK)(l:∀z,z∈cu a->lM (dA z) 1000)(m:(cu a).length<=1000){β:Type}{Q:β->Prop}{K:eK×Unit->Option β}(n:Ok (K ((a.1,a.2.1,a.2.2.1,(cu a).map nz,cK a,()),())) Q):Ok (aE (W8 a) K) Q:=by
 unfold W8;obtain⟨e,b,h,c,d,u⟩:=a;refine aK (P:=λs:eK×Unit=>s=((e,b,h,c.map nz,d,()),())) ?_ (λs t=>by rw[t];exact n);clear n K;replace l:∀z,z∈c->lM (dA z) 1000:=l;replace m:c.length<=1000:=m;refine bq (I:=λi s=>s=((e,b,h,(c.take i).map nz++c.drop i,d,()),(i:Int),())) (m:=c.length) rfl (by omega) ?_ ?_
 .
  rintro i s k rfl;have p:c[i]?=some c[i]:=G k;have o:=Pw p;have r:((c.take i).map nz++c.drop i).length=c.length:=by rw[ax,db,aR,cB];omega
  have g:(((c.take i).map nz++c.drop i).set i (nz c[i]))[i]?=some (nz c[i]):=be (by omega);have j:=l c[i] (eF k);generalize q:(c.take i).map nz++c.drop i=f at o r g⊢;refine bg (cD (l:=c) k) (aK (P:=λs:eK×Unit=>s=((e,b,h,f.set i (nz c[i]),d,()),())) ?_ ?_);.refine aK (P:=λs:eK×Unit=>s=((e,b,h,f.set i (nz c[i]),d,()),())) (qS (k:=0) o (j 0 (by decide)) rfl rfl) ?_;rintro s rfl;refine aK (P:=λs:eK×Unit=>s=((e,b,h,f.set i (nz c[i]),d,()),())) (qS (k:=1) g (j 1 (by decide)) (eM ..) rfl) ?_;rintro s rfl;refine aK (P:=λs:eK×Unit=>s=((e,b,h,f.set i (nz c[i]),d,()),())) (qS (k:=2) g (j 2 (by decide)) (eM ..) rfl) ?_;rintro s rfl;refine aK (P:=λs:eK×Unit=>s=((e,b,h,f.set i (nz c[i]),d,()),())) (qS (k:=3) g (j 3 (by decide)) (eM ..) rfl) ?_;rintro s rfl;refine aK (P:=λs:eK×Unit=>s=((e,b,h,f.set i (nz c[i]),d,()),())) (qS (k:=4) g (j 4 (by decide)) (eM ..) rfl) ?_;rintro s rfl;exact aV rfl
  .rintro s rfl;refine⟨_,rfl,?_⟩;show((e,b,h,f.set i (nz c[i]),d,()),ah .i64 (i:Int) 1,())=_;rw[bH (by omega),<-q,Nm p]
 .rintro s rfl;refine av (cU (l:=c)) ⟨_,rfl,?_⟩;show((e,b,h,(c.take c.length).map nz++c.drop c.length,d,()),())=_;rw[bN,List.drop_length,bf]
theorem BD(g:eK×Unit)(q:(cK g.1).length<=1000)(o:∀c,c∈cK g.1->c.1.length<=1000/\∀l,l∈c.1->l.length<=1000){β:Type}{Q:β->Prop}{K:eK×Unit->Option β}(p:Ok (K g) Q):Ok (aE (Xg g.1) K) Q:=by
 unfold Xg;obtain⟨⟨f,b,h,k,a,u⟩,v⟩:=g;refine aK (P:=λs:eK×Unit=>s=((f,b,h,k,a,()),())) ?_ (λs t=>by rw[t];exact p);clear p K;replace q:a.length<=1000:=q;replace o:∀c,c∈a->c.1.length<=1000/\∀l,l∈c.1->l.length<=1000:=o;refine bq (I:=λi s=>s=((f,b,h,k,a,()),(i:Int),())) (m:=a.length) rfl (by omega) ?_ ?_
 .
  rintro i s d rfl;have m:a[i]?=some a[i]:=G d;have r:=o a[i] (eF d);refine bg (cD (l:=a) d) (aK (P:=λs:eK×Unit=>s=((f,b,h,k,a,()),())) ?_ ?_)
  .
   refine aq (eu (l:=a) d) (aa (aI m) (aq (cj (by show 0+a[i].1.length<=10000;omega) (by decide)) ?_));refine aK (P:=λs:List (List Int)×Unit=>s=(a[i].1,())) (bq (I:=λj s=>s=(a[i].1,(j:Int),())) (m:=a[i].1.length) rfl (by omega) ?_ ?_) ?_;.rintro j s e rfl;have n:a[i].1[j]?=some a[i].1[j]:=G e;refine bg (cD (l:=a[i].1) e) (aq (eu (l:=a[i].1) e) (aa (aI n) (aq (rm (r.2 _ (eF e))) (aq (eu (l:=a[i].1) e) (aa (aI n) ⟨_,rfl,?_⟩)))));show(aG a[i].1 (j:Int) (aX [] a[i].1[j]),ah .i64 (j:Int) 1,())=_;rw[iu,bH (by omega)];exact eP (.,(((j+1:Nat):Int),())) (ir n)
   .rintro s rfl;exact av (cU (l:=a[i].1)) ⟨_,rfl,rfl⟩
   .rintro s rfl;refine aq (eu (l:=a) d) (aa (aI m) ⟨_,rfl,?_⟩);show((f,b,h,k,aG a (i:Int) (a[i].1,()),()),())=_;rw[iu,ir (x:=(a[i].1,())) m]
  .rintro s rfl;refine⟨_,rfl,?_⟩;show((f,b,h,k,a,()),ah .i64 (i:Int) 1,())=_;rw[bH (by omega)]
 .rintro s rfl;exact av (cU (l:=a)) ⟨_,rfl,rfl⟩
end Go.Bo
set_option maxHeartbeats 4000000
namespace Go.Bo
open Go Go.Ls
theorem KW{l:List Int}{j:Nat}(a:j<l.length)(c:l.length<=100000):Ok (az l (bb .i64 (bb .i64 (ak l) 1) (j:Int))) λx=>l.reverse[j]?=some x:=by
 have e:bb .i64 (bb .i64 (ak l) 1) (j:Int)=((l.length-1-j:Nat):Int):=by rw[aJ,uI (by omega) (by omega),fa (by omega) (by omega)];omega
 rw[e];refine(cL (l:=l) (i:=l.length-1-j) (by omega)).mono λx b=>?_;rw[sx a];exact b
theorem KV{l:List Int}{j:Nat}(a:j<l.length)(b:l.length<=100000):aU l (bb .i64 (bb .i64 (ak l) 1) (j:Int))=true:=by
 have e:bb .i64 (bb .i64 (ak l) 1) (j:Int)=((l.length-1-j:Nat):Int):=by rw[aJ,uI (by omega) (by omega),fa (by omega) (by omega)];omega
 rw[e];exact eu (by omega)
theorem Sy(ls:List (List Int))(d:Nat)(l:List Int)(n:∀m,m∈ls->m.length<=5000)(w0:l.length<=1000):Ok (O9 ls (d:Int) l) λr=>r.2.1=0->wY ls/\∃x,ls[d]?=some x/\r.1.1=ls.set d (x++l.reverse):=by
 unfold O9;refine aZ (BU ls d λm e=>by have:=n m e;omega) λv0 y=>aL (λh=>ab λz0=>absurd z0 (iX h)) λh=>?_;obtain⟨C,D,z,t,v⟩:=y (fq h);have t:d=z:=by omega
 subst t;refine aK (P:=λ_=>True) (bq (I:=λi s=>s.2=((i:Int),())) (m:=ls.length) rfl (by omega) ?_ ?_) λs0 _=>?_
 .
  rintro i⟨f,g⟩b rfl;refine bg (cD (l:=ls) b) (aK (P:=λ_=>True) (aZ (cL (l:=ls) b) λk A=>?_) ?_)
  .
   have e:=n k (Y A);refine aK (P:=λ_=>True) (bq (I:=λi s=>s.2=((i:Int),())) (m:=k.length) rfl (by omega) ?_ ?_) λ_ _=>aV trivial;.rintro j⟨f,g⟩c rfl;exact bg (cD (l:=k) c) (aZ (cL (l:=k) c) λu0 _=>⟨_,rfl,by show(ah .i64 (j:Int) 1,())=_;rw[bH (by omega)]⟩)
   .rintro⟨f,g⟩rfl;exact av (cU (l:=k)) ⟨_,rfl,trivial⟩
  .rintro t0 _;exact⟨_,rfl,by show(ah .i64 (i:Int) 1,())=_;rw[bH (by omega)]⟩
 .rintro⟨f,g⟩rfl;exact av (cU (l:=ls)) ⟨_,rfl,trivial⟩
 refine aK (P:=λ_=>True) (bq (I:=λi s=>s.2.2=((i:Int),())) (m:=l.length) rfl (by omega) ?_ ?_) λr0 _=>?_;.rintro i⟨q,f,g⟩b rfl;refine bg (cD (l:=l) b) (aq (eu (l:=l) b) (aZ (cL (l:=l) b) λy0 _=>aa (up y0) (aL (λ_=>bo (bo (ab λh=>by cases h))) λ_=>aL (λ_=>bo (bo (ab λh=>by cases h))) λ_=>⟨_,rfl,?_⟩)));show(ah .i64 (i:Int) 1,())=_;rw[bH (by omega)]
 .rintro⟨q,f,g⟩rfl;exact av (cU (l:=l)) ⟨_,rfl,trivial⟩
 refine aZ (cL (l:=ls) v) λa o=>?_;have e:=n a (Y o);refine aq (iZ (by rw[aJ];omega) (by rw[aJ];show(a.length:Int)<=10000;omega) (by decide)) (aa (aI o) ?_);refine aK (P:=λs:List Int×Unit=>s.1=a++l.reverse) (bq (I:=λi s=>s=(a++l.reverse.take i,(i:Int),())) (m:=l.length) ?_ (by omega) ?_ ?_) ?_;.show(dR (eh (ak a) 0) a,(0:Int),())=_;rw[uu,fQ,bf];rfl
 .
  rintro j s c rfl;refine bg (cD (l:=l) c) (aq (KV c (by omega)) (aZ (KW c (by omega)) λx0 B=>aq (cj ?_ (by decide)) ⟨_,rfl,?_⟩));.show(a++l.reverse.take j).length+1<=10000;rw[ax,aR,eg];omega
  .show(a++l.reverse.take j++[x0],ah .i64 (j:Int) 1,())=_;rw[cn,dw B,bH (by omega)]
 .rintro s rfl;refine av (cU (l:=l)) ⟨_,rfl,?_⟩;show a++l.reverse.take l.length=_;rw[dp (by rw[eg];exact au _)]
 .rintro⟨w,u⟩p;have p:w=a++l.reverse:=p;subst p;refine aa (tW ls d (a++l.reverse) v C (λm e=>by have:=n m e;omega) (by rw[ax,eg];omega)) (ab λ_=>⟨D,a,o,rfl⟩)
theorem TG{z z':Zn}{f:Int}{k n:Nat}{t:List Int}(h:CD z f z' k t)(b:lM (dA z) n):lM (dA z') (n+1):=by
 intro j a;rw[h.z',wq a];unfold TH;split;.show 1<=n+1;omega
 .
  split;.have:=b k h.k4;rw[h.hd,bp]at this;omega
  .exact pQ (b j a)
theorem Hq{a:Zn}{n:Nat}:∀{l:List Int}{z:Zn},yl a l z->lM (dA a) n->lM (dA z) (n+l.length):=by intro l z h c;induction h with
 |nil=>exact c
 |Gg _ _ b d=>rw[ax];exact TG b d
theorem LI{a:Zn}{l:List Int}{z:Zn}(h:yl a l z):zs z=zs a/\zc z=zc a:=by induction h with
 |nil=>exact⟨rfl,rfl⟩
 |Gg _ _ b c=>rw[b.z'];exact c
theorem O6{l:List Int}{x:Int}(h:l.length<=1000):a4 l [x] 8=true:=cj (by show l.length+1<=10000;omega) (by decide)
structure Rf(zl:List Zn)(cl:List sR)(cpu zi:Nat)(z0:Zn)(ls:List (List Int))(s:eK×Bool×Unit):Prop where ex:∃(l:List Int)(z':Zn),yl z0 l z'/\l.length<=64/\cu s.1=zl.set zi z'/\s.2.1=decide (0<(l.length:Int))/\(cK s.1=cl\/∃l0,ls[zi]?=some l0/\wY ls/\cK s.1=cl.set cpu (ls.set zi (l0++l.reverse),()))
theorem Ao(s:eK×Unit)(j c:Nat)(f:Zn)(ls:List (List Int))(w:(cu s.1)[c]?=some f)(o:(cK s.1)[j]?=some (ls,()))(n0:lM (dA f) 900)(m0:∀m,m∈ls->m.length<=1000)(C:s.1.2.1<=(64:Int))(g0:(cu s.1).length<=100):Ok (Jf s.1 (c:Int) (j:Int)) λr=>(r.1.1=s.1.1/\ns r.1=ns s.1/\lT r.1=lT s.1)/\Rf (cu s.1) (cK s.1) j c f ls r:=by
 unfold Jf;obtain⟨⟨i,b,h,e,d,u⟩,v⟩:=s;have w:e[c]?=some f:=w;have o:d[j]?=some (ls,()):=o;have C: @LE.le Int _ b 64:=C;have z:c<e.length:=(aj.1 w).1;have D:j<d.length:=(aj.1 o).1;have x0:∀a,(e.set c a)[c]?=some a:=λa=>be z;refine aK (P:=λq:eK×List Int×Unit=>∃a,yl f q.2.1 a/\q.2.1.length<=64/\q.1=(i,b,h,e.set c a,d,())) (pp (I:=λk q=>∃(l:List Int)(a:Zn),q=((i,b,h,e.set c a,d,()),l,(l.length:Int),())/\yl f l a/\l.length+k=64) (k:=64) ⟨[],f,?_,.nil,rfl⟩ (by decide) ?_) ?_;.show((i,b,h,e,d,()),[],(0:Int),())=_;rw[ir w];rfl
 .
  rintro k q⟨l,a,rfl,g,f0⟩;have y0:∀{w0 v0:Type}{A:w0->Prop}{B:v0->Prop},Ok (ao (some (Sum.inl ((i,b,h,e.set c a,d,()),l,()))):Option (Sum w0 (Sum (eK×List Int×Unit) v0))) (gS A (gS (λq:eK×List Int×Unit=>∃a,yl f q.2.1 a/\q.2.1.length<=64/\q.1=(i,b,h,e.set c a,d,())) B)):=⟨.inr (.inl ((i,b,h,e.set c a,d,()),l,())),rfl,a,g,by show l.length<=64;omega,rfl⟩;refine aL (λz0=>?_) λ_=>y0;have z0:(l.length:Int)<b:=kj z0;have o0:0<k:=by omega
  have i0:=Hq g n0;refine aq (eu (l:=e.set c a) (by rw[bx];exact z)) (aa (aI (x0 a)) (aZ (H3 a (i0.mono (by omega))) λx r0=>aL (λ_=>y0) λy=>?_));obtain⟨k0,e0,t,n⟩:=r0.1 (fq y);refine aq (eu (l:=e.set c a) (by rw[bx];exact z)) (aa (aI (x0 a)) (aq (O6 (l:=l) (by omega)) ⟨_,rfl,o0,l++[x.2.1],x.1,?_,.Gg g k0 n,by rw[ax];show l.length+1+(k-1)=64;omega⟩));show((i,b,h,aG (e.set c a) (c:Int) x.1,d,()),l++[x.2.1],ah .i64 (l.length:Int) 1,())=_;rw[iu,eM,bH (by omega),ax];rfl
 .
  rintro⟨u0,l,d0⟩⟨a,g,p,n⟩;have g:yl f l a:=g;have p:l.length<=64:=p;have n:u0=(i,b,h,e.set c a,d,()):=n;subst n;refine aq (eu (l:=d) D) (aa (aI o) (aZ (Sy ls c l (λm l0=>by have:=m0 m l0;omega) (by omega)) λh0 q0=>aL (λy=>?_) λ_=>?_));.obtain⟨p0,j0,t0,s0⟩:=q0 (kM y);refine aq (eu (l:=d) D) (aa (aI o) (ab ⟨⟨rfl,rfl,rfl⟩,⟨l,a,g,p,rfl,rfl,.inr ⟨j0,t0,p0,?_⟩⟩⟩));show aG d (j:Int) (h0.1.1,())=_;rw[iu,s0];rfl
  .exact ab ⟨⟨rfl,rfl,rfl⟩,⟨l,a,g,p,rfl,rfl,.inl rfl⟩⟩
theorem NF(s:eK×Bool×Unit)(g n:Nat)(B:(cK s.1).length<=100)(o:∀(i:Nat)(c:sR),i≠g->(cK s.1)[i]?=some c->∀l,l∈c.1->l=[]){β:Type}{R:β->Prop}:Ok (W1 s.1 (n:Int) (g:Int):Option (Sum (eK×Unit) β)) (gS (λr:eK×Unit=>r.1=s.1) R):=by
 unfold W1;obtain⟨⟨d,b,h,f,a,u⟩,v⟩:=s;replace B:a.length<=100:=B;replace o:∀(i:Nat)(c:sR),i≠g->a[i]?=some c->∀l,l∈c.1->l=[]:=o;refine bq (I:=λi s=>s=((d,b,h,f,a,()),(i:Int),())) (m:=a.length) rfl (by omega) ?_ ?_
 .
  rintro i s m rfl;have k:a[i]?=some a[i]:=G m;have q:∀{D:Type}{A:D->Prop},Ok (some (.inl ((d,b,h,f,a,()),ah .i64 (i:Int) 1,())):Option (Sum (eK×Int×Unit) D)) (gS (λs=>s=((d,b,h,f,a,()),((i+1:Nat):Int),())) A):=⟨_,rfl,by show(_,_)=_;rw[bH (by omega)]⟩;refine bg (cD (l:=a) m) (aL (λp=>?_) λ_=>q);have p:i≠g:=λe=>iX p (by rw[e]);have y:=o i a[i] p k;refine aq (eu (l:=a) m) (aa (aI k) (aZ (Rd a[i].1 n λl v0=>by rw[y l v0];exact a5 _) λC w0=>aL (λx0=>?_) λ_=>q));obtain⟨u0,t0,z,t,w,z0⟩:=w0 (kM x0);have t:n=z:=by omega
  subst t;have x:=y _ (Y w);refine aq (eu (l:=a) m) (aa (aI k) (aK (P:=λs:eK×Unit=>s=((d,b,h,f,a,()),())) (bq (I:=λj s=>s=((d,b,h,f,a,()),(j:Int),())) (m:=0) ?_ (by decide) (λj s s0=>by omega) ?_) ?_));.show((d,b,h,f,aG a (i:Int) (C.1.1,()),()),(0:Int),())=_;have y0:a[i].1.set n []=a[i].1:=ir (by rw[w,x]);rw[iu,z0,y0,ir (x:=(a[i].1,())) k];rfl
  .rintro s rfl;refine av ?_ ⟨_,rfl,rfl⟩;show ay 0 (ak C.2.1)=false;rw[x];rfl
  .rintro s rfl;exact q
 .rintro s rfl;exact av (cU (l:=a)) ⟨_,rfl,rfl⟩
end Go.Bo
set_option maxHeartbeats 4000000
namespace Go.Bo
open Go Go.Ls
theorem z8:∀(i:Nat){l:List Int}{x:Int},iy l->(∀y,y∈l->0<=y)->l[i]?=some x->(i:Int)<=x
 |0,l,x,c,b,a=>by have:=b x (Y a);omega
 |i+1,l,x,c,b,a=>by have e:i+1<l.length:=(aj.1 a).1;have d:l[i]?=some l[i]:=G (by omega);have:=z8 i c b d;have:=c i (i+1) _ _ (by omega) d a;omega
theorem pe{z:Zn}(h:Cu z):lM (dA z) 256:=by
 intro k e;obtain⟨f,b⟩:=h.fr k e;have c:=h.pl;have d:∀y,y∈dA z k->0<=y:=λy a=>by have:=(b y a).1;have:=c.1;omega
 cases j:(dA z k).length with
  |zero=>exact a5 _
  |succ n=>have a:(dA z k)[n]?=some (dA z k)[n]:=G (by omega);have g:=z8 n f d a;have i:=(b _ (Y a)).2.1;have:=pw k;have:=c.2.2;omega
theorem zV(s:eK)(a g:Nat)(ls:List (List Int))(e:(cK s)[a]?=some (ls,()))(y:∀m,m∈ls->m.length<=5000){β k n:Type}{A:β->Prop}{B:k->Prop}{C:n->Prop}{Q:D (.ai de cQ)->Prop}(v:∀r,r.2.2.1≠0->Q r)(t:∀l f,ls[g]?=some (l++[f])->wY ls->Q ((s.1,s.2.1,s.2.2.1,cu s,(cK s).set a (ls.set g l,()),()),f,0,())):Ok (aC (aU s.2.2.2.2.1 (a:Int)) (am (az s.2.2.2.2.1 (a:Int)) λw0=>am (vd ((w0.1,()),(g:Int),())) λc=>ad (bF c.2.2.1 0) (ao (ao (ao (some (([],0,0,[],[],()),0,c.2.2.1,()))))) (aC (aU s.2.2.2.2.1 (a:Int)) (am (az s.2.2.2.2.1 (a:Int)) λu0=>ao (ao (ao (some ((s.1,s.2.1,s.2.2.1,s.2.2.2.1,aG s.2.2.2.2.1 (a:Int) (c.1.1,()),()),c.2.1,0,()))))))):Option (Sum β (Sum k (Sum n (D (.ai de cQ)))))) (gS A (gS B (gS C Q))):=by
 obtain⟨x0,b,h,v0,d,u⟩:=s;replace e:d[a]?=some (ls,()):=e;have j:a<d.length:=(aj.1 e).1;refine aq (eu (l:=d) j) (aa (aI e) (aZ (Rr ls g λm z0=>by have:=y m z0;omega) λc q=>aL (λy0=>bo (bo (bo (ab (v _ (iX y0)))))) λw=>?_));obtain⟨_,x,z,l,i,o,p⟩:=q (fq w);have i:g=z:=by omega
 subst i;refine aq (eu (l:=d) j) (aa (aI e) (bo (bo (bo ⟨_,rfl,?_⟩))));have:=t l c.2.1 o x;show Q ((x0,b,h,v0,aG d (a:Int) (c.1.1,()),()),c.2.1,0,());rw[iu,p];exact this
theorem K1{zl:List Zn}{n:Nat}(h:∀z,z∈zl->lM (dA z) n):∀z,z∈zl.map nz->lM (dA z) n:=by intro z c;obtain⟨y,b,rfl⟩:=vh.1 c;intro k a;rw[zq a];exact h y b k a
def N9(a:eK)(b:Nat)(r:D (.ai de cQ)):Prop:=r.2.2.1=0->tY (a,())=some ((0:Int),())/\Kz a/\(r.1.1=a.1/\ns r.1=ns a/\lT r.1=lT a)/\Tk ((cu a).map nz) (cK a) b r.2.1 (cu r.1) (cK r.1)
theorem RT(a:eK)(cpu:Nat)(kn:Bool)(hs:Sz a)(he:∀(i:Nat)(c:sR),i≠cpu->(cK a)[i]?=some c->∀l,l∈c.1->l=[]):Ok (yW (a,(cpu:Int),kn,false,())) (N9 a cpu):=by
 unfold yW;refine bg rfl ?_;unfold HW;refine pq (IA a hs) λx0 hE h0=>aL (λh=>ab λhr=>absurd hr (iX h)) λh=>?_;have ha:=h0 (fq h);have hE:tY (a,())=some ((0:Int),()):=by obtain⟨x0,u⟩:=x0;have:x0=0:=fq h;subst this;exact hE
 clear h0 h;refine aL (λ_=>ab λhr=>by cases hr) λ_=>aL (λ_=>ab λhr=>by cases hr) λg1=>?_;have g1:(cpu:Int)<ak (kY a):=qa g1;rw[aJ]at g1;have g1:cpu<(kY a).length:=by omega
 refine aZ (cL (l:=kY a) g1) λx1 _=>aZ (Ii (cu a) x1 kn) λx2 h2=>?_;obtain⟨h6,h2⟩:=h2;have err:∀r,r.2.2.1≠0->N9 a cpu r:=λr h1 h2=>absurd h2 h1;have hlen:∀z,z∈cu a->lM (dA z) 256:=λz hz=>pe (ha.mW z hz);have hcl:∀c,c∈cK a->∀l,l∈c.1->l.length<=64:=λc hc l hl=>by have:=(ha.cl c hc).2 l hl;have:=ha.bh.1;omega
 have hc6:∀c,c∈cK a->c.1.length<=6:=λc hc=>by rw[(ha.cl c hc).1];exact ha.nz.2
 have hcc:cpu<(cK a).length:=by rw[ha.nc];exact g1
 have hcn:(cK a).length<=4:=by rw[ha.nc];exact ha.nn.2
 have hzn:=ha.nz.2;refine aK (P:=λ_=>True) (bq (I:=λi s=>s.2=((i:Int),())) (m:=x2.1.length) rfl (by omega) ?_ ?_) λ_ _=>ab λhr=>by cases hr
 .
  rintro i⟨j,s2⟩hi rfl;refine bg (cD (l:=x2.1) hi) (aK (P:=λ_=>True) (aZ (cL (l:=x2.1) hi) λx4 h4=>?_) ?_)
  .
   obtain⟨z1,z2⟩:=h2 x4 (Y h4);obtain⟨zi,hzi⟩:∃zi:Nat,@Eq Int x4 (zi:Int):=⟨Int.toNat x4,(eG z1).symm⟩;subst hzi;have hzi:zi<(cu a).length:=by omega
   refine aZ (Rt a zi ha hs (by omega) (by omega)) λx5 _=>aL (λ_=>aV trivial) λ_=>?_;refine aq (cj (by show 0+(kY a).length<=10000;have:=ha.nn.2;omega) (by decide)) (aq (cj (by show 0+(cu a).length<=10000;omega) (by decide)) (aq (cj (by show 0+(cK a).length<=10000;omega) (by decide)) ?_));refine BC a (λz hz=>(hlen z hz).mono (by decide)) (by omega) (BD _ (by show(cK a).length<=1000;omega) (λc hc=>⟨by have:=hc6 c hc;omega,λl hl=>by have:=hcl c hc l hl;omega⟩) ?_);have hg:(cK a)[cpu]?=some (((cK a)[cpu]).1,()):=G hcc;generalize hls:((cK a)[cpu]).1=ls at hg;have hm:(ls,())∈cK a:=Y hg;have hzl:ls.length=(cu a).length:=(ha.cl _ hm).1;have hl64:∀l,l∈ls->l.length<=64:=hcl _ hm;have hg2:ls[zi]?=some (ls[zi]'(by omega)):=G (by omega);generalize hl0:ls[zi]'(by omega)=l0 at hg2;have hzz:((cu a).map nz)[zi]?=some (nz ((cu a)[zi])):=by rw[jc,G hzi];rfl
   refine aq (eu (l:=cK a) hcc) (aa (aI hg) (aa (aI hg2) (aL (λh0=>?_) λh0=>?_)))
   .
    have h0:=Dd h0;subst h0
    have rtake:∀(s:eK)(l:List Int)(z':Zn){β γ δ:Type}{A:β->Prop}{B:γ->Prop}{C:δ->Prop},s.1=a.1->ns s=ns a->lT s=lT a->yl (nz (cu a)[zi]) l z'->l.length<=64->cu s=((cu a).map nz).set zi z'->(cK s=cK a\/∃l0,ls[zi]?=some l0/\wY ls/\cK s=(cK a).set cpu (ls.set zi (l0++l.reverse),()))->Ok (aC (aU s.2.2.2.2.1 (cpu:Int)) (am (az s.2.2.2.2.1 (cpu:Int)) λx103=>am (vd ((x103.1,()),(zi:Int),())) λx104=>ad (bF x104.2.2.1 0) (ao (ao (ao (some (([],0,0,[],[],()),0,x104.2.2.1,()))))) (aC (aU s.2.2.2.2.1 (cpu:Int)) (am (az s.2.2.2.2.1 (cpu:Int)) λx105=>ao (ao (ao (some ((s.1,s.2.1,s.2.2.1,s.2.2.2.1,aG s.2.2.2.2.1 (cpu:Int) (x104.1.1,()),()),x104.2.1,0,()))))))):Option (Sum β (Sum γ (Sum δ (D (.ai de cQ)))))) (gS A (gS B (gS C (N9 a cpu)))):=by
     intro s l z' β γ δ A B C q1 q2 q3 hch h64 e1 e3;rcases e3 with e3|⟨l0,g2,hf,e3⟩;.refine zV s cpu zi ls (by rw[e3];exact hg) (λm hm=>by have:=hl64 m hm;omega) err λl' f h1 _=>?_;rw[hg2]at h1;have h1:=ej h1;exact absurd h1.symm (by simp)
     .
      rw[hg2]at g2;cases g2;have hcs:(cK s)[cpu]?=some (ls.set zi ([]++l.reverse),()):=by rw[e3];exact be hcc
      refine zV s cpu zi _ hcs (λm hm=>?_) err λl' f h1 _ _=>⟨hE,ha,⟨q1,q2,q3⟩,⟨zi,_,ls,[],hzz,hg,hg2,.inr ⟨rfl,l'.reverse,z',?_,?_,e1,?_⟩⟩⟩
      .
       rcases cO hm with hm|rfl;.have:=hl64 m hm;omega
       .rw[hT,eg];omega
      .
       rw[be (by omega)]at h1;have h1:l.reverse=l'++[f]:=ej h1;have:l=f::l'.reverse:=by rw[<-nA l,h1,List.reverse_append];rfl
       rw[<-this];exact hch
      .
       rw[be (by omega)]at h1;have h1:l.reverse=l'++[f]:=ej h1;have:l=f::l'.reverse:=by rw[<-nA l,h1,List.reverse_append];rfl
       rw[<-this];exact h64
      .show(cK s).set cpu ((ls.set zi ([]++l.reverse)).set zi l',())=_;rw[e3,eM,eM,nA]
    refine aZ (Ao _ cpu zi _ ls hzz hg (λk hk=>by rw[zq hk];have:=hlen _ (eF hzi) k hk;omega) (λm hm=>by have:=hl64 m hm;omega) (by have:=ha.bh;show ns a<=64;omega) (by show((cu a).map nz).length<=100;rw[db];omega)) λx61 h61=>?_;obtain⟨⟨q1,q2,q3⟩,⟨l,z',hch,h64,e1,e2,e3⟩⟩:=h61;refine aL (λhnb=>?_) λhnb=>?_
    .
     have hn:=Pi hnb;rw[e2]at hn;have hl:l=[]:=hX (by have:=jM hn;omega);subst hl
     have hz':z'=nz ((cu a)[zi]):=by generalize hq:([]:List Int)=q at hch;cases hch with
      |nil=>rfl
      |Gg _ _ _=>exact absurd hq.symm (by simp)
     subst hz';have e1:cu x61.1=(cu a).map nz:=e1.trans (ir hzz)
     have e3:cK x61.1=cK a:=by
      rcases e3 with e3|⟨l0,g2,_,e3⟩;.exact e3
      .rw[hg2]at g2;cases g2;refine e3.trans ?_;have e4:ls.set zi ([]++[].reverse)=ls:=ir hg2;rw[e4];exact ir hg
     refine aK (NF x61 cpu zi (by rw[e3];omega) λi c hi hc=>he i c hi (by rw[<-e3];exact hc)) λx72 h72=>?_;have h72:x72.1=x61.1:=h72;have q1:x72.1.1=a.1:=by rw[h72];exact q1
     have q2:ns x72.1=ns a:=by rw[h72];exact q2
     have q3:lT x72.1=lT a:=by rw[h72];exact q3
     have e1:cu x72.1=(cu a).map nz:=by rw[h72];exact e1
     have e3:cK x72.1=cK a:=by rw[h72];exact e3
     refine aZ (Ao x72 cpu zi _ ls (by rw[e1];exact hzz) (by rw[e3];exact hg) (λk hk=>by rw[zq hk];have:=hlen _ (eF hzi) k hk;omega) (λm hm=>by have:=hl64 m hm;omega) (by have:=ha.bh;show ns x72.1<=64;rw[q2];omega) (by rw[e1,db];omega)) λx99 h99=>?_;obtain⟨⟨r1,r2,r3⟩,⟨l,z',hch,h64,f1,f2,f3⟩⟩:=h99;rw[e3]at f3;exact rtake x99.1 l z' (r1.trans q1) (r2.trans q2) (r3.trans q3) hch h64 (by rw[<-e1];exact f1) f3
    .exact rtake x61.1 l z' q1 q2 q3 hch h64 e1 e3
   .
    obtain⟨f0,t0,e0⟩:=uR h0;have hne:l0≠[]:=by rw[e0];exact List.cons_ne_nil _ _
    refine zV (a.1,a.2.1,a.2.2.1,(cu a).map nz,cK a,()) cpu zi ls hg (λm hm=>by have:=hl64 m hm;omega) (Q:=N9 a cpu) err λl f h1 _ _=>⟨hE,ha,⟨rfl,rfl,rfl⟩,⟨zi,_,ls,l0,hzz,hg,hg2,.inl ⟨hne,rfl,l,?_,rfl⟩⟩⟩;rw[hg2]at h1;exact ej h1
  .rintro x109 _;exact⟨_,rfl,by show(ah .i64 (i:Int) 1,())=_;rw[bH (by omega)]⟩
 .rintro⟨j,s2⟩rfl;exact av (cU (l:=x2.1)) ⟨_,rfl,trivial⟩
structure SI (a : eK) (N : Int) : Prop where
  sz : Sz a
  e : ∀ (i : Nat) (c : sR), i ≠ 0 → (cK a)[i]? = some c → ∀ l, l ∈ c.1 → l = []
  n : tY (a, ()) = some ((0 : Int), ()) → D8 a N
theorem Tx{b:Zn}{l:List Int}{z:Zn}(h:yl b l z):∀g,g∈l->zs b<=g/\g<zs b+zc b:=by
 induction h with
  |nil=>intro g a;cases a
  | @Gg l z f o k t j m c n=>
  intro g a;rcases bR.1 a with a|a;.exact n g a
  .rcases cq.1 a with rfl;have d:=(m.fr k c.k4).2 g (by rw[c.hd];exact bX ..);obtain⟨e,i⟩:=LI j;have:=pw k;rw[<-e,<-i];exact⟨d.1,by have:=d.2.1;omega⟩
theorem Dw{a r:eK}{b:Int}(h:D8 a b)(f:(cu r).length=(cu a).length)(g:∀(i:Nat)(z:Zn),(cu a)[i]?=some z->∃z',(cu r)[i]?=some z'/\zs z'=zs z/\zc z'=zc z):D8 r b:=by obtain⟨z,k,j⟩:=h;obtain⟨z',c,d,e⟩:=g _ z k;exact⟨z',by rw[f];exact c,by rw[d,e];exact j⟩
theorem Jv{zl:List Zn}{i:Nat}{b:Zn}(h:(zl.map nz)[i]?=some b):∃z,zl[i]?=some z/\b=nz z:=by rw[jc]at h;cases a:zl[i]? with
 |none=>rw[a]at h;cases h
 |some z=>rw[a]at h;cases h;exact⟨z,rfl,rfl⟩
theorem O0{a:eK}{B:Int}(h:SI a B){r:D (.ai de cQ)}(i0:N9 a 0 r)(n0:r.2.2.1=0):SI r.1 B/\0<=(r.2.1:Int)/\(r.2.1:Int)<B:=by
 obtain⟨k0,n,⟨b0,a0,z9⟩,⟨t,y9,w0,c0,o0,t0,s0,j0⟩⟩:=i0 n0;have u:=h.n k0;obtain⟨z,p,rfl⟩:=Jv o0;have g0:t<(cu a).length:=(aj.1 p).1;have x:(w0,())∈cK a:=Y t0;have d0:0<(cK a).length:=(aj.1 t0).1;have x0:∀z,z∈cu a->lM (dA z) 256:=λz p=>pe (n.mW z p);have v:∀c,c∈cK a->∀l,l∈c.1->l.length<=64:=λc d l w=>by have:=(n.cl c d).2 l w;have:=n.bh.1;omega
 have q0:∀A:List (List Int),(∀m,m∈A->m.length<=64)->(∀c,c∈(cK a).set 0 (A,())->∀l,l∈c.1->l.length<=100000)/\∀(i:Nat)(c:sR),i≠0->((cK a).set 0 (A,()))[i]?=some c->∀l,l∈c.1->l=[]:=λA s=>by
  refine⟨λc d l w=>?_,λi c f d=>?_⟩
  .
   rcases cO d with d|rfl;.have:=v c d l w;omega
   .have:=s l w;omega
  .rw[bz λe=>f e.symm]at d;exact h.e i c f d
 have r0:∀(i:Nat)(y:Zn),(cu a)[i]?=some y->((cu a).map nz)[i]?=some (nz y):=λi y b=>by rw[jc,b];rfl
 rcases j0 with⟨_,g,l,rfl,q⟩|⟨rfl,l,p0,y0,l0,g,q⟩
 .
  have s:∀m,m∈w0.set t l->m.length<=64:=λm j=>by
   rcases cO j with j|rfl;.exact v _ x m j
   .have:=v _ x _ (Y s0);rw[ax]at this;omega
  obtain⟨v0,u0⟩:=q0 _ s;refine⟨⟨⟨λy b=>?_,λc d=>v0 c (by rw[<-q];exact d)⟩,λi c f d=>u0 i c f (by rw[<-q];exact d),λ_=>Dw u ?_ λi y b=>⟨nz y,?_,rfl,rfl⟩⟩,?_⟩;.rw[g]at b;exactλk o=>aM (K1 x0 y b k o) (by decide)
  .rw[g,db]
  .rw[g];exact r0 i y b
  .obtain⟨y,b,C,z0⟩:=n.cf _ x t _ s0 r.2.1 (cW _ (jE _));exact Lp n u b C z0
 .
  have s:∀m,m∈w0.set t l.reverse->m.length<=64:=λm j=>by
   rcases cO j with j|rfl;.exact v _ x m j
   .rw[eg];rw[bp]at l0;omega
  obtain⟨v0,u0⟩:=q0 _ s;obtain⟨f0,e0⟩:=LI y0
  have h0:lM (dA p0) 100000:=by
   have m0:lM (dA (nz z)) 256:=λk o=>by rw[zq o];exact x0 z (Y p) k o
   exact(Hq y0 m0).mono (by omega)
  refine⟨⟨⟨λy b=>?_,λc d=>v0 c (by rw[<-q];exact d)⟩,λi c f d=>u0 i c f (by rw[<-q];exact d),λ_=>Dw u ?_ λi y b=>?_⟩,?_⟩
  .
   rw[g]at b;rcases cO b with b|rfl;.exactλk o=>aM (K1 x0 y b k o) (by decide)
   .exact h0
  .rw[g,bx,db]
  .
   rw[g];by_cases f:i=t;.subst f;rw[p]at b;cases b;exact⟨p0,be (by rw[db];exact g0),f0,e0⟩
   .exact⟨nz y,by rw[bz λe=>f e.symm];exact r0 i y b,rfl,rfl⟩
  .obtain⟨C,z0⟩:=Tx y0 r.2.1 (bX ..);exact Lp n u p C z0
end Go.Bo
set_option maxHeartbeats 4000000
set_option maxRecDepth 100000
namespace Go.Bo
open Go Go.Ls
abbrev Kn:=D fS
abbrev yg:=D yo
abbrev FE:=D zO
abbrev QW:=D vW
def EZ(k:Kn):eK:=k.2.2.2.2.2.2.1
def rP(k:Kn):List yg:=k.2.2.2.2.2.2.2.1
def Yu(k:Kn):List fg:=k.2.2.2.2.2.2.2.2.2.1
def kc(k:Kn):List (D k5):=k.2.2.2.2.2.2.2.2.2.2.2.2.2.2.1
def PH(k:Kn):List FE:=k.2.2.2.2.2.2.2.2.2.2.2.2.2.2.2.2.2.1
def kv(c:D ce):List QW:=c.2.2.2.2.2.2.2.2.2.2.2.2.1
def DE(c:D ce):List fg:=c.2.2.2.2.2.2.2.2.2.2.2.1
def wI:yg:=(0,0,-1,-1,-1,-1,-1,-1,-1,0,false,false,false,0,[],[],())
def Sg(x:yg)(p i:Int):yg:=(1,x.2.1,p,i,x.2.2.2.2)
theorem s6{X:Type}{l:List X}{i:Int}{x:X}:aG l i x=l.set i.toNat x:=rfl
theorem pC{X:Type}{l:List X}{i:Int}(a:0<=i):az l i=l[i.toNat]?:=by obtain⟨n,rfl⟩:∃n:Nat,i=(n:Int):=⟨i.toNat,by omega⟩;rw[cY];rfl
def Gh(e:D jP):Int:=match yV (e,())with|some r=>r.1|none=>0
def nv(fi:List (D k5)):List Int:=fi.map λx=>Gh x.2.2.2.2.2.2.1
def Yj(p:QW)(t:D sB)(a:List Int):FE:=(0,0,-1,0,p.1,p.2.1,(0,0,0,0,(0,0,0,0,0,0,()),(),()),t,[],[],[],a,0,0,0,0,-1,())
def uP(c:D ce):List Int:=c.1
def Li(c:D ce)(t:D mw)(a:eK)(n:Nat)(sl:D yq)(ag:List (List Int))(so:D sY)(d:D yp)(fi:List (D k5))(b:D mJ):Kn:=(c,0,0,List.replicate (uP c).length (-1),List.replicate (uP c).length t,List.replicate (uP c).length [],a,List.replicate n wI,sl,DE c,[],ag,so,d,fi,b,[],[],[],[],())
structure K0(c:D ce)(k:Kn)(N:Int):Prop where ex:∃(t:D mw)(a:eK)(sl:D yq)(ag:List (List Int))(so:D sY)(po:D yp)(fi:List (D k5))(bl:List (List Int))(dv:D mJ)(e1 e2 e3 e4 e5 e6:Int),FM (c.2.2.2.2.1,())=some (t,e1,())/\HY (c.1,c.2.2.1,c.2.2.2.1,c.2.1,())=some (a,e2,())/\HX (a,())=some (N,())/\FL (c.2.2.2.2.2.2.2.2.2.1,())=some (sl,e3,())/\FK ()=some (ag,())/\BM (c.2.2.2.2.2.2.1,())=some (so,e4,())/\FJ (c.2.2.2.2.2.2.2.1,())=some (po,e5,())/\Kw (c,())=some (fi,bl,())/\Kv (c.2.2.2.2.2.1,bl,())=some (dv,e6,())/\k=Li c t a N.toNat sl ag so po fi dv
def A0(k:Kn)(i:Nat)(p:QW)(ac:List fg)(a:eK)(f:Int)(t:D sB):Kn:=(k.1,k.2.1,k.2.2.1,k.2.2.2.1,k.2.2.2.2.1,k.2.2.2.2.2.1,a,(rP k).set f.toNat (Sg (((rP k)[f.toNat]?).getD wI) p.1 (i:Int)),k.2.2.2.2.2.2.2.2.1,ac,k.2.2.2.2.2.2.2.2.2.2.1,k.2.2.2.2.2.2.2.2.2.2.2.1,k.2.2.2.2.2.2.2.2.2.2.2.2.1,k.2.2.2.2.2.2.2.2.2.2.2.2.2.1,k.2.2.2.2.2.2.2.2.2.2.2.2.2.2.1,k.2.2.2.2.2.2.2.2.2.2.2.2.2.2.2.1,k.2.2.2.2.2.2.2.2.2.2.2.2.2.2.2.2.1,PH k++[Yj p t (nv (kc k))],k.2.2.2.2.2.2.2.2.2.2.2.2.2.2.2.2.2.2.1,k.2.2.2.2.2.2.2.2.2.2.2.2.2.2.2.2.2.2.2.1,())
theorem Nu{k:Kn}{i:Nat}{p:QW}{ac:List fg}{a:eK}{f:Int}{t:D sB}:(rP (A0 k i p ac a f t)).length=(rP k).length:=bx ..
theorem Nt{k:Kn}{i:Nat}{p:QW}{ac:List fg}{a:eK}{f:Int}{t:D sB}:(PH (A0 k i p ac a f t)).length=(PH k).length+1:=ax ..
inductive nM(c:D ce)(k0:Kn):Nat->Kn->Prop where|zero:nM c k0 0 k0|succ{i k p ac a f t}{q e:Int}:nM c k0 i k->(kv c)[i]?=some p->yX (Yu k,p.1,(1:Int),())=some (ac,q,(0:Int),())->yW (EZ k,(0:Int),true,false,())=some (a,f,(0:Int),())->N9 (EZ k) 0 (a,f,(0:Int),())->0<=f->f.toNat<(rP k).length->vf (f,())=some (t,e,())->nM c k0 (i+1) (A0 k i p ac a f t)
theorem So(e:D jP):∃q,yV (e,())=some (Gh e,q):=by obtain⟨⟨n,q⟩,h,_⟩:=RR e;unfold Gh;rw[h];exact⟨q,rfl⟩
theorem ui{X:Type}{n:Nat}{x:X}:List.replicate n x++[x]=List.replicate (n+1) x:=by rw[jf]
structure KI (c : D ce) (k0 k : Kn) (i : Nat) (N : Int) : Prop where
  run : nM c k0 i k
  Qn : k.1 = c
  si : SI (EZ k) N
  fr : (rP k).length = N.toNat
  pr : (PH k).length = i
  fi : (kc k).length ≤ 4
theorem Pk{c:D ce}{k0:Kn}{d:Int}(B:xj c){i:Nat}{k:Kn}{j:Kn×Unit}(hi:i<(kv c).length)(a:KI c k0 k i d){P:(Kn×Unit)×Kn×Unit->Prop}{Q:D (.ai fS iU)->Prop}(z:∀n:Int,n≠0->Q (zK,n,())):Ok (AB c (j,k,(i:Int),())) (gS (λs=>s.2.2.1=((i+1:Nat):Int)/\KI c k0 s.2.1 (i+1) d) (gS P Q)):=by
 unfold AB;have m0:=B.np;have e:(kv c)[i]?=some (kv c)[i]:=G hi;generalize(kv c)[i]=p at e;have a0:i<8:=by have:List.length (kv c)<=8:=m0.2;omega
 have z9:=(B.prog p (Y e)).1;refine bg (cD (l:=kv c) hi) (aa (aI (l:=kv k.1) (by rw[a.Qn];exact e)) ?_);refine pq (It (Yu k) p.1 1) λd0 s0 _=>aL (λ_=>bo (bo (ab (z _ (by show(17:Int)≠0;decide))))) λm=>?_;refine pq (RT (EZ k) 0 true a.si.sz a.si.e) λc0 r0 A=>aL (λ_=>bo (bo (ab (z _ (by show(16:Int)≠0;decide))))) λo=>?_;obtain⟨w0,q,v0,x9⟩:=d0;have m:v0=0:=fq m;subst m;obtain⟨x0,f,u0,w9⟩:=c0;have o:u0=0:=fq o;subst o;obtain⟨g0,b,w⟩:=O0 a.si A rfl;replace b: @LE.le Int _ 0 f:=b;replace w: @LT.lt Int _ f d:=w;have p0:=a.fr;have h:Int.toNat f<(rP k).length:=by omega
 have v:∀l:List yg,l.length=(rP k).length->aU l f=true:=λl o0=>qA b (by rw[aJ,o0];omega);have g:(rP k)[Int.toNat f]?=some (rP k)[Int.toNat f]:=G h;generalize y9:(rP k)[Int.toNat f]=x at g;have y0:∀y:yg,az ((rP k).set (Int.toNat f) y) f=some y:=λy=>by rw[pC b];exact be h
 refine aq (v _ rfl) (aa ((pC b).trans g) (aq (v _ jt) (aa (y0 _) (aq (v _ (by rw[jt,jt];rfl)) (aa (x:=(1,x.2.1,p.1,x.2.2.2)) ?_ ?_)))));.show az (((rP k).set (Int.toNat f) _).set (Int.toNat f) _) f=_;rw[eM];exact y0 _
 obtain⟨⟨e0,b0,v9⟩,z0,_⟩:=RS f;refine aa z0 ?_;have q0:List.length (kc k)<=4:=a.fi;refine aK (P:=λs:List Int×Unit=>s.1=nv (kc k)) (bq (I:=λj s=>s=(((kc k).take j).map λx=>Gh x.2.2.2.2.2.2.1,(j:Int),())) (m:=(kc k).length) rfl (by omega) ?_ ?_) ?_;.rintro j s C rfl;have t:(kc k)[j]?=some (kc k)[j]:=G C;generalize(kc k)[j]=y at t;obtain⟨q,j0⟩:=So y.2.2.2.2.2.2.1;refine bg (cD (l:=kc k) C) (aa (aI t) (aa j0 (aq (cj (by rw[db,aR];show min j (kc k).length+1<=10000;omega) (by decide)) ⟨_,rfl,?_⟩)));show(((kc k).take j).map _++[Gh y.2.2.2.2.2.2.1],ah .i64 (j:Int) 1,())=_;rw[<-dw t,rB,bH (by omega)];rfl
 .rintro s rfl;refine av (cU (l:=kc k)) ⟨_,rfl,?_⟩;show((kc k).take (kc k).length).map _=_;rw[bN];rfl
 rintro⟨f0,u9⟩u;have u:f0=nv (kc k):=u;subst u;have l0:=a.pr;refine aq (cj (by show 0+List.length p.2.1<=10000;omega) (by decide)) (aq (cj (by show(PH k).length+1<=10000;omega) (by decide)) (aV ?_));have t0:ah .i64 (i:Int) 1=((i+1:Nat):Int):=bH (by omega);apply And.intro;.dsimp only;exact t0
 have i0:=nM.succ a.run e s0 r0 A b h z0;have r:KI c k0 (A0 k i p w0 x0 f e0) (i+1) d:=⟨i0,a.Qn,g0,Nu.trans p0,Nt.trans (by rw[l0]),q0⟩;have h0:aG (aG (aG (rP k) f (1,x.2)) f (1,x.2.1,p.1,x.2.2.2)) f (1,x.2.1,p.1,(i:Int),x.2.2.2.2)=(rP k).set f.toNat (Sg (((rP k)[f.toNat]?).getD wI) p.1 (i:Int)):=by rw[g,s6,s6,s6,eM,eM];rfl
 have n0:(rP k).set f.toNat (Sg (((rP k)[f.toNat]?).getD wI) p.1 (i:Int))=aG (aG (aG (rP k) f (1,x.2)) f (1,x.2.1,p.1,x.2.2.2)) f (1,x.2.1,p.1,(i:Int),x.2.2.2.2):=h0.symm;unfold A0 at r;rw[n0]at r;exact r
def PM(c:D ce)(n:Nat)(t:D mw)(a:eK)(fr:List yg):Kn:=(c,0,0,List.replicate n (-1),List.replicate n t,List.replicate n [],a,fr,(0,[],()),[],[],[],[],(0,[],()),[],(0,0,[],[],[],()),[],[],[],[],())
theorem jp{α σ:Type}{Q:α->Prop}{o:Option (Sum σ α)}{b:σ}{K:σ->Option α}(h:o=some (.inl b))(a:Ok (K b) Q):Ok (aE o K) Q:=by rw[h];exact a
theorem UX{α β σ:Type}{f:σ->Option (Sum σ (Sum β α))}(st:Nat->σ)(m:Nat){a:Nat}{x:σ}{b:β}(e:x=st 0)(k:m<a)(l:∀i,i<m->Ok (f (st i)) λr=>r= .inl (st (i+1)))(g:Ok (f (st m)) λr=>r= .inr (.inl b)):aF f a x=some (.inl b):=by have:Ok (aF f a x) λr=>r= .inl b:=bq (I:=λi s=>s=st i) (m:=m) e k (λi s j c=>by subst c;exact(l i j).mono λy d=>by subst d;rfl) (λs c=>by subst c;exact g.mono λy d=>by subst d;rfl);obtain⟨y,h,rfl⟩:=this;exact h
theorem Po{β:Type}(c:D ce){t:D mw}{f:Int}(h:FM (c.2.2.2.2.1,())=some (t,f,()))(k:(uP c).length<=20):SN (β:=β) c c=some (.inl (PM c (uP c).length t ([],0,0,[],[],()) [],())):=by
 unfold SN;have d:∀{e:Type}{i:Nat}{x y:e}{b:Nat},i<(uP c).length->b<=1000->a4 (List.replicate i x) [y] b=true:=λa g=>cj (by rw[aN];show _+1<=10000;omega) g;refine UX (λi=>(PM c i t ([],0,0,[],[],()) [],(i:Int),())) (uP c).length rfl (by omega) (λi a=>?_) ?_;.have j:a4 (List.replicate i (-1:Int)) [-1] 8=true:=d a (by decide);refine bg (cD (l:=uP c) a) (aa h (aq j (aq (d (b:=32) a (by decide)) (aq (d (b:=24) a (by decide)) ⟨_,rfl,?_⟩))));show Sum.inl ((c,0,0,List.replicate i (-1)++[-1],List.replicate i t++[t],List.replicate i []++[[]],_),ah .i64 (i:Int) 1,())=_;rw[ui,ui,ui,bH (by omega)];rfl
 .exact av (cU (l:=uP c)) ⟨_,rfl,rfl⟩
theorem P0{β:Type}(c:D ce)(n:Nat)(t:D mw)(a:eK){b:Int}(d:0<=b)(h1:b<=256):Te (β:=β) (PM c n t ([],0,0,[],[],()) []) a b=some (.inl (PM c n t a (List.replicate b.toNat wI),())):=by
 unfold Te;refine UX (λi=>(PM c n t a (List.replicate i wI),(i:Int),())) b.toNat rfl (by omega) (λi e=>?_) ?_;.refine bg (eJ (show(i:Int)<b by omega)) (aa (x:=(wI,())) rfl (aq (cj (l:=List.replicate i wI) (r:=[wI]) (by rw[aN];show i+1<=10000;omega) (by decide)) ⟨_,rfl,?_⟩));show Sum.inl ((c,0,0,_,_,_,a,List.replicate i wI++[wI],_),ah .i64 (i:Int) 1,())=_;rw[ui,bH (by omega)];rfl
 .exact av (cE (show b<=((b.toNat:Nat):Int)by omega)) ⟨_,rfl,rfl⟩
theorem K2{c:D ce}{k:Kn}{j:Kn×Unit}{A:(Kn×Unit)×Kn×Int×Unit->Prop}{Q:D (.ai fS iU)->Prop}(b:k.1=c){R:Kn->Prop}(a:R k):Ok (AB c (j,k,((kv c).length:Int),())) (gS A (gS (λs=>R s.2.1) Q)):=by unfold AB;exact av (cU (l:=kv c)) ⟨_,rfl,a⟩
theorem RK(c:D ce)(p0:yj (c,())=some ((0:Int),()))(e:xj c)(w:1<=(ga c:Int)/\(ga c:Int)<=256){Q:D (.ai fS iU)->Prop}(l0:∀k0 d,K0 c k0 d->KI c k0 k0 0 d->Ok (aE (aF (AB c) 1000000000 ((zK,()),k0,(0:Int),())) λg0=>some (g0.2.1,(0:Int),())) Q):Ok (zj (c,())) Q:=by
 unfold zj;have m:=e.qx;refine aa p0 (av rfl (aa (wZ m) (aa (lF m) (aa (uy _) (av ?_ ?_)))));.show bI (aO 1 256 (ga c:Int))=false;unfold aO;rw[ar w.1,ar w.2];rfl
 obtain⟨⟨b,c0⟩,s0,g⟩:=Uk c e;have g:b=c:=g;subst g;refine aa s0 ?_;obtain⟨⟨t,w0,b0⟩,x,_⟩:=Uj b.2.2.2.2.1;have h0:(uP b).length<=20:=by have:=e.AC;unfold ij at this;simp only[ae]at this;have:=dt this.1;show List.length b.1<=20;omega
 refine jp (Po b x h0) ?_;have o0:List.length b.1<=4:=by have:=e.AC;unfold ij at this;simp only[ae]at this;have:=dt this.1;omega
 have n0:List.length b.2.1<=6:=by have:=e.Ea;unfold gM at this;simp only[ae]at this;have:=dt this.1;omega
 obtain⟨⟨a,v0,a0⟩,y,j,_⟩:=Ui b.1 b.2.2.1 b.2.2.2.1 b.2.1 o0 n0;have j:MI a 256:=j;refine aa y ?_;obtain⟨⟨d,z9⟩,z,⟨r,s⟩,m0⟩:=Uh a (j.sz (by decide));refine aa z ?_;replace r: @LE.le Int _ 0 d:=r;replace s: @LE.le Int _ d 256:=s;refine jp (P0 b _ t a r s) ?_;obtain⟨⟨o,u0,y9⟩,A,_⟩:=Ug b.2.2.2.2.2.2.2.2.2.1;refine aa A ?_;have f0:List.length (DE b)<=8:=(tP e.kl).1;refine aq (cj (by show 0+List.length (DE b)<=10000;omega) (by decide)) ?_;obtain⟨⟨k,x9⟩,B,_⟩:=Uf;refine aa B ?_;obtain⟨⟨p,t0,w9⟩,C,_⟩:=Ue b.2.2.2.2.2.2.1;refine aa C ?_;obtain⟨⟨n,r0,v9⟩,z0,_⟩:=Ud b.2.2.2.2.2.2.2.1;refine aa z0 ?_;obtain⟨⟨f,q,u9⟩,y0,u,h⟩:=Uc b m;have u:List.length f<=4:=u;have h:Cn b q (dZ b).length 0:=h;refine aa y0 ?_;have v:1<=(b.2.2.2.2.2.1:Int)/\(b.2.2.2.2.2.1:Int)<=16:=by have:=m;unfold dh mY at this;simp only[ae]at this;exact dt this.1.2.2.2.1
 obtain⟨⟨l,q0,t9⟩,x0,_⟩:=Ub b.2.2.2.2.2.1 q v.1 v.2 (by rw[h.len];omega) (by rw[h.len];omega) h.all;refine aa x0 ?_;have j0:K0 b (Li b t a d.toNat o k p n f l) d:=⟨t,a,o,k,p,n,f,q,l,w0,v0,u0,t0,r0,q0,x,y,z,A,B,C,z0,y0,x0,rfl⟩;have d0:=e.np;have i0:KI b (Li b t a d.toNat o k p n f l) (Li b t a d.toNat o k p n f l) 0 d:=⟨.zero,rfl,⟨j.sz (by decide),λi c e0 g=>j.e i c (by omega) g,m0⟩,aN,rfl,u⟩;exact l0 _ _ j0 i0
open Go.Hm Go.Proofs
def Bt:List Kd:=[.v lI,.v iT,.v iT,.o eI,.o fA]
def yG:Tr (Tr (List Hi)):=ht [(182,hs [(0,[]),(1,kp [0,1,7] [.val 8 iT])]),(106,Tr.e),(179,Tr.e),(107,Tr.e),(116,hs [(0,[.own 5 iT]),(1,.bE 1:: .own 5 iT::kp [8,9] [.val 10 iT])]),(117,Tr.e),(119,hs [(0,[.own 5 pW]),(1,.bE 1:: .own 5 pW::kp [8,9] [.val 10 iT])]),(120,Tr.e),(122,hs [(0,[.own 5 vW]),(1,.bE 1:: .own 5 vW::kp [8,9] [.val 10 iT])]),(123,Tr.e),(230,hs [(0,[]),(1,kp [0,1,7] [.val 8 iT])]),(186,Tr.e),(187,Tr.e),(237,hs [(0,[]),(1,kp [0,1,7] [.val 8 iT])]),(238,Tr.e),(189,Tr.e),(236,hs [(0,[.mp 3]),(1,.mp 3::kp [10,11] [.val 12 iT]),(2,.mp 3::kp [10,11,12] []),(4,.mp 3::kp [10,11,12] []),(5,.mp 3::kp [10,11,12,16,17] [.val 18 iT])]),(293,hs [(0,[.rw 0 iT]),(1,.rw 0 iT::kp [1,2,3] [.val 8 iT]),(2,.rw 0 iT::kp [1,2,3,8] []),(4,.rw 0 iT::kp [1,2,3,8] []),(5,.rw 0 iT::kp [1,2,3,8] [.val 9 iT])]),(275,hs [(0,.rw 0 iT::kp [1,2,6] [.val 7 iT]),(1,.rw 0 iT::kp [1,2,6] [.val 7 iT,.val 8 iT]),(4,[.rw 0 iT]),(5,.rw 0 iT::kp [1,2] [.val 6 iT]),(6,.rw 0 iT::kp [1,2] [.val 6 iT]),(8,.rw 0 iT::kp [1,2,6] [.val 7 iT]),(9,.rw 0 iT::kp [1,2,6] [.val 7 iT,.val 8 iT])]),(244,Tr.e),(242,Tr.e),(245,Tr.e),(279,Tr.e),(204,hs [(0,[.box 1 Bt,.bE 2]),(1,.box 1 Bt::kp [2,22] [.val 23 iT]),(2,.box 1 Bt::kp [2,22,23] []),(6,.box 1 Bt::kp [2,3,22,23,26] []),(8,[.box 1 Bt,.bE 2]),(9,.box 1 Bt::kp [2,49] [.val 50 iT]),(10,.box 1 Bt::kp [2,49,50] []),(12,kp [1,2,5] (.own 6 lI::kp [49,50] [])),(13,kp [1,2,5] (.own 6 lI::kp [49,50,61] [.val 62 iT]))]),(205,hs [(0,.box 0 Bt::kp [1,2] [.own 7 iT]),(1,.box 0 Bt::kp [1,2] [.own 7 iT,.bE 16,.val 17 iT])]),(206,Tr.e),(254,hs [(0,[.box 0 Bt]),(1,.box 0 Bt::kp [1,10,11] [.val 12 iT])]),(137,hs [(0,[.own 5 iT]),(1,.bE 1:: .own 5 iT::kp [8,9] [.val 10 iT])]),(138,Tr.e),(55,Tr.e),(234,Tr.e),(277,Tr.e),(252,hs [(0,kp [1,2,3] [.box 6 [.v fA],.mp 9]),(1,kp [1,2,3] (.box 6 [.v fA]:: .mp 9::kp [23,24] [.val 25 iT])),(4,kp [1,3,6] [.own 12 iT]),(5,kp [1,2,3,6] [.own 12 iT,.bE 55,.val 56 iT])]),(23,Tr.e)]
def XC(x:D (.ai ce iU)):Option (D iU):=am (yj (x.1,())) λa=>ad (bF a.1 0) (some (-1,())) (am (mV (x.2.1,0,bb .i64 (ak x.1.2.2.2.2.2.2.2.2.2.2.1) 1,())) λb=>ad (bI b.1) (some (-1,())) (am (FN (x.1,())) λc=>am (az c.1 x.2.1) λd=>some (d,())))
def k17:=kB yG Yv 17 Tryz.f17 Tr.e XC
def XB(x:D (.ai ce cQ)):Option (D iU):=am (yj (x.1,())) λa=>ad (bF a.1 0) (some (-1,())) (am (mV (x.2.1,0,bb .i64 (ak x.1.2.2.2.2.2.2.2.2.2.2.1) 1,())) λb=>ad (bI b.1) (some (-1,())) (am (az x.1.2.2.2.2.2.2.2.2.2.2.1 x.2.1) λc=>am (mV (x.2.2.1,0,bb .i64 c.1 1,())) λd=>ad (bI d.1) (some (-1,())) (am (FN (x.1,())) λe=>am (az e.1 x.2.1) λf=>some (ah .i64 (ah .i64 f 1) x.2.2.1,()))))
def k19:=kB yG k17 19 Tryz.f19 Tr.e XB
def F21(x:D (.ai ce iU)):Option (D iU):=am (yj (x.1,())) λa=>ad (bF a.1 0) (some (-1,())) (am (mV (x.2.1,0,bb .i64 x.1.2.2.2.2.2.2.1 1,())) λb=>ad (bI b.1) (some (-1,())) (am (FN (x.1,())) λc=>am (az c.1 (ak x.1.2.2.2.2.2.2.2.2.2.2.1)) λd=>some (ah .i64 d x.2.1,())))
def k21:=kB yG k19 21 Tryz.f21 Tr.e F21
def F6(x:D (.ai ce .un)):Option (D bU):=am (zj (x.1,())) λg=>am (IJ (x.1,())) λi=>ad (bI i.1) (some (true,())) (ad (bF g.2.1 0) (some (true,())) (aC (gw (ak g.1.2.2.2.2.2.2.2.2.2.2.2.2.2.2.2.1.2.2.1) (ak g.1.2.2.2.2.2.2.2.2.2.2.2.2.2.2.2.1.2.2.1) 1) (aE (aF (λa=>ad (ay a.2.1 (ak x.1.2.2.2.2.2.2.2.2.2.2.1)) (aE (am (az x.1.2.2.2.2.2.2.2.2.2.2.1 a.2.1) λh=>am (XC (x.1,a.2.1,())) λe=>ad (ay e.1 0) (ao (ao (ao (some (false,()))))) (ad (cH (ak a.1.1) e.1) (ao (ao (ao (some (false,()))))) (aC (aU a.1.1 e.1) (am (az a.1.1 e.1) λn=>ad n (ao (ao (ao (some (false,()))))) (aC (aU a.1.1 e.1) (am (az a.1.1 e.1) λs=>ad (ay 16 h.1) (ao (ao (ao (some (false,()))))) (aE (aF (λc=>ad (ay c.2.1 h.1) (am (XB (x.1,a.2.1,c.2.1,())) λf=>ad (ay f.1 0) (ao (ao (ao (ao (ao (some (false,()))))))) (ad (cH (ak c.1.1) f.1) (ao (ao (ao (ao (ao (some (false,()))))))) (aC (aU c.1.1 f.1) (am (az c.1.1 f.1) λo=>ad o (ao (ao (ao (ao (ao (some (false,()))))))) (aC (aU c.1.1 f.1) (am (az c.1.1 f.1) λp=>some (.inl ((aG c.1.1 f.1 true,()),ah .i64 c.2.1 1,())))))))) (ao (some (.inl ((c.1.1,()),()))))) 1000000000 ((aG a.1.1 e.1 true,()),0,())) λj=>some (.inl ((j.1.1,()),()))))))))) λk=>some (.inl ((k.1.1,()),ah .i64 a.2.1 1,()))) (ao (some (.inl ((a.1.1,()),()))))) 1000000000 ((eh (ak g.1.2.2.2.2.2.2.2.2.2.2.2.2.2.2.2.1.2.2.1) false,()),0,())) λl=>ad (ay 64 x.1.2.2.2.2.2.2.1) (some (false,())) (aE (aF (λb=>ad (ay b.2.1 x.1.2.2.2.2.2.2.1) (am (F21 (x.1,b.2.1,())) λd=>ad (ay d.1 0) (ao (ao (some (false,())))) (ad (cH (ak b.1.1) d.1) (ao (ao (some (false,())))) (aC (aU b.1.1 d.1) (am (az b.1.1 d.1) λm=>ad m (ao (ao (some (false,())))) (aC (aU b.1.1 d.1) (am (az b.1.1 d.1) λq=>some (.inl ((aG b.1.1 d.1 true,()),ah .i64 b.2.1 1,())))))))) (ao (some (.inl ((b.1.1,()),()))))) 1000000000 ((l.1.1,()),0,())) λr=>some (true,())))))
theorem e6:ft.ext.ap 6=none:=by kernel_rfl
def k6:=kB yG k21 6 Tryz.f6 (hs [(0,[.bE 1,.box 5 [.o .bool],.bE 6]),(1,.bE 1:: .box 5 [.o .bool]::kp [6,31,32] [.val 33 iT]),(2,.bE 1:: .box 5 [.o .bool]::kp [6,31,32,33] []),(4,.bE 1:: .box 5 [.o .bool]::kp [6,31,32,33] []),(5,.bE 1:: .box 5 [.o .bool]::kp [6,7,31,32,33,50] [.val 51 iT]),(8,[.box 5 [.o .bool]]),(9,.bE 1:: .box 5 [.o .bool]::kp [6,67] [.val 68 iT])]) F6
def F7(x:D (.ai ce .un)):Option (D bU):=am (zj (x.1,())) λa=>am (IJ (x.1,())) λg=>ad (bI g.1) (some (true,())) (ad (bF a.2.1 0) (some (true,())) (ad (bF (ak a.1.2.2.2.2.2.2.2.2.2.2.2.2.2.2.2.2.2.1) (ak x.1.2.2.2.2.2.2.2.2.2.2.2.2.1)) (some (false,())) (ad (aY (ak a.1.2.2.2.2.2.2.2.2.2.1) 0) (some (false,())) (am (az a.1.2.2.2.2.2.2.2.2.2.1 0) λk=>ad (bF k.2.1 (ak a.1.2.2.2.2.2.2.2.2.2.2.2.2.2.2.2.2.2.1)) (some (false,())) (aC (gw (ak a.1.2.2.2.2.2.2.2.1) (ak a.1.2.2.2.2.2.2.2.1) 8) (aE (aF (λb=>ad (ay b.2.1 (ak a.1.2.2.2.2.2.2.2.2.2.2.2.2.2.2.2.2.2.1)) (am (az a.1.2.2.2.2.2.2.2.2.2.2.2.2.2.2.2.2.2.1 b.2.1) λc=>ad (ay c.2.2.2.2.2.2.2.1.1 0) (ao (ao (some (false,())))) (ad (cH (ak b.1) c.2.2.2.2.2.2.2.1.1) (ao (ao (some (false,())))) (am (az a.1.2.2.2.2.2.2.2.1 c.2.2.2.2.2.2.2.1.1) λl=>ad (bF l.1 1) (ao (ao (some (false,())))) (am (az a.1.2.2.2.2.2.2.2.1 c.2.2.2.2.2.2.2.1.1) λm=>ad (bF m.2.2.2.1 b.2.1) (ao (ao (some (false,())))) (am (az a.1.2.2.2.2.2.2.2.1 c.2.2.2.2.2.2.2.1.1) λn=>ad (bF n.2.2.1 c.2.2.2.2.1) (ao (ao (some (false,())))) (aC (aU b.1 c.2.2.2.2.2.2.2.1.1) (am (az b.1 c.2.2.2.2.2.2.2.1.1) λo=>aC (aU b.1 c.2.2.2.2.2.2.2.1.1) (am (az b.1 c.2.2.2.2.2.2.2.1.1) λq=>some (.inl (aG b.1 c.2.2.2.2.2.2.2.1.1 (ah .i64 o 1),ah .i64 b.2.1 1,())))))))))) (ao (some (.inl (b.1,()))))) 1000000000 (eh (ak a.1.2.2.2.2.2.2.2.1) 0,0,())) λe=>aE (aF (λd=>ad (ay d.1 (ak a.1.2.2.2.2.2.2.2.1)) (am (az a.1.2.2.2.2.2.2.2.1 d.1) λf=>aC (aU e.1 d.1) (am (az e.1 d.1) λh=>ad (ay 1 h) (ao (ao (some (false,())))) (aC (aU e.1 d.1) (am (az e.1 d.1) λi=>ad (bI (wL (aY i 0) (aY f.1 0))) (ao (ao (some (false,())))) (aC (aU e.1 d.1) (am (az e.1 d.1) λj=>ad (aY j 0) (ad (bF f.2.2.1 (-1)) (ao (ao (some (false,())))) (some (.inl (ah .i64 d.1 1,())))) (some (.inl (ah .i64 d.1 1,()))))))))) (ao (some (.inl ())))) 1000000000 (0,())) λp=>some (true,())))))))
theorem e7:ft.ext.ap 7=none:=by kernel_rfl
def k7:=kB yG k6 7 Tryz.f7 (hs [(0,[.bE 3,.own 5 iT]),(1,.bE 3:: .own 5 iT::kp [53,54] [.val 55 iT]),(4,[]),(5,kp [5,109,110] [.val 111 iT])]) F7
def F24(x:D (.ai (.bw (.int .u8)) .un)):Option (D (.ai iT cQ)):=ad (bF (ak x.1) 32) (some (0,0,3,())) (am (az x.1 4) λb=>am (az x.1 5) λc=>am (az x.1 6) λd=>am (Ku (ee .i64 b,ah .i64 (ee .i64 c) (ea .i64 256 (ee .i64 d)),())) λe=>ad (bF e.2.1 0) (some (0,0,22,())) (aE (aF (λa=>ad (ay a.1 (ak x.1)) (am (az x.1 a.1) λf=>am (az e.1 a.1) λg=>ad (bF f g) (ao (ao (some (0,0,22,())))) (some (.inl (ah .i64 a.1 1,())))) (ao (some (.inl ())))) 1000000000 (0,())) λh=>some (ee .i64 b,ah .i64 (ee .i64 c) (ea .i64 256 (ee .i64 d)),0,())))
def k24:=kB yG k7 24 Tryz.f24 (hs [(0,kp [5,6] []),(1,kp [0,5,6,7] [.val 9 iT])]) F24
def F25(x:D (.ai (.bw (.int .u8)) (.ai (.bw (.int .u8)) .un))):Option (D bU):=aC (qy x.1) (aC (qy x.2.1) (some (P4 (CK x.1) (CK x.2.1),())))
def k25:=kB yG k24 25 Tryz.f25 Tr.e F25
def F8(x:D (.ai ce .un)):Option (D bU):=am (zj (x.1,())) λd=>am (IJ (x.1,())) λh=>ad (bI h.1) (some (true,())) (ad (bF d.2.1 0) (some (true,())) (aE (aF (λc=>ad (ay c.1 (ak x.1.2.2.2.2.2.2.2.2.2.2.1)) (aE (am (az x.1.2.2.2.2.2.2.2.2.2.2.1 c.1) λe=>am (XC (x.1,c.1,())) λf=>ad (ay f.1 0) (ao (ao (ao (some (false,()))))) (ad (cH (ak d.1.2.2.2.2.2.2.2.2.2.2.2.2.2.2.2.1.2.2.1) f.1) (ao (ao (ao (some (false,()))))) (am (az d.1.2.2.2.2.2.2.2.2.2.2.2.2.2.2.2.1.2.2.1 f.1) λj=>am (F24 (j,())) λb=>ad (bF b.2.2.1 0) (ao (ao (ao (some (false,()))))) (ad (bF b.1 (oI .i64 (ak e.2.1) 32)) (ao (ao (ao (some (false,()))))) (aC (cR b.1) (ad (bF b.2.1 (bb .i64 (fj .i64 1 b.1) 1)) (ao (ao (ao (some (false,()))))) (aE (aF (λa=>ad (ay a.1 b.1) (am (XB (x.1,c.1,a.1,())) λg=>ad (ay g.1 0) (ao (ao (ao (ao (ao (some (false,()))))))) (ad (cH (ak d.1.2.2.2.2.2.2.2.2.2.2.2.2.2.2.2.1.2.2.1) g.1) (ao (ao (ao (ao (ao (some (false,()))))))) (am (az d.1.2.2.2.2.2.2.2.2.2.2.2.2.2.2.2.1.2.2.1 g.1) λk=>aC (dx (ea .i64 a.1 32) (ea .i64 (ah .i64 a.1 1) 32) (ak e.2.1)) (am (F25 (k,eS e.2.1 (ea .i64 a.1 32) (ea .i64 (ah .i64 a.1 1) 32),())) λi=>ad (bI i.1) (ao (ao (ao (ao (ao (some (false,()))))))) (some (.inl (ah .i64 a.1 1,()))))))) (ao (some (.inl ())))) 1000000000 (0,())) λl=>some (.inl ())))))))) λm=>some (.inl (ah .i64 c.1 1,()))) (ao (some (.inl ())))) 1000000000 (0,())) λn=>some (true,())))
theorem n8:ft.fn.ap 8=some Tryz.f8:=by kernel_rfl
theorem e8:ft.ext.ap 8=none:=by kernel_rfl
def k8:=kB yG k25 8 Tryz.f8 (hs [(0,[]),(1,kp [1,3,27,28] [.val 29 iT]),(2,kp [1,3,27,28,29] []),(4,kp [1,3,27,28,29] []),(5,kp [1,3,5,6,27,28,29,75] [.val 76 iT])]) F8
end Go.Bo
set_option maxHeartbeats 4000000
namespace Go.Bo
open Go Go.Ls
section
variable{c:D ce}(h12:yj (c,())=some ((0:Int),()))(hs:dh c=true)
include h12 hs
end
end Go.Bo
set_option maxHeartbeats 4000000
namespace Go.Bo
open Go Go.Ls
theorem NB(s:ByteArray):P4 s s=true:=by unfold P4;first|exact ar rfl|simp
theorem PT{n:Int}(h:(Lit.int .u8 n).wf=true):0<=n:=by have h:(decide (IntKind.min .u8<=n)&&decide (n<=IntKind.max .u8))=true:=h;rw[ae]at h;exact br h.1
def cv(z:Zn)(g:Int):Prop:=∃(j:Nat)(x:Int),j<=4/\x∈dA z j/\x<=g/\g<x+2^j
structure Dj(z:Zn):Prop where so:∀k,k<=4->iy (dA z k)dj:∀j k,j<=4->k<=4->∀x y,x∈dA z j->y∈dA z k->(j=k->x≠y)->x+2^j<=y\/y+2^k<=x
theorem W0{z:Zn}(h:vT (dA z)):Dj z:=⟨h.1,h.2⟩
theorem v7{f:Int}{t:List Int}(h:iy (f::t)):iy t/\∀x,x∈t->f<x:=by refine⟨λi j x y d a c=>h (i+1) (j+1) x y (by omega) a c,λx a=>?_⟩;obtain⟨i,b,rfl⟩:=sT.1 a;exact h 0 (i+1) f _ (by omega) rfl (G b)
theorem Ge{x:Int}:iy [x]:=λi j a b e d c=>by have:=(aj.1 c).1;simp only[eE]at this;omega
theorem qp{z z':Zn}{f:Int}{k:Nat}{t:List Int}(hd:Dj z)(h:CD z f z' k t){j:Nat}{x:Int}(d:j≤4):x∈dA z' j↔x∈dA z j∧(j=k→x≠f)∨j<k∧x=f+2^j:=by
 rw[h.z',wq d];unfold TH;by_cases b:j<k
 ·
  rw[aA b,h.lo j b];constructor;·intro a;exact .inr ⟨b,cq.1 a⟩
  ·
   rintro(⟨a,_⟩|⟨_,rfl⟩);·cases a
   ·exact jE _
 ·
  rw[aB b];by_cases c:j=k
  ·
   rw[aA c];subst c;rw[h.hd];have l:=v7 (by rw[←h.hd];exact hd.so j d);constructor;·intro a;exact .inl ⟨cT _ a,fun _=>by have:=l.2 x a;omega⟩
   ·
    rintro(⟨a,i⟩|⟨g,_⟩)
    ·
     rcases cm.1 a with rfl|a;·exact absurd rfl (i rfl)
     ·exact a
    ·omega
  ·
   rw[aB c];constructor;·intro a;exact .inl ⟨a,fun e=>absurd e c⟩
   ·
    rintro(⟨a,_⟩|⟨g,_⟩);·exact a
    ·omega
theorem Wb{j k:Nat}(h:j<=k):(2:Int)^j<=2^k:=by obtain⟨d,rfl⟩:∃d,k=j+d:=⟨k-j,by omega⟩;rw[Int.pow_add];have b:=pw j;have a:=pw d;have:=Int.mul_le_mul_of_nonneg_left a (show(0:Int)<=2^j by omega);rw[Int.mul_one]at this;exact this
theorem uj{j k:Nat}(h:j<k):(2:Int)^j+2^j<=2^k:=by have:=Wb (show j+1<=k from h);rw[mf]at this;omega
theorem CZ{f g:Int}:∀k:Nat,f<g->g<f+2^k->∃j,j<k/\f+2^j<=g/\g<f+2^j+2^j
 |0,e,d=>by have d:g<f+1:=d;omega
 |k+1,e,d=>by
  by_cases h:g<f+2^k;.obtain⟨j,a,b,c⟩:=CZ k e h;exact⟨j,by omega,b,c⟩
  .rw[mf]at d;exact⟨k,by omega,by omega,by omega⟩
theorem QB{z z':Zn}{f:Int}{k:Nat}{t:List Int}(hd:Dj z)(h:CD z f z' k t):Dj z'∧cv z f∧∀g,cv z' g↔cv z g∧g≠f:=by
 have l:f∈dA z k:=by rw[h.hd];exact bX ..
 have d:=h.k4;have y0:=pw k;refine⟨⟨fun j a=>?_,fun i j q a x y m A r=>?_⟩,⟨k,f,d,l,bW _,by omega⟩,fun g=>⟨?_,?_⟩⟩
 ·
  rw[h.z',wq a];unfold TH;split;·exact Ge
  ·
   split;·exact(v7 (by rw[←h.hd];exact hd.so k d)).1
   ·exact hd.so j a
 ·
  rcases(qp hd h q).1 m with⟨b,p⟩|⟨b,rfl⟩<;>rcases(qp hd h a).1 A with⟨n,s⟩|⟨n,rfl⟩;·exact hd.dj i j q a x y b n r
  ·have:=hd.dj i k q d x f b l p;have:=uj n;have:=pw j;omega
  ·have:=hd.dj j k a d y f n l s;have:=uj b;have:=pw i;omega
  ·
   have w:i≠j:=fun e=>by subst e;exact r rfl rfl
   rcases lW w with c|c;·have:=uj c;omega
   ·have:=uj c;omega
 ·
  rintro⟨j,x,a,m,c,o⟩;rcases(qp hd h a).1 m with⟨b,p⟩|⟨b,rfl⟩;·refine⟨⟨j,x,a,b,c,o⟩,fun e=>?_⟩;subst e;have:=hd.dj j k a d x g b l p;omega
  ·have:=uj b;have:=pw j;exact⟨⟨k,f,d,l,by omega,by omega⟩,by omega⟩
 ·
  rintro⟨⟨j,x,a,m,c,o⟩,z0⟩;by_cases e:j=k∧x=f;·obtain⟨rfl,rfl⟩:=e;obtain⟨i,B,C,D⟩:=CZ j (by omega) o;exact⟨i,x+2^i,by omega,(qp hd h (by omega)).2 (.inr ⟨B,rfl⟩),C,D⟩
  ·exact⟨j,x,a,(qp hd h a).2 (.inl ⟨m,fun u v=>e ⟨u,v⟩⟩),c,o⟩
end Go.Bo
set_option maxHeartbeats 4000000
namespace Go.Bo
open Go Go.Ls
structure Vz (z : Zn) : Prop where
  rg : qs (z, ()) = some (true, ())
  mW : Cu z
  dj : Dj z
  cb : ∀ (k : Nat) (x : Int), k < 4 → x % 2 ^ (k + 1) = 0 → x ∈ dA z k → ¬ x + 2 ^ k ∈ dA z k
theorem Af(z:Zn)(l:List Int)(k:Nat)(c:Int)(t:c=(k:Int))(v:k<=4)(j:uF z)(C:l.length<=100000)(f:Kq z l k){R:RI->Prop}:Ok (aF (λa:Int×Unit=>ad (ay a.1 (ak l)) (am (az l a.1) λn=>am (kD (z,n,c,())) λA=>ad (bI A.1) (ao (ao (some ((3:Int),())))) (ad (ay 0 a.1) (am (az l (bb .i64 a.1 1)) λB=>ad (cH n B) (ao (ao (some ((10:Int),())))) (some (.inl (ah .i64 a.1 1,())))) (some (.inl (ah .i64 a.1 1,()))))) (ao (some (.inl ())))) 1000000000 (0,()):Option (Sum Unit RI)) (gS (λ_=>True) R):=by
 subst t;refine bq (I:=λi s=>s=((i:Int),())) (m:=l.length) rfl (by omega) ?_ ?_
 .
  rintro i s u rfl;have d:Ok (some (Sum.inl (ah .i64 ((i:Int),()).1 1,())):Option (Sum (Int×Unit) (Sum Unit RI))) (gS (λs=>s=(((i+1:Nat):Int),())) (gS (λ_=>True) R)):=aV (by show(ah .i64 (i:Int) 1,())=_;rw[bH (by omega)]);refine bg (eJ (by rw[aJ];show(i:Int)<_;omega)) (aZ (cL u) λx m=>?_);have g:=f.2 x (Y m);obtain⟨b,p,q⟩:=BX z x k v j (by have:=g.1;have:=j.1;omega);have r:b=true:=q.2 g;subst r;refine aa p (av rfl (aL (λh=>?_) λh=>d));have o:0<i:=by have:=kj h;simp only at this;omega
  have e:bb .i64 (i:Int) 1=((i-1:Nat):Int):=uI o (by omega);show Ok (am (az l (bb .i64 (i:Int) 1)) _) _;rw[e];refine aZ (cL (l:=l) (i:=i-1) (by omega)) λy w=>av (kT (f.1 (i-1) i y x (by omega) w m)) d
 .rintro s rfl;exact av (cE (by rw[aJ];exact bW _)) (bo (aV trivial))
def Mk(s:List Bool)(a:Int->Prop):Prop:=s.length=256/\∀g:Nat,s[g]?=some true->a (g:Int)
theorem Ae(z:Zn)(l:List Int)(k:Nat)(c:Int)(m0:c=2^k)(i0:uF z)(x0:Kq z l k)(c0:l.length<=100000)(d0:k<=4)(u0:List Bool)(m:Int->Prop)(C:Mk u0 m)(n0:∀x,x∈l->∀g,x<=g->g<x+2^k->¬m g)(hd:∀x y,x∈l->y∈l->x<y->x+2^k<=y){R:RI->Prop}:Ok (aF (λw:BS×Int×Unit=>ad (ay w.2.1 (ak l)) (aE (am (az l w.2.1) λt0=>aE (aF (λn:BS×Int×Unit=>ad (ay n.2.1 (ah .i64 t0 c)) (aC (cR n.2.1) (aC (ay n.2.1 256) (am (az n.1.1 n.2.1) λh0=>ad h0 (ao (ao (ao (ao (ao (some ((7:Int),()))))))) (aC (cR n.2.1) (aC (ay n.2.1 256) (am (az n.1.1 n.2.1) λu9=>some (.inl ((aG n.1.1 n.2.1 true,()),ah .i64 n.2.1 1,())))))))) (ao (some (.inl ((n.1.1,()),()))))) 1000000000 ((w.1.1,()),t0,())) λg0:BS×Unit=>some (.inl ((g0.1.1,()),()))) λf0:BS×Unit=>some (.inl ((f0.1.1,()),ah .i64 w.2.1 1,()))) (ao (some (.inl ((w.1.1,()),()))))) 1000000000 ((u0,()),0,()):Option (Sum (BS×Unit) RI)) (gS (λs=>Mk s.1.1 λg=>m g\/∃x,x∈l/\x<=g/\g<x+2^k) R):=by
 have b0:(1:Int)<=2^k/\(2:Int)^k<=16:=by rcases k with _|_|_|_|_|k<;>first|exact⟨by decide,by decide⟩|omega
 subst m0;obtain⟨x9,w9,v9⟩:=i0;refine bq (I:=λi s=>Mk s.1.1 (λg=>m g\/∃(a:Nat)(x:Int),a<i/\l[a]?=some x/\x<=g/\g<x+2^k)/\s.2.1=(i:Int)) (m:=l.length) ⟨⟨C.1,λg f=> .inl (C.2 g f)⟩,rfl⟩ (by omega) ?_ ?_
 .
  rintro i⟨⟨s,u⟩,d,v⟩k0⟨p,q⟩;have q:d=(i:Int):=q;subst q;have p:Mk s λg=>m g\/∃(a:Nat)(x:Int),a<i/\l[a]?=some x/\x<=g/\g<x+2^k:=p;have A:l[i]?=some l[i]:=G k0;generalize l[i]=x at A;have B:=Y A;obtain⟨z9,y9,_⟩:=x0.2 x B;have a0:0<=x:=by omega
  have z0:ah .i64 x (2^k)=x+2^k:=cz (by omega) (by omega)
  have r0:∀g:Nat,x<=(g:Int)->(g:Int)<x+2^k->¬(m (g:Int)\/∃(a:Nat)(y:Int),a<i/\l[a]?=some y/\y<=(g:Int)/\(g:Int)<y+2^k):=by
   rintro g q0 p0(h|⟨a,y,D,v0,t9,s9⟩);.exact n0 x B g q0 p0 h
   .have:=x0.1 a i y x D v0 A;have:=hd y x (Y v0) B this;omega
  refine bg (eJ (by rw[aJ];show(i:Int)<_;omega)) (aK (P:=λb:BS×Unit=>Mk b.1.1 λg=>m g\/∃(a:Nat)(x:Int),a<i+1/\l[a]?=some x/\x<=g/\g<x+2^k) (aa (aI A) ?_) λb t=>aV (P:=λs:BS×Int×Unit=>Mk s.1.1 (λg=>m g\/∃(a:Nat)(x:Int),a<i+1/\l[a]?=some x/\x<=g/\g<x+2^k)/\s.2.1=((i+1:Nat):Int)) ⟨t,?_⟩);rotate_left;.have e:ah .i64 (i:Int) 1=((i+1:Nat):Int):=bH (by omega);rw[<-e]
  refine aK (P:=λb:BS×Unit=>Mk b.1.1 λg=>m g\/∃(a:Nat)(x:Int),a<i+1/\l[a]?=some x/\x<=g/\g<x+2^k) (bq (I:=λj s=>Mk s.1.1 (λg=>(m g\/∃(a:Nat)(x:Int),a<i/\l[a]?=some x/\x<=g/\g<x+2^k)\/x<=g/\g<x+(j:Int))/\s.2.1=x+(j:Int)) (m:=(2^k:Int).toNat) ⟨⟨p.1,λg f=> .inl (p.2 g f)⟩,by show x=x+((0:Nat):Int);omega⟩ (by omega) ?_ ?_) λb t=>aV (P:=λb:BS×Unit=>Mk b.1.1 λg=>m g\/∃(a:Nat)(x:Int),a<i+1/\l[a]?=some x/\x<=g/\g<x+2^k) t
  .
   rintro j⟨⟨s,u⟩,d,v⟩e0⟨o,r⟩;have r:d=x+(j:Int):=r;subst r;have o:Mk s λg=>(m g\/∃(a:Nat)(x:Int),a<i/\l[a]?=some x/\x<=g/\g<x+2^k)\/x<=g/\g<x+(j:Int):=o;have o0:=o.1;have w0:x+(j:Int)<256:=by omega
   have j0:(x+(j:Int)).toNat<s.length:=by omega
   have l0:s[(x+(j:Int)).toNat]?=some false:=by
    have f:s[(x+(j:Int)).toNat]?=some s[(x+(j:Int)).toNat]:=G j0
    cases t:s[(x+(j:Int)).toNat]with
     |false=>rw[f,t]
     |true=>
     rw[t]at f;rcases o.2 _ f with h|h;.exact absurd h (r0 _ (by omega) (by omega))
     .omega
   have y0:az s (x+(j:Int))=some false:=(pC (by omega)).trans l0;refine bg (eJ (by rw[z0];show x+(j:Int)<_;omega)) (aq (ar (show(0:Int)<=x+(j:Int)by omega)) (aq (eJ w0) (aa y0 (av rfl (aq (ar (show(0:Int)<=x+(j:Int)by omega)) (aq (eJ w0) (aa y0 (aV ⟨⟨?_,λg f=>?_⟩,?_⟩))))))));.show(aG s _ true).length=256;rw[jt,o0]
   .
    have f:(s.set (x+(j:Int)).toNat true)[g]?=some true:=f;by_cases e:g=(x+(j:Int)).toNat;.right;omega
    .
     rw[bz λs0=>e s0.symm]at f;rcases o.2 g f with h|h;.exact .inl h
     .right;omega
   .show ah .i64 (x+(j:Int)) 1=x+((j+1:Nat):Int);rw[cz (by omega) (by omega)];omega
  .
   rintro⟨⟨s,u⟩,d,v⟩⟨o,r⟩;have r:d=x+(((2^k:Int).toNat:Nat):Int):=r;subst r;have o:Mk s λg=>(m g\/∃(a:Nat)(x:Int),a<i/\l[a]?=some x/\x<=g/\g<x+2^k)\/x<=g/\g<x+(((2^k:Int).toNat:Nat):Int):=o;refine av (cE ?_) (bo (aV (P:=λb:BS×Unit=>Mk b.1.1 λg=>m g\/∃(a:Nat)(x:Int),a<i+1/\l[a]?=some x/\x<=g/\g<x+2^k) ⟨o.1,λg f=>?_⟩));.rw[z0];show x+2^k<=x+_;omega
   .
    rcases o.2 g f with(h|⟨a,y,D,h⟩)|h;.exact .inl h
    .exact .inr ⟨a,y,by omega,h⟩
    .exact .inr ⟨i,x,by omega,A,h.1,by omega⟩
 .
  rintro⟨⟨s,u⟩,d,v⟩⟨p,q⟩;have q:d=((l.length:Nat):Int):=q;subst q;refine av (cE (by rw[aJ];exact bW _)) (bo (aV (P:=λb:BS×Unit=>Mk b.1.1 λg=>m g\/∃x,x∈l/\x<=g/\g<x+2^k) ⟨p.1,λg f=>?_⟩));rcases p.2 g f with h|⟨a,x,_,p,q⟩;.exact .inl h
  .exact .inr ⟨x,Y p,q⟩
theorem EB(z:Zn)(l:List Int)(k:Nat)(c q:Int)(A:c=2^k)(y0:q=((k+1:Nat):Int))(D:k≤3)(z0:l.length≤100000)(x0:uF z)(B:Kq z l k)(p:∀x:Int,x%2^(k+1)=0→x∈l→¬x+2^k∈l){R:RI→Prop}:Ok (aF (fun f:Int×Unit=>ad (ay f.1 (ak l)) (am (az l f.1) fun n=>am (gj (l,bG .i64 n c,())) fun u0=>ad u0.2.1 (am (kD (z,bK n (bG .i64 n c),q,())) fun t0=>ad t0.1 (ao (ao (some ((11:Int),())))) (some (.inl (ah .i64 f.1 1,())))) (some (.inl (ah .i64 f.1 1,())))) (ao (some (.inl ())))) 1000000000 (0,()):Option (Sum Unit RI)) (gS (fun _=>True) R):=by
 subst y0 A;refine bq (I:=fun i s=>s=((i:Int),())) (m:=l.length) rfl (by omega) ?_ ?_
 ·
  rintro i s C rfl;have u:Ok (some (Sum.inl (ah .i64 ((i:Int),()).1 1,())):Option (Sum (Int×Unit) (Sum Unit RI))) (gS (fun s=>s=(((i+1:Nat):Int),())) (gS (fun _=>True) R)):=aV (by show(ah .i64 (i:Int) 1,())=_;rw[bH (by omega)]);refine bg (eJ (by rw[aJ];show(i:Int)<_;omega)) (aZ (cL C) fun x w0=>?_);have m:=Y w0;obtain⟨q0,p0,r⟩:=B.2 x m;obtain⟨o0,n0,m0⟩:=x0;have s0:=pw k;have v0:=KB (g:=x) (by omega) (by omega) D;obtain⟨j,b,v,w⟩:=l8 l (bG .i64 x (2^k)) z0;refine aa v (aL (fun y=>?_) fun _=>u);exfalso;have e:=Y (w.WP y);have r0:(2:Int)^(k+1)=2^k+2^k:=by rw[mf];omega
  have d:x%2^k=0:=by rw[fJ (by omega)]at r;exact r
  rw[v0]at e
  have t:x%2^(k+1)=0∨x%2^(k+1)=2^k:=by
   rcases show k=0∨k=1∨k=2∨k=3 by omega with rfl|rfl|rfl|rfl;·have:x%1=0:=d;show x%2=0∨x%2=1;omega
   ·have:x%2=0:=d;show x%4=0∨x%4=2;omega
   ·have:x%4=0:=d;show x%8=0∨x%8=4;omega
   ·have:x%8=0:=d;show x%16=0∨x%16=8;omega
  have o:x/2^k%2=0↔x%2^(k+1)=0:=by
   rcases show k=0∨k=1∨k=2∨k=3 by omega with rfl|rfl|rfl|rfl;·show x/1%2=0↔x%2=0;omega
   ·show x/2%2=0↔x%4=0;have:x%2=0:=d;omega
   ·show x/4%2=0↔x%8=0;have:x%4=0:=d;omega
   ·show x/8%2=0↔x%16=0;have:x%8=0:=d;omega
  by_cases h:x/2^k%2=0;·rw[aA h]at e;exact p x (o.1 h) m e
  ·
   rw[aB h]at e
   have g:x%2^(k+1)=2^k:=by
    rcases t with a|a;·exact absurd (o.2 a) h
    ·exact a
   refine p (x-2^k) ?_ e (by rw[Int.sub_add_cancel];exact m);rcases show k=0∨k=1∨k=2∨k=3 by omega with rfl|rfl|rfl|rfl;·have:x%2=1:=g;show(x-1)%2=0;omega
   ·have:x%4=2:=g;show(x-2)%4=0;omega
   ·have:x%8=4:=g;show(x-4)%8=0;omega
   ·have:x%16=8:=g;show(x-8)%16=0;omega
 ·rintro s rfl;exact av (cE (by rw[aJ];exact bW _)) (bo (aV trivial))
theorem Mk.mono{s:List Bool}{a W':Int->Prop}(h:Mk s a)(e:∀g,a g->W' g):Mk s W':=⟨h.1,λg b=>e _ (h.2 g b)⟩
def yk(z:Zn)(n:Nat)(g:Int):Prop:=∃(j:Nat)(x:Int),j<n/\x∈dA z j/\x<=g/\g<x+2^j
theorem ur{z:Zn}{n:Nat}{g:Int}(h:yk z n g\/∃x,x∈dA z n/\x<=g/\g<x+2^n):yk z (n+1) g:=by
 rcases h with⟨j,x,a,h⟩|⟨x,h⟩;.exact⟨j,x,by omega,h⟩
 .exact⟨n,x,by omega,h⟩
theorem wN{z:Zn}(hd:Dj z){n:Nat}(a:n<=4):∀x,x∈dA z n->∀g,x<=g->g<x+2^n->¬yk z n g:=by rintro x b g d f⟨j,y,k,c,h,i⟩;have:=hd.dj j n (by omega) a y x c b (λe=>by omega);omega
theorem tF{z:Zn}(hd:Dj z){n:Nat}(a:n<=4):∀x y,x∈dA z n->y∈dA z n->x<y->x+2^n<=y:=by intro x y b c h;have:=pw n;have:=hd.dj n n a a x y b c (λ_=>by omega);omega
theorem zJ(z:Zn)(h:Vz z):sI (z,())=some (0,()):=by
 have c:=h.mW.pl;have b:∀k,k<=4->(dA z k).length<=100000:=λk m=>by have:=pe h.mW k m;omega
 have d:=h.dj;have a:=h.mW.fr;have e:∀k:Nat,k<=3->∀x:Int,x%2^(k+1)=0->x∈dA z k->¬x+2^k∈dA z k:=λk m x=>h.cb k x (by omega);have q:Ok (sI (z,())) λr=>r=(0,()):=by unfold sI;refine aa h.rg (av rfl ?_);refine aK (Af z (dA z 0) 0 0 rfl (by decide) c (b 0 (by decide)) (a 0 (by decide))) λ_ _=>?_;refine aK (Af z (dA z 1) 1 1 rfl (by decide) c (b 1 (by decide)) (a 1 (by decide))) λ_ _=>?_;refine aK (Af z (dA z 2) 2 2 rfl (by decide) c (b 2 (by decide)) (a 2 (by decide))) λ_ _=>?_;refine aK (Af z (dA z 3) 3 3 rfl (by decide) c (b 3 (by decide)) (a 3 (by decide))) λ_ _=>?_;refine aK (Af z (dA z 4) 4 4 rfl (by decide) c (b 4 (by decide)) (a 4 (by decide))) λ_ _=>?_;have s:Mk (List.replicate 256 false) (yk z 0):=⟨aN,λg p=>by have:=(gY.1 (Y p)).2;cases this⟩;refine aK (Ae z (dA z 0) 0 1 rfl c (a 0 (by decide)) (b 0 (by decide)) (by decide) (List.replicate 256 false) (yk z 0) s (wN d (by decide)) (tF d (by decide))) λt f=>?_;have f:=Mk.mono f (W':=yk z 1) λg h=>ur h;refine aK (Ae z (dA z 1) 1 2 rfl c (a 1 (by decide)) (b 1 (by decide)) (by decide) t.1.1 (yk z 1) f (wN d (by decide)) (tF d (by decide))) λu i=>?_;have i:=Mk.mono i (W':=yk z 2) λg h=>ur h;refine aK (Ae z (dA z 2) 2 4 rfl c (a 2 (by decide)) (b 2 (by decide)) (by decide) u.1.1 (yk z 2) i (wN d (by decide)) (tF d (by decide))) λv j=>?_;have j:=Mk.mono j (W':=yk z 3) λg h=>ur h;refine aK (Ae z (dA z 3) 3 8 rfl c (a 3 (by decide)) (b 3 (by decide)) (by decide) v.1.1 (yk z 3) j (wN d (by decide)) (tF d (by decide))) λw l=>?_;have l:=Mk.mono l (W':=yk z 4) λg h=>ur h;refine aK (Ae z (dA z 4) 4 16 rfl c (a 4 (by decide)) (b 4 (by decide)) (by decide) w.1.1 (yk z 4) l (wN d (by decide)) (tF d (by decide))) λA _=>?_;refine aK (EB z (dA z 0) 0 1 1 rfl rfl (by decide) (b 0 (by decide)) c (a 0 (by decide)) (e 0 (by decide))) λ_ _=>?_;refine aK (EB z (dA z 1) 1 2 2 rfl rfl (by decide) (b 1 (by decide)) c (a 1 (by decide)) (e 1 (by decide))) λ_ _=>?_;refine aK (EB z (dA z 2) 2 4 3 rfl rfl (by decide) (b 2 (by decide)) c (a 2 (by decide)) (e 2 (by decide))) λ_ _=>?_;refine aK (EB z (dA z 3) 3 8 4 rfl rfl (by decide) (b 3 (by decide)) c (a 3 (by decide)) (e 3 (by decide))) λ_ _=>?_;exact ab rfl
 obtain⟨y,n,o⟩:=q;rw[n,o]
theorem FH{z:Zn}{f:Int}{k:Nat}(a:0≤f):In z f k↔zs z≤f∧f+2^k≤zs z+zc z∧f%2^k=0:=by unfold In;rw[fJ a]
theorem Oj{z:Zn}{L:Nat->List Int}:qs (Pq z L,())=qs (z,()):=rfl
theorem Dy{f:Int}{j k:Nat}(c:j<k)(d:k<=4)(h:f%2^k=0):(f+2^j)%2^j=0/\(f+2^j)%2^(j+1)=2^j:=by
 have b:k=0\/k=1\/k=2\/k=3\/k=4:=by omega
 have a:j=0\/j=1\/j=2\/j=3:=by omega
 rcases b with rfl|rfl|rfl|rfl|rfl;.omega
 .
  have h:f%2=0:=h;have:j=0:=by omega
  subst this;show(f+1)%1=0/\(f+1)%2=1;omega
 .
  have h:f%4=0:=h;rcases show j=0\/j=1 by omega with rfl|rfl;.show(f+1)%1=0/\(f+1)%2=1;omega
  .show(f+2)%2=0/\(f+2)%4=2;omega
 .
  have h:f%8=0:=h;rcases show j=0\/j=1\/j=2 by omega with rfl|rfl|rfl;.show(f+1)%1=0/\(f+1)%2=1;omega
  .show(f+2)%2=0/\(f+2)%4=2;omega
  .show(f+4)%4=0/\(f+4)%8=4;omega
 .
  have h:f%16=0:=h;rcases a with rfl|rfl|rfl|rfl;.show(f+1)%1=0/\(f+1)%2=1;omega
  .show(f+2)%2=0/\(f+2)%4=2;omega
  .show(f+4)%4=0/\(f+4)%8=4;omega
  .show(f+8)%8=0/\(f+8)%16=8;omega
theorem Xe{z z':Zn}{f:Int}{k:Nat}{t:List Int}(h:Vz z)(b:CD z f z' k t):Vz z':=by
 have l:=(QB h.dj b).1;have o:=h.mW.pl;have q:f∈dA z k:=by rw[b.hd];exact bX ..
 have g:=b.k4;have m:=(h.mW.fr k g).2 f q;have p:0<=f:=by have:=m.1;have:=o.1;omega
 have n:=(FH p).1 m;have d:zs z'=zs z/\zc z'=zc z:=by rw[b.z'];exact⟨rfl,rfl⟩
 refine⟨by rw[b.z',Oj];exact h.rg,⟨by unfold uF;rw[d.1,d.2];exact o,λj c=>⟨l.so j c,λx i=>?_⟩⟩,l,λj x c r i s=>?_⟩
 .
  unfold In;rw[d.1,d.2];rcases(qp h.dj b c).1 i with⟨a,_⟩|⟨a,rfl⟩;.exact(h.mW.fr j c).2 x a
  .have:=pw j;have:=uj a;have:=Dy a g n.2.2;exact(FH (by omega)).2 ⟨by omega,by omega,this.1⟩
 .
  rcases(qp h.dj b (by omega)).1 i with⟨a,_⟩|⟨a,rfl⟩
  .
   rcases(qp h.dj b (by omega)).1 s with⟨e,_⟩|⟨e,u⟩;.exact h.cb j x c r a e
   .rw[b.lo j e]at a;cases a
  .have:=(Dy a g n.2.2).2;have:=pw j;omega
end Go.Bo
set_option maxHeartbeats 4000000
namespace Go.Bo
open Go Go.Ls
def er(z:Zn):Zs.kC:=⟨z.1,z.2.1,zs z,zc z,z.2.2.2.2.1,z.2.2.2.2.2.1⟩
theorem qw{k:Nat}(a:k<=4):ee .u64 (k:Int)=(k:Int):=by
 have:(List.range 5).all (λi=>decide (ee .u64 (Int.ofNat i)=Int.ofNat i))=true:=by kernel_rfl
 exact br (bQ.1 this k (eC.2 (by omega)))
theorem Ar{k:Nat}(a:k<=4):(1:Int)<=2^k/\(2:Int)^k<=16:=by rcases Zs.EY a with rfl|rfl|rfl|rfl|rfl<;>exact⟨by decide,by decide⟩
theorem vy{z:Zn}(a:Zs.eO (er z)=true):0<=zs z/\1<=zc z/\zs z+zc z<=256:=by have h:=Zs.lg a;have b:0<=zs z:=h.2.2.2.1;have c:1<=zc z:=h.2.2.2.2.2.1;have d:zc z<=256-zs z:=h.2.2.2.2.2.2.1;omega
theorem xd{z:Zn}(l:Zs.eO (er z)=true){f:Int}{k:Nat}(d:k<=4)(p:0<=f)(h1:f<=256):rz (z,f,(k:Int),())=some (Zs.fe (er z) f k,()):=by
 obtain⟨m,n,o⟩:=vy l;obtain⟨r,s⟩:=Ar d;have c:Zs.fe (er z) f k=(decide (zs z<=f)&&decide (f.tmod (2^k)=0)&&decide ((2:Int)^k<=zc z)&&decide (f<=zs z+zc z-2^k)):=rfl;have i:ah .i64 (zs z) (zc z)=zs z+zc z:=cz (by omega) (by omega);have j:ah .i64 f (2^k)=f+2^k:=cz (by omega) (by omega);refine cA ?_;unfold rz;refine av (cE (by show(0:Int)<=(k:Int);omega)) (av (cE (by show(k:Int)<=4;omega)) (aL (λh=>?_) λh=>?_));.have h:f<zs z:=kj h;exact ab (by rw[c,aQ (show¬zs z<=f by omega)];rfl)
 have h:zs z<=f:=eY h;refine aL (λb=>?_) λb=>?_;.have b:ah .i64 (zs z) (zc z)<=f:=nD b;exact ab (by rw[c,aQ (show¬f<=zs z+zc z-2^k by omega),mu])
 have b:f<ah .i64 (zs z) (zc z):=qa b;have e:fj .i64 1 (ee .u64 (k:Int))=2^k:=by rw[qw d,s5 k d]
 have g:cR (ee .u64 (k:Int))=true:=by rw[qw d];exact ar (by omega)
 refine aq g (aq ?_ (aL (λa=>?_) λa=>?_));.show bF (fj .i64 1 (ee .u64 (k:Int))) 0=true;rw[e,gI,aQ (by omega)];rfl
 .
  have a:f.tmod (fj .i64 1 (ee .u64 (k:Int)))=0:=kM a;rw[e]at a;refine aq g (ab ?_);show(cH (ah .i64 f (fj .i64 1 (ee .u64 (k:Int)))) (ah .i64 (zs z) (zc z)),())=_;rw[e,i,j,c,ar h,ar a,jv];congr 1;by_cases q:f+2^k<=zs z+zc z;.rw[ar q,ar (show(2:Int)^k<=zc z by omega),ar (show f<=zs z+zc z-2^k by omega)];rfl
  .rw[aQ q,aQ (show¬f<=zs z+zc z-2^k by omega),mu]
 .have a:¬f.tmod (fj .i64 1 (ee .u64 (k:Int)))=0:=mj a;rw[e]at a;exact ab (by rw[c,aQ a,mu];rfl)
theorem Rc{s:List Int}{f:Int}{k:Nat}(c:k<=4)(o:0<=f)(u:s.length=256)(h1:f+2^k<=256):Ok (xc (s,f,(k:Int),())) λr=>(r.1=true->∀g:Nat,f<=g->(g:Int)<f+2^k->s.getD g 0≠0)/\(r.1=false->∃g:Int,f<=g/\g<f+2^k/\s.getD g.toNat 0=0):=by
 obtain⟨v,w⟩:=Ar c;have e:ah .i64 f (fj .i64 1 (ee .u64 (k:Int)))=f+2^k:=by rw[qw c,s5 k c];exact cz (by omega) (by omega)
 have m:cR (ee .u64 (k:Int))=true:=by rw[qw c];exact ar (by omega)
 unfold xc;refine aK (P:=λ_=>∀g:Nat,f<=g->(g:Int)<f+2^k->s.getD g 0≠0) (bq (I:=λi t=>t=(f+(i:Int),())/\∀g:Nat,f<=g->(g:Int)<f+i->s.getD g 0≠0) (m:=(2^k:Int).toNat) ⟨by rw[jr,gL],λg a b=>by omega⟩ (by omega) ?_ ?_) λ_ h=>ab ⟨λ_=>h,λh=>by cases h⟩
 .
  rintro i t p⟨rfl,d⟩;have j:s[(f+(i:Int)).toNat]?=some (s[(f+(i:Int)).toNat]'(by omega)):=G (by omega);generalize s[(f+(i:Int)).toNat]'(by omega)=x at j;have l:s.getD (f+(i:Int)).toNat 0=x:=by rw[cc,j];rfl
  refine aq m (bg (eJ (by rw[e];show f+(i:Int)<_;omega)) (aa ((pC (by omega)).trans j) (aL (λh=>bo (bo (ab ⟨λh=>(by cases h),λ_=>⟨f+i,by omega,by omega,l.trans (kM h)⟩⟩))) λh=>?_)));have n:ah .i64 (f+(i:Int)) 1=f+((i+1:Nat):Int):=by rw[cz (by omega) (by omega)];omega
  refine aV ⟨by show(ah .i64 (f+(i:Int)) 1,())=_;rw[n],λg a b=>?_⟩;by_cases q:(g:Int)<f+i;.exact d g a q
  .
   have:g=(f+(i:Int)).toNat:=by omega
   rw[this,l];exact mj h
 .rintro t⟨rfl,d⟩;refine aq m (av (cE (by rw[e];show f+2^k<=f+_;omega)) (bo (aV λg a b=>d g a (by omega))))
theorem MS{β:Type}{Q:β->Prop}{s:List Int}{f c:Int}{k:Nat}(g:c=2^k)(h:k<=4)(q:0<=f)(j:s.length=256)(h1:f+2^k<=256){K:List Int×Unit->Option β}(d:Ok (K (Zs.uz s f.toNat (2^k),())) Q):Ok (aE (aF (λa:List Int×Int×Unit=>ad (ay a.2.1 (ah .i64 f c)) (aC (aU a.1 a.2.1) (am (az a.1 a.2.1) λw=>some (.inl (aG a.1 a.2.1 0,ah .i64 a.2.1 1,())))) (ao (some (.inl (a.1,()))))) 1000000000 (s,f,())) K) Q:=by
 obtain⟨u,v⟩:=Ar h;have e:ah .i64 f c=f+2^k:=by rw[g];exact cz (by omega) (by omega)
 have p:((2^k:Nat):Int)=2^k:=by rw[rC];rfl
 have o:∀(m i:Nat)(l:List Int),(Zs.uz l i m).set (i+m) 0=Zs.uz l i (m+1):=by intro m;induction m with
  |zero=>intro i l;rfl
  |succ m n=>intro i l;show(Zs.uz (l.set i 0) (i+1) m).set (i+(m+1)) 0=Zs.uz (l.set i 0) (i+1) (m+1);rw[<-n (i+1),show i+(m+1)=i+1+m by omega]
 refine cw (λi=>(Zs.uz s f.toNat i,f+(i:Int),())) (2^k) (by show _=(s,f+((0:Nat):Int),());rw[jr,gL]) (by omega) (λi r=>?_) (av (cE (by rw[e];show f+2^k<=f+((2^k:Nat):Int);omega)) (bC (ab rfl))) d;have t:(Zs.uz s f.toNat i).length=256:=by rw[Zs.zL,j]
 have b:ah .i64 (f+(i:Int)) 1=f+((i+1:Nat):Int):=by rw[cz (by omega) (by omega)];omega
 refine bg (eJ (by rw[e];show f+(i:Int)<_;omega)) (aq (qA (by show 0<=f+(i:Int);omega) (by rw[aJ];show f+(i:Int)<((Zs.uz s f.toNat i).length:Int);omega)) (aZ (oC (by show 0<=f+(i:Int);omega) (by rw[aJ];show f+(i:Int)<((Zs.uz s f.toNat i).length:Int);omega)) λx _=>ab ?_));show Sum.inl (aG (Zs.uz s f.toNat i) (f+(i:Int)) 0,ah .i64 (f+(i:Int)) 1,())=_;rw[b,s6,show(f+(i:Int)).toNat=f.toNat+i by omega,o]
theorem Oy{β:Type}{Q:β->Prop}{z:Zn}{s left lk:List Int}{D:Nat->Int->Prop}{L:List (List Int)}{f c l:Int}{k:Nat}(e:Zs.eO (er z)=true)(d:k<=4)(z0:c=2^k)(x0:l=(k:Int))(r0:zs z<=f)(f1:f<zs z+zc z)(b:Zs.WI (er z) s D L left)(o:∀j x,D j x->k<j\/j=k/\x<f)(t:L.getD k []=lk){A:List Int×Unit->Option β}{B:Option β}(C:∀left',Zs.WI (er z) s (λj x=>D j x\/j=k/\x=f) (L.set k (lk++[f])) left'->Ok (A (left',())) Q)(n:Zs.WI (er z) s (λj x=>D j x\/j=k/\x=f) L left->Ok B Q):Ok (am (rz (z,f,l,())) λw0=>ad w0.1 (am (xc (left,f,l,())) λu=>ad u.1 (aC (a4 lk (f::[]) 8) (aE (aF (λa:List Int×Int×Unit=>ad (ay a.2.1 (ah .i64 f c)) (aC (aU a.1 a.2.1) (am (az a.1 a.2.1) λn0=>some (.inl (aG a.1 a.2.1 0,ah .i64 a.2.1 1,())))) (ao (some (.inl (a.1,()))))) 1000000000 (left,f,())) A)) B) B) Q:=by
 subst x0;obtain⟨v0,u0,t0⟩:=vy e;obtain⟨p0,o0⟩:=Ar d;have s0:((2^k:Nat):Int)=2^k:=by rw[rC];rfl
 have p:∀j x,D j x->k<=j:=λj x h=>by rcases o j x h with h|h<;>omega
 refine aa (xd e d (by omega) (by omega)) (aL (λi=>?_) λi=>n (b.skip e d p λh=>by rw[h]at i;cases i));have y0:=Zs.ll e i;have r:f+2^k<=256:=y0.2.1;refine aZ (Rc d (by omega) b.Db r) λu m=>aL (λh=>?_) λh=>?_
 .
  have q0:lk.length<=256:=by have:=b.Ys e k;rw[<-t];exact this
  refine aq (cj (by show lk.length+1<=_;omega) (by decide)) (MS z0 d (by omega) b.Db r (C _ ?_))
  have:=b.add e d i o (m.1 h) (left':=Zs.uz left f.toNat (2^k)) (by rw[Zs.zL];exact b.Db) λg=>by
   rw[Zs.FW _ _ _ _ (by rw[b.Db];omega)];by_cases q:f.toNat<=g/\g<f.toNat+2^k;.rw[aA q,aA (by omega)]
   .rw[aB q,aB (by omega)]
  rw[t]at this;exact this
 .obtain⟨g,v,w,y⟩:=m.2 h;exact n (b.skip e d p λ_=>⟨g,v,w,y⟩)
def I7(z:Zn)(a b c d e:List Int):Z5:=(z.1,z.2.1,z.2.2.1,z.2.2.2.1,z.2.2.2.2.1,a,b,c,d,e,())
def PW(z:Zn)(s:List Int)(D:Nat->Int->Prop)(t:Z5×List Int×Unit):Prop:=∃a b c d e,t.1=I7 z a b c d e/\Zs.WI (er z) s D [a,b,c,d,e] t.2.1
theorem PW.mono{z:Zn}{s:List Int}{D D':Nat->Int->Prop}{t:Z5×List Int×Unit}(h:PW z s D t)(h1:∀j x,Zs.fe (er z) x j=true->D j x->D' j x)(h2:∀j x,Zs.fe (er z) x j=true->j<=4->D' j x->D j x):PW z s D' t:=by obtain⟨a,b,c,d,e,f,g⟩:=h;exact⟨a,b,c,d,e,f,g.mono h1 h2⟩
theorem Ia{z:Zn}{s:List Int}(B:Zs.eO (er z)=true)(r0:s.length=256):Ok (Ib (z,s,())) fun r=>∃l,r.1=(z.1,z.2.1,z.2.2.1,z.2.2.2.1,z.2.2.2.2.1,l,())∧Zs.qC (Zs.zl (er z) l)∧∀g,Zs.pT (Zs.zl (er z) l) g↔zs z≤g∧g<zs z+zc z∧s.getD g.toNat 0≠0:=by
 obtain⟨c0,b0,a0⟩:=vy B;have D:ak s=256:=by rw[aJ,r0];rfl
 have p:ah .i64 z.2.2.1 z.2.2.2.1=zs z+zc z:=cz (by show _≤zs z+zc z;omega) (by show zs z+zc z≤_;omega);have q:∀(j:Nat)(x:Int),Zs.fe (er z) x j=true→zs z≤x∧x<zs z+zc z:=fun j x h=>by have u0:=(Zs.ll B h).2.2;have z9:zs z≤x:=u0.1;have y9:x+2^j≤zs z+zc z:=u0.2.1;have:=Zs.mi j;omega
 have p0:PW z s (fun j x=>4<j∨j=4∧x<zs z+((0:Nat):Int)) (I7 z [] [] [] [] [],s,()):=by
  have z0:∀k:Nat,Zs.fF (Zs.zl (er z) [[],[],[],[],[]]) k=[]:=fun k=>Zs.Jw rfl k;have t0:∀g,¬Zs.pT (Zs.zl (er z) [[],[],[],[],[]]) g:=by rintro g⟨k,x,o,_⟩;rw[z0]at o;cases o
  exact⟨[],[],[],[],[],rfl,rfl,r0,fun k=>by rw[z0];exact Zs.wW.nil,fun k x o=>(by rw[z0]at o;cases o),fun k x j y g o=>(by rw[z0]at o;cases o),fun g _=>⟨fun h=>⟨h,t0 g⟩,fun h=>h.1⟩,fun g o0=>absurd o0 (t0 g),fun j x m v C=>by have:=q j x C;omega⟩
 unfold Ib;refine aq (by rw[D];decide) (cw (b:=(s,())) (fun i=>(s.take i++List.replicate (256-i) 0,(i:Int),())) 256 (by show(eh (ak s) 0,(0:Int),())=_;rw[D];rfl) (by decide) (fun i C=>?_) (av (cE (by rw[D];exact bW 256)) (bC (ab ?_))) ?_)
 ·
  have o:s[i]?=some (s[i]'(by omega)):=G (by omega);generalize s[i]'(by omega)=x at o;have s0:(s.take i++List.replicate (256-i) (0:Int)).length=256:=by rw[ax,aR,aN];omega
  refine bg (eJ (by rw[D];show(i:Int)<256;omega)) (aa (aI o) (aq (eu (by rw[s0];omega)) (aZ (cL (by rw[s0];omega)) fun d0 _=>ab ?_)));show Sum.inl (aG (s.take i++List.replicate (256-i) 0) (i:Int) x,ah .i64 (i:Int) 1,())=_;rw[bH (by omega),n5 rfl,nl _ _ (by rw[aR];omega),aR,show i-min i s.length=0 by omega,show 256-i=256-(i+1)+1 by omega,gH,lX,←dw o,cn];rfl
 ·show Sum.inl (s.take 256++[],())=_;rw[bf,dp (by omega)]
 refine aK (P:=PW z s fun j _=>4≤j) (aK (P:=PW z s fun j _=>4≤j) (bq (I:=fun i t=>t.2.2=(zs z+(i:Int),())∧PW z s (fun j x=>4<j∨j=4∧x<zs z+(i:Int)) (t.1,t.2.1,())) (m:=(zc z).toNat) ⟨by show(zs z,())=(zs z+((0:Nat):Int),());rw[jr,gL],p0⟩ (by omega) ?_ ?_) ?_) ?_;·rintro i⟨t,n,w⟩C⟨rfl,a,b,c,d,e,rfl,f⟩;refine bg (eJ (by rw[p];show zs z+(i:Int)<_;omega)) (aK (P:=PW z s fun j x=>(4<j∨j=4∧x<zs z+(i:Int))∨j=4∧x=zs z+(i:Int)) (Oy (k:=4) B (by decide) rfl rfl (by omega) (by omega) f (fun j x h=>h) rfl (fun A h=>aV ⟨_,_,_,_,_,rfl,h⟩) fun h=>aV ⟨_,_,_,_,_,rfl,h⟩) ?_);rintro⟨t,A,u⟩⟨a,b,c,d,e,rfl,f⟩;refine aV ⟨?_,_,_,_,_,_,rfl,f.mono (fun j x _ h=>by omega) fun j x _ _ h=>by omega⟩;show(ah .i64 (zs z+(i:Int)) 1,())=(zs z+((i+1:Nat):Int),());rw[cz (by omega) (by omega),kX,no]
 ·rintro⟨t,n,w⟩⟨rfl,a,b,c,d,e,rfl,f⟩;exact av (cE (by rw[p];show zs z+zc z≤zs z+_;omega)) (bo (aV ⟨_,_,_,_,_,rfl,f.mono (fun j x h m=>by omega) fun j x h v m=>by have:=q j x h;omega⟩))
 ·rintro⟨t,n,u⟩⟨a,b,c,d,e,rfl,f⟩;exact aV ⟨_,_,_,_,_,rfl,f⟩
 rintro⟨u9,j0,e0⟩v0;obtain⟨a,b,c,d,e,rfl,f⟩:=v0;have v0:PW z s (fun j _=>4≤j) (I7 z a b c d e,j0,e0):=⟨a,b,c,d,e,rfl,f⟩;refine aK (P:=PW z s fun j _=>3≤j) (aK (P:=PW z s fun j _=>3≤j) (bq (I:=fun i t=>t.2.2=(zs z+(i:Int),())∧PW z s (fun j x=>3<j∨j=3∧x<zs z+(i:Int)) (t.1,t.2.1,())) (m:=(zc z).toNat) ⟨by show(zs z,())=(zs z+((0:Nat):Int),());rw[jr,gL],PW.mono v0 (fun j x _ h=>by omega) fun j x h v m=>by have:=q j x h;omega⟩ (by omega) ?_ ?_) ?_) ?_;·rintro i⟨t,n,w⟩C⟨rfl,a,b,c,d,e,rfl,f⟩;refine bg (eJ (by rw[p];show zs z+(i:Int)<_;omega)) (aK (P:=PW z s fun j x=>(3<j∨j=3∧x<zs z+(i:Int))∨j=3∧x=zs z+(i:Int)) (Oy (k:=3) B (by decide) rfl rfl (by omega) (by omega) f (fun j x h=>h) rfl (fun A h=>aV ⟨_,_,_,_,_,rfl,h⟩) fun h=>aV ⟨_,_,_,_,_,rfl,h⟩) ?_);rintro⟨t,A,u⟩⟨a,b,c,d,e,rfl,f⟩;refine aV ⟨?_,_,_,_,_,_,rfl,f.mono (fun j x _ h=>by omega) fun j x _ _ h=>by omega⟩;show(ah .i64 (zs z+(i:Int)) 1,())=(zs z+((i+1:Nat):Int),());rw[cz (by omega) (by omega),kX,no]
 ·rintro⟨t,n,w⟩⟨rfl,a,b,c,d,e,rfl,f⟩;exact av (cE (by rw[p];show zs z+zc z≤zs z+_;omega)) (bo (aV ⟨_,_,_,_,_,rfl,f.mono (fun j x h m=>by omega) fun j x h v m=>by have:=q j x h;omega⟩))
 ·rintro⟨t,n,u⟩⟨a,b,c,d,e,rfl,f⟩;exact aV ⟨_,_,_,_,_,rfl,f⟩
 rintro⟨v9,k0,f0⟩w0;obtain⟨a,b,c,d,e,rfl,f⟩:=w0;have w0:PW z s (fun j _=>3≤j) (I7 z a b c d e,k0,f0):=⟨a,b,c,d,e,rfl,f⟩;refine aK (P:=PW z s fun j _=>2≤j) (aK (P:=PW z s fun j _=>2≤j) (bq (I:=fun i t=>t.2.2=(zs z+(i:Int),())∧PW z s (fun j x=>2<j∨j=2∧x<zs z+(i:Int)) (t.1,t.2.1,())) (m:=(zc z).toNat) ⟨by show(zs z,())=(zs z+((0:Nat):Int),());rw[jr,gL],PW.mono w0 (fun j x _ h=>by omega) fun j x h v m=>by have:=q j x h;omega⟩ (by omega) ?_ ?_) ?_) ?_;·rintro i⟨t,n,w⟩C⟨rfl,a,b,c,d,e,rfl,f⟩;refine bg (eJ (by rw[p];show zs z+(i:Int)<_;omega)) (aK (P:=PW z s fun j x=>(2<j∨j=2∧x<zs z+(i:Int))∨j=2∧x=zs z+(i:Int)) (Oy (k:=2) B (by decide) rfl rfl (by omega) (by omega) f (fun j x h=>h) rfl (fun A h=>aV ⟨_,_,_,_,_,rfl,h⟩) fun h=>aV ⟨_,_,_,_,_,rfl,h⟩) ?_);rintro⟨t,A,u⟩⟨a,b,c,d,e,rfl,f⟩;refine aV ⟨?_,_,_,_,_,_,rfl,f.mono (fun j x _ h=>by omega) fun j x _ _ h=>by omega⟩;show(ah .i64 (zs z+(i:Int)) 1,())=(zs z+((i+1:Nat):Int),());rw[cz (by omega) (by omega),kX,no]
 ·rintro⟨t,n,w⟩⟨rfl,a,b,c,d,e,rfl,f⟩;exact av (cE (by rw[p];show zs z+zc z≤zs z+_;omega)) (bo (aV ⟨_,_,_,_,_,rfl,f.mono (fun j x h m=>by omega) fun j x h v m=>by have:=q j x h;omega⟩))
 ·rintro⟨t,n,u⟩⟨a,b,c,d,e,rfl,f⟩;exact aV ⟨_,_,_,_,_,rfl,f⟩
 rintro⟨d0,l0,g0⟩x0;obtain⟨a,b,c,d,e,rfl,f⟩:=x0;have x0:PW z s (fun j _=>2≤j) (I7 z a b c d e,l0,g0):=⟨a,b,c,d,e,rfl,f⟩;refine aK (P:=PW z s fun j _=>1≤j) (aK (P:=PW z s fun j _=>1≤j) (bq (I:=fun i t=>t.2.2=(zs z+(i:Int),())∧PW z s (fun j x=>1<j∨j=1∧x<zs z+(i:Int)) (t.1,t.2.1,())) (m:=(zc z).toNat) ⟨by show(zs z,())=(zs z+((0:Nat):Int),());rw[jr,gL],PW.mono x0 (fun j x _ h=>by omega) fun j x h v m=>by have:=q j x h;omega⟩ (by omega) ?_ ?_) ?_) ?_;·rintro i⟨t,n,w⟩C⟨rfl,a,b,c,d,e,rfl,f⟩;refine bg (eJ (by rw[p];show zs z+(i:Int)<_;omega)) (aK (P:=PW z s fun j x=>(1<j∨j=1∧x<zs z+(i:Int))∨j=1∧x=zs z+(i:Int)) (Oy (k:=1) B (by decide) rfl rfl (by omega) (by omega) f (fun j x h=>h) rfl (fun A h=>aV ⟨_,_,_,_,_,rfl,h⟩) fun h=>aV ⟨_,_,_,_,_,rfl,h⟩) ?_);rintro⟨t,A,u⟩⟨a,b,c,d,e,rfl,f⟩;refine aV ⟨?_,_,_,_,_,_,rfl,f.mono (fun j x _ h=>by omega) fun j x _ _ h=>by omega⟩;show(ah .i64 (zs z+(i:Int)) 1,())=(zs z+((i+1:Nat):Int),());rw[cz (by omega) (by omega),kX,no]
 ·rintro⟨t,n,w⟩⟨rfl,a,b,c,d,e,rfl,f⟩;exact av (cE (by rw[p];show zs z+zc z≤zs z+_;omega)) (bo (aV ⟨_,_,_,_,_,rfl,f.mono (fun j x h m=>by omega) fun j x h v m=>by have:=q j x h;omega⟩))
 ·rintro⟨t,n,u⟩⟨a,b,c,d,e,rfl,f⟩;exact aV ⟨_,_,_,_,_,rfl,f⟩
 rintro⟨w9,m0,h0⟩y0;obtain⟨a,b,c,d,e,rfl,f⟩:=y0;have y0:PW z s (fun j _=>1≤j) (I7 z a b c d e,m0,h0):=⟨a,b,c,d,e,rfl,f⟩;refine aK (P:=PW z s fun j _=>0≤j) (aK (P:=PW z s fun j _=>0≤j) (bq (I:=fun i t=>t.2.2=(zs z+(i:Int),())∧PW z s (fun j x=>0<j∨j=0∧x<zs z+(i:Int)) (t.1,t.2.1,())) (m:=(zc z).toNat) ⟨by show(zs z,())=(zs z+((0:Nat):Int),());rw[jr,gL],PW.mono y0 (fun j x _ h=>by omega) fun j x h v m=>by have:=q j x h;omega⟩ (by omega) ?_ ?_) ?_) ?_;·rintro i⟨t,n,w⟩C⟨rfl,a,b,c,d,e,rfl,f⟩;refine bg (eJ (by rw[p];show zs z+(i:Int)<_;omega)) (aK (P:=PW z s fun j x=>(0<j∨j=0∧x<zs z+(i:Int))∨j=0∧x=zs z+(i:Int)) (Oy (k:=0) B (by decide) rfl rfl (by omega) (by omega) f (fun j x h=>h) rfl (fun A h=>aV ⟨_,_,_,_,_,rfl,h⟩) fun h=>aV ⟨_,_,_,_,_,rfl,h⟩) ?_);rintro⟨t,A,u⟩⟨a,b,c,d,e,rfl,f⟩;refine aV ⟨?_,_,_,_,_,_,rfl,f.mono (fun j x _ h=>by omega) fun j x _ _ h=>by omega⟩;show(ah .i64 (zs z+(i:Int)) 1,())=(zs z+((i+1:Nat):Int),());rw[cz (by omega) (by omega),kX,no]
 ·rintro⟨t,n,w⟩⟨rfl,a,b,c,d,e,rfl,f⟩;exact av (cE (by rw[p];show zs z+zc z≤zs z+_;omega)) (bo (aV ⟨_,_,_,_,_,rfl,f.mono (fun j x h m=>by omega) fun j x h v m=>by have:=q j x h;omega⟩))
 ·rintro⟨t,n,u⟩⟨a,b,c,d,e,rfl,f⟩;exact aV ⟨_,_,_,_,_,rfl,f⟩
 rintro⟨x9,n0,i0⟩q0;obtain⟨a,b,c,d,e,rfl,f⟩:=q0;have q0:PW z s (fun j _=>0≤j) (I7 z a b c d e,n0,i0):=⟨a,b,c,d,e,rfl,f⟩;have f:=f.mono (D':=fun _ _=>True) (fun _ _ _ _=>trivial) fun j _ _ _ _=>a5 j;exact ab ⟨[a,b,c,d,e],rfl,f.ok B⟩
end Go.Bo
set_option maxHeartbeats 4000000
namespace Go.Bo
open Go Go.Ls
def Cw(s:List Int)(a:Int->Prop):Prop:=s.length=256/\∀g:Nat,(a (g:Int)->s.getD g 0=1)/\(¬a (g:Int)->s.getD g 0=0)
theorem Cw.congr{s:List Int}{b a:Int→Prop}(h:Cw s b)(e:∀g,b g↔a g):Cw s a:=⟨h.1,fun g=>⟨fun v=>(h.2 g).1 ((e _).2 v),fun v=>(h.2 g).2 fun w=>v ((e _).1 w)⟩⟩
theorem Fh{s:List Int}{a:Int->Prop}{x:Int}(h:Cw s a)(d:0<=x)(h1:x<256)(c:¬a x):s[x.toNat]?=some 0/\Cw (s.set x.toNat 1) λg=>a g\/g=x:=by
 have b:x.toNat<s.length:=by rw[h.1];omega
 have e:((x.toNat:Nat):Int)=x:=by omega
 refine⟨?_,by rw[bx];exact h.1,λg=>?_⟩;.have:=(h.2 x.toNat).2 (by rw[e];exact c);rw[cc,G b]at this;rw[G b];exact eP some this
 .
  rw[Zs.Dn _ _ _ b];by_cases q:g=x.toNat;.rw[aA q];exact⟨λ_=>rfl,λk=>absurd (.inr (by omega)) k⟩
  .rw[aB q];exact⟨λk=>(h.2 g).1 (k.resolve_right (by omega)),λk=>(h.2 g).2 λw=>k (.inl w)⟩
def Wn(Z:Zs.kC)(k i:Nat)(g:Int):Prop:=∃(j:Nat)(x:Int),(j<k/\x∈Zs.fF Z j\/j=k/\∃q,q<i/\(Zs.fF Z k)[q]?=some x)/\x<=g/\g<x+2^j
theorem LS{Z:Zs.kC}(h:Z.gD.length=5){k:Nat}(a:k<=4):az Z.gD (k:Int)=some (Zs.fF Z k):=aI (Zs.AP h (by omega))
theorem Ad{β:Type}{Q:β->Prop}{z:Zn}(h:Zs.qC (er z)){K:List Int×Unit->Option β}(q0:∀s,Cw s (Zs.pT (er z))->Ok (K (s,())) Q):Ok (aE (Gl z.2.2.2.2.2.1) K) Q:=by
 have r0:(er z).gD.length=5:=h.len;have y0:∀(k:Nat)(x:Int),x∈Zs.fF (er z) k->0<=x/\x+2^k<=256:=λk x d=>⟨(h.J3 (h.jR k x d)).1,(h.J3 (h.jR k x d)).2.1⟩;have p0:∀k:Nat,(Zs.fF (er z) k).length<=256:=λk=>Zs.z7 (h.xq k) (λf n=>by have:=y0 k f n;have:=Zs.mi k;omega);unfold Gl;refine aK (P:=λt=>Cw t.1 (Zs.pT (er z))) (bq (I:=λk t=>t.2.1=(k:Int)/\Cw t.1 (Wn (er z) k 0)) (m:=5) ⟨rfl,aN,λg=>⟨?_,λ_=>?_⟩⟩ (by decide) ?_ ?_) λt p=>q0 t.1 p;.rintro⟨j,x,⟨l,_⟩|⟨_,q,o,_⟩,_⟩<;>omega
 .show(List.replicate 256 0).getD g 0=0;rw[cc,cd];split<;>rfl
 .
  rintro k⟨s,l0,u⟩i0⟨rfl,c⟩;have B:k<=4:=by omega
  have f0:=Ar B;have r:cR (k:Int)=true:=ar (by omega);have v:ay (k:Int) 5=true:=eJ (by omega);have h0:=p0 k;have t0:ah .i64 (k:Int) 1=((k+1:Nat):Int):=bH (by omega);have A:az z.2.2.2.2.2.1 (k:Int)=some (Zs.fF (er z) k):=LS r0 B;refine bg (kS (by show(k:Int)<=4;omega)) (aK (P:=λt=>Cw t.1 (Wn (er z) (k+1) 0)) (aK (P:=λt=>Cw t.1 (Wn (er z) (k+1) 0)) (bq (I:=λi t=>t.2.1=(i:Int)/\Cw t.1 (Wn (er z) k i)) (m:=(Zs.fF (er z) k).length) ⟨rfl,c⟩ (by omega) ?_ ?_) λt p=>aV p) λt p=>aV ⟨by rw[<-t0],p⟩)
  .
   rintro i⟨s,m0,u⟩z0⟨rfl,c⟩;have d:(Zs.fF (er z) k)[i]?=some (Zs.fF (er z) k)[i]:=G z0;generalize(Zs.fF (er z) k)[i]=x at d;have w0:=Y d;have u0:ah .i64 (i:Int) 1=((i+1:Nat):Int):=bH (by omega);obtain⟨e0,d0⟩:=y0 k x w0;have e:ah .i64 x (fj .i64 1 (ee .u64 (k:Int)))=x+2^k:=by rw[qw B,s5 k B];exact cz (by omega) (by omega)
   have v0:cR (ee .u64 (k:Int))=true:=by rw[qw B];exact ar (by omega)
   refine aq r (aq v (aa A (bg (cD z0) (aK (P:=λt=>Cw t.1 (Wn (er z) k (i+1))) (aq r (aq v (aa A (aa (aI d) (aK (P:=λt=>Cw t.1 (Wn (er z) k (i+1))) (bq (I:=λm t=>t.2.1=x+(m:Int)/\Cw t.1 λg=>Wn (er z) k i g\/x<=g/\g<x+(m:Int)) (m:=(2^k:Int).toNat) ⟨by show x=x+((0:Nat):Int);omega,c.congr λg=>⟨.inl,λq=>q.resolve_right (by omega)⟩⟩ (by omega) ?_ ?_) λt p=>aV p))))) λt p=>aV ⟨by rw[<-u0],p⟩))))
   .
    rintro m⟨s,f,u⟩g0⟨n,c⟩;have n:f=x+(m:Int):=n;subst n
    have o0:¬(Wn (er z) k i (x+(m:Int))\/x<=x+(m:Int)/\x+(m:Int)<x+(m:Int)):=by
     rintro(⟨j,y,a,k0,j0⟩|⟨_,q⟩)
     .
      have D:=λn0=>h.Hf k x j y (x+(m:Int)) w0 n0 (by omega) (by omega) k0 j0;rcases a with⟨l,a⟩|⟨rfl,q,o,a⟩;.have:=(D a).1;omega
      .have:=(D (Y a)).2;subst this;have:=Zs.v5 (h.xq j) a d o;omega
     .omega
    obtain⟨C,s0⟩:=Fh c (by omega) (by omega) o0;have x0:aU s (x+(m:Int))=true:=qA (by omega) (by rw[aJ,c.1];omega);refine aq r (aq v (aa A (aa (aI d) (aq v0 (bg (eJ (by rw[e];show x+(m:Int)<_;omega)) (aq x0 (aa ((pC (by omega)).trans C) (aq x0 (aa ((pC (by omega)).trans C) (aV ⟨?_,?_⟩))))))))));.show ah .i64 (x+(m:Int)) 1=x+((m+1:Nat):Int);rw[cz (by omega) (by omega)];omega
    .
     show Cw (aG s (x+(m:Int)) 1) _
     exact s0.congr λg=>⟨λq=>by rcases q with(q|q)|q<;>first|exact .inl q|exact .inr (by omega),λq=>by
      rcases q with q|q;.exact .inl (.inl q)
      .
       by_cases w:g=x+(m:Int);.exact .inr w
       .exact .inl (.inr (by omega))⟩
   .
    rintro⟨s,f,u⟩⟨n,c⟩;have n:f=x+(((2^k:Int).toNat:Nat):Int):=n;subst n;refine aq r (aq v (aa A (aa (aI d) (aq v0 (av (cE (by rw[e];show x+2^k<=x+_;omega)) (bo (aV (P:=λt:List Int×Unit=>Cw t.1 (Wn (er z) k (i+1))) (c.congr λg=>⟨λq=>?_,?_⟩))))))))
    .
     rcases q with⟨j,y,⟨l,a⟩|⟨l,q,o,a⟩,b⟩|q;.exact⟨j,y,.inl ⟨l,a⟩,b⟩
     .exact⟨j,y,.inr ⟨l,q,by omega,a⟩,b⟩
     .exact⟨k,x,.inr ⟨rfl,i,by omega,d⟩,q.1,by omega⟩
    .
     rintro⟨j,y,⟨l,a⟩|⟨rfl,q,o,a⟩,b⟩;.exact .inl ⟨j,y,.inl ⟨l,a⟩,b⟩
     .
      by_cases w:q=i;.subst w;rw[d]at a;cases a;exact .inr ⟨b.1,by omega⟩
      .exact .inl ⟨j,y,.inr ⟨rfl,q,by omega,a⟩,b⟩
  .
   rintro⟨s,m0,u⟩⟨rfl,c⟩;refine aq r (aq v (aa A (av cU (bo (aV (P:=λt:List Int×Unit=>Cw t.1 (Wn (er z) (k+1) 0)) (c.congr λg=>⟨?_,?_⟩))))))
   .
    rintro⟨j,y,⟨l,a⟩|⟨rfl,q,_,a⟩,b⟩;.exact⟨j,y,.inl ⟨by omega,a⟩,b⟩
    .exact⟨j,y,.inl ⟨by omega,Y a⟩,b⟩
   .
    rintro⟨j,y,⟨l,a⟩|⟨_,q,o,_⟩,b⟩
    .
     by_cases w:j=k;.subst w;obtain⟨q,o⟩:=bj a;exact⟨j,y,.inr ⟨rfl,q,(aj.1 o).1,o⟩,b⟩
     .exact⟨j,y,.inl ⟨by omega,a⟩,b⟩
    .omega
 .
  rintro⟨s,l0,u⟩⟨rfl,c⟩;refine av (kT (by show(4:Int)<((5:Nat):Int);decide)) (bo (aV (P:=λt:List Int×Unit=>Cw t.1 (Zs.pT (er z))) (c.congr λg=>⟨?_,?_⟩)))
  .
   rintro⟨j,y,⟨l,a⟩|⟨_,q,o,_⟩,b⟩;.exact⟨j,y,a,b⟩
   .omega
  .rintro⟨j,y,a,b⟩;exact⟨j,y,.inl ⟨by have:=h.EY a;omega,a⟩,b⟩
end Go.Bo
set_option maxHeartbeats 4000000
namespace Go.Bo
open Go Go.Ls
theorem Ic{z:Zn}(l:Zs.eO (er z)=true):Ie (z,())=some (true,()):=by obtain⟨a,b,c,d,m,f,j,g,i⟩:=Zs.lg l;have a:0<=z.1:=a;have b:z.1<4:=b;have c:z.2.1=0\/z.2.1=1:=c;have d:0<=zs z:=d;have f:1<=zc z:=f;have j:zc z<=256-zs z:=j;have g:0<=z.2.2.2.2.1:=g;have i:z.2.2.2.2.1<=zc z:=i;have e:bb .i64 256 z.2.2.2.1=256-zc z:=fa (by show _<=256-zc z;omega) (by show 256-zc z<=_;omega);have k:Ok (ad (cH 0 z.2.2.1) (ad (cH 1 z.2.2.2.1) (ad (cH z.2.2.2.1 256) (ad (cH z.2.2.1 (bb .i64 256 z.2.2.2.1)) (ad (cH 0 z.2.2.2.2.1) (some (cH z.2.2.2.2.1 z.2.2.2.1,())) (some (false,()))) (some (false,()))) (some (false,()))) (some (false,()))) (some (false,())):Option (Bool×Unit)) λr=>r=(true,()):=bg (kS d) (bg (kS f) (bg (kS (show zc z<=256 by omega)) (bg (kS (by rw[e];show zs z<=_;omega)) (bg (kS g) (ab (by rw[kS (show z.2.2.2.2.1<=z.2.2.2.1 from i)]))))));refine cA ?_;unfold Ie;refine av (cE a) (av (kT b) (aL (λh=>av ?_ k) λ_=>k));have h:z.2.1≠0:=iX h;rw[gI,ar (c.resolve_left h)];rfl
structure Zl (z : Zn) : Prop where
  qB : ∀ k : Nat, k ≤ 4 → az z.2.2.2.2.2.1 (k : Int) = some (Zs.fF (er z) k)
  len : ∀ k : Nat, (Zs.fF (er z) k).length ≤ 256
  bd : ∀ (k : Nat) (x : Int), x ∈ Zs.fF (er z) k → 0 ≤ x ∧ x + 2 ^ k ≤ 256
theorem vp{z:Zn}(h:Zs.qC (er z)):Zl z:=by have a:∀(k:Nat)(x:Int),x∈Zs.fF (er z) k->0<=x/\x+2^k<=256:=λk x b=>⟨(h.J3 (h.jR k x b)).1,(h.J3 (h.jR k x b)).2.1⟩;exact⟨λk d=>LS h.len d,λk=>Zs.z7 (h.xq k) λf c=>by have:=a k f c;have:=Zs.mi k;omega,a⟩
theorem Q9{z:Zn}(h:Zs.qC (er z)):Mh (z,())=some (0,()):=by
 have g:=vp h;refine cA ?_;unfold Mh;refine cw (λk=>((k:Int),())) 5 rfl (by decide) (λk q=>?_) (av (kT (by show(4:Int)<((5:Nat):Int);decide)) (bC (ab rfl))) (ab rfl);have m:k<=4:=by omega
 have a:cR (k:Int)=true:=ar (by omega);have b:ay (k:Int) 5=true:=eJ (by omega);have s:=g.len k;have c:=g.qB k m;refine bg (kS (by show(k:Int)<=4;omega)) (aK (P:=λ_=>True) (cw (λi=>((i:Int),())) (Zs.fF (er z) k).length rfl (by omega) (λi l=>?_) (aq a (aq b (aa c (av cU (bC (ab rfl)))))) (aV trivial)) λ_ _=>ab (by show Sum.inl (ah .i64 (k:Int) 1,())=_;rw[bH (by omega)]));have d:(Zs.fF (er z) k)[i]?=some (Zs.fF (er z) k)[i]:=G l;generalize(Zs.fF (er z) k)[i]=x at d;have n:=Y d;obtain⟨p,u⟩:=g.bd k x n;have t:=Zs.mi k;have j:Ok (some (Sum.inl (ah .i64 (i:Int) 1,())):Option (Sum (Int×Unit) (Sum Unit (Sum Unit (Sum (Int×Unit) (Sum Unit (Int×Unit))))))) λr=>r= .inl (((i+1:Nat):Int),()):=ab (by rw[bH (by omega)]);refine aq a (aq b (aa c (bg (cD l) (aq a (aq b (aa c (aa (aI d) (aa (xd h.eO m p (by omega)) (av (by rw[h.jR k x n];rfl) (aL (λe=>?_) λ_=>j))))))))));have e:0<i:=by have:=kj e;simp only at this;omega
 have f:(Zs.fF (er z) k)[i-1]?=some ((Zs.fF (er z) k)[i-1]'(by omega)):=G (by omega);generalize(Zs.fF (er z) k)[i-1]'(by omega)=y at f;have o:=uI e (by omega);refine aq a (aq b (aa c (aa (aI d) (aq a (aq b (aa c (aa (x:=y) (by show az _ (bb .i64 (i:Int) 1)=_;rw[o];exact f) (av (kT (Zs.v5 (h.xq k) f d (by omega))) j))))))))
theorem xb{z:Zn}(h:Zs.qC (er z)):DT (z,())=some (0,()):=by
 have o:=vp h;refine cA ?_;unfold DT;refine aa (Ic h.eO) (av rfl (aa (Q9 h) (av rfl (aq (by decide) (Ad h λs a=>?_)))));refine cw (λi=>((i:Int),())) 256 rfl (by decide) (λi C=>?_) (av (cE (by rw[aJ,a.1];exact bW 256)) (bC (ab rfl))) (cw (λk=>((k:Int),())) 4 rfl (by decide) (λk t=>?_) (av (cE (by show(4:Int)<=((4:Nat):Int);decide)) (bC (ab rfl))) (ab rfl))
 .
  have b:s[i]?=some (s[i]'(by rw[a.1];omega)):=G (by rw[a.1];omega);generalize s[i]'(by rw[a.1];omega)=x at b;have B:s.getD i 0=x:=by rw[cc,b];rfl
  have D:x<=1:=by
   rw[<-B];by_cases w:Zs.pT (er z) (i:Int);.rw[(a.2 i).1 w];decide
   .rw[(a.2 i).2 w];decide
  exact bg (eJ (by rw[aJ,a.1];show(i:Int)<256;omega)) (aq (eu (by rw[a.1];omega)) (aa (aI b) (av (cE D) (ab (by show Sum.inl (ah .i64 (i:Int) 1,())=_;rw[bH (by omega)])))))
 .
  have g:k<=4:=by omega
  have c:cR (k:Int)=true:=ar (by omega);have d:ay (k:Int) 5=true:=eJ (by omega);have x0:=o.len k;have f:=o.qB k g;have y0:cR (ee .u64 (k:Int))=true:=by rw[qw g];exact ar (by omega)
  refine bg (eJ (by show(k:Int)<4;omega)) (aK (P:=λ_=>True) (cw (λi=>(((i+1:Nat):Int),())) ((Zs.fF (er z) k).length-1) rfl (by omega) (λi C=>?_) (aq c (aq d (aa f (av (cE (by rw[aJ];show((Zs.fF (er z) k).length:Int)<=(((Zs.fF (er z) k).length-1+1:Nat):Int);omega)) (bC (ab rfl)))))) (aV trivial)) λ_ _=>ab (by show Sum.inl (ah .i64 (k:Int) 1,())=_;rw[bH (by omega)]));have b:(Zs.fF (er z) k)[i+1]?=some ((Zs.fF (er z) k)[i+1]'(by omega)):=G (by omega);generalize(Zs.fF (er z) k)[i+1]'(by omega)=x at b;have m:(Zs.fF (er z) k)[i]?=some ((Zs.fF (er z) k)[i]'(by omega)):=G (by omega);generalize(Zs.fF (er z) k)[i]'(by omega)=y at m;have z0:=Y b;have n:=Y m;obtain⟨u,u0⟩:=o.bd k y n;obtain⟨w0,v0⟩:=Ar g;have p:az (Zs.fF (er z) k) (bb .i64 ((i+1:Nat):Int) 1)=some y:=by rw[uI (by omega) (by omega)];exact m
  have e:ah .i64 y (fj .i64 1 (ee .u64 (k:Int)))=y+2^k:=by rw[qw g,s5 k g];exact cz (by omega) (by omega)
  have q:Ok (some (Sum.inl (ah .i64 ((i+1:Nat):Int) 1,())):Option (Sum (Int×Unit) (Sum Unit (Sum Unit (Sum (Int×Unit) (Sum Unit (Int×Unit))))))) λr=>r= .inl (((i+1+1:Nat):Int),()):=ab (by rw[bH (by omega)]);refine aq c (aq d (aa f (bg (eJ (by rw[aJ];show((i+1:Nat):Int)<_;omega)) (aq c (aq d (aa f (aa (aI b) (aq c (aq d (aa f (aa p (aq y0 (aL (λl=>?_) λ_=>q)))))))))))));have l:x=y+2^k:=by rw[<-e];exact kM l
  refine aq c (aq d (aa f (aa p (aa (x:=(Zs.fe (er z) y (k+1),())) ?_ (av ?_ q)))));.show rz (z,y,ah .i64 (k:Int) 1,())=_;rw[bH (by omega)];exact xd h.eO (by omega) u (by omega)
  .
   refine pS.2 λj=>?_;have j:Zs.fe (er z) y (k+1)=true:=j;have A:=(Zs.iQ h.eO).1 j;have v:=((Zs.iQ h.eO).1 (h.jR k y n)).2.1;rcases Zs.zD t u (by omega) v with⟨_,w⟩|⟨w,_⟩;.have:=h.jU k y t n (by rw[w,<-l];exact z0);rw[w,show min y (y+2^k)=y by omega,j]at this;cases this
   .rw[A.2.1]at w;omega
theorem Q6{z:Zn}(h:Zs.qC (er z)){f:Int}(e:zs z<=f)(h1:f<zs z+zc z)(g:¬Zs.pT (er z) f):Mc (z,f,())=some (false,()):=by
 obtain⟨l,c,m⟩:=vy h.eO;have a:0<=f:=by omega
 have d:f<=256:=by omega
 have i:Zs.fe (er z) f 0=true:=(Zs.iQ h.eO).2 (by rw[Zs.Jh];exact⟨e,by omega,c,by show f<=zs z+zc z-1;omega⟩);refine cA ?_;unfold Mc;refine aa (xb h) (bg rfl (aa (xd (k:=0) h.eO (by decide) a d) (bg i (aq (by decide) (Ad h λs b=>?_)))));have j:aU s f=true:=qA a (by rw[aJ,b.1];omega);have k:s[f.toNat]?=some 0:=(Fh b a (by omega) g).1;exact aq j (aa ((pC a).trans k) (ab rfl))
end Go.Bo
set_option maxHeartbeats 4000000
namespace Go.Bo
open Go Go.Ls
structure VZ (z : Zn) : Prop where
  v : Vz z
  r : Zs.eO (er z) = true
  l : (er z).gD.length = 5
theorem rk(z:Zn)(k:Nat):Zs.fF (er z) k=dA z k:=by unfold Zs.fF dA bs;rw[cc];rfl
theorem Sn{l:List Int}(h:iy l):Zs.wW l:=gV.2 λi j a c b=>h i j _ _ b (G a) (G c)
theorem vq{z:Zn}(h:VZ z):Zs.qC (er z)∧∀g,Zs.pT (er z) g↔cv z g:=by
 obtain⟨⟨r0,B,r,p⟩,A,v⟩:=h;have t:∀k,5≤k→Zs.fF (er z) k=[]:=fun k b=>Zs.Lb v b
 have c:∀k x,x∈Zs.fF (er z) k→k≤4∧x∈dA z k:=fun k x a=>by
  rcases cI k 5 with b|b;·exact⟨by omega,by rw[←rk];exact a⟩
  ·rw[t k b]at a;cases a
 have m:∀k x,x∈Zs.fF (er z) k→Zs.fe (er z) x k=true∧(0≤x∧x+2^k≤256)∧x%2^k=0:=fun k x a=>by
  obtain⟨b,a⟩:=c k x a;have u:=(B.fr k b).2 x a;have s:=B.pl;have o:0≤x:=by have:=u.1;have:=s.1;omega
  obtain⟨t0,q0,C⟩:=(FH o).1 u;have u0:=Zs.mi k;exact⟨(Zs.iQ A).2 ⟨t0,C,by show(2:Int)^k≤zc z;omega,by show x≤zs z+zc z-2^k;omega⟩,⟨o,by have:=s.2.2;omega⟩,C⟩
 refine⟨⟨A,v,fun k=>?_,fun k x a=>(m k x a).1,fun k x j y f a n D s0 p0 o0=>?_,fun k x b a d=>?_⟩,fun g=>⟨?_,?_⟩⟩
 ·
  rcases cI k 5 with b|b;·rw[rk];exact Sn (r.so k (by omega))
  ·rw[t k b];exact Zs.wW.nil
 ·
  obtain⟨b,a⟩:=c k x a;obtain⟨v0,n⟩:=c j y n;by_cases e:k=j∧x=y;·exact e
  ·rcases r.dj k j b v0 x y a n fun z0 y0=>e ⟨z0,y0⟩with q|q<;>omega
 ·
  exfalso;obtain⟨_,⟨D,s0⟩,x0⟩:=m k x a;obtain⟨_,_,w0⟩:=m k _ d;have u0:=Zs.mi k;rcases Zs.zD b D (by omega) x0 with⟨w,e⟩|⟨w,e⟩;·rw[e]at d;exact p k x b w (c k x a).2 (c k _ d).2
  ·
   rw[e]at d w0;have i:=Zs.Aq k;refine p k (x-2^k) b ?_ (c k _ d).2 (by rw[Int.sub_add_cancel];exact(c k x a).2);have:x-2^k=x-x%2^(k+1):=by rw[w]
   rw[this];exact Int.emod_eq_zero_of_dvd Int.dvd_self_sub_emod
 ·rintro⟨k,x,a,l,i⟩;obtain⟨b,a⟩:=c k x a;exact⟨k,x,b,a,l,i⟩
 ·rintro⟨k,x,b,a,l,i⟩;exact⟨k,x,by rw[rk];exact a,l,i⟩
theorem OQ{z y:Zn}(h:er z=er y):z=y:=by obtain⟨a,b,c,d,e,l,u⟩:=z;obtain⟨n,o,p,q,r,s,t⟩:=y;injection h with f g i j k m;have f:a=n:=f;have g:b=o:=g;have i:c=p:=i;have j:d=q:=j;have k:e=r:=k;have m:l=s:=m;subst f g i j k m;rfl
theorem KC{z y:Zn}(e:VZ z)(d:Zs.qC (er y))(h:(y.1=z.1∧y.2.1=z.2.1)∧(zs y=zs z∧zc y=zc z)∧y.2.2.2.2.1=z.2.2.2.2.1)(c:∀g,Zs.pT (er y) g↔cv z g):y=z:=by obtain⟨a,b⟩:=vq e;exact OQ (d.ext a h.1.1 h.1.2 h.2.1.1 h.2.1.2 h.2.2 fun g=>(c g).trans (b g).symm)
theorem UE{z:Zn}(m:Zs.eO (er z)=true):qs (z,())=some (true,()):=by obtain⟨a,b,c,d,f,g,i,j,k⟩:=Zs.lg m;have a:0<=z.1:=a;have b:z.1<4:=b;have c:z.2.1=0\/z.2.1=1:=c;have d:0<=zs z:=d;have f:zs z<256:=f;have g:1<=zc z:=g;have i:zc z<=256-zs z:=i;have j:0<=z.2.2.2.2.1:=j;have k:z.2.2.2.2.1<=zc z:=k;have e:bb .i64 256 z.2.2.1=256-zs z:=fa (by show _<=256-zs z;omega) (by show 256-zs z<=_;omega);have l:Ok (ad (cH 0 z.2.2.1) (ad (ay z.2.2.1 256) (ad (cH 1 z.2.2.2.1) (ad (cH z.2.2.2.1 (bb .i64 256 z.2.2.1)) (ad (cH 0 z.2.2.2.2.1) (some (cH z.2.2.2.2.1 z.2.2.2.1,())) (some (false,()))) (some (false,()))) (some (false,()))) (some (false,()))) (some (false,())):Option (Bool×Unit)) λr=>r=(true,()):=bg (kS d) (bg (eJ f) (bg (kS g) (bg (kS (by rw[e];exact i)) (bg (kS j) (ab (by rw[kS (show z.2.2.2.2.1<=z.2.2.2.1 from k)]))))));refine cA ?_;unfold qs;refine bg (kS a) (bg (eJ b) (aL (λ_=>l) λh=>bg ?_ l));have h:z.2.1≠0:=mj h;rw[gi];exact ar (c.resolve_left h)
def MR(n k st ct a:Int)(l:List (List Int)):Zn:=(n,k,st,ct,a,l,())
structure NZ (n k st ct mn : Int) (z : Zn) : Prop where
  v : VZ z
  e : (z.1 = n ∧ z.2.1 = k) ∧ (zs z = st ∧ zc z = ct) ∧ z.2.2.2.2.1 = mn
  c : ∀ g, cv z g ↔ st ≤ g ∧ g < st + ct
theorem Om{n k st ct f:Int}(m:Zs.eO (er (MR n k st ct f []))=true):Ok (IC (n,k,st,ct,f,())) λr=>r.2.1=0/\NZ n k st ct f r.1:=by refine(IB n k st ct f).mono λr A=>?_;obtain⟨⟨a,b,c,d,e,l,u⟩,r0,q0⟩:=r;have w:=A.1 (UE m);obtain⟨o,s,p0,B,t0,s0,C,⟨t,v,p⟩,⟨w0,v0,q⟩,u0⟩:=A.2 w;have o:c=st:=o;have s:d=ct:=s;have t:a=n:=t;have v:b=k:=v;have p:e=f:=p;have q:l=w0:=q;subst o s t v p q;have i:=vy m;have i:0<=c/\1<=d/\c+d<=256:=i;refine⟨w,⟨⟨s0,⟨i,λk z=>⟨B.1 k z,C k z⟩⟩,W0 B,t0⟩,m,v0⟩,⟨⟨rfl,rfl⟩,⟨rfl,rfl⟩,rfl⟩,λg=>⟨?_,λh=>u0 g h.1 h.2⟩⟩;rintro⟨j,x,y0,x0,D,z0⟩;have y:=C j y0 x x0;exact⟨vl y.1 D,Int.lt_of_lt_of_le z0 y.2.1⟩
theorem Ol{n k st ct d:Int}(e:Zs.eO (er (MR n k st ct d []))=true):Ok (ML (n,k,st,ct,d,())) λr=>r.2.1=0/\∀z,NZ n k st ct d z->r.1=z:=by
 have y:0<=st/\1<=ct/\st+ct<=256:=vy e;have j:ah .i64 st ct=st+ct:=cz (by omega) (by omega);unfold ML;refine aa (Ic (z:=MR n k st ct d [[],[],[],[],[]]) e) (av rfl (aq (by decide) (aK (P:=λt=>Cw t.1 λg=>st<=g/\g<st+ct) (bq (I:=λi t=>t.2.1=st+(i:Int)/\Cw t.1 λg=>st<=g/\g<st+(i:Int)) (m:=ct.toNat) ⟨by show st=st+((0:Nat):Int);omega,aN,λg=>⟨λh=>by omega,λ_=>?_⟩⟩ (by omega) ?_ ?_) ?_)));.show(List.replicate 256 0).getD g 0=0;rw[cc,cd];split<;>rfl
 .rintro i⟨s,f,u⟩A⟨b,a⟩;have b:f=st+(i:Int):=b;subst b;obtain⟨m,o⟩:=Fh a (x:=st+(i:Int)) (by omega) (by omega) (by omega);have w:aU s (st+(i:Int))=true:=qA (by omega) (by rw[aJ,a.1];omega);refine bg (eJ (by show st+(i:Int)<ah .i64 st ct;rw[j];omega)) (aq w (aa ((pC (by omega)).trans m) (aV ⟨?_,o.congr λg=>by omega⟩)));show ah .i64 (st+(i:Int)) 1=st+((i+1:Nat):Int);rw[cz (by omega) (by omega)];omega
 .rintro⟨s,f,u⟩⟨b,a⟩;have b:f=st+((ct.toNat:Nat):Int):=b;subst b;exact av (cE (by show ah .i64 st ct<=_;rw[j];show st+ct<=st+((ct.toNat:Nat):Int);omega)) (bo (aV (P:=λt:List Int×Unit=>Cw t.1 λg=>st<=g/\g<st+ct) (a.congr λg=>by omega)))
 rintro⟨s,u⟩a;have a:Cw s λg=>st<=g/\g<st+ct:=a;refine aZ (Ia (z:=MR n k st ct d [[],[],[],[],[]]) e a.1) λr x=>ab ⟨rfl,λz c=>?_⟩;obtain⟨l,p,q,v⟩:=x;show r.1=z;rw[p];refine KC c.v q ⟨⟨c.e.1.1.symm,c.e.1.2.symm⟩,⟨c.e.2.1.1.symm,c.e.2.1.2.symm⟩,c.e.2.2.symm⟩ λg=>(v g).trans (Iff.trans ?_ (c.c g).symm);constructor;.exactλh=>⟨h.1,h.2.1⟩
 .intro h;refine⟨h.1,h.2,?_⟩;have:=(a.2 g.toNat).1 (by omega);rw[this];decide
end Go.Bo
set_option maxHeartbeats 4000000
namespace Go.Bo
open Go Go.Ls
abbrev Zt:=Int×Int×Int×Int×Unit
abbrev ZL:=List Zt
def lS(zl:ZL)(i:Nat):Int:=ym (zl.take i)
theorem IU:∀(l:ZL)(a:Int),l.all oz=true->0<=a->a+256*l.length<=10000->a<=l.foldl (λa(z:Zt)=>ah .i64 a z.2.2.1) a
 |[],a,_,_,_=>bW a
 |z::l,a,h,c,b=>by
  rw[cP,ae]at h;have d:1<=z.2.2.1/\z.2.2.1<=256:=by have:=h.1;unfold oz at this;simp only[ae]at this;exact dt this.2.2.1
  rw[bp]at b;have e:ah .i64 a z.2.2.1=a+z.2.2.1:=cz (by omega) (by omega);have:=IU l (a+z.2.2.1) h.2 (by omega) (by omega);rw[fw,e];omega
theorem KA:∀(l:ZL)(a:Int),l.all oz=true->0<=a->a+256*l.length<=10000->l.foldl (λa(z:Zt)=>ah .i64 a z.2.2.1) a<=a+256*l.length
 |[],a,_,_,_=>by show a<=_;omega
 |z::l,a,h,c,b=>by
  rw[cP,ae]at h;have d:1<=z.2.2.1/\z.2.2.1<=256:=by have:=h.1;unfold oz at this;simp only[ae]at this;exact dt this.2.2.1
  rw[bp]at b⊢;have e:ah .i64 a z.2.2.1=a+z.2.2.1:=cz (by omega) (by omega);have:=KA l (a+z.2.2.1) h.2 (by omega) (by omega);rw[fw,e];omega
structure AG (nd : List Int) (bt hg : Int) (zl : ZL) : Prop where
  nn : 1 ≤ nd.length ∧ nd.length ≤ 4
  nd : ∀ n, n ∈ nd → 0 ≤ n ∧ n < 4
  bh : 1 ≤ bt ∧ bt ≤ hg ∧ hg ≤ 16
  nz : 1 ≤ zl.length ∧ zl.length ≤ 6
  zk : zl.all oz = true
  sm : ym zl ≤ 256
theorem Er{zl:ZL}{i:Nat}{x:Zt}(h:zl[i]?=some x):lS zl (i+1)=ah .i64 (lS zl i) x.2.2.1:=by unfold lS ym;rw[ja,h,mG];rfl
theorem Sw{n k st ct a:Int}{l:List (List Int)}(h1:0<=n/\n<=3)(h2:0<=k/\k<=1)(b:0<=st)(c:1<=ct)(d:st+ct<=256)(e:0<=a/\a<=ct):Zs.eO (er (MR n k st ct a l))=true:=by show(decide (0<=n)&&decide (n<4)&&(decide (k=0)||decide (k=1))&&decide (0<=st)&&decide (st<256)&&decide (1<=ct)&&decide (ct<=256-st)&&decide (0<=a)&&decide (a<=ct))=true;simp only[ae,eX,bB];omega
theorem Es{nd:List Int}{p hg:Int}{zl:ZL}(g:AG nd p hg zl){i:Nat}{x:Zt}(h:zl[i]?=some x):0<=lS zl i/\1<=x.2.2.1/\lS zl i+x.2.2.1<=256/\lS zl (i+1)=lS zl i+x.2.2.1/\Zs.eO (er (MR x.1 x.2.1 (lS zl i) x.2.2.1 x.2.2.2.1 []))=true:=by
 have o:=bQ.1 g.zk;have l:=o x (Y h);unfold oz at l;simp only[ae]at l;obtain⟨d,e,b,f⟩:=l;have d:=dt d;have e:=dt e;have b:=dt b;have f:=dt f;have v:=(aj.1 h).1;have w:=g.nz;have k:∀{m:ZL},(∀y,y∈m->y∈zl)->m.all oz=true:=λr=>bQ.2 λy t=>o y (r y t);have c:=IU (zl.take i) 0 (k λy=>em) (bW 0) (by rw[aR];omega);have j:=KA (zl.take i) 0 (k λy=>em) (bW 0) (by rw[aR];omega);have c:0<=lS zl i:=c;have j:lS zl i<=0+256*(zl.take i).length:=j;rw[aR]at j;have n:lS zl (i+1)=lS zl i+x.2.2.1:=by rw[Er h];exact cz (by omega) (by omega)
 have u:=IU (zl.drop (i+1)) (lS zl (i+1)) (k λy=>jg) (by omega) (by rw[cB,n];omega);have q:ym zl=(zl.drop (i+1)).foldl (λa(z:Zt)=>ah .i64 a z.2.2.1) (lS zl (i+1)):=by unfold lS ym;rw[<-mG,dE]
 have s:=g.sm;rw[q]at s;refine⟨c,b.1,by omega,n,?_⟩;exact Sw d e c b.1 (by omega) f
structure QY (zl : ZL) (l : List Zn) : Prop where
  len : l.length = zl.length
  nz : ∀ (i : Nat) (z : Zn) (x : Zt), l[i]? = some z → zl[i]? = some x → NZ x.1 x.2.1 (lS zl i) x.2.2.1 x.2.2.2.1 z
def HG(nd:List Int)(a hg:Int)(l:List Zn)(n k:Nat):eK:=(nd,a,hg,l,List.replicate n (List.replicate k [],()),())
theorem MP{nd:List Int}{c hg:Int}{zl:ZL}(g:AG nd c hg zl){l:List Zn}{cl:List sR}(k:l.length=zl.length):B4 ((nd,c,hg,l,cl,()),())=some (true,()):=by obtain⟨⟨m,n⟩,h,⟨e,f,j⟩,⟨o,p⟩,_,_⟩:=g;refine cA ?_;unfold B4;refine av (cE (by rw[aJ];show(1:Int)<=(nd.length:Int);omega)) (av (cE (by rw[aJ];show(nd.length:Int)<=4;omega)) (av (cE (by show hg<=64;omega)) (av (cE e) (av (cE f) (av (cE (by rw[aJ];show(1:Int)<=(l.length:Int);omega)) (av (cE (by rw[aJ];show(l.length:Int)<=6;omega)) (cw (λi=>((i:Int),())) nd.length rfl (by omega) (λi b=>?_) (av (cU (l:=nd)) (bC (ab rfl))) (ab rfl))))))));have d:nd[i]?=some nd[i]:=G b;have a:=h _ (eF b);generalize nd[i]=x at d a;exact bg (cD (l:=nd) b) (aa (aI d) (av (cE a.1) (av (kT a.2) (ab (by show Sum.inl (ah .i64 (i:Int) 1,())=_;rw[bH (by omega)])))))
theorem MM{nd:List Int}{d hg:Int}{zl:ZL}(g:AG nd d hg zl):D6 (nd,d,hg,(zl.length:Int),())=some (true,()):=by obtain⟨⟨k,l⟩,h,⟨e,f,j⟩,⟨m,n⟩,_,_⟩:=g;refine cA ?_;unfold D6;refine av (cE (by rw[aJ];show(1:Int)<=(nd.length:Int);omega)) (av (cE (by rw[aJ];show(nd.length:Int)<=4;omega)) (av (cE e) (av (cE f) (av (cE (by show hg<=64;omega)) (av (cE (by show(1:Int)<=(zl.length:Int);omega)) (av (cE (by show(zl.length:Int)<=6;omega)) (cw (λi=>((i:Int),())) nd.length rfl (by omega) (λi b=>?_) (av (cU (l:=nd)) (bC (ab rfl))) (ab rfl))))))));have c:nd[i]?=some nd[i]:=G b;have a:=h _ (eF b);generalize nd[i]=x at c a;exact bg (cD (l:=nd) b) (aa (aI c) (av (cE a.1) (aa (aI c) (av (kT a.2) (ab (by show Sum.inl (ah .i64 (i:Int) 1,())=_;rw[bH (by omega)]))))))
theorem RY{n:Nat}(h1:1<=n)(h2:n<=6):D7 ((n:Int),())=some ((List.replicate n [],()),0,()):=by refine cA ?_;unfold D7;exact av (cE (by show(1:Int)<=(n:Int);omega)) (av (cE (by show(n:Int)<=6;omega)) (aq (iZ (by show 0<=(n:Int);omega) (by show(n:Int)<=10000;omega) (by decide)) (ab rfl)))
theorem BN{nd:List Int}{b hg:Int}{zl:ZL}(g:AG nd b hg zl):∃l,QY zl l/\HY (nd,b,hg,zl,())=some (HG nd b hg l nd.length zl.length,0,())/\T7 (nd,b,hg,zl,())=some (HG nd b hg l nd.length zl.length,0,()):=by
 have C:=g.nn;have t:=g.nz
 have B:Ok (HY (nd,b,hg,zl,())) λr=>∃l,QY zl l/\r=(HG nd b hg l nd.length zl.length,0,()):=by
  unfold HY;refine aq (cj (by simp;omega) (by decide)) (aq (iZ (by show 0<=(zl.length:Int);omega) (by show(zl.length:Int)<=10000;omega) (by decide)) (aa (MP g (l:=List.replicate _ _) (by rw[aN];rfl)) (av rfl ?_)));refine aK (P:=λs=>∃l,QY zl l/\s.2.1=(nd,b,hg,l,[],())) (bq (I:=λi s=>∃l,s=((([],0,0,[],[],()),()),(nd,b,hg,l,[],()),lS zl i,(i:Int),())/\l.length=zl.length/\∀(q:Nat)z x,q<i->l[q]?=some z->zl[q]?=some x->NZ x.1 x.2.1 (lS zl q) x.2.2.1 x.2.2.2.1 z) (m:=zl.length) ⟨_,rfl,by show(List.replicate _ _).length=_;rw[aN];rfl,λq z x A=>by omega⟩ (by omega) ?_ ?_) ?_
  .
   rintro i s d⟨l,rfl,f,n⟩;have c:zl[i]?=some zl[i]:=G d;generalize zl[i]=x at c;refine bg (cD (l:=zl) d) (aa (aI c) (aZ (Om (Es g c).2.2.2.2) λr k=>av (by rw[k.1];rfl) (aq (eu (l:=l) (by omega)) (aZ (cL (l:=l) (by omega)) λ_ _=>aV ⟨l.set i r.1,?_,by rw[bx];exact f,λq z y A h o=>?_⟩))));.show((_,()),(nd,b,hg,aG l (i:Int) r.1,[],()),ah .i64 (lS zl i) x.2.2.1,ah .i64 (i:Int) 1,())=_;rw[<-Er c,bH (by omega)];rfl
   .
    by_cases e:q=i;.subst e;rw[be (by omega)]at h;cases h;rw[c]at o;cases o;exact k.2
    .rw[bz λv=>e v.symm]at h;exact n q z y (by omega) h o
  .rintro s⟨l,rfl,f,n⟩;exact av (cU (l:=zl)) (bo (aV ⟨l,⟨f,λi z x h c=>n i z x (aj.1 c).1 h c⟩,rfl⟩))
  .rintro⟨p,a,u⟩⟨l,f,m⟩;have m:a=(nd,b,hg,l,[],()):=m;subst m;refine cw (λi=>(HG nd b hg l i zl.length,(i:Int),())) nd.length rfl (by omega) (λi d=>?_) (av (cU (l:=nd)) (bC (ab rfl))) (ab ⟨l,f,rfl⟩);refine bg (cD (l:=nd) d) (aa (RY t.1 t.2) (aq (cj (by show(List.replicate i _).length+1<=_;rw[aN];omega) (by decide)) (ab ?_)));show Sum.inl ((nd,b,hg,l,List.replicate i (List.replicate zl.length [],())++[_],()),ah .i64 (i:Int) 1,())=_;rw[<-jf,bH (by omega)];rfl
 obtain⟨r,w,l,f,rfl⟩:=B;refine⟨l,f,w,cA ?_⟩;unfold T7;refine aa (MM g) (av rfl (aq (cj (by simp;omega) (by decide)) ?_));refine cw (λi=>(([],0,0,[],[],()),(nd,b,hg,l.take i,[],()),lS zl i,(i:Int),())) zl.length rfl (by omega) (λi d=>?_) (av (cU (l:=zl)) (bC (ab rfl))) ?_;.have c:zl[i]?=some zl[i]:=G d;have h:l[i]?=some (l[i]'(by rw[f.len];exact d)):=G (by rw[f.len];exact d);generalize zl[i]=x at c;generalize l[i]'(by rw[f.len];exact d)=z at h;have j:=aI c;refine bg (cD (l:=zl) d) (aa j (aa j (aa j (aa j (aZ (Ol (Es g c).2.2.2.2) λr k=>av (by rw[k.1];rfl) (aq (cj (by rw[aR];show min i l.length+1<=_;omega) (by decide)) (aa j (ab ?_))))))));show Sum.inl ((_:eK),(nd,b,hg,l.take i++[r.1],[],()),ah .i64 (lS zl i) x.2.2.1,ah .i64 (i:Int) 1,())=_;rw[k.2 z (f.nz i z x h c),dw h,<-Er c,bH (by omega)]
 .
  have e:l.take zl.length=l:=by rw[<-f.len,bN]
  rw[e];refine cw (λi=>(HG nd b hg l i zl.length,(i:Int),())) nd.length rfl (by omega) (λi d=>?_) (av (cU (l:=nd)) (bC (ab rfl))) (ab rfl);refine bg (cD (l:=nd) d) (aq (iZ (by show 0<=(zl.length:Int);omega) (by show(zl.length:Int)<=10000;omega) (by decide)) (aq (cj (by show(List.replicate i _).length+1<=_;rw[aN];omega) (by decide)) (ab ?_)));show Sum.inl ((nd,b,hg,l,List.replicate i (List.replicate zl.length [],())++[(List.replicate zl.length [],())],()),ah .i64 (i:Int) 1,())=_;rw[<-jf,bH (by omega)];rfl
end Go.Bo
set_option maxHeartbeats 4000000
namespace Go.Bo
open Go Go.Ls
def SO(b:List (Int×Bool×Unit))(L:List Int):List (Int×Bool×Unit):=L.foldl (λb x=>m6 b x true) b
def mp(L:List Int):=SO [] L
def TC(b:List Bool)(L:List Int):List Bool:=L.foldl (λb x=>aG b x true) b
def ba(L:List Int):=TC (List.replicate 256 false) L
theorem K5{L:List Int}{x:Int}:m6 (mp L) x true=mp (L++[x]):=by unfold mp SO;rw[mG];rfl
theorem Vl{L:List Int}{x:Int}:aG (ba L) x true=ba (L++[x]):=by unfold ba TC;rw[mG];rfl
theorem GO{x:Int}:∀{m:List (Int×Bool×Unit)},(∀p,p∈m->p.1≠x)->ri m x=false
 |[],_=>rfl
 |(a,b,u)::r,h=>by unfold ri;rw[aQ λe=>h _ bX e.symm];exact GO λp c=>h p (cT _ c)
theorem C3{x:Int}:∀{m:List (Int×Bool×Unit)},(∀p,p∈m->p.1≠x)->m6 m x true=m++[(x,true,())]
 |[],_=>rfl
 |(a,w)::r,h=>by unfold m6;rw[aQ λe=>h _ bX e.symm];exact eP (List.cons _) (C3 λp b=>h p (cT _ b))
theorem GK:∀(L:List Int)(b:List (Int×Bool×Unit)),L.Nodup->(∀x,x∈L->∀p,p∈b->p.1≠x)->SO b L=b++L.map λx=>(x,true,())
 |[],b,_,_=>(bf b).symm
 |x::L,b,c,h=>by
  have c:=List.nodup_cons.1 c;show SO (m6 b x true) L=_;rw[C3 (h x bX),GK L _ c.2 λy d p a=>?_,cn];rfl;rcases bR.1 a with a|a;.exact h y (cT _ d) p a
  .rcases cq.1 a with rfl;exactλe=>c.1 (by rw[show x=y from e];exact d)
theorem K6{L:List Int}(h:L.Nodup):mp L=L.map λx=>(x,true,()):=GK L [] h λ_ _ p a=>by cases a
theorem K7{L:List Int}{x:Int}(h:L.Nodup)(b:¬x∈L):ri (mp L) x=false:=by rw[K6 h];refine GO λp a=>?_;obtain⟨y,c,rfl⟩:=vh.1 a;exactλe=>b (by rw[<-show y=x from e];exact c)
theorem Qu{x:Int}:∀(L:List Int)(b:List Bool),b[x.toNat]?=some false->(∀y,y∈L->y.toNat≠x.toNat)->(TC b L)[x.toNat]?=some false
 |[],_,h,_=>h
 |y::L,b,h,a=>Qu L (aG b y true) (by rw[s6,bz (a y bX)];exact h) λz c=>a z (cT _ c)
theorem LP{L:List Int}{x:Int}(a:0<=x)(h1:x<256)(d:¬x∈L)(c:∀y,y∈L->0<=y):aU (ba L) x=true/\az (ba L) x=some false:=by have h:=Qu L (List.replicate 256 false) (x:=x) (by rw[cd,aA (by omega)]) λy b e=>d (by have:=c y b;rw[show x=y by omega];exact b);exact⟨qA a (by rw[aJ];have:=(aj.1 h).1;show x<((TC (List.replicate 256 false) L).length:Int);omega),(pC a).trans h⟩
theorem N0:(List.range 5).all (λk=>(List.range 256).all λx=>decide (jj .i64 (x:Int) (2^k-1)<=(x:Int))&&decide ((x:Int)<jj .i64 (x:Int) (2^k-1)+2^k))=true:=by kernel_rfl
theorem TF{k:Nat}(b:k<=4){x:Int}(a:0<=x)(h1:x<256):jj .i64 x (2^k-1)<=x/\x<jj .i64 x (2^k-1)+2^k:=by obtain⟨n,rfl⟩:∃n:Nat,x=(n:Int):=⟨x.toNat,by omega⟩;have:=bQ.1 (bQ.1 N0 k (eC.2 (by omega))) n (eC.2 (by omega));simp only[ae,bB]at this;exact this
theorem Rl{z:Zn}(h:VZ z){x:Int}(g:0<=x)(h1:x<256)(m:¬cv z x):DW (z,x,())=some (-1,0,()):=by
 have a:∀{k:Nat}{c:Int}{A B:Option (D cQ)}{d:D cQ->Prop},k<=4->c=2^k-1->Ok B d->Ok (am (gj (bs [] z.2.2.2.2.2.1 k,jj .i64 x c,())) λr=>ad r.2.1 A B) d:=by rintro k c A B d f rfl j;obtain⟨i,b,e,s⟩:=l8 (dA z k) (jj .i64 x (2^k-1)) (by have:=pe h.v.mW k f;omega);refine aa e (av ?_ j);show b=false;refine pS.2 λl=>m ?_;have:=TF f g h1;exact⟨k,_,f,Y (s.WP l),this.1,this.2⟩
 refine cA ?_;unfold DW;exact a (by decide) rfl (a (by decide) rfl (a (by decide) rfl (a (by decide) rfl (a (by decide) rfl (ab rfl)))))
theorem RA{z:Zn}(h:VZ z){x:Int}(c:zs z<=x)(h1:x<zs z+zc z)(d:¬cv z x):D2 (z,x,())=some (false,()):=by obtain⟨g,i,j⟩:=h.v.mW.pl;obtain⟨b,e,a⟩:=BX z x 0 (by decide) h.v.mW.pl (by omega);have a:b=true:=a.2 ⟨c,by rw[qF];omega,by rw[qF,Int.tmod_one]⟩;subst a;have f:=Rl h (x:=x) (by omega) (by omega) d;refine cA ?_;unfold D2;exact aa (zJ z h.v) (av rfl (aa e (av rfl (aa f (ab rfl)))))
structure CG (hg : Int) (l : List Zn) (ls : List (List Int)) : Prop where
  len : ls.length = l.length
  ok : ∀ (i : Nat) (z : Zn) (m : List Int), l[i]? = some z → ls[i]? = some m → (m.length : Int) ≤ hg ∧ ∀ f, f ∈ m → zs z ≤ f ∧ f < zs z + zc z ∧ ¬ cv z f
  nd : ls.flatten.Nodup
structure VA (a : eK) (ls : List (List Int)) : Prop where
  g : ∃ zl, AG (kY a) (ns a) (lT a) zl ∧ (cu a).length = zl.length
  vz : ∀ z, z ∈ cu a → VZ z
  st : ∃ s : Nat → Int, s 0 = 0 ∧ ∀ (i : Nat) (z : Zn), (cu a)[i]? = some z → zs z = s i ∧ s (i + 1) = s i + zc z
  ca : cK a = (ls, ()) :: List.replicate ((kY a).length - 1) (List.replicate (cu a).length [], ())
  cg : CG (lT a) (cu a) ls
def oA(ls:List (List Int))(j:Nat):List Int:=if j=0 then []else ls.flatten
theorem Dq{n:Nat}:(List.replicate n ([]:List Int)).flatten=[]:=by induction n with
 |zero=>rfl
 |succ n a=>rw[gH,ko,a];rfl
theorem LL{hg:Int}{l:List Zn}(h:0<=hg):CG hg l (List.replicate l.length []):=by refine⟨aN,λi z m _ b=>?_,by rw[Dq];exact sK⟩;rw[(gY.1 (Y b)).2];exact⟨h,λf a=>by cases a⟩
theorem tL{a:eK}{ls:List (List Int)}(h:VA a ls){j:Nat}{c:sR}(b:(cK a)[j]?=some c):CG (lT a) (cu a) c.1/\oA ls (j+1)=oA ls j++c.1.flatten/\(oA ls j++c.1.flatten).Nodup:=by
 obtain⟨d,g,_⟩:=h.g;rw[h.ca]at b
 cases j with
  |zero=>cases b;exact⟨h.cg,rfl,h.cg.nd⟩
  |succ j=>
  have b:(List.replicate ((kY a).length-1) (List.replicate (cu a).length [],()))[j]?=some c:=b;rw[(gY.1 (Y b)).2];have e:oA ls (j+1)++(List.replicate (cu a).length []).flatten=ls.flatten:=by rw[Dq,bf];rfl
  exact⟨LL (by have:=g.bh;omega),e.symm,by rw[e];exact h.cg.nd⟩
theorem IX{a:eK}{ls:List (List Int)}(h:VA a ls):(cK a).length=(kY a).length:=by obtain⟨b,g,_⟩:=h.g;rw[h.ca,bp,aN];have:=g.nn;omega
theorem tK{ls:List (List Int)}{i:Nat}{m:List Int}(h:ls[i]?=some m):(ls.take i).flatten++m=(ls.take (i+1)).flatten:=by rw[ja,h,ox];simp
theorem oE {P : List Int} {ls : List (List Int)} {i k : Nat} {m : List Int} {x : Int} (hn : (P ++ ls.flatten).Nodup) (h : ls[i]? = some m) (hx : m[k]? = some x) : (P ++ (ls.take i).flatten ++ m.take k).Nodup ∧ ¬ x ∈ P ++ (ls.take i).flatten ++ m.take k := by
  have e : P ++ ls.flatten = P ++ (ls.take i).flatten ++ m.take k ++ (x :: (m.drop (k + 1) ++ (ls.drop (i + 1)).flatten)) := by
    have e1 : ls.flatten = (ls.take (i + 1)).flatten ++ (ls.drop (i + 1)).flatten := by rw [← ox, dE]
    have e2 : m = m.take (k + 1) ++ m.drop (k + 1) := (dE _ _).symm
    rw [e1, ← tK h]
    conv => lhs; rw [e2, ← dw hx]
    simp
  rw [e] at hn
  have := jb.1 hn
  exact ⟨this.1, fun hm => this.2.2 x hm x bX rfl⟩
theorem B3{a:eK}{ls:List (List Int)}(h:VA a ls){i:Nat}{z:Zn}(k:(cu a)[i]?=some z){x:Int}(r:zs z<=x)(h1:x<zs z+zc z):D3 (a,x,())=some ((i:Int),()):=by
 obtain⟨w0,g,y0⟩:=h.g;obtain⟨s,_,c⟩:=h.st;have D:=(aj.1 k).1;have B:=g.nz;have q:∀y:Zn,y∈cu a->ah .i64 (zs y) (zc y)=zs y+zc y:=λy b=>by have:=(h.vz y b).v.mW.pl;obtain⟨l,m,n⟩:=this;exact cz (by omega) (by omega)
 have w:∀d j:Nat,∀y:Zn,j+d+1=i->(cu a)[j]?=some y->zs y+zc y<=zs z:=by intro d;induction d with
  |zero=>intro j y p b;have:=(c j y b).2;rw[show j+1=i by omega,<-(c i z k).1,<-(c j y b).1]at this;omega
  |succ d A=>intro j y p b;have f:(cu a)[j+1]?=some ((cu a)[j+1]'(by omega)):=G (by omega);have C:=A (j+1) _ (by omega) f;have t:=(c j y b).2;rw[<-(c _ _ f).1,<-(c j y b).1]at t;obtain⟨l,m,n⟩:=(h.vz _ (Y f)).v.mW.pl;omega
 refine cA ?_;unfold D3;refine aK (P:=λ_=>False) (bq (I:=λj s=>s=((j:Int),())/\j<=i) (m:=i+1) ⟨rfl,a5 _⟩ (by omega) ?_ λs v=>absurd v.2 (by omega)) λ_ h=>h.elim;rintro j s p⟨rfl,z0⟩;have b:(cu a)[j]?=some ((cu a)[j]'(by omega)):=G (by omega);generalize(cu a)[j]'(by omega)=y at b;have o:=q y (Y b);refine bg (cD (l:=cu a) (by omega)) (aa (aI b) ?_);by_cases e:j=i;.subst e;rw[k]at b;cases b;exact bg (kS r) (bg (eJ (by show x<ah .i64 (zs z) (zc z);rw[o];exact h1)) ⟨_,rfl,rfl⟩)
 .have x0:=w (i-j-1) j y (by omega) b;have u:=(h.vz y (Y b)).v.mW.pl;obtain⟨l,m,n⟩:=u;exact bg (kS (by show zs y<=x;omega)) (av (cE (by show ah .i64 (zs y) (zc y)<=x;rw[o];omega)) (aV ⟨by show(ah .i64 (j:Int) 1,())=_;rw[bH (by omega)],by omega⟩))
end Go.Bo
set_option maxHeartbeats 4000000
namespace Go.Bo
open Go Go.Ls
theorem kO{a:eK}{ls:List (List Int)}(h:VA a ls){c:List (List Int)}(d:CG (lT a) (cu a) c){i:Nat}{m:List Int}(j:c[i]?=some m):∃z,(cu a)[i]?=some z/\m.length<=16/\(m.length:Int)<=lT a/\∀f,f∈m->(zs z<=f/\f<zs z+zc z/\¬cv z f)/\0<=f/\f<256:=by obtain⟨r,g,_⟩:=h.g;have q:=g.bh;have b:(cu a)[i]?=some ((cu a)[i]'(by rw[<-d.len];exact(aj.1 j).1)):=G _;obtain⟨l,k⟩:=d.ok i _ m b j;refine⟨_,b,by omega,l,λf e=>⟨k f e,?_⟩⟩;have:=k f e;obtain⟨n,o,p⟩:=(h.vz _ (Y b)).v.mW.pl;omega
theorem nx{i:Nat}(h:i<=100000){α:Type}{x:Int×Unit}:(some (Sum.inl (ah .i64 (i:Int) 1,())):Option (Sum (Int×Unit) α))=some (.inl (((i+1:Nat):Int),())):=by rw[bH (by omega)]
theorem Tv{P m:List Int}(h:P.length+m.length<=100000):ah .i64 (P.length:Int) (ak m)=((P++m).length:Int):=by rw[aJ,cz (by omega) (by omega),ax];omega
theorem Ds{c:List (List Int)}(h:∀m,m∈c->m.length<=16):c.flatten.length<=16*c.length:=by induction c with
 |nil=>exact au _
 |cons m c b=>rw[ko,ax,bp];have:=h m bX;have:=b λx a=>h x (cT _ a);omega
section
variable{a:eK}{ls:List (List Int)}(h:VA a ls){c:List (List Int)}(hc:CG (lT a) (cu a) c)
include h hc
theorem qn:c.length<=6/\1<=c.length/\c.flatten.length<=96:=by obtain⟨k,g,j⟩:=h.g;have:=g.nz;have f:=hc.len;have:=Ds (c:=c) (λm e=>by obtain⟨i,d⟩:=bj e;obtain⟨z,_,b,_⟩:=kO h hc d;exact b);omega
theorem LK{i k:Nat}{m:List Int}(j:c[i]?=some m):∀y,y∈(c.take i).flatten++m.take k->0<=y:=by
 intro y b;obtain⟨_,_,_,_,f⟩:=kO h hc j;rcases bR.1 b with b|b;.obtain⟨n,d,e⟩:=jB.1 b;obtain⟨q,l⟩:=bj (em d);obtain⟨_,_,_,_,g⟩:=kO h hc l;exact(g y e).2.1
 .exact(f y (em b)).2.1
theorem Mw:yU ((c,()),(c.length:Int),())=some (0,()):=by
 obtain⟨r,q,t⟩:=qn h hc
 have o:∀i m,c[i]?=some m->((c.take i).flatten).length<=96:=λi m _=>by
  have e:c.flatten=(c.take i).flatten++(c.drop i).flatten:=by rw[<-ox,dE]
  have:=eP List.length e;rw[ax]at this;omega
 refine cA ?_;unfold yU;refine av (cE (by show(1:Int)<=(c.length:Int);omega)) (av (cE (by show(c.length:Int)<=6;omega)) (av (eQ _) ?_));refine cw (λi=>((((c.take i).flatten).length:Int),(i:Int),())) c.length rfl (by omega) (λi f=>?_) (av (cU (l:=c)) (bC (ab rfl))) ?_
 .
  have b:c[i]?=some c[i]:=G f;generalize c[i]=m at b;obtain⟨z,p,n,_,l⟩:=kO h hc b;have u:=o i m b;refine bg (cD (l:=c) f) (aK (P:=λs=>s=((((c.take (i+1)).flatten).length:Int),())) (aa (aI b) (cw (λk=>((k:Int),())) m.length rfl (by omega) (λk g=>?_) (av (cU (l:=m)) (bC (ab rfl))) (aV ?_))) ?_);.have d:m[k]?=some m[k]:=G g;generalize m[k]=x at d;have j:=(l x (Y d)).2;exact bg (cD (l:=m) g) (aa (aI d) (aa (up x) (av (by rw[ar j.1,ar j.2];rfl) (ab (by show Sum.inl (ah .i64 (k:Int) 1,())=_;rw[bH (by omega)])))))
  .show(ah .i64 ((((c.take i).flatten).length:Nat):Int) (ak m),())=_;rw[Tv (by omega),tK b]
  .rintro s rfl;exact ab (by show Sum.inl (_,ah .i64 (i:Int) 1,())=_;rw[bH (by omega)])
 refine cw (λi=>(mp (c.take i).flatten,(i:Int),())) c.length rfl (by omega) (λi f=>?_) (av (cU (l:=c)) (bC (ab rfl))) ?_
 .
  have b:c[i]?=some c[i]:=G f;generalize c[i]=m at b;obtain⟨z,p,n,_,l⟩:=kO h hc b;refine bg (cD (l:=c) f) (aK (P:=λs=>s=(mp (c.take (i+1)).flatten,())) (aa (aI b) (cw (λk=>(mp ((c.take i).flatten++m.take k),(k:Int),())) m.length (by rw[fQ,bf];rfl) (by omega) (λk g=>?_) (av (cU (l:=m)) (bC (ab rfl))) (aV ?_))) ?_);.have d:m[k]?=some m[k]:=G g;generalize m[k]=x at d;refine bg (cD (l:=m) g) (aa (aI d) (ab ?_));show Sum.inl (m6 (mp _) x true,ah .i64 (k:Int) 1,())=_;rw[K5,cn,dw d,bH (by omega)]
  .show(mp ((c.take i).flatten++m.take m.length),())=_;rw[bN,tK b]
  .rintro s rfl;exact ab (by show Sum.inl (_,ah .i64 (i:Int) 1,())=_;rw[bH (by omega)])
 have e:c.take c.length=c:=bN;rw[e];refine av ?_ (ab rfl);show bF ((mp c.flatten).length:Int) (c.flatten.length:Int)=false;rw[K6 hc.nd,db];exact eQ _
theorem Mg:DR ((c,()),(c.length:Int),())=some (0,()):=by
 obtain⟨t,r,u⟩:=qn h hc;refine cA ?_;unfold DR;refine av (cE (by show(1:Int)<=(c.length:Int);omega)) (av (cE (by show(c.length:Int)<=6;omega)) (av (eQ _) ?_));refine cw (λi=>((i:Int),())) c.length rfl (by omega) (λi g=>?_) (av (cU (l:=c)) (bC (ab rfl))) (aq (by decide) ?_)
 .
  have b:c[i]?=some c[i]:=G g;generalize c[i]=m at b;obtain⟨z,q,p,_,l⟩:=kO h hc b;refine bg (cD (l:=c) g) (aK (P:=λ_=>True) (aa (aI b) (cw (λk=>((k:Int),())) m.length rfl (by omega) (λk j=>?_) (av (cU (l:=m)) (bC (ab rfl))) (aV trivial))) λ_ _=>ab (by show Sum.inl (ah .i64 (i:Int) 1,())=_;rw[bH (by omega)]));have d:m[k]?=some m[k]:=G j;generalize m[k]=x at d;have f:=(l x (Y d)).2;have e:BO (x,())=some (false,()):=by refine cA ?_;unfold BO;exact av (cE f.1) (ab (by show(cH 256 x,())=_;rw[kT f.2]))
  exact bg (cD (l:=m) j) (aa (aI d) (aa e (av rfl (ab (by show Sum.inl (ah .i64 (k:Int) 1,())=_;rw[bH (by omega)])))))
 refine cw (λi=>(ba (c.take i).flatten,(i:Int),())) c.length rfl (by omega) (λi g=>?_) (av (cU (l:=c)) (bC (ab rfl))) (ab rfl);have b:c[i]?=some c[i]:=G g;generalize c[i]=m at b;obtain⟨z,q,p,_,l⟩:=kO h hc b;refine bg (cD (l:=c) g) (aK (P:=λs=>s=(ba (c.take (i+1)).flatten,())) (aa (aI b) (cw (λk=>(ba ((c.take i).flatten++m.take k),(k:Int),())) m.length (by rw[fQ,bf];rfl) (by omega) (λk j=>?_) (av (cU (l:=m)) (bC (ab rfl))) (aV ?_))) ?_);.have d:m[k]?=some m[k]:=G j;generalize m[k]=x at d;have f:=(l x (Y d)).2;obtain⟨n,o⟩:=LP (L:=(c.take i).flatten++m.take k) f.1 f.2 (by have:=(oE (P:=[]) (by rw[hT];exact hc.nd) b d).2;rw[hT]at this;exact this) (LK h hc b);refine bg (cD (l:=m) j) (aa (aI d) (aq n (aa o (av rfl (aq n (aa o (ab ?_)))))));show Sum.inl (aG (ba _) x true,ah .i64 (k:Int) 1,())=_;rw[Vl,cn,dw d,bH (by omega)]
 .show(ba ((c.take i).flatten++m.take m.length),())=_;rw[bN,tK b]
 .rintro s rfl;exact ab (by show Sum.inl (_,ah .i64 (i:Int) 1,())=_;rw[bH (by omega)])
end
end Go.Bo
set_option maxHeartbeats 4000000
namespace Go.Bo
open Go Go.Ls
section
variable{a:eK}{ls:List (List Int)}(h:VA a ls)
include h
theorem CH:(cu a).length<=6/\1<=(cu a).length/\(cK a).length<=4:=by obtain⟨c,g,b⟩:=h.g;have:=g.nz;have:=g.nn;have:=IX h;omega
theorem OC{j:Nat}{c:sR}(d:(cK a)[j]?=some c):∀(i:Nat)(m:List Int),c.1[i]?=some m->ay (lT a) (ak m)=false:=λi m e=>by obtain⟨_,_,_,b,_⟩:=kO h (tL h d).1 e;exact cE b
theorem MO:tY (a,())=some (0,()):=by
 obtain⟨l0,g,C⟩:=h.g;obtain⟨m0,n0,p0⟩:=CH h;obtain⟨s,u0,y0⟩:=h.st;refine cA ?_;unfold tY;refine aa (MP g C) (av rfl ?_);refine cw (λi=>(s i,(i:Int),())) (cu a).length (by show(0,_)=(s 0,_);rw[u0];rfl) (by omega) (λi e=>?_) (av (cU (l:=cu a)) (bC (ab rfl))) ?_
 .
  have f:(cu a)[i]?=some (cu a)[i]:=G e;generalize(cu a)[i]=z at f;obtain⟨w,y⟩:=y0 i z f;have o:=h.vz z (Y f);obtain⟨s0,r0,q0⟩:=o.v.mW.pl;refine bg (cD (l:=cu a) e) (aa (aI f) (aa (zJ z o.v) (av rfl (av ?_ (ab ?_)))));.show bF (zs z) (s i)=false;rw[w];exact eQ _
  .show Sum.inl (ah .i64 (s i) (zc z),ah .i64 (i:Int) 1,())=_;rw[cz (by omega) (by omega),<-y,bH (by omega)]
 refine av (by show bF (ak (cK a)) (ak (kY a))=false;rw[aJ,aJ,IX h];exact eQ _) ?_;refine cw (λi=>((i:Int),())) (cK a).length rfl (by omega) (λi e=>?_) (av (cU (l:=cK a)) (bC (ab rfl))) ?_
 .
  have d:(cK a)[i]?=some (cK a)[i]:=G e;generalize(cK a)[i]=c at d;have j:=(tL h d).1;have A:=qn h j;have x0:yU ((c.1,()),((cu a).length:Int),())=some (0,()):=by rw[<-j.len];exact Mw h j
  refine bg (cD (l:=cK a) e) (aK (P:=λ_=>True) (aa (aI d) (aa x0 (av rfl (cw (λk=>((k:Int),())) c.1.length rfl (by omega) (λk l=>?_) (av (cU (l:=c.1)) (bC (ab rfl))) (aV trivial))))) λ_ _=>ab (by show Sum.inl (ah .i64 (i:Int) 1,())=_;rw[bH (by omega)]));have b:c.1[k]?=some c.1[k]:=G l;generalize c.1[k]=m at b;exact bg (cD (l:=c.1) l) (aa (aI b) (av (OC h d k m b) (ab (by show Sum.inl (ah .i64 (k:Int) 1,())=_;rw[bH (by omega)]))))
 refine cw (λi=>(mp (oA ls i),(i:Int),())) (cK a).length rfl (by omega) (λi e=>?_) (av (cU (l:=cK a)) (bC (ab rfl))) (ab rfl);have d:(cK a)[i]?=some (cK a)[i]:=G e;generalize(cK a)[i]=c at d;obtain⟨j,z0,D⟩:=tL h d;have A:=qn h j;have v:oA ls i=oA ls i++(c.1.take 0).flatten:=(bf _).symm;refine bg (cD (l:=cK a) e) (aK (P:=λt=>t=(mp (oA ls (i+1)),())) (aa (aI d) (cw (λk=>(mp (oA ls i++(c.1.take k).flatten),(k:Int),())) c.1.length (by show(mp (oA ls i),_)=_;rw[<-v];rfl) (by omega) (λk l=>?_) (av (cU (l:=c.1)) (bC (ab rfl))) (aV ?_))) ?_)
 .
  have b:c.1[k]?=some c.1[k]:=G l;generalize c.1[k]=m at b;obtain⟨z,f,o0,_,B⟩:=kO h j b;refine bg (cD (l:=c.1) l) (aK (P:=λt=>t=(mp (oA ls i++(c.1.take (k+1)).flatten),())) (aa (aI b) (cw (λq=>(mp (oA ls i++(c.1.take k).flatten++m.take q),(q:Int),())) m.length (by rw[fQ,bf];rfl) (by omega) (λq p=>?_) (av (cU (l:=m)) (bC (ab rfl))) (aV ?_))) ?_);.have n:m[q]?=some m[q]:=G p;generalize m[q]=x at n;obtain⟨⟨r,u,t0⟩,_⟩:=B x (Y n);have o:=h.vz z (Y f);obtain⟨w0,v0⟩:=oE D b n;refine bg (cD (l:=m) p) (aa (aI n) (aa (B3 h f r u) (av (eQ _) (av (K7 w0 v0) (aa (aI f) (aa (RA o r u t0) (av rfl (ab ?_))))))));show Sum.inl (m6 (mp _) x true,ah .i64 (q:Int) 1,())=_;rw[K5,cn,dw n,bH (by omega)]
  .show(mp (oA ls i++(c.1.take k).flatten++m.take m.length),())=_;rw[bN,cn,tK b]
  .rintro t rfl;exact ab (by show Sum.inl (_,ah .i64 (k:Int) 1,())=_;rw[bH (by omega)])
 .show(mp (oA ls i++(c.1.take c.1.length).flatten),())=_;rw[bN,z0]
 .rintro t rfl;exact ab (by show Sum.inl (_,ah .i64 (i:Int) 1,())=_;rw[bH (by omega)])
theorem Uw:Mf (a,())=some (0,()):=by
 obtain⟨g0,h0,l0⟩:=CH h;refine cA ?_;unfold Mf;refine aq (by decide) (cw (λi=>(ba (oA ls i),(i:Int),())) (cK a).length rfl (by omega) (λi n=>?_) (av (cU (l:=cK a)) (bC (ab rfl))) (ab rfl));have j:(cK a)[i]?=some (cK a)[i]:=G n;generalize(cK a)[i]=c at j;obtain⟨l,t0,u0⟩:=tL h j;have z0:=l.len;have A:oA ls i=oA ls i++(c.1.take 0).flatten:=(bf _).symm;refine bg (cD (l:=cK a) n) (aK (P:=λt=>t=(ba (oA ls (i+1)),())) (cw (λk=>(ba (oA ls i++(c.1.take k).flatten),(k:Int),())) (cu a).length (by show(ba (oA ls i),_)=_;rw[<-A];rfl) (by omega) (λk v0=>?_) (av (cU (l:=cu a)) (bC (ab rfl))) (aV ?_)) ?_)
 .
  have e:c.1[k]?=some (c.1[k]'(by omega)):=G (by omega);generalize c.1[k]'(by omega)=m at e;obtain⟨z,p,k0,_,y0⟩:=kO h l e;have o:=h.vz z (Y p);have g:=aI p;refine bg (cD (l:=cu a) v0) (aK (P:=λt=>t=(ba (oA ls i++(c.1.take (k+1)).flatten),())) (aa (aI j) (aa (aI e) (cw (λq=>(ba (oA ls i++(c.1.take k).flatten++m.take q),(q:Int),())) m.length (by rw[fQ,bf];rfl) (by omega) (λq f=>?_) (av (cU (l:=m)) (bC (ab rfl))) (aV ?_)))) ?_)
  .
   have b:m[q]?=some m[q]:=G f;generalize m[q]=x at b;obtain⟨⟨s,u,r0⟩,q0,p0⟩:=y0 x (Y b);obtain⟨i0,s0⟩:=oE u0 e b;obtain⟨o0,n0,m0⟩:=o.v.mW.pl;have B:ah .i64 (zs z) (zc z)=zs z+zc z:=cz (by omega) (by omega)
   obtain⟨v,w⟩:=LP q0 p0 s0 λy d=>by
    rw[cn]at d;rcases bR.1 d with d|d
    .
     unfold oA at d;split at d;.cases d
     .obtain⟨j0,C,D⟩:=jB.1 d;obtain⟨q,f⟩:=bj C;obtain⟨_,_,_,_,x0⟩:=kO h h.cg f;exact(x0 y D).2.1
    .exact LK h l e y d
   have r:=vq o;refine bg (cD (l:=m) f) (aa (aI b) (aa g (av (cE s) (aa (aI b) (aa g (aa g (av (kT (by show x<ah .i64 (zs z) (zc z);rw[B];exact u)) (aa (aI b) (aq v (aa w (av rfl (aa g (aa (aI b) (aa (Q6 r.1 s u λw0=>r0 ((r.2 x).1 w0)) (av rfl (aa (aI b) (aq v (aa w (ab ?_)))))))))))))))))));show Sum.inl (aG (ba _) x true,ah .i64 (q:Int) 1,())=_;rw[Vl,cn,dw b,bH (by omega)]
  .show(ba (oA ls i++(c.1.take k).flatten++m.take m.length),())=_;rw[bN,cn,tK e]
  .rintro t rfl;exact ab (by show Sum.inl (_,ah .i64 (k:Int) 1,())=_;rw[bH (by omega)])
 .show(ba (oA ls i++(c.1.take (cu a).length).flatten),())=_;rw[<-z0,bN,t0]
 .rintro t rfl;exact ab (by show Sum.inl (_,ah .i64 (i:Int) 1,())=_;rw[bH (by omega)])
theorem UC:Mt (a,())=some (0,()):=by
 obtain⟨y0,g,t⟩:=h.g;obtain⟨z0,D,B⟩:=CH h;obtain⟨s,w,u⟩:=h.st
 have q:Mm (a,())=some (0,()):=by
  refine cA ?_;unfold Mm;refine av (by show bF (ak (cK a)) (ak (kY a))=false;rw[aJ,aJ,IX h];exact eQ _) ?_;refine cw (λi=>((i:Int),())) (cK a).length rfl (by omega) (λi e=>?_) (av (cU (l:=cK a)) (bC (ab rfl))) (aa (Uw h) (ab rfl));have d:(cK a)[i]?=some (cK a)[i]:=G e;generalize(cK a)[i]=c at d;have f:=(tL h d).1;have C:=f.len;have v:DR ((c.1,()),((cu a).length:Int),())=some (0,()):=by rw[<-f.len];exact Mg h f
  refine bg (cD (l:=cK a) e) (aK (P:=λ_=>True) (aa (aI d) (aa v (av rfl (cw (λk=>((k:Int),())) (cu a).length rfl (by omega) (λk r=>?_) (av (cU (l:=cu a)) (bC (ab rfl))) (aV trivial))))) λ_ _=>ab (by show Sum.inl (ah .i64 (i:Int) 1,())=_;rw[bH (by omega)]));have j:c.1[k]?=some (c.1[k]'(by omega)):=G (by omega);generalize c.1[k]'(by omega)=m at j;exact bg (cD (l:=cu a) r) (aa (aI d) (aa (aI j) (av (OC h d k m j) (ab (by show Sum.inl (ah .i64 (k:Int) 1,())=_;rw[bH (by omega)])))))
 have p:D6 (kY a,ns a,lT a,((cu a).length:Int),())=some (true,()):=by rw[t];exact MM g
 refine cA ?_;unfold Mt;refine aa p (av rfl ?_);refine cw (λi=>(s i,(i:Int),())) (cu a).length (by show(0,_)=(s 0,_);rw[w];rfl) (by omega) (λi e=>?_) (av (cU (l:=cu a)) (bC (ab rfl))) (aa q (ab rfl));have b:(cu a)[i]?=some (cu a)[i]:=G e;generalize(cu a)[i]=z at b;obtain⟨n,o⟩:=u i z b;have l:=h.vz z (Y b);obtain⟨x,y,A⟩:=l.v.mW.pl;refine bg (cD (l:=cu a) e) (aa (aI b) (aa (xb (vq l).1) (av rfl (aa (aI b) (av ?_ (aa (aI b) (ab ?_)))))));.show bF (zs z) (s i)=false;rw[n];exact eQ _
 .show Sum.inl (ah .i64 (s i) (zc z),ah .i64 (i:Int) 1,())=_;rw[cz (by omega) (by omega),<-o,bH (by omega)]
end
end Go.Bo
set_option maxHeartbeats 4000000
namespace Go.Bo
open Go Go.Ls
def QU(z:Zn):Prop:=(∀k,k<=4->dA z k=[])/\(∃r,BV (z,0,())=some r/\bF r.2.2.1 0=true)/\∃r,BQ (z,0,())=some r/\bF r.2.2.1 0=true
structure Xk (z : Zn) (f : Int) (y : Zn) : Prop where
  v : VZ y
  a : ∃ k t, CD z f y k t
  p : BV (z, (0, ())) = some (y, (f, (0, ())))
  r : BQ (z, (0, ())) = some (y, (f, (0, ())))
theorem Qd{z y:Zn}{f:Int}{k:Nat}{t:List Int}(h:VZ z)(a:CD z f y k t):VZ y∧cv z f∧∀g,cv y g↔cv z g∧g≠f:=by obtain⟨d,b,c⟩:=QB h.v.dj a;exact⟨⟨Xe h.v a,by rw[a.z'];exact h.r,by rw[a.z'];rfl⟩,b,c⟩
theorem Qz{z y:Zn}{f:Int}{k:Nat}{t:List Int}(a:CD z f y k t):(y.1=z.1/\y.2.1=z.2.1)/\(zs y=zs z/\zc y=zc z)/\y.2.2.2.2.1=z.2.2.2.2.1:=by rw[a.z'];exact⟨⟨rfl,rfl⟩,⟨rfl,rfl⟩,rfl⟩
theorem Qc{z:Zn}{g:Int}(h:VZ z)(c:cv z g):zs z<=g/\g<zs z+zc z:=by obtain⟨k,x,d,e,a,b⟩:=c;obtain⟨f,i,_⟩:=(h.v.mW.fr k d).2 x e;exact⟨vl f a,Int.lt_of_lt_of_le b i⟩
theorem Q8{z:Zn}(h:VZ z):QU z\/∃f y,Xk z f y:=by
 obtain⟨d,D⟩:=vq h;obtain⟨t0,f0,e0⟩:=vy h.r;obtain⟨⟨y,f,e,u⟩,C,q0,p0⟩: @Ok (Zn×Int×Int×Unit) _ _:=H3 z (λk d=>by have:=pe h.v.mW k d;omega);by_cases A:e=0
 .
  subst A;right;obtain⟨_,k,t,a⟩:=q0 rfl;have a:CD z f y k t:=a;obtain⟨u0,d0,s0⟩:=Qd h a;have v:=vp d;have x9:=a.k4;have y0:∀j,Zs.fF (er z) j=dA z j:=rk z;have z0:=v.bd k f (by rw[y0,a.hd];exact bX ..);have y9:=Zs.mi k;refine⟨f,y,u0,⟨k,t,a⟩,C,cA ?_⟩;unfold BQ;refine bg rfl ?_;unfold L0;refine aa (xb d) (av rfl (aK (P:=λ_=>False) (bq (I:=λj s=>s=(((0,0,0,0,0,[]::[]::[]::[]::[]::[],()),()),(j:Int),())/\j<=k) (m:=k+1) ⟨rfl,a5 _⟩ (by omega) ?_ λs o0=>absurd o0.2 (by omega)) λ_ h=>h.elim));rintro j s m0⟨rfl,z9⟩;have n:cR (j:Int)=true:=ar (by omega);have o:ay (j:Int) 5=true:=eJ (by omega);have b:=v.qB j (by omega);rw[y0]at b;refine bg (kS (by show(j:Int)<=4;omega)) ?_;by_cases e:j=k
  .
   subst e;rw[a.hd]at b;refine aK (P:=λ_=>False) (aq n (aq o (aa b (bg (eJ (by rw[aJ,bp];omega)) (aq n (aq o (aa b (aa (x:=f) rfl (aq (by decide) (Ad d λs m=>?_)))))))))) λ_ h=>h.elim;have n0:aU s f=true:=qA z0.1 (by rw[aJ,m.1];omega);have k0:s[f.toNat]?=some (s[f.toNat]'(by rw[m.1];omega)):=G _;refine aK (P:=λt:List Int×Unit=>t.1=s.set f.toNat 0) (bq (I:=λi t=>t=(if i=0 then s else s.set f.toNat 0,f+(i:Int),())) (m:=1) (by show(s,f,())=(s,f+0,());rw[gL]) (by decide) ?_ ?_) ?_
   .
    rintro i t a0 rfl;obtain rfl:i=0:=by omega
    rw[aA rfl,show f+((0:Nat):Int)=f by omega];refine bg (eJ (by show f<ah .i64 f 1;rw[cz (by omega) (by omega)];omega)) (aq n0 (aa ((pC z0.1).trans k0) (aV ?_)));show(s.set f.toNat 0,ah .i64 f 1,())=_;rw[aB (by omega),cz (by omega) (by omega)];rfl
   .rintro t rfl;exact av (cE (by show ah .i64 f 1<=f+1;rw[cz (by omega) (by omega)];omega)) ⟨_,rfl,rfl⟩
   rintro⟨g0,w9⟩B;have B:g0=s.set f.toNat 0:=B;subst B;refine aZ (Ia (z:=z) h.r (by rw[bx];exact m.1)) λr l0=>bo (bo (bo ⟨_,rfl,?_⟩));obtain⟨l,r0,j0,i0⟩:=l0
   have:r.1=y:=by
    rw[r0];obtain⟨w0,v0,h0⟩:=Qz a;refine KC u0 j0 ⟨⟨w0.1.symm,w0.2.symm⟩,⟨v0.1.symm,v0.2.symm⟩,h0.symm⟩ λg=>(i0 g).trans (Iff.trans ?_ (s0 g).symm);constructor
    .
     rintro⟨c0,b0,c⟩;rw[cc]at c;by_cases x:g.toNat=f.toNat;.rw[x,be (by rw[m.1];omega)]at c;exact absurd c (by decide)
     .
      rw[bz λq=>x q.symm,<-cc]at c;refine⟨?_,λq=>x (by rw[q])⟩;by_cases w:Zs.pT (er z) g;.exact(D g).1 w
      .have:=(m.2 g.toNat).2 (by rw[eG (by omega)];exact w);rw[this]at c;exact absurd c (by decide)
    .rintro⟨w,c⟩;have p:=Qc h w;refine⟨p.1,p.2,?_⟩;rw[cc,bz (by have:=p.1;have:0<=zs z:=t0;omega),<-cc,(m.2 g.toNat).1 (by rw[eG (by have:=p.1;omega)];exact(D g).2 w)];decide
   rw[this]
  .rw[a.lo j (by omega)]at b;exact aK (P:=λt=>t=(((0,0,0,0,0,[]::[]::[]::[]::[]::[],()),()),())) (aq n (aq o (aa b (av rfl (aV rfl))))) (by rintro t rfl;exact aV ⟨by show(_,ah .i64 (j:Int) 1,())=_;rw[bH (by omega)],by omega⟩)
 .
  left;have x0:=p0 (zJ z h.v) A;have v:=vp d;refine⟨x0,⟨_,C,by show bF e 0=true;rw[gI,aQ A];rfl⟩,?_⟩;have:Ok (BQ (z,0,())) λr=>bF r.2.2.1 0=true:=by unfold BQ;refine bg rfl ?_;unfold L0;refine aa (xb d) (av rfl (cw (λj=>(((0,0,0,0,0,[]::[]::[]::[]::[]::[],()),()),(j:Int),())) 5 rfl (by decide) (λj m0=>?_) (av (kT (by show(4:Int)<((5:Nat):Int);decide)) (bC (ab rfl))) (ab rfl)));have n:cR (j:Int)=true:=ar (by omega);have o:ay (j:Int) 5=true:=eJ (by omega);have b:=v.qB j (by omega);rw[rk,x0 j (by omega)]at b;exact bg (kS (by show(j:Int)<=4;omega)) (aK (P:=λt=>t=(((0,0,0,0,0,[]::[]::[]::[]::[]::[],()),()),())) (aq n (aq o (aa b (av rfl (aV rfl))))) (by rintro t rfl;exact ab (by show Sum.inl (_,ah .i64 (j:Int) 1,())=_;rw[bH (by omega)])))
  exact this
end Go.Bo
set_option maxHeartbeats 4000000
namespace Go.Bo
open Go Go.Ls
def AA(z:Zn):Zn×Int:=match BV (z,0,())with|some r=>(r.1,r.2.1)|none=>(z,0)
def wz(z:Zn):Nat->Zn|0=>z|j+1=>(AA (wz z j)).1
def wl(z:Zn)(m:Nat):List Int:=(List.range m).map λj=>(AA (wz z j)).2
theorem Oz(z:Zn)(m:Nat):wl z (m+1)=wl z m++[(AA (wz z m)).2]:=by unfold wl;rw[List.range_succ,rB];rfl
theorem rF(z:Zn)(m:Nat):(wl z m).length=m:=by unfold wl;rw[db,List.length_range]
structure Wk (z : Zn) (b m : Nat) : Prop where
  le : m ≤ b
  s : ∀ j, j < m → Xk (wz z j) (AA (wz z j)).2 (wz z (j + 1))
  e : m = b ∨ QU (wz z m)
theorem OB{z:Zn}(h:VZ z):∀b,∃m,Wk z b m
 |0=>⟨0,au _,λj g=>by omega,.inl rfl⟩
 |b+1=>by
  obtain⟨m,k,c,d⟩:=OB h b;rcases d with rfl|a
  .
   have i:VZ (wz z m):=by cases m with
    |zero=>exact h
    |succ m=>exact(c m (by omega)).v
   rcases Q8 i with a|⟨f,y,a⟩;.exact⟨m,by omega,c,.inr a⟩
   .
    refine⟨m+1,au _,λj g=>?_,.inl rfl⟩;by_cases e:j=m
    .
     subst e;have:AA (wz z j)=(y,f):=by unfold AA;rw[a.p]
     show Xk _ (AA (wz z j)).2 (AA (wz z j)).1;rw[this];exact a
    .exact c j (by omega)
  .exact⟨m,by omega,c,.inr a⟩
theorem OA{z:Zn}{b m:Nat}(h:VZ z)(w:Wk z b m):∀j,j≤m→VZ (wz z j)∧(zs (wz z j)=zs z∧zc (wz z j)=zc z)∧(wl z j).Nodup∧(∀g,g∈wl z j→cv z g)∧∀g,cv (wz z j) g↔cv z g∧¬g∈wl z j
 |0,_=>⟨h,⟨rfl,rfl⟩,sK,fun g a=>(by cases a),fun g=>⟨fun a=>⟨a,fun c=>by cases c⟩,fun a=>a.1⟩⟩
 |j+1,z0=>by
  obtain⟨A,B,C,D,l⟩:=OA h w j (by omega);have s:=w.s j (by omega);obtain⟨k,t,d⟩:=s.a;obtain⟨n,p,r⟩:=Qd A d;have q:=(Qz d).2.1;rw[Oz];generalize(AA (wz z j)).2=f at*;have i:=(l f).1 p;refine⟨n,by rw[q.1,q.2];exact B,?_,fun g a=>?_,fun g=>?_⟩;·refine jb.2 ⟨C,by simp,fun x u y v e=>?_⟩;rcases cq.1 v with rfl;subst e;exact i.2 u
  ·
   rcases bR.1 a with a|a;·exact D g a
   ·rcases cq.1 a with rfl;exact i.1
  ·rw[r g,l g,bR,cq];exact⟨fun c=>⟨c.1.1,fun o=>o.elim c.1.2 c.2⟩,fun c=>⟨⟨c.1,fun o=>c.2 (.inl o)⟩,fun o=>c.2 (.inr o)⟩⟩
theorem JU{β:Type}{l:List (List Int)}(h1:l.length<=100)(h2:∀m,m∈l->m.length<=100):Qm (β:=β) l=some (.inl ((l,()),())):=by unfold Qm;refine(o5 (λi=>((l.take i,()),(i:Int),())) l.length rfl (by omega) (λi b=>?_) (av (cU (l:=l)) (bC (ab rfl)))).trans (by rw[bN]);have a:l[i]?=some l[i]:=G b;generalize l[i]=x at a;refine bg (cD (l:=l) b) (aa (aI a) (aq (cj (by have:=h2 x (Y a);show 0+x.length<=_;omega) (by decide)) (aq (cj (by rw[aR];show min i l.length+1<=_;omega) (by decide)) (ab ?_))));show Sum.inl ((l.take i++[x],()),ah .i64 (i:Int) 1,())=_;rw[dw a,bH (by omega)]
section
variable{a:eK}{ls:List (List Int)}(h:VA a ls)
include h
theorem Sf{i:Nat}{z:Zn}(c:(cu a)[i]?=some z){x:Int}(l:x∈ls.flatten):¬cv z x:=by
 intro d;obtain⟨m,f,g⟩:=jB.1 l;obtain⟨q,k⟩:=bj f;obtain⟨y,b,_,_,j⟩:=kO h h.cg k;obtain⟨⟨n,p,r⟩,_⟩:=j x g;obtain⟨s,t⟩:=Qc (h.vz z (Y c)) d;have e:=(B3 h b n p).symm.trans (B3 h c s t);have e:(q:Int)=(i:Int):=eP (λo:Int×Unit=>o.1) (ej e);have e:q=i:=by omega
 subst e;rw[c]at b;cases b;exact r d
theorem zy{i:Nat}(hi:i<ls.length):yT ((ls,()),(i:Int),())=some (0,())/\H1 ((ls,()),(i:Int),())=some (0,()):=by
 have c:=Mw h h.cg;have d:=Mg h h.cg;have b:cH (ak ls) (i:Int)=false:=kT (by rw[aJ];omega);refine⟨cA ?_,cA ?_⟩;.unfold yT;exact aa c (av rfl (av (cE (by show(0:Int)<=(i:Int);omega)) (av b (ab rfl))))
 .unfold H1;exact aa d (av rfl (av (cE (by show(0:Int)<=(i:Int);omega)) (av b (ab rfl))))
theorem GR:ls.length<=6/\1<=ls.length/\ls.flatten.length<=96/\(∀m,m∈ls->m.length<=16)/\∀f,f∈ls.flatten->0<=f/\f<256:=by
 obtain⟨j,k,l⟩:=qn h h.cg;refine⟨j,k,l,λm i=>?_,λf e=>?_⟩;.obtain⟨q,b⟩:=bj i;exact(kO h h.cg b).choose_spec.2.1
 .obtain⟨m,c,d⟩:=jB.1 e;obtain⟨q,b⟩:=bj c;obtain⟨_,_,_,_,g⟩:=kO h h.cg b;exact(g f d).2
theorem Wi{i:Nat}{l d:List Int}(hi:ls[i]?=some d)(v:(ls.flatten++l).Nodup)(z:l.length<=16)(u:∀f,f∈l->0<=f/\f<256):O9 ls (i:Int) l=some ((ls.set i (d++l.reverse),()),0,()):=by
 obtain⟨A,B,C,o,D⟩:=GR h;have q:=(aj.1 hi).1;have g:=o d (Y hi);refine cA ?_;unfold O9;refine aa (zy h q).1 (av rfl (cw (λi=>(mp (ls.take i).flatten,(i:Int),())) ls.length rfl (by omega) (λi hi=>?_) (av (cU (l:=ls)) (bC (ab rfl))) ?_))
 .
  have g:ls[i]?=some ls[i]:=G hi;generalize ls[i]=m at g;have y:=o m (Y g);refine bg (cD (l:=ls) hi) (aK (P:=λs=>s=(mp (ls.take (i+1)).flatten,())) (aa (aI g) (cw (λk=>(mp ((ls.take i).flatten++m.take k),(k:Int),())) m.length (by rw[fQ,bf];rfl) (by omega) (λk b=>?_) (av (cU (l:=m)) (bC (ab rfl))) (aV ?_))) ?_);.have c:m[k]?=some m[k]:=G b;generalize m[k]=x at c;refine bg (cD (l:=m) b) (aa (aI c) (ab ?_));show Sum.inl (m6 (mp _) x true,ah .i64 (k:Int) 1,())=_;rw[K5,cn,dw c,bH (by omega)]
  .show(mp ((ls.take i).flatten++m.take m.length),())=_;rw[bN,tK g]
  .rintro s rfl;exact ab (by show Sum.inl (_,ah .i64 (i:Int) 1,())=_;rw[bH (by omega)])
 have e:ls.take ls.length=ls:=bN;rw[e];refine cw (λk=>((([],()),()),mp (ls.flatten++l.take k),(k:Int),())) l.length (by rw[fQ,bf];rfl) (by omega) (λk b=>?_) (av (cU (l:=l)) (bC (ab rfl))) ?_;.have c:l[k]?=some l[k]:=G b;generalize l[k]=x at c;have p:=u x (Y c);obtain⟨j,n⟩:=oE (P:=ls.flatten) (ls:=[l]) (i:=0) (by simpa using v) rfl c;have j:(ls.flatten++[]++l.take k).Nodup:=j;have n:¬x∈ls.flatten++[]++l.take k:=n;rw[bf]at j n;refine bg (cD (l:=l) b) (aq (eu b) (aa (aI c) (aa (up x) (av (by rw[ar p.1,ar p.2];rfl) (av (K7 j n) (ab ?_))))));show Sum.inl (_,m6 (mp _) x true,ah .i64 (k:Int) 1,())=_;rw[K5,cn,dw c,bH (by omega)]
 refine aa (aI hi) (aq (iZ (by rw[aJ];omega) (by rw[aJ];omega) (by decide)) (aa (aI hi) ?_));refine cw (λk=>(d++l.reverse.take k,(k:Int),())) l.length (by show(dR (eh (ak d) 0) d,(0:Int),())=_;rw[uu,fQ,bf];rfl) (by omega) (λk b=>?_) (av (cU (l:=l)) (bC (ab rfl))) ?_
 .
  refine bg (cD (l:=l) b) (aq (KV b (by omega)) (aZ (KW b (by omega)) λw t=>aq (cj ?_ (by decide)) (ab ?_)));.show(d++l.reverse.take k).length+1<=10000;rw[ax,aR,eg];omega
  .show Sum.inl (d++l.reverse.take k++[w],ah .i64 (k:Int) 1,())=_;rw[cn,dw t,bH (by omega)]
 have r:l.reverse.take l.length=l.reverse:=dp (by rw[eg];exact au _);rw[r];exact aa (tW ls i (d++l.reverse) q (by omega) (λm g=>by have:=o m g;omega) (by rw[ax,eg];omega)) (ab rfl)
end
end Go.Bo
set_option maxHeartbeats 4000000
namespace Go.Bo
open Go Go.Ls
theorem Q5{c:List (List Int)}{x:Int}(h1:c.length<=100)(h2:∀m,m∈c->m.length<=100)(h:¬x∈c.flatten):Mb ((c,()),x,())=some (false,()):=by refine cA ?_;unfold Mb;refine cw (λi=>((i:Int),())) c.length rfl (by omega) (λi d=>?_) (av (cU (l:=c)) (bC (ab rfl))) (ab rfl);have a:c[i]?=some c[i]:=G d;generalize c[i]=m at a;have j:=h2 m (Y a);refine bg (cD (l:=c) d) (aK (P:=λ_=>True) (aa (aI a) (cw (λk=>((k:Int),())) m.length rfl (by omega) (λk f=>?_) (av (cU (l:=m)) (bC (ab rfl))) (aV trivial))) λ_ _=>ab (by show Sum.inl (ah .i64 (i:Int) 1,())=_;rw[bH (by omega)]));have b:m[k]?=some m[k]:=G f;generalize m[k]=y at b;have g:y≠x:=λe=>h (by subst e;exact jB.2 ⟨m,Y a,Y b⟩);exact bg (cD (l:=m) f) (aa (aI b) (av (by rw[gi,aQ g]) (ab (by show Sum.inl (ah .i64 (k:Int) 1,())=_;rw[bH (by omega)]))))
theorem Qe{α:Type}{l:List α}{k:Nat}:eS l 0 (k:Int)=l.take k:=rfl
theorem Hh{α:Type}{l:List α}{k:Nat}(h:k<=l.length):dx 0 (k:Int) (ak l)=true:=by unfold dx;rw[ar (show(0:Int)<=0 by decide),ar (show(0:Int)<=(k:Int)by omega),ar (show(k:Int)<=ak l by rw[aJ];omega)];rfl
section
variable{a:eK}{ls:List (List Int)}(h:VA a ls)
include h
theorem Uu{i:Nat}{l b:List Int}(hi:ls[i]?=some b)(z0:(ls.flatten++l).Nodup)(w0:l.length<=16)(C:∀f,f∈l->0<=f/\f<256):BP ((ls,()),(i:Int),l,())=some ((ls.set i (b++l.reverse),()),0,()):=by
 obtain⟨v0,u0,t0,u,s0⟩:=GR h;have n:=(aj.1 hi).1;have j:=u b (Y hi);refine cA ?_;unfold BP;refine aa (zy h n).2 (av rfl ?_);refine cw (λk=>((([],()),()),(k:Int),())) l.length rfl (by omega) (λk g=>?_) (av (cU (l:=l)) (bC (ab rfl))) ?_
 .
  have c:l[k]?=some l[k]:=G g;generalize l[k]=x at c;have v:=C x (Y c);obtain⟨_,d⟩:=oE (P:=ls.flatten) (ls:=[l]) (i:=0) (by simpa using z0) rfl c;have d:¬x∈ls.flatten++[]++l.take k:=d;rw[bf]at d;have e:BO (x,())=some (false,()):=by refine cA ?_;unfold BO;exact av (cE v.1) (ab (by show(cH 256 x,())=_;rw[kT v.2]))
  refine bg (cD (l:=l) g) (aK (P:=λt=>t=(((([],()),()),()):((List (List Int)×Unit)×Unit)×Unit)) (aa (aI c) (aa e (av rfl (aa (Q5 (c:=ls) (by omega) (λm j=>by have:=u m j;omega) λo=>d (eo _ o)) (av rfl (aq (Hh (l:=l) (by omega)) ?_)))))) ?_);.show Ok (aE (aF (α:=D (.ai (.ai fA .un) iU)) (λz=>ad (ay z.2.1 (ak (eS l 0 (k:Int)))) _ _) _ _) _) _;rw[Qe];refine cw (λq=>((([],()),()),(q:Int),())) (l.take k).length rfl (by rw[aR];omega) (λq r=>?_) (av (cU (l:=l.take k)) (bC (ab rfl))) (aV rfl);have s:(l.take k)[q]?=some (l.take k)[q]:=G r;generalize(l.take k)[q]=y at s;have y0:x≠y:=λe=>d (by subst e;exact cW _ (Y s));rw[aR]at r;exact bg (cD (l:=l.take k) (by rw[aR];exact r)) (aa (aI s) (av (by rw[gi,aQ y0]) (ab (by show Sum.inl (_,ah .i64 (q:Int) 1,())=_;rw[bH (by omega)]))))
  .rintro t rfl;exact ab (by show Sum.inl (_,ah .i64 (k:Int) 1,())=_;rw[bH (by omega)])
 refine jp (JU (l:=ls) (by omega) λm j=>by have:=u m j;omega) ?_;have A:bb .i64 (ak l) 1=(l.length:Int)-1-((0:Nat):Int):=by rw[aJ,fa (by omega) (by omega)];omega
 have w:∀k,(ls.set i (b++l.reverse.take k))[i]?=some (b++l.reverse.take k):=λk=>be n;refine cw (λk=>((ls.set i (b++l.reverse.take k),()),(l.length:Int)-1-(k:Int),())) l.length (by show((ls,()),bb .i64 (ak l) 1,())=_;rw[A,fQ,bf,ir hi]) (by omega) (λk g=>?_) (av (kT (by show(l.length:Int)-1-(l.length:Int)<0;omega)) (bC (ab rfl))) ?_
 .
  have B:(l.length:Int)-1-(k:Int)=((l.length-1-k:Nat):Int):=by omega
  have c:l[l.length-1-k]?=some (l[l.length-1-k]'(by omega)):=G (by omega);generalize l[l.length-1-k]'(by omega)=x at c;have x0:l.reverse[k]?=some x:=by rw[sx g];exact c
  have p:aU (ls.set i (b++l.reverse.take k)) (i:Int)=true:=eu (by rw[bx];exact n);refine bg (kS (by show 0<=(l.length:Int)-1-(k:Int);omega)) (aq p (aq p (aa (x:=x) (by show az l ((l.length:Int)-1-(k:Int))=_;rw[B];exact c) (aa (aI (w k)) (aq (cj (by show(b++l.reverse.take k).length+1<=_;rw[ax,aR];omega) (by decide)) (aq p (aq (by rw[gi];exact ar rfl) (ab ?_))))))));show Sum.inl (((ls.set i (b++l.reverse.take k)).set i (b++l.reverse.take k++[x]),()),bb .i64 ((l.length:Int)-1-(k:Int)) 1,())=_;rw[eM,cn,dw x0,fa (by omega) (by omega),show(l.length:Int)-1-(k:Int)-1=(l.length:Int)-1-((k+1:Nat):Int)by omega]
 .rw[dp (by rw[eg];exact au _)];exact ab rfl
def aW(a:eK)(i:Nat)(z:Zn)(cl:List sR):eK:=(a.1,a.2.1,a.2.2.1,(cu a).set i z,cl,())
theorem Sj{i:Nat}{l:List Int}{f:Int}(hi:ls[i]?=some (l++[f])):vd ((ls,()),(i:Int),())=some ((ls.set i l,()),f,0,())/\BT ((ls,()),(i:Int),())=some ((ls.set i l,()),f,0,()):=by
 obtain⟨p,q,r,g,s⟩:=GR h;have c:=(aj.1 hi).1;have b:=g _ (Y hi);rw[ax,eE]at b;have d:bb .i64 (ak (l++[f])) 1=(l.length:Int):=by rw[aJ,ax,eE,fa (by omega) (by omega)];omega
 have j:aY (ak (l++[f])) 0=false:=by rw[gi,aJ,ax,eE];exact aQ (by omega)
 have k:az (l++[f]) (bb .i64 (ak (l++[f])) 1)=some f:=by rw[d];show(l++[f])[l.length]?=_;simp
 have n:eS (l++[f]) 0 (bb .i64 (ak (l++[f])) 1)=l:=by rw[d,Qe];simp
 have o:dx 0 (bb .i64 (ak (l++[f])) 1) (ak (l++[f]))=true:=by rw[d];exact Hh (by simp)
 have e:aU ls (i:Int)=true:=eu c;refine⟨cA ?_,cA ?_⟩;.unfold vd;refine aa (zy h c).1 (av rfl (aa (aI hi) (av j (aq o (aa k ?_)))));show Ok (am (yS ((ls,()),(i:Int),eS (l++[f]) 0 (bb .i64 (ak (l++[f])) 1),())) _) _;rw[n];exact aa (tW ls i l c (by omega) (λm b=>by have:=g m b;omega) (by omega)) (ab rfl)
 .unfold BT;refine aa (zy h c).2 (av rfl (aa (aI hi) (av j (jp (JU (l:=ls) (by omega) λm b=>by have:=g m b;omega) ?_))));refine aq e (aa (aI hi) (aa k (aq e (aa (aI hi) (aq o (aq e (aa (aI hi) (ab ?_))))))));show((ls.set i (eS (l++[f]) 0 (bb .i64 (ak (l++[f])) 1)),()),_)=_;rw[n]
end
end Go.Bo
set_option maxHeartbeats 4000000
namespace Go.Bo
open Go Go.Ls
def za(z:Zn):Int:=z.2.2.2.2.1
def l3(z:Zn):Nat->Int|0=>0|k+1=>ah .i64 (l3 z k) (fj .i64 (ak (dA z k)) (k:Int))
theorem M4:(List.range 257).all (λn=>(List.range 5).all λk=>decide (fj .i64 (n:Int) (k:Int)=(n:Int)*2^k))=true:=by kernel_rfl
theorem V7{n k:Nat}(b:n<=256)(a:k<=4):fj .i64 (n:Int) (k:Int)=(n:Int)*2^k:=br (bQ.1 (bQ.1 M4 n (eC.2 (by omega))) k (eC.2 (by omega)))
theorem PZ{z:Zn}(h:VZ z):∀k,k<=5->0<=l3 z k/\l3 z k<=5000*k/\((∀j,j<k->dA z j=[])->l3 z k=0)
 |0,_=>⟨bW 0,bW 0,λ_=>rfl⟩
 |k+1,m=>by
  obtain⟨g,i,b⟩:=PZ h k (by omega);have c:=pe h.v.mW k (by omega);obtain⟨n,o⟩:=Ar (k:=k) (by omega);have e:fj .i64 (ak (dA z k)) (k:Int)=((dA z k).length:Int)*2^k:=V7 c (by omega);have d:0<=((dA z k).length:Int)*2^k:=Int.mul_nonneg (by omega) (by omega);have f:((dA z k).length:Int)*2^k<=256*16:=Int.mul_le_mul (by omega) (by omega) (by omega) (by omega);have a:l3 z (k+1)=l3 z k+((dA z k).length:Int)*2^k:=by show ah .i64 (l3 z k) _=_;rw[e];exact cz (by omega) (by omega)
  rw[a];refine⟨by omega,by omega,λh=>?_⟩;rw[b λj l=>h j (by omega),h k (by omega)];show(0:Int)+((0:Nat):Int)*2^k=0;rw[Int.natCast_zero,Int.zero_mul];rfl
theorem Uy{z:Zn}(h:VZ z):DU (z,())=some (l3 z 5,()):=by
 have a:=zJ z h.v;have b:BR (z,())=some (fj .i64 (ak (dA z 4)) 4,()):=by refine cA ?_;unfold BR;exact aa a (av rfl (ab rfl))
 refine cA ?_;unfold DU;exact aa a (av rfl (aa b (ab rfl)))
theorem Wq{z:Zn}(h:VZ z):nz z=z:=by obtain⟨a,b,c,d,e,l,u⟩:=z;have f:l.length=5:=h.l;match l,f with
 |[g,i,j,k,m],_=>rfl
section
variable{a:eK}{ls:List (List Int)}(h:VA a ls){i:Nat}{z:Zn}(hz:(cu a)[i]?=some z){l0:List Int}(hi:ls[i]?=some l0)
include h
theorem SH:(cu a).map nz=cu a:=by
 have:∀l:List Zn,(∀z,z∈l->VZ z)->l.map nz=l:=by intro l b;induction l with
  |nil=>rfl
  |cons y l c=>rw[List.map_cons,Wq (b y bX),c λz hz=>b z (cT _ hz)]
 exact this _ h.vz
include hz hi
theorem W3:∃C:Int,DZ (a,(i:Int),())=some (C-za z,())/\Ms (a,(i:Int),())=some (C,())/\(l0=[]->za z<C->¬QU z):=by
 have d:=h.vz z (Y hz);obtain⟨y9,z9,h0⟩:=CH h;obtain⟨b0,a0,u0⟩:=PZ d 5 (by decide);have z0:=(GR h).2.2.2.1 l0 (Y hi);have x0:(List.replicate (cu a).length ([]:List Int))[i]?=some []:=by rw[cd,aA (aj.1 hz).1]
 have p:(cK a)[0]?=some (ls,()):=by rw[h.ca];rfl
 have y0:∀j,j<(cK a).length->j≠0->∃c,(cK a)[j]?=some c/\c.1[i]?=some []:=λj b c0=>by refine⟨(List.replicate (cu a).length [],()),?_,x0⟩;obtain⟨j,rfl⟩:∃q,j=q+1:=⟨j-1,by omega⟩;have w0:=b;rw[h.ca,bp,aN]at w0;rw[h.ca];show(List.replicate _ _)[j]?=_;rw[cd,aA (by omega)]
 have g0:ah .i64 (l3 z 5) (ak l0)=l3 z 5+(l0.length:Int):=by rw[aJ];exact cz (by omega) (by omega)
 have y:∀{s:Type}(j:Nat)(b:j<(cK a).length){m:List (List Int)×Unit->List Int->Option s}{n:s->Prop},(∀c l,(cK a)[j]?=some c->c.1[i]?=some l->(if j=0 then l3 z 5 else l3 z 5+(l0.length:Int))+(l.length:Int)=l3 z 5+(l0.length:Int)->l.length<=16->Ok (m c l) n)->Ok (am (az (cK a) (j:Int)) λc=>am (az c.1 (i:Int)) λl=>m c l) n:=by
  intro s j b m n v;by_cases e:j=0;.subst e;exact aa (aI p) (aa (aI hi) (v _ _ p hi (by rw[aA rfl]) z0))
  .obtain⟨c,f,g⟩:=y0 j b e;exact aa (aI f) (aa (aI g) (v _ _ f g (by rw[aB e];exact gL _) (by decide)))
 have x:∀j,j<(cK a).length->∀l:List Int,(if j=0 then l3 z 5 else l3 z 5+(l0.length:Int))+(l.length:Int)=l3 z 5+(l0.length:Int)->ah .i64 (if j=0 then l3 z 5 else l3 z 5+(l0.length:Int)) (ak l)=if j+1=0 then l3 z 5 else l3 z 5+(l0.length:Int):=λj b l e=>by have A:(if j+1=0 then l3 z 5 else l3 z 5+(l0.length:Int))=l3 z 5+(l0.length:Int):=aB (by omega);rw[A,aJ];refine(cz ?_ ?_).trans e<;>split<;>omega
 have i0:0<(cK a).length:=(aj.1 p).1;have B:D0 (a,(i:Int),())=some (l3 z 5+(l0.length:Int),()):=by refine cA ?_;unfold D0;refine aa (aI hz) (aa (Uy d) (cw (λj=>(if j=0 then l3 z 5 else l3 z 5+(l0.length:Int),(j:Int),())) (cK a).length rfl (by omega) (λj b=>bg (cD (l:=cK a) b) (y j b λc l f g o D=>ab ?_)) (av (cU (l:=cK a)) (bC (ab rfl))) (ab (by rw[aB (by omega)]))));show Sum.inl (ah .i64 _ (ak l),ah .i64 (j:Int) 1,())=_;rw[x j b l o,bH (by omega)]
 have d0:0<=za z/\za z<=256:=by obtain⟨t0,s0,r0,q0,p0,o0,n0,t,u⟩:=Zs.lg d.r;have t:0<=za z:=t;have u:za z<=zc z:=u;have:=d.v.mW.pl;obtain⟨m0,k0,j0⟩:=this;omega
 refine⟨l3 z 5+(l0.length:Int),cA ?_,cA ?_,λe e0 v0=>?_⟩;.unfold DZ;refine aa (aI hz) (aa B (ab ?_));show(bb .i64 (l3 z 5+(l0.length:Int)) (za z),())=_;rw[fa (by omega) (by omega)]
 .
  unfold Ms;refine cw (λk=>(l3 z k,(k:Int),())) 5 rfl (by decide) (λk f0=>?_) (av (kT (by show(4:Int)<((5:Nat):Int);decide)) (bC (ab rfl))) ?_
  .
   have r:k<=4:=by omega
   have w:=(vp (vq d).1).qB k r;rw[rk]at w;refine bg (kS (by show(k:Int)<=4;omega)) (aa (aI hz) (aa w (aq (by show cR (ee .u64 (k:Int))=true;rw[qw r];exact ar (by omega)) (ab ?_))));show Sum.inl (ah .i64 (l3 z k) (fj .i64 (ak (dA z k)) (ee .u64 (k:Int))),ah .i64 (k:Int) 1,())=_;rw[qw r,bH (by omega)];rfl
  .refine cw (λj=>(if j=0 then l3 z 5 else l3 z 5+(l0.length:Int),(j:Int),())) (cK a).length rfl (by omega) (λj b=>bg (cD (l:=cK a) b) (y j b λc l f g o D=>ab ?_)) (av (cU (l:=cK a)) (bC (ab rfl))) (ab (by rw[aB (by omega)]));show Sum.inl (ah .i64 _ (ak l),ah .i64 (j:Int) 1,())=_;rw[x j b l o,bH (by omega)]
 .subst e;have:=u0 λj b=>v0.1 j (by omega);have e:(([]:List Int).length:Int)=0:=rfl;omega
theorem Fa(z0:l0=[])(d:¬QU z){β:Type}:∃m,1<=m/\m<=16/\Wk z (ns a).toNat m/\(ls.flatten++wl z m).Nodup/\(∀f,f∈wl z m->zs z<=f/\f<zs z+zc z/\0<=f/\f<256)/\Jf a (i:Int) 0=some (aW a i (wz z m) (aG (cK a) 0 (ls.set i (wl z m).reverse,())),true,())/\Jg (β:=β) (i:Int) a=some (.inl (aW a i (wz z m) (cK a),wl z m,())):=by
 subst z0;obtain⟨k0,g,o0⟩:=h.g;have p0:=g.bh;have k:=h.vz z (Y hz);obtain⟨m,w⟩:=OB k (ns a).toNat;have B:=(aj.1 hz).1
 have y0:1<=m:=by
  rcases w.e with e|e;.omega
  .cases m with
   |zero=>exact absurd e d
   |succ m=>omega
 have v:m<=16:=by have:=w.le;omega
 obtain⟨s0,r0,D,s,q0⟩:=OA k w m (au _);have u:∀f,f∈wl z m->zs z<=f/\f<zs z+zc z/\0<=f/\f<256:=λf n=>by obtain⟨n0,m0⟩:=Qc k (s f n);obtain⟨v0,u0,t0⟩:=k.v.mW.pl;omega
 have A:(ls.flatten++wl z m).Nodup:=jb.2 ⟨h.cg.nd,D,λx x0 y w0 e=>by subst e;exact Sf h hz x0 (s x w0)⟩;have c:∀y,((cu a).set i y)[i]?=some y:=λy=>be B;have b:∀y,aU ((cu a).set i y) (i:Int)=true:=λy=>eu (by rw[bx];exact B);have C:(cu a).set i (wz z 0)=cu a:=ir hz;refine⟨m,y0,v,w,A,u,cA ?_,?_⟩
 .
  unfold Jf;refine cw (b:=(aW a i (wz z m) (cK a),wl z m,())) (λj=>(aW a i (wz z j) (cK a),wl z j,(j:Int),())) m (by show(_,_)=((a.1,a.2.1,a.2.2.1,(cu a).set i (wz z 0),cK a,()),_);rw[C];rfl) (by omega) (λj o=>?_) ?_ ?_;.have d:=w.s j o;refine bg (eJ (by show(j:Int)<ns a;have:=w.le;omega)) (aq (b _) (aa (aI (c _)) (aa d.p (av rfl (aq (b _) (aa (aI (c _)) (aq (O6 (by show(wl z j).length<=_;rw[rF];omega)) (ab ?_))))))));show Sum.inl ((a.1,a.2.1,a.2.2.1,((cu a).set i (wz z j)).set i (wz z (j+1)),cK a,()),wl z j++[(AA (wz z j)).2],ah .i64 (j:Int) 1,())=_;rw[eM,<-Oz,bH (by omega)];rfl
  .
   rcases w.e with e|⟨_,⟨r,q,p⟩,_⟩;.exact av (cE (by show ns a<=(m:Int);omega)) (bC (ab rfl))
   .exact aL (λ_=>aq (b _) (aa (aI (c _)) (aa q (bg p (bC (ab rfl)))))) λ_=>bC (ab rfl)
  .
   have l:(cK a)[0]?=some (ls,()):=by rw[h.ca];rfl
   have t:aU (cK a) 0=true:=eu (l:=cK a) (i:=0) (aj.1 l).1;refine aq t (aa (aI (i:=0) l) (aa (Wi h hi A (by rw[rF];exact v) λf n=>(u f n).2.2) (bg rfl (aq t (aa (aI (i:=0) l) (ab ?_))))));have:ay 0 (ak (wl z m))=true:=eJ (by rw[aJ,rF];omega);show(_,ay 0 (ak (wl z m)),())=_;rw[this];rfl
 .
  unfold Jg;refine o5 (λj=>(aW a i (wz z j) (cK a),wl z j,())) m (by show(_,_)=((a.1,a.2.1,a.2.2.1,(cu a).set i (wz z 0),cK a,()),_);rw[C];rfl) (by omega) (λj o=>?_) ?_;.have d:=w.s j o;refine bg (eJ (by show ak (wl z j)<ns a;rw[aJ,rF];have:=w.le;omega)) (aq (b _) (aa (aI (c _)) (aa d.r (av rfl (aq (b _) (aa (aI (c _)) (aq (O6 (by show(wl z j).length<=_;rw[rF];omega)) (ab ?_))))))));show Sum.inl ((a.1,a.2.1,a.2.2.1,((cu a).set i (wz z j)).set i (wz z (j+1)),cK a,()),wl z j++[(AA (wz z j)).2],())=_;rw[eM,<-Oz];rfl
  .
   rcases w.e with e|⟨_,_,⟨r,q,p⟩⟩;.exact av (cE (by show ns a<=ak (wl z m);rw[aJ,rF];omega)) (bC (ab rfl))
   .exact aL (λ_=>aq (b _) (aa (aI (c _)) (aa q (bg p (bC (ab rfl)))))) λ_=>bC (ab rfl)
end
end Go.Bo
set_option maxHeartbeats 4000000
namespace Go.Bo
open Go Go.Ls
def kz(h n:Int):Int:=if n<h then 2*(h-n)else 2*(n-h)+1
theorem Mp{h n:Int}(c:0<=h/\h<4)(d:0<=n/\n<4):qq (h,n,())=some (kz h n,()):=by
 have a:n<h->ea .i64 2 (bb .i64 h n)=kz h n:=λl=>by unfold kz;rw[aA l,fa (by omega) (by omega)];exact kZ (n:=2*(h-n)) (by omega) (by omega)
 have b:¬n<h->ah .i64 (ea .i64 2 (bb .i64 n h)) 1=kz h n:=λl=>by
  unfold kz;have:ea .i64 2 (bb .i64 n h)=2*(n-h):=by rw[fa (by omega) (by omega)];exact kZ (n:=2*(n-h)) (by omega) (by omega)
  rw[aB l,this];exact cz (by omega) (by omega)
 refine cA ?_;unfold qq;exact aL (λl=>ab (eP (.,()) (a (kj l)))) (λl=>ab (eP (.,()) (b λo=>by have:=eY l;simp only at this;omega)))
theorem U0{h n:Int}(a:0<=h/\h<4)(b:0<=n/\n<4):0<=kz h n/\kz h n<=8:=by unfold kz;split<;>omega
theorem Uz(a b:Int):pK (a,b,())=some (if a<b then-1 else if b<a then 1 else 0,()):=by
 have h:∀a,u7 (a,())=some (false,()):=λa=>by refine cA ?_;unfold u7;exact ab (by show(bF a a,())=_;rw[eQ])
 refine cA ?_;unfold pK;refine aa (h a) (aa (h b) (av rfl (av rfl ?_)));refine aL (λl=>ab ?_) λl=>aL (λm=>ab ?_) λm=>ab ?_;.rw[aA (kj l)]
 .have l:=eY l;rw[aB λo=>by simp only at l;omega,aA (kj m)]
 .have l:=eY l;have m:=eY m;rw[aB λo=>by simp only at l;omega,aB λo=>by simp only at m;omega]
theorem OU{α:Type}(a b:α)(Q:List α):∀P:List α,((P++a::b::Q).set (P.length+1) a).set P.length b=P++b::a::Q
 |[]=>rfl
 |x::P=>by show x::((P++a::b::Q).set (P.length+1) a).set P.length b=_;rw[OU a b Q P];rfl
theorem CM{R:Int→Int→Prop}(g:∀x y,R x y→R y x→False):∀{l m:List Int},l.Pairwise R→m.Pairwise R→(∀x,x∈l↔x∈m)→l=m
 |[],[],_,_,_=>rfl
 |[],b::m,_,_,h=>by cases(h b).2 bX
 |a::l,[],_,_,h=>by cases(h a).1 bX
 |a::l,b::m,d,f,h=>by
  have d:=gX.1 d;have f:=gX.1 f
  have j:a=b:=by
   rcases cm.1 ((h a).1 bX)with e|e;·exact e
   ·
    rcases cm.1 ((h b).2 bX)with i|i;·exact i.symm
    ·exact(g _ _ (d.1 _ i) (f.1 _ e)).elim
  subst j;refine eP _ (CM g d.2 f.2 fun x=>⟨fun c=>?_,fun c=>?_⟩)
  ·
   rcases cm.1 ((h x).1 (cT _ c))with e|e;·subst e;exact(g _ _ (d.1 _ c) (d.1 _ c)).elim
   ·exact e
  ·
   rcases cm.1 ((h x).2 (cT _ c))with e|e;·subst e;exact(g _ _ (f.1 _ c) (f.1 _ c)).elim
   ·exact e
structure ZO (zl : List Zn) (h : Int) : Prop where
  l : zl.length ≤ 6
  n : ∀ z, z ∈ zl → (0 ≤ (z.1 : Int) ∧ (z.1 : Int) < 4) ∧ ((z.2.1 : Int) = 0 ∨ (z.2.1 : Int) = 1)
  h : 0 ≤ h ∧ h < 4
theorem VI{zl:List Zn}{h:Int}(e:zl.length<=6)(f:∀z,z∈zl->VZ z)(d:0<=h/\h<4):ZO zl h:=by refine⟨e,λz g=>?_,d⟩;obtain⟨a,b,c,_⟩:=Zs.lg (f z g).r;exact⟨⟨a,b⟩,c⟩
def EO(zl:List Zn)(e:Int):Int:=((zl[e.toNat]?).map λz=>z.1).getD 0
def key(zl:List Zn)(h e:Int):Int:=kz h (EO zl e)
def Kp(zl:List Zn)(e:Int):Prop:=∃z,0<=e/\zl[e.toNat]?=some z/\(z.2.1:Int)=0
def Rk(zl:List Zn)(h x y:Int):Prop:=key zl h x<key zl h y\/key zl h x=key zl h y/\x<y
theorem O7{zl:List Zn}{h:Int}:∀x y,Rk zl h x y->Rk zl h y x->False:=by rintro x y(a|⟨a,b⟩)(c|⟨c,d⟩)<;>omega
theorem AZ{zl:List Zn}{e:Int}{z:Zn}(a:0<=e)(h:zl[e.toNat]?=some z):az zl e=some z/\EO zl e=z.1:=⟨(pC a).trans h,by unfold EO;rw[h];rfl⟩
theorem W4{zl:List Zn}{h a b:Int}(o:ZO zl h)(y0:Kp zl a)(x0:Kp zl b){α:Type}{T E A B C:Option α}{f g:Zn->RI->Zn->Option α}{Q:α->Prop}(p:key zl h a<key zl h b->Ok T Q)(n:¬key zl h a<key zl h b->Ok E Q){w:RI->Option α}{x:RI->Zn->RI->Option α}:Ok (am (az zl a) λp0=>am (qq (h,p0.1,())) λi=>am (az zl a) λs0=>ad (aY s0.2.1 0) (am (az zl b) λs=>am (qq (h,s.1,())) λt=>am (az zl b) λr0=>ad (aY r0.2.1 0) (am (pK (ah .i64 (ea .i64 2 i.1) 1,ah .i64 (ea .i64 2 t.1) 1,())) λq0=>ad (ay q0.1 0) T E) (x i s t)) (w i)) Q:=by
 obtain⟨y,D,u,o0⟩:=y0;obtain⟨z,z0,v,n0⟩:=x0;obtain⟨j,u0⟩:=AZ D u;obtain⟨m,t0⟩:=AZ z0 v;have q:=(o.n y (Y u)).1;have r:=(o.n z (Y v)).1;have d:=U0 o.h q;have e:=U0 o.h r;have c:∀k:Int,0<=k->k<=8->ah .i64 (ea .i64 2 k) 1=2*k+1:=λk m0 l0=>by have:ea .i64 2 k=2*k:=kZ (n:=2*k) (by omega) (by omega);rw[this];exact cz (by omega) (by omega)
 refine aa j (aa (Mp o.h q) (aa j (bg (by rw[gi];exact ar o0) (aa m (aa (Mp o.h r) (aa m (bg (by rw[gi];exact ar n0) (aa (Uz _ _) ?_))))))));have w0:key zl h a=kz h y.1:=by unfold key;rw[u0]
 have v0:key zl h b=kz h z.1:=by unfold key;rw[t0]
 rw[w0,v0]at p n;refine aL (λl=>p ?_) λl=>n ?_
 .
  have l:(if ah .i64 (ea .i64 2 (kz h y.1)) 1<ah .i64 (ea .i64 2 (kz h z.1)) 1 then(-1:Int)else if ah .i64 (ea .i64 2 (kz h z.1)) 1<ah .i64 (ea .i64 2 (kz h y.1)) 1 then 1 else 0)<0:=kj l;rw[c _ d.1 d.2,c _ e.1 e.2]at l;split at l;.omega
  .split at l<;>omega
 .
  have l:(0:Int)<=if ah .i64 (ea .i64 2 (kz h y.1)) 1<ah .i64 (ea .i64 2 (kz h z.1)) 1 then(-1:Int)else if ah .i64 (ea .i64 2 (kz h z.1)) 1<ah .i64 (ea .i64 2 (kz h y.1)) 1 then 1 else 0:=eY l;rw[c _ d.1 d.2,c _ e.1 e.2]at l;split at l;.omega
  .omega
theorem UA{zl:List Zn}{h:Int}(o:ZO zl h):DV (zl,h,())=some (0,()):=by
 have g:=o.l;have e:DS (zl,())=some (0,()):=by refine cA ?_;unfold DS;refine av (cE (by rw[aJ];show(zl.length:Int)<=6;omega)) (cw (λi=>((i:Int),())) zl.length rfl (by omega) (λi c=>?_) (av (cU (l:=zl)) (bC (ab rfl))) (ab rfl));have a:zl[i]?=some zl[i]:=G c;generalize zl[i]=z at a;obtain⟨⟨d,f⟩,k⟩:=o.n z (Y a);have b:Ok (some (Sum.inl (ah .i64 (i:Int) 1,())):Option (Sum (Int×Unit) (Sum Unit RI))) λr=>r= .inl (((i+1:Nat):Int),()):=ab (by rw[bH (by omega)]);refine bg (cD (l:=zl) c) (aa (aI a) (av (cE d) (av (kT f) (aL (λq=>av ?_ b) λ_=>b))));have q:(z.2.1:Int)≠0:=iX q;rw[gI,ar (k.resolve_left q)];rfl
 refine cA ?_;unfold DV;exact aa e (av rfl (av (cE o.h.1) (av (kT o.h.2) (ab rfl))))
def tq(zl:List Zn):Nat->List Int|0=>[]|k+1=>tq zl k++match zl[k]? with|some z=>if(z.2.1:Int)=0 then [(k:Int)]else []|none=>[]
theorem AY{zl:List Zn}:∀k,k≤zl.length→(tq zl k).length≤k∧(tq zl k).Pairwise (·<·)∧∀e,e∈tq zl k↔Kp zl e∧e<(k:Int)
 |0,_=>⟨au _,.nil,fun e=>⟨fun h=>(by cases h),fun h=>by obtain⟨⟨_,l,_⟩,d⟩:=h;omega⟩⟩
 |k+1,m=>by
  obtain⟨d,i,f⟩:=AY (zl:=zl) k (by omega);have a:zl[k]?=some (zl[k]'(by omega)):=G (by omega);generalize zl[k]'(by omega)=z at a;unfold tq;rw[a];dsimp only;by_cases c:(z.2.1:Int)=0
  ·
   rw[aA c];refine⟨(by rw[ax];exact sS d 1:(tq zl k++[(k:Int)]).length≤k+1),gl.2 ⟨i,by simp,fun x a y j=>?_⟩,fun e=>?_⟩;·rcases cq.1 j with rfl;exact((f x).1 a).2
   ·
    rw[bR,f,cq];constructor
    ·
     rintro(⟨b,g⟩|rfl);·exact⟨b,by omega⟩
     ·exact⟨⟨z,by omega,by rw[cY];exact a,c⟩,by omega⟩
    ·
     rintro⟨b,g⟩;rcases nX e (k:Int)with q|q;·exact .inl ⟨b,q⟩
     ·exact .inr (by omega)
  ·
   rw[aB c,bf];refine⟨pQ d,i,fun e=>?_⟩;rw[f];refine⟨fun q=>⟨q.1,by omega⟩,fun q=>⟨q.1,?_⟩⟩;obtain⟨⟨y,n,b,g⟩,o⟩:=q;rcases nX e (k:Int)with q|q;·exact q
   ·rw[show e.toNat=k by omega,a]at b;cases b;exact absurd g c
end Go.Bo
set_option maxHeartbeats 4000000
namespace Go.Bo
open Go Go.Ls
structure Oa (zl : List Zn) (h : Int) (X : List Int) (i : Nat) (S : List Int) : Prop where
  p : S.Pairwise (Rk zl h)
  m : ∀ e, e ∈ S ↔ e ∈ X.take i
  l : S.length = i
theorem Sp{zl:List Zn}{h:Int}{X S:List Int}{i p:Nat}{v:Int}(f:Oa zl h X i S)(n:X.Pairwise (·<·))(k:X[i]?=some v)(hp:p≤i)(u:∀a,p≠0→S[p-1]?=some a→¬key zl h v<key zl h a)(r:∀q a,p≤q→S[q]?=some a→key zl h v<key zl h a):Oa zl h X (i+1) (S.take p++v::S.drop p):=by
 have y0:=f.l
 have w:∀a,a∈S→a<v:=fun a j=>by
  obtain⟨q,c⟩:=bj ((f.m a).1 j);have m:q<i:=by have:=(aj.1 c).1;rw[aR]at this;omega
  rw[eU,aA m]at c;have s:=(aj.1 k).1;have:=gV.1 n q i (by omega) s m;rw[(aj.1 c).2,(aj.1 k).2]at this;exact this
 have z:(S.take p++S.drop p).Pairwise (Rk zl h):=by rw[dE];exact f.p
 obtain⟨B,C,D⟩:=gl.1 z
 have t:∀a,a∈S.take p→key zl h a≤key zl h v:=fun a j=>by
  obtain⟨q,c⟩:=bj j;have A:q<p:=by have:=(aj.1 c).1;rw[aR]at this;omega
  rw[eU,aA A]at c;have d:S[p-1]?=some (S[p-1]'(by omega)):=G (by omega);generalize S[p-1]'(by omega)=b at d;have z0:=u b (by omega) d;by_cases e:q=p-1;·subst e;rw[c]at d;cases d;omega
  ·have:=gV.1 f.p q (p-1) (by omega) (by omega) (by omega);rw[(aj.1 c).2,(aj.1 d).2]at this;rcases this with a|⟨a,_⟩<;>omega
 refine⟨gl.2 ⟨B,gX.2 ⟨fun y g=>?_,C⟩,fun x l y g=>?_⟩,fun e=>?_,by rw[ax,bp,aR,cB];omega⟩;·obtain⟨q,c⟩:=bj g;rw[gh]at c;exact .inl (r (p+q) y (by omega) c)
 ·
  rcases cm.1 g with rfl|g
  ·
   have:=t x l;have:=w x (em l);rcases nX (key zl h x) (key zl h y)with o|o;·exact .inl o
   ·exact .inr ⟨by omega,by omega⟩
  ·exact D x l y g
 ·
  have:e∈S↔e∈S.take p∨e∈S.drop p:=by rw[←bR,dE]
  rw[←dw k,bR,cm,bR,cq,←f.m e,this];constructor
  ·
   rintro(q|q|q);·exact .inl (.inl q)
   ·exact .inr q
   ·exact .inl (.inr q)
  ·
   rintro((q|q)|q);·exact .inl q
   ·exact .inr (.inr q)
   ·exact .inr (.inl q)
theorem UD{zl:List Zn}{h:Int}(o:ZO zl h):Ok (B1 (zl,h,true,())) fun r=>r.1.Pairwise (Rk zl h)∧∀e,e∈r.1↔e∈tq zl zl.length:=by
 have y0:=o.l;obtain⟨h9,b0,a0⟩:=AY (zl:=zl) zl.length (au _);unfold B1;refine aa (UA o) (av rfl (aK (P:=fun s=>s=(tq zl zl.length,())) (bq (I:=fun i s=>s=(tq zl i,(i:Int),())) (m:=zl.length) rfl (by omega) ?_ ?_) ?_))
 ·
  rintro i s w rfl;have q0:zl[i]?=some zl[i]:=G w;generalize zl[i]=z at q0;have e0:=(AY (zl:=zl) i (by omega)).1;have e:tq zl (i+1)=tq zl i++if(z.2.1:Int)=0 then [(i:Int)]else []:=by show tq zl i++_=_;rw[q0]
  refine bg (cD (l:=zl) w) (aa (aI q0) (av rfl (aL (fun D=>?_) fun D=>aV ?_)));·rw[aA (kM D)]at e;refine aq (cj (by show(tq zl i).length+1≤_;omega) (by decide)) (aV ?_);show(tq zl i++[(i:Int)],ah .i64 (i:Int) 1,())=_;rw[e,bH (by omega)]
  ·have D:(z.2.1:Int)≠0:=mj D;rw[aB D,bf]at e;show(tq zl i,ah .i64 (i:Int) 1,())=_;rw[e,bH (by omega)]
 ·rintro s rfl;exact av (cU (l:=zl)) ⟨_,rfl,rfl⟩
 rintro s rfl;generalize tq zl zl.length=c at h9 b0 a0;have f0:∀e,e∈c→Kp zl e:=fun e s9=>((a0 e).1 s9).1;have c9:c.length≤6:=by omega
 refine aK (P:=fun s=>s=(c,(0:Int),())) (bq (I:=fun i s=>s=(c,(0:Int),(20:Int),())) (m:=0) rfl (by decide) (fun i s w=>by omega) ?_) ?_;·rintro s rfl;exact av (kT (by rw[aJ];show(c.length:Int)<20;omega)) ⟨_,rfl,rfl⟩
 rintro s rfl;refine aK (P:=fun s:List Int×Unit=>s.1.Pairwise (Rk zl h)∧∀e,e∈s.1↔e∈c) ?_ ?_
 ·
  by_cases u0:c=[];·subst u0;refine bq (I:=fun i s=>s=(([]:List Int),(1:Int),())) (m:=0) rfl (by decide) (fun i s w=>by omega) ?_;rintro s rfl;exact av (cE (by rw[aJ];show(([]:List Int).length:Int)≤1;decide)) ⟨_,rfl,.nil,fun e=>mg⟩
  have e9:1≤c.length:=by cases c with
   |nil=>exact absurd rfl u0
   |cons a l=>show 1≤l.length+1;omega
  refine bq (I:=fun i s=>∃d,s=(d++c.drop (i+1),((i+1:Nat):Int),())∧Oa zl h c (i+1) d) (m:=c.length-1) ⟨c.take 1,by rw[dE];rfl,?_,fun e=>mg,by rw[aR];omega⟩ (by omega) ?_ ?_
  ·cases c with
   |nil=>exact absurd rfl u0
   |cons a l=>exact qE ..
  ·
   rintro n s b9⟨d,rfl,t⟩;have u9:=t.l;generalize w:n+1=i at t u9;have g0:i<c.length:=by omega
   have r0:c[i]?=some c[i]:=G g0;have w0:c.drop i=c[i]::c.drop (i+1):=d8 g0;generalize c[i]=v at r0 w0;rw[w0];generalize c.drop (i+1)=f at w0;have f9:i+f.length+1=c.length:=by have:=eP List.length w0;rw[cB,bp]at this;omega
   have o9:=f0 v (Y r0);have p9:∀a,a∈d→Kp zl a:=fun a t0=>f0 a (em ((t.m a).1 t0));refine bg (eJ (by rw[aJ];show(i:Int)<(c.length:Int);omega)) ?_;refine aK (P:=fun s:List Int×Unit=>∃g,s.1=g++f∧Oa zl h c (i+1) g) (aK (P:=fun s:List Int×Unit=>∃g,s.1=g++f∧Oa zl h c (i+1) g) (pp (I:=fun k(s:List Int×Int×Unit)=>∃j:Nat,s=(d.take j++v::(d.drop j++f),(j:Int),())∧j≤k∧j≤i∧∀q a,j≤q→d[q]?=some a→key zl h v<key zl h a) (k:=i) (n:=1000000000) ⟨i,by rw[dp (by omega),ed (by omega)];rfl,au _,au _,fun q a l9 z0=>by have:=(aj.1 z0).1;omega⟩ (by omega) ?_) fun s v9=>aV v9) ?_
   ·
    rintro k s⟨j,rfl,d9,q9,h0⟩;have c0:(∀a,j≠0→d[j-1]?=some a→¬key zl h v<key zl h a)→∀{n0 m0:Type}{A:n0→Prop}{B:m0→Prop},Ok (ao (some (Sum.inl (d.take j++v::(d.drop j++f),()))):Option (Sum n0 (Sum (List Int×Unit) m0))) (gS A (gS (fun s:List Int×Unit=>∃g,s.1=g++f∧Oa zl h c (i+1) g) B)):=fun n9 n0 m0 A B=>⟨_,rfl,d.take j++v::d.drop j,by show _++v::(_++_)=_;rw[cn];rfl,Sp t b0 r0 q9 n9 h0⟩;have x9:∀n:Nat,(0:Int)<(n:Int)→0<n:=fun n h=>by omega
    refine aL (fun p=>?_) fun p=>c0 fun a t0=>absurd (eY p) (by simp only;omega);have p:0<j:=x9 j (kj p);have C:d[j-1]?=some (d[j-1]'(by omega)):=G (by omega);have s0:d.drop (j-1)=d[j-1]'(by omega)::d.drop (j-1+1):=d8 (by omega);generalize d[j-1]'(by omega)=b at C s0;rw[jN p]at s0;have t9:d.take j=d.take (j-1)++[b]:=by have:=dw C;rw[jN p]at this;exact this.symm
    have x0:(d.take (j-1)).length=j-1:=by rw[aR];omega
    have j0:d.take j++v::(d.drop j++f)=d.take (j-1)++b::v::(d.drop j++f):=by rw[t9,cn];rfl
    rw[j0];generalize y:d.take (j-1)++b::v::(d.drop j++f)=m;have g9:m.length=c.length:=by rw[←y,ax,x0,bp,bp,ax,cB];omega
    have v0:m[j]?=some v:=by rw[←y,bA (by omega),x0,show j-(j-1)=1 by omega];rfl
    have l0:m[j-1]?=some b:=by rw[←y,bA (by omega),x0,dW];rfl
    have x:=uI p (by omega);have p0:aU m (j:Int)=true:=eu (by omega);have d0:aU m (bb .i64 (j:Int) 1)=true:=by rw[x];exact eu (by omega)
    have k0:az m (bb .i64 (j:Int) 1)=some b:=by rw[x];exact aI l0
    refine aq p0 (aa (aI v0) (aq d0 (aa k0 ?_)));refine W4 o o9 (p9 b (Y C)) (f:=fun _ _ _=>none) (g:=fun _ _ _=>none) (A:=none) (B:=none) (C:=none) (fun m9=>?_) fun r9=>?_
    ·
     have z9:aU (aG m (j:Int) b) (bb .i64 (j:Int) 1)=true:=by rw[x];exact eu (by rw[jt];omega)
     have y9:az (aG m (j:Int) b) (bb .i64 (j:Int) 1)=some b:=by rw[x,iu];exact aI (by rw[bz (by omega)];exact l0)
     refine aq d0 (aa k0 (aq p0 (aa (aI v0) (aq p0 (aa (aI v0) (aq z9 (aa y9 ⟨_,rfl,by omega,j-1,?_,by omega,by omega,fun q a l9 z0=>?_⟩)))))));·show(aG (aG m (j:Int) b) (bb .i64 (j:Int) 1) v,bb .i64 (j:Int) 1,())=_;rw[x,iu,iu,←y];have:=OU b v (d.drop j++f) (d.take (j-1));rw[x0,jN p]at this;rw[this,s0];rfl
     ·
      by_cases e:q=j-1;·subst e;rw[C]at z0;cases z0;exact m9
      ·exact h0 q a (by omega) z0
    ·rw[←y,←j0];exact c0 fun a t0 i0=>by rw[C]at i0;cases i0;exact r9
   ·rintro⟨k9,a9⟩⟨g,o0,i9⟩;have o0:k9=g++f:=o0;subst o0;refine aV ⟨g,?_,i9⟩;show(g++f,ah .i64 (i:Int) 1,())=_;rw[bH (by omega)]
  ·
   rintro s⟨d,rfl,t⟩;have w9:c.length-1+1=c.length:=by omega
   rw[w9]at t⊢;refine av (cU (l:=c)) ⟨_,rfl,?_⟩;show(d++c.drop c.length).Pairwise _∧∀e,e∈d++c.drop c.length↔_;rw[List.drop_length,bf];exact⟨t.p,fun e=>by rw[t.m,bN]⟩
 ·
  rintro⟨l,u⟩e0;refine aK (P:=fun s:List Int×Unit=>s.1=l) (bq (I:=fun i s=>s=(l,(20:Int),())) (m:=0) rfl (by decide) (fun i s w=>by omega) ?_) ?_;·rintro s rfl;exact av (cE (by rw[aJ];show(c.length:Int)≤20;omega)) ⟨_,rfl,rfl⟩
  ·rintro⟨j9,u6⟩y0;have y0:j9=l:=y0;subst y0;exact ab e0
end Go.Bo
set_option maxHeartbeats 4000000
namespace Go.Bo
open Go Go.Ls
def Av(zl:List Zn)(n:Int):Prop:=∃z,z∈zl/\(z.1:Int)=n
theorem Md{zl:List Zn}(m:zl.length≤6)(n:Int):∃b,xa (zl,n,())=some (b,())∧(b=true↔Av zl n):=by
 have l:Ok (xa (zl,n,())) fun r=>r.1=true↔Av zl n:=by
  unfold xa;refine aK (P:=fun _=>¬Av zl n) (bq (I:=fun i s=>s=((i:Int),())∧∀z,z∈zl.take i→(z.1:Int)≠n) (m:=zl.length) ⟨rfl,fun z c=>by cases c⟩ (by omega) ?_ ?_) fun _ k=>ab ⟨fun h=>(by cases h),fun h=>absurd h k⟩
  ·
   rintro i s j⟨rfl,c⟩;have d:zl[i]?=some zl[i]:=G j;generalize zl[i]=z at d;refine bg (cD (l:=zl) j) (aa (aI d) (aL (fun e=>bo (bo (ab ⟨fun _=>⟨z,Y d,kM e⟩,fun _=>rfl⟩))) fun e=>aV ⟨by show(ah .i64 (i:Int) 1,())=_;rw[bH (by omega)],fun y a=>?_⟩));rw[←dw d]at a;rcases bR.1 a with a|a;·exact c y a
   ·rcases cq.1 a with rfl;exact mj e
  ·rintro s⟨rfl,c⟩;rw[bN]at c;exact av (cU (l:=zl)) ⟨_,rfl,fun⟨z,f,g⟩=>c z f g⟩
 obtain⟨⟨b,u⟩,f,g⟩:=l;exact⟨b,f,g⟩
theorem Uv{zl:List Zn}{h:Int}(o:ZO zl h):Me (zl,())=some (0,()):=by have g:=o.l;refine cA ?_;unfold Me;refine av (cE (by rw[aJ];show(zl.length:Int)<=6;omega)) (cw (λi=>((i:Int),())) zl.length rfl (by omega) (λi d=>?_) (av (cU (l:=zl)) (bC (ab rfl))) (ab rfl));have b:zl[i]?=some zl[i]:=G d;generalize zl[i]=z at b;obtain⟨⟨e,f⟩,k⟩:=o.n z (Y b);have a:=aI b;have c:Ok (some (Sum.inl (ah .i64 (i:Int) 1,())):Option (Sum (Int×Unit) (Sum Unit RI))) λr=>r= .inl (((i+1:Nat):Int),()):=ab (by rw[bH (by omega)]);refine bg (cD (l:=zl) d) (aa a (av (cE e) (aa a (av (kT f) (aa a (aL (λq=>aa a (av ?_ c)) λ_=>c))))));have q:(z.2.1:Int)≠0:=iX q;rw[gI,ar (k.resolve_left q)];rfl
structure vQ (zl : List Zn) (h : Int) (d : Nat) (l : List Int) : Prop where
  len : l.length ≤ 2 * d
  p : l.Pairwise (fun x y => kz h x < kz h y)
  m : ∀ n, n ∈ l ↔ Av zl n ∧ h - d < n ∧ n < h + d
theorem SM{zl:List Zn}{h:Int}{d:Nat}{l:List Int}(f:vQ zl h d l){n:Int}{m:List Int}(g:m=[]∨m=[h-d])(r:m=[h-d]↔Av zl (h-d)){q:List Int}(i:q=[]∨q=[h+d])(k:q=[h+d]↔0<d∧Av zl (h+d)):vQ zl h (d+1) (l++m++q):=by
 have s:∀x,x∈l→kz h x<2*(d:Int):=fun x b=>by have:=((f.m x).1 b).2;unfold kz;split<;>omega
 have p:∀x,x∈m→x=h-d:=fun x b=>by rcases g with e|e<;>rw[e]at b<;>simp at b;exact b
 have t:∀x,x∈q→x=h+d∧0<d:=fun x b=>by
  rcases i with e|e;·rw[e]at b;cases b
  ·rw[e]at b;exact⟨by simpa using b,(k.1 e).1⟩
 have u:∀{v:Int→Int→Prop}{w:List Int}{a:Int},w=[]∨w=[a]→w.Pairwise v:=fun z0=>by rcases z0 with e|e<;>rw[e]<;>simp
 have z:∀y,y=h-d→2*(d:Int)≤kz h y:=fun y e=>by subst e;unfold kz;split<;>omega
 have A:∀y,y=h+d→kz h y=2*(d:Int)+1:=fun y e=>by subst e;unfold kz;rw[aB (by omega)];omega
 have B:0<d→∀y,y=h-d→kz h y=2*(d:Int):=fun u0 y e=>by subst e;unfold kz;rw[aA (by omega)];omega
 refine⟨?_,gl.2 ⟨gl.2 ⟨f.p,u g,fun x b y o=>?_⟩,u i,fun x b y o=>?_⟩,fun n=>?_⟩
 ·
  have x0:=f.len;have w0:m.length≤1:=by rcases g with e|e<;>rw[e]<;>simp
  have v0:q.length≤1:=by rcases i with e|e<;>rw[e]<;>simp
  rw[ax,ax];omega
 ·have:=s x b;have:=z y (p y o);omega
 ·
  obtain⟨C,j⟩:=t y o;have:=A y C;rcases bR.1 b with b|b;·have:=s x b;omega
  ·have:=B j x (p x b);omega
 ·
  rw[bR,bR,f.m n];constructor
  ·
   rintro((⟨c,y0⟩|c)|c);·exact⟨c,by omega⟩
   ·
    have e:=p n c;subst e
    exact⟨r.1 (by
     rcases g with e|e;·rw[e]at c;cases c
     ·exact e),by omega⟩
   ·
    have e:=(t n c).1;subst e
    exact⟨(k.1 (by
     rcases i with e|e;·rw[e]at c;cases c
     ·exact e)).2,by omega⟩
  ·
   rintro⟨c,y0⟩;by_cases e:h-(d:Int)<n∧n<h+d;·exact .inl (.inl ⟨c,e⟩)
   ·
    by_cases j:n=h-d;·subst j;exact .inl (.inr (by rw[r.2 c];exact bX))
    ·
     have D:n=h+d:=by omega
     subst D;exact .inr (by rw[k.2 ⟨by omega,c⟩];exact bX)
theorem Ux{zl:List Zn}{h:Int}(o:ZO zl h):Ok (Ml (zl,h,())) fun r=>r.2.1=0∧vQ zl h 4 r.1:=by
 have v:=o.l;have w:=o.h;unfold Ml;refine aa (Uv o) (av rfl (av (cE w.1) (av (kT w.2) (aK (P:=fun s=>vQ zl h 4 s.1) (bq (I:=fun d s=>s.2.1=(d:Int)∧vQ zl h d s.1) (m:=4) ⟨rfl,au _,.nil,fun n=>⟨fun q=>(by cases q),fun q=>by have:=q.2;omega⟩⟩ (by decide) ?_ ?_) fun r u0=>ab ⟨rfl,u0⟩))))
 ·
  rintro d⟨l,c,u⟩q0⟨e,b⟩;have e:c=(d:Int):=e;subst e;have b:vQ zl h d l:=b;have p0:=b.len;have y0:ah .i64 (d:Int) 1=((d+1:Nat):Int):=bH (by omega);have p:bb .i64 h (d:Int)=h-d:=fa (by omega) (by omega);have z0:ah .i64 h (d:Int)=h+d:=cz (by omega) (by omega);obtain⟨k,x0,y⟩:=Md v (h-d);obtain⟨D,w0,z⟩:=Md v (h+d);have t:∀m q,m=[]∨m=[h-(d:Int)]→(m=[h-(d:Int)]↔Av zl (h-d))→q=[]∨q=[h+(d:Int)]→(q=[h+(d:Int)]↔0<d∧Av zl (h+d))→Ok (some (.inl (l++m++q,ah .i64 (d:Int) 1,())):Option (Sum (List Int×Int×Unit) (Sum (List Int×Unit) (List Int×Int×Unit)))) (gS (fun s=>s.2.1=((d+1:Nat):Int)∧vQ zl h (d+1) s.1) (gS (fun s=>vQ zl h 4 s.1) fun r=>r.2.1=0∧vQ zl h 4 r.1)):=fun m q g i t0 s0=>aV ⟨by rw[←y0],SM b (n:=0) g i t0 s0⟩;have B:∀(l:List Int)(x:Int),l.length≤100→a4 l [x] 8=true:=fun l x b=>O6 (by omega)
  have C:∀m,m=[]∨m=[h-(d:Int)]→(m=[h-(d:Int)]↔Av zl (h-d))→m.length≤1→∀{f:List Int},f=l++m→Ok (ad (ay 0 (d:Int)) (am (xa (zl,ah .i64 h (d:Int),())) fun r0=>ad r0.1 (aC (a4 f [ah .i64 h (d:Int)] 8) (some (.inl (aX f [ah .i64 h (d:Int)],ah .i64 (d:Int) 1,())))) (some (.inl (f,ah .i64 (d:Int) 1,())))) (some (.inl (f,ah .i64 (d:Int) 1,()))):Option (Sum (List Int×Int×Unit) (Sum (List Int×Unit) (List Int×Int×Unit)))) (gS (fun s=>s.2.1=((d+1:Nat):Int)∧vQ zl h (d+1) s.1) (gS (fun s=>vQ zl h 4 s.1) fun r=>r.2.1=0∧vQ zl h 4 r.1)):=by
   rintro m g i o0 f rfl;have A:¬(0<d∧Av zl (h+d))→Ok (some (.inl (l++m,ah .i64 (d:Int) 1,())):Option (Sum (List Int×Int×Unit) (Sum (List Int×Unit) (List Int×Int×Unit)))) (gS (fun s=>s.2.1=((d+1:Nat):Int)∧vQ zl h (d+1) s.1) (gS (fun s=>vQ zl h 4 s.1) fun r=>r.2.1=0∧vQ zl h 4 r.1)):=fun v0=>by have:=t m [] g i (.inl rfl) ⟨fun q=>(by cases q),fun q=>absurd q v0⟩;rw[bf]at this;exact this
   rw[z0];refine aL (fun j=>aa w0 (aL (fun a=>aq (B _ _ (by rw[ax];omega)) ?_) fun a=>A fun q=>?_)) fun j=>A fun q=>?_;·exact t m [h+(d:Int)] g i (.inr rfl) ⟨fun _=>⟨by have:=kj j;omega,z.1 a⟩,fun _=>rfl⟩
   ·have a:D=false:=a;rw[z.2 q.2]at a;cases a
   ·have:=eY j;omega
  refine bg (eJ (by show(d:Int)<4;omega)) (aa (by show xa (zl,bb .i64 h (d:Int),())=_;rw[p];exact x0) (aL (fun a=>?_) fun a=>?_));·have a:k=true:=a;refine aq (by show a4 l [bb .i64 h (d:Int)] 8=true;exact B _ _ (by omega)) (C [h-(d:Int)] (.inr rfl) ⟨fun _=>y.1 a,fun _=>rfl⟩ (au 1) (by show l++[bb .i64 h (d:Int)]=_;rw[p]))
  ·have a:k=false:=a;exact C [] (.inl rfl) ⟨fun q=>(by cases q),fun q=>by rw[y.2 q]at a;cases a⟩ (by decide) (bf _).symm
 ·rintro⟨l,c,u⟩⟨e,b⟩;have e:c=((4:Nat):Int):=e;subst e;exact av (cE (by show(4:Int)≤((4:Nat):Int);decide)) ⟨_,rfl,b⟩
structure OM (zl : List Zn) (h : Int) (N : List Int) (i : Nat) (O : List Int) : Prop where
  len : O.length ≤ 6 * i
  p : O.Pairwise (Rk zl h)
  m : ∀ e, e ∈ O ↔ Kp zl e ∧ EO zl e ∈ N.take i
structure OL (zl : List Zn) (h : Int) (O : List Int) (n : Int) (b k : Nat) (M : List Int) : Prop where
  len : M.length ≤ b + k
  p : M.Pairwise (Rk zl h)
  m : ∀ e, e ∈ M ↔ e ∈ O ∨ (Kp zl e ∧ EO zl e = n ∧ e < (k : Int))
theorem Pf{zl:List Zn}{h n:Int}{g M:List Int}{b k:Nat}{z:Zn}(w:OL zl h g n b k M)(m:zl[k]?=some z)(j:¬((z.1:Int)=n/\(z.2.1:Int)=0)):OL zl h g n b (k+1) M:=by
 refine⟨pQ w.len,w.p,λe=>(w.m e).trans ⟨λq=>q.imp id λ⟨a,b,c⟩=>⟨a,b,by omega⟩,λq=>q.imp id λ⟨a,b,c⟩=>⟨a,b,?_⟩⟩⟩;obtain⟨y,o,f,p⟩:=a;have l:=(AZ o f).2;rcases nX e (k:Int)with d|d;.exact d
 .
  have i:e=(k:Int):=by omega
  subst i;rw[cY,m]at f;cases f;exact absurd ⟨l.symm.trans b,p⟩ j
theorem SF{zl:List Zn}{h n:Int}{g M f:List Int}{b i k:Nat}{z:Zn}(w:OL zl h g n b k M)(r:zl[k]?=some z)(t:(z.1:Int)=n)(u:(z.2.1:Int)=0)(A:OM zl h f i g)(s:f.Pairwise λx y=>kz h x<kz h y)(q:f[i]?=some n):OL zl h g n b (k+1) (M++[(k:Int)]):=by
 have D:Kp zl (k:Int):=⟨z,by omega,by rw[cY];exact r,u⟩;have m:EO zl (k:Int)=n:=(AZ (e:=(k:Int)) (by omega) (by rw[cY];exact r)).2.trans t;refine⟨by rw[ax];exact Nat.succ_le_succ w.len,gl.2 ⟨w.p,by simp,λx B y C=>?_⟩,λe=>?_⟩
 .
  rcases cq.1 C with rfl;rcases(w.m x).1 B with a|⟨a,c,o⟩
  .
   obtain⟨_,c⟩:=(A.m x).1 a;obtain⟨j,l⟩:=bj c;have v:=(aj.1 q).1;have p:j<i:=by have:=(aj.1 l).1;rw[aR]at this;omega
   rw[eU,aA p]at l;have:=gV.1 s j i (by omega) v p;rw[(aj.1 l).2,(aj.1 q).2]at this;left;unfold key;rw[m];exact this
  .right;unfold key;rw[m,c];exact⟨rfl,o⟩
 .
  rw[bR,w.m e,cq];constructor
  .
   rintro((a|⟨a,c,o⟩)|rfl);.exact .inl a
   .exact .inr ⟨a,c,by omega⟩
   .exact .inr ⟨D,m,by omega⟩
  .
   rintro(a|⟨a,c,o⟩);.exact .inl (.inl a)
   .
    rcases nX e (k:Int)with d|d;.exact .inl (.inr ⟨a,c,d⟩)
    .exact .inr (by omega)
theorem PK{zl:List Zn}{e:Int}(h:Kp zl e):e<(zl.length:Int):=by obtain⟨y,b,a,_⟩:=h;have:=(aj.1 a).1;omega
theorem SG{zl:List Zn}{h n:Int}{d M c:List Int}{i k:Nat}(w:OL zl h d n (6*i) k M)(f:k=zl.length)(l:zl.length<=6)(g:OM zl h c i d)(j:c[i]?=some n):OM zl h c (i+1) M:=by
 refine⟨by have:=w.len;omega,w.p,λe=>(w.m e).trans ?_⟩;rw[<-dw j,bR,cq,g.m e];constructor
 .
  rintro(⟨a,b⟩|⟨a,b,_⟩);.exact⟨a,.inl b⟩
  .exact⟨a,.inr b⟩
 .
  rintro⟨a,b|b⟩;.exact .inl ⟨a,b⟩
  .exact .inr ⟨a,b,by rw[f];exact PK a⟩
theorem Yt{i k n z:Nat}(h1:i<n)(h2:n<=8)(a:k<z)(b:z<=6):6*i+k<=1000:=by omega
theorem UB{zl:List Zn}{h:Int}(o:ZO zl h):Ok (H6 (zl,h,true,())) fun r=>r.1.Pairwise (Rk zl h)∧∀e,e∈r.1↔e∈tq zl zl.length:=by
 have t0:=o.l;obtain⟨e0,d0,i0⟩:=AY (zl:=zl) zl.length (au _);unfold H6;refine aZ (Ux o) fun r x0=>av (by rw[x0.1];rfl) ?_;obtain⟨d,e,u⟩:=r;obtain⟨v0,m0,u0⟩:=x0.2;have v0:d.length≤2*4:=v0;have u0:∀n:Int,n∈d↔Av zl n∧h-4<n∧n<h+4:=u0;clear x0;refine aK (P:=fun s:List Int×Unit=>OM zl h d d.length s.1) (bq (I:=fun i s=>s.2.1=(i:Int)∧OM zl h d i s.1) (m:=d.length) ⟨rfl,au _,.nil,fun e=>⟨fun q=>(by cases q),fun q=>by cases q.2⟩⟩ (by omega) ?_ ?_) ?_
 ·
  rintro i⟨j,c,u⟩x⟨l,f⟩;have l:c=(i:Int):=l;subst l;have f:OM zl h d i j:=f;have l0:=f.len;have A:d[i]?=some d[i]:=G x;generalize d[i]=n at A;have n0:ah .i64 (i:Int) 1=((i+1:Nat):Int):=bH (by omega);refine bg (cD (l:=d) x) (aK (P:=fun s:List Int×Unit=>OM zl h d (i+1) s.1) ?_ fun s w0=>aV ⟨by rw[←n0],w0⟩);refine aK (P:=fun s:List Int×Unit=>s.1=j) (bq (I:=fun i s=>s=(j,(0:Int),())) (m:=0) rfl (by decide) (fun i s x=>by omega) ?_) ?_
  ·
   rintro s rfl;by_cases p:0<zl.length;·exact bg (eJ (by rw[aJ];show(0:Int)<(zl.length:Int);omega)) (av rfl ⟨_,rfl,rfl⟩)
   ·exact av (cE (by rw[aJ];show(zl.length:Int)≤0;omega)) ⟨_,rfl,rfl⟩
  rintro⟨B,f0⟩D;have D:B=j:=D;subst D;refine aK (P:=fun s:List Int×Unit=>OM zl h d (i+1) s.1) (bq (I:=fun k s=>s.2.1=(k:Int)∧OL zl h B n (6*i) k s.1) (m:=zl.length) ⟨rfl,aM l0 (Nat.le_add_right _ _),f.p,fun e=>⟨fun q=> .inl q,fun q=>q.elim id fun⟨⟨_,w,_⟩,_,v⟩=>by omega⟩⟩ (by omega) ?_ ?_) fun s w0=>aV w0;·rintro k⟨t,c,u⟩z0⟨m,g⟩;have m:c=(k:Int):=m;subst m;have g:OL zl h B n (6*i) k t:=g;have k0:=g.len;have p:zl[k]?=some zl[k]:=G z0;generalize zl[k]=z at p;have C:ah .i64 (k:Int) 1=((k+1:Nat):Int):=bH (by omega);have s0:=aI p;have j0:t.length≤1000:=aM k0 (Yt x v0 z0 t0);exact bg (cD (l:=zl) z0) (aa s0 (aa (aI A) (aL (fun a=>aa s0 (aL (fun b=>aq (O6 (l:=t) j0) (aV ⟨by rw[←C],SF g p (kM a) (kM b) f m0 A⟩)) fun b=>aV ⟨by rw[←C],Pf g p fun q=>absurd q.2 (mj b)⟩)) fun a=>aV ⟨by rw[←C],Pf g p fun q=>absurd q.1 (mj a)⟩)))
  ·rintro⟨t,c,u⟩⟨m,g⟩;have m:c=((zl.length:Nat):Int):=m;subst m;exact av (cU (l:=zl)) ⟨_,rfl,SG g rfl t0 f A⟩
 ·rintro⟨j,c,u⟩⟨l,f⟩;have l:c=((d.length:Nat):Int):=l;subst l;exact av (cU (l:=d)) ⟨_,rfl,f⟩
 rintro⟨j,u⟩f;have f:OM zl h d d.length j:=f;refine ab ⟨f.p,fun e=>(f.m e).trans ?_⟩;rw[i0,bN];refine⟨fun q=>⟨q.1,PK q.1⟩,fun q=>⟨q.1,?_⟩⟩;obtain⟨y,h0,o0,_⟩:=q.1;have y0:=(AZ h0 o0).2;have r0:=Y o0;obtain⟨⟨q0,p0⟩,_⟩:=o.n y r0;have g0:=o.h;have q0:0≤EO zl e:=by rw[y0];exact q0
 have p0:EO zl e<4:=by rw[y0];exact p0
 exact(u0 (EO zl e)).2 ⟨⟨y,r0,y0.symm⟩,by omega,by omega⟩
theorem Wm{zl:List Zn}{h:Int}(o:ZO zl h):∃l e a,B1 (zl,h,true,())=some (l,e,())/\H6 (zl,h,true,())=some (l,a,())/\l.length<=6/\∀x,x∈l->∃i:Nat,x=(i:Int)/\i<zl.length:=by obtain⟨⟨l,e,u⟩,b,k,c⟩:=UD o;obtain⟨⟨m,a,v⟩,f,g,j⟩:=UB o;have:m=l:=CM O7 g k λx=>(j x).trans (c x).symm;subst this;obtain⟨⟨t,s,w⟩,d,p,_⟩:=Ii zl h true;rw[b]at d;cases d;refine⟨m,e,a,b,f,p,λx n=>?_⟩;obtain⟨y,q,r,_⟩:=((AY (zl:=zl) zl.length (au _)).2.2 x).1 ((c x).1 n)|>.1;exact⟨x.toNat,(eG q).symm,(aj.1 r).1⟩
end Go.Bo
set_option maxHeartbeats 4000000
namespace Go.Bo
open Go Go.Ls
theorem W6{hg:Int}{l:List Zn}{ls:List (List Int)}{s:Nat->Int}(k:∀(i:Nat)(z:Zn),l[i]?=some z->zs z=s i/\s (i+1)=s i+zc z)(o:∀z,z∈l->1<=zc z)(j:ls.length=l.length)(ok:∀(i:Nat)(z:Zn)(m:List Int),l[i]?=some z->ls[i]?=some m->m.Nodup/\(m.length:Int)<=hg/\∀f,f∈m->zs z<=f/\f<zs z+zc z/\¬cv z f):CG hg l ls:=by
 refine⟨j,λi z m d c=>(ok i z m d c).2,?_⟩
 have q:∀i,i<=ls.length->((ls.take i).flatten).Nodup/\∀f,f∈(ls.take i).flatten->f<s i:=by
  intro i
  induction i with
   |zero=>exactλ_=>⟨sK,λf a=>by cases a⟩
   |succ i p=>
   intro w;obtain⟨d,c⟩:=p (by omega);have g:ls[i]?=some (ls[i]'(by omega)):=G (by omega);have b:l[i]?=some (l[i]'(by omega)):=G (by omega);generalize ls[i]'(by omega)=m at g;generalize l[i]'(by omega)=z at b;obtain⟨t,u⟩:=k i z b;have v:=o z (Y b);obtain⟨r,_,h⟩:=ok i z m b g;rw[<-tK g];refine⟨jb.2 ⟨d,r,λx b y n e=>?_⟩,λf a=>?_⟩;.have:=c x b;have:=h y n;omega
   .
    rcases bR.1 a with a|a;.have:=c f a;omega
    .have:=h f a;omega
 have:=(q ls.length (au _)).1;rwa [bN]at this
section
variable{a:eK}{ls:List (List Int)}(h:VA a ls)
include h
theorem Py:∀m,m∈ls->m.Nodup:=(List.pairwise_flatten.1 h.cg.nd).1
theorem Eb{i:Nat}{z y:Zn}{m:List Int}(p:(cu a)[i]?=some z)(u:VZ y)(e:zs y=zs z/\zc y=zc z)(t:m.Nodup/\(m.length:Int)<=lT a/\∀f,f∈m->zs z<=f/\f<zs z+zc z/\¬cv y f):VA (aW a i y (aG (cK a) 0 (ls.set i m,()))) (ls.set i m):=by
 obtain⟨C,g,r⟩:=h.g;obtain⟨s,B,l⟩:=h.st;have k:=(aj.1 p).1
 have n:∀(j:Nat)(x:Zn),((cu a).set i y)[j]?=some x->zs x=s j/\s (j+1)=s j+zc x:=λj x b=>by
  by_cases c:j=i;.subst c;rw[be k]at b;cases b;rw[e.1,e.2];exact l j z p
  .rw[bz λq=>c q.symm]at b;exact l j x b
 have o:∀x,x∈(cu a).set i y->VZ x:=λx b=>by
  rcases cO b with b|rfl;.exact h.vz x b
  .exact u
 refine⟨⟨C,g,by show((cu a).set i y).length=_;rw[bx];exact r⟩,o,⟨s,B,n⟩,?_,?_⟩;.show(cK a).set 0 (ls.set i m,())=_::List.replicate ((kY a).length-1) (List.replicate ((cu a).set i y).length [],());rw[h.ca,bx];rfl
 .
  refine W6 (l:=(cu a).set i y) n (λx b=>(o x b).v.mW.pl.2.1) (by rw[bx,bx];exact h.cg.len) λj x w b d=>?_;by_cases c:j=i;.subst c;rw[be k]at b;rw[be (by rw[h.cg.len];exact k)]at d;cases b;cases d;rw[e.1,e.2];exact t
  .rw[bz λq=>c q.symm]at b d;obtain⟨v,A⟩:=h.cg.ok j x w b d;exact⟨Py h w (Y d),v,A⟩
end
theorem jQ{σ p β z ρ:Type}{f:σ->Option (Sum σ (Sum β ρ))}{g:p->Option (Sum p (Sum z ρ))}{I:Nat->σ->p->Prop}{R:ρ->Prop}{m:Nat}{b:β}{c:z}(w:∀i s t,i<m->I i s t->(∃n o,f s=some (.inl n)/\g t=some (.inl o)/\I (i+1) n o)\/∃r,f s=some (.inr (.inr r))/\g t=some (.inr (.inr r))/\R r)(v:∀s t,I m s t->f s=some (.inr (.inl b))/\g t=some (.inr (.inl c))):∀(k i d:Nat)(x:σ)(y:p),i+k=m->k<d->I i x y->i4 f d x=some (.inl b)/\i4 g d y=some (.inl c)\/∃r,i4 f d x=some (.inr r)/\i4 g d y=some (.inr r)/\R r
 |k,i,0,_,_,_,A,_=>by omega
 |0,i,d+1,x,y,l,_,u=>by have l:i=m:=l;subst l;obtain⟨e,j⟩:=v x y u;left;show aE (f x) (i4 f d)=_/\aE (g y) (i4 g d)=_;rw[e,j];exact⟨rfl,rfl⟩
 |k+1,i,d+1,x,y,l,A,u=>by
  show aE (f x) (i4 f d)=_/\aE (g y) (i4 g d)=_\/∃r,aE (f x) (i4 f d)=_/\aE (g y) (i4 g d)=_/\R r;rcases w i x y (by omega) u with⟨n,o,e,j,q⟩|⟨r,e,j,q⟩;.rw[e,j];exact jQ w v k (i+1) d n o (by omega) (by omega) q
  .right;rw[e,j];exact⟨r,rfl,rfl,q⟩
section
variable{α β σ τ:Type}{R:α->Prop}
def E2(o p:Option α)(R:α->Prop):Prop:=∃r,o=some r/\p=some r/\R r
theorem Fe{o:Option σ}{p:Option τ}{x:σ}{y:τ}{f:σ->Option α}{g:τ->Option α}(h1:o=some x)(h2:p=some y)(h:E2 (f x) (g y) R):E2 (am o f) (am p g) R:=by rw[h1,h2];exact h
theorem Qa{a b:Bool}{o p q w:Option α}(h1:a=false)(h2:b=false)(h:E2 p w R):E2 (ad a o p) (ad b q w) R:=by rw[h1,h2];exact h
theorem P9{k:Type}{f:σ->Option (Sum σ (Sum β α))}{g:τ->Option (Sum τ (Sum k α))}(I:Nat->σ->τ->Prop)(m:Nat){b:β}{c:k}{d M:Nat}{x:σ}{y:τ}{K:β->Option α}{L:k->Option α}(o:I 0 x y)(q:d=M)(v:m<d)(w:∀i s t,i<m->I i s t->(∃l n,f s=some (.inl l)/\g t=some (.inl n)/\I (i+1) l n)\/∃r,f s=some (.inr (.inr r))/\g t=some (.inr (.inr r))/\R r)(u:∀s t,I m s t->f s=some (.inr (.inl b))/\g t=some (.inr (.inl c)))(h:E2 (K b) (L c) R):E2 (aE (aF f d x) K) (aE (aF g M y) L) R:=by
 subst q;rw[hN,hN];rcases jQ w u m 0 d x y (by omega) v o with⟨e,j⟩|⟨r,e,j,p⟩;.rw[e,j];exact h
 .rw[e,j];exact⟨r,rfl,rfl,p⟩
end
end Go.Bo
set_option maxHeartbeats 4000000
namespace Go.Bo
open Go Go.Ls
def zA:eK:=([],0,0,[],[],())
def Sam(a b:eK):Prop:=kY b=kY a/\(cu b).length=(cu a).length
theorem Gf{l:List Int}(h:l≠[]):∃m f,l=m++[f]:=⟨l.dropLast,l.getLast h,(List.dropLast_concat_getLast h).symm⟩
section
variable{a:eK}{ls:List (List Int)}(h:VA a ls){i:Nat}{z:Zn}(hz:(cu a)[i]?=some z){l0:List Int}(hi:ls[i]?=some l0)
include h hz hi
theorem X8(s:l0=[]->¬QU z):∃(b:eK)(r:D (.ai de cQ))(m:Nat)(n:List (List Int))(l:List Int)(f:Int),(∃i0,VA r.1 i0)/\Sam a r.1/\r=((b.1,b.2.1,b.2.2.1,cu b,aG (cK b) 0 (n.set i l,()),()),f,0,())/\VA b n/\n[i]?=some (l++[f])/\(l0≠[]/\b=a\/l0=[]/\Jf a (i:Int) 0=some (b,true,())/\n=ls.set i (wl z m).reverse/\b=aW a i (wz z m) (aG (cK a) 0 (n,()))/\BP ((ls,()),(i:Int),wl z m,())=some ((n,()),0,())/\∀β,Jg (β:=β) (i:Int) a=some (.inl (aW a i (wz z m) (cK a),wl z m,()))):=by
 have x0:=h.vz z (Y hz);obtain⟨r9,g,w9⟩:=h.g;by_cases j:l0=[]
 .
  obtain⟨m,u9,g0,w,f0,z0,b0,_⟩:=Fa (β:=Unit) h hz hi j (s j)
  have A:∀β,Jg (β:=β) (i:Int) a=some (.inl (aW a i (wz z m) (cK a),wl z m,())):=λβ=>by
   obtain⟨h0,_,_,u0,_,_,_,A⟩:=Fa (β:=β) h hz hi j (s j);obtain⟨v9,_,_,s9,_,_,t9,_⟩:=Fa (β:=β) h hz hi j (s j)
   have:h0=m:=by
    have q:∀{p q:Nat},Wk z (ns a).toNat p->Wk z (ns a).toNat q->p<=q:=λ{p q}u v=>by
     rcases v.e with e|e;.rw[e];exact u.le
     .refine Nat.le_of_not_lt λn0=>?_;have j0:=u.s q n0;obtain⟨_,⟨r,v0,c0⟩,_⟩:=e;rw[j0.p]at v0;cases v0;cases c0
    exact Nat.le_antisymm (q u0 w) (q w u0)
   subst this;exact A
  subst j;obtain⟨B,C,s0,y9,r0⟩:=OA x0 w m (au _);have y:=rF z m;have k0:(wl z m).reverse≠[]:=λe=>by have:=eP List.length e;rw[eg,y]at this;have:m=0:=this;omega
  obtain⟨l,f,k⟩:=Gf k0;have q0:=(aj.1 hi).1;have w0:∀x,x∈(wl z m).reverse->zs z<=x/\x<zs z+zc z/\¬cv (wz z m) x:=λx d=>by have d:=List.mem_reverse.1 d;have:=z0 x d;exact⟨this.1,this.2.1,λc=>((r0 x).1 c).2 d⟩
  have z9:=g.bh;have x9:(ns a).toNat<=(lT a).toNat:=by omega
  have y0:((wl z m).reverse.length:Int)<=lT a:=by rw[eg,y];have:=w.le;omega
  have t:(wl z m).reverse.Nodup:=List.pairwise_reverse.2 (s0.imp λq=>q.symm);have o0:∀x,x∈l->x∈(wl z m).reverse:=λx d=>by rw[k];exact eo _ d
  have p0:(l.length:Int)<=lT a:=by rw[k,ax]at y0;omega
  have a0:=Eb h hz B C ⟨t,y0,w0⟩;have o:=Eb h hz B C (m:=l) ⟨by rw[k]at t;exact(jb.1 t).1,p0,λx d=>w0 x (o0 x d)⟩;refine⟨_,_,m,_,l,f,⟨ls.set i l,?_⟩,?_,rfl,a0,?_,.inr ⟨rfl,b0,rfl,rfl,?_,A⟩⟩
  .
   have e:aW a i (wz z m) (aG (cK a) 0 (ls.set i l,()))=((aW a i (wz z m) (aG (cK a) 0 (ls.set i (wl z m).reverse,()))).1,(aW a i (wz z m) (aG (cK a) 0 (ls.set i (wl z m).reverse,()))).2.1,(aW a i (wz z m) (aG (cK a) 0 (ls.set i (wl z m).reverse,()))).2.2.1,cu (aW a i (wz z m) (aG (cK a) 0 (ls.set i (wl z m).reverse,()))),aG (cK (aW a i (wz z m) (aG (cK a) 0 (ls.set i (wl z m).reverse,())))) 0 ((ls.set i (wl z m).reverse).set i l,()),()):=by show(_,_,_,_,(cK a).set 0 (ls.set i l,()),())=(_,_,_,_,((cK a).set 0 (ls.set i (wl z m).reverse,())).set 0 ((ls.set i (wl z m).reverse).set i l,()),());rw[eM,eM];rfl
   rw[<-e];exact o
  .exact⟨rfl,by show((cu a).set i (wz z m)).length=_;rw[bx]⟩
  .rw[be q0,k]
  .exact Uu h hi f0 (by rw[y];exact g0) λx d=>(z0 x d).2.2
 .obtain⟨l,f,k⟩:=Gf j;subst k;obtain⟨e0,d0⟩:=h.cg.ok i z _ hz hi;have m0:=Py h _ (Y hi);have o:=Eb h hz x0 ⟨rfl,rfl⟩ (m:=l) ⟨(jb.1 m0).1,by rw[ax]at e0;omega,λx d=>d0 x (eo _ d)⟩;have t0:(cu a).set i z=cu a:=ir hz;refine⟨a,_,0,ls,l,f,⟨ls.set i l,?_⟩,⟨rfl,rfl⟩,rfl,h,hi,.inl ⟨j,rfl⟩⟩;.unfold aW at o;rw[t0]at o;exact o
end
theorem HH{a:eK}{ls:List (List Int)}(h:VA a ls):E2 (yW (a,0,true,false,())) (MH (a,0,true,false,())) λr=>r.2.2.1=0->((∃l,VA r.1 l)/\Sam a r.1)/\0<=(r.2.1:Int)/\(r.2.1:Int)<=256:=by
 obtain⟨zl,g,e9⟩:=h.g;obtain⟨i9,z1,h9⟩:=CH h;obtain⟨l6,a9,_,l16,_⟩:=GR h;have nn:=g.nn;have o0:(kY a)[0]?=some ((kY a)[0]'(by omega)):=G (by omega);have g0:=g.nd _ (eF (by omega:0<(kY a).length));generalize(kY a)[0]'(by omega)=n at o0 g0;obtain⟨x,e,g9,q9,p9,o6,o9⟩:=Wm (VI i9 h.vz g0);have B:(cK a)[0]?=some (ls,()):=by rw[h.ca];rfl
 have y0:∀c:List sR,0<c.length->aU c 0=true:=λc q0=>eu (l:=c) (i:=0) q0;have u0:0<(cK a).length:=(aj.1 B).1;unfold yW MH;show E2 (HW _) (L1 _) _;unfold HW L1;refine Fe (MO h) (UC h) (Qa rfl rfl (Qa rfl rfl (Qa (kT (by show(0:Int)<ak (kY a);rw[aJ];omega)) (kT (by show(0:Int)<ak (kY a);rw[aJ];omega)) (Fe (aI (i:=0) o0) (aI (i:=0) o0) (Fe q9 p9 ?_)))));refine P9 (λi s t=>s=((zA,()),(i:Int),())/\t=((zA,()),(i:Int),())) x.length (b:=((zA,()),())) (c:=((zA,()),())) ?_ rfl (by show x.length<1000000000;omega) ?_ ?_ ?_;rotate_right;.exact⟨_,rfl,rfl,λq=>by cases q⟩
 .exact⟨rfl,rfl⟩
 .
  rintro i s t h0⟨rfl,rfl⟩;have z0:x[i]?=some x[i]:=G h0;obtain⟨q,x9,m0⟩:=o9 _ (Y z0);rw[x9]at z0;have hz:(cu a)[q]?=some (cu a)[q]:=G m0;generalize(cu a)[q]=z at hz;have D:ls[q]?=some (ls[q]'(by rw[h.cg.len];exact m0)):=G _;generalize ls[q]'(by rw[h.cg.len];exact m0)=l0 at D;obtain⟨C,d0,c0,s9⟩:=W3 h hz D;have s0:=cD (l:=x) h0;have i0:ah .i64 (i:Int) 1=((i+1:Nat):Int):=bH (by omega);by_cases f0:za z<C
  .
   right;obtain⟨b,r,m,r9,l,f,k9,j9,rfl,r0,j0,b0⟩:=X8 h hz D λe=>s9 e f0;have nn':(kY a).length<=1000:=by omega
   obtain⟨a0,z9⟩:=Sj r0 j0;have v:(cK b)[0]?=some (r9,()):=by rw[r0.ca];rfl
   have u:=y0 (cK b) (aj.1 v).1;refine⟨_,cA ?_,cA ?_,λ_=>⟨⟨k9,j9⟩,?_⟩⟩;rotate_right;.obtain⟨_,_,_,_,w⟩:=kO r0 r0.cg j0;have w:0<=f/\f<256:=(w f (cW _ (jE _))).2;exact⟨w.1,vm w.2⟩
   .
    refine bg s0 (aK (P:=λ_=>False) (aa (aI z0) (aa d0 (av (cE (by show(1:Int)<=C-za z;omega)) (aq (cj (by show 0+(kY a).length<=_;omega) (by decide)) (aq (cj (by show 0+(cu a).length<=_;omega) (by decide)) (aq (cj (by show 0+(cK a).length<=_;omega) (by decide)) (BC a (λy d=>(pe (h.vz y d).v.mW).mono (by decide)) (by omega) (BD _ (by show(cK a).length<=1000;omega) (λc q0=>?_) ?_)))))))) λ_ v9=>v9.elim);.obtain⟨j,u9⟩:=bj q0;have x0:=(tL h u9).1;have:=qn h x0;refine⟨by omega,λw k0=>?_⟩;obtain⟨t9,p0⟩:=bj k0;obtain⟨_,_,w9,_⟩:=kO h x0 p0;omega
    .
     rw[SH h];refine aq (y0 _ u0) (aa (aI (i:=0) B) (aa (aI D) ?_));rcases b0 with⟨A,v0⟩|⟨A,v0,_⟩
     .
      subst v0;refine av ?_ (aq u (aa (aI (i:=0) v) (aa a0 (av rfl (aq u (aa (aI (i:=0) v) ⟨_,rfl,?_⟩))))));.rw[gi,aJ];exact aQ λo=>A (hX (by omega))
      .rfl
     .subst A;refine bg rfl (aa v0 (av rfl (aq u (aa (aI (i:=0) v) (aa a0 (av rfl (aq u (aa (aI (i:=0) v) ⟨_,rfl,?_⟩))))))));rfl
   .
    refine bg s0 (aa (aI z0) (aa c0 (aa (aI hz) (bg (eJ (show za z<C from f0)) (aq (cj (by show 0+(kY a).length<=_;omega) (by decide)) ?_)))));refine cw (b:=((kY a,ns a,lT a,cu a,[],()),())) (λk=>((kY a,ns a,lT a,(cu a).take k,[],()),(k:Int),())) (cu a).length rfl (by omega) (λk w0=>?_) (av (cU (l:=cu a)) (bC (ab (by rw[bN])))) ?_
    .
     have d:(cu a)[k]?=some (cu a)[k]:=G w0;generalize(cu a)[k]=y at d;have e0:=h.vz y (Y d);have y9:=vp (vq e0).1;refine bg (cD (l:=cu a) w0) (aK (P:=λt=>t=((kY a,ns a,lT a,(cu a).take (k+1),[],()),())) (aa (aI d) (cw (b:=((y,()),())) (λp=>((y,()),(p:Int),())) 5 rfl (by decide) (λp c9=>?_) (av (kT (by show(4:Int)<((5:Nat):Int);decide)) (bC (ab rfl))) (aq (cj (by rw[aR];show min k (cu a).length+1<=_;omega) (by decide)) (aV ?_)))) ?_)
     .
      have n0:=y9.qB p (by omega);have b9:=y9.len p;have d9:p<y.2.2.2.2.2.1.length:=by have:=e0.l;have:y.2.2.2.2.2.1.length=5:=this;omega
      refine bg (kS (by show(p:Int)<=4;omega)) (aa (aI d) (aa n0 (aq (cj (by show 0+(Zs.fF (er y) p).length<=_;omega) (by decide)) (aq (ar (show(0:Int)<=(p:Int)by omega)) (aq (eJ (by show(p:Int)<5;omega)) (aa n0 (ab ?_)))))));show Sum.inl (((y.1,y.2.1,y.2.2.1,y.2.2.2.1,y.2.2.2.2.1,aG y.2.2.2.2.2.1 (p:Int) (Zs.fF (er y) p),()),()),ah .i64 (p:Int) 1,())=_;rw[iu,ir (show y.2.2.2.2.2.1[p]?=_ from n0),bH (by omega)]
     .show((kY a,ns a,lT a,(cu a).take k++[y],[],()),())=_;rw[dw d]
     .rintro t rfl;exact ab (by show Sum.inl (_,ah .i64 (k:Int) 1,())=_;rw[bH (by omega)])
    refine cw (b:=(a,())) (λk=>((kY a,ns a,lT a,cu a,(cK a).take k,()),(k:Int),())) (cK a).length rfl (by omega) (λk w0=>?_) (av (cU (l:=cK a)) (bC (ab (by rw[bN];rfl)))) ?_
    .
     have d:(cK a)[k]?=some (cK a)[k]:=G w0;generalize(cK a)[k]=c at d;have x0:=(tL h d).1;have f9:=qn h x0;refine bg (cD (l:=cK a) w0) (aa (aI d) (jp (JU (l:=c.1) (by omega) λw k0=>?_) (aq (cj (by rw[aR];show min k (cK a).length+1<=_;omega) (by decide)) (ab ?_))));.obtain⟨t9,p0⟩:=bj k0;obtain⟨_,_,w9,_⟩:=kO h x0 p0;omega
     .show Sum.inl ((_,_,_,_,(cK a).take k++[c],()),ah .i64 (k:Int) 1,())=_;rw[dw d,bH (by omega)]
    refine aq (y0 _ u0) (aa (aI (i:=0) B) (aa (aI D) ?_));rcases b0 with⟨A,v0⟩|⟨A,_,p3,n9,m9,l9⟩
    .
     subst v0;have t0:aY (ak l0) 0=false:=by rw[gi,aJ];exact aQ λo=>A (hX (by omega))
     refine av t0 (aq u (aa (aI (i:=0) B) (aa (aI D) (av t0 (aq u (aa (aI (i:=0) v) (aa z9 (aq u (aa (aI (i:=0) v) ⟨_,rfl,?_⟩)))))))));rfl
    .
     subst A n9;have t0:aY (ak (l++[f])) 0=false:=by rw[gi,aJ,ax];exact aQ (by rw[eE];omega)
     refine bg rfl (jp (l9 _) (aq (y0 _ u0) (aa (aI (i:=0) B) (aa m9 (aq (y0 _ u0) (aa (aI (i:=0) B) (aq u (aa (aI (i:=0) v) (aa (aI j0) (av t0 (aq u (aa (aI (i:=0) v) (aa z9 (aq u (aa (aI (i:=0) v) ⟨_,rfl,?_⟩)))))))))))))));rfl
  .
   left;refine⟨_,_,cA ?_,cA ?_,rfl,rfl⟩;.exact bg s0 (aK (P:=λt=>t=((zA,()),())) (aa (aI z0) (aa d0 (bg (eJ (by show C-za z<(1:Int);omega)) (aV rfl)))) (by rintro t rfl;exact ab (by show Sum.inl (_,ah .i64 (i:Int) 1,())=_;rw[i0])))
   .exact bg s0 (aa (aI z0) (aa c0 (aa (aI hz) (av (cE (by show C<=za z;omega)) (ab (by show Sum.inl (_,ah .i64 (i:Int) 1,())=_;rw[i0]))))))
 .rintro s t⟨rfl,rfl⟩;exact⟨cA (av (cU (l:=x)) ⟨_,rfl,rfl⟩),cA (av (cU (l:=x)) ⟨_,rfl,rfl⟩)⟩
end Go.Bo
set_option maxHeartbeats 4000000
namespace Go.Bo
open Go Go.Ls
section
variable{α σ τ:Type}
theorem vM{o p:Option σ}{f g:σ->Option α}(h:o=p)(a:∀x,o=some x->f x=g x):am o f=am p g:=by subst h;cases o with
 |none=>rfl
 |some x=>exact a x rfl
theorem JS{b:Bool}{o p q r:Option α}(h1:b=true->o=q)(h2:b=false->p=r):ad b o p=ad b q r:=by cases b with
 |true=>exact h1 rfl
 |false=>exact h2 rfl
theorem JW{b:Bool}{o p:Option α}(h:b=true->o=p):aC b o=aC b p:=by cases b with
 |true=>exact h rfl
 |false=>rfl
theorem zE{o:Option (Sum σ α)}{b:σ}{K:σ->Option α}{r:Option α}(h:o=some (.inl b))(a:K b=r):aE o K=r:=by rw[h];exact a
theorem W7{o:Option σ}{b:σ}{K:σ->Option α}{r:Option α}(h:o=some b)(a:K b=r):am o K=r:=by rw[h];exact a
theorem JV{b:Bool}{o r:Option α}(h:b=true)(a:o=r):aC b o=r:=by rw[h];exact a
end
theorem KU{c:D ce}{k0:Kn}(d:∃l,VA (EZ k0) l):∀{i:Nat}{k:Kn},nM c k0 i k->∃l,VA (EZ k) l:=by intro i k h;induction h with
 |zero=>exact d
 | @succ i k p o a f t q e z y v g x s u w m=>obtain⟨l,j⟩:=m;obtain⟨r,b,_,n⟩:=HH j;rw[g]at b;cases b;exact(n rfl).1.1
def Fz(fi:List (D k5)):Prop:=fi.length<=4/\∀y,y∈fi->y.2.2.2.2.2.2.1=(0,false,())
theorem P8:yV ((0,false,()),())=some (0,0,())/\MF ((0,false,()),())=some (0,0,()):=by
 refine⟨cA ?_,cA ?_⟩;.unfold yV Ih Ig;exact aa (x:=(true,())) rfl (av rfl (aa (x:=(false,())) rfl (av rfl (ab rfl))))
 .unfold MF Ro;exact aa (x:=(true,())) rfl (av rfl (av rfl (ab rfl)))
theorem Wr{c:D ce}{k0 k:Kn}{q:Int}{i:Nat}{j:Kn×Unit}{ls:List (List Int)}(A:xj c)(z0:KI c k0 k i q)(v0:VA (EZ k) ls)(B:Fz (kc k)):AB c (j,k,(i:Int),())=Pm c (j,k,(i:Int),()):=by
 obtain⟨r,f,s,t⟩:=HH v0;unfold AB Pm;refine JS (λ_=>vM rfl λa e=>vM (RJ _ _).symm λq0 s0=>JS (λ_=>rfl) λ_=>vM (f.trans s.symm) λp z=>JS (λ_=>rfl) λx=>?_) λ_=>rfl;have u0:p=r:=by rw[show yW (EZ k,0,true,false,())=some p from z]at f;exact ej f
 subst u0;obtain⟨_,u,v⟩:=t (fq x);refine JW λ_=>vM rfl λp0 _=>JW λ_=>vM rfl λo0 _=>JW λ_=>vM rfl λn0 _=>vM (RH u v).symm λg _=>?_;have e:az (kv k.1) (i:Int)=some a:=e;rw[z0.Qn]at e;have r0:List.length a.2.1<=48:=(A.prog a (Y e)).1;obtain⟨t0,w⟩:=B;have n:a4 [] a.2.1 64=true:=cj (by show 0+List.length a.2.1<=_;omega) (by decide);have x0:gw (ak (kc k)) (ak (kc k)) 8=true:=iZ (by rw[aJ];omega) (by rw[aJ];omega) (by decide);have y0:∀d:Nat,List.replicate d (0:Int)++[0]=List.replicate (d+1) 0:=λd=>List.replicate_succ'.symm;have m:∀d(b:d<(kc k).length),∃y,(kc k)[d]?=some y/\y.2.2.2.2.2.2.1=(0,false,()):=λd b=>⟨_,G b,w _ (eF b)⟩;refine zE (b:=(List.replicate (kc k).length (0:Int),())) (o5 (λd=>(List.replicate d (0:Int),(d:Int),())) (kc k).length rfl (by omega) (λd b=>?_) (av (cU (l:=kc k)) (bC (ab rfl)))) (JV n (Eq.symm ?_));rotate_left
 .
  refine W7 (b:=(a.2.1,())) ?_ ?_;.unfold Iq;exact JV n rfl
  refine JV x0 ?_;refine zE (b:=(((0,0,-1,0,a.1,a.2.1,(0,0,0,0,(0,0,0,0,0,0,()),(),()),g.1,[],[],[],List.replicate (kc k).length (0:Int),0,0,0,0,-1,()):FE),())) (o5 (λd=>(((0,0,-1,0,a.1,a.2.1,(0,0,0,0,(0,0,0,0,0,0,()),(),()),g.1,[],[],[],List.replicate (kc k).length (0:Int),0,0,0,0,-1,()):FE),(d:Int),())) (kc k).length ?_ (by show(kc k).length<1000000000;omega) (λd b=>?_) ?_) ?_;rotate_right;.rfl
  .show(_,(0:Int),())=_;rfl
  .
   obtain⟨y,h,l⟩:=m d b;have C:aU (List.replicate (kc k).length (0:Int)) (d:Int)=true:=eu (by rw[aN];exact b);have o:(List.replicate (kc k).length (0:Int))[d]?=some 0:=by rw[cd,aA b]
   refine bg (eJ (by rw[aJ];show(d:Int)<((List.replicate (ak (kc k)).toNat (0:Int)).length:Int);rw[aN,aJ,cY];omega)) (aa (aI h) (aa (by rw[l];exact P8.2) (aq C (aa (aI o) (ab ?_)))));have w0:aG (List.replicate (kc k).length (0:Int)) (d:Int) 0=List.replicate (kc k).length 0:=ir o;show Sum.inl ((0,0,-1,0,a.1,a.2.1,_,g.1,[],[],[],aG (List.replicate (kc k).length (0:Int)) (d:Int) 0,_),ah .i64 (d:Int) 1,())=_;rw[w0,bH (by omega)]
  .refine av (cE ?_) (bC (ab rfl));rw[aJ];show((List.replicate (ak (kc k)).toNat (0:Int)).length:Int)<=((kc k).length:Int);rw[aN,aJ,cY];exact bW _
 .obtain⟨y,h,l⟩:=m d b;refine bg (cD (l:=kc k) b) (aa (aI h) (aa (by rw[l];exact P8.1) (aq (cj (by show(List.replicate d (0:Int)).length+1<=_;rw[aN];omega) (by decide)) (ab ?_))));show Sum.inl (List.replicate d (0:Int)++[0],ah .i64 (d:Int) 1,())=_;rw[y0,bH (by omega)]
end Go.Bo
set_option maxHeartbeats 4000000
namespace Go.Bo
open Go Go.Ls
theorem BA{c:D ce}(e:xj c):AG c.1 c.2.2.1 c.2.2.2.1 c.2.1:=by have b:=e.AC;unfold ij at b;simp only[ae]at b;have i:=dt b.1;have a:=e.Ea;unfold gM at a;simp only[ae]at a;have j:=dt a.1;have d:=e.qx;unfold dh mY at d;simp only[ae]at d;have g:=dt d.1.1;have f:=dt d.1.2.1;refine⟨by omega,λn h=>?_,⟨f.1,f.2,g.2⟩,by omega,a.2.1,br a.2.2.2⟩;have:=dt (bQ.1 b.2 n h);have this:0<=n/\n<=3:=this;omega
theorem KD{nd:List Int}{e hg:Int}{zl:ZL}{l:List Zn}(g:AG nd e hg zl)(c:QY zl l):VA (HG nd e hg l nd.length zl.length) (List.replicate zl.length []):=by
 have d:∀(i:Nat)(z:Zn),l[i]?=some z->∃x,zl[i]?=some x/\NZ x.1 x.2.1 (lS zl i) x.2.2.1 x.2.2.2.1 z:=λi z a=>by have b:=(aj.1 a).1;rw[c.len]at b;exact⟨_,G b,c.nz i z _ a (G b)⟩
 refine⟨⟨zl,g,c.len⟩,λz a=>?_,⟨lS zl,rfl,λi z a=>?_⟩,?_,?_⟩;.obtain⟨i,b⟩:=bj a;obtain⟨x,_,h⟩:=d i z b;exact h.v
 .obtain⟨x,j,h⟩:=d i z a;exact⟨h.e.2.1.1,by rw[(Es g j).2.2.2.1,h.e.2.1.2]⟩
 .have:=g.nn;obtain⟨n,f⟩:∃n,nd.length=n+1:=⟨nd.length-1,by omega⟩;show List.replicate nd.length (List.replicate zl.length [],())=_::List.replicate (nd.length-1) (List.replicate l.length [],());rw[c.len,f];rfl
 .have:=LL (hg:=hg) (l:=l) (by have:=g.bh;omega);rw[c.len]at this;exact this
theorem Vv{c:D ce}(B:xj c){l:List Zn}(f:QY c.2.1 l){a:eK}(w:a=HG c.1 c.2.2.1 c.2.2.2.1 l c.1.length c.2.1.length){b:Int}(h:HX (a,())=some (b,())):(0<=b/\b<=256)/\∃q,FO (c,())=some (b,q):=by
 have g:=BA B;have y0:=KD g f;subst w;have w0:=g.nz;have C:=f.len;have A:∀i(x:Zt),c.2.1[i]?=some x->0<=lS c.2.1 i/\1<=x.2.2.1/\lS c.2.1 i+x.2.2.1<=256/\lS c.2.1 (i+1)=lS c.2.1 i+x.2.2.1/\_:=λi x d=>Es g d;have j:l[l.length-1]?=some (l[l.length-1]'(by omega)):=G (by omega);have d:c.2.1[l.length-1]?=some (c.2.1[l.length-1]'(by omega)):=G (by omega);generalize l[l.length-1]'(by omega)=z at j;generalize c.2.1[l.length-1]'(by omega)=x at d;have p:=f.nz _ z x j d;obtain⟨u0,t0,s0,x0,_⟩:=A _ x d
 have t:HX (HG c.1 c.2.2.1 c.2.2.2.1 l c.1.length c.2.1.length,())=some (lS c.2.1 l.length,()):=by
  refine cA ?_;unfold HX;have u:bb .i64 (ak l) 1=((l.length-1:Nat):Int):=by rw[aJ];exact uI (by omega) (by omega)
  refine aa (MO y0) (av rfl (aa (x:=z) (by show az l (bb .i64 (ak l) 1)=_;rw[u];exact j) (ab ?_)));show(ah .i64 (zs z) (zc z),())=_;rw[p.e.2.1.1,p.e.2.1.2,cz (by omega) (by omega),<-x0,jN (by omega)]
 rw[t]at h;have k:lS c.2.1 l.length=b:=eP (λo:Int×Unit=>o.1) (ej h);have v0:lS c.2.1 (l.length-1+1)=b:=by rw[jN (by omega)];exact k
 refine⟨by omega,?_⟩
 have:Ok (FO (c,())) λr=>r.1=b:=by
  unfold FO;refine aK (P:=λs=>s.1=b) (bq (I:=λi s=>∃y:Int,s=(lS c.2.1 i,y,(i:Int),())) (m:=c.2.1.length) ⟨0,rfl⟩ (by show c.2.1.length<1000000000;omega) ?_ ?_) λs z0=>ab z0;.rintro i s m⟨y,rfl⟩;have d:c.2.1[i]?=some c.2.1[i]:=G m;generalize c.2.1[i]=x at d;refine bg (cD (l:=c.2.1) m) (aa (aI d) (aV ⟨ah .i64 y (bb .i64 x.2.2.1 x.2.2.2.1),?_⟩));show(ah .i64 (lS c.2.1 i) x.2.2.1,_,ah .i64 (i:Int) 1,())=_;rw[<-Er d,bH (by omega)]
  .rintro s⟨y,rfl⟩;refine av (cU (l:=c.2.1)) ⟨_,rfl,?_⟩;show lS c.2.1 c.2.1.length=b;rw[<-C];exact k
 obtain⟨⟨n,q⟩,v,e⟩:=this;have e:n=b:=e;subst e;exact⟨q,v⟩
theorem PO{c:D ce}(d:xj c){k0:Kn}{j:Int}(m:K0 c k0 j):(∃ls,VA (EZ k0) ls)/\Fz (kc k0):=by
 obtain⟨t,a,p0,r,o0,x0,C,s,u,v,w,x,z,A,B,w0,g,v0,u0,t0,s0,r0,h,q0,rfl⟩:=m;obtain⟨l,n,k,_⟩:=BN (BA d);rw[k]at g;cases g;rw[FI c d.qx]at h;cases h;refine⟨⟨_,KD (BA d) n⟩,?_⟩;show Fz (ne c (dZ c).length);have z0:=(wQ d).f
 have q:∀i,i<=(dZ c).length->(ne c i).length=i/\∀y,y∈ne c i->y.2.2.2.2.2.2.1=(0,false,()):=by
  intro i
  induction i with
   |zero=>exactλ_=>⟨rfl,λy b=>by cases b⟩
   |succ i p=>
   intro y0;obtain⟨f,e⟩:=p (by omega);have o:(dZ c)[i]?=some ((dZ c)[i]'(by omega)):=G (by omega);rw[wK o];refine⟨by rw[ax,f];rfl,λy b=>?_⟩;rcases bR.1 b with b|b;.exact e y b
   .rcases cq.1 b with rfl;rfl
 obtain⟨f,e⟩:=q _ (au _);exact⟨by omega,e⟩
theorem RG(c:D ce)(B:Ky (c,())=some ((0:Int),()))(d:xj c)(j:1<=(ga c:Int)/\(ga c:Int)<=256){k0:Kn}{o:Int}(y0:K0 c k0 o){Q:D (.ai fS iU)->Prop}(z0:Ok (aE (aF (Pm c) 1000000000 ((zK,()),k0,(0:Int),())) λn0=>some (n0.2.1,(0:Int),())) Q):Ok (FP (c,())) Q:=by obtain⟨t,a,p0,s,o0,w0,g0,m0,l0,j0,i0,v,w,x,h0,v0,k,u0,t0,s0,r0,q0,m,n,rfl⟩:=y0;have b:=d.qx;have g:=BA d;have u:=wQ d;obtain⟨l,x0,z,A⟩:=BN g;rw[z]at k;cases k;obtain⟨⟨p,r⟩,q,y⟩:=Vv d x0 rfl u0;have f:=b;unfold dh mY at f;simp only[ae]at f;have e:=dt f.1.2.2.2.1;have i:=dt f.1.2.2.2.2.1;have h:=wG b (dZ c).length (au _);have f0:=h.1;rw[FI c b]at m;cases m;rw[L3 e.1 e.2 (by omega) (by omega) h.2]at n;cases n;have C:=TY e.1 e.2 (b:=mT c (dZ c).length) (by omega) (by omega) h.2;have e0:=g.nn;unfold FP;refine aa B (av rfl (aa (L2 c b) (aa (lF b) (av (cE j.1) (aa (lF b) (av (cE j.2) (aa (T8 c d) (jp (Po c v0 (by show c.1.length<=20;omega)) (aa A (aa y (jp (P0 c _ t _ p r) (aa (x:=(p0,v,())) (by rw[T6];exact t0) (aq (cj (by show 0+List.length (DE c)<=_;have:List.length (DE c)<=8:=u.a;omega) (by decide)) (aa (x:=(s,())) (by rw[T5];exact s0) (aa (x:=(o0,w,())) ((T3 i.1 i.2).trans r0) (aa (x:=(w0,x,())) (by rw[T2];exact q0) (aa (T0 c b) (aa C z0))))))))))))))))))
end Go.Bo
set_option maxHeartbeats 4000000
namespace Go.Bo
open Go Go.Ls
theorem Su{c:D ce}{k0:Kn}:∀{i:Nat}{k:Kn},nM c k0 i k->kc k=kc k0:=by intro i k h;induction h with
 |zero=>rfl
 |succ _ _ _ _ _ _ _ _ a=>exact a
def TQ(c:D ce)(k:Kn):Prop:=k=zK\/(1<=(ga c:Int)/\(ga c:Int)<=256)/\∃b a,K0 c b a/\KI c b k (kv c).length a
theorem TB{c:D ce}(h:xj c)(z:yj (c,())=some ((0:Int),()))(A:Ky (c,())=some ((0:Int),())):E2 (zj (c,())) (FP (c,())) λr=>TQ c r.1:=by
 have q:=h.qx;by_cases m:1<=(ga c:Int)/\(ga c:Int)<=256
 .
  have o0:Ok (zj (c,())) λr=>FP (c,())=some r/\TQ c r.1:=by
   refine RK c z h m λd g w C=>?_;obtain⟨q0,v0⟩:=PO h w;have m0:List.length (kv c)<=8:=h.np.2
   have x0:∀{i:Nat}{k:Kn}{j:Kn×Unit}{y:Sum ((Kn×Unit)×Kn×Int×Unit) (Sum ((Kn×Unit)×Kn×Unit) (D (.ai fS iU)))},i<=(kv c).length->KI c d k i g->AB c (j,k,(i:Int),())=some y->∀o,y= .inl o->i<(kv c).length/\∃(n:Kn)(t:Kn×Unit),o=(t,n,((i+1:Nat):Int),())/\KI c d n (i+1) g:=λ{i k j y}v a z0 o e=>by
    subst e;by_cases m:i<(kv c).length;.obtain⟨y,b,f⟩:=Pk (j:=j) (P:=λ_=>True) (Q:=λ_=>True) h m a λ_ _=>trivial;rw[z0]at b;cases b;obtain⟨t,n,p0,u⟩:=o;have p:p0=((i+1:Nat):Int):=f.1;subst p;exact⟨m,n,t,rfl,f.2⟩
    .
     have e:i=(kv c).length:=by omega
     subst e;obtain⟨y,b,f⟩:=K2 (j:=j) (A:=λ_=>False) (Q:=λ_=>True) a.Qn (R:=λ_=>True) trivial;rw[z0]at b;cases b;exact f.elim
   have u0:aF (AB c) 1000000000 ((zK,()),d,(0:Int),())=aF (Pm c) 1000000000 ((zK,()),d,(0:Int),()):=by refine vD (I:=λs=>∃(i:Nat)(k:Kn)(j:Kn×Unit),s=(j,k,(i:Int),())/\i<=(kv c).length/\KI c d k i g) ⟨0,d,_,rfl,a5 _,C⟩ ?_ _;rintro s⟨i,k,j,rfl,v,a⟩;obtain⟨l0,r0⟩:=KU q0 a.run;have B:=Wr (j:=j) h a r0 (by rw[Su a.run];exact v0);refine⟨B,λo s0=>?_⟩;obtain⟨b,n,t,f,p⟩:=x0 v a (B.trans s0) o rfl;exact⟨i+1,n,t,f,b,p⟩
   have w0:Ok (aE (aF (AB c) 1000000000 ((zK,()),d,(0:Int),())) λn0=>some (n0.2.1,(0:Int),())) λr=>TQ c r.1:=by
    refine aK (P:=λs:(Kn×Unit)×Kn×Unit=>KI c d s.2.1 (kv c).length g) (bq (I:=λi s=>s.2.2.1=(i:Int)/\KI c d s.2.1 i g) (m:=(kv c).length) ⟨rfl,C⟩ (by omega) ?_ ?_) ?_;.rintro i⟨⟨j,u⟩,k,x,y0⟩v⟨l,a⟩;have l:x=(i:Int):=l;subst l;have a:KI c d k i g:=a;exact Pk h v a λ_ _=> .inl rfl
    .rintro⟨⟨j,u⟩,k,x,y0⟩⟨l,a⟩;have l:x=((kv c).length:Int):=l;subst l;have a:KI c d k (kv c).length g:=a;exact K2 a.Qn (R:=λk=>KI c d k (kv c).length g) a
    .rintro⟨⟨j,u⟩,k,y0⟩a;exact ab (.inr ⟨m,d,g,w,a⟩)
   obtain⟨r,e,t0⟩:=w0;refine⟨r,e,?_,t0⟩;exact cA (RG c A h m w (by rw[<-u0];exact⟨r,e,rfl⟩))
  obtain⟨r,b,f,p⟩:=o0;exact⟨r,b,f,p⟩
 .
  refine⟨(zK,9,()),cA ?_,cA ?_,.inl rfl⟩
  .
   unfold zj;refine aa z (av rfl (aa (wZ q) (aa (lF q) (aa (uy _) (bg ?_ (ab rfl))))));show bI (aO 1 256 (ga c:Int))=true;unfold aO;by_cases b:1<=(ga c:Int);.rw[aQ λf:(ga c:Int)<=256=>m ⟨b,f⟩,mu];rfl
   .rw[aQ b];rfl
  .unfold FP;refine aa A (av rfl (aa (L2 c q) (aa (lF q) (aL (λ_=>ab rfl) λb=>aa (lF q) (bg (eJ ?_) (ab rfl))))));have b:(1:Int)<=(ga c:Int):=eY b;omega
end Go.Bo
set_option maxHeartbeats 4000000
namespace Go.Bo
open Go Go.Ls
theorem sO(a:Int):aY a a=true:=by rw[gi];exact ar rfl
theorem P3(a:Bool):bI (wL a a)=false:=by cases a<;>rfl
theorem an{a b:Bool}(h:a=true)(k:b=true):eV a b=true:=by subst h k;rfl
theorem nb{a:Bool}(h:a=true):bI a=false:=by subst h;rfl
theorem hZ{X α:Type}{l:List X}{f:Int×Unit->Option (Sum (Int×Unit) (Sum Unit α))}{K:Unit->Option α}{Q:α->Prop}(e:l.length<=1000)(d:∀(i:Nat)(x:X),l[i]?=some x->i<l.length->ah .i64 (i:Int) 1=((i+1:Nat):Int)->Ok (f ((i:Int),())) λr=>r= .inl (((i+1:Nat):Int),()))(c:Ok (f ((l.length:Int),())) λr=>r= .inr (.inl ()))(b:Ok (K ()) Q):Ok (aE (aF f 1000000000 ((0:Int),())) K) Q:=cw (λi=>((i:Int),())) l.length rfl (by omega) (λi a=>d i _ (G a) a (bH (by omega))) c b
theorem nw{i:Nat}{α:Type}(h:ah .i64 (i:Int) 1=((i+1:Nat):Int)):Ok (some (Sum.inl (ah .i64 (i:Int) 1,())):Option (Sum (Int×Unit) α)) λr=>r= .inl (((i+1:Nat):Int),()):=ab (by rw[h])
theorem oK{X α:Type}{l:List X}{T:Option (Sum (Int×Unit) (Sum Unit α))}:Ok (ad (ay (l.length:Int) (ak l)) T (ao (some (.inl ())))) λr=>r= .inr (.inl ()):=av (cU (l:=l)) (bC (ab rfl))
abbrev Sh{X:Type}(l:List X):Prop:=l.length<=1000
theorem qD{l:List Int}(h:Sh l):yi (l,l,())=some (true,()):=by refine cA ?_;unfold yi;exact av (eQ _) (hZ (l:=l) h (λi x a b e=>bg (cD (l:=l) b) (aa (aI a) (aa (aI a) (av (eQ _) (nw e))))) oK (ab rfl))
theorem ME{l:List Int}(h:qy l=true):xf (l,l,())=some (true,()):=by refine cA ?_;unfold xf;exact aq h (aq h (ab (by rw[NB])))
theorem UI{l:List Bool}(h:Sh l):Ip (l,l,())=some (true,()):=by refine cA ?_;unfold Ip;exact av (eQ _) (hZ (l:=l) h (λi x a b e=>bg (cD (l:=l) b) (aa (aI a) (aa (aI a) (av (P3 _) (nw e))))) oK (ab rfl))
theorem EM{X a β:Type}{r:List a}:EN (β:=β) ([]:List X) r=some (.inl ()):=by unfold EN;exact o5 (λi=>((i:Int),())) 0 rfl (by decide) (λi b=>by omega) (av rfl (bC (ab rfl)))
theorem K3{α:Type}{K:Unit->Option α}{Q:α->Prop}(h:Ok (K ()) Q):Ok (aE (aF (λa:Int×Unit=>ad (ay a.1 0) none (ao (some (.inl ())))) 1000000000 ((0:Int),())) K) Q:=cw (λi=>((i:Int),())) 0 rfl (by decide) (λi b=>by omega) (av rfl (bC (ab rfl))) h
theorem UH{r:D xl}(h:(show List Int from r.2.1.1).length=8):MC (r,r,())=some (true,()):=by
 have e:Mr (r.2.1,r.2.1,())=some (true,()):=by refine cA ?_;unfold Mr;refine av (eQ _) (av (eQ _) (cw (λi=>((i:Int),())) 8 rfl (by decide) (λi d=>?_) (av rfl (bC (ab rfl))) (K3 (ab rfl))));have c:(show List Int from r.2.1.1)[i]?=some ((show List Int from r.2.1.1)[i]'(by rw[h];exact d)):=G _;have b:cR (i:Int)=true:=ar (by omega);have a:ay (i:Int) 8=true:=eJ (by omega);exact bg a (aq b (aq a (aa c (aq b (aq a (aa c (av (eQ _) (nw (bH (by omega))))))))))
 refine cA ?_;unfold MC;exact bg (sO _) (aa e (ab rfl))
def QV(f:yg):Prop:=f.2.2.2.2.2.2.2.2.2.2.2.2.2.2.1=[]/\qy f.2.2.2.2.2.2.2.2.2.2.2.2.2.2.2.1=true
theorem Xs{f:yg}(h:QV f):TS (f,f,())=some (true,()):=by obtain⟨a,b⟩:=h;refine cA ?_;unfold TS;have n:=eQ;refine av (n _) (av (n _) (av (n _) (av (n _) (av (n _) (av (n _) (av (n _) (av (n _) (av (n _) (av (n _) (av (P3 _) (av (P3 _) (av (P3 _) (av (n _) (av (n _) (aa (ME b) (av rfl (jp (b:=()) ?_ (ab rfl))))))))))))))))));show EN f.2.2.2.2.2.2.2.2.2.2.2.2.2.2.1 _=_;rw[a];exact EM
structure Xm (p : FE) : Prop where
  c : Sh p.2.2.2.2.2.1
  t : Sh p.2.2.2.2.2.2.2.1.2.1
  t0 : p.2.2.2.2.2.2.2.1.2.2.1 = []
  a : Sh p.2.2.2.2.2.2.2.2.1
  b : Sh p.2.2.2.2.2.2.2.2.2.1
  d : Sh p.2.2.2.2.2.2.2.2.2.2.1
  e : Sh p.2.2.2.2.2.2.2.2.2.2.2.1
theorem UG(x:D F1):MA (x,x,())=some (true,()):=by refine cA ?_;unfold MA;have n:=eQ;exact av (n _) (av (n _) (av (n _) (av (n _) (av (nb (an (sO _) (an (sO _) (an (sO _) (an (sO _) (an (sO _) (an (sO _) rfl))))))) (K3 (ab rfl))))))
theorem UF{t:D sB}(h:Sh t.2.1)(b:t.2.2.1=[]):Mz (t,t,())=some (true,()):=by
 refine cA ?_;unfold Mz;have n:=eQ;refine av (n _) (av (n _) (av (n _) (hZ (l:=t.2.1) h (λi x a c e=>bg (cD (l:=t.2.1) c) (aa (aI a) (aa (aI a) (av (nb ?_) (nw e))))) oK (jp (b:=()) ?_ (ab rfl)))));.repeat(first|exact rfl|refine an (sO _) ?_)
 .show EN t.2.2.1 _=_;rw[b];exact EM
theorem Xr{p:FE}(h:Xm p):TR (p,p,())=some (true,()):=by refine cA ?_;unfold TR;have n:=eQ;refine av (n _) (av (n _) (av (n _) (av (n _) (av (n _) (av (n _) (av (n _) (av (n _) (av (n _) (av (n _) (av (n _) (aa (UG _) (av rfl (aa (UF h.t h.t0) (av rfl (aa (qD h.a) (av rfl (aa (qD h.b) (av rfl (aa (qD h.d) (av rfl (aa (qD h.e) (av rfl (hZ (l:=p.2.2.2.2.2.1) h.c (λi x a b e=>bg (cD (l:=p.2.2.2.2.2.1) b) (aa (aI a) (aa (aI a) (av (nb ?_) (nw e))))) oK (ab rfl))))))))))))))))))))))));repeat(first|exact rfl|refine an (sO _) ?_)
end Go.Bo
set_option maxHeartbeats 4000000
namespace Go.Bo
open Go Go.Ls
structure Xn (a : eK) : Prop where
  n : Sh (kY a)
  z : Sh (cu a)
  zl : ∀ z, z ∈ cu a → ∀ k : Nat, k < 5 → ∃ l : List Int, az z.2.2.2.2.2.1 (k : Int) = some l ∧ Sh l
  c : Sh (cK a)
  cl : ∀ c, c ∈ cK a → Sh c.1 ∧ ∀ l, l ∈ c.1 → Sh l
theorem Xx{a:eK}(h:Xn a):TX (a,a,())=some (true,()):=by
 refine cA ?_;unfold TX;have n:=eQ;refine av (n _) (av (n _) (aa (qD h.n) (av rfl (av (n _) (av (n _) (hZ (l:=cu a) h.z (λi z m g e=>?_) oK (hZ (l:=cK a) h.c (λi c b g e=>?_) oK (ab rfl))))))));.refine bg (cD (l:=cu a) g) (aK (P:=λ_=>True) (aa (aI m) (aa (aI m) (av (n _) (av (n _) (av (n _) (av (n _) (av (n _) (cw (λi=>((i:Int),())) 5 rfl (by decide) (λk j=>?_) (av rfl (bC (ab rfl))) (aV trivial))))))))) λ_ _=>nw e);obtain⟨l,d,s⟩:=h.zl z (Y m) k j;have o:cR (k:Int)=true:=ar (by omega);have f:ay (k:Int) 5=true:=eJ (by omega);exact bg f (aq o (aq f (aa d (aq o (aq f (aa d (aa (qD s) (av rfl (nw (bH (by omega)))))))))))
 .obtain⟨q,r⟩:=h.cl c (Y b);exact bg (cD (l:=cK a) g) (aK (P:=λ_=>True) (aa (aI b) (aa (aI b) (av (n _) (aa (aI b) (hZ (l:=c.1) q (λk l d j p=>bg (cD (l:=c.1) j) (aa (aI b) (aa (aI d) (aa (aI b) (aa (aI d) (aa (qD (r l (Y d))) (av rfl (nw p)))))))) oK (aV trivial)))))) λ_ _=>nw e)
theorem Xw{n m:Int}{b:BL}(h:Sh b)(d:∀x,x∈b->qy x=true):TW ((n,m,b,[],[],()),(n,m,b,[],[],()),())=some (true,()):=by refine cA ?_;unfold TW;have s:=eQ;exact av (s _) (av (s _) (av (s _) (av (s _) (av (s _) (hZ (l:=b) h (λi x a c e=>bg (cD (l:=b) c) (aa (aI a) (aa (aI a) (aa (ME (d x (Y a))) (av rfl (nw e)))))) oK (hZ (l:=([]:List Int)) (a5 _) (λi x a c e=>by cases a) (av rfl (bC (ab rfl))) (hZ (l:=([]:List Int)) (a5 _) (λi x a c e=>by cases a) (av rfl (bC (ab rfl))) (ab rfl))))))))
def JD(c:D ce)(n1 n2:Int)(m:Nat)(t:D mw)(a:eK)(fr:List yg)(n8:Int)(ac:List fg)(ag:List (List Int))(so:List (Int×Int×Unit))(n13:Int)(fi:List (D k5))(dn dm:Int)(b:BL)(pr:List FE):Kn:=(c,n1,n2,List.replicate m (-1),List.replicate m t,List.replicate m [],a,fr,(n8,[],()),ac,[],ag,so,(n13,[],()),fi,(dn,dm,b,[],[],()),[],pr,[],[],())
structure ShK (m : Nat) (t : D mw) (a : eK) (fr : List yg) (ac : List fg) (ag : List (List Int)) (so : List (Int × (Int × Unit))) (fi : List (D k5)) (b : BL) (pr : List FE) : Prop where
  m : m ≤ 1000
  t : t.2.1 = []
  a : Xn a
  fr : Sh fr ∧ ∀ f, f ∈ fr → QV f
  ac : Sh ac
  ag : Sh ag ∧ ∀ l, l ∈ ag → Sh l
  so : Sh so
  fi : Sh fi ∧ ∀ y, y ∈ fi → (show List Int from y.2.2.2.2.2.2.2.1.2.1.1).length = 8 ∧ Sh (show List Bool from y.2.2.2.2.2.2.2.2.1)
  b : Sh b ∧ ∀ x, x ∈ b → qy x = true
  pr : Sh pr ∧ ∀ p, p ∈ pr → Xm p
section
variable{c:D ce}{n1 n2:Int}{m:Nat}{t:D mw}{a:eK}{fr:List yg}{n8:Int}{ac:List fg}{ag:List (List Int)}{so:List (Int×Int×Unit)}{n13:Int}{fi:List (D k5)}{dn dm:Int}{b:BL}{pr:List FE}(h:ShK m t a fr ac ag so fi b pr)
include h
theorem EG{X:Type}{x:X}:Sh (List.replicate m x):=by show(List.replicate m x).length<=1000;rw[aN];exact h.m
theorem UJ{k:Kn}(j:k=JD c n1 n2 m t a fr n8 ac ag so n13 fi dn dm b pr):MD (k,k,())=some (true,()):=by
 subst j;refine cA ?_;unfold MD;have n:=eQ;refine hZ (l:=List.replicate m t) (EG h) (λi x d f e=>?_) oK (hZ (X:=D zR) (l:=List.replicate m []) (EG h) (λi x d f e=>?_) oK (ab rfl))
 .
  have g:x=t:=(gY.1 (Y d)).2;have l:x.2.1=[]:=by rw[g];exact h.t
  refine bg (cD (l:=List.replicate m t) f) (aK (P:=λ_=>True) (aa (aI d) (aa (aI d) (av (n _) (aa (aI d) (aa (aI d) (av (n _) (aa (aI d) (cw (λi=>((i:Int),())) 0 rfl (by decide) (λi f=>by omega) (av ?_ (bC (ab rfl))) (aV trivial))))))))) λ_ _=>nw e);show ay 0 (ak x.2.1)=false;rw[l];rfl
 .have g:x=[]:=(gY.1 (Y d)).2;subst g;exact bg (cD (l:=List.replicate m ([]:D zR)) f) (aK (P:=λ_=>True) (aa (aI d) (aa (aI d) (av (n _) (aa (aI d) (cw (λi=>((i:Int),())) 0 rfl (by decide) (λi f=>by omega) (av rfl (bC (ab rfl))) (aV trivial)))))) λ_ _=>nw e)
theorem Xv{k:Kn}(g:k=JD c n1 n2 m t a fr n8 ac ag so n13 fi dn dm b pr):TV (k,k,())=some (true,()):=by have j:=UJ h g;subst g;refine cA ?_;unfold TV;have n:=eQ;refine av (n _) (av (n _) (av (n _) (av (n _) (av (n _) (av (n _) (av (n _) (hZ (l:=ac) h.ac (λi x d f e=>bg (cD (l:=ac) f) (aa (aI d) (aa (aI d) (av (nb (an (sO _) (an (sO _) (an (sO _) (an (sO _) (an (sO _) rfl)))))) (nw e))))) oK (jp (b:=()) EM (hZ (l:=so) h.so (λi x d f e=>bg (cD (l:=so) f) (aa (aI d) (aa (aI d) (av (nb (an (sO _) (an (sO _) rfl))) (nw e))))) oK (jp (b:=()) EM (hZ (l:=ag) h.ag.1 (λi x d f e=>bg (cD (l:=ag) f) (aa (aI d) (aa (aI d) (aa (qD (h.ag.2 x (Y d))) (av rfl (nw e)))))) oK (aa j (ab rfl)))))))))))))
theorem Xu{k:Kn}(g:k=JD c n1 n2 m t a fr n8 ac ag so n13 fi dn dm b pr):TU (k,k,())=some (true,()):=by subst g;refine cA ?_;unfold TU;have n:=eQ;exact av (n _) (av (n _) (av (n _) (av (n _) (hZ (l:=([]:List Int)) (a5 _) (λi x d f e=>by cases d) (av rfl (bC (ab rfl))) (hZ (l:=([]:List Int)) (a5 _) (λi x d f e=>by cases d) (av rfl (bC (ab rfl))) (ab rfl))))))
theorem Xt{k:Kn}(l:k=JD c n1 n2 m t a fr n8 ac ag so n13 fi dn dm b pr):TT (k,k,())=some (true,()):=by subst l;refine cA ?_;unfold TT;have n:=eQ;refine av (n _) (av (n _) (hZ (l:=fi) h.fi.1 (λi x d f e=>?_) oK (hZ (l:=([]:List Int)) (a5 _) (λi x d f e=>by cases d) (av rfl (bC (ab rfl))) (ab rfl))));obtain⟨g,j⟩:=h.fi.2 x (Y d);exact bg (cD (l:=fi) f) (aa (aI d) (aa (aI d) (av (n _) (av (n _) (av (n _) (av (n _) (av (n _) (av (P3 _) (av (nb (an (sO _) (an (by cases x.2.2.2.2.2.2.1.2.1<;>rfl) rfl))) (aa (UH g) (av rfl (aa (UI j) (av rfl (nw e))))))))))))))
theorem RF{k:Kn}(f:k=JD c n1 n2 m t a fr n8 ac ag so n13 fi dn dm b pr):Kx (k,k,())=some (true,()):=by
 have j:=Xv h f;have l:=Xu h f;have o:=Xt h f;subst f;refine cA ?_;unfold Kx;have n:=eQ;refine av (n _) (av (n _) (aa (qD (EG h)) (av rfl (aa (qD (l:=[]) (a5 _)) (av rfl (av (n _) (av (n _) (aa (Xx h.a) (av rfl (aa (Xw h.b.1 h.b.2) (av rfl (aa j (av rfl (aa l (av rfl (aa o (av rfl (hZ (l:=fr) h.fr.1 (λi x d g e=>?_) oK (hZ (l:=pr) h.pr.1 (λi x d g e=>?_) oK (ab rfl))))))))))))))))))));.exact bg (cD (l:=fr) g) (aa (aI d) (aa (aI d) (aa (Xs (h.fr.2 x (Y d))) (av rfl (nw e)))))
 .exact bg (cD (l:=pr) g) (aa (aI d) (aa (aI d) (aa (Xr (h.pr.2 x (Y d))) (av rfl (nw e)))))
end
end Go.Bo
set_option maxHeartbeats 4000000
namespace Go.Bo
open Go Go.Ls
theorem EJ{l:List Int}(h:∀x,x∈l->0<=x):qy l=true:=bQ.2 λx a=>ar (h x a)
theorem Pg{n:Nat}:qy (List.replicate n 0)=true:=EJ λx a=>by rw[eA a];exact bW 0
theorem Ph(n:Nat):qy (oL n)=true:=by
 refine EJ λx a=>?_;unfold oL at a;rcases bR.1 a with a|a;.simp only[cm,List.not_mem_nil,or_false]at a;omega
 .rw[eA a];exact bW 0
theorem GD{c:D ce}(hd:∀f,f∈dZ c->∀x,x∈f.2.1->0<=(x:Int)):∀i,i<=(dZ c).length->∀x,x∈mT c i->qy x=true
 |0,_=>λx a=>by rw[eA a];exact Pg
 |i+1,o=>by
  have d:(dZ c)[i]?=some ((dZ c)[i]'(by omega)):=G (by omega);generalize(dZ c)[i]'(by omega)=f at d;have h:=hd f (Y d);have l:=GD hd i (by omega)
  have e:∀(b:BL)(j:Nat)(y:List Int),(∀x,x∈b->qy x=true)->qy y=true->∀x,x∈b.set j y->qy x=true:=λb j y g k x a=>by
   rcases cO a with a|rfl;.exact g x a
   .exact k
  have n:∀j,∀x,x∈ra c f i (mT c i) j->qy x=true:=by intro j;induction j with
   |zero=>exact l
   |succ j m=>exact e _ _ _ m (EJ λx a=>h x (jg (em a)))
  rw[zG d];exact e _ _ _ (n _) (Ph _)
theorem Sq{a:eK}{ls:List (List Int)}(h:VA a ls):Xn a:=by
 obtain⟨v,g,d⟩:=h.g;obtain⟨u,t,o⟩:=CH h;have s:=g.nn;refine⟨by show(kY a).length<=1000;omega,by show(cu a).length<=1000;omega,λz n k r=>?_,by show(cK a).length<=1000;omega,λc f=>?_⟩;.have e:=vp (vq (h.vz z n)).1;exact⟨_,e.qB k (by omega),aM (e.len k) (by decide)⟩
 .obtain⟨j,i⟩:=bj f;have b:=(tL h i).1;have:=qn h b;refine⟨by show c.1.length<=1000;omega,λl d=>?_⟩;obtain⟨q,m⟩:=bj d;obtain⟨_,_,p,_⟩:=kO h b m;show l.length<=1000;omega
theorem V2{f:Int}{t:D sB}{e:Int}(h:vf (f,())=some (t,e,())):Sh t.2.1/\t.2.2.1=[]:=by
 have d:Ok (vf (f,())) λr=>Sh r.1.2.1/\r.1.2.2.1=[]:=by
  have c:Ok (B0 (f,())) λ_=>True:=by unfold B0;exact aL (λ_=>ab trivial) λ_=>ab trivial
  unfold vf;exact aZ c λ_ _=>aL (λ_=>ab ⟨a5 _,rfl⟩) λ_=>ab ⟨by show(1:Nat)<=1000;decide,rfl⟩
 obtain⟨r,a,b⟩:=d;rw[h]at a;cases a;exact b
theorem V9{c:D ce}(A:xj c){m:Nat}{t:D mw}{a0:eK}{fr0:List yg}{n8:Int}{ac0:List fg}{ag:List (List Int)}{so:List (Int×Int×Unit)}{n13:Int}{fi:List (D k5)}{dn dm:Int}{b:BL}(B:∀f,f∈fr0->QV f)(z:ac0.length<=8)(q0:fi.length<=4):∀{i:Nat}{k:Kn},nM c (JD c 0 0 m t a0 fr0 n8 ac0 ag so n13 fi dn dm b []) i k->∃a fr ac pr,k=JD c 0 0 m t a fr n8 ac ag so n13 fi dn dm b pr/\(∀f,f∈fr->QV f)/\ac.length<=8/\∀p,p∈pr->Xm p:=by
 intro i k h
 induction h with
  |zero=>exact⟨_,_,_,_,rfl,B,z,λp n=>by cases n⟩
  | @succ i k p j u f x0 q e p0 n l s0 r0 u0 g x z0=>
  obtain⟨a,fr,ac,pr,rfl,o,t0,v⟩:=z0;obtain⟨r,s,y0⟩:=It ac p.1 1;have l:yX (ac,p.1,1,())=some (j,q,0,()):=l;rw[l]at s;cases s;have o0:j.length=ac.length:=(y0 rfl).1;have g:f.toNat<fr.length:=g;have C:fr[f.toNat]?=some fr[f.toNat]:=G g;obtain⟨w0,v0⟩:=V2 x;refine⟨u,fr.set f.toNat (Sg ((fr[f.toNat]?).getD wI) p.1 (i:Int)),j,pr++[Yj p x0 (nv fi)],rfl,λy d=>?_,by omega,λy d=>?_⟩
  .
   rcases cO d with d|rfl;.exact o y d
   .rw[C];have w:=o _ (eF g);exact⟨w.1,w.2⟩
  .
   rcases bR.1 d with d|d;.exact v y d
   .rcases cq.1 d with rfl;have:=(A.prog p (Y n)).1;refine⟨by show List.length p.2.1<=1000;omega,w0,v0,a5 _,a5 _,a5 _,?_⟩;show(nv fi).length<=1000;unfold nv;rw[db];omega
theorem Wv{n:Int}{t:D mw}{e:Int}(h:FM (n,())=some (t,e,())):t.2.1=[]:=by
 have c:Ok (FM (n,())) λr=>r.1.2.1=[]:=by unfold FM;exact aL (λ_=>ab rfl) λ_=>aL (λ_=>ab rfl) λ_=>ab rfl
 obtain⟨r,a,b⟩:=c;rw[h]at a;cases a;exact b
theorem Wu{n:Int}{t:D yq}{e:Int}(h:FL (n,())=some (t,e,())):t.2.1=[]:=by
 have c:Ok (FL (n,())) λr=>r.1.2.1=[]:=by unfold FL;exact aL (λ_=>ab rfl) λ_=>aL (λ_=>ab rfl) λ_=>ab rfl
 obtain⟨r,a,b⟩:=c;rw[h]at a;cases a;exact b
theorem Wt{n:Int}{t:D yp}{e:Int}(h:FJ (n,())=some (t,e,())):t.2.1=[]:=by
 have c:Ok (FJ (n,())) λr=>r.1.2.1=[]:=by unfold FJ;exact aL (λ_=>ab rfl) λ_=>aL (λ_=>ab rfl) λ_=>ab rfl
 obtain⟨r,a,b⟩:=c;rw[h]at a;cases a;exact b
theorem Yb{n:Int}(a:0<=n)(h1:n<=64){t:D sY}{e:Int}(h:BM (n,())=some (t,e,())):t=List.replicate n.toNat (0,0,()):=by
 have c:Ok (BM (n,())) λr=>r.1=List.replicate n.toNat (0,0,()):=by unfold BM;exact av (cE a) (av (cE h1) (aq (iZ a (by show n<=10000;omega) (by decide)) (ab rfl)))
 obtain⟨r,h1,b⟩:=c;rw[h]at h1;cases h1;exact b
theorem aaT{g:List (List Int)}(h:FK ()=some (g,())):g=List.replicate 4 []:=by
 have c:Ok (FK ()) λr=>r.1=List.replicate 4 []:=by unfold FK;exact aq (iZ (by decide) (by decide) (by decide)) (ab rfl)
 obtain⟨r,a,b⟩:=c;rw[h]at a;cases a;exact b
theorem UN:Kx (zK,zK,())=some (true,()):=by
 refine RF (c:=zK.1) (n1:=0) (n2:=0) (m:=0) (t:=(0,[],())) (a:=zA) (fr:=[]) (n8:=0) (ac:=[]) (ag:=[]) (so:=[]) (n13:=0) (fi:=[]) (dn:=0) (dm:=0) (b:=[]) (pr:=[]) ?_ rfl;have a:∀{b:Type}{c:b->Prop},∀x,x∈([]:List b)->c x:=λx d=>by cases d
 exact⟨a5 _,rfl,⟨a5 _,a5 _,a,a5 _,a⟩,⟨a5 _,a⟩,a5 _,⟨a5 _,a⟩,a5 _,⟨a5 _,a⟩,⟨a5 _,a⟩,⟨a5 _,a⟩⟩
theorem Tf{c:D ce}(e:dh c=true):∀{i:Nat},i<=(dZ c).length->∀y,y∈ne c i->(show List Int from y.2.2.2.2.2.2.2.1.2.1.1).length=8/\Sh (show List Bool from y.2.2.2.2.2.2.2.2.1):=by
 intro i
 induction i with
  |zero=>exactλ_ y a=>by cases a
  |succ i g=>
  intro h y a;have b:(dZ c)[i]?=some ((dZ c)[i]'(by omega)):=G (by omega);generalize(dZ c)[i]'(by omega)=f at b;have d:=Bc e (Y b);rw[wK b]at a;rcases bR.1 a with a|a;.exact g (by omega) y a
  .rcases cq.1 a with rfl;refine⟨rfl,?_⟩;show(lK (nC f) (iG f)).length<=1000;rw[nh d.s];have:=d.wj;omega
theorem Sr{c:D ce}(b:xj c)(hd:∀f,f∈dZ c->∀x,x∈f.2.1->0<=(x:Int)){k:Kn}(h:TQ c k):Kx (k,k,())=some (true,()):=by
 rcases h with rfl|⟨j9,h9,d,o,g⟩;.exact UN
 .
  obtain⟨w9,z0⟩:=PO b o;obtain⟨g9,x9⟩:=KU w9 g.run;have d0:=Sq x9;have C:=g.fr;have y0:=g.pr;have i9:List.length (kv c)<=8:=b.np.2;have l9:0<=d/\d<=256:=by obtain⟨t,a,n,q0,p9,m,g0,p0,o0,n0,m0,l0,k0,j0,i0,v0,s,u0,_⟩:=o;obtain⟨l,p,h0,_⟩:=BN (BA b);rw[h0]at s;cases s;exact(Vv b p rfl u0).1
  obtain⟨t,a,n,q0,p9,m,g0,p0,o0,n0,m0,l0,k0,j0,i0,v0,s,u0,t9,s9,r9,q9,t0,s0,rfl⟩:=o;have j:=b.qx;have v:=wQ b;have e:=j;unfold dh mY at e;simp only[ae]at e;have w:=dt e.1.2.2.2.1;have z:=dt e.1.2.2.2.2.1;have B:=wG j (dZ c).length (au _);have m9:=B.1;rw[FI c j]at t0;cases t0;rw[L3 w.1 w.2 (by omega) (by omega) B.2]at s0;cases s0;have y9:=Wv v0;have r:=Wu t9;have q:=Wt q9;have c0:=aaT s9;have z9:=Yb z.1 z.2 r9;obtain⟨u9,n,u⟩:=n;obtain⟨v9,m,u⟩:=m;have r:n=[]:=r;have q:m=[]:=q;subst r q c0 z9;have a0:QV wI:=⟨rfl,rfl⟩;obtain⟨o9,A,r0,w0,rfl,f0,n9,e0⟩:=V9 b (m:=c.1.length) (t:=t) (a0:=a) (fr0:=List.replicate d.toNat wI) (n8:=u9) (ac0:=DE c) (n13:=v9) (λf b0=>by rw[eA b0];exact a0) v.a z0.1 g.run;have C:A.length=d.toNat:=C;have y0:w0.length=(kv c).length:=y0;refine RF ⟨?_,y9,d0,⟨?_,f0⟩,?_,⟨by decide,λl p=>?_⟩,?_,⟨?_,λy x0=>?_⟩,⟨?_,GD hd _ (au _)⟩,⟨?_,e0⟩⟩ rfl;.have:c.1.length<=4:=v.n;omega
  .show A.length<=1000;omega
  .show r0.length<=1000;omega
  .rw[eA p];exact a5 _
  .show(List.replicate _ _).length<=1000;rw[aN];omega
  .have:=z0.1;exact aM this (by decide)
  .obtain⟨i,k9⟩:=bj x0;exact Tf j (au _) y x0
  .show(mT c (dZ c).length).length<=1000;omega
  .show w0.length<=1000;omega
theorem JB(c:D ce)(g:Ls.u5 ce c):F4 (c,())=some (true,()):=by
 obtain⟨b,q,p⟩:=UL c;have t:∀f,f∈dZ c->∀x,x∈f.2.1->0<=(x:Int):=by intro f s x v;have o:=g.2.2.2.2.2.2.2.2.2.2.1.1 f s;exact PT (o.2.1.1 x v)
 refine cA ?_;unfold F4;refine aa q ?_;cases b;.exact bg rfl (ab rfl)
 refine av rfl ?_;obtain⟨y,z,A,B,C⟩:=p rfl;obtain⟨n,a,j⟩:=UK c y z A B
 have w:E2 (zj (c,())) (FP (c,())) λr=>Kx (r.1,r.1,())=some (true,()):=by
  obtain⟨r,m,u⟩:=RV c;rw[a]at m;cases m;by_cases l:n=0;.subst l;have k:=u rfl;obtain⟨r,d,e,h⟩:=TB k a j;exact⟨r,d,e,Sr k t h⟩
  .
   have i:bF n 0=true:=by rw[gI,aQ l];rfl
   refine⟨(zK,n,()),cA ?_,cA ?_,?_⟩;.unfold zj;exact aa a (bg i (ab rfl))
   .unfold FP;exact aa j (bg i (ab rfl))
   .exact UN
 obtain⟨r,d,e,h⟩:=w;exact aa d (aa e (bg (sO _) (aa h (bg rfl (ab rfl)))))
end Go.Bo
namespace Go.Proofs.YtfjeeggbdncodaaGreat
open Go Go.Hm Go.Ls Go.Bo Go.ChangeShapes Go.WideShapes Go.ChangeAt Go.RowKit Go.Wk
theorem own:ownKnob Tryz.prog.godebug=none:=by kernel_rfl
theorem laidOut:laidOutB Tryz.prog=true:=by kernel_rfl
theorem r3:pV Tryz.prog 3 iT:=Gw Tryz.underlying3
theorem r22:pV Tryz.prog 22 lI:=mA Tryz.underlying22 (br (by kernel_rfl)) (by kernel_rfl) (br (by kernel_rfl)) r3
theorem Yc:pV Tryz.prog 206 (.ai iT (.ai iT (.ai iT iU))):=mL (ga:=4) Tryz.underlying206 (by kernel_rfl) (da (s:=1) r3 rfl (by kernel_rfl) (da (s:=1) r3 rfl (by kernel_rfl) (da (s:=1) r3 rfl (by kernel_rfl) (da (s:=1) r3 rfl (by kernel_rfl) (o3 rfl)))))
theorem r23:pV Tryz.prog 23 (.bw (.ai iT (.ai iT (.ai iT iU)))):=mA Tryz.underlying23 (br (by kernel_rfl)) (by kernel_rfl) (br (by kernel_rfl)) Yc
theorem r5:pV Tryz.prog 5 (.int .u8):=Gw Tryz.underlying5
theorem r67:pV Tryz.prog 67 (.bw (.int .u8)):=mA Tryz.underlying67 (br (by kernel_rfl)) (by kernel_rfl) (br (by kernel_rfl)) r5
theorem r69:pV Tryz.prog 69 (.ai iT (.ai (.bw (.int .u8)) .un)):=mL (ga:=2) Tryz.underlying69 (by kernel_rfl) (da (s:=1) r3 rfl (by kernel_rfl) (da (s:=1) r67 rfl (by kernel_rfl) (o3 rfl)))
theorem r24:pV Tryz.prog 24 (.bw (.ai iT (.ai (.bw (.int .u8)) .un))):=mA Tryz.underlying24 (br (by kernel_rfl)) (by kernel_rfl) (br (by kernel_rfl)) r69
theorem r71:pV Tryz.prog 71 (.ai iT (.ai iT (.ai iT (.ai iT iU)))):=mL (ga:=5) Tryz.underlying71 (by kernel_rfl) (da (s:=1) r3 rfl (by kernel_rfl) (da (s:=1) r3 rfl (by kernel_rfl) (da (s:=1) r3 rfl (by kernel_rfl) (da (s:=1) r3 rfl (by kernel_rfl) (da (s:=1) r3 rfl (by kernel_rfl) (o3 rfl))))))
theorem r25:pV Tryz.prog 25 (.bw (.ai iT (.ai iT (.ai iT (.ai iT iU))))):=mA Tryz.underlying25 (br (by kernel_rfl)) (by kernel_rfl) (br (by kernel_rfl)) r71
theorem Yd:pV Tryz.prog 152 (.ai iT (.ai iT (.ai iT (.ai iT (.ai iT (.ai iT (.ai iT iU))))))):=mL (ga:=8) Tryz.underlying152 (by kernel_rfl) (da (s:=1) r3 rfl (by kernel_rfl) (da (s:=1) r3 rfl (by kernel_rfl) (da (s:=1) r3 rfl (by kernel_rfl) (da (s:=1) r3 rfl (by kernel_rfl) (da (s:=1) r3 rfl (by kernel_rfl) (da (s:=1) r3 rfl (by kernel_rfl) (da (s:=1) r3 rfl (by kernel_rfl) (da (s:=1) r3 rfl (by kernel_rfl) (o3 rfl)))))))))
theorem r72:pV Tryz.prog 72 (.bw (.ai iT (.ai iT (.ai iT (.ai iT (.ai iT (.ai iT (.ai iT iU)))))))):=mA Tryz.underlying72 (br (by kernel_rfl)) (by kernel_rfl) (br (by kernel_rfl)) Yd
theorem r99:pV Tryz.prog 99 (.ai iT (.ai (.bw (.ai iT (.ai iT (.ai iT (.ai iT (.ai iT (.ai iT (.ai iT iU)))))))) .un)):=mL (ga:=2) Tryz.underlying99 (by kernel_rfl) (da (s:=1) r3 rfl (by kernel_rfl) (da (s:=1) r72 rfl (by kernel_rfl) (o3 rfl)))
theorem r26:pV Tryz.prog 26 (.bw (.ai iT (.ai (.bw (.ai iT (.ai iT (.ai iT (.ai iT (.ai iT (.ai iT (.ai iT iU)))))))) .un))):=mA Tryz.underlying26 (br (by kernel_rfl)) (by kernel_rfl) (br (by kernel_rfl)) r99
theorem r28:pV Tryz.prog 28 (.ai lI (.ai (.bw (.ai iT (.ai iT (.ai iT iU)))) (.ai iT (.ai iT (.ai iT (.ai iT (.ai iT (.ai iT (.ai iT (.ai iT (.ai (.bw (.ai iT (.ai (.bw (.int .u8)) .un))) (.ai (.bw (.ai iT (.ai iT (.ai iT (.ai iT iU))))) (.ai (.bw (.ai iT (.ai (.bw (.ai iT (.ai iT (.ai iT (.ai iT (.ai iT (.ai iT (.ai iT iU)))))))) .un))) .un))))))))))))):=mL (ga:=13) Tryz.underlying28 (by kernel_rfl) (da (s:=1) r22 rfl (by kernel_rfl) (da (s:=1) r23 rfl (by kernel_rfl) (da (s:=1) r3 rfl (by kernel_rfl) (da (s:=1) r3 rfl (by kernel_rfl) (da (s:=1) r3 rfl (by kernel_rfl) (da (s:=1) r3 rfl (by kernel_rfl) (da (s:=1) r3 rfl (by kernel_rfl) (da (s:=1) r3 rfl (by kernel_rfl) (da (s:=1) r3 rfl (by kernel_rfl) (da (s:=1) r3 rfl (by kernel_rfl) (da (s:=1) r24 rfl (by kernel_rfl) (da (s:=1) r25 rfl (by kernel_rfl) (da (s:=1) r26 rfl (by kernel_rfl) (o3 rfl))))))))))))))
set_option maxRecDepth 100000 in
theorem x6 (os : Os) (started : os.Started) (H : Type) (enc : TypeId × Value → H) :
    ReturnsInHanded {} Tryz.checked os 4 .any (Rows.bootNewsSpec.pre6 enc Tryz.prog Tryz.f4 Rows.bootNewsRow.domain false) (Rows.bootNewsSpec.post enc Tryz.prog Tryz.f4 false true false false) := by
  refine returnsInHanded_of_change_sized (C := Tryz.checked) own started (by kernel_rfl) Tryz.func4
    (ChangeSpec.witness6 (enc := enc) (C := Tryz.checked) false ⟨#[], #[.agg #[.slice none 0 0, .slice none 0 0, .int .i64 0, .int .i64 0, .int .i64 0, .int .i64 0, .int .i64 0, .int .i64 0, .int .i64 0, .int .i64 0, .slice none 0 0, .slice none 0 0, .slice none 0 0]], []⟩ 8 (by kernel_rfl) (by kernel_rfl) (by kernel_rfl) (by kernel_rfl)) ?_
  intro W base args ds gs ni hval0 hW hcnd0 hsz0 _
  have hsz : (DataW.weightsEach Tryz.prog (Tryz.f4.params.toList ++ Rows.bootNewsSpec.plain.varTypes Tryz.prog) (ds ++ gs)).all (· ≤ reachBytes) = true := hsz0
  have hval : ∀ (j : Nat) t v, Tryz.f4.params[j]? = some t → args[j]? = some v → Value.okWide Tryz.prog W .any base t v := hval0
  clear hcnd0 hsz0 hval0
  have hW' := hW
  obtain ⟨p, q, hA0, hV, rfl, hfz, hnd⟩ := hW
  have hA : DataW.TrodAll enc Tryz.prog W 0 (fun _ => true) true Tryz.f4.params.toList args.toList ds p := hA0
  clear hA0
  rw [Tryz.params4] at hA hval hsz
  obtain ⟨v0, d0, rfl, rfl, h0⟩ := trodAll_one hA
  obtain ⟨rfl, rfl⟩ := trodVars_none hV
  simp only [bf] at hW' hsz
  have hlt := hW'.lt
  have hwt : ∀ (j : Nat) (t : TypeId) (d : DataW H), ([28] : List TypeId)[j]? = some t → [d0][j]? = some d → ∀ n, n ∈ d.weights Tryz.prog t → n ≤ reachBytes := by
    intro j t d ht hd n hn
    have := bQ.1 hsz n (DataW.weights_mem_each (ts := [28] ++ Rows.bootNewsSpec.plain.varTypes Tryz.prog) (by rw [bL (by have := (aj.1 ht).1; exact this)]; exact ht) hd n hn)
    simpa using this
  obtain ⟨xs0, rfl, hxs0⟩ := okWide_struct Tryz.underlying28 (hval 0 28 v0 rfl rfl)
  have i_0 := JE W
  obtain ⟨hp1, nx1, ρ1, s0, a0, i_1, m0, y0, z0, g0⟩ := r28.arg h0 (hwt 0 28 d0 rfl rfl) (.inl ⟨rfl, _, rfl⟩) .e 0 (fun _ => none) i_0
  have hk : ∀ (W' : World), Below W.heap.size W W' → ∀ (t : TypeId) (v : Value) (d : DataW H) (ps : List MemPlace), Tryz.prog.readableRec t = true → t < Tryz.prog.types.size → DataW.Trod enc Tryz.prog W 0 (fun _ => true) true t v d ps → (∀ x ∈ ps, x.block < W.heap.size) → DataW.Trod enc Tryz.prog W' 0 (fun b => decide (b < W.heap.size)) true t v d ps :=
    fun W' hb t v d ps hr hs h hl => Below.trod laidOut hr hs h hb hl
  refine (S5 Ts n4 e4 (k4.2 4 ⟨_, _, F4⟩ (by kernel_rfl)) i_1 (args := [s0]) (x := (a0, ())) (by unfold Hm.dN; exact ⟨_, _, rfl, y0, by unfold Hm.dN; rfl⟩) ⟨_, _, rfl, z0, rfl⟩ (JB a0 g0)).mono ?_
  rintro v W' ⟨rfl, kp⟩
  have hb : Below W.heap.size W W' := ⟨kp.os, kp.tape, kp.output, kp.size, fun k hk => kp.block k hk (by simp)⟩
  refine ⟨_, _, _, [], _, [], hW', trodAll_mk1 (shut_bool Tryz.underlying4 true), trodAll_mk1 (hk W' hb _ _ _ _ (by kernel_rfl) (br (by kernel_rfl)) h0 (fun x hx => hlt x (by simp [hx]))), rfl, hb.frame _, fun h => by cases h⟩
theorem i7{a b:Bool}(h:a=true)(k:b=true):(a&&b)=true:=by rw[h,k];rfl
theorem j0:Rows.bootNewsRow.wf (OpenSpec.ofChange Rows.bootNewsSpec)=true:=by kernel_rfl
theorem j1:laidOutB Tryz.pinned.checked.prog=true:=by kernel_rfl
theorem j2:mapsRowed Tryz.pinned.checked.prog=true:=by kernel_rfl
theorem j3:(Tryz.f4.params.all (Tryz.pinned.checked.prog.readableRec .))=true:=by kernel_rfl
theorem j4:namedTie Tryz.pinned.checked.prog Rows.bootNewsRow.named Rows.bootNewsSpec.vars=true:=by kernel_rfl
theorem j5:(Rows.bootNewsRow.stops==[])=true:=by kernel_rfl
theorem j6:(Tryz.pinned.checked.prog.stops==[])=true:=by kernel_rfl
theorem j7:(Rows.bootNewsRow.knobs==[])=true:=by kernel_rfl
theorem j8:(Tryz.pinned.checked.prog.stopKnobs==[])=true:=by kernel_rfl
theorem j9:(Rows.bootNewsRow.inPlace==Tryz.pinned.checked.prog.inPlace 4)=true:=by kernel_rfl
theorem j10:(Rows.bootNewsRow.unfollowed==Tryz.pinned.checked.prog.unfollowed 4)=true:=by kernel_rfl
theorem j11:(Rows.bootNewsRow.recurses==Tryz.pinned.checked.prog.recurses 4)=true:=by kernel_rfl
theorem j12:(Rows.bootNewsRow.named==Tryz.pinned.checked.prog.varsNamed 4)=true:=by kernel_rfl
theorem j13:((Rows.bootNewsRow.maps==(Tryz.f4.params.toList++Rows.bootNewsSpec.plain.varTypes Tryz.pinned.checked.prog).any (Tryz.pinned.checked.prog.mapsRec .)))=true:=by kernel_rfl
theorem j14:((Rows.bootNewsRow.ifaces==(Tryz.f4.params.toList++Rows.bootNewsSpec.plain.varTypes Tryz.pinned.checked.prog).any (Tryz.pinned.checked.prog.ifacesRec .)))=true:=by kernel_rfl
theorem j15:(Rows.bootNewsRow.mapsOut==Tryz.pinned.checked.prog.mapsAmong Tryz.f4.resultTypes.toList)=true:=by kernel_rfl
theorem j16:((Rows.bootNewsRow.loops==(Tryz.f4.params.toList++Rows.bootNewsSpec.plain.varTypes Tryz.pinned.checked.prog).any (Tryz.pinned.checked.prog.loopsFrom .)))=true:=by kernel_rfl
theorem j17:((Rows.bootNewsRow.wideKeys==(Tryz.f4.params.toList++Rows.bootNewsSpec.plain.varTypes Tryz.pinned.checked.prog++Tryz.f4.resultTypes.toList).any (Tryz.pinned.checked.prog.wideKeysFrom .)))=true:=by kernel_rfl
theorem j18:(Rows.bootNewsSpec.vars.all (Tryz.pinned.checked.prog.varReadable .))=true:=by kernel_rfl
theorem j19:Tryz.f4.resultTypes.all (λt=>Tryz.pinned.checked.prog.readableRec t&&decide (t<Tryz.pinned.checked.prog.types.size))=true:=by kernel_rfl
theorem j20:((Rows.bootNewsRow.ifacesOut==Tryz.f4.resultTypes.toList.any (Tryz.pinned.checked.prog.ifacesRec .)))=true:=by kernel_rfl
theorem j21:((Rows.bootNewsRow.loopsOut==Tryz.f4.resultTypes.toList.any (Tryz.pinned.checked.prog.loopsFrom .)))=true:=by kernel_rfl
theorem j22:(Rows.bootNewsRow.plainKeys==Tryz.pinned.checked.prog.plainKeys)=true:=by kernel_rfl
theorem j23:Rows.bootNewsRow.shortTexts.isNone=true:=by kernel_rfl
theorem j24:Tryz.pinned.checked.prog.stopsHeard=true:=by kernel_rfl
theorem j25:Tryz.pinned.checked.prog.mayEnter=true:=by kernel_rfl
theorem j26:(Rows.bootNewsRow.lifted==Tryz.pinned.checked.prog.liftsFinal)=true:=by kernel_rfl
theorem j27:(Tryz.pinned.checked.prog.make==some Rows.bootNewsRow.make)=true:=by kernel_rfl
theorem j29:(Rows.bootNewsRow.pinned==Rows.bootNewsRow.pinnedBy)=true:=by kernel_rfl
theorem j30:((Rows.bootNewsRow.veiled==(Tryz.f4.params.toList++Rows.bootNewsSpec.plain.varTypes Tryz.pinned.checked.prog++Tryz.f4.resultTypes.toList).any (Tryz.pinned.checked.prog.veiledRec .)))=true:=by kernel_rfl
theorem j31:Rows.bootNewsRow.veiledFits Tryz.pinned.checked.prog Tryz.f4.params.toList (Tryz.f4.params.toList++Rows.bootNewsSpec.plain.varTypes Tryz.pinned.checked.prog++Tryz.f4.resultTypes.toList)=true:=by kernel_rfl
theorem jn:Tryz.pinned.checked.prog.funcNamed Rows.bootNewsRow.func=some 4:=by kernel_rfl
theorem ji:Tryz.f4.isInstance Tryz.pinned.checked.prog Rows.bootNewsRow.origin Rows.bootNewsRow.targs:=br (by kernel_rfl)
theorem jw:Tryz.f4.isWrapper Tryz.pinned.checked.prog Rows.bootNewsRow.wrapper Rows.bootNewsRow.mainSum:=by unfold Func.isWrapper;first|(rw[aA (by decide+kernel)];kernel_rfl)|(rw[aB (by decide+kernel)];exact⟨rfl,rfl⟩)
theorem bootNews_holds:Rows.BootNewsSaid:=OpenClaim.holds_of_wide 4 Tryz.f4 rfl rfl rfl rfl rfl rfl rfl ⟨rfl,rfl,rfl,rfl,rfl⟩ rfl rfl rfl rfl rfl jn Tryz.func4 (i7 (i7 (i7 (i7 (i7 (i7 (i7 (i7 (i7 (i7 (i7 (i7 (i7 (i7 (i7 (i7 (i7 (i7 (i7 (i7 (i7 (i7 (i7 (i7 (i7 (i7 (i7 (i7 (i7 (i7 (i7 j0 j1) j2) j3) j4) j5) j6) j7) j8) j9) j10) j11) j12) j13) j14) j15) j16) j17) j18) j19) j20) j21) j22) j23) j24) j25) j26) j27) (by kernel_rfl)) j29) j30) j31) ji jw λc d a b _=>x6 c d a b
end Go.Proofs.YtfjeeggbdncodaaGreat
