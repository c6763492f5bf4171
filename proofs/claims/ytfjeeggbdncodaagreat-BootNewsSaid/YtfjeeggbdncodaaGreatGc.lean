/-
  Rules, functions and laws for the last text, part c.
-/
import Derived.Test.YtfjeeggbdncodaaGreatGb
import Derived.Lib.MakeNoZero
import Derived.Test.YtfjeeggbdncodaaGreatProg
import Derived.KernelRfl
import Derived.Laws.StructEq
import Derived.ChangeKeysEq
set_option linter.unusedVariables false
set_option linter.unusedSimpArgs false
set_option linter.constructorNameAsVariable false
set_option linter.unusedSectionVars false
noncomputable section
namespace Go.Hm
open Go Go.RowKit Go.Wk
section
variable{P:Program}{n:Nat}{bD:Array Oper}{rest:List Oper}{k:dB->World->Prop}{F:dB}{w w':World}{o:Oper}{v:Value}
theorem Od(e:Region.wanted o (yielded bD (fr n F).tmps)=false)(c:Wk.LW P n bD rest k (qO F o.dst undef) w):Wk.LW P n bD (o::rest) k F w:=by unfold Wk.LW at*;intro a d;refine wpList_step λf b=>?_;rw[e];simp only[dU,fc];rw[wH];exact b _ _ (c a d)
theorem HT(f:Region.wanted o (yielded bD (fr n F).tmps)=true)(h:(execOp (ev n F) o).run P w= .ok (.value v) w')(d:Wk.LW P n bD rest k (qO F o.dst v) w'):Wk.LW P n bD (o::rest) k F w:=by unfold Wk.LW at*;intro b e;refine wpList_step λa c=>?_;rw[f];simp only[fI];unfold Oper.wp;rw[pz,h];show a ((fr n F).put o.dst v) w';rw[wH];exact c _ _ (d b e)
theorem QZ(f:Region.wanted o (yielded bD (fr n F).tmps)=true)(h:(execOp (ev n F) o).run P w= .ok .skip w')(d:Wk.LW P n bD rest k (qO F o.dst undef) w'):Wk.LW P n bD (o::rest) k F w:=by unfold Wk.LW at*;intro b e;refine wpList_step λa c=>?_;rw[f];simp only[fI];unfold Oper.wp;rw[pz,h];show a ((fr n F).put o.dst undef) w';rw[wH];exact c _ _ (d b e)
theorem Oe{f:FuncId}{args:Array Value}{R:Value->World->Prop}(l:Region.wanted o (yielded bD (fr n F).tmps)=true)(h:(execOp (ev n F) o).run P w= .ok (.enter f args) w)(g:yh P f args w R)(i:∀v w',R v w'->Wk.LW P n bD rest k (qO F o.dst v) w'):Wk.LW P n bD (o::rest) k F w:=by unfold Wk.LW at*;intro b j;refine wpList_step λa c=>?_;rw[l];simp only[fI];unfold Oper.wp;rw[pz,h];refine Calls.mono g ?_;rintro e w'⟨v,rfl,d⟩;show a ((fr n F).put o.dst v) w';rw[wH];exact c _ _ (i v w' d b j)
end
section
variable{P:Program}{n:Nat}{F:dB}{ρ ρ':Rn}{s s':St}{w w':World}{cx:Cx}{ih:nM}
theorem nQ(s:St)(d:Option Nat)(v:HV):(s.put d v).nx=s.nx:=by cases d with
 |none=>rfl
 |some d=>unfold St.put;simp only[aH];split<;>rfl
theorem nR(s:St)(d:Option Nat)(v:HV):(s.put d v).hp=s.hp:=by cases d with
 |none=>rfl
 |some d=>unfold St.put;simp only[aH];split<;>rfl
theorem QS{v:HV}{u:Value}(h:VR ρ v u)(h1:∀b,v≠.bool b)(h2:v≠.any):∀b,u≠.bool b:=by
 intro b a;subst a;cases v;case any=>exact h2 rfl
 case bool c=>exact h1 c rfl
 all_goals unfold VR at h;simp[undef]at h
theorem uH{bD:Array Oper}{o:Oper}{b:Bool}(i:iA ρ n s F)(h:takes s bD o=some b):Region.wanted o (yielded bD (fr n F).tmps)=b:=by
 unfold takes at h;unfold Region.wanted;split at h;.rename_i e;cases h;rw[e]
 .
  rename_i j y e;rw[e];simp only;split at h
  .
   rename_i g f;have d:=i.2 g;split at h;.rename_i c m;cases h;rw[m]at d;unfold VR at d;rw[FX f d];cases c<;>cases y<;>rfl
   .cases h
   .
    rename_i r t;cases h;have u:=QS d (λb a=>r b a) λl=>t l
    have x:yielded bD (fr n F).tmps j=none:=by
     unfold yielded;rw[f];simp only[Option.bind_some];have p:=pz n F;have q:∀b,(fr n F).tmps[g]?≠some (.bool b):=by intro b a;apply u b;rw[<-p];show(fr n F).tmps.getD g undef=_;rw[kG,a];rfl
     split;.rename_i b a;exact absurd a (q b)
     .rfl
    rw[x];rfl
  .cases h
theorem zU(s:St)(d t:Nat)(v:HV):(s.put (some d) v).tmp t=if d<s.nt/\t=d then v else s.tmp t:=by
 unfold St.put;simp only[aH];split
 .
  rename_i h;have h:=jV.1 h;unfold St.tmp;simp only[Tr.dk];by_cases a:t=d;.rw[aA a,aA ⟨h,a⟩]
  .rw[aB a,aB λx=>a x.2]
 .rename_i h;rw[aB λx=>h (jV.2 x.1)]
theorem Lv(n:Nat)(F:dB)(d t:Nat)(u:Value):ev n (iE F d u) (.tmp t)=if d<n/\t=d then u else ev n F (.tmp t):=by
 show(bif Nat.blt t n then iE F d u t else undef)=if d<n/\t=d then u else bif Nat.blt t n then F t else undef;by_cases b:t=d
 .
  subst b;by_cases a:t<n;.rw[aA ⟨a,rfl⟩,jV.2 a,MT];rfl
  .
   have:Nat.blt t n=false:=by cases c:Nat.blt t n with
    |false=>rfl
    |true=>exact absurd (jV.1 c) a
   rw[aB λx=>a x.1,this];rfl
 .rw[aB λx=>b x.2,mh _ _ b]
theorem iA.put(h:iA ρ n s F)(d:Option Nat){v:HV}{u:Value}(a:VR ρ v u):iA ρ n (s.put d v) (qO F d u):=by
 cases d with
  |none=>exact h
  |some d=>
  refine⟨?_,λt=>?_⟩;.rw[<-h.1];unfold St.put;simp only[aH];split<;>rfl
  .
   show VR ρ _ (ev n (iE F d u) (.tmp t));rw[zU,Lv,h.1];split;.exact a
   .exact h.2 t
theorem iA.ext(h:iA ρ n s F)(e:sQ ρ ρ')(h1:s'.nt=s.nt)(h2:s'.dC=s.dC)(a:s'.df=s.df):iA ρ' n s' F:=by
 refine⟨h1.trans h.1,λt=>?_⟩;have:s'.tmp t=s.tmp t:=by unfold St.tmp;rw[h2,a]
 rw[this];exact VR.ext e _ _ (h.2 t)
def Xq(K:yR):Ex->dB->World->Prop| .cN=>K.cN| .ret=>K.ret| .exit a=>Wk.ww a K.tB
def tS(P:Program)(ih:nM):Prop:=∀c s e s',ih c s=some (e,s')->∀(n:Nat)(ρ:Rn)(F:dB)(w:World)(b:yR),iA ρ n s F->eT ρ s.hp w->Fr s->jX ρ s.nx s'.nx->(∀ρ' a w',iA ρ' n s' a->fp ρ s w ρ' s' w'->Xq b e a w')->W P n c b F w
def BK(ρ:Rn)(s:St)(w:World)(s':St)(v:HV)(u:Value)(w':World):Prop:=∃ρ',VR ρ' v u/\fp ρ s w ρ' s' w'
theorem Bg:∀(l:List HV)(i t:Nat)(T:Tr HV),(lU i l T).ap t=if i<=t/\t<i+l.length then l[t-i]? else T.ap t
 |[],i,t,T=>by rw[aB (by simp only[fZ];omega)];rfl
 |v::a,i,t,T=>by
  show(lU (i+1) a (T.set i v)).ap t=_;rw[Bg a,Tr.dk,bp];by_cases h:t=i;.subst h;rw[aB (by omega),aA rfl,aA (by omega),dW];rfl
  .
   rw[aB h];by_cases b:i+1<=t/\t<i+1+a.length
   .
    rw[aA b,aA (by omega)];have:t-i=t-(i+1)+1:=by omega
    rw[this,dD]
   .rw[aB b,aB (by omega)]
theorem HB{args:List HV}{us:List Value}{m:Nat}{hp:Tr Obj}{nx:Nat}{lk:List Nat}(h:dN ρ args us)(f:args.length<=m):iA ρ m ⟨m,lU 0 args .e,hp,nx,lk,.undef⟩ (nU us.toArray):=by
 refine⟨rfl,λt=>?_⟩;have e:=eW h;unfold St.tmp;simp only[Bg,a5,true_and,bi,iR,Tr.kN];show VR ρ _ (bif Nat.blt t m then nU us.toArray t else undef);by_cases a:t<args.length
 .
  rw[aA a,jV.2 (by omega)];rw[G a];obtain⟨u,b,c⟩:=jW h t _ (G a);have:nU us.toArray t=u:=by unfold nU;simp[kG,b]
  simp only[gg,this];exact c
 .
  rw[aB a];have d:nU us.toArray t=undef:=by unfold nU;have:us[t]?=none:=fh (by omega);simp[kG,this]
  simp only[d];unfold VR;cases Nat.blt t m<;>rfl
theorem EF{g:ResultVar->Sem Value}(z:∀t,g (.tmp t)=pure ((fr n F).tmps.getD t undef))(A:∀a t,g (.cell a t)=do loadVar t (<-asAddr ((fr n F).tmps.getD a undef)))(r:gm P cx)(p:eT ρ s.hp w)(d:iA ρ n s F):∀{f:List ResultVar}{l:List HV},pm cx s f=some l->∃us,(f.mapM g).run P w= .ok us w/\dN ρ l us
 |[],l,h=>by cases h;exact⟨[],by simp,by unfold dN;rfl⟩
 | .tmp t::f,l,h=>by
  unfold pm at h;split at h;.rename_i s0 B;cases h;obtain⟨us,i,j⟩:=EF z A r p d B;have x:(fr n F).tmps.getD t undef=ev n F (.tmp t):=congrFun (pz n F) (.tmp t);refine⟨ev n F (.tmp t)::us,?_,by unfold dN;exact⟨_,us,rfl,d.2 t,j⟩⟩;simp only[sL,z,Sem.run_bind,Sem.run_pure,Result.andThen_ok,i,x]
  .cases h
 | .cell a t::f,l,h=>by
  unfold pm at h;split at h
  .
   rename_i u r0 e;split at h
   .
    rename_i s0 B;cases h;obtain⟨us,i,j⟩:=EF z A r p d B;have x:(fr n F).tmps.getD a undef=ev n F (.tmp a):=congrFun (pz n F) (.tmp a);obtain⟨v,t0,y,z0,y0⟩:=GS (P:=P) (n:=n) (F:=F) (w:=w) r p e (d.2 a) (x:= .tmp a);cases t0
    have u0:∃q,ev n F (.tmp a)= .pointer (some q):=by
     have:=d.2 a;unfold iw at e;split at e;.rename_i b o w0;rw[w0]at this;unfold VR at this;obtain⟨q,_,h⟩:=this;exact⟨_,h⟩
     .cases e
    obtain⟨q,C⟩:=u0;have c:=z0.run none 0 "" #[] none;simp only[execOp,C,Instr.loadAt,Instr.sureAddr,Sem.run_bind,Sem.run_pure,Result.andThen_ok]at c
    have v0:(loadVar t q).run P w= .ok y w:=by cases D:(loadVar t q).run P w with
     |ok a b=>rw[D]at c;simp only[Result.andThen_ok]at c;injection c with m x0;injection m with m;rw[m,x0]
     |halt a b=>rw[D]at c;cases c
    refine⟨y::us,?_,by unfold dN;exact⟨_,us,rfl,y0,j⟩⟩;simp only[sL,A,Sem.run_bind,Sem.run_pure,Result.andThen_ok,x,C,asAddr,v0,i]
   .cases h
  .cases h
theorem Gq (hc : gm P cx) (hH : eT ρ s.hp w) (hE : iA ρ n s F) {rs : Array ResultVar} {l : List HV} (h : pm cx s rs.toList = some l) : ∃ u, TO P rs n F w u ∧ VR ρ (one l) u := by
  have hres : ∃ us, (∀ fn : Func, fn.results = rs → (results fn (fr n F).tmps).run P w = .ok (if h : us.toArray.size = 1 then us.toArray[0] else .tuple us.toArray) w) ∧ dN ρ l us := by
    let g0 : ResultVar → Sem Value := fun x => match x with
      | .tmp t => pure ((fr n F).tmps.getD t undef)
      | .cell a t => do loadVar t (← asAddr ((fr n F).tmps.getD a undef))
    obtain ⟨us, h1, h2⟩ := EF (P := P) (g := g0) (fun _ => rfl) (fun _ _ => rfl) hc hH hE h
    have key : ∀ g : ResultVar → Sem Value, (∀ t, g (.tmp t) = pure ((fr n F).tmps.getD t undef)) → (∀ a t, g (.cell a t) = (do loadVar t (← asAddr ((fr n F).tmps.getD a undef)))) → (rs.toList.mapM g).run P w = .ok us w := by
      intro g q1 q2
      have : g = g0 := funext fun x => by cases x <;> first | exact q1 _ | exact q2 _ _
      rw [this]; exact h1
    refine ⟨us, fun fn hr => ?_, h2⟩
    unfold results
    rw [hr]
    simp only [Sem.run_bind, Array.mapM_eq_mapM_toList, Sem.run_map]
    rw [key]
    · rfl
    · intro t; rfl
    · intro a t; rfl
  obtain ⟨us, h1, h2⟩ := hres
  have hl := eW h2
  refine ⟨if h : us.toArray.size = 1 then us.toArray[0] else .tuple us.toArray, h1, ?_⟩
  · match l, us, h2, hl with
    | [], [], _, _ => show VR ρ (.mx []) (.tuple #[]); unfold VR; exact ⟨[], rfl, by unfold dN; rfl⟩
    | [a], [u], h2, _ =>
      unfold dN at h2
      obtain ⟨u', us', h3, h4, h5⟩ := h2
      cases h3
      exact h4
    | a :: b :: l, u :: u2 :: us, h2, _ =>
      show VR ρ (.mx (a :: b :: l)) _
      simp only [pR, bp]
      rw [dif_neg (by omega)]
      unfold VR
      exact ⟨_, rfl, h2⟩
theorem Hv(j:gm P cx)(hi:tS P ih)(hg:io ih){f:FuncId}{args:List HV}{v:HV}{us:List Value}(h:call cx ih f args s=some (v,s'))(y:eT ρ s.hp w)(y0:Fr s)(z:jX ρ s.nx s'.nx)(t:dN ρ args us):(∃u w',(callFunc f us.toArray).run P w= .ok (.value u) w'/\BK ρ s w s' v u w')\/(callFunc f us.toArray).run P w= .ok (.enter f us.toArray) w/\yh P f us.toArray w (BK ρ s w s' v):=by
 unfold call at h;split at h
 .
  rename_i q v0;rcases j.ext f q v0 args s s' v ρ w us h y z t with⟨u,w',ρ',m,p,z0⟩|h;.exact .inl ⟨u,w',m,ρ',p,z0⟩
  .exact .inr h
 .
  split at h
  .
   rename_i a B;have C:=j.fn f a B;have w0:=j.nm f a B;split at h
   .
    rename_i c A;rw[aH]at h;split at h
    .
     rename_i D;simp only[bO]at D;right;have s0:=eW t;refine⟨?_,?_⟩
     .
      have:(a.name== "runtime.NumGoroutine")=false:=w0;have r:¬a.name= "runtime.NumGoroutine" :=by simpa using this
      simp[callFunc,Sem.run,C,r,A,program]
     .
      split at h;.cases h
      .
       rename_i e g r u0;split at h
       .
        rename_i l x0;cases h;refine Kt C A rfl rfl (by simp;omega) ?_;have x:∀ρ' d w',iA ρ' a.ntmps g d->fp ρ ⟨a.ntmps,lU 0 args .e,s.hp,s.nx,s.lk,.undef⟩ w ρ' g w'->∃u,TO P a.results a.ntmps d w' u/\BK ρ s w ⟨s.nt,s.dC,g.hp,g.nx,s.lk,s.df⟩ (one l) u w':=by intro ρ' d w' i b;obtain⟨u,m,p⟩:=Gq (P:=P) j b.qY i x0;exact⟨u,m,ρ',p,⟨b.qY,b.tg,b.kp,b.dr,b.nx⟩⟩
        refine hi c _ e g u0 a.ntmps ρ _ w _ (HB t D) y y0 z ?_;intro ρ' d w' i b
        cases e with
         |cN=>exact x ρ' d w' i b
         |ret=>exact x ρ' d w' i b
         |exit t0=>exact(r t0 rfl).elim
       .cases h
      .cases h
    .cases h
   .cases h
  .cases h
theorem xp(x:gm P cx)(hi:tS P ih)(hg:io ih){bD:Array Oper}{o:Oper}{rest:List Oper}{k:dB->World->Prop}(h:gy cx ih bD s o=some s')(j:iA ρ n s F)(r:eT ρ s.hp w)(C:takes s bD o=some true->∀f args,kU cx s o.op=some (.call f args)->Fr s)(m:jX ρ s.nx s'.nx)(K:∀ρ' u w',iA ρ' n s' (qO F o.dst u)->fp ρ s w ρ' s' w'->Wk.LW P n bD rest k (qO F o.dst u) w'):Wk.LW P n bD (o::rest) k F w:=by
 unfold gy at h;split at h
 .
  rename_i y;have p:=uH j y;split at h
  .
   rename_i v c l;cases h;have D:=Bl (P:=P) (w:=w) x r j l;have d:=nQ c o.dst v;have e:=nR c o.dst v;rw[d]at m;obtain⟨u,w',ρ',q,t,b,i,g,B⟩:=D m;refine HT p (q.run _ _ _ _ _) (K ρ' _ w' ?_ ?_);.exact(j.ext (b.ext m) i g (sb l:cZ s c).df).put _ t
   .exact⟨by rw[e];exact b.qY,by rw[d];exact b.tg,b.kp,by rw[e];exact b.dr,by rw[d];exact b.nx⟩
  .rename_i c l;cases h;obtain⟨w',q,b,i,g,B,z0⟩:=Bl (P:=P) (w:=w) x r j l;have d:=nQ c o.dst .undef;have e:=nR c o.dst .undef;refine QZ p (q.run _ _ _ _ _) (K ρ _ w' ((j.ext (sQ.refl _) i g (sb l:cZ s c).df).put _ (by unfold VR;rfl)) ?_);exact⟨by rw[e];exact b.qY,by rw[d];exact b.tg,b.kp,by rw[e];exact b.dr,by rw[d];exact b.nx⟩
  .
   rename_i f args l;obtain⟨y0,q,t⟩:=Bl (P:=P) (w:=w) x r j l;split at h
   .
    rename_i v c a;cases h;have d:=nQ c o.dst v;have e:=nR c o.dst v;rw[d]at m
    have A:c.nt=s.nt/\c.dC=s.dC:=by
     unfold call at a;split at a
     .
      unfold xG at a;split at a
      .
       rw[aH]at a;split at a;.cases a;exact⟨rfl,rfl⟩
       .cases a
      .cases a;exact⟨rfl,rfl⟩
      .cases a
     .
      split at a
      .
       split at a
       .
        rw[aH]at a;split at a
        .
         split at a;.cases a
         .
          split at a;.cases a;exact⟨rfl,rfl⟩
          .cases a
         .cases a
        .cases a
       .cases a
      .cases a
    have z:∀u w',BK ρ s w c v u w'->Wk.LW P n bD rest k (qO F o.dst u) w':=by rintro u w'⟨ρ',i,g⟩;refine K ρ' _ w' ((j.ext (g.ext m) A.1 A.2 (Br hg a).df).put _ i) ?_;exact⟨by rw[e];exact g.qY,by rw[d];exact g.tg,g.kp,by rw[e];exact g.dr,by rw[d];exact g.nx⟩
    rcases Hv x hi hg a r (C y _ _ l) m q with⟨u,w',b,i⟩|⟨b,i⟩;.exact HT p ((t _ _ _ _ _).trans b) (z u w' i)
    .exact Oe p ((t _ _ _ _ _).trans b) i z
   .cases h
  .cases h
 .rename_i y;have p:=uH j y;cases h;refine Od p (K ρ _ w (j.put _ (by unfold VR;rfl)) ?_);have d:=nQ s o.dst .undef;have e:=nR s o.dst .undef;exact⟨by rw[e];exact r,λ_ _=>rfl,zg.refl _ _,by rw[e];exactλ_ h=> .inl h,by rw[d];exact au _⟩
 .cases h
theorem Ak(i:gm P cx)(hi:tS P ih)(hg:io ih){bD:Array Oper}{k:dB->World->Prop}:∀{l:List Oper}{s s':St}{ρ:Rn}{F:dB}{w:World},ju cx ih bD s l=some s'->iA ρ n s F->eT ρ s.hp w->Fr s->jX ρ s.nx s'.nx->(∀ρ' g w',iA ρ' n s' g->fp ρ s w ρ' s' w'->k g w')->Wk.LW P n bD l k F w
 |[],s,s',ρ,F,w,h,b,d,c,e,a=>by cases h;exact FF (a ρ F w b (fp.refl d))
 |o::l,s,s',ρ,F,w,h,b,d,c,e,a=>by
  unfold ju at h;split at h;.rename_i z j;have p:=la hg j;have q:=rK hg h;refine xp i hi hg j b d (λ_ _ _ _=>c) (e.sub (au _) q.nx) λC A B r f=>?_;exact Ak i hi hg h r f.qY (p.fr c) (f.undef e) λy m x t u=>a y m x t (f.trans u)
  .cases h
end
theorem px(m i:Nat):dd m i=m.testBit i:=by
 unfold dd tN;rw[Nat.testBit_eq_decide_div_mod_eq];show Nat.beq (m/2^i%2) 1=_;by_cases h:m/2^i%2=1;.rw[h];simp
 .rw[aQ h];cases a:Nat.beq (m/2^i%2) 1 with
  |false=>rfl
  |true=>exact absurd (aw a) h
theorem m8(a b i:Nat):dd (Nat.land a b) i=(dd a i&&dd b i):=by simp only[px];exact Nat.testBit_and a b i
theorem lm(a b i:Nat):dd (Nat.lor a b) i=(dd a i||dd b i):=by simp only[px];exact Nat.testBit_or a b i
theorem qg(i j:Nat):dd (tN i) j=true↔i=j:=by rw[px];unfold tN;show(2^i).testBit j=true↔_;rw[Nat.testBit_two_pow];simp
theorem E5(n i:Nat):dd (Nat.sub (tN n) 1) i=true↔i<n:=by rw[px];unfold tN;show(2^n-1).testBit i=true↔_;rw[Nat.testBit_two_pow_sub_one];simp
theorem rT(i:Nat):dd 0 i=false:=by rw[px];simp
theorem sZ{a b:Nat}(h:sub a b=true){i:Nat}(hi:dd a i=true):dd b i=true:=by unfold sub at h;have h:=aw h;rw[<-h,m8]at hi;simp only[ae]at hi;exact hi.2
structure R6 (T : Tr Nat) (i : Nat) (es : List Edge) (m0 m : Nat) : Prop where
  mono : ∀ j, dd m0 j = true → dd m j = true
  LA : ∀ e, e ∈ es → Region.binds .any e = true → e.on < i
  of : ∀ j, dd m j = true → dd m0 j = true ∨ ∃ e, e ∈ es ∧ Region.binds .any e = true ∧ (e.on = j ∨ dd ((T.ap e.on).getD 0) j = true)
theorem yb{T:Tr Nat}{i:Nat}:∀{q:List Edge}{g m:Nat},Bz T i q g=some m->R6 T i q g m
 |[],g,m,h=>by cases h;exact⟨λ_ h=>h,λ_ h=>(by cases h),λ_ h=> .inl h⟩
 |e::r,g,m,h=>by
  unfold Bz at h;split at h
  .
   rename_i f;obtain⟨k,l,n⟩:=yb h;refine⟨k,λa b c=>?_,λj d=>?_⟩
   .
    rcases cm.1 b with rfl|b;.rw[f]at c;cases c
    .exact l a b c
   .
    rcases n j d with h|⟨a,o,p⟩;.exact .inl h
    .exact .inr ⟨a,cT _ o,p⟩
  .
   rename_i f;rw[aH]at h;split at h
   .
    rename_i s;obtain⟨k,l,n⟩:=yb h;refine⟨λj d=>k j (by rw[lm,d];rfl),λa b c=>?_,λj d=>?_⟩
    .
     rcases cm.1 b with rfl|b;.exact jV.1 s
     .exact l a b c
    .
     rcases n j d with h|⟨a,o,p⟩
     .
      rw[lm,lm,eX,eX]at h;rcases h with h|h|h;.exact .inl h
      .exact .inr ⟨e,bX,f,.inl ((qg _ _).1 h)⟩
      .exact .inr ⟨e,bX,f,.inr h⟩
     .exact .inr ⟨a,cT _ o,p⟩
   .cases h
theorem Bx:∀{r:List Oper}{i:Nat}{T a:Tr Nat},HC r i T=some a->(∀j,j<i->a.ap j=T.ap j)/\∀(k:Nat)(o:Oper),r[k]?=some o->∃m,a.ap (i+k)=some m/\R6 a (i+k) o.after.toList 0 m
 |[],i,T,a,h=>by cases h;exact⟨λ_ _=>rfl,λk o b=>by simp at b⟩
 |o::r,i,T,a,h=>by
  unfold HC at h;split at h
  .
   rename_i m u;obtain⟨l,t⟩:=Bx h;have n:∀j,j<i->a.ap j=T.ap j:=λj c=>by rw[l j (pO c),Tr.bS _ _ (by omega)]
   refine⟨n,λk v b=>?_⟩
   cases k with
    |zero=>
    simp at b;subst b;refine⟨m,by rw[fu,l i (a7 i),Tr.a8],?_⟩;obtain⟨p,d,q⟩:=yb u;refine⟨p,d,λj c=>?_⟩;rcases q j c with h|⟨e,f,g,s⟩;.exact .inl h
    .exact .inr ⟨e,f,g,by rw[n e.on (d e f g)];exact s⟩
    |succ k=>simp at b;have:=t k v b;rw[show i+(k+1)=Nat.add i 1+k by show _=i+1+k;omega];exact this
  .cases h
theorem HD{bD:List Oper}{T:Tr Nat}(h:HC bD 0 .e=some T){S:Array Bool}(q:xi bD S):∀(i:Nat)(o:Oper),bD[i]?=some o->(∀e∈o.after.toList,Region.binds .any e=true->S.getD e.on false=true)->∀j,dd ((T.ap i).getD 0) j=true->S.getD j false=true:=by
 intro i
 induction i using Nat.strongRecOn with
  |_ i v=>
  intro o l s j g;obtain⟨m,d,b⟩:=(Bx h).2 i o l;rw[bi]at d b;rw[d]at g;rcases b.of j g with a|⟨e,a,f,c⟩;.rw[rT]at a;cases a
  .
   have u:=b.LA e a f;have n:=s e a f;rcases c with rfl|c;.exact n
   .
    have k:e.on<bD.length:=by have:=gv l;omega
    exact v e.on u _ (G k) (λp t r=>q e.on _ (G k) n p t r) j c
def nv(e:Nat)(r:List (Nat×List Nat))(q j:Nat):Prop:=dd e j=true\/∃(a:Nat)(x:Nat×List Nat),a<q/\r[a]?=some x/\x.1=j
theorem pi{e i q j:Nat}{lk:List Nat}{r:List (Nat×List Nat)}:nv e ((i,lk)::r) (q+1) j↔nv (Nat.lor e (tN i)) r q j:=by
 unfold nv;rw[lm,eX,qg];constructor
 ·
  rintro(h|⟨b,x,d,a,c⟩);·exact .inl (.inl h)
  ·cases b with
   |zero=>simp at a;subst a;exact .inl (.inr c)
   |succ b=>simp at a;exact .inr ⟨b,x,by omega,a,c⟩
 ·
  rintro((h|h)|⟨b,x,d,a,c⟩);·exact .inl h
  ·exact .inr ⟨0,(i,lk),by omega,rfl,h⟩
  ·exact .inr ⟨b+1,x,by omega,by simpa using a,c⟩
theorem AL:∀{l:List Nat}{j:Nat},dd (EP l) j=true->j∈l
 |[],j,h=>by have:dd 0 j=true:=h;rw[rT]at this;cases this
 |a::l,j,h=>by
  have h:dd (Nat.lor (tN a) (EP l)) j=true:=h;rw[lm,eX,qg]at h;rcases h with rfl|h;.exact bX
  .exact cT _ (AL h)
theorem yC{p:Op->Bool}:∀{l:List Oper}{i k:Nat}{o:Oper},l[k]?=some o->p o.op=true->dd (lD p l i) (i+k)=true
 |[],i,k,o,h,b=>by simp at h
 |a::l,i,k,o,h,b=>by show dd (Nat.lor _ (lD p l (i+1))) _=true;rw[lm,eX];cases k with
  |zero=>simp at h;subst h;left;rw[b];exact(qg _ _).2 (fu i).symm
  |succ k=>simp at h;right;rw[show i+(k+1)=i+1+k by omega];exact yC h b
theorem yH{p:PC}:∀{r:List (Nat×List Nat)}{e:Nat},rU p e r=true→(∀j,j<p.bD.length→nv e r r.length j)∧∀(q:Nat)(x:Nat×List Nat),r[q]?=some x→x.1<p.bD.length∧¬nv e r q x.1∧(∀j,dd (p.nu x.1) j=true→nv e r q j)∧(dd p.ch x.1=true→∀j,nv e r q j→(dd p.ch j=true→dd (p.nu x.1) j=true)∧(dd p.fl j=true→dd (p.nu x.1) j=true)∧(dd p.ld j=true→dd (p.nu x.1) j=true∨j∈x.2))∧(dd p.ld x.1=true→∀j,nv e r q j→dd p.ch j=true→dd (p.nu x.1) j=true)
 |[],e,h=>by have h:=aw (show Nat.beq e (Nat.sub (tN p.bD.length) 1)=true from h);subst h;exact⟨fun j a=> .inl ((E5 _ _).2 a),fun q x b=>by simp at b⟩
 |(i,z0)::r,e,h=>by
  unfold rU at h;simp only[ae,eX,jd]at h;obtain⟨n,o,s,c,d,t⟩:=h;obtain⟨l,m⟩:=yH t;refine⟨fun j a=>pi.2 (l j a),fun q x b=>?_⟩
  cases q with
   |zero=>
   simp at b;subst b
   have g:∀j,nv e ((i,z0)::r) 0 j↔dd e j=true:=fun j=>⟨fun h=>by
    rcases h with h|⟨y0,x,h,_⟩;·exact h
    ·omega,.inl⟩
   refine⟨jV.1 n,?_,fun j a=>(g j).2 (sZ s a),fun f j a=>?_,fun y j a w=>?_⟩;·rw[g];intro k;rw[o]at k;cases k
   ·
    have a:=(g j).1 a;rcases c with c|⟨c,u,v⟩;·rw[f]at c;cases c
    ·refine⟨fun b=>sZ c (by rw[m8,a,b];rfl),fun b=>sZ u (by rw[m8,a,b];rfl),fun b=>?_⟩;have:=sZ v (i:=j) (by rw[m8,a,b];rfl);rw[lm,eX]at this;exact this.imp id AL
   ·
    have a:=(g j).1 a;rcases d with d|d;·rw[y]at d;cases d
    ·exact sZ d (by rw[m8,a,w];rfl)
   |succ q=>simp at b;obtain⟨z,A,B,C,D⟩:=m q x b;exact⟨z,fun h=>A (pi.1 h),fun j a=>pi.2 (B j a),fun f j a=>C f j (pi.1 a),fun f j a=>D f j (pi.1 a)⟩
theorem BB{bD:List Oper}:∀{l:List Nat}{c:List Operand},Fv bD l=some c->∀j,j∈l->∃(o:Oper)(a:Operand),bD[j]?=some o/\mr o.op=some a/\a∈c
 |[],c,h,j,b=>by cases b
 |a::l,c,h,j,b=>by
  unfold Fv at h;split at h
  .
   rename_i o k;split at h
   .
    rename_i x m;split at h
    .
     rename_i p i;cases h;rcases cm.1 b with rfl|b;.exact⟨o,x,k,m,bX⟩
     .obtain⟨n,d,e,f,g⟩:=BB i j b;exact⟨n,d,e,f,cT _ g⟩
    .cases h
   .cases h
  .cases h
theorem yB{bD:List Oper}:∀{l:List (Nat×List Nat)}{c:List Item},wu bD l=some c->c.length=l.length/\∀(q:Nat)(x:Item),c[q]?=some x->∃lk,l[q]?=some (x.i,lk)/\bD[x.i]?=some x.o/\∀j,j∈lk->∃(o:Oper)(a:Operand),bD[j]?=some o/\mr o.op=some a/\a∈x.lk
 |[],c,h=>by cases h;exact⟨rfl,λq x b=>by simp at b⟩
 |(i,lk)::l,c,h=>by
  unfold wu at h;split at h
  .
   rename_i o n;split at h
   .
    rename_i r k;split at h
    .rename_i s m;cases h;obtain⟨d,e⟩:=yB m;refine⟨by simp[d],λq x b=>?_⟩;cases q with
     |zero=>simp at b;subst b;exact⟨lk,rfl,n,BB k⟩
     |succ q=>simp at b;obtain⟨p,f,g⟩:=e q x b;exact⟨p,by simpa using f,g⟩
    .cases h
   .cases h
  .cases h
theorem mI:∀{r:List Oper}{i:Nat}{e W':Tr Nat},sW r i e=some W'->(∀d j,e.ap d=some j->W'.ap d=some j)/\∀(k:Nat)(o:Oper)(d:Nat),r[k]?=some o->o.dst=some d->W'.ap d=some (i+k)
 |[],i,e,W',h=>by cases h;exact⟨λ_ _ h=>h,λk o d a=>by simp at a⟩
 |o::r,i,e,W',h=>by
  unfold sW at h;split at h
  .
   rename_i d l;split at h;.cases h
   .
    rename_i p;obtain⟨f,g⟩:=mI h;refine⟨λc j m=>f c j ?_,λk n c a b=>?_⟩;.rw[Tr.bS _ _ ?_];exact m;rintro rfl;rw[p]at m;cases m
    .cases k with
     |zero=>simp at a;subst a;rw[l]at b;cases b;exact f _ _ (Tr.a8 _ _ _)
     |succ k=>simp at a;rw[show i+(k+1)=Nat.add i 1+k by show _=i+1+k;omega];exact g k n c a b
  .rename_i l;obtain⟨f,g⟩:=mI h;refine⟨f,λk n c a b=>?_⟩;cases k with
   |zero=>simp at a;subst a;rw[l]at b;cases b
   |succ k=>simp at a;rw[show i+(k+1)=Nat.add i 1+k by show _=i+1+k;omega];exact g k n c a b
theorem wc{p:PC}{d:Tr Nat}{i:Nat}:∀{l:List Operand},pn p d i l=true->∀t,Operand.tmp t∈l->∀j,d.ap t=some j->j=i\/dd (p.nu i) j=true\/dd (p.nu j) i=true
 |[],h,t,f,j,e=>by cases f
 |x::l,h,t,f,j,e=>by
  have g:pn p d i l=true/\(x= .tmp t->j=i\/dd (p.nu i) j=true\/dd (p.nu j) i=true):=by cases x with
   |tmp u=>unfold pn at h;rw[ae]at h;refine⟨h.2,λb=>?_⟩;cases b;have a:=h.1;rw[e]at a;simp only[eX]at a;exact a.imp aw id
   |const c=>exact⟨h,λb=>by cases b⟩
   |func c=>exact⟨h,λb=>by cases b⟩
   |_ c=>exact⟨h,λb=>by cases b⟩
  rcases cm.1 f with a|a;.exact g.2 a.symm
  .exact wc g.1 t a j e
theorem nY{p:PC}{c:Tr Nat}:∀{r:List Oper}{i:Nat},v8 p c r i=true->∀(k:Nat)(o:Oper),r[k]?=some o->tr o.op=true/\G2 p (i+k) o.guard=true/\pn p c (i+k) o.op.operands.toList=true/\xn p c (i+k) (mr o.op)=true
 |[],i,h,k,o,b=>by simp at b
 |a::r,i,h,k,o,b=>by unfold v8 at h;simp only[ae]at h;obtain⟨d,e,f,g,j⟩:=h;cases k with
  |zero=>simp at b;subst b;exact⟨d,e,f,g⟩
  |succ k=>simp at b;rw[show i+(k+1)=Nat.add i 1+k by show _=i+1+k;omega];exact nY j k o b
structure oX (bD : List Oper) (its : List Item) (A : Nat → Nat → Prop) : Prop where
  all : ∀ i, i < bD.length → ∃ (q : Nat) (x : Item), its[q]? = some x ∧ x.i = i
  op : ∀ (q : Nat) (x : Item), its[q]? = some x → bD[x.i]? = some x.o
  inj : ∀ (q q' : Nat) (x x' : Item), its[q]? = some x → its[q']? = some x' → x.i = x'.i → q = q'
  ni : ∀ (q : Nat) (x : Item), its[q]? = some x → ∀ j, A x.i j → ∃ (q' : Nat) (x' : Item), q' < q ∧ its[q']? = some x' ∧ x'.i = j
  LA : ∀ (i : Nat) (o : Oper), bD[i]? = some o → ∀ e ∈ o.after.toList, Region.binds .any e = true → e.on < i
  nu : ∀ S : Array Bool, xi bD S → ∀ (i : Nat) (o : Oper), bD[i]? = some o → (∀ e ∈ o.after.toList, Region.binds .any e = true → S.getD e.on false = true) → ∀ j, A i j → S.getD j false = true
  ch : ∀ (q : Nat) (x : Item), its[q]? = some x → fH x.o.op = true → ∀ (q' : Nat) (x' : Item), q' < q → its[q']? = some x' → (fH x'.o.op = true ∨ rl x'.o.op = true → A x.i x'.i) ∧ (qc x'.o.op = true → A x.i x'.i ∨ ∃ a, mr x'.o.op = some a ∧ a ∈ x.lk)
  ld : ∀ (q : Nat) (x : Item), its[q]? = some x → qc x.o.op = true → ∀ (q' : Nat) (x' : Item), q' < q → its[q']? = some x' → fH x'.o.op = true → A x.i x'.i
  KH : ∀ (i j : Nat) (o o' : Oper) (d : Nat), bD[i]? = some o → bD[j]? = some o' → o.dst = some d → o'.dst = some d → i = j
  PL : ∀ (i : Nat) (o : Oper), bD[i]? = some o → tr o.op = true
  reads : ∀ (i : Nat) (o : Oper) (t : Nat), bD[i]? = some o → Operand.tmp t ∈ o.op.operands.toList → ∀ (j : Nat) (o' : Oper), bD[j]? = some o' → o'.dst = some t → j = i ∨ A i j ∨ A j i
  guard : ∀ (i : Nat) (o : Oper) (j : Nat) (w : Bool), bD[i]? = some o → o.guard = some (j, w) → A i j
  Sl : ∀ (i : Nat) (o : Oper) (t : Nat), bD[i]? = some o → mr o.op = some (.tmp t) → ∀ (j : Nat) (o' : Oper), bD[j]? = some o' → o'.dst = some t → A i j
theorem Ji{bD:List Oper}{C:List Item}(h:nS bD=some C):∃A,oX bD C A:=by
 unfold nS at h;split at h
 ·
  rename_i j0 g0;split at h
  ·
   rename_i k9 r0;rw[aH]at h;split at h
   ·
    rename_i B;rw[ae]at B;generalize s0:(⟨bD,j0,lD fH bD 0,lD rl bD 0,lD qc bD 0⟩:PC)=p at h B;generalize Ep p (Dk qc bD 0) 0 (Dk fH bD 0)=l at h B;have c0:p.bD=bD:=by rw[←s0]
    have b0:∀i,p.nu i=(j0.ap i).getD 0:=fun i=>by rw[←s0];rfl
    have p0:p.ch=lD fH bD 0:=by rw[←s0]
    have a0:p.fl=lD rl bD 0:=by rw[←s0]
    have i0:p.ld=lD qc bD 0:=by rw[←s0]
    obtain⟨h0,w0⟩:=yH B.1;rw[c0]at h0 w0;obtain⟨m9,v⟩:=yB h
    have m0:=fun q j=>show nv 0 l q j↔∃(b:Nat)(x:Nat×List Nat),b<q∧l[b]?=some x∧x.1=j from⟨fun h=>by
     rcases h with h|h;·rw[rT]at h;cases h
     ·exact h,.inr⟩
    have e0:∀(b:Nat)(y:Nat×List Nat),l[b]?=some y→∃x:Item,C[b]?=some x∧x.i=y.1:=fun b y f0=>by
     have u:b<C.length:=by rw[m9];exact gv f0
     obtain⟨D,f,_⟩:=v b _ (G u);rw[f0]at f;cases f;exact⟨_,G u,rfl⟩
    have k0:∀(b q:Nat)(c:Item),b<q→C[b]?=some c→nv 0 l q c.i:=fun b q c u n=>by obtain⟨D,f,_⟩:=v b c n;exact(m0 q _).2 ⟨b,_,u,f,rfl⟩
    have y0:∀(l0:Op→Bool)(q:Nat)(x:Item),C[q]?=some x→l0 x.o.op=true→dd (lD l0 bD 0) x.i=true:=fun l0 q x k r9=>by obtain⟨D,_,r,_⟩:=v q x k;have:=yC (i:=0) r r9;rwa [bi]at this
    refine⟨fun i j=>dd (p.nu i) j=true,?_,?_,?_,?_,?_,?_,?_,?_,?_,?_,?_,?_,?_⟩;·intro i t9;obtain⟨q,y,_,r,g⟩:=(m0 _ _).1 (h0 i t9);obtain⟨x,z0,v0⟩:=e0 q y r;exact⟨q,x,z0,v0.trans g⟩
    ·intro q x k;obtain⟨D,_,r,_⟩:=v q x k;exact r
    ·
     have d0:∀(q b:Nat)(x c:Item),b<q→C[q]?=some x→C[b]?=some c→x.i≠c.i:=fun q b x c u k n z=>by obtain⟨D,f,_⟩:=v q x k;exact(w0 q _ f).2.1 (by rw[show(x.i,D).1=c.i from z];exact k0 b q c u n)
     intro q b x c k n z;rcases mF q b with h|h|h;·exact absurd z.symm (d0 b q c x h n k)
     ·exact h
     ·exact absurd z (d0 q b x c h k n)
    ·intro q x k j q0;obtain⟨D,f,_⟩:=v q x k;obtain⟨b,y,r,g,z0⟩:=(m0 _ _).1 ((w0 q _ f).2.2.1 j q0);obtain⟨c,v0,o0⟩:=e0 b y g;exact⟨b,c,r,v0,o0.trans z0⟩
    ·intro i o s e z w9;obtain⟨m,f,r⟩:=(Bx g0).2 i o s;rw[bi]at r;exact r.LA e z w9
    ·intro l9 y9 i o s z j q0;rw[b0]at q0;exact HD g0 y9 i o s z j q0
    ·
     intro q x k n0 b c u n;obtain⟨D,f,r,g⟩:=v q x k;obtain⟨p9,o9,n9⟩:=(w0 q _ f).2.2.2.1 (by rw[p0];exact y0 fH q x k n0) c.i (k0 b q c u n);refine⟨fun h=>?_,fun h=>?_⟩
     ·
      rcases h with h|h;·exact p9 (by rw[p0];exact y0 _ b c n h)
      ·exact o9 (by rw[a0];exact y0 _ b c n h)
     ·
      rcases n9 (by rw[i0];exact y0 _ b c n h)with h|h;·exact .inl h
      ·obtain⟨x0,a,z0,v0,o0⟩:=g _ h;obtain⟨_,_,z9,_⟩:=v b c n;rw[z9]at z0;cases z0;exact .inr ⟨a,v0,o0⟩
    ·intro q x k s9 b c u n n0;obtain⟨D,f,_⟩:=v q x k;exact(w0 q _ f).2.2.2.2 (by rw[i0];exact y0 _ q x k s9) c.i (k0 b q c u n) (by rw[p0];exact y0 _ b c n n0)
    ·intro i j o x0 d s t0 u0 v9;have f:=(mI r0).2 i o d s u0;have r:=(mI r0).2 j x0 d t0 v9;rw[f]at r;simp only[eL]at r;omega
    ·intro i o s;exact(nY B.2 i o s).1
    ·intro i o t s q9 j x0 t0 u0;obtain⟨_,_,g,_⟩:=nY B.2 i o s;have f:=(mI r0).2 j x0 t t0 u0;rw[bi]at f g;exact wc g t q9 j f
    ·intro i o j w s u9;obtain⟨_,g,_⟩:=nY B.2 i o s;rw[u9,bi]at g;exact g
    ·intro i o t s x9 j x0 t0 u0;obtain⟨_,_,_,g⟩:=nY B.2 i o s;have f:=(mI r0).2 j x0 t t0 u0;rw[x9,bi]at g;rw[bi]at f;unfold xn at g;simp only[f]at g;exact g
   ·cases h
  ·cases h
 ·cases h
def St.at(s:St)(h2:Tr Obj):St:=⟨s.nt,s.dC,h2,s.nx,s.lk,s.df⟩
def St.Ps(s:St)(X:Obj):St:=⟨s.nt,s.dC,s.hp.set s.nx X,Nat.add s.nx 1,s.lk,s.df⟩
inductive HS(fl:Bool)(s:St)(h2:Tr Obj):Rs->Rs->Prop|wb(v:HV):HS fl s h2 (.val v s) (.val v (s.at h2))|bP(v:HV)(X:Obj)(h:fl=true):HS fl s h2 (.val v (s.Ps X)) (.val v ((s.at h2).Ps X))
def Rs.to(s:St):Rs->Rs| .val v _=> .val v s|_=> .val .undef s
section
variable{cx:Cx}{s:St}{h2:Tr Obj}{r:Rs}
theorem lE{fl:Bool}{f1 f2:Option Rs}(a:f2=f1.map (Rs.to (s.at h2)))(b:f1=f1.map (Rs.to s))(h:f1=some r):∃c,f2=some c/\HS fl s h2 r c:=by subst h;simp only[lN,eL]at a b;refine⟨_,a,?_⟩;rw[b];cases r<;>exact .wb _
theorem vJ(x:Operand):(s.at h2).ev x=s.ev x:=by cases x<;>rfl
theorem Fc:∀xs:List Operand,(s.at h2).jI xs=s.jI xs
 |[]=>rfl
 |x::xs=>by unfold St.jI;rw[vJ,Fc xs]
theorem Fd(x:Option Operand):nq (s.at h2) x=nq s x:=by cases x with
 |none=>rfl
 |some x=>unfold nq;simp only[vJ]
theorem tC:∀xs:List (Nat×Operand),gR (s.at h2) xs=gR s xs
 |[]=>rfl
 |(i,x)::xs=>by unfold gR;rw[vJ,tC xs]
theorem je{k:HV->Option Rs}{x:Operand}{v:HV}(h:s.ev x=some v):fD (s.at h2) k x=k v:=by unfold fD;rw[vJ,h]
theorem Gz(a b:St)(c:HV)(x y:Option HV):ql a c x y=(ql b c x y).map (Rs.to a):=by unfold ql;((try simp only[aH]);repeat'(first|rfl|split))
theorem DH(a b:St)(t:Nat)(l:List (Nat×HV)):ky cx a t l=(ky cx b t l).map (Rs.to a):=by unfold ky;((try simp only[aH]);repeat'(first|rfl|split))
theorem K4(a b:St)(v:HV):vK a v=(vK b v).map (Rs.to a):=by unfold vK;((try simp only[aH]);repeat'(first|rfl|split))
theorem OI(a b:St)(op:UnOp)(v:HV):yL a op v=(yL b op v).map (Rs.to a):=by unfold yL;((try simp only[aH]);repeat'(first|rfl|split))
theorem yJ(a b:St)(v:HV)(i:Nat):ln a v i=(ln b v i).map (Rs.to a):=by unfold ln;((try simp only[aH]);repeat'(first|rfl|split))
theorem Dt(a b:St)(t:Nat)(v:HV)(i:Nat):l7 cx a t v i=(l7 cx b t v i).map (Rs.to a):=by unfold l7;((try simp only[aH]);repeat'(first|rfl|split))
theorem A7(a b:St)(t:Nat)(v i:HV):fX cx a t v i=(fX cx b t v i).map (Rs.to a):=by unfold fX;((try simp only[aH]);repeat'(first|rfl|split))
theorem Dh(a b:St)(t:Nat)(v i:HV):l5 cx a t v i=(l5 cx b t v i).map (Rs.to a):=by unfold l5;((try simp only[aH]);repeat'(first|rfl|split))
theorem LO(a b:St)(op:BinOp)(t:Nat)(v u:HV):(match lu cx op t v u with|some r=>some (Rs.val r a)|none=>none)=(match lu cx op t v u with|some r=>some (Rs.val r b)|none=>none).map (Rs.to a):=by cases lu cx op t v u<;>rfl
def uS(b:Nat):HV->Prop| .ptr c _=>c=b| .sl c _ _=>c=b| .jh c _ _=>c=b|_=>False
theorem zF{b:Nat}(h:h2.ap b=s.hp.ap b):(s.at h2).cp b=s.cp b:=by unfold St.cp St.at;rw[h]
theorem PB{t:Nat}{v:HV}(h:∀b,uS b v->h2.ap b=s.hp.ap b):iw cx (s.at h2) t v=(iw cx s t v).map (Rs.to (s.at h2)):=by
 unfold iw
 cases v with
  |ptr b o=>
  simp only;rw[zF (h b rfl)];try simp only[aH]
  repeat'(first|rfl|split)
  |_=>rfl
theorem Np{t:Nat}{v:HV}:iw cx s t v=(iw cx s t v).map (Rs.to s):=by unfold iw;((try simp only[aH]);repeat'(first|rfl|split))
theorem JX{v:HV}{z:Nat}(h:∀b,uS b v->h2.ap b=s.hp.ap b):cellsOf (s.at h2) z v=cellsOf s z v:=by unfold cellsOf;cases v with
 |sl b o n=>show(match(s.at h2).cp b with|some x=>_|none=>_)=_;rw[zF (h b rfl)];rfl
 |jh b o n=>show(match(s.at h2).cp b with|some x=>_|none=>_)=_;rw[zF (h b rfl)];rfl
 |_=>rfl
theorem Hn{t a:Nat}{v:HV}(h:∀b,uS b v->h2.ap b=s.hp.ap b):ge cx (s.at h2) t a v=(ge cx s t a v).map (Rs.to (s.at h2)):=by unfold ge;repeat'(first|rfl|rw[JX (by assumption)]|split)
theorem Fi{t a:Nat}{v:HV}:ge cx s t a v=(ge cx s t a v).map (Rs.to s):=by unfold ge;repeat'(first|rfl|split)
theorem M0{t:Nat}{v:HV}{lo hi c:Option HV}(h:∀b o n,v= .sl b o n->h2.ap b=s.hp.ap b):ew cx (s.at h2) t v lo hi c=(ew cx s t v lo hi c).map (Rs.to (s.at h2)):=by
 unfold ew
 cases cx.ti.ap t with
  |none=>rfl
  |some x=>
  cases fd lo with
   |none=>rfl
   |some lo=>
   cases fd hi with
    |none=>rfl
    |some hi=>
    cases fd c with
     |none=>rfl
     |some c=>
     obtain⟨a,f,e,g,d⟩:=x;cases d<;>cases v<;>first|rfl|skip
     all_goals try simp only
     all_goals try rw[zF (h _ _ _ rfl)]
     all_goals try simp only[aH]
     all_goals repeat'(first|rfl|split)
theorem Jb{t:Nat}{v:HV}{lo hi a:Option HV}:ew cx s t v lo hi a=(ew cx s t v lo hi a).map (Rs.to s):=by unfold ew;(try simp only[aH]);repeat'(first|rfl|split)
theorem Jz{t b:Nat}{v:HV}(a:uS b v)(c:s.hp.ap b=none):iw cx s t v=none:=by
 cases v<;>first|exact a.elim|rfl|skip
 cases a;unfold iw St.cp;simp only[c];split<;>rfl
theorem Ht{z b:Nat}{v:HV}(a:uS b v)(c:s.hp.ap b=none):cellsOf s z v=none:=by
 cases v<;>first|exact a.elim|rfl|skip
 all_goals cases a;show(match s.cp _ with|some x=>cF x _ _|none=>none)=none;unfold St.cp;simp only[c]
theorem Cm{t d b:Nat}{v:HV}(a:uS b v)(c:s.hp.ap b=none):ge cx s t d v=none:=by
 unfold ge;split
 .
  split;.exact a.elim
  .exact a.elim
  .repeat'(first|rfl|(rw[Ht a c])|split)
  .rfl
 .rfl
theorem Gi{t b o n:Nat}{lo hi c:Option HV}(d:s.hp.ap b=none):ew cx s t (.sl b o n) lo hi c=none:=by
 unfold ew
 cases cx.ti.ap t with
  |none=>rfl
  |some x=>
  cases fd lo with
   |none=>rfl
   |some lo=>
   cases fd hi with
    |none=>rfl
    |some hi=>
    cases fd c with
     |none=>rfl
     |some c=>
     obtain⟨a,g,f,i,e⟩:=x;cases e<;>first|rfl|skip
     show(match cx.size _,s.cp b with|some z,some y=>_|_,_=>none)=none;unfold St.cp;rw[d];split<;>first|rfl|(rename_i h;cases h)
theorem J9{t:Nat}(h:nf cx s t=some r):∃a,nf cx (s.at h2) t=some a/\HS true s h2 r a:=by
 unfold nf at h⊢;split at h
 .
  rename_i c;split at h
  .
   rename_i d;split at h;.rename_i b;cases h;exact⟨_,rfl,.bP _ (.cp _) rfl⟩
   .cases h
  .cases h
 .cases h
theorem Qq{v:HV}(h:sd s v=some r):∃a,sd (s.at h2) v=some a/\HS true s h2 r a:=by
 unfold sd at h⊢;split at h;.rename_i b;cases h;exact⟨_,rfl,.bP _ (.cp _) rfl⟩
 .cases h
theorem zf{t n:Nat}{l:List (Nat×HV)}(h:eZ cx s t n l=some r):∃a,eZ cx (s.at h2) t n l=some a/\HS true s h2 r a:=by
 unfold eZ at h⊢;split at h
 .
  rename_i d;rw[aH]at h;split at h
  .
   rename_i b;split at h;.rename_i c;cases h;rw[b];exact⟨_,rfl,.bP _ (.cp _) rfl⟩
   .cases h
  .cases h
 .cases h
theorem AM{t:Nat}{l c:HV}(h:ic cx s t l c=some r):∃a,ic cx (s.at h2) t l c=some a/\HS true s h2 r a:=by
 unfold ic at h⊢;split at h
 .
  rename_i d h2 e;simp only[aH]at h⊢;split at h;.rename_i b;cases h;rw[aA b];exact⟨_,rfl,.bP _ (.cp _) rfl⟩
  .cases h
 .cases h
theorem NH{o:Op}(h:kU cx s o=some r)(j:fH o=false)(p0:tr o=true)(z0:kR s o=false)(D:∀a v b,mr o=some a->s.ev a=some v->uS b v->s.hp.ap b≠none->h2.ap b=s.hp.ap b):∃e,kU cx (s.at h2) o=some e/\HS (rl o) s h2 r e:=by
 cases o;case move x=>obtain⟨v,g,h⟩:=bM (h:fD s _ x=some r);refine⟨_,je g,?_⟩;cases h;exact .wb _
 case assign x=>obtain⟨v,g,h⟩:=bM (h:fD s _ x=some r);refine⟨_,je g,?_⟩;cases h;exact .wb _
 case pick c a b=>obtain⟨v,g,h⟩:=bM (h:fD s _ c=some r);show∃e,fD (s.at h2) _ c=some e/\_;rw[je g,vJ,vJ];exact lE (Gz _ _ _ _ _) (Gz _ _ _ _ _) h
 case alloc t=>exact J9 h
 case box t x=>obtain⟨v,g,h⟩:=bM (h:fD s _ x=some r);show∃e,fD (s.at h2) _ x=some e/\_;rw[je g];exact Qq h
 case build t C=>
  have h:(match gR s C.toList with|some l=>ky cx s t l|none=>none)=some r:=h;show∃e,(match gR (s.at h2) C.toList with|some l=>ky cx (s.at h2) t l|none=>none)=some e/\_;rw[tC];split at h;.rename_i l A;exact lE (DH _ _ _ _) (DH _ _ _ _) h
  .cases h
 case buildSlice t n C=>
  have h:(match gR s C.toList with|some l=>eZ cx s t n l|none=>none)=some r:=h;show∃e,(match gR (s.at h2) C.toList with|some l=>eZ cx (s.at h2) t n l|none=>none)=some e/\_;rw[tC];split at h;.rename_i l A;exact zf h
  .cases h
 case load t x=>obtain⟨v,g,h⟩:=bM (h:fD s _ x=some r);show∃e,fD (s.at h2) _ x=some e/\_;rw[je g];exact lE (PB λb k=>D x v b rfl g k λB=>by rw[Jz k B]at h;cases h) Np h
 case nilCheck x=>obtain⟨v,g,h⟩:=bM (h:fD s _ x=some r);show∃e,fD (s.at h2) _ x=some e/\_;rw[je g];exact lE (K4 _ _ _) (K4 _ _ _) h
 case binOp o0 t x y p=>obtain⟨v,g,h⟩:=bM (h:fD s _ x=some r);obtain⟨u,q,h⟩:=bM h;show∃e,fD (s.at h2) _ x=some e/\_;rw[je g,je q];exact lE (LO _ s _ _ _ _) (LO _ _ _ _ _ _) h
 case unOp o0 t x=>obtain⟨v,g,h⟩:=bM (h:fD s _ x=some r);show∃e,fD (s.at h2) _ x=some e/\_;rw[je g];exact lE (OI _ _ _ _) (OI _ _ _ _) h
 case convert a b x=>obtain⟨v,g,h⟩:=bM (h:fD s _ x=some r);show∃e,fD (s.at h2) _ x=some e/\_;rw[je g];exact lE (Hn λb k=>D x v b rfl g k λB=>by rw[Cm k B]at h;cases h) Fi h
 case makeFunc f x0 y0=>
  cases f with
   |func f=>
   have h:(match x0.toList,s.jI y0.toList with|[],some l=>some (Rs.val (.fn f l) s)|_,_=>none)=some r:=h;show∃e,(match x0.toList,(s.at h2).jI y0.toList with|[],some l=>some (Rs.val (.fn f l) (s.at h2))|_,_=>none)=some e/\_;rw[Fc];split at h;.cases h;exact⟨_,rfl,.wb _⟩
   .cases h
   |_=>cases h
 case makeMap t m=>cases m with
  |none=>cases(h:some _=some r);exact⟨_,rfl,.bP _ (.map []) rfl⟩
  |some m=>cases h
 case makeSlice t l c=>obtain⟨v,g,h⟩:=bM (h:fD s _ l=some r);obtain⟨u,q,h⟩:=bM h;show∃e,fD (s.at h2) _ l=some e/\_;rw[je g,je q];exact AM h
 case slice t x t0 w0 s0=>
  have h:(match s.ev x,nq s t0,nq s w0,nq s s0 with|some v,some l,some h,some m=>ew cx s t v l h m|_,_,_,_=>none)=some r:=h;show∃e,(match(s.at h2).ev x,nq (s.at h2) t0,nq (s.at h2) w0,nq (s.at h2) s0 with|some v,some l,some h,some m=>ew cx (s.at h2) t v l h m|_,_,_,_=>none)=some e/\_;rw[vJ,Fd,Fd,Fd];split at h;.rename_i v l k0 m q0 n0 m0 l0;exact lE (M0 λb o n k=>D x v b rfl q0 (by rw[k];rfl) λB=>by rw[k,Gi B]at h;cases h) Jb h
  .cases h
 case fieldAddr t x i=>obtain⟨v,g,h⟩:=bM (h:fD s _ x=some r);show∃e,fD (s.at h2) _ x=some e/\_;rw[je g];exact lE (Dt _ s _ _ _) (Dt _ _ _ _ _) h
 case indexAddr t x i=>obtain⟨v,g,h⟩:=bM (h:fD s _ x=some r);obtain⟨u,q,h⟩:=bM h;show∃e,fD (s.at h2) _ x=some e/\_;rw[je g,je q];exact lE (A7 _ s _ _ _) (A7 _ _ _ _ _) h
 case index t x i=>obtain⟨v,g,h⟩:=bM (h:fD s _ x=some r);obtain⟨u,q,h⟩:=bM h;show∃e,fD (s.at h2) _ x=some e/\_;rw[je g,je q];exact lE (Dh _ s _ _ _) (Dh _ _ _ _ _) h
 case lookup=>cases p0
 case extract x i=>obtain⟨v,g,h⟩:=bM (h:fD s _ x=some r);show∃e,fD (s.at h2) _ x=some e/\_;rw[je g];exact lE (yJ _ s _ _) (yJ _ _ _ _) h
 case call c=>
  obtain⟨r0,z,w⟩:=c
  cases r0 with
   |builtin b=>
   have h:(match s.jI z.toList with|some l=>ff cx s b w.toList l|none=>none)=some r:=h;show∃e,(match(s.at h2).jI z.toList with|some l=>ff cx (s.at h2) b w.toList l|none=>none)=some e/\_;rw[Fc];split at h
   .
    rename_i l A
    rw[show kR s (.call ⟨.builtin b,z,w⟩)=match b with
     | .len=>match s.jI z.toList with|some [.map _]=>true|_=>false
     |_=>false by cases b<;>rfl]at z0
    rw[A]at z0
    have u0:∀a:St,(∀d,b= .len->l≠[.map d])->fH (.call ⟨.builtin b,z,w⟩)=false->ff cx a b w.toList l=(ff cx s b w.toList l).map (Rs.to a):=by
     intro a A j;unfold ff;split
     .
      split
      .
       split<;>first|rfl|skip
       .rename_i d _ _;exact absurd rfl (A d rfl)
       .split<;>rfl
      .rfl
     .cases j
     .cases j
     .cases j
     .split<;>rfl
     .split<;>rfl
     .rfl
    have v0:∀d,b= .len->l≠[.map d]:=by rintro d rfl rfl;cases z0
    exact lE (u0 _ v0 j) (u0 s v0 j) h
   .cases h
   |_=>cases j
 case store=>cases j
 case mapUpdate=>cases j
 all_goals cases h
end
def tl(f:Nat->Option Obj):Nat->Tr Obj|0=> .e|k+1=>match f k with|some o=>(tl f k).set k o|none=>tl f k
theorem xJ(f:Nat->Option Obj):∀(n b:Nat),(tl f n).ap b=if b<n then f b else none
 |0,b=>by simp[tl,Tr.kN]
 |n+1,b=>by
  unfold tl;split
  .
   rename_i o c;rw[Tr.dk];by_cases h:b=n;.subst h;rw[aA rfl,aA (by omega),c]
   .
    rw[aB h,xJ f n b];by_cases a:b<n;.rw[aA a,aA (by omega)]
    .rw[aB a,aB (by omega)]
  .
   rename_i c;rw[xJ f n b];by_cases h:b=n;.subst h;rw[aB (by omega),aA (by omega),c]
   .
    by_cases a:b<n;.rw[aA a,aA (by omega)]
    .rw[aB a,aB (by omega)]
section
variable{ρ ρ' ρ0:Rn}{s c t:St}{w w' w0:World}{H H' hp:Tr Obj}
theorem eT.sub(h:eT ρ H w)(k:∀b o r,hp.ap b=some o->ρ b=some r->H.ap b=some o):eT ρ hp w:=⟨λb x r d a=>h.cp b x r (k b _ r d a) a,λb j r d a=>h.map b j r (k b _ r d a) a,λb e o n r i l d m a f g=>h.inj b e o n r i l (k b _ r d f) m (k e _ i a g) f g⟩
theorem eT.heap(h:eT ρ H w)(e:w'.heap=w.heap):eT ρ H w':=⟨λb x r a d=>(h.cp b x r a d).mv (sQ.refl _) (by rw[e];exact au _) (by rw[e]),λb f r a d=>by rw[e];exact h.map b f r a d,h.inj⟩
theorem Dr.sub{b:Nat}(h:Dr ρ hp b)(k:∀b o r,hp.ap b=some o->ρ b=some r->H.ap b=some o):Dr ρ H b:=by obtain⟨i,o,r,d,e,a,f⟩:=h;exact⟨i,o,r,k i o r d a,e,a,f⟩
theorem fp.PR{e:St}(h:fp ρ0 s w0 ρ e w)(k:fp ρ c w ρ' t w')(i:c.hp=e.hp)(h1:s.nx<=c.nx)(h2:t.nx<=e.nx):fp ρ0 s w0 ρ' (e.at t.hp) w':=by
 refine⟨k.qY,λb a=>?_,⟨k.kp.os.trans h.kp.os,k.kp.tape.trans h.kp.tape,k.kp.output.trans h.kp.output,aM h.kp.size k.kp.size,λb a f=>?_⟩,λb a=>?_,h.nx⟩;.have a:b<s.nx\/e.nx<=b:=a;rw[k.tg b (by omega),h.tg b a]
 .
  have j:=h.kp.size;rw[k.kp.block b (by omega) λg=>?_,h.kp.block b a f];rw[i]at g;rcases h.dr b g with d|d;.exact f d
  .omega
 .
  have j:=h.kp.size;rcases k.dr b a with d|d;.rw[i]at d;exact h.dr b d
  .right;omega
theorem fp.VK(k:fp ρ c w ρ' t w')(A:eT ρ H w)(sub:∀b o r,c.hp.ap b=some o->ρ b=some r->H.ap b=some o)(f0:Fr c)(yn:∀b o,t.hp.ap b=some o->oB o=false->c.hp.ap b=some o)(e:sQ ρ ρ')(C:∀b o,H'.ap b=some o->b<t.nx/\t.hp.ap b=some o\/t.nx<=b/\H.ap b=some o):fp ρ (c.at H) w ρ' (t.at H') w':=by
 have e0:=k.nx;have D:∀b,t.nx<=b->ρ' b=ρ b:=λb m=>k.tg b (.inr m)
 have o0:∀b o,c.hp.ap b=some o->b<c.nx:=λb o m=>by
  rcases cI b c.nx with h|h;.exact h
  .rw[f0 b h]at m;cases m
 have n0:∀b o r,t.nx<=b->H.ap b=some o->ρ b=some r->¬Dr ρ c.hp r.c:=by rintro b o r m p f⟨x0,s0,m0,d,z,v,B⟩;have:=o0 x0 s0 d;exact A.inj x0 b s0 o m0 r (by omega) (sub x0 s0 m0 d v) z p v f B
 have l0:∀b o r,t.nx<=b->H.ap b=some o->ρ b=some r->w'.heap[r.c]?=w.heap[r.c]?:=λb o r m p f=>k.kp.block _ (A.at p f) (n0 b o r m p f)
 have r0:∀b a o j r q,b<t.nx->t.hp.ap b=some o->oB o=true->t.nx<=a->H.ap a=some j->ρ' b=some r->ρ a=some q->r.c≠q.c:=by
  intro b a o j r q m p y0 g0 p0 f n u0;rcases k.dr r.c ⟨b,o,r,p,y0,f,rfl⟩with g|g;.rw[u0]at g;exact n0 a j q g0 p0 n g
  .have:=A.at p0 n;omega
 refine⟨⟨λb x r z0 l=>?_,λb q0 r z0 l=>?_,λb a o j r q t0 z0 p l f n=>?_⟩,k.tg,⟨k.kp.os,k.kp.tape,k.kp.output,k.kp.size,λb m h0=>k.kp.block b m λh=>h0 (h.sub sub)⟩,λb m=>?_,e0⟩
 .
  rcases C b _ z0 with⟨_,g⟩|⟨d,g⟩;.exact k.qY.cp b x r g l
  .rw[D b d]at l;exact(A.cp b x r g l).mv e k.kp.size (l0 b _ r d g l)
 .
  rcases C b _ z0 with⟨_,g⟩|⟨d,g⟩;.exact k.qY.map b q0 r g l
  .rw[D b d]at l;obtain⟨j0,k0,v,B⟩:=A.map b q0 r g l;exact⟨j0,k0,by rw[l0 b _ r d g l];exact v,B.ext e⟩
 .
  rcases C b _ z0 with⟨d,g⟩|⟨d,g⟩
  .
   rcases C a _ l with⟨y,u⟩|⟨y,u⟩;.exact k.qY.inj b a o j r q t0 g p u f n
   .rw[D a y]at n;exact r0 b a o j r q d g p y u f n
  .
   rw[D b d]at f;rcases C a _ l with⟨y,u⟩|⟨y,u⟩
   .cases y0:oB j with
    |true=>exactλu0=>r0 a b j o q r y u y0 d g n f u0.symm
    |false=>have z:=yn a j u y0;rw[k.tg a (.inl (o0 a j z))]at n;exact A.inj b a o j r q t0 g p (sub a j q z n) f n
   .rw[D a y]at n;exact A.inj b a o j r q t0 g p u f n
 .
  obtain⟨i,o,r,d,z,v,B⟩:=m;rcases C i _ d with⟨_,g⟩|⟨i0,g⟩
  .
   rcases k.dr b ⟨i,o,r,g,z,v,B⟩with v0|v0;.exact .inl (v0.sub sub)
   .exact .inr v0
  .rw[D i i0]at v;exact .inl ⟨i,o,r,g,z,v,B⟩
open Classical in theorem og{s:St}:∀{l:List Operand}{t:Nat},(jJ s l).ap t=if Operand.tmp t∈l then some (s.tmp t)else none
 |[],t=>by simp[jJ,Tr.kN]
 |x::l,t=>by
  cases x with
   |tmp u=>
   show((jJ s l).set u (s.tmp u)).ap t=_;rw[Tr.dk,og];by_cases h:t=u;·subst h;rw[aA rfl,aA bX]
   ·
    rw[aB h];have:Operand.tmp t∈Operand.tmp u::l↔Operand.tmp t∈l:=by simp[cm,h]
    simp only[this]
   |const v=>show(jJ s l).ap t=_;rw[og];simp[cm]
   |func v=>show(jJ s l).ap t=_;rw[og];simp[cm]
   |_ v=>show(jJ s l).ap t=_;rw[og];simp[cm]
open Classical in theorem Hj{s:St}{bD:Array Oper}{o:Oper}{l:List Nat}{t:Nat}:(s.cut bD o l).tmp t=if Operand.tmp t∈nJ bD o++o.op.operands.toList then s.tmp t else .any:=by
 unfold St.tmp St.cut;simp only[og];split<;>rename_i h<;>split at h<;>first|(cases h;done)|skip
 .cases h;rw[aA (by assumption)];rfl
 .rw[aB (by assumption)]
theorem LF{s:St}{bD:Array Oper}{o:Oper}{l:List Nat}{x:Operand}(a:x∈o.op.operands.toList):(s.cut bD o l).ev x=s.ev x:=by cases x with
 |tmp t=>show some _=some _;rw[Hj,aA (cW _ a)]
 |_=>rfl
theorem Hk{s:St}{bD:Array Oper}{o:Oper}{l:List Nat}:∀{xs:List Operand},(∀x,x∈xs->x∈o.op.operands.toList)->(s.cut bD o l).jI xs=s.jI xs
 |[],_=>rfl
 |x::xs,h=>by unfold St.jI;rw[LF (h x bX),Hk λy a=>h y (cT _ a)]
theorem HJ{o:Op}{a:Operand}(h:mr o=some a):a∈o.operands.toList:=by
 cases o<;>first|(cases h;done)|skip
 all_goals cases h;simp[Op.operands]
theorem Fw{o:Op}{a:Operand}(h:mr o=some a):qc o=true:=by cases o<;>first|(cases h;done)|rfl
theorem yD{s:St}{bD:Array Oper}{o:Oper}{l:List Nat}(h:kR s o.op=false):kR (s.cut bD o l) o.op=false:=by
 cases d:o.op<;>try rfl
 rename_i c;obtain⟨e,a,g⟩:=c;cases e<;>try rfl
 rename_i b;cases b<;>try rfl
 rw[d]at h;have h:(match s.jI a.toList with|some [.map _]=>true|_=>false)=false:=h;show(match(s.cut bD o l).jI a.toList with|some [.map _]=>true|_=>false)=false;rw[Hk λx f=>?_];.exact h
 .rw[d];simp[Op.operands,Call.operands];simpa using f
theorem wx{s:St}:∀{l:List Operand}{L:List Nat},hK s l=some L->∀a v b,a∈l->s.ev a=some v->uS b v->bu b L=true
 |[],L,h,a,v,b,d,f,e=>by cases d
 |x::l,L,h,a,v,b,d,f,e=>by
  unfold hK at h;split at h
  .
   rename_i j i;rcases cm.1 d with rfl|d
   .
    rw[f]at h;cases v<;>first|exact e.elim|skip
    all_goals cases e;cases h;unfold bu;simp
   .have g:=wx i a v b d f e;split at h<;>cases h<;>first|exact g|(unfold bu;rw[g,vn])
  .cases h
end
theorem zZ{cx:Cx}{y:nM}{bD:Array Oper}{o:Oper}{c t:St}{h2:Tr Obj}(h:gy cx y bD c o=some t)(C:fH o.op=false)(y0:tr o.op=true)(x0:kR c o.op=false)(B:∀a v b,mr o.op=some a->c.ev a=some v->uS b v->c.hp.ap b≠none->h2.ap b=c.hp.ap b):∃j,gy cx y bD (c.at h2) o=some j/\j.nt=t.nt/\(∀z,j.tmp z=t.tmp z)/\(takes (c.at h2) bD o=some true->∀f args,kU cx (c.at h2) o.op≠some (.call f args))/\(t.hp=c.hp/\t.nx=c.nx/\j.hp=h2/\j.nx=c.nx\/rl o.op=true/\∃X,t.hp=c.hp.set c.nx X/\t.nx=c.nx+1/\j.hp=h2.set c.nx X/\j.nx=c.nx+1):=by
 have u:∀(a b:St)(d:Option Nat)(v:HV),a.nt=b.nt->a.dC=b.dC->a.df=b.df->(a.put d v).nt=(b.put d v).nt/\∀z,(a.put d v).tmp z=(b.put d v).tmp z:=by
  intro a b d v p h2 x
  cases d with
   |none=>exact⟨p,λz=>by show a.tmp z=b.tmp z;unfold St.tmp;rw[h2,x]⟩
   |some d=>
   refine⟨?_,λz=>?_⟩;.unfold St.put;simp only[aH];split<;>split<;>exact p
   .
    rw[zU,zU,p];have:a.tmp z=b.tmp z:=by unfold St.tmp;rw[h2,x]
    rw[this]
 have n:takes (c.at h2) bD o=takes c bD o:=rfl;have v0:takes c bD o=some false->t=c.put o.dst .undef:=λD=>by unfold gy at h;rw[D]at h;cases h;rfl
 cases i:takes c bD o with
  |none=>unfold gy at h;rw[i]at h;cases h
  |some b=>
  cases b with
   |false=>
   have e:=v0 i;subst e;obtain⟨k,l⟩:=u (c.at h2) c o.dst .undef rfl rfl rfl;refine⟨(c.at h2).put o.dst .undef,?_,k,l,λg=>?_,.inl ⟨nR _ _ _,nQ _ _ _,nR _ _ _,nQ _ _ _⟩⟩;.unfold gy;rw[n,i]
   .rw[n,i]at g;cases g
   |true=>
   unfold gy at h;rw[i]at h;simp only at h
   cases q:kU cx c o.op with
    |none=>rw[q]at h;cases h
    |some r=>
    rw[q]at h;obtain⟨u0,m,A⟩:=NH q C y0 x0 B
    cases A with
     |wb v=>
     cases h;obtain⟨k,l⟩:=u (c.at h2) c o.dst v rfl rfl rfl;refine⟨(c.at h2).put o.dst v,?_,k,l,λ_ f args g=>?_,.inl ⟨nR _ _ _,nQ _ _ _,nR _ _ _,nQ _ _ _⟩⟩;.unfold gy;rw[n,i,m]
     .rw[m]at g;cases g
     |bP v X z0=>
     cases h;obtain⟨k,l⟩:=u ((c.at h2).Ps X) (c.Ps X) o.dst v rfl rfl rfl;refine⟨((c.at h2).Ps X).put o.dst v,?_,k,l,λ_ f args g=>?_,.inr ⟨z0,X,nR _ _ _,nQ _ _ _,nR _ _ _,nQ _ _ _⟩⟩;.unfold gy;rw[n,i,m]
     .rw[m]at g;cases g
section
variable{P:Program}{n:Nat}
theorem QG{l:List Oper}{q0:Nat}{K:yR}{F:dB}{w:World}(m:Array Bool->dB->World->Prop)(r0:P.follows .mixedOrders=true)(w0:∀(i:Nat)(o:Oper),l[i]?=some o->∀e∈o.after.toList,Region.binds .any e=true->e.on<i)(D:m (Array.replicate l.length false) F {w with drawn:=w.drawn+1})(step:∀a i o F w,xi l a->a.size=l.length->l[i]?=some o->a.getD i false=false->(∀e∈o.after.toList,Region.binds .any e=true->a.getD e.on false=true)->m a F w->LW P n l.toArray [o] (λc f=>m (a.setIfInBounds i true) c f) F w)(v0:∀a F w,(∀i,i<l.length->a.getD i false=true)->m a F w->K.cN F w):W P n (.region q0 l.toArray true) K F w:=by
 unfold W;refine wp_region_any r0 ?_
 have n0:∀(p:Nat)(a:Array Bool)(c:dB)(f:World),a.size=l.length->Fl a=p->xi l a->m a c f->wpAny P .any l.toArray (Lf n K) p a (fr n c) f:=by
  intro p
  induction p with
   |zero=>
   intro a c f k B v u;have r:∀i,i<l.length->a.getD i false=true:=λi h=>NL B (by omega);have y:Region.ready .any l.toArray a=[]:=by rw[List.eq_nil_iff_forall_not_mem];intro i h;obtain⟨o,d,q,_⟩:=(vA k).1 h;rw[r i (gv d)]at q;cases q
   exact⟨y,c,rfl,v0 a c f r u⟩
   |succ p p0=>
   intro a c f k B v u;refine⟨λy=>?_,λi h=>?_⟩
   .
    exfalso
    have r:∀i,i<l.length->a.getD i false=true:=by intro i;induction i using Nat.strongRecOn with
     |_ i o0=>intro t;cases g:a.getD i false with
     |true=>rfl
     |false=>have d:=G t;have C:i∈Region.ready .any l.toArray a:=(vA k).2 ⟨_,d,g,λe s y0=>by have:=w0 i _ d e s y0;exact o0 e.on this (by omega)⟩;rw[y]at C;cases C
    have:Fl a=0:=by
     unfold Fl;rw[lx];intro b g;obtain⟨i,h,rfl⟩:=List.getElem_of_mem g;have u0:i<a.size:=by simpa using h
     have:=r i (by omega);simp only[Array.getD,u0,dif_pos]at this;simpa using this
    omega
   .
    obtain⟨o,d,q,A⟩:=(vA k).1 h;have k0:=gv d;have t:i<a.size:=by omega
    have x0:xi l (a.setIfInBounds i true):=by
     intro j m0 z x e s g;rw[jk t]at x⊢;split;.rfl
     .
      rename_i j0;split at x;.rename_i t0;subst t0;rw[d]at z;cases z;exact A e s g
      .exact v j m0 z x e s g
    exact FY d (step a i o c f v k d q A u) λl0 i0 z0=>p0 _ _ _ (by simpa using k) (by have:=Qi t q;omega) x0 z0
 refine n0 _ _ F _ (by simp) ?_ ?_ D;.unfold Fl;simp[List.countP_replicate]
 .intro i o _ s0;exfalso;simp[Array.getD]at s0
end
section
variable{P:Program}{n:Nat}{cx:Cx}{ih:nM}{bD:Array Oper}
structure ye (cx : Cx) (ih : nM) (bD : Array Oper) (its : List Item) (s s' : St) (σ : Nat → St) : Prop where
  first : σ 0 = s
  sF : σ its.length = s'
  step : ∀ (q : Nat) (x : Item), its[q]? = some x → ∃ L t, hK (σ q) x.lk = some L ∧ kR (σ q) x.o.op = false ∧ gy cx ih bD ((σ q).cut bD x.o L) x.o = some t ∧ σ (q + 1) = (σ q).take x.o t
theorem sC:∀{c:List Item}{s a:St},fK cx ih bD s c=some a->∃σ,ye cx ih bD c s a σ
 |[],s,a,h=>by cases h;exact⟨λ_=>s,rfl,rfl,λq x l=>by simp at l⟩
 |x::c,s,a,h=>by
  unfold fK at h;split at h
  .
   rename_i d i;rw[aH]at h;split at h;.cases h
   .
    rename_i j;split at h
    .rename_i t k;obtain⟨σ,e,f,g⟩:=sC h;refine⟨λq=>match q with|0=>s|q+1=>σ q,rfl,f,λq y b=>?_⟩;cases q with
     |zero=>simp at b;subst b;exact⟨d,t,i,by simpa using j,k,e⟩
     |succ q=>exact g q y (by simpa using b)
    .cases h
  .cases h
section
variable{its:List Item}{s s':St}{σ:Nat->St}(T:ye cx ih bD its s s' σ)(hg:io ih)
include T hg
theorem zS{q:Nat}(h:q<its.length):cZ (σ q) (σ (q+1)):=by obtain⟨i,t,a,_,c,d⟩:=T.step q _ (G h);have g:=la hg c;rw[d];exact⟨g.nx,λb e f=>g.bE b e (tn a b f),rfl,rfl,rfl,g.yn,g.oE⟩
theorem I1{q:Nat}:∀{d:Nat},q+d<=its.length->(σ q).nx<=(σ (q+d)).nx
 |0,_=>au _
 |d+1,h=>aM (I1 (d:=d) (by omega)) (zS T hg (q:=q+d) (by omega)).nx
theorem iM{q q':Nat}(h:q<=q')(a:q'<=its.length):(σ q).nx<=(σ q').nx:=by have:=I1 T hg (q:=q) (d:=q'-q) (by omega);rwa [show q+(q'-q)=q' by omega]at this
theorem Eh(hF:Fr s):∀{q:Nat},q<=its.length->Fr (σ q)
 |0,_=>by rw[T.first];exact hF
 |q+1,h=>(zS T hg (q:=q) (by omega)).fr (Eh hF (by omega))
theorem I2:∀{q:Nat},q<=its.length->(σ q).nt=s.nt
 |0,_=>by rw[T.first]
 |q+1,h=>(zS T hg (q:=q) (by omega)).nt.trans (I2 (by omega))
theorem OP{q:Nat}{x:Item}{t:Nat}(c:its[q]?=some x)(hd:x.o.dst≠some t):(σ (q+1)).tmp t=(σ q).tmp t:=by obtain⟨e,u,f,_,g,a⟩:=T.step q x c;rw[a];unfold St.take St.tmp;cases b:x.o.dst with
 |none=>rfl
 |some d=>simp only;rw[Tr.bS _ _ (by rintro rfl;exact hd b)]
theorem KJ{q t:Nat}:∀{d:Nat},q+d<=its.length->(∀(m:Nat)(x:Item),q<=m->m<q+d->its[m]?=some x->x.o.dst≠some t)->(σ (q+d)).tmp t=(σ q).tmp t
 |0,_,_=>rfl
 |d+1,h,a=>by have b:=G (l:=its) (i:=q+d) (by omega);exact(OP T hg b (a (q+d) _ (by omega) (by omega) b)).trans (KJ (d:=d) (by omega) λm x c e=>a m x c (by omega))
theorem qQ{q q' t:Nat}(h:q<=q')(c:q'<=its.length)(b:∀(m:Nat)(x:Item),q<=m->m<q'->its[m]?=some x->x.o.dst≠some t):(σ q').tmp t=(σ q).tmp t:=by have:=KJ T hg (q:=q) (t:=t) (d:=q'-q) (by omega) λm x a d=>b m x a (by omega);rwa [show q+(q'-q)=q' by omega]at this
theorem MV{A:Nat->Nat->Prop}(c:oX bD.toList its A){q b:Nat}{x:Item}(e:its[q]?=some x)(i:b<(σ q).nx)(j:fH x.o.op=true->∀L,hK (σ q) x.lk=some L->bu b L=true):(σ (q+1)).hp.ap b=(σ q).hp.ap b:=by
 obtain⟨L,t,f,k,a,g⟩:=T.step q x e;rw[g];show t.hp.ap b=(σ q).hp.ap b
 cases d:fH x.o.op with
  |true=>exact(la hg a).bE b i (j d L f)
  |false=>
  obtain⟨m,_,_,_,_,h⟩:=zZ (h2:=(σ q).hp) a d (c.PL _ _ (c.op q x e)) (yD k) λ_ _ _ _ _ _ _=>rfl;rcases h with⟨h,_⟩|⟨_,l,h,_⟩;.rw[h];rfl
  .rw[h];exact Tr.bS _ _ (by have:((σ q).cut bD x.o L).nx=(σ q).nx:=rfl;omega)
theorem F2{A:Nat->Nat->Prop}(c:oX bD.toList its A){q b:Nat}:∀{d:Nat},q+d<=its.length->b<(σ q).nx->(∀(m:Nat)(x:Item),q<=m->m<q+d->its[m]?=some x->fH x.o.op=true->∀L,hK (σ m) x.lk=some L->bu b L=true)->(σ (q+d)).hp.ap b=(σ q).hp.ap b
 |0,_,_,_=>rfl
 |d+1,h,g,e=>by have f:=G (l:=its) (i:=q+d) (by omega);have j:=I1 T hg (q:=q) (d:=d) (by omega);exact(MV T hg c f (by omega) λa=>e (q+d) _ (by omega) (by omega) f a).trans (F2 c (d:=d) (by omega) g λm x a i=>e m x a (by omega))
theorem uc{A:Nat->Nat->Prop}(c:oX bD.toList its A){q q' b:Nat}(h:q<=q')(f:q'<=its.length)(d:b<(σ q).nx)(e:∀(m:Nat)(x:Item),q<=m->m<q'->its[m]?=some x->fH x.o.op=true->∀L,hK (σ m) x.lk=some L->bu b L=true):(σ q').hp.ap b=(σ q).hp.ap b:=by have:=F2 T hg c (q:=q) (b:=b) (d:=q'-q) (by omega) d λm x a g=>e m x a (by omega);rwa [show q+(q'-q)=q' by omega]at this
theorem ub{b:Nat}:∀{q:Nat},q<=its.length->s.nx<=b->b<(σ q).nx->∃(m:Nat)(x:Item),m<q/\its[m]?=some x/\(σ m).nx<=b/\b<(σ (m+1)).nx
 |0,_,d,a=>by rw[T.first]at a;omega
 |q+1,h,d,a=>by
  rcases cI b (σ q).nx with c|c;.obtain⟨m,x,f,e⟩:=ub (q:=q) (by omega) d c;exact⟨m,x,by omega,e⟩
  .exact⟨q,_,a7 q,G (by omega),c,a⟩
end
structure TM (its : List Item) (S : Array Bool) (τ : Nat) : Prop where
  le : τ ≤ its.length
  ni : ∀ (q : Nat) (x : Item), q < τ → its[q]? = some x → fH x.o.op = true → S.getD x.i false = true
  qB : ∀ x : Item, its[τ]? = some x → fH x.o.op = true ∧ S.getD x.i false = false
theorem KO(its:List Item)(S:Array Bool):∃a,TM its S a:=by
 have l:∀d a,a+d=its.length->(∀(q:Nat)(x:Item),q<a->its[q]?=some x->fH x.o.op=true->S.getD x.i false=true)->∃a,TM its S a:=by
  intro d
  induction d with
   |zero=>intro a i c;refine⟨a,by omega,c,λx e=>?_⟩;have:=gv e;omega
   |succ d ih=>
   intro a i c;have e:=G (l:=its) (i:=a) (by omega);by_cases f:fH (its[a]'(by omega)).o.op=true/\S.getD (its[a]'(by omega)).i false=false;.exact⟨a,by omega,c,λx b=>by rw[e]at b;cases b;exact f⟩
   .
    refine ih (a+1) (by omega) λq x j b g=>?_;rcases cI q a with h|h;.exact c q x h b g
    .
     have:q=a:=by omega
     subst this;rw[e]at b;cases b
     cases k:S.getD (its[q]'(by omega)).i false with
      |true=>rfl
      |false=>exact absurd ⟨g,k⟩ f
 exact l its.length 0 (by omega) λq x j=>by omega
structure yZ (its : List Item) (n : Nat) (s s' : St) (σ : Nat → St) (ρ0 : Rn) (w0 : World) (S : Array Bool) (F : dB) (w : World) (ρ : Rn) (H : Tr Obj) (τ : Nat) : Prop where
  v4 : TM its S τ
  post : fp ρ0 s w0 ρ ⟨s.nt, s.dC, H, s'.nx, s.lk, s.df⟩ w
  ia : ∀ b r, ρ b = some r → b < s.nx → H.ap b = (σ τ).hp.ap b
  Da : ∀ b r (q : Nat) (x : Item), ρ b = some r → its[q]? = some x → (σ q).nx ≤ b → b < (σ (q + 1)).nx → H.ap b = (σ (max τ (q + 1))).hp.ap b
  SJ : ∀ b (q : Nat) (x : Item), its[q]? = some x → S.getD x.i false = false → (σ q).nx ≤ b → b < (σ (q + 1)).nx → ρ b = none
  set : ∀ t (q : Nat) (x : Item), its[q]? = some x → x.o.dst = some t → S.getD x.i false = true → VR ρ ((σ (q + 1)).tmp t) (ev n F (.tmp t))
  Ed : ∀ t, (∀ (q : Nat) (x : Item), its[q]? = some x → x.o.dst = some t → S.getD x.i false = false) → VR ρ (s.tmp t) (ev n F (.tmp t))
end
section
variable{P:Program}{n:Nat}{cx:Cx}{ih:nM}{bD:Array Oper}{its:List Item}{s s':St}{σ:Nat->St}{A:Nat->Nat->Prop}{ρ ρ' ρ0:Rn}{w w' w0:World}{S:Array Bool}{F:dB}{H:Tr Obj}{τ p:Nat}{x:Item}
theorem Ha(n:Nat)(F:dB){d:Option Nat}{z:Nat}(u:Value)(h:d≠some z):ev n (qO F d u) (.tmp z)=ev n F (.tmp z):=by cases d with
 |none=>rfl
 |some d=>show ev n (iE F d u) (.tmp z)=_;rw[Lv,aB];rintro⟨_,rfl⟩;exact h rfl
theorem NE(c:oX bD.toList its A)(T:ye cx ih bD its s s' σ)(hg:io ih)(D:yZ its n s s' σ ρ0 w0 S F w ρ H τ)(l:its[p]?=some x)(u:S.getD x.i false=false)(v0:∀j,A x.i j->S.getD j false=true)(t0:∀(q:Nat)(y:Item),its[q]?=some y->S.getD y.i false=true->∀j,A y.i j->S.getD j false=true){t:Nat}(h:∀(q:Nat)(y:Item),its[q]?=some y->y.o.dst=some t->y.i=x.i\/A x.i y.i\/A y.i x.i):VR ρ ((σ p).tmp t) (ev n F (.tmp t)):=by
 have o0:p<its.length:=gv l;by_cases B:∃(q:Nat)(y:Item),its[q]?=some y/\y.o.dst=some t
 .
  obtain⟨q,y,a,g⟩:=B;have n0:q<its.length:=gv a;have C:∀(b:Nat)(f:Item),its[b]?=some f->f.o.dst=some t->b=q:=λb f e v=>c.inj b q f y e a (c.KH _ _ _ _ t (c.op _ _ e) (c.op _ _ a) v g);have y0:p<=q->S.getD y.i false=false->VR ρ ((σ p).tmp t) (ev n F (.tmp t)):=λp0 s0=>by rw[qQ T hg (a5 p) (by omega) λm z _ x0 k i=>by have:=C m z k i;omega,T.first];refine D.Ed t λb f e v=>?_;have:=C b f e v;subst this;rw[a]at e;cases e;exact s0
  rcases h q y a g with d|d|d;.have:=c.inj q p y x a l d;subst this;exact y0 (au _) (by rw[d];exact u)
  .obtain⟨b,z0,x0,o,r⟩:=c.ni p x l y.i d;have:=c.inj b q z0 y o a r;subst this;rw[qQ T hg (q:=b+1) (by omega) (by omega) λm z r0 q0 k i=>by have:=C m z k i;omega];exact D.set t b y a g (v0 _ d)
  .obtain⟨b,z0,x0,o,r⟩:=c.ni q y a x.i d;have:=c.inj b p z0 x o l r;subst this;refine y0 (by omega) ?_;cases u0:S.getD y.i false with
   |false=>rfl
   |true=>rw[t0 q y a u0 _ d]at u;cases u
 .rw[qQ T hg (a5 p) (by omega) λm z _ _ k i=>B ⟨m,z,k,i⟩,T.first];exact D.Ed t λq y a g=>absurd ⟨q,y,a,g⟩ B
theorem DA(c:oX bD.toList its A)(T:ye cx ih bD its s s' σ)(hg:io ih)(u:s.nt=n)(D:yZ its n s s' σ ρ0 w0 S F w ρ H τ)(e:its[p]?=some x)(m:S.getD x.i false=false)(k:∀j,A x.i j->S.getD j false=true)(o:∀(q:Nat)(y:Item),its[q]?=some y->S.getD y.i false=true->∀j,A y.i j->S.getD j false=true)(L:List Nat):iA ρ n ((σ p).cut bD x.o L) F:=by
 have z:p<its.length:=gv e;refine⟨(I2 T hg (q:=p) (by omega)).trans u,λt=>?_⟩;rw[Hj];split
 .
  rename_i a;refine NE c T hg D e m k o λq y i h=>?_;rcases bR.1 a with a|a
  .
   unfold nJ at a;split at a
   .
    rename_i j b r;split at a
    .rename_i g d;simp at a;subst a;have l:=c.guard x.i x.o j b (c.op p x e) r;cases f:bD[j]? with
     |none=>rw[f]at d;cases d
     |some v=>rw[f]at d;have d:v.dst=some t:=d;have:y.i=j:=c.KH _ _ _ _ t (c.op q y i) (by simpa using f) h d;rw[this];exact .inr (.inl l)
    .cases a
   .cases a
  .exact c.reads x.i x.o t (c.op p x e) a y.i y.o (c.op q y i) h
 .unfold VR;trivial
theorem Dz(d:oX bD.toList its A)(D:yZ its n s s' σ ρ0 w0 S F w ρ H τ)(f:its[p]?=some x){c:St}{u:Value}(l:σ (p+1)=(σ p).take x.o c)(k:∀z,VR ρ' (c.tmp z) (ev n (qO F x.o.dst u) (.tmp z)))(e:sQ ρ ρ')(hi:x.i<S.size):(∀t(q:Nat)(y:Item),its[q]?=some y->y.o.dst=some t->(S.setIfInBounds x.i true).getD y.i false=true->VR ρ' ((σ (q+1)).tmp t) (ev n (qO F x.o.dst u) (.tmp t)))/\∀t,(∀(q:Nat)(y:Item),its[q]?=some y->y.o.dst=some t->(S.setIfInBounds x.i true).getD y.i false=false)->VR ρ' (s.tmp t) (ev n (qO F x.o.dst u) (.tmp t)):=by
 refine⟨λt q y a b j=>?_,λt i=>?_⟩
 .
  by_cases h:y.i=x.i
  .
   have:=d.inj q p y x a f h;subst this;rw[f]at a;cases a;rw[l];have:((σ q).take x.o c).tmp t=c.tmp t:=by unfold St.take;rw[b];show(match((σ q).dC.set t (c.tmp t)).ap t with|some v=>v|none=>_)=_;rw[Tr.a8]
   rw[this];exact k t
  .
   rw[jk hi,aB h]at j;rw[Ha];.exact VR.ext e _ _ (D.set t q y a b j)
   .intro g;exact h (d.KH _ _ _ _ t (d.op q y a) (d.op p x f) b g)
 .
  rw[Ha]
  .
   refine VR.ext e _ _ (D.Ed t λq y a b=>?_);have:=i q y a b;rw[jk hi]at this;split at this;.cases this
   .exact this
  .intro g;have:=i p x f g;rw[jk hi,aA rfl]at this;cases this
theorem He(t9:gm P cx)(hi:tS P ih)(v:oX bD.toList its A)(T:ye cx ih bD its s s' σ)(hg:io ih)(hF:Fr s)(r9:s.nt=n)(f9:jX ρ0 s.nx s'.nx)(D:yZ its n s s' σ ρ0 w0 S F w ρ H τ)(i:its[p]?=some x)(z0:x.i<S.size)(z:S.getD x.i false=false)(r0:∀j,A x.i j->S.getD j false=true)(j0:∀(q:Nat)(y:Item),its[q]?=some y->S.getD y.i false=true->∀j,A y.i j->S.getD j false=true)(y0:fH x.o.op=true):LW P n bD [x.o] (λb0 w'=>∃ρ' H' g,yZ its n s s' σ ρ0 w0 (S.setIfInBounds x.i true) b0 w' ρ' H' g) F w:=by
 have d9:p<its.length:=gv i;obtain⟨a0,t,g9,e9,h0,n0⟩:=T.step p x i;have l0:=la hg h0;have q9:(σ (p+1)).nx=t.nx:=by rw[n0];rfl
 have i0:(σ (p+1)).hp=t.hp:=by rw[n0];rfl
 have j9:s.nx<=(σ p).nx:=by have:=iM T hg (a5 p) (by omega);rwa [T.first]at this
 have b9:(σ p).nx<=t.nx:=l0.nx;have i9:t.nx<=s'.nx:=by have:=iM T hg (q:=p+1) (q':=its.length) (by omega) (au _);rwa [T.sF,q9]at this
 have s0:=Eh T hg hF (q:=p) (by omega)
 have l9:∀b o,(σ p).hp.ap b=some o->b<(σ p).nx:=λb o a=>by
  rcases cI b (σ p).nx with h|h;.exact h
  .rw[s0 b h]at a;cases a
 have m9:τ=p:=by
  rcases mF τ p with h|h|h;.have c:=G (l:=its) (i:=τ) (by omega);obtain⟨k,d⟩:=D.v4.qB _ c;have:=r0 _ ((v.ch p x i y0 τ _ h c).1 (.inl k));rw[this]at d;cases d
  .exact h
  .have:=D.v4.ni p x h i y0;rw[this]at z;cases z
 subst m9
 have d0:∀b o r,(σ τ).hp.ap b=some o->ρ b=some r->H.ap b=some o:=by
  intro b o r a B;have u9:=l9 b o a;rcases cI b s.nx with h|h;.rw[D.ia b r B h];exact a
  .obtain⟨m,y,k,d,l,k0⟩:=ub T hg (q:=τ) (by omega) h u9;rw[D.Da b r m y B d l k0,jY (by omega)];exact a
 have c0:jX ρ (σ τ).nx t.nx:=λb k d=>D.SJ b τ x i z k (by omega);refine xp t9 hi hg h0 (DA v T hg r9 D i z r0 j0 a0) (D.post.qY.sub d0) (λ_ _ _ _=>s0) c0 λρ' u w' x9 u0=>FF ?_;have e:=u0.ext c0;let f:Nat->Option Obj:=λb=>if b<t.nx then t.hp.ap b else H.ap b;have q0:∀b,(tl f s'.nx).ap b=if b<s'.nx then f b else none:=xJ f s'.nx
 have w9:∀b o,(tl f s'.nx).ap b=some o->b<t.nx/\t.hp.ap b=some o\/t.nx<=b/\H.ap b=some o:=by
  intro b o a;rw[q0]at a;split at a
  .
   by_cases h:b<t.nx;.simp only[f,aA h]at a;exact .inl ⟨h,a⟩
   .simp only[f,aB h]at a;exact .inr ⟨by omega,a⟩
  .cases a
 have f0:∀b,b<t.nx->(tl f s'.nx).ap b=t.hp.ap b:=λb a=>by rw[q0,aA (by omega)];simp only[f,aA a]
 have s9:∀b,t.nx<=b->b<s'.nx->(tl f s'.nx).ap b=H.ap b:=λb a v9=>by rw[q0,aA v9];simp only[f];rw[aB (by omega)]
 have n9:=u0.VK (H:=H) (H':=tl f s'.nx) D.post.qY d0 s0 l0.yn e w9;have p9:=D.post.PR n9 rfl j9 i9;obtain⟨g,C⟩:=KO its (S.setIfInBounds x.i true)
 have k9:∀(q:Nat)(y:Item),τ<q->its[q]?=some y->fH y.o.op=true->(S.setIfInBounds x.i true).getD y.i false=false:=by
  intro q y o0 c x0;have p0:y.i≠x.i:=λh=>by have:=v.inj q τ y x c i h;omega
  rw[jk z0,aB p0]
  cases a:S.getD y.i false with
   |false=>rfl
   |true=>have:=j0 q y c a _ ((v.ch q y c x0 τ x o0 i).1 (.inl y0));rw[this]at z;cases z
 have g0:τ+1<=g:=by
  rcases cI τ g with h|h;.exact h
  .
   exfalso;have c:=G (l:=its) (i:=g) (by omega);obtain⟨k,d⟩:=C.qB _ c;rcases cI g τ with l|l;.have:=r0 _ ((v.ch τ x i y0 g _ l c).1 (.inl k));rw[jk z0,this]at d;split at d<;>cases d
   .
    have:g=τ:=by omega
    subst this;have d:=(C.qB x i).2;rw[jk z0,aA rfl]at d;cases d
 have m0:∀q t0 b,τ+1<=q->q<=t0->t0<=g->b<(σ q).nx->(σ t0).hp.ap b=(σ q).hp.ap b:=λq t0 b k d l a=>uc T hg v d (by have:=C.le;omega) a (λm y k0 h9 c x0=>by have:=C.ni m y (by omega) c x0;rw[k9 m y (by omega) c x0]at this;cases this);have e0:=Dz v D i (u:=u) n0 x9.2 e z0;refine⟨ρ',tl f s'.nx,g,C,p9,?_,?_,?_,e0.1,e0.2⟩;.intro b r B a;rw[f0 b (by omega),m0 (τ+1) g b (au _) g0 (au _) (by omega),i0]
 .
  intro b r q y B c k d;have o0:q<its.length:=gv c;rcases cI τ q with h|h
  .
   have z9:=iM T hg (q:=τ+1) (q':=q) (by omega) (by omega);have y9:=iM T hg (q:=q+1) (q':=its.length) (by omega) (au _);rw[T.sF]at y9;rw[s9 b (by omega) (by omega)];have o9:ρ b=some r:=by rw[<-u0.tg b (.inr (by omega))];exact B
   rw[D.Da b r q y o9 c k d,qu (by omega)];rcases Nat.le_total g (q+1)with l|l;.rw[qu l]
   .rw[jY l,m0 (q+1) g b (by omega) l (au _) d]
  .have z9:=iM T hg (q:=q+1) (q':=τ+1) (by omega) (by omega);rw[jY (by omega),f0 b (by omega),m0 (τ+1) g b (au _) g0 (au _) (by omega),i0]
 .
  intro b q y c v0 k d;have o0:q<its.length:=gv c;rw[jk z0]at v0;split at v0;.cases v0
  .
   rename_i p0;have c9:q≠τ:=λh=>by subst h;rw[i]at c;cases c;exact p0 rfl
   rw[u0.tg b ?_];.exact D.SJ b q y c v0 k d
   .
    show b<(σ τ).nx\/t.nx<=b;rcases cI q τ with h|h;.have:=iM T hg (q:=q+1) (q':=τ) (by omega) (by omega);left;omega
    .have:=iM T hg (q:=τ+1) (q':=q) (by omega) (by omega);right;omega
theorem Hd(hc:gm P cx)(hi:tS P ih)(k:oX bD.toList its A)(T:ye cx ih bD its s s' σ)(hg:io ih)(hF:Fr s)(hn:s.nt=n)(hU:jX ρ0 s.nx s'.nx)(D:yZ its n s s' σ ρ0 w0 S F w ρ H τ)(i:its[p]?=some x)(n0:x.i<S.size)(r0:S.getD x.i false=false)(a0:∀j,A x.i j->S.getD j false=true)(y9:∀(q:Nat)(y:Item),its[q]?=some y->S.getD y.i false=true->∀j,A y.i j->S.getD j false=true)(p0:fH x.o.op=false):LW P n bD [x.o] (λn9 w'=>∃ρ' H' τ',yZ its n s s' σ ρ0 w0 (S.setIfInBounds x.i true) n9 w' ρ' H' τ') F w:=by
 have hp:p<its.length:=gv i;obtain⟨y0,t,hL,hm,u9,e0⟩:=T.step p x i;have f9:=la hg u9;have hnx1:(σ (p+1)).nx=t.nx:=by rw[e0];rfl
 have hhp1:(σ (p+1)).hp=t.hp:=by rw[e0];rfl
 have nx0:s.nx<=(σ p).nx:=by have:=iM T hg (a5 p) (by omega);rwa [T.first]at this
 have nx1:(σ p).nx<=t.nx:=f9.nx;have nx2:t.nx<=s'.nx:=by have:=iM T hg (q:=p+1) (q':=its.length) (by omega) (au _);rwa [T.sF,hnx1]at this
 have j9:=Eh T hg hF (q:=p) (by omega);have i0:=DA k T hg hn D i r0 a0 y9 y0
 have s9:∀(m:Nat)(y:Item),its[m]?=some y->A y.i x.i->S.getD y.i false=false:=by intro m y c b9;cases l:S.getD y.i false with
  |false=>rfl
  |true=>have:=y9 m y c l _ b9;rw[this]at r0;cases r0
 have m9:∀a v b,mr x.o.op=some a->((σ p).cut bD x.o y0).ev a=some v->uS b v->((σ p).cut bD x.o y0).hp.ap b≠none->H.ap b=((σ p).cut bD x.o y0).hp.ap b:=by
  intro a v b q0 d0 l v0;have v0:(σ p).hp.ap b≠none:=v0;show H.ap b=(σ p).hp.ap b;have v9:=Fw q0
  have z9:b<(σ p).nx:=by
   rcases cI b (σ p).nx with h|h;.exact h
   .exact absurd (j9 b h) v0
  have z0:∃r,ρ b=some r:=by
   have:=bV i0 d0;cases v<;>first|exact l.elim|skip
   .cases l;unfold VR at this;obtain⟨r,h,_⟩:=this;exact⟨r,h⟩
   .cases l;unfold VR at this;obtain⟨r,_,h,_⟩:=this;exact⟨r,h⟩
   .cases l;unfold VR at this;obtain⟨r,_,h,_⟩:=this;exact⟨r,h⟩
  obtain⟨r,z0⟩:=z0
  have hτ:p<τ:=by
   rcases cI p τ with h|h;.exact h
   .
    exfalso;have c:=G (l:=its) (i:=τ) (by omega);obtain⟨d,g⟩:=D.v4.qB _ c;rcases cI τ p with o|o;.have:=a0 _ (k.ld p x i v9 τ _ o c d);rw[this]at g;cases g
    .
     have:τ=p:=by omega
     subst this;have:=(D.v4.qB x i).1;rw[p0]at this;cases this
  have x9:(σ τ).hp.ap b=(σ p).hp.ap b:=by
   refine uc T hg k (by omega) D.v4.le z9 λm y x0 s0 c C Lm hLm=>?_
   have hpm:p<m:=by
    rcases cI p m with h|h;.exact h
    .
     have:m=p:=by omega
     subst this;rw[i]at c;cases c;rw[p0]at C;cases C
   rcases(k.ch m y c C p x hpm i).2 v9 with B|⟨a',B,c0⟩;.have:=D.v4.ni m y s0 c C;rw[s9 m y c B]at this;cases this
   .rw[q0]at B;cases B;refine wx hLm a v b c0 ?_ l;rw[LF (HJ q0)]at d0;rw[<-d0];cases a with
    |tmp z=>show some _=some _;congr 1;refine qQ T hg x0 (by have:=D.v4.le;omega) λr9 l0 b0 h9 t9 hd'=>?_;have e9:=k.Sl x.i x.o z (k.op p x i) q0 l0.i l0.o (k.op r9 l0 t9) hd';obtain⟨q',x',h11,d9,c9⟩:=k.ni p x i _ e9;have:=k.inj q' r9 x' l0 d9 t9 c9;omega
    |_=>rfl
  rcases cI b s.nx with h|h;.rw[D.ia b r z0 h,x9]
  .obtain⟨m,y,d,g,o,x0⟩:=ub T hg (q:=p) (by omega) h z9;rw[D.Da b r m y z0 g o x0,jY (by omega),x9]
 obtain⟨u0,i9,g2,h9,g9,j0⟩:=zZ (h2:=H) u9 p0 (k.PL _ _ (k.op p x i)) (yD hm) m9;have k0:((σ p).cut bD x.o y0).nx=(σ p).nx:=rfl;have k9:(((σ p).cut bD x.o y0).at H).nx=(σ p).nx:=rfl;have p9:u0.nx=t.nx:=by rcases j0 with⟨_,d,_,g⟩|⟨_,t0,_,d,_,g⟩<;>rw[d,g]
 have o9:jX ρ (σ p).nx u0.nx:=λb d g=>D.SJ b p x i r0 d (by omega);refine xp (s:=((σ p).cut bD x.o y0).at H) hc hi hg i9 ⟨i0.1,i0.2⟩ D.post.qY (λh f l9 hh=>absurd hh (g9 h f l9)) o9 λρ' u w' a9 g0=>FF ?_;have e:=g0.ext o9;have hpost:=D.post.PR g0 rfl nx0 (by rw[p9];exact nx2);have q9:=Dz k D i (u:=u) e0 (λz=>by rw[<-h9];exact a9.2 z) e n0
 have hst:TM its (S.setIfInBounds x.i true) τ:=by
  refine⟨D.v4.le,λq y f0 c C=>?_,λy c=>?_⟩
  .
   rw[jk n0];split;.rfl
   .exact D.v4.ni q y f0 c C
  .
   obtain⟨d,g⟩:=D.v4.qB y c;refine⟨d,?_⟩;rw[jk n0,aB];.exact g
   .intro he;have:=k.inj τ p y x c i he;subst this;rw[i]at c;cases c;rw[p0]at d;cases d
 have m0:∀b,b<(σ p).nx\/t.nx<=b->ρ' b=ρ b:=λb l=>g0.tg b (by rw[k9,p9];exact l)
 have h0:∀b,b≠(σ p).nx\/t.nx=(σ p).nx->u0.hp.ap b=H.ap b:=by
  intro b l;rcases j0 with⟨_,_,d,_⟩|⟨_,t0,_,d,g,_⟩;.rw[d]
  .rw[g];rw[k0]at d⊢;exact Tr.bS _ _ (by omega)
 refine⟨ρ',u0.hp,τ,hst,hpost,?_,?_,?_,q9.1,q9.2⟩;.intro b r z0 l;rw[h0 b (.inl (by omega))];exact D.ia b r (by rw[<-m0 b (.inl (by omega))];exact z0) l
 .
  intro b r q y z0 c d g;have f0:q<its.length:=gv c;rcases mF q p with h|h|h;.have:=iM T hg (q:=q+1) (q':=p) (by omega) (by omega);rw[h0 b (.inl (by omega))];exact D.Da b r q y (by rw[<-m0 b (.inl (by omega))];exact z0) c d g
  .
   subst h;rw[i]at c;cases c;rcases j0 with⟨_,o,_⟩|⟨hfl,t0,o,x0,s0,_⟩;.rw[k0]at o;omega
   .
    rw[k0]at o x0 s0;have l:b=(σ q).nx:=by omega
    have hget:u0.hp.ap b=some t0:=by rw[s0,l,Tr.a8]
    have w9:(σ (q+1)).hp.ap b=some t0:=by rw[hhp1,o,l];exact Tr.a8 _ _ _
    rw[hget];rcases Nat.le_total τ (q+1)with B|B;.rw[qu B,w9]
    .rw[jY B,uc T hg k B D.v4.le g λm y c0 b0 c C=>?_,w9];have:=D.v4.ni m y b0 c C;rw[s9 m y c ((k.ch m y c C q x (by omega) i).1 (.inr hfl))]at this;cases this
  .have:=iM T hg (q:=p+1) (q':=q) (by omega) (by omega);rw[h0 b (by omega)];exact D.Da b r q y (by rw[<-m0 b (.inr (by omega))];exact z0) c d g
 .
  intro b q y c o0 d g;have f0:q<its.length:=gv c;rw[jk n0]at o0;split at o0;.cases o0
  .
   rename_i v0;have hqp:q≠p:=λh=>by subst h;rw[i]at c;cases c;exact v0 rfl
   rw[m0 b ?_];.exact D.SJ b q y c o0 d g
   .
    rcases cI q p with h|h;.have:=iM T hg (q:=q+1) (q':=p) (by omega) (by omega);left;omega
    .have:=iM T hg (q:=p+1) (q':=q) (by omega) (by omega);right;omega
theorem Qb(v:gm P cx)(hi:tS P ih)(hg:io ih){z9:Nat}{l:List Item}{K:yR}(l9:nS bD.toList=some l)(h:fK cx ih bD s l=some s')(v0:iA ρ n s F)(r9:eT ρ s.hp w)(r0:Fr s)(q0:jX ρ s.nx s'.nx)(q9:∀ρ' k w',iA ρ' n s' k->fp ρ s w ρ' s' w'->K.cN k w'):W P n (.region z9 bD true) K F w:=by
 obtain⟨A,e⟩:=Ji l9;obtain⟨σ,a⟩:=sC h;have c0:bD=bD.toList.toArray:=by simp
 have x9:s.nx<=s'.nx:=by have:=iM a hg (a5 l.length) (au _);rwa [a.first,a.sF]at this
 have g9:W P n (.region z9 bD.toList.toArray true) K F w:=by
  refine QG (l:=bD.toList) (λS k w'=>∃ρ' x0 y0,yZ l n s s' σ ρ w S k w' ρ' x0 y0) v.mix e.LA ?_ ?_ ?_
  .
   obtain⟨τ,n0⟩:=KO l (Array.replicate bD.toList.length false)
   have d0:∀i,(Array.replicate bD.toList.length false).getD i false=false:=λi=>by
    by_cases h:i<bD.toList.length;.simp[Array.getD]
    .simp[Array.getD]
   have h9:∀b,b<s.nx->(σ τ).hp.ap b=s.hp.ap b:=λb g=>by have:=uc a hg e (a5 τ) n0.le (b:=b) (by rw[a.first];exact g) (λm y _ f d n9=>by have:=n0.ni m y f d n9;rw[d0]at this;cases this);rw[this,a.first]
   have y9:∀(q:Nat)(y:Item)b,l[q]?=some y->(σ q).nx<=b->b<(σ (q+1)).nx->ρ b=none:=λq y b d u f=>by have k9:q<l.length:=gv d;have v9:=iM a hg (a5 q) (by omega);have u9:=iM a hg (q:=q+1) (q':=l.length) (by omega) (au _);rw[a.first]at v9;rw[a.sF]at u9;exact q0 b (by omega) (by omega)
   refine⟨ρ,s.hp,τ,n0,⟨r9.heap rfl,λ_ _=>rfl,⟨rfl,rfl,rfl,au _,λ_ _ _=>rfl⟩,λ_ h=> .inl h,x9⟩,?_,?_,?_,?_,?_⟩;.intro b r _ g;exact(h9 b g).symm
   .intro b r q y z0 d u f;rw[y9 q y b d u f]at z0;cases z0
   .intro b q y d _ u f;exact y9 q y b d u f
   .intro t q y d B t0;rw[d0]at t0;cases t0
   .intro t _;exact v0.2 t
  .
   rintro S i o k w' p0 j9 u0 j0 m9⟨ρ',x0,y0,D⟩;obtain⟨p,x,l0,b0⟩:=e.all i (gv u0);have a0:=e.op p x l0;rw[b0,u0]at a0;cases a0;subst b0;have k0:=e.nu S p0 x.i x.o u0 m9;have g0:∀(q:Nat)(y:Item),l[q]?=some y->S.getD y.i false=true->∀j,A y.i j->S.getD j false=true:=λq y d t0=>e.nu S p0 y.i y.o (e.op q y d) (p0 y.i y.o (e.op q y d) t0);have e0:x.i<S.size:=by rw[j9];exact gv u0
   rw[<-c0]
   cases h0:fH x.o.op with
    |true=>exact He v hi e a hg r0 v0.1 q0 D l0 e0 j0 k0 g0 h0
    |false=>exact Hd v hi e a hg r0 v0.1 q0 D l0 e0 j0 k0 g0 h0
  .
   rintro S k w' p9⟨ρ',x0,y0,D⟩;have i0:∀(q:Nat)(y:Item),l[q]?=some y->S.getD y.i false=true:=λq y d=>p9 y.i (gv (e.op q y d))
   have i9:y0=l.length:=by
    rcases cI y0 l.length with h|h;.have d:=G h;have:=(D.v4.qB _ d).2;rw[i0 _ _ d]at this;cases this
    .have:=D.v4.le;omega
   subst i9
   have w9:∀b o r,s'.hp.ap b=some o->ρ' b=some r->x0.ap b=some o:=by
    intro b o r g z0;have f0:=Eh a hg r0 (q:=l.length) (au _);rw[a.sF]at f0
    have o9:b<s'.nx:=by
     rcases cI b s'.nx with h|h;.exact h
     .rw[f0 b h]at g;cases g
    rcases cI b s.nx with h|h;.rw[D.ia b r z0 h,a.sF];exact g
    .obtain⟨m,y,u,f,t9,s9⟩:=ub a hg (q:=l.length) (au _) h (by rw[a.sF];exact o9);rw[D.Da b r m y z0 f t9 s9,jY (by omega),a.sF];exact g
   refine q9 ρ' k w' ⟨?_,λt=>?_⟩ ⟨D.post.qY.sub w9,D.post.tg,D.post.kp,λc v=>D.post.dr c (v.sub w9),x9⟩;.have:=I2 a hg (q:=l.length) (au _);rw[a.sF]at this;exact this.trans v0.1
   .
    by_cases m0:∃(q:Nat)(y:Item),l[q]?=some y/\y.o.dst=some t;.obtain⟨q,y,d,B⟩:=m0;have k9:q<l.length:=gv d;have:=D.set t q y d B (i0 q y d);have C:=qQ a hg (q:=q+1) (q':=l.length) (t:=t) (by omega) (au _) (λm z u f s0 o0=>by have:=e.inj m q z y s0 d (e.KH _ _ _ _ t (e.op _ _ s0) (e.op _ _ d) o0 B);omega);rw[a.sF]at C;rw[C];exact this
    .have:=D.Ed t λq y d B=>absurd ⟨q,y,d,B⟩ m0;have C:=qQ a hg (q:=0) (q':=l.length) (t:=t) (a5 _) (au _) λm z _ _ s0 o0=>m0 ⟨m,z,s0,o0⟩;rw[a.sF,a.first]at C;rw[C];exact this
 rw[c0];exact g9
end
section
variable{P:Program}{cx:Cx}
theorem Pz{b:Code}{e:Ex}{a:St}{n:Nat}{K:yR}{F:dB}{w:World}(k:Nat)(hi:∀j,j<k->tS P (run cx j))(hg:∀j,io (run cx j)){s:St}{ρ:Rn}(h:run cx k (.loop b) s=some (e,a))(m:iA ρ n s F)(o:eT ρ s.hp w)(d:Fr s)(f:jX ρ s.nx a.nx)(p:∀l c i,iA l n a c->fp ρ s w l a i->Xq K e c i):W P n (.loop b) K F w:=by
 refine TJ (σ:=Nat) (λj=>j) (λj F w=>j<=k/\∃s ρ,run cx j (.loop b) s=some (e,a)/\iA ρ n s F/\eT ρ s.hp w/\Fr s/\jX ρ s.nx a.nx/\∀l c i,iA l n a c->fp ρ s w l a i->Xq K e c i) k ⟨au _,s,ρ,h,m,o,d,f,p⟩ ?_;rintro j F w⟨u0,s,ρ,h,m,o,d,f,p⟩
 cases j with
  |zero=>cases h
  |succ j=>
  have h:(match run cx j b s with|some (.cN,x0)=>run cx j (.loop b) x0|r=>r)=some (e,a):=h;split at h;.rename_i y x;have B:=hg j _ _ _ _ x;have C:=hg j _ _ _ _ h;refine hi j (by omega) b s .cN y x n ρ F w _ m o d (f.sub (au _) C.nx) λu v z q g=>?_;exact⟨j,a7 j,by omega,y,u,h,q,g.qY,B.fr d,g.undef f,λv0 A w0 D y0=>p v0 A w0 D (g.trans y0)⟩
  .
   rename_i t;have t:e≠.cN:=λz0=>by subst z0;exact t a h
   refine hi j (by omega) b s e a h n ρ F w _ m o d f λu v z q g=>?_;have:=p u v z q g
   cases e with
    |cN=>exact absurd rfl t
    |ret=>exact this
    |exit t0=>exact this
theorem Ss(t0:gm P cx):∀k,tS P (run cx k):=by
 intro k
 induction k using Nat.strongRecOn with
  |_ k r0=>
  intro c s e d h n y u w D f g o p i
  cases k with
   |zero=>cases h
   |succ k=>
   have v:=r0 k (a7 k);have w0:=ug (cx:=cx) k;have n0:=h
   match c,h with
    | .skip,h=>cases h;exact TI (i y u w f (fp.refl g))
    | .region B y0 false,h=>
     have h:(match ju cx (run cx k) y0 s y0.toList with|some d=>some (Ex.cN,d)|none=>none)=some (e,d):=h;split at h
     .
      rename_i u0 A;cases h;have:=Ak (P:=P) (n:=n) (k:=D.cN) t0 v w0 A f g o p i;have s0:y0=y0.toList.toArray:=by simp
      rw[s0];refine N2 ?_;rw[<-s0];exact this
     .cases h
    | .region B y0 true,h=>
     have h:(match nS y0.toList with
      |some l=>match fK cx (run cx k) y0 s l with|some d=>some (Ex.cN,d)|none=>none
      |none=>none)=some (e,d):=h
     split at h
     .
      rename_i l j0;split at h;.rename_i u0 A;cases h;exact Qb t0 v w0 j0 A f g o p i
      .cases h
     .cases h
    | .seq a b,h=>
     have h:(match run cx k a s with|some (.cN,d)=>run cx k b d|r=>r)=some (e,d):=h;split at h;.rename_i u0 A;have p0:=w0 _ _ _ _ A;have o0:=w0 _ _ _ _ h;refine QF (v _ _ _ _ A n y u w _ f g o (p.sub (au _) o0.nx) λC m t z q=>?_);exact v _ _ _ _ h n C m t D z q.qY (p0.fr o) (q.undef p) λg0 q0 h0 m0 i0=>i g0 q0 h0 m0 (q.trans i0)
     .
      rename_i x0;have x0:e≠.cN:=λk0=>by subst k0;exact x0 d h
      refine QF (v _ _ _ _ h n y u w _ f g o p λC m t z q=>?_);have:=i C m t z q
      cases e with
       |cN=>exact absurd rfl x0
       |ret=>exact this
       |exit B=>exact this
    | .cond x a b,h=>
     have h:(match s.ev x with|some (.bool true)=>run cx k a s|some (.bool false)=>run cx k b s|_=>none)=some (e,d):=h;split at h;.rename_i v0;have:=bV f v0;unfold VR at this;exact N3 this (v _ _ _ _ h n y u w D f g o p i)
     .rename_i v0;have:=bV f v0;unfold VR at this;exact N4 this (v _ _ _ _ h n y u w D f g o p i)
     .cases h
    | .block B b,h=>
     have h:(match run cx k b s with|some (.exit j,d)=>bif Nat.beq j B then some (Ex.cN,d)else some (.exit j,d)|r=>r)=some (e,d):=h;split at h
     .
      rename_i j u0 A;rw[aH]at h;split at h;.rename_i z0;cases h;refine BE (v _ _ _ _ A n y u w _ f g o p λC m t z q=>?_);show Wk.ww j ((B,D.cN)::D.tB) m t;unfold Wk.ww;rw[z0];exact i C m t z q
      .
       rename_i z0;cases h;refine BE (v _ _ _ _ A n y u w _ f g o p λC m t z q=>?_);show Wk.ww j ((B,D.cN)::D.tB) m t;unfold Wk.ww
       have z0:Nat.beq j B=false:=by cases l0:Nat.beq j B with
        |false=>rfl
        |true=>exact absurd l0 z0
       rw[z0];exact i C m t z q
     .rename_i x0;refine BE (v _ _ _ _ h n y u w _ f g o p λC m t z q=>?_);have:=i C m t z q;cases e with
      |cN=>exact this
      |ret=>exact this
      |exit j=>exact absurd h (x0 j d)
    | .loop b,h=>exact Pz (k+1) (λj z0=>r0 j z0) ug n0 f g o p i
    | .exit B,h=>cases h;exact TK (i y u w f (fp.refl g))
    | .ret,h=>cases h;exact Xh (i y u w f (fp.refl g))
    | .rangeFunc _ _ _ _,h=>cases h
    | .scope _,h=>cases h
    | .label _,h=>cases h
    | .goto _,h=>cases h
    | .refuse _,h=>cases h
theorem DD(b:gm P cx)(k:Nat){f:FuncId}{fn:Func}{args:List HV}{s e:St}{v:HV}{us:List Value}{ρ:Rn}{w:World}(d:cx.fn.ap f=some fn)(p:cx.ext.ap f=none)(h:call cx (run cx k) f args s=some (v,e))(j:eT ρ s.hp w)(i:Fr s)(l:jX ρ s.nx e.nx)(o:dN ρ args us):yh P f us.toArray w (BK ρ s w e v):=by
 rcases Hv b (Ss b k) (ug k) h j i l o with⟨u,q,a,_⟩|⟨_,a⟩
 .
  exfalso;unfold call at h;rw[p,d]at h;simp only at h
  cases g:fn.body with
   |none=>rw[g]at h;cases h
   |some c=>
   have m:=b.fn f fn d;have n:¬fn.name= "runtime.NumGoroutine" :=by simpa using b.nm f fn d
   have:(callFunc f us.toArray).run P w= .ok (.enter f us.toArray) w:=by simp[callFunc,Sem.run,m,n,g,program]
   rw[this]at a;cases a
 .exact a
end
theorem yN:∀(n t:Nat)(kl:Array Value),(∀x,x∈kl.toList->x.oneCell'=true)->∀x,x∈(Extern.BytealgMakeNoZero.digits n t kl).toList->x.oneCell'=true
 |0,_,_,h=>h
 |n+1,t,kl,h=>by
  unfold Extern.BytealgMakeNoZero.digits;refine yN n _ _ λx a=>?_;rw[Array.toList_push,bR]at a;rcases a with a|a;.exact h x a
  .simp at a;subst a;rfl
theorem M5 {P : Program} {w : World} {t e : TypeId} (ht : P.underlying t = some (.slice e)) (n : Nat) (hn : n ≤ 281474976710656) (q : Question) (hq : q.forced = false) :
    ((do
        let .slice uW ← underlying t | stuck "bytealg.MakeNoZero: slice type expected"
        if (n : Int) < 0 || (n : Int) > 2 ^ 48 then runtimePanic (.error "makeslice: len out of range")
        let cap ← choose (.appendCap (n : Int).toNat 0 uW)
        askRoom cap
        let bytes ← choose q
        let a ← newRow uW (Extern.BytealgMakeNoZero.digits cap bytes #[])
        pure (.slice (some a) (n : Int).toNat cap)) : Sem Value).run P w = .ok (.slice (some ⟨w.heap.size, 0, none⟩) n (Extern.BytealgMakeNoZero.digits (grownCap w n 0 e) (q.cut (w.tape (w.drawn + 1) q)) #[]).size) (w.drew.drew.alloc (.cells (Extern.BytealgMakeNoZero.digits (grownCap w n 0 e) (q.cut (w.tape (w.drawn + 1) q)) #[]) e)) := by
  have h1 : ¬ (n : Int) < 0 := by omega
  have h2 : ¬ (281474976710656 : Int) < (n : Int) := by omega
  have hq2 : (Question.appendCap n 0 e).forced = false := rfl
  simp [run_underlying ht, h1, h2, hq, hq2, newRow, Lib.size_digits, grownCap]
theorem O4{P:Program}{w:World}{ps:Array TypeId}{t e:TypeId}(c:P.underlying t=some (.slice e))(n:Nat)(b:n<=281474976710656):∃cs:Array Value,(∀x,x∈cs.toList->x.oneCell'=true)/\(Extern.BytealgMakeNoZero.makeNoZero ps #[t] #[.int .i64 n]).run P w= .ok (.slice (some ⟨w.heap.size,0,none⟩) n cs.size) (w.drew.drew.alloc (.cells cs e))/\n<=cs.size/\(n<=maxLen->cs.size<=maxLen):=by
 refine⟨_,yN _ _ _ λx d=>by simp at d,M5 c n b _ rfl,?_,?_⟩;.rw[Lib.size_digits];simpa using grownCap_ge w n 0 e
 .intro a;rw[Lib.size_digits];simpa using grownCap_le_maxLen w n 0 e a
theorem SQ{P:Program}{f:Nat}{fn:Func}{ps:Array TypeId}{t e:TypeId}(A:P.funcs[f]?=some fn)(z0:(fn.name== "runtime.NumGoroutine")=false)(q:fn.body.isNone=true)(D:Extern.findNext fn=none)(z:Extern.find fn=some (Extern.BytealgMakeNoZero.makeNoZero ps #[t]))(w0:P.underlying t=some (.slice e)):B6 P f 1:=by
 intro t0 s q0 v u0 w p0 h o p j;unfold xG at h;split at h
 .
  rename_i s _ _ _ n s0;rw[aH]at h;split at h
  .
   rename_i C;simp only[bO]at C;cases h;unfold dN at j;obtain⟨u,o0,rfl,d,g⟩:=j;unfold dN at g;subst g;unfold VR at d;subst d;obtain⟨a,y0,k,l,m⟩:=O4 (P:=P) (w:=w) (ps:=ps) w0 n (by omega)
   have x0:(callFunc f #[.int .i64 (Int.ofNat n)]).run P w= .ok (.value (.slice (some ⟨w.heap.size,0,none⟩) n a.size)) (w.drew.drew.alloc (.cells a e)):=by
    have r:fn.body=none:=by simpa using q
    have:(Extern.BytealgMakeNoZero.makeNoZero ps #[t] #[.int .i64 (Int.ofNat n)]).run P w= .ok (.slice (some ⟨w.heap.size,0,none⟩) n a.size) (w.drew.drew.alloc (.cells a e)):=k;unfold callFunc;simp only[Sem.run_bind,program,Sem.run,Result.andThen_ok,A,z0,r,D,z,mark];simp only[dU,fc,Option.isNone_none,fI,Sem.run_bind,Sem.run,Result.andThen_ok,this];rfl
   have B:(a.toList.take n).length=n:=by simp;omega
   have v0:u0 s.nx=none:=p s.nx (au _) (a7 _);have c:=fp.bP (z:=1) (l:=List.replicate n .any) (us:=a.toList.take n) (ex:=a.toList.drop n) (T:=e) (w1:=w.drew.drew) o v0 (ux (by simp[B]) λi x u b r0=>by rw[cd]at b;split at b<;>cases b;unfold VR;trivial) (λx b=>y0 x (em b)) ((Kp.drew w).trans (Kp.drew _)) rfl;rw[dE]at c;have y:a.toList.toArray=a:=by simp
   rw[y]at c;refine .inl ⟨_,_,_,x0,?_,c⟩;unfold VR;refine⟨_,a.size,fM _ _ _,by simp,l,?_,?_,m (by unfold maxLen;omega),by omega⟩;.simp;omega
   .simp
  .cases h
 .exact absurd ‹1=2› (by decide)
 .cases h
theorem W2{P:Program}{n:Nat}{ext:Tr Nat}{Cl:Tr (List Bool)}(a:P.funcs.toList.all (λg=>! g.name== "runtime.NumGoroutine")=true)(i:∀f q,ext.ap f=some q->B6 P f q)(d:∀t m,Cl.ap t=some m->xh P t m)(e:P.follows .mixedOrders=true):gm P ⟨C4 P n,C6 P.funcs.toList 0 .e,ext,Cl⟩:=by refine⟨λt x h=>AH h,λf g h=>C5 h,λf g h=>?_,i,d,e⟩;have b:=C5 h;rw[bQ]at a;have c:=a g (Y (by rw[kq];exact b));simpa using c
theorem wn{α:Type}{Q:Nat->α->Prop}(f:Nat)(q:α)(h:(Tr.e:Tr α).ap f=some q):Q f q:=by rw[Tr.kN]at h;cases h
theorem oP{α:Type}{Q:Nat->α->Prop}{t:Tr α}{a:Nat}{b:α}(d:∀f q,t.ap f=some q->Q f q)(h:Q a b)(f:Nat)(q:α)(c:(t.set a b).ap f=some q):Q f q:=by
 rw[Tr.dk]at c;split at c;.rename_i e;subst e;simp only[eL]at c;subst c;exact h
 .exact d f q c
theorem OO{P:Program}{f:Nat}{fn:Func}(A:P.funcs[f]?=some fn)(B:(fn.name== "runtime.NumGoroutine")=false)(i:fn.body.isSome=true)(x0:∀w,yh P f #[] w λv k=>v= .bool true/\Kp [] w k):B6 P f 2:=by
 intro t0 s r0 v u0 w q0 h e s0 d;unfold xG at h;split at h;.rename_i y0;cases y0
 .
  cases h;unfold dN at d;subst d;refine .inr ⟨?_,yh.mono (x0 w) λu k⟨y,a⟩=>⟨u0,by unfold VR;exact y,⟨λb x r g d=>?_,λb p r g d=>?_,λb l o w0 r v0 j C z0 D=>e.inj b l o w0 r v0 j C z0 D⟩,λ_ _=>rfl,⟨a.os,a.tape,a.output,a.size,λb i _=>a.block b i (by simp)⟩,λ_ h=> .inl h,au _⟩⟩
  .
   have j:¬fn.name= "runtime.NumGoroutine" :=by simpa using B
   obtain⟨c,z⟩:=ez.1 i;simp[callFunc,Sem.run,A,j,z,program]
  .exact(e.cp b x r g d).mv (sQ.refl _) a.size (a.block _ (e.at g d) (by simp))
  .obtain⟨n,m,q,t⟩:=e.map b p r g d;exact⟨n,m,by rw[a.block _ (e.at g d) (by simp)];exact q,t⟩
 .cases h
open Go.Proofs
def Fg:Cx:=⟨C4 Tryz.prog 371,C6 Tryz.prog.funcs.toList 0 .e,Tr.e.set 104 1,.e⟩
theorem Yl:Tryz.prog.funcs.toList.all (λg=>! g.name== "runtime.NumGoroutine")=true:=by kernel_rfl
def G8:Func:=(Tryz.prog.funcs[104]?).getD default
theorem ST:Tryz.prog.funcs[104]?=some G8:=by kernel_rfl
theorem SR:(G8.name== "runtime.NumGoroutine")=false:=by kernel_rfl
theorem Nl:G8.body.isNone=true:=by kernel_rfl
theorem Nj:Extern.findNext G8=none:=by kernel_rfl
theorem Nk:Extern.find G8=some (Extern.BytealgMakeNoZero.makeNoZero #[3] #[67]):=by kernel_rfl
def aaz:TypeId:=match Tryz.prog.underlying 67 with|some (.slice e)=>e|_=>0
theorem SP:Tryz.prog.underlying 67=some (.slice aaz):=by kernel_rfl
theorem UV:Tryz.prog.follows .mixedOrders=true:=by kernel_rfl
theorem UU:B6 Tryz.prog 104 1:=SQ ST SR Nl Nj Nk SP
theorem Tt:gm Tryz.prog Fg:=W2 Yl (oP wn UU) wn UV
def Sm:St:=⟨0,.e,.e,0,[],.undef⟩
def qy:Option (HV×St)->Bool|some (.bool b,_)=>b|_=>false
theorem J5:qy (call Fg (run Fg 100000) 11 [] Sm)=true:=by kernel_rfl
theorem NW:(Fg.fn.ap 11).isSome=true:=by kernel_rfl
theorem J6:(Fg.ext.ap 11).isNone=true:=by kernel_rfl
theorem SL(b:Nat)(o:Obj)(h:Sm.hp.ap b=some o):False:=by rw[show Sm.hp= .e from rfl,Tr.kN]at h;cases h
theorem NV(w:World):yh Tryz.prog 11 #[] w λv j=>v= .bool true/\Kp [] w j:=by
 have h:=J5
 cases d:call Fg (run Fg 100000) 11 [] Sm with
  |none=>rw[d]at h;cases h
  |some r=>
  rw[d]at h;obtain⟨v,s⟩:=r;cases v<;>first|(cases h;done)|skip
  rename_i b;have c:b=true:=h;subst c
  cases g:Fg.fn.ap 11 with
   |none=>have:=NW;rw[g]at this;cases this
   |some n=>
   have l:Fg.ext.ap 11=none:=by simpa using J6
   refine Calls.mono (DD (ρ:=λ_=>none) (w:=w) (us:=[]) Tt 100000 g l d ⟨λb x r h=>(SL b _ h).elim,λb x r h=>(SL b _ h).elim,λb m o p r q _ h=>(SL b _ h).elim⟩ (λb _=>Tr.kN b) (λ_ _ _=>rfl) (by unfold dN;rfl)) ?_;rintro e j⟨v,rfl,t,f,a⟩;unfold VR at f;refine⟨v,rfl,f,a.kp.os,a.kp.tape,a.kp.output,a.kp.size,λb c _=>a.kp.block b c ?_⟩;rintro⟨i,o,r,k,_⟩;exact SL _ _ k
def Qx(P:Program)(t:Nat):Option (Nat×Nat):=match P.underlying t with
 |some (.array n e)=>bif P.plainKey e&&((match P.underlying e with|some (.int _)=>true|_=>false)&&(P.cellsOf e==1&&P.cellsOf t==n))then some (n,e)else none
 |_=>none
def rp(P:Program):Nat->List Field->List Bool->Bool
 |_,[],[]=>true
 |o,f::b,a=>f.name != "_" &&(f.offset==o&&match Qx P f.type with|some (n,_)=>a.take n==List.replicate n true&&rp P (o+n) b (a.drop n)|none=>match a with
  |p::a=>P.plainKey f.type&&((match P.underlying f.type with|some (.int _)=>p|some .bool=>!p|_=>false)&&rp P (o+1) b a)
  |[]=>false)
 |_,_,_=>false
theorem NS{α:Type}{b:Bool}{x y:α}(h:(bif b then some x else none)=some y):b=true/\x=y:=by
 cases b;.cases h
 .cases h;exact⟨rfl,rfl⟩
theorem Df{P:Program}{e:Nat}(d:Nat)(w:World)(g:P.plainKey e=true)(f:P.cellsOf e=1){p:IntKind}(l:P.underlying e=some (.int p)){ps:List Bool}{A B:List Value}{n:Nat}{r:Bool}(y:n<=A.length)(z:n<=B.length):∀(k j:Nat),j+k=n->oQ (List.replicate k true++ps) (A.drop j) (B.drop j)=some r->∃q,(Op.eqItems (d+1) e (P.cellsOf e) (A.take n).toArray (B.take n).toArray (List.range' j k)).run P w= .ok q w/\(q=false->r=false)/\(q=true->oQ ps (A.drop n) (B.drop n)=some r)
 |0,j,C,h=>by
  refine⟨true,rfl,(λh=>by cases h),λ_=>?_⟩;have:j=n:=by omega
  subst this;exact h
 |k+1,j,C,h=>by
  have m:j<A.length:=by omega
  have o:j<B.length:=by omega
  rw[d8 m,d8 o,gH,List.cons_append]at h;unfold oQ at h;have i:j<n:=by omega
  have u:(Go.part e (A.take n).toArray (j*P.cellsOf e)).run P w= .ok A[j] w:=run_part_plain w g (by rw[f,gU];simp[m,i]);have v:(Go.part e (B.take n).toArray (j*P.cellsOf e)).run P w= .ok B[j] w:=run_part_plain w g (by rw[f,gU];simp[o,i])
  cases c:vu true A[j] B[j]with
   |none=>rw[c]at h;cases h
   |some q=>
   rw[c]at h
   have x:(Op.equalIn (d+1) e A[j] B[j]).run P w= .ok q w:=by
    unfold vu at c;split at c
    .
     rename_i k a x0 b y0 s t;split at c;.rename_i D;subst D;simp only[eL]at c;rw[s,t,run_equalIn_int (P:=P) w d e k p a b l,<-c];rfl
     .cases c
    .rename_i z0 _ _;exact absurd z0 (by decide)
    .cases c
   rw[List.range'_succ];simp only[Op.eqItems,Sem.run_bind,u,Result.andThen_ok,v,x,Sem.run_ite]
   cases q with
    |true=>simp only[ly,dU,fc];exact Df d w g f l y z k (j+1) (by omega) h
    |false=>cases h;exact⟨false,by simp only[kF,fI,Sem.run_pure],λ_=>rfl,λh=>by cases h⟩
theorem sa{P:Program}(d:Nat):∀(v:List Field)(ps:List Bool)(o:Nat)(us c:List Value)(r:Bool)(w:World),rp P o v ps=true->us.length=o+ps.length->c.length=o+ps.length->oQ ps (us.drop o) (c.drop o)=some r->(Op.eqFields (d+2) us.toArray c.toArray v).run P w= .ok r w
 |[],[],o,us,c,r,w,_,y,z,g=>by rw[ed (by simp at y;omega),ed (by simp at z;omega)]at g;cases g;rfl
 |[],_::_,o,us,c,r,w,h,y,z,g=>by cases h
 |f::v,ps,o,us,c,r,w,h,y,z,g=>by
  unfold rp at h;simp only[ae]at h;obtain⟨l0,x,h⟩:=h;have x:f.offset=o:=by simpa using x
  have w0:f.name≠ "_" :=by simpa using l0
  split at h
  .
   rename_i n e l;simp only[ae,beq_iff_eq]at h;obtain⟨u0,z0⟩:=h;unfold Qx at l;split at l
   .
    rename_i b0 f0 t;obtain⟨A,l⟩:=NS l;cases l;simp only[ae,beq_iff_eq]at A;obtain⟨p0,x0,A,g0⟩:=A
    obtain⟨u,m⟩:∃u,P.underlying e=some (.int u):=by
     split at x0;.exact⟨_,by assumption⟩
     .cases x0
    obtain⟨i,o0⟩:=info_of_underlying t;obtain⟨d0,n0⟩:=info_of_underlying m;have e0:n<=ps.length:=by have:=eP List.length u0;simp at this;omega
    have k0:ps=List.replicate n true++ps.drop n:=by rw[<-u0,dE]
    have q0:∀y0:List Value,(Go.part f.type y0.toArray f.offset).run P w= .ok (.agg ((y0.drop o).take n).toArray) w:=by intro y0;simp[Go.part,isAgg,run_underlying t,run_sizeOf w o0,x,g0,List.extract]
    rw[k0]at g;obtain⟨q,j0,i0,h0⟩:=Df (n:=n) d w p0 A m (ps:=ps.drop n) (A:=us.drop o) (B:=c.drop o) (r:=r) (by simp;omega) (by simp;omega) n 0 (by omega) (by simpa using g);have D:(Op.equalIn (d+2) f.type (.agg ((us.drop o).take n).toArray) (.agg ((c.drop o).take n).toArray)).run P w= .ok q w:=by rw[run_equalIn_array w (d+1) _ _ t n0,List.range_eq_range'];exact j0
    simp only[Op.eqFields,w0,ne_eq,not_false_eq_true,fI,Sem.run_bind,q0,Result.andThen_ok,D,Sem.run_ite]
    cases q with
     |true=>simp only[ly,dU,fc];have:=h0 rfl;rw[iL,iL]at this;exact sa d v (ps.drop n) (o+n) us c r w z0 (by simp;omega) (by simp;omega) this
     |false=>rw[i0 rfl];simp only[kF,fI,Sem.run_pure]
   .cases l
  .
   split at h
   .
    rename_i p ps;simp only[ae]at h;obtain⟨v0,s,z0⟩:=h;simp only[bp]at y z;have t:o<us.length:=by omega
    have t0:o<c.length:=by omega
    rw[d8 t,d8 t0]at g;unfold oQ at g
    cases j:vu p us[o] c[o]with
     |none=>rw[j]at g;cases g
     |some q=>
     rw[j]at g;have s0:(Go.part f.type us.toArray f.offset).run P w= .ok us[o] w:=run_part_plain w v0 (by rw[x];simp[t]);have r0:(Go.part f.type c.toArray f.offset).run P w= .ok c[o] w:=run_part_plain w v0 (by rw[x];simp[t0])
     have D:(Op.equalIn (d+2) f.type us[o] c[o]).run P w= .ok q w:=by
      unfold vu at j;split at j
      .
       rename_i k a c0 b B C;split at j
       .
        rename_i m0;subst m0;simp only[eL]at j
        obtain⟨u,m⟩:∃u,P.underlying f.type=some (.int u):=by
         split at s;.exact⟨_,by assumption⟩
         .cases s
         .cases s
        rw[B,C,run_equalIn_int (P:=P) w (d+1) f.type k u a b m,<-j];rfl
       .cases j
      .
       rename_i a b B C;simp only[eL]at j
       have m:P.underlying f.type=some .bool:=by
        split at s;.cases s
        .assumption
        .cases s
       rw[B,C,run_equalIn_bool' (P:=P) w (d+1) f.type a b m,<-j]
      .cases j
     simp only[Op.eqFields,w0,ne_eq,not_false_eq_true,fI,Sem.run_bind,s0,Result.andThen_ok,r0,D,Sem.run_ite]
     cases q with
      |true=>simp only[ly,dU,fc];exact sa d v ps (o+1) us c r w z0 (by omega) (by omega) g
      |false=>cases g;simp only[kF,fI,Sem.run_pure]
   .cases h
theorem xW{P:Program}{t:Nat}{m:List Bool}(hg:P.eqGuardType P.depth t=false)(c:P.underlying t=some (.struct (P.fieldsOf t)))(hp:P.stoodInHeld t=false)(b:rp P 0 (P.fieldsOf t).toList m=true):xh P t m:=by refine⟨hg,λd e r w f g a=>?_⟩;show(Op.equalIn (9999+1) t _ _).run P w=_;rw[run_equalIn_struct w 9999 t _ _ c hp];exact sa 9997 _ m 0 d e r w b (by omega) (by omega) a
end Go.Hm
namespace Go.Bo
open Go Go.Hm Go.Ls Go.Proofs
def tf{α:Type}(f:Nat->Option α)(d:Nat):Nat->Nat->Tr α:=Nat.rec (λ_ _=> .e) (λ_ c a b=> .n (c (Nat.mul 2 a) (Nat.add a b)) (f b) (c (Nat.mul 2 a) (Nat.add (Nat.mul 2 a) b))) d
theorem vY{α:Type}{f:Nat->Option α}{x:α}:∀{d a b j:Nat},(tf f d a b).ap j=some x->f (a*j+b)=some x
 |0,a,b,j,h=>by have h:(Tr.e:Tr α).ap j=some x:=h;rw[Tr.kN]at h;cases h
 |d+1,a,b,j,h=>by
  have h:(Tr.n (tf f d (2*a) (a+b)) (f b) (tf f d (2*a) (2*a+b))).ap j=some x:=h;rw[Tr.tz]at h;split at h;.rename_i c;subst c;rw[Nat.mul_zero,bi];exact h
  .
   split at h;.rename_i c e;have:=vY h;obtain⟨i,rfl⟩:∃i,j=2*i+1:=⟨(j-1)/2,by omega⟩;rw[show(2*i+1-1)/2=i by omega]at this;rw[show a*(2*i+1)+b=2*a*i+(a+b)by rw[Nat.mul_add,<-t4,Nat.mul_comm a 2];omega];exact this
   .rename_i c e;have:=vY h;obtain⟨i,rfl⟩:∃i,j=2*i+2:=⟨(j-1)/2,by omega⟩;rw[show(2*i+2-1)/2=i by omega]at this;rw[show a*(2*i+2)+b=2*a*i+(2*a+b)by rw[Nat.mul_add,<-t4,Nat.mul_comm a 2];omega];exact this
def ft:Cx:=⟨tf (pX Tryz.prog) 10 1 0,tf (λi=>Tryz.prog.funcs[i]?) 10 1 0,(Tr.e.set 104 1).set 11 2,(((((Tr.e.set 152 [true,true,true,true,true,true,true,true]).set 71 [true,true,true,true,true]).set 149 [true,true]).set 74 [true,true,true,true,true,true]).set 183 [true,false]).set 94 [true,true,true,true,true,true,true,true,true]⟩
def WR:Func:=(Tryz.prog.funcs[11]?).getD default
theorem Xa:Tryz.prog.funcs[11]?=some WR:=by kernel_rfl
theorem W9:(WR.name== "runtime.NumGoroutine")=false:=by kernel_rfl
theorem Qw:WR.body.isSome=true:=by kernel_rfl
theorem qT{P:Program}{t:Nat}(h:(match P.underlying t with|some (.struct _)=>true|_=>false)=true):P.underlying t=some (.struct (P.fieldsOf t)):=by
 unfold Program.fieldsOf;split at h;.rename_i b a;rw[a]
 .cases h
theorem Tj:Tryz.prog.underlying 152=some (.struct (Tryz.prog.fieldsOf 152)):=qT (by kernel_rfl)
theorem Tn:xh Tryz.prog 152 [true,true,true,true,true,true,true,true]:=xW (by kernel_rfl) Tj (by kernel_rfl) (by kernel_rfl)
theorem WV:Tryz.prog.underlying 71=some (.struct (Tryz.prog.fieldsOf 71)):=qT (by kernel_rfl)
theorem WY:xh Tryz.prog 71 [true,true,true,true,true]:=xW (by kernel_rfl) WV (by kernel_rfl) (by kernel_rfl)
theorem Tl:Tryz.prog.underlying 149=some (.struct (Tryz.prog.fieldsOf 149)):=qT (by kernel_rfl)
theorem To:xh Tryz.prog 149 [true,true]:=xW (by kernel_rfl) Tl (by kernel_rfl) (by kernel_rfl)
theorem WU:Tryz.prog.underlying 74=some (.struct (Tryz.prog.fieldsOf 74)):=qT (by kernel_rfl)
theorem WX:xh Tryz.prog 74 [true,true,true,true,true,true]:=xW (by kernel_rfl) WU (by kernel_rfl) (by kernel_rfl)
theorem Ti:Tryz.prog.underlying 183=some (.struct (Tryz.prog.fieldsOf 183)):=qT (by kernel_rfl)
theorem Tm:xh Tryz.prog 183 [true,false]:=xW (by kernel_rfl) Ti (by kernel_rfl) (by kernel_rfl)
theorem WT:Tryz.prog.underlying 94=some (.struct (Tryz.prog.fieldsOf 94)):=qT (by kernel_rfl)
theorem WW:xh Tryz.prog 94 [true,true,true,true,true,true,true,true,true]:=xW (by kernel_rfl) WT (by kernel_rfl) (by kernel_rfl)
theorem Ts:gm Tryz.prog ft:=by
 refine⟨λt x h=>?_,λf g h=>?_,λf g h=>?_,oP (oP wn UU) (OO Xa W9 Qw NV),oP (oP (oP (oP (oP (oP wn Tn) WY) To) WX) Tm) WW,UV⟩;.have:=vY (f:=pX Tryz.prog) (d:=10) (a:=1) (b:=0) h;rw[su,fu]at this;exact this
 .have:=vY (f:=λi=>Tryz.prog.funcs[i]?) (d:=10) (a:=1) (b:=0) h;rw[su,fu]at this;exact this
 .have a:=vY (f:=λi=>Tryz.prog.funcs[i]?) (d:=10) (a:=1) (b:=0) h;rw[su,fu]at a;have b:=Yl;rw[bQ]at b;have c:=b g (Y (by rw[kq];exact a));simpa using c
def oo(cx:Cx)(c:Code)(h:St)(e:Ex)(a:St):Prop:=∃b,∀k,b<=k->run cx k c h=some (e,a)
section
variable{cx:Cx}{h h1 h':St}{a c:Code}{e:Ex}
theorem pj{q:Ex×St}{k0:Nat}(g:∀k,k0<=k->xo cx (run cx k) c h=some q):oo cx c h q.1 q.2:=by refine⟨k0+1,λk b=>?_⟩;cases k with
 |zero=>omega
 |succ k=>exact g k (by omega)
theorem hM(p:oo cx a h .cN h1)(q:oo cx c h1 e h'):oo cx (.seq a c) h e h':=by obtain⟨d,p⟩:=p;obtain⟨f,q⟩:=q;refine pj (q:=(e,h')) (k0:=max d f) λk b=>?_;show(match run cx k a h with|some (.cN,g)=>run cx k c g|r=>r)=_;rw[p k (aM (jZ _ _) b)];exact q k (aM (jA _ _) b)
theorem Jd(p:oo cx a h .ret h1):oo cx (.seq a c) h .ret h1:=by obtain⟨d,p⟩:=p;refine pj (q:=(.ret,h1)) (k0:=d) λk b=>?_;show(match run cx k a h with|some (.cN,f)=>run cx k c f|r=>r)=_;rw[p k b]
theorem Aj:oo cx .skip h .cN h:=pj (q:=(.cN,h)) (k0:=0) λ_ _=>rfl
theorem xu:oo cx .ret h .ret h:=pj (q:=(.ret,h)) (k0:=0) λ_ _=>rfl
theorem hY{j:Nat}{bD:Array Oper}(p:∀b,ju cx b bD h bD.toList=some h1):oo cx (.region j bD false) h .cN h1:=pj (q:=(.cN,h1)) (k0:=0) λk _=>by show(match ju cx (run cx k) bD h bD.toList with|some d=>some (Ex.cN,d)|none=>none)=_;rw[p]
theorem Je{j:Nat}{bD:Array Oper}{l:List Hm.Item}(b:nS bD.toList=some l)(p:∀d,fK cx d bD h l=some h1):oo cx (.region j bD true) h .cN h1:=pj (q:=(.cN,h1)) (k0:=0) λk _=>by
 show(match nS bD.toList with
  |some l=>match fK cx (run cx k) bD h l with|some f=>some (Ex.cN,f)|none=>none
  |none=>none)=_
 rw[b];simp only;rw[p]
theorem vv{x:Operand}{b:Bool}(f:h.ev x=some (.bool b))(p:oo cx (bif b then a else c) h e h'):oo cx (.cond x a c) h e h':=by obtain⟨g,p⟩:=p;refine pj (q:=(e,h')) (k0:=g) λk d=>?_;show(match h.ev x with|some (.bool true)=>run cx k a h|some (.bool false)=>run cx k c h|_=>none)=_;rw[f];cases b with
 |true=>exact p k d
 |false=>exact p k d
theorem jo{b:nM}{bD:Array Oper}{o:Oper}{l:List Oper}{v:HV}(hg:o.guard=none)(hd:kU cx h o.op=some (.val v h1))(p:ju cx b bD (h1.put o.dst v) l=some h'):ju cx b bD h (o::l)=some h':=by show(match gy cx b bD h o with|some d=>ju cx b bD d l|none=>none)=_;unfold gy takes;rw[hg];simp only;rw[hd];exact p
end
def zC(t:Nat)(a b c d:String):Code:= .seq (.region 0 #[⟨some 2,.assign (.const (.slice none 0 0)),t,a,#[],none⟩] false) (.seq (.seq (.region 1 #[⟨some 3,.move (.tmp 0),t,b,#[],none⟩,⟨some 4,.binOp .eql t (.tmp 3) (.const (.slice none 0 0)) t,4,b,#[⟨0,.data⟩],none⟩] false) (.cond (.tmp 4) (.seq (.region 2 #[⟨some 2,.assign (.const (.slice none 0 0)),t,c,#[],none⟩] false) .ret) .skip)) (.seq (.region 3 #[⟨some 5,.buildSlice t 0 #[],t,d,#[],none⟩,⟨some 6,.move (.tmp 0),t,d,#[],none⟩,⟨some 7,.call ⟨.builtin .append,#[.tmp 5,.tmp 6],#[t,t]⟩,t,d,#[⟨0,.data⟩,⟨1,.data⟩],none⟩,⟨some 2,.assign (.tmp 7),t,d,#[⟨2,.data⟩,⟨2,.chain⟩,⟨0,.phase⟩,⟨1,.phase⟩,⟨2,.phase⟩],none⟩] false) .ret))
theorem lH{cx:Cx}{f:FuncId}{fn:Func}{a b c d:String}(f0:cx.fn.ap f=some fn)(g9:cx.ext.ap f=none)(o9:fn.ntmps=8)(m9:fn.results.toList=[.tmp 2])(u9:∀t,fn.params.toList=[t]→fn.body=some (zC t a b c d)∧∀y,cx.fN t=some y→Nat.ble y.z 4000=true):kE cx f:=by
 intro c9 t y e0 n9 j h v q k r0 p9 z0 v0 d0 l9;rw[f0]at e0;cases e0;obtain⟨l,n0⟩:=u9 t n9;have n0:=n0 y j
 obtain⟨e,j9⟩:∃x:pI,cx.ti.ap t=some x∧∃e,x.sh= .slice e:=by
  unfold Cx.fN at j;split at j
  ·
   rename_i x f9;split at j;·exact⟨x,f9,_,by assumption⟩
   ·cases j
  ·cases j
 obtain⟨D,d9,C⟩:=j9
 have e9:1≤y.z:=by
  unfold Cx.fN at j;rw[D]at j;simp only at j;rw[C]at j;simp only at j;unfold Cx.uW at j;split at j
  ·
   split at j
   ·
    split at j
    ·
     rw[aH]at j;split at j;·rename_i x0;simp only[ae,bO]at x0;cases j;exact x0.1
     ·cases j
    ·cases j
   ·cases j
  ·cases j
 let z:St:=⟨8,lU 0 [v] .e,h.hp,h.nx,h.lk,.undef⟩;let y0:St:=(z.put (some 2) .cM).put (some 3) v
 have u0:∀(e:Ex)(g:St),(∀m0,e≠.exit m0)→oo cx (zC t a b c d) z e g→∃k0,∀k,k0≤k→call cx (run cx k) f [v] h=some (g.tmp 2,⟨h.nt,h.dC,g.hp,g.nx,h.lk,h.df⟩):=by intro e g s9⟨k0,w0⟩;refine⟨k0,fun k q0=>?_⟩;unfold call;rw[g9,f0];simp only;rw[l];simp only;rw[o9];show(match run cx k (zC t a b c d) z with|some (.exit _,_)=>none|some (_,z9)=>_|none=>none)=_;rw[w0 k q0,m9];cases e with
  |exit m0=>exact absurd rfl (s9 m0)
  |cN=>rfl
  |ret=>rfl
 have b0:oo cx (.region 0 #[⟨some 2,.assign (.const (.slice none 0 0)),t,a,#[],none⟩] false) z .cN (z.put (some 2) .cM):=hY fun l0=>jo rfl rfl rfl;have a0:∀w:Bool,lu cx .eql t v .cM=some (.bool w)→oo cx (.region 1 #[⟨some 3,.move (.tmp 0),t,b,#[],none⟩,⟨some 4,.binOp .eql t (.tmp 3) (.const (.slice none 0 0)) t,4,b,#[⟨0,.data⟩],none⟩] false) (z.put (some 2) .cM) .cN (y0.put (some 4) (.bool w)):=by intro w p;refine hY fun l0=>jo rfl rfl (jo (v:= .bool w) rfl ?_ rfl);show(match lu cx .eql t v .cM with|some r=>some (Rs.val r y0)|none=>none)=_;rw[p]
 have h0:∀w:Bool,(w=true↔v= .cM)→(v= .cM∨v= .gz∨v= .lV∨∃b o n,v= .sl b o n∧b<h.nx)→lu cx .eql t v .cM=some (.bool w):=by
  intro w p h9;rcases h9 with rfl|rfl|rfl|⟨b,o,n,rfl,_⟩
  ·
   have:w=true:=p.2 rfl;subst this
   show(match cx.ti.ap t with
    |some u=>match u.sh,HV.cM with| .slice _,.cM=>fG .eql true| .slice _,.sl _ _ _=>fG .eql false| .slice _,.jh _ _ _=>fG .eql false| .slice _,.gz=>fG .eql false| .slice _,.lV=>fG .eql false|_,_=>none
    |none=>none)=_
   rw[D];simp only;rw[C];rfl
  ·
   have:w=false:=by cases w with
    |false=>rfl
    |true=>cases p.1 rfl
   subst this
   show(match cx.ti.ap t with
    |some u=>match u.sh,HV.gz with| .slice _,.cM=>fG .eql true| .slice _,.sl _ _ _=>fG .eql false| .slice _,.jh _ _ _=>fG .eql false| .slice _,.gz=>fG .eql false| .slice _,.lV=>fG .eql false|_,_=>none
    |none=>none)=_
   rw[D];simp only;rw[C];rfl
  ·
   have:w=false:=by cases w with
    |false=>rfl
    |true=>cases p.1 rfl
   subst this
   show(match cx.ti.ap t with
    |some u=>match u.sh,HV.lV with| .slice _,.cM=>fG .eql true| .slice _,.sl _ _ _=>fG .eql false| .slice _,.jh _ _ _=>fG .eql false| .slice _,.gz=>fG .eql false| .slice _,.lV=>fG .eql false|_,_=>none
    |none=>none)=_
   rw[D];simp only;rw[C];rfl
  ·
   have:w=false:=by cases w with
    |false=>rfl
    |true=>cases p.1 rfl
   subst this
   show(match cx.ti.ap t with
    |some u=>match u.sh,HV.sl b o n with| .slice _,.cM=>fG .eql true| .slice _,.sl _ _ _=>fG .eql false| .slice _,.jh _ _ _=>fG .eql false| .slice _,.gz=>fG .eql false| .slice _,.lV=>fG .eql false|_,_=>none
    |none=>none)=_
   rw[D];simp only;rw[C];rfl
 by_cases o0:v= .cM
 ·
  subst o0;have q0:k=0:=by have:iW h y.z .cM=some ([],0):=rfl;rw[this]at z0;cases z0;rfl
  refine⟨.cM,h.hp,h.nx,u0 .ret ((y0.put (some 4) (.bool true)).put (some 2) .cM) (fun _ h=>by cases h) ?_,au _,fun _ _=>rfl,r0,.inl ⟨rfl,q0⟩⟩;refine hM b0 (Jd ?_);refine hM (a0 true (h0 true ⟨fun _=>rfl,fun _=>rfl⟩ v0)) (vv (b:=true) rfl ?_);exact hM (hY fun l0=>jo rfl rfl rfl) xu
 ·
  let B:gK:=⟨true,y.z,(gP y.zc 0).length,cr .e 0 (gP y.zc 0)⟩;let m:=h.hp.set h.nx (.cp B);let t0:St:=y0.put (some 4) (.bool false);let i0:St:=⟨8,t0.dC.set 5 (.sl h.nx 0 0),m,h.nx+1,h.lk,.undef⟩;let i:St:=i0.put (some 6) v
  have c0:bu h.nx h.lk=false:=by cases A:bu h.nx h.lk with
   |false=>rfl
   |true=>have:=p9 _ A;omega
  have k9:iW i y.z v=some (q,k):=by
   rcases v0 with rfl|rfl|rfl|⟨b,o,n,rfl,l⟩;·exact absurd rfl o0
   ·exact z0
   ·exact z0
   ·
    have e:i.cp b=h.cp b:=by show(match m.ap b with|some (.cp x)=>some x|_=>none)=_;rw[show m.ap b=h.hp.ap b from Tr.bS _ _ (by omega)];rfl
    have y9:iW i y.z (.sl b o n)=iW h y.z (.sl b o n):=by unfold iW;simp only[cellsOf];rw[e]
    rw[y9];exact z0
  have g0:i.cp h.nx=some B:=by show(match m.ap h.nx with|some (.cp x)=>some x|_=>none)=_;rw[show m.ap h.nx=_ from Tr.a8 _ _ _]
  have r9:nG cx t v=true:=by unfold nG;rw[D];simp only;rw[C];rcases v0 with rfl|rfl|rfl|⟨b,o,n,rfl,l⟩<;>rfl
  have w9:hQ cx i t t (.sl h.nx 0 0) v=gE i y.z (.sl h.nx 0 0) q k:=by unfold hQ;rw[j];simp only;rw[r9,k9];simp only[lenOf];rw[show Nat.add 0 k=k from bi k,l9];rfl
  have x0:(B.own&&(i.gD h.nx&&Nat.beq B.z y.z))=true:=by show(true&&(!bu h.nx h.lk&&Nat.beq y.z y.z))=true;rw[c0];simp
  have v9:gE i y.z (.sl h.nx 0 0) q k=bif Nat.ble (Nat.add 0 (Nat.mul (Nat.add 0 k) y.z)) B.n then match i.fo h.nx (Nat.add 0 (Nat.mul 0 y.z)) q with|some z9=>some (.val (.sl h.nx 0 (Nat.add 0 k)) z9)|none=>none else bif Nat.ble (Nat.add 0 (Nat.mul 0 y.z)) B.n then some (.val (.sl i.nx 0 (Nat.add 0 k)) ⟨i.nt,i.dC,(i.hp.nr h.nx).set i.nx (.cp ⟨true,y.z,Nat.mul (Nat.add 0 k) y.z,cr B.c (Nat.mul 0 y.z) q⟩),Nat.add i.nx 1,i.lk,i.df⟩)else none:=by show(match i.cp h.nx with|some x=>_|none=>none)=_;rw[g0];simp only;rw[x0];rfl
  have x9:B.n=0:=rfl
  have j0:∀(w:HV)(s:St),gE i y.z (.sl h.nx 0 0) q k=some (.val w s)→(s.put (some 7) w).tmp 7=w→oo cx (zC t a b c d) z .ret ((s.put (some 7) w).put (some 2) w):=by
   intro w s p i9;refine hM b0 (hM (hM (a0 false (h0 false ⟨fun h=>(by cases h),fun h=>absurd h o0⟩ v0)) (vv (b:=false) rfl Aj)) (hM (hY fun l0=>?_) xu));refine jo (v:= .sl h.nx 0 0) (h1:=⟨8,t0.dC,m,h.nx+1,h.lk,.undef⟩) rfl ?_ ?_;·show eZ cx t0 t 0 []=_;unfold eZ;rw[j];simp only;rw[n0];rfl
   ·
    refine jo (v:=v) (h1:=i0) rfl rfl ?_;refine jo (v:=w) (h1:=s) rfl ?_ ?_;·show hQ cx i t t (.sl h.nx 0 0) v=_;rw[w9,p]
    ·refine jo (v:=w) (h1:=s.put (some 7) w) rfl ?_ rfl;show some (Rs.val ((s.put (some 7) w).tmp 7) (s.put (some 7) w))=_;rw[i9]
  rw[v9,x9]at j0;by_cases w0:k=0
  ·
   subst w0;have t9:q=[]:=eN.1 (by rw[d0,fP]);subst t9;have s0:Nat.ble (Nat.add 0 (Nat.mul (Nat.add 0 0) y.z)) 0=true:=by rw[bO];show 0+0*y.z≤0;rw[fP];exact au _
   have p:i.fo h.nx (Nat.add 0 (Nat.mul 0 y.z)) []=some ⟨8,i.dC,m.set h.nx (.cp ⟨true,y.z,0,B.c⟩),h.nx+1,h.lk,.undef⟩:=by
    unfold St.fo;rw[g0];simp only;have p0:Nat.add 0 (Nat.mul 0 y.z)=0:=by show 0+0*y.z=0;rw[fP]
    rw[p0];show(bif true&&(!bu h.nx h.lk&&true)then _ else none)=_;rw[c0];rfl
   have:=j0 (.sl h.nx 0 0) ⟨8,i.dC,m.set h.nx (.cp ⟨true,y.z,0,B.c⟩),h.nx+1,h.lk,.undef⟩ (by rw[s0,p];rfl) rfl;refine⟨.sl h.nx 0 0,_,_,u0 .ret _ (fun _ h=>by cases h) this,dg _,fun b l=>?_,fun b l=>?_,.inr ⟨h.nx,⟨true,y.z,0,B.c⟩,rfl,au _,a7 _,Tr.a8 _ _ _,rfl,rfl,?_⟩⟩;·show((h.hp.set h.nx (.cp B)).set h.nx _).ap b=_;rw[Tr.bS _ _ (by omega),Tr.bS _ _ (by omega)]
   ·have l:h.nx+1≤b:=l;show((h.hp.set h.nx (.cp B)).set h.nx _).ap b=_;rw[Tr.bS _ _ (by omega),Tr.bS _ _ (by omega)];exact r0 b (by omega)
   ·rw[fP];rfl
  ·
   have b9:1≤k*y.z:=Nat.mul_pos (Nat.pos_of_ne_zero w0) e9
   have s0:Nat.ble (Nat.add 0 (Nat.mul (Nat.add 0 k) y.z)) 0=false:=by cases A:Nat.ble (Nat.add 0 (Nat.mul (Nat.add 0 k) y.z)) 0 with
    |false=>rfl
    |true=>rw[bO]at A;have A:0+(0+k)*y.z≤0:=A;rw[bi,bi]at A;omega
   have p0:Nat.mul 0 y.z=0:=fP _;have q9:Nat.add 0 k=k:=bi k;have:=j0 (.sl (h.nx+1) 0 k) ⟨8,i.dC,(m.nr h.nx).set (h.nx+1) (.cp ⟨true,y.z,k*y.z,cr B.c 0 q⟩),h.nx+1+1,h.lk,.undef⟩ (by rw[s0,p0,q9];rfl) rfl;refine⟨.sl (h.nx+1) 0 k,_,_,u0 .ret _ (fun _ h=>by cases h) this,by show h.nx≤h.nx+1+1;omega,fun b l=>?_,fun b l=>?_,.inr ⟨h.nx+1,⟨true,y.z,k*y.z,cr B.c 0 q⟩,rfl,dg _,a7 _,Tr.a8 (m.nr h.nx) (h.nx+1) _,rfl,rfl,?_⟩⟩;·show(((h.hp.set h.nx (.cp B)).nr h.nx).set (h.nx+1) _).ap b=_;rw[Tr.bS _ _ (by omega),Tr.gC,aB (by omega),Tr.bS _ _ (by omega)]
   ·have l:h.nx+1+1≤b:=l;show(((h.hp.set h.nx (.cp B)).nr h.nx).set (h.nx+1) _).ap b=_;rw[Tr.bS _ _ (by omega),Tr.gC,aB (by omega),Tr.bS _ _ (by omega)];exact r0 b (by omega)
   ·rw[←d0];exact il (by omega)
theorem Vf:ft.fN 22=some ⟨[.int .i64 0],1,8⟩:=by kernel_rfl
theorem sz3:ft.size 3=some 1:=by kernel_rfl
theorem O2:(match ft.ti.ap 22 with
 |some x=>match x.sh with| .slice e=>Nat.beq e 3|_=>false
 |none=>false)=true:=by kernel_rfl
theorem OZ{h:St}{b n:Nat}{y:gK}{lo hi i:Option HV}{l u m:Option Nat}{v:HV}(k:h.cp b=some y)(h1:fd lo=some l)(h2:fd hi=some u)(j:fd i=some m)(p:ii y b 0 n 1 (dM 0 l) u m=some v):ew ft h 22 (.sl b 0 n) lo hi i=some (.val v h):=by have d:=O2;unfold ew;rw[h1,h2,j];cases g:ft.ti.ap 22 with
 |none=>rw[g]at d;cases d
 |some x=>rw[g]at d;simp only at d⊢;cases f:x.sh with
 |slice e=>rw[f]at d;have o:e=3:=aw d;subst o;simp only;rw[sz3,k];simp only;rw[p]
 |_=>rw[f]at d;cases d
theorem s4{y:gK}{b n l:Nat}{hi:Option Nat}(g:y.z=1)(f:l<=dM n hi)(i:dM n hi<=y.n)(d:dM n hi<=140737488355328):ii y b 0 n 1 l hi none=some (Hm.part HV.sl b 0 1 l (dM n hi)):=by unfold ii;simp only;rw[show(Nat.ble 1 1&&Nat.ble (dM n hi) 140737488355328&&(Nat.ble l (dM n hi)&&(Nat.beq y.z 1&&Nat.ble (Nat.add 0 (Nat.mul (dM n hi) 1)) y.n)))=true by simp only[ae,bO];refine⟨⟨au _,d⟩,f,by rw[g];rfl,?_⟩;show 0+dM n hi*1<=y.n;omega];rfl
theorem Yo:ft.fn.ap 233=some Tryz.f233:=by kernel_rfl
theorem aaC:ft.ext.ap 233=none:=by kernel_rfl
theorem gk{cx:Cx}{h h':St}{b:nM}{bD:Array Oper}{o:Oper}{l:List Oper}(v:HV)(hg:o.guard=none)(hd:kU cx h o.op=some (.val v h))(p:ju cx b bD (h.put o.dst v) l=some h'):ju cx b bD h (o::l)=some h':=jo hg hd p
def u4(o:Oper)(op:Op)(d:Nat):Prop:=o.op=op/\o.dst=some d/\o.guard=none
theorem yE{cx:Cx}{h h1 h':St}{b:nM}{bD:Array Oper}{x:Hm.Item}{l:List Hm.Item}{op:Op}{d:Nat}(v:HV)(n:x.lk=[])(r:u4 x.o op d)(o:kR h op=false)(hd:kU cx ⟨h.nt,jJ h op.operands.toList,h.hp,h.nx,h.lk,.any⟩ op=some (.val v h1))(q:h1.nt=h.nt)(m:Nat.blt d h.nt=true)(p:fK cx b bD ⟨h.nt,h.dC.set d v,h1.hp,h1.nx,h.lk,h.df⟩ l=some h'):fK cx b bD h (x::l)=some h':=by
 obtain⟨f,g,i⟩:=r
 show(match hK h x.lk with
  |some s=>bif kR h x.o.op then none else match gy cx b bD (h.cut bD x.o s) x.o with|some t=>fK cx b bD (h.take x.o t) l|none=>none
  |none=>none)=_
 rw[n];show(bif kR h x.o.op then none else match gy cx b bD (h.cut bD x.o h.lk) x.o with|some t=>fK cx b bD (h.take x.o t) l|none=>none)=_;rw[f,o];have k:h.cut bD x.o h.lk=⟨h.nt,jJ h op.operands.toList,h.hp,h.nx,h.lk,.any⟩:=by unfold St.cut nJ;rw[i,f];rfl
 have e:gy cx b bD (h.cut bD x.o h.lk) x.o=some (h1.put (some d) v):=by unfold gy takes;rw[i];simp only;rw[k,f,hd,g]
 rw[e];show fK cx b bD (h.take x.o (h1.put (some d) v)) l=_;have j:h.take x.o (h1.put (some d) v)=⟨h.nt,h.dC.set d v,h1.hp,h1.nx,h.lk,h.df⟩:=by unfold St.take St.put;rw[g];simp only;rw[q,m];unfold St.tmp;simp only[gg];rw[Tr.a8]
 rw[j];exact p
theorem lj{cx:Cx}{h h':St}{b:nM}{bD:Array Oper}{x:Hm.Item}{l:List Hm.Item}{op:Op}{d:Nat}(v:HV)(g:x.lk=[])(j:u4 x.o op d)(i:kR h op=false)(hd:kU cx ⟨h.nt,jJ h op.operands.toList,h.hp,h.nx,h.lk,.any⟩ op=some (.val v ⟨h.nt,jJ h op.operands.toList,h.hp,h.nx,h.lk,.any⟩))(f:Nat.blt d h.nt=true)(p:fK cx b bD ⟨h.nt,h.dC.set d v,h.hp,h.nx,h.lk,h.df⟩ l=some h'):fK cx b bD h (x::l)=some h':=yE v g j i hd rfl f p
theorem Wy{h:St}{b n:Nat}:ff ft h .len [22] [.sl b 0 n]=some (.val (.int .i64 (Int.ofNat n)) h):=by have d:=O2;unfold ff;simp only;cases f:ft.ti.ap 22 with
 |none=>rw[f]at d;cases d
 |some x=>rw[f]at d;simp only at d⊢;cases g:x.sh with
 |slice e=>rfl
 |_=>rw[g]at d;cases d
theorem V5{x:HV}(h:∀s,x≠.ef s):nG ft 22 x=true:=by have b:=O2;unfold nG;cases d:ft.ti.ap 22 with
 |none=>rw[d]at b;cases b
 |some t=>rw[d]at b;simp only at b⊢;cases f:t.sh with
 |slice e=>cases x<;>first|rfl|exact absurd rfl (h _)
 |_=>rw[f]at b;cases b
theorem Xd{h:St}{b i k:Nat}{y:gK}{x:HV}{bP:List HV}(d:h.hp.ap b=some (.cp y))(g:y.own=true)(f:bu b h.lk=false)(p:y.z=1)(o:∀s,x≠.ef s)(m:iW h 1 x=some (bP,k))(r:bP.length=k)(l:gu (i+k) 8=true)(q:i+k<=y.n):hQ ft h 22 22 (.sl b 0 i) x=some (.val (.sl b 0 (i+k)) ⟨h.nt,h.dC,h.hp.set b (.cp ⟨true,y.z,y.n,cr y.c i bP⟩),h.nx,h.lk,h.df⟩):=by
 unfold hQ;rw[Vf];simp only;rw[V5 o,m];simp only[lenOf];rw[show gu (Nat.add i k) 8=true from l];show gE h 1 (.sl b 0 i) bP k=_;have j:Nat.add 0 (Nat.mul i 1)=i:=by show 0+i*1=i;omega
 have n:=jO (o:=i) (c:=bP) d g f (by omega);show(match h.cp b with|some x=>_|none=>none)=_;rw[jK d];simp only;rw[show(y.own&&(h.gD b&&Nat.beq y.z 1))=true by rw[g,p];unfold St.gD;rw[f];rfl];rw[show Nat.ble (Nat.add 0 (Nat.mul (Nat.add i k) 1)) y.n=true by rw[bO];show 0+(i+k)*1<=y.n;omega];rw[j,n];rfl
theorem Ql{h:St}{b o m:Nat}{y:gK}(d:h.hp.ap b=some (.cp y))(i:y.own=true)(g:bu b h.lk=false)(f:o+(gP [HV.int .i64 0] m).length<=y.n):oe ft h 22 (.sl b o m)=some (.val .undef ⟨h.nt,h.dC,h.hp.set b (.cp ⟨true,y.z,y.n,cr y.c o (gP [.int .i64 0] m)⟩),h.nx,h.lk,h.df⟩):=by unfold oe;rw[Vf];simp only;rw[jO d i g f]
theorem EI{g:St}{k b n:Nat}(d:g.tmp k= .sl b 0 n):kU ft g (.call ⟨.builtin .len,#[.tmp k],#[22]⟩)=some (.val (.int .i64 (Int.ofNat n)) g):=by show ff ft g .len [22] [g.tmp k]=_;rw[d];exact Wy
theorem uk{g:St}{k b n:Nat}{y:gK}{lo hi d:Option Operand}{lo' hi' mx':Option HV}{l u m:Option Nat}{v:HV}(r:g.tmp k= .sl b 0 n)(f:nq g lo=some lo')(i:nq g hi=some hi')(j:nq g d=some mx')(p:g.cp b=some y)(h1:fd lo'=some l)(h2:fd hi'=some u)(o:fd mx'=some m)(q:ii y b 0 n 1 (dM 0 l) u m=some v):kU ft g (.slice 22 (.tmp k) lo hi d)=some (.val v g):=by show(match some (g.tmp k),nq g lo,nq g hi,nq g d with|some v,some l,some h,some m=>ew ft g 22 v l h m|_,_,_,_=>none)=_;rw[r,f,i,j];exact OZ p h1 h2 o q
theorem SE{g:St}{p q:Nat}{v x:HV}{r:Option Rs}(d:g.tmp p=v)(f:g.tmp q=x)(b:hQ ft g 22 22 v x=r):kU ft g (.call ⟨.builtin .append,#[.tmp p,.tmp q],#[22,22]⟩)=r:=by show hQ ft g 22 22 (g.tmp p) (g.tmp q)=_;rw[d,f,b]
theorem M9{g:St}{p:Nat}{v:HV}{r:Option Rs}(d:g.tmp p=v)(b:oe ft g 22 v=r):kU ft g (.call ⟨.builtin .clear,#[.tmp p],#[22]⟩)=r:=by show oe ft g 22 (g.tmp p)=_;rw[d,b]
def Vh:Array Oper:=match Tryz.f233.body with|some (.seq _ (.seq _ (.seq _ (.seq _ (.seq (.region _ o _) _)))))=>o|_=> #[]
def oM(i:Nat):Hm.Item:=⟨i,(Vh.toList[i]?).getD ⟨none,.move (.tmp 0),0,"",#[],none⟩,[]⟩
theorem Wh:nS Vh.toList=some [oM 0,oM 1,oM 2,oM 3,oM 4,oM 5,oM 6,oM 7]:=by kernel_rfl
theorem di0:u4 (oM 0).o (.move (.tmp 0)) 20:=⟨by kernel_rfl,by kernel_rfl,by kernel_rfl⟩
theorem di1:u4 (oM 1).o (.move (.tmp 1)) 21:=⟨by kernel_rfl,by kernel_rfl,by kernel_rfl⟩
theorem di2:u4 (oM 2).o (.slice 22 (.tmp 20) none (some (.tmp 21)) none) 22:=⟨by kernel_rfl,by kernel_rfl,by kernel_rfl⟩
theorem di3:u4 (oM 3).o (.move (.tmp 0)) 23:=⟨by kernel_rfl,by kernel_rfl,by kernel_rfl⟩
theorem di4:u4 (oM 4).o (.move (.tmp 2)) 24:=⟨by kernel_rfl,by kernel_rfl,by kernel_rfl⟩
theorem di5:u4 (oM 5).o (.slice 22 (.tmp 23) (some (.tmp 24)) none none) 25:=⟨by kernel_rfl,by kernel_rfl,by kernel_rfl⟩
theorem di6:u4 (oM 6).o (.call ⟨.builtin .append,#[.tmp 22,.tmp 25],#[22,22]⟩) 26:=⟨by kernel_rfl,by kernel_rfl,by kernel_rfl⟩
theorem di7:u4 (oM 7).o (.assign (.tmp 26)) 0:=⟨by kernel_rfl,by kernel_rfl,by kernel_rfl⟩
theorem Tq:R5 ft 233:=by
 intro h b n i y D r0 s9 j0 z t p0 w0 m0;have y0:=g5 t;have g0:n<=y.n:=by rw[fV]at t;have:=(t.2 (n-1) (by omega)).1;omega
 let m:HV:= .sl b 0 n;let p:HV:= .int .i64 (Int.ofNat i);let q:HV:= .int .i64 (Int.ofNat (i+1));let v0:St:=⟨33,lU 0 [m,p,q] .e,h.hp,h.nx,h.lk,.undef⟩;have z0:∀g:St,g.hp=h.hp->g.cp b=some y:=λg e=>jK (by rw[e];exact r0);obtain⟨b0,z9⟩:∃v,ii y b 0 n 1 i (some (i+1)) (some n)=some v:=by unfold ii;simp only[dM];rw[show(Nat.ble 1 1&&Nat.ble (i+1) 140737488355328&&(Nat.ble i (i+1)&&(Nat.beq y.z 1&&Nat.ble (Nat.add 0 (Nat.mul (i+1) 1)) y.n)))=true by simp only[ae,bO];refine⟨⟨au _,by omega⟩,dg _,by rw[z];rfl,?_⟩;show 0+(i+1)*1<=y.n;omega];rw[show(Nat.ble (i+1) n&&Nat.ble (Nat.add 0 (Nat.mul n 1)) y.n)=true by simp only[ae,bO];refine⟨m0,?_⟩;show 0+n*1<=y.n;omega];simp only[gg];cases Nat.beq n i<;>cases Nat.beq (Nat.add 0 (Nat.mul n 1)) y.n<;>exact⟨_,rfl⟩
 have u9:decide (Int.ofNat i=Int.ofNat (i+1))=false:=by rw[mc];intro h;have:=Int.ofNat.inj h;omega
 obtain⟨w,u,q9,p9,r9,i0⟩:∃x u,ii y b 0 n 1 (i+1) none none=some x/\(∀s,x≠.ef s)/\(∀g:St,g.hp=h.hp->iW g 1 x=some (u,n-(i+1)))/\u=D.drop (i+1):=by
  have h0:=s4 (y:=y) (b:=b) (n:=n) (l:=i+1) (hi:=none) z m0 g0 p0;by_cases u0:n=i+1
  .
   refine⟨.lV,[],?_,(λs h=>by cases h),λg _=>?_,?_⟩;.rw[h0];unfold Hm.part;simp only[dM];rw[show(Nat.beq n (i+1)&&!Nat.beq (i+1) 0)=true by rw[u0];simp;rfl];rfl
   .rw[u0,dW];rfl
   .rw[ed (by omega)]
  .
   refine⟨.sl b (i+1) (n-(i+1)),D.drop (i+1),?_,(λs h=>by cases h),λg y9=>?_,rfl⟩;.rw[h0];unfold Hm.part;simp only[dM];rw[show(Nat.beq n (i+1)&&!Nat.beq (i+1) 0)=false by rw[Ls.jD u0];rfl];show some (HV.sl b (0+(i+1)*1) (n-(i+1)))=_;rw[gU,bi]
   .unfold iW;simp only[cellsOf,lenOf];rw[z0 g y9];simp only;have v9:Nat.mul (n-(i+1)) 1=n-(i+1):=gU _;rw[v9];have:=fz (c1:=D.take (i+1)) (c2:=D.drop (i+1)) (c3:=[]) t (by rw[bf,dE]) (p:=i+1) (by rw[aR,y0];omega) rfl;rw[bi,cB,y0]at this;rw[this]
 have t9:u.length=n-(i+1):=by rw[i0,cB,y0]
 have l0:i+(n-(i+1))=n-1:=by omega
 let C:gK:=⟨true,y.z,y.n,cr y.c i u⟩;let B:=h.hp.set b (.cp C);let a0:gK:=⟨true,y.z,y.n,cr C.c (n-1) [.int .i64 0]⟩;let x0:=B.set b (.cp a0);have q0:B.ap b=some (.cp C):=Tr.a8 _ _ _;have i9:ii C b 0 (n-1) 1 (n-1) (some n) none=some (.sl b (n-1) 1):=by rw[s4 (y:=C) (b:=b) (n:=n-1) (l:=n-1) (hi:=some n) z (by show n-1<=n;omega) g0 p0];unfold Hm.part;simp only[dM];rw[show(Nat.beq n (n-1)&&!Nat.beq (n-1) 0)=false by rw[Ls.jD (by omega)];rfl];show some (HV.sl b (0+(n-1)*1) (n-(n-1)))=_;rw[gU,bi,show n-(n-1)=1 by omega]
 have j9:ii y b 0 n 1 0 (some i) none=some (.sl b 0 i):=by rw[s4 (y:=y) (b:=b) (n:=n) (l:=0) (hi:=some i) z (a5 _) (by show i<=y.n;omega) (by show i<=_;omega)];unfold Hm.part;simp only[dM];rw[show(Nat.beq i 0&&!Nat.beq 0 0)=false by simp];show some (HV.sl b (0+0*1) (i-0))=_;rfl
 obtain⟨c,o0⟩:∃c,Tryz.f233.body=some c:=⟨_,rfl⟩;let o:HV:= .int .i64 (Int.ofNat n);let f:HV:= .sl b 0 (n-1);let f0:St:=((((((v0.put (some 6) .cM).put (some 8) m).put (some 9) p).put (some 10) q).put (some 11) m).put (some 12) o).put (some 13) b0;let t0:St:=((f0.put (some 14) p).put (some 15) q).put (some 16) (.bool false);let e0:St:=((t0.put (some 18) m).put (some 19) o).put (some 7) o;let d0:St:=⟨33,(((((((e0.dC.set 20 m).set 21 p).set 22 (.sl b 0 i)).set 23 m).set 24 q).set 25 w).set 26 f).set 0 f,B,h.nx,h.lk,.undef⟩;let c0:St:=((((d0.put (some 27) f).put (some 28) f).put (some 29) (.int .i64 (Int.ofNat (n-1)))).put (some 30) o).put (some 31) (.sl b (n-1) 1);let s0:St:=⟨33,c0.dC,x0,h.nx,h.lk,.undef⟩
 have n9:oo ft c v0 .ret ((s0.put (some 32) f).put (some 6) f):=by
  cases o0;refine hM (hY λA=>gk .cM rfl (by kernel_rfl) rfl) (hM (h1:=f0) ?_ (hM (h1:=t0) ?_ (hM (h1:=e0) ?_ (hM (h1:=d0) ?_ (hM (h1:=s0) ?_ (hM (hY λA=>jo (v:=f) rfl rfl (jo (v:=f) rfl rfl rfl)) xu))))))
  .
   refine hY λA=>gk m rfl (by kernel_rfl) (gk p rfl (by kernel_rfl) (gk q rfl (by kernel_rfl) (gk m rfl (by kernel_rfl) (gk o rfl ?_ (gk b0 rfl ?_ (by kernel_rfl))))));.exact EI (b:=b) (n:=n) (by kernel_rfl)
   .exact uk (b:=b) (n:=n) (lo':=some p) (hi':=some q) (mx':=some o) (by kernel_rfl) (by kernel_rfl) (by kernel_rfl) (by kernel_rfl) (z0 _ (by kernel_rfl)) rfl rfl rfl z9
  .refine hM (h1:=t0) (hY λA=>gk p rfl (by kernel_rfl) (gk q rfl (by kernel_rfl) (gk (.bool false) rfl ?_ (by kernel_rfl)))) (vv (b:=false) (by kernel_rfl) Aj);show(match some (HV.bool (decide (Int.ofNat i=Int.ofNat (i+1))))with|some r=>some (Rs.val r _)|none=>none)=_;rw[u9]
  .refine hY λA=>gk m rfl (by kernel_rfl) (gk o rfl ?_ (gk o rfl (by kernel_rfl) (by kernel_rfl)));exact EI (b:=b) (n:=n) (by kernel_rfl)
  .
   refine Je Wh λA=>lj m rfl di0 (by kernel_rfl) (by kernel_rfl) (by kernel_rfl) (lj p rfl di1 (by kernel_rfl) (by kernel_rfl) (by kernel_rfl) (lj (.sl b 0 i) rfl di2 (by kernel_rfl) (uk (b:=b) (n:=n) (lo':=none) (hi':=some p) (mx':=none) (by kernel_rfl) (by kernel_rfl) (by kernel_rfl) (by kernel_rfl) (z0 _ (by kernel_rfl)) rfl rfl rfl j9) (by kernel_rfl) (lj m rfl di3 (by kernel_rfl) (by kernel_rfl) (by kernel_rfl) (lj q rfl di4 (by kernel_rfl) (by kernel_rfl) (by kernel_rfl) (lj w rfl di5 (by kernel_rfl) (uk (b:=b) (n:=n) (lo':=some q) (hi':=none) (mx':=none) (by kernel_rfl) (by kernel_rfl) (by kernel_rfl) (by kernel_rfl) (z0 _ (by kernel_rfl)) rfl rfl rfl q9) (by kernel_rfl) (yE (h1:=⟨33,(Tr.e.set 25 w).set 22 (.sl b 0 i),B,h.nx,h.lk,.any⟩) f rfl di6 (by kernel_rfl) ?_ (by kernel_rfl) (by kernel_rfl) (lj f rfl di7 (by kernel_rfl) (by kernel_rfl) (by kernel_rfl) (by kernel_rfl))))))));have:=Xd (h:=⟨33,(Tr.e.set 25 w).set 22 (.sl b 0 i),h.hp,h.nx,h.lk,.any⟩) (b:=b) (i:=i) (k:=n-(i+1)) (y:=y) (x:=w) (bP:=u) r0 s9 j0 z p9 (r9 _ rfl) t9 (by rw[l0];unfold gu at w0⊢;rw[bO]at w0⊢;have w0:n*8<=4294967296:=w0;show(n-1)*8<=4294967296;omega) (by omega);rw[l0]at this;have e:∀g:St,g=⟨33,(Tr.e.set 25 w).set 22 (.sl b 0 i),h.hp,h.nx,h.lk,.any⟩->kU ft g (.call ⟨.builtin .append,#[.tmp 22,.tmp 25],#[22,22]⟩)=some (.val f ⟨33,(Tr.e.set 25 w).set 22 (.sl b 0 i),B,h.nx,h.lk,.any⟩):=by intro g t;subst t;exact SE rfl rfl this
   exact e _ (by kernel_rfl)
  .
   refine hY λA=>gk f rfl (by kernel_rfl) (gk f rfl (by kernel_rfl) (gk (.int .i64 (Int.ofNat (n-1))) rfl ?_ (gk o rfl (by kernel_rfl) (gk (.sl b (n-1) 1) rfl ?_ (jo (h1:=s0) (v:= .undef) rfl ?_ (by kernel_rfl))))));.exact EI (b:=b) (n:=n-1) (by kernel_rfl)
   .exact uk (b:=b) (n:=n-1) (lo':=some (.int .i64 (Int.ofNat (n-1)))) (hi':=some o) (mx':=none) (by kernel_rfl) (by kernel_rfl) (by kernel_rfl) (by kernel_rfl) (jK q0) rfl rfl rfl i9
   .exact M9 (v:= .sl b (n-1) 1) (by kernel_rfl) (Ql (h:=c0) q0 rfl j0 (by show n-1+1<=y.n;omega))
 obtain⟨o9,w9⟩:=n9;refine⟨x0,a0,⟨o9,λk x9=>?_⟩,λd n0=>?_,Tr.a8 _ _ _,rfl,z,?_⟩
 .
  unfold call;rw[aaC,Yo];simp only;rw[o0];simp only;show(match run ft k c v0 with|some (.exit _,_)=>none|some (_,g9)=>_|none=>none)=_;rw[w9 k x9];have e:∀g:St,g.tmp 6=f->g.hp=x0->g.nx=h.nx->(match pm ft g Tryz.f233.results.toList with|some l=>some (one l,(⟨h.nt,h.dC,g.hp,g.nx,h.lk,h.df⟩:St))|none=>none)=some (f,⟨h.nt,h.dC,x0,h.nx,h.lk,h.df⟩):=by intro g m9 l9 k9;show some (g.tmp 6,(⟨h.nt,h.dC,g.hp,g.nx,h.lk,h.df⟩:St))=_;rw[m9,l9,k9]
  exact e _ (by kernel_rfl) (by kernel_rfl) (by kernel_rfl)
 .show((h.hp.set b _).set b _).ap d=_;rw[Tr.bS _ _ n0,Tr.bS _ _ n0]
 .
  rw[fV];rw[fV]at t;refine⟨by rw[sU,aA (by omega),y0],λj h9=>?_⟩;rw[bi];refine⟨by show j<y.n;omega,?_⟩;show(cr (cr y.c i u) (n-1) [.int .i64 0]).ap j=_;rw[gq,aB (by simp only[bp,fZ];omega),gq,iC];by_cases k0:j<i;.rw[aB (by omega),aA k0];have:=(t.2 j (by omega)).2;rw[bi]at this;exact this
  .rw[aA (by omega),aB k0,i0,gh,show i+1+(j-i)=j+1 by omega]
theorem Fo{t:Nat}(h:(match ft.fN t with|some y=>Nat.ble y.z 4000|none=>true)=true)(y:El)(b:ft.fN t=some y):Nat.ble y.z 4000=true:=by rw[b]at h;exact h
theorem c77:kE ft 77:=lH (fn:=Tryz.f77) (a:= "slices.go:355") (b:= "slices.go:357") (c:= "slices.go:358") (d:= "slices.go:362") (by kernel_rfl) (by kernel_rfl) (by kernel_rfl) (by kernel_rfl) λt h=>by have h:[22]=[t]:=h;cases h;exact⟨by kernel_rfl,Fo (by kernel_rfl)⟩
theorem aaP:kE ft 118:=lH (fn:=Tryz.f118) (a:= "slices.go:355") (b:= "slices.go:357") (c:= "slices.go:358") (d:= "slices.go:362") (by kernel_rfl) (by kernel_rfl) (by kernel_rfl) (by kernel_rfl) λt h=>by have h:[23]=[t]:=h;cases h;exact⟨by kernel_rfl,Fo (by kernel_rfl)⟩
theorem c49:kE ft 49:=lH (fn:=Tryz.f49) (a:= "slices.go:355") (b:= "slices.go:357") (c:= "slices.go:358") (d:= "slices.go:362") (by kernel_rfl) (by kernel_rfl) (by kernel_rfl) (by kernel_rfl) λt h=>by have h:[25]=[t]:=h;cases h;exact⟨by kernel_rfl,Fo (by kernel_rfl)⟩
theorem aaO:kE ft 121:=lH (fn:=Tryz.f121) (a:= "slices.go:355") (b:= "slices.go:357") (c:= "slices.go:358") (d:= "slices.go:362") (by kernel_rfl) (by kernel_rfl) (by kernel_rfl) (by kernel_rfl) λt h=>by have h:[67]=[t]:=h;cases h;exact⟨by kernel_rfl,Fo (by kernel_rfl)⟩
theorem aaN:kE ft 124:=lH (fn:=Tryz.f124) (a:= "slices.go:355") (b:= "slices.go:357") (c:= "slices.go:358") (d:= "slices.go:362") (by kernel_rfl) (by kernel_rfl) (by kernel_rfl) (by kernel_rfl) λt h=>by have h:[72]=[t]:=h;cases h;exact⟨by kernel_rfl,Fo (by kernel_rfl)⟩
theorem aaM:kE ft 197:=lH (fn:=Tryz.f197) (a:= "bytes.go:1391") (b:= "bytes.go:1392") (c:= "bytes.go:1393") (d:= "bytes.go:1395") (by kernel_rfl) (by kernel_rfl) (by kernel_rfl) (by kernel_rfl) λt h=>by have h:[67]=[t]:=h;cases h;exact⟨by kernel_rfl,Fo (by kernel_rfl)⟩
theorem aaL:kE ft 248:=lH (fn:=Tryz.f248) (a:= "slices.go:355") (b:= "slices.go:357") (c:= "slices.go:358") (d:= "slices.go:362") (by kernel_rfl) (by kernel_rfl) (by kernel_rfl) (by kernel_rfl) λt h=>by have h:[34]=[t]:=h;cases h;exact⟨by kernel_rfl,Fo (by kernel_rfl)⟩
theorem aaK:kE ft 249:=lH (fn:=Tryz.f249) (a:= "slices.go:355") (b:= "slices.go:357") (c:= "slices.go:358") (d:= "slices.go:362") (by kernel_rfl) (by kernel_rfl) (by kernel_rfl) (by kernel_rfl) λt h=>by have h:[35]=[t]:=h;cases h;exact⟨by kernel_rfl,Fo (by kernel_rfl)⟩
theorem aaJ:kE ft 250:=lH (fn:=Tryz.f250) (a:= "slices.go:355") (b:= "slices.go:357") (c:= "slices.go:358") (d:= "slices.go:362") (by kernel_rfl) (by kernel_rfl) (by kernel_rfl) (by kernel_rfl) λt h=>by have h:[43]=[t]:=h;cases h;exact⟨by kernel_rfl,Fo (by kernel_rfl)⟩
def Ya:Tr Nat:=((((((((((Tr.e).set 77 2).set 118 2).set 49 2).set 121 2).set 124 2).set 197 2).set 248 2).set 249 2).set 250 2).set 233 1
theorem nP{t:Tr Nat}{g s:Nat}(h:∀f q,t.ap f=some q->om ft f q)(d:om ft g s):∀f q,(t.set g s).ap f=some q->om ft f q:=by
 intro f i b;rw[Tr.dk]at b;split at b;.rename_i e;subst e;cases b;exact d
 .exact h f i b
theorem rH{f:Nat}(h:kE ft f):om ft f 2:=⟨λh=>(by cases h),λ_=>h⟩
theorem V6:∀f q,(Tr.e:Tr Nat).ap f=some q->om ft f q:=λf q h=>by rw[Tr.kN]at h;cases h
theorem KR:∀f q,Ya.ap f=some q->om ft f q:=nP (nP (nP (nP (nP (nP (nP (nP (nP (nP V6 (rH c77)) (rH aaP)) (rH c49)) (rH aaO)) (rH aaN)) (rH aaM)) (rH aaL)) (rH aaK)) (rH aaJ)) ⟨λ_=>Tq,λh=>by cases h⟩
end Go.Bo
namespace Go.Ls
open Go Go.Hm
noncomputable section
def mC:List Bool->List SV->List SV|true::m,.int _ k x::r=> .int true k x::mC m r|true::m,.bool _ b::r=> .bool true b::mC m r|_::m,v::r=>v::mC m r|_,l=>l
def E9(cy:Cy)(d:List Bool)(k:Nat)(a r:U)(H:Tr (List Hi))(fn:Func)(x:D a):Option (D r):=match fn.body with
 |some b=>bif Nat.ble (mC d (lC a x)).length fn.ntmps then ex cy k (D r) H 0 b ⟨fn.ntmps,uV 0 (mC d (lC a x)) .e,.e,0,[],0,[],[]⟩ λe c=>match e with| .exit _=>none|_=>sD cy c fn.results.toList λl=>match mZ c.st l with|some _=>pZ c.st r l|none=>none else none
 |none=>none
theorem xK{E:En}:∀{m:List Bool}{l:List SV}{args:List HV},Vs E l args->Vs E (mC m l) args
 |[],_,_,h=>by unfold mC;exact h
 |true::_,[],_,h=>h
 |false::_,[],_,h=>h
 |false::m,v::r,_,h=>by unfold mC;unfold Vs at h⊢;obtain⟨a,c,rfl,d,e⟩:=h;exact⟨a,c,rfl,d,xK e⟩
 |true::m,v::r,_,h=>by
  unfold Vs at h;obtain⟨a,c,rfl,d,e⟩:=h;have f:=xK (m:=m) e;cases v;case int l k x=>unfold mC Vs;exact⟨a,c,rfl,d,f⟩
  case bool l b=>unfold mC Vs;exact⟨a,c,rfl,d,f⟩
  all_goals(unfold mC Vs;exact⟨a,c,rfl,d,f⟩)
section
variable{cy:Cy}
theorem Qh(m0:∀f c,cy.ct.ap f=some c->tZ cy.cx f c)(c0:∀f q,cy.sp.ap f=some q->om cy.cx f q){f:FuncId}{fn:Func}(l0:cy.cx.fn.ap f=some fn)(b0:cy.cx.ext.ap f=none){a r:U}{H:Tr (List Hi)}{n:Nat}{F:D a->Option (D r)}{y0:List Bool}(hF:∀x y,F x=some y->E9 cy y0 n a r H fn x=some y):tZ cy.cx f ⟨a,r,F⟩:=by
 intro h s z x y k0 g0 o0 n0 j;have j:F x=some y:=j;have j:=hF x y j;unfold E9 at j;split at j
 .
  rename_i b i;rw[aH]at j;split at j
  .
   rename_i i0;have s0:Vs (⟨h.hp,s,λ_=>none,λ_ _=>none,.e,0⟩:En) (mC y0 (lC a x)) z:=xK<|qb (E:=⟨h.hp,s,λ_=>none,λ_ _=>none,.e,0⟩) n0;have h0:Nat.ble z.length fn.ntmps=true:=by rw[wT s0];exact i0
   have p:∀(m:Nat)(e:iK),(Tr.e:Tr iK).ap m=some e->False:=λm e d=>by rw[Tr.kN]at d;cases d
   obtain⟨e,u0,v,u,⟨z9,y9⟩,o,x9,w,_,w0⟩:=P2 m0 c0 n _ _ _ _ _ _ _ j ⟨fn.ntmps,lU 0 z .e,h.hp,h.nx,h.lk,.undef⟩ ⟨h.hp,s,λ_=>none,λ_ _=>none,.e,0⟩ ⟨rfl,rfl,rfl,λm e d=>(p m e d).elim,λm e d=>(p m e d).elim,λm _ e _ _ d=>(p m e d).elim,λm e _ d=>(p m e d).elim,o0,k0,λb i=>⟨g0 b i,λm e d=>(p m e d).elim⟩,λ_ _ d=>(by rcases d with d|⟨_,d⟩<;>cases d),λm e d=>(p m e d).elim⟩ (uv s0);have x0:∀b,¬Ow (⟨fn.ntmps,uV 0 (mC y0 (lC a x)) .e,.e,0,[],0,[],[]⟩:SS) (⟨h.hp,s,λ_=>none,λ_ _=>none,.e,0⟩:En) b:=λb⟨m,e,d,_⟩=>p m e d
   have r0:(∀t,e≠.exit t)->sD cy v fn.results.toList (λl=>match mZ v.st l with|some _=>pZ v.st r l|none=>none)=some y->∃l A B C,(∃a0,∀k,a0<=k->call cy.cx (run cy.cx k) f z h=some (one l,⟨h.nt,h.dC,A,B,h.lk,h.df⟩))/\h.nx<=B/\(∀b,b<h.nx->A.ap b=h.hp.ap b)/\(∀b,B<=b->A.ap b=none)/\(∀b,s b->C b)/\(∀b,C b->s b\/h.nx<=b/\b<B)/\iz A C r l y:=by
    intro f0 d0;obtain⟨l,w9,q0,v9,v0⟩:=oZ o x9 d0;split at v0
    .
     rename_i u9 p0;have e0:=n6 (E:=u) (Q:=λb=>u.Z b\/Ow v u b) (k:=3) (λb i=> .inl i) (λm e d=>o.hD m e (by rw[<-o.st];exact d)) (by rw[o.st];exact v0) v9 (tH (λm e b d i=> .inr ⟨m,e,by rw[<-o.st];exact d,i⟩) (by rw[o.st];exact p0));refine⟨w9,u0.hp,u0.nx,λb=>u.Z b\/Ow v u b,⟨z9,λk j0=>?_⟩,w.nx,λb i=>w.EH b i (x0 b),o.fr,λb i=> .inl (w.z b i),λb i=>?_,by rw[<-o.hp];exact e0⟩
     .unfold call;rw[b0,l0];simp only;rw[i];simp only;rw[h0,y9 k j0];cases e with
      |exit t=>exact absurd rfl (f0 t)
      |cN=>simp only[gg];rw[q0]
      |ret=>simp only[gg];rw[q0]
     .
      rcases i with i|i
      .
       rcases w.z' b i with g|g|g;.exact .inl g
       .exact absurd g (x0 b)
       .exact .inr ⟨g,o.z b i⟩
      .
       obtain⟨m,e,d,t0⟩:=i;rcases w.ow b ⟨m,e,d,t0⟩with g|g;.exact absurd g (x0 b)
       .exact .inr ⟨g,(o.own m e b d t0).2⟩
    .cases v0
   cases e with
    |exit t=>cases w0
    |cN=>exact r0 (λt z0=>by cases z0) w0
    |ret=>exact r0 (λt z0=>by cases z0) w0
  .cases j
 .cases j
end
end
end Go.Ls
namespace Go.Bo
open Go Go.Hm Go.Ls Go.Proofs
def rjF:Tr (List Hi):=((Tr.e).set 205 [.box 0 [.v (.bw (.int .i64)),.v (.int .i64),.v (.int .i64),.o (.ai (.int .i64) (.ai (.int .i64) (.ai (.int .i64) (.ai (.int .i64) (.ai (.int .i64) (.ai (.im 5 (.bw (.int .i64))) .un)))))),.o (.ai (.bw (.bw (.int .i64))) .un)],.val 6 .bool]).set 252 [.cell 6 (.ai (.bw (.bw (.int .i64))) .un),.val 7 (.int .i64)]
def uD(ct:Tr zm)(hi:Tr (Tr (List Hi))):Cy:=⟨ft,Fk Tryz.prog [75,186] 20,ct,hi,Ya,rjF⟩
def B7(ct:Tr zm):Prop:=∀f c,ct.ap f=some c->tZ ft f c
theorem ut{ct:Tr zm}{g:Nat}{c:zm}(h:B7 ct)(d:tZ ft g c):B7 (ct.set g c):=by
 intro f b a;rw[Tr.dk]at a;split at a;.rename_i e;subst e;cases a;exact d
 .exact h f b a
abbrev KK:Type:={a:Tr zm//B7 a}
def k0:KK:=⟨Tr.e,λf c h=>by have h:(Tr.e:Tr zm).ap f=some c:=h;rw[Tr.kN]at h;cases h⟩
theorem aaI{ct:Tr zm}{hi:Tr (Tr (List Hi))}(b:B7 ct){f:FuncId}{fn:Func}(c:ft.fn.ap f=some fn)(d:ft.ext.ap f=none){a r:U}{H:Tr (List Hi)}{n:Nat}{F:D a->Option (D r)}(hF:∀x,E8 (uD ct hi) n a r H fn x=F x):tZ ft f ⟨a,r,F⟩:=Tu (cy:=uD ct hi) b KR c d hF
theorem ctB(hi:Tr (Tr (List Hi))){ct:Tr zm}(b:B7 ct)(f:FuncId)(fn:Func)(H:Tr (List Hi)){a r:U}{F:D a->Option (D r)}(h:(ft.fn.ap f,ft.ext.ap f)=(some fn,none))(hF:∀x,E8 (uD ct hi) 1000 a r H fn x=F x):B7 (ct.set f ⟨a,r,F⟩):=ut b (aaI b (eP Prod.fst h) (eP Prod.snd h) hF)
def kp(l:List Nat)(r:List Hi):List Hi:=l.map .bE++r
def hs(l:List (Nat×List Hi)):Tr (List Hi):=l.foldl (λt p=>t.set p.1 p.2) Tr.e
def hu(t:Tr (Tr (List Hi)))(l:List (Nat×Tr (List Hi))):Tr (Tr (List Hi)):=l.foldl (λt p=>t.set p.1 p.2) t
def ht(l:List (Nat×Tr (List Hi))):Tr (Tr (List Hi)):=hu Tr.e l
def kB(hi:Tr (Tr (List Hi)))(k:KK)(f:FuncId)(fn:Func)(H:Tr (List Hi)){a r:U}(F:D a->Option (D r))(h:(ft.fn.ap f,ft.ext.ap f)=(some fn,none):=by kernel_rfl)(hF:∀x,E8 (uD k.1 hi) 1000 a r H fn x=F x:=by intro x;kernel_rfl):KK:=⟨k.1.set f ⟨a,r,F⟩,ctB hi k.2 f fn H h hF⟩
theorem LG{ct:Tr zm}{hi:Tr (Tr (List Hi))}(b:B7 ct){f:FuncId}{fn:Func}(c:ft.fn.ap f=some fn)(d:ft.ext.ap f=none){a r:U}{H:Tr (List Hi)}{n:Nat}{F:D a->Option (D r)}{e:List Bool}(hF:∀x y,F x=some y->E9 (uD ct hi) e n a r H fn x=some y):tZ ft f ⟨a,r,F⟩:=Qh (cy:=uD ct hi) b KR c d hF
theorem Ld{ct:Tr zm}{hi:Tr (Tr (List Hi))}{a r:U}{F:D a->Option (D r)}{fn:Func}{H:Tr (List Hi)}{n:Nat}{d:List Bool}{b:D a->Bool}{q:D a->D a}(e:∀x,b x=true->q x=x)(f:∀x,E9 (uD ct hi) d n a r H fn (q x)=F x):∀x y,ad (b x) (F x) none=some y->E9 (uD ct hi) d n a r H fn x=some y:=by intro x y h;cases c:b x with
 |false=>rw[c]at h;cases h
 |true=>rw[c]at h;have h:F x=some y:=h;rw[<-f x,e x c]at h;exact h
abbrev cQ:U:= .ai iT iU
abbrev kh:U:= .ai iT (.ai iT cQ)
abbrev qP:U:= .ai iT kh
abbrev jH:U:= .bw qP
abbrev zQ:U:= .bw kh
abbrev pW:U:= .ai iT (.ai (.bw (.int .u8)) .un)
abbrev UP:U:= .bw pW
abbrev UO:U:= .ai iT qP
abbrev pg:U:= .ai iT (.ai iT UO)
abbrev zP:U:= .bw pg
abbrev vW:U:= .ai iT (.ai zP .un)
abbrev X7:U:= .bw vW
abbrev ce:U:= .ai lI (.ai zQ (.ai iT (.ai iT (.ai iT (.ai iT (.ai iT (.ai iT (.ai iT (.ai iT (.ai UP (.ai jH (.ai X7 .un))))))))))))
abbrev VN:U:= .ai pg (.ai pg .un)
def ik:Tr (Tr (List Hi)):=ht [(182,hs [(0,[]),(1,kp [0,1,7] [.val 8 iT])]),(106,Tr.e),(179,Tr.e),(107,Tr.e)]
def IJ(x:D (.ai ce .un)):Option (D bU):=ad (ay 20 (ak x.1.1)) (some (false,())) (ad (ay 20 (ak x.1.2.1)) (some (false,())) (ad (ay 20 (ak x.1.2.2.2.2.2.2.2.2.2.2.1)) (some (false,())) (ad (ay 20 (ak x.1.2.2.2.2.2.2.2.2.2.2.2.1)) (some (false,())) (ad (ay 20 (ak x.1.2.2.2.2.2.2.2.2.2.2.2.2.1)) (some (false,())) (aE (aF (λa=>ad (ay a.1 (ak x.1.2.2.2.2.2.2.2.2.2.2.1)) (am (az x.1.2.2.2.2.2.2.2.2.2.2.1 a.1) λc=>ad (ay 1000 (ak c.2.1)) (ao (ao (some (false,())))) (some (.inl (ah .i64 a.1 1,())))) (ao (some (.inl ())))) 1000000000 (0,())) λe=>aE (aF (λb=>ad (ay b.1 (ak x.1.2.2.2.2.2.2.2.2.2.2.2.2.1)) (am (az x.1.2.2.2.2.2.2.2.2.2.2.2.2.1 b.1) λd=>ad (ay 100 (ak d.2.1)) (ao (ao (some (false,())))) (some (.inl (ah .i64 b.1 1,())))) (ao (some (.inl ())))) 1000000000 (0,())) λf=>some (true,()))))))
def k10:=kB ik k0 10 Tryz.f10 (hs [(0,[.bE 1]),(1,kp [1,36,37] [.val 38 iT]),(4,[]),(5,kp [48,49] [.val 50 iT])]) IJ
def mV(x:D (.ai iT cQ)):Option (D bU):=ad (cH x.2.1 x.1) (some (cH x.1 x.2.2.1,())) (some (false,()))
def k42:=kB ik k10 42 Tryz.f42 Tr.e mV
def Oi(x:D (.ai ce .un)):Option (D iU):=am (mV (ak x.1.1,1,4,())) λb=>ad (bI b.1) (some (1,())) (aE (aF (λa=>ad (ay a.1 (ak x.1.1)) (am (az x.1.1 a.1) λc=>am (mV (c,0,3,())) λd=>ad (bI d.1) (ao (ao (some (1,())))) (some (.inl (ah .i64 a.1 1,())))) (ao (some (.inl ())))) 1000000000 (0,())) λe=>some (0,()))
def k30:=kB ik k42 30 Tryz.f30 (hs [(0,[]),(1,kp [11,12] [.val 13 iT])]) Oi
def Oh(x:D (.ai ce .un)):Option (D iU):=am (mV (ak x.1.2.1,1,6,())) λd=>ad (bI d.1) (some (1,())) (aE (aF (λa=>ad (ay a.2.2.1 (ak x.1.2.1)) (am (az x.1.2.1 a.2.2.1) λb=>am (mV (b.1,0,3,())) λe=>ad (bI e.1) (ao (ao (some (1,())))) (am (mV (b.2.1,0,1,())) λf=>ad (bI f.1) (ao (ao (some (1,())))) (am (mV (b.2.2.1,1,256,())) λg=>ad (bI g.1) (ao (ao (some (1,())))) (am (mV (b.2.2.2.1,0,b.2.2.1,())) λh=>ad (bI h.1) (ao (ao (some (1,())))) (ad (aY b.2.1 0) (some (.inl (ah .i64 a.1 b.2.2.1,ah .i64 a.2.1 1,ah .i64 a.2.2.1 1,()))) (some (.inl (ah .i64 a.1 b.2.2.1,a.2.1,ah .i64 a.2.2.1 1,())))))))) (ao (some (.inl (a.1,a.2.1,()))))) 1000000000 (0,0,0,())) λc=>ad (aY c.2.1 0) (some (1,())) (ad (ay 256 c.1) (some (1,())) (some (0,()))))
def k31:=kB ik k30 31 Tryz.f31 (hs [(0,[.val 3 iT,.val 4 iT]),(1,.val 3 iT:: .val 4 iT::kp [13,14] [.val 15 iT])]) Oh
def Og(x:D (.ai ce .un)):Option (D iU):=am (mV (x.1.2.2.2.1,1,16,())) λc=>ad c.1 (am (mV (x.1.2.2.1,1,x.1.2.2.2.1,())) λd=>ad d.1 (am (mV (x.1.2.2.2.2.1,1,16,())) λf=>ad f.1 (am (mV (x.1.2.2.2.2.2.1,1,16,())) λg=>ad g.1 (am (mV (x.1.2.2.2.2.2.2.1,0,64,())) λh=>ad h.1 (am (mV (x.1.2.2.2.2.2.2.2.1,0,32,())) λi=>ad i.1 (am (mV (x.1.2.2.2.2.2.2.2.2.1,1,256,())) λj=>ad j.1 (am (mV (x.1.2.2.2.2.2.2.2.2.2.1,1,32,())) λk=>ad k.1 (ad (bI (cH (ak x.1.2.2.2.2.2.2.2.2.2.2.1) 4)) (some (1,())) (aE (aF (λb=>ad (ay b.1 (ak x.1.2.2.2.2.2.2.2.2.2.2.1)) (am (az x.1.2.2.2.2.2.2.2.2.2.2.1 b.1) λa=>am (mV (a.1,1,16,())) λe=>ad (bI e.1) (ao (ao (some (1,())))) (ad (bF (lf .i64 (ak a.2.1) 32) 0) (ao (ao (some (1,())))) (ad (ay (ea .i64 a.1 32) (ak a.2.1)) (ao (ao (some (1,())))) (some (.inl (ah .i64 b.1 1,())))))) (ao (some (.inl ())))) 1000000000 (0,())) λl=>some (0,()))) (some (1,()))) (some (1,()))) (some (1,()))) (some (1,()))) (some (1,()))) (some (1,()))) (some (1,()))) (some (1,()))
def k32:=kB ik k31 32 Tryz.f32 (hs [(0,[]),(1,kp [55,56] [.val 57 iT])]) Og
def My(x:D (.ai jH .un)):Option (D bU):=aE (aF (λa=>ad (ay a.1 (ak x.1)) (am (az x.1 a.1) λb=>ad (aY a.1 0) (ad (bF b.1 (-1)) (ao (ao (some (false,())))) (ad (ay 0 a.1) (ad (ay b.1 0) (ao (ao (some (false,())))) (ad (cH a.1 b.1) (ao (ao (some (false,())))) (some (.inl (ah .i64 a.1 1,()))))) (some (.inl (ah .i64 a.1 1,()))))) (ad (ay 0 a.1) (ad (ay b.1 0) (ao (ao (some (false,())))) (ad (cH a.1 b.1) (ao (ao (some (false,())))) (some (.inl (ah .i64 a.1 1,()))))) (some (.inl (ah .i64 a.1 1,()))))) (ao (some (.inl ())))) 1000000000 (0,())) λc=>some (true,())
def ZI:=kB ik k32 177 Tryz.f177 (hs [(0,[]),(1,kp [5,6] [.val 7 iT])]) My
def vb(x:D iU):Option (D bU):=ad (cH 0 x.1) (some (cH x.1 1048576,())) (some (false,()))
def Y8:=kB ik ZI 226 Tryz.f226 Tr.e vb
def Mx(x:D (.ai jH .un)):Option (D bU):=aE (aF (λb=>ad (ay b.1 (ak x.1)) (am (az x.1 b.1) λa=>am (vb (a.2.1,())) λc=>ad (bI c.1) (ao (ao (some (false,())))) (am (vb (a.2.2.1,())) λd=>ad (bI d.1) (ao (ao (some (false,())))) (am (vb (a.2.2.2.1,())) λe=>ad (bI e.1) (ao (ao (some (false,())))) (am (vb (a.2.2.2.2.1,())) λf=>ad (bI f.1) (ao (ao (some (false,())))) (some (.inl (ah .i64 b.1 1,()))))))) (ao (some (.inl ())))) 1000000000 (0,())) λi=>am (az x.1 0) λg=>ad (aY g.2.2.1 0) (am (az x.1 0) λh=>some (aY h.2.2.2.1 0,())) (some (false,()))
def ZH:=kB ik Y8 178 Tryz.f178 (hs [(0,[.bE 0]),(1,kp [0,5,6] [.val 7 iT])]) Mx
def D4(x:D (.ai jH .un)):Option (D (.ai lI .un)):=aC (gw (ak x.1) (ak x.1) 8) (aE (aF (λa=>ad (ay a.2.1 (ak x.1)) (am (az x.1 a.2.1) λb=>aC (aU a.1 a.2.1) (am (az a.1 a.2.1) λc=>aC (aU a.1 a.2.1) (am (az a.1 a.2.1) λf=>ad (ay 0 a.2.1) (aC (aU (aG a.1 a.2.1 (ah .i64 c b.2.1)) b.1) (am (az (aG a.1 a.2.1 (ah .i64 c b.2.1)) b.1) λd=>aC (aU (aG a.1 a.2.1 (ah .i64 c b.2.1)) b.1) (am (az (aG a.1 a.2.1 (ah .i64 c b.2.1)) b.1) λg=>some (.inl (aG (aG a.1 a.2.1 (ah .i64 c b.2.1)) b.1 (bb .i64 d b.2.1),ah .i64 a.2.1 1,()))))) (some (.inl (aG a.1 a.2.1 (ah .i64 c b.2.1),ah .i64 a.2.1 1,())))))) (ao (some (.inl (a.1,()))))) 1000000000 (eh (ak x.1) 0,0,())) λe=>some (e.1,()))
def ZF:=kB ik ZH 181 Tryz.f181 (hs [(0,[.own 3 iT]),(1,.own 3 iT::kp [9,10] [.val 11 iT])]) D4
def D5(x:D (.ai lI .un)):Option (D iU):=ad (ay (ak x.1) 1) none (am (az x.1 0) λb=>aE (aF (λa=>ad (ay a.2.1 (ak x.1)) (am (az x.1 a.2.1) λc=>some (.inl (bK a.1 c,ah .i64 a.2.1 1,()))) (ao (some (.inl (a.1,()))))) 1000000000 (b,1,())) λd=>some (d.1,()))
def ZG:=kB ik ZF 180 Tryz.f180 (hs [(0,[.val 3 iT]),(1,[.bE 0,.val 3 iT,.val 4 iT])]) D5
def yY(x:D (.ai jH .un)):Option (D iU):=ad (ay (ak x.1) 1) (some (9,())) (ad (ay 8 (ak x.1)) (some (9,())) (am (My (x.1,())) λc=>ad (bI c.1) (some (1,())) (am (Mx (x.1,())) λd=>ad (bI d.1) (some (2,())) (aE (aF (λa=>ad (ay a.1 (ak x.1)) (am (az x.1 a.1) λb=>ad (ay b.2.2.2.2.1 b.2.1) (ao (ao (ad (cH 0 a.1) (some (17,())) (am (D4 (x.1,())) λe=>am (D5 (e.1,())) λf=>ad (ay f.1 0) (some (11,())) (some (0,())))))) (some (.inl (ah .i64 a.1 1,())))) (ao (some (.inl ())))) 1000000000 (0,())) λi=>am (D4 (x.1,())) λg=>am (D5 (g.1,())) λh=>ad (ay h.1 0) (some (11,())) (some (0,()))))))
def aat:=kB ik ZG 105 Tryz.f105 Tr.e yY
def B5(x:D (.ai jH iU)):Option (D cQ):=am (yY (x.1,())) λf=>ad (bF f.1 0) (some (0,f.1,())) (ad (ay x.2.1 0) (some (0,2,())) (ad (ay 1048576 x.2.1) (some (0,2,())) (aC (gw (ak x.1) (ak x.1) 8) (aC (dx 1 (ak x.1) (ak x.1)) (aE (aF (λb=>ad (ay b.2.1 (ak (eS x.1 1 (ak x.1)))) (am (az (eS x.1 1 (ak x.1)) b.2.1) λc=>aC (aU b.1 c.1) (am (az b.1 c.1) λg=>aC (aU b.1 c.1) (am (az b.1 c.1) λk=>some (.inl (aG b.1 c.1 (ah .i64 g c.2.2.1),ah .i64 b.2.1 1,()))))) (ao (some (.inl (b.1,()))))) 1000000000 (eh (ak x.1) 0,0,())) λd=>aE (aF (λa=>ad (ay a.1 (ak d.1)) (aC (aU d.1 a.1) (am (az d.1 a.1) λe=>ad (aY a.1 0) (ad (ay x.2.1 e) (ao (ao (some (a.1,0,())))) (ad (ay 0 a.1) (am (az x.1 a.1) λh=>ad (ay h.2.2.1 e) (ao (ao (some (a.1,0,())))) (some (.inl (ah .i64 a.1 1,())))) (some (.inl (ah .i64 a.1 1,()))))) (ad (ay 0 a.1) (am (az x.1 a.1) λi=>ad (ay i.2.2.1 e) (ao (ao (some (a.1,0,())))) (some (.inl (ah .i64 a.1 1,())))) (some (.inl (ah .i64 a.1 1,())))))) (ao (some (.inl ())))) 1000000000 (0,())) λj=>some (-1,0,()))))))
def aas:=kB ik aat 108 Tryz.f108 (hs [(0,kp [0,1] [.own 7 iT]),(1,kp [0,1] (.own 7 iT::kp [27,28] [.val 29 iT])),(4,[]),(5,kp [0,1,43,44] [.val 45 iT])]) B5
def Of(x:D (.ai ce .un)):Option (D iU):=am (yY (x.1.2.2.2.2.2.2.2.2.2.2.2.1,())) λd=>ad (bF d.1 0) (some (d.1,())) (aE (aF (λc=>ad (ay c.1 (ak x.1.2.2.2.2.2.2.2.2.2.2.2.1)) (am (az x.1.2.2.2.2.2.2.2.2.2.2.2.1 c.1) λk=>ad (bF k.2.1 0) (ao (ao (ad (cH 0 c.1) (some (1,())) (aE (aF (λa=>ad (ay a.2.1 (ak x.1.2.1)) (am (az x.1.2.1 a.2.1) λg=>some (.inl (ah .i64 a.1 (bb .i64 g.2.2.1 g.2.2.2.1),ah .i64 a.2.1 1,()))) (ao (some (.inl (a.1,()))))) 1000000000 (bb .i64 (uO .i64 x.1.2.2.2.2.2.2.2.1) 1,0,())) λh=>ad (ay h.1 0) (some (18,())) (am (B5 (x.1.2.2.2.2.2.2.2.2.2.2.2.1,h.1,())) λi=>ad (bF i.2.1 0) (some (18,())) (ad (bF i.1 (-1)) (some (18,())) (some (0,())))))))) (some (.inl (ah .i64 c.1 1,())))) (ao (some (.inl ())))) 1000000000 (0,())) λl=>aE (aF (λb=>ad (ay b.2.1 (ak x.1.2.1)) (am (az x.1.2.1 b.2.1) λj=>some (.inl (ah .i64 b.1 (bb .i64 j.2.2.1 j.2.2.2.1),ah .i64 b.2.1 1,()))) (ao (some (.inl (b.1,()))))) 1000000000 (bb .i64 (uO .i64 x.1.2.2.2.2.2.2.2.1) 1,0,())) λe=>ad (ay e.1 0) (some (18,())) (am (B5 (x.1.2.2.2.2.2.2.2.2.2.2.2.1,e.1,())) λf=>ad (bF f.2.1 0) (some (18,())) (ad (bF f.1 (-1)) (some (18,())) (some (0,())))))
def k33:=kB ik aas 33 Tryz.f33 (hs [(0,[.bE 1,.val 4 iT]),(1,.bE 1:: .val 4 iT::kp [23,24] [.val 25 iT])]) Of
def Rm(x:D iU):Option (D (.ai VN bU)):=ad (aY x.1 1) (some (((0,-1,1,0,0,-1,0,0,()),(0,511,512,15,0,3,3,15,()),()),true,())) (ad (aY x.1 2) (some (((0,0,1,0,0,0,0,0,()),(0,511,512,0,0,0,0,0,()),()),true,())) (ad (aY x.1 3) (some (((0,0,1,0,0,0,0,0,()),(0,511,512,0,0,0,3,0,()),()),true,())) (ad (aY x.1 4) (some (((0,0,1,0,0,0,0,0,()),(0,511,512,0,1,0,0,0,()),()),true,())) (ad (aY x.1 5) (ad (aY x.1 5) (ad (aY x.1 6) (some (((0,0,0,0,0,0,0,0,()),(0,511,0,31,255,0,0,0,()),()),true,())) (some (((0,0,0,0,0,0,0,0,()),(0,511,0,31,0,0,0,0,()),()),true,()))) (ad (aY x.1 7) (ad (aY x.1 7) (ad (aY x.1 8) (some (((0,0,0,0,0,0,0,0,()),(0,15,0,31,255,3,0,0,()),()),true,())) (some (((0,0,0,0,0,0,0,0,()),(0,15,0,31,0,3,0,0,()),()),true,()))) (ad (aY x.1 9) (some (((0,0,0,0,0,0,0,0,()),(0,0,16,0,0,3,0,0,()),()),true,())) (ad (aY x.1 10) (some (((0,0,0,0,0,0,0,0,()),(0,0,0,0,0,3,0,0,()),()),true,())) (ad (aY x.1 11) (some (((0,0,0,0,0,0,0,0,()),(0,0,0,0,48,0,0,0,()),()),true,())) (ad (aY x.1 12) (some (((0,0,0,0,0,0,0,0,()),(0,0,0,0,0,0,0,0,()),()),true,())) (some (((0,0,0,0,0,0,0,0,()),(0,0,0,0,0,0,0,0,()),()),false,()))))))) (ad (aY x.1 8) (ad (aY x.1 8) (some (((0,0,0,0,0,0,0,0,()),(0,15,0,31,255,3,0,0,()),()),true,())) (some (((0,0,0,0,0,0,0,0,()),(0,15,0,31,0,3,0,0,()),()),true,()))) (ad (aY x.1 9) (some (((0,0,0,0,0,0,0,0,()),(0,0,16,0,0,3,0,0,()),()),true,())) (ad (aY x.1 10) (some (((0,0,0,0,0,0,0,0,()),(0,0,0,0,0,3,0,0,()),()),true,())) (ad (aY x.1 11) (some (((0,0,0,0,0,0,0,0,()),(0,0,0,0,48,0,0,0,()),()),true,())) (ad (aY x.1 12) (some (((0,0,0,0,0,0,0,0,()),(0,0,0,0,0,0,0,0,()),()),true,())) (some (((0,0,0,0,0,0,0,0,()),(0,0,0,0,0,0,0,0,()),()),false,()))))))))) (ad (aY x.1 6) (ad (aY x.1 6) (some (((0,0,0,0,0,0,0,0,()),(0,511,0,31,255,0,0,0,()),()),true,())) (some (((0,0,0,0,0,0,0,0,()),(0,511,0,31,0,0,0,0,()),()),true,()))) (ad (aY x.1 7) (ad (aY x.1 7) (ad (aY x.1 8) (some (((0,0,0,0,0,0,0,0,()),(0,15,0,31,255,3,0,0,()),()),true,())) (some (((0,0,0,0,0,0,0,0,()),(0,15,0,31,0,3,0,0,()),()),true,()))) (ad (aY x.1 9) (some (((0,0,0,0,0,0,0,0,()),(0,0,16,0,0,3,0,0,()),()),true,())) (ad (aY x.1 10) (some (((0,0,0,0,0,0,0,0,()),(0,0,0,0,0,3,0,0,()),()),true,())) (ad (aY x.1 11) (some (((0,0,0,0,0,0,0,0,()),(0,0,0,0,48,0,0,0,()),()),true,())) (ad (aY x.1 12) (some (((0,0,0,0,0,0,0,0,()),(0,0,0,0,0,0,0,0,()),()),true,())) (some (((0,0,0,0,0,0,0,0,()),(0,0,0,0,0,0,0,0,()),()),false,()))))))) (ad (aY x.1 8) (ad (aY x.1 8) (some (((0,0,0,0,0,0,0,0,()),(0,15,0,31,255,3,0,0,()),()),true,())) (some (((0,0,0,0,0,0,0,0,()),(0,15,0,31,0,3,0,0,()),()),true,()))) (ad (aY x.1 9) (some (((0,0,0,0,0,0,0,0,()),(0,0,16,0,0,3,0,0,()),()),true,())) (ad (aY x.1 10) (some (((0,0,0,0,0,0,0,0,()),(0,0,0,0,0,3,0,0,()),()),true,())) (ad (aY x.1 11) (some (((0,0,0,0,0,0,0,0,()),(0,0,0,0,48,0,0,0,()),()),true,())) (ad (aY x.1 12) (some (((0,0,0,0,0,0,0,0,()),(0,0,0,0,0,0,0,0,()),()),true,())) (some (((0,0,0,0,0,0,0,0,()),(0,0,0,0,0,0,0,0,()),()),false,())))))))))))))
def Y7:=kB ik k33 227 Tryz.f227 Tr.e Rm
def Mq(x:D (.ai pg .un)):Option (D (.ai (.im 7 iT) .un)):=some (x.1.2.1::x.1.2.2.1::x.1.2.2.2.1::x.1.2.2.2.2.1::x.1.2.2.2.2.2.1::x.1.2.2.2.2.2.2.1::x.1.2.2.2.2.2.2.2.1::[],())
def Y6:=kB ik Y7 228 Tryz.f228 Tr.e Mq
def BZ(x:D iU):Option (D bU):=ad (aY x.1 1) (some (true,())) (some (aY x.1 3,()))
def Y5:=kB ik Y6 229 Tryz.f229 Tr.e BZ
def ny(x:D (.ai pg .un)):Option (D iU):=am (Rm (x.1.1,())) λe=>ad (bI e.2.1) (some (1,())) (am (Mq (x.1,())) λb=>am (Mq (e.1.1,())) λc=>am (Mq (e.1.2.1,())) λa=>aE (ad (ay (bs 0 b.1 0) (bs 0 c.1 0)) (ad (aY (bs 0 a.1 0) 0) (ao (some (1,()))) (some (.inl (2,())))) (ad (ay (bs 0 a.1 0) (bs 0 b.1 0)) (ad (aY (bs 0 a.1 0) 0) (ao (some (1,()))) (some (.inl (2,())))) (some (.inl (0,()))))) λg=>aE (ad (ay (bs 0 b.1 1) (bs 0 c.1 1)) (ad (aY (bs 0 a.1 1) 0) (ao (some (1,()))) (some (.inl (2,())))) (ad (ay (bs 0 a.1 1) (bs 0 b.1 1)) (ad (aY (bs 0 a.1 1) 0) (ao (some (1,()))) (some (.inl (2,())))) (some (.inl (g.1,()))))) λh=>aE (ad (ay (bs 0 b.1 2) (bs 0 c.1 2)) (ad (aY (bs 0 a.1 2) 0) (ao (some (1,()))) (some (.inl (2,())))) (ad (ay (bs 0 a.1 2) (bs 0 b.1 2)) (ad (aY (bs 0 a.1 2) 0) (ao (some (1,()))) (some (.inl (2,())))) (some (.inl (h.1,()))))) λi=>aE (ad (ay (bs 0 b.1 3) (bs 0 c.1 3)) (ad (aY (bs 0 a.1 3) 0) (ao (some (1,()))) (some (.inl (2,())))) (ad (ay (bs 0 a.1 3) (bs 0 b.1 3)) (ad (aY (bs 0 a.1 3) 0) (ao (some (1,()))) (some (.inl (2,())))) (some (.inl (i.1,()))))) λj=>aE (ad (ay (bs 0 b.1 4) (bs 0 c.1 4)) (ad (aY (bs 0 a.1 4) 0) (ao (some (1,()))) (some (.inl (2,())))) (ad (ay (bs 0 a.1 4) (bs 0 b.1 4)) (ad (aY (bs 0 a.1 4) 0) (ao (some (1,()))) (some (.inl (2,())))) (some (.inl (j.1,()))))) λk=>aE (ad (ay (bs 0 b.1 5) (bs 0 c.1 5)) (ad (aY (bs 0 a.1 5) 0) (ao (some (1,()))) (some (.inl (2,())))) (ad (ay (bs 0 a.1 5) (bs 0 b.1 5)) (ad (aY (bs 0 a.1 5) 0) (ao (some (1,()))) (some (.inl (2,())))) (some (.inl (k.1,()))))) λl=>aE (ad (ay (bs 0 b.1 6) (bs 0 c.1 6)) (ad (aY (bs 0 a.1 6) 0) (ao (some (1,()))) (some (.inl (2,())))) (ad (ay (bs 0 a.1 6) (bs 0 b.1 6)) (ad (aY (bs 0 a.1 6) 0) (ao (some (1,()))) (some (.inl (2,())))) (some (.inl (l.1,()))))) λd=>ad (aY e.1.2.1.2.2.2.2.2.2.1 3) (am (BZ (x.1.2.2.2.2.2.2.1,())) λf=>ad (bI f.1) (some (2,())) (ad (aY x.1.1 1) (ad (aY x.1.2.2.2.2.2.1 (-1)) (ad (bF x.1.2.2.2.1 0) (some (2,())) (some (d.1,()))) (some (d.1,()))) (some (d.1,())))) (ad (aY x.1.1 1) (ad (aY x.1.2.2.2.2.2.1 (-1)) (ad (bF x.1.2.2.2.1 0) (some (2,())) (some (d.1,()))) (some (d.1,()))) (some (d.1,()))))
def ZE:=kB ik Y5 183 Tryz.f183 (hs [(2,kp [1,3,6,7] (.val 8 iT::kp [27,28] []))]) ny
def II(x:D (.ai zP .un)):Option (D iU):=ad (ay 48 (ak x.1)) (some (9,())) (aE (aF (λa=>ad (ay a.1 (ak x.1)) (am (az x.1 a.1) λc=>am (ny (c,())) λb=>ad (bF b.1 0) (ao (ao (some (b.1,())))) (some (.inl (ah .i64 a.1 1,())))) (ao (some (.inl ())))) 1000000000 (0,())) λd=>some (0,()))
def aar:=kB ik ZE 109 Tryz.f109 (hs [(0,[]),(1,kp [9,10] [.val 11 iT])]) II
def Ut(x:D (.ai ce .un)):Option (D iU):=am (mV (ak x.1.2.2.2.2.2.2.2.2.2.2.2.2.1,1,8,())) λd=>ad (bI d.1) (some (1,())) (aE (aF (λa=>ad (ay a.1 (ak x.1.2.2.2.2.2.2.2.2.2.2.2.2.1)) (am (az x.1.2.2.2.2.2.2.2.2.2.2.2.2.1 a.1) λb=>am (II (b.2.1,())) λc=>ad (bF c.1 0) (ao (ao (some (c.1,())))) (am (mV (b.1,0,bb .i64 (ak x.1.2.2.2.2.2.2.2.2.2.2.2.1) 1,())) λe=>ad (bI e.1) (ao (ao (some (2,())))) (some (.inl (ah .i64 a.1 1,()))))) (ao (some (.inl ())))) 1000000000 (0,())) λf=>some (0,()))
def k34:=kB ik aar 34 Tryz.f34 (hs [(0,[]),(1,kp [1,12,13] [.val 14 iT])]) Ut
def yj(x:D (.ai ce .un)):Option (D iU):=am (Oi (x.1,())) λa=>ad (bF a.1 0) (some (a.1,())) (am (Oh (x.1,())) λb=>ad (bF b.1 0) (some (b.1,())) (am (Og (x.1,())) λc=>ad (bF c.1 0) (some (c.1,())) (am (Of (x.1,())) λd=>ad (bF d.1 0) (some (d.1,())) (am (Ut (x.1,())) λe=>ad (bF e.1 0) (some (e.1,())) (some (0,()))))))
def k12:=kB ik k34 12 Tryz.f12 Tr.e yj
def Us(x:D (.ai ce .un)):Option (D bU):=ad (ay (ak x.1.1) 1) (some (false,())) (ad (ay 4 (ak x.1.1)) (some (false,())) (ad (ay (ak x.1.2.1) 1) (some (false,())) (ad (ay 6 (ak x.1.2.1)) (some (false,())) (aE (aF (λc=>ad (ay c.1 (ak x.1.1)) (am (az x.1.1 c.1) λd=>ad (ay d 0) (ao (ao (some (false,())))) (ad (cH 4 d) (ao (ao (some (false,())))) (some (.inl (ah .i64 c.1 1,()))))) (ao (some (.inl ())))) 1000000000 (0,())) λf=>aE (aF (λb=>ad (ay b.2.2.1 (ak x.1.2.1)) (am (az x.1.2.1 b.2.2.1) λa=>ad (ay a.1 0) (ao (ao (some (false,())))) (ad (cH 4 a.1) (ao (ao (some (false,())))) (ad (bF a.2.1 0) (ad (bF a.2.1 1) (ao (ao (some (false,())))) (ad (ay a.2.2.1 1) (ao (ao (some (false,())))) (ad (ay 256 a.2.2.1) (ao (ao (some (false,())))) (ad (ay a.2.2.2.1 0) (ao (ao (some (false,())))) (ad (ay a.2.2.1 a.2.2.2.1) (ao (ao (some (false,())))) (ad b.2.1 (some (.inl (ah .i64 b.1 a.2.2.1,true,ah .i64 b.2.2.1 1,()))) (some (.inl (ah .i64 b.1 a.2.2.1,aY a.2.1 0,ah .i64 b.2.2.1 1,()))))))))) (ad (ay a.2.2.1 1) (ao (ao (some (false,())))) (ad (ay 256 a.2.2.1) (ao (ao (some (false,())))) (ad (ay a.2.2.2.1 0) (ao (ao (some (false,())))) (ad (ay a.2.2.1 a.2.2.2.1) (ao (ao (some (false,())))) (ad b.2.1 (some (.inl (ah .i64 b.1 a.2.2.1,true,ah .i64 b.2.2.1 1,()))) (some (.inl (ah .i64 b.1 a.2.2.1,aY a.2.1 0,ah .i64 b.2.2.1 1,()))))))))))) (ao (some (.inl (b.1,b.2.1,()))))) 1000000000 (0,false,0,())) λe=>ad e.2.1 (some (cH e.1 256,())) (some (false,()))))))
def k35:=kB ik k12 35 Tryz.f35 (hs [(0,[.bE 1]),(1,kp [1,32,33] [.val 34 iT]),(4,[.val 5 iT,.val 6 .bool]),(5,.val 5 iT:: .val 6 .bool::kp [46,47] [.val 48 iT])]) Us
def Uq(x:D (.ai ce .un)):Option (D bU):=ad (ay x.1.2.2.2.1 1) (some (false,())) (ad (ay 16 x.1.2.2.2.1) (some (false,())) (ad (ay x.1.2.2.1 1) (some (false,())) (ad (ay x.1.2.2.2.1 x.1.2.2.1) (some (false,())) (ad (ay x.1.2.2.2.2.1 1) (some (false,())) (ad (ay 16 x.1.2.2.2.2.1) (some (false,())) (ad (ay x.1.2.2.2.2.2.1 1) (some (false,())) (ad (ay 16 x.1.2.2.2.2.2.1) (some (false,())) (ad (ay x.1.2.2.2.2.2.2.1 0) (some (false,())) (ad (ay 64 x.1.2.2.2.2.2.2.1) (some (false,())) (ad (ay x.1.2.2.2.2.2.2.2.1 0) (some (false,())) (ad (ay 32 x.1.2.2.2.2.2.2.2.1) (some (false,())) (ad (ay x.1.2.2.2.2.2.2.2.2.1 1) (some (false,())) (ad (ay 256 x.1.2.2.2.2.2.2.2.2.1) (some (false,())) (ad (ay x.1.2.2.2.2.2.2.2.2.2.1 1) (some (false,())) (ad (ay 32 x.1.2.2.2.2.2.2.2.2.2.1) (some (false,())) (ad (ay 4 (ak x.1.2.2.2.2.2.2.2.2.2.2.1)) (some (false,())) (aE (aF (λb=>ad (ay b.1 (ak x.1.2.2.2.2.2.2.2.2.2.2.1)) (am (az x.1.2.2.2.2.2.2.2.2.2.2.1 b.1) λa=>ad (ay a.1 1) (ao (ao (some (false,())))) (ad (ay 16 a.1) (ao (ao (some (false,())))) (ad (bF (lf .i64 (ak a.2.1) 32) 0) (ao (ao (some (false,())))) (ad (ay (ea .i64 a.1 32) (ak a.2.1)) (ao (ao (some (false,())))) (some (.inl (ah .i64 b.1 1,()))))))) (ao (some (.inl ())))) 1000000000 (0,())) λc=>some (true,()))))))))))))))))))
def k36:=kB ik k35 36 Tryz.f36 (hs [(0,[]),(1,kp [88,89] [.val 90 iT])]) Uq
def xg(x:D iU):Option (D bU):=ad (cH 0 x.1) (some (cH x.1 1048576,())) (some (false,()))
def aaq:=kB ik k36 110 Tryz.f110 Tr.e xg
def IH(x:D (.ai jH iU)):Option (D iU):=aE (aF (λa=>ad (ay a.2.1 (ak x.1)) (am (az x.1 a.2.1) λb=>ad (aY b.1 x.2.1) (am (az x.1 a.2.1) λc=>some (.inl (ah .i64 a.1 c.2.1,ah .i64 a.2.1 1,()))) (some (.inl (a.1,ah .i64 a.2.1 1,())))) (ao (some (.inl (a.1,()))))) 1000000000 (0,1,())) λd=>some (d.1,())
def aap:=kB ik aaq 111 Tryz.f111 (hs [(0,[.val 5 iT]),(1,kp [0,1] [.val 5 iT,.val 6 iT])]) IH
def H0(x:D (.ai jH .un)):Option (D iU):=ad (ay (ak x.1) 1) (some (9,())) (ad (ay 8 (ak x.1)) (some (9,())) (aE (aF (λa=>ad (ay a.1 (ak x.1)) (ad (aY a.1 0) (am (az x.1 a.1) λe=>ad (bF e.1 (-1)) (ao (ao (some (1,())))) (ad (ay 0 a.1) (am (az x.1 a.1) λn=>ad (ay n.1 0) (ao (ao (some (1,())))) (am (az x.1 a.1) λs=>ad (cH a.1 s.1) (ao (ao (some (1,())))) (some (.inl (ah .i64 a.1 1,()))))) (some (.inl (ah .i64 a.1 1,()))))) (ad (ay 0 a.1) (am (az x.1 a.1) λt=>ad (ay t.1 0) (ao (ao (some (1,())))) (am (az x.1 a.1) λu=>ad (cH a.1 u.1) (ao (ao (some (1,())))) (some (.inl (ah .i64 a.1 1,()))))) (some (.inl (ah .i64 a.1 1,()))))) (ao (some (.inl ())))) 1000000000 (0,())) λB=>aE (aF (λb=>ad (ay b.1 (ak x.1)) (am (az x.1 b.1) λv=>am (xg (v.2.1,())) λw=>ad (bI w.1) (ao (ao (some (2,())))) (am (az x.1 b.1) λf=>am (xg (f.2.2.1,())) λg=>ad (bI g.1) (ao (ao (some (2,())))) (am (az x.1 b.1) λh=>am (xg (h.2.2.2.1,())) λi=>ad (bI i.1) (ao (ao (some (2,())))) (am (az x.1 b.1) λj=>am (xg (j.2.2.2.2.1,())) λk=>ad (bI k.1) (ao (ao (some (2,())))) (some (.inl (ah .i64 b.1 1,()))))))) (ao (some (.inl ())))) 1000000000 (0,())) λy=>am (az x.1 0) λl=>ad (bF l.2.2.1 0) (some (2,())) (am (az x.1 0) λm=>ad (bF m.2.2.2.1 0) (some (2,())) (aE (aF (λc=>ad (ay c.1 (ak x.1)) (am (az x.1 c.1) λo=>am (az x.1 c.1) λp=>ad (ay p.2.2.2.2.1 o.2.1) (ao (ao (some (17,())))) (some (.inl (ah .i64 c.1 1,())))) (ao (some (.inl ())))) 1000000000 (0,())) λz=>aE (aF (λd=>ad (ay d.1 (ak x.1)) (am (az x.1 d.1) λq=>am (IH (x.1,d.1,())) λr=>ad (ay q.2.1 r.1) (ao (ao (some (11,())))) (some (.inl (ah .i64 d.1 1,())))) (ao (some (.inl ())))) 1000000000 (0,())) λA=>some (0,())))))
def k37:=kB ik aap 37 Tryz.f37 (hs [(0,[.bE 0]),(1,[.bE 0,.val 3 iT]),(4,[.bE 0]),(5,[.bE 0,.val 4 iT]),(8,[.bE 0]),(9,[.bE 0,.val 5 iT]),(12,[]),(13,[.bE 0,.val 6 iT])]) H0
def FO(x:D (.ai ce .un)):Option (D cQ):=aE (aF (λa=>ad (ay a.2.2.1 (ak x.1.2.1)) (am (az x.1.2.1 a.2.2.1) λb=>some (.inl (ah .i64 a.1 b.2.2.1,ah .i64 a.2.1 (bb .i64 b.2.2.1 b.2.2.2.1),ah .i64 a.2.2.1 1,()))) (ao (some (.inl (a.1,a.2.1,()))))) 1000000000 (0,0,0,())) λc=>some (c.1,c.2.1,())
def k38:=kB ik k37 38 Tryz.f38 (hs [(0,[.val 4 iT,.val 5 iT]),(1,.val 4 iT:: .val 5 iT::kp [9,10] [.val 11 iT])]) FO
def HZ(x:D (.ai jH iU)):Option (D cQ):=am (H0 (x.1,())) λd=>ad (bF d.1 0) (some (0,d.1,())) (ad (ay x.2.1 0) (some (0,2,())) (ad (ay 1048576 x.2.1) (some (0,2,())) (aE (aF (λa=>ad (ay a.1 (ak x.1)) (aE (aE (aF (λb=>ad (ay b.2.1 (ak x.1)) (am (az x.1 b.2.1) λe=>ad (aY e.1 a.1) (am (az x.1 b.2.1) λf=>some (.inl (ah .i64 b.1 f.2.2.1,ah .i64 b.2.1 1,()))) (some (.inl (b.1,ah .i64 b.2.1 1,())))) (ao (some (.inl (b.1,()))))) 1000000000 (0,ah .i64 a.1 1,())) λc=>ad (aY a.1 0) (ad (ay x.2.1 c.1) (ao (ao (ao (some (a.1,0,()))))) (ad (ay 0 a.1) (am (az x.1 a.1) λg=>ad (ay g.2.2.1 c.1) (ao (ao (ao (some (a.1,0,()))))) (some (.inl ()))) (some (.inl ())))) (ad (ay 0 a.1) (am (az x.1 a.1) λh=>ad (ay h.2.2.1 c.1) (ao (ao (ao (some (a.1,0,()))))) (some (.inl ()))) (some (.inl ())))) λi=>some (.inl (ah .i64 a.1 1,()))) (ao (some (.inl ())))) 1000000000 (0,())) λj=>some (-1,0,()))))
def k39:=kB ik k38 39 Tryz.f39 (hs [(0,[]),(1,kp [0,1] [.val 7 iT]),(2,kp [0,1,7] []),(4,kp [0,1,7] [.val 8 iT]),(5,kp [0,1,7] [.val 8 iT,.val 9 iT])]) HZ
def eR(x:D (.ai iT cQ)):Option (D bU):=ad (cH x.2.1 x.1) (some (cH x.1 x.2.2.1,())) (some (false,()))
def aao:=kB ik k39 112 Tryz.f112 Tr.e eR
def pL(x:D (.ai pg .un)):Option (D (.ai pg .un)):=ad (aY x.1.1 1) (some ((x.1.1,x.1.2.1,x.1.2.2.1,x.1.2.2.2.1,0,x.1.2.2.2.2.2.1,x.1.2.2.2.2.2.2.1,x.1.2.2.2.2.2.2.2.1,()),())) (ad (aY x.1.1 2) (some ((x.1.1,x.1.2.1,x.1.2.2.1,0,0,0,0,0,()),())) (ad (aY x.1.1 3) (some ((x.1.1,x.1.2.1,x.1.2.2.1,0,0,0,x.1.2.2.2.2.2.2.1,0,()),())) (ad (aY x.1.1 4) (some ((x.1.1,x.1.2.1,x.1.2.2.1,0,x.1.2.2.2.2.1,0,0,0,()),())) (ad (aY x.1.1 5) (some ((x.1.1,x.1.2.1,0,x.1.2.2.2.1,0,0,0,0,()),())) (ad (aY x.1.1 6) (some ((x.1.1,x.1.2.1,0,x.1.2.2.2.1,x.1.2.2.2.2.1,0,0,0,()),())) (ad (aY x.1.1 7) (some ((x.1.1,x.1.2.1,0,x.1.2.2.2.1,0,x.1.2.2.2.2.2.1,0,0,()),())) (ad (aY x.1.1 8) (some ((x.1.1,x.1.2.1,0,x.1.2.2.2.1,x.1.2.2.2.2.1,x.1.2.2.2.2.2.1,0,0,()),())) (ad (aY x.1.1 9) (some ((x.1.1,0,x.1.2.2.1,0,0,x.1.2.2.2.2.2.1,0,0,()),())) (ad (aY x.1.1 10) (some ((x.1.1,0,0,0,0,x.1.2.2.2.2.2.1,0,0,()),())) (ad (aY x.1.1 11) (some ((x.1.1,0,0,0,x.1.2.2.2.2.1,0,0,0,()),())) (some ((x.1.1,0,0,0,0,0,0,0,()),()))))))))))))
def aan:=kB ik aao 113 Tryz.f113 Tr.e pL
def ot(x:D (.ai pg .un)):Option (D bU):=am (eR (x.1.2.1,0,511,())) λb=>am (eR (x.1.2.2.1,1,512,())) λa=>ad (aY x.1.2.2.2.2.2.2.1 1) (ad (aY x.1.1 1) (am (eR (x.1.2.2.2.2.2.1,-1,3,())) λm=>ad m.1 (am (eR (x.1.2.2.2.1,0,15,())) λy=>ad y.1 (ad (cH 0 x.1.2.2.2.2.2.1) (am (eR (x.1.2.1,-1,511,())) λz=>ad z.1 (ad a.1 (am (eR (x.1.2.2.2.2.2.2.2.1,0,15,())) λA=>ad A.1 (some (true,())) (some (false,()))) (some (false,()))) (some (false,()))) (am (eR (x.1.2.1,-1,511,())) λB=>ad B.1 (ad a.1 (am (eR (x.1.2.2.2.2.2.2.2.1,0,15,())) λC=>ad C.1 (some (aY x.1.2.2.2.1 0,())) (some (false,()))) (some (false,()))) (some (false,())))) (am (eR (x.1.2.1,-1,511,())) λz0=>ad z0.1 (ad a.1 (am (eR (x.1.2.2.2.2.2.2.2.1,0,15,())) λy0=>ad y0.1 (some (false,())) (some (false,()))) (some (false,()))) (some (false,())))) (am (eR (x.1.2.1,-1,511,())) λc=>ad c.1 (ad a.1 (am (eR (x.1.2.2.2.2.2.2.2.1,0,15,())) λd=>ad d.1 (some (false,())) (some (false,()))) (some (false,()))) (some (false,())))) (ad (aY x.1.1 2) (ad b.1 (some (a.1,())) (some (false,()))) (ad (aY x.1.1 3) (ad b.1 (ad a.1 (some (true,())) (some (false,()))) (some (false,()))) (ad (aY x.1.1 4) (ad b.1 (ad a.1 (am (eR (x.1.2.2.2.2.1,0,1,())) λe=>some (e.1,())) (some (false,()))) (some (false,()))) (ad (aY x.1.1 5) (ad b.1 (am (eR (x.1.2.2.2.1,0,31,())) λf=>some (f.1,())) (some (false,()))) (ad b.1 (am (eR (x.1.2.2.2.1,0,31,())) λg=>ad g.1 (am (eR (x.1.2.2.2.2.1,0,255,())) λh=>some (h.1,())) (some (false,()))) (some (false,())))))))) (ad (aY x.1.1 1) (am (eR (x.1.2.2.2.2.2.1,-1,3,())) λi=>ad i.1 (am (eR (x.1.2.2.2.1,0,15,())) λj=>ad j.1 (ad (cH 0 x.1.2.2.2.2.2.1) (am (eR (x.1.2.1,-1,511,())) λk=>ad k.1 (ad a.1 (ad (aY x.1.2.2.2.2.2.2.1 3) (am (eR (x.1.2.2.2.2.2.2.2.1,0,15,())) λl=>ad l.1 (some (true,())) (some (false,()))) (some (false,()))) (some (false,()))) (some (false,()))) (am (eR (x.1.2.1,-1,511,())) λn=>ad n.1 (ad a.1 (ad (aY x.1.2.2.2.2.2.2.1 3) (am (eR (x.1.2.2.2.2.2.2.2.1,0,15,())) λo=>ad o.1 (some (aY x.1.2.2.2.1 0,())) (some (false,()))) (some (false,()))) (some (false,()))) (some (false,())))) (am (eR (x.1.2.1,-1,511,())) λp=>ad p.1 (ad a.1 (ad (aY x.1.2.2.2.2.2.2.1 3) (am (eR (x.1.2.2.2.2.2.2.2.1,0,15,())) λq=>ad q.1 (some (false,())) (some (false,()))) (some (false,()))) (some (false,()))) (some (false,())))) (am (eR (x.1.2.1,-1,511,())) λr=>ad r.1 (ad a.1 (ad (aY x.1.2.2.2.2.2.2.1 3) (am (eR (x.1.2.2.2.2.2.2.2.1,0,15,())) λs=>ad s.1 (some (false,())) (some (false,()))) (some (false,()))) (some (false,()))) (some (false,())))) (ad (aY x.1.1 2) (ad b.1 (some (a.1,())) (some (false,()))) (ad (aY x.1.1 3) (ad b.1 (ad a.1 (some (aY x.1.2.2.2.2.2.2.1 3,())) (some (false,()))) (some (false,()))) (ad (aY x.1.1 4) (ad b.1 (ad a.1 (am (eR (x.1.2.2.2.2.1,0,1,())) λt=>some (t.1,())) (some (false,()))) (some (false,()))) (ad (aY x.1.1 5) (ad b.1 (am (eR (x.1.2.2.2.1,0,31,())) λu=>some (u.1,())) (some (false,()))) (ad b.1 (am (eR (x.1.2.2.2.1,0,31,())) λv=>ad v.1 (am (eR (x.1.2.2.2.2.1,0,255,())) λw=>some (w.1,())) (some (false,()))) (some (false,()))))))))
def ZD:=kB ik aan 184 Tryz.f184 Tr.e ot
def ma(x:D (.ai pg .un)):Option (D bU):=am (eR (x.1.2.2.2.2.2.1,0,3,())) λa=>ad a.1 (am (eR (x.1.2.1,0,15,())) λc=>ad c.1 (am (eR (x.1.2.2.2.1,0,31,())) λb=>ad (aY x.1.1 7) (some (b.1,())) (ad (aY x.1.1 8) (ad b.1 (am (eR (x.1.2.2.2.2.1,0,255,())) λg=>some (g.1,())) (some (false,()))) (ad (aY x.1.1 9) (ad a.1 (am (eR (x.1.2.2.1,0,16,())) λh=>some (h.1,())) (some (false,()))) (ad (aY x.1.1 10) (some (a.1,())) (ad (aY x.1.1 11) (am (eR (x.1.2.2.2.2.1,0,48,())) λi=>some (i.1,())) (ad (aY x.1.1 12) (some (true,())) (am (ot (x.1,())) λj=>some (j.1,())))))))) (ad (aY x.1.1 7) (some (false,())) (ad (aY x.1.1 8) (some (false,())) (ad (aY x.1.1 9) (ad a.1 (am (eR (x.1.2.2.1,0,16,())) λk=>some (k.1,())) (some (false,()))) (ad (aY x.1.1 10) (some (a.1,())) (ad (aY x.1.1 11) (am (eR (x.1.2.2.2.2.1,0,48,())) λl=>some (l.1,())) (ad (aY x.1.1 12) (some (true,())) (am (ot (x.1,())) λm=>some (m.1,()))))))))) (ad (aY x.1.1 7) (some (false,())) (ad (aY x.1.1 8) (some (false,())) (ad (aY x.1.1 9) (ad a.1 (am (eR (x.1.2.2.1,0,16,())) λd=>some (d.1,())) (some (false,()))) (ad (aY x.1.1 10) (some (a.1,())) (ad (aY x.1.1 11) (am (eR (x.1.2.2.2.2.1,0,48,())) λe=>some (e.1,())) (ad (aY x.1.1 12) (some (true,())) (am (ot (x.1,())) λf=>some (f.1,()))))))))
def aam:=kB ik ZD 114 Tryz.f114 Tr.e ma
def Q1(x:D (.ai zP .un)):Option (D iU):=ad (ay 48 (ak x.1)) (some (9,())) (aE (aF (λc=>ad (ay c.1 (ak x.1)) (am (az x.1 c.1) λd=>am (eR (d.1,1,12,())) λe=>ad (bI e.1) (ao (ao (some (1,())))) (am (az x.1 c.1) λf=>am (az x.1 c.1) λa=>am (pL (f,())) λb=>ad (bI (eV (aY b.1.1 a.1) (eV (aY b.1.2.1 a.2.1) (eV (aY b.1.2.2.1 a.2.2.1) (eV (aY b.1.2.2.2.1 a.2.2.2.1) (eV (aY b.1.2.2.2.2.1 a.2.2.2.2.1) (eV (aY b.1.2.2.2.2.2.1 a.2.2.2.2.2.1) (eV (aY b.1.2.2.2.2.2.2.1 a.2.2.2.2.2.2.1) (eV (aY b.1.2.2.2.2.2.2.2.1 a.2.2.2.2.2.2.2.1) true))))))))) (ao (ao (some (1,())))) (am (az x.1 c.1) λg=>am (ma (g,())) λh=>ad (bI h.1) (ao (ao (some (2,())))) (some (.inl (ah .i64 c.1 1,())))))) (ao (some (.inl ())))) 1000000000 (0,())) λi=>some (0,()))
def k40:=kB ik aam 40 Tryz.f40 (hs [(0,[]),(1,[.bE 0,.val 3 iT])]) Q1
def Ky(x:D (.ai ce .un)):Option (D iU):=am (Us (x.1,())) λh=>ad (bI h.1) (some (1,())) (am (Uq (x.1,())) λi=>ad (bI i.1) (some (1,())) (am (H0 (x.1.2.2.2.2.2.2.2.2.2.2.2.1,())) λe=>ad (bF e.1 0) (some (e.1,())) (aE (aF (λa=>ad (ay a.1 (ak x.1.2.2.2.2.2.2.2.2.2.2.2.1)) (am (az x.1.2.2.2.2.2.2.2.2.2.2.2.1 a.1) λj=>ad (bF j.2.1 0) (ao (ao (some (1,())))) (some (.inl (ah .i64 a.1 1,())))) (ao (some (.inl ())))) 1000000000 (0,())) λl=>am (FO (x.1,())) λf=>ad (ay (bb .i64 (bb .i64 f.2.1 x.1.2.2.2.2.2.2.2.1) 1) 0) (some (18,())) (am (HZ (x.1.2.2.2.2.2.2.2.2.2.2.2.1,bb .i64 (bb .i64 f.2.1 x.1.2.2.2.2.2.2.2.1) 1,())) λg=>ad (bF g.2.1 0) (some (18,())) (ad (bF g.1 (-1)) (some (18,())) (ad (ay (ak x.1.2.2.2.2.2.2.2.2.2.2.2.2.1) 1) (some (1,())) (ad (ay 8 (ak x.1.2.2.2.2.2.2.2.2.2.2.2.2.1)) (some (1,())) (aE (aF (λb=>ad (ay b.1 (ak x.1.2.2.2.2.2.2.2.2.2.2.2.2.1)) (am (az x.1.2.2.2.2.2.2.2.2.2.2.2.2.1 b.1) λc=>am (Q1 (c.2.1,())) λd=>ad (bF d.1 0) (ao (ao (some (d.1,())))) (ad (ay c.1 0) (ao (ao (some (2,())))) (ad (cH (ak x.1.2.2.2.2.2.2.2.2.2.2.2.1) c.1) (ao (ao (some (2,())))) (some (.inl (ah .i64 b.1 1,())))))) (ao (some (.inl ())))) 1000000000 (0,())) λk=>some (0,())))))))))
def k13:=kB ik k40 13 Tryz.f13 (hs [(0,[.bE 1]),(1,kp [1,29,30] [.val 31 iT]),(4,[]),(5,kp [1,75,76] [.val 77 iT])]) Ky
def F3(x:D (.ai ce .un)):Option (D bU):=am (IJ (x.1,())) λa=>ad (bI a.1) (some (true,())) (am (yj (x.1,())) λb=>am (Ky (x.1,())) λc=>ad (aY b.1 c.1) (some (true,())) (some (false,())))
theorem n3:ft.fn.ap 3=some Tryz.f3:=by kernel_rfl
theorem e3:ft.ext.ap 3=none:=by kernel_rfl
def k3:=kB ik k13 3 Tryz.f3 Tr.e F3
abbrev eI:U:= .ai iT (.ai iT (.ai iT (.ai iT (.ai iT (.ai (.im 5 lI) .un)))))
abbrev yr:U:= .bw eI
abbrev fA:U:= .ai (.bw lI) .un
abbrev X4:U:= .bw fA
abbrev de:U:= .ai lI (.ai iT (.ai iT (.ai yr (.ai X4 .un))))
abbrev VV:U:= .ai iT (.ai (.bw .bool) .un)
abbrev X2:U:= .bw VV
abbrev yq:U:= .ai iT (.ai X2 .un)
abbrev sY:U:= .bw cQ
abbrev VU:U:= .im 2 pW
abbrev VT:U:= .ai iT (.ai VU .un)
abbrev X1:U:= .bw VT
abbrev yp:U:= .ai iT (.ai X1 .un)
abbrev jP:U:= .ai iT bU
abbrev I0:U:= .ai (.im 8 iT) (.ai (.im 2 iT) (.ai .nil .un))
abbrev xl:U:= .ai iT (.ai I0 .un)
abbrev k5:U:= .ai iT (.ai iT (.ai iT (.ai iT (.ai iT (.ai .bool (.ai jP (.ai xl (.ai (.bw .bool) .un))))))))
abbrev CI:U:= .bw k5
abbrev Ee:U:= .ai iT (.ai iT pW)
abbrev X0:U:= .bw Ee
abbrev mJ:U:= .ai iT (.ai iT (.ai (.bw (.bw (.int .u8))) (.ai UP (.ai X0 .un))))
abbrev VY:U:= .ai iT (.ai pg cQ)
abbrev ON:U:= .bw VY
abbrev VP:U:= .ai iT (.ai iT (.ai iT (.ai iT (.ai iT (.ai .bool bU)))))
abbrev VS:U:= .bw VP
abbrev VQ:U:= .ai iT (.ai iT (.ai .bool (.ai iT (.ai VS .un))))
abbrev OK:U:= .bw VQ
abbrev VX:U:= .ai iT (.ai iT (.ai (.int .u64) .un))
abbrev V0:U:= .bw VX
abbrev mw:U:= .ai iT (.ai V0 .un)
abbrev X6:U:= .bw mw
abbrev VW:U:= .ai iT jP
abbrev zR:U:= .bw VW
abbrev X5:U:= .bw zR
abbrev yo:U:= .ai iT (.ai iT (.ai iT (.ai iT (.ai iT (.ai iT (.ai iT (.ai iT (.ai iT (.ai iT (.ai .bool (.ai .bool (.ai .bool (.ai iT (.ai sY (.ai (.bw (.int .u8)) .un)))))))))))))))
abbrev X3:U:= .bw yo
abbrev F1:U:= .ai iT (.ai iT (.ai iT (.ai iT (.ai UO (.ai .nil .un)))))
abbrev XX:U:= .ai iT (.ai (.im 8 (.int .u64)) .un)
abbrev XY:U:= .bw XX
abbrev sB:U:= .ai iT (.ai XY (.ai sY .un))
abbrev zO:U:= .ai iT (.ai iT (.ai iT (.ai iT (.ai iT (.ai zP (.ai F1 (.ai sB (.ai lI (.ai lI (.ai lI (.ai lI qP)))))))))))
abbrev XZ:U:= .bw zO
abbrev fS:U:= .ai ce (.ai iT (.ai iT (.ai lI (.ai X6 (.ai X5 (.ai de (.ai X3 (.ai yq (.ai jH (.ai zQ (.ai (.bw lI) (.ai sY (.ai yp (.ai CI (.ai mJ (.ai lI (.ai XZ (.ai ON (.ai OK .un)))))))))))))))))))
def YA:KK:=⟨k3.1.set 294 ⟨.un,.un,λ_=>none⟩,ut k3.2 λh b c x y _ _ _ _ a=>by cases a⟩
def b0:List Kd:=[.v lI,.v iT,.v iT,.o eI,.o fA]
def b1:List Kd:=[.v fA]
def b2:List Kd:=[.v iT,.v iT,.v iT,.v iT,.v iT,.o iT,.o iT,.o iT,.o iT,.o iT]
def b3:List Kd:=[.v (.im 256 .bool)]
def b4:List Kd:=[.v iT,.v iT,.v iT,.v iT,.v iT,.v .bool,.v jP,.v xl,.o .bool]
def b5:List Kd:=[.v iT,.v iT,.o (.bw (.int .u8)),.o pW,.o Ee]
def b6:List Kd:=[.s iT]
def b7:List Kd:=[.v eI]
def b8:List Kd:=[.v ce,.v iT,.v iT,.o iT,.o mw,.o zR,.v de,.o yo,.v yq,.v jH,.v zQ,.v (.bw lI),.v sY,.v yp,.v CI,.v mJ,.v lI,.o zO,.v ON,.v OK]
def dX:Tr (Tr (List Hi)):=hu ik [(116,hs [(0,[.own 5 iT]),(1,.bE 1:: .own 5 iT::kp [8,9] [.val 10 iT])]),(117,Tr.e),(119,hs [(0,[.own 5 pW]),(1,.bE 1:: .own 5 pW::kp [8,9] [.val 10 iT])]),(120,Tr.e),(122,hs [(0,[.own 5 vW]),(1,.bE 1:: .own 5 vW::kp [8,9] [.val 10 iT])]),(123,Tr.e),(230,hs [(0,[]),(1,kp [0,1,7] [.val 8 iT])]),(186,Tr.e),(187,Tr.e),(237,hs [(0,[]),(1,kp [0,1,7] [.val 8 iT])]),(238,Tr.e),(189,Tr.e),(236,hs [(0,[.mp 3]),(1,.mp 3::kp [10,11] [.val 12 iT]),(2,.mp 3::kp [10,11,12] []),(4,.mp 3::kp [10,11,12] []),(5,.mp 3::kp [10,11,12,16,17] [.val 18 iT])]),(293,hs [(0,[.rw 0 iT]),(1,.rw 0 iT::kp [1,2,3] [.val 8 iT]),(2,.rw 0 iT::kp [1,2,3,8] []),(4,.rw 0 iT::kp [1,2,3,8] []),(5,.rw 0 iT::kp [1,2,3,8] [.val 9 iT])]),(275,hs [(0,.rw 0 iT::kp [1,2,6] [.val 7 iT]),(1,.rw 0 iT::kp [1,2,6] [.val 7 iT,.val 8 iT]),(4,[.rw 0 iT]),(5,.rw 0 iT::kp [1,2] [.val 6 iT]),(6,.rw 0 iT::kp [1,2] [.val 6 iT]),(8,.rw 0 iT::kp [1,2,6] [.val 7 iT]),(9,.rw 0 iT::kp [1,2,6] [.val 7 iT,.val 8 iT])]),(244,Tr.e),(242,Tr.e),(245,Tr.e),(279,Tr.e),(204,hs [(0,[.box 1 b0,.bE 2]),(1,.box 1 b0::kp [2,22] [.val 23 iT]),(2,.box 1 b0::kp [2,22,23] []),(6,.box 1 b0::kp [2,3,22,23,26] []),(8,[.box 1 b0,.bE 2]),(9,.box 1 b0::kp [2,49] [.val 50 iT]),(10,.box 1 b0::kp [2,49,50] []),(12,kp [1,2,5] (.own 6 lI::kp [49,50] [])),(13,kp [1,2,5] (.own 6 lI::kp [49,50,61] [.val 62 iT]))]),(205,hs [(0,.box 0 b0::kp [1,2] [.own 7 iT]),(1,.box 0 b0::kp [1,2] [.own 7 iT,.bE 16,.val 17 iT])]),(206,Tr.e),(254,hs [(0,[.box 0 b0]),(1,.box 0 b0::kp [1,10,11] [.val 12 iT])]),(137,hs [(0,[.own 5 iT]),(1,.bE 1:: .own 5 iT::kp [8,9] [.val 10 iT])]),(138,Tr.e),(55,Tr.e),(234,Tr.e),(277,Tr.e),(252,hs [(0,kp [1,2,3] [.box 6 b1,.mp 9]),(1,kp [1,2,3] (.box 6 b1:: .mp 9::kp [23,24] [.val 25 iT])),(4,kp [1,3,6] [.own 12 iT]),(5,kp [1,2,3,6] [.own 12 iT,.bE 55,.val 56 iT])])]
def Io(x:D iU):Option (D bU):=ad (cH 0 x.1) (some (cH x.1 16,())) (some (false,()))
def ZC:=kB dX YA 185 Tryz.f185 Tr.e Io
def IG(x:D (.ai lI iU)):Option (D (.ai lI iU)):=ad (ay 4 (ak x.1)) (some ([],9,())) (aE (aF (λa=>ad (ay a.2.2.1 (ak x.1)) (am (az x.1 a.2.2.1) λc=>ad (ay c 1) (ao (ao (some ([],2,())))) (am (Io (c,())) λd=>ad (bI d.1) (ao (ao (some ([],2,())))) (aC (a4 a.2.1 (a.1::[]) 8) (some (.inl (ah .i64 a.1 (ah .i64 1 c),aX a.2.1 (a.1::[]),ah .i64 a.2.2.1 1,())))))) (ao (some (.inl (a.1,a.2.1,()))))) 1000000000 (0,[],0,())) λb=>ad (ay x.2.1 0) (some ([],2,())) (ad (ay 64 x.2.1) (some ([],2,())) (aC (a4 b.2.1 (b.1::ah .i64 b.1 x.2.1::[]) 8) (some (aX b.2.1 (b.1::ah .i64 b.1 x.2.1::[]),0,())))))
def aal:=kB dX ZC 115 Tryz.f115 (hs [(0,[.bE 1,.val 6 iT,.own 7 iT]),(1,.bE 1:: .val 6 iT:: .own 7 iT::kp [13,14] [.val 15 iT])]) IG
def FN(x:D (.ai ce .un)):Option (D (.ai lI .un)):=aE (aF (λa=>ad (ay a.2.1 (ak x.1.2.2.2.2.2.2.2.2.2.2.1)) (am (az x.1.2.2.2.2.2.2.2.2.2.2.1 a.2.1) λb=>aC (a4 a.1 (b.1::[]) 8) (some (.inl (aX a.1 (b.1::[]),ah .i64 a.2.1 1,())))) (ao (some (.inl (a.1,()))))) 1000000000 ([],0,())) λc=>am (IG (c.1,x.1.2.2.2.2.2.2.1,())) λd=>some (d.1,())
def k41:=kB dX aal 41 Tryz.f41 Tr.e FN
def Ul(x:D (.ai ce .un)):Option (D (.ai ce .un)):=aC (a4 [] x.1.1 8) (aC (a4 [] x.1.2.1 32) (aC (a4 [] x.1.2.2.2.2.2.2.2.2.2.2.2.1 40) (aE (aF (λa=>ad (ay a.2.1 (ak x.1.2.2.2.2.2.2.2.2.2.2.1)) (am (az x.1.2.2.2.2.2.2.2.2.2.2.1 a.2.1) λc=>aC (a4 [] c.2.1 1) (aC (a4 a.1 ((c.1,aX [] c.2.1,())::[]) 32) (some (.inl (aX a.1 ((c.1,aX [] c.2.1,())::[]),ah .i64 a.2.1 1,()))))) (ao (some (.inl (a.1,()))))) 1000000000 ([],0,())) λe=>aE (aF (λb=>ad (ay b.2.1 (ak x.1.2.2.2.2.2.2.2.2.2.2.2.2.1)) (am (az x.1.2.2.2.2.2.2.2.2.2.2.2.2.1 b.2.1) λd=>aC (a4 [] d.2.1 64) (aC (a4 b.1 ((d.1,aX [] d.2.1,())::[]) 32) (some (.inl (aX b.1 ((d.1,aX [] d.2.1,())::[]),ah .i64 b.2.1 1,()))))) (ao (some (.inl (b.1,()))))) 1000000000 ([],0,())) λf=>some ((aX [] x.1.1,aX [] x.1.2.1,x.1.2.2.1,x.1.2.2.2.1,x.1.2.2.2.2.1,x.1.2.2.2.2.2.1,x.1.2.2.2.2.2.2.1,x.1.2.2.2.2.2.2.2.1,x.1.2.2.2.2.2.2.2.2.1,x.1.2.2.2.2.2.2.2.2.2.1,e.1,aX [] x.1.2.2.2.2.2.2.2.2.2.2.2.1,f.1,()),()))))
def k43:=kB dX k41 43 Tryz.f43 Tr.e Ul
def FM(x:D iU):Option (D (.ai mw iU)):=ad (ay x.1 1) (some ((0,[],()),1,())) (ad (ay 16 x.1) (some ((0,[],()),1,())) (some ((x.1,[],()),0,())))
def k44:=kB dX k43 44 Tryz.f44 Tr.e FM
def B4(x:D (.ai de .un)):Option (D bU):=ad (ay (ak x.1.1) 1) (some (false,())) (ad (ay 4 (ak x.1.1)) (some (false,())) (ad (ay 64 x.1.2.2.1) (some (false,())) (ad (ay x.1.2.1 1) (some (false,())) (ad (ay x.1.2.2.1 x.1.2.1) (some (false,())) (ad (ay (ak x.1.2.2.2.1) 1) (some (false,())) (ad (ay 6 (ak x.1.2.2.2.1)) (some (false,())) (aE (aF (λa=>ad (ay a.1 (ak x.1.1)) (am (az x.1.1 a.1) λb=>ad (ay b 0) (ao (ao (some (bI (cH 0 a.1),())))) (ad (cH 4 b) (ao (ao (some (bI (cH 0 a.1),())))) (some (.inl (ah .i64 a.1 1,()))))) (ao (some (.inl ())))) 1000000000 (0,())) λc=>some (true,()))))))))
def aak:=kB dX k44 125 Tryz.f125 Tr.e B4
def qs(x:D (.ai eI .un)):Option (D bU):=ad (cH 0 x.1.1) (ad (ay x.1.1 4) (ad (aY x.1.2.1 0) (ad (cH 0 x.1.2.2.1) (ad (ay x.1.2.2.1 256) (ad (cH 1 x.1.2.2.2.1) (ad (cH x.1.2.2.2.1 (bb .i64 256 x.1.2.2.1)) (ad (cH 0 x.1.2.2.2.2.1) (some (cH x.1.2.2.2.2.1 x.1.2.2.2.1,())) (some (false,()))) (some (false,()))) (some (false,()))) (some (false,()))) (some (false,()))) (ad (aY x.1.2.1 1) (ad (cH 0 x.1.2.2.1) (ad (ay x.1.2.2.1 256) (ad (cH 1 x.1.2.2.2.1) (ad (cH x.1.2.2.2.1 (bb .i64 256 x.1.2.2.1)) (ad (cH 0 x.1.2.2.2.2.1) (some (cH x.1.2.2.2.2.1 x.1.2.2.2.1,())) (some (false,()))) (some (false,()))) (some (false,()))) (some (false,()))) (some (false,()))) (some (false,())))) (some (false,()))) (some (false,()))
def ZB:=kB dX aak 188 Tryz.f188 Tr.e qs
def u7(x:D iU):Option (D bU):=some (bF x.1 x.1,())
def YK:=kB dX ZB 276 Tryz.f276 Tr.e u7
def Mj(x:D cQ):Option (D bU):=am (u7 (x.1,())) λa=>ad a.1 (am (u7 (x.2.1,())) λb=>ad (bI b.1) (some (true,())) (some (ay x.1 x.2.1,()))) (some (ay x.1 x.2.1,()))
def YN:=kB dX YK 270 Tryz.f270 Tr.e Mj
def Mi(x:D iU):Option (D bU):=some (bF x.1 x.1,())
def YM:=kB dX YN 271 Tryz.f271 Tr.e Mi
def gj(x:D (.ai lI iU)):Option (D jP):=aE (aF (λa=>ad (ay a.1 a.2.1) (am (az x.1 (ee .i64 (qW .u64 (ee .u64 (ah .i64 a.1 a.2.1)) 1))) λc=>am (Mj (c,x.2.1,())) λd=>ad d.1 (some (.inl (ah .i64 (ee .i64 (qW .u64 (ee .u64 (ah .i64 a.1 a.2.1)) 1)) 1,a.2.1,()))) (some (.inl (a.1,ee .i64 (qW .u64 (ee .u64 (ah .i64 a.1 a.2.1)) 1),())))) (ao (some (.inl (a.1,()))))) 1000000000 (0,ak x.1,())) λb=>ad (ay b.1 (ak x.1)) (am (az x.1 b.1) λe=>ad (aY e x.2.1) (some (b.1,true,())) (am (az x.1 b.1) λf=>am (Mi (f,())) λg=>ad g.1 (am (Mi (x.2.1,())) λh=>some (b.1,h.1,())) (some (b.1,false,())))) (some (b.1,false,()))
def Y4:=kB dX YM 231 Tryz.f231 (hs [(0,kp [0,1,6] [.val 7 iT]),(1,kp [0,1,6] [.val 7 iT,.val 8 iT])]) gj
def kD(x:D (.ai eI cQ)):Option (D bU):=aC (cR x.2.2.1) (ad (cH x.1.2.2.1 x.2.1) (aC (bF (fj .i64 1 x.2.2.1) 0) (ad (aY (lf .i64 x.2.1 (fj .i64 1 x.2.2.1)) 0) (ad (cH (fj .i64 1 x.2.2.1) x.1.2.2.2.1) (some (cH x.2.1 (bb .i64 (ah .i64 x.1.2.2.1 x.1.2.2.2.1) (fj .i64 1 x.2.2.1)),())) (some (false,()))) (some (false,())))) (some (false,())))
def Y3:=kB dX Y4 232 Tryz.f232 Tr.e kD
def IC(x:D qP):Option (D (.ai eI iU)):=am (qs ((x.1,x.2.1,x.2.2.1,x.2.2.2.1,x.2.2.2.2.1,[]::[]::[]::[]::[]::[],()),())) λp=>ad (bI p.1) (some ((0,0,0,0,0,[]::[]::[]::[]::[]::[],()),2,())) (aE (aF (λa=>ad (ay a.2.1 (ah .i64 x.2.2.1 x.2.2.2.1)) (am (gj (a.1.2.2.2.2.2.1,bG .i64 a.2.1 1,())) λb=>ad (bI b.2.1) (am (gj (a.1.2.2.2.2.2.1,a.2.1,())) λl=>aC (dx l.1 (ak a.1.2.2.2.2.2.1) (ak a.1.2.2.2.2.2.1)) (ad (aY l.1 (ak a.1.2.2.2.2.2.1)) (aC (a4 a.1.2.2.2.2.2.1 (a.2.1::[]) 8) (some (.inl ((a.1.1,a.1.2.1,a.1.2.2.1,a.1.2.2.2.1,a.1.2.2.2.2.1,aX a.1.2.2.2.2.2.1 (a.2.1::[]),a.1.2.2.2.2.2.2.1,a.1.2.2.2.2.2.2.2.1,a.1.2.2.2.2.2.2.2.2.1,a.1.2.2.2.2.2.2.2.2.2.1,()),ah .i64 a.2.1 1,())))) none)) (am (kD ((a.1.1,a.1.2.1,a.1.2.2.1,a.1.2.2.2.1,a.1.2.2.2.2.1,a.1.2.2.2.2.2.1::a.1.2.2.2.2.2.2.1::a.1.2.2.2.2.2.2.2.1::a.1.2.2.2.2.2.2.2.2.1::a.1.2.2.2.2.2.2.2.2.2.1::[],()),bK a.2.1 (bG .i64 a.2.1 1),1,())) λs=>ad (bI s.1) (am (gj (a.1.2.2.2.2.2.1,a.2.1,())) λm=>aC (dx m.1 (ak a.1.2.2.2.2.2.1) (ak a.1.2.2.2.2.2.1)) (ad (aY m.1 (ak a.1.2.2.2.2.2.1)) (aC (a4 a.1.2.2.2.2.2.1 (a.2.1::[]) 8) (some (.inl ((a.1.1,a.1.2.1,a.1.2.2.1,a.1.2.2.2.1,a.1.2.2.2.2.1,aX a.1.2.2.2.2.2.1 (a.2.1::[]),a.1.2.2.2.2.2.2.1,a.1.2.2.2.2.2.2.2.1,a.1.2.2.2.2.2.2.2.2.1,a.1.2.2.2.2.2.2.2.2.2.1,()),ah .i64 a.2.1 1,())))) none)) (aC (aU a.1.2.2.2.2.2.1 b.1) (aC (aY (ah .i64 b.1 1) (ah .i64 b.1 1)) (aC (a4 [] a.1.2.2.2.2.2.1 8) (am (gj (a.1.2.2.2.2.2.2.1,bG .i64 (bK a.2.1 (bG .i64 a.2.1 1)) 2,())) λc=>ad (bI c.2.1) (am (gj (a.1.2.2.2.2.2.2.1,bK a.2.1 (bG .i64 a.2.1 1),())) λn=>aC (dx n.1 (ak a.1.2.2.2.2.2.2.1) (ak a.1.2.2.2.2.2.2.1)) (ad (aY n.1 (ak a.1.2.2.2.2.2.2.1)) (aC (a4 a.1.2.2.2.2.2.2.1 (bK a.2.1 (bG .i64 a.2.1 1)::[]) 8) (some (.inl ((a.1.1,a.1.2.1,a.1.2.2.1,a.1.2.2.2.1,a.1.2.2.2.2.1,g8 a.1.2.2.2.2.2.1 b.1,aX a.1.2.2.2.2.2.2.1 (bK a.2.1 (bG .i64 a.2.1 1)::[]),a.1.2.2.2.2.2.2.2.1,a.1.2.2.2.2.2.2.2.2.1,a.1.2.2.2.2.2.2.2.2.2.1,()),ah .i64 a.2.1 1,())))) none)) (am (kD ((a.1.1,a.1.2.1,a.1.2.2.1,a.1.2.2.2.1,a.1.2.2.2.2.1,g8 a.1.2.2.2.2.2.1 b.1::a.1.2.2.2.2.2.2.1::a.1.2.2.2.2.2.2.2.1::a.1.2.2.2.2.2.2.2.2.1::a.1.2.2.2.2.2.2.2.2.2.1::[],()),bK (bK a.2.1 (bG .i64 a.2.1 1)) (bG .i64 (bK a.2.1 (bG .i64 a.2.1 1)) 2),2,())) λt=>ad (bI t.1) (am (gj (a.1.2.2.2.2.2.2.1,bK a.2.1 (bG .i64 a.2.1 1),())) λo=>aC (dx o.1 (ak a.1.2.2.2.2.2.2.1) (ak a.1.2.2.2.2.2.2.1)) (ad (aY o.1 (ak a.1.2.2.2.2.2.2.1)) (aC (a4 a.1.2.2.2.2.2.2.1 (bK a.2.1 (bG .i64 a.2.1 1)::[]) 8) (some (.inl ((a.1.1,a.1.2.1,a.1.2.2.1,a.1.2.2.2.1,a.1.2.2.2.2.1,g8 a.1.2.2.2.2.2.1 b.1,aX a.1.2.2.2.2.2.2.1 (bK a.2.1 (bG .i64 a.2.1 1)::[]),a.1.2.2.2.2.2.2.2.1,a.1.2.2.2.2.2.2.2.2.1,a.1.2.2.2.2.2.2.2.2.2.1,()),ah .i64 a.2.1 1,())))) none)) (aC (aU a.1.2.2.2.2.2.2.1 c.1) (aC (aY (ah .i64 c.1 1) (ah .i64 c.1 1)) (aC (a4 [] a.1.2.2.2.2.2.2.1 8) (am (gj (a.1.2.2.2.2.2.2.2.1,bG .i64 (bK (bK a.2.1 (bG .i64 a.2.1 1)) (bG .i64 (bK a.2.1 (bG .i64 a.2.1 1)) 2)) 4,())) λe=>ad (bI e.2.1) (am (gj (a.1.2.2.2.2.2.2.2.1,bK (bK a.2.1 (bG .i64 a.2.1 1)) (bG .i64 (bK a.2.1 (bG .i64 a.2.1 1)) 2),())) λg=>aC (dx g.1 (ak a.1.2.2.2.2.2.2.2.1) (ak a.1.2.2.2.2.2.2.2.1)) (ad (aY g.1 (ak a.1.2.2.2.2.2.2.2.1)) (aC (a4 a.1.2.2.2.2.2.2.2.1 (bK (bK a.2.1 (bG .i64 a.2.1 1)) (bG .i64 (bK a.2.1 (bG .i64 a.2.1 1)) 2)::[]) 8) (some (.inl ((a.1.1,a.1.2.1,a.1.2.2.1,a.1.2.2.2.1,a.1.2.2.2.2.1,g8 a.1.2.2.2.2.2.1 b.1,g8 a.1.2.2.2.2.2.2.1 c.1,aX a.1.2.2.2.2.2.2.2.1 (bK (bK a.2.1 (bG .i64 a.2.1 1)) (bG .i64 (bK a.2.1 (bG .i64 a.2.1 1)) 2)::[]),a.1.2.2.2.2.2.2.2.2.1,a.1.2.2.2.2.2.2.2.2.2.1,()),ah .i64 a.2.1 1,())))) none)) (am (kD ((a.1.1,a.1.2.1,a.1.2.2.1,a.1.2.2.2.1,a.1.2.2.2.2.1,g8 a.1.2.2.2.2.2.1 b.1::g8 a.1.2.2.2.2.2.2.1 c.1::a.1.2.2.2.2.2.2.2.1::a.1.2.2.2.2.2.2.2.2.1::a.1.2.2.2.2.2.2.2.2.2.1::[],()),bK (bK (bK a.2.1 (bG .i64 a.2.1 1)) (bG .i64 (bK a.2.1 (bG .i64 a.2.1 1)) 2)) (bG .i64 (bK (bK a.2.1 (bG .i64 a.2.1 1)) (bG .i64 (bK a.2.1 (bG .i64 a.2.1 1)) 2)) 4),3,())) λq=>ad (bI q.1) (am (gj (a.1.2.2.2.2.2.2.2.1,bK (bK a.2.1 (bG .i64 a.2.1 1)) (bG .i64 (bK a.2.1 (bG .i64 a.2.1 1)) 2),())) λh=>aC (dx h.1 (ak a.1.2.2.2.2.2.2.2.1) (ak a.1.2.2.2.2.2.2.2.1)) (ad (aY h.1 (ak a.1.2.2.2.2.2.2.2.1)) (aC (a4 a.1.2.2.2.2.2.2.2.1 (bK (bK a.2.1 (bG .i64 a.2.1 1)) (bG .i64 (bK a.2.1 (bG .i64 a.2.1 1)) 2)::[]) 8) (some (.inl ((a.1.1,a.1.2.1,a.1.2.2.1,a.1.2.2.2.1,a.1.2.2.2.2.1,g8 a.1.2.2.2.2.2.1 b.1,g8 a.1.2.2.2.2.2.2.1 c.1,aX a.1.2.2.2.2.2.2.2.1 (bK (bK a.2.1 (bG .i64 a.2.1 1)) (bG .i64 (bK a.2.1 (bG .i64 a.2.1 1)) 2)::[]),a.1.2.2.2.2.2.2.2.2.1,a.1.2.2.2.2.2.2.2.2.2.1,()),ah .i64 a.2.1 1,())))) none)) (aC (aU a.1.2.2.2.2.2.2.2.1 e.1) (aC (aY (ah .i64 e.1 1) (ah .i64 e.1 1)) (aC (a4 [] a.1.2.2.2.2.2.2.2.1 8) (am (gj (a.1.2.2.2.2.2.2.2.2.1,bG .i64 (bK (bK (bK a.2.1 (bG .i64 a.2.1 1)) (bG .i64 (bK a.2.1 (bG .i64 a.2.1 1)) 2)) (bG .i64 (bK (bK a.2.1 (bG .i64 a.2.1 1)) (bG .i64 (bK a.2.1 (bG .i64 a.2.1 1)) 2)) 4)) 8,())) λf=>ad (bI f.2.1) (am (gj (a.1.2.2.2.2.2.2.2.2.1,bK (bK (bK a.2.1 (bG .i64 a.2.1 1)) (bG .i64 (bK a.2.1 (bG .i64 a.2.1 1)) 2)) (bG .i64 (bK (bK a.2.1 (bG .i64 a.2.1 1)) (bG .i64 (bK a.2.1 (bG .i64 a.2.1 1)) 2)) 4),())) λi=>aC (dx i.1 (ak a.1.2.2.2.2.2.2.2.2.1) (ak a.1.2.2.2.2.2.2.2.2.1)) (ad (aY i.1 (ak a.1.2.2.2.2.2.2.2.2.1)) (aC (a4 a.1.2.2.2.2.2.2.2.2.1 (bK (bK (bK a.2.1 (bG .i64 a.2.1 1)) (bG .i64 (bK a.2.1 (bG .i64 a.2.1 1)) 2)) (bG .i64 (bK (bK a.2.1 (bG .i64 a.2.1 1)) (bG .i64 (bK a.2.1 (bG .i64 a.2.1 1)) 2)) 4)::[]) 8) (some (.inl ((a.1.1,a.1.2.1,a.1.2.2.1,a.1.2.2.2.1,a.1.2.2.2.2.1,g8 a.1.2.2.2.2.2.1 b.1,g8 a.1.2.2.2.2.2.2.1 c.1,g8 a.1.2.2.2.2.2.2.2.1 e.1,aX a.1.2.2.2.2.2.2.2.2.1 (bK (bK (bK a.2.1 (bG .i64 a.2.1 1)) (bG .i64 (bK a.2.1 (bG .i64 a.2.1 1)) 2)) (bG .i64 (bK (bK a.2.1 (bG .i64 a.2.1 1)) (bG .i64 (bK a.2.1 (bG .i64 a.2.1 1)) 2)) 4)::[]),a.1.2.2.2.2.2.2.2.2.2.1,()),ah .i64 a.2.1 1,())))) none)) (am (kD ((a.1.1,a.1.2.1,a.1.2.2.1,a.1.2.2.2.1,a.1.2.2.2.2.1,g8 a.1.2.2.2.2.2.1 b.1::g8 a.1.2.2.2.2.2.2.1 c.1::g8 a.1.2.2.2.2.2.2.2.1 e.1::a.1.2.2.2.2.2.2.2.2.1::a.1.2.2.2.2.2.2.2.2.2.1::[],()),bK (bK (bK (bK a.2.1 (bG .i64 a.2.1 1)) (bG .i64 (bK a.2.1 (bG .i64 a.2.1 1)) 2)) (bG .i64 (bK (bK a.2.1 (bG .i64 a.2.1 1)) (bG .i64 (bK a.2.1 (bG .i64 a.2.1 1)) 2)) 4)) (bG .i64 (bK (bK (bK a.2.1 (bG .i64 a.2.1 1)) (bG .i64 (bK a.2.1 (bG .i64 a.2.1 1)) 2)) (bG .i64 (bK (bK a.2.1 (bG .i64 a.2.1 1)) (bG .i64 (bK a.2.1 (bG .i64 a.2.1 1)) 2)) 4)) 8),4,())) λr=>ad (bI r.1) (am (gj (a.1.2.2.2.2.2.2.2.2.1,bK (bK (bK a.2.1 (bG .i64 a.2.1 1)) (bG .i64 (bK a.2.1 (bG .i64 a.2.1 1)) 2)) (bG .i64 (bK (bK a.2.1 (bG .i64 a.2.1 1)) (bG .i64 (bK a.2.1 (bG .i64 a.2.1 1)) 2)) 4),())) λj=>aC (dx j.1 (ak a.1.2.2.2.2.2.2.2.2.1) (ak a.1.2.2.2.2.2.2.2.2.1)) (ad (aY j.1 (ak a.1.2.2.2.2.2.2.2.2.1)) (aC (a4 a.1.2.2.2.2.2.2.2.2.1 (bK (bK (bK a.2.1 (bG .i64 a.2.1 1)) (bG .i64 (bK a.2.1 (bG .i64 a.2.1 1)) 2)) (bG .i64 (bK (bK a.2.1 (bG .i64 a.2.1 1)) (bG .i64 (bK a.2.1 (bG .i64 a.2.1 1)) 2)) 4)::[]) 8) (some (.inl ((a.1.1,a.1.2.1,a.1.2.2.1,a.1.2.2.2.1,a.1.2.2.2.2.1,g8 a.1.2.2.2.2.2.1 b.1,g8 a.1.2.2.2.2.2.2.1 c.1,g8 a.1.2.2.2.2.2.2.2.1 e.1,aX a.1.2.2.2.2.2.2.2.2.1 (bK (bK (bK a.2.1 (bG .i64 a.2.1 1)) (bG .i64 (bK a.2.1 (bG .i64 a.2.1 1)) 2)) (bG .i64 (bK (bK a.2.1 (bG .i64 a.2.1 1)) (bG .i64 (bK a.2.1 (bG .i64 a.2.1 1)) 2)) 4)::[]),a.1.2.2.2.2.2.2.2.2.2.1,()),ah .i64 a.2.1 1,())))) none)) (aC (aU a.1.2.2.2.2.2.2.2.2.1 f.1) (aC (aY (ah .i64 f.1 1) (ah .i64 f.1 1)) (aC (a4 [] a.1.2.2.2.2.2.2.2.2.1 8) (am (gj (a.1.2.2.2.2.2.2.2.2.2.1,bK (bK (bK (bK a.2.1 (bG .i64 a.2.1 1)) (bG .i64 (bK a.2.1 (bG .i64 a.2.1 1)) 2)) (bG .i64 (bK (bK a.2.1 (bG .i64 a.2.1 1)) (bG .i64 (bK a.2.1 (bG .i64 a.2.1 1)) 2)) 4)) (bG .i64 (bK (bK (bK a.2.1 (bG .i64 a.2.1 1)) (bG .i64 (bK a.2.1 (bG .i64 a.2.1 1)) 2)) (bG .i64 (bK (bK a.2.1 (bG .i64 a.2.1 1)) (bG .i64 (bK a.2.1 (bG .i64 a.2.1 1)) 2)) 4)) 8),())) λk=>aC (dx k.1 (ak a.1.2.2.2.2.2.2.2.2.2.1) (ak a.1.2.2.2.2.2.2.2.2.2.1)) (ad (aY k.1 (ak a.1.2.2.2.2.2.2.2.2.2.1)) (aC (a4 a.1.2.2.2.2.2.2.2.2.2.1 (bK (bK (bK (bK a.2.1 (bG .i64 a.2.1 1)) (bG .i64 (bK a.2.1 (bG .i64 a.2.1 1)) 2)) (bG .i64 (bK (bK a.2.1 (bG .i64 a.2.1 1)) (bG .i64 (bK a.2.1 (bG .i64 a.2.1 1)) 2)) 4)) (bG .i64 (bK (bK (bK a.2.1 (bG .i64 a.2.1 1)) (bG .i64 (bK a.2.1 (bG .i64 a.2.1 1)) 2)) (bG .i64 (bK (bK a.2.1 (bG .i64 a.2.1 1)) (bG .i64 (bK a.2.1 (bG .i64 a.2.1 1)) 2)) 4)) 8)::[]) 8) (some (.inl ((a.1.1,a.1.2.1,a.1.2.2.1,a.1.2.2.2.1,a.1.2.2.2.2.1,g8 a.1.2.2.2.2.2.1 b.1,g8 a.1.2.2.2.2.2.2.1 c.1,g8 a.1.2.2.2.2.2.2.2.1 e.1,g8 a.1.2.2.2.2.2.2.2.2.1 f.1,aX a.1.2.2.2.2.2.2.2.2.2.1 (bK (bK (bK (bK a.2.1 (bG .i64 a.2.1 1)) (bG .i64 (bK a.2.1 (bG .i64 a.2.1 1)) 2)) (bG .i64 (bK (bK a.2.1 (bG .i64 a.2.1 1)) (bG .i64 (bK a.2.1 (bG .i64 a.2.1 1)) 2)) 4)) (bG .i64 (bK (bK (bK a.2.1 (bG .i64 a.2.1 1)) (bG .i64 (bK a.2.1 (bG .i64 a.2.1 1)) 2)) (bG .i64 (bK (bK a.2.1 (bG .i64 a.2.1 1)) (bG .i64 (bK a.2.1 (bG .i64 a.2.1 1)) 2)) 4)) 8)::[]),()),ah .i64 a.2.1 1,())))) none)))))))))))))))))))))) (ao (some (.inl (a.1,()))))) 1000000000 ((x.1,x.2.1,x.2.2.1,x.2.2.2.1,x.2.2.2.2.1,[],[],[],[],[],()),x.2.2.1,())) λd=>some ((d.1.1,d.1.2.1,d.1.2.2.1,d.1.2.2.2.1,d.1.2.2.2.2.1,d.1.2.2.2.2.2.1::d.1.2.2.2.2.2.2.1::d.1.2.2.2.2.2.2.2.1::d.1.2.2.2.2.2.2.2.2.1::d.1.2.2.2.2.2.2.2.2.2.1::[],()),0,()))
def aaj:=kB dX Y3 126 Tryz.f126 (hs [(0,[.bE 10,.box 12 b2]),(1,kp [2,3,10] [.box 12 b2,.val 13 iT])]) IC
def D7(x:D iU):Option (D (.ai fA iU)):=ad (ay x.1 1) (some (([],()),1,())) (ad (ay 6 x.1) (some (([],()),1,())) (aC (gw x.1 x.1 24) (some ((eh x.1 [],()),0,()))))
def aai:=kB dX aaj 127 Tryz.f127 Tr.e D7
def HY(x:D (.ai lI (.ai iT (.ai iT (.ai zQ .un))))):Option (D (.ai de iU)):=aC (a4 [] x.1 8) (aC (gw (ak x.2.2.2.1) (ak x.2.2.2.1) 160) (am (B4 ((aX [] x.1,x.2.1,x.2.2.1,eh (ak x.2.2.2.1) (0,0,0,0,0,[]::[]::[]::[]::[]::[],()),[],()),())) λf=>ad (bI f.1) (some (([],0,0,[],[],()),2,())) (aE (aF (α:=D (.ai (.ai de .un) (.ai de cQ))) (λa=>ad (ay a.2.2.2.1 (ak x.2.2.2.1)) (am (az x.2.2.2.1 a.2.2.2.1) λc=>am (IC (c.1,c.2.1,a.2.2.1,c.2.2.1,c.2.2.2.1,())) λd=>ad (bF d.2.1 0) (ao (ao (some (([],0,0,[],[],()),d.2.1,())))) (aC (aU a.2.1.2.2.2.1 a.2.2.2.1) (am (az a.2.1.2.2.2.1 a.2.2.2.1) λi=>some (.inl ((a.1.1,()),(a.2.1.1,a.2.1.2.1,a.2.1.2.2.1,aG a.2.1.2.2.2.1 a.2.2.2.1 d.1,a.2.1.2.2.2.2.1,()),ah .i64 a.2.2.1 c.2.2.1,ah .i64 a.2.2.2.1 1,()))))) (ao (some (.inl ((a.1.1,()),a.2.1,()))))) 1000000000 ((([],0,0,[],[],()),()),(aX [] x.1,x.2.1,x.2.2.1,eh (ak x.2.2.2.1) (0,0,0,0,0,[]::[]::[]::[]::[]::[],()),[],()),0,0,())) λg=>aE (aF (α:=D (.ai de iU)) (λb=>ad (ay b.2.1 (ak x.1)) (am (D7 (ak x.2.2.2.1,())) λe=>aC (a4 b.1.2.2.2.2.1 ((e.1.1,())::[]) 24) (some (.inl ((b.1.1,b.1.2.1,b.1.2.2.1,b.1.2.2.2.1,aX b.1.2.2.2.2.1 ((e.1.1,())::[]),()),ah .i64 b.2.1 1,())))) (ao (some (.inl (b.1,()))))) 1000000000 (g.2.1,0,())) λh=>some (h.1,0,()))))
def k45:=kB dX aai 45 Tryz.f45 (hs [(0,kp [0,3] [.box 8 [.v de],.box 10 b0]),(1,kp [0,3] (.box 8 [.v de]:: .box 10 b0:: .val 11 iT::kp [30,31] [.val 32 iT])),(4,[.bE 8,.box 10 b0]),(5,kp [3,8] [.box 10 b0,.bE 65,.val 66 iT])]) HY
def sI(x:D (.ai eI .un)):Option (D iU):=am (qs (x.1,())) λu0=>ad (bI u0.1) (some (2,())) (aE (aF (λf=>ad (ay f.1 (ak (bs [] x.1.2.2.2.2.2.1 0))) (am (az (bs [] x.1.2.2.2.2.2.1 0) f.1) λA=>am (kD (x.1,A,0,())) λm0=>ad (bI m0.1) (ao (ao (some (3,())))) (ad (ay 0 f.1) (am (az (bs [] x.1.2.2.2.2.2.1 0) (bb .i64 f.1 1)) λg0=>ad (cH A g0) (ao (ao (some (10,())))) (some (.inl (ah .i64 f.1 1,())))) (some (.inl (ah .i64 f.1 1,()))))) (ao (some (.inl ())))) 1000000000 (0,())) λb9=>aE (aF (λj=>ad (ay j.1 (ak (bs [] x.1.2.2.2.2.2.1 1))) (am (az (bs [] x.1.2.2.2.2.2.1 1) j.1) λv0=>am (kD (x.1,v0,1,())) λm9=>ad (bI m9.1) (ao (ao (some (3,())))) (ad (ay 0 j.1) (am (az (bs [] x.1.2.2.2.2.2.1 1) (bb .i64 j.1 1)) λj9=>ad (cH v0 j9) (ao (ao (some (10,())))) (some (.inl (ah .i64 j.1 1,())))) (some (.inl (ah .i64 j.1 1,()))))) (ao (some (.inl ())))) 1000000000 (0,())) λi9=>aE (aF (λg=>ad (ay g.1 (ak (bs [] x.1.2.2.2.2.2.1 2))) (am (az (bs [] x.1.2.2.2.2.2.1 2) g.1) λy=>am (kD (x.1,y,2,())) λt0=>ad (bI t0.1) (ao (ao (some (3,())))) (ad (ay 0 g.1) (am (az (bs [] x.1.2.2.2.2.2.1 2) (bb .i64 g.1 1)) λs0=>ad (cH y s0) (ao (ao (some (10,())))) (some (.inl (ah .i64 g.1 1,())))) (some (.inl (ah .i64 g.1 1,()))))) (ao (some (.inl ())))) 1000000000 (0,())) λh9=>aE (aF (λh=>ad (ay h.1 (ak (bs [] x.1.2.2.2.2.2.1 3))) (am (az (bs [] x.1.2.2.2.2.2.1 3) h.1) λz=>am (kD (x.1,z,3,())) λr0=>ad (bI r0.1) (ao (ao (some (3,())))) (ad (ay 0 h.1) (am (az (bs [] x.1.2.2.2.2.2.1 3) (bb .i64 h.1 1)) λq0=>ad (cH z q0) (ao (ao (some (10,())))) (some (.inl (ah .i64 h.1 1,())))) (some (.inl (ah .i64 h.1 1,()))))) (ao (some (.inl ())))) 1000000000 (0,())) λg9=>aE (aF (λi=>ad (ay i.1 (ak (bs [] x.1.2.2.2.2.2.1 4))) (am (az (bs [] x.1.2.2.2.2.2.1 4) i.1) λB=>am (kD (x.1,B,4,())) λp0=>ad (bI p0.1) (ao (ao (some (3,())))) (ad (ay 0 i.1) (am (az (bs [] x.1.2.2.2.2.2.1 4) (bb .i64 i.1 1)) λo0=>ad (cH B o0) (ao (ao (some (10,())))) (some (.inl (ah .i64 i.1 1,())))) (some (.inl (ah .i64 i.1 1,()))))) (ao (some (.inl ())))) 1000000000 (0,())) λf9=>aE (aF (λk=>ad (ay k.2.1 (ak (bs [] x.1.2.2.2.2.2.1 0))) (aE (am (az (bs [] x.1.2.2.2.2.2.1 0) k.2.1) λC=>aE (aF (λa=>ad (ay a.2.1 (ah .i64 C 1)) (aC (cR a.2.1) (aC (ay a.2.1 256) (am (az a.1.1 a.2.1) λn0=>ad n0 (ao (ao (ao (ao (ao (some (7,()))))))) (aC (cR a.2.1) (aC (ay a.2.1 256) (am (az a.1.1 a.2.1) λe9=>some (.inl ((aG a.1.1 a.2.1 true,()),ah .i64 a.2.1 1,())))))))) (ao (some (.inl ((a.1.1,()),()))))) 1000000000 ((k.1.1,()),C,())) λl0=>some (.inl ((l0.1.1,()),()))) λk0=>some (.inl ((k0.1.1,()),ah .i64 k.2.1 1,()))) (ao (some (.inl ((k.1.1,()),()))))) 1000000000 ((List.replicate 256 false,()),0,())) λj0=>aE (aF (λl=>ad (ay l.2.1 (ak (bs [] x.1.2.2.2.2.2.1 1))) (aE (am (az (bs [] x.1.2.2.2.2.2.1 1) l.2.1) λz0=>aE (aF (λb=>ad (ay b.2.1 (ah .i64 z0 2)) (aC (cR b.2.1) (aC (ay b.2.1 256) (am (az b.1.1 b.2.1) λi0=>ad i0 (ao (ao (ao (ao (ao (some (7,()))))))) (aC (cR b.2.1) (aC (ay b.2.1 256) (am (az b.1.1 b.2.1) λd9=>some (.inl ((aG b.1.1 b.2.1 true,()),ah .i64 b.2.1 1,())))))))) (ao (some (.inl ((b.1.1,()),()))))) 1000000000 ((l.1.1,()),z0,())) λh0=>some (.inl ((h0.1.1,()),()))) λf0=>some (.inl ((f0.1.1,()),ah .i64 l.2.1 1,()))) (ao (some (.inl ((l.1.1,()),()))))) 1000000000 ((j0.1.1,()),0,())) λe0=>aE (aF (λm=>ad (ay m.2.1 (ak (bs [] x.1.2.2.2.2.2.1 2))) (aE (am (az (bs [] x.1.2.2.2.2.2.1 2) m.2.1) λy0=>aE (aF (λc=>ad (ay c.2.1 (ah .i64 y0 4)) (aC (cR c.2.1) (aC (ay c.2.1 256) (am (az c.1.1 c.2.1) λd0=>ad d0 (ao (ao (ao (ao (ao (some (7,()))))))) (aC (cR c.2.1) (aC (ay c.2.1 256) (am (az c.1.1 c.2.1) λc9=>some (.inl ((aG c.1.1 c.2.1 true,()),ah .i64 c.2.1 1,())))))))) (ao (some (.inl ((c.1.1,()),()))))) 1000000000 ((m.1.1,()),y0,())) λc0=>some (.inl ((c0.1.1,()),()))) λb0=>some (.inl ((b0.1.1,()),ah .i64 m.2.1 1,()))) (ao (some (.inl ((m.1.1,()),()))))) 1000000000 ((e0.1.1,()),0,())) λa0=>aE (aF (λn=>ad (ay n.2.1 (ak (bs [] x.1.2.2.2.2.2.1 3))) (aE (am (az (bs [] x.1.2.2.2.2.2.1 3) n.2.1) λx0=>aE (aF (λd=>ad (ay d.2.1 (ah .i64 x0 8)) (aC (cR d.2.1) (aC (ay d.2.1 256) (am (az d.1.1 d.2.1) λz9=>ad z9 (ao (ao (ao (ao (ao (some (7,()))))))) (aC (cR d.2.1) (aC (ay d.2.1 256) (am (az d.1.1 d.2.1) λa9=>some (.inl ((aG d.1.1 d.2.1 true,()),ah .i64 d.2.1 1,())))))))) (ao (some (.inl ((d.1.1,()),()))))) 1000000000 ((n.1.1,()),x0,())) λy9=>some (.inl ((y9.1.1,()),()))) λx9=>some (.inl ((x9.1.1,()),ah .i64 n.2.1 1,()))) (ao (some (.inl ((n.1.1,()),()))))) 1000000000 ((a0.1.1,()),0,())) λw9=>aE (aF (λo=>ad (ay o.2.1 (ak (bs [] x.1.2.2.2.2.2.1 4))) (aE (am (az (bs [] x.1.2.2.2.2.2.1 4) o.2.1) λw0=>aE (aF (λe=>ad (ay e.2.1 (ah .i64 w0 16)) (aC (cR e.2.1) (aC (ay e.2.1 256) (am (az e.1.1 e.2.1) λv9=>ad v9 (ao (ao (ao (ao (ao (some (7,()))))))) (aC (cR e.2.1) (aC (ay e.2.1 256) (am (az e.1.1 e.2.1) λx62=>some (.inl ((aG e.1.1 e.2.1 true,()),ah .i64 e.2.1 1,())))))))) (ao (some (.inl ((e.1.1,()),()))))) 1000000000 ((o.1.1,()),w0,())) λu9=>some (.inl ((u9.1.1,()),()))) λt9=>some (.inl ((t9.1.1,()),ah .i64 o.2.1 1,()))) (ao (some (.inl ((o.1.1,()),()))))) 1000000000 ((w9.1.1,()),0,())) λx65=>aE (aF (λp=>ad (ay p.1 (ak (bs [] x.1.2.2.2.2.2.1 0))) (am (az (bs [] x.1.2.2.2.2.2.1 0) p.1) λt=>am (gj (bs [] x.1.2.2.2.2.2.1 0,bG .i64 t 1,())) λs9=>ad s9.2.1 (am (kD (x.1,bK t (bG .i64 t 1),1,())) λr9=>ad r9.1 (ao (ao (some (11,())))) (some (.inl (ah .i64 p.1 1,())))) (some (.inl (ah .i64 p.1 1,())))) (ao (some (.inl ())))) 1000000000 (0,())) λx70=>aE (aF (λq=>ad (ay q.1 (ak (bs [] x.1.2.2.2.2.2.1 1))) (am (az (bs [] x.1.2.2.2.2.2.1 1) q.1) λu=>am (gj (bs [] x.1.2.2.2.2.2.1 1,bG .i64 u 2,())) λq9=>ad q9.2.1 (am (kD (x.1,bK u (bG .i64 u 2),2,())) λp9=>ad p9.1 (ao (ao (some (11,())))) (some (.inl (ah .i64 q.1 1,())))) (some (.inl (ah .i64 q.1 1,())))) (ao (some (.inl ())))) 1000000000 (0,())) λx75=>aE (aF (λr=>ad (ay r.1 (ak (bs [] x.1.2.2.2.2.2.1 2))) (am (az (bs [] x.1.2.2.2.2.2.1 2) r.1) λv=>am (gj (bs [] x.1.2.2.2.2.2.1 2,bG .i64 v 4,())) λo9=>ad o9.2.1 (am (kD (x.1,bK v (bG .i64 v 4),3,())) λn9=>ad n9.1 (ao (ao (some (11,())))) (some (.inl (ah .i64 r.1 1,())))) (some (.inl (ah .i64 r.1 1,())))) (ao (some (.inl ())))) 1000000000 (0,())) λx80=>aE (aF (λs=>ad (ay s.1 (ak (bs [] x.1.2.2.2.2.2.1 3))) (am (az (bs [] x.1.2.2.2.2.2.1 3) s.1) λw=>am (gj (bs [] x.1.2.2.2.2.2.1 3,bG .i64 w 8,())) λl9=>ad l9.2.1 (am (kD (x.1,bK w (bG .i64 w 8),4,())) λk9=>ad k9.1 (ao (ao (some (11,())))) (some (.inl (ah .i64 s.1 1,())))) (some (.inl (ah .i64 s.1 1,())))) (ao (some (.inl ())))) 1000000000 (0,())) λx85=>some (0,()))
def ZA:=kB dX k45 190 Tryz.f190 (hs [(4,kp [1,23,24] []),(5,kp [1,3,4,23,24,28,29] [.val 30 iT]),(12,.bE 1:: .box 7 b3::kp [54,55] []),(13,.bE 1:: .box 7 b3::kp [8,54,55,59,60] [.val 61 iT]),(14,.bE 1:: .box 7 b3::kp [8,54,55,59,60,61] []),(16,.bE 1:: .box 7 b3::kp [8,54,55,59,60,61] []),(17,.bE 1:: .box 7 b3::kp [8,11] (.val 12 iT::kp [54,55,59,60,61] [])),(24,kp [1,81] []),(25,kp [1,13,81,87,88] [.val 89 iT])]) sI
def H5(x:D iU):Option (D bU):=ad (cH 0 x.1) (some (ay x.1 256,())) (some (false,()))
def Y2:=kB dX ZA 235 Tryz.f235 Tr.e H5
def yU(x:D (.ai fA iU)):Option (D iU):=ad (ay x.2.1 1) (some (1,())) (ad (ay 6 x.2.1) (some (1,())) (ad (bF (ak x.1.1) x.2.1) (some (3,())) (aE (aF (λa=>ad (ay a.2.1 (ak x.1.1)) (aE (am (az x.1.1 a.2.1) λe=>aE (aF (λd=>ad (ay d.1 (ak e)) (am (az e d.1) λk=>am (H5 (k,())) λl=>ad (bI l.1) (ao (ao (ao (ao (ao (some (2,()))))))) (some (.inl (ah .i64 d.1 1,())))) (ao (some (.inl ())))) 1000000000 (0,())) λo=>some (.inl (ah .i64 a.1 (ak e),()))) λm=>some (.inl (m.1,ah .i64 a.2.1 1,()))) (ao (some (.inl (a.1,()))))) 1000000000 (0,0,())) λn=>aE (aF (λc=>ad (ay c.2.1 (ak x.1.1)) (aE (am (az x.1.1 c.2.1) λf=>aE (aF (λb=>ad (ay b.2.1 (ak f)) (am (az f b.2.1) λg=>some (.inl (m6 b.1 g true,ah .i64 b.2.1 1,()))) (ao (some (.inl (b.1,()))))) 1000000000 (c.1,0,())) λh=>some (.inl (h.1,()))) λi=>some (.inl (i.1,ah .i64 c.2.1 1,()))) (ao (some (.inl (c.1,()))))) 1000000000 ([],0,())) λj=>ad (bF (ak j.1) n.1) (some (7,())) (some (0,())))))
def Zz:=kB dX Y2 191 Tryz.f191 (hs [(0,[.bE 2,.val 5 iT]),(1,.bE 2:: .val 5 iT::kp [22,23] [.val 24 iT]),(2,.bE 2:: .val 5 iT::kp [22,23,24] []),(4,kp [2,5,7,22,23,24] []),(5,kp [2,5,7,22,23,24,28,29] [.val 30 iT])]) yU
def D3(x:D (.ai de iU)):Option (D iU):=aE (aF (λa=>ad (ay a.1 (ak x.1.2.2.2.1)) (am (az x.1.2.2.2.1 a.1) λb=>ad (cH b.2.2.1 x.2.1) (ad (ay x.2.1 (ah .i64 b.2.2.1 b.2.2.2.1)) (ao (ao (some (a.1,())))) (some (.inl (ah .i64 a.1 1,())))) (some (.inl (ah .i64 a.1 1,())))) (ao (some (.inl ())))) 1000000000 (0,())) λc=>some (-1,())
def Zy:=kB dX Zz 192 Tryz.f192 Tr.e D3
def DW(x:D (.ai eI iU)):Option (D cQ):=am (gj (bs [] x.1.2.2.2.2.2.1 0,jj .i64 x.2.1 0,())) λa=>ad a.2.1 (some (0,jj .i64 x.2.1 0,())) (am (gj (bs [] x.1.2.2.2.2.2.1 1,jj .i64 x.2.1 1,())) λb=>ad b.2.1 (some (1,jj .i64 x.2.1 1,())) (am (gj (bs [] x.1.2.2.2.2.2.1 2,jj .i64 x.2.1 3,())) λc=>ad c.2.1 (some (2,jj .i64 x.2.1 3,())) (am (gj (bs [] x.1.2.2.2.2.2.1 3,jj .i64 x.2.1 7,())) λd=>ad d.2.1 (some (3,jj .i64 x.2.1 7,())) (am (gj (bs [] x.1.2.2.2.2.2.1 4,jj .i64 x.2.1 15,())) λe=>ad e.2.1 (some (4,jj .i64 x.2.1 15,())) (some (-1,0,()))))))
def Y1:=kB dX Zy 239 Tryz.f239 Tr.e DW
def D2(x:D (.ai eI iU)):Option (D bU):=am (sI (x.1,())) λa=>ad (bF a.1 0) (some (false,())) (am (kD (x.1,x.2.1,0,())) λb=>ad (bI b.1) (some (false,())) (am (DW (x.1,x.2.1,())) λc=>some (cH 0 c.1,())))
def Zx:=kB dX Y1 193 Tryz.f193 Tr.e D2
def tY(x:D (.ai de .un)):Option (D iU):=am (B4 (x.1,())) λn=>ad (bI n.1) (some (2,())) (aE (aF (λc=>ad (ay c.2.1 (ak x.1.2.2.2.1)) (am (az x.1.2.2.2.1 c.2.1) λh=>am (sI (h,())) λl=>ad (bF l.1 0) (ao (ao (some (l.1,())))) (ad (bF h.2.2.1 c.1) (ao (ao (some (10,())))) (some (.inl (ah .i64 c.1 h.2.2.2.1,ah .i64 c.2.1 1,()))))) (ao (some (.inl ())))) 1000000000 (0,0,())) λB=>ad (bF (ak x.1.2.2.2.2.1) (ak x.1.1)) (some (3,())) (aE (aF (λf=>ad (ay f.1 (ak x.1.2.2.2.2.1)) (aE (am (az x.1.2.2.2.2.1 f.1) λi=>am (yU ((i.1,()),ak x.1.2.2.2.1,())) λm=>ad (bF m.1 0) (ao (ao (ao (some (m.1,()))))) (aE (aF (λg=>ad (ay g.1 (ak i.1)) (am (az i.1 g.1) λv=>ad (ay x.1.2.2.1 (ak v)) (ao (ao (ao (ao (ao (some (9,()))))))) (some (.inl (ah .i64 g.1 1,())))) (ao (some (.inl ())))) 1000000000 (0,())) λw=>some (.inl ()))) λy=>some (.inl (ah .i64 f.1 1,()))) (ao (some (.inl ())))) 1000000000 (0,())) λz=>aE (aF (λd=>ad (ay d.2.1 (ak x.1.2.2.2.2.1)) (aE (am (az x.1.2.2.2.2.1 d.2.1) λj=>aE (aF (λa=>ad (ay a.2.1 (ak j.1)) (aE (am (az j.1 a.2.1) λk=>aE (aF (λb=>ad (ay b.2.1 (ak k)) (am (az k b.2.1) λe=>am (D3 (x.1,e,())) λo=>ad (bF o.1 a.2.1) (ao (ao (ao (ao (ao (ao (ao (ao (some (2,())))))))))) (ad (ri b.1 e) (ao (ao (ao (ao (ao (ao (ao (ao (some (7,())))))))))) (am (az x.1.2.2.2.1 a.2.1) λp=>am (D2 (p,e,())) λq=>ad q.1 (ao (ao (ao (ao (ao (ao (ao (ao (some (7,())))))))))) (some (.inl (m6 b.1 e true,ah .i64 b.2.1 1,())))))) (ao (some (.inl (b.1,()))))) 1000000000 (a.1,0,())) λr=>some (.inl (r.1,()))) λs=>some (.inl (s.1,ah .i64 a.2.1 1,()))) (ao (some (.inl (a.1,()))))) 1000000000 (d.1,0,())) λt=>some (.inl (t.1,()))) λu=>some (.inl (u.1,ah .i64 d.2.1 1,()))) (ao (some (.inl (d.1,()))))) 1000000000 ([],0,())) λA=>some (0,())))
def aah:=kB dX Zx 128 Tryz.f128 (hs [(0,[.bE 1]),(1,.bE 1:: .val 3 iT::kp [23,24] [.val 25 iT]),(4,[.bE 1]),(5,kp [1,51,52] [.val 53 iT]),(6,kp [1,51,52,53] []),(8,kp [1,51,52,53] []),(9,kp [1,51,52,53,66,67] [.val 68 iT]),(12,[.mp 12]),(13,.bE 1:: .mp 12::kp [81,82] [.val 83 iT]),(14,.bE 1:: .mp 12::kp [81,82,83] []),(16,.bE 1:: .mp 12::kp [81,82,83] []),(17,.bE 1:: .mp 12::kp [81,82,83,88,89] [.val 90 iT]),(18,.bE 1:: .mp 12::kp [81,82,83,88,89,90] []),(20,.bE 1:: .mp 12::kp [81,82,83,88,89,90] []),(21,.bE 1:: .mp 12::kp [15,81,82,83,88,89,90,95,96] [.val 97 iT])]) tY
def HX(x:D (.ai de .un)):Option (D iU):=am (tY (x.1,())) λb=>ad (bF b.1 0) (some (0,())) (am (az x.1.2.2.2.1 (bb .i64 (ak x.1.2.2.2.1) 1)) λa=>some (ah .i64 a.2.2.1 a.2.2.2.1,()))
def k46:=kB dX aah 46 Tryz.f46 Tr.e HX
def F47(x:D .un):Option (D (.ai yo .un)):=some ((0,0,-1,-1,-1,-1,-1,-1,-1,0,false,false,false,0,[],[],()),())
def k47:=kB dX k46 47 Tryz.f47 Tr.e F47
def FL(x:D iU):Option (D (.ai yq iU)):=ad (ay x.1 1) (some ((0,[],()),1,())) (ad (ay 32 x.1) (some ((0,[],()),1,())) (some ((x.1,[],()),0,())))
def k48:=kB dX k47 48 Tryz.f48 Tr.e FL
def FK(x:D .un):Option (D fA):=aC (gw 4 4 24) (some (eh 4 [],()))
def k50:=kB dX k48 50 Tryz.f50 Tr.e FK
def BM(x:D iU):Option (D (.ai sY iU)):=ad (ay x.1 0) (some ([],2,())) (ad (ay 64 x.1) (some ([],2,())) (aC (gw x.1 x.1 16) (some (eh x.1 (0,0,()),0,()))))
def k51:=kB dX k50 51 Tryz.f51 Tr.e BM
def FJ(x:D iU):Option (D (.ai yp iU)):=ad (ay x.1 0) (some ((0,[],()),2,())) (ad (ay 32 x.1) (some ((0,[],()),2,())) (some ((x.1,[],()),0,())))
def k52:=kB dX k51 52 Tryz.f52 Tr.e FJ
def VG(x:D .un):Option (D (.ai jP .un)):=some ((0,false,()),())
def aag:=kB dX k52 129 Tryz.f129 Tr.e VG
def Iz(x:D (.ai (.bw .bool) .un)):Option (D cQ):=ad (ay 16 (ak x.1)) (some (0,9,())) (aE (aF (λa=>ad (ay a.2.1 (ak x.1)) (am (az x.1 a.2.1) λb=>ad b (aC (cR a.2.1) (some (.inl (Pd .i64 a.1 (fj .i64 1 a.2.1),ah .i64 a.2.1 1,())))) (some (.inl (a.1,ah .i64 a.2.1 1,())))) (ao (some (.inl (a.1,()))))) 1000000000 (0,0,())) λc=>some (c.1,0,()))
def aaf:=kB dX aag 130 Tryz.f130 (hs [(0,[.val 4 iT]),(1,.val 4 iT::kp [10,11] [.val 12 iT])]) Iz
def VD(x:D cQ):Option (D bU):=ad (cH 0 x.1) (aC (cR x.2.1) (some (ay x.1 (fj .i64 1 x.2.1),()))) (some (false,()))
def Zw:=kB dX aaf 194 Tryz.f194 Tr.e VD
def Iw(x:D cQ):Option (D (.ai (.bw (.int .u8)) iU)):=am (Io (x.1,())) λb=>ad (bI b.1) (some ([],2,())) (am (VD (x.2.1,x.1,())) λc=>ad (bI c.1) (some ([],3,())) (aC (gw 32 32 1) (aC (cH (ak (73::78::79::68::[])) (ak (eh 32 0))) (aC (aU (dR (eh 32 0) (73::78::79::68::[])) 4) (am (az (dR (eh 32 0) (73::78::79::68::[])) 4) λf=>aC (aU (aG (dR (eh 32 0) (73::78::79::68::[])) 4 (ee .u8 x.1)) 5) (am (az (aG (dR (eh 32 0) (73::78::79::68::[])) 4 (ee .u8 x.1)) 5) λg=>aC (aU (aG (aG (dR (eh 32 0) (73::78::79::68::[])) 4 (ee .u8 x.1)) 5 (ee .u8 x.2.1)) 6) (am (az (aG (aG (dR (eh 32 0) (73::78::79::68::[])) 4 (ee .u8 x.1)) 5 (ee .u8 x.2.1)) 6) λh=>aC (dx 0 7 (ak (aG (aG (aG (dR (eh 32 0) (73::78::79::68::[])) 4 (ee .u8 x.1)) 5 (ee .u8 x.2.1)) 6 (ee .u8 (qW .i64 x.2.1 8))))) (aE (aF (λa=>ad (ay a.2.1 7) (aC (aU (eS (aG (aG (aG (dR (eh 32 0) (73::78::79::68::[])) 4 (ee .u8 x.1)) 5 (ee .u8 x.2.1)) 6 (ee .u8 (qW .i64 x.2.1 8))) 0 7) a.2.1) (am (az (aG (aG (aG (dR (eh 32 0) (73::78::79::68::[])) 4 (ee .u8 x.1)) 5 (ee .u8 x.2.1)) 6 (ee .u8 (qW .i64 x.2.1 8))) a.2.1) λd=>some (.inl (ah .i64 a.1 (ee .i64 d),ah .i64 a.2.1 1,())))) (ao (some (.inl (a.1,()))))) 1000000000 (0,0,())) λe=>aC (aU (aG (aG (aG (dR (eh 32 0) (73::78::79::68::[])) 4 (ee .u8 x.1)) 5 (ee .u8 x.2.1)) 6 (ee .u8 (qW .i64 x.2.1 8))) 7) (am (az (aG (aG (aG (dR (eh 32 0) (73::78::79::68::[])) 4 (ee .u8 x.1)) 5 (ee .u8 x.2.1)) 6 (ee .u8 (qW .i64 x.2.1 8))) 7) λi=>some (aG (aG (aG (aG (dR (eh 32 0) (73::78::79::68::[])) 4 (ee .u8 x.1)) 5 (ee .u8 x.2.1)) 6 (ee .u8 (qW .i64 x.2.1 8))) 7 (ee .u8 (lf .i64 e.1 251)),0,()))))))))))
def aae:=kB dX Zw 131 Tryz.f131 (hs [(0,[.bE 6,.val 7 iT]),(1,.bE 6:: .val 7 iT::kp [34,35] [.val 36 iT])]) Iw
def Kw(x:D (.ai ce .un)):Option (D (.ai CI (.ai (.bw (.bw (.int .u8))) .un))):=am (FN (x.1,())) λf=>am (az f.1 (bb .i64 (ak f.1) 1)) λg=>aC (gw g g 24) (aE (aF (λd=>ad (ay d.2.1 (ak (eh (α:=List Int) g []))) (aC (gw 32 32 1) (aC (aU d.1 d.2.1) (aC (aU d.1 d.2.1) (some (.inl (aG d.1 d.2.1 (eh 32 0),ah .i64 d.2.1 1,())))))) (ao (some (.inl (d.1,()))))) 1000000000 (eh (α:=List Int) g [],0,())) λp=>aE (aF (λb=>ad (ay b.2.2.1 (ak x.1.2.2.2.2.2.2.2.2.2.2.1)) (aE (am (az x.1.2.2.2.2.2.2.2.2.2.2.1 b.2.2.1) λc=>am (az f.1 b.2.2.1) λq=>am (VG ()) λr=>aC (gw c.1 c.1 1) (aE (aF (λa=>ad (ay a.2.2.1 (oI .i64 (ak c.2.1) 32)) (aC (aU a.2.1.2.2.2.2.2.2.2.2.1 a.2.2.1) (am (az a.2.1.2.2.2.2.2.2.2.2.1 a.2.2.1) λs=>am (az f.1 b.2.2.1) λh=>aC (aU a.1 (ah .i64 (ah .i64 h 1) a.2.2.1)) (aC (aU a.1 (ah .i64 (ah .i64 h 1) a.2.2.1)) (aC (dx (ea .i64 a.2.2.1 32) (ak c.2.1) (ak c.2.1)) (am (az a.1 (ah .i64 (ah .i64 h 1) a.2.2.1)) λl=>some (.inl (aG a.1 (ah .i64 (ah .i64 h 1) a.2.2.1) (dR l (eS c.2.1 (ea .i64 a.2.2.1 32) (ak c.2.1))),(a.2.1.1,a.2.1.2.1,a.2.1.2.2.1,a.2.1.2.2.2.1,a.2.1.2.2.2.2.1,a.2.1.2.2.2.2.2.1,a.2.1.2.2.2.2.2.2.1,a.2.1.2.2.2.2.2.2.2.1,aG a.2.1.2.2.2.2.2.2.2.2.1 a.2.2.1 true,()),ah .i64 a.2.2.1 1,()))))))) (ao (some (.inl (a.1,a.2.1,()))))) 1000000000 (b.1,(c.1,oI .i64 (ak c.2.1) 32,q,-1,-1,false,r.1,(0,(0::0::0::0::0::0::0::0::[],0::0::[],(),()),()),eh c.1 false,()),0,())) λe=>am (Iz (e.2.1.2.2.2.2.2.2.2.2.1,())) λm=>am (Iw (e.2.1.2.1,m.1,())) λn=>am (az f.1 b.2.2.1) λi=>aC (aU e.1 i) (aC (aU e.1 i) (am (az e.1 i) λo=>aC (a4 b.2.1 (e.2.1::[]) 200) (some (.inl (aG e.1 i (dR o n.1),aX b.2.1 (e.2.1::[]),()))))))) λj=>some (.inl (j.1,j.2.1,ah .i64 b.2.2.1 1,()))) (ao (some (.inl (b.1,b.2.1,()))))) 1000000000 (p.1,[],0,())) λk=>some (k.2.1,k.1,()))
def k53:=kB dX aae 53 Tryz.f53 (hs [(0,kp [1,4] [.lP 5 (.int .u8)]),(1,kp [1,4] [.lP 5 (.int .u8),.bE 26,.val 27 iT]),(4,[.lP 5 (.int .u8),.own 7 k5]),(5,.bE 4:: .lP 5 (.int .u8):: .own 7 k5::kp [36,37] [.val 38 iT]),(6,.bE 4:: .lP 5 (.int .u8):: .own 7 k5::kp [36,37,38] []),(8,.bE 4:: .lP 5 (.int .u8)::kp [7,8] (.box 10 b4::kp [36,37,38] [])),(9,.bE 4:: .lP 5 (.int .u8)::kp [7,8,9] (.box 10 b4::kp [36,37,38,59] [.val 60 iT]))]) Kw
def Ik(x:D (.ai (.bw (.int .u8)) .un)):Option (D bU):=some (aY (ak x.1) 32,())
def U4:=kB dX k53 195 Tryz.f195 Tr.e Ik
def U9:Tr (List Hi):=Tr.e
def VC(x:D (.ai mJ (.ai Ee .un))):Option (D iU):=E8 (uD U4.1 dX) 1000 (.ai mJ (.ai Ee .un)) iU U9 Tryz.f196 x
def Zv:=kB dX U4 196 Tryz.f196 U9 VC (hF:=λx=>rfl)
def MN(x:D (.ai mJ .un)):Option (D iU):=ad (ay x.1.1 1) (some (2,())) (ad (ay 16 x.1.1) (some (2,())) (ad (ay x.1.2.1 0) (some (2,())) (ad (ay 1099511627776 x.1.2.1) (some (2,())) (ad (ay (ak x.1.2.2.1) 1) (some (2,())) (ad (ay 256 (ak x.1.2.2.1)) (some (2,())) (aE (aF (λd=>ad (ay d.1 (ak x.1.2.2.1)) (am (az x.1.2.2.1 d.1) λh=>am (Ik (h,())) λi=>ad (bI i.1) (ao (ao (some (3,())))) (some (.inl (ah .i64 d.1 1,())))) (ao (some (.inl ())))) 1000000000 (0,())) λn=>aE (aF (λb=>ad (ay b.2.1 (ak x.1.2.2.2.1)) (am (az x.1.2.2.2.1 b.2.1) λf=>ad (cH f.1 b.1) (ao (ao (some (10,())))) (ad (cH (ak x.1.2.2.1) f.1) (ao (ao (some (10,())))) (some (.inl (f.1,ah .i64 b.2.1 1,()))))) (ao (some (.inl ())))) 1000000000 (-1,0,())) λo=>aE (aF (λe=>ad (ay e.1 (ak x.1.2.2.2.1)) (am (az x.1.2.2.2.1 e.1) λj=>am (Ik (j.2.1,())) λk=>ad (bI k.1) (ao (ao (some (3,())))) (some (.inl (ah .i64 e.1 1,())))) (ao (some (.inl ())))) 1000000000 (0,())) λl=>ad (ay x.1.1 (ak x.1.2.2.2.2.1)) (some (8,())) (aE (aF (λa=>ad (ay a.2.1 (ak x.1.2.2.2.2.1)) (am (az x.1.2.2.2.2.1 a.2.1) λc=>am (VC (x.1,c,())) λg=>ad (bF g.1 0) (ao (ao (some (g.1,())))) (ad (cH c.1 a.1) (ao (ao (some (10,())))) (ad (cH x.1.2.1 c.1) (ao (ao (some (10,())))) (some (.inl (c.1,ah .i64 a.2.1 1,())))))) (ao (some (.inl ())))) 1000000000 (-1,0,())) λm=>some (0,()))))))))
def aad:=kB dX Zv 132 Tryz.f132 (hs [(0,[.bE 1]),(1,kp [1,44,45] [.val 46 iT]),(4,[.bE 1]),(5,.bE 1:: .val 5 iT::kp [55,56] [.val 57 iT]),(8,[.bE 1]),(9,kp [1,77,78] [.val 79 iT]),(12,[]),(13,.bE 1:: .val 5 iT::kp [95,96] [.val 97 iT])]) MN
def Iu(x:D (.ai mJ .un)):Option (D (.ai mJ .un)):=aE (aF (λa=>ad (ay a.2.1 (ak x.1.2.2.1)) (am (az x.1.2.2.1 a.2.1) λf=>aC (a4 [] f 1) (aC (a4 a.1.2.2.1 (aX [] f::[]) 24) (some (.inl ((a.1.1,a.1.2.1,aX a.1.2.2.1 (aX [] f::[]),a.1.2.2.2.1,a.1.2.2.2.2.1,()),ah .i64 a.2.1 1,()))))) (ao (some (.inl (a.1,()))))) 1000000000 ((x.1.1,x.1.2.1,[],[],[],()),0,())) λg=>aE (aF (λb=>ad (ay b.2.1 (ak x.1.2.2.2.1)) (am (az x.1.2.2.2.1 b.2.1) λe=>aC (a4 [] e.2.1 1) (aC (a4 b.1.2.2.2.1 ((e.1,aX [] e.2.1,())::[]) 32) (some (.inl ((b.1.1,b.1.2.1,b.1.2.2.1,aX b.1.2.2.2.1 ((e.1,aX [] e.2.1,())::[]),b.1.2.2.2.2.1,()),ah .i64 b.2.1 1,()))))) (ao (some (.inl (b.1,()))))) 1000000000 (g.1,0,())) λh=>aE (aF (λc=>ad (ay c.2.1 (ak x.1.2.2.2.2.1)) (am (az x.1.2.2.2.2.1 c.2.1) λd=>aC (a4 [] d.2.2.2.1 1) (aC (a4 c.1.2.2.2.2.1 ((d.1,d.2.1,d.2.2.1,aX [] d.2.2.2.1,())::[]) 48) (some (.inl ((c.1.1,c.1.2.1,c.1.2.2.1,c.1.2.2.2.1,aX c.1.2.2.2.2.1 ((d.1,d.2.1,d.2.2.1,aX [] d.2.2.2.1,())::[]),()),ah .i64 c.2.1 1,()))))) (ao (some (.inl (c.1,()))))) 1000000000 (h.1,0,())) λi=>some (i.1,())
def aac:=kB dX aad 133 Tryz.f133 (hs [(0,kp [1,2] [.box 3 b5]),(1,kp [1,2] (.box 3 b5::kp [16,17] [.val 18 iT])),(4,kp [1,2] [.box 3 b5]),(5,kp [1,2] (.box 3 b5::kp [31,32] [.val 33 iT])),(8,[.bE 2,.box 3 b5]),(9,.bE 2:: .box 3 b5::kp [50,51] [.val 52 iT])]) Iu
def Kv(x:D (.ai iT (.ai (.bw (.bw (.int .u8))) .un))):Option (D (.ai mJ iU)):=am (MN ((x.1,0,x.2.1,[],[],()),())) λa=>ad (bF a.1 0) (some ((0,0,[],[],[],()),a.1,())) (am (Iu ((x.1,0,x.2.1,[],[],()),())) λb=>some (b.1,0,()))
def k54:=kB dX aac 54 Tryz.f54 Tr.e Kv
def qr(x:D (.ai jH iU)):Option (D bU):=am (yY (x.1,())) λa=>ad (aY a.1 0) (ad (cH 0 x.2.1) (some (ay x.2.1 (ak x.1),())) (some (false,()))) (some (false,()))
def Y0:=kB dX k54 240 Tryz.f240 Tr.e qr
def Ij(x:D (.ai jH cQ)):Option (D iU):=am (yY (x.1,())) λa=>ad (bF a.1 0) (some (a.1,())) (am (qr (x.1,x.2.1,())) λb=>ad (bI b.1) (some (6,())) (am (vb (x.2.2.1,())) λc=>ad (bI c.1) (some (2,())) (some (0,()))))
def Zu:=kB dX Y0 198 Tryz.f198 Tr.e Ij
def ve(x:D (.ai jH iU)):Option (D (.ai lI .un)):=am (qr (x.1,x.2.1,())) λb=>ad (bI b.1) (some ([],())) (aE (aF (λa=>ad (cH 0 a.2.1) (aC (a4 a.1 (a.2.1::[]) 8) (am (az x.1 a.2.1) λc=>some (.inl (aX a.1 (a.2.1::[]),c.1,())))) (ao (some (.inl (a.1,()))))) 1000000000 ([],x.2.1,())) λd=>some (d.1,()))
def Zr:=kB dX Zu 199 Tryz.f199 (hs [(0,[.own 5 iT]),(1,[.bE 0,.own 5 iT,.val 6 iT])]) ve
def D1(x:D (.ai jH cQ)):Option (D (.ai jH .un)):=aC (a4 [] x.1 40) (am (ve (x.1,x.2.1,())) λc=>aE (aF (λa=>ad (ay a.2.1 (ak c.1)) (am (az c.1 a.2.1) λb=>aC (aU a.1 b) (am (az a.1 b) λe=>aC (aU a.1 b) (am (az a.1 b) λd=>some (.inl (aG a.1 b (d.1,ah .i64 e.2.1 x.2.2.1,d.2.2),ah .i64 a.2.1 1,()))))) (ao (some (.inl (a.1,()))))) 1000000000 (aX [] x.1,0,())) λf=>some (f.1,()))
def Zq:=kB dX Zr 200 Tryz.f200 (hs [(0,[.own 7 qP]),(1,.bE 2:: .own 7 qP::kp [14,15] [.val 16 iT])]) D1
def yX(x:D (.ai jH cQ)):Option (D (.ai jH cQ)):=am (Ij (x.1,x.2.1,x.2.2.1,())) λc=>ad (bF c.1 0) (some ([],-1,c.1,())) (am (ve (x.1,x.2.1,())) λd=>aE (aF (λa=>ad (ay a.1 (ak d.1)) (am (az d.1 a.1) λb=>am (az x.1 b) λe=>am (az x.1 b) λf=>ad (ay f.2.2.2.2.1 (ah .i64 e.2.1 x.2.2.1)) (ao (ao (some ([],b,17,())))) (some (.inl (ah .i64 a.1 1,())))) (ao (some (.inl ())))) 1000000000 (0,())) λh=>am (D1 (x.1,x.2.1,x.2.2.1,())) λg=>some (g.1,-1,0,()))
def aab:=kB dX Zq 134 Tryz.f134 (hs [(0,kp [0,1,2] []),(1,kp [0,1,2,21,22] [.val 23 iT])]) yX
def DS(x:D (.ai yr .un)):Option (D iU):=ad (ay 6 (ak x.1)) (some (9,())) (aE (aF (λa=>ad (ay a.1 (ak x.1)) (am (az x.1 a.1) λb=>ad (ay b.1 0) (ao (ao (some (2,())))) (ad (cH 4 b.1) (ao (ao (some (2,())))) (ad (bF b.2.1 0) (ad (bF b.2.1 1) (ao (ao (some (1,())))) (some (.inl (ah .i64 a.1 1,())))) (some (.inl (ah .i64 a.1 1,())))))) (ao (some (.inl ())))) 1000000000 (0,())) λc=>some (0,()))
def YL:=kB dX aab 274 Tryz.f274 (hs [(0,[]),(1,kp [8,9] [.val 10 iT])]) DS
def DV(x:D (.ai yr iU)):Option (D iU):=am (DS (x.1,())) λa=>ad (bF a.1 0) (some (a.1,())) (ad (ay x.2.1 0) (some (2,())) (ad (cH 4 x.2.1) (some (2,())) (some (0,()))))
def YZ:=kB dX YL 241 Tryz.f241 Tr.e DV
def qq(x:D cQ):Option (D iU):=ad (ay x.2.1 x.1) (some (ea .i64 2 (bb .i64 x.1 x.2.1),())) (some (ah .i64 (ea .i64 2 (bb .i64 x.2.1 x.1)) 1,()))
def YY:=kB dX YZ 243 Tryz.f243 Tr.e qq
def pK(x:D cQ):Option (D iU):=am (u7 (x.1,())) λb=>am (u7 (x.2.1,())) λa=>ad b.1 (ad a.1 (some (0,())) (some (-1,()))) (ad a.1 (some (1,())) (ad (ay x.1 x.2.1) (some (-1,())) (ad (ay x.2.1 x.1) (some (1,())) (some (0,())))))
def YX:=kB dX YY 246 Tryz.f246 Tr.e pK
def B1(x:D (.ai yr jP)):Option (D (.ai lI iU)):=am (DV (x.1,x.2.1,())) λw=>ad (bF w.1 0) (some ([],w.1,())) (aE (aF (λc=>ad (ay c.2.1 (ak x.1)) (am (az x.1 c.2.1) λr0=>ad (bI x.2.2.1) (aC (a4 c.1 (c.2.1::[]) 8) (some (.inl (aX c.1 (c.2.1::[]),ah .i64 c.2.1 1,())))) (ad (aY r0.2.1 0) (aC (a4 c.1 (c.2.1::[]) 8) (some (.inl (aX c.1 (c.2.1::[]),ah .i64 c.2.1 1,())))) (some (.inl (c.1,ah .i64 c.2.1 1,()))))) (ao (some (.inl (c.1,()))))) 1000000000 ([],0,())) λf=>aE (aF (λd=>ad (cH d.2.2.1 (ak f.1)) (aE (aF (λh=>ad (ay h.2.1 d.2.2.1) (aE (aE (aF (λb=>ad (ay d.2.1 b.2.1) (aC (aU b.1 b.2.1) (am (az b.1 b.2.1) λz0=>aC (aU b.1 (bb .i64 b.2.1 1)) (am (az b.1 (bb .i64 b.2.1 1)) λl=>am (az x.1 z0) λn9=>am (qq (x.2.1,n9.1,())) λi=>am (az x.1 z0) λw0=>ad (aY w0.2.1 0) (am (az x.1 l) λv0=>am (qq (x.2.1,v0.1,())) λy=>am (az x.1 l) λu0=>ad (aY u0.2.1 0) (am (pK (ah .i64 (ea .i64 2 i.1) 1,ah .i64 (ea .i64 2 y.1) 1,())) λt0=>ad (ay t0.1 0) (aC (aU b.1 (bb .i64 b.2.1 1)) (am (az b.1 (bb .i64 b.2.1 1)) λn=>aC (aU b.1 b.2.1) (am (az b.1 b.2.1) λs0=>aC (aU b.1 b.2.1) (am (az b.1 b.2.1) λm9=>aC (aU (aG b.1 b.2.1 n) (bb .i64 b.2.1 1)) (am (az (aG b.1 b.2.1 n) (bb .i64 b.2.1 1)) λl9=>some (.inl (aG (aG b.1 b.2.1 n) (bb .i64 b.2.1 1) s0,bb .i64 b.2.1 1,()))))))) (ao (some (.inl (b.1,()))))) (am (pK (ah .i64 (ea .i64 2 i.1) 1,ea .i64 2 y.1,())) λq0=>ad (ay q0.1 0) (aC (aU b.1 (bb .i64 b.2.1 1)) (am (az b.1 (bb .i64 b.2.1 1)) λo=>aC (aU b.1 b.2.1) (am (az b.1 b.2.1) λp0=>aC (aU b.1 b.2.1) (am (az b.1 b.2.1) λk9=>aC (aU (aG b.1 b.2.1 o) (bb .i64 b.2.1 1)) (am (az (aG b.1 b.2.1 o) (bb .i64 b.2.1 1)) λj9=>some (.inl (aG (aG b.1 b.2.1 o) (bb .i64 b.2.1 1) p0,bb .i64 b.2.1 1,()))))))) (ao (some (.inl (b.1,())))))) (am (az x.1 l) λo0=>am (qq (x.2.1,o0.1,())) λz=>am (az x.1 l) λn0=>ad (aY n0.2.1 0) (am (pK (ea .i64 2 i.1,ah .i64 (ea .i64 2 z.1) 1,())) λm0=>ad (ay m0.1 0) (aC (aU b.1 (bb .i64 b.2.1 1)) (am (az b.1 (bb .i64 b.2.1 1)) λp=>aC (aU b.1 b.2.1) (am (az b.1 b.2.1) λl0=>aC (aU b.1 b.2.1) (am (az b.1 b.2.1) λi9=>aC (aU (aG b.1 b.2.1 p) (bb .i64 b.2.1 1)) (am (az (aG b.1 b.2.1 p) (bb .i64 b.2.1 1)) λh9=>some (.inl (aG (aG b.1 b.2.1 p) (bb .i64 b.2.1 1) l0,bb .i64 b.2.1 1,()))))))) (ao (some (.inl (b.1,()))))) (am (pK (ea .i64 2 i.1,ea .i64 2 z.1,())) λk0=>ad (ay k0.1 0) (aC (aU b.1 (bb .i64 b.2.1 1)) (am (az b.1 (bb .i64 b.2.1 1)) λq=>aC (aU b.1 b.2.1) (am (az b.1 b.2.1) λj0=>aC (aU b.1 b.2.1) (am (az b.1 b.2.1) λg9=>aC (aU (aG b.1 b.2.1 q) (bb .i64 b.2.1 1)) (am (az (aG b.1 b.2.1 q) (bb .i64 b.2.1 1)) λf9=>some (.inl (aG (aG b.1 b.2.1 q) (bb .i64 b.2.1 1) j0,bb .i64 b.2.1 1,()))))))) (ao (some (.inl (b.1,()))))))))) (ao (some (.inl (b.1,()))))) 1000000000 (h.1,h.2.1,())) λi0=>some (.inl (i0.1,()))) λh0=>some (.inl (h0.1,ah .i64 h.2.1 1,()))) (ao (some (.inl (h.1,()))))) 1000000000 (d.1,ah .i64 d.2.1 1,())) λg0=>some (.inl (g0.1,d.2.2.1,ah .i64 d.2.2.1 20,()))) (ao (some (.inl (d.1,d.2.1,()))))) 1000000000 (f.1,0,20,())) λr=>aE (aF (λg=>ad (ay g.2.1 (ak f.1)) (aE (aE (aF (λa=>ad (ay r.2.1 a.2.1) (aC (aU a.1 a.2.1) (am (az a.1 a.2.1) λA=>aC (aU a.1 (bb .i64 a.2.1 1)) (am (az a.1 (bb .i64 a.2.1 1)) λj=>am (az x.1 A) λf0=>am (qq (x.2.1,f0.1,())) λk=>am (az x.1 A) λe0=>ad (aY e0.2.1 0) (am (az x.1 j) λd0=>am (qq (x.2.1,d0.1,())) λB=>am (az x.1 j) λc0=>ad (aY c0.2.1 0) (am (pK (ah .i64 (ea .i64 2 k.1) 1,ah .i64 (ea .i64 2 B.1) 1,())) λb0=>ad (ay b0.1 0) (aC (aU a.1 (bb .i64 a.2.1 1)) (am (az a.1 (bb .i64 a.2.1 1)) λs=>aC (aU a.1 a.2.1) (am (az a.1 a.2.1) λa0=>aC (aU a.1 a.2.1) (am (az a.1 a.2.1) λe9=>aC (aU (aG a.1 a.2.1 s) (bb .i64 a.2.1 1)) (am (az (aG a.1 a.2.1 s) (bb .i64 a.2.1 1)) λd9=>some (.inl (aG (aG a.1 a.2.1 s) (bb .i64 a.2.1 1) a0,bb .i64 a.2.1 1,()))))))) (ao (some (.inl (a.1,()))))) (am (pK (ah .i64 (ea .i64 2 k.1) 1,ea .i64 2 B.1,())) λz9=>ad (ay z9.1 0) (aC (aU a.1 (bb .i64 a.2.1 1)) (am (az a.1 (bb .i64 a.2.1 1)) λt=>aC (aU a.1 a.2.1) (am (az a.1 a.2.1) λy9=>aC (aU a.1 a.2.1) (am (az a.1 a.2.1) λc9=>aC (aU (aG a.1 a.2.1 t) (bb .i64 a.2.1 1)) (am (az (aG a.1 a.2.1 t) (bb .i64 a.2.1 1)) λb9=>some (.inl (aG (aG a.1 a.2.1 t) (bb .i64 a.2.1 1) y9,bb .i64 a.2.1 1,()))))))) (ao (some (.inl (a.1,())))))) (am (az x.1 j) λx9=>am (qq (x.2.1,x9.1,())) λC=>am (az x.1 j) λw9=>ad (aY w9.2.1 0) (am (pK (ea .i64 2 k.1,ah .i64 (ea .i64 2 C.1) 1,())) λv9=>ad (ay v9.1 0) (aC (aU a.1 (bb .i64 a.2.1 1)) (am (az a.1 (bb .i64 a.2.1 1)) λu=>aC (aU a.1 a.2.1) (am (az a.1 a.2.1) λu9=>aC (aU a.1 a.2.1) (am (az a.1 a.2.1) λa9=>aC (aU (aG a.1 a.2.1 u) (bb .i64 a.2.1 1)) (am (az (aG a.1 a.2.1 u) (bb .i64 a.2.1 1)) λx69=>some (.inl (aG (aG a.1 a.2.1 u) (bb .i64 a.2.1 1) u9,bb .i64 a.2.1 1,()))))))) (ao (some (.inl (a.1,()))))) (am (pK (ea .i64 2 k.1,ea .i64 2 C.1,())) λt9=>ad (ay t9.1 0) (aC (aU a.1 (bb .i64 a.2.1 1)) (am (az a.1 (bb .i64 a.2.1 1)) λv=>aC (aU a.1 a.2.1) (am (az a.1 a.2.1) λs9=>aC (aU a.1 a.2.1) (am (az a.1 a.2.1) λx73=>aC (aU (aG a.1 a.2.1 v) (bb .i64 a.2.1 1)) (am (az (aG a.1 a.2.1 v) (bb .i64 a.2.1 1)) λx74=>some (.inl (aG (aG a.1 a.2.1 v) (bb .i64 a.2.1 1) s9,bb .i64 a.2.1 1,()))))))) (ao (some (.inl (a.1,()))))))))) (ao (some (.inl (a.1,()))))) 1000000000 (g.1,g.2.1,())) λr9=>some (.inl (r9.1,()))) λq9=>some (.inl (q9.1,ah .i64 g.2.1 1,()))) (ao (some (.inl (g.1,()))))) 1000000000 (r.1,ah .i64 r.2.1 1,())) λp9=>aE (aF (λe=>ad (ay e.2.1 (ak f.1)) (aE (aE (aF (λm=>ad (cH m.2.2.1 (ak f.1)) none (ao (some (.inl (m.1,m.2.1,()))))) 1000000000 (e.1,0,ea .i64 2 e.2.1,())) λy0=>ad (ay (ah .i64 y0.2.1 e.2.1) (ak f.1)) none (some (.inl (y0.1,ea .i64 e.2.1 2,())))) λx0=>some (.inl (x0.1,x0.2.1,()))) (ao (some (.inl (e.1,()))))) 1000000000 (p9.1,20,())) λo9=>some (o9.1,0,()))
def Zp:=kB dX YX 201 Tryz.f201 (hs [(0,kp [3,4] [.own 9 iT]),(1,kp [2,3,4] (.own 9 iT::kp [19,20] [.val 21 iT]))]) B1
def BR(x:D (.ai eI .un)):Option (D iU):=am (sI (x.1,())) λa=>ad (bF a.1 0) (some (0,())) (some (fj .i64 (ak (bs [] x.1.2.2.2.2.2.1 4)) 4,()))
def YJ:=kB dX Zp 278 Tryz.f278 Tr.e BR
def DU(x:D (.ai eI .un)):Option (D iU):=am (sI (x.1,())) λa=>ad (bF a.1 0) (am (BR (x.1,())) λb=>some (ah .i64 0 b.1,())) (am (BR (x.1,())) λc=>some (ah .i64 (ah .i64 (ah .i64 (ah .i64 (ah .i64 0 (fj .i64 (ak (bs [] x.1.2.2.2.2.2.1 0)) 0)) (fj .i64 (ak (bs [] x.1.2.2.2.2.2.1 1)) 1)) (fj .i64 (ak (bs [] x.1.2.2.2.2.2.1 2)) 2)) (fj .i64 (ak (bs [] x.1.2.2.2.2.2.1 3)) 3)) c.1,()))
def YW:=kB dX YJ 247 Tryz.f247 Tr.e DU
def D0(x:D (.ai de iU)):Option (D iU):=am (az x.1.2.2.2.1 x.2.1) λb=>am (DU (b,())) λc=>aE (aF (λa=>ad (ay a.2.1 (ak x.1.2.2.2.2.1)) (am (az x.1.2.2.2.2.1 a.2.1) λd=>am (az d.1 x.2.1) λe=>some (.inl (ah .i64 a.1 (ak e),ah .i64 a.2.1 1,()))) (ao (some (.inl (a.1,()))))) 1000000000 (c.1,0,())) λf=>some (f.1,())
def Zo:=kB dX YW 202 Tryz.f202 (hs [(0,[.val 5 iT]),(1,.bE 1:: .val 5 iT::kp [15,16] [.val 17 iT])]) D0
def DZ(x:D (.ai de iU)):Option (D iU):=am (az x.1.2.2.2.1 x.2.1) λa=>am (D0 (x.1,x.2.1,())) λb=>some (bb .i64 b.1 a.2.2.2.2.1,())
def Ln:=kB dX Zo 203 Tryz.f203 Tr.e DZ
def Q0(x:D (.ai eI iU)):Option (D (.ai eI cQ)):=am (sI (x.1,())) λe=>ad (bF e.1 0) (some ((0,0,0,0,0,[]::[]::[]::[]::[]::[],()),0,e.1,())) (ad (aY (ak (bs [] x.1.2.2.2.2.2.1 0)) 0) (ad (aY (ak (bs [] x.1.2.2.2.2.2.1 1)) 0) (ad (aY (ak (bs [] x.1.2.2.2.2.2.1 2)) 0) (ad (aY (ak (bs [] x.1.2.2.2.2.2.1 3)) 0) (ad (aY (ak (bs [] x.1.2.2.2.2.2.1 4)) 0) (some ((0,0,0,0,0,[]::[]::[]::[]::[]::[],()),0,16,())) (aC (a4 [] (bs [] x.1.2.2.2.2.2.1 0) 8) (aC (a4 [] (bs [] x.1.2.2.2.2.2.1 1) 8) (aC (a4 [] (bs [] x.1.2.2.2.2.2.1 2) 8) (aC (a4 [] (bs [] x.1.2.2.2.2.2.1 3) 8) (aC (a4 [] (bs [] x.1.2.2.2.2.2.1 4) 8) (aC (aU (aX [] (bs [] x.1.2.2.2.2.2.1 4)) 0) (am (az (aX [] (bs [] x.1.2.2.2.2.2.1 4)) 0) λa=>aC (dx 1 (ak (aX [] (bs [] x.1.2.2.2.2.2.1 4))) (ak (aX [] (bs [] x.1.2.2.2.2.2.1 4)))) (am (gj (aX [] (bs [] x.1.2.2.2.2.2.1 3),ah .i64 a 8,())) λi=>aC (dx i.1 (ak (aX [] (bs [] x.1.2.2.2.2.2.1 3))) (ak (aX [] (bs [] x.1.2.2.2.2.2.1 3)))) (ad (aY i.1 (ak (aX [] (bs [] x.1.2.2.2.2.2.1 3)))) (aC (a4 (aX [] (bs [] x.1.2.2.2.2.2.1 3)) (ah .i64 a 8::[]) 8) (am (gj (aX [] (bs [] x.1.2.2.2.2.2.1 2),ah .i64 a 4,())) λj=>aC (dx j.1 (ak (aX [] (bs [] x.1.2.2.2.2.2.1 2))) (ak (aX [] (bs [] x.1.2.2.2.2.2.1 2)))) (ad (aY j.1 (ak (aX [] (bs [] x.1.2.2.2.2.2.1 2)))) (aC (a4 (aX [] (bs [] x.1.2.2.2.2.2.1 2)) (ah .i64 a 4::[]) 8) (am (gj (aX [] (bs [] x.1.2.2.2.2.2.1 1),ah .i64 a 2,())) λk=>aC (dx k.1 (ak (aX [] (bs [] x.1.2.2.2.2.2.1 1))) (ak (aX [] (bs [] x.1.2.2.2.2.2.1 1)))) (ad (aY k.1 (ak (aX [] (bs [] x.1.2.2.2.2.2.1 1)))) (aC (a4 (aX [] (bs [] x.1.2.2.2.2.2.1 1)) (ah .i64 a 2::[]) 8) (am (gj (aX [] (bs [] x.1.2.2.2.2.2.1 0),ah .i64 a 1,())) λl=>aC (dx l.1 (ak (aX [] (bs [] x.1.2.2.2.2.2.1 0))) (ak (aX [] (bs [] x.1.2.2.2.2.2.1 0)))) (ad (aY l.1 (ak (aX [] (bs [] x.1.2.2.2.2.2.1 0)))) (aC (a4 (aX [] (bs [] x.1.2.2.2.2.2.1 0)) (ah .i64 a 1::[]) 8) (some ((x.1.1,x.1.2.1,x.1.2.2.1,x.1.2.2.2.1,x.1.2.2.2.2.1,aX (aX [] (bs [] x.1.2.2.2.2.2.1 0)) (ah .i64 a 1::[])::aX (aX [] (bs [] x.1.2.2.2.2.2.1 1)) (ah .i64 a 2::[])::aX (aX [] (bs [] x.1.2.2.2.2.2.1 2)) (ah .i64 a 4::[])::aX (aX [] (bs [] x.1.2.2.2.2.2.1 3)) (ah .i64 a 8::[])::eS (aX [] (bs [] x.1.2.2.2.2.2.1 4)) 1 (ak (aX [] (bs [] x.1.2.2.2.2.2.1 4)))::[],()),a,0,()))) none))) none))) none))) none)))))))))) (aC (a4 [] (bs [] x.1.2.2.2.2.2.1 0) 8) (aC (a4 [] (bs [] x.1.2.2.2.2.2.1 1) 8) (aC (a4 [] (bs [] x.1.2.2.2.2.2.1 2) 8) (aC (a4 [] (bs [] x.1.2.2.2.2.2.1 3) 8) (aC (a4 [] (bs [] x.1.2.2.2.2.2.1 4) 8) (aC (aU (aX [] (bs [] x.1.2.2.2.2.2.1 3)) 0) (am (az (aX [] (bs [] x.1.2.2.2.2.2.1 3)) 0) λb=>aC (dx 1 (ak (aX [] (bs [] x.1.2.2.2.2.2.1 3))) (ak (aX [] (bs [] x.1.2.2.2.2.2.1 3)))) (am (gj (aX [] (bs [] x.1.2.2.2.2.2.1 2),ah .i64 b 4,())) λm=>aC (dx m.1 (ak (aX [] (bs [] x.1.2.2.2.2.2.1 2))) (ak (aX [] (bs [] x.1.2.2.2.2.2.1 2)))) (ad (aY m.1 (ak (aX [] (bs [] x.1.2.2.2.2.2.1 2)))) (aC (a4 (aX [] (bs [] x.1.2.2.2.2.2.1 2)) (ah .i64 b 4::[]) 8) (am (gj (aX [] (bs [] x.1.2.2.2.2.2.1 1),ah .i64 b 2,())) λn=>aC (dx n.1 (ak (aX [] (bs [] x.1.2.2.2.2.2.1 1))) (ak (aX [] (bs [] x.1.2.2.2.2.2.1 1)))) (ad (aY n.1 (ak (aX [] (bs [] x.1.2.2.2.2.2.1 1)))) (aC (a4 (aX [] (bs [] x.1.2.2.2.2.2.1 1)) (ah .i64 b 2::[]) 8) (am (gj (aX [] (bs [] x.1.2.2.2.2.2.1 0),ah .i64 b 1,())) λo=>aC (dx o.1 (ak (aX [] (bs [] x.1.2.2.2.2.2.1 0))) (ak (aX [] (bs [] x.1.2.2.2.2.2.1 0)))) (ad (aY o.1 (ak (aX [] (bs [] x.1.2.2.2.2.2.1 0)))) (aC (a4 (aX [] (bs [] x.1.2.2.2.2.2.1 0)) (ah .i64 b 1::[]) 8) (some ((x.1.1,x.1.2.1,x.1.2.2.1,x.1.2.2.2.1,x.1.2.2.2.2.1,aX (aX [] (bs [] x.1.2.2.2.2.2.1 0)) (ah .i64 b 1::[])::aX (aX [] (bs [] x.1.2.2.2.2.2.1 1)) (ah .i64 b 2::[])::aX (aX [] (bs [] x.1.2.2.2.2.2.1 2)) (ah .i64 b 4::[])::eS (aX [] (bs [] x.1.2.2.2.2.2.1 3)) 1 (ak (aX [] (bs [] x.1.2.2.2.2.2.1 3)))::aX [] (bs [] x.1.2.2.2.2.2.1 4)::[],()),b,0,()))) none))) none))) none)))))))))) (aC (a4 [] (bs [] x.1.2.2.2.2.2.1 0) 8) (aC (a4 [] (bs [] x.1.2.2.2.2.2.1 1) 8) (aC (a4 [] (bs [] x.1.2.2.2.2.2.1 2) 8) (aC (a4 [] (bs [] x.1.2.2.2.2.2.1 3) 8) (aC (a4 [] (bs [] x.1.2.2.2.2.2.1 4) 8) (aC (aU (aX [] (bs [] x.1.2.2.2.2.2.1 2)) 0) (am (az (aX [] (bs [] x.1.2.2.2.2.2.1 2)) 0) λc=>aC (dx 1 (ak (aX [] (bs [] x.1.2.2.2.2.2.1 2))) (ak (aX [] (bs [] x.1.2.2.2.2.2.1 2)))) (am (gj (aX [] (bs [] x.1.2.2.2.2.2.1 1),ah .i64 c 2,())) λf=>aC (dx f.1 (ak (aX [] (bs [] x.1.2.2.2.2.2.1 1))) (ak (aX [] (bs [] x.1.2.2.2.2.2.1 1)))) (ad (aY f.1 (ak (aX [] (bs [] x.1.2.2.2.2.2.1 1)))) (aC (a4 (aX [] (bs [] x.1.2.2.2.2.2.1 1)) (ah .i64 c 2::[]) 8) (am (gj (aX [] (bs [] x.1.2.2.2.2.2.1 0),ah .i64 c 1,())) λg=>aC (dx g.1 (ak (aX [] (bs [] x.1.2.2.2.2.2.1 0))) (ak (aX [] (bs [] x.1.2.2.2.2.2.1 0)))) (ad (aY g.1 (ak (aX [] (bs [] x.1.2.2.2.2.2.1 0)))) (aC (a4 (aX [] (bs [] x.1.2.2.2.2.2.1 0)) (ah .i64 c 1::[]) 8) (some ((x.1.1,x.1.2.1,x.1.2.2.1,x.1.2.2.2.1,x.1.2.2.2.2.1,aX (aX [] (bs [] x.1.2.2.2.2.2.1 0)) (ah .i64 c 1::[])::aX (aX [] (bs [] x.1.2.2.2.2.2.1 1)) (ah .i64 c 2::[])::eS (aX [] (bs [] x.1.2.2.2.2.2.1 2)) 1 (ak (aX [] (bs [] x.1.2.2.2.2.2.1 2)))::aX [] (bs [] x.1.2.2.2.2.2.1 3)::aX [] (bs [] x.1.2.2.2.2.2.1 4)::[],()),c,0,()))) none))) none)))))))))) (aC (a4 [] (bs [] x.1.2.2.2.2.2.1 0) 8) (aC (a4 [] (bs [] x.1.2.2.2.2.2.1 1) 8) (aC (a4 [] (bs [] x.1.2.2.2.2.2.1 2) 8) (aC (a4 [] (bs [] x.1.2.2.2.2.2.1 3) 8) (aC (a4 [] (bs [] x.1.2.2.2.2.2.1 4) 8) (aC (aU (aX [] (bs [] x.1.2.2.2.2.2.1 1)) 0) (am (az (aX [] (bs [] x.1.2.2.2.2.2.1 1)) 0) λd=>aC (dx 1 (ak (aX [] (bs [] x.1.2.2.2.2.2.1 1))) (ak (aX [] (bs [] x.1.2.2.2.2.2.1 1)))) (am (gj (aX [] (bs [] x.1.2.2.2.2.2.1 0),ah .i64 d 1,())) λh=>aC (dx h.1 (ak (aX [] (bs [] x.1.2.2.2.2.2.1 0))) (ak (aX [] (bs [] x.1.2.2.2.2.2.1 0)))) (ad (aY h.1 (ak (aX [] (bs [] x.1.2.2.2.2.2.1 0)))) (aC (a4 (aX [] (bs [] x.1.2.2.2.2.2.1 0)) (ah .i64 d 1::[]) 8) (some ((x.1.1,x.1.2.1,x.1.2.2.1,x.1.2.2.2.1,x.1.2.2.2.2.1,aX (aX [] (bs [] x.1.2.2.2.2.2.1 0)) (ah .i64 d 1::[])::eS (aX [] (bs [] x.1.2.2.2.2.2.1 1)) 1 (ak (aX [] (bs [] x.1.2.2.2.2.2.1 1)))::aX [] (bs [] x.1.2.2.2.2.2.1 2)::aX [] (bs [] x.1.2.2.2.2.2.1 3)::aX [] (bs [] x.1.2.2.2.2.2.1 4)::[],()),d,0,()))) none)))))))))) (aC (a4 [] (bs [] x.1.2.2.2.2.2.1 0) 8) (aC (a4 [] (bs [] x.1.2.2.2.2.2.1 1) 8) (aC (a4 [] (bs [] x.1.2.2.2.2.2.1 2) 8) (aC (a4 [] (bs [] x.1.2.2.2.2.2.1 3) 8) (aC (a4 [] (bs [] x.1.2.2.2.2.2.1 4) 8) (aC (aU (aX [] (bs [] x.1.2.2.2.2.2.1 0)) 0) (am (az (aX [] (bs [] x.1.2.2.2.2.2.1 0)) 0) λp=>aC (dx 1 (ak (aX [] (bs [] x.1.2.2.2.2.2.1 0))) (ak (aX [] (bs [] x.1.2.2.2.2.2.1 0)))) (some ((x.1.1,x.1.2.1,x.1.2.2.1,x.1.2.2.2.1,x.1.2.2.2.2.1,eS (aX [] (bs [] x.1.2.2.2.2.2.1 0)) 1 (ak (aX [] (bs [] x.1.2.2.2.2.2.1 0)))::aX [] (bs [] x.1.2.2.2.2.2.1 1)::aX [] (bs [] x.1.2.2.2.2.2.1 2)::aX [] (bs [] x.1.2.2.2.2.2.1 3)::aX [] (bs [] x.1.2.2.2.2.2.1 4)::[],()),p,0,()))))))))))
def BV(x:D (.ai eI iU)):Option (D (.ai eI cQ)):=ad (aY x.2.1 0) (Q0 x) none
theorem XR(x:D (.ai eI iU)):E9 (uD Ln.1 dX) [false,true] 1000 (.ai eI iU) (.ai eI cQ) Tr.e Tryz.f251 (x.1,(0:Int),())=Q0 x:=by kernel_rfl
theorem Yf(x:D (.ai eI iU))(h:aY x.2.1 0=true):(x.1,(0:Int),())=x:=by have h:x.2.1=0:=br h;obtain⟨a,b,u⟩:=x;cases h;rfl
theorem Yn:ft.fn.ap 251=some Tryz.f251:=by kernel_rfl
theorem aaB:ft.ext.ap 251=none:=by kernel_rfl
def YV:KK:=⟨Ln.1.set 251 ⟨.ai eI iU,.ai eI cQ,BV⟩,ut Ln.2 (LG (hi:=dX) Ln.2 Yn aaB (Ld (b:=λ(x:D (.ai eI iU))=>aY x.2.1 0) (q:=λ(x:D (.ai eI iU))=>(x.1,(0:Int),())) Yf XR))⟩
def yT(x:D (.ai fA iU)):Option (D iU):=am (yU ((x.1.1,()),ak x.1.1,())) λa=>ad (bF a.1 0) (some (a.1,())) (ad (ay x.2.1 0) (some (2,())) (ad (cH (ak x.1.1) x.2.1) (some (2,())) (some (0,()))))
def YU:=kB dX YV 255 Tryz.f255 Tr.e yT
def yS(x:D (.ai fA (.ai iT (.ai lI .un)))):Option (D (.ai fA .un)):=aC (gw (ak x.1.1) (ak x.1.1) 24) (aE (aF (λa=>ad (ay a.2.1 (ak x.1.1)) (am (az x.1.1 a.2.1) λb=>ad (aY a.2.1 x.2.1) (aC (gw (ak x.2.2.1) (ak x.2.2.1) 8) (aC (aU a.1.1 a.2.1) (aC (aU a.1.1 a.2.1) (aC (aU (aG a.1.1 a.2.1 (eh (ak x.2.2.1) 0)) a.2.1) (aC (aU (aG a.1.1 a.2.1 (eh (ak x.2.2.1) 0)) a.2.1) (am (az (aG a.1.1 a.2.1 (eh (ak x.2.2.1) 0)) a.2.1) λc=>some (.inl ((aG (aG a.1.1 a.2.1 (eh (ak x.2.2.1) 0)) a.2.1 (dR c x.2.2.1),()),ah .i64 a.2.1 1,())))))))) (aC (gw (ak b) (ak b) 8) (aC (aU a.1.1 a.2.1) (aC (aU a.1.1 a.2.1) (aC (aU (aG a.1.1 a.2.1 (eh (ak b) 0)) a.2.1) (aC (aU (aG a.1.1 a.2.1 (eh (ak b) 0)) a.2.1) (am (az (aG a.1.1 a.2.1 (eh (ak b) 0)) a.2.1) λd=>some (.inl ((aG (aG a.1.1 a.2.1 (eh (ak b) 0)) a.2.1 (dR d b),()),ah .i64 a.2.1 1,()))))))))) (ao (some (.inl ((a.1.1,()),()))))) 1000000000 ((eh (ak x.1.1) [],()),0,())) λe=>some ((e.1.1,()),()))
def YT:=kB dX YU 256 Tryz.f256 (hs [(0,[.bE 6,.box 7 b6]),(1,kp [1,2,3,6] [.box 7 b6,.bE 17,.val 18 iT])]) yS
def Mn(x:D (.ai fA iU)):Option (D (.ai fA (.ai lI iU))):=am (yT ((x.1.1,()),x.2.1,())) λb=>ad (bF b.1 0) (some (([],()),[],b.1,())) (am (az x.1.1 x.2.1) λa=>aC (gw (ak a) (ak a) 8) (am (az x.1.1 x.2.1) λc=>am (yS ((x.1.1,()),x.2.1,[],())) λd=>some ((d.1.1,()),dR (eh (ak a) 0) c,0,())))
def U3:=kB dX YT 253 Tryz.f253 Tr.e Mn
def U8:Tr (List Hi):=hs [(0,kp [1,2,3] [.box 6 b7]),(1,kp [1,2,3] [.box 6 b7,.val 9 iT])]
def VB(x:D (.ai eI cQ)):Option (D (.ai eI iU)):=E8 (uD U3.1 dX) 1000 (.ai eI cQ) (.ai eI iU) U8 Tryz.f280 x
def YI:=kB dX U3 280 Tryz.f280 U8 VB (hF:=λx=>rfl)
def vd(x:D (.ai fA iU)):Option (D (.ai fA cQ)):=am (yT ((x.1.1,()),x.2.1,())) λb=>ad (bF b.1 0) (some (([],()),0,b.1,())) (am (az x.1.1 x.2.1) λa=>ad (aY (ak a) 0) (some (([],()),0,6,())) (aC (dx 0 (bb .i64 (ak a) 1) (ak a)) (am (az a (bb .i64 (ak a) 1)) λc=>am (yS ((x.1.1,()),x.2.1,eS a 0 (bb .i64 (ak a) 1),())) λd=>some ((d.1.1,()),c,0,()))))
def Ll:=kB dX YI 207 Tryz.f207 Tr.e vd
def O9(c:List (List Int))(z:Int)(l:List Int):Option (D (.ai fA iU)):=am (yT ((c,()),z,())) λh=>ad (bF h.1 0) (some (([],()),h.1,())) (aE (aF (α:=D (.ai (.bw jP) iU)) (λd=>ad (ay d.2.1 (ak c)) (aE (am (az c d.2.1) λi=>aE (aF (α:=D (.ai (.bw jP) iU)) (λe=>ad (ay e.2.1 (ak i)) (am (az i e.2.1) λk=>some (.inl (m6 e.1 k true,ah .i64 e.2.1 1,()))) (ao (some (.inl (e.1,()))))) 1000000000 (d.1,0,())) λm=>some (.inl (m.1,()))) λn=>some (.inl (n.1,ah .i64 d.2.1 1,()))) (ao (some (.inl (d.1,()))))) 1000000000 ([],0,())) λo=>aE (aF (α:=D (.ai (.ai fA .un) (.ai (.bw jP) iU))) (λa=>ad (ay a.2.2.1 (ak l)) (aC (aU l a.2.2.1) (am (az l a.2.2.1) λf=>am (H5 (f,())) λp=>ad (bI p.1) (ao (ao (some (([],()),2,())))) (ad (ri a.2.1 f) (ao (ao (some (([],()),7,())))) (some (.inl ((a.1.1,()),m6 a.2.1 f true,ah .i64 a.2.2.1 1,())))))) (ao (some (.inl ((a.1.1,()),a.2.1,()))))) 1000000000 ((([],()),()),o.1,0,())) λt=>am (az c z) λg=>aC (gw (ak g) (ak g) 8) (am (az c z) λq=>aE (aF (α:=D (.ai lI iU)) (λb=>ad (ay b.2.1 (ak l)) (aC (aU l (bb .i64 (bb .i64 (ak l) 1) b.2.1)) (am (az l (bb .i64 (bb .i64 (ak l) 1) b.2.1)) λj=>aC (a4 b.1 (j::[]) 8) (some (.inl (aX b.1 (j::[]),ah .i64 b.2.1 1,()))))) (ao (some (.inl (b.1,()))))) 1000000000 (dR (eh (ak g) 0) q,0,())) λr=>am (yS ((c,()),z,r.1,())) λs=>some (s.1,0,())))
def W8{β:Type}(a:D de):Option (Sum (D de×Unit) β):=aF (α:=D (.ai de iU)) (λb=>ad (ay b.2.1 (ak (aX [] a.2.2.2.1))) (aE (aE (aC (aU b.1.2.2.2.1 b.2.1) (am (az b.1.2.2.2.1 b.2.1) λp=>aC (a4 [] (bs [] p.2.2.2.2.2.1 0) 8) (aC (aU b.1.2.2.2.1 b.2.1) (am (az b.1.2.2.2.1 b.2.1) λg=>some (.inl ((b.1.1,b.1.2.1,b.1.2.2.1,aG b.1.2.2.2.1 b.2.1 (g.1,g.2.1,g.2.2.1,g.2.2.2.1,g.2.2.2.2.1,aX [] (bs [] p.2.2.2.2.2.1 0)::bs [] g.2.2.2.2.2.1 1::bs [] g.2.2.2.2.2.1 2::bs [] g.2.2.2.2.2.1 3::bs [] g.2.2.2.2.2.1 4::[],g.2.2.2.2.2.2),b.1.2.2.2.2.1,()),())))))) λk=>aE (aC (aU k.1.2.2.2.1 b.2.1) (am (az k.1.2.2.2.1 b.2.1) λl=>aC (a4 [] (bs [] l.2.2.2.2.2.1 1) 8) (aC (aU k.1.2.2.2.1 b.2.1) (am (az k.1.2.2.2.1 b.2.1) λc=>some (.inl ((k.1.1,k.1.2.1,k.1.2.2.1,aG k.1.2.2.2.1 b.2.1 (c.1,c.2.1,c.2.2.1,c.2.2.2.1,c.2.2.2.2.1,bs [] c.2.2.2.2.2.1 0::aX [] (bs [] l.2.2.2.2.2.1 1)::bs [] c.2.2.2.2.2.1 2::bs [] c.2.2.2.2.2.1 3::bs [] c.2.2.2.2.2.1 4::[],c.2.2.2.2.2.2),k.1.2.2.2.2.1,()),())))))) λh=>aE (aC (aU h.1.2.2.2.1 b.2.1) (am (az h.1.2.2.2.1 b.2.1) λm=>aC (a4 [] (bs [] m.2.2.2.2.2.1 2) 8) (aC (aU h.1.2.2.2.1 b.2.1) (am (az h.1.2.2.2.1 b.2.1) λd=>some (.inl ((h.1.1,h.1.2.1,h.1.2.2.1,aG h.1.2.2.2.1 b.2.1 (d.1,d.2.1,d.2.2.1,d.2.2.2.1,d.2.2.2.2.1,bs [] d.2.2.2.2.2.1 0::bs [] d.2.2.2.2.2.1 1::aX [] (bs [] m.2.2.2.2.2.1 2)::bs [] d.2.2.2.2.2.1 3::bs [] d.2.2.2.2.2.1 4::[],d.2.2.2.2.2.2),h.1.2.2.2.2.1,()),())))))) λi=>aE (aC (aU i.1.2.2.2.1 b.2.1) (am (az i.1.2.2.2.1 b.2.1) λn=>aC (a4 [] (bs [] n.2.2.2.2.2.1 3) 8) (aC (aU i.1.2.2.2.1 b.2.1) (am (az i.1.2.2.2.1 b.2.1) λe=>some (.inl ((i.1.1,i.1.2.1,i.1.2.2.1,aG i.1.2.2.2.1 b.2.1 (e.1,e.2.1,e.2.2.1,e.2.2.2.1,e.2.2.2.2.1,bs [] e.2.2.2.2.2.1 0::bs [] e.2.2.2.2.2.1 1::bs [] e.2.2.2.2.2.1 2::aX [] (bs [] n.2.2.2.2.2.1 3)::bs [] e.2.2.2.2.2.1 4::[],e.2.2.2.2.2.2),i.1.2.2.2.2.1,()),())))))) λj=>aE (aC (aU j.1.2.2.2.1 b.2.1) (am (az j.1.2.2.2.1 b.2.1) λo=>aC (a4 [] (bs [] o.2.2.2.2.2.1 4) 8) (aC (aU j.1.2.2.2.1 b.2.1) (am (az j.1.2.2.2.1 b.2.1) λf=>some (.inl ((j.1.1,j.1.2.1,j.1.2.2.1,aG j.1.2.2.2.1 b.2.1 (f.1,f.2.1,f.2.2.1,f.2.2.2.1,f.2.2.2.2.1,bs [] f.2.2.2.2.2.1 0::bs [] f.2.2.2.2.2.1 1::bs [] f.2.2.2.2.2.1 2::bs [] f.2.2.2.2.2.1 3::aX [] (bs [] o.2.2.2.2.2.1 4)::[],f.2.2.2.2.2.2),j.1.2.2.2.2.1,()),())))))) λq=>some (.inl (q.1,()))) λr=>some (.inl (r.1,ah .i64 b.2.1 1,()))) (ao (some (.inl (b.1,()))))) 1000000000 ((aX [] a.1,a.2.1,a.2.2.1,aX [] a.2.2.2.1,aX [] a.2.2.2.2.1,()),0,())
def Xg{β:Type}(a:D de):Option (Sum (D de×Unit) β):=aF (α:=D (.ai de iU)) (λb=>ad (ay b.2.1 (ak a.2.2.2.2.1)) (aE (aC (aU b.1.2.2.2.2.1 b.2.1) (am (az b.1.2.2.2.2.1 b.2.1) λd=>aC (a4 [] d.1 24) (aE (aF (α:=D (.ai (.bw lI) iU)) (λc=>ad (ay c.2.1 (ak (aX [] d.1))) (aC (aU c.1 c.2.1) (am (az c.1 c.2.1) λe=>aC (a4 [] e 8) (aC (aU c.1 c.2.1) (am (az c.1 c.2.1) λh=>some (.inl (aG c.1 c.2.1 (aX [] e),ah .i64 c.2.1 1,())))))) (ao (some (.inl (c.1,()))))) 1000000000 (aX [] d.1,0,())) λf=>aC (aU b.1.2.2.2.2.1 b.2.1) (am (az b.1.2.2.2.2.1 b.2.1) λi=>some (.inl ((b.1.1,b.1.2.1,b.1.2.2.1,b.1.2.2.2.1,aG b.1.2.2.2.2.1 b.2.1 (f.1,()),()),())))))) λg=>some (.inl (g.1,ah .i64 b.2.1 1,()))) (ao (some (.inl (b.1,()))))) 1000000000 (a,0,())
def W1{β:Type}(a:D de)(z u:Int):Option (Sum (D de×Unit) β):=aF (α:=D (.ai de iU)) (λb=>ad (ay b.2.1 (ak a.2.2.2.2.1)) (ad (bF b.2.1 u) (aC (aU b.1.2.2.2.2.1 b.2.1) (am (az b.1.2.2.2.2.1 b.2.1) λf=>am (Mn ((f.1,()),z,())) λd=>ad (aY d.2.2.1 0) (aC (aU b.1.2.2.2.2.1 b.2.1) (am (az b.1.2.2.2.2.1 b.2.1) λj=>aE (aF (α:=D (.ai de iU)) (λc=>ad (ay c.2.1 (ak d.2.1)) (am (az d.2.1 c.2.1) λg=>aC (aU c.1.2.2.2.1 z) (am (az c.1.2.2.2.1 z) λh=>am (VB (h,g,0,())) λe=>ad (aY e.2.1 0) (aC (aU c.1.2.2.2.1 z) (am (az c.1.2.2.2.1 z) λk=>some (.inl ((c.1.1,c.1.2.1,c.1.2.2.1,aG c.1.2.2.2.1 z e.1,c.1.2.2.2.2.1,()),ah .i64 c.2.1 1,())))) (some (.inl (c.1,ah .i64 c.2.1 1,()))))) (ao (some (.inl (c.1,()))))) 1000000000 ((b.1.1,b.1.2.1,b.1.2.2.1,b.1.2.2.2.1,aG b.1.2.2.2.2.1 b.2.1 (d.1.1,()),()),0,())) λi=>some (.inl (i.1,ah .i64 b.2.1 1,())))) (some (.inl (b.1,ah .i64 b.2.1 1,()))))) (some (.inl (b.1,ah .i64 b.2.1 1,())))) (ao (some (.inl (b.1,()))))) 1000000000 (a,0,())
def Jf(a:D de)(z u:Int):Option (D (.ai de bU)):=aE (aF (α:=D (.ai de (.ai lI iU))) (λb=>ad (ay b.2.2.1 a.2.1) (aC (aU b.1.2.2.2.1 z) (am (az b.1.2.2.2.1 z) λf=>am (BV (f,0,())) λd=>ad (bF d.2.2.1 0) (ao (some (.inl (b.1,b.2.1,())))) (aC (aU b.1.2.2.2.1 z) (am (az b.1.2.2.2.1 z) λh=>aC (a4 b.2.1 (d.2.1::[]) 8) (some (.inl ((b.1.1,b.1.2.1,b.1.2.2.1,aG b.1.2.2.2.1 z d.1,b.1.2.2.2.2.1,()),aX b.2.1 (d.2.1::[]),ah .i64 b.2.2.1 1,()))))))) (ao (some (.inl (b.1,b.2.1,()))))) 1000000000 (a,[],0,())) λc=>aC (aU c.1.2.2.2.2.1 u) (am (az c.1.2.2.2.2.1 u) λg=>am (O9 g.1 z c.2.1) λe=>ad (aY e.2.1 0) (aC (aU c.1.2.2.2.2.1 u) (am (az c.1.2.2.2.2.1 u) λi=>some ((c.1.1,c.1.2.1,c.1.2.2.1,c.1.2.2.2.1,aG c.1.2.2.2.2.1 u (e.1.1,()),()),ay 0 (ak c.2.1),()))) (some (c.1,ay 0 (ak c.2.1),())))
def HW(x:D (.ai de (.ai iT (.ai .bool bU)))):Option (D (.ai de cQ)):=am (tY (x.1,())) λi=>ad (bF i.1 0) (some (([],0,0,[],[],()),0,i.1,())) (ad (ay x.2.1 0) (some (([],0,0,[],[],()),0,2,())) (ad (cH (ak x.1.1) x.2.1) (some (([],0,0,[],[],()),0,2,())) (am (az x.1.1 x.2.1) λk=>am (B1 (x.1.2.2.2.1,k,x.2.2.1,())) λj=>aE (aF (α:=D (.ai (.ai de .un) iU)) (λe=>ad (ay e.2.1 (ak j.1)) (aE (am (az j.1 e.2.1) λd=>am (DZ (x.1,d,())) λs=>ad (ay s.1 1) (some (.inl ((e.1.1,()),()))) (aC (a4 [] x.1.1 8) (aC (a4 [] x.1.2.2.2.1 160) (aC (a4 [] x.1.2.2.2.2.1 24) (aE (W8 x.1) λp=>aE (Xg p.1) λa=>aC (aU a.1.2.2.2.2.1 x.2.1) (am (az a.1.2.2.2.2.1 x.2.1) λq=>am (az q.1 d) λr=>ad (aY (ak r) 0) (am (Jf a.1 d x.2.1) λb=>ad (bI b.2.1) (aE (W1 b.1 d x.2.1) λt=>am (Jf t.1 d x.2.1) λc=>aC (aU c.1.2.2.2.2.1 x.2.1) (am (az c.1.2.2.2.2.1 x.2.1) λl=>am (vd ((l.1,()),d,())) λf=>ad (bF f.2.2.1 0) (ao (ao (ao (some (([],0,0,[],[],()),0,f.2.2.1,()))))) (aC (aU c.1.2.2.2.2.1 x.2.1) (am (az c.1.2.2.2.2.1 x.2.1) λu=>ao (ao (ao (some ((c.1.1,c.1.2.1,c.1.2.2.1,c.1.2.2.2.1,aG c.1.2.2.2.2.1 x.2.1 (f.1.1,()),()),f.2.1,0,())))))))) (aC (aU b.1.2.2.2.2.1 x.2.1) (am (az b.1.2.2.2.2.1 x.2.1) λm=>am (vd ((m.1,()),d,())) λg=>ad (bF g.2.2.1 0) (ao (ao (ao (some (([],0,0,[],[],()),0,g.2.2.1,()))))) (aC (aU b.1.2.2.2.2.1 x.2.1) (am (az b.1.2.2.2.2.1 x.2.1) λv=>ao (ao (ao (some ((b.1.1,b.1.2.1,b.1.2.2.1,b.1.2.2.2.1,aG b.1.2.2.2.2.1 x.2.1 (g.1.1,()),()),g.2.1,0,()))))))))) (aC (aU a.1.2.2.2.2.1 x.2.1) (am (az a.1.2.2.2.2.1 x.2.1) λn=>am (vd ((n.1,()),d,())) λh=>ad (bF h.2.2.1 0) (ao (ao (ao (some (([],0,0,[],[],()),0,h.2.2.1,()))))) (aC (aU a.1.2.2.2.2.1 x.2.1) (am (az a.1.2.2.2.2.1 x.2.1) λw=>ao (ao (ao (some ((a.1.1,a.1.2.1,a.1.2.2.1,a.1.2.2.2.1,aG a.1.2.2.2.2.1 x.2.1 (h.1.1,()),()),h.2.1,0,())))))))))))))) λo=>some (.inl ((o.1.1,()),ah .i64 e.2.1 1,()))) (ao (some (.inl ((e.1.1,()),()))))) 1000000000 ((([],0,0,[],[],()),()),0,())) λy=>some (([],0,0,[],[],()),0,16,()))))
def yW(x:D (.ai de (.ai iT (.ai .bool bU)))):Option (D (.ai de cQ)):=ad (bI x.2.2.2.1) (HW x) none
theorem XT(x:D (.ai de (.ai iT (.ai .bool bU)))):E9 (uD Ll.1 dX) [false,false,false,true] 1000 (.ai de (.ai iT (.ai .bool bU))) (.ai de cQ) (hs [(0,[.box 8 [.v de]]),(1,kp [1,3,4] (.box 8 [.v de]::kp [49,50] [.val 51 iT])),(2,kp [1,3,4] (.box 8 [.v de]::kp [49,50,51] [])),(4,kp [1,8,15] [.box 16 b0]),(5,kp [1,8,15] [.box 16 b0,.bE 93,.val 94 iT])]) Tryz.f135 (x.1,x.2.1,x.2.2.1,false,())=HW x:=by kernel_rfl
theorem Yh(x:D (.ai de (.ai iT (.ai .bool bU))))(h:bI x.2.2.2.1=true):(x.1,x.2.1,x.2.2.1,false,())=x:=by obtain⟨a,b,c,d,u⟩:=x;cases d with
 |false=>rfl
 |true=>cases h
theorem Yq:ft.fn.ap 135=some Tryz.f135:=by kernel_rfl
theorem aaE:ft.ext.ap 135=none:=by kernel_rfl
def aaa:KK:=⟨Ll.1.set 135 ⟨.ai de (.ai iT (.ai .bool bU)),.ai de cQ,yW⟩,ut Ll.2 (LG (hi:=dX) Ll.2 Yq aaE (Ld (b:=λ(x:D (.ai de (.ai iT (.ai .bool bU))))=>bI x.2.2.2.1) (q:=λ(x:D (.ai de (.ai iT (.ai .bool bU))))=>(x.1,x.2.1,x.2.2.1,false,())) Yh XT))⟩
def B0(x:D iU):Option (D bU):=ad (cH 0 x.1) (some (cH x.1 4294967295,())) (some (false,()))
def Zm:=kB dX aaa 208 Tryz.f208 Tr.e B0
def vf(x:D iU):Option (D (.ai sB iU)):=am (B0 (x.1,())) λa=>ad (bI a.1) (some ((0,[],[],()),2,())) (some ((x.1,(x.1,0::0::0::0::0::0::0::0::[],())::[],[],()),0,()))
def Z9:=kB dX Zm 136 Tryz.f136 Tr.e vf
def Ih(x:D (.ai jP .un)):Option (D bU):=ad (cH 0 x.1.1) (ad (cH x.1.1 1073741824) (ad x.1.2.1 (some (bI (aY x.1.1 0),())) (some (true,()))) (some (false,()))) (some (false,()))
def Zk:=kB dX Z9 209 Tryz.f209 Tr.e Ih
def Ig(x:D (.ai jP .un)):Option (D bU):=ad (ay 0 x.1.1) (some (bI x.1.2.1,())) (some (false,()))
def Zj:=kB dX Zk 210 Tryz.f210 Tr.e Ig
def yV(x:D (.ai jP .un)):Option (D cQ):=am (Ih (x.1,())) λa=>ad (bI a.1) (some (0,1,())) (am (Ig (x.1,())) λb=>ad b.1 (some (bb .i64 x.1.1 1,0,())) (some (x.1.1,0,())))
def Z8:=kB dX Zj 139 Tryz.f139 Tr.e yV
def zK:D fS:=(([],[],0,0,0,0,0,0,0,0,[],[],[],()),0,0,[],[],[],([],0,0,[],[],()),[],(0,[],()),[],[],[],[],(0,[],()),[],(0,0,[],[],[],()),[],[],[],[],())
def AB(c:D ce)(a:D (.ai (.ai fS .un) (.ai fS iU))):Option (Sum (D (.ai (.ai fS .un) (.ai fS iU))) (Sum (D (.ai (.ai fS .un) (.ai fS .un))) (D (.ai fS iU)))):=ad (ay a.2.2.1 (ak c.2.2.2.2.2.2.2.2.2.2.2.2.1)) (am (az a.2.1.1.2.2.2.2.2.2.2.2.2.2.2.2.1 a.2.2.1) λd=>am (yX (a.2.1.2.2.2.2.2.2.2.2.2.1,d.1,1,())) λi=>ad (bF i.2.2.1 0) (ao (ao (some (zK,17,())))) (am (yW (a.2.1.2.2.2.2.2.2.1,0,true,false,())) λb=>ad (bF b.2.2.1 0) (ao (ao (some (zK,16,())))) (aC (aU a.2.1.2.2.2.2.2.2.2.1 b.2.1) (am (az a.2.1.2.2.2.2.2.2.2.1 b.2.1) λg=>aC (aU (aG a.2.1.2.2.2.2.2.2.2.1 b.2.1 (1,g.2)) b.2.1) (am (az (aG a.2.1.2.2.2.2.2.2.2.1 b.2.1 (1,g.2)) b.2.1) λe=>aC (aU (aG (aG a.2.1.2.2.2.2.2.2.2.1 b.2.1 (1,g.2)) b.2.1 (e.1,e.2.1,d.1,e.2.2.2)) b.2.1) (am (az (aG (aG a.2.1.2.2.2.2.2.2.2.1 b.2.1 (1,g.2)) b.2.1 (e.1,e.2.1,d.1,e.2.2.2)) b.2.1) λh=>am (vf (b.2.1,())) λj=>aE (aF (α:=D (.ai lI iU)) (λf=>ad (ay f.2.1 (ak a.2.1.2.2.2.2.2.2.2.2.2.2.2.2.2.2.1)) (am (az a.2.1.2.2.2.2.2.2.2.2.2.2.2.2.2.2.1 f.2.1) λm=>am (yV (m.2.2.2.2.2.2.1,())) λk=>aC (a4 f.1 (k.1::[]) 8) (some (.inl (aX f.1 (k.1::[]),ah .i64 f.2.1 1,())))) (ao (some (.inl (f.1,()))))) 1000000000 ([],0,())) λl=>aC (a4 [] d.2.1 64) (aC (a4 a.2.1.2.2.2.2.2.2.2.2.2.2.2.2.2.2.2.2.2.1 ((0,0,-1,0,d.1,aX [] d.2.1,(0,0,0,0,(0,0,0,0,0,0,()),(),()),j.1,[],[],[],l.1,0,0,0,0,-1,())::[]) 360) (some (.inl ((a.1.1,()),(a.2.1.1,a.2.1.2.1,a.2.1.2.2.1,a.2.1.2.2.2.1,a.2.1.2.2.2.2.1,a.2.1.2.2.2.2.2.1,b.1,aG (aG (aG a.2.1.2.2.2.2.2.2.2.1 b.2.1 (1,g.2)) b.2.1 (e.1,e.2.1,d.1,e.2.2.2)) b.2.1 (h.1,h.2.1,h.2.2.1,a.2.2.1,h.2.2.2.2),a.2.1.2.2.2.2.2.2.2.2.1,i.1,a.2.1.2.2.2.2.2.2.2.2.2.2.1,a.2.1.2.2.2.2.2.2.2.2.2.2.2.1,a.2.1.2.2.2.2.2.2.2.2.2.2.2.2.1,a.2.1.2.2.2.2.2.2.2.2.2.2.2.2.2.1,a.2.1.2.2.2.2.2.2.2.2.2.2.2.2.2.2.1,a.2.1.2.2.2.2.2.2.2.2.2.2.2.2.2.2.2.1,a.2.1.2.2.2.2.2.2.2.2.2.2.2.2.2.2.2.2.1,aX a.2.1.2.2.2.2.2.2.2.2.2.2.2.2.2.2.2.2.2.1 ((0,0,-1,0,d.1,aX [] d.2.1,(0,0,0,0,(0,0,0,0,0,0,()),(),()),j.1,[],[],[],l.1,0,0,0,0,-1,())::[]),a.2.1.2.2.2.2.2.2.2.2.2.2.2.2.2.2.2.2.2.2.1,a.2.1.2.2.2.2.2.2.2.2.2.2.2.2.2.2.2.2.2.2.2.1,()),ah .i64 a.2.2.1 1,())))))))))) (ao (some (.inl ((a.1.1,()),a.2.1,()))))
def SN{β:Type}(c e:D ce):Option (Sum (D fS×Unit) β):=aF (α:=D (.ai fS iU)) (λa=>ad (ay a.2.1 (ak c.1)) (am (FM (c.2.2.2.2.1,())) λb=>aC (a4 a.1.2.2.2.1 (-1::[]) 8) (aC (a4 a.1.2.2.2.2.1 (b.1::[]) 32) (aC (a4 a.1.2.2.2.2.2.1 ([]::[]) 24) (some (.inl ((a.1.1,a.1.2.1,a.1.2.2.1,aX a.1.2.2.2.1 (-1::[]),aX a.1.2.2.2.2.1 (b.1::[]),aX a.1.2.2.2.2.2.1 ([]::[]),a.1.2.2.2.2.2.2),ah .i64 a.2.1 1,())))))) (ao (some (.inl (a.1,()))))) 1000000000 ((e,0,0,[],[],[],([],0,0,[],[],()),[],(0,[],()),[],[],[],[],(0,[],()),[],(0,0,[],[],[],()),[],[],[],[],()),0,())
def Te{β:Type}(k:D fS)(a:D de)(n:Int):Option (Sum (D fS×Unit) β):=aF (α:=D (.ai fS iU)) (λb=>ad (ay b.2.1 n) (am (F47 ()) λc=>aC (a4 b.1.2.2.2.2.2.2.2.1 (c.1::[]) 144) (some (.inl ((b.1.1,b.1.2.1,b.1.2.2.1,b.1.2.2.2.1,b.1.2.2.2.2.1,b.1.2.2.2.2.2.1,b.1.2.2.2.2.2.2.1,aX b.1.2.2.2.2.2.2.2.1 (c.1::[]),b.1.2.2.2.2.2.2.2.2),ah .i64 b.2.1 1,())))) (ao (some (.inl (b.1,()))))) 1000000000 ((k.1,k.2.1,k.2.2.1,k.2.2.2.1,k.2.2.2.2.1,k.2.2.2.2.2.1,a,k.2.2.2.2.2.2.2),0,())
def zj(x:D (.ai ce .un)):Option (D (.ai fS iU)):=am (yj (x.1,())) λb=>ad (bF b.1 0) (some (zK,b.1,())) (am (FN (x.1,())) λc=>am (az c.1 (bb .i64 (ak c.1) 1)) λk=>am (mV (k,1,256,())) λl=>ad (bI l.1) (some (zK,9,())) (am (Ul (x.1,())) λn=>aE (SN x.1 n.1) λo=>am (HY (x.1.1,x.1.2.2.1,x.1.2.2.2.1,x.1.2.1,())) λe=>am (HX (e.1,())) λp=>aE (Te o.1 e.1 p.1) λa=>am (FL (x.1.2.2.2.2.2.2.2.2.2.1,())) λf=>aC (a4 [] x.1.2.2.2.2.2.2.2.2.2.2.2.1 40) (am (FK ()) λg=>am (BM (x.1.2.2.2.2.2.2.1,())) λh=>am (FJ (x.1.2.2.2.2.2.2.2.1,())) λi=>am (Kw (x.1,())) λd=>am (Kv (x.1.2.2.2.2.2.1,d.2.1,())) λj=>aE (aF (α:=D (.ai (.ai fS .un) (.ai fS iU))) (AB x.1) 1000000000 ((zK,()),(a.1.1,a.1.2.1,a.1.2.2.1,a.1.2.2.2.1,a.1.2.2.2.2.1,a.1.2.2.2.2.2.1,a.1.2.2.2.2.2.2.1,a.1.2.2.2.2.2.2.2.1,f.1,aX [] x.1.2.2.2.2.2.2.2.2.2.2.2.1,a.1.2.2.2.2.2.2.2.2.2.2.1,g.1,h.1,i.1,d.1,j.1,a.1.2.2.2.2.2.2.2.2.2.2.2.2.2.2.2.2.1,a.1.2.2.2.2.2.2.2.2.2.2.2.2.2.2.2.2.2.1,a.1.2.2.2.2.2.2.2.2.2.2.2.2.2.2.2.2.2.2.1,a.1.2.2.2.2.2.2.2.2.2.2.2.2.2.2.2.2.2.2.2.1,()),0,())) λm=>some (m.2.1,0,()))))
def k14:=kB dX Z8 14 Tryz.f14 (hs [(0,kp [1,2] [.box 6 b8]),(1,kp [1,2] [.box 6 b8,.bE 35,.val 36 iT]),(4,kp [1,2] [.box 6 b8]),(5,kp [1,2] [.box 6 b8,.bE 76,.val 77 iT]),(8,[.box 2 [.v fS],.box 6 b8]),(9,[.box 2 [.v fS],.box 6 b8,.bE 130,.val 131 iT])]) zj
def VE(x:D cQ):Option (D bU):=ad (cH 0 x.1) (aC (cR (ee .u64 x.2.1)) (some (ay x.1 (fj .i64 1 (ee .u64 x.2.1)),()))) (some (false,()))
def ZJ:=kB dX k14 160 Tryz.f160 Tr.e VE
def Ku(x:D cQ):Option (D (.ai (.bw (.int .u8)) iU)):=ad (ay x.1 0) (some ([],2,())) (ad (ay 16 x.1) (some ([],2,())) (am (VE (x.2.1,x.1,())) λb=>ad (bI b.1) (some ([],3,())) (aC (gw 32 32 1) (aC (aU (eh 32 0) 0) (am (az (eh 32 0) 0) λe=>aC (aU (aG (eh 32 0) 0 73) 1) (am (az (aG (eh 32 0) 0 73) 1) λg=>aC (aU (aG (aG (eh 32 0) 0 73) 1 78) 2) (am (az (aG (aG (eh 32 0) 0 73) 1 78) 2) λh=>aC (aU (aG (aG (aG (eh 32 0) 0 73) 1 78) 2 79) 3) (am (az (aG (aG (aG (eh 32 0) 0 73) 1 78) 2 79) 3) λi=>aC (aU (aG (aG (aG (aG (eh 32 0) 0 73) 1 78) 2 79) 3 68) 4) (am (az (aG (aG (aG (aG (eh 32 0) 0 73) 1 78) 2 79) 3 68) 4) λj=>aC (aU (aG (aG (aG (aG (aG (eh 32 0) 0 73) 1 78) 2 79) 3 68) 4 (ee .u8 x.1)) 5) (am (az (aG (aG (aG (aG (aG (eh 32 0) 0 73) 1 78) 2 79) 3 68) 4 (ee .u8 x.1)) 5) λk=>aC (aU (aG (aG (aG (aG (aG (aG (eh 32 0) 0 73) 1 78) 2 79) 3 68) 4 (ee .u8 x.1)) 5 (ee .u8 (lf .i64 x.2.1 256))) 6) (am (az (aG (aG (aG (aG (aG (aG (eh 32 0) 0 73) 1 78) 2 79) 3 68) 4 (ee .u8 x.1)) 5 (ee .u8 (lf .i64 x.2.1 256))) 6) λl=>aE (aF (λa=>ad (ay a.2.1 7) (aC (aU (aG (aG (aG (aG (aG (aG (aG (eh 32 0) 0 73) 1 78) 2 79) 3 68) 4 (ee .u8 x.1)) 5 (ee .u8 (lf .i64 x.2.1 256))) 6 (ee .u8 (oI .i64 x.2.1 256))) a.2.1) (am (az (aG (aG (aG (aG (aG (aG (aG (eh 32 0) 0 73) 1 78) 2 79) 3 68) 4 (ee .u8 x.1)) 5 (ee .u8 (lf .i64 x.2.1 256))) 6 (ee .u8 (oI .i64 x.2.1 256))) a.2.1) λd=>some (.inl (ah .i64 a.1 (ee .i64 d),ah .i64 a.2.1 1,())))) (ao (some (.inl (a.1,()))))) 1000000000 (0,0,())) λc=>aC (aU (aG (aG (aG (aG (aG (aG (aG (eh 32 0) 0 73) 1 78) 2 79) 3 68) 4 (ee .u8 x.1)) 5 (ee .u8 (lf .i64 x.2.1 256))) 6 (ee .u8 (oI .i64 x.2.1 256))) 7) (am (az (aG (aG (aG (aG (aG (aG (aG (eh 32 0) 0 73) 1 78) 2 79) 3 68) 4 (ee .u8 x.1)) 5 (ee .u8 (lf .i64 x.2.1 256))) 6 (ee .u8 (oI .i64 x.2.1 256))) 7) λf=>some (aG (aG (aG (aG (aG (aG (aG (aG (eh 32 0) 0 73) 1 78) 2 79) 3 68) 4 (ee .u8 x.1)) 5 (ee .u8 (lf .i64 x.2.1 256))) 6 (ee .u8 (oI .i64 x.2.1 256))) 7 (ee .u8 (lf .i64 c.1 251)),0,())))))))))))))
def Yv:=kB dX ZJ 76 Tryz.f76 (hs [(0,[.bE 6,.val 7 iT]),(1,[.bE 6,.val 7 iT,.val 8 iT])]) Ku
end Go.Bo
