/-
 The statement AllocatorRefuses.
-/
import Derived.Test.YtplkliakhdkpcaaGe
import Derived.Test.YtplkliakhdkpcaaRows
import Derived.WideKeyArr2
set_option linter.unusedVariables false
set_option linter.unusedSimpArgs false
namespace Go.Proofs.Ytplkliakhdkpcaa
open Go Go.RowKit Go.Wk Go.Am
section
variable {a:zH} {c p:Nat}
theorem zIi:∀ (m i:Nat) {a:zH},Wa a→i+m≤a.caches.length→p<a.zones.length →
  Wa (zAn p m i a)∧(zAn p m i a).caches.length=a.caches.length∧(zAn p m i a).zones.length=a.zones.length∧(zAn p m i a).batch=a.batch∧(∀ d q,Lf (zAn p m i a) d q=if i≤d∧d<i+m∧q=p then [] else Lf a d q)∧(∀ q,q≠p→Zn (zAn p m i a) q=Zn a q) ∧
  (∀ g,cov (Zn (zAn p m i a) p) g↔cov (Zn a p) g ∨ ∃ d,i≤d∧d<i+m∧g∈Lf a d p)
 | 0,i,a,h,_,_=>⟨h,rfl,rfl,rfl,fun d q=>by rw [if_neg (by omega)]; rfl,fun q _=>rfl,fun g=>⟨.inl,fun x=>x.elim id (fun ⟨d,h1,h2,_⟩=>by omega)⟩⟩
 | m+1,i,a,h,hm,hp=>by
  have hi:i<a.caches.length:=by omega
  obtain ⟨_,_,hw⟩:=zJZ h hi hp
  obtain ⟨s1,s2⟩:=zEJ (a:=a) (c:=i) (p:=p)
  have hL:=zSN h hi hp
  obtain ⟨_,g2,_⟩:=zKt (Lf a i p) (h.zs p hp) (fun f hf=>h.own i p f hi hf) (h.nd i p hi)
  obtain ⟨r1,r2,r3,r4,r5,r6,r7⟩:=zIi m (i+1) hw (by rw [s1]; omega) (by rw [s2]; exact hp)
  have hZ:Zn (zFj a i p) p=zKZ (Zn a p) (Lf a i p):=by
   unfold zFj
   rw [zST hp,if_pos rfl]
  refine ⟨r1,r2.trans s1,r3.trans s2,r4,fun d q => ?_,fun q hq => ?_,fun g => ?_⟩
  ·show Lf (zAn p m (i+1) (zFj a i p)) d q=_
   rw [r5,hL]
   by_cases h1:i+1≤d∧d<i+1+m∧q=p
   ·rw [if_pos h1,if_pos (by omega)]
   ·rw [if_neg h1]
    by_cases h2:d=i∧q=p
    ·rw [if_pos h2,if_pos (by omega)]
    ·rw [if_neg h2,if_neg (by omega)]
  ·show Zn (zAn p m (i+1) (zFj a i p)) q=_
   rw [r6 q hq]
   unfold zFj
   rw [zST hp,if_neg hq]
  ·show cov (Zn (zAn p m (i+1) (zFj a i p)) p) g↔_
   rw [r7,hZ,g2]
   constructor
   ·rintro ((h1 | h1) | ⟨d,h1,h2,h3⟩)
    ·exact .inl h1
    ·exact .inr ⟨i,Nat.le_refl _,by omega,h1⟩
    ·rw [hL,if_neg (by omega)] at h3
     exact .inr ⟨d,by omega,by omega,h3⟩
   ·rintro (h1 | ⟨d,h1,h2,h3⟩)
    ·exact .inl (.inl h1)
    ·by_cases hd:d=i
     ·subst hd; exact .inl (.inr h3)
     ·exact .inr ⟨d,by omega,by omega,by rw [hL,if_neg (by omega)]; exact h3⟩
theorem zXB {K:Nat} {x2:List Int×Int} {i1:Int} {x7:zH×Bool} (hx:at_ x2.1 i1=(p:Int)) (hx7:x7.1.caches.length=K) (hc:c<K) (hK:K≤1000):∀ (m n i:Nat) (b:zH),i+m=K→m<n→Wa b→b.caches.length=K→p<b.zones.length→Lf b c p=[] →
  zB2 (c:Int) x2 i1 x7 n (i:Int) b.nodes b.batch b.high b.zones b.caches=zCp (c:Int) x2 i1 (zAn p m i b).nodes (zAn p m i b).batch (zAn p m i b).high (zAn p m i b).zones (zAn p m i b).caches:=by
 intro m
 induction m with
 | zero =>
  intro n i b h1 h2 hw hb hp hl
  obtain ⟨n,rfl⟩:=ex1 ‹_<n›
  show zB8 _ _ _ _ _ _ _ _ _ _ _=_
  unfold zB8
  rw [hx7,ze (df (by omega))]
  rfl
 | succ m ih =>
  intro n i b h1 h2 hw hb hp hl
  obtain ⟨n,rfl⟩:=ex1 ‹_<n›
  show zB8 _ _ _ _ _ _ _ _ _ _ _=_
  unfold zB8 zDq
  rw [hx7,zy (dt (by omega))]
  by_cases hi:i=c
  ·subst hi
   rw [dt rfl,Bool.not_true,ze rfl,zP (zu (by omega))]
   show _=zCp _ _ _ (zAn p m (i+1) (zFj b i p)).nodes _ _ _ _
   rw [show zAn p (m+1) i b=zAn p m (i+1) (zFj b i p) from rfl,zSl hw (by omega) hp hl]
   exact ih n (i+1) b (by omega) (by omega) hw hb hp hl
  ·obtain ⟨d1,_,d3⟩:=zJZ hw (c:=i) (by omega) hp
   rw [df (by omega),zy (by rfl),hx,show (⟨b.nodes,b.batch,b.high,b.zones,b.caches⟩:zH)=b from rfl,d1,zAm,zP (zu (by omega))]
   exact ih n (i+1) (zFj b i p) (by omega) (by omega) d3 (zEJ.1.trans hb) (by rw [zEJ.2]; exact hp) (by rw [zSN hw (by omega) hp]; split; rfl; exact hl)
def zQW (a:zH) (c p:Nat):zH:=⟨a.nodes,a.batch,a.high,a.zones,a.caches.set c (zWG (at_ a.caches (c:Int)) p)⟩
theorem zP1 (hp:p<a.zones.length):zQW a c p=upd a c p ((Lf a c p).take ((Lf a c p).length - 1)) (Zn a p):=by
 unfold zQW upd Zn
 rw [zIr hp]
 rfl
theorem zXD (h:Wa a) (hc:c<a.caches.length) (hp:p<a.zones.length):Wa (zQW a c p):=by
 rw [zP1 hp]
 have hm:∀ f,f∈(Lf a c p).take ((Lf a c p).length - 1)→f∈Lf a c p:=fun f hf=>List.mem_of_mem_take hf
 have:=h.lim c p hc
 refine zNi h hc hp (h.zs p hp) ⟨rfl,rfl,rfl,rfl,rfl⟩ (by rw [List.length_take]; omega) ((h.nd c p hc).sublist (List.take_sublist _ _)) (fun f hf=>h.own c p f hc (hm f hf)) (fun d f hd hdc hf=>⟨fun hh=>hdc (h.dis d c p p f hd hc hf (hm f hh)).1,(h.own d p f hd hf).2⟩)
def a1A (a:zH) (c p:Nat):zH:=if Lf a c p=[] then zRQ a c p else a
def a2A (a:zH) (c p:Nat):zH:=if Lf (a1A a c p) c p=[] then zRQ (zAn p (a1A a c p).caches.length 0 (a1A a c p)) c p else a1A a c p
def zMA (a:zH) (c p:Nat):zH×Int:=(zQW (a2A a c p) c p,zPF (at_ (a2A a c p).caches (c:Int)) p)
theorem zO2:(zRQ a c p).caches.length=a.caches.length∧(zRQ a c p).zones.length=a.zones.length:=⟨List.length_set,List.length_set⟩
theorem zTq (h:Wa a) (hc:c<a.caches.length) (hp:p<a.zones.length) (d q:Nat):Lf (zRQ a c p) d q=if d=c∧q=p then Lf a c p++(refl a.batch.toNat (Zn a p)).2.reverse else Lf a d q:=zSI h hc hp d q
theorem zR6:∀ (ls:List (List Int)) (k:Nat),0<zPM k ls → ∃ (j:Nat) (l:List Int),ls[j]?=some l∧l≠[]
 | [],k,h=>by unfold zPM at h; omega
 | l::ls,k,h=>by
  by_cases hl:l=[]
  ·unfold zPM at h
   rw [hl] at h
   obtain ⟨j,m,h1,h2⟩:=zR6 ls (k+1) (by simpa using h)
   exact ⟨j+1,m,by simpa using h1,h2⟩
  ·exact ⟨0,l,rfl,hl⟩
theorem zRi:∀ (cs:List zK) (i:Int),0<zRT cs i → ∃ d,d<cs.length∧at_ (at_ cs (d:Int)).lists i≠[]
 | [],i,h=>by unfold zRT at h; omega
 | x::cs,i,h=>by
  unfold zRT at h
  by_cases hx:at_ x.lists i=[]
  ·rw [hx] at h
   obtain ⟨d,h1,h2⟩:=zRi cs i (by simpa using h)
   exact ⟨d+1,by simp; omega,h2⟩
  ·exact ⟨0,by simp,hx⟩
theorem zWy (h:0<zLR a p):(∃ g,cov (Zn a p) g) ∨ ∃ d,d<a.caches.length∧Lf a d p≠[]:=by
 unfold zLR at h
 by_cases hn:0<zUw (at_ a.zones (p:Int))
 ·obtain ⟨j,l,h1,h2⟩:=zR6 _ _ hn
  obtain ⟨x,r,e,_⟩:=zXY h2
  refine .inl ⟨x,j,x,?_,by omega,by have:=zGR j; omega⟩
  show x∈lst (at_ a.zones (p:Int)) j
  rw [zVO h1,e]
  simp
 ·exact .inr (zRi _ _ (by omega))
theorem zYm (h:Wa a) (hc:c<a.caches.length) (hp:p<a.zones.length):Wa (a1A a c p)∧(a1A a c p).caches.length=a.caches.length∧(a1A a c p).zones.length=a.zones.length:=by
 unfold a1A
 by_cases hl:Lf a c p=[]
 ·rw [if_pos hl]
  exact ⟨(zIS h hc hp hl).2.2,zO2.1,zO2.2⟩
 ·rw [if_neg hl]
  exact ⟨h,rfl,rfl⟩
theorem zVV (h:Wa a) (hc:c<a.caches.length) (hp:p<a.zones.length) (hg:∃ g,cov (Zn a p) g):Lf (zRQ a c p) c p≠[]:=by
 rw [zTq h hc hp,if_pos ⟨rfl,rfl⟩]
 intro e
 have hbh:=h.bh
 have e2:=(List.append_eq_nil_iff.1 e).2
 rw [List.reverse_eq_nil_iff,show a.batch.toNat=(a.batch.toNat - 1)+1 by omega] at e2
 obtain ⟨g,hg⟩:=hg
 exact zUy (h.zs p hp) e2 g hg
theorem zYX (h:Wa a) (hc:c<a.caches.length) (hp:p<a.zones.length) (hn:0<zLR a p):Wa (a2A a c p)∧(a2A a c p).caches.length=a.caches.length∧(a2A a c p).zones.length=a.zones.length∧Lf (a2A a c p) c p≠[]:=by
 obtain ⟨w1,w2,w3⟩:=zYm h hc hp
 unfold a2A
 by_cases hl:Lf (a1A a c p) c p=[]
 ·rw [if_pos hl]
  obtain ⟨r1,r2,r3,r4,r5,r6,r7⟩:=zIi (p:=p) (a1A a c p).caches.length 0 w1 (by omega) (by rw [w3]; exact hp)
  have hl2:Lf (zAn p (a1A a c p).caches.length 0 (a1A a c p)) c p=[]:=by
   rw [r5]
   split
   ·rfl
   ·exact hl
  have hc2:c<(zAn p (a1A a c p).caches.length 0 (a1A a c p)).caches.length:=by rw [r2,w2]; exact hc
  have hp2:p<(zAn p (a1A a c p).caches.length 0 (a1A a c p)).zones.length:=by rw [r3,w3]; exact hp
  refine ⟨(zIS r1 hc2 hp2 hl2).2.2,zO2.1.trans (r2.trans w2),zO2.2.trans (r3.trans w3),zVV r1 hc2 hp2 ?_⟩
  have hl0:Lf a c p=[]:=by
   by_cases h0:Lf a c p=[]
   ·exact h0
   ·unfold a1A at hl
    rw [if_neg h0] at hl
    exact hl
  have ea:a1A a c p=zRQ a c p:=by unfold a1A; rw [if_pos hl0]
  have hng:¬ ∃ g,cov (Zn a p) g:=fun hg=>by
   have:=zVV h hc hp hg
   rw [← ea] at this
   exact this hl
  rcases zWy hn with hg | ⟨d,hd,hne⟩
  ·exact absurd hg hng
  ·obtain ⟨x,r,e,_⟩:=zXY hne
   refine ⟨x,(r7 x).2 (.inr ⟨d,Nat.zero_le _,by rw [w2]; omega,?_⟩)⟩
   have hdc:d≠c:=fun e'=>by subst e'; exact hne hl0
   rw [ea,zTq h hc hp,if_neg (fun e'=>hdc e'.1),e]
   simp
 ·rw [if_neg hl]
  exact ⟨w1,w2,w3,hl⟩
theorem zUR (h:Wa a) (hc:c<a.caches.length) (hp:p<a.zones.length) (hn:0<zLR a p) {x2:List Int×Int} {i1:Int} (hx:at_ x2.1 i1=(p:Int)) :
  (chk (inb (c:Int) a.caches.length)<|chk (inb (at_ x2.1 i1) ((at_ a.caches (c:Int)).lists).length) <|
   (cnd (decide (((at_ ((at_ a.caches (c:Int)).lists) (at_ x2.1 i1)).length:Int)=0)) (zCu (⟨a.nodes,a.batch,a.high,a.zones,a.caches⟩:zH) (c:Int) (at_ x2.1 i1)) (some ((⟨a.nodes,a.batch,a.high,a.zones,a.caches⟩:zH),default))).bind fun x7 =>
   cnd ((decide (((at_ ((at_ a.caches (c:Int)).lists) (at_ x2.1 i1)).length:Int)=0))&&(!x7.2)) (
    zB2 (c:Int) x2 i1 x7 z9 0 x7.1.nodes x7.1.batch x7.1.high x7.1.zones x7.1.caches) (
    zCF (c:Int) x2 i1 x7.1.nodes x7.1.batch x7.1.high x7.1.zones x7.1.caches))=some ((zMA a c p).1,(zMA a c p).2,0):=by
 obtain ⟨w1,w2,w3⟩:=zYm h hc hp
 obtain ⟨v1,v2,v3,v4⟩:=zYX h hc hp hn
 have hcn:=h.n
 have hcn2:=h.cn
 have hcl:=h.cl c hc
 have key:∀ b:zH,Wa b→b.caches.length=a.caches.length→b.zones.length=a.zones.length→Lf b c p≠[]→zCF (c:Int) x2 i1 b.nodes b.batch b.high b.zones b.caches=some (zQW b c p,zPF (at_ b.caches (c:Int)) p,0):=fun b hb h1 h2 h3=>by
  unfold zCF
  rw [hx,zP (zAD (by rw [h1]; exact hc)),zZM (hb.pc (by rw [h1]; exact hc)) (by rw [h2]; exact hp) h3,zAm,ze (by rfl)]
  rfl
 rw [hx,zP (zAD hc),zP (zAD (by rw [hcl]; exact hp))]
 by_cases hl:Lf a c p=[]
 ·have e1:a1A a c p=zRQ a c p:=by unfold a1A; rw [if_pos hl]
  rw [dt (show ((at_ (at_ a.caches (c:Int)).lists (p:Int)).length:Int)=0 by show ((Lf a c p).length:Int)=0; rw [hl]; rfl),zy rfl,show (⟨a.nodes,a.batch,a.high,a.zones,a.caches⟩:zH)=a from rfl,(zIS h hc hp hl).1,zAm, ← e1]
  have hlr:Lf (a1A a c p) c p=(refl a.batch.toNat (Zn a p)).2.reverse:=by rw [e1,zTq h hc hp,if_pos ⟨rfl,rfl⟩,hl,List.nil_append]
  by_cases hr:(refl a.batch.toNat (Zn a p)).2=[]
  ·have hl1:Lf (a1A a c p) c p=[]:=by rw [hlr,hr]; rfl
   have e2:a2A a c p=zRQ (zAn p (a1A a c p).caches.length 0 (a1A a c p)) c p:=by unfold a2A; rw [if_pos hl1]
   obtain ⟨r1,r2,r3,r4,r5,r6,r7⟩:=zIi (p:=p) (a1A a c p).caches.length 0 w1 (by omega) (by rw [w3]; exact hp)
   have hl2:Lf (zAn p (a1A a c p).caches.length 0 (a1A a c p)) c p=[]:=by
    rw [r5]
    split
    ·rfl
    ·exact hl1
   have hq:=(zIS r1 (c:=c) (by rw [r2,w2]; exact hc) (by rw [r3,w3]; exact hp) hl2).1
   rw [zy (by rw [hr]; rfl)]
   refine (zXB (x7:=(a1A a c p,decide (0<(((refl a.batch.toNat (Zn a p)).2).length:Int)))) hx (K:=(a1A a c p).caches.length) rfl (by rw [w2]; exact hc) (by omega) (a1A a c p).caches.length z9 0 (a1A a c p) (by omega) (by unfold z9; omega) w1 rfl (by rw [w3]; exact hp) hl1).trans ?_
   unfold zCp
   rw [hx,show (⟨(zAn p (a1A a c p).caches.length 0 (a1A a c p)).nodes,(zAn p (a1A a c p).caches.length 0 (a1A a c p)).batch,(zAn p (a1A a c p).caches.length 0 (a1A a c p)).high,(zAn p (a1A a c p).caches.length 0 (a1A a c p)).zones,(zAn p (a1A a c p).caches.length 0 (a1A a c p)).caches⟩:zH)=zAn p (a1A a c p).caches.length 0 (a1A a c p) from rfl,hq,zAm, ← e2]
   exact key _ v1 v2 v3 v4
  ·have hl1:Lf (a1A a c p) c p≠[]:=by rw [hlr]; exact fun e=>hr (List.reverse_eq_nil_iff.1 e)
   have e2:a2A a c p=a1A a c p:=by unfold a2A; rw [if_neg hl1]
   have hpos:0<(refl a.batch.toNat (Zn a p)).2.length:=List.length_pos_iff.2 hr
   rw [ze (by rw [dt (show (0:Int)<((refl a.batch.toNat (Zn a p)).2.length:Int) by omega)]; rfl), ← e2]
   exact key _ v1 v2 v3 v4
 ·have e1:a1A a c p=a:=by unfold a1A; rw [if_neg hl]
  have e2:a2A a c p=a:=by unfold a2A; rw [e1,if_neg hl]
  have hne:¬ ((at_ (at_ a.caches (c:Int)).lists (p:Int)).length:Int)=0:=fun e=>hl (List.length_eq_zero_iff.1 (by show (Lf a c p).length=0; have e':((Lf a c p).length:Int)=0:=e; omega))
  rw [df hne,ze rfl,zAm,ze (by rfl)]
  have:=key a h rfl rfl hl
  unfold zMA
  rw [e2]
  exact this
theorem Wa.gn (h:Wa a):Gn a.zones:=by
 have hz:∀ z,z∈a.zones→ranges z=true:=fun z hz=>by
  obtain ⟨q,hq,e⟩:=List.getElem_of_mem hz
  have:=(h.zs q hq).ranges
  unfold Zn at this
  rw [zFY hq,e] at this
  exact this
 exact ⟨h.zn.2,fun z hm=>by have:=zAz (hz z hm); omega,fun z hm=>(zAz (hz z hm)).2.2.1⟩
theorem Wa.vn (h:Wa a) (hc:c<a.nodes.length):0≤at_ a.nodes (c:Int)∧at_ a.nodes (c:Int)<4:=h.nr _ (zA0 hc)
end
end Go.Proofs.Ytplkliakhdkpcaa
namespace Go.Proofs.Ytplkliakhdkpcaa
open Go Go.RowKit Go.Wk Go.Am
section
variable {a:zH} {c p:Nat}
theorem Wa.al (h:Wa a):Al a:=by
 have h1:=h.n
 have h2:=h.zn
 have h3:=h.cn
 refine ⟨by omega,by omega,by omega,fun z hz => ?_,fun x hx => ?_⟩
 ·obtain ⟨q,hq,e⟩:=List.getElem_of_mem hz
  have:=h.zs q hq
  unfold Zn at this
  rw [zFY hq,e] at this
  exact ⟨this.zk,this.inI⟩
 ·obtain ⟨d,hd,e⟩:=List.getElem_of_mem hx
  have:=(h.pc hd).ck
  rw [zFY hd,e] at this
  exact this
theorem Wa.va (h:Wa a):Va a:=by
 refine ⟨h.al,h.se,fun x hx => ?_,h.zn.1⟩
 obtain ⟨d,hd,e⟩:=List.getElem_of_mem hx
 have:=h.cl d hd
 rw [zFY hd,e] at this
 exact this
end
end Go.Proofs.Ytplkliakhdkpcaa
namespace Go.Proofs.Ytplkliakhdkpcaa
open Go Go.RowKit Go.Wk Go.Am
section
variable {l:List Int} {f:Int}
def wo (f:Int) (l:List Int):List Int:=l.filter fun y => !decide (y=f)
theorem zTT {i:Nat} (hi:i<l.length):wo f (l.take (i+1))=if at_ l (i:Int)=f then wo f (l.take i) else wo f (l.take i)++[at_ l (i:Int)]:=by
 unfold wo
 rw [List.take_add_one,List.getElem?_eq_getElem hi, ← zFY hi,List.filter_append]
 by_cases h:at_ l (i:Int)=f
 ·rw [if_pos h]
  show _++List.filter _ [at_ l (i:Int)]=_
  rw [List.filter_cons_of_neg (by rw [dt h]; simp)]
  simp
 ·rw [if_neg h]
  show _++List.filter _ [at_ l (i:Int)]=_
  rw [List.filter_cons_of_pos (by rw [df h]; rfl)]
  simp
theorem zUl (hl:l.length≤1000):∀ (m n i:Nat),i+m=l.length→m<n→f∈l.drop i→f ∉ l.take i → ∃ j:Nat,j<l.length∧wo f (l.take (j+1))=l.take j∧zAF l (fun y=>zBa y f) n (i:Int)=some (j:Int):=by
 intro m
 induction m with
 | zero =>
  intro n i h1 h2 h3 _
  rw [List.drop_eq_nil_of_le (by omega)] at h3
  cases h3
 | succ m ih =>
  intro n i h1 h2 h3 h4
  obtain ⟨n,rfl⟩:=ex1 ‹_<n›
  have hi:i<l.length:=by omega
  have ee:zAF l (fun y=>zBa y f) (n+1) (i:Int)=cnd (decide (at_ l (i:Int)=f)) (some (i:Int)) (zAF l (fun y=>zBa y f) n ((i+1:Nat):Int)):=by
   show zAS _ _ _ _=_
   unfold zAS zBa
   rw [zy (dt (by omega)),zP (zAD hi),zAm,zP (zu (by omega))]
   rfl
  rw [ee]
  by_cases h:at_ l (i:Int)=f
  ·rw [zy (dt h)]
   refine ⟨i,hi,?_,rfl⟩
   rw [zTT hi,if_pos h]
   exact List.filter_eq_self.2 fun y hy=>by rw [df (fun e:y=f=>h4 (e▸hy))]; rfl
  ·rw [ze (df h)]
   rw [zCk hi] at h3
   refine ih n (i+1) (by omega) (by omega) ((List.mem_cons.1 h3).resolve_left (fun e=>h e.symm)) (fun hm => ?_)
   rw [List.take_add_one,List.getElem?_eq_getElem hi, ← zFY hi] at hm
   rcases List.mem_append.1 hm with hm | hm
   ·exact h4 hm
   ·exact h (List.mem_singleton.1 hm).symm
theorem zVH (hl:l.length≤1000):∀ (m n j i:Nat) (q:List Int),j+m=l.length→m<n→i≤j→q.length=l.length→q.take i=wo f (l.take j)→q.drop j=l.drop j→zA2 (fun y=>zBa y f) n (i:Int) (j:Int) q=some (wo f l):=by
 intro m
 induction m with
 | zero =>
  intro n j i q h1 h2 h3 h4 h5 h6
  obtain ⟨n,rfl⟩:=ex1 ‹_<n›
  have e:zIk q (i:Int)=q.take i++List.replicate (q.length - i) 0:=rfl
  have hcl:(zIk q (i:Int)).length=q.length:=by rw [e,List.length_append,List.length_take,List.length_replicate]; omega
  show zAl _ _ _ _ _=_
  unfold zAl zBq
  rw [ze (df (by omega)),zP (by unfold zGw; simp; omega),zP (by rw [hcl]; unfold zGw; simp; omega)]
  unfold zFD
  rw [Int.toNat_natCast,e,List.take_left' (by rw [List.length_take]; omega),h5,List.take_of_length_le (by omega)]
  rfl
 | succ m ih =>
  intro n j i q h1 h2 h3 h4 h5 h6
  obtain ⟨n,rfl⟩:=ex1 ‹_<n›
  have hj:j<l.length:=by omega
  have hjq:j<q.length:=by omega
  have hiq:i<q.length:=by omega
  have h6':=h6
  rw [zCk hj,zCk hjq] at h6
  obtain ⟨ea,ed⟩:=List.cons.inj h6
  have hw:=zTT (f:=f) hj
  show zAl _ _ _ _ _=_
  unfold zAl zBL zBa
  rw [zy (dt (by omega)),zP (zAD hjq),zAm,zP (zAD hiq),zP (zu (by omega)),zP (zu (by omega)),zP (zu (by omega)),ea,Int.toNat_natCast]
  by_cases h:at_ l (j:Int)=f
  ·rw [dt h,Bool.not_true,ze rfl]
   rw [if_pos h] at hw
   exact ih n (j+1) i q (by omega) (by omega) (by omega) h4 (by rw [h5,hw]) ed
  ·rw [df h,Bool.not_false,zy rfl]
   rw [if_neg h] at hw
   refine ih n (j+1) (i+1) _ (by omega) (by omega) (by omega) (by rw [List.length_set]; exact h4) ?_ ?_
   ·rw [hw,List.take_add_one,List.getElem?_set_self hiq,List.take_set_of_le (Nat.le_refl i),h5]
    rfl
   ·rw [List.drop_set_of_lt (by omega)]
    exact ed
theorem zZd (hl:l.length≤1000) (hf:f∈l):zBe l (fun y=>zBa y f)=some (wo f l):=by
 obtain ⟨j,j1,j2,j3⟩:=zUl (f:=f) hl l.length z9 0 (by omega) (by unfold z9; omega) hf (by simp)
 unfold zBe zBO
 rw [z0i,j3,zAm,ze (df (by omega)),zP (zu (by omega))]
 exact zVH hl (l.length - (j+1)) z9 (j+1) j l (by omega) (by unfold z9; omega) (by omega) rfl j2.symm rfl
end
section
variable {a:zH}
theorem zZE (h:Va a) {f:Int} {p:Nat} (hp:p<a.zones.length):∀ (m n j:Nat),j+m=a.caches.length→m<n → ∃ r,zx a.caches (fun y=>zAk y (p:Int) f) n (j:Int)=some r∧(r = -1 ∨ ∃ c:Nat,r=(c:Int)∧c<a.caches.length∧f∈Lf a c p):=by
 have hcl:=h.al.c
 intro m
 induction m with
 | zero =>
  intro n j h1 h2
  obtain ⟨n,rfl⟩:=ex1 ‹_<n›
  refine ⟨-1,?_,.inl rfl⟩
  show zg _ _ _ _=_
  unfold zg
  rw [ze (df (by omega))]
  rfl
 | succ m ih =>
  intro n j h1 h2
  obtain ⟨n,rfl⟩:=ex1 ‹_<n›
  have hj:j<a.caches.length:=by omega
  have hl:=h.len _ (zA0 hj)
  have hb:=(h.al.ck _ (zA0 hj)).l _ (zA0 (show p<(at_ a.caches (j:Int)).lists.length by omega))
  have h1c:zAk (at_ a.caches (j:Int)) (p:Int) f=some (decide (f∈at_ (at_ a.caches (j:Int)).lists (p:Int))):=by
   unfold zAk
   rw [zP (zAD (by omega)),contains hb]
   rfl
  obtain ⟨r,r1,r2⟩:=ih n (j+1) (by omega) (by omega)
  show ∃ r,zg _ _ _ _=some r∧_
  unfold zg
  rw [zy (dt (by omega)),zP (zAD hj),zP (zu (by omega))]
  show ∃ r,((zAk (at_ a.caches (j:Int)) (p:Int) f).bind _)=some r∧_
  rw [h1c,zAm]
  by_cases hm:f∈at_ (at_ a.caches (j:Int)).lists (p:Int)
  ·rw [zy (dt hm)]
   exact ⟨_,rfl,.inr ⟨j,rfl,hj,hm⟩⟩
  ·rw [ze (df hm)]
   exact ⟨r,r1,r2⟩
theorem zZD (h:Va a) {f:Int} {p:Nat} (hp:p<a.zones.length):∀ (m n j:Nat),j+m=a.caches.length→m<n → ∃ r,zCl a (p:Int) f n (j:Int)=some r∧(r = -1 ∨ ∃ c:Nat,r=(c:Int)∧c<a.caches.length∧f∈Lf a c p):=by
 have hcl:=h.al.c
 intro m
 induction m with
 | zero =>
  intro n j h1 h2
  obtain ⟨n,rfl⟩:=ex1 ‹_<n›
  refine ⟨-1,?_,.inl rfl⟩
  show zCD _ _ _ _ _=_
  unfold zCD
  rw [ze (df (by omega))]
  rfl
 | succ m ih =>
  intro n j h1 h2
  obtain ⟨n,rfl⟩:=ex1 ‹_<n›
  have hj:j<a.caches.length:=by omega
  have hlen:=h.len _ (zA0 hj)
  have hb:=(h.al.ck _ (zA0 hj)).l _ (zA0 (show p<(at_ a.caches (j:Int)).lists.length by omega))
  obtain ⟨i1,i2⟩:=zXp (se:=zCl a (p:Int) f n) (f:=f) h hp hj rfl _ z9 0 (Nat.zero_add _) (by unfold z9; omega)
  rw [List.drop_zero] at i1 i2
  obtain ⟨r,r1,r2⟩:=ih n (j+1) (by omega) (by omega)
  show ∃ r,zCD _ _ _ _ _=some r∧_
  unfold zCD
  rw [zy (dt (by omega)),z0i]
  by_cases hm:f∈at_ (at_ a.caches (j:Int)).lists (p:Int)
  ·exact ⟨_,i1 hm,.inr ⟨j,rfl,hj,hm⟩⟩
  ·exact ⟨r,(i2 hm).trans r1,r2⟩
theorem zXI (h:Va a) (hw:Wa a) {f:Int} {p:Nat} (hp:p<a.zones.length):∃ r,zCN a (p:Int) f=some r∧zKn a (p:Int) f=some r∧((r = -1 ∧ ∀ c,c<a.caches.length→f ∉ Lf a c p) ∨ ∃ c:Nat,r=(c:Int)∧c<a.caches.length∧f∈Lf a c p):=by
 have hcl:=h.al.c
 obtain ⟨r,q,s⟩:=zUF h (f:=f) hp a.caches.length z9 0 (by omega) (by unfold z9; omega)
 obtain ⟨r',q',s'⟩:=zTK h (f:=f) hp a.caches.length z9 0 (by omega) (by unfold z9; omega)
 obtain ⟨x,u,v⟩:=zZE h (f:=f) hp a.caches.length z9 0 (by omega) (by unfold z9; omega)
 obtain ⟨x',u',v'⟩:=zZD h (f:=f) hp a.caches.length z9 0 (by omega) (by unfold z9; omega)
 have e:=Option.some.inj (q.symm.trans u)
 have e':=Option.some.inj (q'.symm.trans u')
 subst e e'
 rw [List.drop_zero] at s s'
 have hex:(∃ c,c∈a.caches∧f∈at_ c.lists (p:Int)) ↔ ∃ c,c<a.caches.length∧f∈Lf a c p:=by
  constructor
  ·rintro ⟨c,h1,h2⟩
   obtain ⟨d,hd,e⟩:=List.getElem_of_mem h1
   exact ⟨d,hd,by unfold Lf; rw [zFY hd,e]; exact h2⟩
  ·rintro ⟨c,h1,h2⟩
   exact ⟨_,zA0 h1,h2⟩
 rw [hex] at s s'
 have hrr:r'=r:=by
  rcases v with v | ⟨c,v1,v2,v3⟩
  ·rcases v' with v' | ⟨c',v1',v2',v3'⟩
   ·rw [v,v']
   ·have:=s.2 ⟨c',v2',v3'⟩; omega
  ·rcases v' with v' | ⟨c',v1',v2',v3'⟩
   ·have:=s'.2 ⟨c,v2,v3⟩; omega
   ·rw [v1,v1',(hw.dis c c' p p f v2 v2' v3 v3').1]
 subst hrr
 refine ⟨r',?_,q',?_⟩
 ·unfold zCN zAW
  rw [z0i,q]
  rfl
 ·rcases v with v | v
  ·exact .inl ⟨v,fun c hc hm=>by have:=s.2 ⟨c,hc,hm⟩; omega⟩
  ·exact .inr v
theorem zZJ (h:Wa a) {c p:Nat} {f:Int} (hc:c<a.caches.length) (hp:p<a.zones.length):Wa (upd a c p (wo f (Lf a c p)) (Zn a p)):=by
 have hs:∀ g,g∈wo f (Lf a c p)→g∈Lf a c p:=fun g hg=>(List.mem_filter.1 hg).1
 refine zNi h hc hp (h.zs p hp) ⟨rfl,rfl,rfl,rfl,rfl⟩ ?_ ((h.nd c p hc).sublist List.filter_sublist) (fun g hg=>h.own c p g hc (hs g hg)) (fun d g hd hdc hg=>⟨fun hm=>hdc (h.dis d c p p g hd hc hg (hs g hm)).1,(h.own d p g hd hg).2⟩)
 have h1:=h.lim c p hc
 have h2:(wo f (Lf a c p)).length≤(Lf a c p).length:=List.length_filter_le _ _
 omega
def zFi (c:Nat):Nat→Nat→zH→zH
 | 0,_,a=>a
 | m+1,p,a=>zFi c m (p+1) (zFj a c p)
def zNL:Nat→Nat→zH→zH
 | 0,_,a=>a
 | m+1,c,a=>zNL m (c+1) (zFi c a.zones.length 0 a)
theorem zNy {c:Nat}:∀ (m p:Nat) {b:zH},Wa b→c<b.caches.length→p+m≤b.zones.length→Wa (zFi c m p b)∧(zFi c m p b).caches.length=b.caches.length∧(zFi c m p b).zones.length=b.zones.length
 | 0,_,b,h,_,_=>⟨h,rfl,rfl⟩
 | m+1,p,b,h,hc,hp=>by
  obtain ⟨_,_,d3⟩:=zJZ h hc (show p<b.zones.length by omega)
  obtain ⟨r1,r2,r3⟩:=zNy (c:=c) m (p+1) d3 (by rw [zEJ.1]; exact hc) (by rw [zEJ.2]; omega)
  exact ⟨r1,r2.trans zEJ.1,r3.trans zEJ.2⟩
theorem zXx {c K:Nat} {l3:List zW} {se:Int→List Int→Int→Int→List zW→List zK→Option zH} (hl:l3.length=K) (hK:K≤1000) (hcK:c≤1000):∀ (m n i:Nat) (b:zH),i+m=K→m<n→Wa b→b.zones.length=K→c<b.caches.length →
  zDh se (c:Int) l3 n (i:Int) b.nodes b.batch b.high b.zones b.caches=se ((c+1:Nat):Int) (zFi c m i b).nodes (zFi c m i b).batch (zFi c m i b).high (zFi c m i b).zones (zFi c m i b).caches:=by
 intro m
 induction m with
 | zero =>
  intro n i b h1 h2 hw hb hc
  obtain ⟨n,rfl⟩:=ex1 ‹_<n›
  show zB9 _ _ _ _ _ _ _ _ _ _=_
  unfold zB9 zE0
  rw [ze (df (by omega)),zP (zu (by omega))]
  rfl
 | succ m ih =>
  intro n i b h1 h2 hw hb hc
  obtain ⟨n,rfl⟩:=ex1 ‹_<n›
  obtain ⟨d1,d2,d3⟩:=zJZ hw hc (p:=i) (by omega)
  have q:=ih n (i+1) (zFj b c i) (by omega) (by omega) d3 (zEJ.2.trans hb) (by rw [zEJ.1]; exact hc)
  show zB9 _ _ _ _ _ _ _ _ _ _=_
  unfold zB9
  rw [zy (dt (by omega)),show (⟨b.nodes,b.batch,b.high,b.zones,b.caches⟩:zH)=b from rfl,d1,zAm,zP (zu (by omega)),show zFi c (m+1) i b=zFi c m (i+1) (zFj b c i) from rfl]
  exact q
theorem zWY {K:Nat} {x:zH} (hx:x.caches.length=K) (hK:K≤100):∀ (m n c:Nat) (b:zH),c+m=K→m<n→Wa b→b.caches.length=K →
  zBQ x n (c:Int) b.nodes b.batch b.high b.zones b.caches=some (zNL m c b):=by
 intro m
 induction m with
 | zero =>
  intro n c b h1 h2 hw hb
  obtain ⟨n,rfl⟩:=ex1 ‹_<n›
  show zCA _ _ _ _ _ _ _ _=_
  unfold zCA
  rw [ze (df (by omega))]
  rfl
 | succ m ih =>
  intro n c b h1 h2 hw hb
  obtain ⟨n,rfl⟩:=ex1 ‹_<n›
  have hz:=hw.zn
  obtain ⟨r1,r2,r3⟩:=zNy (c:=c) b.zones.length 0 hw (by omega) (by omega)
  show zCA _ _ _ _ _ _ _ _=_
  unfold zCA
  rw [zy (dt (by omega)),z0i,zXx rfl (by omega) (by omega) b.zones.length z9 0 b (by omega) (by unfold z9; omega) hw rfl (by omega)]
  exact ih n (c+1) _ (by omega) (by omega) r1 (by omega)
end
end Go.Proofs.Ytplkliakhdkpcaa
namespace Go.Proofs.Ytplkliakhdkpcaa
open Go Go.RowKit Go.Wk Go.Am
theorem zXt {z:zW} (hr:ranges z=true):∀ (l:List Int) (d:List Bool),d.length=256→(∀ f,f∈l→inZ z f=true∧zKm z f=false∧d.getD f.toNat false=false)→l.Nodup→(feL z d l).1=0
 | [],d,_,_,_=>rfl
 | f::r,d,hd,h,hn=>by
  have hf:=h f (by simp)
  have hb:=zMr hr hf.1
  have hn':=List.nodup_cons.1 hn
  unfold feL
  rw [if_pos hf.1,if_neg (by rw [hf.2.1,hf.2.2]; simp)]
  refine zXt hr r _ (by rw [List.length_set]; exact hd) (fun g hg => ?_) hn'.2
  have hg':=h g (by simp [hg])
  have hbg:=zMr hr hg'.1
  refine ⟨hg'.1,hg'.2.1,?_⟩
  rw [zBu _ _ _ (by omega),if_neg (fun e=>hn'.1 (by rw [show f=g by omega]; exact hg))]
  exact hg'.2.2
theorem zXw:∀ (zs:List zW) (ls:List (List Int)) (d:List Bool),(∀ z,z∈zs→ranges z=true)→ls.length=zs.length→d.length=256 →
  (∀ (p:Nat) z l,zs[p]?=some z→ls[p]?=some l→(∀ f,f∈l→inZ z f=true∧zKm z f=false∧d.getD f.toNat false=false)∧l.Nodup) →
  (∀ (p q:Nat) l m f,ls[p]?=some l→ls[q]?=some m→f∈l→f∈m→p=q)→(feC d zs ls).1=0
 | [],[],d,_,_,_,_,_=>rfl
 | [],_::_,_,_,hl,_,_,_=>by simp at hl
 | _::_,[],_,_,hl,_,_,_=>by simp at hl
 | z::zs,l::ls,d,hr,hl,hd,h,hq=>by
  have hrz:=hr z (by simp)
  have h0:=h 0 z l rfl rfl
  have e0:=zXt hrz l d hd h0.1 h0.2
  obtain ⟨j1,j2,j3⟩:=zTs hrz l d hd e0
  unfold feC
  rw [if_pos e0]
  refine zXw zs ls _ (fun y hy=>hr y (by simp [hy])) (by simpa using hl) (by rw [zMX]; exact hd) (fun p y m hy hm => ?_) (fun p q a b f ha hb hfa hfb => ?_)
  ·have h1:=h (p+1) y m (by simpa using hy) (by simpa using hm)
   refine ⟨fun f hf => ?_,h1.2⟩
   have h2:=h1.1 f hf
   refine ⟨h2.1,h2.2.1,Bool.eq_false_iff.2 fun ht => ?_⟩
   have hb:=zMr (hr y (List.mem_of_getElem? (i:=p+1) (by simpa using hy))) h2.1
   rcases (j3 f.toNat).1 ht with h3 | h3
   ·rw [h2.2.2] at h3; cases h3
   ·rw [zQa hb.1] at h3
    exact absurd (hq 0 (p+1) l m f rfl (by simpa using hm) h3 hf) (by omega)
  ·have:=hq (p+1) (q+1) a b f (by simpa using ha) (by simpa using hb) hfa hfb
   omega
theorem zXk {zs:List zW} (hr:∀ z,z∈zs→ranges z=true):∀ (cs:List zK) (d:List Bool),(∀ c,c∈cs→c.lists.length=zs.length)→d.length=256 →
  (∀ c,c∈cs → ∀ (p:Nat) z l,zs[p]?=some z→c.lists[p]?=some l→(∀ f,f∈l→inZ z f=true∧zKm z f=false∧d.getD f.toNat false=false)∧l.Nodup) →
  (∀ c,c∈cs → ∀ (p q:Nat) l m f,c.lists[p]?=some l→c.lists[q]?=some m→f∈l→f∈m→p=q) →
  (∀ (i j:Nat) x y l m f,cs[i]?=some x→cs[j]?=some y→l∈x.lists→m∈y.lists→f∈l→f∈m→i=j)→feA zs d cs=0
 | [],_,_,_,_,_,_=>rfl
 | c::cs,d,hl,hd,h1,h2,h3=>by
  have hcl:=hl c (by simp)
  have e0:=zXw zs c.lists d hr hcl hd (h1 c (by simp)) (h2 c (by simp))
  obtain ⟨j1,j2,j3,j4⟩:=zVp zs c.lists d hr hcl hd e0
  unfold feA
  rw [if_pos e0]
  refine zXk hr cs _ (fun x hx=>hl x (by simp [hx])) (by rw [zQt]; exact hd) (fun x hx p z l hz hxl => ?_) (fun x hx=>h2 x (by simp [hx])) (fun i j x y l m f hi hj=>fun a1 a2 a3 a4 => ?_)
  ·have h4:=h1 x (by simp [hx]) p z l hz hxl
   refine ⟨fun f hf => ?_,h4.2⟩
   have h5:=h4.1 f hf
   refine ⟨h5.1,h5.2.1,Bool.eq_false_iff.2 fun ht => ?_⟩
   have hb:=zMr (hr z (List.mem_of_getElem? hz)) h5.1
   rcases (j3 f.toNat).1 ht with h6 | ⟨m,h6,h7⟩
   ·rw [h5.2.2] at h6; cases h6
   ·rw [zQa hb.1] at h7
    obtain ⟨i,hi,e⟩:=List.getElem_of_mem hx
    exact absurd (h3 0 (i+1) c x m l f rfl (by simp [hi,e]) h6 (List.mem_of_getElem? hxl) h7 hf) (by omega)
  ·have:=h3 (i+1) (j+1) x y l m f (by simpa using hi) (by simpa using hj) a1 a2 a3 a4
   omega
theorem zZT {h zn:Int}:∀ {cs:List zK},(∀ c,c∈cs→pcR c zn=0 ∧ ∀ l,l∈c.lists→(l.length:Int)≤h)→cE h zn cs=0
 | [],_=>rfl
 | c::cs,hh=>by
  have h0:=hh c (by simp)
  unfold cE
  rw [if_pos h0.1,if_neg (fun e=>by
   obtain ⟨l,hl,hd⟩:=List.any_eq_true.1 e
   have:=h0.2 l hl
   have:=of_decide_eq_true hd
   omega)]
  exact zZT (fun x hx=>hh x (by simp [hx]))
section
variable {a b:zH} {c p:Nat}
theorem Wa.lst_at (h:Wa a) (hc:c<a.caches.length) {l:List Int} (hl:l∈(at_ a.caches (c:Int)).lists):∃ p,p<a.zones.length∧l=Lf a c p:=by
 obtain ⟨p,hp,e⟩:=List.getElem_of_mem hl
 exact ⟨p,by rw [← h.cl c hc]; exact hp,by unfold Lf; rw [zFY hp,e]⟩
theorem zX3 (h:Wa a):zYv a=0:=by
 have h1:=h.n
 have h2:=h.zn
 have h3:=h.bh
 have h4:=h.cn
 have hr:∀ z,z∈a.zones→ranges z=true:=fun z hz=>zFV (h.va.chk hz)
 have hf:zUs a.nodes a.batch a.high (a.zones.length:Int)=true:=by
  unfold zUs zLr
  rw [df (by omega),df (by omega),df (by omega),df (by omega),df (by omega),df (by omega),df (by omega)]
  rw [show a.nodes.any zPA=false from List.any_eq_false.2 fun v hv=>by
   have:=h.nr v hv
   unfold zPA
   rw [df (by omega),df (by omega)]
   simp]
  rfl
 have hi:∀ (i:Nat) x,a.caches[i]?=some x→i<a.caches.length∧x=at_ a.caches (i:Int):=fun i x e=>⟨(List.getElem?_eq_some_iff.1 e).1,(zXb e).symm⟩
 unfold zYv
 rw [if_pos hf,if_pos h.se,if_pos (by omega),if_pos (zZT fun x hx => ?_)]
 ·refine zXk hr a.caches zEy h.va.len zJz (fun x hx q z l hz hl => ?_) (fun x hx q r l m f hl hm hfl hfm => ?_) (fun i j x y l m f hx hy hl hm hfl hfm => ?_)
  ·obtain ⟨i,hxi,e⟩:=List.getElem_of_mem hx
   have ex:x=at_ a.caches (i:Int):=by rw [zFY hxi,e]
   subst ex
   have hq:=(List.getElem?_eq_some_iff.1 hz).1
   have el:l=Lf a i q:=(zXb hl).symm
   have ez:z=Zn a q:=(zXb hz).symm
   subst el
   subst ez
   refine ⟨fun f hfm => ?_,h.nd i q hxi⟩
   have ho:=h.own i q f hxi hfm
   have hk:=(h.zs q hq).zk
   refine ⟨(zPy (h.zs q hq).ranges).2 ho.1,Bool.eq_false_iff.2 fun ht=>ho.2 ((zRm hk (zCy (h.zs q hq)) ho.1).1 ht),?_⟩
   unfold zEy
   rw [List.getD_eq_getElem?_getD,List.getElem?_replicate]
   split <;> rfl
  ·obtain ⟨i,hxi,e⟩:=List.getElem_of_mem hx
   have ex:x=at_ a.caches (i:Int):=by rw [zFY hxi,e]
   subst ex
   have e1:l=Lf a i q:=(zXb hl).symm
   have e2:m=Lf a i r:=(zXb hm).symm
   subst e1
   subst e2
   exact (h.dis i i q r f hxi hxi hfl hfm).2
  ·obtain ⟨hi1,e1⟩:=hi i x hx
   obtain ⟨hj1,e2⟩:=hi j y hy
   subst e1
   subst e2
   obtain ⟨q,_,el⟩:=h.lst_at hi1 hl
   obtain ⟨r,_,em⟩:=h.lst_at hj1 hm
   subst el
   subst em
   exact (h.dis i j q r f hi1 hj1 hfl hfm).1
 ·obtain ⟨i,hxi,e⟩:=List.getElem_of_mem hx
  have ex:x=at_ a.caches (i:Int):=by rw [zFY hxi,e]
  subst ex
  refine ⟨(h.pc hxi).r,fun l hl => ?_⟩
  obtain ⟨q,_,el⟩:=h.lst_at hxi hl
  subst el
  exact h.lim i q hxi
theorem zJ4 (h:Wa a):zAo a=some 0:=by rw [zYQ h.al,zX3 h]
structure Shp (a b:zH):Prop where
 n:b.nodes=a.nodes
 ba:b.batch=a.batch
 hi:b.high=a.high
 cl:b.caches.length=a.caches.length
 zl:b.zones.length=a.zones.length
 z:∀ p,p<a.zones.length→zEf (Zn b p) (Zn a p)
theorem Shp.refl:Shp a a:=⟨rfl,rfl,rfl,rfl,rfl,fun _ _=>⟨rfl,rfl,rfl,rfl,rfl⟩⟩
theorem Shp.trans {d:zH} (h:Shp a b) (g:Shp b d):Shp a d:=⟨g.n.trans h.n,g.ba.trans h.ba,g.hi.trans h.hi,g.cl.trans h.cl,g.zl.trans h.zl,fun p hp=>(g.z p (by rw [h.zl]; exact hp)).trans (h.z p hp)⟩
def FrP (a:zH) (p:Nat) (f:Int):Prop:=cov (Zn a p) f ∨ ∃ c,c<a.caches.length∧f∈Lf a c p
theorem FrP.ins (h:Wa a) (hp:p<a.zones.length) {f:Int} (hf:FrP a p f):inside (Zn a p) f 0=true:=by
 rcases hf with ⟨k,x,hx,h1,h2⟩ | ⟨d,hd,hm⟩
 ·have ho:=h.zs p hp
  have hb:=zAQ ho.ranges (ho.ins k x hx)
  have h3:=(zAs ho.ranges).1 (ho.ins k x hx)
  refine (zAs ho.ranges).2 ⟨by omega,?_,?_,?_⟩
  ·rw [pw0]; omega
  ·rw [pw0]; have:=zAz ho.ranges; omega
  ·rw [pw0]; omega
 ·exact (h.own d p f hd hm).1
def Frs (a b:zH) (p:Nat) (P:Int→Prop):Prop:=(∀ g,FrP b p g↔P g) ∧ ∀ q,q≠p→q<a.zones.length → ∀ g,FrP b q g↔FrP a q g
theorem zLf (h:Wa a) (hc:c<a.caches.length) (hp:p<a.zones.length) {l:List Int} {z:zW} (h5:zEf z (Zn a p)) {P:Int→Prop} (hP:∀ g,(cov z g∨g∈l ∨ ∃ d,d<a.caches.length∧d≠c∧g∈Lf a d p)↔P g):Shp a (upd a c p l z)∧Frs a (upd a c p l z) p P:=by
 have hZ:=fun q=>zST (c:=c) (l:=l) (z:=z) hp q
 have hL:=fun d q=>zSI (l:=l) (z:=z) h hc hp d q
 have hcl:(upd a c p l z).caches.length=a.caches.length:=List.length_set
 refine ⟨⟨rfl,rfl,rfl,hcl,List.length_set,fun q hq => ?_⟩,fun g => ?_,fun q hq hql g => ?_⟩
 ·rw [hZ q]
  by_cases e:q=p
  ·rw [if_pos e,e]; exact h5
  ·rw [if_neg e]; exact ⟨rfl,rfl,rfl,rfl,rfl⟩
 ·rw [← hP g]
  unfold FrP
  rw [hcl,hZ p,if_pos rfl]
  constructor
  ·rintro (h1 | ⟨d,h1,h2⟩)
   ·exact .inl h1
   ·rw [hL] at h2
    by_cases e:d=c
    ·rw [if_pos ⟨e,rfl⟩] at h2; exact .inr (.inl h2)
    ·rw [if_neg (fun x=>e x.1)] at h2; exact .inr (.inr ⟨d,h1,e,h2⟩)
  ·rintro (h1 | h1 | ⟨d,h1,e,h2⟩)
   ·exact .inl h1
   ·exact .inr ⟨c,hc,by rw [hL,if_pos ⟨rfl,rfl⟩]; exact h1⟩
   ·exact .inr ⟨d,h1,by rw [hL,if_neg (fun x=>e x.1)]; exact h2⟩
 ·unfold FrP
  rw [hcl,hZ q,if_neg hq]
  constructor
  ·rintro (h1 | ⟨d,h1,h2⟩)
   ·exact .inl h1
   ·rw [hL,if_neg (fun x=>hq x.2)] at h2; exact .inr ⟨d,h1,h2⟩
  ·rintro (h1 | ⟨d,h1,h2⟩)
   ·exact .inl h1
   ·exact .inr ⟨d,h1,by rw [hL,if_neg (fun x=>hq x.2)]; exact h2⟩
theorem zIO (hc:c<a.caches.length) {g:Int}:FrP a p g↔cov (Zn a p) g∨g∈Lf a c p ∨ ∃ d,d<a.caches.length∧d≠c∧g∈Lf a d p:=by
 unfold FrP
 constructor
 ·rintro (h | ⟨d,h1,h2⟩)
  ·exact .inl h
  ·by_cases e:d=c
   ·subst e; exact .inr (.inl h2)
   ·exact .inr (.inr ⟨d,h1,e,h2⟩)
 ·rintro (h | h | ⟨d,h1,_,h2⟩)
  ·exact .inl h
  ·exact .inr ⟨c,hc,h⟩
  ·exact .inr ⟨d,h1,h2⟩
def zPN (a b:zH):Prop:=Wa b∧Shp a b ∧ ∀ q,q<a.zones.length → ∀ g,FrP b q g↔FrP a q g
theorem zPN.refl (h:Wa a):zPN a a:=⟨h,Shp.refl,fun _ _ _=>Iff.rfl⟩
theorem zPN.trans {d:zH} (h:zPN a b) (g:zPN b d):zPN a d:=⟨g.1,h.2.1.trans g.2.1,fun q hq x=>(g.2.2 q (by rw [h.2.1.zl]; exact hq) x).trans (h.2.2 q hq x)⟩
theorem zUH (hb:Wa b) (h:Shp a b) (hf:Frs a b p (FrP a p)):zPN a b:=⟨hb,h,fun q hq g=>by
 by_cases e:q=p
 ·subst e; exact hf.1 g
 ·exact hf.2 q e hq g⟩
theorem zSB (h:Wa a) (hc:c<a.caches.length) (hp:p<a.zones.length) (hl:Lf a c p=[]):zPN a (zRQ a c p):=by
 obtain ⟨r1,r2,r3,r4,r5,r6⟩:=zQ3 a.batch.toNat (h.zs p hp)
 obtain ⟨s1,s2⟩:=zLf h hc hp (l:=Lf a c p++(refl a.batch.toNat (Zn a p)).2.reverse) r2 (P:=FrP a p) (fun g=>by
  rw [zIO hc,r6,hl,List.nil_append,List.mem_reverse]
  constructor
  ·rintro (h1 | h1 | h1)
   ·exact .inl h1.1
   ·exact .inl (r5 g h1).2
   ·exact .inr (.inr h1)
  ·rintro (h1 | h1 | h1)
   ·by_cases hg:g∈(refl a.batch.toNat (Zn a p)).2
    ·exact .inr (.inl hg)
    ·exact .inl ⟨h1,hg⟩
   ·cases h1
   ·exact .inr (.inr h1))
 exact zUH (zIS h hc hp hl).2.2 s1 s2
theorem zOl (h:Wa a) (hc:c<a.caches.length) (hp:p<a.zones.length):zPN a (zFj a c p):=by
 obtain ⟨g1,g2,g3⟩:=zKt (Lf a c p) (h.zs p hp) (fun f hf=>h.own c p f hc hf) (h.nd c p hc)
 obtain ⟨s1,s2⟩:=zLf h hc hp (l:=[]) g3 (P:=FrP a p) (fun g=>by
  rw [zIO hc,g2]
  constructor
  ·rintro ((h1 | h1) | h1 | h1)
   ·exact .inl h1
   ·exact .inr (.inl h1)
   ·cases h1
   ·exact .inr (.inr h1)
  ·rintro (h1 | h1 | h1)
   ·exact .inl (.inl h1)
   ·exact .inl (.inr h1)
   ·exact .inr (.inr h1))
 exact zUH (zJZ h hc hp).2.2 s1 s2
theorem zQY:∀ (m i:Nat) {a:zH},Wa a→i+m≤a.caches.length→p<a.zones.length→zPN a (zAn p m i a)
 | 0,i,a,h,_,_=>zPN.refl h
 | m+1,i,a,h,hm,hp=>by
  have hs:=zOl h (c:=i) (by omega) hp
  exact hs.trans (zQY m (i+1) hs.1 (by rw [zEJ.1]; omega) (by rw [zEJ.2]; exact hp))
theorem zR8:∀ (m q:Nat) {b:zH},Wa b→c<b.caches.length→q+m≤b.zones.length→zPN b (zFi c m q b)
 | 0,q,b,h,_,_=>zPN.refl h
 | m+1,q,b,h,hc,hm=>by
  have hs:=zOl h hc (p:=q) (by omega)
  exact hs.trans (zR8 m (q+1) hs.1 (by rw [zEJ.1]; exact hc) (by rw [zEJ.2]; omega))
theorem zRu:∀ (m c:Nat) {b:zH},Wa b→c+m≤b.caches.length→zPN b (zNL m c b)
 | 0,c,b,h,_=>zPN.refl h
 | m+1,c,b,h,hm=>by
  have hs:=zR8 (c:=c) b.zones.length 0 h (by omega) (by omega)
  exact hs.trans (zRu m (c+1) hs.1 (by rw [hs.2.1.cl]; omega))
theorem zWJ (h:Wa a) (hc:c<a.caches.length) (hp:p<a.zones.length):zPN a (a1A a c p):=by
 unfold a1A
 by_cases hl:Lf a c p=[]
 ·rw [if_pos hl]; exact zSB h hc hp hl
 ·rw [if_neg hl]; exact zPN.refl h
theorem zVy (h:Wa a) (hc:c<a.caches.length) (hp:p<a.zones.length):zPN a (a2A a c p):=by
 have s1:=zWJ h hc hp
 have hc1:c<(a1A a c p).caches.length:=by rw [s1.2.1.cl]; exact hc
 have hp1:p<(a1A a c p).zones.length:=by rw [s1.2.1.zl]; exact hp
 unfold a2A
 by_cases hl:Lf (a1A a c p) c p=[]
 ·rw [if_pos hl]
  have s2:=zQY (p:=p) (a1A a c p).caches.length 0 s1.1 (by omega) hp1
  obtain ⟨r1,r2,r3,r4,r5,r6,r7⟩:=zIi (p:=p) (a1A a c p).caches.length 0 s1.1 (by omega) hp1
  have hl2:Lf (zAn p (a1A a c p).caches.length 0 (a1A a c p)) c p=[]:=by
   rw [r5]
   split
   ·rfl
   ·exact hl
  exact s1.trans (s2.trans (zSB s2.1 (by rw [r2]; exact hc1) (by rw [r3]; exact hp1) hl2))
 ·rw [if_neg hl]; exact s1
theorem zVz (h:Wa a) (hc:c<a.caches.length) (hp:p<a.zones.length) (hne:Lf a c p≠[]):Wa (zQW a c p)∧Shp a (zQW a c p)∧Frs a (zQW a c p) p (fun g=>FrP a p g∧g≠zPF (at_ a.caches (c:Int)) p)∧FrP a p (zPF (at_ a.caches (c:Int)) p):=by
 have hpos:0<(Lf a c p).length:=List.length_pos_iff.2 hne
 have hx:zPF (at_ a.caches (c:Int)) p=at_ (Lf a c p) (((Lf a c p).length - 1:Nat):Int):=by
  unfold zPF
  show at_ (Lf a c p) (((Lf a c p).length:Int) - 1)=_
  rw [show (((Lf a c p).length:Int) - 1)=(((Lf a c p).length - 1:Nat):Int) by omega]
 generalize hxx:zPF (at_ a.caches (c:Int)) p=x at hx ⊢
 have hspl:Lf a c p=(Lf a c p).take ((Lf a c p).length - 1)++[x]:=by
  have:=List.take_append_drop ((Lf a c p).length - 1) (Lf a c p)
  rw [zCk (show (Lf a c p).length - 1<(Lf a c p).length by omega), ← hx,List.drop_eq_nil_of_le (by omega)] at this
  exact this.symm
 have hxm:x∈Lf a c p:=by rw [hspl]; simp
 have hnd:=h.nd c p hc
 rw [hspl,List.nodup_append] at hnd
 have ho:=h.own c p x hc hxm
 obtain ⟨s1,s2⟩:=zLf h hc hp (l:=(Lf a c p).take ((Lf a c p).length - 1)) (z:=Zn a p) ⟨rfl,rfl,rfl,rfl,rfl⟩ (P:=fun g=>FrP a p g∧g≠x) (fun g=>by
  rw [zIO hc]
  have hm:g∈Lf a c p↔g∈(Lf a c p).take ((Lf a c p).length - 1)∨g=x:=by
   conv=>lhs; rw [hspl]
   simp
  rw [hm]
  constructor
  ·rintro (h1 | h1 | ⟨d,h1,h2,h3⟩)
   ·exact ⟨.inl h1,fun e=>ho.2 (e▸h1)⟩
   ·exact ⟨.inr (.inl (.inl h1)),fun e=>hnd.2.2 g h1 x (by simp) e⟩
   ·exact ⟨.inr (.inr ⟨d,h1,h2,h3⟩),fun e=>h2 (h.dis d c p p x h1 hc (e▸h3) hxm).1⟩
  ·rintro ⟨h1 | (h1 | h1) | h1,h2⟩
   ·exact .inl h1
   ·exact .inr (.inl h1)
   ·exact absurd h1 h2
   ·exact .inr (.inr h1))
 have hw:=zXD h hc hp
 rw [zP1 hp] at hw ⊢
 exact ⟨hw,s1,s2,.inr ⟨c,hc,hxm⟩⟩
def zWO (a b:zH) (p:Nat) (x:Int):Prop:=Wa b∧Shp a b∧Frs a b p (fun g=>FrP a p g∧g≠x)∧FrP a p x
theorem zU1 (h:Wa a) (hc:c<a.caches.length) (hp:p<a.zones.length) (hn:0<zLR a p):zWO a (zMA a c p).1 p (zMA a c p).2:=by
 have s:=zVy h hc hp
 obtain ⟨v1,v2,v3,v4⟩:=zYX h hc hp hn
 obtain ⟨t1,t2,t3,t4⟩:=zVz v1 (by rw [v2]; exact hc) (by rw [v3]; exact hp) v4
 refine ⟨t1,s.2.1.trans t2,⟨fun g => ?_,fun q hq hql g => ?_⟩,(s.2.2 p hp _).1 t4⟩
 ·exact (t3.1 g).trans ⟨fun x=>⟨(s.2.2 p hp g).1 x.1,x.2⟩,fun x=>⟨(s.2.2 p hp g).2 x.1,x.2⟩⟩
 ·exact (t3.2 q hq (by rw [v3]; exact hql) g).trans (s.2.2 q hql g)
theorem zXH (h:Wa a) {f:Int} (hc:c<a.caches.length) (hp:p<a.zones.length) (hi:inside (Zn a p) f 0=true) (hn:¬ FrP a p f):Wa (zQ7 a c p f)∧Shp a (zQ7 a c p f)∧Frs a (zQ7 a c p f) p (fun g=>FrP a p g∨g=f):=by
 have hn1:¬ cov (Zn a p) f:=fun x=>hn (.inl x)
 have hn2:∀ d,d<a.caches.length→f ∉ Lf a d p:=fun d hd x=>hn (.inr ⟨d,hd,x⟩)
 obtain ⟨_,_,_,hw⟩:=zVr h hc hp hi hn1 hn2
 have hx:∀ g,g∈Lf a c p++[f]→inside (Zn a p) g 0=true ∧ ¬ cov (Zn a p) g:=fun g hg=>by
  rcases List.mem_append.1 hg with hg | hg
  ·exact h.own c p g hc hg
  ·rw [List.mem_singleton.1 hg]; exact ⟨hi,hn1⟩
 have hxn:(Lf a c p++[f]).Nodup:=by
  rw [List.nodup_append]
  exact ⟨h.nd c p hc,by simp,fun x hx' y hy e=>by rw [List.mem_singleton.1 hy] at e; rw [e] at hx'; exact hn2 c hc hx'⟩
 refine ⟨hw,?_⟩
 unfold zQ7 zNF
 by_cases hh:((at_ (at_ a.caches (c:Int)).lists (p:Int)++[f]).length:Int)≤a.high
 ·rw [if_pos hh]
  exact zLf h hc hp (l:=Lf a c p++[f]) (z:=Zn a p) ⟨rfl,rfl,rfl,rfl,rfl⟩ (fun g=>by
   rw [zIO hc,List.mem_append,List.mem_singleton]
   constructor
   ·rintro (h1 | (h1 | h1) | h1)
    ·exact .inl (.inl h1)
    ·exact .inl (.inr (.inl h1))
    ·exact .inr h1
    ·exact .inl (.inr (.inr h1))
   ·rintro ((h1 | h1 | h1) | h1)
    ·exact .inl h1
    ·exact .inr (.inl (.inl h1))
    ·exact .inr (.inr h1)
    ·exact .inr (.inl (.inr h1)))
 ·rw [if_neg hh]
  obtain ⟨g1,g2,g3⟩:=zKt (((Lf a c p)++[f]).take a.batch.toNat) (h.zs p hp) (fun g hg=>hx g (List.mem_of_mem_take hg)) (hxn.sublist (List.take_sublist _ _))
  exact zLf h hc hp (l:=((Lf a c p)++[f]).drop a.batch.toNat) g3 (fun g=>by
   have hm:(g∈((Lf a c p)++[f]).take a.batch.toNat∨g∈((Lf a c p)++[f]).drop a.batch.toNat)↔g∈Lf a c p∨g=f:=by
    rw [← List.mem_append,List.take_append_drop,List.mem_append,List.mem_singleton]
   rw [zIO hc,g2]
   constructor
   ·rintro ((h1 | h1) | h1 | h1)
    ·exact .inl (.inl h1)
    ·exact (hm.1 (.inl h1)).elim (fun x => .inl (.inr (.inl x))) .inr
    ·exact (hm.1 (.inr h1)).elim (fun x => .inl (.inr (.inl x))) .inr
    ·exact .inl (.inr (.inr h1))
   ·have key:(g∈Lf a c p∨g=f)→((cov (Zn a p) g∨g∈((Lf a c p)++[f]).take a.batch.toNat)∨g∈((Lf a c p)++[f]).drop a.batch.toNat ∨ ∃ d,d<a.caches.length∧d≠c∧g∈Lf a d p):=fun x=>(hm.2 x).elim (fun y => .inl (.inr y)) (fun y => .inr (.inl y))
    rintro ((h1 | h1 | h1) | h1)
    ·exact .inl (.inl h1)
    ·exact key (.inl h1)
    ·exact .inr (.inr h1)
    ·exact key (.inr h1))
theorem zYy (h:Wa a) {f:Int} (hc:c<a.caches.length) (hp:p<a.zones.length) (hf:f∈Lf a c p):zWO a (upd a c p (wo f (Lf a c p)) (Zn a p)) p f:=by
 have ho:=h.own c p f hc hf
 have hm:∀ g,g∈wo f (Lf a c p)↔g∈Lf a c p∧g≠f:=fun g=>by
  unfold wo
  rw [List.mem_filter]
  simp
 obtain ⟨s1,s2⟩:=zLf h hc hp (l:=wo f (Lf a c p)) (z:=Zn a p) ⟨rfl,rfl,rfl,rfl,rfl⟩ (P:=fun g=>FrP a p g∧g≠f) (fun g=>by
  rw [zIO hc,hm]
  constructor
  ·rintro (h1 | h1 | ⟨d,h1,h2,h3⟩)
   ·exact ⟨.inl h1,fun e=>ho.2 (e▸h1)⟩
   ·exact ⟨.inr (.inl h1.1),h1.2⟩
   ·exact ⟨.inr (.inr ⟨d,h1,h2,h3⟩),fun e=>h2 (h.dis d c p p f h1 hc (e▸h3) hf).1⟩
  ·rintro ⟨h1 | h1 | h1,h2⟩
   ·exact .inl h1
   ·exact .inr (.inl ⟨h1,h2⟩)
   ·exact .inr (.inr h1))
 exact ⟨zZJ h hc hp,s1,s2,.inr ⟨c,hc,hf⟩⟩
theorem zY0 (h:Wa a) {f:Int} {y:zW} (hp:p<a.zones.length) (hf:cov (Zn a p) f) (y3:OkZ y) (y4:zEf y (Zn a p)) (y5:∀ g,cov y g↔cov (Zn a p) g∧g≠f):zWO a ⟨a.nodes,a.batch,a.high,a.zones.set p y,a.caches⟩ p f:=by
 have hcn:=h.cn
 have hn1:=h.n
 have hc:0<a.caches.length:=by omega
 have hpl0:=h.cl 0 hc
 have hW:=zNi (l:=Lf a 0 p) (z:=y) h hc hp y3 y4 (h.lim 0 p hc) (h.nd 0 p hc) (fun g hg=>⟨(h.own 0 p g hc hg).1,fun hv=>(h.own 0 p g hc hg).2 ((y5 g).1 hv).1⟩) (fun d g hd hdc hg=>⟨fun hm=>hdc (h.dis d 0 p p g hd hc hg hm).1,fun hv=>(h.own d p g hd hg).2 ((y5 g).1 hv).1⟩)
 have hcl:a.caches.set 0 ⟨(at_ a.caches ((0:Nat):Int)).lists.set p (Lf a 0 p)⟩=a.caches:=by
  have e1:(at_ a.caches ((0:Nat):Int)).lists.set p (Lf a 0 p)=(at_ a.caches ((0:Nat):Int)).lists:=zIr (by rw [hpl0]; exact hp)
  rw [e1]
  exact zIr hc
 have hins:inside (Zn a p) f 0=true:=FrP.ins h hp (.inl hf)
 obtain ⟨s1,s2⟩:=zLf h hc hp (l:=Lf a 0 p) y4 (P:=fun g=>FrP a p g∧g≠f) (fun g=>by
  rw [zIO hc,y5]
  constructor
  ·rintro (h1 | h1 | ⟨d,h1,h2,h3⟩)
   ·exact ⟨.inl h1.1,h1.2⟩
   ·exact ⟨.inr (.inl h1),fun e=>(h.own 0 p f hc (e▸h1)).2 hf⟩
   ·exact ⟨.inr (.inr ⟨d,h1,h2,h3⟩),fun e=>(h.own d p f h1 (e▸h3)).2 hf⟩
  ·rintro ⟨h1 | h1 | h1,h2⟩
   ·exact .inl ⟨h1,h2⟩
   ·exact .inr (.inl h1)
   ·exact .inr (.inr h1))
 unfold upd at hW s1 s2
 rw [hcl] at hW s1 s2
 exact ⟨hW,s1,s2,.inl hf⟩
end
end Go.Proofs.Ytplkliakhdkpcaa
namespace Go.Proofs.Ytplkliakhdkpcaa
open Go Go.RowKit Go.Wk Go.Am
section
variable {a b:zH} {c p:Nat}
theorem zSo (h:Wa a) {f:Int} (hp:p<a.zones.length) (hi:inside (Zn a p) f 0=true):zIx f a.zones 0=(p:Int):=by
 obtain ⟨_,hap⟩:=zSb h.se
 have:=(zOv f a.zones 0 p hp hap).2 (by rw [← zFY hp]; exact (zPy (h.zs p hp).ranges).2 hi)
 omega
theorem zW6 (h:Wa a) {f:Int} (hi:0≤zIx f a.zones 0):∃ p,p<a.zones.length∧inside (Zn a p) f 0=true∧zIx f a.zones 0=(p:Int):=by
 obtain ⟨_,hap⟩:=zSb h.se
 obtain ⟨p,hp⟩:=Int.eq_ofNat_of_zero_le hi
 have hpl:p<a.zones.length:=by
  rcases zTl f a.zones 0 with hq | hq <;> omega
 have:=(zOv f a.zones 0 p hpl hap).1 (by rw [hp]; omega)
 rw [← zFY hpl] at this
 exact ⟨p,hpl,(zPy (h.zs p hpl).ranges).1 this,hp⟩
theorem zPK (h:Wa a) (f:Int):zBy a f=some (zIx f a.zones 0):=zYg h.al (fun z hz=>h.va.chk hz)
theorem zS7 (h:Wa a) (hp:p<a.zones.length):zCg a (p:Int)=some (zLR a p - (Zn a p).min):=by
 obtain ⟨k1,k2,k3,k4⟩:=counts h.va hp
 have hmin:=zSv h.va hp
 unfold zCg
 rw [k1,zAm,zP (zAD hp),zP (zu (by omega))]
 rfl
theorem zRI (h:Wa a) {f:Int} (hp:p<a.zones.length) (hi:inside (Zn a p) f 0=true):∃ q,zDC a (p:Int) f=some q∧(q=true↔FrP a p f):=by
 obtain ⟨q,q1,_,q3⟩:=zYe h.va h hp hi
 exact ⟨q,q1,q3⟩
theorem zV1 (h:Wa a) {f:Int} (hc:c<a.caches.length) (hp:p<a.zones.length) (hi:inside (Zn a p) f 0=true) (hn:¬ FrP a p f):zD3 a (c:Int) f=some (zQ7 a c p f,0):=by
 obtain ⟨q,q1,q2⟩:=zRI h hp hi
 have hcn:=h.cn
 have hq:q=false:=Bool.eq_false_iff.2 fun e=>hn (q2.1 e)
 obtain ⟨w1,w2,w3,w4⟩:=zVr h hc hp hi (fun x=>hn (.inl x)) (fun d hd x=>hn (.inr ⟨d,hd,x⟩))
 unfold zD3
 rw [zJ4 h,zAm,dt rfl,Bool.not_true,ze rfl,zPK h,zSo h hp hi,zAm,ze (by rw [df (by omega),df (by omega),df (by omega)]; rfl),q1,hq,zAm,ze rfl,zQT h.al,zAm,zP (zAD hc),w1,zAm,dt rfl,Bool.not_true,ze rfl,(w3 _).1,zAm]
 rfl
theorem zWo (h:Wa a) (f:Int):(∃ p b,p<a.zones.length∧zEu a f=some (b,0)∧zWO a b p f) ∨ ∃ b e,zEu a f=some (b,e)∧e≠0:=by
 unfold zEu
 rw [zJ4 h,zAm,dt rfl,Bool.not_true,ze rfl,zPK h,zAm]
 by_cases hd:zIx f a.zones 0<0
 ·rw [zy (dt hd)]
  exact .inr ⟨_,_,rfl,by decide⟩
 ·obtain ⟨p,hp,hi,e⟩:=zW6 h (show 0≤zIx f a.zones 0 by omega)
  obtain ⟨q,q1,q2⟩:=zRI h hp hi
  rw [ze (df hd),e,q1,zAm]
  cases q with
  | false=>exact .inr ⟨_,_,rfl,by decide⟩
  | true =>
   have hfr:=q2.1 rfl
   rw [Bool.not_true,ze rfl,zS7 h hp,zAm]
   by_cases hm:zLR a p - (Zn a p).min<1
   ·rw [zy (dt hm)]
    exact .inr ⟨_,_,rfl,by decide⟩
   ·obtain ⟨r,r1,_,r3⟩:=zXI (f:=f) h.va h hp
    rw [ze (df hm),zQT h.al,zAm,show (⟨a.nodes,a.batch,a.high,a.zones,a.caches⟩:zH)=a from rfl,r1,zAm]
    rcases r3 with ⟨e,hno⟩ | ⟨c,e,hcl,hfc⟩
    ·subst e
     have hcov:cov (Zn a p) f:=hfr.resolve_right fun ⟨c,c1,c2⟩=>hno c c1 c2
     obtain ⟨y,y1,y2,y3,y4,y5⟩:=zZH (h.zs p hp) hi hcov
     rw [ze (by rfl),zP (zAD hp),show at_ a.zones (p:Int)=Zn a p from rfl,y1,zAm,dt rfl,Bool.not_true,ze rfl]
     exact .inl ⟨p,_,hp,rfl,zY0 h hp hcov y3 y4 y5⟩
    ·subst e
     have hll:=h.cl c hcl
     have hplc:p<(at_ a.caches (c:Int)).lists.length:=by omega
     have hlb:(Lf a c p).length≤1000:=by
      have:=h.lim c p hcl
      have:=h.bh
      omega
     have hz:a.zones.set p (Zn a p)=a.zones:=zIr hp
     have hW:=zYy h hcl hp hfc
     unfold upd at hW
     rw [hz] at hW
     rw [zy (dt (by omega)),zP (zAD hcl),zP (zAD hplc),show at_ (at_ a.caches (c:Int)).lists (p:Int)=Lf a c p from rfl,zZd hlb hfc,zAm]
     exact .inl ⟨p,_,hp,rfl,hW⟩
theorem zUc (h:Wa a):zDO a=some (zNL a.caches.length 0 a):=by
 have hcn:=h.cn
 have hn:=h.n
 unfold zDO
 rw [zJ4 h,zAm,dt rfl,Bool.not_true,ze rfl,zQT h.al,zAm]
 exact zWY rfl (by omega) a.caches.length z9 0 a (by omega) (by unfold z9; omega) h rfl
def can (a:zH) (res:Bool) (p:Nat):Prop:=0<zLR a p∧(res=true∨(Zn a p).min<zLR a p)
theorem zZP (h:Wa a) (hc:c<a.caches.length) {res:Bool} {L:List Int} (hL:∀ z,z∈L→Ix a.zones z) (hLl:L.length≤256):∀ (m n i:Nat),i+m=L.length→m<n →
  (∃ p:Nat,(p:Int)∈L.drop i∧p<a.zones.length∧can a res p∧zA5 a (c:Int) res (L,0) n (i:Int)=some ((zMA a c p).1,(zMA a c p).2,0)) ∨
  ((∀ p:Nat,(p:Int)∈L.drop i → ¬ can a res p)∧zA5 a (c:Int) res (L,0) n (i:Int)=some (⟨[],0,0,[],[]⟩,0,16)):=by
 intro m
 induction m with
 | zero =>
  intro n i h1 h2
  obtain ⟨n,rfl⟩:=ex1 ‹_<n›
  refine .inr ⟨fun p hp => ?_,?_⟩
  ·rw [List.drop_eq_nil_of_le (by omega)] at hp
   cases hp
  ·show zBR _ _ _ _ _ _=_
   unfold zBR
   rw [ze (df (show ¬ (i:Int)<(L.length:Int) by omega))]
   rfl
 | succ m ih =>
  intro n i h1 h2
  obtain ⟨n,rfl⟩:=ex1 ‹_<n›
  have hi:i<L.length:=by omega
  obtain ⟨p,ep,hp⟩:=hL _ (zA0 hi)
  obtain ⟨k1,k2,k3,k4⟩:=counts h.va hp
  have hmin:=zSv h.va hp
  have hroom:zCg a (p:Int)=some (zLR a p - (at_ a.zones (p:Int)).min):=zS7 h hp
  have hx:at_ (L,(0:Int)).1 (i:Int)=(p:Int):=ep
  have hY:can a res p→zA5 a (c:Int) res (L,0) (n+1) (i:Int)=some ((zMA a c p).1,(zMA a c p).2,0):=fun hcan=>by
   show zBR _ _ _ _ _ _=_
   unfold zBR zDs
   rw [zy (dt (show (i:Int)<(L.length:Int) by omega)),zP (show inb (i:Int) L.length=true from zAD hi),hx,k1,hroom]
   have hcnt:=hcan.1
   have hpp:=zUR h hc hp hcan.1 hx
   rw [hx] at hpp
   cases res with
   | true =>
    rw [zy rfl,zAm,ze (by rw [Bool.not_true,Bool.and_false]),zAm]
    rw [ze (by rw [df (show ¬ zLR a p=0 by omega)]; rfl),zQT h.al,zAm]
    exact hpp
   | false =>
    have hmc:(at_ a.zones (p:Int)).min<zLR a p:=hcan.2.resolve_left (fun e=>by cases e)
    rw [ze rfl,zAm,zy (by rfl),zAm]
    rw [ze (by rw [df (show ¬ zLR a p - (at_ a.zones (p:Int)).min<1 by omega)]; rfl),zQT h.al,zAm]
    exact hpp
  have hN:¬ can a res p→zA5 a (c:Int) res (L,0) (n+1) (i:Int)=zA5 a (c:Int) res (L,0) n ((i+1:Nat):Int):=fun hcan=>by
   show zBR _ _ _ _ _ _=_
   unfold zBR zDs
   rw [zy (dt (show (i:Int)<(L.length:Int) by omega)),zP (show inb (i:Int) L.length=true from zAD hi),hx,k1,hroom]
   cases res with
   | true =>
    have h0:zLR a p=0:=by
     have:¬ 0<zLR a p:=fun x=>hcan ⟨x,.inl rfl⟩
     omega
    rw [zy rfl,zAm,ze (by rw [Bool.not_true,Bool.and_false]),zAm]
    rw [zy (by rw [dt h0]; rfl),zP (zu (by omega))]
    rfl
   | false =>
    have h0:zLR a p - (at_ a.zones (p:Int)).min<1:=by
     refine Int.not_le.1 fun x=>hcan ⟨by omega,.inr ?_⟩
     show (at_ a.zones (p:Int)).min<_
     omega
    rw [ze rfl,zAm,zy (by rfl),zAm]
    rw [zy (by rw [dt h0]; rfl),zP (zu (by omega))]
    rfl
  rw [zCk hi,show at_ L (i:Int)=(p:Int) from ep]
  by_cases hcan:can a res p
  ·exact .inl ⟨p,by simp,hp,hcan,hY hcan⟩
  ·rw [hN hcan]
   rcases ih n (i+1) (by omega) (by omega) with ⟨q,q1,q2⟩ | ⟨q1,q2⟩
   ·exact .inl ⟨q,by simp [q1],q2⟩
   ·refine .inr ⟨fun q hq => ?_,q2⟩
    rcases List.mem_cons.1 hq with e | hq
    ·have:q=p:=by omega
     subst this
     exact hcan
    ·exact q1 q hq
theorem zRY (h:Wa a) (hc:c<a.caches.length) (kern res:Bool) :
  (∃ p:Nat,p<a.zones.length∧zRq a.zones kern (p:Int)=true∧can a res p ∧ ∃ b x,zBi a (c:Int) kern res=some (b,x,0)∧zWO a b p x) ∨
  ((∀ p:Nat,p<a.zones.length→zRq a.zones kern (p:Int)=true → ¬ can a res p)∧zBi a (c:Int) kern res=some (⟨[],0,0,[],[]⟩,0,16)):=by
 have hdn:c<a.nodes.length:=by rw [← h.cn]; exact hc
 obtain ⟨L,l1,l2,l3,_⟩:=zXs h.gn (h.vn hdn) kern
 have e:zBi a (c:Int) kern res=zA5 a (c:Int) res (L,0) z9 ((0:Nat):Int):=by
  unfold zBi
  rw [zJ4 h,zAm,dt rfl,Bool.not_true,ze rfl,ze (by rw [df (by omega),df (by omega)]; rfl),zP (zAD hdn),l3,zAm]
  rfl
 rcases zZP h hc (res:=res) (fun z hz=>((l1 z).1 hz).1) l2 L.length z9 0 (by omega) (by unfold z9; omega) with ⟨p,p1,p2,p3,p4⟩ | ⟨p1,p2⟩
 ·rw [List.drop_zero] at p1
  exact .inl ⟨p,p2,((l1 _).1 p1).2,p3,_,_,e.trans p4,zU1 h hc p2 p3.1⟩
 ·refine .inr ⟨fun p hp hs=>p1 p ?_,e.trans p2⟩
  rw [List.drop_zero]
  exact (l1 _).2 ⟨⟨p,rfl,hp⟩,hs⟩
end
end Go.Proofs.Ytplkliakhdkpcaa
namespace Go.Proofs.Ytplkliakhdkpcaa
open Go Go.RowKit Go.Wk Go.Am
def zsN:Int→List zAc→List zW
 | _,[]=>[]
 | s,x::r=>(zSz x.node x.kind s x.count x.min).1::zsN (s+x.count) r
def Gp (x:zAc):Prop:=(x.node=0∨x.node=1)∧(x.kind=0∨x.kind=1)∧1≤x.count∧x.count≤20∧0≤x.min∧x.min≤x.count
structure Beg (a:zH):Prop where
 w:Wa a
 c:a.caches.length=2
 z:2≤a.zones.length∧a.zones.length≤3
 k:∀ p,p<a.zones.length→1≤(Zn a p).count∧(Zn a p).count≤20
 v:∀ p,p<a.zones.length → ∀ g,inside (Zn a p) g 0=true→cov (Zn a p) g
 l:∀ c p,c<a.caches.length→Lf a c p=[]
structure Mc (m:zAE):Prop where
 c:∀ i,0≤m.counts.getD i 0∧m.counts.getD i 0≤255
 mi:∀ i,0≤m.mins.getD i 0∧m.mins.getD i 0≤255
 b:0≤m.batch∧m.batch≤255
theorem zYK {a:Int} (h0:0≤a) (h1:a≤255):IntKind.u8.wrap a=a:=by
 unfold IntKind.wrap
 simp only [IntKind.bits,IntKind.signed,Bool.false_and,Bool.false_eq_true,if_false]
 omega
theorem zP5 {x:zAc} {s:Int} (h:Gp x) (h0:0≤s) (h1:s≤100):(zSz x.node x.kind s x.count x.min).2=0∧OkZ (zSz x.node x.kind s x.count x.min).1∧(∀ g,cov (zSz x.node x.kind s x.count x.min).1 g↔s≤g∧g<s+x.count)∧zEf (zSz x.node x.kind s x.count x.min).1 (zLw x.node x.kind s x.count x.min):=by
 obtain ⟨a1,a2,a3,a4,a5,a6⟩:=h
 have hr:ranges (zLw x.node x.kind s x.count x.min)=true:=by
  unfold ranges zLw
  simp
  omega
 obtain ⟨f1,f2,f3⟩:=zRJ hr rfl x.count.toNat (by show _≤x.count; omega)
 unfold zSz
 rw [if_pos hr]
 refine ⟨rfl,f1,fun g=>(f2 g).trans ?_,f3⟩
 show s≤g∧g<s+(x.count.toNat:Int)↔_
 omega
theorem zVi:∀ (l:List zAc) (s:Int),(∀ x,x∈l→Gp x)→0≤s→s+20*(l.length:Int)≤100→zE s (zsN s l)=0∧(∀ z,z∈zsN s l→OkZ z∧(∀ g,cov z g↔z.start≤g∧g<z.start+z.count)∧1≤z.count∧z.count≤20)∧(zsN s l).length=l.length
 | [],_,_,_,_=>⟨rfl,(fun z hz=>by cases hz),rfl⟩
 | x::r,s,h,h0,h1=>by
  have hx:=h x (by simp)
  have hl:((x::r).length:Int)=r.length+1:=by simp
  obtain ⟨g1,g2,g3,g4⟩:=zP5 hx h0 (by omega)
  have hc:=hx.2.2
  obtain ⟨i1,i2,i3⟩:=zVi r (s+x.count) (fun y hy=>h y (by simp [hy])) (by omega) (by omega)
  have es:(zSz x.node x.kind s x.count x.min).1.start=s:=g4.2.2.1
  have ec:(zSz x.node x.kind s x.count x.min).1.count=x.count:=g4.2.2.2.1
  refine ⟨?_,fun z hz => ?_,?_⟩
  ·show zE s ((zSz x.node x.kind s x.count x.min).1::zsN (s+x.count) r)=0
   unfold zE
   rw [if_pos (zCy g2),if_pos es,ec]
   exact i1
  ·rcases List.mem_cons.1 hz with rfl | hz
   ·refine ⟨g2,fun g => ?_,by rw [ec]; omega⟩
    rw [es,ec]
    exact g3 g
   ·exact i2 z hz
  ·show (zsN (s+x.count) r).length+1=r.length+1
   rw [i3]
section
variable {nodes d:List Int} {b h:Int} {l:List zAc}
theorem zXL (hG:∀ x,x∈l→Gp x) (hl:l.length≤4):∀ (m n i:Nat) (s:Int) (zs:List zW),i+m=l.length→m<n→zs.length=l.length→0≤s→s+20*(m:Int)≤100 →
  zEn nodes b h l d n s (i:Int) zs=zEp nodes b h l d (zs.take i++zsN s (l.drop i)):=by
 intro m
 induction m with
 | zero =>
  intro n i s zs h1 h2 h3 h4 h5
  obtain ⟨n,rfl⟩:=ex1 ‹_<n›
  show zCq _ _ _ _ _ _ _ _ _=_
  unfold zCq
  rw [ze (df (by omega)),List.drop_eq_nil_of_le (by omega),List.take_of_length_le (by omega)]
  show _=zEp _ _ _ _ _ (zs++[])
  rw [List.append_nil]
 | succ m ih =>
  intro n i s zs h1 h2 h3 h4 h5
  obtain ⟨n,rfl⟩:=ex1 ‹_<n›
  have hi:i<l.length:=by omega
  have hx:=hG _ (List.getElem_mem hi)
  obtain ⟨g1,g2,g3,g4⟩:=zP5 hx h4 (by omega)
  have hc:=hx.2.2
  show zCq _ _ _ _ _ _ _ _ _=_
  unfold zCq
  rw [zy (dt (by omega)),zP (zAD hi),zFY hi,zWq (zu (by omega)),zAm,dt g1,Bool.not_true,ze rfl,zP (zAD (by omega)),zP (zu (by omega)),zP (zu (by omega)),Int.toNat_natCast,List.drop_eq_getElem_cons hi]
  refine (ih n (i+1) _ _ (by omega) (by omega) (by rw [List.length_set]; exact h3) (by omega) (by omega)).trans ?_
  rw [List.take_add_one,List.getElem?_set_self (by omega),List.take_set_of_le (Nat.le_refl _),List.append_assoc]
  rfl
theorem zWT {zs:List zW} (h1:1≤l.length) (h6:l.length≤6) (hn:nodes.length≤20):∀ (m n i:Nat),i+m=nodes.length→m<n →
  zEq nodes b h l d zs n (i:Int) (List.replicate i ⟨List.replicate l.length []⟩)=some (⟨d,b,h,zs,List.replicate nodes.length ⟨List.replicate l.length []⟩⟩,0):=by
 intro m
 induction m with
 | zero =>
  intro n i h2 h3
  obtain ⟨n,rfl⟩:=ex1 ‹_<n›
  show zCs _ _ _ _ _ _ _ _ _=_
  unfold zCs
  rw [ze (df (by omega)),show i=nodes.length by omega]
  rfl
 | succ m ih =>
  intro n i h2 h3
  obtain ⟨n,rfl⟩:=ex1 ‹_<n›
  have hp:zJS (l.length:Int)=some (⟨List.replicate l.length []⟩,0):=by
   unfold zJS
   rw [df (p:=(l.length:Int)<1) (by omega),df (p:=6<(l.length:Int)) (by omega)]
   refine (ze (by rfl)).trans ?_
   rw [dt (p:=0≤(l.length:Int)) (by omega),dt (p:=(l.length:Int)≤(l.length:Int)) (by omega),dt (p:=(l.length:Int)*(24:Int)≤4294967296) (by omega)]
   rfl
  show zCs _ _ _ _ _ _ _ _ _=_
  unfold zCs
  rw [zy (dt (by omega)),hp,zAm,zP (dt (by rw [List.length_replicate]; show (_+1)*24≤_; omega)),zP (zu (by omega)), ← ih n (i+1) (by omega) (by omega),List.replicate_succ']
  rfl
theorem zYh (hb:1≤b∧b≤h∧h≤64) (hG:∀ x,x∈l→Gp x) (hl:1≤l.length∧l.length≤3):zCc [0,1] b h l=some (⟨[0,1],b,h,zsN 0 l,List.replicate 2 ⟨List.replicate l.length []⟩⟩,0):=by
 have hf:zUs [0,1] b h (l.length:Int)=true:=by
  unfold zUs zLr
  rw [df (p:=(([0,1]:List Int).length:Int)<1) (by decide),df (p:=4<(([0,1]:List Int).length:Int)) (by decide),df (p:=64<h) (by omega),df (p:=b<1) (by omega),df (p:=h<b) (by omega),df (p:=(l.length:Int)<1) (by omega),df (p:=6<(l.length:Int)) (by omega)]
  rfl
 unfold zCc zAq zGB
 rw [zP (by rfl),zAm,dt (p:=0≤(l.length:Int)) (by omega),dt (p:=(l.length:Int)≤(l.length:Int)) (by omega),dt (p:=(l.length:Int)*(160:Int)≤4294967296) (by omega),zP (by rfl),zOh (by show (2:Nat)≤_; omega),zAm]
 show cnd (!zUs [0,1] b h ((List.replicate (l.length:Int).toNat zJm).length:Int)) _ _=_
 rw [List.length_replicate,Int.toNat_natCast,hf,Bool.not_true,ze rfl]
 refine (zXL (d:=[0,1]) hG (by omega) l.length z9 0 0 (List.replicate l.length zJm) (by omega) (by unfold z9; omega) (by rw [List.length_replicate]) (by omega) (by omega)).trans ?_
 rw [List.take_zero,List.nil_append,List.drop_zero]
 exact zWT (nodes:=[0,1]) hl.1 (by omega) (by show (2:Nat)≤20; omega) 2 z9 0 rfl (by unfold z9; omega)
theorem zV5 (hb:1≤b∧b≤h∧h≤64) (hG:∀ x,x∈l→Gp x) (hl:2≤l.length∧l.length≤3):Beg ⟨[0,1],b,h,zsN 0 l,List.replicate 2 ⟨List.replicate l.length []⟩⟩:=by
 obtain ⟨z1,z2,z3⟩:=zVi l 0 hG (by omega) (by omega)
 generalize ha:(⟨[0,1],b,h,zsN 0 l,List.replicate 2 ⟨List.replicate l.length []⟩⟩:zH)=a
 have e1:a.nodes=[0,1]:=by rw [← ha]
 have e2:a.batch=b:=by rw [← ha]
 have e3:a.high=h:=by rw [← ha]
 have e4:a.zones=zsN 0 l:=by rw [← ha]
 have e5:a.caches=List.replicate 2 ⟨List.replicate l.length []⟩:=by rw [← ha]
 have ec:a.caches.length=2:=by rw [e5,List.length_replicate]
 have ez:a.zones.length=l.length:=by rw [e4,z3]
 have hm:∀ p,p<a.zones.length→Zn a p∈zsN 0 l:=fun p hp=>by
  have:=zA0 hp
  rw [e4] at this
  unfold Zn
  rw [e4]
  exact this
 have hcl:∀ c,c<a.caches.length→(at_ a.caches (c:Int)).lists=List.replicate l.length []:=fun c hc=>by
  rw [zFY hc]
  have:=List.getElem_mem hc
  rw [show a.caches[c]=⟨List.replicate l.length []⟩ from List.eq_of_mem_replicate (n:=2) (by rw [← e5]; exact this)]
 have hL:∀ c p,c<a.caches.length→Lf a c p=[]:=fun c p hc=>by
  unfold Lf
  rw [hcl c hc]
  by_cases hp:p<(List.replicate l.length ([]:List Int)).length
  ·rw [zFY hp]
   exact List.getElem_replicate ..
  ·exact zVU (by omega)
 have hse:zE 0 a.zones=0:=by rw [e4]; exact z1
 obtain ⟨_,hap⟩:=zSb hse
 have hz:∀ p,p<a.zones.length→OkZ (Zn a p):=fun p hp=>(z2 _ (hm p hp)).1
 refine ⟨⟨by rw [e1]; decide,fun v hv => ?_,hse,by rw [e2,e3]; exact hb,by omega,by rw [ec,e1]; rfl,hz,fun p q f hp hq h1 h2 => ?_,fun c hc=>by rw [hcl c hc,List.length_replicate,ez],fun c p f hc hf => ?_,fun c p hc => ?_,fun c d p q f hc hd h1 h2 => ?_,fun c p hc => ?_⟩,ec,by omega,fun p hp=>(z2 _ (hm p hp)).2.2,fun p hp g hg => ?_,hL⟩
 ·rw [e1] at hv
  simp at hv
  omega
 ·have g1:=(zOv f a.zones 0 p hp hap).2 (by rw [← zFY hp]; exact (zPy (hz p hp).ranges).2 h1)
  have g2:=(zOv f a.zones 0 q hq hap).2 (by rw [← zFY hq]; exact (zPy (hz q hq).ranges).2 h2)
  omega
 ·rw [hL c p hc] at hf; cases hf
 ·rw [hL c p hc]; exact List.nodup_nil
 ·rw [hL c p hc] at h1; cases h1
 ·rw [hL c p hc,e3]; show ((0:Nat):Int)≤h; omega
 ·have hb:=(hz p hp).bds hg
  rw [pw0] at hb
  exact ((z2 _ (hm p hp)).2.1 g).2 ⟨hb.2.2.1,by omega⟩
end
section
variable {m:zAE}
theorem tm {x:Int} (h:0≤x) (k:Int):x.tmod k=x%k:=Int.tmod_eq_emod_of_nonneg h
theorem zWa (hm:Mc m) {N:Nat} (hN:N≤3):∀ (k n i:Nat) (l:List zAc),i+k=N→k<n→(∀ x,x∈l→Gp x)→l.length=i → ∃ l',(∀ x,x∈l'→Gp x)∧l'.length=N∧zES m (N:Int) n (i:Int) l=zGN m l':=by
 intro k
 induction k with
 | zero =>
  intro n i l h1 h2 h3 h4
  obtain ⟨n,rfl⟩:=ex1 ‹_<n›
  refine ⟨l,h3,by omega,?_⟩
  show zFJ _ _ _ _ _=_
  unfold zFJ
  rw [ze (df (by omega))]
 | succ k ih =>
  intro n i l h1 h2 h3 h4
  obtain ⟨n,rfl⟩:=ex1 ‹_<n›
  have c1:=hm.c i
  have c2:=hm.mi i
  generalize hq1:m.counts.getD i 0=q1 at *
  generalize hq2:m.mins.getD i 0=q2 at *
  have t1:=tm c1.1 20
  have hk:∀ kd:Int,(kd=0∨kd=1) → ∃ l',(∀ x,x∈l'→Gp x)∧l'.length=N∧zGP (zES m (N:Int) n) m (i:Int) l kd=zGN m l':=fun kd hkd=>by
   have t2:=tm c2.1 (1+q1.tmod 20+1)
   have t3:=tm (show (0:Int)≤(i:Int) by omega) 2
   have hp:0<1+q1.tmod 20+1:=by rw [t1]; omega
   have u1:=Int.emod_nonneg q2 (show 1+q1.tmod 20+1≠0 by omega)
   have u2:=Int.emod_lt_of_pos q2 hp
   obtain ⟨l',i1,i2,i3⟩:=ih n (i+1) (l++[(⟨(i:Int).tmod 2,kd,1+q1.tmod 20,q2.tmod (1+q1.tmod 20+1)⟩:zAc)]) (by omega) (by omega) (fun x hx=>by
    rcases List.mem_append.1 hx with hx | hx
    ·exact h3 x hx
    ·rw [List.mem_singleton.1 hx]
     refine ⟨?_,hkd,?_,?_,?_,?_⟩
     ·show (i:Int).tmod 2=0∨(i:Int).tmod 2=1
      rw [t3]; omega
     ·show 1≤1+q1.tmod 20
      rw [t1]; omega
     ·show 1+q1.tmod 20≤20
      rw [t1]; omega
     ·show 0≤q2.tmod (1+q1.tmod 20+1)
      rw [t2]; exact u1
     ·show q2.tmod (1+q1.tmod 20+1)≤1+q1.tmod 20
      rw [t2]; omega) (by simp; omega)
   refine ⟨l',i1,i2,?_⟩
   rw [← i3]
   unfold zGP
   rw [Int.toNat_natCast,hq1,hq2,zP (zAD (by omega)),zP (dt (zJv (by omega) (by omega))),zP (zu (by rw [t1]; omega)),zP (by rw [df (show ¬ 1+q1.tmod 20+1=0 by omega)]; rfl),zP (dt (by simp; omega)),zP (zu (by omega))]
   rfl
  show ∃ l',_∧_∧zFJ _ _ _ _ _=_
  unfold zFJ
  rw [zy (dt (by omega)),zP (zAD (by omega)),Int.toNat_natCast,hq1,zP (dt (by rw [t1]; exact zJv (by omega) (by omega))),zP (zu (by rw [t1]; omega))]
  cases m.kinds.getD i false with
  | true=>rw [zy rfl]; exact hk 1 (.inr rfl)
  | false=>rw [ze rfl]; exact hk 0 (.inl rfl)
theorem zY6 (hm:Mc m):∃ a,zJR m=some (a,0)∧Beg a:=by
 have key:∀ N:Nat,2≤N→N≤3 → ∃ a,zHb m (N:Int)=some (a,0)∧Beg a:=fun N h2 h3=>by
  obtain ⟨l,l1,l2,l3⟩:=zWa hm h3 N z9 0 [] (by omega) (by unfold z9; omega) (fun x hx=>by cases hx) rfl
  have hb:=hm.b
  have t1:=tm hb.1 4
  have t2:m.batch.tdiv 4=m.batch/4:=Int.tdiv_eq_ediv_of_nonneg hb.1
  have t3:IntKind.u8.wrap (m.batch.tdiv 4)=m.batch/4:=by rw [t2]; exact zYK (by omega) (by omega)
  have t4:=tm (show 0≤m.batch/4 by omega) 4
  have hB:1≤1+m.batch.tmod 4∧1+m.batch.tmod 4≤1+m.batch.tmod 4+(IntKind.u8.wrap (m.batch.tdiv 4)).tmod 4∧1+m.batch.tmod 4+(IntKind.u8.wrap (m.batch.tdiv 4)).tmod 4≤64:=by
   rw [t3,t1,t4]; omega
  have hn:=zYh (l:=l) hB l1 (by omega)
  refine ⟨_,?_,zV5 hB l1 (by omega)⟩
  show zES m (N:Int) z9 ((0:Nat):Int) []=_
  rw [l3]
  unfold zGN
  rw [zP (dt (zJv (by rw [t1]; omega) (by rw [t1]; omega))),zP (zu (by rw [t1]; omega)),zP (dt (zJv (by rw [t3,t4]; omega) (by rw [t3,t4]; omega))),zP (zu (by omega)),hn,zAm,zAm,zAm]
 unfold zJR
 cases m.three with
 | true=>rw [zy rfl]; exact key 3 (by omega) (by omega)
 | false=>rw [ze rfl]; exact key 2 (by omega) (by omega)
end
end Go.Proofs.Ytplkliakhdkpcaa
namespace Go.Proofs.Ytplkliakhdkpcaa
open Go Go.RowKit Go.Wk Go.Am
structure Inv (a0 a:zH) (held:List Int):Prop where
 w:Wa a
 s:Shp a0 a
 nd:held.Nodup
 h:∀ f,f∈held → ∃ p,p<a.zones.length∧inside (Zn a p) f 0=true
 fr:∀ p,p<a.zones.length → ∀ g,inside (Zn a p) g 0=true→(FrP a p g↔g ∉ held)
def Gop (x:zBM):Prop:=(0≤x.what∧x.what≤255)∧(0≤x.cpu∧x.cpu≤255)∧(0≤x.pick∧x.pick≤255)
section
variable {a0 a b:zH} {held:List Int}
theorem zWD (h:Beg a):Inv a a []:=⟨h.w,Shp.refl,List.nodup_nil,(fun f hf=>by cases hf),fun p hp g hg=>⟨fun _=>by simp,fun _ => .inl (h.v p hp g hg)⟩⟩
theorem zMu (h:Shp a b) {p:Nat} (hp:p<a.zones.length) (f:Int):inside (Zn b p) f 0=inside (Zn a p) f 0:=(h.z p hp).inside ..
theorem zUd (h:Inv a0 a held) (s:zPN a b):Inv a0 b held:=by
 obtain ⟨s1,s2,s3⟩:=s
 refine ⟨s1,h.s.trans s2,h.nd,fun f hf => ?_,fun p hp g hg => ?_⟩
 ·obtain ⟨p,h1,h2⟩:=h.h f hf
  exact ⟨p,by rw [s2.zl]; exact h1,by rw [zMu s2 h1]; exact h2⟩
 ·rw [s2.zl] at hp
  rw [zMu s2 hp] at hg
  exact (s3 p hp g).trans (h.fr p hp g hg)
theorem zSF (h:Inv a0 a held) {p:Nat} {x:Int} (hp:p<a.zones.length) (t:zWO a b p x):Inv a0 b (held++[x]):=by
 obtain ⟨t1,t2,t3,t4⟩:=t
 have hx:=FrP.ins h.w hp t4
 have hn:=(h.fr p hp x hx).1 t4
 refine ⟨t1,h.s.trans t2,?_,fun f hf => ?_,fun q hq g hg => ?_⟩
 ·rw [List.nodup_append]
  exact ⟨h.nd,by simp,fun y hy z hz e=>by rw [List.mem_singleton.1 hz] at e; rw [e] at hy; exact hn hy⟩
 ·rcases List.mem_append.1 hf with hf | hf
  ·obtain ⟨q,h1,h2⟩:=h.h f hf
   exact ⟨q,by rw [t2.zl]; exact h1,by rw [zMu t2 h1]; exact h2⟩
  ·rw [List.mem_singleton.1 hf]
   exact ⟨p,by rw [t2.zl]; exact hp,by rw [zMu t2 hp]; exact hx⟩
 ·rw [t2.zl] at hq
  rw [zMu t2 hq] at hg
  rw [List.mem_append,List.mem_singleton]
  by_cases e:q=p
  ·subst e
   refine (t3.1 g).trans ?_
   show FrP a q g∧g≠x↔_
   rw [h.fr q hq g hg]
   exact ⟨fun x y=>y.elim x.1 x.2,fun x=>⟨fun y=>x (.inl y),fun y=>x (.inr y)⟩⟩
  ·rw [t3.2 q e hq g,h.fr q hq g hg]
   refine ⟨fun x y=>y.elim x (fun y => ?_),fun x y=>x (.inl y)⟩
   subst y
   exact e (h.w.ap q p g hq hp hg hx)
theorem zVF {i:Nat} (hi:i<held.length):held=held.take i++at_ held (i:Int)::held.drop (i+1):=by
 rw [← zCk hi,List.take_append_drop]
theorem zUW (h:Inv a0 a held) {c i:Nat} (hc:c<a.caches.length) (hi:i<held.length):∃ b,zD3 a (c:Int) (at_ held (i:Int))=some (b,0)∧Inv a0 b (held.take i++held.drop (i+1)):=by
 obtain ⟨p,hp,hin⟩:=h.h _ (zA0 hi)
 have hn:¬ FrP a p (at_ held (i:Int)):=fun x=>(h.fr p hp _ hin).1 x (zA0 hi)
 obtain ⟨f1,f2,f3⟩:=zXH h.w hc hp hin hn
 have hs:=zVF hi
 generalize at_ held (i:Int)=x at *
 have hnd:=h.nd
 rw [hs,List.nodup_append] at hnd
 have hnc:=List.nodup_cons.1 hnd.2.1
 have hm:∀ g,g∈held.take i++held.drop (i+1)↔g∈held∧g≠x:=fun g=>by
  have e:g∈held↔g∈held.take i∨g=x∨g∈held.drop (i+1):=by
   conv=>lhs; rw [hs]
   rw [List.mem_append,List.mem_cons]
  rw [e,List.mem_append]
  constructor
  ·rintro (h1 | h1)
   ·exact ⟨.inl h1,fun q=>hnd.2.2 g h1 x (by simp) q⟩
   ·exact ⟨.inr (.inr h1),fun q=>hnc.1 (q▸h1)⟩
  ·rintro ⟨h1 | h1 | h1,h2⟩
   ·exact .inl h1
   ·exact absurd h1 h2
   ·exact .inr h1
 refine ⟨_,zV1 h.w hc hp hin hn,f1,h.s.trans f2,?_,fun f hf => ?_,fun q hq g hg => ?_⟩
 ·rw [List.nodup_append]
  exact ⟨hnd.1,hnc.2,fun y hy z hz=>hnd.2.2 y hy z (by simp [hz])⟩
 ·obtain ⟨q,h1,h2⟩:=h.h f ((hm f).1 hf).1
  exact ⟨q,by rw [f2.zl]; exact h1,by rw [zMu f2 h1]; exact h2⟩
 ·rw [f2.zl] at hq
  rw [zMu f2 hq] at hg
  rw [hm]
  by_cases e:q=p
  ·subst e
   refine (f3.1 g).trans ?_
   show FrP a q g∨g=x↔_
   rw [h.fr q hq g hg]
   constructor
   ·rintro (h1 | h1) ⟨h2,h3⟩
    ·exact h1 h2
    ·exact h3 h1
   ·intro h1
    by_cases e:g=x
    ·exact .inr e
    ·exact .inl fun h2=>h1 ⟨h2,e⟩
  ·rw [f3.2 q e hq g,h.fr q hq g hg]
   refine ⟨fun h1 h2=>h1 h2.1,fun h1 h2=>h1 ⟨h2,fun h3 => ?_⟩⟩
   subst h3
   exact e (h.w.ap q p g hq hp hg hin)
theorem zTb (h:Inv a0 a held):∃ b,zDO a=some b∧Inv a0 b held:=⟨_,zUc h.w,zUd h (zRu a.caches.length 0 h.w (by omega))⟩
theorem zVQ {x:Int} (h:0≤x∧x≤255):∃ c:Nat,x.tmod 2=(c:Int)∧c<2:=by
 have:=tm h.1 2
 obtain ⟨c,hc⟩:=Int.eq_ofNat_of_zero_le (show 0≤x.tmod 2 by omega)
 exact ⟨c,hc,by omega⟩
theorem zUE {ops:List zBM} (hops:∀ x,x∈ops→Gop x) (hl:ops.length≤1000) (h0:a0.caches.length=2):∀ (m n i:Nat) (a:zH) (held:List Int),i+m=ops.length→m<n→Inv a0 a held→held.length≤i →
  ∃ b held',zEU ops n (i:Int) a held=some (b,held',true)∧Inv a0 b held'∧held'.length≤ops.length:=by
 intro m
 induction m with
 | zero =>
  intro n i a held h1 h2 h3 h4
  obtain ⟨n,rfl⟩:=ex1 ‹_<n›
  refine ⟨a,held,?_,h3,by omega⟩
  show zEe _ _ _ _ _=_
  unfold zEe
  rw [ze (df (by omega))]
  rfl
 | succ m ih =>
  intro n i a held h1 h2 h3 h4
  obtain ⟨n,rfl⟩:=ex1 ‹_<n›
  have hi:i<ops.length:=by omega
  have hj:∀ (b:zH) (hd:List Int),Inv a0 b hd→hd.length≤i+1 → ∃ b' held',zCE (zEU ops n) (i:Int) b hd=some (b',held',true)∧Inv a0 b' held'∧held'.length≤ops.length:=fun b hd hI hle=>by
   unfold zCE
   rw [zP (zu (by omega))]
   exact ih n (i+1) b hd (by omega) (by omega) hI hle
  obtain ⟨x1,x2,x3⟩:=hops _ (zA0 hi)
  show ∃ b held',zEe _ _ _ _ _=_∧_
  unfold zEe
  generalize at_ ops (i:Int)=x at *
  obtain ⟨c,hc,hc2⟩:=zVQ x2
  have hcl:c<a.caches.length:=by rw [h3.s.cl,h0]; exact hc2
  rw [zy (dt (by omega)),zP (zAD hi),hc,zP (dt (zJv (by omega) (by omega)))]
  by_cases w3:x.what.tmod 6=3
  ·rw [zy (dt w3)]
   by_cases hz:(held.length:Int)=0
   ·rw [zy (dt hz)]
    exact hj a held h3 (by omega)
   ·have tq:=tm x3.1 (held.length:Int)
    have u1:=Int.emod_nonneg x.pick hz
    have u2:=Int.emod_lt_of_pos x.pick (show (0:Int)<(held.length:Int) by omega)
    obtain ⟨q,hq⟩:=Int.eq_ofNat_of_zero_le (show 0≤x.pick.tmod (held.length:Int) by omega)
    have hql:q<held.length:=by omega
    obtain ⟨b,b1,b2⟩:=zUW h3 hcl hql
    have e1:(([]:List Int)++zFD held 0 (q:Int))=held.take q:=rfl
    have e2:zFD held ((q:Int)+1) (held.length:Int)=held.drop (q+1):=by
     unfold zFD
     rw [Int.toNat_natCast,List.take_length]
     rfl
    have e3:(zFD held 0 (q:Int)).length=q:=by
     show (held.take q).length=q
     rw [List.length_take]; omega
    rw [ze (df hz),hq,zP (dt (zJv (by omega) (by omega))),zP (by rw [df hz]; rfl),zP (zAD hql),b1,zAm,dt rfl,Bool.not_true,ze rfl,
     zP (by unfold zGw; rw [dt (by omega),dt (by omega),dt (by omega)]; rfl),zP (dt (by rw [e3]; show (0+q)*8≤_; omega)),zP (zu (by omega)),zP (by unfold zGw; rw [dt (by omega),dt (by omega),dt (by omega)]; rfl),e1,e2,zP (dt (by rw [List.length_take,List.length_drop]; omega))]
    exact hj b _ b2 (by rw [List.length_append,List.length_take,List.length_drop]; omega)
  ·rw [ze (df w3)]
   by_cases w4:x.what.tmod 6=4
   ·obtain ⟨b,b1,b2⟩:=zTb h3
    rw [zy (dt w4),b1,zAm]
    exact hj b held b2 (by omega)
   ·rw [ze (df w4)]
    by_cases w5:x.what.tmod 6=5
    ·rw [zy (dt w5),zP (dt (zJv (by omega) (by omega)))]
     rcases zWo h3.w x.pick with ⟨p,b,b1,b2,b3⟩ | ⟨b,e,b1,b2⟩
     ·rw [b2,zAm,zy (dt rfl),zP (dt (by show (held.length+1)*8≤_; omega))]
      exact hj b _ (zSF h3 b1 b3) (by simp; omega)
     ·rw [b1,zAm,ze (df b2)]
      exact hj a held h3 (by omega)
    ·rw [ze (df w5)]
     rcases zRY h3.w hcl (!decide (x.what.tmod 6=0)) (decide (x.what.tmod 6=2)) with ⟨p,b1,_,_,b,y,b2,b3⟩ | ⟨_,b2⟩
     ·rw [b2,zAm,zy (dt rfl),zP (dt (by show (held.length+1)*8≤_; omega))]
      exact hj b _ (zSF h3 b1 b3) (by simp; omega)
     ·rw [b2,zAm,ze (by rfl),ze (by rfl)]
      exact hj a held h3 (by omega)
theorem zYL {m:zAE} {ops:List zBM} (hm:Mc m) (hops:∀ x,x∈ops→Gop x) (hl:ops.length≤30):∃ a0 a held,zJR m=some (a0,0)∧Beg a0∧zJP m ops=some (a,held,true)∧Inv a0 a held∧held.length≤30:=by
 obtain ⟨a0,n1,n2⟩:=zY6 hm
 obtain ⟨a,held,p1,p2,p3⟩:=zUE hops (by omega) n2.c ops.length z9 0 a0 [] (by omega) (by unfold z9; omega) (zWD n2) (Nat.le_refl _)
 refine ⟨a0,a,held,n1,n2,?_,p2,by omega⟩
 unfold zJP
 rw [n1,zAm,dt rfl,Bool.not_true,ze rfl]
 exact p1
end
end Go.Proofs.Ytplkliakhdkpcaa
namespace Go.Proofs.Ytplkliakhdkpcaa
open Go Go.RowKit Go.Wk Go.Am
def Num (P:Int→Prop) (n:Int):Prop := ∃ l:List Int,l.Nodup∧(l.length:Int)=n ∧ ∀ g,P g↔g∈l
theorem Num.uniq {P:Int→Prop} {n m:Int} (h:Num P n) (g:Num P m):n=m:=by
 obtain ⟨l,l1,l2,l3⟩:=h
 obtain ⟨k,k1,k2,k3⟩:=g
 have:=((List.perm_ext_iff_of_nodup l1 k1).2 fun x=>(l3 x).symm.trans (k3 x)).length_eq
 omega
theorem Num.iff {P Q:Int→Prop} {n:Int} (h:Num P n) (e:∀ g,Q g↔P g):Num Q n:=by
 obtain ⟨l,l1,l2,l3⟩:=h
 exact ⟨l,l1,l2,fun g=>(e g).trans (l3 g)⟩
theorem Num.or {P Q:Int→Prop} {n m:Int} (h:Num P n) (g:Num Q m) (hd:∀ x,P x→Q x→False):Num (fun x=>P x∨Q x) (n+m):=by
 obtain ⟨l,l1,l2,l3⟩:=h
 obtain ⟨k,k1,k2,k3⟩:=g
 refine ⟨l++k,?_,by rw [List.length_append]; omega,fun x => ?_⟩
 ·rw [List.nodup_append]
  exact ⟨l1,k1,fun x hx y hy e=>hd x ((l3 x).2 hx) ((k3 x).2 (e▸hy))⟩
 ·rw [List.mem_append, ← l3, ← k3]
theorem Num.del {P:Int→Prop} {n x:Int} (h:Num P n) (hx:P x):Num (fun g=>P g∧g≠x) (n - 1):=by
 obtain ⟨l,l1,l2,l3⟩:=h
 have hm:=(l3 x).1 hx
 have hp:=List.length_pos_of_mem hm
 refine ⟨l.erase x,l1.erase x,by rw [List.length_erase_of_mem hm]; omega,fun g => ?_⟩
 rw [l1.mem_erase_iff, ← l3]
 exact ⟨fun h=>⟨h.2,h.1⟩,fun h=>⟨h.2,h.1⟩⟩
theorem Num.nil {P:Int→Prop} (h:∀ x,¬ P x):Num P 0:=⟨[],List.nodup_nil,rfl,fun g=>⟨fun x=>absurd x (h g),fun x=>by cases x⟩⟩
theorem Num.lst {l:List Int} (h:l.Nodup):Num (fun g=>g∈l) (l.length:Int):=⟨l,h,rfl,fun _=>Iff.rfl⟩
theorem zSx (x:Int):∀ n:Nat,Num (fun g=>x≤g∧g<x+n) n
 | 0=>Num.nil fun g h=>by omega
 | n+1=>by
  have h1:Num (fun g=>g∈[x+(n:Int)]) 1:=Num.lst (by simp)
  refine ((zSx x n).or h1 fun g h2 h3 => ?_).iff fun g => ?_
  ·rw [List.mem_singleton] at h3; omega
  ·rw [List.mem_singleton]; omega
section
variable {z:zW} {a b:zH} {p k:Nat}
theorem zTw (ho:OkZ z) (hk:k<5):∀ (l:List Int),(∀ x,x∈l→x∈lst z k)→l.Nodup→Num (fun g => ∃ x,x∈l∧x≤g∧g<x+2 ^ k) ((l.length:Int)*2 ^ k)
 | [],_,_=>by
  rw [show (([]:List Int).length:Int)*2 ^ k=0 by simp]
  exact Num.nil fun g ⟨x,hx,_⟩=>by cases hx
 | x::r,h,hn=>by
  have hn':=List.nodup_cons.1 hn
  have h1:=zSx x (2 ^ k)
  have hpn:=zL0 (k:=k) (by omega)
  rw [← hpn] at h1
  have h2:=zTw ho hk r (fun y hy=>h y (by simp [hy])) hn'.2
  have e:((x::r).length:Int)*2 ^ k=2 ^ k+(r.length:Int)*2 ^ k:=by
   rw [List.length_cons,show ((r.length+1:Nat):Int)=(r.length:Int)+1 by omega,Int.add_mul,Int.one_mul,Int.add_comm]
  rw [e]
  refine (h1.or h2 fun g h3 ⟨y,h4,h5,h6⟩ => ?_).iff fun g => ?_
  ·have:=(ho.dis k x k y g (h x (by simp)) (h y (by simp [h4])) h3.1 h3.2 h5 h6).2
   subst this
   exact hn'.1 h4
  ·constructor
   ·rintro ⟨y,h3,h4⟩
    rcases List.mem_cons.1 h3 with rfl | h3
    ·exact .inl h4
    ·exact .inr ⟨y,h3,h4⟩
   ·rintro (h3 | ⟨y,h3,h4⟩)
    ·exact ⟨x,by simp,h3⟩
    ·exact ⟨y,by simp [h3],h4⟩
theorem zR1 (ho:OkZ z):∀ (m k:Nat),k+m=5→Num (fun g => ∃ j x,k≤j∧x∈lst z j∧x≤g∧g<x+2 ^ j) (zPM k (z.free.drop k))
 | 0,k,h=>by
  rw [List.drop_eq_nil_of_le (by rw [ho.len]; omega)]
  exact Num.nil fun g ⟨j,x,h1,h2,_⟩=>by have:=ho.le4 h2; omega
 | m+1,k,h=>by
  have h1:=zTw ho (show k<5 by omega) (lst z k) (fun _ hx=>hx) (List.Pairwise.imp (fun h=>Int.ne_of_lt h) (ho.srt k))
  have h2:=zR1 ho m (k+1) (by omega)
  obtain ⟨a1,a2⟩:=List.getElem?_eq_some_iff.1 (ho.zk.get (k:=k) (by omega))
  rw [List.drop_eq_getElem_cons a1,a2]
  unfold zPM
  refine (h1.or h2 fun g ⟨x,h3,h4,h5⟩ ⟨j,y,h6,h7,h8,h9⟩ => ?_).iff fun g => ?_
  ·have:=(ho.dis k x j y g h3 h7 h4 h5 h8 h9).1
   omega
  ·constructor
   ·rintro ⟨j,x,h3,h4⟩
    by_cases e:j=k
    ·subst e; exact .inl ⟨x,h4⟩
    ·exact .inr ⟨j,x,by omega,h4⟩
   ·rintro (⟨x,h3⟩ | ⟨j,x,h3,h4⟩)
    ·exact ⟨k,x,Nat.le_refl _,h3⟩
    ·exact ⟨j,x,by omega,h4⟩
theorem zWN (ho:OkZ z):Num (cov z) (zUw z):=by
 have:=zR1 ho 5 0 rfl
 rw [List.drop_zero] at this
 exact this.iff fun g=>⟨fun ⟨j,x,h⟩=>⟨j,x,Nat.zero_le _,h⟩,fun ⟨j,x,_,h⟩=>⟨j,x,h⟩⟩
theorem zVd (h:Wa a):∀ (m c:Nat),c+m=a.caches.length→Num (fun g => ∃ d,c≤d∧d<a.caches.length∧g∈Lf a d p) (zRT (a.caches.drop c) (p:Int))
 | 0,c,hc=>by
  rw [List.drop_eq_nil_of_le (by omega)]
  exact Num.nil fun g ⟨d,h1,h2,_⟩=>by omega
 | m+1,c,hc=>by
  have hcl:c<a.caches.length:=by omega
  have h1:=Num.lst (h.nd c p hcl)
  have h2:=zVd h m (c+1) (by omega)
  rw [zCk hcl]
  unfold zRT
  refine (h1.or h2 fun g h3 ⟨d,h4,h5,h6⟩ => ?_).iff fun g => ?_
  ·have:=(h.dis c d p p g hcl h5 h3 h6).1
   omega
  ·constructor
   ·rintro ⟨d,h3,h4,h5⟩
    by_cases e:d=c
    ·subst e; exact .inl h5
    ·exact .inr ⟨d,by omega,h4,h5⟩
   ·rintro (h3 | ⟨d,h3,h4⟩)
    ·exact ⟨c,Nat.le_refl _,hcl,h3⟩
    ·exact ⟨d,by omega,h4⟩
theorem zPV (h:Wa a) (hp:p<a.zones.length):Num (FrP a p) (zLR a p):=by
 have h1:=zWN (h.zs p hp)
 have h2:=zVd (p:=p) h a.caches.length 0 (by omega)
 rw [List.drop_zero] at h2
 refine (h1.or h2 fun g h3 ⟨d,_,h4,h5⟩=>(h.own d p g h4 h5).2 h3).iff fun g => ?_
 unfold FrP
 constructor
 ·rintro (h3 | ⟨d,h3⟩)
  ·exact .inl h3
  ·exact .inr ⟨d,Nat.zero_le _,h3⟩
 ·rintro (h3 | ⟨d,_,h3⟩)
  ·exact .inl h3
  ·exact .inr ⟨d,h3⟩
theorem zU9 (h:Wa a) {x:Int} (hp:p<a.zones.length) (t:zWO a b p x):zLR b p=zLR a p - 1 ∧ ∀ q,q<a.zones.length→q≠p→zLR b q=zLR a q:=by
 obtain ⟨t1,t2,t3,t4⟩:=t
 constructor
 ·exact (zPV t1 (by rw [t2.zl]; exact hp)).uniq (((zPV h hp).del t4).iff t3.1)
 ·intro q hq hne
  exact (zPV t1 (by rw [t2.zl]; exact hq)).uniq ((zPV h hq).iff (t3.2 q hne hq))
end
end Go.Proofs.Ytplkliakhdkpcaa
namespace Go.Proofs.Ytplkliakhdkpcaa
open Go Go.RowKit Go.Wk Go.Am
section
variable {a b:zH} {c p:Nat}
theorem zPb (h:Wa a) (hp:p<a.zones.length):zCj a (p:Int)=some (zLR a p):=by
 unfold zCj
 rw [zJ4 h,zAm,ze (by rw [df (p:=(p:Int)<0) (by omega),df (p:=(a.zones.length:Int)≤(p:Int)) (by omega)]; rfl),(counts h.va hp).1,zAm]
theorem zQb (h:Wa a) (hp:p<a.zones.length) {f:Int} (hi:inside (Zn a p) f 0=true):∃ q,zCO a f=some q∧(q=true↔FrP a p f):=by
 obtain ⟨q,q1,q2⟩:=zRI h hp hi
 refine ⟨q,?_,q2⟩
 unfold zCO
 rw [zJ4 h,zAm,dt rfl,Bool.not_true,ze rfl,zPK h,zSo h hp hi,zAm,dt (show (0:Int)≤(p:Int) by omega),zy rfl,q1,zAm,Bool.true_and]
theorem zW8 (h:Wa a) (hp:p<a.zones.length) {f:Int} (hi:inside (Zn a p) f 0=true):zEt a f=some (p:Int):=by
 unfold zEt
 rw [zJ4 h,zAm,dt rfl,Bool.not_true,ze rfl,zPK h,zSo h hp hi,zAm]
theorem zRd (h:Wa a) (hp:p<a.zones.length):can a false p↔(Zn a p).min<zLR a p:=by
 have hm:=zSv h.va hp
 unfold can
 constructor
 ·rintro ⟨_,h1⟩
  exact h1.resolve_left (fun e=>by cases e)
 ·intro h1
  have h2:(at_ a.zones (p:Int)).min<zLR a p:=h1
  exact ⟨by omega,.inr h1⟩
def may (a:zH) (kern:Bool) (p:Nat):Prop:=zRq a.zones kern (p:Int)=true∧(Zn a p).min<zLR a p
theorem zWj {ask:List Int} {x3:zH×List Int×Bool} {q:Bool} (h:Wa a) (hc:a.caches.length=2) (hx:x3.1=a) (hA:0≤ask.getD 0 0∧ask.getD 0 0≤255)
  (hq:q=true ↔ ∃ p:Nat,p<a.zones.length∧may a (decide ((ask.getD 1 0).tmod 2=1)) p):zBl ask x3 q=some true:=by
 obtain ⟨c,hcc,hc2⟩:=zVQ hA
 have hcc':(ask.getD (0:Int).toNat 0).tmod 2=(c:Int):=hcc
 unfold zBl
 rw [hx,hcc',zP (dt (zJv (by omega) (by omega)))]
 show ((zBi a (c:Int) (decide ((ask.getD 1 0).tmod 2=1)) false).bind _)=_
 rcases zRY h (show c<a.caches.length by omega) (decide ((ask.getD 1 0).tmod 2=1)) false with ⟨p,p1,p2,p3,b,x,b1,t⟩ | ⟨p1,p2⟩
 ·have hqt:q=true:=hq.2 ⟨p,p1,p2,(zRd h p1).1 p3⟩
  obtain ⟨t1,t2,t3,t4⟩:=t
  have hin:=FrP.ins h p1 t4
  have hinb:inside (Zn b p) x 0=true:=by rw [zMu t2 p1]; exact hin
  have hpb:p<b.zones.length:=by rw [t2.zl]; exact p1
  obtain ⟨q1,q2,q3⟩:=zQb h p1 hin
  obtain ⟨r1,r2,r3⟩:=zQb t1 hpb hinb
  have e1:q1=true:=q3.2 t4
  have e2:r1=false:=Bool.eq_false_iff.2 fun e=>((t3.1 x).1 (r3.1 e)).2 rfl
  obtain ⟨k1,_⟩:=zU9 h p1 ⟨t1,t2,t3,t4⟩
  have hb:=counts h.va p1
  subst hqt e1 e2
  rw [b1,zAm,dt rfl,Bool.not_true,ze rfl,zW8 h p1 hin,zAm,zy rfl,q2,zAm,Bool.and_self,zy rfl,r2,zAm,dt (show (0:Int)≤(p:Int) by omega)]
  rw [zy (by rfl),zy (by rfl),zPb t1 hpb,zAm,zPb h p1,zAm,zP (zMO (zu (by omega))),dt k1]
  rfl
 ·have hqf:q=false:=Bool.eq_false_iff.2 fun e=>by
   obtain ⟨p,h1,h2,h3⟩:=hq.1 e
   exact p1 p h1 h2 ((zRd h h1).2 h3)
  subst hqf
  rw [p2,zAm]
  rfl
theorem zU5 {ask:List Int} {x3:zH×List Int×Bool} (h:Wa a) (hc:a.caches.length=2) (hx:x3.1=a) (hA:0≤ask.getD 0 0∧ask.getD 0 0≤255):∀ (m n i:Nat) (q:Bool),i+m=a.zones.length→m<n →
  (q=true ↔ ∃ p:Nat,p<i∧may a (decide ((ask.getD 1 0).tmod 2=1)) p)→zA7 ask x3 n q (i:Int)=some true:=by
 have hzn:=h.zn
 intro m
 induction m with
 | zero =>
  intro n i q h1 h2 h3
  obtain ⟨n,rfl⟩:=ex1 ‹_<n›
  show zA6 _ _ _ _ _=_
  unfold zA6
  rw [hx,ze (df (by omega))]
  exact zWj h hc hx hA (by rw [h3,show i=a.zones.length by omega])
 | succ m ih =>
  intro n i q h1 h2 h3
  obtain ⟨n,rfl⟩:=ex1 ‹_<n›
  have hi:i<a.zones.length:=by omega
  have hj:∀ q':Bool,(q'=true ↔ ∃ p:Nat,p<i+1∧may a (decide ((ask.getD 1 0).tmod 2=1)) p)→zBP (zA7 ask x3 n) (i:Int) q'=some true:=fun q' hq'=>by
   unfold zBP
   rw [zP (zu (by omega))]
   exact ih n (i+1) q' (by omega) (by omega) hq'
  have hsu:((!(decide ((ask.getD 1 0).tmod 2=1)))||(decide ((at_ a.zones (i:Int)).kind=0)))=zRq a.zones (decide ((ask.getD 1 0).tmod 2=1)) (i:Int):=rfl
  show zA6 _ _ _ _ _=_
  unfold zA6
  rw [hx,zy (dt (by omega)),zPb h hi,zAm,zP (zAD hi)]
  show cnd ((decide ((at_ a.zones (i:Int)).min<zLR a i))&&((!(decide ((ask.getD 1 0).tmod 2=1)))||(decide ((at_ a.zones (i:Int)).kind=0)))) _ _=_
  rw [hsu]
  by_cases hm:may a (decide ((ask.getD 1 0).tmod 2=1)) i
  ·have hlt:(at_ a.zones (i:Int)).min<zLR a i:=hm.2
   rw [zy (by rw [hm.1,dt hlt]; rfl)]
   exact hj true ⟨fun _=>⟨i,by omega,hm⟩,fun _=>rfl⟩
  ·rw [ze (Bool.eq_false_iff.2 fun e=>by
    rw [Bool.and_eq_true,decide_eq_true_eq] at e
    exact hm ⟨e.2,e.1⟩)]
   refine hj q (h3.trans ⟨fun ⟨p,h4,h5⟩=>⟨p,by omega,h5⟩,fun ⟨p,h4,h5⟩=>⟨p,?_,h5⟩⟩)
   by_cases e:p=i
   ·subst e; exact absurd h5 hm
   ·omega
theorem zTG {m:zAE} {ops:List zBM} {ask:List Int} (hm:Mc m) (hops:∀ x,x∈ops→Gop x) (hA:∀ x,x∈ask→0≤x∧x≤255):zDW m ops ask=some true:=by
 unfold zDW
 rw [zWi,zAm,Bool.not_true,Bool.false_or]
 by_cases hl:30<(ops.length:Int)
 ·rw [zy (dt hl)]
  rfl
 ·obtain ⟨a0,a,held,n1,n2,n3,n4,n5⟩:=zYL hm hops (show ops.length≤30 by omega)
  have hzn:=n4.w.zn
  have hA0:0≤ask.getD 0 0∧ask.getD 0 0≤255:=by
   rw [List.getD_eq_getElem?_getD]
   by_cases hi:0<ask.length
   ·rw [List.getElem?_eq_getElem hi]
    exact hA _ (List.getElem_mem hi)
   ·rw [List.getElem?_eq_none (by omega)]
    exact ⟨Int.le_refl _,by decide⟩
  rw [ze (df hl),n3,zAm,Bool.not_true,ze rfl]
  exact zU5 (a:=a) n4.w (by rw [n4.s.cl,n2.c]) rfl hA0 a.zones.length z9 0 false (by omega) (by unfold z9; omega) ⟨fun e=>(by cases e),fun ⟨p,h1,_⟩=>by omega⟩
end
end Go.Proofs.Ytplkliakhdkpcaa
namespace Go.Proofs.Ytplkliakhdkpcaa
open Go Go.ChangeShapes Go.WideShapes Go.ChangeAt Go.RowKit Go.Wk Go.Am
theorem own:ownKnob Try.prog.godebug=none:=by kernel_rfl
theorem zWZ:laidOutB Try.prog=true:=by kernel_rfl
theorem zZO {n:Int} (h:(Lit.int .u8 n).wf=true):0≤n∧n≤255:=by
 simp [Lit.wf,IntKind.min,IntKind.max,IntKind.signed,IntKind.bits] at h
 omega
theorem zTi {l:List Int} (h:∀ x,x∈l→0≤x∧x≤255) (i:Nat):0≤l.getD i 0∧l.getD i 0≤255:=by
 rw [List.getD_eq_getElem?_getD]
 by_cases hi:i<l.length
 ·rw [List.getElem?_eq_getElem hi]
  exact h _ (List.getElem_mem hi)
 ·rw [List.getElem?_eq_none (by omega)]
  exact ⟨Int.le_refl _,by decide⟩
theorem zXa:RdC Try.prog 5 (cK .u8) (fun n=>0≤n∧n≤255):=RdC.map (zWb Try.underlying5) id (fun _=>rfl) (fun _ h=>zZO h)
theorem zUJ:RdC Try.prog 34 (cA 3 (eK .u8) 0) (fun l=>l.length=3 ∧ ∀ x,x∈l→0≤x∧x≤255):=zQy 0 Try.underlying34 (by kernel_rfl) (by kernel_rfl) zXa
theorem zXU:RdC Try.prog 35 (cA 3 eB false) (fun l=>l.length=3 ∧ ∀ x,x∈l→True):=zQy false Try.underlying35 (by kernel_rfl) (by kernel_rfl) (zRt Try.underlying4)
theorem zTj:RdC Try.prog 37 zt Mc :=
 RdC.map (zOZ (tot:=11) Try.underlying37 (by kernel_rfl) (zIq (s:=3) zUJ rfl (by kernel_rfl) (zIq (s:=3) zUJ rfl (by kernel_rfl) (zIq (s:=3) zXU rfl (by kernel_rfl) (zIq (s:=1) zXa rfl (by kernel_rfl) (zIq (s:=1) (zRt Try.underlying4) rfl (by kernel_rfl) (zTc rfl)))))))
  (fun x=>⟨x.1,x.2.1,x.2.2.1,x.2.2.2.1,x.2.2.2.2.1⟩) (fun _=>rfl) (fun _ h=>⟨zTi h.1.2,zTi h.2.1.2,h.2.2.2.1⟩)
theorem zZZ:RdC Try.prog 78 zo Gop :=
 RdC.map (zOZ (tot:=3) Try.underlying78 (by kernel_rfl) (zIq (s:=1) zXa rfl (by kernel_rfl) (zIq (s:=1) zXa rfl (by kernel_rfl) (zIq (s:=1) zXa rfl (by kernel_rfl) (zTc rfl)))))
  (fun x=>⟨x.1,x.2.1,x.2.2.1⟩) (fun _=>rfl) (fun _ h=>⟨h.1,h.2.1,h.2.2.1⟩)
theorem zZN:RdC Try.prog 38 (cS zo) (fun l=>(∀ x,x∈l→Gop x)∧l.length≤140737488351232):=zSy Try.underlying38 (of_decide_eq_true (by kernel_rfl)) (of_decide_eq_true (by kernel_rfl)) zZZ
theorem zZQ:RdC Try.prog 58 (cA 2 (eK .u8) 0) (fun l=>l.length=2 ∧ ∀ x,x∈l→0≤x∧x≤255):=zQy 0 Try.underlying58 (by kernel_rfl) (by kernel_rfl) zXa
set_option maxRecDepth 100000 in
theorem zJy (os:Os) (started:os.Started) (H:Type) (enc:TypeId×Value→H) :
  ReturnsInHanded {} Try.checked os 6 .any (Rows.allocatorRefusesSpec.pre6 enc Try.prog Try.f6 Rows.allocatorRefusesRow.domain false) (Rows.allocatorRefusesSpec.post enc Try.prog Try.f6 false true false false):=by
 refine returnsInHanded_of_change_sized (C:=Try.checked) own started (by kernel_rfl) Try.func6
  (ChangeSpec.witness6 (enc:=enc) (C:=Try.checked) false ⟨#[], #[.agg #[.int .u8 0,.int .u8 0,.int .u8 0,.int .u8 0,.int .u8 0,.int .u8 0,.bool false,.bool false,.bool false,.int .u8 0,.bool false],.slice none 0 0,.agg #[.int .u8 0,.int .u8 0]],[]⟩ 8 (by kernel_rfl) (by kernel_rfl) (by kernel_rfl) (by kernel_rfl)) ?_
 intro W base args ds gs before hval0 hW hcnd0 hsz0 _
 have hsz:(DataW.weightsEach Try.prog (Try.f6.params.toList++Rows.allocatorRefusesSpec.plain.varTypes Try.prog) (ds++gs)).all (· ≤ reachBytes)=true:=hsz0
 have hval:∀ (j:Nat) t v,Try.f6.params[j]?=some t→args[j]?=some v→Value.okWide Try.prog W .any base t v:=hval0
 clear hcnd0 hsz0 hval0
 have hW':=hW
 obtain ⟨p,q,hA0,hV,rfl,hfz,hnd⟩:=hW
 have hA:DataW.TrodAll enc Try.prog W 0 (fun _=>true) true Try.f6.params.toList args.toList ds p:=hA0
 clear hA0
 rw [Try.params6] at hA hval hsz
 obtain ⟨v0,v1,v2,d0,d1,d2,p0,p1,p2,rfl,rfl,rfl,h0,h1,h2⟩:=trodAll_three hA
 obtain ⟨rfl,rfl⟩:=trodVars_none hV
 simp only [List.append_nil] at hW' hsz
 have hlt:=hW'.lt
 have hwt:∀ (j:Nat) (t:TypeId) (d:DataW H),([37,38,58]:List TypeId)[j]?=some t→[d0,d1,d2][j]?=some d → ∀ n,n∈d.weights Try.prog t→n≤reachBytes:=by
  intro j t d ht hd n hn
  have:=List.all_eq_true.1 hsz n (DataW.weights_mem_each (ts:=[37,38,58]++Rows.allocatorRefusesSpec.plain.varTypes Try.prog) (by rw [List.getElem?_append_left (by have:=(List.getElem?_eq_some_iff.1 ht).1; exact this)]; exact ht) hd n hn)
  simpa using this
 obtain ⟨xs,rfl,hxs⟩:=okWide_struct Try.underlying37 (hval 0 37 v0 rfl rfl)
 obtain ⟨a1,n1,c1,rfl⟩:=okWide_slice Try.underlying38 (hval 1 38 v1 rfl rfl)
 obtain ⟨ys,rfl,hys⟩:=Go.WideMaps.okWide_arr (k:=58) (e:=5) (n:=2) ⟨Try.underlying58,by kernel_rfl,by kernel_rfl,by kernel_rfl⟩ (hval 2 58 v2 rfl rfl)
 obtain ⟨m,r0,hM⟩:=zTj.argA h0 (hwt 0 37 d0 rfl rfl) rfl
 obtain ⟨l,r1,hO⟩:=zZN.arg1 (g:=eS zo) h1 (hwt 1 38 d1 rfl rfl) rfl
 obtain ⟨b,r2,hB⟩:=zZQ.argA h2 (hwt 2 58 d2 rfl rfl) rfl
 have hk:∀ (W':World),Below W.heap.size W W' → ∀ (t:TypeId) (v:Value) (d:DataW H) (ps:List MemPlace),Try.prog.readableRec t=true→t<Try.prog.types.size→DataW.Trod enc Try.prog W 0 (fun _=>true) true t v d ps→(∀ x∈ps,x.block<W.heap.size)→DataW.Trod enc Try.prog W' 0 (fun b=>decide (b<W.heap.size)) true t v d ps :=
  fun W' hb t v d ps hr hs h hl=>Below.trod zWZ hr hs h hb hl
 refine (zJK (zTG hM hO.1 hB.2) W noB _ (fun x h=>h.elim) (show VRt W noB [] _ [_,_,_] [] from ?_)).mono ?_
 ·unfold VRt
  refine ⟨_,_,[],[],rfl,rfl,r0,?_⟩
  unfold VRt
  refine ⟨_,_,[],[],rfl,rfl,r1,?_⟩
  unfold VRt
  refine ⟨_,_,[],[],rfl,rfl,r2,?_⟩
  unfold VRt
  exact ⟨rfl,rfl⟩
 ·rintro v W' ⟨fr,hv,_,_,kp⟩
  unfold VR at hv
  obtain ⟨rfl,_⟩:=hv
  have hb:Below W.heap.size W W':=⟨kp.os,kp.tape,kp.output,kp.size,fun k hk=>kp.block k hk id⟩
  refine ⟨_,_,_,[],_,[],hW',trodAll_mk1 (shut_bool Try.underlying4 true),trodAll_mk3 (hk W' hb _ _ _ _ (by kernel_rfl) (of_decide_eq_true (by kernel_rfl)) h0 (fun x hx=>hlt x (by simp [hx]))) (hk W' hb _ _ _ _ (by kernel_rfl) (of_decide_eq_true (by kernel_rfl)) h1 (fun x hx=>hlt x (by simp [hx]))) (hk W' hb _ _ _ _ (by kernel_rfl) (of_decide_eq_true (by kernel_rfl)) h2 (fun x hx=>hlt x (by simp [hx]))),rfl,hb.frame _,fun h=>by cases h⟩
theorem allocatorRefuses_holds:Rows.AllocatorRefusesSaid :=
 OpenClaim.holds_of_wide 6 Try.f6 rfl rfl rfl rfl rfl rfl rfl ⟨rfl,rfl,rfl,rfl,rfl⟩ rfl rfl rfl rfl rfl (by kernel_rfl) Try.func6 (by kernel_rfl)
  (of_decide_eq_true (by kernel_rfl)) (by unfold Func.isWrapper; first | (rw [if_pos (by decide +kernel)]; kernel_rfl) | (rw [if_neg (by decide +kernel)]; exact ⟨rfl,rfl⟩))
  (fun os started H enc _=>zJy os started H enc)
end Go.Proofs.Ytplkliakhdkpcaa
