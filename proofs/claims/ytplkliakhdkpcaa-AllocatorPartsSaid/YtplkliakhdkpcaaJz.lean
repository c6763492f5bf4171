/-
 The statement AllocatorParts.
-/
import Derived.Test.YtplkliakhdkpcaaGe
import Derived.Test.YtplkliakhdkpcaaRows
import Derived.WideKeyArr2
set_option linter.unusedVariables false
set_option linter.unusedSimpArgs false
namespace Go.Proofs.Ytplkliakhdkpcaa
open Go Go.RowKit Go.Wk Go.Am
section
variable {a:zH} {c p:Nat}
theorem zI4:∀ (m i:Nat) {a:zH},Wa a→i+m≤a.caches.length→p<a.zones.length →
  Wa (zAs p m i a)∧(zAs p m i a).caches.length=a.caches.length∧(zAs p m i a).zones.length=a.zones.length∧(zAs p m i a).batch=a.batch∧(∀ d q,Lf (zAs p m i a) d q=if i≤d∧d<i+m∧q=p then [] else Lf a d q)∧(∀ q,q≠p→Zn (zAs p m i a) q=Zn a q) ∧
  (∀ g,cov (Zn (zAs p m i a) p) g↔cov (Zn a p) g ∨ ∃ d,i≤d∧d<i+m∧g∈Lf a d p)
 | 0,i,a,h,_,_=>⟨h,rfl,rfl,rfl,fun d q=>by rw [if_neg (by omega)]; rfl,fun q _=>rfl,fun g=>⟨.inl,fun x=>x.elim id (fun ⟨d,h1,h2,_⟩=>by omega)⟩⟩
 | m+1,i,a,h,hm,hp=>by
  have hi:i<a.caches.length:=by omega
  obtain ⟨_,_,hw⟩:=zJx h hi hp
  obtain ⟨s1,s2⟩:=zEg (a:=a) (c:=i) (p:=p)
  have hL:=zSb h hi hp
  obtain ⟨_,g2,_⟩:=zLE (Lf a i p) (h.zs p hp) (fun f hf=>h.own i p f hi hf) (h.nd i p hi)
  obtain ⟨r1,r2,r3,r4,r5,r6,r7⟩:=zI4 m (i+1) hw (by rw [s1]; omega) (by rw [s2]; exact hp)
  have hZ:Zn (zF1 a i p) p=zKs (Zn a p) (Lf a i p):=by
   unfold zF1
   rw [zRt hp,if_pos rfl]
  refine ⟨r1,r2.trans s1,r3.trans s2,r4,fun d q => ?_,fun q hq => ?_,fun g => ?_⟩
  ·show Lf (zAs p m (i+1) (zF1 a i p)) d q=_
   rw [r5,hL]
   by_cases h1:i+1≤d∧d<i+1+m∧q=p
   ·rw [if_pos h1,if_pos (by omega)]
   ·rw [if_neg h1]
    by_cases h2:d=i∧q=p
    ·rw [if_pos h2,if_pos (by omega)]
    ·rw [if_neg h2,if_neg (by omega)]
  ·show Zn (zAs p m (i+1) (zF1 a i p)) q=_
   rw [r6 q hq]
   unfold zF1
   rw [zRt hp,if_neg hq]
  ·show cov (Zn (zAs p m (i+1) (zF1 a i p)) p) g↔_
   rw [r7,hZ,g2]
   constructor
   ·rintro ((h1 | h1) | ⟨d,h1,h2,h3⟩)
    ·exact .inl h1
    ·exact .inr ⟨i,Nat.le_refl _,by omega,h1⟩
    ·rw [hL,if_neg (by omega)] at h3
     exact .inr ⟨d,by omega,by omega,h3⟩
   ·rintro (h1 | ⟨d,h1,h2,h3⟩)
    ·exact .inl (.inl h1)
    ·by_cases hd:d=i
     ·subst hd; exact .inl (.inr h3)
     ·exact .inr ⟨d,by omega,by omega,by rw [hL,if_neg (by omega)]; exact h3⟩
theorem zWZ {K:Nat} {x2:List Int×Int} {i1:Int} {x7:zH×Bool} (hx:at_ x2.1 i1=(p:Int)) (hx7:x7.1.caches.length=K) (hc:c<K) (hK:K≤1000):∀ (m n i:Nat) (b:zH),i+m=K→m<n→Wa b→b.caches.length=K→p<b.zones.length→Lf b c p=[] →
  zCZ (c:Int) x2 i1 x7 n (i:Int) b.nodes b.batch b.high b.zones b.caches=zC1 (c:Int) x2 i1 (zAs p m i b).nodes (zAs p m i b).batch (zAs p m i b).high (zAs p m i b).zones (zAs p m i b).caches:=by
 intro m
 induction m with
 | zero =>
  intro n i b h1 h2 hw hb hp hl
  obtain ⟨n,rfl⟩:=ex1 ‹_<n›
  show zCV _ _ _ _ _ _ _ _ _ _ _=_
  unfold zCV
  rw [hx7,zf (df (by omega))]
  rfl
 | succ m ih =>
  intro n i b h1 h2 hw hb hp hl
  obtain ⟨n,rfl⟩:=ex1 ‹_<n›
  show zCV _ _ _ _ _ _ _ _ _ _ _=_
  unfold zCV zD6
  rw [hx7,zz (dt (by omega))]
  by_cases hi:i=c
  ·subst hi
   rw [dt rfl,Bool.not_true,zf rfl,zP (zu (by omega))]
   show _=zC1 _ _ _ (zAs p m (i+1) (zF1 b i p)).nodes _ _ _ _
   rw [show zAs p (m+1) i b=zAs p m (i+1) (zF1 b i p) from rfl,zSr hw (by omega) hp hl]
   exact ih n (i+1) b (by omega) (by omega) hw hb hp hl
  ·obtain ⟨d1,_,d3⟩:=zJx hw (c:=i) (by omega) hp
   rw [df (by omega),zz (by rfl),hx,show (⟨b.nodes,b.batch,b.high,b.zones,b.caches⟩:zH)=b from rfl,d1,zAw,zP (zu (by omega))]
   exact ih n (i+1) (zF1 b i p) (by omega) (by omega) d3 (zEg.1.trans hb) (by rw [zEg.2]; exact hp) (by rw [zSb hw (by omega) hp]; split; rfl; exact hl)
def zQV (a:zH) (c p:Nat):zH:=⟨a.nodes,a.batch,a.high,a.zones,a.caches.set c (zXO (at_ a.caches (c:Int)) p)⟩
theorem zQh (hp:p<a.zones.length):zQV a c p=upd a c p ((Lf a c p).take ((Lf a c p).length - 1)) (Zn a p):=by
 unfold zQV upd Zn
 rw [zJA hp]
 rfl
theorem zWF (h:Wa a) (hc:c<a.caches.length) (hp:p<a.zones.length):Wa (zQV a c p):=by
 rw [zQh hp]
 have hm:∀ f,f∈(Lf a c p).take ((Lf a c p).length - 1)→f∈Lf a c p:=fun f hf=>List.mem_of_mem_take hf
 have:=h.lim c p hc
 refine zOK h hc hp (h.zs p hp) ⟨rfl,rfl,rfl,rfl,rfl⟩ (by rw [List.length_take]; omega) ((h.nd c p hc).sublist (List.take_sublist _ _)) (fun f hf=>h.own c p f hc (hm f hf)) (fun d f hd hdc hf=>⟨fun hh=>hdc (h.dis d c p p f hd hc hf (hm f hh)).1,(h.own d p f hd hf).2⟩)
def a1A (a:zH) (c p:Nat):zH:=if Lf a c p=[] then zRv a c p else a
def a2A (a:zH) (c p:Nat):zH:=if Lf (a1A a c p) c p=[] then zRv (zAs p (a1A a c p).caches.length 0 (a1A a c p)) c p else a1A a c p
def zL7 (a:zH) (c p:Nat):zH×Int:=(zQV (a2A a c p) c p,zPk (at_ (a2A a c p).caches (c:Int)) p)
theorem zPs:(zRv a c p).caches.length=a.caches.length∧(zRv a c p).zones.length=a.zones.length:=⟨List.length_set,List.length_set⟩
theorem zTI (h:Wa a) (hc:c<a.caches.length) (hp:p<a.zones.length) (d q:Nat):Lf (zRv a c p) d q=if d=c∧q=p then Lf a c p++(refl a.batch.toNat (Zn a p)).2.reverse else Lf a d q:=zR8 h hc hp d q
theorem zSi:∀ (ls:List (List Int)) (k:Nat),0<zP9 k ls → ∃ (j:Nat) (l:List Int),ls[j]?=some l∧l≠[]
 | [],k,h=>by unfold zP9 at h; omega
 | l::ls,k,h=>by
  by_cases hl:l=[]
  ·unfold zP9 at h
   rw [hl] at h
   obtain ⟨j,m,h1,h2⟩:=zSi ls (k+1) (by simpa using h)
   exact ⟨j+1,m,by simpa using h1,h2⟩
  ·exact ⟨0,l,rfl,hl⟩
theorem zSN:∀ (cs:List zK) (i:Int),0<zS7 cs i → ∃ d,d<cs.length∧at_ (at_ cs (d:Int)).lists i≠[]
 | [],i,h=>by unfold zS7 at h; omega
 | x::cs,i,h=>by
  unfold zS7 at h
  by_cases hx:at_ x.lists i=[]
  ·rw [hx] at h
   obtain ⟨d,h1,h2⟩:=zSN cs i (by simpa using h)
   exact ⟨d+1,by simp; omega,h2⟩
  ·exact ⟨0,by simp,hx⟩
theorem zXk (h:0<zOv a p):(∃ g,cov (Zn a p) g) ∨ ∃ d,d<a.caches.length∧Lf a d p≠[]:=by
 unfold zOv at h
 by_cases hn:0<zV1 (at_ a.zones (p:Int))
 ·obtain ⟨j,l,h1,h2⟩:=zSi _ _ hn
  obtain ⟨x,r,e,_⟩:=zXt h2
  refine .inl ⟨x,j,x,?_,by omega,by have:=zGm j; omega⟩
  show x∈lst (at_ a.zones (p:Int)) j
  rw [zVs h1,e]
  simp
 ·exact .inr (zSN _ _ (by omega))
theorem zYG (h:Wa a) (hc:c<a.caches.length) (hp:p<a.zones.length):Wa (a1A a c p)∧(a1A a c p).caches.length=a.caches.length∧(a1A a c p).zones.length=a.zones.length:=by
 unfold a1A
 by_cases hl:Lf a c p=[]
 ·rw [if_pos hl]
  exact ⟨(zIc h hc hp hl).2.2,zPs.1,zPs.2⟩
 ·rw [if_neg hl]
  exact ⟨h,rfl,rfl⟩
theorem zV0 (h:Wa a) (hc:c<a.caches.length) (hp:p<a.zones.length) (hg:∃ g,cov (Zn a p) g):Lf (zRv a c p) c p≠[]:=by
 rw [zTI h hc hp,if_pos ⟨rfl,rfl⟩]
 intro e
 have hbh:=h.bh
 have e2:=(List.append_eq_nil_iff.1 e).2
 rw [List.reverse_eq_nil_iff,show a.batch.toNat=(a.batch.toNat - 1)+1 by omega] at e2
 obtain ⟨g,hg⟩:=hg
 exact zVO (h.zs p hp) e2 g hg
theorem zYB (h:Wa a) (hc:c<a.caches.length) (hp:p<a.zones.length) (hn:0<zOv a p):Wa (a2A a c p)∧(a2A a c p).caches.length=a.caches.length∧(a2A a c p).zones.length=a.zones.length∧Lf (a2A a c p) c p≠[]:=by
 obtain ⟨w1,w2,w3⟩:=zYG h hc hp
 unfold a2A
 by_cases hl:Lf (a1A a c p) c p=[]
 ·rw [if_pos hl]
  obtain ⟨r1,r2,r3,r4,r5,r6,r7⟩:=zI4 (p:=p) (a1A a c p).caches.length 0 w1 (by omega) (by rw [w3]; exact hp)
  have hl2:Lf (zAs p (a1A a c p).caches.length 0 (a1A a c p)) c p=[]:=by
   rw [r5]
   split
   ·rfl
   ·exact hl
  have hc2:c<(zAs p (a1A a c p).caches.length 0 (a1A a c p)).caches.length:=by rw [r2,w2]; exact hc
  have hp2:p<(zAs p (a1A a c p).caches.length 0 (a1A a c p)).zones.length:=by rw [r3,w3]; exact hp
  refine ⟨(zIc r1 hc2 hp2 hl2).2.2,zPs.1.trans (r2.trans w2),zPs.2.trans (r3.trans w3),zV0 r1 hc2 hp2 ?_⟩
  have hl0:Lf a c p=[]:=by
   by_cases h0:Lf a c p=[]
   ·exact h0
   ·unfold a1A at hl
    rw [if_neg h0] at hl
    exact hl
  have ea:a1A a c p=zRv a c p:=by unfold a1A; rw [if_pos hl0]
  have hng:¬ ∃ g,cov (Zn a p) g:=fun hg=>by
   have:=zV0 h hc hp hg
   rw [← ea] at this
   exact this hl
  rcases zXk hn with hg | ⟨d,hd,hne⟩
  ·exact absurd hg hng
  ·obtain ⟨x,r,e,_⟩:=zXt hne
   refine ⟨x,(r7 x).2 (.inr ⟨d,Nat.zero_le _,by rw [w2]; omega,?_⟩)⟩
   have hdc:d≠c:=fun e'=>by subst e'; exact hne hl0
   rw [ea,zTI h hc hp,if_neg (fun e'=>hdc e'.1),e]
   simp
 ·rw [if_neg hl]
  exact ⟨w1,w2,w3,hl⟩
theorem zVQ (h:Wa a) (hc:c<a.caches.length) (hp:p<a.zones.length) (hn:0<zOv a p) {x2:List Int×Int} {i1:Int} (hx:at_ x2.1 i1=(p:Int)) :
  (chk (inb (c:Int) a.caches.length)<|chk (inb (at_ x2.1 i1) ((at_ a.caches (c:Int)).lists).length) <|
   (cnd (decide (((at_ ((at_ a.caches (c:Int)).lists) (at_ x2.1 i1)).length:Int)=0)) (zC5 (⟨a.nodes,a.batch,a.high,a.zones,a.caches⟩:zH) (c:Int) (at_ x2.1 i1)) (some ((⟨a.nodes,a.batch,a.high,a.zones,a.caches⟩:zH),default))).bind fun x7 =>
   cnd ((decide (((at_ ((at_ a.caches (c:Int)).lists) (at_ x2.1 i1)).length:Int)=0))&&(!x7.2)) (
    zCZ (c:Int) x2 i1 x7 z5 0 x7.1.nodes x7.1.batch x7.1.high x7.1.zones x7.1.caches) (
    zCQ (c:Int) x2 i1 x7.1.nodes x7.1.batch x7.1.high x7.1.zones x7.1.caches))=some ((zL7 a c p).1,(zL7 a c p).2,0):=by
 obtain ⟨w1,w2,w3⟩:=zYG h hc hp
 obtain ⟨v1,v2,v3,v4⟩:=zYB h hc hp hn
 have hcn:=h.n
 have hcn2:=h.cn
 have hcl:=h.cl c hc
 have key:∀ b:zH,Wa b→b.caches.length=a.caches.length→b.zones.length=a.zones.length→Lf b c p≠[]→zCQ (c:Int) x2 i1 b.nodes b.batch b.high b.zones b.caches=some (zQV b c p,zPk (at_ b.caches (c:Int)) p,0):=fun b hb h1 h2 h3=>by
  unfold zCQ
  rw [hx,zP (zAD (by rw [h1]; exact hc)),zZb (hb.pc (by rw [h1]; exact hc)) (by rw [h2]; exact hp) h3,zAw,zf (by rfl)]
  rfl
 rw [hx,zP (zAD hc),zP (zAD (by rw [hcl]; exact hp))]
 by_cases hl:Lf a c p=[]
 ·have e1:a1A a c p=zRv a c p:=by unfold a1A; rw [if_pos hl]
  rw [dt (show ((at_ (at_ a.caches (c:Int)).lists (p:Int)).length:Int)=0 by show ((Lf a c p).length:Int)=0; rw [hl]; rfl),zz rfl,show (⟨a.nodes,a.batch,a.high,a.zones,a.caches⟩:zH)=a from rfl,(zIc h hc hp hl).1,zAw, ← e1]
  have hlr:Lf (a1A a c p) c p=(refl a.batch.toNat (Zn a p)).2.reverse:=by rw [e1,zTI h hc hp,if_pos ⟨rfl,rfl⟩,hl,List.nil_append]
  by_cases hr:(refl a.batch.toNat (Zn a p)).2=[]
  ·have hl1:Lf (a1A a c p) c p=[]:=by rw [hlr,hr]; rfl
   have e2:a2A a c p=zRv (zAs p (a1A a c p).caches.length 0 (a1A a c p)) c p:=by unfold a2A; rw [if_pos hl1]
   obtain ⟨r1,r2,r3,r4,r5,r6,r7⟩:=zI4 (p:=p) (a1A a c p).caches.length 0 w1 (by omega) (by rw [w3]; exact hp)
   have hl2:Lf (zAs p (a1A a c p).caches.length 0 (a1A a c p)) c p=[]:=by
    rw [r5]
    split
    ·rfl
    ·exact hl1
   have hq:=(zIc r1 (c:=c) (by rw [r2,w2]; exact hc) (by rw [r3,w3]; exact hp) hl2).1
   rw [zz (by rw [hr]; rfl)]
   refine (zWZ (x7:=(a1A a c p,decide (0<(((refl a.batch.toNat (Zn a p)).2).length:Int)))) hx (K:=(a1A a c p).caches.length) rfl (by rw [w2]; exact hc) (by omega) (a1A a c p).caches.length z5 0 (a1A a c p) (by omega) (by unfold z5; omega) w1 rfl (by rw [w3]; exact hp) hl1).trans ?_
   unfold zC1
   rw [hx,show (⟨(zAs p (a1A a c p).caches.length 0 (a1A a c p)).nodes,(zAs p (a1A a c p).caches.length 0 (a1A a c p)).batch,(zAs p (a1A a c p).caches.length 0 (a1A a c p)).high,(zAs p (a1A a c p).caches.length 0 (a1A a c p)).zones,(zAs p (a1A a c p).caches.length 0 (a1A a c p)).caches⟩:zH)=zAs p (a1A a c p).caches.length 0 (a1A a c p) from rfl,hq,zAw, ← e2]
   exact key _ v1 v2 v3 v4
  ·have hl1:Lf (a1A a c p) c p≠[]:=by rw [hlr]; exact fun e=>hr (List.reverse_eq_nil_iff.1 e)
   have e2:a2A a c p=a1A a c p:=by unfold a2A; rw [if_neg hl1]
   have hpos:0<(refl a.batch.toNat (Zn a p)).2.length:=List.length_pos_iff.2 hr
   rw [zf (by rw [dt (show (0:Int)<((refl a.batch.toNat (Zn a p)).2.length:Int) by omega)]; rfl), ← e2]
   exact key _ v1 v2 v3 v4
 ·have e1:a1A a c p=a:=by unfold a1A; rw [if_neg hl]
  have e2:a2A a c p=a:=by unfold a2A; rw [e1,if_neg hl]
  have hne:¬ ((at_ (at_ a.caches (c:Int)).lists (p:Int)).length:Int)=0:=fun e=>hl (List.length_eq_zero_iff.1 (by show (Lf a c p).length=0; have e':((Lf a c p).length:Int)=0:=e; omega))
  rw [df hne,zf rfl,zAw,zf (by rfl)]
  have:=key a h rfl rfl hl
  unfold zL7
  rw [e2]
  exact this
theorem Wa.gn (h:Wa a):Gn a.zones:=by
 have hz:∀ z,z∈a.zones→ranges z=true:=fun z hz=>by
  obtain ⟨q,hq,e⟩:=List.getElem_of_mem hz
  have:=(h.zs q hq).ranges
  unfold Zn at this
  rw [zFW hq,e] at this
  exact this
 exact ⟨h.zn.2,fun z hm=>by have:=zA4 (hz z hm); omega,fun z hm=>(zA4 (hz z hm)).2.2.1⟩
theorem Wa.vn (h:Wa a) (hc:c<a.nodes.length):0≤at_ a.nodes (c:Int)∧at_ a.nodes (c:Int)<4:=h.nr _ (zAv hc)
end
end Go.Proofs.Ytplkliakhdkpcaa
namespace Go.Proofs.Ytplkliakhdkpcaa
open Go Go.RowKit Go.Wk Go.Am
section
variable {a:zH} {c p:Nat}
theorem Wa.al (h:Wa a):Al a:=by
 have h1:=h.n
 have h2:=h.zn
 have h3:=h.cn
 refine ⟨by omega,by omega,by omega,fun z hz => ?_,fun x hx => ?_⟩
 ·obtain ⟨q,hq,e⟩:=List.getElem_of_mem hz
  have:=h.zs q hq
  unfold Zn at this
  rw [zFW hq,e] at this
  exact ⟨this.zk,this.inI⟩
 ·obtain ⟨d,hd,e⟩:=List.getElem_of_mem hx
  have:=(h.pc hd).ck
  rw [zFW hd,e] at this
  exact this
theorem Wa.va (h:Wa a):Va a:=by
 refine ⟨h.al,h.se,fun x hx => ?_,h.zn.1⟩
 obtain ⟨d,hd,e⟩:=List.getElem_of_mem hx
 have:=h.cl d hd
 rw [zFW hd,e] at this
 exact this
end
end Go.Proofs.Ytplkliakhdkpcaa
namespace Go.Proofs.Ytplkliakhdkpcaa
open Go Go.RowKit Go.Wk Go.Am
section
variable {l:List Int} {f:Int}
def wo (f:Int) (l:List Int):List Int:=l.filter fun y => !decide (y=f)
theorem zTK {i:Nat} (hi:i<l.length):wo f (l.take (i+1))=if at_ l (i:Int)=f then wo f (l.take i) else wo f (l.take i)++[at_ l (i:Int)]:=by
 unfold wo
 rw [List.take_add_one,List.getElem?_eq_getElem hi, ← zFW hi,List.filter_append]
 by_cases h:at_ l (i:Int)=f
 ·rw [if_pos h]
  show _++List.filter _ [at_ l (i:Int)]=_
  rw [List.filter_cons_of_neg (by rw [dt h]; simp)]
  simp
 ·rw [if_neg h]
  show _++List.filter _ [at_ l (i:Int)]=_
  rw [List.filter_cons_of_pos (by rw [df h]; rfl)]
  simp
theorem zVS (hl:l.length≤1000):∀ (m n i:Nat),i+m=l.length→m<n→f∈l.drop i→f ∉ l.take i → ∃ j:Nat,j<l.length∧wo f (l.take (j+1))=l.take j∧zAH l (fun y=>zBk y f) n (i:Int)=some (j:Int):=by
 intro m
 induction m with
 | zero =>
  intro n i h1 h2 h3 _
  rw [List.drop_eq_nil_of_le (by omega)] at h3
  cases h3
 | succ m ih =>
  intro n i h1 h2 h3 h4
  obtain ⟨n,rfl⟩:=ex1 ‹_<n›
  have hi:i<l.length:=by omega
  have ee:zAH l (fun y=>zBk y f) (n+1) (i:Int)=cnd (decide (at_ l (i:Int)=f)) (some (i:Int)) (zAH l (fun y=>zBk y f) n ((i+1:Nat):Int)):=by
   show zAW _ _ _ _=_
   unfold zAW zBk
   rw [zz (dt (by omega)),zP (zAD hi),zAw,zP (zu (by omega))]
   rfl
  rw [ee]
  by_cases h:at_ l (i:Int)=f
  ·rw [zz (dt h)]
   refine ⟨i,hi,?_,rfl⟩
   rw [zTK hi,if_pos h]
   exact List.filter_eq_self.2 fun y hy=>by rw [df (fun e:y=f=>h4 (e▸hy))]; rfl
  ·rw [zf (df h)]
   rw [zC4 hi] at h3
   refine ih n (i+1) (by omega) (by omega) ((List.mem_cons.1 h3).resolve_left (fun e=>h e.symm)) (fun hm => ?_)
   rw [List.take_add_one,List.getElem?_eq_getElem hi, ← zFW hi] at hm
   rcases List.mem_append.1 hm with hm | hm
   ·exact h4 hm
   ·exact h (List.mem_singleton.1 hm).symm
theorem zUk (hl:l.length≤1000):∀ (m n j i:Nat) (q:List Int),j+m=l.length→m<n→i≤j→q.length=l.length→q.take i=wo f (l.take j)→q.drop j=l.drop j→zA8 (fun y=>zBk y f) n (i:Int) (j:Int) q=some (wo f l):=by
 intro m
 induction m with
 | zero =>
  intro n j i q h1 h2 h3 h4 h5 h6
  obtain ⟨n,rfl⟩:=ex1 ‹_<n›
  have e:zI9 q (i:Int)=q.take i++List.replicate (q.length - i) 0:=rfl
  have hcl:(zI9 q (i:Int)).length=q.length:=by rw [e,List.length_append,List.length_take,List.length_replicate]; omega
  show zAr _ _ _ _ _=_
  unfold zAr zB0
  rw [zf (df (by omega)),zP (by unfold zHG; simp; omega),zP (by rw [hcl]; unfold zHG; simp; omega)]
  unfold zFX
  rw [Int.toNat_natCast,e,List.take_left' (by rw [List.length_take]; omega),h5,List.take_of_length_le (by omega)]
  rfl
 | succ m ih =>
  intro n j i q h1 h2 h3 h4 h5 h6
  obtain ⟨n,rfl⟩:=ex1 ‹_<n›
  have hj:j<l.length:=by omega
  have hjq:j<q.length:=by omega
  have hiq:i<q.length:=by omega
  have h6':=h6
  rw [zC4 hj,zC4 hjq] at h6
  obtain ⟨ea,ed⟩:=List.cons.inj h6
  have hw:=zTK (f:=f) hj
  show zAr _ _ _ _ _=_
  unfold zAr zBW zBk
  rw [zz (dt (by omega)),zP (zAD hjq),zAw,zP (zAD hiq),zP (zu (by omega)),zP (zu (by omega)),zP (zu (by omega)),ea,Int.toNat_natCast]
  by_cases h:at_ l (j:Int)=f
  ·rw [dt h,Bool.not_true,zf rfl]
   rw [if_pos h] at hw
   exact ih n (j+1) i q (by omega) (by omega) (by omega) h4 (by rw [h5,hw]) ed
  ·rw [df h,Bool.not_false,zz rfl]
   rw [if_neg h] at hw
   refine ih n (j+1) (i+1) _ (by omega) (by omega) (by omega) (by rw [List.length_set]; exact h4) ?_ ?_
   ·rw [hw,List.take_add_one,List.getElem?_set_self hiq,List.take_set_of_le (Nat.le_refl i),h5]
    rfl
   ·rw [List.drop_set_of_lt (by omega)]
    exact ed
theorem zZ3 (hl:l.length≤1000) (hf:f∈l):zBq l (fun y=>zBk y f)=some (wo f l):=by
 obtain ⟨j,j1,j2,j3⟩:=zVS (f:=f) hl l.length z5 0 (by omega) (by unfold z5; omega) hf (by simp)
 unfold zBq zBY
 rw [z0i,j3,zAw,zf (df (by omega)),zP (zu (by omega))]
 exact zUk hl (l.length - (j+1)) z5 (j+1) j l (by omega) (by unfold z5; omega) (by omega) rfl j2.symm rfl
end
section
variable {a:zH}
theorem zZS (h:Va a) {f:Int} {p:Nat} (hp:p<a.zones.length):∀ (m n j:Nat),j+m=a.caches.length→m<n → ∃ r,zw a.caches (fun y=>zAp y (p:Int) f) n (j:Int)=some r∧(r = -1 ∨ ∃ c:Nat,r=(c:Int)∧c<a.caches.length∧f∈Lf a c p):=by
 have hcl:=h.al.c
 intro m
 induction m with
 | zero =>
  intro n j h1 h2
  obtain ⟨n,rfl⟩:=ex1 ‹_<n›
  refine ⟨-1,?_,.inl rfl⟩
  show zj _ _ _ _=_
  unfold zj
  rw [zf (df (by omega))]
  rfl
 | succ m ih =>
  intro n j h1 h2
  obtain ⟨n,rfl⟩:=ex1 ‹_<n›
  have hj:j<a.caches.length:=by omega
  have hl:=h.len _ (zAv hj)
  have hb:=(h.al.ck _ (zAv hj)).l _ (zAv (show p<(at_ a.caches (j:Int)).lists.length by omega))
  have h1c:zAp (at_ a.caches (j:Int)) (p:Int) f=some (decide (f∈at_ (at_ a.caches (j:Int)).lists (p:Int))):=by
   unfold zAp
   rw [zP (zAD (by omega)),contains hb]
   rfl
  obtain ⟨r,r1,r2⟩:=ih n (j+1) (by omega) (by omega)
  show ∃ r,zj _ _ _ _=some r∧_
  unfold zj
  rw [zz (dt (by omega)),zP (zAD hj),zP (zu (by omega))]
  show ∃ r,((zAp (at_ a.caches (j:Int)) (p:Int) f).bind _)=some r∧_
  rw [h1c,zAw]
  by_cases hm:f∈at_ (at_ a.caches (j:Int)).lists (p:Int)
  ·rw [zz (dt hm)]
   exact ⟨_,rfl,.inr ⟨j,rfl,hj,hm⟩⟩
  ·rw [zf (df hm)]
   exact ⟨r,r1,r2⟩
theorem zZV (h:Va a) {f:Int} {p:Nat} (hp:p<a.zones.length):∀ (m n j:Nat),j+m=a.caches.length→m<n → ∃ r,zCw a (p:Int) f n (j:Int)=some r∧(r = -1 ∨ ∃ c:Nat,r=(c:Int)∧c<a.caches.length∧f∈Lf a c p):=by
 have hcl:=h.al.c
 intro m
 induction m with
 | zero =>
  intro n j h1 h2
  obtain ⟨n,rfl⟩:=ex1 ‹_<n›
  refine ⟨-1,?_,.inl rfl⟩
  show zCM _ _ _ _ _=_
  unfold zCM
  rw [zf (df (by omega))]
  rfl
 | succ m ih =>
  intro n j h1 h2
  obtain ⟨n,rfl⟩:=ex1 ‹_<n›
  have hj:j<a.caches.length:=by omega
  have hlen:=h.len _ (zAv hj)
  have hb:=(h.al.ck _ (zAv hj)).l _ (zAv (show p<(at_ a.caches (j:Int)).lists.length by omega))
  obtain ⟨i1,i2⟩:=zYx (se:=zCw a (p:Int) f n) (f:=f) h hp hj rfl _ z5 0 (Nat.zero_add _) (by unfold z5; omega)
  rw [List.drop_zero] at i1 i2
  obtain ⟨r,r1,r2⟩:=ih n (j+1) (by omega) (by omega)
  show ∃ r,zCM _ _ _ _ _=some r∧_
  unfold zCM
  rw [zz (dt (by omega)),z0i]
  by_cases hm:f∈at_ (at_ a.caches (j:Int)).lists (p:Int)
  ·exact ⟨_,i1 hm,.inr ⟨j,rfl,hj,hm⟩⟩
  ·exact ⟨r,(i2 hm).trans r1,r2⟩
theorem zWp (h:Va a) (hw:Wa a) {f:Int} {p:Nat} (hp:p<a.zones.length):∃ r,zCd a (p:Int) f=some r∧zK7 a (p:Int) f=some r∧((r = -1 ∧ ∀ c,c<a.caches.length→f ∉ Lf a c p) ∨ ∃ c:Nat,r=(c:Int)∧c<a.caches.length∧f∈Lf a c p):=by
 have hcl:=h.al.c
 obtain ⟨r,q,s⟩:=zTC h (f:=f) hp a.caches.length z5 0 (by omega) (by unfold z5; omega)
 obtain ⟨r',q',s'⟩:=zUZ h (f:=f) hp a.caches.length z5 0 (by omega) (by unfold z5; omega)
 obtain ⟨x,u,v⟩:=zZS h (f:=f) hp a.caches.length z5 0 (by omega) (by unfold z5; omega)
 obtain ⟨x',u',v'⟩:=zZV h (f:=f) hp a.caches.length z5 0 (by omega) (by unfold z5; omega)
 have e:=Option.some.inj (q.symm.trans u)
 have e':=Option.some.inj (q'.symm.trans u')
 subst e e'
 rw [List.drop_zero] at s s'
 have hex:(∃ c,c∈a.caches∧f∈at_ c.lists (p:Int)) ↔ ∃ c,c<a.caches.length∧f∈Lf a c p:=by
  constructor
  ·rintro ⟨c,h1,h2⟩
   obtain ⟨d,hd,e⟩:=List.getElem_of_mem h1
   exact ⟨d,hd,by unfold Lf; rw [zFW hd,e]; exact h2⟩
  ·rintro ⟨c,h1,h2⟩
   exact ⟨_,zAv h1,h2⟩
 rw [hex] at s s'
 have hrr:r'=r:=by
  rcases v with v | ⟨c,v1,v2,v3⟩
  ·rcases v' with v' | ⟨c',v1',v2',v3'⟩
   ·rw [v,v']
   ·have:=s.2 ⟨c',v2',v3'⟩; omega
  ·rcases v' with v' | ⟨c',v1',v2',v3'⟩
   ·have:=s'.2 ⟨c,v2,v3⟩; omega
   ·rw [v1,v1',(hw.dis c c' p p f v2 v2' v3 v3').1]
 subst hrr
 refine ⟨r',?_,q',?_⟩
 ·unfold zCd zAa
  rw [z0i,q]
  rfl
 ·rcases v with v | v
  ·exact .inl ⟨v,fun c hc hm=>by have:=s.2 ⟨c,hc,hm⟩; omega⟩
  ·exact .inr v
theorem zZW (h:Wa a) {c p:Nat} {f:Int} (hc:c<a.caches.length) (hp:p<a.zones.length):Wa (upd a c p (wo f (Lf a c p)) (Zn a p)):=by
 have hs:∀ g,g∈wo f (Lf a c p)→g∈Lf a c p:=fun g hg=>(List.mem_filter.1 hg).1
 refine zOK h hc hp (h.zs p hp) ⟨rfl,rfl,rfl,rfl,rfl⟩ ?_ ((h.nd c p hc).sublist List.filter_sublist) (fun g hg=>h.own c p g hc (hs g hg)) (fun d g hd hdc hg=>⟨fun hm=>hdc (h.dis d c p p g hd hc hg (hs g hm)).1,(h.own d p g hd hg).2⟩)
 have h1:=h.lim c p hc
 have h2:(wo f (Lf a c p)).length≤(Lf a c p).length:=List.length_filter_le _ _
 omega
def zF0 (c:Nat):Nat→Nat→zH→zH
 | 0,_,a=>a
 | m+1,p,a=>zF0 c m (p+1) (zF1 a c p)
def zNZ:Nat→Nat→zH→zH
 | 0,_,a=>a
 | m+1,c,a=>zNZ m (c+1) (zF0 c a.zones.length 0 a)
theorem zOI {c:Nat}:∀ (m p:Nat) {b:zH},Wa b→c<b.caches.length→p+m≤b.zones.length→Wa (zF0 c m p b)∧(zF0 c m p b).caches.length=b.caches.length∧(zF0 c m p b).zones.length=b.zones.length
 | 0,_,b,h,_,_=>⟨h,rfl,rfl⟩
 | m+1,p,b,h,hc,hp=>by
  obtain ⟨_,_,d3⟩:=zJx h hc (show p<b.zones.length by omega)
  obtain ⟨r1,r2,r3⟩:=zOI (c:=c) m (p+1) d3 (by rw [zEg.1]; exact hc) (by rw [zEg.2]; omega)
  exact ⟨r1,r2.trans zEg.1,r3.trans zEg.2⟩
theorem zYJ {c K:Nat} {l3:List zW} {se:Int→List Int→Int→Int→List zW→List zK→Option zH} (hl:l3.length=K) (hK:K≤1000) (hcK:c≤1000):∀ (m n i:Nat) (b:zH),i+m=K→m<n→Wa b→b.zones.length=K→c<b.caches.length →
  zEC se (c:Int) l3 n (i:Int) b.nodes b.batch b.high b.zones b.caches=se ((c+1:Nat):Int) (zF0 c m i b).nodes (zF0 c m i b).batch (zF0 c m i b).high (zF0 c m i b).zones (zF0 c m i b).caches:=by
 intro m
 induction m with
 | zero =>
  intro n i b h1 h2 hw hb hc
  obtain ⟨n,rfl⟩:=ex1 ‹_<n›
  show zCR _ _ _ _ _ _ _ _ _ _=_
  unfold zCR zFO
  rw [zf (df (by omega)),zP (zu (by omega))]
  rfl
 | succ m ih =>
  intro n i b h1 h2 hw hb hc
  obtain ⟨n,rfl⟩:=ex1 ‹_<n›
  obtain ⟨d1,d2,d3⟩:=zJx hw hc (p:=i) (by omega)
  have q:=ih n (i+1) (zF1 b c i) (by omega) (by omega) d3 (zEg.2.trans hb) (by rw [zEg.1]; exact hc)
  show zCR _ _ _ _ _ _ _ _ _ _=_
  unfold zCR
  rw [zz (dt (by omega)),show (⟨b.nodes,b.batch,b.high,b.zones,b.caches⟩:zH)=b from rfl,d1,zAw,zP (zu (by omega)),show zF0 c (m+1) i b=zF0 c m (i+1) (zF1 b c i) from rfl]
  exact q
theorem zXm {K:Nat} {x:zH} (hx:x.caches.length=K) (hK:K≤100):∀ (m n c:Nat) (b:zH),c+m=K→m<n→Wa b→b.caches.length=K →
  zBd x n (c:Int) b.nodes b.batch b.high b.zones b.caches=some (zNZ m c b):=by
 intro m
 induction m with
 | zero =>
  intro n c b h1 h2 hw hb
  obtain ⟨n,rfl⟩:=ex1 ‹_<n›
  show zCU _ _ _ _ _ _ _ _=_
  unfold zCU
  rw [zf (df (by omega))]
  rfl
 | succ m ih =>
  intro n c b h1 h2 hw hb
  obtain ⟨n,rfl⟩:=ex1 ‹_<n›
  have hz:=hw.zn
  obtain ⟨r1,r2,r3⟩:=zOI (c:=c) b.zones.length 0 hw (by omega) (by omega)
  show zCU _ _ _ _ _ _ _ _=_
  unfold zCU
  rw [zz (dt (by omega)),z0i,zYJ rfl (by omega) (by omega) b.zones.length z5 0 b (by omega) (by unfold z5; omega) hw rfl (by omega)]
  exact ih n (c+1) _ (by omega) (by omega) r1 (by omega)
end
end Go.Proofs.Ytplkliakhdkpcaa
namespace Go.Proofs.Ytplkliakhdkpcaa
open Go Go.RowKit Go.Wk Go.Am
theorem zYi {z:zW} (hr:ranges z=true):∀ (l:List Int) (d:List Bool),d.length=256→(∀ f,f∈l→inZ z f=true∧zKu z f=false∧d.getD f.toNat false=false)→l.Nodup→(feL z d l).1=0
 | [],d,_,_,_=>rfl
 | f::r,d,hd,h,hn=>by
  have hf:=h f (by simp)
  have hb:=zNB hr hf.1
  have hn':=List.nodup_cons.1 hn
  unfold feL
  rw [if_pos hf.1,if_neg (by rw [hf.2.1,hf.2.2]; simp)]
  refine zYi hr r _ (by rw [List.length_set]; exact hd) (fun g hg => ?_) hn'.2
  have hg':=h g (by simp [hg])
  have hbg:=zNB hr hg'.1
  refine ⟨hg'.1,hg'.2.1,?_⟩
  rw [zB8 _ _ _ (by omega),if_neg (fun e=>hn'.1 (by rw [show f=g by omega]; exact hg))]
  exact hg'.2.2
theorem zZA:∀ (zs:List zW) (ls:List (List Int)) (d:List Bool),(∀ z,z∈zs→ranges z=true)→ls.length=zs.length→d.length=256 →
  (∀ (p:Nat) z l,zs[p]?=some z→ls[p]?=some l→(∀ f,f∈l→inZ z f=true∧zKu z f=false∧d.getD f.toNat false=false)∧l.Nodup) →
  (∀ (p q:Nat) l m f,ls[p]?=some l→ls[q]?=some m→f∈l→f∈m→p=q)→(feC d zs ls).1=0
 | [],[],d,_,_,_,_,_=>rfl
 | [],_::_,_,_,hl,_,_,_=>by simp at hl
 | _::_,[],_,_,hl,_,_,_=>by simp at hl
 | z::zs,l::ls,d,hr,hl,hd,h,hq=>by
  have hrz:=hr z (by simp)
  have h0:=h 0 z l rfl rfl
  have e0:=zYi hrz l d hd h0.1 h0.2
  obtain ⟨j1,j2,j3⟩:=zTS hrz l d hd e0
  unfold feC
  rw [if_pos e0]
  refine zZA zs ls _ (fun y hy=>hr y (by simp [hy])) (by simpa using hl) (by rw [zMy]; exact hd) (fun p y m hy hm => ?_) (fun p q a b f ha hb hfa hfb => ?_)
  ·have h1:=h (p+1) y m (by simpa using hy) (by simpa using hm)
   refine ⟨fun f hf => ?_,h1.2⟩
   have h2:=h1.1 f hf
   refine ⟨h2.1,h2.2.1,Bool.eq_false_iff.2 fun ht => ?_⟩
   have hb:=zNB (hr y (List.mem_of_getElem? (i:=p+1) (by simpa using hy))) h2.1
   rcases (j3 f.toNat).1 ht with h3 | h3
   ·rw [h2.2.2] at h3; cases h3
   ·rw [zQb hb.1] at h3
    exact absurd (hq 0 (p+1) l m f rfl (by simpa using hm) h3 hf) (by omega)
  ·have:=hq (p+1) (q+1) a b f (by simpa using ha) (by simpa using hb) hfa hfb
   omega
theorem zYA {zs:List zW} (hr:∀ z,z∈zs→ranges z=true):∀ (cs:List zK) (d:List Bool),(∀ c,c∈cs→c.lists.length=zs.length)→d.length=256 →
  (∀ c,c∈cs → ∀ (p:Nat) z l,zs[p]?=some z→c.lists[p]?=some l→(∀ f,f∈l→inZ z f=true∧zKu z f=false∧d.getD f.toNat false=false)∧l.Nodup) →
  (∀ c,c∈cs → ∀ (p q:Nat) l m f,c.lists[p]?=some l→c.lists[q]?=some m→f∈l→f∈m→p=q) →
  (∀ (i j:Nat) x y l m f,cs[i]?=some x→cs[j]?=some y→l∈x.lists→m∈y.lists→f∈l→f∈m→i=j)→feA zs d cs=0
 | [],_,_,_,_,_,_=>rfl
 | c::cs,d,hl,hd,h1,h2,h3=>by
  have hcl:=hl c (by simp)
  have e0:=zZA zs c.lists d hr hcl hd (h1 c (by simp)) (h2 c (by simp))
  obtain ⟨j1,j2,j3,j4⟩:=zVm zs c.lists d hr hcl hd e0
  unfold feA
  rw [if_pos e0]
  refine zYA hr cs _ (fun x hx=>hl x (by simp [hx])) (by rw [zRO]; exact hd) (fun x hx p z l hz hxl => ?_) (fun x hx=>h2 x (by simp [hx])) (fun i j x y l m f hi hj=>fun a1 a2 a3 a4 => ?_)
  ·have h4:=h1 x (by simp [hx]) p z l hz hxl
   refine ⟨fun f hf => ?_,h4.2⟩
   have h5:=h4.1 f hf
   refine ⟨h5.1,h5.2.1,Bool.eq_false_iff.2 fun ht => ?_⟩
   have hb:=zNB (hr z (List.mem_of_getElem? hz)) h5.1
   rcases (j3 f.toNat).1 ht with h6 | ⟨m,h6,h7⟩
   ·rw [h5.2.2] at h6; cases h6
   ·rw [zQb hb.1] at h7
    obtain ⟨i,hi,e⟩:=List.getElem_of_mem hx
    exact absurd (h3 0 (i+1) c x m l f rfl (by simp [hi,e]) h6 (List.mem_of_getElem? hxl) h7 hf) (by omega)
  ·have:=h3 (i+1) (j+1) x y l m f (by simpa using hi) (by simpa using hj) a1 a2 a3 a4
   omega
theorem zZr {h zn:Int}:∀ {cs:List zK},(∀ c,c∈cs→pcR c zn=0 ∧ ∀ l,l∈c.lists→(l.length:Int)≤h)→cE h zn cs=0
 | [],_=>rfl
 | c::cs,hh=>by
  have h0:=hh c (by simp)
  unfold cE
  rw [if_pos h0.1,if_neg (fun e=>by
   obtain ⟨l,hl,hd⟩:=List.any_eq_true.1 e
   have:=h0.2 l hl
   have:=of_decide_eq_true hd
   omega)]
  exact zZr (fun x hx=>hh x (by simp [hx]))
section
variable {a b:zH} {c p:Nat}
theorem Wa.lst_at (h:Wa a) (hc:c<a.caches.length) {l:List Int} (hl:l∈(at_ a.caches (c:Int)).lists):∃ p,p<a.zones.length∧l=Lf a c p:=by
 obtain ⟨p,hp,e⟩:=List.getElem_of_mem hl
 exact ⟨p,by rw [← h.cl c hc]; exact hp,by unfold Lf; rw [zFW hp,e]⟩
theorem zYo (h:Wa a):zZF a=0:=by
 have h1:=h.n
 have h2:=h.zn
 have h3:=h.bh
 have h4:=h.cn
 have hr:∀ z,z∈a.zones→ranges z=true:=fun z hz=>zFp (h.va.chk hz)
 have hf:zU2 a.nodes a.batch a.high (a.zones.length:Int)=true:=by
  unfold zU2 zMN
  rw [df (by omega),df (by omega),df (by omega),df (by omega),df (by omega),df (by omega),df (by omega)]
  rw [show a.nodes.any zPi=false from List.any_eq_false.2 fun v hv=>by
   have:=h.nr v hv
   unfold zPi
   rw [df (by omega),df (by omega)]
   simp]
  rfl
 have hi:∀ (i:Nat) x,a.caches[i]?=some x→i<a.caches.length∧x=at_ a.caches (i:Int):=fun i x e=>⟨(List.getElem?_eq_some_iff.1 e).1,(zXy e).symm⟩
 unfold zZF
 rw [if_pos hf,if_pos h.se,if_pos (by omega),if_pos (zZr fun x hx => ?_)]
 ·refine zYA hr a.caches zFI h.va.len zKP (fun x hx q z l hz hl => ?_) (fun x hx q r l m f hl hm hfl hfm => ?_) (fun i j x y l m f hx hy hl hm hfl hfm => ?_)
  ·obtain ⟨i,hxi,e⟩:=List.getElem_of_mem hx
   have ex:x=at_ a.caches (i:Int):=by rw [zFW hxi,e]
   subst ex
   have hq:=(List.getElem?_eq_some_iff.1 hz).1
   have el:l=Lf a i q:=(zXy hl).symm
   have ez:z=Zn a q:=(zXy hz).symm
   subst el
   subst ez
   refine ⟨fun f hfm => ?_,h.nd i q hxi⟩
   have ho:=h.own i q f hxi hfm
   have hk:=(h.zs q hq).zk
   refine ⟨(zOM (h.zs q hq).ranges).2 ho.1,Bool.eq_false_iff.2 fun ht=>ho.2 ((zRn hk (zC9 (h.zs q hq)) ho.1).1 ht),?_⟩
   unfold zFI
   rw [List.getD_eq_getElem?_getD,List.getElem?_replicate]
   split <;> rfl
  ·obtain ⟨i,hxi,e⟩:=List.getElem_of_mem hx
   have ex:x=at_ a.caches (i:Int):=by rw [zFW hxi,e]
   subst ex
   have e1:l=Lf a i q:=(zXy hl).symm
   have e2:m=Lf a i r:=(zXy hm).symm
   subst e1
   subst e2
   exact (h.dis i i q r f hxi hxi hfl hfm).2
  ·obtain ⟨hi1,e1⟩:=hi i x hx
   obtain ⟨hj1,e2⟩:=hi j y hy
   subst e1
   subst e2
   obtain ⟨q,_,el⟩:=h.lst_at hi1 hl
   obtain ⟨r,_,em⟩:=h.lst_at hj1 hm
   subst el
   subst em
   exact (h.dis i j q r f hi1 hj1 hfl hfm).1
 ·obtain ⟨i,hxi,e⟩:=List.getElem_of_mem hx
  have ex:x=at_ a.caches (i:Int):=by rw [zFW hxi,e]
  subst ex
  refine ⟨(h.pc hxi).r,fun l hl => ?_⟩
  obtain ⟨q,_,el⟩:=h.lst_at hxi hl
  subst el
  exact h.lim i q hxi
theorem zKU (h:Wa a):zAm a=some 0:=by rw [zY7 h.al,zYo h]
structure Shp (a b:zH):Prop where
 n:b.nodes=a.nodes
 ba:b.batch=a.batch
 hi:b.high=a.high
 cl:b.caches.length=a.caches.length
 zl:b.zones.length=a.zones.length
 z:∀ p,p<a.zones.length→zE0 (Zn b p) (Zn a p)
theorem Shp.refl:Shp a a:=⟨rfl,rfl,rfl,rfl,rfl,fun _ _=>⟨rfl,rfl,rfl,rfl,rfl⟩⟩
theorem Shp.trans {d:zH} (h:Shp a b) (g:Shp b d):Shp a d:=⟨g.n.trans h.n,g.ba.trans h.ba,g.hi.trans h.hi,g.cl.trans h.cl,g.zl.trans h.zl,fun p hp=>(g.z p (by rw [h.zl]; exact hp)).trans (h.z p hp)⟩
def FrP (a:zH) (p:Nat) (f:Int):Prop:=cov (Zn a p) f ∨ ∃ c,c<a.caches.length∧f∈Lf a c p
theorem FrP.ins (h:Wa a) (hp:p<a.zones.length) {f:Int} (hf:FrP a p f):inside (Zn a p) f 0=true:=by
 rcases hf with ⟨k,x,hx,h1,h2⟩ | ⟨d,hd,hm⟩
 ·have ho:=h.zs p hp
  have hb:=zAU ho.ranges (ho.ins k x hx)
  have h3:=(zAz ho.ranges).1 (ho.ins k x hx)
  refine (zAz ho.ranges).2 ⟨by omega,?_,?_,?_⟩
  ·rw [pw0]; omega
  ·rw [pw0]; have:=zA4 ho.ranges; omega
  ·rw [pw0]; omega
 ·exact (h.own d p f hd hm).1
def Frs (a b:zH) (p:Nat) (P:Int→Prop):Prop:=(∀ g,FrP b p g↔P g) ∧ ∀ q,q≠p→q<a.zones.length → ∀ g,FrP b q g↔FrP a q g
theorem zLt (h:Wa a) (hc:c<a.caches.length) (hp:p<a.zones.length) {l:List Int} {z:zW} (h5:zE0 z (Zn a p)) {P:Int→Prop} (hP:∀ g,(cov z g∨g∈l ∨ ∃ d,d<a.caches.length∧d≠c∧g∈Lf a d p)↔P g):Shp a (upd a c p l z)∧Frs a (upd a c p l z) p P:=by
 have hZ:=fun q=>zRt (c:=c) (l:=l) (z:=z) hp q
 have hL:=fun d q=>zR8 (l:=l) (z:=z) h hc hp d q
 have hcl:(upd a c p l z).caches.length=a.caches.length:=List.length_set
 refine ⟨⟨rfl,rfl,rfl,hcl,List.length_set,fun q hq => ?_⟩,fun g => ?_,fun q hq hql g => ?_⟩
 ·rw [hZ q]
  by_cases e:q=p
  ·rw [if_pos e,e]; exact h5
  ·rw [if_neg e]; exact ⟨rfl,rfl,rfl,rfl,rfl⟩
 ·rw [← hP g]
  unfold FrP
  rw [hcl,hZ p,if_pos rfl]
  constructor
  ·rintro (h1 | ⟨d,h1,h2⟩)
   ·exact .inl h1
   ·rw [hL] at h2
    by_cases e:d=c
    ·rw [if_pos ⟨e,rfl⟩] at h2; exact .inr (.inl h2)
    ·rw [if_neg (fun x=>e x.1)] at h2; exact .inr (.inr ⟨d,h1,e,h2⟩)
  ·rintro (h1 | h1 | ⟨d,h1,e,h2⟩)
   ·exact .inl h1
   ·exact .inr ⟨c,hc,by rw [hL,if_pos ⟨rfl,rfl⟩]; exact h1⟩
   ·exact .inr ⟨d,h1,by rw [hL,if_neg (fun x=>e x.1)]; exact h2⟩
 ·unfold FrP
  rw [hcl,hZ q,if_neg hq]
  constructor
  ·rintro (h1 | ⟨d,h1,h2⟩)
   ·exact .inl h1
   ·rw [hL,if_neg (fun x=>hq x.2)] at h2; exact .inr ⟨d,h1,h2⟩
  ·rintro (h1 | ⟨d,h1,h2⟩)
   ·exact .inl h1
   ·exact .inr ⟨d,h1,by rw [hL,if_neg (fun x=>hq x.2)]; exact h2⟩
theorem zIY (hc:c<a.caches.length) {g:Int}:FrP a p g↔cov (Zn a p) g∨g∈Lf a c p ∨ ∃ d,d<a.caches.length∧d≠c∧g∈Lf a d p:=by
 unfold FrP
 constructor
 ·rintro (h | ⟨d,h1,h2⟩)
  ·exact .inl h
  ·by_cases e:d=c
   ·subst e; exact .inr (.inl h2)
   ·exact .inr (.inr ⟨d,h1,e,h2⟩)
 ·rintro (h | h | ⟨d,h1,_,h2⟩)
  ·exact .inl h
  ·exact .inr ⟨c,hc,h⟩
  ·exact .inr ⟨d,h1,h2⟩
def zPP (a b:zH):Prop:=Wa b∧Shp a b ∧ ∀ q,q<a.zones.length → ∀ g,FrP b q g↔FrP a q g
theorem zPP.refl (h:Wa a):zPP a a:=⟨h,Shp.refl,fun _ _ _=>Iff.rfl⟩
theorem zPP.trans {d:zH} (h:zPP a b) (g:zPP b d):zPP a d:=⟨g.1,h.2.1.trans g.2.1,fun q hq x=>(g.2.2 q (by rw [h.2.1.zl]; exact hq) x).trans (h.2.2 q hq x)⟩
theorem zTN (hb:Wa b) (h:Shp a b) (hf:Frs a b p (FrP a p)):zPP a b:=⟨hb,h,fun q hq g=>by
 by_cases e:q=p
 ·subst e; exact hf.1 g
 ·exact hf.2 q e hq g⟩
theorem zST (h:Wa a) (hc:c<a.caches.length) (hp:p<a.zones.length) (hl:Lf a c p=[]):zPP a (zRv a c p):=by
 obtain ⟨r1,r2,r3,r4,r5,r6⟩:=zQ4 a.batch.toNat (h.zs p hp)
 obtain ⟨s1,s2⟩:=zLt h hc hp (l:=Lf a c p++(refl a.batch.toNat (Zn a p)).2.reverse) r2 (P:=FrP a p) (fun g=>by
  rw [zIY hc,r6,hl,List.nil_append,List.mem_reverse]
  constructor
  ·rintro (h1 | h1 | h1)
   ·exact .inl h1.1
   ·exact .inl (r5 g h1).2
   ·exact .inr (.inr h1)
  ·rintro (h1 | h1 | h1)
   ·by_cases hg:g∈(refl a.batch.toNat (Zn a p)).2
    ·exact .inr (.inl hg)
    ·exact .inl ⟨h1,hg⟩
   ·cases h1
   ·exact .inr (.inr h1))
 exact zTN (zIc h hc hp hl).2.2 s1 s2
theorem zO9 (h:Wa a) (hc:c<a.caches.length) (hp:p<a.zones.length):zPP a (zF1 a c p):=by
 obtain ⟨g1,g2,g3⟩:=zLE (Lf a c p) (h.zs p hp) (fun f hf=>h.own c p f hc hf) (h.nd c p hc)
 obtain ⟨s1,s2⟩:=zLt h hc hp (l:=[]) g3 (P:=FrP a p) (fun g=>by
  rw [zIY hc,g2]
  constructor
  ·rintro ((h1 | h1) | h1 | h1)
   ·exact .inl h1
   ·exact .inr (.inl h1)
   ·cases h1
   ·exact .inr (.inr h1)
  ·rintro (h1 | h1 | h1)
   ·exact .inl (.inl h1)
   ·exact .inl (.inr h1)
   ·exact .inr (.inr h1))
 exact zTN (zJx h hc hp).2.2 s1 s2
theorem zQp:∀ (m i:Nat) {a:zH},Wa a→i+m≤a.caches.length→p<a.zones.length→zPP a (zAs p m i a)
 | 0,i,a,h,_,_=>zPP.refl h
 | m+1,i,a,h,hm,hp=>by
  have hs:=zO9 h (c:=i) (by omega) hp
  exact hs.trans (zQp m (i+1) hs.1 (by rw [zEg.1]; omega) (by rw [zEg.2]; exact hp))
theorem zR1:∀ (m q:Nat) {b:zH},Wa b→c<b.caches.length→q+m≤b.zones.length→zPP b (zF0 c m q b)
 | 0,q,b,h,_,_=>zPP.refl h
 | m+1,q,b,h,hc,hm=>by
  have hs:=zO9 h hc (p:=q) (by omega)
  exact hs.trans (zR1 m (q+1) hs.1 (by rw [zEg.1]; exact hc) (by rw [zEg.2]; omega))
theorem zSX:∀ (m c:Nat) {b:zH},Wa b→c+m≤b.caches.length→zPP b (zNZ m c b)
 | 0,c,b,h,_=>zPP.refl h
 | m+1,c,b,h,hm=>by
  have hs:=zR1 (c:=c) b.zones.length 0 h (by omega) (by omega)
  exact hs.trans (zSX m (c+1) hs.1 (by rw [hs.2.1.cl]; omega))
theorem zWT (h:Wa a) (hc:c<a.caches.length) (hp:p<a.zones.length):zPP a (a1A a c p):=by
 unfold a1A
 by_cases hl:Lf a c p=[]
 ·rw [if_pos hl]; exact zST h hc hp hl
 ·rw [if_neg hl]; exact zPP.refl h
theorem zW0 (h:Wa a) (hc:c<a.caches.length) (hp:p<a.zones.length):zPP a (a2A a c p):=by
 have s1:=zWT h hc hp
 have hc1:c<(a1A a c p).caches.length:=by rw [s1.2.1.cl]; exact hc
 have hp1:p<(a1A a c p).zones.length:=by rw [s1.2.1.zl]; exact hp
 unfold a2A
 by_cases hl:Lf (a1A a c p) c p=[]
 ·rw [if_pos hl]
  have s2:=zQp (p:=p) (a1A a c p).caches.length 0 s1.1 (by omega) hp1
  obtain ⟨r1,r2,r3,r4,r5,r6,r7⟩:=zI4 (p:=p) (a1A a c p).caches.length 0 s1.1 (by omega) hp1
  have hl2:Lf (zAs p (a1A a c p).caches.length 0 (a1A a c p)) c p=[]:=by
   rw [r5]
   split
   ·rfl
   ·exact hl
  exact s1.trans (s2.trans (zST s2.1 (by rw [r2]; exact hc1) (by rw [r3]; exact hp1) hl2))
 ·rw [if_neg hl]; exact s1
theorem zWf (h:Wa a) (hc:c<a.caches.length) (hp:p<a.zones.length) (hne:Lf a c p≠[]):Wa (zQV a c p)∧Shp a (zQV a c p)∧Frs a (zQV a c p) p (fun g=>FrP a p g∧g≠zPk (at_ a.caches (c:Int)) p)∧FrP a p (zPk (at_ a.caches (c:Int)) p):=by
 have hpos:0<(Lf a c p).length:=List.length_pos_iff.2 hne
 have hx:zPk (at_ a.caches (c:Int)) p=at_ (Lf a c p) (((Lf a c p).length - 1:Nat):Int):=by
  unfold zPk
  show at_ (Lf a c p) (((Lf a c p).length:Int) - 1)=_
  rw [show (((Lf a c p).length:Int) - 1)=(((Lf a c p).length - 1:Nat):Int) by omega]
 generalize hxx:zPk (at_ a.caches (c:Int)) p=x at hx ⊢
 have hspl:Lf a c p=(Lf a c p).take ((Lf a c p).length - 1)++[x]:=by
  have:=List.take_append_drop ((Lf a c p).length - 1) (Lf a c p)
  rw [zC4 (show (Lf a c p).length - 1<(Lf a c p).length by omega), ← hx,List.drop_eq_nil_of_le (by omega)] at this
  exact this.symm
 have hxm:x∈Lf a c p:=by rw [hspl]; simp
 have hnd:=h.nd c p hc
 rw [hspl,List.nodup_append] at hnd
 have ho:=h.own c p x hc hxm
 obtain ⟨s1,s2⟩:=zLt h hc hp (l:=(Lf a c p).take ((Lf a c p).length - 1)) (z:=Zn a p) ⟨rfl,rfl,rfl,rfl,rfl⟩ (P:=fun g=>FrP a p g∧g≠x) (fun g=>by
  rw [zIY hc]
  have hm:g∈Lf a c p↔g∈(Lf a c p).take ((Lf a c p).length - 1)∨g=x:=by
   conv=>lhs; rw [hspl]
   simp
  rw [hm]
  constructor
  ·rintro (h1 | h1 | ⟨d,h1,h2,h3⟩)
   ·exact ⟨.inl h1,fun e=>ho.2 (e▸h1)⟩
   ·exact ⟨.inr (.inl (.inl h1)),fun e=>hnd.2.2 g h1 x (by simp) e⟩
   ·exact ⟨.inr (.inr ⟨d,h1,h2,h3⟩),fun e=>h2 (h.dis d c p p x h1 hc (e▸h3) hxm).1⟩
  ·rintro ⟨h1 | (h1 | h1) | h1,h2⟩
   ·exact .inl h1
   ·exact .inr (.inl h1)
   ·exact absurd h1 h2
   ·exact .inr (.inr h1))
 have hw:=zWF h hc hp
 rw [zQh hp] at hw ⊢
 exact ⟨hw,s1,s2,.inr ⟨c,hc,hxm⟩⟩
def zXx (a b:zH) (p:Nat) (x:Int):Prop:=Wa b∧Shp a b∧Frs a b p (fun g=>FrP a p g∧g≠x)∧FrP a p x
theorem zUt (h:Wa a) (hc:c<a.caches.length) (hp:p<a.zones.length) (hn:0<zOv a p):zXx a (zL7 a c p).1 p (zL7 a c p).2:=by
 have s:=zW0 h hc hp
 obtain ⟨v1,v2,v3,v4⟩:=zYB h hc hp hn
 obtain ⟨t1,t2,t3,t4⟩:=zWf v1 (by rw [v2]; exact hc) (by rw [v3]; exact hp) v4
 refine ⟨t1,s.2.1.trans t2,⟨fun g => ?_,fun q hq hql g => ?_⟩,(s.2.2 p hp _).1 t4⟩
 ·exact (t3.1 g).trans ⟨fun x=>⟨(s.2.2 p hp g).1 x.1,x.2⟩,fun x=>⟨(s.2.2 p hp g).2 x.1,x.2⟩⟩
 ·exact (t3.2 q hq (by rw [v3]; exact hql) g).trans (s.2.2 q hql g)
theorem zXF (h:Wa a) {f:Int} (hc:c<a.caches.length) (hp:p<a.zones.length) (hi:inside (Zn a p) f 0=true) (hn:¬ FrP a p f):Wa (zRJ a c p f)∧Shp a (zRJ a c p f)∧Frs a (zRJ a c p f) p (fun g=>FrP a p g∨g=f):=by
 have hn1:¬ cov (Zn a p) f:=fun x=>hn (.inl x)
 have hn2:∀ d,d<a.caches.length→f ∉ Lf a d p:=fun d hd x=>hn (.inr ⟨d,hd,x⟩)
 obtain ⟨_,_,_,hw⟩:=zVw h hc hp hi hn1 hn2
 have hx:∀ g,g∈Lf a c p++[f]→inside (Zn a p) g 0=true ∧ ¬ cov (Zn a p) g:=fun g hg=>by
  rcases List.mem_append.1 hg with hg | hg
  ·exact h.own c p g hc hg
  ·rw [List.mem_singleton.1 hg]; exact ⟨hi,hn1⟩
 have hxn:(Lf a c p++[f]).Nodup:=by
  rw [List.nodup_append]
  exact ⟨h.nd c p hc,by simp,fun x hx' y hy e=>by rw [List.mem_singleton.1 hy] at e; rw [e] at hx'; exact hn2 c hc hx'⟩
 refine ⟨hw,?_⟩
 unfold zRJ zNW
 by_cases hh:((at_ (at_ a.caches (c:Int)).lists (p:Int)++[f]).length:Int)≤a.high
 ·rw [if_pos hh]
  exact zLt h hc hp (l:=Lf a c p++[f]) (z:=Zn a p) ⟨rfl,rfl,rfl,rfl,rfl⟩ (fun g=>by
   rw [zIY hc,List.mem_append,List.mem_singleton]
   constructor
   ·rintro (h1 | (h1 | h1) | h1)
    ·exact .inl (.inl h1)
    ·exact .inl (.inr (.inl h1))
    ·exact .inr h1
    ·exact .inl (.inr (.inr h1))
   ·rintro ((h1 | h1 | h1) | h1)
    ·exact .inl h1
    ·exact .inr (.inl (.inl h1))
    ·exact .inr (.inr h1)
    ·exact .inr (.inl (.inr h1)))
 ·rw [if_neg hh]
  obtain ⟨g1,g2,g3⟩:=zLE (((Lf a c p)++[f]).take a.batch.toNat) (h.zs p hp) (fun g hg=>hx g (List.mem_of_mem_take hg)) (hxn.sublist (List.take_sublist _ _))
  exact zLt h hc hp (l:=((Lf a c p)++[f]).drop a.batch.toNat) g3 (fun g=>by
   have hm:(g∈((Lf a c p)++[f]).take a.batch.toNat∨g∈((Lf a c p)++[f]).drop a.batch.toNat)↔g∈Lf a c p∨g=f:=by
    rw [← List.mem_append,List.take_append_drop,List.mem_append,List.mem_singleton]
   rw [zIY hc,g2]
   constructor
   ·rintro ((h1 | h1) | h1 | h1)
    ·exact .inl (.inl h1)
    ·exact (hm.1 (.inl h1)).elim (fun x => .inl (.inr (.inl x))) .inr
    ·exact (hm.1 (.inr h1)).elim (fun x => .inl (.inr (.inl x))) .inr
    ·exact .inl (.inr (.inr h1))
   ·have key:(g∈Lf a c p∨g=f)→((cov (Zn a p) g∨g∈((Lf a c p)++[f]).take a.batch.toNat)∨g∈((Lf a c p)++[f]).drop a.batch.toNat ∨ ∃ d,d<a.caches.length∧d≠c∧g∈Lf a d p):=fun x=>(hm.2 x).elim (fun y => .inl (.inr y)) (fun y => .inr (.inl y))
    rintro ((h1 | h1 | h1) | h1)
    ·exact .inl (.inl h1)
    ·exact key (.inl h1)
    ·exact .inr (.inr h1)
    ·exact key (.inr h1))
theorem zZf (h:Wa a) {f:Int} (hc:c<a.caches.length) (hp:p<a.zones.length) (hf:f∈Lf a c p):zXx a (upd a c p (wo f (Lf a c p)) (Zn a p)) p f:=by
 have ho:=h.own c p f hc hf
 have hm:∀ g,g∈wo f (Lf a c p)↔g∈Lf a c p∧g≠f:=fun g=>by
  unfold wo
  rw [List.mem_filter]
  simp
 obtain ⟨s1,s2⟩:=zLt h hc hp (l:=wo f (Lf a c p)) (z:=Zn a p) ⟨rfl,rfl,rfl,rfl,rfl⟩ (P:=fun g=>FrP a p g∧g≠f) (fun g=>by
  rw [zIY hc,hm]
  constructor
  ·rintro (h1 | h1 | ⟨d,h1,h2,h3⟩)
   ·exact ⟨.inl h1,fun e=>ho.2 (e▸h1)⟩
   ·exact ⟨.inr (.inl h1.1),h1.2⟩
   ·exact ⟨.inr (.inr ⟨d,h1,h2,h3⟩),fun e=>h2 (h.dis d c p p f h1 hc (e▸h3) hf).1⟩
  ·rintro ⟨h1 | h1 | h1,h2⟩
   ·exact .inl h1
   ·exact .inr (.inl ⟨h1,h2⟩)
   ·exact .inr (.inr h1))
 exact ⟨zZW h hc hp,s1,s2,.inr ⟨c,hc,hf⟩⟩
theorem zZi (h:Wa a) {f:Int} {y:zW} (hp:p<a.zones.length) (hf:cov (Zn a p) f) (y3:OkZ y) (y4:zE0 y (Zn a p)) (y5:∀ g,cov y g↔cov (Zn a p) g∧g≠f):zXx a ⟨a.nodes,a.batch,a.high,a.zones.set p y,a.caches⟩ p f:=by
 have hcn:=h.cn
 have hn1:=h.n
 have hc:0<a.caches.length:=by omega
 have hpl0:=h.cl 0 hc
 have hW:=zOK (l:=Lf a 0 p) (z:=y) h hc hp y3 y4 (h.lim 0 p hc) (h.nd 0 p hc) (fun g hg=>⟨(h.own 0 p g hc hg).1,fun hv=>(h.own 0 p g hc hg).2 ((y5 g).1 hv).1⟩) (fun d g hd hdc hg=>⟨fun hm=>hdc (h.dis d 0 p p g hd hc hg hm).1,fun hv=>(h.own d p g hd hg).2 ((y5 g).1 hv).1⟩)
 have hcl:a.caches.set 0 ⟨(at_ a.caches ((0:Nat):Int)).lists.set p (Lf a 0 p)⟩=a.caches:=by
  have e1:(at_ a.caches ((0:Nat):Int)).lists.set p (Lf a 0 p)=(at_ a.caches ((0:Nat):Int)).lists:=zJA (by rw [hpl0]; exact hp)
  rw [e1]
  exact zJA hc
 have hins:inside (Zn a p) f 0=true:=FrP.ins h hp (.inl hf)
 obtain ⟨s1,s2⟩:=zLt h hc hp (l:=Lf a 0 p) y4 (P:=fun g=>FrP a p g∧g≠f) (fun g=>by
  rw [zIY hc,y5]
  constructor
  ·rintro (h1 | h1 | ⟨d,h1,h2,h3⟩)
   ·exact ⟨.inl h1.1,h1.2⟩
   ·exact ⟨.inr (.inl h1),fun e=>(h.own 0 p f hc (e▸h1)).2 hf⟩
   ·exact ⟨.inr (.inr ⟨d,h1,h2,h3⟩),fun e=>(h.own d p f h1 (e▸h3)).2 hf⟩
  ·rintro ⟨h1 | h1 | h1,h2⟩
   ·exact .inl ⟨h1,h2⟩
   ·exact .inr (.inl h1)
   ·exact .inr (.inr h1))
 unfold upd at hW s1 s2
 rw [hcl] at hW s1 s2
 exact ⟨hW,s1,s2,.inl hf⟩
end
end Go.Proofs.Ytplkliakhdkpcaa
namespace Go.Proofs.Ytplkliakhdkpcaa
open Go Go.RowKit Go.Wk Go.Am
section
variable {a b:zH} {c p:Nat}
theorem zV5 (h:Wa a) {f:Int} (hp:p<a.zones.length) (hi:inside (Zn a p) f 0=true):zIx f a.zones 0=(p:Int):=by
 obtain ⟨_,hap⟩:=zSv h.se
 have:=(zO1 f a.zones 0 p hp hap).2 (by rw [← zFW hp]; exact (zOM (h.zs p hp).ranges).2 hi)
 omega
theorem zWR (h:Wa a) {f:Int} (hi:0≤zIx f a.zones 0):∃ p,p<a.zones.length∧inside (Zn a p) f 0=true∧zIx f a.zones 0=(p:Int):=by
 obtain ⟨_,hap⟩:=zSv h.se
 obtain ⟨p,hp⟩:=Int.eq_ofNat_of_zero_le hi
 have hpl:p<a.zones.length:=by
  rcases zUH f a.zones 0 with hq | hq <;> omega
 have:=(zO1 f a.zones 0 p hpl hap).1 (by rw [hp]; omega)
 rw [← zFW hpl] at this
 exact ⟨p,hpl,(zOM (h.zs p hpl).ranges).1 this,hp⟩
theorem zRQ (h:Wa a) (f:Int):zCA a f=some (zIx f a.zones 0):=zX0 h.al (fun z hz=>h.va.chk hz)
theorem zTi (h:Wa a) (hp:p<a.zones.length):zCu a (p:Int)=some (zOv a p - (Zn a p).min):=by
 obtain ⟨k1,k2,k3,k4⟩:=counts h.va hp
 have hmin:=zWA h.va hp
 unfold zCu
 rw [k1,zAw,zP (zAD hp),zP (zu (by omega))]
 rfl
theorem zRh (h:Wa a) {f:Int} (hp:p<a.zones.length) (hi:inside (Zn a p) f 0=true):∃ q,zDU a (p:Int) f=some q∧(q=true↔FrP a p f):=by
 obtain ⟨q,q1,_,q3⟩:=zYZ h.va h hp hi
 exact ⟨q,q1,q3⟩
theorem zXT (h:Wa a) {f:Int} (hc:c<a.caches.length) (hp:p<a.zones.length) (hi:inside (Zn a p) f 0=true) (hn:¬ FrP a p f):zEZ a (c:Int) f=some (zRJ a c p f,0):=by
 obtain ⟨q,q1,q2⟩:=zRh h hp hi
 have hcn:=h.cn
 have hq:q=false:=Bool.eq_false_iff.2 fun e=>hn (q2.1 e)
 obtain ⟨w1,w2,w3,w4⟩:=zVw h hc hp hi (fun x=>hn (.inl x)) (fun d hd x=>hn (.inr ⟨d,hd,x⟩))
 unfold zEZ
 rw [zKU h,zAw,dt rfl,Bool.not_true,zf rfl,zRQ h,zV5 h hp hi,zAw,zf (by rw [df (by omega),df (by omega),df (by omega)]; rfl),q1,hq,zAw,zf rfl,zQU h.al,zAw,zP (zAD hc),w1,zAw,dt rfl,Bool.not_true,zf rfl,(w3 _).1,zAw]
 rfl
theorem zW2 (h:Wa a) (f:Int):(∃ p b,p<a.zones.length∧zFE a f=some (b,0)∧zXx a b p f) ∨ ∃ b e,zFE a f=some (b,e)∧e≠0:=by
 unfold zFE
 rw [zKU h,zAw,dt rfl,Bool.not_true,zf rfl,zRQ h,zAw]
 by_cases hd:zIx f a.zones 0<0
 ·rw [zz (dt hd)]
  exact .inr ⟨_,_,rfl,by decide⟩
 ·obtain ⟨p,hp,hi,e⟩:=zWR h (show 0≤zIx f a.zones 0 by omega)
  obtain ⟨q,q1,q2⟩:=zRh h hp hi
  rw [zf (df hd),e,q1,zAw]
  cases q with
  | false=>exact .inr ⟨_,_,rfl,by decide⟩
  | true =>
   have hfr:=q2.1 rfl
   rw [Bool.not_true,zf rfl,zTi h hp,zAw]
   by_cases hm:zOv a p - (Zn a p).min<1
   ·rw [zz (dt hm)]
    exact .inr ⟨_,_,rfl,by decide⟩
   ·obtain ⟨r,r1,_,r3⟩:=zWp (f:=f) h.va h hp
    rw [zf (df hm),zQU h.al,zAw,show (⟨a.nodes,a.batch,a.high,a.zones,a.caches⟩:zH)=a from rfl,r1,zAw]
    rcases r3 with ⟨e,hno⟩ | ⟨c,e,hcl,hfc⟩
    ·subst e
     have hcov:cov (Zn a p) f:=hfr.resolve_right fun ⟨c,c1,c2⟩=>hno c c1 c2
     obtain ⟨y,y1,y2,y3,y4,y5⟩:=zZh (h.zs p hp) hi hcov
     rw [zf (by rfl),zP (zAD hp),show at_ a.zones (p:Int)=Zn a p from rfl,y1,zAw,dt rfl,Bool.not_true,zf rfl]
     exact .inl ⟨p,_,hp,rfl,zZi h hp hcov y3 y4 y5⟩
    ·subst e
     have hll:=h.cl c hcl
     have hplc:p<(at_ a.caches (c:Int)).lists.length:=by omega
     have hlb:(Lf a c p).length≤1000:=by
      have:=h.lim c p hcl
      have:=h.bh
      omega
     have hz:a.zones.set p (Zn a p)=a.zones:=zJA hp
     have hW:=zZf h hcl hp hfc
     unfold upd at hW
     rw [hz] at hW
     rw [zz (dt (by omega)),zP (zAD hcl),zP (zAD hplc),show at_ (at_ a.caches (c:Int)).lists (p:Int)=Lf a c p from rfl,zZ3 hlb hfc,zAw]
     exact .inl ⟨p,_,hp,rfl,hW⟩
theorem zUy (h:Wa a):zDr a=some (zNZ a.caches.length 0 a):=by
 have hcn:=h.cn
 have hn:=h.n
 unfold zDr
 rw [zKU h,zAw,dt rfl,Bool.not_true,zf rfl,zQU h.al,zAw]
 exact zXm rfl (by omega) a.caches.length z5 0 a (by omega) (by unfold z5; omega) h rfl
def can (a:zH) (res:Bool) (p:Nat):Prop:=0<zOv a p∧(res=true∨(Zn a p).min<zOv a p)
theorem zZP (h:Wa a) (hc:c<a.caches.length) {res:Bool} {L:List Int} (hL:∀ z,z∈L→Ix a.zones z) (hLl:L.length≤256):∀ (m n i:Nat),i+m=L.length→m<n →
  (∃ p:Nat,(p:Int)∈L.drop i∧p<a.zones.length∧can a res p∧zA9 a (c:Int) res (L,0) n (i:Int)=some ((zL7 a c p).1,(zL7 a c p).2,0)) ∨
  ((∀ p:Nat,(p:Int)∈L.drop i → ¬ can a res p)∧zA9 a (c:Int) res (L,0) n (i:Int)=some (⟨[],0,0,[],[]⟩,0,16)):=by
 intro m
 induction m with
 | zero =>
  intro n i h1 h2
  obtain ⟨n,rfl⟩:=ex1 ‹_<n›
  refine .inr ⟨fun p hp => ?_,?_⟩
  ·rw [List.drop_eq_nil_of_le (by omega)] at hp
   cases hp
  ·show zBc _ _ _ _ _ _=_
   unfold zBc
   rw [zf (df (show ¬ (i:Int)<(L.length:Int) by omega))]
   rfl
 | succ m ih =>
  intro n i h1 h2
  obtain ⟨n,rfl⟩:=ex1 ‹_<n›
  have hi:i<L.length:=by omega
  obtain ⟨p,ep,hp⟩:=hL _ (zAv hi)
  obtain ⟨k1,k2,k3,k4⟩:=counts h.va hp
  have hmin:=zWA h.va hp
  have hroom:zCu a (p:Int)=some (zOv a p - (at_ a.zones (p:Int)).min):=zTi h hp
  have hx:at_ (L,(0:Int)).1 (i:Int)=(p:Int):=ep
  have hY:can a res p→zA9 a (c:Int) res (L,0) (n+1) (i:Int)=some ((zL7 a c p).1,(zL7 a c p).2,0):=fun hcan=>by
   show zBc _ _ _ _ _ _=_
   unfold zBc zD5
   rw [zz (dt (show (i:Int)<(L.length:Int) by omega)),zP (show inb (i:Int) L.length=true from zAD hi),hx,k1,hroom]
   have hcnt:=hcan.1
   have hpp:=zVQ h hc hp hcan.1 hx
   rw [hx] at hpp
   cases res with
   | true =>
    rw [zz rfl,zAw,zf (by rw [Bool.not_true,Bool.and_false]),zAw]
    rw [zf (by rw [df (show ¬ zOv a p=0 by omega)]; rfl),zQU h.al,zAw]
    exact hpp
   | false =>
    have hmc:(at_ a.zones (p:Int)).min<zOv a p:=hcan.2.resolve_left (fun e=>by cases e)
    rw [zf rfl,zAw,zz (by rfl),zAw]
    rw [zf (by rw [df (show ¬ zOv a p - (at_ a.zones (p:Int)).min<1 by omega)]; rfl),zQU h.al,zAw]
    exact hpp
  have hN:¬ can a res p→zA9 a (c:Int) res (L,0) (n+1) (i:Int)=zA9 a (c:Int) res (L,0) n ((i+1:Nat):Int):=fun hcan=>by
   show zBc _ _ _ _ _ _=_
   unfold zBc zD5
   rw [zz (dt (show (i:Int)<(L.length:Int) by omega)),zP (show inb (i:Int) L.length=true from zAD hi),hx,k1,hroom]
   cases res with
   | true =>
    have h0:zOv a p=0:=by
     have:¬ 0<zOv a p:=fun x=>hcan ⟨x,.inl rfl⟩
     omega
    rw [zz rfl,zAw,zf (by rw [Bool.not_true,Bool.and_false]),zAw]
    rw [zz (by rw [dt h0]; rfl),zP (zu (by omega))]
    rfl
   | false =>
    have h0:zOv a p - (at_ a.zones (p:Int)).min<1:=by
     refine Int.not_le.1 fun x=>hcan ⟨by omega,.inr ?_⟩
     show (at_ a.zones (p:Int)).min<_
     omega
    rw [zf rfl,zAw,zz (by rfl),zAw]
    rw [zz (by rw [dt h0]; rfl),zP (zu (by omega))]
    rfl
  rw [zC4 hi,show at_ L (i:Int)=(p:Int) from ep]
  by_cases hcan:can a res p
  ·exact .inl ⟨p,by simp,hp,hcan,hY hcan⟩
  ·rw [hN hcan]
   rcases ih n (i+1) (by omega) (by omega) with ⟨q,q1,q2⟩ | ⟨q1,q2⟩
   ·exact .inl ⟨q,by simp [q1],q2⟩
   ·refine .inr ⟨fun q hq => ?_,q2⟩
    rcases List.mem_cons.1 hq with e | hq
    ·have:q=p:=by omega
     subst this
     exact hcan
    ·exact q1 q hq
theorem zU3 (h:Wa a) (hc:c<a.caches.length) (kern res:Bool) :
  (∃ p:Nat,p<a.zones.length∧zS4 a.zones kern (p:Int)=true∧can a res p ∧ ∃ b x,zCv a (c:Int) kern res=some (b,x,0)∧zXx a b p x) ∨
  ((∀ p:Nat,p<a.zones.length→zS4 a.zones kern (p:Int)=true → ¬ can a res p)∧zCv a (c:Int) kern res=some (⟨[],0,0,[],[]⟩,0,16)):=by
 have hdn:c<a.nodes.length:=by rw [← h.cn]; exact hc
 obtain ⟨L,l1,l2,l3,_⟩:=zYV h.gn (h.vn hdn) kern
 have e:zCv a (c:Int) kern res=zA9 a (c:Int) res (L,0) z5 ((0:Nat):Int):=by
  unfold zCv
  rw [zKU h,zAw,dt rfl,Bool.not_true,zf rfl,zf (by rw [df (by omega),df (by omega)]; rfl),zP (zAD hdn),l3,zAw]
  rfl
 rcases zZP h hc (res:=res) (fun z hz=>((l1 z).1 hz).1) l2 L.length z5 0 (by omega) (by unfold z5; omega) with ⟨p,p1,p2,p3,p4⟩ | ⟨p1,p2⟩
 ·rw [List.drop_zero] at p1
  exact .inl ⟨p,p2,((l1 _).1 p1).2,p3,_,_,e.trans p4,zUt h hc p2 p3.1⟩
 ·refine .inr ⟨fun p hp hs=>p1 p ?_,e.trans p2⟩
  rw [List.drop_zero]
  exact (l1 _).2 ⟨⟨p,rfl,hp⟩,hs⟩
end
end Go.Proofs.Ytplkliakhdkpcaa
namespace Go.Proofs.Ytplkliakhdkpcaa
open Go Go.RowKit Go.Wk Go.Am
def zsN:Int→List zAf→List zW
 | _,[]=>[]
 | s,x::r=>(zUY x.node x.kind s x.count x.min).1::zsN (s+x.count) r
def Gp (x:zAf):Prop:=(x.node=0∨x.node=1)∧(x.kind=0∨x.kind=1)∧1≤x.count∧x.count≤20∧0≤x.min∧x.min≤x.count
structure Beg (a:zH):Prop where
 w:Wa a
 c:a.caches.length=2
 z:2≤a.zones.length∧a.zones.length≤3
 k:∀ p,p<a.zones.length→1≤(Zn a p).count∧(Zn a p).count≤20
 v:∀ p,p<a.zones.length → ∀ g,inside (Zn a p) g 0=true→cov (Zn a p) g
 l:∀ c p,c<a.caches.length→Lf a c p=[]
structure Mc (m:zAF):Prop where
 c:∀ i,0≤m.counts.getD i 0∧m.counts.getD i 0≤255
 mi:∀ i,0≤m.mins.getD i 0∧m.mins.getD i 0≤255
 b:0≤m.batch∧m.batch≤255
theorem zYL {a:Int} (h0:0≤a) (h1:a≤255):IntKind.u8.wrap a=a:=by
 unfold IntKind.wrap
 simp only [IntKind.bits,IntKind.signed,Bool.false_and,Bool.false_eq_true,if_false]
 omega
theorem zQJ {x:zAf} {s:Int} (h:Gp x) (h0:0≤s) (h1:s≤100):(zUY x.node x.kind s x.count x.min).2=0∧OkZ (zUY x.node x.kind s x.count x.min).1∧(∀ g,cov (zUY x.node x.kind s x.count x.min).1 g↔s≤g∧g<s+x.count)∧zE0 (zUY x.node x.kind s x.count x.min).1 (zL5 x.node x.kind s x.count x.min):=by
 obtain ⟨a1,a2,a3,a4,a5,a6⟩:=h
 have hr:ranges (zL5 x.node x.kind s x.count x.min)=true:=by
  unfold ranges zL5
  simp
  omega
 obtain ⟨f1,f2,f3⟩:=zRc hr rfl x.count.toNat (by show _≤x.count; omega)
 unfold zUY
 rw [if_pos hr]
 refine ⟨rfl,f1,fun g=>(f2 g).trans ?_,f3⟩
 show s≤g∧g<s+(x.count.toNat:Int)↔_
 omega
theorem zVi:∀ (l:List zAf) (s:Int),(∀ x,x∈l→Gp x)→0≤s→s+20*(l.length:Int)≤100→zE s (zsN s l)=0∧(∀ z,z∈zsN s l→OkZ z∧(∀ g,cov z g↔z.start≤g∧g<z.start+z.count)∧1≤z.count∧z.count≤20)∧(zsN s l).length=l.length
 | [],_,_,_,_=>⟨rfl,(fun z hz=>by cases hz),rfl⟩
 | x::r,s,h,h0,h1=>by
  have hx:=h x (by simp)
  have hl:((x::r).length:Int)=r.length+1:=by simp
  obtain ⟨g1,g2,g3,g4⟩:=zQJ hx h0 (by omega)
  have hc:=hx.2.2
  obtain ⟨i1,i2,i3⟩:=zVi r (s+x.count) (fun y hy=>h y (by simp [hy])) (by omega) (by omega)
  have es:(zUY x.node x.kind s x.count x.min).1.start=s:=g4.2.2.1
  have ec:(zUY x.node x.kind s x.count x.min).1.count=x.count:=g4.2.2.2.1
  refine ⟨?_,fun z hz => ?_,?_⟩
  ·show zE s ((zUY x.node x.kind s x.count x.min).1::zsN (s+x.count) r)=0
   unfold zE
   rw [if_pos (zC9 g2),if_pos es,ec]
   exact i1
  ·rcases List.mem_cons.1 hz with rfl | hz
   ·refine ⟨g2,fun g => ?_,by rw [ec]; omega⟩
    rw [es,ec]
    exact g3 g
   ·exact i2 z hz
  ·show (zsN (s+x.count) r).length+1=r.length+1
   rw [i3]
section
variable {nodes d:List Int} {b h:Int} {l:List zAf}
theorem zWw (hG:∀ x,x∈l→Gp x) (hl:l.length≤4):∀ (m n i:Nat) (s:Int) (zs:List zW),i+m=l.length→m<n→zs.length=l.length→0≤s→s+20*(m:Int)≤100 →
  zFA nodes b h l d n s (i:Int) zs=zE2 nodes b h l d (zs.take i++zsN s (l.drop i)):=by
 intro m
 induction m with
 | zero =>
  intro n i s zs h1 h2 h3 h4 h5
  obtain ⟨n,rfl⟩:=ex1 ‹_<n›
  show zDB _ _ _ _ _ _ _ _ _=_
  unfold zDB
  rw [zf (df (by omega)),List.drop_eq_nil_of_le (by omega),List.take_of_length_le (by omega)]
  show _=zE2 _ _ _ _ _ (zs++[])
  rw [List.append_nil]
 | succ m ih =>
  intro n i s zs h1 h2 h3 h4 h5
  obtain ⟨n,rfl⟩:=ex1 ‹_<n›
  have hi:i<l.length:=by omega
  have hx:=hG _ (List.getElem_mem hi)
  obtain ⟨g1,g2,g3,g4⟩:=zQJ hx h4 (by omega)
  have hc:=hx.2.2
  show zDB _ _ _ _ _ _ _ _ _=_
  unfold zDB
  rw [zz (dt (by omega)),zP (zAD hi),zFW hi,zXZ (zu (by omega)),zAw,dt g1,Bool.not_true,zf rfl,zP (zAD (by omega)),zP (zu (by omega)),zP (zu (by omega)),Int.toNat_natCast,List.drop_eq_getElem_cons hi]
  refine (ih n (i+1) _ _ (by omega) (by omega) (by rw [List.length_set]; exact h3) (by omega) (by omega)).trans ?_
  rw [List.take_add_one,List.getElem?_set_self (by omega),List.take_set_of_le (Nat.le_refl _),List.append_assoc]
  rfl
theorem zXV {zs:List zW} (h1:1≤l.length) (h6:l.length≤6) (hn:nodes.length≤20):∀ (m n i:Nat),i+m=nodes.length→m<n →
  zE3 nodes b h l d zs n (i:Int) (List.replicate i ⟨List.replicate l.length []⟩)=some (⟨d,b,h,zs,List.replicate nodes.length ⟨List.replicate l.length []⟩⟩,0):=by
 intro m
 induction m with
 | zero =>
  intro n i h2 h3
  obtain ⟨n,rfl⟩:=ex1 ‹_<n›
  show zDF _ _ _ _ _ _ _ _ _=_
  unfold zDF
  rw [zf (df (by omega)),show i=nodes.length by omega]
  rfl
 | succ m ih =>
  intro n i h2 h3
  obtain ⟨n,rfl⟩:=ex1 ‹_<n›
  have hp:zJk (l.length:Int)=some (⟨List.replicate l.length []⟩,0):=by
   unfold zJk
   rw [df (p:=(l.length:Int)<1) (by omega),df (p:=6<(l.length:Int)) (by omega)]
   refine (zf (by rfl)).trans ?_
   rw [dt (p:=0≤(l.length:Int)) (by omega),dt (p:=(l.length:Int)≤(l.length:Int)) (by omega),dt (p:=(l.length:Int)*(24:Int)≤4294967296) (by omega)]
   rfl
  show zDF _ _ _ _ _ _ _ _ _=_
  unfold zDF
  rw [zz (dt (by omega)),hp,zAw,zP (dt (by rw [List.length_replicate]; show (_+1)*24≤_; omega)),zP (zu (by omega)), ← ih n (i+1) (by omega) (by omega),List.replicate_succ']
  rfl
theorem zYv (hb:1≤b∧b≤h∧h≤64) (hG:∀ x,x∈l→Gp x) (hl:1≤l.length∧l.length≤3):zCs [0,1] b h l=some (⟨[0,1],b,h,zsN 0 l,List.replicate 2 ⟨List.replicate l.length []⟩⟩,0):=by
 have hf:zU2 [0,1] b h (l.length:Int)=true:=by
  unfold zU2 zMN
  rw [df (p:=(([0,1]:List Int).length:Int)<1) (by decide),df (p:=4<(([0,1]:List Int).length:Int)) (by decide),df (p:=64<h) (by omega),df (p:=b<1) (by omega),df (p:=h<b) (by omega),df (p:=(l.length:Int)<1) (by omega),df (p:=6<(l.length:Int)) (by omega)]
  rfl
 unfold zCs zAu zGX
 rw [zP (by rfl),zAw,dt (p:=0≤(l.length:Int)) (by omega),dt (p:=(l.length:Int)≤(l.length:Int)) (by omega),dt (p:=(l.length:Int)*(160:Int)≤4294967296) (by omega),zP (by rfl),zPI (by show (2:Nat)≤_; omega),zAw]
 show cnd (!zU2 [0,1] b h ((List.replicate (l.length:Int).toNat zKK).length:Int)) _ _=_
 rw [List.length_replicate,Int.toNat_natCast,hf,Bool.not_true,zf rfl]
 refine (zWw (d:=[0,1]) hG (by omega) l.length z5 0 0 (List.replicate l.length zKK) (by omega) (by unfold z5; omega) (by rw [List.length_replicate]) (by omega) (by omega)).trans ?_
 rw [List.take_zero,List.nil_append,List.drop_zero]
 exact zXV (nodes:=[0,1]) hl.1 (by omega) (by show (2:Nat)≤20; omega) 2 z5 0 rfl (by unfold z5; omega)
theorem zWB (hb:1≤b∧b≤h∧h≤64) (hG:∀ x,x∈l→Gp x) (hl:2≤l.length∧l.length≤3):Beg ⟨[0,1],b,h,zsN 0 l,List.replicate 2 ⟨List.replicate l.length []⟩⟩:=by
 obtain ⟨z1,z2,z3⟩:=zVi l 0 hG (by omega) (by omega)
 generalize ha:(⟨[0,1],b,h,zsN 0 l,List.replicate 2 ⟨List.replicate l.length []⟩⟩:zH)=a
 have e1:a.nodes=[0,1]:=by rw [← ha]
 have e2:a.batch=b:=by rw [← ha]
 have e3:a.high=h:=by rw [← ha]
 have e4:a.zones=zsN 0 l:=by rw [← ha]
 have e5:a.caches=List.replicate 2 ⟨List.replicate l.length []⟩:=by rw [← ha]
 have ec:a.caches.length=2:=by rw [e5,List.length_replicate]
 have ez:a.zones.length=l.length:=by rw [e4,z3]
 have hm:∀ p,p<a.zones.length→Zn a p∈zsN 0 l:=fun p hp=>by
  have:=zAv hp
  rw [e4] at this
  unfold Zn
  rw [e4]
  exact this
 have hcl:∀ c,c<a.caches.length→(at_ a.caches (c:Int)).lists=List.replicate l.length []:=fun c hc=>by
  rw [zFW hc]
  have:=List.getElem_mem hc
  rw [show a.caches[c]=⟨List.replicate l.length []⟩ from List.eq_of_mem_replicate (n:=2) (by rw [← e5]; exact this)]
 have hL:∀ c p,c<a.caches.length→Lf a c p=[]:=fun c p hc=>by
  unfold Lf
  rw [hcl c hc]
  by_cases hp:p<(List.replicate l.length ([]:List Int)).length
  ·rw [zFW hp]
   exact List.getElem_replicate ..
  ·exact zV8 (by omega)
 have hse:zE 0 a.zones=0:=by rw [e4]; exact z1
 obtain ⟨_,hap⟩:=zSv hse
 have hz:∀ p,p<a.zones.length→OkZ (Zn a p):=fun p hp=>(z2 _ (hm p hp)).1
 refine ⟨⟨by rw [e1]; decide,fun v hv => ?_,hse,by rw [e2,e3]; exact hb,by omega,by rw [ec,e1]; rfl,hz,fun p q f hp hq h1 h2 => ?_,fun c hc=>by rw [hcl c hc,List.length_replicate,ez],fun c p f hc hf => ?_,fun c p hc => ?_,fun c d p q f hc hd h1 h2 => ?_,fun c p hc => ?_⟩,ec,by omega,fun p hp=>(z2 _ (hm p hp)).2.2,fun p hp g hg => ?_,hL⟩
 ·rw [e1] at hv
  simp at hv
  omega
 ·have g1:=(zO1 f a.zones 0 p hp hap).2 (by rw [← zFW hp]; exact (zOM (hz p hp).ranges).2 h1)
  have g2:=(zO1 f a.zones 0 q hq hap).2 (by rw [← zFW hq]; exact (zOM (hz q hq).ranges).2 h2)
  omega
 ·rw [hL c p hc] at hf; cases hf
 ·rw [hL c p hc]; exact List.nodup_nil
 ·rw [hL c p hc] at h1; cases h1
 ·rw [hL c p hc,e3]; show ((0:Nat):Int)≤h; omega
 ·have hb:=(hz p hp).bds hg
  rw [pw0] at hb
  exact ((z2 _ (hm p hp)).2.1 g).2 ⟨hb.2.2.1,by omega⟩
end
section
variable {m:zAF}
theorem tm {x:Int} (h:0≤x) (k:Int):x.tmod k=x%k:=Int.tmod_eq_emod_of_nonneg h
theorem zXf (hm:Mc m) {N:Nat} (hN:N≤3):∀ (k n i:Nat) (l:List zAf),i+k=N→k<n→(∀ x,x∈l→Gp x)→l.length=i → ∃ l',(∀ x,x∈l'→Gp x)∧l'.length=N∧zEp m (N:Int) n (i:Int) l=zGf m l':=by
 intro k
 induction k with
 | zero =>
  intro n i l h1 h2 h3 h4
  obtain ⟨n,rfl⟩:=ex1 ‹_<n›
  refine ⟨l,h3,by omega,?_⟩
  show zFq _ _ _ _ _=_
  unfold zFq
  rw [zf (df (by omega))]
 | succ k ih =>
  intro n i l h1 h2 h3 h4
  obtain ⟨n,rfl⟩:=ex1 ‹_<n›
  have c1:=hm.c i
  have c2:=hm.mi i
  generalize hq1:m.counts.getD i 0=q1 at *
  generalize hq2:m.mins.getD i 0=q2 at *
  have t1:=tm c1.1 20
  have hk:∀ kd:Int,(kd=0∨kd=1) → ∃ l',(∀ x,x∈l'→Gp x)∧l'.length=N∧zGk (zEp m (N:Int) n) m (i:Int) l kd=zGf m l':=fun kd hkd=>by
   have t2:=tm c2.1 (1+q1.tmod 20+1)
   have t3:=tm (show (0:Int)≤(i:Int) by omega) 2
   have hp:0<1+q1.tmod 20+1:=by rw [t1]; omega
   have u1:=Int.emod_nonneg q2 (show 1+q1.tmod 20+1≠0 by omega)
   have u2:=Int.emod_lt_of_pos q2 hp
   obtain ⟨l',i1,i2,i3⟩:=ih n (i+1) (l++[(⟨(i:Int).tmod 2,kd,1+q1.tmod 20,q2.tmod (1+q1.tmod 20+1)⟩:zAf)]) (by omega) (by omega) (fun x hx=>by
    rcases List.mem_append.1 hx with hx | hx
    ·exact h3 x hx
    ·rw [List.mem_singleton.1 hx]
     refine ⟨?_,hkd,?_,?_,?_,?_⟩
     ·show (i:Int).tmod 2=0∨(i:Int).tmod 2=1
      rw [t3]; omega
     ·show 1≤1+q1.tmod 20
      rw [t1]; omega
     ·show 1+q1.tmod 20≤20
      rw [t1]; omega
     ·show 0≤q2.tmod (1+q1.tmod 20+1)
      rw [t2]; exact u1
     ·show q2.tmod (1+q1.tmod 20+1)≤1+q1.tmod 20
      rw [t2]; omega) (by simp; omega)
   refine ⟨l',i1,i2,?_⟩
   rw [← i3]
   unfold zGk
   rw [Int.toNat_natCast,hq1,hq2,zP (zAD (by omega)),zP (dt (zKn (by omega) (by omega))),zP (zu (by rw [t1]; omega)),zP (by rw [df (show ¬ 1+q1.tmod 20+1=0 by omega)]; rfl),zP (dt (by simp; omega)),zP (zu (by omega))]
   rfl
  show ∃ l',_∧_∧zFq _ _ _ _ _=_
  unfold zFq
  rw [zz (dt (by omega)),zP (zAD (by omega)),Int.toNat_natCast,hq1,zP (dt (by rw [t1]; exact zKn (by omega) (by omega))),zP (zu (by rw [t1]; omega))]
  cases m.kinds.getD i false with
  | true=>rw [zz rfl]; exact hk 1 (.inr rfl)
  | false=>rw [zf rfl]; exact hk 0 (.inl rfl)
theorem zZT (hm:Mc m):∃ a,zJp m=some (a,0)∧Beg a:=by
 have key:∀ N:Nat,2≤N→N≤3 → ∃ a,zH1 m (N:Int)=some (a,0)∧Beg a:=fun N h2 h3=>by
  obtain ⟨l,l1,l2,l3⟩:=zXf hm h3 N z5 0 [] (by omega) (by unfold z5; omega) (fun x hx=>by cases hx) rfl
  have hb:=hm.b
  have t1:=tm hb.1 4
  have t2:m.batch.tdiv 4=m.batch/4:=Int.tdiv_eq_ediv_of_nonneg hb.1
  have t3:IntKind.u8.wrap (m.batch.tdiv 4)=m.batch/4:=by rw [t2]; exact zYL (by omega) (by omega)
  have t4:=tm (show 0≤m.batch/4 by omega) 4
  have hB:1≤1+m.batch.tmod 4∧1+m.batch.tmod 4≤1+m.batch.tmod 4+(IntKind.u8.wrap (m.batch.tdiv 4)).tmod 4∧1+m.batch.tmod 4+(IntKind.u8.wrap (m.batch.tdiv 4)).tmod 4≤64:=by
   rw [t3,t1,t4]; omega
  have hn:=zYv (l:=l) hB l1 (by omega)
  refine ⟨_,?_,zWB hB l1 (by omega)⟩
  show zEp m (N:Int) z5 ((0:Nat):Int) []=_
  rw [l3]
  unfold zGf
  rw [zP (dt (zKn (by rw [t1]; omega) (by rw [t1]; omega))),zP (zu (by rw [t1]; omega)),zP (dt (zKn (by rw [t3,t4]; omega) (by rw [t3,t4]; omega))),zP (zu (by omega)),hn,zAw,zAw,zAw]
 unfold zJp
 cases m.three with
 | true=>rw [zz rfl]; exact key 3 (by omega) (by omega)
 | false=>rw [zf rfl]; exact key 2 (by omega) (by omega)
end
end Go.Proofs.Ytplkliakhdkpcaa
namespace Go.Proofs.Ytplkliakhdkpcaa
open Go Go.RowKit Go.Wk Go.Am
structure Inv (a0 a:zH) (held:List Int):Prop where
 w:Wa a
 s:Shp a0 a
 nd:held.Nodup
 h:∀ f,f∈held → ∃ p,p<a.zones.length∧inside (Zn a p) f 0=true
 fr:∀ p,p<a.zones.length → ∀ g,inside (Zn a p) g 0=true→(FrP a p g↔g ∉ held)
def Gop (x:zBV):Prop:=(0≤x.what∧x.what≤255)∧(0≤x.cpu∧x.cpu≤255)∧(0≤x.pick∧x.pick≤255)
section
variable {a0 a b:zH} {held:List Int}
theorem zWx (h:Beg a):Inv a a []:=⟨h.w,Shp.refl,List.nodup_nil,(fun f hf=>by cases hf),fun p hp g hg=>⟨fun _=>by simp,fun _ => .inl (h.v p hp g hg)⟩⟩
theorem zNv (h:Shp a b) {p:Nat} (hp:p<a.zones.length) (f:Int):inside (Zn b p) f 0=inside (Zn a p) f 0:=(h.z p hp).inside ..
theorem zVP (h:Inv a0 a held) (s:zPP a b):Inv a0 b held:=by
 obtain ⟨s1,s2,s3⟩:=s
 refine ⟨s1,h.s.trans s2,h.nd,fun f hf => ?_,fun p hp g hg => ?_⟩
 ·obtain ⟨p,h1,h2⟩:=h.h f hf
  exact ⟨p,by rw [s2.zl]; exact h1,by rw [zNv s2 h1]; exact h2⟩
 ·rw [s2.zl] at hp
  rw [zNv s2 hp] at hg
  exact (s3 p hp g).trans (h.fr p hp g hg)
theorem zRw (h:Inv a0 a held) {p:Nat} {x:Int} (hp:p<a.zones.length) (t:zXx a b p x):Inv a0 b (held++[x]):=by
 obtain ⟨t1,t2,t3,t4⟩:=t
 have hx:=FrP.ins h.w hp t4
 have hn:=(h.fr p hp x hx).1 t4
 refine ⟨t1,h.s.trans t2,?_,fun f hf => ?_,fun q hq g hg => ?_⟩
 ·rw [List.nodup_append]
  exact ⟨h.nd,by simp,fun y hy z hz e=>by rw [List.mem_singleton.1 hz] at e; rw [e] at hy; exact hn hy⟩
 ·rcases List.mem_append.1 hf with hf | hf
  ·obtain ⟨q,h1,h2⟩:=h.h f hf
   exact ⟨q,by rw [t2.zl]; exact h1,by rw [zNv t2 h1]; exact h2⟩
  ·rw [List.mem_singleton.1 hf]
   exact ⟨p,by rw [t2.zl]; exact hp,by rw [zNv t2 hp]; exact hx⟩
 ·rw [t2.zl] at hq
  rw [zNv t2 hq] at hg
  rw [List.mem_append,List.mem_singleton]
  by_cases e:q=p
  ·subst e
   refine (t3.1 g).trans ?_
   show FrP a q g∧g≠x↔_
   rw [h.fr q hq g hg]
   exact ⟨fun x y=>y.elim x.1 x.2,fun x=>⟨fun y=>x (.inl y),fun y=>x (.inr y)⟩⟩
  ·rw [t3.2 q e hq g,h.fr q hq g hg]
   refine ⟨fun x y=>y.elim x (fun y => ?_),fun x y=>x (.inl y)⟩
   subst y
   exact e (h.w.ap q p g hq hp hg hx)
theorem zNb {i:Nat} (hi:i<held.length):held=held.take i++at_ held (i:Int)::held.drop (i+1):=by
 rw [← zC4 hi,List.take_append_drop]
theorem zU4 (h:Inv a0 a held) {c i:Nat} (hc:c<a.caches.length) (hi:i<held.length):∃ b,zEZ a (c:Int) (at_ held (i:Int))=some (b,0)∧Inv a0 b (held.take i++held.drop (i+1)):=by
 obtain ⟨p,hp,hin⟩:=h.h _ (zAv hi)
 have hn:¬ FrP a p (at_ held (i:Int)):=fun x=>(h.fr p hp _ hin).1 x (zAv hi)
 obtain ⟨f1,f2,f3⟩:=zXF h.w hc hp hin hn
 have hs:=zNb hi
 generalize at_ held (i:Int)=x at *
 have hnd:=h.nd
 rw [hs,List.nodup_append] at hnd
 have hnc:=List.nodup_cons.1 hnd.2.1
 have hm:∀ g,g∈held.take i++held.drop (i+1)↔g∈held∧g≠x:=fun g=>by
  have e:g∈held↔g∈held.take i∨g=x∨g∈held.drop (i+1):=by
   conv=>lhs; rw [hs]
   rw [List.mem_append,List.mem_cons]
  rw [e,List.mem_append]
  constructor
  ·rintro (h1 | h1)
   ·exact ⟨.inl h1,fun q=>hnd.2.2 g h1 x (by simp) q⟩
   ·exact ⟨.inr (.inr h1),fun q=>hnc.1 (q▸h1)⟩
  ·rintro ⟨h1 | h1 | h1,h2⟩
   ·exact .inl h1
   ·exact absurd h1 h2
   ·exact .inr h1
 refine ⟨_,zXT h.w hc hp hin hn,f1,h.s.trans f2,?_,fun f hf => ?_,fun q hq g hg => ?_⟩
 ·rw [List.nodup_append]
  exact ⟨hnd.1,hnc.2,fun y hy z hz=>hnd.2.2 y hy z (by simp [hz])⟩
 ·obtain ⟨q,h1,h2⟩:=h.h f ((hm f).1 hf).1
  exact ⟨q,by rw [f2.zl]; exact h1,by rw [zNv f2 h1]; exact h2⟩
 ·rw [f2.zl] at hq
  rw [zNv f2 hq] at hg
  rw [hm]
  by_cases e:q=p
  ·subst e
   refine (f3.1 g).trans ?_
   show FrP a q g∨g=x↔_
   rw [h.fr q hq g hg]
   constructor
   ·rintro (h1 | h1) ⟨h2,h3⟩
    ·exact h1 h2
    ·exact h3 h1
   ·intro h1
    by_cases e:g=x
    ·exact .inr e
    ·exact .inl fun h2=>h1 ⟨h2,e⟩
  ·rw [f3.2 q e hq g,h.fr q hq g hg]
   refine ⟨fun h1 h2=>h1 h2.1,fun h1 h2=>h1 ⟨h2,fun h3 => ?_⟩⟩
   subst h3
   exact e (h.w.ap q p g hq hp hg hin)
theorem zTM (h:Inv a0 a held):∃ b,zDr a=some b∧Inv a0 b held:=⟨_,zUy h.w,zVP h (zSX a.caches.length 0 h.w (by omega))⟩
theorem zY2 {x:Int} (h:0≤x∧x≤255):∃ c:Nat,x.tmod 2=(c:Int)∧c<2:=by
 have:=tm h.1 2
 obtain ⟨c,hc⟩:=Int.eq_ofNat_of_zero_le (show 0≤x.tmod 2 by omega)
 exact ⟨c,hc,by omega⟩
theorem zT0 {ops:List zBV} (hops:∀ x,x∈ops→Gop x) (hl:ops.length≤1000) (h0:a0.caches.length=2):∀ (m n i:Nat) (a:zH) (held:List Int),i+m=ops.length→m<n→Inv a0 a held→held.length≤i →
  ∃ b held',zE1 ops n (i:Int) a held=some (b,held',true)∧Inv a0 b held'∧held'.length≤ops.length:=by
 intro m
 induction m with
 | zero =>
  intro n i a held h1 h2 h3 h4
  obtain ⟨n,rfl⟩:=ex1 ‹_<n›
  refine ⟨a,held,?_,h3,by omega⟩
  show zEs _ _ _ _ _=_
  unfold zEs
  rw [zf (df (by omega))]
  rfl
 | succ m ih =>
  intro n i a held h1 h2 h3 h4
  obtain ⟨n,rfl⟩:=ex1 ‹_<n›
  have hi:i<ops.length:=by omega
  have hj:∀ (b:zH) (hd:List Int),Inv a0 b hd→hd.length≤i+1 → ∃ b' held',zCP (zE1 ops n) (i:Int) b hd=some (b',held',true)∧Inv a0 b' held'∧held'.length≤ops.length:=fun b hd hI hle=>by
   unfold zCP
   rw [zP (zu (by omega))]
   exact ih n (i+1) b hd (by omega) (by omega) hI hle
  obtain ⟨x1,x2,x3⟩:=hops _ (zAv hi)
  show ∃ b held',zEs _ _ _ _ _=_∧_
  unfold zEs
  generalize at_ ops (i:Int)=x at *
  obtain ⟨c,hc,hc2⟩:=zY2 x2
  have hcl:c<a.caches.length:=by rw [h3.s.cl,h0]; exact hc2
  rw [zz (dt (by omega)),zP (zAD hi),hc,zP (dt (zKn (by omega) (by omega)))]
  by_cases w3:x.what.tmod 6=3
  ·rw [zz (dt w3)]
   by_cases hz:(held.length:Int)=0
   ·rw [zz (dt hz)]
    exact hj a held h3 (by omega)
   ·have tq:=tm x3.1 (held.length:Int)
    have u1:=Int.emod_nonneg x.pick hz
    have u2:=Int.emod_lt_of_pos x.pick (show (0:Int)<(held.length:Int) by omega)
    obtain ⟨q,hq⟩:=Int.eq_ofNat_of_zero_le (show 0≤x.pick.tmod (held.length:Int) by omega)
    have hql:q<held.length:=by omega
    obtain ⟨b,b1,b2⟩:=zU4 h3 hcl hql
    have e1:(([]:List Int)++zFX held 0 (q:Int))=held.take q:=rfl
    have e2:zFX held ((q:Int)+1) (held.length:Int)=held.drop (q+1):=by
     unfold zFX
     rw [Int.toNat_natCast,List.take_length]
     rfl
    have e3:(zFX held 0 (q:Int)).length=q:=by
     show (held.take q).length=q
     rw [List.length_take]; omega
    rw [zf (df hz),hq,zP (dt (zKn (by omega) (by omega))),zP (by rw [df hz]; rfl),zP (zAD hql),b1,zAw,dt rfl,Bool.not_true,zf rfl,
     zP (by unfold zHG; rw [dt (by omega),dt (by omega),dt (by omega)]; rfl),zP (dt (by rw [e3]; show (0+q)*8≤_; omega)),zP (zu (by omega)),zP (by unfold zHG; rw [dt (by omega),dt (by omega),dt (by omega)]; rfl),e1,e2,zP (dt (by rw [List.length_take,List.length_drop]; omega))]
    exact hj b _ b2 (by rw [List.length_append,List.length_take,List.length_drop]; omega)
  ·rw [zf (df w3)]
   by_cases w4:x.what.tmod 6=4
   ·obtain ⟨b,b1,b2⟩:=zTM h3
    rw [zz (dt w4),b1,zAw]
    exact hj b held b2 (by omega)
   ·rw [zf (df w4)]
    by_cases w5:x.what.tmod 6=5
    ·rw [zz (dt w5),zP (dt (zKn (by omega) (by omega)))]
     rcases zW2 h3.w x.pick with ⟨p,b,b1,b2,b3⟩ | ⟨b,e,b1,b2⟩
     ·rw [b2,zAw,zz (dt rfl),zP (dt (by show (held.length+1)*8≤_; omega))]
      exact hj b _ (zRw h3 b1 b3) (by simp; omega)
     ·rw [b1,zAw,zf (df b2)]
      exact hj a held h3 (by omega)
    ·rw [zf (df w5)]
     rcases zU3 h3.w hcl (!decide (x.what.tmod 6=0)) (decide (x.what.tmod 6=2)) with ⟨p,b1,_,_,b,y,b2,b3⟩ | ⟨_,b2⟩
     ·rw [b2,zAw,zz (dt rfl),zP (dt (by show (held.length+1)*8≤_; omega))]
      exact hj b _ (zRw h3 b1 b3) (by simp; omega)
     ·rw [b2,zAw,zf (by rfl),zf (by rfl)]
      exact hj a held h3 (by omega)
theorem zY6 {m:zAF} {ops:List zBV} (hm:Mc m) (hops:∀ x,x∈ops→Gop x) (hl:ops.length≤30):∃ a0 a held,zJp m=some (a0,0)∧Beg a0∧zJw m ops=some (a,held,true)∧Inv a0 a held∧held.length≤30:=by
 obtain ⟨a0,n1,n2⟩:=zZT hm
 obtain ⟨a,held,p1,p2,p3⟩:=zT0 hops (by omega) n2.c ops.length z5 0 a0 [] (by omega) (by unfold z5; omega) (zWx n2) (Nat.le_refl _)
 refine ⟨a0,a,held,n1,n2,?_,p2,by omega⟩
 unfold zJw
 rw [n1,zAw,dt rfl,Bool.not_true,zf rfl]
 exact p1
end
end Go.Proofs.Ytplkliakhdkpcaa
namespace Go.Proofs.Ytplkliakhdkpcaa
open Go Go.RowKit Go.Wk Go.Am
end Go.Proofs.Ytplkliakhdkpcaa
namespace Go.Proofs.Ytplkliakhdkpcaa
open Go Go.RowKit Go.Wk Go.Am
section
variable {a b:zH} {c p:Nat}
theorem zUe (h:Wa a) (hp:p<a.zones.length) {f:Int} (hi:inside (Zn a p) f 0=true):∃ q,zDC a f=some q∧(q=true↔FrP a p f):=by
 obtain ⟨q,q1,q2⟩:=zRh h hp hi
 refine ⟨q,?_,q2⟩
 unfold zDC
 rw [zKU h,zAw,dt rfl,Bool.not_true,zf rfl,zRQ h,zV5 h hp hi,zAw,dt (show (0:Int)≤(p:Int) by omega),zz rfl,q1,zAw,Bool.true_and]
end
end Go.Proofs.Ytplkliakhdkpcaa
namespace Go.Proofs.Ytplkliakhdkpcaa
open Go Go.RowKit Go.Wk Go.Am
def Ind (d:List Int) (P:Int→Prop):Prop:=d.length=64 ∧ ∀ g:Nat,g<64→(P (g:Int)→d.getD g 0=1)∧(¬ P (g:Int)→d.getD g 0=0)
theorem Ind.iff {d:List Int} {P Q:Int→Prop} (h:Ind d P) (e:∀ g,P g↔Q g):Ind d Q:=⟨h.1,fun g hg=>⟨fun x=>(h.2 g hg).1 ((e _).2 x),fun x=>(h.2 g hg).2 fun y=>x ((e _).1 y)⟩⟩
theorem zZk:Ind (List.replicate 64 0) (fun _=>False):=⟨List.length_replicate,fun g hg=>⟨False.elim,fun _=>by
 rw [List.getD_eq_getElem?_getD,List.getElem?_replicate]
 split <;> rfl⟩⟩
theorem Ind.inc {d:List Int} {P:Int→Prop} {f:Int} (h:Ind d P) (h0:0≤f∧f<64) (hn:¬ P f):d.getD f.toNat 0=0∧Ind (zDY 64 0 d f.toNat (d.getD f.toNat 0+1)) (fun g=>P g∨g=f):=by
 obtain ⟨m,rfl⟩:=Int.eq_ofNat_of_zero_le h0.1
 have hm:m<64:=by omega
 have h1:=(h.2 m hm).2 hn
 rw [Int.toNat_natCast]
 refine ⟨h1,by unfold zDY; simp,fun g hg => ?_⟩
 have e:(zDY 64 0 d m (d.getD m 0+1)).getD g 0=if g=m then d.getD m 0+1 else d.getD g 0:=by
  unfold zDY
  rw [List.getD_eq_getElem?_getD,List.getElem?_map,List.getElem?_range hg]
  rfl
 rw [e]
 by_cases hgm:g=m
 ·subst hgm
  rw [if_pos rfl,h1]
  exact ⟨fun _=>rfl,fun x=>absurd (.inr rfl) x⟩
 ·rw [if_neg hgm]
  refine ⟨fun x=>(h.2 g hg).1 (x.resolve_right (by omega)),fun x=>(h.2 g hg).2 fun y=>x (.inl y)⟩
def zS6:Int→List zW→Int
 | s,[]=>s
 | s,z::r=>zS6 (s+z.count) r
theorem zSc:∀ {zs:List zW} {s:Int},zE s zs=0→(∀ z,z∈zs→1≤z.count∧z.count≤20)→s+(zs.length:Int)≤zS6 s zs∧zS6 s zs≤s+20*(zs.length:Int) ∧ ∀ g,(∃ z,z∈zs∧inZ z g=true)↔s≤g∧g<zS6 s zs
 | [],s,_,_=>⟨by show s+0≤s; omega,by show s≤s+20*0; omega,fun g=>⟨fun ⟨z,hz,_⟩=>(by cases hz),fun h=>absurd (show s≤g∧g<s from h) (by omega)⟩⟩
 | z::r,s,h,hc=>by
  unfold zE at h
  by_cases h0:zEr z=0
  ·rw [if_pos h0] at h
   by_cases hs:z.start=s
   ·rw [if_pos hs] at h
    obtain ⟨i1,i2,i3⟩:=zSc h (fun y hy=>hc y (by simp [hy]))
    have hcz:=hc z (by simp)
    have hl:((z::r).length:Int)=r.length+1:=by simp
    show s+((z::r).length:Int)≤zS6 (s+z.count) r∧zS6 (s+z.count) r≤s+20*((z::r).length:Int) ∧ ∀ g,_↔s≤g∧g<zS6 (s+z.count) r
    refine ⟨by omega,by omega,fun g => ?_⟩
    have hz:inZ z g=true↔s≤g∧g<s+z.count:=by
     unfold inZ
     rw [Bool.and_eq_true,decide_eq_true_eq,decide_eq_true_eq,hs]
    constructor
    ·rintro ⟨y,hy,hg⟩
     rcases List.mem_cons.1 hy with rfl | hy
     ·have:=hz.1 hg; omega
     ·have:=(i3 g).1 ⟨y,hy,hg⟩; omega
    ·intro hg
     by_cases hq:g<s+z.count
     ·exact ⟨z,by simp,hz.2 ⟨hg.1,hq⟩⟩
     ·obtain ⟨y,hy,h1⟩:=(i3 g).2 ⟨by omega,hg.2⟩
      exact ⟨y,by simp [hy],h1⟩
   ·rw [if_neg hs] at h; cases h
  ·rw [if_neg h0] at h; exact absurd h h0
theorem zQx:∀ {zs:List zW} {s:Int} {k:Nat},zE s zs=0→zs.length=k+1→(at_ zs (k:Int)).start+(at_ zs (k:Int)).count=zS6 s zs
 | [],_,_,_,h=>by cases h
 | z::r,s,k,h,hk=>by
  unfold zE at h
  by_cases h0:zEr z=0
  ·rw [if_pos h0] at h
   by_cases hs:z.start=s
   ·rw [if_pos hs] at h
    cases k with
    | zero =>
     have hr:r=[]:=List.length_eq_zero_iff.1 (by simpa using hk)
     subst hr
     show z.start+z.count=s+z.count
     rw [hs]
    | succ k =>
     have e:at_ (z::r) ((k+1:Nat):Int)=at_ r (k:Int):=rfl
     rw [e]
     exact zQx h (by simpa using hk)
   ·rw [if_neg hs] at h; cases h
  ·rw [if_neg h0] at h; exact absurd h h0
section
variable {a:zH} {held:List Int} {x3:zH×List Int×Bool} {T:Int}
theorem zTx (h:Wa a):zC6 a=some (zS6 0 a.zones):=by
 have hzn:=h.zn
 obtain ⟨k,hk⟩:∃ k,a.zones.length=k+1:=⟨a.zones.length - 1,by omega⟩
 have e:((a.zones.length:Int) - 1)=(k:Int):=by omega
 have hr:=zA4 (h.zs k (by omega)).ranges
 unfold Zn at hr
 unfold zC6
 rw [zKU h,zAw,dt rfl,Bool.not_true,zf rfl,e,zP (zu (by omega)),zP (zAD (by omega)),zP (zu (by omega)),zQx h.se hk]
theorem zYS {se:Int→List Int→Option Bool} {P:Int→Prop} {p k i:Nat} {x:Int} (hx:x3.1=a) (hT:T≤60) (hk:k<5) (hi:i≤1000) (hxx:at_ (lst (Zn a p) k) (i:Int)=x) (hP:∀ g,x≤g→g<x+2 ^ k → ¬ P g∧0≤g∧g<T):∀ (m n j:Nat) (d:List Int),(j:Int)+m=x+2 ^ k→m<n→x≤j→Ind d (fun g=>P g∨(x≤g∧g<j)) →
  ∃ d',Ind d' (fun g=>P g∨(x≤g∧g<x+2 ^ k))∧zCa se x3 T (p:Int) (k:Int) (i:Int) n (j:Int) d=se ((i+1:Nat):Int) d':=by
 obtain ⟨e,p1,p2⟩:=zH6 (k:=k) (by omega)
 have hl:((at_ a.zones (p:Int)).free).getD (k:Int).toNat ([]:List Int)=lst (Zn a p) k:=rfl
 intro m
 induction m with
 | zero =>
  intro n j d h1 h2 h3 h4
  obtain ⟨n,rfl⟩:=ex1 ‹_<n›
  have hb:=hP x (Int.le_refl _) (by omega)
  refine ⟨d,h4.iff fun g=>by rw [show (j:Int)=x+2 ^ k by omega],?_⟩
  show zBR _ _ _ _ _ _ _ _ _=_
  unfold zBR zDP
  rw [hx,hl,hxx,e,zP (dt (zF3 (by omega) (by omega))),zP (zM4 (by omega)),zP (zu (by omega)),zP (zu (by omega)),zf (df (by omega)),zP (zu (by omega))]
  rfl
 | succ m ih =>
  intro n j d h1 h2 h3 h4
  obtain ⟨n,rfl⟩:=ex1 ‹_<n›
  have hb:=hP (j:Int) h3 (by omega)
  have hb0:=hP x (Int.le_refl _) (by omega)
  obtain ⟨q1,q2⟩:=h4.inc (f:=(j:Int)) (by omega) (fun y=>y.elim hb.1 (fun y=>by omega))
  obtain ⟨d',d1,d2⟩:=ih n (j+1) _ (by omega) (by omega) (by omega) (q2.iff fun g=>by
   constructor
   ·rintro ((h | h) | h)
    ·exact .inl h
    ·exact .inr (by omega)
    ·exact .inr (by omega)
   ·rintro (h | h)
    ·exact .inl (.inl h)
    ·by_cases hg:g=(j:Int)
     ·exact .inr hg
     ·exact .inl (.inr (by omega)))
  refine ⟨d',d1,?_⟩
  show zBR _ _ _ _ _ _ _ _ _=_
  unfold zBR
  rw [hx,hl,hxx,e,zP (dt (zF3 (by omega) (by omega))),zP (zM4 (by omega)),zP (zu (by omega)),zP (zu (by omega)),zz (dt (by omega)),df (p:=(j:Int)<0) (by omega),df (p:=T≤(j:Int)) (by omega),zf (by rfl),zP (zPr (by omega)),zP (zu (by rw [q1]; omega)),zP (zu (by omega))]
  exact d2
theorem zTd {α:Type} [Inhabited α] {l:List α} {i:Nat} (hi:i<l.length):l.take (i+1)=l.take i++[at_ l (i:Int)]:=by
 rw [List.take_add_one,List.getElem?_eq_getElem hi, ← zFW hi]
 rfl
theorem zYr {se:Int→List Int→Option Bool} {P:Int→Prop} {p k:Nat} (hx:x3.1=a) (hT:T≤60) (hk:k<5) (hz:OkZ (Zn a p)) (hP:∀ x,x∈lst (Zn a p) k → ∀ g,x≤g→g<x+2 ^ k → ¬ P g∧0≤g∧g<T):∀ (m n i:Nat) (d:List Int),i+m=(lst (Zn a p) k).length→m<n→Ind d (fun g=>P g ∨ ∃ x,x∈(lst (Zn a p) k).take i∧x≤g∧g<x+2 ^ k) →
  ∃ d',Ind d' (fun g=>P g ∨ ∃ x,x∈lst (Zn a p) k∧x≤g∧g<x+2 ^ k)∧zAj se x3 T (p:Int) (k:Int) n (i:Int) d=se ((k+1:Nat):Int) d':=by
 have hl:((at_ a.zones (p:Int)).free).getD (k:Int).toNat ([]:List Int)=lst (Zn a p) k:=rfl
 have hll:=hz.putI.len' k
 intro m
 induction m with
 | zero =>
  intro n i d h1 h2 h3
  obtain ⟨n,rfl⟩:=ex1 ‹_<n›
  refine ⟨d,h3.iff fun g=>by rw [List.take_of_length_le (by omega)],?_⟩
  show zBL _ _ _ _ _ _ _ _=_
  unfold zBL zDR
  rw [hx,hl,zf (df (by omega)),zP (zu (by omega))]
  rfl
 | succ m ih =>
  intro n i d h1 h2 h3
  obtain ⟨n,rfl⟩:=ex1 ‹_<n›
  have hi:i<(lst (Zn a p) k).length:=by omega
  have hm:=zAv hi
  have hts:=zTd hi
  have hb:=hz.bds (hz.ins k _ hm)
  have hnd:at_ (lst (Zn a p) k) (i:Int) ∉ (lst (Zn a p) k).take i:=fun hq=>by
   have hs:=hz.srt k
   have hsp:=zNb hi
   rw [hsp] at hs
   have:=(zJF.1 hs).2.2 _ hq _ (List.mem_cons_self ..)
   omega
  have hpn:=zMa (k:=k) (by omega)
  obtain ⟨_,p1,p2⟩:=zH6 (k:=k) (by omega)
  generalize hxx:at_ (lst (Zn a p) k) (i:Int)=x at *
  obtain ⟨j,hj⟩:=Int.eq_ofNat_of_zero_le hb.1
  have hdis:∀ g,x≤g→g<x+2 ^ k → ¬ (P g ∨ ∃ y,y∈(lst (Zn a p) k).take i∧y≤g∧g<y+2 ^ k)∧0≤g∧g<T:=fun g g1 g2=>by
   have h4:=hP x hm g g1 g2
   refine ⟨fun y=>y.elim h4.1 fun ⟨y,y1,y2,y3⟩ => ?_,h4.2⟩
   have:=(hz.dis k x k y g hm (List.mem_of_mem_take y1) g1 g2 y2 y3).2
   subst this
   exact hnd y1
  obtain ⟨d1,e1,e2⟩:=zYS (se:=zAj se x3 T (p:Int) (k:Int) n) (P:=fun g=>P g ∨ ∃ y,y∈(lst (Zn a p) k).take i∧y≤g∧g<y+2 ^ k) hx hT hk (show i≤1000 by omega) hxx hdis (2 ^ k) z5 j d (by omega) (by unfold z5; omega) (by omega) (h3.iff fun g=>⟨.inl,fun y=>y.elim id fun y=>by omega⟩)
  obtain ⟨d',f1,f2⟩:=ih n (i+1) d1 (by omega) (by omega) (e1.iff fun g=>by
   rw [hts]
   constructor
   ·rintro ((h | ⟨y,y1,y2⟩) | h)
    ·exact .inl h
    ·exact .inr ⟨y,by simp [y1],y2⟩
    ·exact .inr ⟨x,by simp,h⟩
   ·rintro (h | ⟨y,y1,y2⟩)
    ·exact .inl (.inl h)
    ·rcases List.mem_append.1 y1 with y1 | y1
     ·exact .inl (.inr ⟨y,y1,y2⟩)
     ·rw [List.mem_singleton.1 y1] at y2
      exact .inr y2)
  refine ⟨d',f1,?_⟩
  rw [← f2, ← e2]
  show zBL _ _ _ _ _ _ _ _=_
  unfold zBL
  rw [hx,hl,hxx,zz (dt (by omega)),zP (zAD hi),hj]
theorem zY1 {se:Int→List Int→Option Bool} {P:Int→Prop} {p:Nat} (hx:x3.1=a) (hT:T≤60) (hp:p≤1000) (hz:OkZ (Zn a p)) (hP:∀ g,cov (Zn a p) g → ¬ P g∧0≤g∧g<T):∀ (m n k:Nat) (d:List Int),k+m=5→m<n→Ind d (fun g=>P g ∨ ∃ j x,j<k∧x∈lst (Zn a p) j∧x≤g∧g<x+2 ^ j) →
  ∃ d',Ind d' (fun g=>P g∨cov (Zn a p) g)∧zAG se x3 T (p:Int) n (k:Int) d=se ((p+1:Nat):Int) d':=by
 intro m
 induction m with
 | zero =>
  intro n k d h1 h2 h3
  obtain ⟨n,rfl⟩:=ex1 ‹_<n›
  refine ⟨d,h3.iff fun g => ?_,?_⟩
  ·constructor
   ·rintro (h | ⟨j,x,_,h⟩)
    ·exact .inl h
    ·exact .inr ⟨j,x,h⟩
   ·rintro (h | ⟨j,x,h⟩)
    ·exact .inl h
    ·have:=hz.le4 h.1
     exact .inr ⟨j,x,by omega,h⟩
  ·show zBN _ _ _ _ _ _ _=_
   unfold zBN zDM
   rw [zf (df (by omega)),zP (zu (by omega))]
   rfl
 | succ m ih =>
  intro n k d h1 h2 h3
  obtain ⟨n,rfl⟩:=ex1 ‹_<n›
  have hll:=hz.putI.len' k
  obtain ⟨d1,e1,e2⟩:=zYr (se:=zAG se x3 T (p:Int) n) (P:=fun g=>P g ∨ ∃ j x,j<k∧x∈lst (Zn a p) j∧x≤g∧g<x+2 ^ j) hx hT (show k<5 by omega) hz (fun x hxm g g1 g2=>by
   have h4:=hP g ⟨k,x,hxm,g1,g2⟩
   refine ⟨fun y=>y.elim h4.1 fun ⟨j,y,y1,y2,y3,y4⟩ => ?_,h4.2⟩
   have:=(hz.dis k x j y g hxm y2 g1 g2 y3 y4).1
   omega) (lst (Zn a p) k).length z5 0 d (by omega) (by unfold z5; omega) (h3.iff fun g=>⟨.inl,fun y=>y.elim id fun ⟨x,hq,_⟩=>by simp at hq⟩)
  obtain ⟨d',f1,f2⟩:=ih n (k+1) d1 (by omega) (by omega) (e1.iff fun g=>by
   constructor
   ·rintro ((h | ⟨j,x,h⟩) | ⟨x,h⟩)
    ·exact .inl h
    ·exact .inr ⟨j,x,by omega,h.2⟩
    ·exact .inr ⟨k,x,by omega,h⟩
   ·rintro (h | ⟨j,x,h⟩)
    ·exact .inl (.inl h)
    ·by_cases hj:j=k
     ·subst hj; exact .inr ⟨x,h.2⟩
     ·exact .inl (.inr ⟨j,x,by omega,h.2⟩))
  refine ⟨d',f1,?_⟩
  rw [← f2, ← e2]
  show zBN _ _ _ _ _ _ _=_
  unfold zBN
  rw [zz (dt (by omega)),zP (zAD (by omega))]
  rfl
theorem zWU {P:Int→Prop} (hx:x3.1=a) (hT:T≤60) (h:Wa a) (hP:∀ q,q<a.zones.length → ∀ g,cov (Zn a q) g → ¬ P g∧0≤g∧g<T):∀ (m n i:Nat) (d:List Int),i+m=a.zones.length→m<n→Ind d (fun g=>P g ∨ ∃ q,q<i∧cov (Zn a q) g) →
  ∃ d',Ind d' (fun g=>P g ∨ ∃ q,q<a.zones.length∧cov (Zn a q) g)∧zx x3 T n (i:Int) d=zCI x3 T d':=by
 have hzn:=h.zn
 intro m
 induction m with
 | zero =>
  intro n i d h1 h2 h3
  obtain ⟨n,rfl⟩:=ex1 ‹_<n›
  refine ⟨d,h3.iff fun g=>by rw [show i=a.zones.length by omega],?_⟩
  show zBQ _ _ _ _ _=_
  unfold zBQ
  rw [hx,zf (df (by omega))]
 | succ m ih =>
  intro n i d h1 h2 h3
  obtain ⟨n,rfl⟩:=ex1 ‹_<n›
  have hi:i<a.zones.length:=by omega
  obtain ⟨d1,e1,e2⟩:=zY1 (se:=zx x3 T n) (P:=fun g=>P g ∨ ∃ q,q<i∧cov (Zn a q) g) hx hT (show i≤1000 by omega) (h.zs i hi) (fun g hg=>by
   have h4:=hP i hi g hg
   refine ⟨fun y=>y.elim h4.1 fun ⟨q,q1,q2⟩ => ?_,h4.2⟩
   have:=h.ap q i g (by omega) hi (FrP.ins h (by omega) (.inl q2)) (FrP.ins h hi (.inl hg))
   omega) 5 z5 0 d (by omega) (by unfold z5; omega) (h3.iff fun g=>⟨.inl,fun y=>y.elim id fun ⟨j,x,hq,_⟩=>by omega⟩)
  obtain ⟨d',f1,f2⟩:=ih n (i+1) d1 (by omega) (by omega) (e1.iff fun g=>by
   constructor
   ·rintro ((h | ⟨q,q1,q2⟩) | h)
    ·exact .inl h
    ·exact .inr ⟨q,by omega,q2⟩
    ·exact .inr ⟨i,by omega,h⟩
   ·rintro (h | ⟨q,q1,q2⟩)
    ·exact .inl (.inl h)
    ·by_cases hj:q=i
     ·subst hj; exact .inr q2
     ·exact .inl (.inr ⟨q,by omega,q2⟩))
  refine ⟨d',f1,?_⟩
  rw [← f2, ← e2]
  show zBQ _ _ _ _ _=_
  unfold zBQ
  rw [hx,zz (dt (by omega)),zP (zAD hi)]
  rfl
theorem zX2 {se:Int→List Int→Option Bool} {P:Int→Prop} {c p:Nat} {L:List Int} (hx:x3.1=a) (hT:T≤60) (hp:p≤1000) (hL:Lf a c p=L) (hn:L.Nodup) (hP:∀ g,g∈L → ¬ P g∧0≤g∧g<T) (hlen:L.length≤1000):∀ (m n i:Nat) (d:List Int),i+m=L.length→m<n→Ind d (fun g=>P g∨g∈L.take i) →
  ∃ d',Ind d' (fun g=>P g∨g∈L)∧zCN se x3 T (c:Int) (p:Int) n (i:Int) d=se ((p+1:Nat):Int) d':=by
 have hl:at_ ((at_ a.caches (c:Int)).lists) (p:Int)=L:=hL
 intro m
 induction m with
 | zero =>
  intro n i d h1 h2 h3
  obtain ⟨n,rfl⟩:=ex1 ‹_<n›
  refine ⟨d,h3.iff fun g=>by rw [List.take_of_length_le (by omega)],?_⟩
  show zBT _ _ _ _ _ _ _ _=_
  unfold zBT zDH
  rw [hx,hl,zf (df (by omega)),zP (zu (by omega))]
  rfl
 | succ m ih =>
  intro n i d h1 h2 h3
  obtain ⟨n,rfl⟩:=ex1 ‹_<n›
  have hi:i<L.length:=by omega
  have hb:=hP _ (zAv hi)
  have hts:=zTd hi
  have hsp:=zNb hi
  rw [hsp,List.nodup_append] at hn
  have hnt:at_ L (i:Int) ∉ L.take i:=fun y=>hn.2.2 _ y _ (List.mem_cons_self ..) rfl
  obtain ⟨q1,q2⟩:=h3.inc (f:=at_ L (i:Int)) (by omega) (fun y=>y.elim hb.1 hnt)
  obtain ⟨d',f1,f2⟩:=ih n (i+1) _ (by omega) (by omega) (q2.iff fun g=>by
   rw [hts,List.mem_append,List.mem_singleton]
   exact ⟨fun y=>y.elim (fun y=>y.elim .inl (fun z => .inr (.inl z))) (fun z => .inr (.inr z)),fun y=>y.elim (fun z => .inl (.inl z)) (fun y=>y.elim (fun z => .inl (.inr z)) .inr)⟩)
  refine ⟨d',f1,?_⟩
  rw [← f2]
  show zBT _ _ _ _ _ _ _ _=_
  unfold zBT
  rw [hx,hl,zz (dt (by omega)),zP (zAD hi),df (p:=at_ L (i:Int)<0) (by omega),df (p:=T≤at_ L (i:Int)) (by omega),zf (by rfl),zP (zPr (by omega)),zP (zu (by rw [q1]; omega)),zP (zu (by omega))]
  rfl
theorem zZE {se:Int→List Int→Option Bool} {P:Int→Prop} {c:Nat} (hx:x3.1=a) (hT:T≤60) (h:Wa a) (hc:c<a.caches.length) (hP:∀ q g,g∈Lf a c q → ¬ P g∧0≤g∧g<T):∀ (m n i:Nat) (d:List Int),i+m=a.zones.length→m<n→Ind d (fun g=>P g ∨ ∃ q,q<i∧g∈Lf a c q) →
  ∃ d',Ind d' (fun g=>P g ∨ ∃ q,g∈Lf a c q)∧zAk se x3 T (c:Int) n (i:Int) d=se ((c+1:Nat):Int) d':=by
 have hzn:=h.zn
 have hcn:=h.cn
 have hnn:=h.n
 have hcl:=h.cl c hc
 intro m
 induction m with
 | zero =>
  intro n i d h1 h2 h3
  obtain ⟨n,rfl⟩:=ex1 ‹_<n›
  refine ⟨d,h3.iff fun g => ?_,?_⟩
  ·constructor
   ·rintro (h | ⟨q,_,h⟩)
    ·exact .inl h
    ·exact .inr ⟨q,h⟩
   ·rintro (h4 | ⟨q,h4⟩)
    ·exact .inl h4
    ·have:=h.pz hc h4
     exact .inr ⟨q,by omega,h4⟩
  ·show zBU _ _ _ _ _ _ _=_
   unfold zBU zDN
   rw [hx,hcl,zf (df (by omega)),zP (zu (by omega))]
   rfl
 | succ m ih =>
  intro n i d h1 h2 h3
  obtain ⟨n,rfl⟩:=ex1 ‹_<n›
  have hi:i<a.zones.length:=by omega
  have hlim:=h.lim c i hc
  have hbh:=h.bh
  obtain ⟨d1,e1,e2⟩:=zX2 (se:=zAk se x3 T (c:Int) n) (P:=fun g=>P g ∨ ∃ q,q<i∧g∈Lf a c q) hx hT (show i≤1000 by omega) rfl (h.nd c i hc) (fun g hg=>by
   have h4:=hP i g hg
   refine ⟨fun y=>y.elim h4.1 fun ⟨q,q1,q2⟩ => ?_,h4.2⟩
   have:=(h.dis c c q i g hc hc q2 hg).2
   omega) (by omega) (Lf a c i).length z5 0 d (by omega) (by unfold z5; omega) (h3.iff fun g=>⟨.inl,fun y=>y.elim id fun hq=>by simp at hq⟩)
  obtain ⟨d',f1,f2⟩:=ih n (i+1) d1 (by omega) (by omega) (e1.iff fun g=>by
   constructor
   ·rintro ((h | ⟨q,q1,q2⟩) | h)
    ·exact .inl h
    ·exact .inr ⟨q,by omega,q2⟩
    ·exact .inr ⟨i,by omega,h⟩
   ·rintro (h | ⟨q,q1,q2⟩)
    ·exact .inl (.inl h)
    ·by_cases hj:q=i
     ·subst hj; exact .inr q2
     ·exact .inl (.inr ⟨q,by omega,q2⟩))
  refine ⟨d',f1,?_⟩
  rw [← f2, ← e2]
  show zBU _ _ _ _ _ _ _=_
  unfold zBU
  rw [hx,hcl,zz (dt (by omega)),zP (zAD hi)]
  rfl
theorem zYk {P:Int→Prop} (hx:x3.1=a) (hT:T≤60) (h:Wa a) (hP:∀ c q g,c<a.caches.length→g∈Lf a c q → ¬ P g∧0≤g∧g<T):∀ (m n i:Nat) (d:List Int),i+m=a.caches.length→m<n→Ind d (fun g=>P g ∨ ∃ c q,c<i∧g∈Lf a c q) →
  ∃ d',Ind d' (fun g=>P g ∨ ∃ c q,c<a.caches.length∧g∈Lf a c q)∧zAI x3 T n (i:Int) d=zDT x3 T d':=by
 have hzn:=h.zn
 have hcn:=h.cn
 have hnn:=h.n
 intro m
 induction m with
 | zero =>
  intro n i d h1 h2 h3
  obtain ⟨n,rfl⟩:=ex1 ‹_<n›
  refine ⟨d,h3.iff fun g=>by rw [show i=a.caches.length by omega],?_⟩
  show zBS _ _ _ _ _=_
  unfold zBS
  rw [hx,zf (df (by omega))]
 | succ m ih =>
  intro n i d h1 h2 h3
  obtain ⟨n,rfl⟩:=ex1 ‹_<n›
  have hi:i<a.caches.length:=by omega
  obtain ⟨d1,e1,e2⟩:=zZE (se:=zAI x3 T n) (P:=fun g=>P g ∨ ∃ c q,c<i∧g∈Lf a c q) hx hT h hi (fun q g hg=>by
   have h4:=hP i q g hi hg
   refine ⟨fun y=>y.elim h4.1 fun ⟨c,r,r1,r2⟩ => ?_,h4.2⟩
   have:=(h.dis c i r q g (by omega) hi r2 hg).1
   omega) a.zones.length z5 0 d (by omega) (by unfold z5; omega) (h3.iff fun g=>⟨.inl,fun y=>y.elim id fun ⟨q,hq,_⟩=>by omega⟩)
  obtain ⟨d',f1,f2⟩:=ih n (i+1) d1 (by omega) (by omega) (e1.iff fun g=>by
   constructor
   ·rintro ((h | ⟨c,q,q1,q2⟩) | ⟨q,h⟩)
    ·exact .inl h
    ·exact .inr ⟨c,q,by omega,q2⟩
    ·exact .inr ⟨i,q,by omega,h⟩
   ·rintro (h | ⟨c,q,q1,q2⟩)
    ·exact .inl (.inl h)
    ·by_cases hj:c=i
     ·subst hj; exact .inr ⟨q,q2⟩
     ·exact .inl (.inr ⟨c,q,by omega,q2⟩))
  refine ⟨d',f1,?_⟩
  rw [← f2, ← e2]
  show zBS _ _ _ _ _=_
  unfold zBS
  rw [hx,zz (dt (by omega)),zP (zAD hi)]
  rfl
theorem zYu {P:Int→Prop} {d:List Int} (hx:x3.1=a) (hT:T≤60) (h:Wa a) (hd:Ind d P) (hP:∀ g,0≤g→g<T→P g):∀ (m n i:Nat),(i:Int)+m=T→m<n→zCK x3 T d n (i:Int)=some true:=by
 intro m
 induction m with
 | zero =>
  intro n i h1 h2
  obtain ⟨n,rfl⟩:=ex1 ‹_<n›
  show zBP _ _ _ _ _=_
  unfold zBP zDK
  rw [hx,zf (df (by omega)),zKU h,zAw]
  rfl
 | succ m ih =>
  intro n i h1 h2
  obtain ⟨n,rfl⟩:=ex1 ‹_<n›
  have h3:=(hd.2 i (by omega)).1 (hP _ (by omega) (by omega))
  show zBP _ _ _ _ _=_
  unfold zBP
  rw [zz (dt (by omega)),zP (zAD (by omega)),Int.toNat_natCast,dt h3,Bool.not_true,zf rfl,zP (zu (by omega))]
  exact ih n (i+1) (by omega) (by omega)
theorem zWQ (hx:x3.1=a) (hh:x3.2.1=held) (hT:T≤60) (h:Wa a) (hl:held.length≤1000) (hn:held.Nodup) (hH:∀ f,f∈held→(0≤f∧f<T) ∧ ∃ p,p<a.zones.length∧inside (Zn a p) f 0=true ∧ ¬ FrP a p f):∀ (m n i:Nat) (d:List Int),i+m=held.length→m<n→Ind d (fun g=>g∈held.take i) →
  ∃ d',Ind d' (fun g=>g∈held)∧zBm x3 T n (i:Int) d=zCb x3 T d':=by
 intro m
 induction m with
 | zero =>
  intro n i d h1 h2 h3
  obtain ⟨n,rfl⟩:=ex1 ‹_<n›
  refine ⟨d,h3.iff fun g=>by rw [List.take_of_length_le (by omega)],?_⟩
  show zBM _ _ _ _ _=_
  unfold zBM
  rw [hh,zf (df (by omega))]
 | succ m ih =>
  intro n i d h1 h2 h3
  obtain ⟨n,rfl⟩:=ex1 ‹_<n›
  have hi:i<held.length:=by omega
  obtain ⟨hb,p,p1,p2,p3⟩:=hH _ (zAv hi)
  obtain ⟨q,q1,q2⟩:=zUe h p1 p2
  have hq:q=false:=Bool.eq_false_iff.2 fun e=>p3 (q2.1 e)
  subst hq
  have hts:=zTd hi
  have hsp:=zNb hi
  rw [hsp,List.nodup_append] at hn
  have hnt:at_ held (i:Int) ∉ held.take i:=fun y=>hn.2.2 _ y _ (List.mem_cons_self ..) rfl
  obtain ⟨r1,r2⟩:=h3.inc (f:=at_ held (i:Int)) (by omega) hnt
  obtain ⟨d',f1,f2⟩:=ih n (i+1) _ (by omega) (by omega) (r2.iff fun g=>by rw [hts,List.mem_append,List.mem_singleton])
  refine ⟨d',f1,?_⟩
  rw [← f2]
  show zBM _ _ _ _ _=_
  unfold zBM
  rw [hh,hx,zz (dt (by omega)),zP (zAD hi),df (p:=at_ held (i:Int)<0) (by omega),df (p:=T≤at_ held (i:Int)) (by omega),zz (by rfl),q1,zAw,zf (by rfl),zP (zPr (by omega)),zP (zu (by rw [r1]; omega)),zP (zu (by omega))]
  rfl
theorem zWE {m:zAF} {ops:List zBV} (hm:Mc m) (hops:∀ x,x∈ops→Gop x):zEd m ops=some true:=by
 unfold zEd
 rw [zXQ,zAw,Bool.not_true,Bool.false_or]
 by_cases hl:30<(ops.length:Int)
 ·rw [zz (dt hl)]
  rfl
 ·obtain ⟨a0,a,held,n1,n2,n3,n4,n5⟩:=zY6 hm hops (show ops.length≤30 by omega)
  have hw:=n4.w
  have hz:=n2.z
  have hzl:=n4.s.zl
  have hcn:=hw.cn
  have hnn:=hw.n
  have hcount:∀ z,z∈a.zones→1≤z.count∧z.count≤20:=fun z hzm=>by
   obtain ⟨q,hq,e⟩:=List.getElem_of_mem hzm
   have ez:z=Zn a q:=by unfold Zn; rw [zFW hq,e]
   have h2:=n4.s.z q (by rw [← hzl]; exact hq)
   have h3:=n2.k q (by rw [← hzl]; exact hq)
   have h4:(Zn a q).count=(Zn a0 q).count:=h2.2.2.2.1
   rw [ez]
   omega
  obtain ⟨t1,t2,t3⟩:=zSc hw.se hcount
  have hin:∀ g,(∃ p,p<a.zones.length∧inside (Zn a p) g 0=true)↔0≤g∧g<zS6 0 a.zones:=fun g=>by
   rw [← t3 g]
   constructor
   ·rintro ⟨p,h1,h2⟩
    exact ⟨_,zAv h1,(zOM (hw.zs p h1).ranges).2 h2⟩
   ·rintro ⟨z,h1,h2⟩
    obtain ⟨q,hq,e⟩:=List.getElem_of_mem h1
    have ez:z=Zn a q:=by unfold Zn; rw [zFW hq,e]
    subst ez
    exact ⟨q,hq,(zOM (hw.zs q hq).ranges).1 h2⟩
  have eF:zC6 (a,held,true).1=some (zS6 0 a.zones):=zTx hw
  generalize zS6 0 a.zones=T at *
  have hT:T≤60:=by omega
  rw [zf (df hl),n3,zAw,Bool.not_true,zf rfl,eF,zAw,df (p:=T<2) (by omega),df (p:=60<T) (by omega),zf (by rfl)]
  obtain ⟨d1,e1,e2⟩:=zWQ (a:=a) (held:=held) (x3:=(a,held,true)) rfl rfl hT hw (by omega) n4.nd (fun f hf=>by
   obtain ⟨p,h1,h2⟩:=n4.h f hf
   exact ⟨(hin f).1 ⟨p,h1,h2⟩,p,h1,h2,fun y=>(n4.fr p h1 f h2).1 y hf⟩) held.length z5 0 (List.replicate 64 0) (by omega) (by unfold z5; omega) (zZk.iff fun g=>⟨False.elim,fun y=>by simp at y⟩)
  obtain ⟨d2,f1,f2⟩:=zWU (a:=a) (x3:=(a,held,true)) (P:=fun g=>g∈held) rfl hT hw (fun q hq g hg=>by
   have hi:=FrP.ins hw hq (.inl hg)
   exact ⟨(n4.fr q hq g hi).1 (.inl hg),(hin g).1 ⟨q,hq,hi⟩⟩) a.zones.length z5 0 d1 (by omega) (by unfold z5; omega) (e1.iff fun g=>⟨.inl,fun y=>y.elim id fun ⟨q,hq,_⟩=>by omega⟩)
  obtain ⟨d3,g1,g2⟩:=zYk (a:=a) (x3:=(a,held,true)) (P:=fun g=>g∈held ∨ ∃ q,q<a.zones.length∧cov (Zn a q) g) rfl hT hw (fun c q g hc hg=>by
   have hq:=hw.pz hc hg
   have ho:=hw.own c q g hc hg
   refine ⟨fun y=>y.elim ((n4.fr q hq g ho.1).1 (.inr ⟨c,hc,hg⟩)) fun ⟨r,r1,r2⟩ => ?_,(hin g).1 ⟨q,hq,ho.1⟩⟩
   have:=hw.ap r q g r1 hq (FrP.ins hw r1 (.inl r2)) ho.1
   subst this
   exact ho.2 r2) a.caches.length z5 0 d2 (by omega) (by unfold z5; omega) (f1.iff fun g=>⟨.inl,fun y=>y.elim id fun ⟨c,q,hq,_⟩=>by omega⟩)
  refine (show zBm (a,held,true) T z5 0 (List.replicate 64 0)=_ from e2).trans ?_
  refine (show zCb (a,held,true) T d1=_ from f2).trans ?_
  refine (show zCI (a,held,true) T d2=_ from g2).trans ?_
  obtain ⟨t,ht⟩:=Int.eq_ofNat_of_zero_le (show 0≤T by omega)
  exact zYu (a:=a) (x3:=(a,held,true)) rfl hT hw g1 (fun g h1 h2=>by
   obtain ⟨p,p1,p2⟩:=(hin g).2 ⟨h1,h2⟩
   by_cases hg:g∈held
   ·exact .inl (.inl hg)
   ·rcases (n4.fr p p1 g p2).2 hg with h3 | ⟨c,h3,h4⟩
    ·exact .inl (.inr ⟨p,p1,h3⟩)
    ·exact .inr ⟨c,p,h3,h4⟩) t z5 0 (by omega) (by unfold z5; omega)
end
end Go.Proofs.Ytplkliakhdkpcaa
namespace Go.Proofs.Ytplkliakhdkpcaa
open Go Go.ChangeShapes Go.WideShapes Go.ChangeAt Go.RowKit Go.Wk Go.Am
theorem own:ownKnob Try.prog.godebug=none:=by kernel_rfl
theorem zW6:laidOutB Try.prog=true:=by kernel_rfl
theorem zZO {n:Int} (h:(Lit.int .u8 n).wf=true):0≤n∧n≤255:=by
 simp [Lit.wf,IntKind.min,IntKind.max,IntKind.signed,IntKind.bits] at h
 omega
theorem zTz {l:List Int} (h:∀ x,x∈l→0≤x∧x≤255) (i:Nat):0≤l.getD i 0∧l.getD i 0≤255:=by
 rw [List.getD_eq_getElem?_getD]
 by_cases hi:i<l.length
 ·rw [List.getElem?_eq_getElem hi]
  exact h _ (List.getElem_mem hi)
 ·rw [List.getElem?_eq_none (by omega)]
  exact ⟨Int.le_refl _,by decide⟩
theorem zZC:RdC Try.prog 5 (cK .u8) (fun n=>0≤n∧n≤255):=RdC.map (zXN Try.underlying5) id (fun _=>rfl) (fun _ h=>zZO h)
theorem zUR:RdC Try.prog 34 (cA 3 (eK .u8) 0) (fun l=>l.length=3 ∧ ∀ x,x∈l→0≤x∧x≤255):=zTL 0 Try.underlying34 (by kernel_rfl) (by kernel_rfl) zZC
theorem zXR:RdC Try.prog 35 (cA 3 eB false) (fun l=>l.length=3 ∧ ∀ x,x∈l→True):=zTL false Try.underlying35 (by kernel_rfl) (by kernel_rfl) (zR7 Try.underlying4)
theorem zTg:RdC Try.prog 37 zt Mc :=
 RdC.map (zPB (tot:=11) Try.underlying37 (by kernel_rfl) (zJE (s:=3) zUR rfl (by kernel_rfl) (zJE (s:=3) zUR rfl (by kernel_rfl) (zJE (s:=3) zXR rfl (by kernel_rfl) (zJE (s:=1) zZC rfl (by kernel_rfl) (zJE (s:=1) (zR7 Try.underlying4) rfl (by kernel_rfl) (zTv rfl)))))))
  (fun x=>⟨x.1,x.2.1,x.2.2.1,x.2.2.2.1,x.2.2.2.2.1⟩) (fun _=>rfl) (fun _ h=>⟨zTz h.1.2,zTz h.2.1.2,h.2.2.2.1⟩)
theorem zaC:RdC Try.prog 78 zp Gop :=
 RdC.map (zPB (tot:=3) Try.underlying78 (by kernel_rfl) (zJE (s:=1) zZC rfl (by kernel_rfl) (zJE (s:=1) zZC rfl (by kernel_rfl) (zJE (s:=1) zZC rfl (by kernel_rfl) (zTv rfl)))))
  (fun x=>⟨x.1,x.2.1,x.2.2.1⟩) (fun _=>rfl) (fun _ h=>⟨h.1,h.2.1,h.2.2.1⟩)
theorem zZZ:RdC Try.prog 38 (cS zp) (fun l=>(∀ x,x∈l→Gop x)∧l.length≤140737488351232):=zTp Try.underlying38 (of_decide_eq_true (by kernel_rfl)) (of_decide_eq_true (by kernel_rfl)) zaC
set_option maxRecDepth 100000 in
theorem zKh (os:Os) (started:os.Started) (H:Type) (enc:TypeId×Value→H) :
  ReturnsInHanded {} Try.checked os 4 .any (Rows.allocatorPartsSpec.pre6 enc Try.prog Try.f4 Rows.allocatorPartsRow.domain false) (Rows.allocatorPartsSpec.post enc Try.prog Try.f4 false true false false):=by
 refine returnsInHanded_of_change_sized (C:=Try.checked) own started (by kernel_rfl) Try.func4
  (ChangeSpec.witness6 (enc:=enc) (C:=Try.checked) false ⟨#[], #[.agg #[.int .u8 0,.int .u8 0,.int .u8 0,.int .u8 0,.int .u8 0,.int .u8 0,.bool false,.bool false,.bool false,.int .u8 0,.bool false],.slice none 0 0],[]⟩ 8 (by kernel_rfl) (by kernel_rfl) (by kernel_rfl) (by kernel_rfl)) ?_
 intro W base args ds gs before hval0 hW hcnd0 hsz0 _
 have hsz:(DataW.weightsEach Try.prog (Try.f4.params.toList++Rows.allocatorPartsSpec.plain.varTypes Try.prog) (ds++gs)).all (· ≤ reachBytes)=true:=hsz0
 have hval:∀ (j:Nat) t v,Try.f4.params[j]?=some t→args[j]?=some v→Value.okWide Try.prog W .any base t v:=hval0
 clear hcnd0 hsz0 hval0
 have hW':=hW
 obtain ⟨p,q,hA0,hV,rfl,hfz,hnd⟩:=hW
 have hA:DataW.TrodAll enc Try.prog W 0 (fun _=>true) true Try.f4.params.toList args.toList ds p:=hA0
 clear hA0
 rw [Try.params4] at hA hval hsz
 obtain ⟨v0,v1,d0,d1,p0,p1,rfl,rfl,rfl,h0,h1⟩:=trodAll_two hA
 obtain ⟨rfl,rfl⟩:=trodVars_none hV
 simp only [List.append_nil] at hW' hsz
 have hlt:=hW'.lt
 have hwt:∀ (j:Nat) (t:TypeId) (d:DataW H),([37,38]:List TypeId)[j]?=some t→[d0,d1][j]?=some d → ∀ n,n∈d.weights Try.prog t→n≤reachBytes:=by
  intro j t d ht hd n hn
  have:=List.all_eq_true.1 hsz n (DataW.weights_mem_each (ts:=[37,38]++Rows.allocatorPartsSpec.plain.varTypes Try.prog) (by rw [List.getElem?_append_left (by have:=(List.getElem?_eq_some_iff.1 ht).1; exact this)]; exact ht) hd n hn)
  simpa using this
 obtain ⟨xs,rfl,hxs⟩:=okWide_struct Try.underlying37 (hval 0 37 v0 rfl rfl)
 obtain ⟨a1,n1,c1,rfl⟩:=okWide_slice Try.underlying38 (hval 1 38 v1 rfl rfl)
 obtain ⟨m,r0,hM⟩:=zTg.argA h0 (hwt 0 37 d0 rfl rfl) rfl
 obtain ⟨l,r1,hO⟩:=zZZ.arg1 (g:=eS zp) h1 (hwt 1 38 d1 rfl rfl) rfl
 have hk:∀ (W':World),Below W.heap.size W W' → ∀ (t:TypeId) (v:Value) (d:DataW H) (ps:List MemPlace),Try.prog.readableRec t=true→t<Try.prog.types.size→DataW.Trod enc Try.prog W 0 (fun _=>true) true t v d ps→(∀ x∈ps,x.block<W.heap.size)→DataW.Trod enc Try.prog W' 0 (fun b=>decide (b<W.heap.size)) true t v d ps :=
  fun W' hb t v d ps hr hs h hl=>Below.trod zW6 hr hs h hb hl
 refine (zKH (zWE hM hO.1) W noB _ (fun x h=>h.elim) (show VRt W noB [] _ [_,_] [] from ?_)).mono ?_
 ·unfold VRt
  refine ⟨_,_,[],[],rfl,rfl,r0,?_⟩
  unfold VRt
  refine ⟨_,_,[],[],rfl,rfl,r1,?_⟩
  unfold VRt
  exact ⟨rfl,rfl⟩
 ·rintro v W' ⟨fr,hv,_,_,kp⟩
  unfold VR at hv
  obtain ⟨rfl,_⟩:=hv
  have hb:Below W.heap.size W W':=⟨kp.os,kp.tape,kp.output,kp.size,fun k hk=>kp.block k hk id⟩
  refine ⟨_,_,_,[],_,[],hW',trodAll_mk1 (shut_bool Try.underlying4 true),trodAll_mk2 (hk W' hb _ _ _ _ (by kernel_rfl) (of_decide_eq_true (by kernel_rfl)) h0 (fun x hx=>hlt x (by simp [hx]))) (hk W' hb _ _ _ _ (by kernel_rfl) (of_decide_eq_true (by kernel_rfl)) h1 (fun x hx=>hlt x (by simp [hx]))),rfl,hb.frame _,fun h=>by cases h⟩
theorem allocatorParts_holds:Rows.AllocatorPartsSaid :=
 OpenClaim.holds_of_wide 4 Try.f4 rfl rfl rfl rfl rfl rfl rfl ⟨rfl,rfl,rfl,rfl,rfl⟩ rfl rfl rfl rfl rfl (by kernel_rfl) Try.func4 (by kernel_rfl)
  (of_decide_eq_true (by kernel_rfl)) (by unfold Func.isWrapper; first | (rw [if_pos (by decide +kernel)]; kernel_rfl) | (rw [if_neg (by decide +kernel)]; exact ⟨rfl,rfl⟩))
  (fun os started H enc _=>zKh os started H enc)
end Go.Proofs.Ytplkliakhdkpcaa
