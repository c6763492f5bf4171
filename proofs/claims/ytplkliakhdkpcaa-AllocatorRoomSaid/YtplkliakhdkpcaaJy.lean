/-
 The statement AllocatorRoom.
-/
import Derived.Test.YtplkliakhdkpcaaGe
import Derived.Test.YtplkliakhdkpcaaRows
import Derived.WideKeyArr2
set_option linter.unusedVariables false
set_option linter.unusedSimpArgs false
namespace Go.Proofs.Ytplkliakhdkpcaa
open Go Go.RowKit Go.Wk Go.Am
theorem zYS {z:zW} (hr:ranges z=true):∀ (l:List Int) (d:List Bool),d.length=256→(∀ f,f∈l→inZ z f=true∧zKH z f=false∧d.getD f.toNat false=false)→l.Nodup→(feL z d l).1=0
 | [],d,_,_,_=>rfl
 | f::r,d,hd,h,hn=>by
  have hf:=h f (by simp)
  have hb:=zM1 hr hf.1
  have hn':=List.nodup_cons.1 hn
  unfold feL
  rw [if_pos hf.1,if_neg (by rw [hf.2.1,hf.2.2]; simp)]
  refine zYS hr r _ (by rw [List.length_set]; exact hd) (fun g hg => ?_) hn'.2
  have hg':=h g (by simp [hg])
  have hbg:=zM1 hr hg'.1
  refine ⟨hg'.1,hg'.2.1,?_⟩
  rw [zBz _ _ _ (by omega),if_neg (fun e=>hn'.1 (by rw [show f=g by omega]; exact hg))]
  exact hg'.2.2
theorem zYI:∀ (zs:List zW) (ls:List (List Int)) (d:List Bool),(∀ z,z∈zs→ranges z=true)→ls.length=zs.length→d.length=256 →
  (∀ (p:Nat) z l,zs[p]?=some z→ls[p]?=some l→(∀ f,f∈l→inZ z f=true∧zKH z f=false∧d.getD f.toNat false=false)∧l.Nodup) →
  (∀ (p q:Nat) l m f,ls[p]?=some l→ls[q]?=some m→f∈l→f∈m→p=q)→(feC d zs ls).1=0
 | [],[],d,_,_,_,_,_=>rfl
 | [],_::_,_,_,hl,_,_,_=>by simp at hl
 | _::_,[],_,_,hl,_,_,_=>by simp at hl
 | z::zs,l::ls,d,hr,hl,hd,h,hq=>by
  have hrz:=hr z (by simp)
  have h0:=h 0 z l rfl rfl
  have e0:=zYS hrz l d hd h0.1 h0.2
  obtain ⟨j1,j2,j3⟩:=zSv hrz l d hd e0
  unfold feC
  rw [if_pos e0]
  refine zYI zs ls _ (fun y hy=>hr y (by simp [hy])) (by simpa using hl) (by rw [zMG]; exact hd) (fun p y m hy hm => ?_) (fun p q a b f ha hb hfa hfb => ?_)
  ·have h1:=h (p+1) y m (by simpa using hy) (by simpa using hm)
   refine ⟨fun f hf => ?_,h1.2⟩
   have h2:=h1.1 f hf
   refine ⟨h2.1,h2.2.1,Bool.eq_false_iff.2 fun ht => ?_⟩
   have hb:=zM1 (hr y (List.mem_of_getElem? (i:=p+1) (by simpa using hy))) h2.1
   rcases (j3 f.toNat).1 ht with h3 | h3
   ·rw [h2.2.2] at h3; cases h3
   ·rw [zQH hb.1] at h3
    exact absurd (hq 0 (p+1) l m f rfl (by simpa using hm) h3 hf) (by omega)
  ·have:=hq (p+1) (q+1) a b f (by simpa using ha) (by simpa using hb) hfa hfb
   omega
theorem zXv {zs:List zW} (hr:∀ z,z∈zs→ranges z=true):∀ (cs:List zK) (d:List Bool),(∀ c,c∈cs→c.lists.length=zs.length)→d.length=256 →
  (∀ c,c∈cs → ∀ (p:Nat) z l,zs[p]?=some z→c.lists[p]?=some l→(∀ f,f∈l→inZ z f=true∧zKH z f=false∧d.getD f.toNat false=false)∧l.Nodup) →
  (∀ c,c∈cs → ∀ (p q:Nat) l m f,c.lists[p]?=some l→c.lists[q]?=some m→f∈l→f∈m→p=q) →
  (∀ (i j:Nat) x y l m f,cs[i]?=some x→cs[j]?=some y→l∈x.lists→m∈y.lists→f∈l→f∈m→i=j)→feA zs d cs=0
 | [],_,_,_,_,_,_=>rfl
 | c::cs,d,hl,hd,h1,h2,h3=>by
  have hcl:=hl c (by simp)
  have e0:=zYI zs c.lists d hr hcl hd (h1 c (by simp)) (h2 c (by simp))
  obtain ⟨j1,j2,j3,j4⟩:=zVX zs c.lists d hr hcl hd e0
  unfold feA
  rw [if_pos e0]
  refine zXv hr cs _ (fun x hx=>hl x (by simp [hx])) (by rw [zQo]; exact hd) (fun x hx p z l hz hxl => ?_) (fun x hx=>h2 x (by simp [hx])) (fun i j x y l m f hi hj=>fun a1 a2 a3 a4 => ?_)
  ·have h4:=h1 x (by simp [hx]) p z l hz hxl
   refine ⟨fun f hf => ?_,h4.2⟩
   have h5:=h4.1 f hf
   refine ⟨h5.1,h5.2.1,Bool.eq_false_iff.2 fun ht => ?_⟩
   have hb:=zM1 (hr z (List.mem_of_getElem? hz)) h5.1
   rcases (j3 f.toNat).1 ht with h6 | ⟨m,h6,h7⟩
   ·rw [h5.2.2] at h6; cases h6
   ·rw [zQH hb.1] at h7
    obtain ⟨i,hi,e⟩:=List.getElem_of_mem hx
    exact absurd (h3 0 (i+1) c x m l f rfl (by simp [hi,e]) h6 (List.mem_of_getElem? hxl) h7 hf) (by omega)
  ·have:=h3 (i+1) (j+1) x y l m f (by simpa using hi) (by simpa using hj) a1 a2 a3 a4
   omega
theorem zZZ {h zn:Int}:∀ {cs:List zK},(∀ c,c∈cs→pcR c zn=0 ∧ ∀ l,l∈c.lists→(l.length:Int)≤h)→cE h zn cs=0
 | [],_=>rfl
 | c::cs,hh=>by
  have h0:=hh c (by simp)
  unfold cE
  rw [if_pos h0.1,if_neg (fun e=>by
   obtain ⟨l,hl,hd⟩:=List.any_eq_true.1 e
   have:=h0.2 l hl
   have:=of_decide_eq_true hd
   omega)]
  exact zZZ (fun x hx=>hh x (by simp [hx]))
section
variable {a b:zH} {c p:Nat}
theorem Wa.lst_at (h:Wa a) (hc:c<a.caches.length) {l:List Int} (hl:l∈(at_ a.caches (c:Int)).lists):∃ p,p<a.zones.length∧l=Lf a c p:=by
 obtain ⟨p,hp,e⟩:=List.getElem_of_mem hl
 exact ⟨p,by rw [← h.cl c hc]; exact hp,by unfold Lf; rw [zFU hp,e]⟩
theorem zYZ (h:Wa a):zY3 a=0:=by
 have h1:=h.n
 have h2:=h.zn
 have h3:=h.bh
 have h4:=h.cn
 have hr:∀ z,z∈a.zones→ranges z=true:=fun z hz=>zFI (h.va.chk hz)
 have hf:zUt a.nodes a.batch a.high (a.zones.length:Int)=true:=by
  unfold zUt zLx
  rw [df (by omega),df (by omega),df (by omega),df (by omega),df (by omega),df (by omega),df (by omega)]
  rw [show a.nodes.any zPZ=false from List.any_eq_false.2 fun v hv=>by
   have:=h.nr v hv
   unfold zPZ
   rw [df (by omega),df (by omega)]
   simp]
  rfl
 have hi:∀ (i:Nat) x,a.caches[i]?=some x→i<a.caches.length∧x=at_ a.caches (i:Int):=fun i x e=>⟨(List.getElem?_eq_some_iff.1 e).1,(zXc e).symm⟩
 unfold zY3
 rw [if_pos hf,if_pos h.se,if_pos (by omega),if_pos (zZZ fun x hx => ?_)]
 ·refine zXv hr a.caches zEv h.va.len zJm (fun x hx q z l hz hl => ?_) (fun x hx q r l m f hl hm hfl hfm => ?_) (fun i j x y l m f hx hy hl hm hfl hfm => ?_)
  ·obtain ⟨i,hxi,e⟩:=List.getElem_of_mem hx
   have ex:x=at_ a.caches (i:Int):=by rw [zFU hxi,e]
   subst ex
   have hq:=(List.getElem?_eq_some_iff.1 hz).1
   have el:l=Lf a i q:=(zXc hl).symm
   have ez:z=Zn a q:=(zXc hz).symm
   subst el
   subst ez
   refine ⟨fun f hfm => ?_,h.nd i q hxi⟩
   have ho:=h.own i q f hxi hfm
   have hk:=(h.zs q hq).zk
   refine ⟨(zQX (h.zs q hq).ranges).2 ho.1,Bool.eq_false_iff.2 fun ht=>ho.2 ((zRv hk (zCq (h.zs q hq)) ho.1).1 ht),?_⟩
   unfold zEv
   rw [List.getD_eq_getElem?_getD,List.getElem?_replicate]
   split <;> rfl
  ·obtain ⟨i,hxi,e⟩:=List.getElem_of_mem hx
   have ex:x=at_ a.caches (i:Int):=by rw [zFU hxi,e]
   subst ex
   have e1:l=Lf a i q:=(zXc hl).symm
   have e2:m=Lf a i r:=(zXc hm).symm
   subst e1
   subst e2
   exact (h.dis i i q r f hxi hxi hfl hfm).2
  ·obtain ⟨hi1,e1⟩:=hi i x hx
   obtain ⟨hj1,e2⟩:=hi j y hy
   subst e1
   subst e2
   obtain ⟨q,_,el⟩:=h.lst_at hi1 hl
   obtain ⟨r,_,em⟩:=h.lst_at hj1 hm
   subst el
   subst em
   exact (h.dis i j q r f hi1 hj1 hfl hfm).1
 ·obtain ⟨i,hxi,e⟩:=List.getElem_of_mem hx
  have ex:x=at_ a.caches (i:Int):=by rw [zFU hxi,e]
  subst ex
  refine ⟨(h.pc hxi).r,fun l hl => ?_⟩
  obtain ⟨q,_,el⟩:=h.lst_at hxi hl
  subst el
  exact h.lim i q hxi
theorem zLv (h:Wa a):zAn a=some 0:=by rw [zYl h.al,zYZ h]
structure Shp (a b:zH):Prop where
 n:b.nodes=a.nodes
 ba:b.batch=a.batch
 hi:b.high=a.high
 cl:b.caches.length=a.caches.length
 zl:b.zones.length=a.zones.length
 z:∀ p,p<a.zones.length→zEa (Zn b p) (Zn a p)
theorem Shp.refl:Shp a a:=⟨rfl,rfl,rfl,rfl,rfl,fun _ _=>⟨rfl,rfl,rfl,rfl,rfl⟩⟩
theorem Shp.trans {d:zH} (h:Shp a b) (g:Shp b d):Shp a d:=⟨g.n.trans h.n,g.ba.trans h.ba,g.hi.trans h.hi,g.cl.trans h.cl,g.zl.trans h.zl,fun p hp=>(g.z p (by rw [h.zl]; exact hp)).trans (h.z p hp)⟩
def FrP (a:zH) (p:Nat) (f:Int):Prop:=cov (Zn a p) f ∨ ∃ c,c<a.caches.length∧f∈Lf a c p
theorem FrP.ins (h:Wa a) (hp:p<a.zones.length) {f:Int} (hf:FrP a p f):inside (Zn a p) f 0=true:=by
 rcases hf with ⟨k,x,hx,h1,h2⟩ | ⟨d,hd,hm⟩
 ·have ho:=h.zs p hp
  have hb:=zAO ho.ranges (ho.ins k x hx)
  have h3:=(zAr ho.ranges).1 (ho.ins k x hx)
  refine (zAr ho.ranges).2 ⟨by omega,?_,?_,?_⟩
  ·rw [pw0]; omega
  ·rw [pw0]; have:=zAx ho.ranges; omega
  ·rw [pw0]; omega
 ·exact (h.own d p f hd hm).1
def Frs (a b:zH) (p:Nat) (P:Int→Prop):Prop:=(∀ g,FrP b p g↔P g) ∧ ∀ q,q≠p→q<a.zones.length → ∀ g,FrP b q g↔FrP a q g
theorem zLa (h:Wa a) (hc:c<a.caches.length) (hp:p<a.zones.length) {l:List Int} {z:zW} (h5:zEa z (Zn a p)) {P:Int→Prop} (hP:∀ g,(cov z g∨g∈l ∨ ∃ d,d<a.caches.length∧d≠c∧g∈Lf a d p)↔P g):Shp a (upd a c p l z)∧Frs a (upd a c p l z) p P:=by
 have hZ:=fun q=>zRa (c:=c) (l:=l) (z:=z) hp q
 have hL:=fun d q=>zRk (l:=l) (z:=z) h hc hp d q
 have hcl:(upd a c p l z).caches.length=a.caches.length:=List.length_set
 refine ⟨⟨rfl,rfl,rfl,hcl,List.length_set,fun q hq => ?_⟩,fun g => ?_,fun q hq hql g => ?_⟩
 ·rw [hZ q]
  by_cases e:q=p
  ·rw [if_pos e,e]; exact h5
  ·rw [if_neg e]; exact ⟨rfl,rfl,rfl,rfl,rfl⟩
 ·rw [← hP g]
  unfold FrP
  rw [hcl,hZ p,if_pos rfl]
  constructor
  ·rintro (h1 | ⟨d,h1,h2⟩)
   ·exact .inl h1
   ·rw [hL] at h2
    by_cases e:d=c
    ·rw [if_pos ⟨e,rfl⟩] at h2; exact .inr (.inl h2)
    ·rw [if_neg (fun x=>e x.1)] at h2; exact .inr (.inr ⟨d,h1,e,h2⟩)
  ·rintro (h1 | h1 | ⟨d,h1,e,h2⟩)
   ·exact .inl h1
   ·exact .inr ⟨c,hc,by rw [hL,if_pos ⟨rfl,rfl⟩]; exact h1⟩
   ·exact .inr ⟨d,h1,by rw [hL,if_neg (fun x=>e x.1)]; exact h2⟩
 ·unfold FrP
  rw [hcl,hZ q,if_neg hq]
  constructor
  ·rintro (h1 | ⟨d,h1,h2⟩)
   ·exact .inl h1
   ·rw [hL,if_neg (fun x=>hq x.2)] at h2; exact .inr ⟨d,h1,h2⟩
  ·rintro (h1 | ⟨d,h1,h2⟩)
   ·exact .inl h1
   ·exact .inr ⟨d,h1,by rw [hL,if_neg (fun x=>hq x.2)]; exact h2⟩
theorem zII (hc:c<a.caches.length) {g:Int}:FrP a p g↔cov (Zn a p) g∨g∈Lf a c p ∨ ∃ d,d<a.caches.length∧d≠c∧g∈Lf a d p:=by
 unfold FrP
 constructor
 ·rintro (h | ⟨d,h1,h2⟩)
  ·exact .inl h
  ·by_cases e:d=c
   ·subst e; exact .inr (.inl h2)
   ·exact .inr (.inr ⟨d,h1,e,h2⟩)
 ·rintro (h | h | ⟨d,h1,_,h2⟩)
  ·exact .inl h
  ·exact .inr ⟨c,hc,h⟩
  ·exact .inr ⟨d,h1,h2⟩
def zPH (a b:zH):Prop:=Wa b∧Shp a b ∧ ∀ q,q<a.zones.length → ∀ g,FrP b q g↔FrP a q g
theorem zPH.refl (h:Wa a):zPH a a:=⟨h,Shp.refl,fun _ _ _=>Iff.rfl⟩
theorem zPH.trans {d:zH} (h:zPH a b) (g:zPH b d):zPH a d:=⟨g.1,h.2.1.trans g.2.1,fun q hq x=>(g.2.2 q (by rw [h.2.1.zl]; exact hq) x).trans (h.2.2 q hq x)⟩
theorem zTy (hb:Wa b) (h:Shp a b) (hf:Frs a b p (FrP a p)):zPH a b:=⟨hb,h,fun q hq g=>by
 by_cases e:q=p
 ·subst e; exact hf.1 g
 ·exact hf.2 q e hq g⟩
theorem zR6 (h:Wa a) (hc:c<a.caches.length) (hp:p<a.zones.length) (hl:Lf a c p=[]):zPH a (zSJ a c p):=by
 obtain ⟨r1,r2,r3,r4,r5,r6⟩:=zRH a.batch.toNat (h.zs p hp)
 obtain ⟨s1,s2⟩:=zLa h hc hp (l:=Lf a c p++(refl a.batch.toNat (Zn a p)).2.reverse) r2 (P:=FrP a p) (fun g=>by
  rw [zII hc,r6,hl,List.nil_append,List.mem_reverse]
  constructor
  ·rintro (h1 | h1 | h1)
   ·exact .inl h1.1
   ·exact .inl (r5 g h1).2
   ·exact .inr (.inr h1)
  ·rintro (h1 | h1 | h1)
   ·by_cases hg:g∈(refl a.batch.toNat (Zn a p)).2
    ·exact .inr (.inl hg)
    ·exact .inl ⟨h1,hg⟩
   ·cases h1
   ·exact .inr (.inr h1))
 exact zTy (zIU h hc hp hl).2.2 s1 s2
theorem zOs (h:Wa a) (hc:c<a.caches.length) (hp:p<a.zones.length):zPH a (zFe a c p):=by
 obtain ⟨g1,g2,g3⟩:=zKk (Lf a c p) (h.zs p hp) (fun f hf=>h.own c p f hc hf) (h.nd c p hc)
 obtain ⟨s1,s2⟩:=zLa h hc hp (l:=[]) g3 (P:=FrP a p) (fun g=>by
  rw [zII hc,g2]
  constructor
  ·rintro ((h1 | h1) | h1 | h1)
   ·exact .inl h1
   ·exact .inr (.inl h1)
   ·cases h1
   ·exact .inr (.inr h1)
  ·rintro (h1 | h1 | h1)
   ·exact .inl (.inl h1)
   ·exact .inl (.inr h1)
   ·exact .inr (.inr h1))
 exact zTy (zJM h hc hp).2.2 s1 s2
theorem zP6:∀ (m i:Nat) {a:zH},Wa a→i+m≤a.caches.length→p<a.zones.length→zPH a (zAm p m i a)
 | 0,i,a,h,_,_=>zPH.refl h
 | m+1,i,a,h,hm,hp=>by
  have hs:=zOs h (c:=i) (by omega) hp
  exact hs.trans (zP6 m (i+1) hs.1 (by rw [zEJ.1]; omega) (by rw [zEJ.2]; exact hp))
theorem zRT:∀ (m q:Nat) {b:zH},Wa b→c<b.caches.length→q+m≤b.zones.length→zPH b (zFY c m q b)
 | 0,q,b,h,_,_=>zPH.refl h
 | m+1,q,b,h,hc,hm=>by
  have hs:=zOs h hc (p:=q) (by omega)
  exact hs.trans (zRT m (q+1) hs.1 (by rw [zEJ.1]; exact hc) (by rw [zEJ.2]; omega))
theorem zSH:∀ (m c:Nat) {b:zH},Wa b→c+m≤b.caches.length→zPH b (zM5 m c b)
 | 0,c,b,h,_=>zPH.refl h
 | m+1,c,b,h,hm=>by
  have hs:=zRT (c:=c) b.zones.length 0 h (by omega) (by omega)
  exact hs.trans (zSH m (c+1) hs.1 (by rw [hs.2.1.cl]; omega))
theorem zW2 (h:Wa a) (hc:c<a.caches.length) (hp:p<a.zones.length):zPH a (a1A a c p):=by
 unfold a1A
 by_cases hl:Lf a c p=[]
 ·rw [if_pos hl]; exact zR6 h hc hp hl
 ·rw [if_neg hl]; exact zPH.refl h
theorem zW1 (h:Wa a) (hc:c<a.caches.length) (hp:p<a.zones.length):zPH a (a2A a c p):=by
 have s1:=zW2 h hc hp
 have hc1:c<(a1A a c p).caches.length:=by rw [s1.2.1.cl]; exact hc
 have hp1:p<(a1A a c p).zones.length:=by rw [s1.2.1.zl]; exact hp
 unfold a2A
 by_cases hl:Lf (a1A a c p) c p=[]
 ·rw [if_pos hl]
  have s2:=zP6 (p:=p) (a1A a c p).caches.length 0 s1.1 (by omega) hp1
  obtain ⟨r1,r2,r3,r4,r5,r6,r7⟩:=zIn (p:=p) (a1A a c p).caches.length 0 s1.1 (by omega) hp1
  have hl2:Lf (zAm p (a1A a c p).caches.length 0 (a1A a c p)) c p=[]:=by
   rw [r5]
   split
   ·rfl
   ·exact hl
  exact s1.trans (s2.trans (zR6 s2.1 (by rw [r2]; exact hc1) (by rw [r3]; exact hp1) hl2))
 ·rw [if_neg hl]; exact s1
theorem zWN (h:Wa a) (hc:c<a.caches.length) (hp:p<a.zones.length) (hne:Lf a c p≠[]):Wa (zQE a c p)∧Shp a (zQE a c p)∧Frs a (zQE a c p) p (fun g=>FrP a p g∧g≠zPB (at_ a.caches (c:Int)) p)∧FrP a p (zPB (at_ a.caches (c:Int)) p):=by
 have hpos:0<(Lf a c p).length:=List.length_pos_iff.2 hne
 have hx:zPB (at_ a.caches (c:Int)) p=at_ (Lf a c p) (((Lf a c p).length - 1:Nat):Int):=by
  unfold zPB
  show at_ (Lf a c p) (((Lf a c p).length:Int) - 1)=_
  rw [show (((Lf a c p).length:Int) - 1)=(((Lf a c p).length - 1:Nat):Int) by omega]
 generalize hxx:zPB (at_ a.caches (c:Int)) p=x at hx ⊢
 have hspl:Lf a c p=(Lf a c p).take ((Lf a c p).length - 1)++[x]:=by
  have:=List.take_append_drop ((Lf a c p).length - 1) (Lf a c p)
  rw [zCj (show (Lf a c p).length - 1<(Lf a c p).length by omega), ← hx,List.drop_eq_nil_of_le (by omega)] at this
  exact this.symm
 have hxm:x∈Lf a c p:=by rw [hspl]; simp
 have hnd:=h.nd c p hc
 rw [hspl,List.nodup_append] at hnd
 have ho:=h.own c p x hc hxm
 obtain ⟨s1,s2⟩:=zLa h hc hp (l:=(Lf a c p).take ((Lf a c p).length - 1)) (z:=Zn a p) ⟨rfl,rfl,rfl,rfl,rfl⟩ (P:=fun g=>FrP a p g∧g≠x) (fun g=>by
  rw [zII hc]
  have hm:g∈Lf a c p↔g∈(Lf a c p).take ((Lf a c p).length - 1)∨g=x:=by
   conv=>lhs; rw [hspl]
   simp
  rw [hm]
  constructor
  ·rintro (h1 | h1 | ⟨d,h1,h2,h3⟩)
   ·exact ⟨.inl h1,fun e=>ho.2 (e▸h1)⟩
   ·exact ⟨.inr (.inl (.inl h1)),fun e=>hnd.2.2 g h1 x (by simp) e⟩
   ·exact ⟨.inr (.inr ⟨d,h1,h2,h3⟩),fun e=>h2 (h.dis d c p p x h1 hc (e▸h3) hxm).1⟩
  ·rintro ⟨h1 | (h1 | h1) | h1,h2⟩
   ·exact .inl h1
   ·exact .inr (.inl h1)
   ·exact absurd h1 h2
   ·exact .inr (.inr h1))
 have hw:=zWn h hc hp
 rw [zQI hp] at hw ⊢
 exact ⟨hw,s1,s2,.inr ⟨c,hc,hxm⟩⟩
def zVV (a b:zH) (p:Nat) (x:Int):Prop:=Wa b∧Shp a b∧Frs a b p (fun g=>FrP a p g∧g≠x)∧FrP a p x
theorem zUa (h:Wa a) (hc:c<a.caches.length) (hp:p<a.zones.length) (hn:0<zME a p):zVV a (zLh a c p).1 p (zLh a c p).2:=by
 have s:=zW1 h hc hp
 obtain ⟨v1,v2,v3,v4⟩:=zYU h hc hp hn
 obtain ⟨t1,t2,t3,t4⟩:=zWN v1 (by rw [v2]; exact hc) (by rw [v3]; exact hp) v4
 refine ⟨t1,s.2.1.trans t2,⟨fun g => ?_,fun q hq hql g => ?_⟩,(s.2.2 p hp _).1 t4⟩
 ·exact (t3.1 g).trans ⟨fun x=>⟨(s.2.2 p hp g).1 x.1,x.2⟩,fun x=>⟨(s.2.2 p hp g).2 x.1,x.2⟩⟩
 ·exact (t3.2 q hq (by rw [v3]; exact hql) g).trans (s.2.2 q hql g)
theorem zXG (h:Wa a) {f:Int} (hc:c<a.caches.length) (hp:p<a.zones.length) (hi:inside (Zn a p) f 0=true) (hn:¬ FrP a p f):Wa (zQx a c p f)∧Shp a (zQx a c p f)∧Frs a (zQx a c p f) p (fun g=>FrP a p g∨g=f):=by
 have hn1:¬ cov (Zn a p) f:=fun x=>hn (.inl x)
 have hn2:∀ d,d<a.caches.length→f ∉ Lf a d p:=fun d hd x=>hn (.inr ⟨d,hd,x⟩)
 obtain ⟨_,_,_,hw⟩:=zVi h hc hp hi hn1 hn2
 have hx:∀ g,g∈Lf a c p++[f]→inside (Zn a p) g 0=true ∧ ¬ cov (Zn a p) g:=fun g hg=>by
  rcases List.mem_append.1 hg with hg | hg
  ·exact h.own c p g hc hg
  ·rw [List.mem_singleton.1 hg]; exact ⟨hi,hn1⟩
 have hxn:(Lf a c p++[f]).Nodup:=by
  rw [List.nodup_append]
  exact ⟨h.nd c p hc,by simp,fun x hx' y hy e=>by rw [List.mem_singleton.1 hy] at e; rw [e] at hx'; exact hn2 c hc hx'⟩
 refine ⟨hw,?_⟩
 unfold zQx zM9
 by_cases hh:((at_ (at_ a.caches (c:Int)).lists (p:Int)++[f]).length:Int)≤a.high
 ·rw [if_pos hh]
  exact zLa h hc hp (l:=Lf a c p++[f]) (z:=Zn a p) ⟨rfl,rfl,rfl,rfl,rfl⟩ (fun g=>by
   rw [zII hc,List.mem_append,List.mem_singleton]
   constructor
   ·rintro (h1 | (h1 | h1) | h1)
    ·exact .inl (.inl h1)
    ·exact .inl (.inr (.inl h1))
    ·exact .inr h1
    ·exact .inl (.inr (.inr h1))
   ·rintro ((h1 | h1 | h1) | h1)
    ·exact .inl h1
    ·exact .inr (.inl (.inl h1))
    ·exact .inr (.inr h1)
    ·exact .inr (.inl (.inr h1)))
 ·rw [if_neg hh]
  obtain ⟨g1,g2,g3⟩:=zKk (((Lf a c p)++[f]).take a.batch.toNat) (h.zs p hp) (fun g hg=>hx g (List.mem_of_mem_take hg)) (hxn.sublist (List.take_sublist _ _))
  exact zLa h hc hp (l:=((Lf a c p)++[f]).drop a.batch.toNat) g3 (fun g=>by
   have hm:(g∈((Lf a c p)++[f]).take a.batch.toNat∨g∈((Lf a c p)++[f]).drop a.batch.toNat)↔g∈Lf a c p∨g=f:=by
    rw [← List.mem_append,List.take_append_drop,List.mem_append,List.mem_singleton]
   rw [zII hc,g2]
   constructor
   ·rintro ((h1 | h1) | h1 | h1)
    ·exact .inl (.inl h1)
    ·exact (hm.1 (.inl h1)).elim (fun x => .inl (.inr (.inl x))) .inr
    ·exact (hm.1 (.inr h1)).elim (fun x => .inl (.inr (.inl x))) .inr
    ·exact .inl (.inr (.inr h1))
   ·have key:(g∈Lf a c p∨g=f)→((cov (Zn a p) g∨g∈((Lf a c p)++[f]).take a.batch.toNat)∨g∈((Lf a c p)++[f]).drop a.batch.toNat ∨ ∃ d,d<a.caches.length∧d≠c∧g∈Lf a d p):=fun x=>(hm.2 x).elim (fun y => .inl (.inr y)) (fun y => .inr (.inl y))
    rintro ((h1 | h1 | h1) | h1)
    ·exact .inl (.inl h1)
    ·exact key (.inl h1)
    ·exact .inr (.inr h1)
    ·exact key (.inr h1))
theorem zZF (h:Wa a) {f:Int} (hc:c<a.caches.length) (hp:p<a.zones.length) (hf:f∈Lf a c p):zVV a (upd a c p (wo f (Lf a c p)) (Zn a p)) p f:=by
 have ho:=h.own c p f hc hf
 have hm:∀ g,g∈wo f (Lf a c p)↔g∈Lf a c p∧g≠f:=fun g=>by
  unfold wo
  rw [List.mem_filter]
  simp
 obtain ⟨s1,s2⟩:=zLa h hc hp (l:=wo f (Lf a c p)) (z:=Zn a p) ⟨rfl,rfl,rfl,rfl,rfl⟩ (P:=fun g=>FrP a p g∧g≠f) (fun g=>by
  rw [zII hc,hm]
  constructor
  ·rintro (h1 | h1 | ⟨d,h1,h2,h3⟩)
   ·exact ⟨.inl h1,fun e=>ho.2 (e▸h1)⟩
   ·exact ⟨.inr (.inl h1.1),h1.2⟩
   ·exact ⟨.inr (.inr ⟨d,h1,h2,h3⟩),fun e=>h2 (h.dis d c p p f h1 hc (e▸h3) hf).1⟩
  ·rintro ⟨h1 | h1 | h1,h2⟩
   ·exact .inl h1
   ·exact .inr (.inl ⟨h1,h2⟩)
   ·exact .inr (.inr h1))
 exact ⟨zZS h hc hp,s1,s2,.inr ⟨c,hc,hf⟩⟩
theorem zY4 (h:Wa a) {f:Int} {y:zW} (hp:p<a.zones.length) (hf:cov (Zn a p) f) (y3:OkZ y) (y4:zEa y (Zn a p)) (y5:∀ g,cov y g↔cov (Zn a p) g∧g≠f):zVV a ⟨a.nodes,a.batch,a.high,a.zones.set p y,a.caches⟩ p f:=by
 have hcn:=h.cn
 have hn1:=h.n
 have hc:0<a.caches.length:=by omega
 have hpl0:=h.cl 0 hc
 have hW:=zNr (l:=Lf a 0 p) (z:=y) h hc hp y3 y4 (h.lim 0 p hc) (h.nd 0 p hc) (fun g hg=>⟨(h.own 0 p g hc hg).1,fun hv=>(h.own 0 p g hc hg).2 ((y5 g).1 hv).1⟩) (fun d g hd hdc hg=>⟨fun hm=>hdc (h.dis d 0 p p g hd hc hg hm).1,fun hv=>(h.own d p g hd hg).2 ((y5 g).1 hv).1⟩)
 have hcl:a.caches.set 0 ⟨(at_ a.caches ((0:Nat):Int)).lists.set p (Lf a 0 p)⟩=a.caches:=by
  have e1:(at_ a.caches ((0:Nat):Int)).lists.set p (Lf a 0 p)=(at_ a.caches ((0:Nat):Int)).lists:=zIf (by rw [hpl0]; exact hp)
  rw [e1]
  exact zIf hc
 have hins:inside (Zn a p) f 0=true:=FrP.ins h hp (.inl hf)
 obtain ⟨s1,s2⟩:=zLa h hc hp (l:=Lf a 0 p) y4 (P:=fun g=>FrP a p g∧g≠f) (fun g=>by
  rw [zII hc,y5]
  constructor
  ·rintro (h1 | h1 | ⟨d,h1,h2,h3⟩)
   ·exact ⟨.inl h1.1,h1.2⟩
   ·exact ⟨.inr (.inl h1),fun e=>(h.own 0 p f hc (e▸h1)).2 hf⟩
   ·exact ⟨.inr (.inr ⟨d,h1,h2,h3⟩),fun e=>(h.own d p f h1 (e▸h3)).2 hf⟩
  ·rintro ⟨h1 | h1 | h1,h2⟩
   ·exact .inl ⟨h1,h2⟩
   ·exact .inr (.inl h1)
   ·exact .inr (.inr h1))
 unfold upd at hW s1 s2
 rw [hcl] at hW s1 s2
 exact ⟨hW,s1,s2,.inl hf⟩
end
end Go.Proofs.Ytplkliakhdkpcaa
namespace Go.Proofs.Ytplkliakhdkpcaa
open Go Go.RowKit Go.Wk Go.Am
section
variable {a b:zH} {c p:Nat}
theorem zYk (h:Wa a) {f:Int} (hp:p<a.zones.length) (hi:inside (Zn a p) f 0=true):zIx f a.zones 0=(p:Int):=by
 obtain ⟨_,hap⟩:=zSV h.se
 have:=(zOt f a.zones 0 p hp hap).2 (by rw [← zFU hp]; exact (zQX (h.zs p hp).ranges).2 hi)
 omega
theorem zWT (h:Wa a) {f:Int} (hi:0≤zIx f a.zones 0):∃ p,p<a.zones.length∧inside (Zn a p) f 0=true∧zIx f a.zones 0=(p:Int):=by
 obtain ⟨_,hap⟩:=zSV h.se
 obtain ⟨p,hp⟩:=Int.eq_ofNat_of_zero_le hi
 have hpl:p<a.zones.length:=by
  rcases zTU f a.zones 0 with hq | hq <;> omega
 have:=(zOt f a.zones 0 p hpl hap).1 (by rw [hp]; omega)
 rw [← zFU hpl] at this
 exact ⟨p,hpl,(zQX (h.zs p hpl).ranges).1 this,hp⟩
theorem zS4 (h:Wa a) (f:Int):zB4 a f=some (zIx f a.zones 0):=zXq h.al (fun z hz=>h.va.chk hz)
theorem zRA (h:Wa a) (hp:p<a.zones.length):zB1 a (p:Int)=some (zME a p - (Zn a p).min):=by
 obtain ⟨k1,k2,k3,k4⟩:=counts h.va hp
 have hmin:=zPn h.va hp
 unfold zB1
 rw [k1,zAt,zP (zAC hp),zP (zu (by omega))]
 rfl
theorem zTs (h:Wa a) {f:Int} (hp:p<a.zones.length) (hi:inside (Zn a p) f 0=true):∃ q,zC7 a (p:Int) f=some q∧(q=true↔FrP a p f):=by
 obtain ⟨q,q1,_,q3⟩:=zX7 h.va h hp hi
 exact ⟨q,q1,q3⟩
theorem zWZ (h:Wa a) {f:Int} (hc:c<a.caches.length) (hp:p<a.zones.length) (hi:inside (Zn a p) f 0=true) (hn:¬ FrP a p f):zD0 a (c:Int) f=some (zQx a c p f,0):=by
 obtain ⟨q,q1,q2⟩:=zTs h hp hi
 have hcn:=h.cn
 have hq:q=false:=Bool.eq_false_iff.2 fun e=>hn (q2.1 e)
 obtain ⟨w1,w2,w3,w4⟩:=zVi h hc hp hi (fun x=>hn (.inl x)) (fun d hd x=>hn (.inr ⟨d,hd,x⟩))
 unfold zD0
 rw [zLv h,zAt,dt rfl,Bool.not_true,zf rfl,zS4 h,zYk h hp hi,zAt,zf (by rw [df (by omega),df (by omega),df (by omega)]; rfl),q1,hq,zAt,zf rfl,zPy h.al,zAt,zP (zAC hc),w1,zAt,dt rfl,Bool.not_true,zf rfl,(w3 _).1,zAt]
 rfl
theorem zWJ (h:Wa a) (f:Int):(∃ p b,p<a.zones.length∧zEr a f=some (b,0)∧zVV a b p f) ∨ ∃ b e,zEr a f=some (b,e)∧e≠0:=by
 unfold zEr
 rw [zLv h,zAt,dt rfl,Bool.not_true,zf rfl,zS4 h,zAt]
 by_cases hd:zIx f a.zones 0<0
 ·rw [zz (dt hd)]
  exact .inr ⟨_,_,rfl,by decide⟩
 ·obtain ⟨p,hp,hi,e⟩:=zWT h (show 0≤zIx f a.zones 0 by omega)
  obtain ⟨q,q1,q2⟩:=zTs h hp hi
  rw [zf (df hd),e,q1,zAt]
  cases q with
  | false=>exact .inr ⟨_,_,rfl,by decide⟩
  | true =>
   have hfr:=q2.1 rfl
   rw [Bool.not_true,zf rfl,zRA h hp,zAt]
   by_cases hm:zME a p - (Zn a p).min<1
   ·rw [zz (dt hm)]
    exact .inr ⟨_,_,rfl,by decide⟩
   ·obtain ⟨r,r1,_,r3⟩:=zXS (f:=f) h.va h hp
    rw [zf (df hm),zPy h.al,zAt,show (⟨a.nodes,a.batch,a.high,a.zones,a.caches⟩:zH)=a from rfl,r1,zAt]
    rcases r3 with ⟨e,hno⟩ | ⟨c,e,hcl,hfc⟩
    ·subst e
     have hcov:cov (Zn a p) f:=hfr.resolve_right fun ⟨c,c1,c2⟩=>hno c c1 c2
     obtain ⟨y,y1,y2,y3,y4,y5⟩:=zZD (h.zs p hp) hi hcov
     rw [zf (by rfl),zP (zAC hp),show at_ a.zones (p:Int)=Zn a p from rfl,y1,zAt,dt rfl,Bool.not_true,zf rfl]
     exact .inl ⟨p,_,hp,rfl,zY4 h hp hcov y3 y4 y5⟩
    ·subst e
     have hll:=h.cl c hcl
     have hplc:p<(at_ a.caches (c:Int)).lists.length:=by omega
     have hlb:(Lf a c p).length≤1000:=by
      have:=h.lim c p hcl
      have:=h.bh
      omega
     have hz:a.zones.set p (Zn a p)=a.zones:=zIf hp
     have hW:=zZF h hcl hp hfc
     unfold upd at hW
     rw [hz] at hW
     rw [zz (dt (by omega)),zP (zAC hcl),zP (zAC hplc),show at_ (at_ a.caches (c:Int)).lists (p:Int)=Lf a c p from rfl,zZt hlb hfc,zAt]
     exact .inl ⟨p,_,hp,rfl,hW⟩
theorem zUk (h:Wa a):zDR a=some (zM5 a.caches.length 0 a):=by
 have hcn:=h.cn
 have hn:=h.n
 unfold zDR
 rw [zLv h,zAt,dt rfl,Bool.not_true,zf rfl,zPy h.al,zAt]
 exact zWw rfl (by omega) a.caches.length z8 0 a (by omega) (by unfold z8; omega) h rfl
def can (a:zH) (res:Bool) (p:Nat):Prop:=0<zME a p∧(res=true∨(Zn a p).min<zME a p)
theorem zZG (h:Wa a) (hc:c<a.caches.length) {res:Bool} {L:List Int} (hL:∀ z,z∈L→Ix a.zones z) (hLl:L.length≤256):∀ (m n i:Nat),i+m=L.length→m<n →
  (∃ p:Nat,(p:Int)∈L.drop i∧p<a.zones.length∧can a res p∧zA3 a (c:Int) res (L,0) n (i:Int)=some ((zLh a c p).1,(zLh a c p).2,0)) ∨
  ((∀ p:Nat,(p:Int)∈L.drop i → ¬ can a res p)∧zA3 a (c:Int) res (L,0) n (i:Int)=some (⟨[],0,0,[],[]⟩,0,16)):=by
 intro m
 induction m with
 | zero =>
  intro n i h1 h2
  obtain ⟨n,rfl⟩:=ex1 ‹_<n›
  refine .inr ⟨fun p hp => ?_,?_⟩
  ·rw [List.drop_eq_nil_of_le (by omega)] at hp
   cases hp
  ·show zBQ _ _ _ _ _ _=_
   unfold zBQ
   rw [zf (df (show ¬ (i:Int)<(L.length:Int) by omega))]
   rfl
 | succ m ih =>
  intro n i h1 h2
  obtain ⟨n,rfl⟩:=ex1 ‹_<n›
  have hi:i<L.length:=by omega
  obtain ⟨p,ep,hp⟩:=hL _ (zAy hi)
  obtain ⟨k1,k2,k3,k4⟩:=counts h.va hp
  have hmin:=zPn h.va hp
  have hroom:zB1 a (p:Int)=some (zME a p - (at_ a.zones (p:Int)).min):=zRA h hp
  have hx:at_ (L,(0:Int)).1 (i:Int)=(p:Int):=ep
  have hY:can a res p→zA3 a (c:Int) res (L,0) (n+1) (i:Int)=some ((zLh a c p).1,(zLh a c p).2,0):=fun hcan=>by
   show zBQ _ _ _ _ _ _=_
   unfold zBQ zDp
   rw [zz (dt (show (i:Int)<(L.length:Int) by omega)),zP (show inb (i:Int) L.length=true from zAC hi),hx,k1,hroom]
   have hcnt:=hcan.1
   have hpp:=zUv h hc hp hcan.1 hx
   rw [hx] at hpp
   cases res with
   | true =>
    rw [zz rfl,zAt,zf (by rw [Bool.not_true,Bool.and_false]),zAt]
    rw [zf (by rw [df (show ¬ zME a p=0 by omega)]; rfl),zPy h.al,zAt]
    exact hpp
   | false =>
    have hmc:(at_ a.zones (p:Int)).min<zME a p:=hcan.2.resolve_left (fun e=>by cases e)
    rw [zf rfl,zAt,zz (by rfl),zAt]
    rw [zf (by rw [df (show ¬ zME a p - (at_ a.zones (p:Int)).min<1 by omega)]; rfl),zPy h.al,zAt]
    exact hpp
  have hN:¬ can a res p→zA3 a (c:Int) res (L,0) (n+1) (i:Int)=zA3 a (c:Int) res (L,0) n ((i+1:Nat):Int):=fun hcan=>by
   show zBQ _ _ _ _ _ _=_
   unfold zBQ zDp
   rw [zz (dt (show (i:Int)<(L.length:Int) by omega)),zP (show inb (i:Int) L.length=true from zAC hi),hx,k1,hroom]
   cases res with
   | true =>
    have h0:zME a p=0:=by
     have:¬ 0<zME a p:=fun x=>hcan ⟨x,.inl rfl⟩
     omega
    rw [zz rfl,zAt,zf (by rw [Bool.not_true,Bool.and_false]),zAt]
    rw [zz (by rw [dt h0]; rfl),zP (zu (by omega))]
    rfl
   | false =>
    have h0:zME a p - (at_ a.zones (p:Int)).min<1:=by
     refine Int.not_le.1 fun x=>hcan ⟨by omega,.inr ?_⟩
     show (at_ a.zones (p:Int)).min<_
     omega
    rw [zf rfl,zAt,zz (by rfl),zAt]
    rw [zz (by rw [dt h0]; rfl),zP (zu (by omega))]
    rfl
  rw [zCj hi,show at_ L (i:Int)=(p:Int) from ep]
  by_cases hcan:can a res p
  ·exact .inl ⟨p,by simp,hp,hcan,hY hcan⟩
  ·rw [hN hcan]
   rcases ih n (i+1) (by omega) (by omega) with ⟨q,q1,q2⟩ | ⟨q1,q2⟩
   ·exact .inl ⟨q,by simp [q1],q2⟩
   ·refine .inr ⟨fun q hq => ?_,q2⟩
    rcases List.mem_cons.1 hq with e | hq
    ·have:q=p:=by omega
     subst this
     exact hcan
    ·exact q1 q hq
theorem zSQ (h:Wa a) (hc:c<a.caches.length) (kern res:Bool) :
  (∃ p:Nat,p<a.zones.length∧zRB a.zones kern (p:Int)=true∧can a res p ∧ ∃ b x,zBm a (c:Int) kern res=some (b,x,0)∧zVV a b p x) ∨
  ((∀ p:Nat,p<a.zones.length→zRB a.zones kern (p:Int)=true → ¬ can a res p)∧zBm a (c:Int) kern res=some (⟨[],0,0,[],[]⟩,0,16)):=by
 have hdn:c<a.nodes.length:=by rw [← h.cn]; exact hc
 obtain ⟨L,l1,l2,l3,_⟩:=zYi h.gn (h.vn hdn) kern
 have e:zBm a (c:Int) kern res=zA3 a (c:Int) res (L,0) z8 ((0:Nat):Int):=by
  unfold zBm
  rw [zLv h,zAt,dt rfl,Bool.not_true,zf rfl,zf (by rw [df (by omega),df (by omega)]; rfl),zP (zAC hdn),l3,zAt]
  rfl
 rcases zZG h hc (res:=res) (fun z hz=>((l1 z).1 hz).1) l2 L.length z8 0 (by omega) (by unfold z8; omega) with ⟨p,p1,p2,p3,p4⟩ | ⟨p1,p2⟩
 ·rw [List.drop_zero] at p1
  exact .inl ⟨p,p2,((l1 _).1 p1).2,p3,_,_,e.trans p4,zUa h hc p2 p3.1⟩
 ·refine .inr ⟨fun p hp hs=>p1 p ?_,e.trans p2⟩
  rw [List.drop_zero]
  exact (l1 _).2 ⟨⟨p,rfl,hp⟩,hs⟩
end
end Go.Proofs.Ytplkliakhdkpcaa
namespace Go.Proofs.Ytplkliakhdkpcaa
open Go Go.RowKit Go.Wk Go.Am
def zsN:Int→List zAZ→List zW
 | _,[]=>[]
 | s,x::r=>(zTj x.node x.kind s x.count x.min).1::zsN (s+x.count) r
def Gp (x:zAZ):Prop:=(x.node=0∨x.node=1)∧(x.kind=0∨x.kind=1)∧1≤x.count∧x.count≤20∧0≤x.min∧x.min≤x.count
structure Beg (a:zH):Prop where
 w:Wa a
 c:a.caches.length=2
 z:2≤a.zones.length∧a.zones.length≤3
 k:∀ p,p<a.zones.length→1≤(Zn a p).count∧(Zn a p).count≤20
 v:∀ p,p<a.zones.length → ∀ g,inside (Zn a p) g 0=true→cov (Zn a p) g
 l:∀ c p,c<a.caches.length→Lf a c p=[]
structure Mc (m:zAD):Prop where
 c:∀ i,0≤m.counts.getD i 0∧m.counts.getD i 0≤255
 mi:∀ i,0≤m.mins.getD i 0∧m.mins.getD i 0≤255
 b:0≤m.batch∧m.batch≤255
theorem zYu {a:Int} (h0:0≤a) (h1:a≤255):IntKind.u8.wrap a=a:=by
 unfold IntKind.wrap
 simp only [IntKind.bits,IntKind.signed,Bool.false_and,Bool.false_eq_true,if_false]
 omega
theorem zQQ {x:zAZ} {s:Int} (h:Gp x) (h0:0≤s) (h1:s≤100):(zTj x.node x.kind s x.count x.min).2=0∧OkZ (zTj x.node x.kind s x.count x.min).1∧(∀ g,cov (zTj x.node x.kind s x.count x.min).1 g↔s≤g∧g<s+x.count)∧zEa (zTj x.node x.kind s x.count x.min).1 (zL4 x.node x.kind s x.count x.min):=by
 obtain ⟨a1,a2,a3,a4,a5,a6⟩:=h
 have hr:ranges (zL4 x.node x.kind s x.count x.min)=true:=by
  unfold ranges zL4
  simp
  omega
 obtain ⟨f1,f2,f3⟩:=zQ6 hr rfl x.count.toNat (by show _≤x.count; omega)
 unfold zTj
 rw [if_pos hr]
 refine ⟨rfl,f1,fun g=>(f2 g).trans ?_,f3⟩
 show s≤g∧g<s+(x.count.toNat:Int)↔_
 omega
theorem zVR:∀ (l:List zAZ) (s:Int),(∀ x,x∈l→Gp x)→0≤s→s+20*(l.length:Int)≤100→zE s (zsN s l)=0∧(∀ z,z∈zsN s l→OkZ z∧(∀ g,cov z g↔z.start≤g∧g<z.start+z.count)∧1≤z.count∧z.count≤20)∧(zsN s l).length=l.length
 | [],_,_,_,_=>⟨rfl,(fun z hz=>by cases hz),rfl⟩
 | x::r,s,h,h0,h1=>by
  have hx:=h x (by simp)
  have hl:((x::r).length:Int)=r.length+1:=by simp
  obtain ⟨g1,g2,g3,g4⟩:=zQQ hx h0 (by omega)
  have hc:=hx.2.2
  obtain ⟨i1,i2,i3⟩:=zVR r (s+x.count) (fun y hy=>h y (by simp [hy])) (by omega) (by omega)
  have es:(zTj x.node x.kind s x.count x.min).1.start=s:=g4.2.2.1
  have ec:(zTj x.node x.kind s x.count x.min).1.count=x.count:=g4.2.2.2.1
  refine ⟨?_,fun z hz => ?_,?_⟩
  ·show zE s ((zTj x.node x.kind s x.count x.min).1::zsN (s+x.count) r)=0
   unfold zE
   rw [if_pos (zCq g2),if_pos es,ec]
   exact i1
  ·rcases List.mem_cons.1 hz with rfl | hz
   ·refine ⟨g2,fun g => ?_,by rw [ec]; omega⟩
    rw [es,ec]
    exact g3 g
   ·exact i2 z hz
  ·show (zsN (s+x.count) r).length+1=r.length+1
   rw [i3]
section
variable {nodes d:List Int} {b h:Int} {l:List zAZ}
theorem zVz (hG:∀ x,x∈l→Gp x) (hl:l.length≤4):∀ (m n i:Nat) (s:Int) (zs:List zW),i+m=l.length→m<n→zs.length=l.length→0≤s→s+20*(m:Int)≤100 →
  zEg nodes b h l d n s (i:Int) zs=zEq nodes b h l d (zs.take i++zsN s (l.drop i)):=by
 intro m
 induction m with
 | zero =>
  intro n i s zs h1 h2 h3 h4 h5
  obtain ⟨n,rfl⟩:=ex1 ‹_<n›
  show zCw _ _ _ _ _ _ _ _ _=_
  unfold zCw
  rw [zf (df (by omega)),List.drop_eq_nil_of_le (by omega),List.take_of_length_le (by omega)]
  show _=zEq _ _ _ _ _ (zs++[])
  rw [List.append_nil]
 | succ m ih =>
  intro n i s zs h1 h2 h3 h4 h5
  obtain ⟨n,rfl⟩:=ex1 ‹_<n›
  have hi:i<l.length:=by omega
  have hx:=hG _ (List.getElem_mem hi)
  obtain ⟨g1,g2,g3,g4⟩:=zQQ hx h4 (by omega)
  have hc:=hx.2.2
  show zCw _ _ _ _ _ _ _ _ _=_
  unfold zCw
  rw [zz (dt (by omega)),zP (zAC hi),zFU hi,zXO (zu (by omega)),zAt,dt g1,Bool.not_true,zf rfl,zP (zAC (by omega)),zP (zu (by omega)),zP (zu (by omega)),Int.toNat_natCast,List.drop_eq_getElem_cons hi]
  refine (ih n (i+1) _ _ (by omega) (by omega) (by rw [List.length_set]; exact h3) (by omega) (by omega)).trans ?_
  rw [List.take_add_one,List.getElem?_set_self (by omega),List.take_set_of_le (Nat.le_refl _),List.append_assoc]
  rfl
theorem zXX {zs:List zW} (h1:1≤l.length) (h6:l.length≤6) (hn:nodes.length≤20):∀ (m n i:Nat),i+m=nodes.length→m<n →
  zEf nodes b h l d zs n (i:Int) (List.replicate i ⟨List.replicate l.length []⟩)=some (⟨d,b,h,zs,List.replicate nodes.length ⟨List.replicate l.length []⟩⟩,0):=by
 intro m
 induction m with
 | zero =>
  intro n i h2 h3
  obtain ⟨n,rfl⟩:=ex1 ‹_<n›
  show zCs _ _ _ _ _ _ _ _ _=_
  unfold zCs
  rw [zf (df (by omega)),show i=nodes.length by omega]
  rfl
 | succ m ih =>
  intro n i h2 h3
  obtain ⟨n,rfl⟩:=ex1 ‹_<n›
  have hp:zJO (l.length:Int)=some (⟨List.replicate l.length []⟩,0):=by
   unfold zJO
   rw [df (p:=(l.length:Int)<1) (by omega),df (p:=6<(l.length:Int)) (by omega)]
   refine (zf (by rfl)).trans ?_
   rw [dt (p:=0≤(l.length:Int)) (by omega),dt (p:=(l.length:Int)≤(l.length:Int)) (by omega),dt (p:=(l.length:Int)*(24:Int)≤4294967296) (by omega)]
   rfl
  show zCs _ _ _ _ _ _ _ _ _=_
  unfold zCs
  rw [zz (dt (by omega)),hp,zAt,zP (dt (by rw [List.length_replicate]; show (_+1)*24≤_; omega)),zP (zu (by omega)), ← ih n (i+1) (by omega) (by omega),List.replicate_succ']
  rfl
theorem zYB (hb:1≤b∧b≤h∧h≤64) (hG:∀ x,x∈l→Gp x) (hl:1≤l.length∧l.length≤3):zCd [0,1] b h l=some (⟨[0,1],b,h,zsN 0 l,List.replicate 2 ⟨List.replicate l.length []⟩⟩,0):=by
 have hf:zUt [0,1] b h (l.length:Int)=true:=by
  unfold zUt zLx
  rw [df (p:=(([0,1]:List Int).length:Int)<1) (by decide),df (p:=4<(([0,1]:List Int).length:Int)) (by decide),df (p:=64<h) (by omega),df (p:=b<1) (by omega),df (p:=h<b) (by omega),df (p:=(l.length:Int)<1) (by omega),df (p:=6<(l.length:Int)) (by omega)]
  rfl
 unfold zCd zAp zF9
 rw [zP (by rfl),zAt,dt (p:=0≤(l.length:Int)) (by omega),dt (p:=(l.length:Int)≤(l.length:Int)) (by omega),dt (p:=(l.length:Int)*(160:Int)≤4294967296) (by omega),zP (by rfl),zOl (by show (2:Nat)≤_; omega),zAt]
 show cnd (!zUt [0,1] b h ((List.replicate (l.length:Int).toNat zJk).length:Int)) _ _=_
 rw [List.length_replicate,Int.toNat_natCast,hf,Bool.not_true,zf rfl]
 refine (zVz (d:=[0,1]) hG (by omega) l.length z8 0 0 (List.replicate l.length zJk) (by omega) (by unfold z8; omega) (by rw [List.length_replicate]) (by omega) (by omega)).trans ?_
 rw [List.take_zero,List.nil_append,List.drop_zero]
 exact zXX (nodes:=[0,1]) hl.1 (by omega) (by show (2:Nat)≤20; omega) 2 z8 0 rfl (by unfold z8; omega)
theorem zWx (hb:1≤b∧b≤h∧h≤64) (hG:∀ x,x∈l→Gp x) (hl:2≤l.length∧l.length≤3):Beg ⟨[0,1],b,h,zsN 0 l,List.replicate 2 ⟨List.replicate l.length []⟩⟩:=by
 obtain ⟨z1,z2,z3⟩:=zVR l 0 hG (by omega) (by omega)
 generalize ha:(⟨[0,1],b,h,zsN 0 l,List.replicate 2 ⟨List.replicate l.length []⟩⟩:zH)=a
 have e1:a.nodes=[0,1]:=by rw [← ha]
 have e2:a.batch=b:=by rw [← ha]
 have e3:a.high=h:=by rw [← ha]
 have e4:a.zones=zsN 0 l:=by rw [← ha]
 have e5:a.caches=List.replicate 2 ⟨List.replicate l.length []⟩:=by rw [← ha]
 have ec:a.caches.length=2:=by rw [e5,List.length_replicate]
 have ez:a.zones.length=l.length:=by rw [e4,z3]
 have hm:∀ p,p<a.zones.length→Zn a p∈zsN 0 l:=fun p hp=>by
  have:=zAy hp
  rw [e4] at this
  unfold Zn
  rw [e4]
  exact this
 have hcl:∀ c,c<a.caches.length→(at_ a.caches (c:Int)).lists=List.replicate l.length []:=fun c hc=>by
  rw [zFU hc]
  have:=List.getElem_mem hc
  rw [show a.caches[c]=⟨List.replicate l.length []⟩ from List.eq_of_mem_replicate (n:=2) (by rw [← e5]; exact this)]
 have hL:∀ c p,c<a.caches.length→Lf a c p=[]:=fun c p hc=>by
  unfold Lf
  rw [hcl c hc]
  by_cases hp:p<(List.replicate l.length ([]:List Int)).length
  ·rw [zFU hp]
   exact List.getElem_replicate ..
  ·exact zVS (by omega)
 have hse:zE 0 a.zones=0:=by rw [e4]; exact z1
 obtain ⟨_,hap⟩:=zSV hse
 have hz:∀ p,p<a.zones.length→OkZ (Zn a p):=fun p hp=>(z2 _ (hm p hp)).1
 refine ⟨⟨by rw [e1]; decide,fun v hv => ?_,hse,by rw [e2,e3]; exact hb,by omega,by rw [ec,e1]; rfl,hz,fun p q f hp hq h1 h2 => ?_,fun c hc=>by rw [hcl c hc,List.length_replicate,ez],fun c p f hc hf => ?_,fun c p hc => ?_,fun c d p q f hc hd h1 h2 => ?_,fun c p hc => ?_⟩,ec,by omega,fun p hp=>(z2 _ (hm p hp)).2.2,fun p hp g hg => ?_,hL⟩
 ·rw [e1] at hv
  simp at hv
  omega
 ·have g1:=(zOt f a.zones 0 p hp hap).2 (by rw [← zFU hp]; exact (zQX (hz p hp).ranges).2 h1)
  have g2:=(zOt f a.zones 0 q hq hap).2 (by rw [← zFU hq]; exact (zQX (hz q hq).ranges).2 h2)
  omega
 ·rw [hL c p hc] at hf; cases hf
 ·rw [hL c p hc]; exact List.nodup_nil
 ·rw [hL c p hc] at h1; cases h1
 ·rw [hL c p hc,e3]; show ((0:Nat):Int)≤h; omega
 ·have hb:=(hz p hp).bds hg
  rw [pw0] at hb
  exact ((z2 _ (hm p hp)).2.1 g).2 ⟨hb.2.2.1,by omega⟩
end
section
variable {m:zAD}
theorem tm {x:Int} (h:0≤x) (k:Int):x.tmod k=x%k:=Int.tmod_eq_emod_of_nonneg h
theorem zXJ (hm:Mc m) {N:Nat} (hN:N≤3):∀ (k n i:Nat) (l:List zAZ),i+k=N→k<n→(∀ x,x∈l→Gp x)→l.length=i → ∃ l',(∀ x,x∈l'→Gp x)∧l'.length=N∧zES m (N:Int) n (i:Int) l=zGG m l':=by
 intro k
 induction k with
 | zero =>
  intro n i l h1 h2 h3 h4
  obtain ⟨n,rfl⟩:=ex1 ‹_<n›
  refine ⟨l,h3,by omega,?_⟩
  show zFP _ _ _ _ _=_
  unfold zFP
  rw [zf (df (by omega))]
 | succ k ih =>
  intro n i l h1 h2 h3 h4
  obtain ⟨n,rfl⟩:=ex1 ‹_<n›
  have c1:=hm.c i
  have c2:=hm.mi i
  generalize hq1:m.counts.getD i 0=q1 at *
  generalize hq2:m.mins.getD i 0=q2 at *
  have t1:=tm c1.1 20
  have hk:∀ kd:Int,(kd=0∨kd=1) → ∃ l',(∀ x,x∈l'→Gp x)∧l'.length=N∧zGM (zES m (N:Int) n) m (i:Int) l kd=zGG m l':=fun kd hkd=>by
   have t2:=tm c2.1 (1+q1.tmod 20+1)
   have t3:=tm (show (0:Int)≤(i:Int) by omega) 2
   have hp:0<1+q1.tmod 20+1:=by rw [t1]; omega
   have u1:=Int.emod_nonneg q2 (show 1+q1.tmod 20+1≠0 by omega)
   have u2:=Int.emod_lt_of_pos q2 hp
   obtain ⟨l',i1,i2,i3⟩:=ih n (i+1) (l++[(⟨(i:Int).tmod 2,kd,1+q1.tmod 20,q2.tmod (1+q1.tmod 20+1)⟩:zAZ)]) (by omega) (by omega) (fun x hx=>by
    rcases List.mem_append.1 hx with hx | hx
    ·exact h3 x hx
    ·rw [List.mem_singleton.1 hx]
     refine ⟨?_,hkd,?_,?_,?_,?_⟩
     ·show (i:Int).tmod 2=0∨(i:Int).tmod 2=1
      rw [t3]; omega
     ·show 1≤1+q1.tmod 20
      rw [t1]; omega
     ·show 1+q1.tmod 20≤20
      rw [t1]; omega
     ·show 0≤q2.tmod (1+q1.tmod 20+1)
      rw [t2]; exact u1
     ·show q2.tmod (1+q1.tmod 20+1)≤1+q1.tmod 20
      rw [t2]; omega) (by simp; omega)
   refine ⟨l',i1,i2,?_⟩
   rw [← i3]
   unfold zGM
   rw [Int.toNat_natCast,hq1,hq2,zP (zAC (by omega)),zP (dt (zJe (by omega) (by omega))),zP (zu (by rw [t1]; omega)),zP (by rw [df (show ¬ 1+q1.tmod 20+1=0 by omega)]; rfl),zP (dt (by simp; omega)),zP (zu (by omega))]
   rfl
  show ∃ l',_∧_∧zFP _ _ _ _ _=_
  unfold zFP
  rw [zz (dt (by omega)),zP (zAC (by omega)),Int.toNat_natCast,hq1,zP (dt (by rw [t1]; exact zJe (by omega) (by omega))),zP (zu (by rw [t1]; omega))]
  cases m.kinds.getD i false with
  | true=>rw [zz rfl]; exact hk 1 (.inr rfl)
  | false=>rw [zf rfl]; exact hk 0 (.inl rfl)
theorem zY6 (hm:Mc m):∃ a,zJW m=some (a,0)∧Beg a:=by
 have key:∀ N:Nat,2≤N→N≤3 → ∃ a,zHc m (N:Int)=some (a,0)∧Beg a:=fun N h2 h3=>by
  obtain ⟨l,l1,l2,l3⟩:=zXJ hm h3 N z8 0 [] (by omega) (by unfold z8; omega) (fun x hx=>by cases hx) rfl
  have hb:=hm.b
  have t1:=tm hb.1 4
  have t2:m.batch.tdiv 4=m.batch/4:=Int.tdiv_eq_ediv_of_nonneg hb.1
  have t3:IntKind.u8.wrap (m.batch.tdiv 4)=m.batch/4:=by rw [t2]; exact zYu (by omega) (by omega)
  have t4:=tm (show 0≤m.batch/4 by omega) 4
  have hB:1≤1+m.batch.tmod 4∧1+m.batch.tmod 4≤1+m.batch.tmod 4+(IntKind.u8.wrap (m.batch.tdiv 4)).tmod 4∧1+m.batch.tmod 4+(IntKind.u8.wrap (m.batch.tdiv 4)).tmod 4≤64:=by
   rw [t3,t1,t4]; omega
  have hn:=zYB (l:=l) hB l1 (by omega)
  refine ⟨_,?_,zWx hB l1 (by omega)⟩
  show zES m (N:Int) z8 ((0:Nat):Int) []=_
  rw [l3]
  unfold zGG
  rw [zP (dt (zJe (by rw [t1]; omega) (by rw [t1]; omega))),zP (zu (by rw [t1]; omega)),zP (dt (zJe (by rw [t3,t4]; omega) (by rw [t3,t4]; omega))),zP (zu (by omega)),hn,zAt,zAt,zAt]
 unfold zJW
 cases m.three with
 | true=>rw [zz rfl]; exact key 3 (by omega) (by omega)
 | false=>rw [zf rfl]; exact key 2 (by omega) (by omega)
end
end Go.Proofs.Ytplkliakhdkpcaa
namespace Go.Proofs.Ytplkliakhdkpcaa
open Go Go.RowKit Go.Wk Go.Am
structure Inv (a0 a:zH) (held:List Int):Prop where
 w:Wa a
 s:Shp a0 a
 nd:held.Nodup
 h:∀ f,f∈held → ∃ p,p<a.zones.length∧inside (Zn a p) f 0=true
 fr:∀ p,p<a.zones.length → ∀ g,inside (Zn a p) g 0=true→(FrP a p g↔g ∉ held)
def Gop (x:zBI):Prop:=(0≤x.what∧x.what≤255)∧(0≤x.cpu∧x.cpu≤255)∧(0≤x.pick∧x.pick≤255)
section
variable {a0 a b:zH} {held:List Int}
theorem zXL (h:Beg a):Inv a a []:=⟨h.w,Shp.refl,List.nodup_nil,(fun f hf=>by cases hf),fun p hp g hg=>⟨fun _=>by simp,fun _ => .inl (h.v p hp g hg)⟩⟩
theorem zNW (h:Shp a b) {p:Nat} (hp:p<a.zones.length) (f:Int):inside (Zn b p) f 0=inside (Zn a p) f 0:=(h.z p hp).inside ..
theorem zUm (h:Inv a0 a held) (s:zPH a b):Inv a0 b held:=by
 obtain ⟨s1,s2,s3⟩:=s
 refine ⟨s1,h.s.trans s2,h.nd,fun f hf => ?_,fun p hp g hg => ?_⟩
 ·obtain ⟨p,h1,h2⟩:=h.h f hf
  exact ⟨p,by rw [s2.zl]; exact h1,by rw [zNW s2 h1]; exact h2⟩
 ·rw [s2.zl] at hp
  rw [zNW s2 hp] at hg
  exact (s3 p hp g).trans (h.fr p hp g hg)
theorem zRo (h:Inv a0 a held) {p:Nat} {x:Int} (hp:p<a.zones.length) (t:zVV a b p x):Inv a0 b (held++[x]):=by
 obtain ⟨t1,t2,t3,t4⟩:=t
 have hx:=FrP.ins h.w hp t4
 have hn:=(h.fr p hp x hx).1 t4
 refine ⟨t1,h.s.trans t2,?_,fun f hf => ?_,fun q hq g hg => ?_⟩
 ·rw [List.nodup_append]
  exact ⟨h.nd,by simp,fun y hy z hz e=>by rw [List.mem_singleton.1 hz] at e; rw [e] at hy; exact hn hy⟩
 ·rcases List.mem_append.1 hf with hf | hf
  ·obtain ⟨q,h1,h2⟩:=h.h f hf
   exact ⟨q,by rw [t2.zl]; exact h1,by rw [zNW t2 h1]; exact h2⟩
  ·rw [List.mem_singleton.1 hf]
   exact ⟨p,by rw [t2.zl]; exact hp,by rw [zNW t2 hp]; exact hx⟩
 ·rw [t2.zl] at hq
  rw [zNW t2 hq] at hg
  rw [List.mem_append,List.mem_singleton]
  by_cases e:q=p
  ·subst e
   refine (t3.1 g).trans ?_
   show FrP a q g∧g≠x↔_
   rw [h.fr q hq g hg]
   exact ⟨fun x y=>y.elim x.1 x.2,fun x=>⟨fun y=>x (.inl y),fun y=>x (.inr y)⟩⟩
  ·rw [t3.2 q e hq g,h.fr q hq g hg]
   refine ⟨fun x y=>y.elim x (fun y => ?_),fun x y=>x (.inl y)⟩
   subst y
   exact e (h.w.ap q p g hq hp hg hx)
theorem zVG {i:Nat} (hi:i<held.length):held=held.take i++at_ held (i:Int)::held.drop (i+1):=by
 rw [← zCj hi,List.take_append_drop]
theorem zVC (h:Inv a0 a held) {c i:Nat} (hc:c<a.caches.length) (hi:i<held.length):∃ b,zD0 a (c:Int) (at_ held (i:Int))=some (b,0)∧Inv a0 b (held.take i++held.drop (i+1)):=by
 obtain ⟨p,hp,hin⟩:=h.h _ (zAy hi)
 have hn:¬ FrP a p (at_ held (i:Int)):=fun x=>(h.fr p hp _ hin).1 x (zAy hi)
 obtain ⟨f1,f2,f3⟩:=zXG h.w hc hp hin hn
 have hs:=zVG hi
 generalize at_ held (i:Int)=x at *
 have hnd:=h.nd
 rw [hs,List.nodup_append] at hnd
 have hnc:=List.nodup_cons.1 hnd.2.1
 have hm:∀ g,g∈held.take i++held.drop (i+1)↔g∈held∧g≠x:=fun g=>by
  have e:g∈held↔g∈held.take i∨g=x∨g∈held.drop (i+1):=by
   conv=>lhs; rw [hs]
   rw [List.mem_append,List.mem_cons]
  rw [e,List.mem_append]
  constructor
  ·rintro (h1 | h1)
   ·exact ⟨.inl h1,fun q=>hnd.2.2 g h1 x (by simp) q⟩
   ·exact ⟨.inr (.inr h1),fun q=>hnc.1 (q▸h1)⟩
  ·rintro ⟨h1 | h1 | h1,h2⟩
   ·exact .inl h1
   ·exact absurd h1 h2
   ·exact .inr h1
 refine ⟨_,zWZ h.w hc hp hin hn,f1,h.s.trans f2,?_,fun f hf => ?_,fun q hq g hg => ?_⟩
 ·rw [List.nodup_append]
  exact ⟨hnd.1,hnc.2,fun y hy z hz=>hnd.2.2 y hy z (by simp [hz])⟩
 ·obtain ⟨q,h1,h2⟩:=h.h f ((hm f).1 hf).1
  exact ⟨q,by rw [f2.zl]; exact h1,by rw [zNW f2 h1]; exact h2⟩
 ·rw [f2.zl] at hq
  rw [zNW f2 hq] at hg
  rw [hm]
  by_cases e:q=p
  ·subst e
   refine (f3.1 g).trans ?_
   show FrP a q g∨g=x↔_
   rw [h.fr q hq g hg]
   constructor
   ·rintro (h1 | h1) ⟨h2,h3⟩
    ·exact h1 h2
    ·exact h3 h1
   ·intro h1
    by_cases e:g=x
    ·exact .inr e
    ·exact .inl fun h2=>h1 ⟨h2,e⟩
  ·rw [f3.2 q e hq g,h.fr q hq g hg]
   refine ⟨fun h1 h2=>h1 h2.1,fun h1 h2=>h1 ⟨h2,fun h3 => ?_⟩⟩
   subst h3
   exact e (h.w.ap q p g hq hp hg hin)
theorem zSz (h:Inv a0 a held):∃ b,zDR a=some b∧Inv a0 b held:=⟨_,zUk h.w,zUm h (zSH a.caches.length 0 h.w (by omega))⟩
theorem zVT {x:Int} (h:0≤x∧x≤255):∃ c:Nat,x.tmod 2=(c:Int)∧c<2:=by
 have:=tm h.1 2
 obtain ⟨c,hc⟩:=Int.eq_ofNat_of_zero_le (show 0≤x.tmod 2 by omega)
 exact ⟨c,hc,by omega⟩
theorem zTa {ops:List zBI} (hops:∀ x,x∈ops→Gop x) (hl:ops.length≤1000) (h0:a0.caches.length=2):∀ (m n i:Nat) (a:zH) (held:List Int),i+m=ops.length→m<n→Inv a0 a held→held.length≤i →
  ∃ b held',zEZ ops n (i:Int) a held=some (b,held',true)∧Inv a0 b held'∧held'.length≤ops.length:=by
 intro m
 induction m with
 | zero =>
  intro n i a held h1 h2 h3 h4
  obtain ⟨n,rfl⟩:=ex1 ‹_<n›
  refine ⟨a,held,?_,h3,by omega⟩
  show zEc _ _ _ _ _=_
  unfold zEc
  rw [zf (df (by omega))]
  rfl
 | succ m ih =>
  intro n i a held h1 h2 h3 h4
  obtain ⟨n,rfl⟩:=ex1 ‹_<n›
  have hi:i<ops.length:=by omega
  have hj:∀ (b:zH) (hd:List Int),Inv a0 b hd→hd.length≤i+1 → ∃ b' held',zCI (zEZ ops n) (i:Int) b hd=some (b',held',true)∧Inv a0 b' held'∧held'.length≤ops.length:=fun b hd hI hle=>by
   unfold zCI
   rw [zP (zu (by omega))]
   exact ih n (i+1) b hd (by omega) (by omega) hI hle
  obtain ⟨x1,x2,x3⟩:=hops _ (zAy hi)
  show ∃ b held',zEc _ _ _ _ _=_∧_
  unfold zEc
  generalize at_ ops (i:Int)=x at *
  obtain ⟨c,hc,hc2⟩:=zVT x2
  have hcl:c<a.caches.length:=by rw [h3.s.cl,h0]; exact hc2
  rw [zz (dt (by omega)),zP (zAC hi),hc,zP (dt (zJe (by omega) (by omega)))]
  by_cases w3:x.what.tmod 6=3
  ·rw [zz (dt w3)]
   by_cases hz:(held.length:Int)=0
   ·rw [zz (dt hz)]
    exact hj a held h3 (by omega)
   ·have tq:=tm x3.1 (held.length:Int)
    have u1:=Int.emod_nonneg x.pick hz
    have u2:=Int.emod_lt_of_pos x.pick (show (0:Int)<(held.length:Int) by omega)
    obtain ⟨q,hq⟩:=Int.eq_ofNat_of_zero_le (show 0≤x.pick.tmod (held.length:Int) by omega)
    have hql:q<held.length:=by omega
    obtain ⟨b,b1,b2⟩:=zVC h3 hcl hql
    have e1:(([]:List Int)++zE9 held 0 (q:Int))=held.take q:=rfl
    have e2:zE9 held ((q:Int)+1) (held.length:Int)=held.drop (q+1):=by
     unfold zE9
     rw [Int.toNat_natCast,List.take_length]
     rfl
    have e3:(zE9 held 0 (q:Int)).length=q:=by
     show (held.take q).length=q
     rw [List.length_take]; omega
    rw [zf (df hz),hq,zP (dt (zJe (by omega) (by omega))),zP (by rw [df hz]; rfl),zP (zAC hql),b1,zAt,dt rfl,Bool.not_true,zf rfl,
     zP (by unfold zGs; rw [dt (by omega),dt (by omega),dt (by omega)]; rfl),zP (dt (by rw [e3]; show (0+q)*8≤_; omega)),zP (zu (by omega)),zP (by unfold zGs; rw [dt (by omega),dt (by omega),dt (by omega)]; rfl),e1,e2,zP (dt (by rw [List.length_take,List.length_drop]; omega))]
    exact hj b _ b2 (by rw [List.length_append,List.length_take,List.length_drop]; omega)
  ·rw [zf (df w3)]
   by_cases w4:x.what.tmod 6=4
   ·obtain ⟨b,b1,b2⟩:=zSz h3
    rw [zz (dt w4),b1,zAt]
    exact hj b held b2 (by omega)
   ·rw [zf (df w4)]
    by_cases w5:x.what.tmod 6=5
    ·rw [zz (dt w5),zP (dt (zJe (by omega) (by omega)))]
     rcases zWJ h3.w x.pick with ⟨p,b,b1,b2,b3⟩ | ⟨b,e,b1,b2⟩
     ·rw [b2,zAt,zz (dt rfl),zP (dt (by show (held.length+1)*8≤_; omega))]
      exact hj b _ (zRo h3 b1 b3) (by simp; omega)
     ·rw [b1,zAt,zf (df b2)]
      exact hj a held h3 (by omega)
    ·rw [zf (df w5)]
     rcases zSQ h3.w hcl (!decide (x.what.tmod 6=0)) (decide (x.what.tmod 6=2)) with ⟨p,b1,_,_,b,y,b2,b3⟩ | ⟨_,b2⟩
     ·rw [b2,zAt,zz (dt rfl),zP (dt (by show (held.length+1)*8≤_; omega))]
      exact hj b _ (zRo h3 b1 b3) (by simp; omega)
     ·rw [b2,zAt,zf (by rfl),zf (by rfl)]
      exact hj a held h3 (by omega)
theorem zYj {m:zAD} {ops:List zBI} (hm:Mc m) (hops:∀ x,x∈ops→Gop x) (hl:ops.length≤30):∃ a0 a held,zJW m=some (a0,0)∧Beg a0∧zJT m ops=some (a,held,true)∧Inv a0 a held∧held.length≤30:=by
 obtain ⟨a0,n1,n2⟩:=zY6 hm
 obtain ⟨a,held,p1,p2,p3⟩:=zTa hops (by omega) n2.c ops.length z8 0 a0 [] (by omega) (by unfold z8; omega) (zXL n2) (Nat.le_refl _)
 refine ⟨a0,a,held,n1,n2,?_,p2,by omega⟩
 unfold zJT
 rw [n1,zAt,dt rfl,Bool.not_true,zf rfl]
 exact p1
end
end Go.Proofs.Ytplkliakhdkpcaa
namespace Go.Proofs.Ytplkliakhdkpcaa
open Go Go.RowKit Go.Wk Go.Am
def Num (P:Int→Prop) (n:Int):Prop := ∃ l:List Int,l.Nodup∧(l.length:Int)=n ∧ ∀ g,P g↔g∈l
theorem Num.uniq {P:Int→Prop} {n m:Int} (h:Num P n) (g:Num P m):n=m:=by
 obtain ⟨l,l1,l2,l3⟩:=h
 obtain ⟨k,k1,k2,k3⟩:=g
 have:=((List.perm_ext_iff_of_nodup l1 k1).2 fun x=>(l3 x).symm.trans (k3 x)).length_eq
 omega
theorem Num.iff {P Q:Int→Prop} {n:Int} (h:Num P n) (e:∀ g,Q g↔P g):Num Q n:=by
 obtain ⟨l,l1,l2,l3⟩:=h
 exact ⟨l,l1,l2,fun g=>(e g).trans (l3 g)⟩
theorem Num.or {P Q:Int→Prop} {n m:Int} (h:Num P n) (g:Num Q m) (hd:∀ x,P x→Q x→False):Num (fun x=>P x∨Q x) (n+m):=by
 obtain ⟨l,l1,l2,l3⟩:=h
 obtain ⟨k,k1,k2,k3⟩:=g
 refine ⟨l++k,?_,by rw [List.length_append]; omega,fun x => ?_⟩
 ·rw [List.nodup_append]
  exact ⟨l1,k1,fun x hx y hy e=>hd x ((l3 x).2 hx) ((k3 x).2 (e▸hy))⟩
 ·rw [List.mem_append, ← l3, ← k3]
theorem Num.del {P:Int→Prop} {n x:Int} (h:Num P n) (hx:P x):Num (fun g=>P g∧g≠x) (n - 1):=by
 obtain ⟨l,l1,l2,l3⟩:=h
 have hm:=(l3 x).1 hx
 have hp:=List.length_pos_of_mem hm
 refine ⟨l.erase x,l1.erase x,by rw [List.length_erase_of_mem hm]; omega,fun g => ?_⟩
 rw [l1.mem_erase_iff, ← l3]
 exact ⟨fun h=>⟨h.2,h.1⟩,fun h=>⟨h.2,h.1⟩⟩
theorem Num.nil {P:Int→Prop} (h:∀ x,¬ P x):Num P 0:=⟨[],List.nodup_nil,rfl,fun g=>⟨fun x=>absurd x (h g),fun x=>by cases x⟩⟩
theorem Num.lst {l:List Int} (h:l.Nodup):Num (fun g=>g∈l) (l.length:Int):=⟨l,h,rfl,fun _=>Iff.rfl⟩
theorem zQz (x:Int):∀ n:Nat,Num (fun g=>x≤g∧g<x+n) n
 | 0=>Num.nil fun g h=>by omega
 | n+1=>by
  have h1:Num (fun g=>g∈[x+(n:Int)]) 1:=Num.lst (by simp)
  refine ((zQz x n).or h1 fun g h2 h3 => ?_).iff fun g => ?_
  ·rw [List.mem_singleton] at h3; omega
  ·rw [List.mem_singleton]; omega
section
variable {z:zW} {a b:zH} {p k:Nat}
theorem zTv (ho:OkZ z) (hk:k<5):∀ (l:List Int),(∀ x,x∈l→x∈lst z k)→l.Nodup→Num (fun g => ∃ x,x∈l∧x≤g∧g<x+2 ^ k) ((l.length:Int)*2 ^ k)
 | [],_,_=>by
  rw [show (([]:List Int).length:Int)*2 ^ k=0 by simp]
  exact Num.nil fun g ⟨x,hx,_⟩=>by cases hx
 | x::r,h,hn=>by
  have hn':=List.nodup_cons.1 hn
  have h1:=zQz x (2 ^ k)
  have hpn:=zLw (k:=k) (by omega)
  rw [← hpn] at h1
  have h2:=zTv ho hk r (fun y hy=>h y (by simp [hy])) hn'.2
  have e:((x::r).length:Int)*2 ^ k=2 ^ k+(r.length:Int)*2 ^ k:=by
   rw [List.length_cons,show ((r.length+1:Nat):Int)=(r.length:Int)+1 by omega,Int.add_mul,Int.one_mul,Int.add_comm]
  rw [e]
  refine (h1.or h2 fun g h3 ⟨y,h4,h5,h6⟩ => ?_).iff fun g => ?_
  ·have:=(ho.dis k x k y g (h x (by simp)) (h y (by simp [h4])) h3.1 h3.2 h5 h6).2
   subst this
   exact hn'.1 h4
  ·constructor
   ·rintro ⟨y,h3,h4⟩
    rcases List.mem_cons.1 h3 with rfl | h3
    ·exact .inl h4
    ·exact .inr ⟨y,h3,h4⟩
   ·rintro (h3 | ⟨y,h3,h4⟩)
    ·exact ⟨x,by simp,h3⟩
    ·exact ⟨y,by simp [h3],h4⟩
theorem zRs (ho:OkZ z):∀ (m k:Nat),k+m=5→Num (fun g => ∃ j x,k≤j∧x∈lst z j∧x≤g∧g<x+2 ^ j) (zPV k (z.free.drop k))
 | 0,k,h=>by
  rw [List.drop_eq_nil_of_le (by rw [ho.len]; omega)]
  exact Num.nil fun g ⟨j,x,h1,h2,_⟩=>by have:=ho.le4 h2; omega
 | m+1,k,h=>by
  have h1:=zTv ho (show k<5 by omega) (lst z k) (fun _ hx=>hx) (List.Pairwise.imp (fun h=>Int.ne_of_lt h) (ho.srt k))
  have h2:=zRs ho m (k+1) (by omega)
  obtain ⟨a1,a2⟩:=List.getElem?_eq_some_iff.1 (ho.zk.get (k:=k) (by omega))
  rw [List.drop_eq_getElem_cons a1,a2]
  unfold zPV
  refine (h1.or h2 fun g ⟨x,h3,h4,h5⟩ ⟨j,y,h6,h7,h8,h9⟩ => ?_).iff fun g => ?_
  ·have:=(ho.dis k x j y g h3 h7 h4 h5 h8 h9).1
   omega
  ·constructor
   ·rintro ⟨j,x,h3,h4⟩
    by_cases e:j=k
    ·subst e; exact .inl ⟨x,h4⟩
    ·exact .inr ⟨j,x,by omega,h4⟩
   ·rintro (⟨x,h3⟩ | ⟨j,x,h3,h4⟩)
    ·exact ⟨k,x,Nat.le_refl _,h3⟩
    ·exact ⟨j,x,by omega,h4⟩
theorem zWD (ho:OkZ z):Num (cov z) (zU6 z):=by
 have:=zRs ho 5 0 rfl
 rw [List.drop_zero] at this
 exact this.iff fun g=>⟨fun ⟨j,x,h⟩=>⟨j,x,Nat.zero_le _,h⟩,fun ⟨j,x,_,h⟩=>⟨j,x,h⟩⟩
theorem zVe (h:Wa a):∀ (m c:Nat),c+m=a.caches.length→Num (fun g => ∃ d,c≤d∧d<a.caches.length∧g∈Lf a d p) (zRx (a.caches.drop c) (p:Int))
 | 0,c,hc=>by
  rw [List.drop_eq_nil_of_le (by omega)]
  exact Num.nil fun g ⟨d,h1,h2,_⟩=>by omega
 | m+1,c,hc=>by
  have hcl:c<a.caches.length:=by omega
  have h1:=Num.lst (h.nd c p hcl)
  have h2:=zVe h m (c+1) (by omega)
  rw [zCj hcl]
  unfold zRx
  refine (h1.or h2 fun g h3 ⟨d,h4,h5,h6⟩ => ?_).iff fun g => ?_
  ·have:=(h.dis c d p p g hcl h5 h3 h6).1
   omega
  ·constructor
   ·rintro ⟨d,h3,h4,h5⟩
    by_cases e:d=c
    ·subst e; exact .inl h5
    ·exact .inr ⟨d,by omega,h4,h5⟩
   ·rintro (h3 | ⟨d,h3,h4⟩)
    ·exact ⟨c,Nat.le_refl _,hcl,h3⟩
    ·exact ⟨d,by omega,h4⟩
theorem zNp (h:Wa a) (hp:p<a.zones.length):Num (FrP a p) (zME a p):=by
 have h1:=zWD (h.zs p hp)
 have h2:=zVe (p:=p) h a.caches.length 0 (by omega)
 rw [List.drop_zero] at h2
 refine (h1.or h2 fun g h3 ⟨d,_,h4,h5⟩=>(h.own d p g h4 h5).2 h3).iff fun g => ?_
 unfold FrP
 constructor
 ·rintro (h3 | ⟨d,h3⟩)
  ·exact .inl h3
  ·exact .inr ⟨d,Nat.zero_le _,h3⟩
 ·rintro (h3 | ⟨d,_,h3⟩)
  ·exact .inl h3
  ·exact .inr ⟨d,h3⟩
theorem zVN (h:Wa a) {x:Int} (hp:p<a.zones.length) (t:zVV a b p x):zME b p=zME a p - 1 ∧ ∀ q,q<a.zones.length→q≠p→zME b q=zME a q:=by
 obtain ⟨t1,t2,t3,t4⟩:=t
 constructor
 ·exact (zNp t1 (by rw [t2.zl]; exact hp)).uniq (((zNp h hp).del t4).iff t3.1)
 ·intro q hq hne
  exact (zNp t1 (by rw [t2.zl]; exact hq)).uniq ((zNp h hq).iff (t3.2 q hne hq))
end
end Go.Proofs.Ytplkliakhdkpcaa
namespace Go.Proofs.Ytplkliakhdkpcaa
open Go Go.RowKit Go.Wk Go.Am
section
variable {a b:zH} {c p:Nat}
theorem zUS (h:Wa a) (hp:p<a.zones.length):can a false p↔(Zn a p).min<zME a p:=by
 have hm:=zPn h.va hp
 unfold can
 constructor
 ·rintro ⟨_,h1⟩
  exact h1.resolve_left (fun e=>by cases e)
 ·intro h1
  have h2:(at_ a.zones (p:Int)).min<zME a p:=h1
  exact ⟨by omega,.inr h1⟩
end
end Go.Proofs.Ytplkliakhdkpcaa
namespace Go.Proofs.Ytplkliakhdkpcaa
open Go Go.RowKit Go.Wk Go.Am
def rm (a:zH) (p:Nat):Int:=zME a p - (Zn a p).min
def hN (a:zH):Nat→Nat→Int
 | 0,_=>0
 | m+1,i=>(if (Zn a i).kind=0 then rm a i else 0)+hN a m (i+1)
def hA (a:zH):Nat→Nat→Int
 | 0,_=>0
 | m+1,i=>rm a i+hA a m (i+1)
section
variable {a b:zH} {p:Nat}
theorem zY5 (h:Wa a) (hp:p<a.zones.length) : -256≤rm a p∧rm a p≤90000000:=by
 have h1:=counts h.va hp
 have h2:=zPn h.va hp
 unfold rm Zn
 omega
theorem zVy (h:Wa a):∀ (m n i:Nat) (u v:Int),i+m=a.zones.length→m<n → -1000000≤u∧u≤1000000000*i → -1000000≤v∧v≤1000000000*i → -256*(i:Int)≤u → -256*(i:Int)≤v →
  zBv a n u v (i:Int)=some (u+hN a m i,v+hA a m i):=by
 have hzn:=h.zn
 intro m
 induction m with
 | zero =>
  intro n i u v h1 h2 h3 h4 h5 h6
  obtain ⟨n,rfl⟩:=ex1 ‹_<n›
  show zBW _ _ _ _ _=some (u+0,v+0)
  unfold zBW zDo
  rw [zf (df (by omega)),Int.add_zero,Int.add_zero]
 | succ m ih =>
  intro n i u v h1 h2 h3 h4 h5 h6
  obtain ⟨n,rfl⟩:=ex1 ‹_<n›
  have hi:i<a.zones.length:=by omega
  have hb:=zY5 h hi
  have hroom:zB1 a (i:Int)=some (rm a i):=zRA h hi
  show zBW _ _ _ _ _=some (u+((if (Zn a i).kind=0 then rm a i else 0)+hN a m (i+1)),v+(rm a i+hA a m (i+1)))
  unfold zBW zCk
  rw [zz (dt (by omega)),zP (zAC hi),hroom,zAt,zP (zu (by omega)), ← Int.add_assoc, ← Int.add_assoc,show at_ a.zones (i:Int)=Zn a i from rfl]
  by_cases hk:(Zn a i).kind=0
  ·rw [zz (dt hk),if_pos hk,zP (zu (by omega)),zP (zu (by omega))]
   exact ih n (i+1) _ _ (by omega) (by omega) (by omega) (by omega) (by omega) (by omega)
  ·rw [zf (df hk),if_neg hk,zP (zu (by omega)),Int.add_zero]
   exact ih n (i+1) _ _ (by omega) (by omega) (by omega) (by omega) (by omega) (by omega)
theorem zN0 (h:Wa a):zBf a=some (hN a a.zones.length 0,hA a a.zones.length 0):=by
 have hzn:=h.zn
 have:=zVy h a.zones.length z8 0 0 0 (by omega) (by unfold z8; omega) (by omega) (by omega) (by omega) (by omega)
 rw [Int.zero_add,Int.zero_add] at this
 unfold zBf
 rw [zLv h,zAt,dt rfl,Bool.not_true,zf rfl]
 exact this
theorem zVn:∀ (m i:Nat),0<hA a m i → ∃ q,i≤q∧q<i+m∧0<rm a q
 | 0,i,h=>absurd h (by show ¬ (0:Int)<0; omega)
 | m+1,i,h=>by
  have h':0<rm a i+hA a m (i+1):=h
  by_cases h0:0<rm a i
  ·exact ⟨i,Nat.le_refl _,by omega,h0⟩
  ·obtain ⟨q,h1,h2,h3⟩:=zVn m (i+1) (by omega)
   exact ⟨q,by omega,by omega,h3⟩
theorem zVo:∀ (m i:Nat),0<hN a m i → ∃ q,i≤q∧q<i+m∧(Zn a q).kind=0∧0<rm a q
 | 0,i,h=>absurd h (by show ¬ (0:Int)<0; omega)
 | m+1,i,h=>by
  have h':0<(if (Zn a i).kind=0 then rm a i else 0)+hN a m (i+1):=h
  by_cases h0:(Zn a i).kind=0∧0<rm a i
  ·exact ⟨i,Nat.le_refl _,by omega,h0⟩
  ·have:(if (Zn a i).kind=0 then rm a i else 0)≤0:=by
    split
    ·rename_i hk
     exact Int.not_lt.1 fun x=>h0 ⟨hk,x⟩
    ·exact Int.le_refl _
   obtain ⟨q,h1,h2,h3⟩:=zVo m (i+1) (by omega)
   exact ⟨q,by omega,by omega,h3⟩
theorem zSG (h:Wa a) {x:Int} (hp:p<a.zones.length) (t:zVV a b p x):∀ (m i:Nat),i+m≤a.zones.length →
  hA b m i=hA a m i - (if i≤p∧p<i+m then 1 else 0)∧hN b m i=hN a m i - (if (Zn a p).kind=0∧i≤p∧p<i+m then 1 else 0)
 | 0,i,_=>by rw [if_neg (by omega),if_neg (by omega)]; exact ⟨rfl,rfl⟩
 | m+1,i,hi=>by
  obtain ⟨k1,k2⟩:=zVN h hp t
  obtain ⟨i1,i2⟩:=zSG h hp t m (i+1) (by omega)
  have h5:=t.2.1.z i (by omega)
  have ek:(Zn b i).kind=(Zn a i).kind:=h5.2.1
  have em:(Zn b i).min=(Zn a i).min:=h5.2.2.2.2
  have er:rm b i=rm a i - (if i=p then 1 else 0):=by
   unfold rm
   by_cases e:i=p
   ·subst e
    rw [if_pos rfl,k1,em]
    omega
   ·rw [if_neg e,k2 i (by omega) e,em]
    omega
  show rm b i+hA b m (i+1)=rm a i+hA a m (i+1) - _∧(if (Zn b i).kind=0 then rm b i else 0)+hN b m (i+1)=(if (Zn a i).kind=0 then rm a i else 0)+hN a m (i+1) - _
  rw [i1,i2,er,ek]
  refine ⟨by split <;> split <;> split <;> omega,?_⟩
  by_cases e:i=p
  ·subst e
   by_cases hk:(Zn a i).kind=0
   ·rw [if_pos hk,if_pos hk,if_pos rfl]
    split <;> split <;> omega
   ·rw [if_neg hk,if_neg hk]
    split <;> split <;> omega
  ·rw [if_neg e]
   by_cases hk:(Zn a i).kind=0
   ·rw [if_pos hk,if_pos hk]
    split <;> split <;> omega
   ·rw [if_neg hk,if_neg hk]
    split <;> split <;> omega
theorem zT8 (h:Wa a) {c:Nat} (hc:c<a.caches.length) (kern:Bool) (hr:0<(if kern=true then hN a a.zones.length 0 else hA a a.zones.length 0)) :
  ∃ b x,zBm a (c:Int) kern false=some (b,x,0)∧Wa b∧b.caches.length=a.caches.length∧hA b b.zones.length 0=hA a a.zones.length 0 - 1∧hN b b.zones.length 0≤hN a a.zones.length 0∧(kern=true→hN b b.zones.length 0=hN a a.zones.length 0 - 1):=by
 obtain ⟨q,q1,q2,q3⟩:∃ q,q<a.zones.length∧zRB a.zones kern (q:Int)=true∧0<rm a q:=by
  cases kern with
  | true =>
   obtain ⟨q,_,h1,h2,h3⟩:=zVo a.zones.length 0 hr
   refine ⟨q,by omega,?_,h3⟩
   unfold zRB
   rw [show decide ((at_ a.zones (q:Int)).kind=0)=true from dt h2]
   rfl
  | false =>
   obtain ⟨q,_,h1,h3⟩:=zVn a.zones.length 0 hr
   exact ⟨q,by omega,rfl,h3⟩
 have hq:can a false q:=(zUS h q1).2 (by unfold rm at q3; omega)
 rcases zSQ h hc kern false with ⟨p,p1,p2,p3,b,x,b1,t⟩ | ⟨p1,p2⟩
 ·obtain ⟨s1,s2⟩:=zSG h p1 t a.zones.length 0 (by omega)
  have ez:=t.2.1.zl
  refine ⟨b,x,b1,t.1,t.2.1.cl,?_,?_,fun hk => ?_⟩
  ·rw [ez,s1,if_pos (by omega)]
  ·rw [ez,s2]
   split <;> omega
  ·have hkind:(Zn a p).kind=0:=by
    rw [hk] at p2
    unfold zRB at p2
    simpa [Zn] using p2
   rw [ez,s2,if_pos ⟨hkind,by omega,by omega⟩]
 ·exact absurd hq (p1 q q1 q2)
theorem zUA {cpus:List Int} {N A:Int} (hc:∀ x,x∈cpus→0≤x∧x≤255) (hN60:N≤60) (hA60:A≤60):∀ (k n i:Nat) (a:zH),(i:Int)+k=max 0 A→k<n→Wa a→a.caches.length=2 →
  hA a a.zones.length 0=A - i→hN a a.zones.length 0≤N→((i:Int)≤max 0 (min N A)→hN a a.zones.length 0=N - i)→zBL cpus (N,A) n (i:Int) a=some true:=by
 intro k
 induction k with
 | zero =>
  intro n i a h1 h2 h3 h4 h5 h6 h7
  obtain ⟨n,rfl⟩:=ex1 ‹_<n›
  show zBM _ _ _ _ _=_
  unfold zBM zDW
  rw [zf (df (show ¬ (i:Int)<max 0 A by omega)),zN0 h3,zAt]
  show some (decide (hA a a.zones.length 0=min A 0)&&decide (hN a a.zones.length 0≤max N 0))=_
  rw [dt (by omega),dt (by omega)]
  rfl
 | succ k ih =>
  intro n i a h1 h2 h3 h4 h5 h6 h7
  obtain ⟨n,rfl⟩:=ex1 ‹_<n›
  have hj:∀ c:Nat,c<2→zBi (zBL cpus (N,A) n) (N,A) (i:Int) a (c:Int)=some true:=fun c hc2=>by
   obtain ⟨b,x,b1,b2,b3,b4,b5,b6⟩:=zT8 h3 (show c<a.caches.length by omega) (decide ((i:Int)<max 0 (min N A))) (by
    by_cases hi:(i:Int)<max 0 (min N A)
    ·rw [dt hi,if_pos rfl,h7 (by omega)]; omega
    ·rw [df hi,if_neg (by simp)]; omega)
   unfold zBi
   rw [show (max 0 (min (N,A).1 (N,A).2))=max 0 (min N A) from rfl,b1,zAt,dt rfl,Bool.not_true,zf rfl,zP (zu (by omega))]
   refine ih n (i+1) b (by omega) (by omega) b2 (by omega) (by omega) (by omega) (fun hle => ?_)
   rw [b6 (dt (by omega)),h7 (by omega)]
   omega
  show zBM _ _ _ _ _=_
  unfold zBM
  rw [zz (dt (show (i:Int)<max 0 A by omega))]
  by_cases hc':i<cpus.length
  ·obtain ⟨c,e,hc2⟩:=zVT (hc _ (zAy hc'))
   rw [zz (dt (by omega)),zP (zAC hc'),e,zP (dt (zJe (by omega) (by omega)))]
   exact hj c hc2
  ·rw [zf (df (by omega))]
   exact hj 0 (by omega)
theorem zVZ:∀ (l k:List Int),l.Nodup→(∀ x,x∈l→x∈k)→l.length≤k.length
 | [],k,_,_=>Nat.zero_le _
 | x::r,k,hn,h=>by
  have hx:=h x (by simp)
  have hn':=List.nodup_cons.1 hn
  have h1:=zVZ r (k.erase x) hn'.2 (fun y hy=>(List.mem_erase_of_ne (fun e:y=x=>hn'.1 (e▸hy))).2 (h y (by simp [hy])))
  rw [List.length_erase_of_mem hx] at h1
  have h2:=List.length_pos_of_mem hx
  rw [List.length_cons]
  omega
theorem Num.le {P Q:Int→Prop} {n m:Int} (h:Num P n) (g:Num Q m) (hs:∀ x,P x→Q x):n≤m:=by
 obtain ⟨l,l1,l2,l3⟩:=h
 obtain ⟨k,k1,k2,k3⟩:=g
 have:=zVZ l k l1 fun x hx=>(k3 x).1 (hs x ((l3 x).2 hx))
 omega
theorem zZK (h:Wa a) (hp:p<a.zones.length):rm a p≤(Zn a p).count:=by
 have hz:=h.zs p hp
 have hr:=zAx hz.ranges
 have h2:=zPn h.va hp
 have h1:=(zNp h hp).le (zQz (Zn a p).start (Zn a p).count.toNat) (fun x hx=>by
  have hb:=hz.bds (FrP.ins h hp hx)
  rw [pw0] at hb
  omega)
 unfold rm
 have e:(at_ a.zones (p:Int)).min=(Zn a p).min:=rfl
 omega
theorem zYN (hb:∀ q,q<a.zones.length→rm a q≤20):∀ (m i:Nat),i+m≤a.zones.length→hA a m i≤20*m∧hN a m i≤20*m
 | 0,i,_=>⟨Int.le_refl _,Int.le_refl _⟩
 | m+1,i,hi=>by
  obtain ⟨h1,h2⟩:=zYN hb m (i+1) (by omega)
  have h3:=hb i (by omega)
  show rm a i+hA a m (i+1)≤_∧(if (Zn a i).kind=0 then rm a i else 0)+hN a m (i+1)≤_
  refine ⟨by omega,?_⟩
  split <;> omega
theorem zYC {m:zAD} {ops:List zBI} {cpus:List Int} (hm:Mc m) (hops:∀ x,x∈ops→Gop x) (hc:∀ x,x∈cpus→0≤x∧x≤255):zEU m ops cpus=some true:=by
 unfold zEU
 rw [zW9,zAt,Bool.not_true,Bool.false_or]
 cases hg:(decide (30<(ops.length:Int))||decide (80<(cpus.length:Int))) with
 | true =>
  rw [zz rfl]
  rfl
 | false =>
  rw [Bool.or_eq_false_iff,decide_eq_false_iff_not,decide_eq_false_iff_not] at hg
  obtain ⟨a0,a,held,n1,n2,n3,n4,n5⟩:=zYj hm hops (show ops.length≤30 by omega)
  have hz:=n2.z
  have hzl:=n4.s.zl
  obtain ⟨u1,u2⟩:=zYN (a:=a) (fun q hq=>by
   have h1:=zZK n4.w hq
   have h2:=n4.s.z q (by rw [← hzl]; exact hq)
   have h3:=n2.k q (by rw [← hzl]; exact hq)
   have h4:(Zn a q).count=(Zn a0 q).count:=h2.2.2.2.1
   omega) a.zones.length 0 (by omega)
  have e:zBf (a,held,true).1=some (hN a a.zones.length 0,hA a a.zones.length 0):=zN0 n4.w
  rw [zf rfl,n3,zAt,Bool.not_true,zf rfl,e,zAt,zf (by rw [df (by show ¬ 60<hN a a.zones.length 0; omega),df (by show ¬ 60<hA a a.zones.length 0; omega)]; rfl)]
  exact zUA hc (by omega) (by omega) (max 0 (hA a a.zones.length 0)).toNat z8 0 a (by omega) (by unfold z8; omega) n4.w (by rw [n4.s.cl,n2.c]) (by omega) (Int.le_refl _) (fun _=>by omega)
end
end Go.Proofs.Ytplkliakhdkpcaa
namespace Go.Proofs.Ytplkliakhdkpcaa
open Go Go.ChangeShapes Go.WideShapes Go.ChangeAt Go.RowKit Go.Wk Go.Am
theorem own:ownKnob Try.prog.godebug=none:=by kernel_rfl
theorem zWs:laidOutB Try.prog=true:=by kernel_rfl
theorem zZE {n:Int} (h:(Lit.int .u8 n).wf=true):0≤n∧n≤255:=by
 simp [Lit.wf,IntKind.min,IntKind.max,IntKind.signed,IntKind.bits] at h
 omega
theorem zT1 {l:List Int} (h:∀ x,x∈l→0≤x∧x≤255) (i:Nat):0≤l.getD i 0∧l.getD i 0≤255:=by
 rw [List.getD_eq_getElem?_getD]
 by_cases hi:i<l.length
 ·rw [List.getElem?_eq_getElem hi]
  exact h _ (List.getElem_mem hi)
 ·rw [List.getElem?_eq_none (by omega)]
  exact ⟨Int.le_refl _,by decide⟩
theorem zXg:RdC Try.prog 5 (cK .u8) (fun n=>0≤n∧n≤255):=RdC.map (zXB Try.underlying5) id (fun _=>rfl) (fun _ h=>zZE h)
theorem zTt:RdC Try.prog 34 (cA 3 (eK .u8) 0) (fun l=>l.length=3 ∧ ∀ x,x∈l→0≤x∧x≤255):=zTu 0 Try.underlying34 (by kernel_rfl) (by kernel_rfl) zXg
theorem zXD:RdC Try.prog 35 (cA 3 eB false) (fun l=>l.length=3 ∧ ∀ x,x∈l→True):=zTu false Try.underlying35 (by kernel_rfl) (by kernel_rfl) (zRz Try.underlying4)
theorem zTY:RdC Try.prog 37 zt Mc :=
 RdC.map (zOg (tot:=11) Try.underlying37 (by kernel_rfl) (zIb (s:=3) zTt rfl (by kernel_rfl) (zIb (s:=3) zTt rfl (by kernel_rfl) (zIb (s:=3) zXD rfl (by kernel_rfl) (zIb (s:=1) zXg rfl (by kernel_rfl) (zIb (s:=1) (zRz Try.underlying4) rfl (by kernel_rfl) (zTi rfl)))))))
  (fun x=>⟨x.1,x.2.1,x.2.2.1,x.2.2.2.1,x.2.2.2.2.1⟩) (fun _=>rfl) (fun _ h=>⟨zT1 h.1.2,zT1 h.2.1.2,h.2.2.2.1⟩)
theorem zZp:RdC Try.prog 78 zo Gop :=
 RdC.map (zOg (tot:=3) Try.underlying78 (by kernel_rfl) (zIb (s:=1) zXg rfl (by kernel_rfl) (zIb (s:=1) zXg rfl (by kernel_rfl) (zIb (s:=1) zXg rfl (by kernel_rfl) (zTi rfl)))))
  (fun x=>⟨x.1,x.2.1,x.2.2.1⟩) (fun _=>rfl) (fun _ h=>⟨h.1,h.2.1,h.2.2.1⟩)
theorem zZL:RdC Try.prog 38 (cS zo) (fun l=>(∀ x,x∈l→Gop x)∧l.length≤140737488351232):=zP8 Try.underlying38 (of_decide_eq_true (by kernel_rfl)) (of_decide_eq_true (by kernel_rfl)) zZp
theorem zWo:RdC Try.prog 52 (cS (cK .u8)) (fun l=>(∀ x,x∈l→0≤x∧x≤255)∧l.length≤140737488351232):=zP8 Try.underlying52 (of_decide_eq_true (by kernel_rfl)) (of_decide_eq_true (by kernel_rfl)) zXg
set_option maxRecDepth 100000 in
theorem zKw (os:Os) (started:os.Started) (H:Type) (enc:TypeId×Value→H) :
  ReturnsInHanded {} Try.checked os 5 .any (Rows.allocatorRoomSpec.pre6 enc Try.prog Try.f5 Rows.allocatorRoomRow.domain false) (Rows.allocatorRoomSpec.post enc Try.prog Try.f5 false true false false):=by
 refine returnsInHanded_of_change_sized (C:=Try.checked) own started (by kernel_rfl) Try.func5
  (ChangeSpec.witness6 (enc:=enc) (C:=Try.checked) false ⟨#[], #[.agg #[.int .u8 0,.int .u8 0,.int .u8 0,.int .u8 0,.int .u8 0,.int .u8 0,.bool false,.bool false,.bool false,.int .u8 0,.bool false],.slice none 0 0,.slice none 0 0],[]⟩ 8 (by kernel_rfl) (by kernel_rfl) (by kernel_rfl) (by kernel_rfl)) ?_
 intro W base args ds gs before hval0 hW hcnd0 hsz0 _
 have hsz:(DataW.weightsEach Try.prog (Try.f5.params.toList++Rows.allocatorRoomSpec.plain.varTypes Try.prog) (ds++gs)).all (· ≤ reachBytes)=true:=hsz0
 have hval:∀ (j:Nat) t v,Try.f5.params[j]?=some t→args[j]?=some v→Value.okWide Try.prog W .any base t v:=hval0
 clear hcnd0 hsz0 hval0
 have hW':=hW
 obtain ⟨p,q,hA0,hV,rfl,hfz,hnd⟩:=hW
 have hA:DataW.TrodAll enc Try.prog W 0 (fun _=>true) true Try.f5.params.toList args.toList ds p:=hA0
 clear hA0
 rw [Try.params5] at hA hval hsz
 obtain ⟨v0,v1,v2,d0,d1,d2,p0,p1,p2,rfl,rfl,rfl,h0,h1,h2⟩:=trodAll_three hA
 obtain ⟨rfl,rfl⟩:=trodVars_none hV
 simp only [List.append_nil] at hW' hsz
 have hlt:=hW'.lt
 have hwt:∀ (j:Nat) (t:TypeId) (d:DataW H),([37,38,52]:List TypeId)[j]?=some t→[d0,d1,d2][j]?=some d → ∀ n,n∈d.weights Try.prog t→n≤reachBytes:=by
  intro j t d ht hd n hn
  have:=List.all_eq_true.1 hsz n (DataW.weights_mem_each (ts:=[37,38,52]++Rows.allocatorRoomSpec.plain.varTypes Try.prog) (by rw [List.getElem?_append_left (by have:=(List.getElem?_eq_some_iff.1 ht).1; exact this)]; exact ht) hd n hn)
  simpa using this
 obtain ⟨xs,rfl,hxs⟩:=okWide_struct Try.underlying37 (hval 0 37 v0 rfl rfl)
 obtain ⟨a1,n1,c1,rfl⟩:=okWide_slice Try.underlying38 (hval 1 38 v1 rfl rfl)
 obtain ⟨a2,n2,c2,rfl⟩:=okWide_slice Try.underlying52 (hval 2 52 v2 rfl rfl)
 obtain ⟨m,r0,hM⟩:=zTY.argA h0 (hwt 0 37 d0 rfl rfl) rfl
 obtain ⟨l,r1,hO⟩:=zZL.arg1 (g:=eS zo) h1 (hwt 1 38 d1 rfl rfl) rfl
 obtain ⟨b,r2,hB⟩:=zWo.arg1 (g:=eS (cK .u8)) h2 (hwt 2 52 d2 rfl rfl) rfl
 have hk:∀ (W':World),Below W.heap.size W W' → ∀ (t:TypeId) (v:Value) (d:DataW H) (ps:List MemPlace),Try.prog.readableRec t=true→t<Try.prog.types.size→DataW.Trod enc Try.prog W 0 (fun _=>true) true t v d ps→(∀ x∈ps,x.block<W.heap.size)→DataW.Trod enc Try.prog W' 0 (fun b=>decide (b<W.heap.size)) true t v d ps :=
  fun W' hb t v d ps hr hs h hl=>Below.trod zWs hr hs h hb hl
 refine (zKA (zYC hM hO.1 hB.1) W noB _ (fun x h=>h.elim) (show VRt W noB [] _ [_,_,_] [] from ?_)).mono ?_
 ·unfold VRt
  refine ⟨_,_,[],[],rfl,rfl,r0,?_⟩
  unfold VRt
  refine ⟨_,_,[],[],rfl,rfl,r1,?_⟩
  unfold VRt
  refine ⟨_,_,[],[],rfl,rfl,r2,?_⟩
  unfold VRt
  exact ⟨rfl,rfl⟩
 ·rintro v W' ⟨fr,hv,_,_,kp⟩
  unfold VR at hv
  obtain ⟨rfl,_⟩:=hv
  have hb:Below W.heap.size W W':=⟨kp.os,kp.tape,kp.output,kp.size,fun k hk=>kp.block k hk id⟩
  refine ⟨_,_,_,[],_,[],hW',trodAll_mk1 (shut_bool Try.underlying4 true),trodAll_mk3 (hk W' hb _ _ _ _ (by kernel_rfl) (of_decide_eq_true (by kernel_rfl)) h0 (fun x hx=>hlt x (by simp [hx]))) (hk W' hb _ _ _ _ (by kernel_rfl) (of_decide_eq_true (by kernel_rfl)) h1 (fun x hx=>hlt x (by simp [hx]))) (hk W' hb _ _ _ _ (by kernel_rfl) (of_decide_eq_true (by kernel_rfl)) h2 (fun x hx=>hlt x (by simp [hx]))),rfl,hb.frame _,fun h=>by cases h⟩
theorem allocatorRoom_holds:Rows.AllocatorRoomSaid :=
 OpenClaim.holds_of_wide 5 Try.f5 rfl rfl rfl rfl rfl rfl rfl ⟨rfl,rfl,rfl,rfl,rfl⟩ rfl rfl rfl rfl rfl (by kernel_rfl) Try.func5 (by kernel_rfl)
  (of_decide_eq_true (by kernel_rfl)) (by unfold Func.isWrapper; first | (rw [if_pos (by decide +kernel)]; kernel_rfl) | (rw [if_neg (by decide +kernel)]; exact ⟨rfl,rfl⟩))
  (fun os started H enc _=>zKw os started H enc)
end Go.Proofs.Ytplkliakhdkpcaa
