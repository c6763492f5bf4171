/-
 The statement AllocatorBack.
-/
import Derived.Test.YtplkliakhdkpcaaGe
import Derived.Test.YtplkliakhdkpcaaRows
import Derived.WideKeyArr2
set_option linter.unusedVariables false
set_option linter.unusedSimpArgs false
namespace Go.Proofs.Ytplkliakhdkpcaa
open Go Go.RowKit Go.Wk Go.Am
section
variable {c:zK} {zn z:Nat} {add:List Int}
theorem zZD (hl:add.length≤1000):∀ (m n i:Nat) (q:List (Int×Bool)),i+m=add.length→m<n→(∀ f,f∈add.drop i→zBk f=true∧zMH false q f=false)→(add.drop i).Nodup→zEy c (z:Int) add n (i:Int) q=zEv c (z:Int) add:=by
 intro m
 induction m with
 | zero =>
  intro n i q h1 h2 _ _
  obtain ⟨n,rfl⟩:=ex1 ‹_<n›
  show zCy _ _ _ _ _ _=_
  unfold zCy
  rw [zg (df (by omega))]
 | succ m ih =>
  intro n i q h1 h2 h3 h4
  obtain ⟨n,rfl⟩:=ex1 ‹_<n›
  have hi:i<add.length:=by omega
  rw [zCk hi] at h3 h4
  have h0:=h3 (at_ add (i:Int)) (by simp)
  have hn:=List.nodup_cons.1 h4
  have hff:zCd (at_ add (i:Int))=some true:=by
   unfold zCd
   show some (zBk _)=_
   rw [h0.1]
  show zCy _ _ _ _ _ _=_
  unfold zCy
  rw [zz (dt (by omega)),zP (zAA hi),hff,zAp,Bool.not_true,zg rfl,h0.2,zg rfl,zP (zu (by omega))]
  refine ih n (i+1) _ (by omega) (by omega) (fun f hf=>⟨(h3 f (by simp [hf])).1,?_⟩) hn.2
  rw [zNK,if_neg (fun e=>hn.1 (by rw [← e]; exact hf))]
  exact (h3 f (by simp [hf])).2
theorem zYw {i:Nat} (hi:i<add.length):at_ add (((add.length:Int) - 1) - (i:Int))=at_ add.reverse (i:Int):=by
 rw [show ((add.length:Int) - 1) - (i:Int)=((add.length - 1 - i:Nat):Int) by omega,zEz (by omega),zEz (by rw [List.length_reverse]; exact hi),List.getElem_reverse]
theorem zZR (hl:add.length≤1000):∀ (m n i:Nat) (l:List Int),i+m=add.length→m<n→l.length+m≤2000→zEr c (z:Int) add n (i:Int) l=zE1 c (z:Int) (l++add.reverse.drop i):=by
 intro m
 induction m with
 | zero =>
  intro n i l h1 h2 _
  obtain ⟨n,rfl⟩:=ex1 ‹_<n›
  show zCw _ _ _ _ _ _=_
  unfold zCw
  rw [zg (df (by omega)),List.drop_eq_nil_of_le (by rw [List.length_reverse]; omega),List.append_nil]
 | succ m ih =>
  intro n i l h1 h2 h3
  obtain ⟨n,rfl⟩:=ex1 ‹_<n›
  have hi:i<add.length:=by omega
  show zCw _ _ _ _ _ _=_
  unfold zCw
  rw [zz (dt (by omega)),zP (zu (by omega)),zP (zu (by omega)),zP (zSe (by omega)),zYw hi,zP (dt (by simp; omega)),zP (zu (by omega)),zCk (by rw [List.length_reverse]; exact hi)]
  refine (ih n (i+1) _ (by omega) (by omega) (by simp; omega)).trans ?_
  rw [List.append_assoc]
  rfl
theorem zWm (hp:Pc c zn) (hz:z<zn) (hl:add.length≤100) (hf:∀ f,f∈add→zBk f=true∧f ∉ c.lists.flatten) (hn:add.Nodup):zFm c (z:Int) add=some (⟨c.lists.set z (at_ c.lists (z:Int)++add.reverse)⟩,0):=by
 have hll:=hp.len
 have hzl:z<c.lists.length:=by omega
 have hbd:=hp.bd _ (zAx hzl)
 unfold zFm
 rw [zPC hp hz,zAp,dt rfl,Bool.not_true,zg rfl,zQH hp.ck,zAp]
 refine (zZD (by omega) add.length z8 0 _ (by omega) (by unfold z8; omega) (fun f h=>⟨(hf f h).1,?_⟩) hn).trans ?_
 ·rw [zN7,df (hf f h).2]
  rfl
 ·unfold zEv
  rw [zP (zAA hzl),zP (by simp; omega),zL2]
  refine (zZR (by omega) add.length z8 0 _ (by omega) (by unfold z8; omega) (by omega)).trans ?_
  unfold zE1
  rw [List.drop_zero,zNf hp.ck (by rw [List.length_append,List.length_reverse]; omega),zAp,zAp]
theorem zZb {se:Int→Option (zK×Int)} {i:Nat} (hl:add.length≤1000) (hi:i<add.length) (hn:add.Nodup):∀ (m n j:Nat),j+m=i→m<n→zIc se add (i:Int) n (j:Int)=se ((i+1:Nat):Int):=by
 have hc:zFP add 0 (i:Int)=add.take i:=rfl
 intro m
 induction m with
 | zero =>
  intro n j h1 h2
  obtain ⟨n,rfl⟩:=ex1 ‹_<n›
  show zFX _ _ _ _ _=_
  unfold zFX zKc
  rw [hc,zg (df (by rw [List.length_take]; omega)),zP (zu (by omega))]
  rfl
 | succ m ih =>
  intro n j h1 h2
  obtain ⟨n,rfl⟩:=ex1 ‹_<n›
  have hj:j<(add.take i).length:=by rw [List.length_take]; omega
  have hne:at_ add (i:Int)≠at_ (add.take i) (j:Int):=by
   rw [zEz hi,zEz hj,List.getElem_take]
   rw [List.length_take] at hj
   exact fun e=>(List.pairwise_iff_getElem.1 hn j i (by omega) hi (by omega)) e.symm
  show zFX _ _ _ _ _=_
  unfold zFX
  rw [hc,zz (dt (by omega)),zP (zAA hj),zg (df hne),zP (zu (by omega))]
  exact ih n (j+1) (by omega) (by omega)
theorem zZA (hp:Pc c zn) (hl:add.length≤1000) (hf:∀ f,f∈add→zBk f=true∧f ∉ c.lists.flatten) (hn:add.Nodup):∀ (m n i:Nat),i+m=add.length→m<n→zIi c (z:Int) add n (i:Int)=zIP c (z:Int) add:=by
 intro m
 induction m with
 | zero =>
  intro n i h1 h2
  obtain ⟨n,rfl⟩:=ex1 ‹_<n›
  show zFf _ _ _ _ _=_
  unfold zFf
  rw [zg (df (by omega))]
 | succ m ih =>
  intro n i h1 h2
  obtain ⟨n,rfl⟩:=ex1 ‹_<n›
  have hi:i<add.length:=by omega
  have h0:=hf _ (zAx hi)
  have hff:zC5 (at_ add (i:Int))=some false:=by
   have:=h0.1
   unfold zC5
   unfold zBk at this
   simp at this ⊢
   omega
  show zFf _ _ _ _ _=_
  unfold zFf
  rw [zz (dt (by omega)),zP (zAA hi),hff,zAp,zg rfl,zVo hp.ck,zAp,df h0.2,zg rfl,zP (by unfold zHB; simp; omega),z0i,zZb hl hi hn i z8 0 (by omega) (by unfold z8; omega)]
  exact ih n (i+1) (by omega) (by omega)
theorem zZB (hzl:z<c.lists.length) (hl:add.length≤1000) (hb:(at_ c.lists (z:Int)).length≤1000):∀ (m n:Nat),m≤add.length→m<n→zId (z:Int) add n ((m:Int) - 1) (c.lists.set z (at_ c.lists (z:Int)++(add.drop m).reverse))=some (⟨c.lists.set z (at_ c.lists (z:Int)++add.reverse)⟩,0):=by
 intro m
 induction m with
 | zero =>
  intro n h1 h2
  obtain ⟨n,rfl⟩:=ex1 ‹_<n›
  show zFd _ _ _ _ _=_
  unfold zFd zKg
  rw [zg (df (by omega)),List.drop_zero]
 | succ m ih =>
  intro n h1 h2
  obtain ⟨n,rfl⟩:=ex1 ‹_<n›
  have hi:m<add.length:=by omega
  have e:at_ (c.lists.set z (at_ c.lists (z:Int)++(add.drop (m+1)).reverse)) (z:Int)=at_ c.lists (z:Int)++(add.drop (m+1)).reverse:=by rw [zN4 hzl,if_pos rfl]
  show zFd _ _ _ _ _=_
  unfold zFd
  rw [zz (dt (by omega)),zP (zAA (by rw [List.length_set]; exact hzl)),show ((m+1:Nat):Int) - 1=(m:Int) by omega,zP (zAA hi),e,zP (dt (by simp; omega)),zP (zu (by omega)),Int.toNat_natCast,List.set_set, ← ih n (by omega) (by omega),List.append_assoc,zCk hi,List.reverse_cons]
theorem zWV (hp:Pc c zn) (hz:z<zn) (hl:add.length≤100) (hf:∀ f,f∈add→zBk f=true∧f ∉ c.lists.flatten) (hn:add.Nodup):zKb c (z:Int) add=some (⟨c.lists.set z (at_ c.lists (z:Int)++add.reverse)⟩,0):=by
 have hll:=hp.len
 have hzl:z<c.lists.length:=by omega
 have hbd:=hp.bd _ (zAx hzl)
 unfold zKb
 rw [zRJ hp hz,zAp,dt rfl,Bool.not_true,zg rfl]
 refine (zZA hp (by omega) hf hn add.length z8 0 (by omega) (by unfold z8; omega)).trans ?_
 unfold zIP
 rw [zNu hp.ck,zAp,zP (zu (by omega))]
 have:=zZB (c:=c) (z:=z) (add:=add) hzl (by omega) (by omega) add.length z8 (Nat.le_refl _) (by unfold z8; omega)
 rw [List.drop_length,List.reverse_nil,List.append_nil,zIu hzl] at this
 exact this
end
def refl:Nat→zY→zY×List Int
 | 0,z=>(z,[])
 | m+1,z=>if zNQ z 0 5=none then (z,[]) else ((refl m (zC1 z 0).1).1,(zC1 z 0).2.1::(refl m (zC1 z 0).1).2)
theorem zQ1:∀ (m:Nat) {z:zY},OkZ z→OkZ (refl m z).1∧zEi (refl m z).1 z∧(refl m z).2.Nodup∧(refl m z).2.length≤m∧(∀ f,f∈(refl m z).2→inside z f 0=true∧cov z f)∧(∀ g,cov (refl m z).1 g↔cov z g∧g ∉ (refl m z).2)
 | 0,z,h=>⟨h,⟨rfl,rfl,rfl,rfl,rfl⟩,List.nodup_nil,Nat.le_refl _,(fun f hf=>by cases hf),fun g=>⟨fun x=>⟨x,by simp [refl]⟩,And.left⟩⟩
 | m+1,z,h=>by
  unfold refl
  by_cases hf:zNQ z 0 5=none
  ·rw [if_pos hf]
   exact ⟨h,⟨rfl,rfl,rfl,rfl,rfl⟩,List.nodup_nil,Nat.zero_le _,(fun f hf=>by cases hf),fun g=>⟨fun x=>⟨x,by simp⟩,And.left⟩⟩
  ·rw [if_neg hf]
   obtain ⟨j,hj⟩:∃ j,zNQ z 0 (5 - 0)=some j:=by
    cases h':zNQ z 0 5 with
    | none=>exact absurd h' hf
    | some j=>exact ⟨j,rfl⟩
   obtain ⟨w1,w2,w3,w4,w5,w6⟩:=zNy h hj
   obtain ⟨i1,i2,i3,i4,i5,i6⟩:=zQ1 m w2
   rw [pw0] at w5 w6
   have hc0:cov z (zC1 z 0).2.1:=w6 _ (by omega) (by omega)
   have hn0:(zC1 z 0).2.1 ∉ (refl m (zC1 z 0).1).2:=fun hm=>((w5 _).1 (i5 _ hm).2).2 ⟨by omega,by omega⟩
   refine ⟨i1,i2.trans w3,List.nodup_cons.2 ⟨hn0,i3⟩,by simp; omega,fun f hf' => ?_,fun g => ?_⟩
   ·rcases List.mem_cons.1 hf' with rfl | hf'
    ·exact ⟨w4,hc0⟩
    ·have:=i5 f hf'
     exact ⟨by rw [← w3.inside]; exact this.1,((w5 f).1 this.2).1⟩
   ·rw [i6,w5,List.mem_cons]
    constructor
    ·rintro ⟨⟨h1,h2⟩,h3⟩
     exact ⟨h1,fun h4=>h4.elim (fun e=>h2 (by omega)) h3⟩
    ·rintro ⟨h1,h2⟩
     exact ⟨⟨h1,fun h4=>h2 (.inl (by omega))⟩,fun h4=>h2 (.inr h4)⟩
theorem zUo {m:Nat} {z:zY} (ho:OkZ z) (h:(refl (m+1) z).2=[]):∀ g,¬ cov z g:=by
 unfold refl at h
 by_cases hf:zNQ z 0 5=none
 ·exact zZU ho hf
 ·rw [if_neg hf] at h; cases h
section
variable {a:zH} {c p:Nat}
theorem zV8 {b:Nat} (hb:(b:Int)=a.batch) (hbb:b≤64):∀ (m n:Nat) (zs:List zY) (l:List Int),l.length+m=b→m<n→p<zs.length→OkZ (at_ zs (p:Int)) →
  zDU a (c:Int) (p:Int) n (l.length:Int) zs l=zBr a (c:Int) (p:Int) (zs.set p (refl m (at_ zs (p:Int))).1) (l++(refl m (at_ zs (p:Int))).2) ∧
  zIO a (c:Int) (p:Int) n zs l=zFg a (c:Int) (p:Int) (zs.set p (refl m (at_ zs (p:Int))).1) (l++(refl m (at_ zs (p:Int))).2):=by
 intro m
 induction m with
 | zero =>
  intro n zs l h1 h2 hp ho
  obtain ⟨n,rfl⟩:=ex1 ‹_<n›
  show zBq _ _ _ _ _ _ _=zBr _ _ _ (zs.set p (at_ zs (p:Int))) (l++[])∧zFj _ _ _ _ _ _=zFg _ _ _ (zs.set p (at_ zs (p:Int))) (l++[])
  unfold zBq zFj
  rw [zg (df (by omega)),zg (df (by omega)),zIu hp,List.append_nil]
  exact ⟨rfl,rfl⟩
 | succ m ih =>
  intro n zs l h1 h2 hp ho
  obtain ⟨n,rfl⟩:=ex1 ‹_<n›
  show zBq _ _ _ _ _ _ _=_∧zFj _ _ _ _ _ _=_
  unfold zBq zFj refl
  rw [zz (dt (by omega)),zz (dt (by omega)),zP (zAA hp),zP (zAA hp),z0i,zYk ho (Nat.zero_le _),zX9 ho (Nat.zero_le _),zAp,zAp]
  by_cases hf:zNQ (at_ zs (p:Int)) 0 5=none
  ·rw [if_pos hf,zRM (k:=0) hf]
   rw [zz (by rfl),zz (by rfl),zIu hp,List.append_nil]
   exact ⟨rfl,rfl⟩
  ·rw [if_neg hf]
   obtain ⟨j,hj⟩:∃ j,zNQ (at_ zs (p:Int)) 0 (5 - 0)=some j:=by
    cases h':zNQ (at_ zs (p:Int)) 0 5 with
    | none=>exact absurd h' hf
    | some j=>exact ⟨j,rfl⟩
   obtain ⟨w1,w2,w3,w4,w5,w6⟩:=zNy ho hj
   have e1:at_ (zs.set p (zC1 (at_ zs (p:Int)) 0).1) (p:Int)=(zC1 (at_ zs (p:Int)) 0).1:=by rw [zN4 hp,if_pos rfl]
   have hl:(l++[(zC1 (at_ zs (p:Int)) 0).2.1]).length=l.length+1:=by simp
   have hi:=ih n (zs.set p (zC1 (at_ zs (p:Int)) 0).1) (l++[(zC1 (at_ zs (p:Int)) 0).2.1]) (by omega) (by omega) (by rw [List.length_set]; exact hp) (by rw [e1]; exact w2)
   rw [e1,List.set_set,hl,List.append_assoc] at hi
   rw [zg (by rw [w1]; rfl),zg (by rw [w1]; rfl),zP (dt (by simp; omega)),zP (dt (by simp; omega)),zP (zu (by omega))]
   exact hi
def zSW (a:zH) (c p:Nat):zH:=upd a c p (Lf a c p++(refl a.batch.toNat (Zn a p)).2.reverse) (refl a.batch.toNat (Zn a p)).1
theorem zWL (h:Wa a) (hc:c<a.caches.length) {f:Int}:f∈(at_ a.caches (c:Int)).lists.flatten ↔ ∃ q,f∈Lf a c q:=by
 rw [List.mem_flatten]
 constructor
 ·rintro ⟨l,hl,hf⟩
  obtain ⟨q,hq,e⟩:=List.getElem_of_mem hl
  exact ⟨q,by unfold Lf; rw [zEz hq,e]; exact hf⟩
 ·rintro ⟨q,hf⟩
  have hq:=h.pz hc hf
  exact ⟨_,zAx (by rw [h.cl c hc]; exact hq),hf⟩
theorem zVr (h:Wa a) (hc:c<a.caches.length) (hp:p<a.zones.length) {f:Int} (hi:inside (Zn a p) f 0=true) (hv:cov (Zn a p) f):∀ q,f ∉ Lf a c q:=fun q hf=>by
 have hq:=h.pz hc hf
 have e:=h.ap q p f hq hp (h.own c q f hc hf).1 hi
 subst e
 exact (h.own c q f hc hf).2 hv
theorem zIa (h:Wa a) (hc:c<a.caches.length) (hp:p<a.zones.length) (hl:Lf a c p=[]) :
  zCz a (c:Int) (p:Int)=some (zSW a c p,decide (0<(((refl a.batch.toNat (Zn a p)).2).length:Int)))∧zM4 a (c:Int) (p:Int)=some (zSW a c p)∧Wa (zSW a c p):=by
 have hbh:=h.bh
 have hbe:((a.batch.toNat:Nat):Int)=a.batch:=Int.toNat_of_nonneg (by omega)
 obtain ⟨r1,r2,r3,r4,r5,r6⟩:=zQ1 a.batch.toNat (h.zs p hp)
 obtain ⟨f1,f2⟩:=zV8 (a:=a) (c:=c) (p:=p) hbe (by omega) a.batch.toNat z8 a.zones [] (by simp) (by unfold z8; omega) hp (h.zs p hp)
 have hpc:=h.pc hc
 have hfr:∀ f,f∈(refl a.batch.toNat (Zn a p)).2→zBk f=true∧f ∉ (at_ a.caches (c:Int)).lists.flatten:=fun f hf=>by
  have h5:=r5 f hf
  have hb:=(h.zs p hp).bds h5.1
  rw [pw0] at hb
  refine ⟨by unfold zBk; simp; omega,fun hm => ?_⟩
  obtain ⟨q,hq⟩:=(zWL h hc).1 hm
  exact zVr h hc hp h5.1 h5.2 q hq
 have e1:=zWm hpc hp (show (refl a.batch.toNat (Zn a p)).2.length≤100 by omega) hfr r3
 have e2:=zWV hpc hp (show (refl a.batch.toNat (Zn a p)).2.length≤100 by omega) hfr r3
 refine ⟨?_,?_,?_⟩
 ·unfold zCz
  refine f1.trans ?_
  unfold zBr zDP
  rw [List.nil_append,zP (zAA hc),show at_ a.zones (p:Int)=Zn a p from rfl,e1,zAp,zAp,zz (by rfl)]
  rfl
 ·unfold zM4
  refine f2.trans ?_
  unfold zFg
  rw [List.nil_append,zP (zAA hc),show at_ a.zones (p:Int)=Zn a p from rfl,e2,zAp]
  rfl
 ·unfold zSW
  rw [hl,List.nil_append]
  refine zNq h hc hp r1 r2 ?_ (List.pairwise_reverse.2 (List.Pairwise.imp (fun h=>Ne.symm h) r3)) (fun f hf => ?_) (fun d f hd hdc hf=>⟨fun hm => ?_,fun hcv => ?_⟩)
  ·rw [List.length_reverse]; omega
  ·have hf':=List.mem_reverse.1 hf
   exact ⟨(r5 f hf').1,fun hcv=>((r6 f).1 hcv).2 hf'⟩
  ·have h5:=r5 f (List.mem_reverse.1 hm)
   exact zVr h hd hp h5.1 h5.2 p hf
  ·exact (h.own d p f hd hf).2 ((r6 f).1 hcv).1
def zFb (a:zH) (c p:Nat):zH:=upd a c p [] (zKp (Zn a p) (Lf a c p))
theorem zJX (h:Wa a) (hc:c<a.caches.length) (hp:p<a.zones.length):zDQ a (c:Int) (p:Int)=some (zFb a c p)∧zNl a (c:Int) (p:Int)=some (zFb a c p)∧Wa (zFb a c p):=by
 have hpc:=h.pc hc
 have hlim:=h.lim c p hc
 have hbh:=h.bh
 obtain ⟨g1,g2,g3⟩:=zKv (Lf a c p) (h.zs p hp) (fun f hf=>h.own c p f hc hf) (h.nd c p hc)
 have hg:=fun cs=>zUB (a:=⟨a.nodes,a.batch,a.high,a.zones,cs⟩) (fs:=Lf a c p) (by omega) hp (h.zs p hp) (fun f hf=>h.own c p f hc hf) (h.nd c p hc)
 refine ⟨?_,?_,?_⟩
 ·unfold zDQ
  rw [zP (zAA hc),zYD hpc hp,zAp,zz (by rfl)]
  show ((zD2 ⟨a.nodes,a.batch,a.high,a.zones,a.caches.set c ⟨(at_ a.caches (c:Int)).lists.set p []⟩⟩ (p:Int) (Lf a c p)).bind _)=_
  rw [(hg _).1,zAp]
  rfl
 ·unfold zNl
  rw [zP (zAA hc),zXt hpc hp,zAp]
  show ((zK1 ⟨a.nodes,a.batch,a.high,a.zones,a.caches.set c ⟨(at_ a.caches (c:Int)).lists.set p []⟩⟩ (p:Int) (Lf a c p)).bind _)=_
  rw [(hg _).2,zAp]
  rfl
 ·refine zNq h hc hp g1 g3 (by show ((0:Nat):Int)≤_; omega) List.nodup_nil (fun f hf=>by cases hf) (fun d f hd hdc hf=>⟨by simp,fun hcv => ?_⟩)
  rcases (g2 f).1 hcv with h1 | h1
  ·exact (h.own d p f hd hf).2 h1
  ·exact hdc (h.dis d c p p f hd hc hf h1).1
theorem zSn (h:Wa a) (hc:c<a.caches.length) (hp:p<a.zones.length) (hl:Lf a c p=[]):zFb a c p=a:=by
 unfold zFb upd
 rw [hl]
 have e1:(at_ a.caches (c:Int)).lists.set p ([]:List Int)=(at_ a.caches (c:Int)).lists:=by
  rw [← hl]
  exact zIu (by rw [h.cl c hc]; exact hp)
 rw [e1]
 show (⟨a.nodes,a.batch,a.high,a.zones.set p (at_ a.zones (p:Int)),a.caches.set c (at_ a.caches (c:Int))⟩:zH)=a
 rw [zIu hp,zIu hc]
def zAn (p:Nat):Nat→Nat→zH→zH
 | 0,_,a=>a
 | m+1,c,a=>zAn p m (c+1) (zFb a c p)
theorem zPK (h:Wa a) (hc:c<a.caches.length) (hp:p<a.zones.length) (d q:Nat):Lf (zFb a c p) d q=if d=c∧q=p then [] else Lf a d q:=zR9 h hc hp d q
theorem zDL:(zFb a c p).caches.length=a.caches.length∧(zFb a c p).zones.length=a.zones.length:=⟨List.length_set,List.length_set⟩
end
end Go.Proofs.Ytplkliakhdkpcaa
namespace Go.Proofs.Ytplkliakhdkpcaa
open Go Go.RowKit Go.Wk Go.Am
section
variable {a:zH} {c p:Nat}
theorem zI1:∀ (m i:Nat) {a:zH},Wa a→i+m≤a.caches.length→p<a.zones.length →
  Wa (zAn p m i a)∧(zAn p m i a).caches.length=a.caches.length∧(zAn p m i a).zones.length=a.zones.length∧(zAn p m i a).batch=a.batch∧(∀ d q,Lf (zAn p m i a) d q=if i≤d∧d<i+m∧q=p then [] else Lf a d q)∧(∀ q,q≠p→Zn (zAn p m i a) q=Zn a q) ∧
  (∀ g,cov (Zn (zAn p m i a) p) g↔cov (Zn a p) g ∨ ∃ d,i≤d∧d<i+m∧g∈Lf a d p)
 | 0,i,a,h,_,_=>⟨h,rfl,rfl,rfl,fun d q=>by rw [if_neg (by omega)]; rfl,fun q _=>rfl,fun g=>⟨.inl,fun x=>x.elim id (fun ⟨d,h1,h2,_⟩=>by omega)⟩⟩
 | m+1,i,a,h,hm,hp=>by
  have hi:i<a.caches.length:=by omega
  obtain ⟨_,_,hw⟩:=zJX h hi hp
  obtain ⟨s1,s2⟩:=zDL (a:=a) (c:=i) (p:=p)
  have hL:=zPK h hi hp
  obtain ⟨_,g2,_⟩:=zKv (Lf a i p) (h.zs p hp) (fun f hf=>h.own i p f hi hf) (h.nd i p hi)
  obtain ⟨r1,r2,r3,r4,r5,r6,r7⟩:=zI1 m (i+1) hw (by rw [s1]; omega) (by rw [s2]; exact hp)
  have hZ:Zn (zFb a i p) p=zKp (Zn a p) (Lf a i p):=by
   unfold zFb
   rw [zSE hp,if_pos rfl]
  refine ⟨r1,r2.trans s1,r3.trans s2,r4,fun d q => ?_,fun q hq => ?_,fun g => ?_⟩
  ·show Lf (zAn p m (i+1) (zFb a i p)) d q=_
   rw [r5,hL]
   by_cases h1:i+1≤d∧d<i+1+m∧q=p
   ·rw [if_pos h1,if_pos (by omega)]
   ·rw [if_neg h1]
    by_cases h2:d=i∧q=p
    ·rw [if_pos h2,if_pos (by omega)]
    ·rw [if_neg h2,if_neg (by omega)]
  ·show Zn (zAn p m (i+1) (zFb a i p)) q=_
   rw [r6 q hq]
   unfold zFb
   rw [zSE hp,if_neg hq]
  ·show cov (Zn (zAn p m (i+1) (zFb a i p)) p) g↔_
   rw [r7,hZ,g2]
   constructor
   ·rintro ((h1 | h1) | ⟨d,h1,h2,h3⟩)
    ·exact .inl h1
    ·exact .inr ⟨i,Nat.le_refl _,by omega,h1⟩
    ·rw [hL,if_neg (by omega)] at h3
     exact .inr ⟨d,by omega,by omega,h3⟩
   ·rintro (h1 | ⟨d,h1,h2,h3⟩)
    ·exact .inl (.inl h1)
    ·by_cases hd:d=i
     ·subst hd; exact .inl (.inr h3)
     ·exact .inr ⟨d,by omega,by omega,by rw [hL,if_neg (by omega)]; exact h3⟩
theorem zXY {K:Nat} {x2:List Int×Int} {i1:Int} {x7:zH×Bool} (hx:at_ x2.1 i1=(p:Int)) (hx7:x7.1.caches.length=K) (hc:c<K) (hK:K≤1000):∀ (m n i:Nat) (b:zH),i+m=K→m<n→Wa b→b.caches.length=K→p<b.zones.length→Lf b c p=[] →
  zB5 (c:Int) x2 i1 x7 n (i:Int) b.nodes b.batch b.high b.zones b.caches=zCr (c:Int) x2 i1 (zAn p m i b).nodes (zAn p m i b).batch (zAn p m i b).high (zAn p m i b).zones (zAn p m i b).caches:=by
 intro m
 induction m with
 | zero =>
  intro n i b h1 h2 hw hb hp hl
  obtain ⟨n,rfl⟩:=ex1 ‹_<n›
  show zCG _ _ _ _ _ _ _ _ _ _ _=_
  unfold zCG
  rw [hx7,zg (df (by omega))]
  rfl
 | succ m ih =>
  intro n i b h1 h2 hw hb hp hl
  obtain ⟨n,rfl⟩:=ex1 ‹_<n›
  show zCG _ _ _ _ _ _ _ _ _ _ _=_
  unfold zCG zDp
  rw [hx7,zz (dt (by omega))]
  by_cases hi:i=c
  ·subst hi
   rw [dt rfl,Bool.not_true,zg rfl,zP (zu (by omega))]
   show _=zCr _ _ _ (zAn p m (i+1) (zFb b i p)).nodes _ _ _ _
   rw [show zAn p (m+1) i b=zAn p m (i+1) (zFb b i p) from rfl,zSn hw (by omega) hp hl]
   exact ih n (i+1) b (by omega) (by omega) hw hb hp hl
  ·obtain ⟨d1,_,d3⟩:=zJX hw (c:=i) (by omega) hp
   rw [df (by omega),zz (by rfl),hx,show (⟨b.nodes,b.batch,b.high,b.zones,b.caches⟩:zH)=b from rfl,d1,zAp,zP (zu (by omega))]
   exact ih n (i+1) (zFb b i p) (by omega) (by omega) d3 (zDL.1.trans hb) (by rw [zDL.2]; exact hp) (by rw [zPK hw (by omega) hp]; split; rfl; exact hl)
def zQK (a:zH) (c p:Nat):zH:=⟨a.nodes,a.batch,a.high,a.zones,a.caches.set c (zV9 (at_ a.caches (c:Int)) p)⟩
theorem zQU (hp:p<a.zones.length):zQK a c p=upd a c p ((Lf a c p).take ((Lf a c p).length - 1)) (Zn a p):=by
 unfold zQK upd Zn
 rw [zIu hp]
 rfl
theorem zXT (h:Wa a) (hc:c<a.caches.length) (hp:p<a.zones.length):Wa (zQK a c p):=by
 rw [zQU hp]
 have hm:∀ f,f∈(Lf a c p).take ((Lf a c p).length - 1)→f∈Lf a c p:=fun f hf=>List.mem_of_mem_take hf
 have:=h.lim c p hc
 refine zNq h hc hp (h.zs p hp) ⟨rfl,rfl,rfl,rfl,rfl⟩ (by rw [List.length_take]; omega) ((h.nd c p hc).sublist (List.take_sublist _ _)) (fun f hf=>h.own c p f hc (hm f hf)) (fun d f hd hdc hf=>⟨fun hh=>hdc (h.dis d c p p f hd hc hf (hm f hh)).1,(h.own d p f hd hf).2⟩)
def a1A (a:zH) (c p:Nat):zH:=if Lf a c p=[] then zSW a c p else a
def a2A (a:zH) (c p:Nat):zH:=if Lf (a1A a c p) c p=[] then zSW (zAn p (a1A a c p).caches.length 0 (a1A a c p)) c p else a1A a c p
def zL0 (a:zH) (c p:Nat):zH×Int:=(zQK (a2A a c p) c p,zPO (at_ (a2A a c p).caches (c:Int)) p)
theorem zPQ:(zSW a c p).caches.length=a.caches.length∧(zSW a c p).zones.length=a.zones.length:=⟨List.length_set,List.length_set⟩
theorem zTt (h:Wa a) (hc:c<a.caches.length) (hp:p<a.zones.length) (d q:Nat):Lf (zSW a c p) d q=if d=c∧q=p then Lf a c p++(refl a.batch.toNat (Zn a p)).2.reverse else Lf a d q:=zR9 h hc hp d q
theorem zRo:∀ (ls:List (List Int)) (k:Nat),0<zPt k ls → ∃ (j:Nat) (l:List Int),ls[j]?=some l∧l≠[]
 | [],k,h=>by unfold zPt at h; omega
 | l::ls,k,h=>by
  by_cases hl:l=[]
  ·unfold zPt at h
   rw [hl] at h
   obtain ⟨j,m,h1,h2⟩:=zRo ls (k+1) (by simpa using h)
   exact ⟨j+1,m,by simpa using h1,h2⟩
  ·exact ⟨0,l,rfl,hl⟩
theorem zR2:∀ (cs:List zK) (i:Int),0<zSr cs i → ∃ d,d<cs.length∧at_ (at_ cs (d:Int)).lists i≠[]
 | [],i,h=>by unfold zSr at h; omega
 | x::cs,i,h=>by
  unfold zSr at h
  by_cases hx:at_ x.lists i=[]
  ·rw [hx] at h
   obtain ⟨d,h1,h2⟩:=zR2 cs i (by simpa using h)
   exact ⟨d+1,by simp; omega,h2⟩
  ·exact ⟨0,by simp,hx⟩
theorem zXA (h:0<zOj a p):(∃ g,cov (Zn a p) g) ∨ ∃ d,d<a.caches.length∧Lf a d p≠[]:=by
 unfold zOj at h
 by_cases hn:0<zVY (at_ a.zones (p:Int))
 ·obtain ⟨j,l,h1,h2⟩:=zRo _ _ hn
  obtain ⟨x,r,e,_⟩:=zXp h2
  refine .inl ⟨x,j,x,?_,by omega,by have:=zGU j; omega⟩
  show x∈lst (at_ a.zones (p:Int)) j
  rw [zVk h1,e]
  simp
 ·exact .inr (zR2 _ _ (by omega))
theorem zX7 (h:Wa a) (hc:c<a.caches.length) (hp:p<a.zones.length):Wa (a1A a c p)∧(a1A a c p).caches.length=a.caches.length∧(a1A a c p).zones.length=a.zones.length:=by
 unfold a1A
 by_cases hl:Lf a c p=[]
 ·rw [if_pos hl]
  exact ⟨(zIa h hc hp hl).2.2,zPQ.1,zPQ.2⟩
 ·rw [if_neg hl]
  exact ⟨h,rfl,rfl⟩
theorem zVT (h:Wa a) (hc:c<a.caches.length) (hp:p<a.zones.length) (hg:∃ g,cov (Zn a p) g):Lf (zSW a c p) c p≠[]:=by
 rw [zTt h hc hp,if_pos ⟨rfl,rfl⟩]
 intro e
 have hbh:=h.bh
 have e2:=(List.append_eq_nil_iff.1 e).2
 rw [List.reverse_eq_nil_iff,show a.batch.toNat=(a.batch.toNat - 1)+1 by omega] at e2
 obtain ⟨g,hg⟩:=hg
 exact zUo (h.zs p hp) e2 g hg
theorem zXu (h:Wa a) (hc:c<a.caches.length) (hp:p<a.zones.length) (hn:0<zOj a p):Wa (a2A a c p)∧(a2A a c p).caches.length=a.caches.length∧(a2A a c p).zones.length=a.zones.length∧Lf (a2A a c p) c p≠[]:=by
 obtain ⟨w1,w2,w3⟩:=zX7 h hc hp
 unfold a2A
 by_cases hl:Lf (a1A a c p) c p=[]
 ·rw [if_pos hl]
  obtain ⟨r1,r2,r3,r4,r5,r6,r7⟩:=zI1 (p:=p) (a1A a c p).caches.length 0 w1 (by omega) (by rw [w3]; exact hp)
  have hl2:Lf (zAn p (a1A a c p).caches.length 0 (a1A a c p)) c p=[]:=by
   rw [r5]
   split
   ·rfl
   ·exact hl
  have hc2:c<(zAn p (a1A a c p).caches.length 0 (a1A a c p)).caches.length:=by rw [r2,w2]; exact hc
  have hp2:p<(zAn p (a1A a c p).caches.length 0 (a1A a c p)).zones.length:=by rw [r3,w3]; exact hp
  refine ⟨(zIa r1 hc2 hp2 hl2).2.2,zPQ.1.trans (r2.trans w2),zPQ.2.trans (r3.trans w3),zVT r1 hc2 hp2 ?_⟩
  have hl0:Lf a c p=[]:=by
   by_cases h0:Lf a c p=[]
   ·exact h0
   ·unfold a1A at hl
    rw [if_neg h0] at hl
    exact hl
  have ea:a1A a c p=zSW a c p:=by unfold a1A; rw [if_pos hl0]
  have hng:¬ ∃ g,cov (Zn a p) g:=fun hg=>by
   have:=zVT h hc hp hg
   rw [← ea] at this
   exact this hl
  rcases zXA hn with hg | ⟨d,hd,hne⟩
  ·exact absurd hg hng
  ·obtain ⟨x,r,e,_⟩:=zXp hne
   refine ⟨x,(r7 x).2 (.inr ⟨d,Nat.zero_le _,by rw [w2]; omega,?_⟩)⟩
   have hdc:d≠c:=fun e'=>by subst e'; exact hne hl0
   rw [ea,zTt h hc hp,if_neg (fun e'=>hdc e'.1),e]
   simp
 ·rw [if_neg hl]
  exact ⟨w1,w2,w3,hl⟩
theorem zUY (h:Wa a) (hc:c<a.caches.length) (hp:p<a.zones.length) (hn:0<zOj a p) {x2:List Int×Int} {i1:Int} (hx:at_ x2.1 i1=(p:Int)) :
  (chk (inb (c:Int) a.caches.length)<|chk (inb (at_ x2.1 i1) ((at_ a.caches (c:Int)).lists).length) <|
   (cnd (decide (((at_ ((at_ a.caches (c:Int)).lists) (at_ x2.1 i1)).length:Int)=0)) (zCz (⟨a.nodes,a.batch,a.high,a.zones,a.caches⟩:zH) (c:Int) (at_ x2.1 i1)) (some ((⟨a.nodes,a.batch,a.high,a.zones,a.caches⟩:zH),default))).bind fun x7 =>
   cnd ((decide (((at_ ((at_ a.caches (c:Int)).lists) (at_ x2.1 i1)).length:Int)=0))&&(!x7.2)) (
    zB5 (c:Int) x2 i1 x7 z8 0 x7.1.nodes x7.1.batch x7.1.high x7.1.zones x7.1.caches) (
    zB9 (c:Int) x2 i1 x7.1.nodes x7.1.batch x7.1.high x7.1.zones x7.1.caches))=some ((zL0 a c p).1,(zL0 a c p).2,0):=by
 obtain ⟨w1,w2,w3⟩:=zX7 h hc hp
 obtain ⟨v1,v2,v3,v4⟩:=zXu h hc hp hn
 have hcn:=h.n
 have hcn2:=h.cn
 have hcl:=h.cl c hc
 have key:∀ b:zH,Wa b→b.caches.length=a.caches.length→b.zones.length=a.zones.length→Lf b c p≠[]→zB9 (c:Int) x2 i1 b.nodes b.batch b.high b.zones b.caches=some (zQK b c p,zPO (at_ b.caches (c:Int)) p,0):=fun b hb h1 h2 h3=>by
  unfold zB9
  rw [hx,zP (zAA (by rw [h1]; exact hc)),zZJ (hb.pc (by rw [h1]; exact hc)) (by rw [h2]; exact hp) h3,zAp,zg (by rfl)]
  rfl
 rw [hx,zP (zAA hc),zP (zAA (by rw [hcl]; exact hp))]
 by_cases hl:Lf a c p=[]
 ·have e1:a1A a c p=zSW a c p:=by unfold a1A; rw [if_pos hl]
  rw [dt (show ((at_ (at_ a.caches (c:Int)).lists (p:Int)).length:Int)=0 by show ((Lf a c p).length:Int)=0; rw [hl]; rfl),zz rfl,show (⟨a.nodes,a.batch,a.high,a.zones,a.caches⟩:zH)=a from rfl,(zIa h hc hp hl).1,zAp, ← e1]
  have hlr:Lf (a1A a c p) c p=(refl a.batch.toNat (Zn a p)).2.reverse:=by rw [e1,zTt h hc hp,if_pos ⟨rfl,rfl⟩,hl,List.nil_append]
  by_cases hr:(refl a.batch.toNat (Zn a p)).2=[]
  ·have hl1:Lf (a1A a c p) c p=[]:=by rw [hlr,hr]; rfl
   have e2:a2A a c p=zSW (zAn p (a1A a c p).caches.length 0 (a1A a c p)) c p:=by unfold a2A; rw [if_pos hl1]
   obtain ⟨r1,r2,r3,r4,r5,r6,r7⟩:=zI1 (p:=p) (a1A a c p).caches.length 0 w1 (by omega) (by rw [w3]; exact hp)
   have hl2:Lf (zAn p (a1A a c p).caches.length 0 (a1A a c p)) c p=[]:=by
    rw [r5]
    split
    ·rfl
    ·exact hl1
   have hq:=(zIa r1 (c:=c) (by rw [r2,w2]; exact hc) (by rw [r3,w3]; exact hp) hl2).1
   rw [zz (by rw [hr]; rfl)]
   refine (zXY (x7:=(a1A a c p,decide (0<(((refl a.batch.toNat (Zn a p)).2).length:Int)))) hx (K:=(a1A a c p).caches.length) rfl (by rw [w2]; exact hc) (by omega) (a1A a c p).caches.length z8 0 (a1A a c p) (by omega) (by unfold z8; omega) w1 rfl (by rw [w3]; exact hp) hl1).trans ?_
   unfold zCr
   rw [hx,show (⟨(zAn p (a1A a c p).caches.length 0 (a1A a c p)).nodes,(zAn p (a1A a c p).caches.length 0 (a1A a c p)).batch,(zAn p (a1A a c p).caches.length 0 (a1A a c p)).high,(zAn p (a1A a c p).caches.length 0 (a1A a c p)).zones,(zAn p (a1A a c p).caches.length 0 (a1A a c p)).caches⟩:zH)=zAn p (a1A a c p).caches.length 0 (a1A a c p) from rfl,hq,zAp, ← e2]
   exact key _ v1 v2 v3 v4
  ·have hl1:Lf (a1A a c p) c p≠[]:=by rw [hlr]; exact fun e=>hr (List.reverse_eq_nil_iff.1 e)
   have e2:a2A a c p=a1A a c p:=by unfold a2A; rw [if_neg hl1]
   have hpos:0<(refl a.batch.toNat (Zn a p)).2.length:=List.length_pos_iff.2 hr
   rw [zg (by rw [dt (show (0:Int)<((refl a.batch.toNat (Zn a p)).2.length:Int) by omega)]; rfl), ← e2]
   exact key _ v1 v2 v3 v4
 ·have e1:a1A a c p=a:=by unfold a1A; rw [if_neg hl]
  have e2:a2A a c p=a:=by unfold a2A; rw [e1,if_neg hl]
  have hne:¬ ((at_ (at_ a.caches (c:Int)).lists (p:Int)).length:Int)=0:=fun e=>hl (List.length_eq_zero_iff.1 (by show (Lf a c p).length=0; have e':((Lf a c p).length:Int)=0:=e; omega))
  rw [df hne,zg rfl,zAp,zg (by rfl)]
  have:=key a h rfl rfl hl
  unfold zL0
  rw [e2]
  exact this
theorem Wa.gn (h:Wa a):Gn a.zones:=by
 have hz:∀ z,z∈a.zones→ranges z=true:=fun z hz=>by
  obtain ⟨q,hq,e⟩:=List.getElem_of_mem hz
  have:=(h.zs q hq).ranges
  unfold Zn at this
  rw [zEz hq,e] at this
  exact this
 exact ⟨h.zn.2,fun z hm=>by have:=zAz (hz z hm); omega,fun z hm=>(zAz (hz z hm)).2.2.1⟩
theorem Wa.vn (h:Wa a) (hc:c<a.nodes.length):0≤at_ a.nodes (c:Int)∧at_ a.nodes (c:Int)<4:=h.nr _ (zAx hc)
end
end Go.Proofs.Ytplkliakhdkpcaa
namespace Go.Proofs.Ytplkliakhdkpcaa
open Go Go.RowKit Go.Wk Go.Am
section
variable {a:zH} {c p:Nat}
theorem Wa.al (h:Wa a):Al a:=by
 have h1:=h.n
 have h2:=h.zn
 have h3:=h.cn
 refine ⟨by omega,by omega,by omega,fun z hz => ?_,fun x hx => ?_⟩
 ·obtain ⟨q,hq,e⟩:=List.getElem_of_mem hz
  have:=h.zs q hq
  unfold Zn at this
  rw [zEz hq,e] at this
  exact ⟨this.zk,this.inI⟩
 ·obtain ⟨d,hd,e⟩:=List.getElem_of_mem hx
  have:=(h.pc hd).ck
  rw [zEz hd,e] at this
  exact this
theorem Wa.va (h:Wa a):Va a:=by
 refine ⟨h.al,h.se,fun x hx => ?_,h.zn.1⟩
 obtain ⟨d,hd,e⟩:=List.getElem_of_mem hx
 have:=h.cl d hd
 rw [zEz hd,e] at this
 exact this
end
end Go.Proofs.Ytplkliakhdkpcaa
namespace Go.Proofs.Ytplkliakhdkpcaa
open Go Go.RowKit Go.Wk Go.Am
section
variable {l:List Int} {f:Int}
def wo (f:Int) (l:List Int):List Int:=l.filter fun y => !decide (y=f)
theorem zS8 {i:Nat} (hi:i<l.length):wo f (l.take (i+1))=if at_ l (i:Int)=f then wo f (l.take i) else wo f (l.take i)++[at_ l (i:Int)]:=by
 unfold wo
 rw [List.take_add_one,List.getElem?_eq_getElem hi, ← zEz hi,List.filter_append]
 by_cases h:at_ l (i:Int)=f
 ·rw [if_pos h]
  show _++List.filter _ [at_ l (i:Int)]=_
  rw [List.filter_cons_of_neg (by rw [dt h]; simp)]
  simp
 ·rw [if_neg h]
  show _++List.filter _ [at_ l (i:Int)]=_
  rw [List.filter_cons_of_pos (by rw [df h]; rfl)]
  simp
theorem zUg (hl:l.length≤1000):∀ (m n i:Nat),i+m=l.length→m<n→f∈l.drop i→f ∉ l.take i → ∃ j:Nat,j<l.length∧wo f (l.take (j+1))=l.take j∧zAE l (fun y=>zBY y f) n (i:Int)=some (j:Int):=by
 intro m
 induction m with
 | zero =>
  intro n i h1 h2 h3 _
  rw [List.drop_eq_nil_of_le (by omega)] at h3
  cases h3
 | succ m ih =>
  intro n i h1 h2 h3 h4
  obtain ⟨n,rfl⟩:=ex1 ‹_<n›
  have hi:i<l.length:=by omega
  have ee:zAE l (fun y=>zBY y f) (n+1) (i:Int)=cnd (decide (at_ l (i:Int)=f)) (some (i:Int)) (zAE l (fun y=>zBY y f) n ((i+1:Nat):Int)):=by
   show zAS _ _ _ _=_
   unfold zAS zBY
   rw [zz (dt (by omega)),zP (zAA hi),zAp,zP (zu (by omega))]
   rfl
  rw [ee]
  by_cases h:at_ l (i:Int)=f
  ·rw [zz (dt h)]
   refine ⟨i,hi,?_,rfl⟩
   rw [zS8 hi,if_pos h]
   exact List.filter_eq_self.2 fun y hy=>by rw [df (fun e:y=f=>h4 (e▸hy))]; rfl
  ·rw [zg (df h)]
   rw [zCk hi] at h3
   refine ih n (i+1) (by omega) (by omega) ((List.mem_cons.1 h3).resolve_left (fun e=>h e.symm)) (fun hm => ?_)
   rw [List.take_add_one,List.getElem?_eq_getElem hi, ← zEz hi] at hm
   rcases List.mem_append.1 hm with hm | hm
   ·exact h4 hm
   ·exact h (List.mem_singleton.1 hm).symm
theorem zU0 (hl:l.length≤1000):∀ (m n j i:Nat) (q:List Int),j+m=l.length→m<n→i≤j→q.length=l.length→q.take i=wo f (l.take j)→q.drop j=l.drop j→zA3 (fun y=>zBY y f) n (i:Int) (j:Int) q=some (wo f l):=by
 intro m
 induction m with
 | zero =>
  intro n j i q h1 h2 h3 h4 h5 h6
  obtain ⟨n,rfl⟩:=ex1 ‹_<n›
  have e:zI0 q (i:Int)=q.take i++List.replicate (q.length - i) 0:=rfl
  have hcl:(zI0 q (i:Int)).length=q.length:=by rw [e,List.length_append,List.length_take,List.length_replicate]; omega
  show zAl _ _ _ _ _=_
  unfold zAl zBp
  rw [zg (df (by omega)),zP (by unfold zHB; simp; omega),zP (by rw [hcl]; unfold zHB; simp; omega)]
  unfold zFP
  rw [Int.toNat_natCast,e,List.take_left' (by rw [List.length_take]; omega),h5,List.take_of_length_le (by omega)]
  rfl
 | succ m ih =>
  intro n j i q h1 h2 h3 h4 h5 h6
  obtain ⟨n,rfl⟩:=ex1 ‹_<n›
  have hj:j<l.length:=by omega
  have hjq:j<q.length:=by omega
  have hiq:i<q.length:=by omega
  have h6':=h6
  rw [zCk hj,zCk hjq] at h6
  obtain ⟨ea,ed⟩:=List.cons.inj h6
  have hw:=zS8 (f:=f) hj
  show zAl _ _ _ _ _=_
  unfold zAl zBI zBY
  rw [zz (dt (by omega)),zP (zAA hjq),zAp,zP (zAA hiq),zP (zu (by omega)),zP (zu (by omega)),zP (zu (by omega)),ea,Int.toNat_natCast]
  by_cases h:at_ l (j:Int)=f
  ·rw [dt h,Bool.not_true,zg rfl]
   rw [if_pos h] at hw
   exact ih n (j+1) i q (by omega) (by omega) (by omega) h4 (by rw [h5,hw]) ed
  ·rw [df h,Bool.not_false,zz rfl]
   rw [if_neg h] at hw
   refine ih n (j+1) (i+1) _ (by omega) (by omega) (by omega) (by rw [List.length_set]; exact h4) ?_ ?_
   ·rw [hw,List.take_add_one,List.getElem?_set_self hiq,List.take_set_of_le (Nat.le_refl i),h5]
    rfl
   ·rw [List.drop_set_of_lt (by omega)]
    exact ed
theorem zZx (hl:l.length≤1000) (hf:f∈l):zBd l (fun y=>zBY y f)=some (wo f l):=by
 obtain ⟨j,j1,j2,j3⟩:=zUg (f:=f) hl l.length z8 0 (by omega) (by unfold z8; omega) hf (by simp)
 unfold zBd zBL
 rw [z0i,j3,zAp,zg (df (by omega)),zP (zu (by omega))]
 exact zU0 hl (l.length - (j+1)) z8 (j+1) j l (by omega) (by unfold z8; omega) (by omega) rfl j2.symm rfl
end
section
variable {a:zH}
theorem zZW (h:Va a) {f:Int} {p:Nat} (hp:p<a.zones.length):∀ (m n j:Nat),j+m=a.caches.length→m<n → ∃ r,zx a.caches (fun y=>zAk y (p:Int) f) n (j:Int)=some r∧(r = -1 ∨ ∃ c:Nat,r=(c:Int)∧c<a.caches.length∧f∈Lf a c p):=by
 have hcl:=h.al.c
 intro m
 induction m with
 | zero =>
  intro n j h1 h2
  obtain ⟨n,rfl⟩:=ex1 ‹_<n›
  refine ⟨-1,?_,.inl rfl⟩
  show zi _ _ _ _=_
  unfold zi
  rw [zg (df (by omega))]
  rfl
 | succ m ih =>
  intro n j h1 h2
  obtain ⟨n,rfl⟩:=ex1 ‹_<n›
  have hj:j<a.caches.length:=by omega
  have hl:=h.len _ (zAx hj)
  have hb:=(h.al.ck _ (zAx hj)).l _ (zAx (show p<(at_ a.caches (j:Int)).lists.length by omega))
  have h1c:zAk (at_ a.caches (j:Int)) (p:Int) f=some (decide (f∈at_ (at_ a.caches (j:Int)).lists (p:Int))):=by
   unfold zAk
   rw [zP (zAA (by omega)),contains hb]
   rfl
  obtain ⟨r,r1,r2⟩:=ih n (j+1) (by omega) (by omega)
  show ∃ r,zi _ _ _ _=some r∧_
  unfold zi
  rw [zz (dt (by omega)),zP (zAA hj),zP (zu (by omega))]
  show ∃ r,((zAk (at_ a.caches (j:Int)) (p:Int) f).bind _)=some r∧_
  rw [h1c,zAp]
  by_cases hm:f∈at_ (at_ a.caches (j:Int)).lists (p:Int)
  ·rw [zz (dt hm)]
   exact ⟨_,rfl,.inr ⟨j,rfl,hj,hm⟩⟩
  ·rw [zg (df hm)]
   exact ⟨r,r1,r2⟩
theorem zZF (h:Va a) {f:Int} {p:Nat} (hp:p<a.zones.length):∀ (m n j:Nat),j+m=a.caches.length→m<n → ∃ r,zCn a (p:Int) f n (j:Int)=some r∧(r = -1 ∨ ∃ c:Nat,r=(c:Int)∧c<a.caches.length∧f∈Lf a c p):=by
 have hcl:=h.al.c
 intro m
 induction m with
 | zero =>
  intro n j h1 h2
  obtain ⟨n,rfl⟩:=ex1 ‹_<n›
  refine ⟨-1,?_,.inl rfl⟩
  show zB6 _ _ _ _ _=_
  unfold zB6
  rw [zg (df (by omega))]
  rfl
 | succ m ih =>
  intro n j h1 h2
  obtain ⟨n,rfl⟩:=ex1 ‹_<n›
  have hj:j<a.caches.length:=by omega
  have hlen:=h.len _ (zAx hj)
  have hb:=(h.al.ck _ (zAx hj)).l _ (zAx (show p<(at_ a.caches (j:Int)).lists.length by omega))
  obtain ⟨i1,i2⟩:=zX6 (se:=zCn a (p:Int) f n) (f:=f) h hp hj rfl _ z8 0 (Nat.zero_add _) (by unfold z8; omega)
  rw [List.drop_zero] at i1 i2
  obtain ⟨r,r1,r2⟩:=ih n (j+1) (by omega) (by omega)
  show ∃ r,zB6 _ _ _ _ _=some r∧_
  unfold zB6
  rw [zz (dt (by omega)),z0i]
  by_cases hm:f∈at_ (at_ a.caches (j:Int)).lists (p:Int)
  ·exact ⟨_,i1 hm,.inr ⟨j,rfl,hj,hm⟩⟩
  ·exact ⟨r,(i2 hm).trans r1,r2⟩
theorem zXV (h:Va a) (hw:Wa a) {f:Int} {p:Nat} (hp:p<a.zones.length):∃ r,zCN a (p:Int) f=some r∧zKN a (p:Int) f=some r∧((r = -1 ∧ ∀ c,c<a.caches.length→f ∉ Lf a c p) ∨ ∃ c:Nat,r=(c:Int)∧c<a.caches.length∧f∈Lf a c p):=by
 have hcl:=h.al.c
 obtain ⟨r,q,s⟩:=zT5 h (f:=f) hp a.caches.length z8 0 (by omega) (by unfold z8; omega)
 obtain ⟨r',q',s'⟩:=zSt h (f:=f) hp a.caches.length z8 0 (by omega) (by unfold z8; omega)
 obtain ⟨x,u,v⟩:=zZW h (f:=f) hp a.caches.length z8 0 (by omega) (by unfold z8; omega)
 obtain ⟨x',u',v'⟩:=zZF h (f:=f) hp a.caches.length z8 0 (by omega) (by unfold z8; omega)
 have e:=Option.some.inj (q.symm.trans u)
 have e':=Option.some.inj (q'.symm.trans u')
 subst e e'
 rw [List.drop_zero] at s s'
 have hex:(∃ c,c∈a.caches∧f∈at_ c.lists (p:Int)) ↔ ∃ c,c<a.caches.length∧f∈Lf a c p:=by
  constructor
  ·rintro ⟨c,h1,h2⟩
   obtain ⟨d,hd,e⟩:=List.getElem_of_mem h1
   exact ⟨d,hd,by unfold Lf; rw [zEz hd,e]; exact h2⟩
  ·rintro ⟨c,h1,h2⟩
   exact ⟨_,zAx h1,h2⟩
 rw [hex] at s s'
 have hrr:r'=r:=by
  rcases v with v | ⟨c,v1,v2,v3⟩
  ·rcases v' with v' | ⟨c',v1',v2',v3'⟩
   ·rw [v,v']
   ·have:=s.2 ⟨c',v2',v3'⟩; omega
  ·rcases v' with v' | ⟨c',v1',v2',v3'⟩
   ·have:=s'.2 ⟨c,v2,v3⟩; omega
   ·rw [v1,v1',(hw.dis c c' p p f v2 v2' v3 v3').1]
 subst hrr
 refine ⟨r',?_,q',?_⟩
 ·unfold zCN zAV
  rw [z0i,q]
  rfl
 ·rcases v with v | v
  ·exact .inl ⟨v,fun c hc hm=>by have:=s.2 ⟨c,hc,hm⟩; omega⟩
  ·exact .inr v
theorem zZX (h:Wa a) {c p:Nat} {f:Int} (hc:c<a.caches.length) (hp:p<a.zones.length):Wa (upd a c p (wo f (Lf a c p)) (Zn a p)):=by
 have hs:∀ g,g∈wo f (Lf a c p)→g∈Lf a c p:=fun g hg=>(List.mem_filter.1 hg).1
 refine zNq h hc hp (h.zs p hp) ⟨rfl,rfl,rfl,rfl,rfl⟩ ?_ ((h.nd c p hc).sublist List.filter_sublist) (fun g hg=>h.own c p g hc (hs g hg)) (fun d g hd hdc hg=>⟨fun hm=>hdc (h.dis d c p p g hd hc hg (hs g hm)).1,(h.own d p g hd hg).2⟩)
 have h1:=h.lim c p hc
 have h2:(wo f (Lf a c p)).length≤(Lf a c p).length:=List.length_filter_le _ _
 omega
def zEL (c:Nat):Nat→Nat→zH→zH
 | 0,_,a=>a
 | m+1,p,a=>zEL c m (p+1) (zFb a c p)
def zKy:Nat→Nat→zH→zH
 | 0,_,a=>a
 | m+1,c,a=>zKy m (c+1) (zEL c a.zones.length 0 a)
theorem zOG {c:Nat}:∀ (m p:Nat) {b:zH},Wa b→c<b.caches.length→p+m≤b.zones.length→Wa (zEL c m p b)∧(zEL c m p b).caches.length=b.caches.length∧(zEL c m p b).zones.length=b.zones.length
 | 0,_,b,h,_,_=>⟨h,rfl,rfl⟩
 | m+1,p,b,h,hc,hp=>by
  obtain ⟨_,_,d3⟩:=zJX h hc (show p<b.zones.length by omega)
  obtain ⟨r1,r2,r3⟩:=zOG (c:=c) m (p+1) d3 (by rw [zDL.1]; exact hc) (by rw [zDL.2]; omega)
  exact ⟨r1,r2.trans zDL.1,r3.trans zDL.2⟩
theorem zYV {c K:Nat} {l3:List zY} {se:Int→List Int→Int→Int→List zY→List zK→Option zH} (hl:l3.length=K) (hK:K≤1000) (hcK:c≤1000):∀ (m n i:Nat) (b:zH),i+m=K→m<n→Wa b→b.zones.length=K→c<b.caches.length →
  zDm se (c:Int) l3 n (i:Int) b.nodes b.batch b.high b.zones b.caches=se ((c+1:Nat):Int) (zEL c m i b).nodes (zEL c m i b).batch (zEL c m i b).high (zEL c m i b).zones (zEL c m i b).caches:=by
 intro m
 induction m with
 | zero =>
  intro n i b h1 h2 hw hb hc
  obtain ⟨n,rfl⟩:=ex1 ‹_<n›
  show zB3 _ _ _ _ _ _ _ _ _ _=_
  unfold zB3 zFF
  rw [zg (df (by omega)),zP (zu (by omega))]
  rfl
 | succ m ih =>
  intro n i b h1 h2 hw hb hc
  obtain ⟨n,rfl⟩:=ex1 ‹_<n›
  obtain ⟨d1,d2,d3⟩:=zJX hw hc (p:=i) (by omega)
  have q:=ih n (i+1) (zFb b c i) (by omega) (by omega) d3 (zDL.2.trans hb) (by rw [zDL.1]; exact hc)
  show zB3 _ _ _ _ _ _ _ _ _ _=_
  unfold zB3
  rw [zz (dt (by omega)),show (⟨b.nodes,b.batch,b.high,b.zones,b.caches⟩:zH)=b from rfl,d1,zAp,zP (zu (by omega)),show zEL c (m+1) i b=zEL c m (i+1) (zFb b c i) from rfl]
  exact q
theorem zW3 {K:Nat} {x:zH} (hx:x.caches.length=K) (hK:K≤100):∀ (m n c:Nat) (b:zH),c+m=K→m<n→Wa b→b.caches.length=K →
  zBP x n (c:Int) b.nodes b.batch b.high b.zones b.caches=some (zKy m c b):=by
 intro m
 induction m with
 | zero =>
  intro n c b h1 h2 hw hb
  obtain ⟨n,rfl⟩:=ex1 ‹_<n›
  show zCL _ _ _ _ _ _ _ _=_
  unfold zCL
  rw [zg (df (by omega))]
  rfl
 | succ m ih =>
  intro n c b h1 h2 hw hb
  obtain ⟨n,rfl⟩:=ex1 ‹_<n›
  have hz:=hw.zn
  obtain ⟨r1,r2,r3⟩:=zOG (c:=c) b.zones.length 0 hw (by omega) (by omega)
  show zCL _ _ _ _ _ _ _ _=_
  unfold zCL
  rw [zz (dt (by omega)),z0i,zYV rfl (by omega) (by omega) b.zones.length z8 0 b (by omega) (by unfold z8; omega) hw rfl (by omega)]
  exact ih n (c+1) _ (by omega) (by omega) r1 (by omega)
end
end Go.Proofs.Ytplkliakhdkpcaa
namespace Go.Proofs.Ytplkliakhdkpcaa
open Go Go.RowKit Go.Wk Go.Am
theorem zXs {z:zY} (hr:ranges z=true):∀ (l:List Int) (d:List Bool),d.length=256→(∀ f,f∈l→inZ z f=true∧zKQ z f=false∧d.getD f.toNat false=false)→l.Nodup→(feL z d l).1=0
 | [],d,_,_,_=>rfl
 | f::r,d,hd,h,hn=>by
  have hf:=h f (by simp)
  have hb:=zMu hr hf.1
  have hn':=List.nodup_cons.1 hn
  unfold feL
  rw [if_pos hf.1,if_neg (by rw [hf.2.1,hf.2.2]; simp)]
  refine zXs hr r _ (by rw [List.length_set]; exact hd) (fun g hg => ?_) hn'.2
  have hg':=h g (by simp [hg])
  have hbg:=zMu hr hg'.1
  refine ⟨hg'.1,hg'.2.1,?_⟩
  rw [zBt _ _ _ (by omega),if_neg (fun e=>hn'.1 (by rw [show f=g by omega]; exact hg))]
  exact hg'.2.2
theorem zYO:∀ (zs:List zY) (ls:List (List Int)) (d:List Bool),(∀ z,z∈zs→ranges z=true)→ls.length=zs.length→d.length=256 →
  (∀ (p:Nat) z l,zs[p]?=some z→ls[p]?=some l→(∀ f,f∈l→inZ z f=true∧zKQ z f=false∧d.getD f.toNat false=false)∧l.Nodup) →
  (∀ (p q:Nat) l m f,ls[p]?=some l→ls[q]?=some m→f∈l→f∈m→p=q)→(feC d zs ls).1=0
 | [],[],d,_,_,_,_,_=>rfl
 | [],_::_,_,_,hl,_,_,_=>by simp at hl
 | _::_,[],_,_,hl,_,_,_=>by simp at hl
 | z::zs,l::ls,d,hr,hl,hd,h,hq=>by
  have hrz:=hr z (by simp)
  have h0:=h 0 z l rfl rfl
  have e0:=zXs hrz l d hd h0.1 h0.2
  obtain ⟨j1,j2,j3⟩:=zTP hrz l d hd e0
  unfold feC
  rw [if_pos e0]
  refine zYO zs ls _ (fun y hy=>hr y (by simp [hy])) (by simpa using hl) (by rw [zMS]; exact hd) (fun p y m hy hm => ?_) (fun p q a b f ha hb hfa hfb => ?_)
  ·have h1:=h (p+1) y m (by simpa using hy) (by simpa using hm)
   refine ⟨fun f hf => ?_,h1.2⟩
   have h2:=h1.1 f hf
   refine ⟨h2.1,h2.2.1,Bool.eq_false_iff.2 fun ht => ?_⟩
   have hb:=zMu (hr y (List.mem_of_getElem? (i:=p+1) (by simpa using hy))) h2.1
   rcases (j3 f.toNat).1 ht with h3 | h3
   ·rw [h2.2.2] at h3; cases h3
   ·rw [zQX hb.1] at h3
    exact absurd (hq 0 (p+1) l m f rfl (by simpa using hm) h3 hf) (by omega)
  ·have:=hq (p+1) (q+1) a b f (by simpa using ha) (by simpa using hb) hfa hfb
   omega
theorem zYa {zs:List zY} (hr:∀ z,z∈zs→ranges z=true):∀ (cs:List zK) (d:List Bool),(∀ c,c∈cs→c.lists.length=zs.length)→d.length=256 →
  (∀ c,c∈cs → ∀ (p:Nat) z l,zs[p]?=some z→c.lists[p]?=some l→(∀ f,f∈l→inZ z f=true∧zKQ z f=false∧d.getD f.toNat false=false)∧l.Nodup) →
  (∀ c,c∈cs → ∀ (p q:Nat) l m f,c.lists[p]?=some l→c.lists[q]?=some m→f∈l→f∈m→p=q) →
  (∀ (i j:Nat) x y l m f,cs[i]?=some x→cs[j]?=some y→l∈x.lists→m∈y.lists→f∈l→f∈m→i=j)→feA zs d cs=0
 | [],_,_,_,_,_,_=>rfl
 | c::cs,d,hl,hd,h1,h2,h3=>by
  have hcl:=hl c (by simp)
  have e0:=zYO zs c.lists d hr hcl hd (h1 c (by simp)) (h2 c (by simp))
  obtain ⟨j1,j2,j3,j4⟩:=zVg zs c.lists d hr hcl hd e0
  unfold feA
  rw [if_pos e0]
  refine zYa hr cs _ (fun x hx=>hl x (by simp [hx])) (by rw [zQ3]; exact hd) (fun x hx p z l hz hxl => ?_) (fun x hx=>h2 x (by simp [hx])) (fun i j x y l m f hi hj=>fun a1 a2 a3 a4 => ?_)
  ·have h4:=h1 x (by simp [hx]) p z l hz hxl
   refine ⟨fun f hf => ?_,h4.2⟩
   have h5:=h4.1 f hf
   refine ⟨h5.1,h5.2.1,Bool.eq_false_iff.2 fun ht => ?_⟩
   have hb:=zMu (hr z (List.mem_of_getElem? hz)) h5.1
   rcases (j3 f.toNat).1 ht with h6 | ⟨m,h6,h7⟩
   ·rw [h5.2.2] at h6; cases h6
   ·rw [zQX hb.1] at h7
    obtain ⟨i,hi,e⟩:=List.getElem_of_mem hx
    exact absurd (h3 0 (i+1) c x m l f rfl (by simp [hi,e]) h6 (List.mem_of_getElem? hxl) h7 hf) (by omega)
  ·have:=h3 (i+1) (j+1) x y l m f (by simpa using hi) (by simpa using hj) a1 a2 a3 a4
   omega
theorem zZh {h zn:Int}:∀ {cs:List zK},(∀ c,c∈cs→pcR c zn=0 ∧ ∀ l,l∈c.lists→(l.length:Int)≤h)→cE h zn cs=0
 | [],_=>rfl
 | c::cs,hh=>by
  have h0:=hh c (by simp)
  unfold cE
  rw [if_pos h0.1,if_neg (fun e=>by
   obtain ⟨l,hl,hd⟩:=List.any_eq_true.1 e
   have:=h0.2 l hl
   have:=of_decide_eq_true hd
   omega)]
  exact zZh (fun x hx=>hh x (by simp [hx]))
section
variable {a b:zH} {c p:Nat}
theorem Wa.lst_at (h:Wa a) (hc:c<a.caches.length) {l:List Int} (hl:l∈(at_ a.caches (c:Int)).lists):∃ p,p<a.zones.length∧l=Lf a c p:=by
 obtain ⟨p,hp,e⟩:=List.getElem_of_mem hl
 exact ⟨p,by rw [← h.cl c hc]; exact hp,by unfold Lf; rw [zEz hp,e]⟩
theorem zYe (h:Wa a):zY7 a=0:=by
 have h1:=h.n
 have h2:=h.zn
 have h3:=h.bh
 have h4:=h.cn
 have hr:∀ z,z∈a.zones→ranges z=true:=fun z hz=>zFi (h.va.chk hz)
 have hf:zVN a.nodes a.batch a.high (a.zones.length:Int)=true:=by
  unfold zVN zL8
  rw [df (by omega),df (by omega),df (by omega),df (by omega),df (by omega),df (by omega),df (by omega)]
  rw [show a.nodes.any zPJ=false from List.any_eq_false.2 fun v hv=>by
   have:=h.nr v hv
   unfold zPJ
   rw [df (by omega),df (by omega)]
   simp]
  rfl
 have hi:∀ (i:Nat) x,a.caches[i]?=some x→i<a.caches.length∧x=at_ a.caches (i:Int):=fun i x e=>⟨(List.getElem?_eq_some_iff.1 e).1,(zXl e).symm⟩
 unfold zY7
 rw [if_pos hf,if_pos h.se,if_pos (by omega),if_pos (zZh fun x hx => ?_)]
 ·refine zYa hr a.caches zE8 h.va.len zJ4 (fun x hx q z l hz hl => ?_) (fun x hx q r l m f hl hm hfl hfm => ?_) (fun i j x y l m f hx hy hl hm hfl hfm => ?_)
  ·obtain ⟨i,hxi,e⟩:=List.getElem_of_mem hx
   have ex:x=at_ a.caches (i:Int):=by rw [zEz hxi,e]
   subst ex
   have hq:=(List.getElem?_eq_some_iff.1 hz).1
   have el:l=Lf a i q:=(zXl hl).symm
   have ez:z=Zn a q:=(zXl hz).symm
   subst el
   subst ez
   refine ⟨fun f hfm => ?_,h.nd i q hxi⟩
   have ho:=h.own i q f hxi hfm
   have hk:=(h.zs q hq).zk
   refine ⟨(zQY (h.zs q hq).ranges).2 ho.1,Bool.eq_false_iff.2 fun ht=>ho.2 ((zRh hk (zCt (h.zs q hq)) ho.1).1 ht),?_⟩
   unfold zE8
   rw [List.getD_eq_getElem?_getD,List.getElem?_replicate]
   split <;> rfl
  ·obtain ⟨i,hxi,e⟩:=List.getElem_of_mem hx
   have ex:x=at_ a.caches (i:Int):=by rw [zEz hxi,e]
   subst ex
   have e1:l=Lf a i q:=(zXl hl).symm
   have e2:m=Lf a i r:=(zXl hm).symm
   subst e1
   subst e2
   exact (h.dis i i q r f hxi hxi hfl hfm).2
  ·obtain ⟨hi1,e1⟩:=hi i x hx
   obtain ⟨hj1,e2⟩:=hi j y hy
   subst e1
   subst e2
   obtain ⟨q,_,el⟩:=h.lst_at hi1 hl
   obtain ⟨r,_,em⟩:=h.lst_at hj1 hm
   subst el
   subst em
   exact (h.dis i j q r f hi1 hj1 hfl hfm).1
 ·obtain ⟨i,hxi,e⟩:=List.getElem_of_mem hx
  have ex:x=at_ a.caches (i:Int):=by rw [zEz hxi,e]
  subst ex
  refine ⟨(h.pc hxi).r,fun l hl => ?_⟩
  obtain ⟨q,_,el⟩:=h.lst_at hxi hl
  subst el
  exact h.lim i q hxi
theorem zNH (h:Wa a):zAm a=some 0:=by rw [zX8 h.al,zYe h]
structure Shp (a b:zH):Prop where
 n:b.nodes=a.nodes
 ba:b.batch=a.batch
 hi:b.high=a.high
 cl:b.caches.length=a.caches.length
 zl:b.zones.length=a.zones.length
 z:∀ p,p<a.zones.length→zEi (Zn b p) (Zn a p)
theorem Shp.refl:Shp a a:=⟨rfl,rfl,rfl,rfl,rfl,fun _ _=>⟨rfl,rfl,rfl,rfl,rfl⟩⟩
theorem Shp.trans {d:zH} (h:Shp a b) (g:Shp b d):Shp a d:=⟨g.n.trans h.n,g.ba.trans h.ba,g.hi.trans h.hi,g.cl.trans h.cl,g.zl.trans h.zl,fun p hp=>(g.z p (by rw [h.zl]; exact hp)).trans (h.z p hp)⟩
def FrP (a:zH) (p:Nat) (f:Int):Prop:=cov (Zn a p) f ∨ ∃ c,c<a.caches.length∧f∈Lf a c p
theorem FrP.ins (h:Wa a) (hp:p<a.zones.length) {f:Int} (hf:FrP a p f):inside (Zn a p) f 0=true:=by
 rcases hf with ⟨k,x,hx,h1,h2⟩ | ⟨d,hd,hm⟩
 ·have ho:=h.zs p hp
  have hb:=zAR ho.ranges (ho.ins k x hx)
  have h3:=(zAs ho.ranges).1 (ho.ins k x hx)
  refine (zAs ho.ranges).2 ⟨by omega,?_,?_,?_⟩
  ·rw [pw0]; omega
  ·rw [pw0]; have:=zAz ho.ranges; omega
  ·rw [pw0]; omega
 ·exact (h.own d p f hd hm).1
def Frs (a b:zH) (p:Nat) (P:Int→Prop):Prop:=(∀ g,FrP b p g↔P g) ∧ ∀ q,q≠p→q<a.zones.length → ∀ g,FrP b q g↔FrP a q g
theorem zLh (h:Wa a) (hc:c<a.caches.length) (hp:p<a.zones.length) {l:List Int} {z:zY} (h5:zEi z (Zn a p)) {P:Int→Prop} (hP:∀ g,(cov z g∨g∈l ∨ ∃ d,d<a.caches.length∧d≠c∧g∈Lf a d p)↔P g):Shp a (upd a c p l z)∧Frs a (upd a c p l z) p P:=by
 have hZ:=fun q=>zSE (c:=c) (l:=l) (z:=z) hp q
 have hL:=fun d q=>zR9 (l:=l) (z:=z) h hc hp d q
 have hcl:(upd a c p l z).caches.length=a.caches.length:=List.length_set
 refine ⟨⟨rfl,rfl,rfl,hcl,List.length_set,fun q hq => ?_⟩,fun g => ?_,fun q hq hql g => ?_⟩
 ·rw [hZ q]
  by_cases e:q=p
  ·rw [if_pos e,e]; exact h5
  ·rw [if_neg e]; exact ⟨rfl,rfl,rfl,rfl,rfl⟩
 ·rw [← hP g]
  unfold FrP
  rw [hcl,hZ p,if_pos rfl]
  constructor
  ·rintro (h1 | ⟨d,h1,h2⟩)
   ·exact .inl h1
   ·rw [hL] at h2
    by_cases e:d=c
    ·rw [if_pos ⟨e,rfl⟩] at h2; exact .inr (.inl h2)
    ·rw [if_neg (fun x=>e x.1)] at h2; exact .inr (.inr ⟨d,h1,e,h2⟩)
  ·rintro (h1 | h1 | ⟨d,h1,e,h2⟩)
   ·exact .inl h1
   ·exact .inr ⟨c,hc,by rw [hL,if_pos ⟨rfl,rfl⟩]; exact h1⟩
   ·exact .inr ⟨d,h1,by rw [hL,if_neg (fun x=>e x.1)]; exact h2⟩
 ·unfold FrP
  rw [hcl,hZ q,if_neg hq]
  constructor
  ·rintro (h1 | ⟨d,h1,h2⟩)
   ·exact .inl h1
   ·rw [hL,if_neg (fun x=>hq x.2)] at h2; exact .inr ⟨d,h1,h2⟩
  ·rintro (h1 | ⟨d,h1,h2⟩)
   ·exact .inl h1
   ·exact .inr ⟨d,h1,by rw [hL,if_neg (fun x=>hq x.2)]; exact h2⟩
theorem zIZ (hc:c<a.caches.length) {g:Int}:FrP a p g↔cov (Zn a p) g∨g∈Lf a c p ∨ ∃ d,d<a.caches.length∧d≠c∧g∈Lf a d p:=by
 unfold FrP
 constructor
 ·rintro (h | ⟨d,h1,h2⟩)
  ·exact .inl h
  ·by_cases e:d=c
   ·subst e; exact .inr (.inl h2)
   ·exact .inr (.inr ⟨d,h1,e,h2⟩)
 ·rintro (h | h | ⟨d,h1,_,h2⟩)
  ·exact .inl h
  ·exact .inr ⟨c,hc,h⟩
  ·exact .inr ⟨d,h1,h2⟩
def zPh (a b:zH):Prop:=Wa b∧Shp a b ∧ ∀ q,q<a.zones.length → ∀ g,FrP b q g↔FrP a q g
theorem zPh.refl (h:Wa a):zPh a a:=⟨h,Shp.refl,fun _ _ _=>Iff.rfl⟩
theorem zPh.trans {d:zH} (h:zPh a b) (g:zPh b d):zPh a d:=⟨g.1,h.2.1.trans g.2.1,fun q hq x=>(g.2.2 q (by rw [h.2.1.zl]; exact hq) x).trans (h.2.2 q hq x)⟩
theorem zT8 (hb:Wa b) (h:Shp a b) (hf:Frs a b p (FrP a p)):zPh a b:=⟨hb,h,fun q hq g=>by
 by_cases e:q=p
 ·subst e; exact hf.1 g
 ·exact hf.2 q e hq g⟩
theorem zSB (h:Wa a) (hc:c<a.caches.length) (hp:p<a.zones.length) (hl:Lf a c p=[]):zPh a (zSW a c p):=by
 obtain ⟨r1,r2,r3,r4,r5,r6⟩:=zQ1 a.batch.toNat (h.zs p hp)
 obtain ⟨s1,s2⟩:=zLh h hc hp (l:=Lf a c p++(refl a.batch.toNat (Zn a p)).2.reverse) r2 (P:=FrP a p) (fun g=>by
  rw [zIZ hc,r6,hl,List.nil_append,List.mem_reverse]
  constructor
  ·rintro (h1 | h1 | h1)
   ·exact .inl h1.1
   ·exact .inl (r5 g h1).2
   ·exact .inr (.inr h1)
  ·rintro (h1 | h1 | h1)
   ·by_cases hg:g∈(refl a.batch.toNat (Zn a p)).2
    ·exact .inr (.inl hg)
    ·exact .inl ⟨h1,hg⟩
   ·cases h1
   ·exact .inr (.inr h1))
 exact zT8 (zIa h hc hp hl).2.2 s1 s2
theorem zMe (h:Wa a) (hc:c<a.caches.length) (hp:p<a.zones.length):zPh a (zFb a c p):=by
 obtain ⟨g1,g2,g3⟩:=zKv (Lf a c p) (h.zs p hp) (fun f hf=>h.own c p f hc hf) (h.nd c p hc)
 obtain ⟨s1,s2⟩:=zLh h hc hp (l:=[]) g3 (P:=FrP a p) (fun g=>by
  rw [zIZ hc,g2]
  constructor
  ·rintro ((h1 | h1) | h1 | h1)
   ·exact .inl h1
   ·exact .inr (.inl h1)
   ·cases h1
   ·exact .inr (.inr h1)
  ·rintro (h1 | h1 | h1)
   ·exact .inl (.inl h1)
   ·exact .inl (.inr h1)
   ·exact .inr (.inr h1))
 exact zT8 (zJX h hc hp).2.2 s1 s2
theorem zQV:∀ (m i:Nat) {a:zH},Wa a→i+m≤a.caches.length→p<a.zones.length→zPh a (zAn p m i a)
 | 0,i,a,h,_,_=>zPh.refl h
 | m+1,i,a,h,hm,hp=>by
  have hs:=zMe h (c:=i) (by omega) hp
  exact hs.trans (zQV m (i+1) hs.1 (by rw [zDL.1]; omega) (by rw [zDL.2]; exact hp))
theorem zPf:∀ (m q:Nat) {b:zH},Wa b→c<b.caches.length→q+m≤b.zones.length→zPh b (zEL c m q b)
 | 0,q,b,h,_,_=>zPh.refl h
 | m+1,q,b,h,hc,hm=>by
  have hs:=zMe h hc (p:=q) (by omega)
  exact hs.trans (zPf m (q+1) hs.1 (by rw [zDL.1]; exact hc) (by rw [zDL.2]; omega))
theorem zPa:∀ (m c:Nat) {b:zH},Wa b→c+m≤b.caches.length→zPh b (zKy m c b)
 | 0,c,b,h,_=>zPh.refl h
 | m+1,c,b,h,hm=>by
  have hs:=zPf (c:=c) b.zones.length 0 h (by omega) (by omega)
  exact hs.trans (zPa m (c+1) hs.1 (by rw [hs.2.1.cl]; omega))
theorem zVS:∀ (m q:Nat) {b:zH},Wa b→c<b.caches.length→q+m≤b.zones.length → ∀ d r,Lf (zEL c m q b) d r=if d=c∧q≤r∧r<q+m then [] else Lf b d r
 | 0,q,b,_,_,_,d,r=>by rw [if_neg (by omega)]; rfl
 | m+1,q,b,h,hc,hm,d,r=>by
  have hs:=zMe h hc (p:=q) (by omega)
  show Lf (zEL c m (q+1) (zFb b c q)) d r=_
  rw [zVS m (q+1) hs.1 (by rw [zDL.1]; exact hc) (by rw [zDL.2]; omega),zPK h hc (by omega)]
  by_cases h1:d=c∧q+1≤r∧r<q+1+m
  ·rw [if_pos h1,if_pos (by omega)]
  ·rw [if_neg h1]
   by_cases h2:d=c∧r=q
   ·rw [if_pos h2,if_pos (by omega)]
   ·rw [if_neg h2,if_neg (by omega)]
theorem zVh:∀ (m c:Nat) {b:zH},Wa b→c+m≤b.caches.length → ∀ d r,r<b.zones.length→Lf (zKy m c b) d r=if c≤d∧d<c+m then [] else Lf b d r
 | 0,c,b,_,_,d,r,_=>by rw [if_neg (by omega)]; rfl
 | m+1,c,b,h,hm,d,r,hr=>by
  have hs:=zPf (c:=c) b.zones.length 0 h (by omega) (by omega)
  show Lf (zKy m (c+1) (zEL c b.zones.length 0 b)) d r=_
  rw [zVh m (c+1) hs.1 (by rw [hs.2.1.cl]; omega) d r (by rw [hs.2.1.zl]; exact hr),zVS b.zones.length 0 h (by omega) (by omega)]
  by_cases h1:c+1≤d∧d<c+1+m
  ·rw [if_pos h1,if_pos (by omega)]
  ·rw [if_neg h1]
   by_cases h2:d=c
   ·rw [if_pos ⟨h2,by omega,by omega⟩,if_pos (by omega)]
   ·rw [if_neg (fun x=>h2 x.1),if_neg (by omega)]
theorem zWX (h:Wa a) (hc:c<a.caches.length) (hp:p<a.zones.length):zPh a (a1A a c p):=by
 unfold a1A
 by_cases hl:Lf a c p=[]
 ·rw [if_pos hl]; exact zSB h hc hp hl
 ·rw [if_neg hl]; exact zPh.refl h
theorem zXG (h:Wa a) (hc:c<a.caches.length) (hp:p<a.zones.length):zPh a (a2A a c p):=by
 have s1:=zWX h hc hp
 have hc1:c<(a1A a c p).caches.length:=by rw [s1.2.1.cl]; exact hc
 have hp1:p<(a1A a c p).zones.length:=by rw [s1.2.1.zl]; exact hp
 unfold a2A
 by_cases hl:Lf (a1A a c p) c p=[]
 ·rw [if_pos hl]
  have s2:=zQV (p:=p) (a1A a c p).caches.length 0 s1.1 (by omega) hp1
  obtain ⟨r1,r2,r3,r4,r5,r6,r7⟩:=zI1 (p:=p) (a1A a c p).caches.length 0 s1.1 (by omega) hp1
  have hl2:Lf (zAn p (a1A a c p).caches.length 0 (a1A a c p)) c p=[]:=by
   rw [r5]
   split
   ·rfl
   ·exact hl
  exact s1.trans (s2.trans (zSB s2.1 (by rw [r2]; exact hc1) (by rw [r3]; exact hp1) hl2))
 ·rw [if_neg hl]; exact s1
theorem zWh (h:Wa a) (hc:c<a.caches.length) (hp:p<a.zones.length) (hne:Lf a c p≠[]):Wa (zQK a c p)∧Shp a (zQK a c p)∧Frs a (zQK a c p) p (fun g=>FrP a p g∧g≠zPO (at_ a.caches (c:Int)) p)∧FrP a p (zPO (at_ a.caches (c:Int)) p):=by
 have hpos:0<(Lf a c p).length:=List.length_pos_iff.2 hne
 have hx:zPO (at_ a.caches (c:Int)) p=at_ (Lf a c p) (((Lf a c p).length - 1:Nat):Int):=by
  unfold zPO
  show at_ (Lf a c p) (((Lf a c p).length:Int) - 1)=_
  rw [show (((Lf a c p).length:Int) - 1)=(((Lf a c p).length - 1:Nat):Int) by omega]
 generalize hxx:zPO (at_ a.caches (c:Int)) p=x at hx ⊢
 have hspl:Lf a c p=(Lf a c p).take ((Lf a c p).length - 1)++[x]:=by
  have:=List.take_append_drop ((Lf a c p).length - 1) (Lf a c p)
  rw [zCk (show (Lf a c p).length - 1<(Lf a c p).length by omega), ← hx,List.drop_eq_nil_of_le (by omega)] at this
  exact this.symm
 have hxm:x∈Lf a c p:=by rw [hspl]; simp
 have hnd:=h.nd c p hc
 rw [hspl,List.nodup_append] at hnd
 have ho:=h.own c p x hc hxm
 obtain ⟨s1,s2⟩:=zLh h hc hp (l:=(Lf a c p).take ((Lf a c p).length - 1)) (z:=Zn a p) ⟨rfl,rfl,rfl,rfl,rfl⟩ (P:=fun g=>FrP a p g∧g≠x) (fun g=>by
  rw [zIZ hc]
  have hm:g∈Lf a c p↔g∈(Lf a c p).take ((Lf a c p).length - 1)∨g=x:=by
   conv=>lhs; rw [hspl]
   simp
  rw [hm]
  constructor
  ·rintro (h1 | h1 | ⟨d,h1,h2,h3⟩)
   ·exact ⟨.inl h1,fun e=>ho.2 (e▸h1)⟩
   ·exact ⟨.inr (.inl (.inl h1)),fun e=>hnd.2.2 g h1 x (by simp) e⟩
   ·exact ⟨.inr (.inr ⟨d,h1,h2,h3⟩),fun e=>h2 (h.dis d c p p x h1 hc (e▸h3) hxm).1⟩
  ·rintro ⟨h1 | (h1 | h1) | h1,h2⟩
   ·exact .inl h1
   ·exact .inr (.inl h1)
   ·exact absurd h1 h2
   ·exact .inr (.inr h1))
 have hw:=zXT h hc hp
 rw [zQU hp] at hw ⊢
 exact ⟨hw,s1,s2,.inr ⟨c,hc,hxm⟩⟩
def zXi (a b:zH) (p:Nat) (x:Int):Prop:=Wa b∧Shp a b∧Frs a b p (fun g=>FrP a p g∧g≠x)∧FrP a p x
theorem zUa (h:Wa a) (hc:c<a.caches.length) (hp:p<a.zones.length) (hn:0<zOj a p):zXi a (zL0 a c p).1 p (zL0 a c p).2:=by
 have s:=zXG h hc hp
 obtain ⟨v1,v2,v3,v4⟩:=zXu h hc hp hn
 obtain ⟨t1,t2,t3,t4⟩:=zWh v1 (by rw [v2]; exact hc) (by rw [v3]; exact hp) v4
 refine ⟨t1,s.2.1.trans t2,⟨fun g => ?_,fun q hq hql g => ?_⟩,(s.2.2 p hp _).1 t4⟩
 ·exact (t3.1 g).trans ⟨fun x=>⟨(s.2.2 p hp g).1 x.1,x.2⟩,fun x=>⟨(s.2.2 p hp g).2 x.1,x.2⟩⟩
 ·exact (t3.2 q hq (by rw [v3]; exact hql) g).trans (s.2.2 q hql g)
theorem zW0 (h:Wa a) {f:Int} (hc:c<a.caches.length) (hp:p<a.zones.length) (hi:inside (Zn a p) f 0=true) (hn:¬ FrP a p f):Wa (zQr a c p f)∧Shp a (zQr a c p f)∧Frs a (zQr a c p f) p (fun g=>FrP a p g∨g=f):=by
 have hn1:¬ cov (Zn a p) f:=fun x=>hn (.inl x)
 have hn2:∀ d,d<a.caches.length→f ∉ Lf a d p:=fun d hd x=>hn (.inr ⟨d,hd,x⟩)
 obtain ⟨_,_,_,hw⟩:=zVy h hc hp hi hn1 hn2
 have hx:∀ g,g∈Lf a c p++[f]→inside (Zn a p) g 0=true ∧ ¬ cov (Zn a p) g:=fun g hg=>by
  rcases List.mem_append.1 hg with hg | hg
  ·exact h.own c p g hc hg
  ·rw [List.mem_singleton.1 hg]; exact ⟨hi,hn1⟩
 have hxn:(Lf a c p++[f]).Nodup:=by
  rw [List.nodup_append]
  exact ⟨h.nd c p hc,by simp,fun x hx' y hy e=>by rw [List.mem_singleton.1 hy] at e; rw [e] at hx'; exact hn2 c hc hx'⟩
 refine ⟨hw,?_⟩
 unfold zQr zNR
 by_cases hh:((at_ (at_ a.caches (c:Int)).lists (p:Int)++[f]).length:Int)≤a.high
 ·rw [if_pos hh]
  exact zLh h hc hp (l:=Lf a c p++[f]) (z:=Zn a p) ⟨rfl,rfl,rfl,rfl,rfl⟩ (fun g=>by
   rw [zIZ hc,List.mem_append,List.mem_singleton]
   constructor
   ·rintro (h1 | (h1 | h1) | h1)
    ·exact .inl (.inl h1)
    ·exact .inl (.inr (.inl h1))
    ·exact .inr h1
    ·exact .inl (.inr (.inr h1))
   ·rintro ((h1 | h1 | h1) | h1)
    ·exact .inl h1
    ·exact .inr (.inl (.inl h1))
    ·exact .inr (.inr h1)
    ·exact .inr (.inl (.inr h1)))
 ·rw [if_neg hh]
  obtain ⟨g1,g2,g3⟩:=zKv (((Lf a c p)++[f]).take a.batch.toNat) (h.zs p hp) (fun g hg=>hx g (List.mem_of_mem_take hg)) (hxn.sublist (List.take_sublist _ _))
  exact zLh h hc hp (l:=((Lf a c p)++[f]).drop a.batch.toNat) g3 (fun g=>by
   have hm:(g∈((Lf a c p)++[f]).take a.batch.toNat∨g∈((Lf a c p)++[f]).drop a.batch.toNat)↔g∈Lf a c p∨g=f:=by
    rw [← List.mem_append,List.take_append_drop,List.mem_append,List.mem_singleton]
   rw [zIZ hc,g2]
   constructor
   ·rintro ((h1 | h1) | h1 | h1)
    ·exact .inl (.inl h1)
    ·exact (hm.1 (.inl h1)).elim (fun x => .inl (.inr (.inl x))) .inr
    ·exact (hm.1 (.inr h1)).elim (fun x => .inl (.inr (.inl x))) .inr
    ·exact .inl (.inr (.inr h1))
   ·have key:(g∈Lf a c p∨g=f)→((cov (Zn a p) g∨g∈((Lf a c p)++[f]).take a.batch.toNat)∨g∈((Lf a c p)++[f]).drop a.batch.toNat ∨ ∃ d,d<a.caches.length∧d≠c∧g∈Lf a d p):=fun x=>(hm.2 x).elim (fun y => .inl (.inr y)) (fun y => .inr (.inl y))
    rintro ((h1 | h1 | h1) | h1)
    ·exact .inl (.inl h1)
    ·exact key (.inl h1)
    ·exact .inr (.inr h1)
    ·exact key (.inr h1))
theorem zZS (h:Wa a) {f:Int} (hc:c<a.caches.length) (hp:p<a.zones.length) (hf:f∈Lf a c p):zXi a (upd a c p (wo f (Lf a c p)) (Zn a p)) p f:=by
 have ho:=h.own c p f hc hf
 have hm:∀ g,g∈wo f (Lf a c p)↔g∈Lf a c p∧g≠f:=fun g=>by
  unfold wo
  rw [List.mem_filter]
  simp
 obtain ⟨s1,s2⟩:=zLh h hc hp (l:=wo f (Lf a c p)) (z:=Zn a p) ⟨rfl,rfl,rfl,rfl,rfl⟩ (P:=fun g=>FrP a p g∧g≠f) (fun g=>by
  rw [zIZ hc,hm]
  constructor
  ·rintro (h1 | h1 | ⟨d,h1,h2,h3⟩)
   ·exact ⟨.inl h1,fun e=>ho.2 (e▸h1)⟩
   ·exact ⟨.inr (.inl h1.1),h1.2⟩
   ·exact ⟨.inr (.inr ⟨d,h1,h2,h3⟩),fun e=>h2 (h.dis d c p p f h1 hc (e▸h3) hf).1⟩
  ·rintro ⟨h1 | h1 | h1,h2⟩
   ·exact .inl h1
   ·exact .inr (.inl ⟨h1,h2⟩)
   ·exact .inr (.inr h1))
 exact ⟨zZX h hc hp,s1,s2,.inr ⟨c,hc,hf⟩⟩
theorem zZE (h:Wa a) {f:Int} {y:zY} (hp:p<a.zones.length) (hf:cov (Zn a p) f) (y3:OkZ y) (y4:zEi y (Zn a p)) (y5:∀ g,cov y g↔cov (Zn a p) g∧g≠f):zXi a ⟨a.nodes,a.batch,a.high,a.zones.set p y,a.caches⟩ p f:=by
 have hcn:=h.cn
 have hn1:=h.n
 have hc:0<a.caches.length:=by omega
 have hpl0:=h.cl 0 hc
 have hW:=zNq (l:=Lf a 0 p) (z:=y) h hc hp y3 y4 (h.lim 0 p hc) (h.nd 0 p hc) (fun g hg=>⟨(h.own 0 p g hc hg).1,fun hv=>(h.own 0 p g hc hg).2 ((y5 g).1 hv).1⟩) (fun d g hd hdc hg=>⟨fun hm=>hdc (h.dis d 0 p p g hd hc hg hm).1,fun hv=>(h.own d p g hd hg).2 ((y5 g).1 hv).1⟩)
 have hcl:a.caches.set 0 ⟨(at_ a.caches ((0:Nat):Int)).lists.set p (Lf a 0 p)⟩=a.caches:=by
  have e1:(at_ a.caches ((0:Nat):Int)).lists.set p (Lf a 0 p)=(at_ a.caches ((0:Nat):Int)).lists:=zIu (by rw [hpl0]; exact hp)
  rw [e1]
  exact zIu hc
 have hins:inside (Zn a p) f 0=true:=FrP.ins h hp (.inl hf)
 obtain ⟨s1,s2⟩:=zLh h hc hp (l:=Lf a 0 p) y4 (P:=fun g=>FrP a p g∧g≠f) (fun g=>by
  rw [zIZ hc,y5]
  constructor
  ·rintro (h1 | h1 | ⟨d,h1,h2,h3⟩)
   ·exact ⟨.inl h1.1,h1.2⟩
   ·exact ⟨.inr (.inl h1),fun e=>(h.own 0 p f hc (e▸h1)).2 hf⟩
   ·exact ⟨.inr (.inr ⟨d,h1,h2,h3⟩),fun e=>(h.own d p f h1 (e▸h3)).2 hf⟩
  ·rintro ⟨h1 | h1 | h1,h2⟩
   ·exact .inl ⟨h1,h2⟩
   ·exact .inr (.inl h1)
   ·exact .inr (.inr h1))
 unfold upd at hW s1 s2
 rw [hcl] at hW s1 s2
 exact ⟨hW,s1,s2,.inl hf⟩
end
end Go.Proofs.Ytplkliakhdkpcaa
namespace Go.Proofs.Ytplkliakhdkpcaa
open Go Go.RowKit Go.Wk Go.Am
section
variable {a b:zH} {c p:Nat}
theorem zYm (h:Wa a) {f:Int} (hp:p<a.zones.length) (hi:inside (Zn a p) f 0=true):zIx f a.zones 0=(p:Int):=by
 obtain ⟨_,hap⟩:=zSa h.se
 have:=(zOp f a.zones 0 p hp hap).2 (by rw [← zEz hp]; exact (zQY (h.zs p hp).ranges).2 hi)
 omega
theorem zWw (h:Wa a) {f:Int} (hi:0≤zIx f a.zones 0):∃ p,p<a.zones.length∧inside (Zn a p) f 0=true∧zIx f a.zones 0=(p:Int):=by
 obtain ⟨_,hap⟩:=zSa h.se
 obtain ⟨p,hp⟩:=Int.eq_ofNat_of_zero_le hi
 have hpl:p<a.zones.length:=by
  rcases zTg f a.zones 0 with hq | hq <;> omega
 have:=(zOp f a.zones 0 p hpl hap).1 (by rw [hp]; omega)
 rw [← zEz hpl] at this
 exact ⟨p,hpl,(zQY (h.zs p hpl).ranges).1 this,hp⟩
theorem zUU (h:Wa a) (f:Int):zBz a f=some (zIx f a.zones 0):=zYc h.al (fun z hz=>h.va.chk hz)
theorem zS1 (h:Wa a) (hp:p<a.zones.length):zCf a (p:Int)=some (zOj a p - (Zn a p).min):=by
 obtain ⟨k1,k2,k3,k4⟩:=counts h.va hp
 have hmin:=zVt h.va hp
 unfold zCf
 rw [k1,zAp,zP (zAA hp),zP (zu (by omega))]
 rfl
theorem zT0 (h:Wa a) {f:Int} (hp:p<a.zones.length) (hi:inside (Zn a p) f 0=true):∃ q,zC9 a (p:Int) f=some q∧(q=true↔FrP a p f):=by
 obtain ⟨q,q1,_,q3⟩:=zXv h.va h hp hi
 exact ⟨q,q1,q3⟩
theorem zXL (h:Wa a) {f:Int} (hc:c<a.caches.length) (hp:p<a.zones.length) (hi:inside (Zn a p) f 0=true) (hn:¬ FrP a p f):zCg a (c:Int) f=some (zQr a c p f,0):=by
 obtain ⟨q,q1,q2⟩:=zT0 h hp hi
 have hcn:=h.cn
 have hq:q=false:=Bool.eq_false_iff.2 fun e=>hn (q2.1 e)
 obtain ⟨w1,w2,w3,w4⟩:=zVy h hc hp hi (fun x=>hn (.inl x)) (fun d hd x=>hn (.inr ⟨d,hd,x⟩))
 unfold zCg
 rw [zNH h,zAp,dt rfl,Bool.not_true,zg rfl,zUU h,zYm h hp hi,zAp,zg (by rw [df (by omega),df (by omega),df (by omega)]; rfl),q1,hq,zAp,zg rfl,zP1 h.al,zAp,zP (zAA hc),w1,zAp,dt rfl,Bool.not_true,zg rfl,(w3 _).1,zAp]
 rfl
theorem zWH (h:Wa a) (f:Int):(∃ p b,p<a.zones.length∧zE2 a f=some (b,0)∧zXi a b p f) ∨ ∃ b e,zE2 a f=some (b,e)∧e≠0:=by
 unfold zE2
 rw [zNH h,zAp,dt rfl,Bool.not_true,zg rfl,zUU h,zAp]
 by_cases hd:zIx f a.zones 0<0
 ·rw [zz (dt hd)]
  exact .inr ⟨_,_,rfl,by decide⟩
 ·obtain ⟨p,hp,hi,e⟩:=zWw h (show 0≤zIx f a.zones 0 by omega)
  obtain ⟨q,q1,q2⟩:=zT0 h hp hi
  rw [zg (df hd),e,q1,zAp]
  cases q with
  | false=>exact .inr ⟨_,_,rfl,by decide⟩
  | true =>
   have hfr:=q2.1 rfl
   rw [Bool.not_true,zg rfl,zS1 h hp,zAp]
   by_cases hm:zOj a p - (Zn a p).min<1
   ·rw [zz (dt hm)]
    exact .inr ⟨_,_,rfl,by decide⟩
   ·obtain ⟨r,r1,_,r3⟩:=zXV (f:=f) h.va h hp
    rw [zg (df hm),zP1 h.al,zAp,show (⟨a.nodes,a.batch,a.high,a.zones,a.caches⟩:zH)=a from rfl,r1,zAp]
    rcases r3 with ⟨e,hno⟩ | ⟨c,e,hcl,hfc⟩
    ·subst e
     have hcov:cov (Zn a p) f:=hfr.resolve_right fun ⟨c,c1,c2⟩=>hno c c1 c2
     obtain ⟨y,y1,y2,y3,y4,y5⟩:=zZH (h.zs p hp) hi hcov
     rw [zg (by rfl),zP (zAA hp),show at_ a.zones (p:Int)=Zn a p from rfl,y1,zAp,dt rfl,Bool.not_true,zg rfl]
     exact .inl ⟨p,_,hp,rfl,zZE h hp hcov y3 y4 y5⟩
    ·subst e
     have hll:=h.cl c hcl
     have hplc:p<(at_ a.caches (c:Int)).lists.length:=by omega
     have hlb:(Lf a c p).length≤1000:=by
      have:=h.lim c p hcl
      have:=h.bh
      omega
     have hz:a.zones.set p (Zn a p)=a.zones:=zIu hp
     have hW:=zZS h hcl hp hfc
     unfold upd at hW
     rw [hz] at hW
     rw [zz (dt (by omega)),zP (zAA hcl),zP (zAA hplc),show at_ (at_ a.caches (c:Int)).lists (p:Int)=Lf a c p from rfl,zZx hlb hfc,zAp]
     exact .inl ⟨p,_,hp,rfl,hW⟩
theorem zSN (h:Wa a):zCm a=some (zKy a.caches.length 0 a):=by
 have hcn:=h.cn
 have hn:=h.n
 unfold zCm
 rw [zNH h,zAp,dt rfl,Bool.not_true,zg rfl,zP1 h.al,zAp]
 exact zW3 rfl (by omega) a.caches.length z8 0 a (by omega) (by unfold z8; omega) h rfl
def can (a:zH) (res:Bool) (p:Nat):Prop:=0<zOj a p∧(res=true∨(Zn a p).min<zOj a p)
theorem zZK (h:Wa a) (hc:c<a.caches.length) {res:Bool} {L:List Int} (hL:∀ z,z∈L→Ix a.zones z) (hLl:L.length≤256):∀ (m n i:Nat),i+m=L.length→m<n →
  (∃ p:Nat,(p:Int)∈L.drop i∧p<a.zones.length∧can a res p∧zA6 a (c:Int) res (L,0) n (i:Int)=some ((zL0 a c p).1,(zL0 a c p).2,0)) ∨
  ((∀ p:Nat,(p:Int)∈L.drop i → ¬ can a res p)∧zA6 a (c:Int) res (L,0) n (i:Int)=some (⟨[],0,0,[],[]⟩,0,16)):=by
 intro m
 induction m with
 | zero =>
  intro n i h1 h2
  obtain ⟨n,rfl⟩:=ex1 ‹_<n›
  refine .inr ⟨fun p hp => ?_,?_⟩
  ·rw [List.drop_eq_nil_of_le (by omega)] at hp
   cases hp
  ·show zBS _ _ _ _ _ _=_
   unfold zBS
   rw [zg (df (show ¬ (i:Int)<(L.length:Int) by omega))]
   rfl
 | succ m ih =>
  intro n i h1 h2
  obtain ⟨n,rfl⟩:=ex1 ‹_<n›
  have hi:i<L.length:=by omega
  obtain ⟨p,ep,hp⟩:=hL _ (zAx hi)
  obtain ⟨k1,k2,k3,k4⟩:=counts h.va hp
  have hmin:=zVt h.va hp
  have hroom:zCf a (p:Int)=some (zOj a p - (at_ a.zones (p:Int)).min):=zS1 h hp
  have hx:at_ (L,(0:Int)).1 (i:Int)=(p:Int):=ep
  have hY:can a res p→zA6 a (c:Int) res (L,0) (n+1) (i:Int)=some ((zL0 a c p).1,(zL0 a c p).2,0):=fun hcan=>by
   show zBS _ _ _ _ _ _=_
   unfold zBS zDq
   rw [zz (dt (show (i:Int)<(L.length:Int) by omega)),zP (show inb (i:Int) L.length=true from zAA hi),hx,k1,hroom]
   have hcnt:=hcan.1
   have hpp:=zUY h hc hp hcan.1 hx
   rw [hx] at hpp
   cases res with
   | true =>
    rw [zz rfl,zAp,zg (by rw [Bool.not_true,Bool.and_false]),zAp]
    rw [zg (by rw [df (show ¬ zOj a p=0 by omega)]; rfl),zP1 h.al,zAp]
    exact hpp
   | false =>
    have hmc:(at_ a.zones (p:Int)).min<zOj a p:=hcan.2.resolve_left (fun e=>by cases e)
    rw [zg rfl,zAp,zz (by rfl),zAp]
    rw [zg (by rw [df (show ¬ zOj a p - (at_ a.zones (p:Int)).min<1 by omega)]; rfl),zP1 h.al,zAp]
    exact hpp
  have hN:¬ can a res p→zA6 a (c:Int) res (L,0) (n+1) (i:Int)=zA6 a (c:Int) res (L,0) n ((i+1:Nat):Int):=fun hcan=>by
   show zBS _ _ _ _ _ _=_
   unfold zBS zDq
   rw [zz (dt (show (i:Int)<(L.length:Int) by omega)),zP (show inb (i:Int) L.length=true from zAA hi),hx,k1,hroom]
   cases res with
   | true =>
    have h0:zOj a p=0:=by
     have:¬ 0<zOj a p:=fun x=>hcan ⟨x,.inl rfl⟩
     omega
    rw [zz rfl,zAp,zg (by rw [Bool.not_true,Bool.and_false]),zAp]
    rw [zz (by rw [dt h0]; rfl),zP (zu (by omega))]
    rfl
   | false =>
    have h0:zOj a p - (at_ a.zones (p:Int)).min<1:=by
     refine Int.not_le.1 fun x=>hcan ⟨by omega,.inr ?_⟩
     show (at_ a.zones (p:Int)).min<_
     omega
    rw [zg rfl,zAp,zz (by rfl),zAp]
    rw [zz (by rw [dt h0]; rfl),zP (zu (by omega))]
    rfl
  rw [zCk hi,show at_ L (i:Int)=(p:Int) from ep]
  by_cases hcan:can a res p
  ·exact .inl ⟨p,by simp,hp,hcan,hY hcan⟩
  ·rw [hN hcan]
   rcases ih n (i+1) (by omega) (by omega) with ⟨q,q1,q2⟩ | ⟨q1,q2⟩
   ·exact .inl ⟨q,by simp [q1],q2⟩
   ·refine .inr ⟨fun q hq => ?_,q2⟩
    rcases List.mem_cons.1 hq with e | hq
    ·have:q=p:=by omega
     subst this
     exact hcan
    ·exact q1 q hq
theorem zUu (h:Wa a) (hc:c<a.caches.length) (kern res:Bool) :
  (∃ p:Nat,p<a.zones.length∧zSq a.zones kern (p:Int)=true∧can a res p ∧ ∃ b x,zCJ a (c:Int) kern res=some (b,x,0)∧zXi a b p x) ∨
  ((∀ p:Nat,p<a.zones.length→zSq a.zones kern (p:Int)=true → ¬ can a res p)∧zCJ a (c:Int) kern res=some (⟨[],0,0,[],[]⟩,0,16)):=by
 have hdn:c<a.nodes.length:=by rw [← h.cn]; exact hc
 obtain ⟨L,l1,l2,l3,_⟩:=zYK h.gn (h.vn hdn) kern
 have e:zCJ a (c:Int) kern res=zA6 a (c:Int) res (L,0) z8 ((0:Nat):Int):=by
  unfold zCJ
  rw [zNH h,zAp,dt rfl,Bool.not_true,zg rfl,zg (by rw [df (by omega),df (by omega)]; rfl),zP (zAA hdn),l3,zAp]
  rfl
 rcases zZK h hc (res:=res) (fun z hz=>((l1 z).1 hz).1) l2 L.length z8 0 (by omega) (by unfold z8; omega) with ⟨p,p1,p2,p3,p4⟩ | ⟨p1,p2⟩
 ·rw [List.drop_zero] at p1
  exact .inl ⟨p,p2,((l1 _).1 p1).2,p3,_,_,e.trans p4,zUa h hc p2 p3.1⟩
 ·refine .inr ⟨fun p hp hs=>p1 p ?_,e.trans p2⟩
  rw [List.drop_zero]
  exact (l1 _).2 ⟨⟨p,rfl,hp⟩,hs⟩
end
end Go.Proofs.Ytplkliakhdkpcaa
namespace Go.Proofs.Ytplkliakhdkpcaa
open Go Go.RowKit Go.Wk Go.Am
def zsN:Int→List zAb→List zY
 | _,[]=>[]
 | s,x::r=>(zTM x.node x.kind s x.count x.min).1::zsN (s+x.count) r
def Gp (x:zAb):Prop:=(x.node=0∨x.node=1)∧(x.kind=0∨x.kind=1)∧1≤x.count∧x.count≤20∧0≤x.min∧x.min≤x.count
structure Beg (a:zH):Prop where
 w:Wa a
 c:a.caches.length=2
 z:2≤a.zones.length∧a.zones.length≤3
 k:∀ p,p<a.zones.length→1≤(Zn a p).count∧(Zn a p).count≤20
 v:∀ p,p<a.zones.length → ∀ g,inside (Zn a p) g 0=true→cov (Zn a p) g
 l:∀ c p,c<a.caches.length→Lf a c p=[]
structure Mc (m:zv):Prop where
 c:∀ i,0≤m.counts.getD i 0∧m.counts.getD i 0≤255
 mi:∀ i,0≤m.mins.getD i 0∧m.mins.getD i 0≤255
 b:0≤m.batch∧m.batch≤255
theorem zYC {a:Int} (h0:0≤a) (h1:a≤255):IntKind.u8.wrap a=a:=by
 unfold IntKind.wrap
 simp only [IntKind.bits,IntKind.signed,Bool.false_and,Bool.false_eq_true,if_false]
 omega
theorem zPv {x:zAb} {s:Int} (h:Gp x) (h0:0≤s) (h1:s≤100):(zTM x.node x.kind s x.count x.min).2=0∧OkZ (zTM x.node x.kind s x.count x.min).1∧(∀ g,cov (zTM x.node x.kind s x.count x.min).1 g↔s≤g∧g<s+x.count)∧zEi (zTM x.node x.kind s x.count x.min).1 (zLx x.node x.kind s x.count x.min):=by
 obtain ⟨a1,a2,a3,a4,a5,a6⟩:=h
 have hr:ranges (zLx x.node x.kind s x.count x.min)=true:=by
  unfold ranges zLx
  simp
  omega
 obtain ⟨f1,f2,f3⟩:=zQv hr rfl x.count.toNat (by show _≤x.count; omega)
 unfold zTM
 rw [if_pos hr]
 refine ⟨rfl,f1,fun g=>(f2 g).trans ?_,f3⟩
 show s≤g∧g<s+(x.count.toNat:Int)↔_
 omega
theorem zVV:∀ (l:List zAb) (s:Int),(∀ x,x∈l→Gp x)→0≤s→s+20*(l.length:Int)≤100→zE s (zsN s l)=0∧(∀ z,z∈zsN s l→OkZ z∧(∀ g,cov z g↔z.start≤g∧g<z.start+z.count)∧1≤z.count∧z.count≤20)∧(zsN s l).length=l.length
 | [],_,_,_,_=>⟨rfl,(fun z hz=>by cases hz),rfl⟩
 | x::r,s,h,h0,h1=>by
  have hx:=h x (by simp)
  have hl:((x::r).length:Int)=r.length+1:=by simp
  obtain ⟨g1,g2,g3,g4⟩:=zPv hx h0 (by omega)
  have hc:=hx.2.2
  obtain ⟨i1,i2,i3⟩:=zVV r (s+x.count) (fun y hy=>h y (by simp [hy])) (by omega) (by omega)
  have es:(zTM x.node x.kind s x.count x.min).1.start=s:=g4.2.2.1
  have ec:(zTM x.node x.kind s x.count x.min).1.count=x.count:=g4.2.2.2.1
  refine ⟨?_,fun z hz => ?_,?_⟩
  ·show zE s ((zTM x.node x.kind s x.count x.min).1::zsN (s+x.count) r)=0
   unfold zE
   rw [if_pos (zCt g2),if_pos es,ec]
   exact i1
  ·rcases List.mem_cons.1 hz with rfl | hz
   ·refine ⟨g2,fun g => ?_,by rw [ec]; omega⟩
    rw [es,ec]
    exact g3 g
   ·exact i2 z hz
  ·show (zsN (s+x.count) r).length+1=r.length+1
   rw [i3]
section
variable {nodes d:List Int} {b h:Int} {l:List zAb}
theorem zWD (hG:∀ x,x∈l→Gp x) (hl:l.length≤4):∀ (m n i:Nat) (s:Int) (zs:List zY),i+m=l.length→m<n→zs.length=l.length→0≤s→s+20*(m:Int)≤100 →
  zE0 nodes b h l d n s (i:Int) zs=zEt nodes b h l d (zs.take i++zsN s (l.drop i)):=by
 intro m
 induction m with
 | zero =>
  intro n i s zs h1 h2 h3 h4 h5
  obtain ⟨n,rfl⟩:=ex1 ‹_<n›
  show zCu _ _ _ _ _ _ _ _ _=_
  unfold zCu
  rw [zg (df (by omega)),List.drop_eq_nil_of_le (by omega),List.take_of_length_le (by omega)]
  show _=zEt _ _ _ _ _ (zs++[])
  rw [List.append_nil]
 | succ m ih =>
  intro n i s zs h1 h2 h3 h4 h5
  obtain ⟨n,rfl⟩:=ex1 ‹_<n›
  have hi:i<l.length:=by omega
  have hx:=hG _ (List.getElem_mem hi)
  obtain ⟨g1,g2,g3,g4⟩:=zPv hx h4 (by omega)
  have hc:=hx.2.2
  show zCu _ _ _ _ _ _ _ _ _=_
  unfold zCu
  rw [zz (dt (by omega)),zP (zAA hi),zEz hi,zW4 (zu (by omega)),zAp,dt g1,Bool.not_true,zg rfl,zP (zAA (by omega)),zP (zu (by omega)),zP (zu (by omega)),Int.toNat_natCast,List.drop_eq_getElem_cons hi]
  refine (ih n (i+1) _ _ (by omega) (by omega) (by rw [List.length_set]; exact h3) (by omega) (by omega)).trans ?_
  rw [List.take_add_one,List.getElem?_set_self (by omega),List.take_set_of_le (Nat.le_refl _),List.append_assoc]
  rfl
theorem zXE {zs:List zY} (h1:1≤l.length) (h6:l.length≤6) (hn:nodes.length≤20):∀ (m n i:Nat),i+m=nodes.length→m<n →
  zEp nodes b h l d zs n (i:Int) (List.replicate i ⟨List.replicate l.length []⟩)=some (⟨d,b,h,zs,List.replicate nodes.length ⟨List.replicate l.length []⟩⟩,0):=by
 intro m
 induction m with
 | zero =>
  intro n i h2 h3
  obtain ⟨n,rfl⟩:=ex1 ‹_<n›
  show zCv _ _ _ _ _ _ _ _ _=_
  unfold zCv
  rw [zg (df (by omega)),show i=nodes.length by omega]
  rfl
 | succ m ih =>
  intro n i h2 h3
  obtain ⟨n,rfl⟩:=ex1 ‹_<n›
  have hp:zJh (l.length:Int)=some (⟨List.replicate l.length []⟩,0):=by
   unfold zJh
   rw [df (p:=(l.length:Int)<1) (by omega),df (p:=6<(l.length:Int)) (by omega)]
   refine (zg (by rfl)).trans ?_
   rw [dt (p:=0≤(l.length:Int)) (by omega),dt (p:=(l.length:Int)≤(l.length:Int)) (by omega),dt (p:=(l.length:Int)*(24:Int)≤4294967296) (by omega)]
   rfl
  show zCv _ _ _ _ _ _ _ _ _=_
  unfold zCv
  rw [zz (dt (by omega)),hp,zAp,zP (dt (by rw [List.length_replicate]; show (_+1)*24≤_; omega)),zP (zu (by omega)), ← ih n (i+1) (by omega) (by omega),List.replicate_succ']
  rfl
theorem zX5 (hb:1≤b∧b≤h∧h≤64) (hG:∀ x,x∈l→Gp x) (hl:1≤l.length∧l.length≤3):zCb [0,1] b h l=some (⟨[0,1],b,h,zsN 0 l,List.replicate 2 ⟨List.replicate l.length []⟩⟩,0):=by
 have hf:zVN [0,1] b h (l.length:Int)=true:=by
  unfold zVN zL8
  rw [df (p:=(([0,1]:List Int).length:Int)<1) (by decide),df (p:=4<(([0,1]:List Int).length:Int)) (by decide),df (p:=64<h) (by omega),df (p:=b<1) (by omega),df (p:=h<b) (by omega),df (p:=(l.length:Int)<1) (by omega),df (p:=6<(l.length:Int)) (by omega)]
  rfl
 unfold zCb zAq zGO
 rw [zP (by rfl),zAp,dt (p:=0≤(l.length:Int)) (by omega),dt (p:=(l.length:Int)≤(l.length:Int)) (by omega),dt (p:=(l.length:Int)*(160:Int)≤4294967296) (by omega),zP (by rfl),zOm (by show (2:Nat)≤_; omega),zAp]
 show cnd (!zVN [0,1] b h ((List.replicate (l.length:Int).toNat zKE).length:Int)) _ _=_
 rw [List.length_replicate,Int.toNat_natCast,hf,Bool.not_true,zg rfl]
 refine (zWD (d:=[0,1]) hG (by omega) l.length z8 0 0 (List.replicate l.length zKE) (by omega) (by unfold z8; omega) (by rw [List.length_replicate]) (by omega) (by omega)).trans ?_
 rw [List.take_zero,List.nil_append,List.drop_zero]
 exact zXE (nodes:=[0,1]) hl.1 (by omega) (by show (2:Nat)≤20; omega) 2 z8 0 rfl (by unfold z8; omega)
theorem zWz (hb:1≤b∧b≤h∧h≤64) (hG:∀ x,x∈l→Gp x) (hl:2≤l.length∧l.length≤3):Beg ⟨[0,1],b,h,zsN 0 l,List.replicate 2 ⟨List.replicate l.length []⟩⟩:=by
 obtain ⟨z1,z2,z3⟩:=zVV l 0 hG (by omega) (by omega)
 generalize ha:(⟨[0,1],b,h,zsN 0 l,List.replicate 2 ⟨List.replicate l.length []⟩⟩:zH)=a
 have e1:a.nodes=[0,1]:=by rw [← ha]
 have e2:a.batch=b:=by rw [← ha]
 have e3:a.high=h:=by rw [← ha]
 have e4:a.zones=zsN 0 l:=by rw [← ha]
 have e5:a.caches=List.replicate 2 ⟨List.replicate l.length []⟩:=by rw [← ha]
 have ec:a.caches.length=2:=by rw [e5,List.length_replicate]
 have ez:a.zones.length=l.length:=by rw [e4,z3]
 have hm:∀ p,p<a.zones.length→Zn a p∈zsN 0 l:=fun p hp=>by
  have:=zAx hp
  rw [e4] at this
  unfold Zn
  rw [e4]
  exact this
 have hcl:∀ c,c<a.caches.length→(at_ a.caches (c:Int)).lists=List.replicate l.length []:=fun c hc=>by
  rw [zEz hc]
  have:=List.getElem_mem hc
  rw [show a.caches[c]=⟨List.replicate l.length []⟩ from List.eq_of_mem_replicate (n:=2) (by rw [← e5]; exact this)]
 have hL:∀ c p,c<a.caches.length→Lf a c p=[]:=fun c p hc=>by
  unfold Lf
  rw [hcl c hc]
  by_cases hp:p<(List.replicate l.length ([]:List Int)).length
  ·rw [zEz hp]
   exact List.getElem_replicate ..
  ·exact zVn (by omega)
 have hse:zE 0 a.zones=0:=by rw [e4]; exact z1
 obtain ⟨_,hap⟩:=zSa hse
 have hz:∀ p,p<a.zones.length→OkZ (Zn a p):=fun p hp=>(z2 _ (hm p hp)).1
 refine ⟨⟨by rw [e1]; decide,fun v hv => ?_,hse,by rw [e2,e3]; exact hb,by omega,by rw [ec,e1]; rfl,hz,fun p q f hp hq h1 h2 => ?_,fun c hc=>by rw [hcl c hc,List.length_replicate,ez],fun c p f hc hf => ?_,fun c p hc => ?_,fun c d p q f hc hd h1 h2 => ?_,fun c p hc => ?_⟩,ec,by omega,fun p hp=>(z2 _ (hm p hp)).2.2,fun p hp g hg => ?_,hL⟩
 ·rw [e1] at hv
  simp at hv
  omega
 ·have g1:=(zOp f a.zones 0 p hp hap).2 (by rw [← zEz hp]; exact (zQY (hz p hp).ranges).2 h1)
  have g2:=(zOp f a.zones 0 q hq hap).2 (by rw [← zEz hq]; exact (zQY (hz q hq).ranges).2 h2)
  omega
 ·rw [hL c p hc] at hf; cases hf
 ·rw [hL c p hc]; exact List.nodup_nil
 ·rw [hL c p hc] at h1; cases h1
 ·rw [hL c p hc,e3]; show ((0:Nat):Int)≤h; omega
 ·have hb:=(hz p hp).bds hg
  rw [pw0] at hb
  exact ((z2 _ (hm p hp)).2.1 g).2 ⟨hb.2.2.1,by omega⟩
end
section
variable {m:zv}
theorem tm {x:Int} (h:0≤x) (k:Int):x.tmod k=x%k:=Int.tmod_eq_emod_of_nonneg h
theorem zXX (hm:Mc m) {N:Nat} (hN:N≤3):∀ (k n i:Nat) (l:List zAb),i+k=N→k<n→(∀ x,x∈l→Gp x)→l.length=i → ∃ l',(∀ x,x∈l'→Gp x)∧l'.length=N∧zEV m (N:Int) n (i:Int) l=zGc m l':=by
 intro k
 induction k with
 | zero =>
  intro n i l h1 h2 h3 h4
  obtain ⟨n,rfl⟩:=ex1 ‹_<n›
  refine ⟨l,h3,by omega,?_⟩
  show zFS _ _ _ _ _=_
  unfold zFS
  rw [zg (df (by omega))]
 | succ k ih =>
  intro n i l h1 h2 h3 h4
  obtain ⟨n,rfl⟩:=ex1 ‹_<n›
  have c1:=hm.c i
  have c2:=hm.mi i
  generalize hq1:m.counts.getD i 0=q1 at *
  generalize hq2:m.mins.getD i 0=q2 at *
  have t1:=tm c1.1 20
  have hk:∀ kd:Int,(kd=0∨kd=1) → ∃ l',(∀ x,x∈l'→Gp x)∧l'.length=N∧zGX (zEV m (N:Int) n) m (i:Int) l kd=zGc m l':=fun kd hkd=>by
   have t2:=tm c2.1 (1+q1.tmod 20+1)
   have t3:=tm (show (0:Int)≤(i:Int) by omega) 2
   have hp:0<1+q1.tmod 20+1:=by rw [t1]; omega
   have u1:=Int.emod_nonneg q2 (show 1+q1.tmod 20+1≠0 by omega)
   have u2:=Int.emod_lt_of_pos q2 hp
   obtain ⟨l',i1,i2,i3⟩:=ih n (i+1) (l++[(⟨(i:Int).tmod 2,kd,1+q1.tmod 20,q2.tmod (1+q1.tmod 20+1)⟩:zAb)]) (by omega) (by omega) (fun x hx=>by
    rcases List.mem_append.1 hx with hx | hx
    ·exact h3 x hx
    ·rw [List.mem_singleton.1 hx]
     refine ⟨?_,hkd,?_,?_,?_,?_⟩
     ·show (i:Int).tmod 2=0∨(i:Int).tmod 2=1
      rw [t3]; omega
     ·show 1≤1+q1.tmod 20
      rw [t1]; omega
     ·show 1+q1.tmod 20≤20
      rw [t1]; omega
     ·show 0≤q2.tmod (1+q1.tmod 20+1)
      rw [t2]; exact u1
     ·show q2.tmod (1+q1.tmod 20+1)≤1+q1.tmod 20
      rw [t2]; omega) (by simp; omega)
   refine ⟨l',i1,i2,?_⟩
   rw [← i3]
   unfold zGX
   rw [Int.toNat_natCast,hq1,hq2,zP (zAA (by omega)),zP (dt (zJx (by omega) (by omega))),zP (zu (by rw [t1]; omega)),zP (by rw [df (show ¬ 1+q1.tmod 20+1=0 by omega)]; rfl),zP (dt (by simp; omega)),zP (zu (by omega))]
   rfl
  show ∃ l',_∧_∧zFS _ _ _ _ _=_
  unfold zFS
  rw [zz (dt (by omega)),zP (zAA (by omega)),Int.toNat_natCast,hq1,zP (dt (by rw [t1]; exact zJx (by omega) (by omega))),zP (zu (by rw [t1]; omega))]
  cases m.kinds.getD i false with
  | true=>rw [zz rfl]; exact hk 1 (.inr rfl)
  | false=>rw [zg rfl]; exact hk 0 (.inl rfl)
theorem zY9 (hm:Mc m):∃ a,zHh m=some (a,0)∧Beg a:=by
 have key:∀ N:Nat,2≤N→N≤3 → ∃ a,zHl m (N:Int)=some (a,0)∧Beg a:=fun N h2 h3=>by
  obtain ⟨l,l1,l2,l3⟩:=zXX hm h3 N z8 0 [] (by omega) (by unfold z8; omega) (fun x hx=>by cases hx) rfl
  have hb:=hm.b
  have t1:=tm hb.1 4
  have t2:m.batch.tdiv 4=m.batch/4:=Int.tdiv_eq_ediv_of_nonneg hb.1
  have t3:IntKind.u8.wrap (m.batch.tdiv 4)=m.batch/4:=by rw [t2]; exact zYC (by omega) (by omega)
  have t4:=tm (show 0≤m.batch/4 by omega) 4
  have hB:1≤1+m.batch.tmod 4∧1+m.batch.tmod 4≤1+m.batch.tmod 4+(IntKind.u8.wrap (m.batch.tdiv 4)).tmod 4∧1+m.batch.tmod 4+(IntKind.u8.wrap (m.batch.tdiv 4)).tmod 4≤64:=by
   rw [t3,t1,t4]; omega
  have hn:=zX5 (l:=l) hB l1 (by omega)
  refine ⟨_,?_,zWz hB l1 (by omega)⟩
  show zEV m (N:Int) z8 ((0:Nat):Int) []=_
  rw [l3]
  unfold zGc
  rw [zP (dt (zJx (by rw [t1]; omega) (by rw [t1]; omega))),zP (zu (by rw [t1]; omega)),zP (dt (zJx (by rw [t3,t4]; omega) (by rw [t3,t4]; omega))),zP (zu (by omega)),hn,zAp,zAp,zAp]
 unfold zHh
 cases m.three with
 | true=>rw [zz rfl]; exact key 3 (by omega) (by omega)
 | false=>rw [zg rfl]; exact key 2 (by omega) (by omega)
end
end Go.Proofs.Ytplkliakhdkpcaa
namespace Go.Proofs.Ytplkliakhdkpcaa
open Go Go.RowKit Go.Wk Go.Am
structure Inv (a0 a:zH) (held:List Int):Prop where
 w:Wa a
 s:Shp a0 a
 nd:held.Nodup
 h:∀ f,f∈held → ∃ p,p<a.zones.length∧inside (Zn a p) f 0=true
 fr:∀ p,p<a.zones.length → ∀ g,inside (Zn a p) g 0=true→(FrP a p g↔g ∉ held)
def Gop (x:zA2):Prop:=(0≤x.what∧x.what≤255)∧(0≤x.cpu∧x.cpu≤255)∧(0≤x.pick∧x.pick≤255)
section
variable {a0 a b:zH} {held:List Int}
theorem zXP (h:Beg a):Inv a a []:=⟨h.w,Shp.refl,List.nodup_nil,(fun f hf=>by cases hf),fun p hp g hg=>⟨fun _=>by simp,fun _ => .inl (h.v p hp g hg)⟩⟩
theorem zLp (h:Shp a b) {p:Nat} (hp:p<a.zones.length) (f:Int):inside (Zn b p) f 0=inside (Zn a p) f 0:=(h.z p hp).inside ..
theorem zSI (h:Inv a0 a held) (s:zPh a b):Inv a0 b held:=by
 obtain ⟨s1,s2,s3⟩:=s
 refine ⟨s1,h.s.trans s2,h.nd,fun f hf => ?_,fun p hp g hg => ?_⟩
 ·obtain ⟨p,h1,h2⟩:=h.h f hf
  exact ⟨p,by rw [s2.zl]; exact h1,by rw [zLp s2 h1]; exact h2⟩
 ·rw [s2.zl] at hp
  rw [zLp s2 hp] at hg
  exact (s3 p hp g).trans (h.fr p hp g hg)
theorem zRa (h:Inv a0 a held) {p:Nat} {x:Int} (hp:p<a.zones.length) (t:zXi a b p x):Inv a0 b (held++[x]):=by
 obtain ⟨t1,t2,t3,t4⟩:=t
 have hx:=FrP.ins h.w hp t4
 have hn:=(h.fr p hp x hx).1 t4
 refine ⟨t1,h.s.trans t2,?_,fun f hf => ?_,fun q hq g hg => ?_⟩
 ·rw [List.nodup_append]
  exact ⟨h.nd,by simp,fun y hy z hz e=>by rw [List.mem_singleton.1 hz] at e; rw [e] at hy; exact hn hy⟩
 ·rcases List.mem_append.1 hf with hf | hf
  ·obtain ⟨q,h1,h2⟩:=h.h f hf
   exact ⟨q,by rw [t2.zl]; exact h1,by rw [zLp t2 h1]; exact h2⟩
  ·rw [List.mem_singleton.1 hf]
   exact ⟨p,by rw [t2.zl]; exact hp,by rw [zLp t2 hp]; exact hx⟩
 ·rw [t2.zl] at hq
  rw [zLp t2 hq] at hg
  rw [List.mem_append,List.mem_singleton]
  by_cases e:q=p
  ·subst e
   refine (t3.1 g).trans ?_
   show FrP a q g∧g≠x↔_
   rw [h.fr q hq g hg]
   exact ⟨fun x y=>y.elim x.1 x.2,fun x=>⟨fun y=>x (.inl y),fun y=>x (.inr y)⟩⟩
  ·rw [t3.2 q e hq g,h.fr q hq g hg]
   refine ⟨fun x y=>y.elim x (fun y => ?_),fun x y=>x (.inl y)⟩
   subst y
   exact e (h.w.ap q p g hq hp hg hx)
theorem zUs {i:Nat} (hi:i<held.length):held=held.take i++at_ held (i:Int)::held.drop (i+1):=by
 rw [← zCk hi,List.take_append_drop]
theorem zST (h:Inv a0 a held) {c i:Nat} (hc:c<a.caches.length) (hi:i<held.length):∃ b,zCg a (c:Int) (at_ held (i:Int))=some (b,0)∧Inv a0 b (held.take i++held.drop (i+1)):=by
 obtain ⟨p,hp,hin⟩:=h.h _ (zAx hi)
 have hn:¬ FrP a p (at_ held (i:Int)):=fun x=>(h.fr p hp _ hin).1 x (zAx hi)
 obtain ⟨f1,f2,f3⟩:=zW0 h.w hc hp hin hn
 have hs:=zUs hi
 generalize at_ held (i:Int)=x at *
 have hnd:=h.nd
 rw [hs,List.nodup_append] at hnd
 have hnc:=List.nodup_cons.1 hnd.2.1
 have hm:∀ g,g∈held.take i++held.drop (i+1)↔g∈held∧g≠x:=fun g=>by
  have e:g∈held↔g∈held.take i∨g=x∨g∈held.drop (i+1):=by
   conv=>lhs; rw [hs]
   rw [List.mem_append,List.mem_cons]
  rw [e,List.mem_append]
  constructor
  ·rintro (h1 | h1)
   ·exact ⟨.inl h1,fun q=>hnd.2.2 g h1 x (by simp) q⟩
   ·exact ⟨.inr (.inr h1),fun q=>hnc.1 (q▸h1)⟩
  ·rintro ⟨h1 | h1 | h1,h2⟩
   ·exact .inl h1
   ·exact absurd h1 h2
   ·exact .inr h1
 refine ⟨_,zXL h.w hc hp hin hn,f1,h.s.trans f2,?_,fun f hf => ?_,fun q hq g hg => ?_⟩
 ·rw [List.nodup_append]
  exact ⟨hnd.1,hnc.2,fun y hy z hz=>hnd.2.2 y hy z (by simp [hz])⟩
 ·obtain ⟨q,h1,h2⟩:=h.h f ((hm f).1 hf).1
  exact ⟨q,by rw [f2.zl]; exact h1,by rw [zLp f2 h1]; exact h2⟩
 ·rw [f2.zl] at hq
  rw [zLp f2 hq] at hg
  rw [hm]
  by_cases e:q=p
  ·subst e
   refine (f3.1 g).trans ?_
   show FrP a q g∨g=x↔_
   rw [h.fr q hq g hg]
   constructor
   ·rintro (h1 | h1) ⟨h2,h3⟩
    ·exact h1 h2
    ·exact h3 h1
   ·intro h1
    by_cases e:g=x
    ·exact .inr e
    ·exact .inl fun h2=>h1 ⟨h2,e⟩
  ·rw [f3.2 q e hq g,h.fr q hq g hg]
   refine ⟨fun h1 h2=>h1 h2.1,fun h1 h2=>h1 ⟨h2,fun h3 => ?_⟩⟩
   subst h3
   exact e (h.w.ap q p g hq hp hg hin)
theorem zTz (h:Inv a0 a held):∃ b,zCm a=some b∧Inv a0 b held:=⟨_,zSN h.w,zSI h (zPa a.caches.length 0 h.w (by omega))⟩
theorem zVu {x:Int} (h:0≤x∧x≤255):∃ c:Nat,x.tmod 2=(c:Int)∧c<2:=by
 have:=tm h.1 2
 obtain ⟨c,hc⟩:=Int.eq_ofNat_of_zero_le (show 0≤x.tmod 2 by omega)
 exact ⟨c,hc,by omega⟩
theorem zTK {ops:List zA2} (hops:∀ x,x∈ops→Gop x) (hl:ops.length≤1000) (h0:a0.caches.length=2):∀ (m n i:Nat) (a:zH) (held:List Int),i+m=ops.length→m<n→Inv a0 a held→held.length≤i →
  ∃ b held',zEe ops n (i:Int) a held=some (b,held',true)∧Inv a0 b held'∧held'.length≤ops.length:=by
 intro m
 induction m with
 | zero =>
  intro n i a held h1 h2 h3 h4
  obtain ⟨n,rfl⟩:=ex1 ‹_<n›
  refine ⟨a,held,?_,h3,by omega⟩
  show zEc _ _ _ _ _=_
  unfold zEc
  rw [zg (df (by omega))]
  rfl
 | succ m ih =>
  intro n i a held h1 h2 h3 h4
  obtain ⟨n,rfl⟩:=ex1 ‹_<n›
  have hi:i<ops.length:=by omega
  have hj:∀ (b:zH) (hd:List Int),Inv a0 b hd→hd.length≤i+1 → ∃ b' held',zCC (zEe ops n) (i:Int) b hd=some (b',held',true)∧Inv a0 b' held'∧held'.length≤ops.length:=fun b hd hI hle=>by
   unfold zCC
   rw [zP (zu (by omega))]
   exact ih n (i+1) b hd (by omega) (by omega) hI hle
  obtain ⟨x1,x2,x3⟩:=hops _ (zAx hi)
  show ∃ b held',zEc _ _ _ _ _=_∧_
  unfold zEc
  generalize at_ ops (i:Int)=x at *
  obtain ⟨c,hc,hc2⟩:=zVu x2
  have hcl:c<a.caches.length:=by rw [h3.s.cl,h0]; exact hc2
  rw [zz (dt (by omega)),zP (zAA hi),hc,zP (dt (zJx (by omega) (by omega)))]
  by_cases w3:x.what.tmod 6=3
  ·rw [zz (dt w3)]
   by_cases hz:(held.length:Int)=0
   ·rw [zz (dt hz)]
    exact hj a held h3 (by omega)
   ·have tq:=tm x3.1 (held.length:Int)
    have u1:=Int.emod_nonneg x.pick hz
    have u2:=Int.emod_lt_of_pos x.pick (show (0:Int)<(held.length:Int) by omega)
    obtain ⟨q,hq⟩:=Int.eq_ofNat_of_zero_le (show 0≤x.pick.tmod (held.length:Int) by omega)
    have hql:q<held.length:=by omega
    obtain ⟨b,b1,b2⟩:=zST h3 hcl hql
    have e1:(([]:List Int)++zFP held 0 (q:Int))=held.take q:=rfl
    have e2:zFP held ((q:Int)+1) (held.length:Int)=held.drop (q+1):=by
     unfold zFP
     rw [Int.toNat_natCast,List.take_length]
     rfl
    have e3:(zFP held 0 (q:Int)).length=q:=by
     show (held.take q).length=q
     rw [List.length_take]; omega
    rw [zg (df hz),hq,zP (dt (zJx (by omega) (by omega))),zP (by rw [df hz]; rfl),zP (zAA hql),b1,zAp,dt rfl,Bool.not_true,zg rfl,
     zP (by unfold zHB; rw [dt (by omega),dt (by omega),dt (by omega)]; rfl),zP (dt (by rw [e3]; show (0+q)*8≤_; omega)),zP (zu (by omega)),zP (by unfold zHB; rw [dt (by omega),dt (by omega),dt (by omega)]; rfl),e1,e2,zP (dt (by rw [List.length_take,List.length_drop]; omega))]
    exact hj b _ b2 (by rw [List.length_append,List.length_take,List.length_drop]; omega)
  ·rw [zg (df w3)]
   by_cases w4:x.what.tmod 6=4
   ·obtain ⟨b,b1,b2⟩:=zTz h3
    rw [zz (dt w4),b1,zAp]
    exact hj b held b2 (by omega)
   ·rw [zg (df w4)]
    by_cases w5:x.what.tmod 6=5
    ·rw [zz (dt w5),zP (dt (zJx (by omega) (by omega)))]
     rcases zWH h3.w x.pick with ⟨p,b,b1,b2,b3⟩ | ⟨b,e,b1,b2⟩
     ·rw [b2,zAp,zz (dt rfl),zP (dt (by show (held.length+1)*8≤_; omega))]
      exact hj b _ (zRa h3 b1 b3) (by simp; omega)
     ·rw [b1,zAp,zg (df b2)]
      exact hj a held h3 (by omega)
    ·rw [zg (df w5)]
     rcases zUu h3.w hcl (!decide (x.what.tmod 6=0)) (decide (x.what.tmod 6=2)) with ⟨p,b1,_,_,b,y,b2,b3⟩ | ⟨_,b2⟩
     ·rw [b2,zAp,zz (dt rfl),zP (dt (by show (held.length+1)*8≤_; omega))]
      exact hj b _ (zRa h3 b1 b3) (by simp; omega)
     ·rw [b2,zAp,zg (by rfl),zg (by rfl)]
      exact hj a held h3 (by omega)
theorem zYQ {m:zv} {ops:List zA2} (hm:Mc m) (hops:∀ x,x∈ops→Gop x) (hl:ops.length≤30):∃ a0 a held,zHh m=some (a0,0)∧Beg a0∧zIJ m ops=some (a,held,true)∧Inv a0 a held∧held.length≤30:=by
 obtain ⟨a0,n1,n2⟩:=zY9 hm
 obtain ⟨a,held,p1,p2,p3⟩:=zTK hops (by omega) n2.c ops.length z8 0 a0 [] (by omega) (by unfold z8; omega) (zXP n2) (Nat.le_refl _)
 refine ⟨a0,a,held,n1,n2,?_,p2,by omega⟩
 unfold zIJ
 rw [n1,zAp,dt rfl,Bool.not_true,zg rfl]
 exact p1
end
end Go.Proofs.Ytplkliakhdkpcaa
namespace Go.Proofs.Ytplkliakhdkpcaa
open Go Go.RowKit Go.Wk Go.Am
theorem zS6 {α:Type} [Inhabited α] {l k:List α} (h:l.length=k.length) (hi:∀ i:Nat,i<l.length→at_ l (i:Int)=at_ k (i:Int)):l=k :=
 List.ext_getElem h fun i h1 h2=>by rw [← zEz h1, ← zEz h2]; exact hi i h1
theorem zTv:∀ {x y:zK},x.lists=y.lists→x=y
 | ⟨_⟩,⟨_⟩,rfl=>rfl
theorem zTh:∀ {x y:zH},x.nodes=y.nodes→x.batch=y.batch→x.high=y.high→x.zones=y.zones→x.caches=y.caches→x=y
 | ⟨_,_,_,_,_⟩,⟨_,_,_,_,_⟩,rfl,rfl,rfl,rfl,rfl=>rfl
section
variable {a0 a:zH} {m:zv} {held cpus:List Int}
theorem zV4 (h0:Beg a0) (h:Inv a0 a []) (hl:∀ d r,d<a.caches.length→r<a.zones.length→Lf a d r=[]):a=a0:=by
 have hz:∀ p,p<a0.zones.length→Zn a p=Zn a0 p:=fun p hp=>by
  have hpa:p<a.zones.length:=by rw [h.s.zl]; exact hp
  have h5:=h.s.z p hp
  refine (h.w.zs p hpa).ext (h0.w.zs p hp) h5.1 h5.2.1 h5.2.2.1 h5.2.2.2.1 h5.2.2.2.2 (fun g => ?_)
  constructor
  ·intro hc
   have:=FrP.ins h.w hpa (.inl hc)
   rw [zLp h.s hp] at this
   exact h0.v p hp g this
  ·intro hc
   have hi:=FrP.ins h0.w hp (.inl hc)
   rw [← zLp h.s hp] at hi
   rcases (h.fr p hpa g hi).2 (by simp) with h1 | ⟨d,h1,h2⟩
   ·exact h1
   ·rw [hl d p h1 hpa] at h2; cases h2
 refine zTh h.s.n h.s.ba h.s.hi (zS6 h.s.zl fun p hp=>hz p (by rw [← h.s.zl]; exact hp)) (zS6 h.s.cl fun c hc=>zTv ?_)
 have hc0:c<a0.caches.length:=by rw [← h.s.cl]; exact hc
 have e1:=h.w.cl c hc
 have e2:=h0.w.cl c hc0
 refine zS6 (by rw [e1,e2,h.s.zl]) fun p hp => ?_
 have h1:Lf a c p=[]:=hl c p hc (by rw [← e1]; exact hp)
 have h2:Lf a0 c p=[]:=h0.l c p hc0
 exact h1.trans h2.symm
theorem zTB (h0:Beg a0) (hn:zHh m=some (a0,0)) (hc:∀ x,x∈cpus→0≤x∧x≤255) (hh:held.length≤1000) (x3:zH×List Int×Bool) (hx:x3.2.1=held):∀ (k n i:Nat) (a:zH),i+k=held.length→k<n→Inv a0 a (held.drop i)→zBO m cpus x3 n (i:Int) a=some true:=by
 intro k
 induction k with
 | zero =>
  intro n i a h1 h2 h3
  obtain ⟨n,rfl⟩:=ex1 ‹_<n›
  rw [List.drop_eq_nil_of_le (by omega)] at h3
  have hs:=zPa a.caches.length 0 h3.w (by omega)
  have hI:=zSI h3 hs
  have hl:=zVh a.caches.length 0 h3.w (by omega)
  have e:=zV4 h0 hI (fun d r hd hr=>by
   rw [hl d r (by rw [← hs.2.1.zl]; exact hr),if_pos ⟨Nat.zero_le _,by rw [hs.2.1.cl] at hd; omega⟩])
  show zBN _ _ _ _ _ _=_
  unfold zBN zDZ
  rw [hx,zg (df (by omega)),hn,zAp,dt rfl,zz rfl,zSN h3.w,e,zAp,zz rfl,zX3 h0.w.sm]
  rfl
 | succ k ih =>
  intro n i a h1 h2 h3
  obtain ⟨n,rfl⟩:=ex1 ‹_<n›
  have hi:i<held.length:=by omega
  have hj:∀ c:Nat,c<2→zBg (zBO m cpus x3 n) x3 (i:Int) a (c:Int)=some true:=fun c hc2=>by
   have hd:=zCk hi
   rw [hd] at h3
   obtain ⟨b,b1,b2⟩:=zST h3 (c:=c) (i:=0) (by rw [h3.s.cl,h0.c]; exact hc2) (by simp)
   have b1':zCg a (c:Int) (at_ held (i:Int))=some (b,0):=b1
   unfold zBg
   rw [hx,b1',zAp,dt rfl,Bool.not_true,zg rfl,zP (zu (by omega))]
   exact ih n (i+1) b (by omega) (by omega) b2
  show zBN _ _ _ _ _ _=_
  unfold zBN
  rw [hx,zz (dt (by omega)),zP (zAA hi)]
  by_cases hc':i<cpus.length
  ·obtain ⟨c,e,hc2⟩:=zVu (hc _ (zAx hc'))
   rw [zz (dt (by omega)),zP (zAA hc'),e,zP (dt (zJx (by omega) (by omega)))]
   exact hj c hc2
  ·rw [zg (df (by omega))]
   exact hj 0 (by omega)
theorem zYI {ops:List zA2} (hm:Mc m) (hops:∀ x,x∈ops→Gop x) (hc:∀ x,x∈cpus→0≤x∧x≤255):zEk m ops cpus=some true:=by
 unfold zEk
 rw [zWc,zAp,Bool.not_true,Bool.false_or]
 by_cases hl:30<(ops.length:Int)
 ·rw [zz (dt hl)]
  rfl
 ·obtain ⟨a0,a,held,n1,n2,n3,n4,n5⟩:=zYQ hm hops (show ops.length≤30 by omega)
  rw [zg (df hl),n3,zAp,Bool.not_true,zg rfl]
  exact zTB (held:=held) n2 n1 hc (by omega) (a,held,true) rfl held.length z8 0 a (by omega) (by unfold z8; omega) (by rw [List.drop_zero]; exact n4)
end
end Go.Proofs.Ytplkliakhdkpcaa
namespace Go.Proofs.Ytplkliakhdkpcaa
open Go Go.ChangeShapes Go.WideShapes Go.ChangeAt Go.RowKit Go.Wk Go.Am
theorem own:ownKnob Try.prog.godebug=none:=by kernel_rfl
theorem zWl:laidOutB Try.prog=true:=by kernel_rfl
theorem zZI {n:Int} (h:(Lit.int .u8 n).wf=true):0≤n∧n≤255:=by
 simp [Lit.wf,IntKind.min,IntKind.max,IntKind.signed,IntKind.bits] at h
 omega
theorem zUN {l:List Int} (h:∀ x,x∈l→0≤x∧x≤255) (i:Nat):0≤l.getD i 0∧l.getD i 0≤255:=by
 rw [List.getD_eq_getElem?_getD]
 by_cases hi:i<l.length
 ·rw [List.getElem?_eq_getElem hi]
  exact h _ (List.getElem_mem hi)
 ·rw [List.getElem?_eq_none (by omega)]
  exact ⟨Int.le_refl _,by decide⟩
theorem zXh:RdC Try.prog 5 (cK .u8) (fun n=>0≤n∧n≤255):=RdC.map (zWK Try.underlying5) id (fun _=>rfl) (fun _ h=>zZI h)
theorem zTD:RdC Try.prog 34 (cA 3 (eK .u8) 0) (fun l=>l.length=3 ∧ ∀ x,x∈l→0≤x∧x≤255):=zUK 0 Try.underlying34 (by kernel_rfl) (by kernel_rfl) zXh
theorem zW8:RdC Try.prog 35 (cA 3 eB false) (fun l=>l.length=3 ∧ ∀ x,x∈l→True):=zUK false Try.underlying35 (by kernel_rfl) (by kernel_rfl) (zRq Try.underlying4)
theorem zT7:RdC Try.prog 37 zW Mc :=
 RdC.map (zO4 (tot:=11) Try.underlying37 (by kernel_rfl) (zIw (s:=3) zTD rfl (by kernel_rfl) (zIw (s:=3) zTD rfl (by kernel_rfl) (zIw (s:=3) zW8 rfl (by kernel_rfl) (zIw (s:=1) zXh rfl (by kernel_rfl) (zIw (s:=1) (zRq Try.underlying4) rfl (by kernel_rfl) (zS2 rfl)))))))
  (fun x=>⟨x.1,x.2.1,x.2.2.1,x.2.2.2.1,x.2.2.2.2.1⟩) (fun _=>rfl) (fun _ h=>⟨zUN h.1.2,zUN h.2.1.2,h.2.2.2.1⟩)
theorem zZo:RdC Try.prog 78 zp Gop :=
 RdC.map (zO4 (tot:=3) Try.underlying78 (by kernel_rfl) (zIw (s:=1) zXh rfl (by kernel_rfl) (zIw (s:=1) zXh rfl (by kernel_rfl) (zIw (s:=1) zXh rfl (by kernel_rfl) (zS2 rfl)))))
  (fun x=>⟨x.1,x.2.1,x.2.2.1⟩) (fun _=>rfl) (fun _ h=>⟨h.1,h.2.1,h.2.2.1⟩)
theorem zZO:RdC Try.prog 38 (cS zp) (fun l=>(∀ x,x∈l→Gop x)∧l.length≤140737488351232):=zQf Try.underlying38 (of_decide_eq_true (by kernel_rfl)) (of_decide_eq_true (by kernel_rfl)) zZo
theorem zV5:RdC Try.prog 52 (cS (cK .u8)) (fun l=>(∀ x,x∈l→0≤x∧x≤255)∧l.length≤140737488351232):=zQf Try.underlying52 (of_decide_eq_true (by kernel_rfl)) (of_decide_eq_true (by kernel_rfl)) zXh
set_option maxRecDepth 100000 in
theorem zK3 (os:Os) (started:os.Started) (H:Type) (enc:TypeId×Value→H) :
  ReturnsInHanded {} Try.checked os 7 .any (Rows.allocatorBackSpec.pre6 enc Try.prog Try.f7 Rows.allocatorBackRow.domain false) (Rows.allocatorBackSpec.post enc Try.prog Try.f7 false true false false):=by
 refine returnsInHanded_of_change_sized (C:=Try.checked) own started (by kernel_rfl) Try.func7
  (ChangeSpec.witness6 (enc:=enc) (C:=Try.checked) false ⟨#[], #[.agg #[.int .u8 0,.int .u8 0,.int .u8 0,.int .u8 0,.int .u8 0,.int .u8 0,.bool false,.bool false,.bool false,.int .u8 0,.bool false],.slice none 0 0,.slice none 0 0],[]⟩ 8 (by kernel_rfl) (by kernel_rfl) (by kernel_rfl) (by kernel_rfl)) ?_
 intro W base args ds gs before hval0 hW hcnd0 hsz0 _
 have hsz:(DataW.weightsEach Try.prog (Try.f7.params.toList++Rows.allocatorBackSpec.plain.varTypes Try.prog) (ds++gs)).all (· ≤ reachBytes)=true:=hsz0
 have hval:∀ (j:Nat) t v,Try.f7.params[j]?=some t→args[j]?=some v→Value.okWide Try.prog W .any base t v:=hval0
 clear hcnd0 hsz0 hval0
 have hW':=hW
 obtain ⟨p,q,hA0,hV,rfl,hfz,hnd⟩:=hW
 have hA:DataW.TrodAll enc Try.prog W 0 (fun _=>true) true Try.f7.params.toList args.toList ds p:=hA0
 clear hA0
 rw [Try.params7] at hA hval hsz
 obtain ⟨v0,v1,v2,d0,d1,d2,p0,p1,p2,rfl,rfl,rfl,h0,h1,h2⟩:=trodAll_three hA
 obtain ⟨rfl,rfl⟩:=trodVars_none hV
 simp only [List.append_nil] at hW' hsz
 have hlt:=hW'.lt
 have hwt:∀ (j:Nat) (t:TypeId) (d:DataW H),([37,38,52]:List TypeId)[j]?=some t→[d0,d1,d2][j]?=some d → ∀ n,n∈d.weights Try.prog t→n≤reachBytes:=by
  intro j t d ht hd n hn
  have:=List.all_eq_true.1 hsz n (DataW.weights_mem_each (ts:=[37,38,52]++Rows.allocatorBackSpec.plain.varTypes Try.prog) (by rw [List.getElem?_append_left (by have:=(List.getElem?_eq_some_iff.1 ht).1; exact this)]; exact ht) hd n hn)
  simpa using this
 obtain ⟨xs,rfl,hxs⟩:=okWide_struct Try.underlying37 (hval 0 37 v0 rfl rfl)
 obtain ⟨a1,n1,c1,rfl⟩:=okWide_slice Try.underlying38 (hval 1 38 v1 rfl rfl)
 obtain ⟨a2,n2,c2,rfl⟩:=okWide_slice Try.underlying52 (hval 2 52 v2 rfl rfl)
 obtain ⟨m,r0,hM⟩:=zT7.argA h0 (hwt 0 37 d0 rfl rfl) rfl
 obtain ⟨l,r1,hO⟩:=zZO.arg1 (g:=eS zp) h1 (hwt 1 38 d1 rfl rfl) rfl
 obtain ⟨b,r2,hB⟩:=zV5.arg1 (g:=eS (cK .u8)) h2 (hwt 2 52 d2 rfl rfl) rfl
 have hk:∀ (W':World),Below W.heap.size W W' → ∀ (t:TypeId) (v:Value) (d:DataW H) (ps:List MemPlace),Try.prog.readableRec t=true→t<Try.prog.types.size→DataW.Trod enc Try.prog W 0 (fun _=>true) true t v d ps→(∀ x∈ps,x.block<W.heap.size)→DataW.Trod enc Try.prog W' 0 (fun b=>decide (b<W.heap.size)) true t v d ps :=
  fun W' hb t v d ps hr hs h hl=>Below.trod zWl hr hs h hb hl
 refine (zKI (zYI hM hO.1 hB.1) W noB _ (fun x h=>h.elim) (show VRt W noB [] _ [_,_,_] [] from ?_)).mono ?_
 ·unfold VRt
  refine ⟨_,_,[],[],rfl,rfl,r0,?_⟩
  unfold VRt
  refine ⟨_,_,[],[],rfl,rfl,r1,?_⟩
  unfold VRt
  refine ⟨_,_,[],[],rfl,rfl,r2,?_⟩
  unfold VRt
  exact ⟨rfl,rfl⟩
 ·rintro v W' ⟨fr,hv,_,_,kp⟩
  unfold VR at hv
  obtain ⟨rfl,_⟩:=hv
  have hb:Below W.heap.size W W':=⟨kp.os,kp.tape,kp.output,kp.size,fun k hk=>kp.block k hk id⟩
  refine ⟨_,_,_,[],_,[],hW',trodAll_mk1 (shut_bool Try.underlying4 true),trodAll_mk3 (hk W' hb _ _ _ _ (by kernel_rfl) (of_decide_eq_true (by kernel_rfl)) h0 (fun x hx=>hlt x (by simp [hx]))) (hk W' hb _ _ _ _ (by kernel_rfl) (of_decide_eq_true (by kernel_rfl)) h1 (fun x hx=>hlt x (by simp [hx]))) (hk W' hb _ _ _ _ (by kernel_rfl) (of_decide_eq_true (by kernel_rfl)) h2 (fun x hx=>hlt x (by simp [hx]))),rfl,hb.frame _,fun h=>by cases h⟩
theorem allocatorBack_holds:Rows.AllocatorBackSaid :=
 OpenClaim.holds_of_wide 7 Try.f7 rfl rfl rfl rfl rfl rfl rfl ⟨rfl,rfl,rfl,rfl,rfl⟩ rfl rfl rfl rfl rfl (by kernel_rfl) Try.func7 (by kernel_rfl)
  (of_decide_eq_true (by kernel_rfl)) (by unfold Func.isWrapper; first | (rw [if_pos (by decide +kernel)]; kernel_rfl) | (rw [if_neg (by decide +kernel)]; exact ⟨rfl,rfl⟩))
  (fun os started H enc _=>zK3 os started H enc)
end Go.Proofs.Ytplkliakhdkpcaa
