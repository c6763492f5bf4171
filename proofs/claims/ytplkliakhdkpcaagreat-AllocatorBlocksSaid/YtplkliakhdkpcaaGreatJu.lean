/-
 The statement AllocatorBlocks.
-/
import Derived.Test.YtplkliakhdkpcaaGreatGe
import Derived.Test.YtplkliakhdkpcaaGreatRows
set_option linter.unusedVariables false
set_option linter.unusedSimpArgs false
namespace Go.Proofs.YtplkliakhdkpcaaGreat
open Go Go.RowKit Go.Wk Go.Am
theorem zUE {s:List Int} {f k:Nat} (hk:k≤4) (hs:f+2 ^ k≤s.length) (hl:s.length=256):∀ (m n i:Nat),i+m=f+2 ^ k→m<n→f≤i→(∀ g,f≤g→g<i→s.getD g 0≠0) →
  zIP s (f:Int) (k:Int) n (i:Int)=some (decide (∀ g,g<2 ^ k→s.getD (f+g) 0≠0)):=by
 intro m
 obtain ⟨e,p1,p2⟩:=zJW (k:=k) (by omega)
 have pn:=zMj (k:=k) (by omega)
 induction m with
 | zero =>
  intro n i h1 h2 h3 h4
  obtain ⟨n,rfl⟩:=ex1 ‹_<n›
  show zFu _ _ _ _ _=_
  unfold zFu
  rw [e,zZ (dt (zGo (by omega) (by omega))),zZ (zM7 (by omega)),zZ (z8 (by omega)),zZ (z8 (by omega)),z5 (df (by omega))]
  rw [dt (p := ∀ g,g<2 ^ k→s.getD (f+g) 0≠0) (fun g hg=>h4 (f+g) (by omega) (by omega))]
  rfl
 | succ m ih =>
  intro n i h1 h2 h3 h4
  obtain ⟨n,rfl⟩:=ex1 ‹_<n›
  show zFu _ _ _ _ _=_
  unfold zFu
  have hi:i<s.length:=by omega
  have hg:s.getD i 0=s[i]:=by rw [List.getD_eq_getElem?_getD,List.getElem?_eq_getElem hi]; rfl
  rw [e,zZ (dt (zGo (by omega) (by omega))),zZ (zM7 (by omega)),zZ (z8 (by omega)),zZ (z8 (by omega)),zAG (dt (by omega)),zZ (zAI hi),zHb hi]
  by_cases hz:s[i]=0
  ·rw [zAG (dt hz),df]
   intro hh
   have:=hh (i - f) (by omega)
   rw [show f+(i - f)=i by omega,hg] at this
   exact this hz
  ·rw [z5 (df hz),zZ (z8 (by omega))]
   refine ih n (i+1) (by omega) (by omega) (by omega) (fun g h5 h6 => ?_)
   by_cases hgi:g=i
   ·rw [hgi,hg]; exact hz
   ·exact h4 g h5 (by omega)
theorem zXB {s:List Int} {f k:Nat} (hk:k≤4) (hs:f+2 ^ k≤s.length) (hl:s.length=256):zMR s (f:Int) (k:Int)=some (decide (∀ g,g<2 ^ k→s.getD (f+g) 0≠0)) :=
 zUE hk hs hl (2 ^ k) zAD f (by omega) (by have:=(zJW (k:=k) (by omega)).2.2; have:=zMj (k:=k) (by omega); unfold zAD; omega) (by omega) (fun g h1 h2=>by omega)
def zl (z:zi) (l:List (List Int)):zi:={ z with free:=l }
def zer (l:List Int) (i:Nat):Nat→List Int
 | 0=>l
 | m+1=>zer (l.set i 0) (i+1) m
theorem zSA:∀ (m i:Nat) (l:List Int),(zer l i m).length=l.length
 | 0,_,_=>rfl
 | m+1,i,l=>by unfold zer; rw [zSA]; exact List.length_set ..
theorem zRe (l:List Int) (i g:Nat) (h:i<l.length) (x:Int):(l.set i x).getD g 0=if g=i then x else l.getD g 0:=by
 simp only [List.getD_eq_getElem?_getD,List.getElem?_set]
 by_cases hg:i=g
 ·rw [if_pos hg,if_pos h,if_pos hg.symm]; rfl
 ·rw [if_neg hg,if_neg (fun e=>hg e.symm)]
theorem zS0:∀ (m i:Nat) (l:List Int) (g:Nat),i+m≤l.length→(zer l i m).getD g 0=if i≤g∧g<i+m then 0 else l.getD g 0
 | 0,i,l,g,_=>by rw [if_neg (by omega)]; rfl
 | m+1,i,l,g,h=>by
  unfold zer
  rw [zS0 m (i+1) _ g (by rw [List.length_set]; omega),zRe l i g (by omega)]
  by_cases h1:i+1≤g∧g<i+1+m
  ·rw [if_pos h1,if_pos (by omega)]
  ·rw [if_neg h1]
   by_cases h2:g=i
   ·rw [if_pos h2,if_pos (by omega)]
   ·rw [if_neg h2,if_neg (by omega)]
theorem zV8 {se:Int→(List (List Int))→(List Int)→Option zi} {k f:Nat} {l:List (List Int)} (hk:k≤4) (h5:l.length=5) (hf:f+2 ^ k≤256):∀ (m n i:Nat) (s:List Int),i+m=f+2 ^ k→m<n→s.length=256 →
  zGz se (k:Int) (f:Int) l n (i:Int) s=zEr se (f:Int) (l.set k (l.getD k []++[(f:Int)])) (zer s i m):=by
 intro m
 obtain ⟨e,p1,p2⟩:=zJW (k:=k) (by omega)
 have pn:=zMj (k:=k) (by omega)
 induction m with
 | zero =>
  intro n i s h1 h2 h3
  obtain ⟨n,rfl⟩:=ex1 ‹_<n›
  show zEu _ _ _ _ _ _ _=_
  unfold zEu
  rw [e,zZ (dt (zGo (by omega) (by omega))),zZ (zM7 (by omega)),zZ (z8 (by omega)),zZ (z8 (by omega)),z5 (df (by omega)),zKJ h5 (by omega)]
  rfl
 | succ m ih =>
  intro n i s h1 h2 h3
  obtain ⟨n,rfl⟩:=ex1 ‹_<n›
  show zEu _ _ _ _ _ _ _=_
  unfold zEu
  rw [e,zZ (dt (zGo (by omega) (by omega))),zZ (zM7 (by omega)),zZ (z8 (by omega)),zZ (z8 (by omega)),zAG (dt (by omega)),zZ (zAI (by omega)),zZ (z8 (by omega))]
  exact ih n (i+1) (s.set i 0) (by omega) (by omega) (by rw [List.length_set]; exact h3)
structure WI (z:zi) (s:List Int) (D:Nat→Int→Prop) (l:List (List Int)) (left:List Int):Prop where
 len:l.length=5
 llen:left.length=256
 srt:∀ k,Srt (lst (zl z l) k)
 ins:∀ k x,x∈lst (zl z l) k→inside z x k=true∧D k x
 dis:∀ k x j y g,x∈lst (zl z l) k→y∈lst (zl z l) j→x≤g→g<x+2 ^ k→y≤g→g<y+2 ^ j→k=j∧x=y
 lft:∀ g:Nat,g<256→(left.getD g 0≠0↔s.getD g 0≠0 ∧ ¬ cov (zl z l) g)
 sub:∀ g,cov (zl z l) g→s.getD g.toNat 0≠0
 max:∀ j x,D j x→j≤4→inside z x j=true → ∃ g,x≤g∧g<x+2 ^ j∧(s.getD g.toNat 0=0 ∨ ∃ i y,j≤i∧y∈lst (zl z l) i∧y≤g∧g<y+2 ^ i)
section
variable {z:zi} {s left left':List Int} {D D':Nat→Int→Prop} {l:List (List Int)} {k:Nat} {f:Int}
theorem WI.mono (h:WI z s D l left) (h1:∀ j x,inside z x j=true→D j x→D' j x) (h2:∀ j x,inside z x j=true→j≤4→D' j x→D j x):WI z s D' l left :=
 ⟨h.len,h.llen,h.srt,fun k x hx=>⟨(h.ins k x hx).1,h1 k x (h.ins k x hx).1 (h.ins k x hx).2⟩,h.dis,h.lft,h.sub,fun j x hd hj hi=>h.max j x (h2 j x hi hj hd) hj hi⟩
theorem WI.skip (h:WI z s D l left) (hr:ranges z=true) (hk:k≤4) (hD:∀ j x,D j x→k≤j) (hn:inside z f k=true → ∃ g,f≤g∧g<f+2 ^ k∧left.getD g.toNat 0=0):WI z s (fun j x=>D j x∨(j=k∧x=f)) l left:=by
 refine ⟨h.len,h.llen,h.srt,fun k x hx=>⟨(h.ins k x hx).1,.inl (h.ins k x hx).2⟩,h.dis,h.lft,h.sub,?_⟩
 rintro j x (hd | ⟨rfl,rfl⟩) hj hi
 ·exact h.max j x hd hj hi
 ·obtain ⟨g,g1,g2,g3⟩:=hn hi
  have hb:=zAZ hr hi
  refine ⟨g,g1,g2,?_⟩
  have hl:=h.lft g.toNat (by omega)
  rw [Int.toNat_of_nonneg (by omega)] at hl
  by_cases hs:s.getD g.toNat 0=0
  ·exact .inl hs
  ·have hc:cov (zl z l) g:=by
    refine Classical.byContradiction fun hc => ?_
    exact hl.2 ⟨hs,hc⟩ g3
   obtain ⟨i,y,hy,y1,y2⟩:=hc
   exact .inr ⟨i,y,hD _ _ (h.ins i y hy).2,hy,y1,y2⟩
theorem WI.add (h:WI z s D l left) (hr:ranges z=true) (hk:k≤4) (hi:inside z f k=true) (hD:∀ j x,D j x→k<j∨(j=k∧x<f)) (hall:∀ g:Nat,f≤g→(g:Int)<f+2 ^ k→left.getD g 0≠0)
  (hl':left'.length=256) (hg':∀ g:Nat,left'.getD g 0=if f≤(g:Int)∧(g:Int)<f+2 ^ k then 0 else left.getD g 0):WI z s (fun j x=>D j x∨(j=k∧x=f)) (l.set k (l.getD k []++[f])) left':=by
 have hb:=zAZ hr hi
 have hls:∀ j,lst (zl z (l.set k (l.getD k []++[f]))) j=if j=k then lst (zl z l) k++[f] else lst (zl z l) j:=fun j=>zQg (z:=zl z l) h.len (by omega)
 have hm:∀ j y,y∈lst (zl z (l.set k (l.getD k []++[f]))) j↔y∈lst (zl z l) j∨(j=k∧y=f):=by
  intro j y
  rw [hls]
  by_cases hjk:j=k
  ·subst hjk
   rw [if_pos rfl,List.mem_append]
   simp
  ·rw [if_neg hjk]
   simp [hjk]
 have hf:∀ g,f≤g→g<f+2 ^ k→s.getD g.toNat 0≠0 ∧ ¬ cov (zl z l) g:=by
  intro g g1 g2
  have e:((g.toNat:Nat):Int)=g:=Int.toNat_of_nonneg (by omega)
  have:=(h.lft g.toNat (by omega)).1 (hall g.toNat (by omega) (by omega))
  rw [e] at this
  exact this
 have hc:∀ g,cov (zl z (l.set k (l.getD k []++[f]))) g↔cov (zl z l) g∨(f≤g∧g<f+2 ^ k):=by
  intro g
  constructor
  ·rintro ⟨j,y,hy,h1,h2⟩
   rcases (hm j y).1 hy with hy | ⟨rfl,rfl⟩
   ·exact .inl ⟨j,y,hy,h1,h2⟩
   ·exact .inr ⟨h1,h2⟩
  ·rintro (⟨j,y,hy,h1,h2⟩ | ⟨h1,h2⟩)
   ·exact ⟨j,y,(hm j y).2 (.inl hy),h1,h2⟩
   ·exact ⟨k,f,(hm k f).2 (.inr ⟨rfl,rfl⟩),h1,h2⟩
 refine ⟨by simpa using h.len,hl',fun j => ?_,fun j y hy => ?_,fun j y i u g hy hu h1 h2 h3 h4 => ?_,fun g hg => ?_,fun g hg => ?_,fun j x hd hj hij => ?_⟩
 ·rw [hls]
  split
  ·refine List.pairwise_append.2 ⟨h.srt k,List.pairwise_singleton .., fun a ha b hb' => ?_⟩
   simp only [List.mem_singleton] at hb'
   subst hb'
   rcases hD _ _ (h.ins k a ha).2 with hq | hq <;> omega
  ·exact h.srt j
 ·rcases (hm j y).1 hy with hy | ⟨rfl,rfl⟩
  ·exact ⟨(h.ins j y hy).1,.inl (h.ins j y hy).2⟩
  ·exact ⟨hi,.inr ⟨rfl,rfl⟩⟩
 ·rcases (hm j y).1 hy with hy' | ⟨e1,e2⟩
  ·rcases (hm i u).1 hu with hu' | ⟨e3,e4⟩
   ·exact h.dis j y i u g hy' hu' h1 h2 h3 h4
   ·rw [e4] at h3 h4
    rw [e3] at h4
    exact absurd ⟨j,y,hy',h1,h2⟩ (hf g h3 h4).2
  ·rw [e2] at h1 h2
   rw [e1] at h2
   rcases (hm i u).1 hu with hu' | ⟨e3,e4⟩
   ·exact absurd ⟨i,u,hu',h3,h4⟩ (hf g h1 h2).2
   ·exact ⟨e1.trans e3.symm,e2.trans e4.symm⟩
 ·rw [hg',hc]
  by_cases hq:f≤(g:Int)∧(g:Int)<f+2 ^ k
  ·rw [if_pos hq]
   simp [hq]
  ·rw [if_neg hq,h.lft g hg]
   simp only [hq,or_false]
 ·rcases (hc g).1 hg with hg | hg
  ·exact h.sub g hg
  ·exact (hf g hg.1 hg.2).1
 ·rcases hd with hd | ⟨rfl,rfl⟩
  ·obtain ⟨g,g1,g2,g3⟩:=h.max j x hd hj hij
   refine ⟨g,g1,g2,g3.imp id ?_⟩
   rintro ⟨i,y,hy,hy2,hy3⟩
   exact ⟨i,y,hy,(hm i y).2 (.inl hy2),hy3⟩
  ·have hp:=zIp j
   exact ⟨x,Int.le_refl _,by omega,.inr ⟨j,x,Nat.le_refl _,(hm j x).2 (.inr ⟨rfl,rfl⟩),Int.le_refl _,by omega⟩⟩
theorem WI.len' (h:WI z s D l left) (hr:ranges z=true) (k:Nat):(lst (zl z l) k).length≤256:=by
 refine zQI (h.srt k) (fun f hf => ?_)
 have:=zAZ hr (h.ins k f hf).1
 have:=zIp k
 omega
theorem WI.ok (h:WI z s (fun _ _=>True) l left) (hr:ranges z=true):OkZ (zl z l) ∧ ∀ g,cov (zl z l) g↔z.start≤g∧g<z.start+z.count∧s.getD g.toNat 0≠0:=by
 refine ⟨⟨hr,h.len,h.srt,fun k x hx=>(h.ins k x hx).1,h.dis,fun k x hk hx hb => ?_⟩,fun g=>⟨fun hg => ?_,fun hg => ?_⟩⟩
 ·refine Bool.eq_false_iff.2 fun hi => ?_
  have hbx:=zAZ hr (h.ins k x hx).1
  have hax:=(zBX hr).1 (h.ins k x hx).1
  have hp:=zIp k
  have hps:=zLj k
  obtain ⟨g,g1,g2,g3⟩:=h.max (k+1) _ trivial (by omega) hi
  have hcov:(x≤g∧g<x+2 ^ k)∨(bud x k≤g∧g<bud x k+2 ^ k):=by
   clear g3
   rcases zNP hk hbx.1 (by omega) hax.2.1 with ⟨_,e⟩ | ⟨_,e⟩ <;> rw [e] at g1 g2 ⊢ <;> omega
  have hno:∀ y,y∈lst (zl z l) k→y≤g→g<y+2 ^ k→False:=by
   intro y hy y1 y2
   rcases g3 with g3 | ⟨i,u,hu,hu1,hu2,hu3⟩
   ·exact h.sub g ⟨k,y,hy,y1,y2⟩ g3
   ·have:=(h.dis k y i u g hy hu1 y1 y2 hu2 hu3).1
    omega
  rcases hcov with hq | hq
  ·exact hno x hx hq.1 hq.2
  ·exact hno _ hb hq.1 hq.2
 ·obtain ⟨k,x,hx,h1,h2⟩:=hg
  have:=zAZ hr (h.ins k x hx).1
  exact ⟨by omega,by omega,h.sub g ⟨k,x,hx,h1,h2⟩⟩
 ·have hb:=zBV hr
  obtain ⟨g',g1,g2,g3⟩:=h.max 0 g trivial (by omega) ((zBX hr).2 (by rw [pw0]; omega))
  rw [pw0] at g2
  have e:g'=g:=by omega
  subst e
  rcases g3 with g3 | ⟨i,y,_,hy,hy2,hy3⟩
  ·exact absurd g3 hg.2.2
  ·exact ⟨i,y,hy,hy2,hy3⟩
end
section
variable {z:zi} {s:List Int}
def Nx (z:zi) (s:List Int) (k:Nat) (se:Int→(List (List Int))→(List Int)→Option zi):Prop :=
 ∀ l left,WI z s (fun j _=>k≤j) l left → ∃ l',se ((k:Int) - 1) l left=some (zl z l') ∧ ∃ left',WI z s (fun _ _=>True) l' left'
theorem zVB (hr:ranges z=true) {k:Nat} {se:Int→(List (List Int))→(List Int)→Option zi} (hk:k≤4) (hn:Nx z s k se):∀ (m n f:Nat) (l:List (List Int)) (left:List Int),(f:Int)+m=z.start+z.count→m<n→z.start≤f →
  WI z s (fun j x=>k<j∨(j=k∧x<f)) l left → ∃ l',zCn se z (k:Int) n (f:Int) l left=some (zl z l') ∧ ∃ left',WI z s (fun _ _=>True) l' left':=by
 have hb:=zBV hr
 intro m
 induction m with
 | zero =>
  intro n f l left h1 h2 h3 h
  obtain ⟨n,rfl⟩:=ex1 ‹_<n›
  show ∃ l',zEg _ _ _ _ _ _ _=_∧_
  unfold zEg
  rw [zZ (z8 (by omega)),z5 (df (by omega))]
  unfold zIw
  rw [zZ (z8 (by omega))]
  refine hn l left (h.mono (fun j x _ hd=>by rcases hd with hd | hd <;> omega) (fun j x hi _ hd => ?_))
  have:=zAZ hr hi
  have:=zIp j
  have hd:k≤j:=hd
  by_cases hjk:j=k
  ·exact .inr ⟨hjk,by omega⟩
  ·exact .inl (by omega)
 | succ m ih =>
  intro n f l left h1 h2 h3 h
  obtain ⟨n,rfl⟩:=ex1 ‹_<n›
  obtain ⟨e,p1,p2⟩:=zJW (k:=k) (by omega)
  have pn:=zMj (k:=k) (by omega)
  have hstep:∀ l2 left2,WI z s (fun j x=>(k<j∨(j=k∧x<f))∨(j=k∧x=f)) l2 left2 → ∃ l',zEr (zCn se z (k:Int) n) (f:Int) l2 left2=some (zl z l') ∧ ∃ left',WI z s (fun _ _=>True) l' left':=by
   intro l2 left2 hw
   unfold zEr
   rw [zZ (z8 (by omega))]
   exact ih n (f+1) l2 left2 (by omega) (by omega) (by omega) (hw.mono (fun j x _ hd=>by omega) (fun j x _ _ hd=>by omega))
  show ∃ l',zEg _ _ _ _ _ _ _=_∧_
  unfold zEg
  rw [zZ (z8 (by omega)),zAG (dt (by omega)),zRY hr hk h3 (by omega),zB8]
  by_cases hi:inside z f k=true
  ·have hbi:=zAZ hr hi
   rw [hi,zAG rfl,zXB hk (by rw [h.llen]; omega) h.llen,zB8]
   by_cases ha:∀ g,g<2 ^ k→left.getD (f+g) 0≠0
   ·have hlen:(l.getD (k:Int).toNat []).length≤256:=h.len' hr k
    rw [dt ha,Bool.and_true,zAG rfl,zZ (zAI (by omega)),zZ (dt (by omega)),zZ (dt (by show (_+1)*8≤4294967296; omega)),zV8 hk h.len (by omega) (2 ^ k) zAD f left (by omega) (by unfold zAD; omega) h.llen]
    refine hstep _ _ (h.add hr hk hi (fun j x hd=>hd) (fun g g1 g2 => ?_) (by rw [zSA]; exact h.llen) (fun g => ?_))
    ·have:=ha (g - f) (by omega)
     rw [show f+(g - f)=g by omega] at this
     exact this
    ·rw [zS0 (2 ^ k) f left g (by rw [h.llen]; omega)]
     by_cases hq:f≤g∧g<f+2 ^ k
     ·rw [if_pos hq,if_pos (by omega)]
     ·rw [if_neg hq,if_neg (by omega)]
   ·rw [df ha,Bool.and_false,z5 rfl]
    refine hstep _ _ (h.skip hr hk (fun j x hd=>by omega) (fun _ => ?_))
    refine Classical.byContradiction fun hno=>ha (fun g hg hz=>hno ⟨((f+g:Nat):Int),by omega,by omega,?_⟩)
    rw [Int.toNat_natCast]
    exact hz
  ·have hi':=Bool.eq_false_iff.2 hi
   rw [hi',z5 rfl,zB8,Bool.false_and,z5 rfl]
   exact hstep _ _ (h.skip hr hk (fun j x hd=>by omega) (fun hq=>absurd hq hi))
theorem zWA (hr:ranges z=true):∀ (q n:Nat) (l:List (List Int)) (left:List Int),q≤5→q<n→WI z s (fun j _=>q≤j) l left →
  ∃ l',zBQ z n ((q:Int) - 1) l left=some (zl z l') ∧ ∃ left',WI z s (fun _ _=>True) l' left':=by
 have hb:=zBV hr
 intro q
 induction q with
 | zero =>
  intro n l left hq hn h
  obtain ⟨n,rfl⟩:=ex1 ‹_<n›
  show ∃ l',zEn _ _ _ _ _=_∧_
  unfold zEn
  rw [z5 (df (by omega))]
  exact ⟨l,rfl,left,h.mono (fun _ _ _ _=>trivial) (fun j x _ _ _=>Nat.zero_le j)⟩
 | succ q ih =>
  intro n l left hq hn h
  obtain ⟨n,rfl⟩:=ex1 ‹_<n›
  show ∃ l',zEn _ _ _ _ _=_∧_
  unfold zEn
  obtain ⟨st,hst⟩:=Int.eq_ofNat_of_zero_le hb.2.2.2.1
  rw [show (((q+1:Nat):Int) - 1)=(q:Int) by omega,zAG (dt (by omega))]
  have:=zVB (s:=s) (k:=q) (se:=zBQ z n) hr (by omega) (fun l2 left2 h2=>ih n l2 left2 (by omega) (by omega) h2) z.count.toNat zAD st l left (by omega) (by unfold zAD; omega) (by omega)
   (h.mono (fun j x _ hd => .inl hd) (fun j x hi _ hd=>by
    have:=zAZ hr hi
    show q+1≤j
    omega))
  rw [← hst] at this
  exact this
theorem zWB {s:List Int} (hs:s.length=256):∀ (m n i:Nat) (l:List Int),i+m=256→m<n→l.length=256→(∀ g:Nat,g<i→l.getD g 0=s.getD g 0)→zHT z s n (i:Int) l=zHO z s:=by
 intro m
 induction m with
 | zero =>
  intro n i l h1 h2 h3 h4
  obtain ⟨n,rfl⟩:=ex1 ‹_<n›
  show zEh _ _ _ _ _=_
  unfold zEh
  rw [z5 (df (by omega))]
  congr 1
  apply List.ext_getElem?
  intro g
  rcases Nat.lt_or_ge g 256 with hg | hg
  ·have:=h4 g (by omega)
   rw [List.getD_eq_getElem?_getD,List.getD_eq_getElem?_getD,List.getElem?_eq_getElem (by omega),List.getElem?_eq_getElem (by omega)] at this
   rw [List.getElem?_eq_getElem (by omega),List.getElem?_eq_getElem (by omega)]
   exact congrArg some this
  ·rw [List.getElem?_eq_none (by omega),List.getElem?_eq_none (by omega)]
 | succ m ih =>
  intro n i l h1 h2 h3 h4
  obtain ⟨n,rfl⟩:=ex1 ‹_<n›
  show zEh _ _ _ _ _=_
  unfold zEh
  have hi:i<s.length:=by omega
  rw [zAG (dt (by omega)),zZ (zAI hi),zZ (zAI (by omega)),zZ (z8 (by omega)),zHb hi]
  refine ih n (i+1) _ (by omega) (by omega) (by rw [List.length_set]; exact h3) (fun g hg => ?_)
  rw [Int.toNat_natCast,zRe _ _ _ (by omega)]
  by_cases hgi:g=i
  ·rw [if_pos hgi,hgi,List.getD_eq_getElem?_getD,List.getElem?_eq_getElem hi]
   rfl
  ·rw [if_neg hgi]
   exact h4 g (by omega)
theorem zVu (hr:ranges z=true) (hs:s.length=256):∃ y,zF2 z s=some y∧OkZ y∧zGw y z ∧ ∀ g,cov y g↔z.start≤g∧g<z.start+z.count∧s.getD g.toNat 0≠0:=by
 unfold zF2
 rw [zZ (by rw [hs]; rfl),z0i,zWB hs 256 zAD 0 _ (by omega) (by unfold zAD; omega) (by rw [List.length_replicate,hs]; rfl) (fun g hg=>by omega)]
 unfold zHO
 have he:=zSK (z:=zl z (List.replicate 5 [])) hr rfl
 obtain ⟨l',e,left',hw⟩:=zWA (s:=s) hr 5 zAD (List.replicate 5 []) s (by omega) (by unfold zAD; omega)
  ⟨rfl,hs,he.1.srt,fun k x hx=>absurd (show x∈[] from (zPi (z:=zl z (List.replicate 5 [])) rfl k)▸hx) (by simp),he.1.dis,fun g hg=>⟨fun h=>⟨h,he.2 g⟩,fun h=>h.1⟩,fun g hg=>absurd hg (he.2 g),fun j x hd hj _=>by exact absurd (show 5≤j from hd) (by omega)⟩
 have ho:=hw.ok hr
 exact ⟨zl z l',e,ho.1,⟨rfl,rfl,rfl,rfl,rfl⟩,ho.2⟩
theorem zSj {y:zi} (hs:s.length=256) (ho:OkZ y) (hy:zGw y z) (hc:∀ g,cov y g↔z.start≤g∧g<z.start+z.count∧s.getD g.toNat 0≠0):zF2 z s=some y:=by
 have hr:ranges z=true:=by rw [← hy.ranges]; exact ho.ranges
 obtain ⟨x,e,h1,h2,h3⟩:=zVu hr hs
 have hxy:zGw x y:=h2.trans ⟨hy.1.symm,hy.2.1.symm,hy.2.2.1.symm,hy.2.2.2.1.symm,hy.2.2.2.2.symm⟩
 rw [e,h1.ext ho hxy.1 hxy.2.1 hxy.2.2.1 hxy.2.2.2.1 hxy.2.2.2.2 (fun f=>by rw [h3,hc])]
end
end Go.Proofs.YtplkliakhdkpcaaGreat
namespace Go.Proofs.YtplkliakhdkpcaaGreat
open Go Go.RowKit Go.Wk Go.Am
structure Sm (a:zJ):Prop where
 n:a.nodes.length≤1099511627776
 z:a.zones.length≤1099511627776
 c:a.caches.length≤1099511627776
 f:∀ z,z∈a.zones → ∀ k,(z.free.getD k []).length≤1099511627776
 l:∀ c,c∈a.caches→c.lists.length≤1099511627776 ∧ ∀ l,l∈c.lists→l.length≤1099511627776
theorem zX5 {l:List Int} (hl:l.length≤1099511627776):∀ (m n i:Nat),i+m=l.length→m<n→zET l l n (i:Int)=some true:=by
 intro m
 induction m with
 | zero =>
  intro n i h1 h2
  obtain ⟨n,rfl⟩:=ex1 ‹_<n›
  show zCb _ _ _ _=_
  unfold zCb
  rw [z5 (df (by omega))]
  rfl
 | succ m ih =>
  intro n i h1 h2
  obtain ⟨n,rfl⟩:=ex1 ‹_<n›
  show zCb _ _ _ _=_
  unfold zCb
  rw [zAG (dt (by omega)),zZ (zAI (by omega)),zZ (zAI (by omega)),dt rfl]
  refine (z5 (by rfl)).trans ?_
  rw [zZ (z8 (by omega))]
  exact ih n (i+1) (by omega) (by omega)
theorem zPv {l:List Int} (hl:l.length≤1099511627776):zE7 l l=some true:=by
 unfold zE7
 rw [dt rfl]
 exact zX5 hl l.length zAD 0 (by omega) (by unfold zAD; omega)
theorem zX6 {l:List Int} (hl:l.length≤1099511627776):∀ (m n i:Nat),i+m=l.length→m<n→zEW l l n (i:Int)=some true:=by
 intro m
 induction m with
 | zero =>
  intro n i h1 h2
  obtain ⟨n,rfl⟩:=ex1 ‹_<n›
  show zCa _ _ _ _=_
  unfold zCa
  rw [z5 (df (by omega))]
  rfl
 | succ m ih =>
  intro n i h1 h2
  obtain ⟨n,rfl⟩:=ex1 ‹_<n›
  show zCa _ _ _ _=_
  unfold zCa
  rw [zAG (dt (by omega)),zZ (zAI (by omega)),zZ (zAI (by omega)),dt rfl]
  refine (z5 (by rfl)).trans ?_
  rw [zZ (z8 (by omega))]
  exact ih n (i+1) (by omega) (by omega)
theorem zTQ {l:List Int} (hl:l.length≤1099511627776):zF6 l l=some true:=by
 unfold zF6
 rw [dt rfl]
 exact zX6 hl l.length zAD 0 (by omega) (by unfold zAD; omega)
theorem zQb {z:zi} (hz:∀ k,(z.free.getD k []).length≤1099511627776):∀ (m n i:Nat),i+m=5→m<n→zG9 z z n (i:Int)=some true:=by
 intro m
 induction m with
 | zero =>
  intro n i h1 h2
  obtain ⟨n,rfl⟩:=ex1 ‹_<n›
  show zEq _ _ _ _=_
  unfold zEq
  rw [z5 (df (by omega))]
  rfl
 | succ m ih =>
  intro n i h1 h2
  obtain ⟨n,rfl⟩:=ex1 ‹_<n›
  show zEq _ _ _ _=_
  unfold zEq
  rw [zAG (dt (by omega)),zZ (zAI (by omega)),zTQ (hz _),zB8]
  refine (z5 (by rfl)).trans ?_
  rw [zZ (z8 (by omega))]
  exact ih n (i+1) (by omega) (by omega)
theorem zXC {z:zi} (hz:∀ k,(z.free.getD k []).length≤1099511627776):zJ7 z z=some true:=by
 unfold zJ7
 rw [dt rfl,dt rfl,dt rfl,dt rfl,dt rfl]
 exact zQb hz 5 zAD 0 (by omega) (by unfold zAD; omega)
theorem zQn {c:zL} (h1:c.lists.length≤1099511627776) (h2:∀ l,l∈c.lists→l.length≤1099511627776):∀ (m n i:Nat),i+m=c.lists.length→m<n→zHK c c n (i:Int)=some true:=by
 intro m
 induction m with
 | zero =>
  intro n i h3 h4
  obtain ⟨n,rfl⟩:=ex1 ‹_<n›
  show zEj _ _ _ _=_
  unfold zEj
  rw [z5 (df (by omega))]
  rfl
 | succ m ih =>
  intro n i h3 h4
  obtain ⟨n,rfl⟩:=ex1 ‹_<n›
  show zEj _ _ _ _=_
  unfold zEj
  have hi:i<c.lists.length:=by omega
  rw [zAG (dt (by omega)),zZ (zAI hi),zZ (zAI hi),zHb hi,zPv (h2 _ (List.getElem_mem hi)),zB8]
  refine (z5 (by rfl)).trans ?_
  rw [zZ (z8 (by omega))]
  exact ih n (i+1) (by omega) (by omega)
theorem zXG {c:zL} (h1:c.lists.length≤1099511627776) (h2:∀ l,l∈c.lists→l.length≤1099511627776):zKG c c=some true:=by
 unfold zKG
 rw [dt rfl]
 exact zQn h1 h2 c.lists.length zAD 0 (by omega) (by unfold zAD; omega)
theorem zUI {a:zJ} (h:Sm a):∀ (m n i:Nat),i+m=a.caches.length→m<n→zGx a a n (i:Int)=some true:=by
 have hc:=h.c
 intro m
 induction m with
 | zero =>
  intro n i h3 h4
  obtain ⟨n,rfl⟩:=ex1 ‹_<n›
  show zEv _ _ _ _=_
  unfold zEv
  rw [z5 (df (by omega))]
  rfl
 | succ m ih =>
  intro n i h3 h4
  obtain ⟨n,rfl⟩:=ex1 ‹_<n›
  show zEv _ _ _ _=_
  unfold zEv
  have hi:i<a.caches.length:=by omega
  have hl:=h.l _ (List.getElem_mem hi)
  rw [zAG (dt (by omega)),zZ (zAI hi),zZ (zAI hi),zHb hi,zXG hl.1 hl.2,zB8]
  refine (z5 (by rfl)).trans ?_
  rw [zZ (z8 (by omega))]
  exact ih n (i+1) (by omega) (by omega)
theorem zTn {a:zJ} (h:Sm a):∀ (m n i:Nat),i+m=a.zones.length→m<n→zHc a a n (i:Int)=some true:=by
 have hc:=h.z
 intro m
 induction m with
 | zero =>
  intro n i h3 h4
  obtain ⟨n,rfl⟩:=ex1 ‹_<n›
  show zEi _ _ _ _=_
  unfold zEi
  rw [z5 (df (by omega))]
  exact zUI h a.caches.length zAD 0 (by omega) (by have:=h.c; unfold zAD; omega)
 | succ m ih =>
  intro n i h3 h4
  obtain ⟨n,rfl⟩:=ex1 ‹_<n›
  show zEi _ _ _ _=_
  unfold zEi
  have hi:i<a.zones.length:=by omega
  rw [zAG (dt (by omega)),zZ (zAI hi),zZ (zAI hi),zHb hi,zXC (h.f _ (List.getElem_mem hi)),zB8]
  refine (z5 (by rfl)).trans ?_
  rw [zZ (z8 (by omega))]
  exact ih n (i+1) (by omega) (by omega)
theorem zW3 {a:zJ} (h:Sm a):zI1 a a=some true:=by
 unfold zI1
 rw [zPv h.n,zB8,dt rfl,dt rfl,dt rfl,dt rfl]
 exact zTn h a.zones.length zAD 0 (by omega) (by have:=h.z; unfold zAD; omega)
end Go.Proofs.YtplkliakhdkpcaaGreat
namespace Go.Proofs.YtplkliakhdkpcaaGreat
open Go Go.RowKit Go.Am
def geP:Option Int→Int→Bool
 | some q,f=>decide (f≤q)
 | none,_=>false
def zKf (z:zi) (k:Nat):Option Int→List Int→Int
 | _,[]=>0
 | p,f::r=>if inside z f k=false then 3 else if geP p f=true then 10 else zKf z k (some f) r
def zE2 (z:zi):Nat→List (List Int)→Int
 | _,[]=>0
 | k,l::r=>if zKf z k none l=0 then zE2 z (k+1) r else zKf z k none l
def zMf (s:List Bool) (i:Nat):Nat→Option (List Bool)
 | 0=>some s
 | n+1=>if s.getD i false=true then none else zMf (s.set i true) (i+1) n
def zMp (k:Nat):List Bool→List Int→Option (List Bool)
 | s,[]=>some s
 | s,f::r=>match zMf s f.toNat (2 ^ k) with
  | none=>none
  | some s'=>zMp k s' r
def zIr:Nat→List Bool→List (List Int)→Option (List Bool)
 | _,s,[]=>some s
 | k,s,l::r=>match zMp k s l with
  | none=>none
  | some s'=>zIr (k+1) s' r
def zQf (z:zi) (k:Nat) (l0:List Int):List Int→Bool
 | []=>false
 | f::r=>if (decide (bud f k∈l0)&&inside z (min f (bud f k)) (k+1))=true then true else zQf z k l0 r
def zMe (z:zi):Nat→List (List Int)→Bool
 | _,[]=>false
 | k,l::r=>if zQf z k l l=true then true else zMe z (k+1) r
def zEs:List Bool:=List.replicate 256 false
theorem zJB:zEs.length=256:=List.length_replicate
def zEd (z:zi):Int :=
 if ranges z=false then 2 else if zE2 z 0 z.free=0 then
  (if zIr 0 zEs z.free=none then 7 else if zMe z 0 (z.free.take 4)=true then 11 else 0)
 else zE2 z 0 z.free
theorem zSw {z:zi} {k:Nat}:∀ {l:List Int} {p:Option Int},zKf z k p l=0→(∀ f,f∈l→inside z f k=true)∧Srt l∧(∀ q f,p=some q→f∈l→q<f):=by
 intro l
 induction l with
 | nil=>intro p _; exact ⟨fun f hf=>by simp at hf,Srt.nil,fun q f _ hf=>by simp at hf⟩
 | cons a l ih =>
  intro p h
  unfold zKf at h
  split at h
  ·cases h
  ·rename_i h1
   split at h
   ·cases h
   ·rename_i h2
    obtain ⟨i1,i2,i3⟩:=ih h
    have ha:inside z a k=true:=by simpa using h1
    refine ⟨fun f hf => ?_,List.pairwise_cons.2 ⟨fun f hf=>i3 a f rfl hf,i2⟩,fun q f hq hf => ?_⟩
    ·rcases List.mem_cons.1 hf with rfl | hf
     ·exact ha
     ·exact i1 f hf
    ·subst hq
     have h2:q<a:=by simpa [geP] using h2
     rcases List.mem_cons.1 hf with rfl | hf
     ·exact h2
     ·have:=i3 a f rfl hf; omega
theorem zTX {z:zi}:∀ {ls:List (List Int)} {k:Nat},zE2 z k ls=0 → ∀ (j:Nat) (l:List Int),ls[j]?=some l→(∀ f,f∈l→inside z f (k+j)=true)∧Srt l:=by
 intro ls
 induction ls with
 | nil=>intro k _ j l hl; simp at hl
 | cons a ls ih =>
  intro k h j l hl
  unfold zE2 at h
  split at h
  ·rename_i h0
   cases j with
   | zero =>
    simp at hl; subst hl
    exact ⟨(zSw h0).1,(zSw h0).2.1⟩
   | succ j =>
    have:=ih h j l (by simpa using hl)
    rw [show k+(j+1)=k+1+j by omega]
    exact this
  ·rename_i h0; exact absurd h h0
theorem zC9 {z:zi} (h:zEd z=0):ranges z=true:=by
 unfold zEd at h
 split at h
 ·cases h
 ·rename_i h1; simpa using h1
def zLP (l:List Int) (i:Nat):Option Int:=if i=0 then none else l[i - 1]?
section
variable {z:zi} {k i:Nat} {l:List Int} {x y:Int}
theorem zP9 (hI:zKf z k none l=zKf z k (zLP l i) (l.drop i)) (hx:l[i]?=some x) (h:inside z x k=false):zKf z k none l=3:=by
 obtain ⟨h1,h2⟩:=List.getElem?_eq_some_iff.1 hx
 rw [hI,List.drop_eq_getElem_cons h1,h2]
 unfold zKf
 simp [h]
theorem zL2 (hI:zKf z k none l=zKf z k (zLP l i) (l.drop i)) (hx:l[i]?=some x) (h:inside z x k=true) (hg:geP (zLP l i) x=false):zKf z k none l=zKf z k (zLP l (i+1)) (l.drop (i+1)):=by
 obtain ⟨h1,h2⟩:=List.getElem?_eq_some_iff.1 hx
 rw [hI,List.drop_eq_getElem_cons h1,h2]
 conv=>lhs; unfold zKf
 have:zLP l (i+1)=some x:=by unfold zLP; simpa using hx
 simp [h,hg,this]
theorem zWn (h:¬ 0<i):geP (zLP l i) x=false:=by
 have:i=0:=by omega
 subst this
 rfl
theorem zXO (h:0<i) (hy:l[((i:Int) - 1).toNat]?=some y):geP (zLP l i) x=decide (x≤y):=by
 have e:((i:Int) - 1).toNat=i - 1:=by omega
 rw [e] at hy
 unfold zLP
 rw [if_neg (by omega),hy]
 rfl
theorem zON (hI:zKf z k none l=zKf z k (zLP l i) (l.drop i)) (hx:l[i]?=some x) (h:inside z x k=true) (hg:geP (zLP l i) x=true):zKf z k none l=10:=by
 obtain ⟨h1,h2⟩:=List.getElem?_eq_some_iff.1 hx
 rw [hI,List.drop_eq_getElem_cons h1,h2]
 unfold zKf
 simp [h,hg]
theorem zQ9 (hI:zKf z k none l=zKf z k (zLP l i) (l.drop i)) (h:l.length≤i):zKf z k none l=0:=by
 rw [hI,List.drop_eq_nil_of_le h]
 rfl
theorem zOD (hR:zE2 z 0 z.free=zE2 z k (z.free.drop k)) (hl:z.free[k]?=some l) (e:zKf z k none l=0):zE2 z 0 z.free=zE2 z (k+1) (z.free.drop (k+1)):=by
 obtain ⟨h1,h2⟩:=List.getElem?_eq_some_iff.1 hl
 rw [hR,List.drop_eq_getElem_cons h1,h2]
 conv=>lhs; unfold zE2
 simp [e]
theorem zPm (hR:zE2 z 0 z.free=zE2 z k (z.free.drop k)) (h:z.free.length≤k):zE2 z 0 z.free=0:=by
 rw [hR,List.drop_eq_nil_of_le h]
 rfl
variable {s s0 s1:List Bool} {m n:Nat}
variable {ls:List (List Int)}
variable {l0:List Int}
theorem zLu {β:Type} {l:List β} {i m:Nat} {x:β} (h:l[i]?=some x) (hm:i<m):(l.take m)[i]?=some x:=by
 rw [List.getElem?_take,if_pos hm]; exact h
end
def zRa (k:Nat):List (List Int)→Int
 | []=>0
 | l::r=>(l.length:Int)*2 ^ k+zRa (k+1) r
end Go.Proofs.YtplkliakhdkpcaaGreat
namespace Go.Proofs.YtplkliakhdkpcaaGreat
open Go Go.RowKit Go.Wk Go.Am
structure Zk (z:zi):Prop where
 len:z.free.length=5
 bd:∀ k,(lst z k).length≤1000000
section
variable {z:zi} {k:Nat} {l:List Int}
theorem Zk.get (h:Zk z) (hk:k<5):z.free[k]?=some (lst z k):=zKO h.len hk
theorem zRk {i:Nat} (h:i<l.length):l[i]?=some (at_ l (i:Int)):=by rw [zHb h,List.getElem?_eq_getElem h]
theorem zPk {i:Nat} (h0:0<i):(i:Int) - 1=((i - 1:Nat):Int):=by omega
theorem cl6 {se:Int→Option Int} (hz:Zk z) (hr:ranges z=true) (hk:k<5) (hl:lst z k=l):∀ (m n i:Nat),i+m=l.length→m<n→zKf z k none l=zKf z k (zLP l i) (l.drop i) →
  zGU se z (k:Int) n (i:Int)=if zKf z k none l=0 then se ((k+1:Nat):Int) else some (zKf z k none l):=by
 have hb:l.length≤1000000:=by rw [← hl]; exact hz.bd k
 have e:z.free.getD (k:Int).toNat []=l:=hl
 intro m
 induction m with
 | zero =>
  intro n i h1 h2 hI
  obtain ⟨n,rfl⟩:=ex1 ‹_<n›
  show zEI _ _ _ _ _=_
  unfold zEI zH0
  rw [e,z5 (df (by omega)),zZ (z8 (by omega)),if_pos (zQ9 hI (by omega))]
  rfl
 | succ m ih =>
  intro n i h1 h2 hI
  obtain ⟨n,rfl⟩:=ex1 ‹_<n›
  have hi:i<l.length:=by omega
  have hx:=zRk hi
  show zEI _ _ _ _ _=_
  unfold zEI
  rw [e,zAG (dt (by omega)),zZ (zAI hi),zK5 hr (by omega),zB8]
  generalize at_ l (i:Int)=x at *
  cases hin:inside z x k with
  | false =>
   rw [Bool.not_false,zAG rfl,zP9 hI hx hin]
   rfl
  | true =>
   rw [Bool.not_true,z5 rfl]
   by_cases h0:0<i
   ·rw [zZ (zMv (z8 (by omega))),zPk h0,zZ (zMv (zAI (by omega))),dt (p:=0<(i:Int)) (by omega),Bool.true_and]
    have hy:=zRk (l:=l) (i:=i - 1) (by omega)
    have hg:geP (zLP l i) x=decide (x≤at_ l ((i - 1:Nat):Int)):=zXO h0 (by rw [zPk h0,Int.toNat_natCast]; exact hy)
    by_cases hle:x≤at_ l ((i - 1:Nat):Int)
    ·rw [zAG (dt hle),zON hI hx hin (by rw [hg,dt hle])]
     rfl
    ·rw [z5 (df hle),zZ (z8 (by omega))]
     exact ih n (i+1) (by omega) (by omega) (zL2 hI hx hin (by rw [hg,df hle]))
   ·rw [df (p:=0<(i:Int)) (by omega)]
    refine (zZ (by rfl)).trans ((zZ (by rfl)).trans ((z5 (by rfl)).trans ?_))
    rw [zZ (z8 (by omega))]
    exact ih n (i+1) (by omega) (by omega) (zL2 hI hx hin (zWn h0))
theorem cl5 (hz:Zk z) (hr:ranges z=true):∀ (m n k:Nat),k+m=5→m<n→zE2 z 0 z.free=zE2 z k (z.free.drop k) →
  zCj z n (k:Int)=if zE2 z 0 z.free=0 then zGV z else some (zE2 z 0 z.free):=by
 intro m
 induction m with
 | zero =>
  intro n k h1 h2 hR
  obtain ⟨n,rfl⟩:=ex1 ‹_<n›
  show zD9 _ _ _=_
  unfold zD9
  rw [z5 (df (by omega)),if_pos (zPm hR (by rw [hz.len]; omega))]
 | succ m ih =>
  intro n k h1 h2 hR
  obtain ⟨n,rfl⟩:=ex1 ‹_<n›
  show zD9 _ _ _=_
  unfold zD9
  have hb:=hz.bd k
  have hg:=hz.get (k:=k) (by omega)
  rw [zAG (dt (by omega)),zZ (zAI (by omega)),z0i,cl6 hz hr (by omega) rfl (lst z k).length zAD 0 (by omega) (by unfold zAD; omega) rfl]
  by_cases h0:zKf z k none (lst z k)=0
  ·rw [if_pos h0]
   exact ih n (k+1) (by omega) (by omega) (zOD hR hg h0)
  ·rw [if_neg h0]
   have hc:zE2 z 0 z.free=zKf z k none (lst z k):=by
    obtain ⟨a1,a2⟩:=List.getElem?_eq_some_iff.1 hg
    rw [hR,List.drop_eq_getElem_cons a1,a2]
    unfold zE2
    rw [if_neg h0]
   rw [if_neg (by rw [hc]; exact h0),hc]
theorem zW5 {l:List Bool} {n i:Nat} (hl:l.length=n) (hi:i<n) (x:Bool):zEN n false l i x=l.set i x:=by
 unfold zEN
 apply List.ext_getElem?
 intro j
 rw [List.getElem?_map,List.getElem?_set]
 by_cases hj:j<n
 ·rw [List.getElem?_range hj]
  by_cases hij:i=j
  ·subst hij
   rw [if_pos rfl,if_pos (by omega)]
   simp
  ·rw [if_neg hij,List.getElem?_eq_getElem (by omega)]
   simp [show ¬ j=i from fun e=>hij e.symm,List.getElem?_eq_getElem (show j<l.length by omega)]
 ·rw [List.getElem?_eq_none (by simp; omega)]
  by_cases hij:i=j
  ·omega
  ·rw [if_neg hij,List.getElem?_eq_none (by omega)]
   rfl
theorem zNZ:∀ {m f:Nat} {d d':List Bool},zMf d f m=some d'→d'.length=d.length
 | 0,_,_,_,h=>by unfold zMf at h; cases h; rfl
 | m+1,f,d,d',h=>by
  unfold zMf at h
  split at h
  ·cases h
  ·rw [zNZ h,List.length_set]
theorem cl4 {se:Int→List Bool→Option Int} {i:Nat} {x:Int} (hk:k<5) (hx:at_ (lst z k) (i:Int)=x) (h0:0≤x) (h1:x+2 ^ k≤256) (hi:i<1000000):∀ (m n f:Nat) (d:List Bool),(f:Int)+m=x+2 ^ k→m<n→d.length=256 →
  zGI se z (k:Int) (i:Int) n (f:Int) d=match zMf d f m with | none=>some 7 | some d'=>se ((i+1:Nat):Int) d':=by
 obtain ⟨e,p1,p2⟩:=zJW (k:=k) (by omega)
 have ex:at_ (z.free.getD (k:Int).toNat []) (i:Int)=x:=hx
 intro m
 induction m with
 | zero =>
  intro n f d h2 h3 h4
  obtain ⟨n,rfl⟩:=ex1 ‹_<n›
  show zDk _ _ _ _ _ _ _=_
  unfold zDk zHt
  rw [e,ex,zZ (zM7 (by omega)),zZ (z8 (by omega)),zZ (z8 (by omega)),z5 (df (by omega)),zZ (z8 (by omega))]
  rfl
 | succ m ih =>
  intro n f d h2 h3 h4
  obtain ⟨n,rfl⟩:=ex1 ‹_<n›
  show zDk _ _ _ _ _ _ _=_
  unfold zDk
  rw [e,ex,zZ (zM7 (by omega)),zZ (z8 (by omega)),zZ (z8 (by omega)),zAG (dt (by omega)),zZ (zAI (by omega))]
  have ed:d.getD (f:Int).toNat false=d.getD f false:=rfl
  unfold zMf
  cases hd:d.getD f false with
  | true=>rw [ed,hd,zAG rfl,if_pos rfl]
  | false =>
   rw [ed,hd,z5 rfl,if_neg (by simp),zZ (z8 (by omega)),zW5 h4 (by omega)]
   exact ih n (f+1) (d.set f true) (by omega) (by omega) (by rw [List.length_set]; exact h4)
theorem cl3 {se:Int→List Bool→Option Int} (hz:Zk z) (hr:ranges z=true) (hk:k<5) (hl:lst z k=l) (hin:∀ f,f∈l→inside z f k=true):∀ (m n i:Nat) (d:List Bool),i+m=l.length→m<n→d.length=256 →
  zB5 se z (k:Int) n (i:Int) d=match zMp k d (l.drop i) with | none=>some 7 | some d'=>se ((k+1:Nat):Int) d':=by
 have hb:l.length≤1000000:=by rw [← hl]; exact hz.bd k
 have e:z.free.getD (k:Int).toNat []=l:=hl
 obtain ⟨e2,p1,p2⟩:=zJW (k:=k) (by omega)
 have pn:=zMj (k:=k) (by omega)
 intro m
 induction m with
 | zero =>
  intro n i d h1 h2 h3
  obtain ⟨n,rfl⟩:=ex1 ‹_<n›
  show zDs _ _ _ _ _ _=_
  unfold zDs zIJ
  rw [e,z5 (df (by omega)),zZ (z8 (by omega)),List.drop_eq_nil_of_le (by omega)]
  rfl
 | succ m ih =>
  intro n i d h1 h2 h3
  obtain ⟨n,rfl⟩:=ex1 ‹_<n›
  have hi:i<l.length:=by omega
  show zDs _ _ _ _ _ _=_
  unfold zDs
  have hbd:=zAZ hr (hin _ (List.getElem_mem hi))
  have ha:at_ (lst z k) (i:Int)=l[i]:=by rw [hl]; exact zHb hi
  obtain ⟨f,hf⟩:=Int.eq_ofNat_of_zero_le hbd.1
  rw [e,zAG (dt (by omega)),zZ (zAI hi),zHb hi,List.drop_eq_getElem_cons hi]
  have hc:=cl4 (se:=zB5 se z (k:Int) n) hk ha hbd.1 hbd.2.1 (by omega) (2 ^ k) zAD f d (by omega) (by unfold zAD; omega) h3
  unfold zMp
  rw [hf,hc,show ((f:Int)).toNat=f from rfl]
  cases hm:zMf d f (2 ^ k) with
  | none=>rfl
  | some d'=>exact ih n (i+1) d' (by omega) (by omega) (by rw [zNZ hm]; exact h3)
theorem zPl:∀ {l:List Int} {k:Nat} {d d':List Bool},zMp k d l=some d'→d'.length=d.length
 | [],_,_,_,h=>by unfold zMp at h; cases h; rfl
 | x::l,k,d,d',h=>by
  unfold zMp at h
  split at h
  ·cases h
  ·rename_i q hq
   rw [zPl h,zNZ hq]
theorem cl2 (hz:Zk z) (hr:ranges z=true) (hin:∀ k,k<5 → ∀ f,f∈lst z k→inside z f k=true):∀ (m n k:Nat) (d:List Bool),k+m=5→m<n→d.length=256 →
  zBN z n (k:Int) d=match zIr k d (z.free.drop k) with | none=>some 7 | some _=>zD5 z:=by
 intro m
 induction m with
 | zero =>
  intro n k d h1 h2 h3
  obtain ⟨n,rfl⟩:=ex1 ‹_<n›
  show zEB _ _ _ _=_
  unfold zEB
  rw [z5 (df (by omega)),List.drop_eq_nil_of_le (by rw [hz.len]; omega)]
  rfl
 | succ m ih =>
  intro n k d h1 h2 h3
  obtain ⟨n,rfl⟩:=ex1 ‹_<n›
  show zEB _ _ _ _=_
  unfold zEB
  have hb:=hz.bd k
  obtain ⟨a1,a2⟩:=List.getElem?_eq_some_iff.1 (hz.get (k:=k) (by omega))
  rw [zAG (dt (by omega)),zZ (zAI (by omega)),z0i,cl3 hz hr (by omega) rfl (hin k (by omega)) (lst z k).length zAD 0 d (by omega) (by unfold zAD; omega) h3,List.drop_eq_getElem_cons a1,a2]
  conv=>rhs; unfold zIr
  rw [List.drop_zero]
  cases hm:zMp k d (lst z k) with
  | none=>rfl
  | some d'=>exact ih n (k+1) d' (by omega) (by omega) (by rw [zPl hm]; exact h3)
theorem cl1 {se:Int→Option Int} (hz:Zk z) (hr:ranges z=true) (hk:k<4) (hl:lst z k=l) (hin:∀ f,f∈l→inside z f k=true) (hs:Srt l):∀ (m n i:Nat),i+m=l.length→m<n →
  zGH se z (k:Int) n (i:Int)=if zQf z k l (l.drop i)=true then some 11 else se ((k+1:Nat):Int):=by
 have hb:l.length≤1000000:=by rw [← hl]; exact hz.bd k
 have e:z.free.getD (k:Int).toNat []=l:=hl
 obtain ⟨e2,p1,p2⟩:=zJW (k:=k) (by omega)
 intro m
 induction m with
 | zero =>
  intro n i h1 h2
  obtain ⟨n,rfl⟩:=ex1 ‹_<n›
  show zEH _ _ _ _ _=_
  unfold zEH zIC
  rw [e,z5 (df (by omega)),zZ (z8 (by omega)),List.drop_eq_nil_of_le (by omega)]
  rfl
 | succ m ih =>
  intro n i h1 h2
  obtain ⟨n,rfl⟩:=ex1 ‹_<n›
  have hi:i<l.length:=by omega
  show zEH _ _ _ _ _=_
  unfold zEH
  have hbd:=zAZ hr (hin _ (List.getElem_mem hi))
  rw [e,e2,zAG (dt (by omega)),zZ (zAI hi),zZ (zM7 (by omega)),zZ (z8 (by omega)),zZ (zAI (by omega)),zHb hi,List.drop_eq_getElem_cons hi,zUc hbd.1 (by omega) hk,zS5 hs hb,zB8,zZ (zMv (z8 (by omega)))]
  conv=>rhs; unfold zQf
  show ((cnd (decide (bud l[i] k∈l)) _ _).bind _)=_
  have hie:zCW z (min l[i] (bud l[i] k)) ((k:Int)+1)=some (inside z (min l[i] (bud l[i] k)) (k+1)):=zK5 (k:=k+1) hr (by omega)
  rw [hie,zZ (z8 (by omega))]
  cases hm:decide (bud l[i] k∈l) with
  | false =>
   rw [z5 rfl,zB8,Bool.false_and,Bool.false_and,if_neg Bool.false_ne_true]
   exact ih n (i+1) (by omega) (by omega)
  | true =>
   rw [zAG rfl,zB8]
   cases hq:inside z (min l[i] (bud l[i] k)) (k+1) with
   | false =>
    rw [Bool.and_false,if_neg Bool.false_ne_true]
    exact ih n (i+1) (by omega) (by omega)
   | true=>rfl
theorem cl0 (hz:Zk z) (hr:ranges z=true) (hin:∀ k,k<5 → ∀ f,f∈lst z k→inside z f k=true) (hs:∀ k,Srt (lst z k)):∀ (m n k:Nat),k+m=4→m<n →
  zCp z n (k:Int)=if zMe z k ((z.free.take 4).drop k)=true then some 11 else some 0:=by
 intro m
 induction m with
 | zero =>
  intro n k h1 h2
  obtain ⟨n,rfl⟩:=ex1 ‹_<n›
  show zEF _ _ _=_
  unfold zEF
  rw [z5 (df (by omega)),List.drop_eq_nil_of_le (by rw [List.length_take,hz.len]; omega)]
  rfl
 | succ m ih =>
  intro n k h1 h2
  obtain ⟨n,rfl⟩:=ex1 ‹_<n›
  show zEF _ _ _=_
  unfold zEF
  have hb:=hz.bd k
  obtain ⟨a1,a2⟩:=List.getElem?_eq_some_iff.1 (zLu (hz.get (k:=k) (by omega)) (show k<4 by omega))
  rw [zAG (dt (by omega)),zZ (zAI (by omega)),z0i,cl1 hz hr (by omega) rfl (hin k (by omega)) (hs k) (lst z k).length zAD 0 (by omega) (by unfold zAD; omega),List.drop_eq_getElem_cons a1,a2]
  conv=>rhs; unfold zMe
  rw [List.drop_zero]
  by_cases hq:zQf z k (lst z k) (lst z k)=true
  ·rw [if_pos hq,if_pos hq,if_pos rfl]
  ·rw [if_neg hq,if_neg hq]
   exact ih n (k+1) (by omega) (by omega)
theorem zNC (hz:Zk z) (h:zE2 z 0 z.free=0) (k:Nat):(∀ f,f∈lst z k→inside z f k=true)∧Srt (lst z k):=by
 rcases Nat.lt_or_ge k 5 with hk | hk
 ·have:=zTX h k _ (hz.get hk)
  rwa [Nat.zero_add] at this
 ·rw [zL4 hz.len hk]
  exact ⟨fun f hf=>absurd hf (by simp),Srt.nil⟩
theorem zPz (hz:Zk z) (hI:inI z.start=true):zED z=some (zEd z):=by
 unfold zED zEd
 rw [zSb _ hI,zB8]
 cases hr:ranges z with
 | false=>rfl
 | true =>
  rw [Bool.not_true,z5 rfl,if_neg (by simp),z0i,cl5 hz hr 5 zAD 0 (by omega) (by unfold zAD; omega) rfl]
  show (if zE2 z 0 z.free=0 then _ else _)=some (if zE2 z 0 z.free=0 then _ else _)
  by_cases h0:zE2 z 0 z.free=0
  ·rw [if_pos h0,if_pos h0]
   have hl:=fun k=>zNC hz h0 k
   unfold zGV
   rw [z0i,cl2 hz hr (fun k _=>(hl k).1) 5 zAD 0 _ (by omega) (by unfold zAD; omega) (by rw [List.length_replicate]),List.drop_zero]
   show (match zIr 0 zEs z.free with | none=>some 7 | some _=>zD5 z)=_
   cases hm:zIr 0 zEs z.free with
   | none=>rfl
   | some d =>
    rw [if_neg (by simp)]
    show zD5 z=_
    unfold zD5
    rw [z0i,cl0 hz hr (fun k _=>(hl k).1) (fun k=>(hl k).2) 4 zAD 0 (by omega) (by unfold zAD; omega),List.drop_zero]
    split <;> rfl
  ·rw [if_neg h0,if_neg h0]
end
end Go.Proofs.YtplkliakhdkpcaaGreat
namespace Go.Proofs.YtplkliakhdkpcaaGreat
open Go Go.RowKit Go.Wk Go.Am
section
variable {z:zi} {k:Nat} {l:List Int}
theorem zL1 {f:Int} (hr:ranges z=true) (hk:k≤4):zCZ z f (k:Int)=some (inside z f k):=by
 have hb:=zBV hr
 have hp:=zIp k
 by_cases h:z.start≤f∧f<z.start+z.count
 ·exact zRY hr hk h.1 h.2
 ·have hin:inside z f k=false:=by
   refine Bool.eq_false_iff.2 fun hi=>h ?_
   have:=zAZ hr hi
   omega
  rw [hin]
  unfold zCZ
  rw [zZ (zMv (z8 (by omega)))]
  refine zAG ?_
  rw [df (p:=(k:Int)<0) (by omega),df (p:=4<(k:Int)) (by omega)]
  by_cases h1:f<z.start
  ·rw [dt h1]; rfl
  ·rw [df h1,dt (p:=z.start+z.count≤f) (by omega)]; rfl
theorem rl6 {se:Int→Option Int} (hz:Zk z) (hr:ranges z=true) (hk:k<5) (hl:lst z k=l):∀ (m n i:Nat),i+m=l.length→m<n→zKf z k none l=zKf z k (zLP l i) (l.drop i) →
  zDe se z (k:Int) n (i:Int)=if zKf z k none l=0 then se ((k+1:Nat):Int) else some (zKf z k none l):=by
 have hb:l.length≤1000000:=by rw [← hl]; exact hz.bd k
 have e:z.free.getD (k:Int).toNat []=l:=hl
 intro m
 induction m with
 | zero =>
  intro n i h1 h2 hI
  obtain ⟨n,rfl⟩:=ex1 ‹_<n›
  show zCJ _ _ _ _ _=_
  unfold zCJ zFQ
  rw [e,zZ (zAI (by omega)),z5 (df (by omega)),zZ (z8 (by omega)),if_pos (zQ9 hI (by omega))]
  rfl
 | succ m ih =>
  intro n i h1 h2 hI
  obtain ⟨n,rfl⟩:=ex1 ‹_<n›
  have hi:i<l.length:=by omega
  have hx:=zRk hi
  show zCJ _ _ _ _ _=_
  unfold zCJ
  rw [e,zZ (zAI (by omega)),zAG (dt (by omega)),zZ (zAI hi),zL1 hr (by omega),zB8]
  generalize at_ l (i:Int)=x at *
  cases hin:inside z x k with
  | false =>
   rw [Bool.not_false,zAG rfl,zP9 hI hx hin]
   rfl
  | true =>
   rw [Bool.not_true,z5 rfl]
   by_cases h0:0<i
   ·rw [zZ (zMv (z8 (by omega))),zPk h0,zZ (zMv (zAI (by omega))),dt (p:=0<(i:Int)) (by omega),Bool.true_and]
    have hy:=zRk (l:=l) (i:=i - 1) (by omega)
    have hg:geP (zLP l i) x=decide (x≤at_ l ((i - 1:Nat):Int)):=zXO h0 (by rw [zPk h0,Int.toNat_natCast]; exact hy)
    by_cases hle:x≤at_ l ((i - 1:Nat):Int)
    ·rw [zAG (dt hle),zON hI hx hin (by rw [hg,dt hle])]
     rfl
    ·rw [z5 (df hle),zZ (z8 (by omega))]
     exact ih n (i+1) (by omega) (by omega) (zL2 hI hx hin (by rw [hg,df hle]))
   ·rw [df (p:=0<(i:Int)) (by omega)]
    refine (zZ (by rfl)).trans ((zZ (by rfl)).trans ((z5 (by rfl)).trans ?_))
    rw [zZ (z8 (by omega))]
    exact ih n (i+1) (by omega) (by omega) (zL2 hI hx hin (zWn h0))
theorem rl5 (hz:Zk z) (hr:ranges z=true):∀ (m n k:Nat),k+m=5→m<n→zE2 z 0 z.free=zE2 z k (z.free.drop k) →
  zBP z n (k:Int)=some (zE2 z 0 z.free):=by
 intro m
 induction m with
 | zero =>
  intro n k h1 h2 hR
  obtain ⟨n,rfl⟩:=ex1 ‹_<n›
  show zB9 _ _ _=_
  unfold zB9
  rw [z5 (df (by omega)),zPm hR (by rw [hz.len]; omega)]
  rfl
 | succ m ih =>
  intro n k h1 h2 hR
  obtain ⟨n,rfl⟩:=ex1 ‹_<n›
  show zB9 _ _ _=_
  unfold zB9
  have hb:=hz.bd k
  have hg:=hz.get (k:=k) (by omega)
  rw [zAG (dt (by omega)),z0i,rl6 hz hr (by omega) rfl (lst z k).length zAD 0 (by omega) (by unfold zAD; omega) rfl]
  by_cases h0:zKf z k none (lst z k)=0
  ·rw [if_pos h0]
   exact ih n (k+1) (by omega) (by omega) (zOD hR hg h0)
  ·rw [if_neg h0]
   have hc:zE2 z 0 z.free=zKf z k none (lst z k):=by
    obtain ⟨a1,a2⟩:=List.getElem?_eq_some_iff.1 hg
    rw [hR,List.drop_eq_getElem_cons a1,a2]
    unfold zE2
    rw [if_neg h0]
   rw [hc]
def zJx (s:List Int) (i:Nat):Nat→List Int
 | 0=>s
 | n+1=>zJx (s.set i (s.getD i 0+1)) (i+1) n
def zIh (k:Nat):List Int→List Int→List Int
 | s,[]=>s
 | s,f::r=>zIh k (zJx s f.toNat (2 ^ k)) r
def zHg:Nat→List Int→List (List Int)→List Int
 | _,s,[]=>s
 | k,s,l::r=>zHg (k+1) (zIh k s l) r
def zOp (z:zi):List Int:=zHg 0 (List.replicate 256 0) z.free
theorem zKw:∀ (m i:Nat) (s:List Int),(zJx s i m).length=s.length
 | 0,_,_=>rfl
 | m+1,i,s=>by unfold zJx; rw [zKw,List.length_set]
theorem zI4:∀ (l:List Int) (k:Nat) (s:List Int),(zIh k s l).length=s.length
 | [],_,_=>rfl
 | x::l,k,s=>by unfold zIh; rw [zI4 l,zKw]
theorem zVa (l:List Int) (i g:Nat) (h:i<l.length) (x:Int):(l.set i x).getD g 0=if g=i then x else l.getD g 0:=by
 simp only [List.getD_eq_getElem?_getD,List.getElem?_set]
 by_cases hg:i=g
 ·rw [if_pos hg,if_pos h,if_pos hg.symm]; rfl
 ·rw [if_neg hg,if_neg (fun e=>hg e.symm)]
theorem zK2:∀ (m i:Nat) (s:List Int) (g:Nat),i+m≤s.length→(zJx s i m).getD g 0=if i≤g∧g<i+m then s.getD g 0+1 else s.getD g 0
 | 0,i,s,g,_=>by rw [if_neg (by omega)]; rfl
 | m+1,i,s,g,h=>by
  unfold zJx
  rw [zK2 m (i+1) _ g (by rw [List.length_set]; omega),zVa s i g (by omega)]
  by_cases h2:g=i
  ·subst h2
   rw [if_neg (by omega),if_pos rfl,if_pos (by omega)]
  ·rw [if_neg h2]
   by_cases h1:i+1≤g∧g<i+1+m
   ·rw [if_pos h1,if_pos (by omega)]
   ·rw [if_neg h1,if_neg (by omega)]
theorem sl2 {se:Int→List Int→Option (List Int)} {i:Nat} {x:Int} (hk:k<5) (hx:at_ (lst z k) (i:Int)=x) (hil:i<(lst z k).length) (h0:0≤x) (h1:x+2 ^ k≤256) (hi:i<1000000):∀ (m n f:Nat) (s:List Int),(f:Int)+m=x+2 ^ k→m<n→s.length=256→(∀ g,f≤g→0≤s.getD g 0∧s.getD g 0≤1000000000) →
  zIN se z (k:Int) (i:Int) n (f:Int) s=se ((i+1:Nat):Int) (zJx s f m):=by
 obtain ⟨e,p1,p2⟩:=zJW (k:=k) (by omega)
 have ex:at_ (z.free.getD (k:Int).toNat []) (i:Int)=x:=hx
 have el:i<(z.free.getD (k:Int).toNat []).length:=hil
 intro m
 induction m with
 | zero =>
  intro n f s h2 h3 h4 h5
  obtain ⟨n,rfl⟩:=ex1 ‹_<n›
  show zFo _ _ _ _ _ _ _=_
  unfold zFo zJg
  rw [e,ex,zZ (zAI (by omega)),zZ (zAI el),zZ (dt (zGo (by omega) (by omega))),zZ (zM7 (by omega)),zZ (z8 (by omega)),zZ (z8 (by omega)),z5 (df (by omega)),zZ (z8 (by omega))]
  rfl
 | succ m ih =>
  intro n f s h2 h3 h4 h5
  obtain ⟨n,rfl⟩:=ex1 ‹_<n›
  show zFo _ _ _ _ _ _ _=_
  unfold zFo
  have hf:f<s.length:=by omega
  have ea:at_ s (f:Int)=s.getD f 0:=by rw [zHb hf,List.getD_eq_getElem?_getD,List.getElem?_eq_getElem hf]; rfl
  have hb:=h5 f (Nat.le_refl _)
  rw [e,ex,zZ (zAI (by omega)),zZ (zAI el),zZ (dt (zGo (by omega) (by omega))),zZ (zM7 (by omega)),zZ (z8 (by omega)),zZ (z8 (by omega)),zAG (dt (by omega)),zZ (zAI hf),ea,zZ (z8 (by omega)),zZ (z8 (by omega))]
  exact ih n (f+1) (s.set f (s.getD f 0+1)) (by omega) (by omega) (by rw [List.length_set]; exact h4) (fun g hg=>by
   rw [zVa s f g hf,if_neg (by omega)]
   exact h5 g (by omega))
theorem sl1 {se:Int→List Int→Option (List Int)} (hz:Zk z) (hr:ranges z=true) (hk:k<5) (hl:lst z k=l) (hin:∀ f,f∈l→inside z f k=true):∀ (m n i c:Nat) (s:List Int),i+m=l.length→m<n→s.length=256→(∀ g,0≤s.getD g 0∧s.getD g 0≤c)→c+m≤1000000000 →
  zDA se z (k:Int) n (i:Int) s=se ((k+1:Nat):Int) (zIh k s (l.drop i)) ∧ ∀ g,0≤(zIh k s (l.drop i)).getD g 0∧(zIh k s (l.drop i)).getD g 0≤((c+m:Nat):Int):=by
 have hb:l.length≤1000000:=by rw [← hl]; exact hz.bd k
 have e:z.free.getD (k:Int).toNat []=l:=hl
 obtain ⟨e2,p1,p2⟩:=zJW (k:=k) (by omega)
 have pn:=zMj (k:=k) (by omega)
 intro m
 induction m with
 | zero =>
  intro n i c s h1 h2 h3 h4 h5
  obtain ⟨n,rfl⟩:=ex1 ‹_<n›
  rw [List.drop_eq_nil_of_le (by omega)]
  refine ⟨?_,h4⟩
  show zFg _ _ _ _ _ _=_
  unfold zFg zJZ
  rw [e,zZ (zAI (by omega)),z5 (df (by omega)),zZ (z8 (by omega))]
  rfl
 | succ m ih =>
  intro n i c s h1 h2 h3 h4 h5
  obtain ⟨n,rfl⟩:=ex1 ‹_<n›
  have hi:i<l.length:=by omega
  have hbd:=zAZ hr (hin _ (List.getElem_mem hi))
  have ha:at_ (lst z k) (i:Int)=l[i]:=by rw [hl]; exact zHb hi
  obtain ⟨f,hf⟩:=Int.eq_ofNat_of_zero_le hbd.1
  rw [List.drop_eq_getElem_cons hi]
  have hbump:zIh k s (l[i]::l.drop (i+1))=zIh k (zJx s f (2 ^ k)) (l.drop (i+1)):=by
   show zIh k (zJx s l[i].toNat (2 ^ k)) (l.drop (i+1))=_
   rw [hf]
   rfl
  rw [hbump]
  have hg:∀ g,0≤(zJx s f (2 ^ k)).getD g 0∧(zJx s f (2 ^ k)).getD g 0≤((c+1:Nat):Int):=fun g=>by
   rw [zK2 _ _ _ _ (by omega)]
   have:=h4 g
   split <;> omega
  obtain ⟨r1,r2⟩:=ih n (i+1) (c+1) (zJx s f (2 ^ k)) (by omega) (by omega) (by rw [zKw]; exact h3) hg (by omega)
  refine ⟨?_,fun g=>by have:=r2 g; omega⟩
  rw [← r1]
  show zFg _ _ _ _ _ _=_
  unfold zFg
  rw [e,zZ (zAI (by omega)),zAG (dt (by omega)),zZ (zAI hi),zHb hi]
  have hc:=sl2 (se:=zDA se z (k:Int) n) hk ha (by rw [hl]; exact hi) hbd.1 hbd.2.1 (by omega) (2 ^ k) zAD f s (by omega) (by unfold zAD; omega) h3 (fun g _=>by have:=h4 g; omega)
  rw [← hf] at hc
  exact hc
theorem sl0 (hz:Zk z) (hr:ranges z=true) (hin:∀ k,k<5 → ∀ f,f∈lst z k→inside z f k=true):∀ (m n k c:Nat) (s:List Int),k+m=5→m<n→s.length=256→(∀ g,0≤s.getD g 0∧s.getD g 0≤c)→c+m*1000000≤1000000000 →
  zBo z n (k:Int) s=some (zHg k s (z.free.drop k)):=by
 intro m
 induction m with
 | zero =>
  intro n k c s h1 h2 h3 h4 h5
  obtain ⟨n,rfl⟩:=ex1 ‹_<n›
  show zFn _ _ _ _=_
  unfold zFn
  rw [z5 (df (by omega)),List.drop_eq_nil_of_le (by rw [hz.len]; omega)]
  rfl
 | succ m ih =>
  intro n k c s h1 h2 h3 h4 h5
  obtain ⟨n,rfl⟩:=ex1 ‹_<n›
  have hb:=hz.bd k
  obtain ⟨a1,a2⟩:=List.getElem?_eq_some_iff.1 (hz.get (k:=k) (by omega))
  obtain ⟨r1,r2⟩:=sl1 (se:=zBo z n) hz hr (by omega) rfl (hin k (by omega)) (lst z k).length zAD 0 c s (by omega) (by unfold zAD; omega) h3 h4 (by omega)
  rw [List.drop_zero] at r1 r2
  show zFn _ _ _ _=_
  unfold zFn
  rw [zAG (dt (by omega)),z0i,r1,List.drop_eq_getElem_cons a1,a2]
  exact ih n (k+1) (c+(lst z k).length) _ (by omega) (by omega) (by rw [zI4]; exact h3) r2 (by omega)
theorem zQ0 (hz:Zk z) (hr:ranges z=true) (hin:∀ k,k<5 → ∀ f,f∈lst z k→inside z f k=true):zIL z=some (zOp z):=by
 unfold zIL
 rw [zZ (by rfl),z0i]
 exact sl0 hz hr hin 5 zAD 0 0 _ (by omega) (by unfold zAD; omega) (by rw [List.length_replicate]; rfl) (fun g=>by
  rw [List.getD_eq_getElem?_getD,List.getElem?_replicate]
  split <;> simp) (by omega)
end
end Go.Proofs.YtplkliakhdkpcaaGreat
namespace Go.Proofs.YtplkliakhdkpcaaGreat
open Go Go.RowKit Go.Wk Go.Am
theorem zCM {α:Type} (l:List α) (i g:Nat) (h:i<l.length) (x d:α):(l.set i x).getD g d=if g=i then x else l.getD g d:=by
 simp only [List.getD_eq_getElem?_getD,List.getElem?_set]
 by_cases hg:i=g
 ·rw [if_pos hg,if_pos h,if_pos hg.symm]; rfl
 ·rw [if_neg hg,if_neg (fun e=>hg e.symm)]
structure MB (d:List Bool) (s:List Int):Prop where
 dl:d.length=256
 sl:s.length=256
 t:∀ g,d.getD g false=true→s.getD g 0=1
 f:∀ g,d.getD g false=false→s.getD g 0=0
section
variable {z:zi} {k:Nat} {l:List Int}
theorem zNB:∀ (m i:Nat) (s:List Int) (g:Nat),s.getD g 0≤(zJx s i m).getD g 0
 | 0,_,_,_=>Int.le_refl _
 | m+1,i,s,g=>by
  unfold zJx
  refine Int.le_trans ?_ (zNB m (i+1) _ g)
  rcases Nat.lt_or_ge i s.length with h | h
  ·rw [zVa s i g h]
   split
   ·rename_i e; rw [e]; omega
   ·omega
  ·rw [List.set_eq_of_length_le h]
   omega
theorem zKI:∀ (l:List Int) (k:Nat) (s:List Int) (g:Nat),s.getD g 0≤(zIh k s l).getD g 0
 | [],_,_,_=>Int.le_refl _
 | x::l,k,s,g=>by
  unfold zIh
  exact Int.le_trans (zNB _ _ _ _) (zKI l k _ g)
theorem zNK:∀ (ls:List (List Int)) (k:Nat) (s:List Int) (g:Nat),s.getD g 0≤(zHg k s ls).getD g 0
 | [],_,_,_=>Int.le_refl _
 | l::ls,k,s,g=>by
  unfold zHg
  exact Int.le_trans (zKI l k s g) (zNK ls (k+1) _ g)
theorem zXs:∀ (m f:Nat) {d:List Bool} {s:List Int},MB d s→f+m≤256→match zMf d f m with | some d'=>MB d' (zJx s f m) | none => ∃ g,1<(zJx s f m).getD g 0
 | 0,_,_,_,h,_=>h
 | m+1,f,d,s,h,hm=>by
  unfold zMf
  cases hd:d.getD f false with
  | true =>
   rw [if_pos rfl]
   refine ⟨f,?_⟩
   rw [zK2 _ _ _ _ (by rw [h.sl]; exact hm),if_pos (by omega),h.t f hd]
   decide
  | false =>
   rw [if_neg (by simp)]
   unfold zJx
   have hs:=h.sl
   have hl:=h.dl
   refine zXs m (f+1) ⟨by rw [List.length_set]; exact hl,by rw [List.length_set]; exact hs,fun g hg => ?_,fun g hg => ?_⟩ (by omega)
   ·rw [zVa s f g (by omega)]
    rw [zCM d f g (by omega)] at hg
    by_cases e:g=f
    ·rw [if_pos e,h.f f hd]; rfl
    ·rw [if_neg e]
     rw [if_neg e] at hg
     exact h.t g hg
   ·rw [zCM d f g (by omega)] at hg
    by_cases e:g=f
    ·rw [if_pos e] at hg; cases hg
    ·rw [if_neg e] at hg
     rw [zVa s f g (by omega),if_neg e]
     exact h.f g hg
theorem zXu (hr:ranges z=true):∀ (l:List Int) {d:List Bool} {s:List Int},(∀ f,f∈l→inside z f k=true)→k<5→MB d s→match zMp k d l with | some d'=>MB d' (zIh k s l) | none => ∃ g,1<(zIh k s l).getD g 0
 | [],_,_,_,_,h=>h
 | x::l,d,s,hin,hk,h=>by
  have hbd:=zAZ hr (hin x (by simp))
  have pn:=zMj (k:=k) (by omega)
  have hn:=zXs (2 ^ k) x.toNat h (by omega)
  unfold zMp zIh
  cases hm:zMf d x.toNat (2 ^ k) with
  | none =>
   rw [hm] at hn
   obtain ⟨g,hg⟩:=hn
   exact ⟨g,by have:=zKI l k (zJx s x.toNat (2 ^ k)) g; omega⟩
  | some d' =>
   rw [hm] at hn
   exact zXu hr l (fun f hf=>hin f (by simp [hf])) hk hn
theorem zWu (hr:ranges z=true):∀ (ls:List (List Int)) (k:Nat) {d:List Bool} {s:List Int},k+ls.length=5→(∀ j l,ls[j]?=some l → ∀ f,f∈l→inside z f (k+j)=true)→MB d s→match zIr k d ls with | some d'=>MB d' (zHg k s ls) | none => ∃ g,1<(zHg k s ls).getD g 0
 | [],_,_,_,_,_,h=>h
 | l::ls,k,d,s,hk,hin,h=>by
  have hk':k+(ls.length+1)=5:=hk
  have hn:=zXu hr l (d:=d) (s:=s) (fun f hf=>by have:=hin 0 l rfl f hf; rwa [Nat.add_zero] at this) (by omega) h
  unfold zIr zHg
  cases hm:zMp k d l with
  | none =>
   rw [hm] at hn
   obtain ⟨g,hg⟩:=hn
   exact ⟨g,by have:=zNK ls (k+1) (zIh k s l) g; omega⟩
  | some d' =>
   rw [hm] at hn
   exact zWu hr ls (k+1) (by omega) (fun j l' hj f hf=>by
    have:=hin (j+1) l' hj f hf
    rwa [show k+(j+1)=k+1+j by omega] at this) hn
theorem mb0:MB zEs (List.replicate 256 0):=⟨zJB,by rw [List.length_replicate],fun g hg=>by
  unfold zEs at hg
  rw [List.getD_eq_getElem?_getD,List.getElem?_replicate] at hg
  split at hg <;> simp at hg,fun g _=>by
  rw [List.getD_eq_getElem?_getD,List.getElem?_replicate]
  split <;> rfl⟩
theorem zXy (hz:Zk z) (hr:ranges z=true) (hin:∀ k,k<5 → ∀ f,f∈lst z k→inside z f k=true):match zIr 0 zEs z.free with | some d=>MB d (zOp z) | none => ∃ g,1<(zOp z).getD g 0 :=
 zWu hr z.free 0 (by rw [hz.len]) (fun j l hj f hf=>by
  have hj5:j<5:=by rw [← hz.len]; exact (List.getElem?_eq_some_iff.1 hj).1
  rw [hz.get hj5] at hj
  cases hj
  rw [Nat.zero_add]
  exact hin j hj5 f hf) mb0
theorem zOK:∀ (ls:List (List Int)) (k:Nat) (s:List Int),(zHg k s ls).length=s.length
 | [],_,_=>rfl
 | l::ls,k,s=>by unfold zHg; rw [zOK ls,zI4]
theorem zOx:(zOp z).length=256:=by unfold zOp; rw [zOK,List.length_replicate]
theorem rc2 {x:List Int} (hx:x.length=256):∀ (m n i:Nat),i+m=256→m<n→(∀ g,g<i → ¬ 1<x.getD g 0) →
  ((∃ g,1<x.getD g 0)→zB3 z x n (i:Int)=some 7)∧((∀ g,¬ 1<x.getD g 0)→zB3 z x n (i:Int)=zE9 z):=by
 intro m
 induction m with
 | zero =>
  intro n i h1 h2 h3
  obtain ⟨n,rfl⟩:=ex1 ‹_<n›
  have e:zB3 z x (n+1) (i:Int)=zE9 z:=by
   show zDo _ _ _ _=_
   unfold zDo
   rw [z5 (df (by omega))]
  refine ⟨fun ⟨g,hg⟩ => ?_,fun _=>e⟩
  rcases Nat.lt_or_ge g i with h | h
  ·exact absurd hg (h3 g h)
  ·rw [List.getD_eq_getElem?_getD,List.getElem?_eq_none (by omega)] at hg
   exact absurd hg (by decide)
 | succ m ih =>
  intro n i h1 h2 h3
  obtain ⟨n,rfl⟩:=ex1 ‹_<n›
  have hi:i<x.length:=by omega
  have ea:at_ x (i:Int)=x.getD i 0:=by rw [zHb hi,List.getD_eq_getElem?_getD,List.getElem?_eq_getElem hi]; rfl
  have e:zB3 z x (n+1) (i:Int)=cnd (decide (1<x.getD i 0)) (some 7) (zB3 z x n ((i+1:Nat):Int)):=by
   show zDo _ _ _ _=_
   unfold zDo
   rw [zAG (dt (by omega)),zZ (zAI hi),ea,zZ (z8 (by omega))]
   rfl
  rw [e]
  by_cases h7:1<x.getD i 0
  ·rw [zAG (dt h7)]
   exact ⟨fun _=>rfl,fun h=>absurd h7 (h i)⟩
  ·rw [z5 (df h7)]
   exact ih n (i+1) (by omega) (by omega) (fun g hg=>by
    by_cases e:g=i
    ·rw [e]; exact h7
    ·exact h3 g (by omega))
def Adj (z:zi) (k:Nat) (l:List Int) (i:Nat):Prop:=0<i∧i<l.length∧at_ l (i:Int)=at_ l ((i - 1:Nat):Int)+2 ^ k∧inside z (at_ l ((i - 1:Nat):Int)) (k+1)=true
theorem zUu (hr:ranges z=true) (hk:k<4) (hin:∀ f,f∈l→inside z f k=true) (hs:Srt l):(∃ i,Adj z k l i)↔zQf z k l l=true:=by
 have hp:=zIp k
 have hps:=zLj k
 have key:∀ r,zQf z k l r=true ↔ ∃ f,f∈r∧bud f k∈l∧inside z (min f (bud f k)) (k+1)=true:=by
  intro r
  induction r with
  | nil=>unfold zQf; simp
  | cons f r ih =>
   unfold zQf
   by_cases h:(decide (bud f k∈l)&&inside z (min f (bud f k)) (k+1))=true
   ·rw [if_pos h]
    simp only [Bool.and_eq_true,decide_eq_true_eq] at h
    exact ⟨fun _=>⟨f,by simp,h.1,h.2⟩,fun _=>rfl⟩
   ·rw [if_neg h,ih]
    simp only [Bool.and_eq_true,decide_eq_true_eq] at h
    constructor
    ·rintro ⟨g,h1,h2⟩; exact ⟨g,by simp [h1],h2⟩
    ·rintro ⟨g,h1,h2,h3⟩
     rcases List.mem_cons.1 h1 with rfl | h1
     ·exact absurd ⟨h2,h3⟩ h
     ·exact ⟨g,h1,h2,h3⟩
 rw [key]
 constructor
 ·rintro ⟨i,h0,hi,he,hq⟩
  have hi':i - 1<l.length:=by omega
  rw [zHb hi,zHb hi'] at he
  rw [zHb hi'] at hq
  have hb:=zAZ hr (hin _ (List.getElem_mem hi'))
  have ha:=(zBX hr).1 (hin _ (List.getElem_mem hi'))
  have ha2:=(zBX hr).1 hq
  have hbu:bud l[i - 1] k=l[i - 1]+2 ^ k:=by
   rcases zNP hk hb.1 (by omega) ha.2.1 with ⟨_,e⟩ | ⟨e,_⟩
   ·exact e
   ·rw [ha2.2.1] at e; omega
  refine ⟨l[i - 1],List.getElem_mem hi',?_,?_⟩
  ·rw [hbu, ← he]; exact List.getElem_mem hi
  ·rw [hbu,Int.min_eq_left (by omega)]; exact hq
 ·rintro ⟨f,h1,h2,h3⟩
  have main:∀ x,x∈l→x+2 ^ k∈l→inside z x (k+1)=true → ∃ i,Adj z k l i:=by
   intro x hx hy hq
   obtain ⟨p,hp1,rfl⟩:=List.getElem_of_mem hx
   obtain ⟨q,hq1,hq2⟩:=List.getElem_of_mem hy
   have hpq:p<q:=by
    rcases Nat.lt_trichotomy p q with h | h | h
    ·exact h
    ·subst h; omega
    ·have:=zKQ hs (List.getElem?_eq_getElem hq1) (List.getElem?_eq_getElem hp1) h
     omega
   have hn:p+1<l.length:=by omega
   have hlt:=zKQ hs (List.getElem?_eq_getElem hp1) (List.getElem?_eq_getElem hn) (by omega)
   have hle:l[p+1]≤l[q]:=by
    by_cases e:p+1=q
    ·subst e; omega
    ·have:=zKQ hs (List.getElem?_eq_getElem hn) (List.getElem?_eq_getElem hq1) (by omega)
     omega
   have a1:=((zBX hr).1 (hin _ (List.getElem_mem hp1))).2.1
   have a2:=((zBX hr).1 (hin _ (List.getElem_mem hn))).2.1
   have he:l[p+1]=l[p]+2 ^ k:=by
    have hk':k=0∨k=1∨k=2∨k=3:=by omega
    rcases hk' with rfl | rfl | rfl | rfl <;> simp only [pw0,pw1,pw2,pw3] at * <;> omega
   refine ⟨p+1,by omega,hn,?_,?_⟩
   ·rw [zHb hn,show p+1 - 1=p by omega,zHb hp1]; exact he
   ·rw [show p+1 - 1=p by omega,zHb hp1]; exact hq
  have hb:=zAZ hr (hin f h1)
  have ha:=(zBX hr).1 (hin f h1)
  rcases zNP hk hb.1 (by omega) ha.2.1 with ⟨_,e⟩ | ⟨_,e⟩
  ·rw [e] at h2 h3
   rw [Int.min_eq_left (by omega)] at h3
   exact main f h1 h2 h3
  ·rw [e] at h2 h3
   rw [Int.min_eq_right (by omega)] at h3
   exact main (f - 2 ^ k) h2 (by rw [show f - 2 ^ k+2 ^ k=f by omega]; exact h1) h3
theorem rc1 {se:Int→Option Int} (hz:Zk z) (hr:ranges z=true) (hk:k<4) (hl:lst z k=l) (hin:∀ f,f∈l→inside z f k=true):∀ (m n i:Nat),l.length≤i+m→i≤1000001→m<n→0<i→(∀ j,j<i → ¬ Adj z k l j) →
  ((∃ j,Adj z k l j)→zB4 se z (k:Int) n (i:Int)=some 11)∧((∀ j,¬ Adj z k l j)→zB4 se z (k:Int) n (i:Int)=se ((k+1:Nat):Int)):=by
 have hb:l.length≤1000000:=by rw [← hl]; exact hz.bd k
 have e:z.free.getD (k:Int).toNat []=l:=hl
 obtain ⟨e2,p1,p2⟩:=zJW (k:=k) (by omega)
 have hend:∀ n i:Nat,l.length≤i→(∀ j,j<i → ¬ Adj z k l j)→((∃ j,Adj z k l j)→zB4 se z (k:Int) (n+1) (i:Int)=some 11)∧((∀ j,¬ Adj z k l j)→zB4 se z (k:Int) (n+1) (i:Int)=se ((k+1:Nat):Int)):=by
  intro n i h1 h4
  refine ⟨fun ⟨j,hj⟩=>absurd hj (h4 j (by have:=hj.2.1; omega)),fun _ => ?_⟩
  show zEE _ _ _ _ _=_
  unfold zEE zH8
  rw [e,zZ (zAI (by omega)),z5 (df (by omega)),zZ (z8 (by omega))]
  rfl
 intro m
 induction m with
 | zero =>
  intro n i h1 hi6 h2 h3 h4
  obtain ⟨n,rfl⟩:=ex1 ‹_<n›
  exact hend n i (by omega) h4
 | succ m ih =>
  intro n i h1 hi6 h2 h3 h4
  obtain ⟨n,rfl⟩:=ex1 ‹_<n›
  by_cases hi:i<l.length
  ·have hbd:=zAZ hr (hin _ (List.getElem_mem (show i - 1<l.length by omega)))
   have hat:=zHb (l:=l) (i:=i - 1) (by omega)
   have ee:zB4 se z (k:Int) (n+1) (i:Int)=cnd (decide (at_ l (i:Int)=at_ l ((i - 1:Nat):Int)+2 ^ k)&&inside z (at_ l ((i - 1:Nat):Int)) (k+1)) (some 11) (zB4 se z (k:Int) n ((i+1:Nat):Int)):=by
    show zEE _ _ _ _ _=_
    unfold zEE
    have hbl:zCZ z (at_ l ((i - 1:Nat):Int)) ((k:Int)+1)=some (inside z (at_ l ((i - 1:Nat):Int)) (k+1)):=zL1 (k:=k+1) hr (by omega)
    rw [e,e2,zZ (zAI (by omega)),zAG (dt (by omega)),zZ (zAI hi),zZ (z8 (by omega)),zPk h3,zZ (zAI (by omega)),zZ (dt (zGo (by omega) (by omega))),zZ (zM7 (by omega)),zZ (z8 (by omega)),zZ (z8 (by rw [hat]; omega)),zZ (zMv (z8 (by omega))),hbl,zZ (z8 (by omega))]
    cases decide (at_ l (i:Int)=at_ l ((i - 1:Nat):Int)+2 ^ k) with
    | true=>rfl
    | false=>rfl
   rw [ee]
   by_cases ha:Adj z k l i
   ·rw [dt ha.2.2.1,ha.2.2.2]
    exact ⟨fun _=>rfl,fun h=>absurd ha (h i)⟩
   ·have hf:(decide (at_ l (i:Int)=at_ l ((i - 1:Nat):Int)+2 ^ k)&&inside z (at_ l ((i - 1:Nat):Int)) (k+1))=false:=by
     refine Bool.eq_false_iff.2 fun h=>ha ?_
     simp only [Bool.and_eq_true,decide_eq_true_eq] at h
     exact ⟨h3,hi,h.1,h.2⟩
    rw [z5 hf]
    exact ih n (i+1) (by omega) (by omega) (by omega) (by omega) (fun j hj=>by
     by_cases e:j=i
     ·rw [e]; exact ha
     ·exact h4 j (by omega))
  ·exact hend n i (by omega) h4
theorem rc0 (hz:Zk z) (hr:ranges z=true) (hin:∀ k,k<5 → ∀ f,f∈lst z k→inside z f k=true) (hs:∀ k,Srt (lst z k)):∀ (m n k:Nat),k+m=4→m<n →
  zB7 z n (k:Int)=if zMe z k ((z.free.take 4).drop k)=true then some 11 else some 0:=by
 intro m
 induction m with
 | zero =>
  intro n k h1 h2
  obtain ⟨n,rfl⟩:=ex1 ‹_<n›
  show zDt _ _ _=_
  unfold zDt
  rw [z5 (df (by omega)),List.drop_eq_nil_of_le (by rw [List.length_take,hz.len]; omega)]
  rfl
 | succ m ih =>
  intro n k h1 h2
  obtain ⟨n,rfl⟩:=ex1 ‹_<n›
  show zDt _ _ _=_
  unfold zDt
  have hb:=hz.bd k
  obtain ⟨a1,a2⟩:=List.getElem?_eq_some_iff.1 (zLu (hz.get (k:=k) (by omega)) (show k<4 by omega))
  have hc:=rc1 (se:=zB7 z n) hz hr (k:=k) (by omega) rfl (hin k (by omega)) (lst z k).length zAD 1 (by omega) (by omega) (by unfold zAD; omega) (by omega) (fun j hj h=>by have:=h.1; omega)
  rw [zAG (dt (by omega)),List.drop_eq_getElem_cons a1,a2]
  conv=>rhs; unfold zMe
  have hab:=zUu (l:=lst z k) hr (by omega) (hin k (by omega)) (hs k)
  by_cases hq:zQf z k (lst z k) (lst z k)=true
  ·rw [if_pos hq,if_pos rfl]
   exact hc.1 (hab.2 hq)
  ·rw [if_neg hq]
   refine (hc.2 (fun j hj=>hq (hab.1 ⟨j,hj⟩))).trans ?_
   exact ih n (k+1) (by omega) (by omega)
theorem zRI (hz:Zk z):zFm z=some (zEd z):=by
 unfold zFm zEd
 rw [zR1,zB8]
 cases hr:ranges z with
 | false=>rfl
 | true =>
  rw [Bool.not_true,z5 rfl,if_neg (by simp)]
  unfold zHf
  rw [z0i,rl5 hz hr 5 zAD 0 (by omega) (by unfold zAD; omega) rfl,zB8]
  show cnd (!decide (zE2 z 0 z.free=0)) _ _=some (if zE2 z 0 z.free=0 then _ else _)
  by_cases h0:zE2 z 0 z.free=0
  ·rw [dt h0,if_pos h0,Bool.not_true,z5 rfl]
   have hl:=fun k=>zNC hz h0 k
   rw [zQ0 hz hr (fun k _=>(hl k).1),zB8]
   have hm:=zXy hz hr (fun k _=>(hl k).1)
   have hc:=rc2 (z:=z) (zOx (z:=z)) 256 zAD 0 (by omega) (by unfold zAD; omega) (fun g hg=>by omega)
   show zB3 z (zOp z) zAD ((0:Nat):Int)=_
   cases hd:zIr 0 zEs z.free with
   | none =>
    rw [hd] at hm
    rw [hc.1 hm]
    rfl
   | some d =>
    rw [hd] at hm
    rw [hc.2 (fun g hg=>by
     cases hb:d.getD g false with
     | true=>have:=hm.t g hb; omega
     | false=>have:=hm.f g hb; omega),if_neg (by simp)]
    unfold zE9
    rw [z0i,rc0 hz hr (fun k _=>(hl k).1) (fun k=>(hl k).2) 4 zAD 0 (by omega) (by unfold zAD; omega),List.drop_zero]
    split <;> rfl
  ·rw [df h0,if_neg h0]
   rfl
end
end Go.Proofs.YtplkliakhdkpcaaGreat
namespace Go.Proofs.YtplkliakhdkpcaaGreat
open Go Go.RowKit Go.Wk Go.Am
def zLR (z:zi) (f:Int):Bool:=decide (zEd z=0)&&inside z f 0&&decide (0<(zOp z).getD f.toNat 0)
theorem zTr:∀ k:Fin 5, ∀ x:Fin 256,zMd .andNot .i64 (x.val:Int) (2 ^ k.val - 1)=((x.val/2 ^ k.val*2 ^ k.val:Nat):Int):=by decide +kernel
section
variable {z:zi} {k:Nat} {l:List Int}
theorem zGc (hz:Zk z) (h:zEd z=0):ranges z=true∧(∀ k,k<5 → ∀ f,f∈lst z k→inside z f k=true)∧(∀ k,Srt (lst z k)):=by
 have hr:=zC9 h
 have hc:zE2 z 0 z.free=0:=by
  unfold zEd at h
  rw [if_neg (by rw [hr]; simp)] at h
  by_cases h0:zE2 z 0 z.free=0
  ·exact h0
  ·rw [if_neg h0] at h; exact h
 exact ⟨hr,fun k _=>(zNC hz hc k).1,fun k=>(zNC hz hc k).2⟩
theorem zRP (hz:Zk z) (h:zEd z=0) {f:Nat} (hf:f<256):∀ (m n k:Nat),k+m=5→m<n → ∃ r,zEK z (f:Int) n (k:Int)=some r∧(0≤r.1 ↔ ∃ j,k≤j∧j<5∧((f/2 ^ j*2 ^ j:Nat):Int)∈lst z j):=by
 obtain ⟨hr,hin,hs⟩:=zGc hz h
 intro m
 induction m with
 | zero =>
  intro n k h1 h2
  obtain ⟨n,rfl⟩:=ex1 ‹_<n›
  refine ⟨(-1,0),?_,⟨fun hh=>absurd hh (by decide),fun ⟨j,a,b,_⟩=>by omega⟩⟩
  show zDr _ _ _ _=_
  unfold zDr
  rw [z5 (df (by omega))]
  rfl
 | succ m ih =>
  intro n k h1 h2
  obtain ⟨n,rfl⟩:=ex1 ‹_<n›
  obtain ⟨e2,p1,p2⟩:=zJW (k:=k) (by omega)
  have e:z.free.getD (k:Int).toNat []=lst z k:=rfl
  have ha:=zTr ⟨k,by omega⟩ ⟨f,hf⟩
  simp only at ha
  have ee:zEK z (f:Int) (n+1) (k:Int)=cnd (decide (((f/2 ^ k*2 ^ k:Nat):Int)∈lst z k)) (some ((k:Int),((f/2 ^ k*2 ^ k:Nat):Int))) (zEK z (f:Int) n ((k+1:Nat):Int)):=by
   show zDr _ _ _ _=_
   unfold zDr
   rw [zAG (dt (by omega)),zZ (zM7 (by omega)),e2,zZ (z8 (by omega)),zZ (z8 (by omega)),zZ (zAI (by omega)),e,ha,zS5 (hs k) (hz.bd k),zB8,zZ (z8 (by omega))]
   rfl
  rw [ee]
  by_cases hm:((f/2 ^ k*2 ^ k:Nat):Int)∈lst z k
  ·rw [zAG (dt hm)]
   exact ⟨_,rfl,⟨fun _=>⟨k,Nat.le_refl _,by omega,hm⟩,fun _=>Int.natCast_nonneg k⟩⟩
  ·rw [z5 (df hm)]
   obtain ⟨r,r1,r2⟩:=ih n (k+1) (by omega) (by omega)
   refine ⟨r,r1,r2.trans ⟨fun ⟨j,a,b,c⟩=>⟨j,by omega,b,c⟩,fun ⟨j,a,b,c⟩=>⟨j,?_,b,c⟩⟩⟩
   by_cases hjk:j=k
   ·subst hjk; exact absurd c hm
   ·omega
theorem zSs {s:List Int} {i m g:Nat} (h:i+m≤s.length) (hg:0≤s.getD g 0):0<(zJx s i m).getD g 0↔0<s.getD g 0∨(i≤g∧g<i+m):=by
 rw [zK2 _ _ _ _ h]
 split
 ·rename_i hq
  exact ⟨fun _ => .inr hq,fun _=>by omega⟩
 ·rename_i hq
  exact ⟨.inl,fun h=>h.resolve_right hq⟩
theorem zPb (hr:ranges z=true) (hk:k<5) {g:Nat}:∀ (l:List Int) {s:List Int},s.length=256→(∀ f,f∈l→inside z f k=true)→0≤s.getD g 0→(0<(zIh k s l).getD g 0↔0<s.getD g 0 ∨ ∃ x,x∈l∧x≤(g:Int)∧(g:Int)<x+2 ^ k)
 | [],s,_,_,_=>by unfold zIh; simp
 | x::l,s,hs,hin,h0=>by
  have hbd:=zAZ hr (hin x (by simp))
  have pn:=zMj (k:=k) (by omega)
  have hle:=zNB (2 ^ k) x.toNat s g
  unfold zIh
  rw [zPb hr hk l (by rw [zKw]; exact hs) (fun f hf=>hin f (by simp [hf])) (by omega),zSs (by rw [hs]; omega) h0]
  constructor
  ·rintro ((h | h) | ⟨y,h1,h2⟩)
   ·exact .inl h
   ·exact .inr ⟨x,by simp,by omega,by omega⟩
   ·exact .inr ⟨y,by simp [h1],h2⟩
  ·rintro (h | ⟨y,h1,h2,h3⟩)
   ·exact .inl (.inl h)
   ·rcases List.mem_cons.1 h1 with rfl | h1
    ·exact .inl (.inr (by omega))
    ·exact .inr ⟨y,h1,h2,h3⟩
theorem zOX (hr:ranges z=true) {g:Nat}:∀ (ls:List (List Int)) (k:Nat) {s:List Int},k+ls.length=5→s.length=256→(∀ j l,ls[j]?=some l → ∀ f,f∈l→inside z f (k+j)=true)→0≤s.getD g 0 →
  (0<(zHg k s ls).getD g 0↔0<s.getD g 0 ∨ ∃ j l x,ls[j]?=some l∧x∈l∧x≤(g:Int)∧(g:Int)<x+2 ^ (k+j))
 | [],k,s,_,_,_,_=>by unfold zHg; simp
 | l::ls,k,s,hk,hs,hin,h0=>by
  have hk':k+(ls.length+1)=5:=hk
  have hle:=zKI l k s g
  unfold zHg
  rw [zOX hr ls (k+1) (by omega) (by rw [zI4]; exact hs) (fun j l' hj f hf=>by
    have:=hin (j+1) l' hj f hf
    rwa [show k+(j+1)=k+1+j by omega] at this) (by omega),zPb hr (by omega) l hs (fun f hf=>by have:=hin 0 l rfl f hf; rwa [Nat.add_zero] at this) h0]
  constructor
  ·rintro ((h | ⟨x,h1,h2,h3⟩) | ⟨j,l',x,h1,h2,h3,h4⟩)
   ·exact .inl h
   ·exact .inr ⟨0,l,x,rfl,h1,h2,h3⟩
   ·exact .inr ⟨j+1,l',x,h1,h2,h3,by rw [show k+(j+1)=k+1+j by omega]; exact h4⟩
  ·rintro (h | ⟨j,l',x,h1,h2,h3,h4⟩)
   ·exact .inl (.inl h)
   ·cases j with
    | zero =>
     simp at h1
     subst h1
     exact .inl (.inr ⟨x,h2,h3,h4⟩)
    | succ j=>exact .inr ⟨j,l',x,by simpa using h1,h2,h3,by rw [show k+1+j=k+(j+1) by omega]; exact h4⟩
theorem zLi (hz:Zk z) (hr:ranges z=true) (hin:∀ k,k<5 → ∀ f,f∈lst z k→inside z f k=true) (g:Nat):0<(zOp z).getD g 0↔cov z g:=by
 unfold zOp
 have h0:(List.replicate 256 (0:Int)).getD g 0=0:=by
  rw [List.getD_eq_getElem?_getD,List.getElem?_replicate]
  split <;> rfl
 rw [zOX hr z.free 0 (by rw [hz.len]) (by rw [List.length_replicate]) (fun j l hj f hf=>by
  have hj5:j<5:=by rw [← hz.len]; exact (List.getElem?_eq_some_iff.1 hj).1
  rw [hz.get hj5] at hj
  cases hj
  rw [Nat.zero_add]
  exact hin j hj5 f hf) (by rw [h0]; decide),h0]
 constructor
 ·rintro (h | ⟨j,l,x,h1,h2,h3,h4⟩)
  ·exact absurd h (by decide)
  ·have hj5:j<5:=by rw [← hz.len]; exact (List.getElem?_eq_some_iff.1 h1).1
   rw [hz.get hj5] at h1
   cases h1
   rw [Nat.zero_add] at h4
   exact ⟨j,x,h2,h3,h4⟩
 ·rintro ⟨j,x,h2,h3,h4⟩
  rcases Nat.lt_or_ge j 5 with hj | hj
  ·exact .inr ⟨j,lst z j,x,hz.get hj,h2,h3,by rw [Nat.zero_add]; exact h4⟩
  ·rw [zL4 hz.len hj] at h2; exact absurd h2 (by simp)
theorem zOE {f:Nat} {x:Int} (hk:k<5) (h0:0≤x) (ha:x%2 ^ k=0):(x≤(f:Int)∧(f:Int)<x+2 ^ k)↔x=((f/2 ^ k*2 ^ k:Nat):Int):=by
 have hk':k=0∨k=1∨k=2∨k=3∨k=4:=by omega
 rcases hk' with rfl | rfl | rfl | rfl | rfl <;> simp only [pw0,pw1,pw2,pw3,pw4,Nat.reducePow] at * <;> omega
theorem zXb (hz:Zk z) (f:Int):zIU z f=some (zLR z f):=by
 unfold zIU zLR
 rw [zRI hz,zB8]
 by_cases h:zEd z=0
 ·obtain ⟨hr,hin,_⟩:=zGc hz h
  have hbl:zCZ z f 0=some (inside z f 0):=zL1 (k:=0) hr (by omega)
  rw [dt h,zAG rfl,hbl,zB8]
  cases hi:inside z f 0 with
  | false=>rfl
  | true =>
   have hb:=zAZ hr hi
   rw [pw0] at hb
   obtain ⟨m,rfl⟩:=Int.eq_ofNat_of_zero_le hb.1
   have hm:m<(zOp z).length:=by rw [zOx]; omega
   rw [Bool.and_true,zAG rfl,zQ0 hz hr hin,zB8,zZ (zMv (zAI hm)),zHb hm,Int.toNat_natCast,List.getD_eq_getElem?_getD,List.getElem?_eq_getElem hm]
   rfl
 ·rw [df h]
  rfl
theorem zXj (hz:Zk z) (hI:inI z.start=true) (f:Int):zGr z f=some (zLR z f):=by
 unfold zGr zLR
 rw [zPz hz hI,zB8]
 by_cases h:zEd z=0
 ·obtain ⟨hr,hin,_⟩:=zGc hz h
  have hie:zCW z f 0=some (inside z f 0):=zK5 (k:=0) hr (by omega)
  rw [dt h,Bool.not_true,Bool.not_false,zAG rfl,hie,zB8]
  cases hi:inside z f 0 with
  | false=>rfl
  | true =>
   have hb:=zAZ hr hi
   rw [pw0] at hb
   obtain ⟨m,rfl⟩:=Int.eq_ofNat_of_zero_le hb.1
   refine (z5 (by rfl)).trans ?_
   unfold zHh
   obtain ⟨r,r1,r2⟩:=zRP hz h (f:=m) (by omega) 5 zAD 0 (by omega) (by unfold zAD; omega)
   rw [z0i,r1,zB8]
   congr 1
   rw [Bool.true_and,Bool.true_and,decide_eq_decide,Int.toNat_natCast]
   refine Iff.trans r2 (Iff.trans ?_ (zLi hz hr hin m).symm)
   constructor
   ·rintro ⟨j,_,hj,hm⟩
    have hbj:=zAZ hr (hin j hj _ hm)
    have haj:=(zBX hr).1 (hin j hj _ hm)
    have:=(zOE (f:=m) hj hbj.1 haj.2.1).2 rfl
    exact ⟨j,_,hm,this.1,this.2⟩
   ·rintro ⟨j,x,hx,h1,h2⟩
    rcases Nat.lt_or_ge j 5 with hj | hj
    ·have hbj:=zAZ hr (hin j hj _ hx)
     have haj:=(zBX hr).1 (hin j hj _ hx)
     have:=(zOE (f:=m) hj hbj.1 haj.2.1).1 ⟨h1,h2⟩
     exact ⟨j,Nat.zero_le _,hj,this▸hx⟩
    ·rw [zL4 hz.len hj] at hx; exact absurd hx (by simp)
 ·rw [df h]
  rfl
def zV1 (z:zi):Int:=zRa 0 z.free
theorem zVE (hk:k<5) {n:Nat} (hn:n≤1000000):0≤(n:Int)*2 ^ k∧(n:Int)*2 ^ k≤16000000:=by
 have hk':k=0∨k=1∨k=2∨k=3∨k=4:=by omega
 rcases hk' with rfl | rfl | rfl | rfl | rfl <;> simp only [pw0,pw1,pw2,pw3,pw4] <;> omega
theorem zU6 (hz:Zk z):∀ (m n k:Nat) (acc:Int),k+m=4→m<n→0≤acc∧acc≤k*16000000 → ∃ r,zEZ z 4 n acc (k:Int)=some r∧r=acc+zRa k ((z.free.take 4).drop k)∧0≤r∧r≤64000000:=by
 have hl4:(z.free.take 4).length=4:=by rw [List.length_take,hz.len]; rfl
 have hcut:zIY z.free 0 4=z.free.take 4:=rfl
 intro m
 induction m with
 | zero =>
  intro n k acc h1 h2 h3
  obtain ⟨n,rfl⟩:=ex1 ‹_<n›
  refine ⟨acc,?_,?_,by omega,by omega⟩
  ·show zCh _ _ _ _ _=_
   unfold zCh
   rw [hcut,z5 (df (by omega))]
   rfl
  ·rw [List.drop_eq_nil_of_le (by omega)]
   show acc=acc+0
   omega
 | succ m ih =>
  intro n k acc h1 h2 h3
  obtain ⟨n,rfl⟩:=ex1 ‹_<n›
  have hk:k<(z.free.take 4).length:=by omega
  have hg:=zLu (hz.get (k:=k) (by omega)) (show k<4 by omega)
  obtain ⟨a1,a2⟩:=List.getElem?_eq_some_iff.1 hg
  have hb:=zVE (k:=k) (by omega) (hz.bd k)
  obtain ⟨r,r1,r2,r3,r4⟩:=ih n (k+1) (acc+((lst z k).length:Int)*2 ^ k) (by omega) (by omega) (by omega)
  refine ⟨r,?_,?_,r3,r4⟩
  ·rw [← r1]
   show zCh _ _ _ _ _=_
   unfold zCh
   rw [hcut,zAG (dt (by omega)),zZ (zAI hk),zHb hk,a2,Int.toNat_natCast,zZ (zM7 (by omega)),zZ (z8 (by omega)),zZ (z8 (by omega)),zZ (z8 (by omega))]
   rfl
  ·rw [r2,List.drop_eq_getElem_cons a1,a2]
   conv=>rhs; unfold zRa
   omega
theorem zRG:∀ (ls:List (List Int)) (k:Nat) (l:List Int),zRa k (ls++[l])=zRa k ls+(l.length:Int)*2 ^ (k+ls.length)
 | [],k,l=>by simp [zRa]
 | a::ls,k,l=>by
  show zRa k (a::(ls++[l]))=_
  unfold zRa
  rw [zRG ls (k+1) l,show k+1+ls.length=k+(a::ls).length by simp; omega]
  omega
theorem zXH (hz:Zk z) (hI:inI z.start=true) (h:zEd z=0):zJA z=some (zV1 z)∧0≤zV1 z∧zV1 z≤80000000:=by
 have h4:=hz.bd 4
 have hb:=zVE (k:=4) (by omega) h4
 obtain ⟨r,r1,r2,r3,r4⟩:=zU6 hz 4 zAD 0 0 (by omega) (by unfold zAD; omega) (by omega)
 have hfr:z.free=z.free.take 4++[lst z 4]:=by
  match hq:z.free,hz.len with
  | [a,b,c,d,e],_=>unfold lst; rw [hq]; rfl
 have hnum:zV1 z=r+((lst z 4).length:Int)*2 ^ 4:=by
  unfold zV1
  rw [hfr,zRG,r2,List.length_take,hz.len]
  show _=0+zRa 0 (z.free.take 4)+_
  rw [Int.zero_add]
  rfl
 refine ⟨?_,by omega,by omega⟩
 unfold zJA zH5 zLL
 rw [zPz hz hI,zB8,zB8,dt h]
 refine (congrArg (fun q=>Option.bind q _) ((z5 (by rfl)).trans ((zZ (by rfl)).trans ((zZ (dt hz.len)).trans r1)))).trans ?_
 rw [zB8]
 have e4:(z.free.getD (4:Int).toNat []).length=(lst z 4).length:=rfl
 have e16:(2:Int) ^ (4:Int).toNat=2 ^ 4:=rfl
 rw [e4,e16]
 refine (congrArg (fun q=>Option.bind q _) ((z5 (by rfl)).trans (zZ (z8 (by omega))))).trans ?_
 rw [zB8,zZ (z8 (by omega)),hnum]
end
end Go.Proofs.YtplkliakhdkpcaaGreat
namespace Go.Proofs.YtplkliakhdkpcaaGreat
open Go Go.RowKit Go.Wk Go.Am
structure Ck (c:zL):Prop where
 n:c.lists.length≤1000
 l:∀ x,x∈c.lists→x.length≤1000
def pcR (c:zL) (zn:Int):Int :=
 if zn<1∨6<zn then 1 else if (c.lists.length:Int)=zn then (if c.lists.flatten.all zFG=true then (if c.lists.flatten.Nodup then 0 else 7) else 2) else 3
section
variable {c:zL}
theorem Ck.le (h:Ck c) {i:Nat} (hi:i<c.lists.length):c.lists[i].length≤1000:=h.l _ (List.getElem_mem hi)
theorem zOk {i:Nat} (hi:i<c.lists.length):(c.lists.drop i).flatten=c.lists[i]++(c.lists.drop (i+1)).flatten:=by
 rw [List.drop_eq_getElem_cons hi]
 rfl
theorem zRc {i:Nat} (hi:c.lists.length≤i):(c.lists.drop i).flatten=[]:=by rw [List.drop_eq_nil_of_le hi]; rfl
theorem pl1 {se:Int→Int→Option Int} {acc:Int} {j:Nat} {l:List Int} (hc:Ck c) (hj:j<c.lists.length) (hl:c.lists[j]=l) (h0:0≤acc∧acc≤1000000000):∀ (m n i:Nat),i+m=l.length→m<n →
  zFs se c acc (j:Int) n (i:Int)=if (l.drop i).all zFG=true then se (acc+l.length) ((j+1:Nat):Int) else some 2:=by
 have hb:l.length≤1000:=by rw [← hl]; exact hc.le hj
 have hn:=hc.n
 have e:at_ c.lists (j:Int)=l:=by rw [zHb hj,hl]
 intro m
 induction m with
 | zero =>
  intro n i h1 h2
  obtain ⟨n,rfl⟩:=ex1 ‹_<n›
  show zDN _ _ _ _ _ _=_
  unfold zDN zHL zHE
  rw [e,z5 (df (by omega)),zZ (z8 (by omega)),zZ (z8 (by omega)),List.drop_eq_nil_of_le (by omega)]
  rfl
 | succ m ih =>
  intro n i h1 h2
  obtain ⟨n,rfl⟩:=ex1 ‹_<n›
  have hi:i<l.length:=by omega
  show zDN _ _ _ _ _ _=_
  unfold zDN
  rw [e,zAG (dt (by omega)),zZ (zAI hi),zHb hi,List.drop_eq_getElem_cons hi,List.all_cons,zZ (z8 (by omega))]
  show cnd (!zFG l[i]) _ _=_
  cases hf:zFG l[i] with
  | false=>rfl
  | true=>exact ih n (i+1) (by omega) (by omega)
theorem pl0 (hc:Ck c):∀ (m n i acc:Nat),i+m=c.lists.length→m<n→acc≤i*1000 →
  zBs c n (acc:Int) (i:Int)=if ((c.lists.drop i).flatten).all zFG=true then zFt c ((acc+(c.lists.drop i).flatten.length:Nat):Int) else some 2:=by
 have hn:=hc.n
 intro m
 induction m with
 | zero =>
  intro n i acc h1 h2 h3
  obtain ⟨n,rfl⟩:=ex1 ‹_<n›
  show zDQ _ _ _ _=_
  unfold zDQ
  rw [z5 (df (by omega)),zRc (by omega)]
  rfl
 | succ m ih =>
  intro n i acc h1 h2 h3
  obtain ⟨n,rfl⟩:=ex1 ‹_<n›
  have hi:i<c.lists.length:=by omega
  have hb:=hc.le hi
  show zDQ _ _ _ _=_
  unfold zDQ
  rw [zAG (dt (by omega)),zZ (zAI hi),z0i,pl1 hc hi rfl (by omega) c.lists[i].length zAD 0 (by omega) (by unfold zAD; omega),List.drop_zero,zOk hi,List.all_append,List.length_append]
  cases hf:c.lists[i].all zFG with
  | false=>rfl
  | true =>
   rw [if_pos rfl,Bool.true_and]
   have:=ih n (i+1) (acc+c.lists[i].length) (by omega) (by omega) (by omega)
   rw [show acc+c.lists[i].length+((c.lists.drop (i+1)).flatten).length=acc+(c.lists[i].length+((c.lists.drop (i+1)).flatten).length) by omega] at this
   rw [← this]
   congr 1
def zQC (m:List (Int×Bool)) (l:List Int):List (Int×Bool):=l.foldl (fun q f=>zKg q f true) m
theorem fm1 {se:Int→List (Int×Bool)→Option (List (Int×Bool))} {j:Nat} {l:List Int} (hc:Ck c) (hj:j<c.lists.length) (hl:c.lists[j]=l):∀ (m n i:Nat) (q:List (Int×Bool)),i+m=l.length→m<n →
  zEz se c (j:Int) n (i:Int) q=se ((j+1:Nat):Int) (zQC q (l.drop i)):=by
 have hb:l.length≤1000:=by rw [← hl]; exact hc.le hj
 have hn:=hc.n
 have e:at_ c.lists (j:Int)=l:=by rw [zHb hj,hl]
 intro m
 induction m with
 | zero =>
  intro n i q h1 h2
  obtain ⟨n,rfl⟩:=ex1 ‹_<n›
  show zC2 _ _ _ _ _ _=_
  unfold zC2 zGg
  rw [e,z5 (df (by omega)),zZ (z8 (by omega)),List.drop_eq_nil_of_le (by omega)]
  rfl
 | succ m ih =>
  intro n i q h1 h2
  obtain ⟨n,rfl⟩:=ex1 ‹_<n›
  have hi:i<l.length:=by omega
  show zC2 _ _ _ _ _ _=_
  unfold zC2
  rw [e,zAG (dt (by omega)),zZ (zAI hi),zHb hi,List.drop_eq_getElem_cons hi,zZ (z8 (by omega))]
  exact ih n (i+1) (zKg q l[i] true) (by omega) (by omega)
theorem fm0 (hc:Ck c):∀ (m n i:Nat) (q:List (Int×Bool)),i+m=c.lists.length→m<n→zBu c n (i:Int) q=some (zQC q (c.lists.drop i).flatten):=by
 have hn:=hc.n
 intro m
 induction m with
 | zero =>
  intro n i q h1 h2
  obtain ⟨n,rfl⟩:=ex1 ‹_<n›
  show zC4 _ _ _ _=_
  unfold zC4
  rw [z5 (df (by omega)),zRc (by omega)]
  rfl
 | succ m ih =>
  intro n i q h1 h2
  obtain ⟨n,rfl⟩:=ex1 ‹_<n›
  have hi:i<c.lists.length:=by omega
  have hb:=hc.le hi
  show zC4 _ _ _ _=_
  unfold zC4
  rw [zAG (dt (by omega)),zZ (zAI hi),z0i,fm1 hc hi rfl c.lists[i].length zAD 0 q (by omega) (by unfold zAD; omega),List.drop_zero,zOk hi,ih n (i+1) _ (by omega) (by omega)]
  unfold zQC
  rw [List.foldl_append]
theorem zPX (k:Int):∀ (q:List (Int×Bool)) (x:Int),x∈(zKg q k true).map (·.1)↔x=k∨x∈q.map (·.1)
 | [],x=>by simp [zKg]
 | p::q,x=>by
  unfold zKg
  by_cases h:p.1=k
  ·rw [if_pos h]
   simp [h]
  ·rw [if_neg h]
   simp only [List.map_cons,List.mem_cons,zPX k q x]
   constructor
   ·rintro (h1 | h1 | h1)
    ·exact .inr (.inl h1)
    ·exact .inl h1
    ·exact .inr (.inr h1)
   ·rintro (h1 | h1 | h1)
    ·exact .inr (.inl h1)
    ·exact .inl h1
    ·exact .inr (.inr h1)
theorem zQv (k:Int):∀ (q:List (Int×Bool)),(k∈q.map (·.1)→(zKg q k true).length=q.length)∧(k ∉ q.map (·.1)→(zKg q k true).length=q.length+1)
 | []=>by simp [zKg]
 | p::q=>by
  have ih:=zQv k q
  unfold zKg
  by_cases h:p.1=k
  ·rw [if_pos h]
   exact ⟨fun _=>rfl,fun hn=>absurd (by simp [h]) hn⟩
  ·rw [if_neg h]
   refine ⟨fun hm => ?_,fun hn => ?_⟩
   ·have hm':k∈q.map (·.1):=by
     rcases List.mem_cons.1 hm with e | e
     ·exact absurd e.symm h
     ·exact e
    show (zKg q k true).length+1=q.length+1
    rw [ih.1 hm']
   ·show (zKg q k true).length+1=q.length+1+1
    rw [ih.2 (fun hm=>hn (List.mem_cons_of_mem _ hm))]
theorem zPW:∀ (l:List Int) (q:List (Int×Bool)),(zQC q l).length≤q.length+l.length∧((zQC q l).length=q.length+l.length↔l.Nodup ∧ ∀ x,x∈l→x ∉ q.map (·.1))
 | [],q=>⟨Nat.le_refl _,by simp [zQC]⟩
 | a::l,q=>by
  obtain ⟨h1,h2⟩:=zPW l (zKg q a true)
  have e:zQC q (a::l)=zQC (zKg q a true) l:=rfl
  rw [e]
  have hk:=zPX a q
  have hl:=zQv a q
  by_cases ha:a∈q.map (·.1)
  ·rw [hl.1 ha] at h1 h2
   refine ⟨by simp; omega,⟨fun h=>by simp at h; omega,fun h=>absurd ha (h.2 a (by simp))⟩⟩
  ·rw [hl.2 ha] at h1 h2
   refine ⟨by simp; omega,?_⟩
   rw [show q.length+(a::l).length=q.length+1+l.length by simp; omega,h2,List.nodup_cons]
   constructor
   ·rintro ⟨n1,n2⟩
    refine ⟨⟨fun hm=>n2 a hm ((hk a).2 (.inl rfl)),n1⟩,fun x hx => ?_⟩
    rcases List.mem_cons.1 hx with rfl | hx
    ·exact ha
    ·exact fun hq=>n2 x hx ((hk x).2 (.inr hq))
   ·rintro ⟨⟨n0,n1⟩,n2⟩
    refine ⟨n1,fun x hx hq => ?_⟩
    rcases (hk x).1 hq with rfl | hq
    ·exact n0 hx
    ·exact n2 x (by simp [hx]) hq
theorem zUR (hc:Ck c) {zn:Int}:zGs c zn=some (pcR c zn):=by
 unfold zGs pcR
 by_cases h1:zn<1∨6<zn
 ·rw [if_pos h1]
  refine zAG ?_
  rcases h1 with h1 | h1 <;> simp [h1]
 ·have h1a:¬ zn<1:=fun h=>h1 (.inl h)
  have h1b:¬ 6<zn:=fun h=>h1 (.inr h)
  rw [if_neg h1,df h1a,df h1b]
  refine (z5 (by rfl)).trans ?_
  by_cases h2:(c.lists.length:Int)=zn
  ·rw [if_pos h2,dt h2]
   refine (z5 (by rfl)).trans ?_
   have hp:=pl0 hc c.lists.length zAD 0 0 (by omega) (by have:=hc.n; unfold zAD; omega) (by omega)
   rw [List.drop_zero,Nat.zero_add] at hp
   refine Eq.trans hp ?_
   cases hf:c.lists.flatten.all zFG with
   | false=>rfl
   | true =>
    rw [if_pos rfl,if_pos rfl]
    unfold zFt zF1
    rw [z0i,fm0 hc c.lists.length zAD 0 [] (by omega) (by have:=hc.n; unfold zAD; omega),zB8,List.drop_zero]
    have hm:=(zPW c.lists.flatten []).2
    simp only [List.length_nil,Nat.zero_add,List.map_nil,List.not_mem_nil,not_false_eq_true,implies_true,and_true] at hm
    by_cases hd:c.lists.flatten.Nodup
    ·rw [if_pos hd,dt (by have:=hm.2 hd; omega)]
     rfl
    ·rw [if_neg hd,df (fun h=>hd (hm.1 (by omega)))]
     rfl
  ·rw [if_neg h2,df h2]
   rfl
def zKX:List Bool→List Int→Option (List Bool)
 | d,[]=>some d
 | d,f::r=>if d.getD f.toNat false=true then none else zKX (d.set f.toNat true) r
theorem zPY:∀ {l:List Int} {d d':List Bool},zKX d l=some d'→d'.length=d.length
 | [],_,_,h=>by unfold zKX at h; cases h; rfl
 | x::l,d,d',h=>by
  unfold zKX at h
  split at h
  ·cases h
  ·rw [zPY h,List.length_set]
theorem zPU:∀ (l r:List Int) (d:List Bool),zKX d (l++r)=(zKX d l).bind fun d'=>zKX d' r
 | [],_,_=>rfl
 | x::l,r,d=>by
  show (if d.getD x.toNat false=true then none else zKX (d.set x.toNat true) (l++r))=(if d.getD x.toNat false=true then none else zKX (d.set x.toNat true) l).bind fun d'=>zKX d' r
  split
  ·rfl
  ·exact zPU l r _
theorem zPV:∀ (l:List Int) (d:List Bool),d.length=256→(∀ f,f∈l→0≤f∧f<256)→(zKX d l≠none↔l.Nodup ∧ ∀ f,f∈l→d.getD f.toNat false=false)
 | [],d,_,_=>by simp [zKX]
 | x::l,d,hd,hin=>by
  have hx:=hin x (by simp)
  unfold zKX
  cases hq:d.getD x.toNat false with
  | true =>
   rw [if_pos rfl]
   exact ⟨fun h=>absurd rfl h,fun h=>by have:=h.2 x (by simp); rw [hq] at this; cases this⟩
  | false =>
   rw [if_neg (by simp),zPV l _ (by rw [List.length_set]; exact hd) (fun f hf=>hin f (by simp [hf])),List.nodup_cons]
   constructor
   ·rintro ⟨h1,h2⟩
    refine ⟨⟨fun hm => ?_,h1⟩,fun f hf => ?_⟩
    ·have:=h2 x hm
     rw [zCM _ _ _ (by omega),if_pos rfl] at this
     cases this
    ·rcases List.mem_cons.1 hf with rfl | hf
     ·exact hq
     ·have:=h2 f hf
      rw [zCM _ _ _ (by omega)] at this
      split at this
      ·cases this
      ·exact this
   ·rintro ⟨⟨h0,h1⟩,h2⟩
    refine ⟨h1,fun f hf => ?_⟩
    have hfb:=hin f (by simp [hf])
    rw [zCM _ _ _ (by omega),if_neg]
    ·exact h2 f (by simp [hf])
    ·intro e
     have:f=x:=by omega
     exact h0 (this▸hf)
theorem ql3 {se:Int→Option Int} {j:Nat} {l:List Int} (hc:Ck c) (hj:j<c.lists.length) (hl:c.lists[j]=l):∀ (m n i:Nat),i+m=l.length→m<n →
  zF9 se c (j:Int) n (i:Int)=if (l.drop i).all zFG=true then se ((j+1:Nat):Int) else some 2:=by
 have hb:l.length≤1000:=by rw [← hl]; exact hc.le hj
 have hn:=hc.n
 have e:at_ c.lists (j:Int)=l:=by rw [zHb hj,hl]
 intro m
 induction m with
 | zero =>
  intro n i h1 h2
  obtain ⟨n,rfl⟩:=ex1 ‹_<n›
  show zDp _ _ _ _ _=_
  unfold zDp zH3
  rw [e,z5 (df (by omega)),zZ (z8 (by omega)),List.drop_eq_nil_of_le (by omega)]
  rfl
 | succ m ih =>
  intro n i h1 h2
  obtain ⟨n,rfl⟩:=ex1 ‹_<n›
  have hi:i<l.length:=by omega
  show zDp _ _ _ _ _=_
  unfold zDp
  have ho:zFz l[i]=some (!zFG l[i]):=by
   unfold zFz zFG
   congr 1
   rw [Bool.eq_iff_iff]
   simp only [Bool.or_eq_true,decide_eq_true_eq,Bool.not_eq_true',Bool.and_eq_false_iff,decide_eq_false_iff_not]
   omega
  rw [e,zAG (dt (by omega)),zZ (zAI hi),zHb hi,ho,zB8,List.drop_eq_getElem_cons hi,List.all_cons,zZ (z8 (by omega))]
  cases hf:zFG l[i] with
  | false=>rfl
  | true=>exact ih n (i+1) (by omega) (by omega)
theorem ql2 (hc:Ck c):∀ (m n i:Nat),i+m=c.lists.length→m<n →
  zCo c n (i:Int)=if ((c.lists.drop i).flatten).all zFG=true then zGR c else some 2:=by
 have hn:=hc.n
 intro m
 induction m with
 | zero =>
  intro n i h1 h2
  obtain ⟨n,rfl⟩:=ex1 ‹_<n›
  show zD2 _ _ _=_
  unfold zD2
  rw [z5 (df (by omega)),zRc (by omega)]
  rfl
 | succ m ih =>
  intro n i h1 h2
  obtain ⟨n,rfl⟩:=ex1 ‹_<n›
  have hi:i<c.lists.length:=by omega
  have hb:=hc.le hi
  show zD2 _ _ _=_
  unfold zD2
  rw [zAG (dt (by omega)),zZ (zAI hi),z0i,ql3 hc hi rfl c.lists[i].length zAD 0 (by omega) (by unfold zAD; omega),List.drop_zero,zOk hi,List.all_append]
  cases hf:c.lists[i].all zFG with
  | false=>rfl
  | true =>
   rw [if_pos rfl,Bool.true_and]
   exact ih n (i+1) (by omega) (by omega)
theorem ql1 {se:Int→List Bool→Option Int} {j:Nat} {l:List Int} (hc:Ck c) (hj:j<c.lists.length) (hl:c.lists[j]=l) (hin:∀ f,f∈l→0≤f∧f<256):∀ (m n i:Nat) (d:List Bool),i+m=l.length→m<n→d.length=256 →
  zGC se c (j:Int) n (i:Int) d=match zKX d (l.drop i) with | none=>some 7 | some d'=>se ((j+1:Nat):Int) d':=by
 have hb:l.length≤1000:=by rw [← hl]; exact hc.le hj
 have hn:=hc.n
 have e:at_ c.lists (j:Int)=l:=by rw [zHb hj,hl]
 intro m
 induction m with
 | zero =>
  intro n i d h1 h2 h3
  obtain ⟨n,rfl⟩:=ex1 ‹_<n›
  show zEA _ _ _ _ _ _=_
  unfold zEA zH7
  rw [e,z5 (df (by omega)),zZ (z8 (by omega)),List.drop_eq_nil_of_le (by omega)]
  rfl
 | succ m ih =>
  intro n i d h1 h2 h3
  obtain ⟨n,rfl⟩:=ex1 ‹_<n›
  have hi:i<l.length:=by omega
  have hf:=hin _ (List.getElem_mem hi)
  obtain ⟨f,hf2⟩:=Int.eq_ofNat_of_zero_le hf.1
  have hfl:f<d.length:=by omega
  show zEA _ _ _ _ _ _=_
  unfold zEA
  have ed:at_ d (f:Int)=d.getD f false:=by rw [zHb hfl,List.getD_eq_getElem?_getD,List.getElem?_eq_getElem hfl]; rfl
  rw [e,zAG (dt (by omega)),zZ (zAI hi),zHb hi,List.drop_eq_getElem_cons hi,hf2,zZ (zAI hfl),ed,zZ (z8 (by omega)),Int.toNat_natCast]
  unfold zKX
  rw [Int.toNat_natCast]
  cases hd:d.getD f false with
  | true=>rfl
  | false =>
   rw [z5 rfl,if_neg (by simp)]
   exact ih n (i+1) (d.set f true) (by omega) (by omega) (by rw [List.length_set]; exact h3)
theorem ql0 (hc:Ck c) (hin:∀ f,f∈c.lists.flatten→0≤f∧f<256):∀ (m n i:Nat) (d:List Bool),i+m=c.lists.length→m<n→d.length=256 →
  zCm c n (i:Int) d=match zKX d (c.lists.drop i).flatten with | none=>some 7 | some _=>some 0:=by
 have hn:=hc.n
 intro m
 induction m with
 | zero =>
  intro n i d h1 h2 h3
  obtain ⟨n,rfl⟩:=ex1 ‹_<n›
  show zDv _ _ _ _=_
  unfold zDv
  rw [z5 (df (by omega)),zRc (by omega)]
  rfl
 | succ m ih =>
  intro n i d h1 h2 h3
  obtain ⟨n,rfl⟩:=ex1 ‹_<n›
  have hi:i<c.lists.length:=by omega
  have hb:=hc.le hi
  show zDv _ _ _ _=_
  unfold zDv
  rw [zAG (dt (by omega)),zZ (zAI hi),z0i,ql1 hc hi rfl (fun f hf=>hin f (List.mem_flatten.2 ⟨_,List.getElem_mem hi,hf⟩)) c.lists[i].length zAD 0 d (by omega) (by unfold zAD; omega) h3,List.drop_zero,zOk hi,zPU]
  cases hm:zKX d c.lists[i] with
  | none=>rfl
  | some d'=>exact ih n (i+1) d' (by omega) (by omega) (by rw [zPY hm]; exact h3)
theorem zUN (hc:Ck c) {zn:Int}:zHj c zn=some (pcR c zn):=by
 unfold zHj pcR
 by_cases h1:zn<1∨6<zn
 ·rw [if_pos h1]
  refine zAG ?_
  rcases h1 with h1 | h1 <;> simp [h1]
 ·have h1a:¬ zn<1:=fun h=>h1 (.inl h)
  have h1b:¬ 6<zn:=fun h=>h1 (.inr h)
  rw [if_neg h1,df h1a,df h1b]
  refine (z5 (by rfl)).trans ?_
  by_cases h2:(c.lists.length:Int)=zn
  ·rw [if_pos h2,dt h2]
   refine (z5 (by rfl)).trans ?_
   have hp:=ql2 hc c.lists.length zAD 0 (by omega) (by have:=hc.n; unfold zAD; omega)
   rw [List.drop_zero] at hp
   refine Eq.trans hp ?_
   cases hf:c.lists.flatten.all zFG with
   | false=>rfl
   | true =>
    rw [if_pos rfl,if_pos rfl]
    unfold zGR
    have hin:∀ f,f∈c.lists.flatten→0≤f∧f<256:=fun f hm=>by
     have:=List.all_eq_true.1 hf f hm
     unfold zFG at this
     simpa using this
    rw [zZ (by rfl),z0i,ql0 hc hin c.lists.length zAD 0 _ (by omega) (by have:=hc.n; unfold zAD; omega) (by rw [List.length_replicate]; rfl),List.drop_zero]
    have hm:=zPV c.lists.flatten (List.replicate (256:Int).toNat false) (by rw [List.length_replicate]; rfl) hin
    have hz:∀ f:Int,f∈c.lists.flatten→(List.replicate (256:Int).toNat false).getD f.toNat false=false:=fun f _=>by
     rw [List.getD_eq_getElem?_getD,List.getElem?_replicate]
     split <;> rfl
    by_cases hd:c.lists.flatten.Nodup
    ·rw [if_pos hd]
     have:=hm.2 ⟨hd,hz⟩
     cases hq:zKX (List.replicate (256:Int).toNat false) c.lists.flatten with
     | none=>exact absurd hq this
     | some d=>rfl
    ·rw [if_neg hd]
     cases hq:zKX (List.replicate (256:Int).toNat false) c.lists.flatten with
     | none=>rfl
     | some d=>exact absurd (hm.1 (by rw [hq]; simp)).1 hd
  ·rw [if_neg h2,df h2]
   rfl
end
end Go.Proofs.YtplkliakhdkpcaaGreat
namespace Go.Proofs.YtplkliakhdkpcaaGreat
open Go Go.RowKit Go.Wk Go.Am
structure Al (a:zJ):Prop where
 n:a.nodes.length≤1000
 z:a.zones.length≤1000
 c:a.caches.length≤1000
 zk:∀ z,z∈a.zones→Zk z∧inI z.start=true
 ck:∀ c,c∈a.caches→Ck c
def inZ (z:zi) (f:Int):Bool:=decide (z.start≤f)&&decide (f<z.start+z.count)
def zE:Int→List zi→Int
 | _,[]=>0
 | s,z::r=>if zEd z=0 then (if z.start=s then zE (s+z.count) r else 10) else zEd z
def cE (h zn:Int):List zL→Int
 | []=>0
 | c::r=>if pcR c zn=0 then (if (c.lists.any fun l=>decide (h<(l.length:Int)))=true then 9 else cE h zn r) else pcR c zn
def feL (z:zi):List Bool→List Int→Int×List Bool
 | d,[]=>(0,d)
 | d,f::r=>if inZ z f=true then (if (d.getD f.toNat false||zLR z f)=true then (7,d) else feL z (d.set f.toNat true) r) else (2,d)
def feC:List Bool→List zi→List (List Int)→Int×List Bool
 | d,z::zs,l::ls=>if (feL z d l).1=0 then feC (feL z d l).2 zs ls else feL z d l
 | d,_,_=>(0,d)
def feA (zs:List zi):List Bool→List zL→Int
 | _,[]=>0
 | d,c::cs=>if (feC d zs c.lists).1=0 then feA zs (feC d zs c.lists).2 cs else (feC d zs c.lists).1
def zT3 (a:zJ):Int :=
 if zTS a.nodes a.batch a.high (a.zones.length:Int)=true then
  (if zE 0 a.zones=0 then
   (if (a.caches.length:Int)=(a.nodes.length:Int) then
    (if cE a.high (a.zones.length:Int) a.caches=0 then feA a.zones zEs a.caches else cE a.high (a.zones.length:Int) a.caches) else 3)
  else zE 0 a.zones) else 2
section
variable {a:zJ}
theorem zA9 {α:Type} [Inhabited α] {l:List α} {i:Nat} (h:i<l.length):at_ l (i:Int)∈l:=by rw [zHb h]; exact List.getElem_mem h
theorem zEY {α:Type} [Inhabited α] {l:List α} {i:Nat} (h:i<l.length):l.drop i=at_ l (i:Int)::l.drop (i+1):=by rw [zHb h]; exact List.drop_eq_getElem_cons h
theorem zl5 (h:Al a):∀ (m n i:Nat) (s:Int),i+m=a.zones.length→m<n→0≤s∧s≤i*256 →
  zDY a n s (i:Int)=if zE s (a.zones.drop i)=0 then zDf a else some (zE s (a.zones.drop i)):=by
 have hz:=h.z
 intro m
 induction m with
 | zero =>
  intro n i s h1 h2 h3
  obtain ⟨n,rfl⟩:=ex1 ‹_<n›
  show zCP _ _ _ _=_
  unfold zCP
  rw [z5 (df (by omega)),List.drop_eq_nil_of_le (by omega)]
  rfl
 | succ m ih =>
  intro n i s h1 h2 h3
  obtain ⟨n,rfl⟩:=ex1 ‹_<n›
  have hi:i<a.zones.length:=by omega
  have hk:=h.zk _ (zA9 hi)
  show zCP _ _ _ _=_
  unfold zCP
  rw [zAG (dt (by omega)),zZ (zAI hi),zPz hk.1 hk.2,zB8,zEY hi]
  unfold zE
  generalize hz':at_ a.zones (i:Int)=z at *
  by_cases hc:zEd z=0
  ·have hb:=zBV (zC9 hc)
   rw [dt hc,if_pos hc,Bool.not_true,z5 rfl]
   by_cases hs:z.start=s
   ·rw [dt hs,if_pos hs,Bool.not_true,z5 rfl,zZ (z8 (by omega)),zZ (z8 (by omega))]
    exact ih n (i+1) (s+z.count) (by omega) (by omega) (by omega)
   ·rw [df hs,if_neg hs]
    rfl
  ·rw [df hc,if_neg hc,if_neg hc]
   rfl
theorem zr0 (h:Al a):∀ (m n i:Nat) (s:Int),i+m=a.zones.length→m<n→0≤s∧s≤i*256 →
  zGM a n s (i:Int)=if zE s (a.zones.drop i)=0 then zGD a else some (zE s (a.zones.drop i)):=by
 have hz:=h.z
 intro m
 induction m with
 | zero =>
  intro n i s h1 h2 h3
  obtain ⟨n,rfl⟩:=ex1 ‹_<n›
  show zDy _ _ _ _=_
  unfold zDy
  rw [z5 (df (by omega)),List.drop_eq_nil_of_le (by omega)]
  rfl
 | succ m ih =>
  intro n i s h1 h2 h3
  obtain ⟨n,rfl⟩:=ex1 ‹_<n›
  have hi:i<a.zones.length:=by omega
  have hk:=h.zk _ (zA9 hi)
  show zDy _ _ _ _=_
  unfold zDy
  rw [zAG (dt (by omega)),zZ (zAI hi),zRI hk.1,zB8,zEY hi]
  unfold zE
  generalize hz':at_ a.zones (i:Int)=z at *
  by_cases hc:zEd z=0
  ·have hb:=zBV (zC9 hc)
   rw [dt hc,if_pos hc,Bool.not_true,z5 rfl]
   by_cases hs:z.start=s
   ·rw [dt hs,if_pos hs,Bool.not_true,z5 rfl,zZ (z8 (by omega)),zZ (z8 (by omega))]
    exact ih n (i+1) (s+z.count) (by omega) (by omega) (by omega)
   ·rw [df hs,if_neg hs]
    rfl
  ·rw [df hc,if_neg hc,if_neg hc]
   rfl
theorem zRD {l:List (List Int)} {h:Int} {i:Nat} (hi:i<l.length):((l.drop i).any fun q=>decide (h<(q.length:Int)))=(decide (h<((at_ l (i:Int)).length:Int))||(l.drop (i+1)).any fun q=>decide (h<(q.length:Int))):=by
 rw [zEY hi,List.any_cons]
theorem hl4 {se:Int→Option Int} {c:zL} {j:Nat} (hj:j<a.caches.length) (hc:at_ a.caches (j:Int)=c) (hk:Ck c) (ha:Al a):∀ (m n i:Nat),i+m=c.lists.length→m<n →
  zDg se a (j:Int) n (i:Int)=if ((c.lists.drop i).any fun l=>decide (a.high<(l.length:Int)))=true then some 9 else se ((j+1:Nat):Int):=by
 have hn:=hk.n
 have hcl:=ha.c
 intro m
 induction m with
 | zero =>
  intro n i h1 h2
  obtain ⟨n,rfl⟩:=ex1 ‹_<n›
  show zCN _ _ _ _ _=_
  unfold zCN zFJ
  rw [hc,z5 (df (by omega)),zZ (z8 (by omega)),List.drop_eq_nil_of_le (by omega)]
  rfl
 | succ m ih =>
  intro n i h1 h2
  obtain ⟨n,rfl⟩:=ex1 ‹_<n›
  have hi:i<c.lists.length:=by omega
  show zCN _ _ _ _ _=_
  unfold zCN
  rw [hc,zAG (dt (by omega)),zZ (zAI hi),zRD hi,zZ (z8 (by omega))]
  cases decide (a.high<((at_ c.lists (i:Int)).length:Int)) with
  | true=>rfl
  | false=>exact ih n (i+1) (by omega) (by omega)
theorem rl4 {se:Int→Option Int} {c:zL} {j:Nat} (hj:j<a.caches.length) (hc:at_ a.caches (j:Int)=c) (hk:Ck c) (ha:Al a) (hzl:c.lists.length=a.zones.length):∀ (m n i:Nat),i+m=c.lists.length→m<n →
  zC5 se a (j:Int) n (i:Int)=if ((c.lists.drop i).any fun l=>decide (a.high<(l.length:Int)))=true then some 9 else se ((j+1:Nat):Int):=by
 have hn:=hk.n
 have hcl:=ha.c
 intro m
 induction m with
 | zero =>
  intro n i h1 h2
  obtain ⟨n,rfl⟩:=ex1 ‹_<n›
  show zBi _ _ _ _ _=_
  unfold zBi zES
  rw [z5 (df (by omega)),zZ (z8 (by omega)),List.drop_eq_nil_of_le (by omega)]
  rfl
 | succ m ih =>
  intro n i h1 h2
  obtain ⟨n,rfl⟩:=ex1 ‹_<n›
  have hi:i<c.lists.length:=by omega
  show zBi _ _ _ _ _=_
  unfold zBi
  rw [hc,zAG (dt (by omega)),zZ (zAI hj),zZ (zAI hi),zRD hi,zZ (z8 (by omega))]
  cases decide (a.high<((at_ c.lists (i:Int)).length:Int)) with
  | true=>rfl
  | false=>exact ih n (i+1) (by omega) (by omega)
theorem zSJ {c:zL} {zn:Int} (h:pcR c zn=0):(c.lists.length:Int)=zn∧(∀ f,f∈c.lists.flatten→zFG f=true):=by
 unfold pcR at h
 split at h
 ·cases h
 ·split at h
  ·rename_i h2
   split at h
   ·rename_i h3
    exact ⟨h2,fun f hf=>List.all_eq_true.1 h3 f hf⟩
   ·cases h
  ·cases h
theorem hl3 (ha:Al a):∀ (m n i:Nat),i+m=a.caches.length→m<n →
  zBT a n (i:Int)=if cE a.high (a.zones.length:Int) (a.caches.drop i)=0 then zDW a else some (cE a.high (a.zones.length:Int) (a.caches.drop i)):=by
 have hcl:=ha.c
 intro m
 induction m with
 | zero =>
  intro n i h1 h2
  obtain ⟨n,rfl⟩:=ex1 ‹_<n›
  show zCC _ _ _=_
  unfold zCC
  rw [z5 (df (by omega)),List.drop_eq_nil_of_le (by omega)]
  rfl
 | succ m ih =>
  intro n i h1 h2
  obtain ⟨n,rfl⟩:=ex1 ‹_<n›
  have hi:i<a.caches.length:=by omega
  have hk:=ha.ck _ (zA9 hi)
  show zCC _ _ _=_
  unfold zCC
  rw [zAG (dt (by omega)),zZ (zAI hi),zUR hk,zB8,zEY hi]
  unfold cE
  by_cases h0:pcR (at_ a.caches (i:Int)) (a.zones.length:Int)=0
  ·rw [dt h0,if_pos h0,Bool.not_true,z5 rfl,z0i,hl4 hi rfl hk ha _ zAD 0 (Nat.zero_add _) (by have:=hk.n; unfold zAD; omega),List.drop_zero]
   cases hq:((at_ a.caches (i:Int)).lists.any fun l=>decide (a.high<(l.length:Int))) with
   | true=>rfl
   | false =>
    rw [if_neg Bool.false_ne_true,if_neg Bool.false_ne_true]
    exact ih n (i+1) (by omega) (by omega)
  ·rw [df h0,if_neg h0,if_neg h0]
   rfl
theorem rl3 (ha:Al a):∀ (m n i:Nat),i+m=a.caches.length→m<n →
  zA5 a n (i:Int)=if cE a.high (a.zones.length:Int) (a.caches.drop i)=0 then zC6 a else some (cE a.high (a.zones.length:Int) (a.caches.drop i)):=by
 have hcl:=ha.c
 intro m
 induction m with
 | zero =>
  intro n i h1 h2
  obtain ⟨n,rfl⟩:=ex1 ‹_<n›
  show zBg _ _ _=_
  unfold zBg
  rw [z5 (df (by omega)),List.drop_eq_nil_of_le (by omega)]
  rfl
 | succ m ih =>
  intro n i h1 h2
  obtain ⟨n,rfl⟩:=ex1 ‹_<n›
  have hi:i<a.caches.length:=by omega
  have hk:=ha.ck _ (zA9 hi)
  show zBg _ _ _=_
  unfold zBg
  rw [zAG (dt (by omega)),zZ (zAI hi),zUN hk,zB8,zEY hi]
  unfold cE
  by_cases h0:pcR (at_ a.caches (i:Int)) (a.zones.length:Int)=0
  ·have hlen:=(zSJ h0).1
   rw [dt h0,if_pos h0,Bool.not_true,z5 rfl,z0i,rl4 hi rfl hk ha (by omega) _ zAD 0 (Nat.zero_add _) (by have:=hk.n; unfold zAD; omega),List.drop_zero]
   cases hq:((at_ a.caches (i:Int)).lists.any fun l=>decide (a.high<(l.length:Int))) with
   | true=>rfl
   | false =>
    rw [if_neg Bool.false_ne_true,if_neg Bool.false_ne_true]
    exact ih n (i+1) (by omega) (by omega)
  ·rw [df h0,if_neg h0,if_neg h0]
   rfl
def zIx (f:Int):List zi→Nat→Int
 | [],_ => -1
 | z::r,i=>if inZ z f=true then (i:Int) else zIx f r (i+1)
theorem zUY (f:Int):∀ (zs:List zi) (i:Nat),zIx f zs i = -1∨((i:Int)≤zIx f zs i∧zIx f zs i<((i+zs.length:Nat):Int))
 | [],_ => .inl rfl
 | z::r,i=>by
  unfold zIx
  split
  ·exact .inr ⟨Int.le_refl _,by simp; omega⟩
  ·rcases zUY f r (i+1) with h | h
   ·exact .inl h
   ·exact .inr ⟨by omega,by simp; omega⟩
def zSc (zs:List zi):Prop:=zs.Pairwise fun x y => ∀ f,inZ x f=true→inZ y f=false
theorem zRE (f:Int):∀ (zs:List zi) (i p:Nat) (hp:p<zs.length),zSc zs→(zIx f zs i=((i+p:Nat):Int)↔inZ zs[p] f=true)
 | [],_,_,hp,_=>absurd hp (by simp)
 | z::r,i,p,hp,ha=>by
  have ha':=List.pairwise_cons.1 ha
  unfold zIx
  cases p with
  | zero =>
   show _↔inZ z f=true
   by_cases h:inZ z f=true
   ·rw [if_pos h]; simp [h]
   ·rw [if_neg h]
    refine ⟨fun e => ?_,fun e=>absurd e h⟩
    rcases zUY f r (i+1) with h1 | h1 <;> omega
  | succ p =>
   have hp':p<r.length:=by simpa using hp
   show _↔inZ r[p] f=true
   by_cases h:inZ z f=true
   ·rw [if_pos h,ha'.1 _ (List.getElem_mem hp') f h]
    refine ⟨fun e=>by omega,fun e=>by cases e⟩
   ·rw [if_neg h,show i+(p+1)=i+1+p by omega]
    exact zRE f r (i+1) p hp' ha'.2
theorem zSh:∀ {zs:List zi} {s:Int},zE s zs=0→(∀ z,z∈zs→zEd z=0∧s≤z.start)∧zSc zs
 | [],_,_=>⟨fun z hz=>absurd hz (by simp),List.Pairwise.nil⟩
 | z::r,s,h=>by
  unfold zE at h
  by_cases hc:zEd z=0
  ·rw [if_pos hc] at h
   by_cases hs:z.start=s
   ·rw [if_pos hs] at h
    have hb:=zBV (zC9 hc)
    obtain ⟨h1,h2⟩:=zSh h
    refine ⟨fun y hy => ?_,List.pairwise_cons.2 ⟨fun y hy f hf => ?_,h2⟩⟩
    ·rcases List.mem_cons.1 hy with rfl | hy
     ·exact ⟨hc,by omega⟩
     ·have:=h1 y hy
      exact ⟨this.1,by omega⟩
    ·have:=(h1 y hy).2
     unfold inZ at hf ⊢
     simp only [Bool.and_eq_true,decide_eq_true_eq] at hf
     rw [df (by omega)]
     rfl
   ·rw [if_neg hs] at h; cases h
  ·rw [if_neg hc] at h; exact absurd h hc
theorem zV6 {f:Int} (ha:Al a) (hv:∀ z,z∈a.zones→zEd z=0):∀ (m n i:Nat),i+m=a.zones.length→m<n →
  zAg a.zones (fun y=>zC3 y f) n (i:Int)=some (zIx f (a.zones.drop i) i):=by
 have hzl:=ha.z
 intro m
 induction m with
 | zero =>
  intro n i h1 h2
  obtain ⟨n,rfl⟩:=ex1 ‹_<n›
  show zAJ _ _ _ _=_
  unfold zAJ
  rw [z5 (df (by omega)),List.drop_eq_nil_of_le (by omega)]
  rfl
 | succ m ih =>
  intro n i h1 h2
  obtain ⟨n,rfl⟩:=ex1 ‹_<n›
  have hi:i<a.zones.length:=by omega
  have hb:=zBV (zC9 (hv _ (zA9 hi)))
  show zAJ _ _ _ _=_
  unfold zAJ
  have hz1:zC3 (at_ a.zones (i:Int)) f=some (inZ (at_ a.zones (i:Int)) f):=by
   unfold zC3
   rw [zZ (zMv (z8 (by omega)))]
   rfl
  rw [zAG (dt (by omega)),zZ (zAI hi)]
  show ((zC3 (at_ a.zones (i:Int)) f).bind _)=_
  rw [hz1,zB8,zEY hi,zZ (z8 (by omega))]
  unfold zIx
  cases inZ (at_ a.zones (i:Int)) f with
  | true=>rfl
  | false=>exact ih n (i+1) (by omega) (by omega)
theorem zXc {f:Int} (ha:Al a) (hv:∀ z,z∈a.zones→zEd z=0):zDB a f=some (zIx f a.zones 0):=by
 unfold zDB zBH
 have:=zV6 (f:=f) ha hv a.zones.length zAD 0 (by omega) (by have:=ha.z; unfold zAD; omega)
 rw [List.drop_zero] at this
 rw [z0i,this]
 rfl
theorem zMY (z:zi):∀ (l:List Int) (d:List Bool),(feL z d l).2.length=d.length
 | [],_=>rfl
 | f::l,d=>by
  unfold feL
  split
  ·split
   ·rfl
   ·rw [zMY z l,List.length_set]
  ·rfl
theorem zPJ:∀ (zs:List zi) (ls:List (List Int)) (d:List Bool),(feC d zs ls).2.length=d.length
 | [],_,_=>by unfold feC; rfl
 | _::_,[],_=>by unfold feC; rfl
 | z::zs,l::ls,d=>by
  unfold feC
  split
  ·rw [zPJ zs ls,zMY]
  ·exact zMY z l d
def SM (q:List (Int×Bool)) (d:List Bool):Prop := ∀ f:Nat,f<256→zM0 false q (f:Int)=d.getD f false
theorem zRB (k f:Int):∀ (q:List (Int×Bool)),zM0 false (zKg q k true) f=if f=k then true else zM0 false q f
 | []=>by
  unfold zKg zM0
  by_cases h:f=k
  ·rw [if_pos h,h]; simp
  ·rw [if_neg h]
   have:¬ k=f:=fun e=>h e.symm
   simp [this]
 | p::q=>by
  have ih:=zRB k f q
  unfold zKg
  by_cases hp:p.1=k
  ·rw [if_pos hp]
   unfold zM0
   by_cases h:f=k
   ·rw [if_pos h,h]; simp
   ·rw [if_neg h]
    have h1:¬ k=f:=fun e=>h e.symm
    have h2:¬ p.1=f:=fun e=>h (by rw [← e,hp])
    simp [h1,h2]
  ·rw [if_neg hp]
   by_cases h2:p.1=f
   ·have h1:¬ f=k:=fun e=>hp (by rw [h2,e])
    rw [if_neg h1]
    unfold zM0
    simp [h2]
   ·have e1:∀ r:List (Int×Bool),zM0 false (p::r) f=zM0 false r f:=fun r=>by unfold zM0; simp [h2]
    rw [e1,e1,ih]
theorem SM.set {q:List (Int×Bool)} {d:List Bool} {k:Nat} (h:SM q d) (hd:d.length=256) (hk:k<256):SM (zKg q (k:Int) true) (d.set k true):=by
 intro f hf
 rw [zRB,zCM _ _ _ (by omega),h f hf]
 by_cases e:f=k
 ·rw [if_pos e,if_pos (by omega)]
 ·rw [if_neg e,if_neg (by omega)]
theorem zPu {z:zi} {f:Int} (hr:ranges z=true) (h:inZ z f=true):0≤f∧f<256:=by
 have hb:=zBV hr
 unfold inZ at h
 simp only [Bool.and_eq_true,decide_eq_true_eq] at h
 omega
theorem zXx {α:Type} {b c:Bool} {x y:Option α}:(cnd (!b) (some c) (some default)).bind (fun q=>cnd (b||q) x y)=cnd (b||c) x y:=by
 cases b <;> rfl
theorem el2 {se:Int→List (Int×Bool)→Option Int} {c:zL} {j p:Nat} {z:zi} {l:List Int} (ha:Al a) (hv:∀ z,z∈a.zones→zEd z=0) (hap:zSc a.zones) (hj:j<a.caches.length) (hc:at_ a.caches (j:Int)=c) (hp:p<c.lists.length) (hpz:p<a.zones.length) (hz:at_ a.zones (p:Int)=z) (hl:at_ c.lists (p:Int)=l) (hll:l.length≤1000) (hpb:p≤1000) :
  ∀ (m n i:Nat) (q:List (Int×Bool)) (d:List Bool),i+m=l.length→m<n→d.length=256→SM q d → ∃ q',SM q' (feL z d (l.drop i)).2 ∧
   zBq se a (j:Int) (p:Int) n (i:Int) q=if (feL z d (l.drop i)).1=0 then se ((p+1:Nat):Int) q' else some (feL z d (l.drop i)).1:=by
 have hkz:=ha.zk z (hz▸zA9 hpz)
 have hcz:=hv z (hz▸zA9 hpz)
 intro m
 induction m with
 | zero =>
  intro n i q d h1 h2 h3 h4
  obtain ⟨n,rfl⟩:=ex1 ‹_<n›
  rw [List.drop_eq_nil_of_le (by omega)]
  refine ⟨q,h4,?_⟩
  show zCE _ _ _ _ _ _ _=_
  unfold zCE zFK
  rw [hc,hl,z5 (df (by omega)),zZ (z8 (by omega))]
  rfl
 | succ m ih =>
  intro n i q d h1 h2 h3 h4
  obtain ⟨n,rfl⟩:=ex1 ‹_<n›
  have hi:i<l.length:=by omega
  have hx:=zRE (at_ l (i:Int)) a.zones 0 p hpz hap
  rw [← zHb hpz,hz,Nat.zero_add] at hx
  have ee:zBq se a (j:Int) (p:Int) (n+1) (i:Int) q=cnd (!decide (zIx (at_ l (i:Int)) a.zones 0=(p:Int))) (some 2) (cnd (zM0 false q (at_ l (i:Int))||zLR z (at_ l (i:Int))) (some 7) (zBq se a (j:Int) (p:Int) n ((i+1:Nat):Int) (zKg q (at_ l (i:Int)) true))):=by
   show zCE _ _ _ _ _ _ _=_
   unfold zCE
   rw [hc,hl,zAG (dt (by omega)),zZ (zAI hi),zXc ha hv,zB8,zZ (zMv (zAI hpz)),hz,zXj hkz.1 hkz.2,zXx,zZ (z8 (by omega))]
   rfl
  rw [ee,zEY hi]
  unfold feL
  generalize at_ l (i:Int)=f at *
  cases hq:inZ z f with
  | false =>
   rw [df (fun e=>by rw [hx.1 e] at hq; cases hq)]
   exact ⟨q,h4,rfl⟩
  | true =>
   have hf:=zPu (zC9 hcz) hq
   obtain ⟨g,rfl⟩:=Int.eq_ofNat_of_zero_le hf.1
   rw [dt (hx.2 hq),Bool.not_true,z5 rfl,if_pos rfl,h4 g (by omega),Int.toNat_natCast]
   cases hr:(d.getD g false||zLR z (g:Int)) with
   | true=>exact ⟨q,h4,rfl⟩
   | false =>
    rw [z5 rfl,if_neg Bool.false_ne_true]
    exact ih n (i+1) _ _ (by omega) (by omega) (by rw [List.length_set]; exact h3) (h4.set h3 (by omega))
theorem el1 {se:Int→List (Int×Bool)→Option Int} {c:zL} {j:Nat} (ha:Al a) (hv:∀ z,z∈a.zones→zEd z=0) (hap:zSc a.zones) (hj:j<a.caches.length) (hc:at_ a.caches (j:Int)=c) (hlen:c.lists.length=a.zones.length) :
  ∀ (m n p:Nat) (q:List (Int×Bool)) (d:List Bool),p+m=c.lists.length→m<n→d.length=256→SM q d → ∃ q',SM q' (feC d (a.zones.drop p) (c.lists.drop p)).2 ∧
   zAp se a (j:Int) n (p:Int) q=if (feC d (a.zones.drop p) (c.lists.drop p)).1=0 then se ((j+1:Nat):Int) q' else some (feC d (a.zones.drop p) (c.lists.drop p)).1:=by
 have hcl:=ha.c
 have hck:=ha.ck c (hc▸zA9 hj)
 have hn:=hck.n
 intro m
 induction m with
 | zero =>
  intro n p q d h1 h2 h3 h4
  obtain ⟨n,rfl⟩:=ex1 ‹_<n›
  rw [List.drop_eq_nil_of_le (show a.zones.length≤p by omega)]
  unfold feC
  refine ⟨q,h4,?_⟩
  show zCF _ _ _ _ _ _=_
  unfold zCF zFT
  rw [hc,z5 (df (by omega)),zZ (z8 (by omega))]
  rfl
 | succ m ih =>
  intro n p q d h1 h2 h3 h4
  obtain ⟨n,rfl⟩:=ex1 ‹_<n›
  have hp:p<c.lists.length:=by omega
  have hpz:p<a.zones.length:=by omega
  have hll:=hck.l _ (zA9 hp)
  obtain ⟨q1,s1,s2⟩:=el2 (se:=zAp se a (j:Int) n) ha hv hap hj hc hp hpz rfl rfl hll (by omega) _ zAD 0 q d (Nat.zero_add _) (by unfold zAD; omega) h3 h4
  rw [List.drop_zero] at s1 s2
  have ee:zAp se a (j:Int) (n+1) (p:Int) q=zBq (zAp se a (j:Int) n) a (j:Int) (p:Int) zAD ((0:Nat):Int) q:=by
   show zCF _ _ _ _ _ _=_
   unfold zCF
   rw [hc,zAG (dt (by omega)),zZ (zAI hp)]
   rfl
  rw [ee,s2,zEY hp,zEY hpz]
  unfold feC
  by_cases h0:(feL (at_ a.zones (p:Int)) d (at_ c.lists (p:Int))).1=0
  ·rw [if_pos h0,if_pos h0]
   exact ih n (p+1) q1 _ (by omega) (by omega) (by rw [zMY]; exact h3) s1
  ·rw [if_neg h0,if_neg h0]
   exact ⟨q1,s1,(if_neg h0).symm⟩
theorem el0 (ha:Al a) (hv:∀ z,z∈a.zones→zEd z=0) (hap:zSc a.zones) (hlen:∀ c,c∈a.caches→c.lists.length=a.zones.length) :
  ∀ (m n j:Nat) (q:List (Int×Bool)) (d:List Bool),j+m=a.caches.length→m<n→d.length=256→SM q d→zAV a n (j:Int) q=some (feA a.zones d (a.caches.drop j)):=by
 have hcl:=ha.c
 intro m
 induction m with
 | zero =>
  intro n j q d h1 h2 h3 h4
  obtain ⟨n,rfl⟩:=ex1 ‹_<n›
  show zCH _ _ _ _=_
  unfold zCH
  rw [z5 (df (by omega)),List.drop_eq_nil_of_le (by omega)]
  rfl
 | succ m ih =>
  intro n j q d h1 h2 h3 h4
  obtain ⟨n,rfl⟩:=ex1 ‹_<n›
  have hj:j<a.caches.length:=by omega
  have hl:=hlen _ (zA9 hj)
  obtain ⟨q1,s1,s2⟩:=el1 (se:=zAV a n) ha hv hap hj rfl hl _ zAD 0 q d (Nat.zero_add _) (by have:=(ha.ck _ (zA9 hj)).n; unfold zAD; omega) h3 h4
  rw [List.drop_zero,List.drop_zero] at s1 s2
  show zCH _ _ _ _=_
  unfold zCH
  rw [zAG (dt (by omega)),zZ (zAI hj),z0i,s2,zEY hj]
  unfold feA
  by_cases h0:(feC d a.zones (at_ a.caches (j:Int)).lists).1=0
  ·rw [if_pos h0,if_pos h0]
   exact ih n (j+1) q1 _ (by omega) (by omega) (by rw [zPJ]; exact h3) s1
  ·rw [if_neg h0,if_neg h0]
theorem fl2 {se:Int→List Bool→Option Int} {c:zL} {j p:Nat} {z:zi} {l:List Int} (ha:Al a) (hv:∀ z,z∈a.zones→zEd z=0) (hc:at_ a.caches (j:Int)=c) (hpz:p<a.zones.length) (hz:at_ a.zones (p:Int)=z) (hl:at_ c.lists (p:Int)=l) (hll:l.length≤1000) (hpb:p≤1000) :
  ∀ (m n i:Nat) (d:List Bool),i+m=l.length→m<n→d.length=256 →
   zCT se a (j:Int) (p:Int) n (i:Int) d=if (feL z d (l.drop i)).1=0 then se ((p+1:Nat):Int) (feL z d (l.drop i)).2 else some (feL z d (l.drop i)).1:=by
 have hkz:=ha.zk z (hz▸zA9 hpz)
 have hcz:=hv z (hz▸zA9 hpz)
 have hb:=zBV (zC9 hcz)
 intro m
 induction m with
 | zero =>
  intro n i d h1 h2 h3
  obtain ⟨n,rfl⟩:=ex1 ‹_<n›
  rw [List.drop_eq_nil_of_le (by omega)]
  show zBk _ _ _ _ _ _ _=_
  unfold zBk zEQ
  rw [hc,hl,z5 (df (by omega)),zZ (z8 (by omega))]
  rfl
 | succ m ih =>
  intro n i d h1 h2 h3
  obtain ⟨n,rfl⟩:=ex1 ‹_<n›
  have hi:i<l.length:=by omega
  rw [zEY hi]
  show zBk _ _ _ _ _ _ _=_
  unfold zBk
  rw [hc,hl,zAG (dt (by omega)),zZ (zAI hi),zZ (zAI hpz),hz,zZ (zMv (z8 (by omega)))]
  unfold feL
  generalize at_ l (i:Int)=f at *
  have hin:((decide (f<z.start))||(decide ((z.start+z.count)≤f))) = !inZ z f:=by
   unfold inZ
   rw [Bool.eq_iff_iff]
   simp only [Bool.or_eq_true,decide_eq_true_eq,Bool.not_eq_true',Bool.and_eq_false_iff,decide_eq_false_iff_not]
   omega
  rw [hin]
  cases hq:inZ z f with
  | false=>rfl
  | true =>
   have hf:=zPu (zC9 hcz) hq
   obtain ⟨g,rfl⟩:=Int.eq_ofNat_of_zero_le hf.1
   have hg:g<d.length:=by omega
   have ed:at_ d (g:Int)=d.getD g false:=by rw [zHb hg,List.getD_eq_getElem?_getD,List.getElem?_eq_getElem hg]; rfl
   rw [Bool.not_true,z5 rfl,if_pos rfl,zZ (zAI hg),ed,zXb hkz.1,zXx,zZ (z8 (by omega)),Int.toNat_natCast]
   cases hr:(d.getD g false||zLR z (g:Int)) with
   | true=>rfl
   | false =>
    rw [z5 rfl,if_neg Bool.false_ne_true]
    exact ih n (i+1) _ (by omega) (by omega) (by rw [List.length_set]; exact h3)
theorem fl1 {se:Int→List Bool→Option Int} {c:zL} {j:Nat} (ha:Al a) (hv:∀ z,z∈a.zones→zEd z=0) (hj:j<a.caches.length) (hc:at_ a.caches (j:Int)=c) (hlen:c.lists.length=a.zones.length) :
  ∀ (m n p:Nat) (d:List Bool),p+m=c.lists.length→m<n→d.length=256 →
   zAa se a (j:Int) n (p:Int) d=if (feC d (a.zones.drop p) (c.lists.drop p)).1=0 then se ((j+1:Nat):Int) (feC d (a.zones.drop p) (c.lists.drop p)).2 else some (feC d (a.zones.drop p) (c.lists.drop p)).1:=by
 have hcl:=ha.c
 have hck:=ha.ck c (hc▸zA9 hj)
 have hn:=hck.n
 intro m
 induction m with
 | zero =>
  intro n p d h1 h2 h3
  obtain ⟨n,rfl⟩:=ex1 ‹_<n›
  rw [List.drop_eq_nil_of_le (show a.zones.length≤p by omega)]
  unfold feC
  show zBj _ _ _ _ _ _=_
  unfold zBj zEO
  rw [z5 (df (by omega)),zZ (z8 (by omega))]
  rfl
 | succ m ih =>
  intro n p d h1 h2 h3
  obtain ⟨n,rfl⟩:=ex1 ‹_<n›
  have hp:p<c.lists.length:=by omega
  have hpz:p<a.zones.length:=by omega
  have hll:=hck.l _ (zA9 hp)
  have s2:=fl2 (se:=zAa se a (j:Int) n) ha hv hc hpz rfl rfl hll (by omega) _ zAD 0 d (Nat.zero_add _) (by unfold zAD; omega) h3
  rw [List.drop_zero] at s2
  have ee:zAa se a (j:Int) (n+1) (p:Int) d=zCT (zAa se a (j:Int) n) a (j:Int) (p:Int) zAD ((0:Nat):Int) d:=by
   show zBj _ _ _ _ _ _=_
   unfold zBj
   rw [hc,zAG (dt (by omega)),zZ (zAI hj),zZ (zAI hp)]
   rfl
  rw [ee,s2,zEY hp,zEY hpz]
  unfold feC
  by_cases h0:(feL (at_ a.zones (p:Int)) d (at_ c.lists (p:Int))).1=0
  ·rw [if_pos h0,if_pos h0]
   exact ih n (p+1) _ (by omega) (by omega) (by rw [zMY]; exact h3)
  ·rw [if_neg h0,if_neg h0,if_neg h0]
theorem fl0 (ha:Al a) (hv:∀ z,z∈a.zones→zEd z=0) (hlen:∀ c,c∈a.caches→c.lists.length=a.zones.length) :
  ∀ (m n j:Nat) (d:List Bool),j+m=a.caches.length→m<n→d.length=256→zAP a n (j:Int) d=some (feA a.zones d (a.caches.drop j)):=by
 have hcl:=ha.c
 intro m
 induction m with
 | zero =>
  intro n j d h1 h2 h3
  obtain ⟨n,rfl⟩:=ex1 ‹_<n›
  show zBh _ _ _ _=_
  unfold zBh
  rw [z5 (df (by omega)),List.drop_eq_nil_of_le (by omega)]
  rfl
 | succ m ih =>
  intro n j d h1 h2 h3
  obtain ⟨n,rfl⟩:=ex1 ‹_<n›
  have hj:j<a.caches.length:=by omega
  have hl:=hlen _ (zA9 hj)
  have s2:=fl1 (se:=zAP a n) ha hv hj rfl hl _ zAD 0 d (Nat.zero_add _) (by have:=(ha.ck _ (zA9 hj)).n; unfold zAD; omega) h3
  rw [List.drop_zero,List.drop_zero] at s2
  show zBh _ _ _ _=_
  unfold zBh
  rw [zAG (dt (by omega)),z0i,s2,zEY hj]
  unfold feA
  by_cases h0:(feC d a.zones (at_ a.caches (j:Int)).lists).1=0
  ·rw [if_pos h0,if_pos h0]
   exact ih n (j+1) _ (by omega) (by omega) (by rw [zPJ]; exact h3)
  ·rw [if_neg h0,if_neg h0]
theorem zQu:∀ {cs:List zL} {h zn:Int},cE h zn cs=0 → ∀ c,c∈cs→(c.lists.length:Int)=zn
 | [],_,_,_,_,hc=>absurd hc (by simp)
 | c::cs,h,zn,he,x,hx=>by
  unfold cE at he
  by_cases h0:pcR c zn=0
  ·rw [if_pos h0] at he
   split at he
   ·cases he
   ·rcases List.mem_cons.1 hx with rfl | hx
    ·exact (zSJ h0).1
    ·exact zQu he x hx
  ·rw [if_neg h0] at he; exact absurd he h0
theorem zWt (ha:Al a):zA0 a=some (zT3 a):=by
 have h1:=ha.n
 have h2:=ha.z
 have h3:=ha.c
 unfold zA0 zT3
 rw [zRz (by omega),zB8]
 cases zTS a.nodes a.batch a.high (a.zones.length:Int) with
 | false=>rfl
 | true =>
  have hz:=zl5 ha a.zones.length zAD 0 0 (by omega) (by unfold zAD; omega) (by omega)
  rw [List.drop_zero] at hz
  rw [Bool.not_true,z5 rfl,if_pos rfl]
  refine Eq.trans hz ?_
  by_cases h0:zE 0 a.zones=0
  ·rw [if_pos h0,if_pos h0]
   obtain ⟨z1,z2⟩:=zSh h0
   unfold zDf
   by_cases hl:(a.caches.length:Int)=(a.nodes.length:Int)
   ·rw [dt hl,if_pos hl,Bool.not_true,z5 rfl,z0i,hl3 ha a.caches.length zAD 0 (by omega) (by unfold zAD; omega),List.drop_zero]
    show (if cE a.high (a.zones.length:Int) a.caches=0 then _ else _)=some (if cE a.high (a.zones.length:Int) a.caches=0 then _ else _)
    by_cases hc:cE a.high (a.zones.length:Int) a.caches=0
    ·rw [if_pos hc,if_pos hc]
     unfold zDW
     rw [z0i,el0 ha (fun z hz=>(z1 z hz).1) z2 (fun c hm=>by have:=zQu hc c hm; omega) a.caches.length zAD 0 [] zEs (by omega) (by unfold zAD; omega) zJB (fun f hf=>by
      unfold zEs zM0
      rw [List.getD_eq_getElem?_getD,List.getElem?_replicate,if_pos hf]
      rfl),List.drop_zero]
    ·rw [if_neg hc,if_neg hc]
   ·rw [df hl,if_neg hl]
    rfl
  ·rw [if_neg h0,if_neg h0]
theorem zVt (ha:Al a):zJK a=some (zT3 a):=by
 have h1:=ha.n
 have h2:=ha.z
 have h3:=ha.c
 unfold zJK zT3
 rw [zT9 (by omega),zB8]
 cases zTS a.nodes a.batch a.high (a.zones.length:Int) with
 | false=>rfl
 | true =>
  have hz:=zr0 ha a.zones.length zAD 0 0 (by omega) (by unfold zAD; omega) (by omega)
  rw [List.drop_zero] at hz
  rw [Bool.not_true,z5 rfl,if_pos rfl]
  refine Eq.trans hz ?_
  by_cases h0:zE 0 a.zones=0
  ·rw [if_pos h0,if_pos h0]
   obtain ⟨z1,z2⟩:=zSh h0
   unfold zGD zFw
   by_cases hl:(a.caches.length:Int)=(a.nodes.length:Int)
   ·rw [dt hl,if_pos hl,Bool.not_true,z5 rfl,z0i,rl3 ha a.caches.length zAD 0 (by omega) (by unfold zAD; omega),List.drop_zero]
    show (if cE a.high (a.zones.length:Int) a.caches=0 then (_:Option Int) else _).bind _=some (if cE a.high (a.zones.length:Int) a.caches=0 then _ else _)
    by_cases hc:cE a.high (a.zones.length:Int) a.caches=0
    ·rw [if_pos hc,if_pos hc]
     unfold zC6 zF0
     rw [zZ (by rfl),show List.replicate (256:Int).toNat false=zEs from rfl,z0i,fl0 ha (fun z hz=>(z1 z hz).1) (fun c hm=>by have:=zQu hc c hm; omega) a.caches.length zAD 0 zEs (by omega) (by unfold zAD; omega) zJB,List.drop_zero]
     rfl
    ·rw [if_neg hc,if_neg hc]
     rfl
   ·rw [df hl,if_neg hl]
    rfl
  ·rw [if_neg h0,if_neg h0]
end
end Go.Proofs.YtplkliakhdkpcaaGreat
namespace Go.Proofs.YtplkliakhdkpcaaGreat
open Go Go.RowKit Go.Wk Go.Am
section
variable {a:zJ}
structure Va (a:zJ):Prop where
 al:Al a
 z:zE 0 a.zones=0
 len:∀ c,c∈a.caches→c.lists.length=a.zones.length
 z1:1≤a.zones.length
theorem zXa (ha:Al a) (h:zT3 a=0):Va a:=by
 unfold zT3 at h
 split at h
 ·rename_i hf
  have h16:1≤a.zones.length:=by
   unfold zTS zJh at hf
   simp at hf
   omega
  split at h
  ·rename_i hz
   split at h
   ·rename_i hl
    split at h
    ·rename_i hc
     exact ⟨ha,hz,fun c hm=>by have:=zQu hc c hm; omega,h16⟩
    ·rename_i hc; exact absurd h hc
   ·cases h
  ·rename_i hz; exact absurd h hz
 ·cases h
theorem Va.chk (h:Va a) {z:zi} (hz:z∈a.zones):zEd z=0:=((zSh h.z).1 z hz).1
theorem zVf {f:Int} {l:List Int} (hl:l.length≤1000):∀ (m n i:Nat),i+m=l.length→m<n → ∃ r,zA6 l f n (i:Int)=some r∧(0≤r↔f∈l.drop i):=by
 intro m
 induction m with
 | zero =>
  intro n i h1 h2
  obtain ⟨n,rfl⟩:=ex1 ‹_<n›
  refine ⟨-1,?_,?_⟩
  ·show zA8 _ _ _ _=_
   unfold zA8
   rw [z5 (df (by omega))]
   rfl
  ·rw [List.drop_eq_nil_of_le (by omega)]
   simp
 | succ m ih =>
  intro n i h1 h2
  obtain ⟨n,rfl⟩:=ex1 ‹_<n›
  have hi:i<l.length:=by omega
  have ee:zA6 l f (n+1) (i:Int)=cnd (decide (f=at_ l (i:Int))) (some (i:Int)) (zA6 l f n ((i+1:Nat):Int)):=by
   show zA8 _ _ _ _=_
   unfold zA8
   rw [zAG (dt (by omega)),zZ (zAI hi),zZ (z8 (by omega))]
   rfl
  rw [ee,zEY hi]
  by_cases h:f=at_ l (i:Int)
  ·rw [zAG (dt h)]
   exact ⟨_,rfl,⟨fun _=>by rw [h]; simp,fun _=>Int.natCast_nonneg i⟩⟩
  ·rw [z5 (df h)]
   obtain ⟨r,r1,r2⟩:=ih n (i+1) (by omega) (by omega)
   exact ⟨r,r1,by rw [r2,List.mem_cons]; exact ⟨.inr,fun q=>q.resolve_left h⟩⟩
theorem contains {f:Int} {l:List Int} (hl:l.length≤1000):zBz l f=some (decide (f∈l)):=by
 unfold zBz zDj
 obtain ⟨r,r1,r2⟩:=zVf (f:=f) hl l.length zAD 0 (by omega) (by unfold zAD; omega)
 rw [List.drop_zero] at r2
 rw [z0i,r1,zB8]
 congr 1
 rw [decide_eq_decide]
 exact r2
def Gz (z:zi):Prop:=z.free.length=5∧inI z.start=true
theorem zXX {z:zi}:∀ (m n k:Nat),k+m=5→m<n → ∃ b,zFY z n (k:Int)=some b∧(b=true → ∀ j,k≤j→j<5→(lst z j).length≤300):=by
 intro m
 induction m with
 | zero =>
  intro n k h1 h2
  obtain ⟨n,rfl⟩:=ex1 ‹_<n›
  refine ⟨true,?_,fun _ j h3 h4=>by omega⟩
  show zFi _ _ _=_
  unfold zFi
  rw [z5 (df (by omega))]
  rfl
 | succ m ih =>
  intro n k h1 h2
  obtain ⟨n,rfl⟩:=ex1 ‹_<n›
  have ee:zFY z (n+1) (k:Int)=cnd (decide (300<((lst z k).length:Int))) (some false) (zFY z n ((k+1:Nat):Int)):=by
   show zFi _ _ _=_
   unfold zFi
   rw [zAG (dt (by omega)),zZ (zAI (by omega)),zZ (z8 (by omega))]
   rfl
  rw [ee]
  by_cases h:300<((lst z k).length:Int)
  ·rw [zAG (dt h)]
   exact ⟨false,rfl,fun e=>by cases e⟩
  ·rw [z5 (df h)]
   obtain ⟨b,b1,b2⟩:=ih n (k+1) (by omega) (by omega)
   refine ⟨b,b1,fun e j h3 h4 => ?_⟩
   by_cases hj:j=k
   ·rw [hj]; omega
   ·exact b2 e j (by omega) h4
theorem zX4 {z:zi} (hg:Gz z):∃ b,zL0 z=some b∧(b=true→Zk z):=by
 obtain ⟨b,b1,b2⟩:=zXX (z:=z) 5 zAD 0 (by omega) (by unfold zAD; omega)
 refine ⟨b,b1,fun e=>⟨hg.1,fun k => ?_⟩⟩
 rcases Nat.lt_or_ge k 5 with hk | hk
 ·have:=b2 e k (Nat.zero_le _) hk
  omega
 ·rw [zL4 hg.1 hk]; simp
theorem zXl {c:zL} (hn:c.lists.length≤20):∀ (m n i:Nat),i+m=c.lists.length→m<n → ∃ b,zFq c n (i:Int)=some b∧(b=true → ∀ x,x∈c.lists.drop i→x.length≤300):=by
 intro m
 induction m with
 | zero =>
  intro n i h1 h2
  obtain ⟨n,rfl⟩:=ex1 ‹_<n›
  rw [List.drop_eq_nil_of_le (by omega)]
  refine ⟨true,?_,fun _ x hx=>absurd hx (by simp)⟩
  show zFd _ _ _=_
  unfold zFd
  rw [z5 (df (by omega))]
  rfl
 | succ m ih =>
  intro n i h1 h2
  obtain ⟨n,rfl⟩:=ex1 ‹_<n›
  have hi:i<c.lists.length:=by omega
  have ee:zFq c (n+1) (i:Int)=cnd (decide (300<((at_ c.lists (i:Int)).length:Int))) (some false) (zFq c n ((i+1:Nat):Int)):=by
   show zFd _ _ _=_
   unfold zFd
   rw [zAG (dt (by omega)),zZ (zAI hi),zZ (z8 (by omega))]
   rfl
  rw [ee,zEY hi]
  by_cases h:300<((at_ c.lists (i:Int)).length:Int)
  ·rw [zAG (dt h)]
   exact ⟨false,rfl,fun e=>by cases e⟩
  ·rw [z5 (df h)]
   obtain ⟨b,b1,b2⟩:=ih n (i+1) (by omega) (by omega)
   refine ⟨b,b1,fun e x hx => ?_⟩
   rcases List.mem_cons.1 hx with rfl | hx
   ·omega
   ·exact b2 e x hx
theorem zXz {c:zL}:∃ b,zLE c=some b∧(b=true→Ck c):=by
 unfold zLE
 by_cases h:20<(c.lists.length:Int)
 ·rw [zAG (dt h)]
  exact ⟨false,rfl,fun e=>by cases e⟩
 ·rw [z5 (df h)]
  obtain ⟨b,b1,b2⟩:=zXl (c:=c) (by omega) c.lists.length zAD 0 (by omega) (by unfold zAD; omega)
  rw [List.drop_zero] at b2
  exact ⟨b,b1,fun e=>⟨by omega,fun x hx=>by have:=b2 e x hx; omega⟩⟩
theorem zWk (hn:a.caches.length≤20):∀ (m n i:Nat),i+m=a.caches.length→m<n → ∃ b,zFp a n (i:Int)=some b∧(b=true → ∀ x,x∈a.caches.drop i→Ck x):=by
 intro m
 induction m with
 | zero =>
  intro n i h1 h2
  obtain ⟨n,rfl⟩:=ex1 ‹_<n›
  rw [List.drop_eq_nil_of_le (by omega)]
  refine ⟨true,?_,fun _ x hx=>absurd hx (by simp)⟩
  show zFj _ _ _=_
  unfold zFj
  rw [z5 (df (by omega))]
  rfl
 | succ m ih =>
  intro n i h1 h2
  obtain ⟨n,rfl⟩:=ex1 ‹_<n›
  have hi:i<a.caches.length:=by omega
  obtain ⟨b0,c1,c2⟩:=zXz (c:=at_ a.caches (i:Int))
  have ee:zFp a (n+1) (i:Int)=cnd (!b0) (some false) (zFp a n ((i+1:Nat):Int)):=by
   show zFj _ _ _=_
   unfold zFj
   rw [zAG (dt (by omega)),zZ (zAI hi),c1,zB8,zZ (z8 (by omega))]
   rfl
  rw [ee,zEY hi]
  cases b0 with
  | false=>exact ⟨false,rfl,fun e=>by cases e⟩
  | true =>
   obtain ⟨b,b1,b2⟩:=ih n (i+1) (by omega) (by omega)
   refine ⟨b,b1,fun e x hx => ?_⟩
   rcases List.mem_cons.1 hx with rfl | hx
   ·exact c2 rfl
   ·exact b2 e x hx
theorem zW1 (hg:∀ z,z∈a.zones→Gz z) (hz:a.zones.length≤20) (hn:a.caches.length≤20):∀ (m n i:Nat),i+m=a.zones.length→m<n → ∃ b,zFf a n (i:Int)=some b∧(b=true→(∀ x,x∈a.zones.drop i→Zk x) ∧ ∀ x,x∈a.caches→Ck x):=by
 intro m
 induction m with
 | zero =>
  intro n i h1 h2
  obtain ⟨n,rfl⟩:=ex1 ‹_<n›
  obtain ⟨b,b1,b2⟩:=zWk hn a.caches.length zAD 0 (by omega) (by unfold zAD; omega)
  rw [List.drop_zero] at b2
  rw [List.drop_eq_nil_of_le (by omega)]
  refine ⟨b,?_,fun e=>⟨fun x hx=>absurd hx (by simp),b2 e⟩⟩
  show zFh _ _ _=_
  unfold zFh
  rw [z5 (df (by omega))]
  exact b1
 | succ m ih =>
  intro n i h1 h2
  obtain ⟨n,rfl⟩:=ex1 ‹_<n›
  have hi:i<a.zones.length:=by omega
  obtain ⟨b0,c1,c2⟩:=zX4 (hg _ (zA9 hi))
  have ee:zFf a (n+1) (i:Int)=cnd (!b0) (some false) (zFf a n ((i+1:Nat):Int)):=by
   show zFh _ _ _=_
   unfold zFh
   rw [zAG (dt (by omega)),zZ (zAI hi),c1,zB8,zZ (z8 (by omega))]
   rfl
  rw [ee,zEY hi]
  cases b0 with
  | false=>exact ⟨false,rfl,fun e=>by cases e⟩
  | true =>
   obtain ⟨b,b1,b2⟩:=ih n (i+1) (by omega) (by omega)
   refine ⟨b,b1,fun e=>⟨fun x hx => ?_,(b2 e).2⟩⟩
   rcases List.mem_cons.1 hx with rfl | hx
   ·exact c2 rfl
   ·exact (b2 e).1 x hx
theorem few (hg:∀ z,z∈a.zones→Gz z):∃ b,zKm a=some b∧(b=true→Al a):=by
 unfold zKm
 by_cases h:(((decide (20<(a.nodes.length:Int)))||(decide (20<(a.zones.length:Int))))||(decide (20<(a.caches.length:Int))))=true
 ·rw [zAG h]
  exact ⟨false,rfl,fun e=>by cases e⟩
 ·rw [z5 (Bool.eq_false_iff.2 h)]
  simp only [Bool.or_eq_true,decide_eq_true_eq] at h
  obtain ⟨b,b1,b2⟩:=zW1 hg (by omega) (by omega) a.zones.length zAD 0 (by omega) (by unfold zAD; omega)
  rw [List.drop_zero] at b2
  exact ⟨b,b1,fun e=>⟨by omega,by omega,by omega,fun z hz=>⟨(b2 e).1 z hz,(hg z hz).2⟩,(b2 e).2⟩⟩
end
end Go.Proofs.YtplkliakhdkpcaaGreat
namespace Go.Proofs.YtplkliakhdkpcaaGreat
open Go Go.RowKit Go.Wk Go.Am
section
variable {z:zi} {k:Nat} {l:List Int}
theorem zNa (hr:ranges z=true) (hk:k<5) {g:Nat}:∀ (l:List Int) {s:List Int},s.length=256→(∀ f,f∈l→inside z f k=true) → ∀ x,x∈l→x≤(g:Int)→(g:Int)<x+2 ^ k→s.getD g 0+1≤(zIh k s l).getD g 0
 | [],_,_,_,_,hx,_,_=>absurd hx (by simp)
 | y::l,s,hs,hin,x,hx,h1,h2=>by
  have hbd:=zAZ hr (hin y (by simp))
  have pn:=zMj (k:=k) (by omega)
  have hg:=zK2 (2 ^ k) y.toNat s g (by rw [hs]; omega)
  unfold zIh
  rcases List.mem_cons.1 hx with rfl | hx
  ·rw [if_pos (by omega)] at hg
   have:=zKI l k (zJx s x.toNat (2 ^ k)) g
   omega
  ·have hge:=zNB (2 ^ k) y.toNat s g
   have:=zNa hr hk l (s:=zJx s y.toNat (2 ^ k)) (by rw [zKw]; exact hs) (fun f hf=>hin f (by simp [hf])) x hx h1 h2
   omega
theorem zOO (hr:ranges z=true) {g:Nat}:∀ (ls:List (List Int)) (k:Nat) {s:List Int},k+ls.length=5→s.length=256→(∀ j l,ls[j]?=some l → ∀ f,f∈l→inside z f (k+j)=true) → ∀ j l x,ls[j]?=some l→x∈l→x≤(g:Int)→(g:Int)<x+2 ^ (k+j)→s.getD g 0+1≤(zHg k s ls).getD g 0
 | [],_,_,_,_,_,_,_,_,hj,_,_,_=>absurd hj (by simp)
 | l0::ls,k,s,hk,hs,hin,j,l,x,hj,hx,h1,h2=>by
  have hk':k+(ls.length+1)=5:=hk
  unfold zHg
  cases j with
  | zero =>
   simp at hj
   subst hj
   have:=zNa (k:=k) hr (by omega) l0 hs (fun f hf=>by have:=hin 0 l0 rfl f hf; rwa [Nat.add_zero] at this) x hx h1 h2
   have:=zNK ls (k+1) (zIh k s l0) g
   omega
  | succ j =>
   have hge:=zKI l0 k s g
   have:=zOO hr ls (k+1) (s:=zIh k s l0) (by omega) (by rw [zI4]; exact hs) (fun j' l' hj' f hf=>by
    have:=hin (j'+1) l' hj' f hf
    rwa [show k+(j'+1)=k+1+j' by omega] at this) j l x (by simpa using hj) hx h1 (by rw [show k+1+j=k+(j+1) by omega]; exact h2)
   omega
theorem zOQ (hr:ranges z=true) {g:Nat}:∀ (ls:List (List Int)) (k:Nat) {s:List Int},k+ls.length=5→s.length=256→(∀ j l,ls[j]?=some l → ∀ f,f∈l→inside z f (k+j)=true) → ∀ i j l m x y,i<j→ls[i]?=some l→ls[j]?=some m→x∈l→y∈m→x≤(g:Int)→(g:Int)<x+2 ^ (k+i)→y≤(g:Int)→(g:Int)<y+2 ^ (k+j)→s.getD g 0+2≤(zHg k s ls).getD g 0
 | [],_,_,_,_,_,_,_,_,_,_,_,_,hi,_,_,_,_,_,_,_=>absurd hi (by simp)
 | l0::ls,k,s,hk,hs,hin,i,j,l,m,x,y,hij,hi,hj,hx,hy,h1,h2,h3,h4=>by
  have hk':k+(ls.length+1)=5:=hk
  have hin':∀ j' l',ls[j']?=some l' → ∀ f,f∈l'→inside z f (k+1+j')=true:=fun j' l' hj' f hf=>by
   have:=hin (j'+1) l' hj' f hf
   rwa [show k+(j'+1)=k+1+j' by omega] at this
  unfold zHg
  obtain ⟨j,rfl⟩:∃ q,j=q+1:=⟨j - 1,by omega⟩
  have hj':ls[j]?=some m:=by simpa using hj
  cases i with
  | zero =>
   simp at hi
   subst hi
   have a1:=zNa (k:=k) hr (by omega) l0 hs (fun f hf=>by have:=hin 0 l0 rfl f hf; rwa [Nat.add_zero] at this) x hx h1 h2
   have a2:=zOO hr ls (k+1) (s:=zIh k s l0) (by omega) (by rw [zI4]; exact hs) hin' j m y hj' hy h3 (by rw [show k+1+j=k+(j+1) by omega]; exact h4)
   omega
  | succ i =>
   have hge:=zKI l0 k s g
   have:=zOQ hr ls (k+1) (s:=zIh k s l0) (by omega) (by rw [zI4]; exact hs) hin' i j l m x y (by omega) (by simpa using hi) hj' hx hy h1 (by rw [show k+1+i=k+(i+1) by omega]; exact h2) h3 (by rw [show k+1+j=k+(j+1) by omega]; exact h4)
   omega
theorem zPH (l0:List Int):∀ r:List Int,zQf z k l0 r=true ↔ ∃ f,f∈r∧bud f k∈l0∧inside z (min f (bud f k)) (k+1)=true
 | []=>by unfold zQf; simp
 | f::r=>by
  unfold zQf
  by_cases h:(decide (bud f k∈l0)&&inside z (min f (bud f k)) (k+1))=true
  ·rw [if_pos h]
   simp only [Bool.and_eq_true,decide_eq_true_eq] at h
   exact ⟨fun _=>⟨f,by simp,h.1,h.2⟩,fun _=>rfl⟩
  ·rw [if_neg h,zPH l0 r]
   simp only [Bool.and_eq_true,decide_eq_true_eq] at h
   constructor
   ·rintro ⟨g,h1,h2⟩; exact ⟨g,by simp [h1],h2⟩
   ·rintro ⟨g,h1,h2,h3⟩
    rcases List.mem_cons.1 h1 with rfl | h1
    ·exact absurd ⟨h2,h3⟩ h
    ·exact ⟨g,h1,h2,h3⟩
theorem zRL:∀ (ls:List (List Int)) (k:Nat),zMe z k ls=false → ∀ j l,ls[j]?=some l→zQf z (k+j) l l=false
 | [],_,_,_,_,hj=>absurd hj (by simp)
 | l0::ls,k,h,j,l,hj=>by
  unfold zMe at h
  split at h
  ·cases h
  ·rename_i h0
   cases j with
   | zero =>
    simp at hj
    subst hj
    exact Bool.eq_false_iff.2 h0
   | succ j =>
    have:=zRL ls (k+1) h j l (by simpa using hj)
    rwa [show k+1+j=k+(j+1) by omega] at this
theorem zKV (hz:Zk z) (h:zEd z=0):OkZ z ∧ ∀ g:Nat,(zOp z).getD g 0=0∨(zOp z).getD g 0=1:=by
 obtain ⟨hr,hin,hs⟩:=zGc hz h
 have hm:=zXy hz hr hin
 have hc:zE2 z 0 z.free=0 ∧ ¬ zIr 0 zEs z.free=none∧zMe z 0 (z.free.take 4)=false:=by
  have h':=h
  unfold zEd at h'
  rw [if_neg (by rw [hr]; simp)] at h'
  by_cases h0:zE2 z 0 z.free=0
  ·rw [if_pos h0] at h'
   by_cases h1:zIr 0 zEs z.free=none
   ·rw [if_pos h1] at h'; cases h'
   ·rw [if_neg h1] at h'
    by_cases h2:zMe z 0 (z.free.take 4)=true
    ·rw [if_pos h2] at h'; cases h'
    ·exact ⟨h0,h1,Bool.eq_false_iff.2 h2⟩
  ·rw [if_neg h0] at h'; exact absurd h' h0
 have h01:∀ g:Nat,(zOp z).getD g 0=0∨(zOp z).getD g 0=1:=by
  cases hd:zIr 0 zEs z.free with
  | none=>exact absurd hd hc.2.1
  | some d =>
   rw [hd] at hm
   intro g
   cases hb:d.getD g false with
   | true=>exact .inr (hm.t g hb)
   | false=>exact .inl (hm.f g hb)
 have hin':∀ j l,z.free[j]?=some l → ∀ f,f∈l→inside z f (0+j)=true:=fun j l hj f hf=>by
  have hj5:j<5:=by rw [← hz.len]; exact (List.getElem?_eq_some_iff.1 hj).1
  rw [hz.get hj5] at hj
  cases hj
  rw [Nat.zero_add]
  exact hin j hj5 f hf
 have lt5:∀ {k x},x∈lst z k→k<5:=fun {k x} hx=>by
  rcases Nat.lt_or_ge k 5 with hk | hk
  ·exact hk
  ·rw [zL4 hz.len hk] at hx; exact absurd hx (by simp)
 have two:∀ k j x y f,k<j→x∈lst z k→y∈lst z j→x≤f→f<x+2 ^ k→y≤f→f<y+2 ^ j→False:=by
  intro k j x y f hkj hx hy h1 h2 h3 h4
  have hb:=zAZ hr (hin k (lt5 hx) x hx)
  obtain ⟨g,rfl⟩:=Int.eq_ofNat_of_zero_le (show 0≤f by omega)
  have:=zOQ hr (g:=g) z.free 0 (s:=List.replicate 256 0) (by rw [hz.len]) (by rw [List.length_replicate]) hin' k j _ _ x y hkj (hz.get (lt5 hx)) (hz.get (lt5 hy)) hx hy h1 (by rw [Nat.zero_add]; exact h2) h3 (by rw [Nat.zero_add]; exact h4)
  have h0:(List.replicate 256 (0:Int)).getD g 0=0:=by
   rw [List.getD_eq_getElem?_getD,List.getElem?_replicate]
   split <;> rfl
  rw [h0] at this
  have hc2:(zOp z).getD g 0=(zHg 0 (List.replicate 256 0) z.free).getD g 0:=rfl
  rcases h01 g with e | e <;> omega
 refine ⟨⟨hr,hz.len,hs,fun k x hx=>hin k (lt5 hx) x hx,fun k x j y f hx hy h1 h2 h3 h4 => ?_,fun k x hk hx hb => ?_⟩,h01⟩
 ·rcases Nat.lt_trichotomy k j with hkj | hkj | hkj
  ·exact (two k j x y f hkj hx hy h1 h2 h3 h4).elim
  ·subst hkj
   have b1:=zAZ hr (hin k (lt5 hx) x hx)
   have b2:=zAZ hr (hin k (lt5 hy) y hy)
   obtain ⟨g,rfl⟩:=Int.eq_ofNat_of_zero_le (show 0≤f by omega)
   have e1:=(zOE (f:=g) (lt5 hx) b1.1 ((zBX hr).1 (hin k (lt5 hx) x hx)).2.1).1 ⟨h1,h2⟩
   have e2:=(zOE (f:=g) (lt5 hy) b2.1 ((zBX hr).1 (hin k (lt5 hy) y hy)).2.1).1 ⟨h3,h4⟩
   exact ⟨rfl,by omega⟩
  ·exact (two j k y x f hkj hy hx h3 h4 h1 h2).elim
 ·have hn:=zRL (z.free.take 4) 0 hc.2.2 k _ (zLu (hz.get (k:=k) (by omega)) hk)
  rw [Nat.zero_add] at hn
  refine Bool.eq_false_iff.2 fun hi => ?_
  have:=(zPH (z:=z) (k:=k) (lst z k) (lst z k)).2 ⟨x,hx,hb,hi⟩
  rw [hn] at this
  cases this
theorem zL9 (h:l.length≤1000000):zA1 l=some l:=by
 unfold zA1
 rw [zZ (dt (by show (0+_)*8≤_; omega))]
theorem zQS (hz:Zk z):∀ (m n i:Nat),i+m=5→m<n→zGA z n (i:Int) z.free=some z:=by
 intro m
 induction m with
 | zero =>
  intro n i h1 h2
  obtain ⟨n,rfl⟩:=ex1 ‹_<n›
  show zD6 _ _ _ _=_
  unfold zD6 zHx
  rw [z5 (df (by omega)),zZ (dt (by omega))]
 | succ m ih =>
  intro n i h1 h2
  obtain ⟨n,rfl⟩:=ex1 ‹_<n›
  have hlen:=hz.len
  have e:z.free.getD (i:Int).toNat []=lst z i:=rfl
  have e3:zEN 5 [] z.free (i:Int).toNat (lst z i)=z.free:=by
   rw [zKJ hlen (by omega)]
   exact zJb (by omega)
  show zD6 _ _ _ _=_
  unfold zD6
  rw [zAG (dt (by omega)),zZ (zAI (by omega)),e,zL9 (hz.bd i),zB8,zZ (z8 (by omega)),e3]
  exact ih n (i+1) (by omega) (by omega)
theorem zUU (hz:Zk z):zJJ z=some z:=zQS hz 5 zAD 0 (by omega) (by unfold zAD; omega)
theorem zU2 (hz:Zk z) (h:zEd z=0) {m:Nat} (hm:m<256):∃ r,zHh z (m:Int)=some r∧(0≤r.1↔cov z m):=by
 obtain ⟨hr,hin,_⟩:=zGc hz h
 obtain ⟨r,r1,r2⟩:=zRP hz h hm 5 zAD 0 (by omega) (by unfold zAD; omega)
 refine ⟨r,r1,r2.trans ?_⟩
 constructor
 ·rintro ⟨j,_,hj,hm⟩
  have hbj:=zAZ hr (hin j hj _ hm)
  have haj:=(zBX hr).1 (hin j hj _ hm)
  have:=(zOE (f:=m) hj hbj.1 haj.2.1).2 rfl
  exact ⟨j,_,hm,this.1,this.2⟩
 ·rintro ⟨j,x,hx,h1,h2⟩
  rcases Nat.lt_or_ge j 5 with hj | hj
  ·have hbj:=zAZ hr (hin j hj _ hx)
   have haj:=(zBX hr).1 (hin j hj _ hx)
   have:=(zOE (f:=m) hj hbj.1 haj.2.1).1 ⟨h1,h2⟩
   exact ⟨j,Nat.zero_le _,hj,this▸hx⟩
  ·rw [zL4 hz.len hj] at hx; exact absurd hx (by simp)
theorem zWD (hz:Zk z) (h:zEd z=0) {f:Int} (hk:k≤4) (hi:inside z f k=true) (hn:∀ g,f≤g→g<f+2 ^ k → ¬ cov z g):∀ (m n i:Nat),(i:Int)+m=f+2 ^ k→m<n→f≤i →
  zGv z f (k:Int) n (i:Int)=some (zN9 (4 - k) z f k,0):=by
 obtain ⟨hr,hin,_⟩:=zGc hz h
 have hb:=zAZ hr hi
 obtain ⟨e,p1,p2⟩:=zJW (k:=k) (by omega)
 intro m
 induction m with
 | zero =>
  intro n i h1 h2 h3
  obtain ⟨n,rfl⟩:=ex1 ‹_<n›
  show zEl _ _ _ _ _=_
  unfold zEl zIu
  rw [e,zZ (zM7 (by omega)),zZ (z8 (by omega)),zZ (z8 (by omega)),z5 (df (by omega)),zUU hz,zB8]
  show ((zKF z f (k:Int)).bind _)=_
  rw [zXJ (zKV hz h).1.putI hk hb.1 (by omega),zB8]
 | succ m ih =>
  intro n i h1 h2 h3
  obtain ⟨n,rfl⟩:=ex1 ‹_<n›
  obtain ⟨r,r1,r2⟩:=zU2 hz h (m:=i) (by omega)
  show zEl _ _ _ _ _=_
  unfold zEl
  rw [e,zZ (zM7 (by omega)),zZ (z8 (by omega)),zZ (z8 (by omega)),zAG (dt (by omega)),r1,zB8,z5 (df (fun hq=>hn i h3 (by omega) (r2.1 hq))),zZ (z8 (by omega))]
  exact ih n (i+1) (by omega) (by omega) (by omega)
theorem zTk (hz:Zk z) (hI:inI z.start=true) (h:zEd z=0) {f:Int} (hk:k≤4) (hi:inside z f k=true) (hn:∀ g,f≤g→g<f+2 ^ k → ¬ cov z g):zI0 z f (k:Int)=some (zN9 (4 - k) z f k,0):=by
 obtain ⟨hr,hin,_⟩:=zGc hz h
 have hb:=zAZ hr hi
 obtain ⟨e,p1,p2⟩:=zJW (k:=k) (by omega)
 have pn:=zMj (k:=k) (by omega)
 obtain ⟨m,rfl⟩:=Int.eq_ofNat_of_zero_le hb.1
 unfold zI0
 rw [zPz hz hI,zB8,dt h,Bool.not_true,z5 rfl,df (p:=(k:Int)<0) (by omega),df (p:=4<(k:Int)) (by omega),zK5 hr (by omega),hi]
 refine (congrArg (fun q=>Option.bind q _) (zAG (by rfl))).trans ?_
 rw [zB8]
 refine (z5 (by rfl)).trans ?_
 exact zWD hz h hk hi hn (2 ^ k) zAD m (by omega) (by unfold zAD; omega) (by omega)
theorem zVw (hz:Zk z) (h:zEd z=0) {f:Int} (hk:k≤4) (hi:inside z f k=true) (hn:∀ g,f≤g→g<f+2 ^ k → ¬ cov z g):∀ (m n i:Nat) (s:List Int),(i:Int)+m=f+2 ^ k→m<n→f≤i→s.length=256 →
  (∀ g:Nat,s.getD g 0=if f≤(g:Int)∧(g:Int)<i then 1 else (zOp z).getD g 0)→zHC z f (k:Int) n (i:Int) s=some (zN9 (4 - k) z f k,0):=by
 obtain ⟨hr,hin,_⟩:=zGc hz h
 have hb:=zAZ hr hi
 obtain ⟨e,p1,p2⟩:=zJW (k:=k) (by omega)
 obtain ⟨ho,h01⟩:=zKV hz h
 intro m
 induction m with
 | zero =>
  intro n i s h1 h2 h3 h4 h5
  obtain ⟨n,rfl⟩:=ex1 ‹_<n›
  obtain ⟨q1,q2,q3⟩:=OkZ.put (4 - k) (k:=k) (by omega) ho hi hn
  have hw:=zSj (z:=z) (s:=s) h4 q1 q3 (fun g=>by
   rw [q2]
   constructor
   ·intro hg
    have hgb:z.start≤g∧g<z.start+z.count∧0≤g:=by
     rcases hg with ⟨j,x,hx,x1,x2⟩ | hg
     ·have:=zAZ hr (ho.ins j x hx)
      omega
     ·omega
    obtain ⟨q,rfl⟩:=Int.eq_ofNat_of_zero_le hgb.2.2
    refine ⟨hgb.1,hgb.2.1,?_⟩
    rw [Int.toNat_natCast,h5]
    split
    ·decide
    ·rename_i hne
     rcases hg with hg | hg
     ·have:=(zLi hz hr hin q).2 hg
      omega
     ·exact absurd ⟨hg.1,by omega⟩ hne
   ·rintro ⟨g1,g2,g3⟩
    have hrb:=zBV hr
    obtain ⟨q,rfl⟩:=Int.eq_ofNat_of_zero_le (show 0≤g by omega)
    rw [Int.toNat_natCast,h5] at g3
    split at g3
    ·rename_i hq
     exact .inr ⟨hq.1,by omega⟩
    ·rcases h01 q with e0 | e0
     ·exact absurd e0 g3
     ·exact .inl ((zLi hz hr hin q).1 (by omega)))
  show zEt _ _ _ _ _ _=_
  unfold zEt zIv
  rw [e,zZ (dt (zGo (by omega) (by omega))),zZ (zM7 (by omega)),zZ (z8 (by omega)),zZ (z8 (by omega)),z5 (df (by omega)),hw,zB8,zB8]
 | succ m ih =>
  intro n i s h1 h2 h3 h4 h5
  obtain ⟨n,rfl⟩:=ex1 ‹_<n›
  have hil:i<s.length:=by omega
  have ea:at_ s (i:Int)=s.getD i 0:=by rw [zHb hil,List.getD_eq_getElem?_getD,List.getElem?_eq_getElem hil]; rfl
  have h0:s.getD i 0=0:=by
   rw [h5,if_neg (by omega)]
   rcases h01 i with e0 | e0
   ·exact e0
   ·exact absurd ((zLi hz hr hin i).1 (by omega)) (hn i h3 (by omega))
  show zEt _ _ _ _ _ _=_
  unfold zEt
  rw [e,zZ (dt (zGo (by omega) (by omega))),zZ (zM7 (by omega)),zZ (z8 (by omega)),zZ (z8 (by omega)),zAG (dt (by omega)),zZ (zAI hil),ea,h0,z5 (by rfl),zZ (z8 (by omega))]
  refine ih n (i+1) _ (by omega) (by omega) (by omega) (by rw [List.length_set]; exact h4) (fun g => ?_)
  rw [Int.toNat_natCast,zVa s i g hil,h5]
  by_cases hg:g=i
  ·rw [if_pos hg,if_pos (by omega)]
  ·rw [if_neg hg]
   by_cases hq:f≤(g:Int)∧(g:Int)<i
   ·rw [if_pos hq,if_pos (by omega)]
   ·rw [if_neg hq,if_neg (by omega)]
theorem zTl (hz:Zk z) (h:zEd z=0) {f:Int} (hk:k≤4) (hi:inside z f k=true) (hn:∀ g,f≤g→g<f+2 ^ k → ¬ cov z g):zI2 z f (k:Int)=some (zN9 (4 - k) z f k,0):=by
 obtain ⟨hr,hin,_⟩:=zGc hz h
 have hb:=zAZ hr hi
 obtain ⟨e,p1,p2⟩:=zJW (k:=k) (by omega)
 have pn:=zMj (k:=k) (by omega)
 obtain ⟨m,rfl⟩:=Int.eq_ofNat_of_zero_le hb.1
 unfold zI2
 rw [zRI hz,zB8,dt h,Bool.not_true,z5 rfl,zL1 hr hk,zB8,hi,Bool.not_true,z5 rfl,zQ0 hz hr hin,zB8]
 exact zVw hz h hk hi hn (2 ^ k) zAD m (zOp z) (by omega) (by unfold zAD; omega) (by omega) zOx (fun g=>by rw [if_neg (by omega)])
end
end Go.Proofs.YtplkliakhdkpcaaGreat
namespace Go.Proofs.YtplkliakhdkpcaaGreat
open Go Go.RowKit Go.Wk Go.Am
section
variable {z:zi} {k:Nat} {l:List Int}
theorem zQ8:∀ (m i:Nat) (s:List Bool),i+m≤s.length→(∀ g,i≤g→g<i+m→s.getD g false=false) → ∃ s',zMf s i m=some s'∧s'.length=s.length ∧ ∀ g,s'.getD g false=true→s.getD g false=true∨(i≤g∧g<i+m)
 | 0,i,s,_,_=>⟨s,rfl,rfl,fun g h => .inl h⟩
 | m+1,i,s,h,hf=>by
  obtain ⟨s',h1,h2,h3⟩:=zQ8 m (i+1) (s.set i true) (by rw [List.length_set]; omega) (fun g g1 g2=>by
   rw [zCM _ _ _ (by omega),if_neg (by omega)]; exact hf g (by omega) (by omega))
  refine ⟨s',?_,by rw [h2,List.length_set],fun g hg => ?_⟩
  ·unfold zMf
   rw [if_neg (by rw [hf i (by omega) (by omega)]; simp)]
   exact h1
  ·rcases h3 g hg with h4 | h4
   ·rw [zCM _ _ _ (by omega)] at h4
    split at h4
    ·exact .inr (by omega)
    ·exact .inl h4
   ·exact .inr (by omega)
theorem zRi (hk:k≤4):∀ (l:List Int) (s:List Bool),s.length=256→(∀ x,x∈l→0≤x∧x+2 ^ k≤256)→Srt l→(∀ x y f,x∈l→y∈l→x≤f→f<x+2 ^ k→y≤f→f<y+2 ^ k→x=y)→(∀ x,x∈l → ∀ g:Nat,x≤(g:Int)→(g:Int)<x+2 ^ k→s.getD g false=false) →
  ∃ s',zMp k s l=some s'∧s'.length=256 ∧ ∀ g:Nat,s'.getD g false=true→s.getD g false=true ∨ ∃ x,x∈l∧x≤(g:Int)∧(g:Int)<x+2 ^ k
 | [],s,hs,_,_,_,_=>⟨s,rfl,hs,fun g h => .inl h⟩
 | x::l,s,hs,hb,ho,hd,hf=>by
  have hx:=hb x (by simp)
  have pn:=zMj (k:=k) (by omega)
  obtain ⟨s1,h1,h2,h3⟩:=zQ8 (2 ^ k) x.toNat s (by omega) (fun g g1 g2=>hf x (by simp) g (by omega) (by omega))
  have hno:=List.pairwise_cons.1 ho
  obtain ⟨s2,q1,q2,q3⟩:=zRi hk l s1 (by omega) (fun y hy=>hb y (by simp [hy])) hno.2 (fun a b f ha hb'=>hd a b f (by simp [ha]) (by simp [hb'])) (fun y hy g g1 g2=>by
   cases hq:s1.getD g false with
   | false=>rfl
   | true =>
    rcases h3 g hq with h4 | h4
    ·rw [hf y (by simp [hy]) g g1 g2] at h4; cases h4
    ·have:=hd x y g (by simp) (by simp [hy]) (by omega) (by omega) g1 g2
     have:=hno.1 y hy
     omega)
  refine ⟨s2,?_,q2,fun g hg => ?_⟩
  ·unfold zMp
   rw [h1]
   exact q1
  ·rcases q3 g hg with h4 | ⟨y,hy,h4⟩
   ·rcases h3 g h4 with h5 | h5
    ·exact .inl h5
    ·exact .inr ⟨x,by simp,by omega,by omega⟩
   ·exact .inr ⟨y,by simp [hy],h4⟩
theorem zPh:∀ (ls:List (List Int)) (k:Nat) (s:List Bool),k+ls.length≤5→s.length=256→(∀ j l,ls[j]?=some l→Srt l ∧ ∀ x,x∈l→0≤x∧x+2 ^ (k+j)≤256) →
  (∀ i j l m x y f,ls[i]?=some l→ls[j]?=some m→x∈l→y∈m→x≤f→f<x+2 ^ (k+i)→y≤f→f<y+2 ^ (k+j)→i=j∧x=y) →
  (∀ j l,ls[j]?=some l → ∀ x,x∈l → ∀ g:Nat,x≤(g:Int)→(g:Int)<x+2 ^ (k+j)→s.getD g false=false)→zIr k s ls≠none
 | [],k,s,_,_,_,_,_=>by unfold zIr; simp
 | l::ls,k,s,hk,hs,hb,hd,hf=>by
  have hk':k+(ls.length+1)≤5:=hk
  have hb0:=hb 0 l rfl
  obtain ⟨s1,h1,h2,h3⟩:=zRi (k:=k) (by omega) l s hs hb0.2 hb0.1 (fun x y f hx hy a1 a2 a3 a4=>(hd 0 0 l l x y f rfl rfl hx hy a1 a2 a3 a4).2) (hf 0 l rfl)
  unfold zIr
  rw [h1]
  refine zPh ls (k+1) s1 (by omega) h2 (fun j m hj => ?_) (fun i j a b x y f hi hj hx hy a1 a2 a3 a4 => ?_) (fun j m hj x hx g g1 g2 => ?_)
  ·have:=hb (j+1) m (by simpa using hj)
   rwa [show k+(j+1)=k+1+j by omega] at this
  ·have:=hd (i+1) (j+1) a b x y f (by simpa using hi) (by simpa using hj) hx hy a1 (by rwa [show k+(i+1)=k+1+i by omega]) a3 (by rwa [show k+(j+1)=k+1+j by omega])
   exact ⟨by omega,this.2⟩
  ·cases hq:s1.getD g false with
   | false=>rfl
   | true =>
    have g2':(g:Int)<x+2 ^ (k+(j+1)):=by rwa [show k+(j+1)=k+1+j by omega]
    rcases h3 g hq with h4 | ⟨y,hy,h4,h5⟩
    ·rw [hf (j+1) m (by simpa using hj) x hx g g1 g2'] at h4; cases h4
    ·have:=(hd 0 (j+1) l m y x g rfl (by simpa using hj) hy hx h4 h5 g1 g2').1
     omega
theorem zTA:∀ (l:List Int) (p:Option Int),(∀ f,f∈l→inside z f k=true)→Srt l→(∀ q f,p=some q→f∈l→q<f)→zKf z k p l=0
 | [],_,_,_,_=>by unfold zKf; rfl
 | x::l,p,hi,hs,hp=>by
  have hno:=List.pairwise_cons.1 hs
  unfold zKf
  rw [if_neg (by rw [hi x (by simp)]; simp),if_neg]
  ·exact zTA l (some x) (fun f hf=>hi f (by simp [hf])) hno.2 (fun q f hq hf=>by cases hq; exact hno.1 f hf)
  ·cases p with
   | none=>unfold geP; simp
   | some q =>
    have:=hp q x rfl (by simp)
    unfold geP
    simp
    omega
theorem zQw:∀ (ls:List (List Int)) (k:Nat),(∀ j l,ls[j]?=some l→(∀ f,f∈l→inside z f (k+j)=true)∧Srt l)→zE2 z k ls=0
 | [],_,_=>by unfold zE2; rfl
 | l::ls,k,h=>by
  have h0:=h 0 l rfl
  rw [Nat.add_zero] at h0
  unfold zE2
  rw [zTA l none h0.1 h0.2 (fun q f hq=>by cases hq),if_pos rfl]
  exact zQw ls (k+1) (fun j m hj=>by
   have:=h (j+1) m (by simpa using hj)
   rwa [show k+(j+1)=k+1+j by omega] at this)
theorem zRb:∀ (ls:List (List Int)) (k:Nat),(∀ j l,ls[j]?=some l→zQf z (k+j) l l=false)→zMe z k ls=false
 | [],_,_=>by unfold zMe; rfl
 | l::ls,k,h=>by
  unfold zMe
  rw [if_neg (by have:=h 0 l rfl; rw [Nat.add_zero] at this; rw [this]; simp)]
  exact zRb ls (k+1) (fun j m hj=>by
   have:=h (j+1) m (by simpa using hj)
   rwa [show k+(j+1)=k+1+j by omega] at this)
theorem zFl (h:OkZ z):zEd z=0:=by
 have hl:∀ (j:Nat) (l:List Int),z.free[j]?=some l→j<5∧l=lst z j:=fun j l hl=>by
  have hj:j<5:=by have:=(List.getElem?_eq_some_iff.1 hl).1; rw [h.len] at this; exact this
  rw [zKO h.len hj] at hl
  cases hl
  exact ⟨hj,rfl⟩
 unfold zEd
 rw [if_neg (by rw [h.ranges]; simp),if_pos (zQw z.free 0 fun j l hj=>by obtain ⟨_,rfl⟩:=hl j l hj; rw [Nat.zero_add]; exact ⟨h.ins j,h.srt j⟩),if_neg,if_neg]
 ·rw [zRb (z.free.take 4) 0]
  ·simp
  ·intro j l hj
   have hj4:j<4:=by have:=(List.getElem?_eq_some_iff.1 hj).1; rw [List.length_take] at this; omega
   rw [List.getElem?_take,if_pos hj4] at hj
   obtain ⟨_,rfl⟩:=hl j l hj
   rw [Nat.zero_add]
   refine Bool.eq_false_iff.2 fun hh => ?_
   obtain ⟨f,f1,f2,f3⟩:=(zPH (lst z j) (lst z j)).1 hh
   rw [h.can j f hj4 f1 f2] at f3
   cases f3
 ·refine zPh z.free 0 zEs (by rw [h.len]; omega) zJB (fun j l hj => ?_) (fun i j a b x y f hi hj hx hy a1 a2 a3 a4 => ?_) (fun j l hj x hx g _ _ => ?_)
  ·obtain ⟨_,rfl⟩:=hl j l hj
   rw [Nat.zero_add]
   exact ⟨h.srt j,fun x hx=>⟨(h.bds (h.ins j x hx)).1,(h.bds (h.ins j x hx)).2.1⟩⟩
  ·obtain ⟨_,rfl⟩:=hl i a hi
   obtain ⟨_,rfl⟩:=hl j b hj
   rw [Nat.zero_add] at a2 a4
   exact h.dis i x j y f hx hy a1 a2 a3 a4
  ·unfold zEs
   rw [List.getD_eq_getElem?_getD,List.getElem?_replicate]
   split <;> rfl
theorem OkZ.zk (h:OkZ z):Zk z:=⟨h.len,fun k=>by have:=h.putI.len' k; omega⟩
theorem OkZ.inI (h:OkZ z):inI z.start=true:=by have:=zBV h.ranges; exact z8 (by omega)
def zMH (z:zi):List Int→zi
 | []=>z
 | f::r=>zMH (zN9 4 z f 0) r
theorem zOe:∀ (l:List Int) {z:zi},OkZ z→(∀ f,f∈l→inside z f 0=true ∧ ¬ cov z f)→l.Nodup→OkZ (zMH z l)∧(∀ g,cov (zMH z l) g↔cov z g∨g∈l)∧zGw (zMH z l) z
 | [],z,h,_,_=>⟨h,fun g=>by unfold zMH; simp,⟨rfl,rfl,rfl,rfl,rfl⟩⟩
 | f::r,z,h,hi,hn=>by
  have hf:=hi f (by simp)
  have hnd:=List.nodup_cons.1 hn
  obtain ⟨h1,h2,h3⟩:=OkZ.put 4 (k:=0) (by omega) h hf.1 (fun g g1 g2=>by
   rw [pw0] at g2
   have:g=f:=by omega
   rw [this]; exact hf.2)
  obtain ⟨q1,q2,q3⟩:=zOe r h1 (fun g hg=>by
   refine ⟨by rw [h3.inside]; exact (hi g (by simp [hg])).1,fun hc => ?_⟩
   rcases (h2 g).1 hc with hc | hc
   ·exact (hi g (by simp [hg])).2 hc
   ·rw [pw0] at hc
    have:g=f:=by omega
    exact hnd.1 (this▸hg)) hnd.2
  refine ⟨q1,fun g => ?_,q3.trans h3⟩
  show cov (zMH (zN9 4 z f 0) r) g↔_
  rw [q2 g,h2 g,pw0,List.mem_cons]
  constructor
  ·rintro ((h | h) | h)
   ·exact .inl h
   ·exact .inr (.inl (by omega))
   ·exact .inr (.inr h)
  ·rintro (h | h | h)
   ·exact .inl (.inl h)
   ·exact .inl (.inr (by omega))
   ·exact .inr h
end
end Go.Proofs.YtplkliakhdkpcaaGreat
namespace Go.Proofs.YtplkliakhdkpcaaGreat
open Go Go.RowKit Go.Wk Go.Am
section
variable {a:zJ}
theorem zOF {α:Type} [Inhabited α] {l:List α} {i:Nat} (h:i<l.length):l.set i (at_ l (i:Int))=l:=by
 rw [zHb h]
 exact List.set_getElem_self h
theorem zX1 {se:Int→List zi→Option zJ} {zs:List zi} {j:Nat} (hj:j<zs.length) (hl:zs.length≤1000) (hz:Zk (at_ zs (j:Int))):∀ (m n k:Nat),k+m=5→m<n→zCx se (j:Int) n (k:Int) zs=se ((j+1:Nat):Int) zs:=by
 intro m
 induction m with
 | zero =>
  intro n k h1 h2
  obtain ⟨n,rfl⟩:=ex1 ‹_<n›
  show zCK _ _ _ _ _=_
  unfold zCK zFO
  rw [z5 (df (by omega)),zZ (z8 (by omega))]
  rfl
 | succ m ih =>
  intro n k h1 h2
  obtain ⟨n,rfl⟩:=ex1 ‹_<n›
  have hlen:=hz.len
  have e:(at_ zs (j:Int)).free.getD (k:Int).toNat []=lst (at_ zs (j:Int)) k:=rfl
  have e3:zEN 5 [] (at_ zs (j:Int)).free (k:Int).toNat (lst (at_ zs (j:Int)) k)=(at_ zs (j:Int)).free:=by
   rw [zKJ hlen (by omega)]
   exact zJb (by omega)
  show zCK _ _ _ _ _=_
  unfold zCK
  rw [zAG (dt (by omega)),zZ (zAI hj),zZ (zAI (by omega)),e,zL9 (hz.bd k),zB8,zZ (z8 (by omega)),e3]
  have e4:zs.set (j:Int).toNat (at_ zs (j:Int))=zs:=zOF hj
  show zCx se (j:Int) n ((k:Int)+1) (zs.set (j:Int).toNat (at_ zs (j:Int)))=_
  rw [e4]
  exact ih n (k+1) (by omega) (by omega)
theorem zYA {se:Int→List zL→Option zJ} {cs:List zL} {j:Nat} (hj:j<cs.length) (hl:cs.length≤1000) (hc:Ck (at_ cs (j:Int))):∀ (m n i:Nat),i+m=(at_ cs (j:Int)).lists.length→m<n→zDX se (j:Int) cs (at_ cs (j:Int)).lists n (i:Int) (at_ cs (j:Int)).lists=se ((j+1:Nat):Int) cs:=by
 have hn:=hc.n
 intro m
 induction m with
 | zero =>
  intro n i h1 h2
  obtain ⟨n,rfl⟩:=ex1 ‹_<n›
  show zCQ _ _ _ _ _ _ _=_
  unfold zCQ zFV zFN
  rw [z5 (df (by omega)),zZ (zAI hj),zZ (z8 (by omega))]
  have e4:cs.set (j:Int).toNat (at_ cs (j:Int))=cs:=zOF hj
  show se ((j:Int)+1) (cs.set (j:Int).toNat (at_ cs (j:Int)))=_
  rw [e4]
  rfl
 | succ m ih =>
  intro n i h1 h2
  obtain ⟨n,rfl⟩:=ex1 ‹_<n›
  have hi:i<(at_ cs (j:Int)).lists.length:=by omega
  have hb:=hc.l _ (zA9 hi)
  show zCQ _ _ _ _ _ _ _=_
  unfold zCQ
  have e4:(at_ cs (j:Int)).lists.set (i:Int).toNat (at_ (at_ cs (j:Int)).lists (i:Int))=(at_ cs (j:Int)).lists:=zOF hi
  rw [zAG (dt (by omega)),zZ (zAI hi),zL9 (by omega),zB8,zZ (z8 (by omega)),e4]
  exact ih n (i+1) (by omega) (by omega)
theorem zX9 (ha:Al a) {zs:List zi} {ns:List Int}:∀ (m n j:Nat),j+m=a.caches.length→m<n→zBC a ns a.caches zs n (j:Int) a.caches=some ⟨ns,a.batch,a.high,zs,a.caches⟩:=by
 have hc:=ha.c
 intro m
 induction m with
 | zero =>
  intro n j h1 h2
  obtain ⟨n,rfl⟩:=ex1 ‹_<n›
  show zCR _ _ _ _ _ _ _=_
  unfold zCR
  rw [z5 (df (by omega))]
  rfl
 | succ m ih =>
  intro n j h1 h2
  obtain ⟨n,rfl⟩:=ex1 ‹_<n›
  have hj:j<a.caches.length:=by omega
  have hk:=ha.ck _ (zA9 hj)
  have hn:=hk.n
  show zCR _ _ _ _ _ _ _=_
  unfold zCR zDS
  rw [zAG (dt (by omega)),zZ (zAI hj),zZ (dt (by show (0+_)*24≤_; omega)),zB8,z0i,zYA hj hc hk _ zAD 0 (Nat.zero_add _) (by unfold zAD; omega)]
  exact ih n (j+1) (by omega) (by omega)
theorem zXd (ha:Al a) {ns:List Int}:∀ (m n j:Nat),j+m=a.zones.length→m<n→zBU a ns a.zones a.caches n (j:Int) a.zones=some ⟨ns,a.batch,a.high,a.zones,a.caches⟩:=by
 have hz:=ha.z
 have hc:=ha.c
 intro m
 induction m with
 | zero =>
  intro n j h1 h2
  obtain ⟨n,rfl⟩:=ex1 ‹_<n›
  show zCA _ _ _ _ _ _ _=_
  unfold zCA zFL
  rw [z5 (df (by omega)),z0i]
  exact zX9 ha a.caches.length zAD 0 (by omega) (by unfold zAD; omega)
 | succ m ih =>
  intro n j h1 h2
  obtain ⟨n,rfl⟩:=ex1 ‹_<n›
  have hj:j<a.zones.length:=by omega
  show zCA _ _ _ _ _ _ _=_
  unfold zCA
  rw [zAG (dt (by omega)),z0i,zX1 hj hz (ha.zk _ (zA9 hj)).1 5 zAD 0 (by omega) (by unfold zAD; omega)]
  exact ih n (j+1) (by omega) (by omega)
theorem zWd (ha:Al a):zCs a=some a:=by
 have h1:=ha.n
 have h2:=ha.z
 have h3:=ha.c
 unfold zCs zBf zAz
 rw [zL9 (by omega),zB8,zZ (dt (by show (0+_)*160≤_; omega)),zB8,zZ (dt (by show (0+_)*24≤_; omega)),zB8,z0i]
 exact zXd ha a.zones.length zAD 0 (by omega) (by unfold zAD; omega)
theorem zTm {c:zL} (hc:Ck c):∀ (m n i:Nat) (l:List (List Int)),i+m=c.lists.length→m<n→l=c.lists.take i→zGP c n (i:Int) l=some c:=by
 have hn:=hc.n
 intro m
 induction m with
 | zero =>
  intro n i l h1 h2 h3
  obtain ⟨n,rfl⟩:=ex1 ‹_<n›
  show zD3 _ _ _ _=_
  unfold zD3
  rw [z5 (df (by omega)),h3,List.take_of_length_le (by omega)]
  rfl
 | succ m ih =>
  intro n i l h1 h2 h3
  obtain ⟨n,rfl⟩:=ex1 ‹_<n›
  have hi:i<c.lists.length:=by omega
  have hb:=hc.l _ (zA9 hi)
  have hl:l.length=i:=by rw [h3,List.length_take]; omega
  show zD3 _ _ _ _=_
  unfold zD3
  rw [zAG (dt (by omega)),zZ (zAI hi),zZ (dt (by show (0+_)*8≤_; omega)),zZ (dt (by show (_+1)*24≤_; omega)),zZ (z8 (by omega)),List.nil_append]
  refine ih n (i+1) _ (by omega) (by omega) ?_
  rw [h3,List.take_add_one,List.getElem?_eq_getElem hi,zHb hi]
  rfl
theorem zP8 {c:zL} (hc:Ck c):zGi c=some c:=zTm hc c.lists.length zAD 0 [] (by omega) (by have:=hc.n; unfold zAD; omega) rfl
theorem zX2 (ha:Al a) {zs:List zi}:∀ (m n j:Nat) (l:List zL),j+m=a.caches.length→m<n→l=a.caches.take j→zF7 a zs n (j:Int) l=some ⟨a.nodes,a.batch,a.high,zs,a.caches⟩:=by
 have hc:=ha.c
 intro m
 induction m with
 | zero =>
  intro n j l h1 h2 h3
  obtain ⟨n,rfl⟩:=ex1 ‹_<n›
  show zD0 _ _ _ _ _=_
  unfold zD0
  rw [z5 (df (by omega)),h3,List.take_of_length_le (by omega)]
  rfl
 | succ m ih =>
  intro n j l h1 h2 h3
  obtain ⟨n,rfl⟩:=ex1 ‹_<n›
  have hj:j<a.caches.length:=by omega
  have hl:l.length=j:=by rw [h3,List.length_take]; omega
  show zD0 _ _ _ _ _=_
  unfold zD0
  rw [zAG (dt (by omega)),zZ (zAI hj),zP8 (ha.ck _ (zA9 hj)),zB8,zZ (dt (by show (_+1)*24≤_; omega)),zZ (z8 (by omega))]
  refine ih n (j+1) _ (by omega) (by omega) ?_
  rw [h3,List.take_add_one,List.getElem?_eq_getElem hj,zHb hj]
  rfl
theorem zYB {se:Int→List zi→Option zJ} (ha:Al a) {j:Nat} {l:List zi} (hj:j<a.zones.length) (hl:l.length≤1000):∀ (m n k:Nat),k+m=5→m<n→zGS se a (j:Int) l n (k:Int) (at_ a.zones (j:Int)).free=se ((j+1:Nat):Int) (l++[at_ a.zones (j:Int)]):=by
 have hzl:=ha.z
 have hz:=(ha.zk _ (zA9 hj)).1
 intro m
 induction m with
 | zero =>
  intro n k h1 h2
  obtain ⟨n,rfl⟩:=ex1 ‹_<n›
  show zD8 _ _ _ _ _ _ _=_
  unfold zD8 zIF zIA
  rw [z5 (df (by omega)),zZ (dt (by show (_+1)*160≤_; omega)),zZ (z8 (by omega))]
  rfl
 | succ m ih =>
  intro n k h1 h2
  obtain ⟨n,rfl⟩:=ex1 ‹_<n›
  have hlen:=hz.len
  have hb:=hz.bd k
  have e:(at_ a.zones (j:Int)).free.getD (k:Int).toNat []=lst (at_ a.zones (j:Int)) k:=rfl
  have e3:zEN 5 [] (at_ a.zones (j:Int)).free (k:Int).toNat (lst (at_ a.zones (j:Int)) k)=(at_ a.zones (j:Int)).free:=by
   rw [zKJ hlen (by omega)]
   exact zJb (by omega)
  show zD8 _ _ _ _ _ _ _=_
  unfold zD8
  rw [e,zAG (dt (by omega)),zZ (zAI hj),zZ (zAI (by omega)),zZ (dt (by show (0+_)*8≤_; omega)),zZ (z8 (by omega)),List.nil_append,e3]
  exact ih n (k+1) (by omega) (by omega)
theorem zX3 (ha:Al a):∀ (m n j:Nat) (l:List zi),j+m=a.zones.length→m<n→l=a.zones.take j→zB6 a n (j:Int) l=some a:=by
 have hz:=ha.z
 have hc:=ha.c
 intro m
 induction m with
 | zero =>
  intro n j l h1 h2 h3
  obtain ⟨n,rfl⟩:=ex1 ‹_<n›
  show zDl _ _ _ _=_
  unfold zDl zIE
  rw [z5 (df (by omega)),h3,List.take_of_length_le (by omega)]
  exact zX2 ha a.caches.length zAD 0 [] (by omega) (by unfold zAD; omega) rfl
 | succ m ih =>
  intro n j l h1 h2 h3
  obtain ⟨n,rfl⟩:=ex1 ‹_<n›
  have hj:j<a.zones.length:=by omega
  have hl:l.length=j:=by rw [h3,List.length_take]; omega
  show zDl _ _ _ _=_
  unfold zDl
  rw [zAG (dt (by omega)),zZ (zAI hj),z0i,zYB ha hj (by omega) 5 zAD 0 (by omega) (by unfold zAD; omega)]
  refine ih n (j+1) _ (by omega) (by omega) ?_
  rw [h3,List.take_add_one,List.getElem?_eq_getElem hj,zHb hj]
  rfl
theorem zWr (ha:Al a):zI8 a=some a:=by
 have h1:=ha.n
 unfold zI8
 rw [zZ (dt (by show (0+_)*8≤_; omega))]
 exact zX3 ha a.zones.length zAD 0 [] (by omega) (by have:=ha.z; unfold zAD; omega) rfl
theorem zXZ:Sm ⟨([]:List Int),0,0,([]:List zi),([]:List zL)⟩:=⟨by simp,by simp,by simp,by simp,by simp⟩
end
end Go.Proofs.YtplkliakhdkpcaaGreat
namespace Go.Proofs.YtplkliakhdkpcaaGreat
open Go Go.RowKit Go.Wk Go.Am
structure Pc (c:zL) (zn:Nat):Prop where
 z:1≤zn∧zn≤6
 len:c.lists.length=zn
 bd:∀ l,l∈c.lists→l.length≤400
 fr:∀ l,l∈c.lists → ∀ f,f∈l→zFG f=true
 nd:∀ l,l∈c.lists→l.Nodup
 dis:∀ (p q:Nat) (f:Int),p<zn→q<zn→f∈at_ c.lists (p:Int)→f∈at_ c.lists (q:Int)→p=q
section
variable {c:zL} {zn:Nat} {z:Nat} {l:List Int}
theorem Pc.ck (h:Pc c zn):Ck c:=⟨by have:=h.len; have:=h.z; omega,fun x hx=>by have:=h.bd x hx; omega⟩
theorem Pc.r (h:Pc c zn):pcR c (zn:Int)=0:=by
 have hz:=h.z
 unfold pcR
 rw [if_neg (by omega),if_pos (by rw [h.len]),if_pos,if_pos]
 ·unfold List.Nodup
  rw [List.pairwise_flatten]
  refine ⟨h.nd,List.pairwise_iff_getElem.2 fun i j hi hj hij x hx y hy e => ?_⟩
  subst e
  have:=h.dis i j x (by rw [← h.len]; exact hi) (by rw [← h.len]; exact hj) (by rw [zHb hi]; exact hx) (by rw [zHb hj]; exact hy)
  omega
 ·refine List.all_eq_true.2 fun f hf => ?_
  obtain ⟨l,hl,hfl⟩:=List.mem_flatten.1 hf
  exact h.fr l hl f hfl
theorem zPT (l:List Int):zC7 (List.replicate (l.length:Int).toNat 0) l=l:=by
 unfold zC7
 rw [List.length_replicate,Int.toNat_natCast,List.take_length,List.drop_replicate,Nat.sub_self]
 exact List.append_nil l
theorem zSY {T:List (List Int)} {i m:Nat} {x:List Int} (hi:T[i]?=some x):(T.take i++List.replicate (m+1) ([]:List Int)).set i x=T.take (i+1)++List.replicate m []:=by
 have hl:(T.take i).length=i:=by rw [List.length_take]; have:=(List.getElem?_eq_some_iff.1 hi).1; omega
 rw [List.set_append,if_neg (by omega),hl,Nat.sub_self,List.replicate_succ,List.set_cons_zero,List.take_add_one,hi]
 simp
theorem zSa (hc:Ck c) (hl:l.length≤1000):∀ (m n i:Nat),i+m=c.lists.length→m<n→zCf c (z:Int) l n (i:Int) ((c.lists.set z l).take i++List.replicate m [])=some ⟨c.lists.set z l⟩:=by
 have hn:=hc.n
 intro m
 induction m with
 | zero =>
  intro n i h1 h2
  obtain ⟨n,rfl⟩:=ex1 ‹_<n›
  show zCc _ _ _ _ _ _=_
  unfold zCc zFv
  rw [z5 (df (by omega)),List.replicate_zero,List.append_nil,List.take_of_length_le (by rw [List.length_set]; omega)]
 | succ m ih =>
  intro n i h1 h2
  obtain ⟨n,rfl⟩:=ex1 ‹_<n›
  have hi:i<c.lists.length:=by omega
  have hll:((c.lists.set z l).take i++List.replicate (m+1) ([]:List Int)).length=c.lists.length:=by
   rw [List.length_append,List.length_take,List.length_set,List.length_replicate]; omega
  have hj:∀ d:List Int,d.length≤1000→(c.lists.set z l)[i]?=some d→zDG (zCf c (z:Int) l n) (i:Int) ((c.lists.set z l).take i++List.replicate (m+1) []) d=some ⟨c.lists.set z l⟩:=fun d hd he=>by
   unfold zDG
   rw [zZ (by simp; omega),zZ (zUB (by rw [hll]; omega)),zZ (z8 (by omega)),zPT,Int.toNat_natCast,zSY he]
   exact ih n (i+1) (by omega) (by omega)
  show zCc _ _ _ _ _ _=_
  unfold zCc
  rw [zAG (dt (by omega)),zZ (zAI hi)]
  by_cases hz:i=z
  ·rw [zAG (dt (by omega))]
   exact hj l hl (by rw [← hz,List.getElem?_set_self hi])
  ·rw [z5 (df (by omega))]
   refine hj _ (hc.l _ (zA9 hi)) ?_
   rw [List.getElem?_set_ne (fun e=>hz e.symm),zHb hi,List.getElem?_eq_getElem hi]
theorem zVz (hc:Ck c) (hl:l.length≤1000):zBr c (z:Int) l=some ⟨c.lists.set z l⟩:=by
 have hn:=hc.n
 unfold zBr
 rw [zZ (by simp; omega)]
 exact zSa hc hl c.lists.length zAD 0 (by omega) (by unfold zAD; omega)
theorem zUq (h:Pc c zn) (hz:z<zn):zEf c (z:Int)=some 0:=by
 have hl:=h.len
 unfold zEf
 rw [zUR h.ck,hl,h.r,zB8,dt rfl,Bool.not_true,z5 rfl,df (by omega),df (by omega)]
 rfl
theorem zU5 (h:Pc c zn) (hz:z<zn):zGn c (z:Int)=some 0:=by
 have hl:=h.len
 unfold zGn
 rw [zUN h.ck,hl,h.r,zB8,dt rfl,Bool.not_true,z5 rfl,df (by omega),df (by omega)]
 rfl
theorem zWc (hp:Pc c zn) (hz:z<zn):zIS c (z:Int)=some (⟨c.lists.set z []⟩,at_ c.lists (z:Int),0):=by
 have hl:=hp.len
 have hzl:z<c.lists.length:=by omega
 have hbd:=hp.bd _ (zA9 hzl)
 unfold zIS
 rw [zUq hp hz,zB8,dt rfl,Bool.not_true,z5 rfl,zZ (zAI hzl),zZ (by simp; omega),zVz hp.ck (by simp),zB8,zPT]
theorem zXM (hp:Pc c zn) (hz:z<zn):zI3 c (z:Int)=some (⟨c.lists.set z []⟩,at_ c.lists (z:Int),0):=by
 have hl:=hp.len
 have hzl:z<c.lists.length:=by omega
 have hbd:=hp.bd _ (zA9 hzl)
 unfold zI3
 rw [zU5 hp hz,zB8,dt rfl,Bool.not_true,z5 rfl,zP8 hp.ck,zB8,zZ (zAI hzl),zZ (by simp; omega),Int.toNat_natCast,List.nil_append]
end
end Go.Proofs.YtplkliakhdkpcaaGreat
namespace Go.Proofs.YtplkliakhdkpcaaGreat
open Go Go.RowKit Go.Wk Go.Am
theorem zX8 {α:Type} [Inhabited α] {l:List α} {i:Nat} {x:α} (h:l[i]?=some x):at_ l (i:Int)=x:=by
 obtain ⟨hi,e⟩:=List.getElem?_eq_some_iff.1 h
 rw [zHb hi]
 exact e
theorem zUr {α:Type} [Inhabited α] {l:List α} {i:Nat} (h:i<l.length):l[i]?=some (at_ l (i:Int)):=by rw [zHb h,List.getElem?_eq_getElem h]
theorem zS2 {l:List (List Int)} {p:Nat} (h:l.length≤p):at_ l (p:Int)=[]:=by
 unfold at_
 rw [Int.toNat_natCast,List.getD_eq_getElem?_getD,List.getElem?_eq_none h]
 rfl
theorem zUe {l:List (List Int)} {p:Nat} {f:Int} (h:f∈at_ l (p:Int)):p<l.length:=by
 refine Nat.lt_of_not_le fun hn => ?_
 rw [zS2 hn] at h
 cases h
theorem zQx {f:Int} (h:0≤f):((f.toNat:Nat):Int)=f:=Int.toNat_of_nonneg h
theorem zUP {z:zi} (hr:ranges z=true):∀ (l:List Int) (d:List Bool),d.length=256→(feL z d l).1=0→(∀ f,f∈l→inZ z f=true∧zLR z f=false∧d.getD f.toNat false=false)∧l.Nodup∧(∀ g:Nat,(feL z d l).2.getD g false=true↔d.getD g false=true∨(g:Int)∈l)
 | [],d,hd,h=>⟨(fun f hf=>by cases hf),List.nodup_nil,(fun g=>by unfold feL; simp)⟩
 | f::r,d,hd,h=>by
  unfold feL at h ⊢
  by_cases hi:inZ z f=true
  ·rw [if_pos hi] at h ⊢
   have hb:=zPu hr hi
   by_cases hx:(d.getD f.toNat false||zLR z f)=true
   ·rw [if_pos hx] at h; cases h
   ·rw [if_neg hx] at h ⊢
    simp only [Bool.or_eq_true,not_or,Bool.not_eq_true] at hx
    obtain ⟨i1,i2,i3⟩:=zUP hr r (d.set f.toNat true) (by rw [List.length_set]; exact hd) h
    have hfr:f ∉ r:=fun hm=>by
     have:=(i1 f hm).2.2
     rw [zCM _ _ _ (by omega),if_pos rfl] at this
     cases this
    refine ⟨fun g hg => ?_,List.nodup_cons.2 ⟨hfr,i2⟩,fun g => ?_⟩
    ·rcases List.mem_cons.1 hg with rfl | hg
     ·exact ⟨hi,hx.2,hx.1⟩
     ·have h3:=i1 g hg
      refine ⟨h3.1,h3.2.1,?_⟩
      have h4:=h3.2.2
      rw [zCM _ _ _ (by omega)] at h4
      split at h4
      ·cases h4
      ·exact h4
    ·rw [i3 g,zCM _ _ _ (by omega)]
     by_cases hg:g=f.toNat
     ·rw [if_pos hg]
      exact ⟨fun _ => .inr (by rw [hg,zQx hb.1]; simp),fun _ => .inl rfl⟩
     ·rw [if_neg hg]
      constructor
      ·rintro (h | h)
       ·exact .inl h
       ·exact .inr (List.mem_cons_of_mem _ h)
      ·rintro (h | h)
       ·exact .inl h
       ·rcases List.mem_cons.1 h with h | h
        ·omega
        ·exact .inr h
  ·rw [if_neg hi] at h; cases h
theorem zUa:∀ (zs:List zi) (ls:List (List Int)) (d:List Bool),(∀ z,z∈zs→ranges z=true)→ls.length=zs.length→d.length=256→(feC d zs ls).1=0 →
  (∀ (p:Nat) z l,zs[p]?=some z→ls[p]?=some l→(∀ f,f∈l→inZ z f=true∧zLR z f=false∧d.getD f.toNat false=false)∧l.Nodup) ∧
  (∀ (p q:Nat) l m f,ls[p]?=some l→ls[q]?=some m→f∈l→f∈m→p=q)∧(∀ g:Nat,(feC d zs ls).2.getD g false=true↔d.getD g false=true ∨ ∃ l,l∈ls∧(g:Int)∈l)∧(∀ l,l∈ls → ∀ f,f∈l→0≤f)
 | [],[],d,_,_,_,_=>⟨(fun p z l h=>by simp at h),(fun p q l m f h=>by simp at h),(fun g=>by unfold feC; simp),(fun l hl=>by cases hl)⟩
 | [],_::_,_,_,hl,_,_=>by simp at hl
 | _::_,[],_,_,hl,_,_=>by simp at hl
 | z::zs,l::ls,d,hr,hl,hd,h=>by
  unfold feC at h ⊢
  have hrz:=hr z (by simp)
  by_cases h0:(feL z d l).1=0
  ·rw [if_pos h0] at h ⊢
   obtain ⟨j1,j2,j3⟩:=zUP hrz l d hd h0
   obtain ⟨i1,i2,i3,i4⟩:=zUa zs ls (feL z d l).2 (fun y hy=>hr y (by simp [hy])) (by simpa using hl) (by rw [zMY]; exact hd) h
   have hz:∀ (q:Nat) m f,ls[q]?=some m→f∈m→f ∉ l:=fun q m f hq hm hfl=>by
    have hq':q<zs.length:=by have:=(List.getElem?_eq_some_iff.1 hq).1; simp at hl; omega
    have h1:=((i1 q _ m (List.getElem?_eq_getElem hq') hq).1 f hm).2.2
    have hb:=zPu hrz (j1 f hfl).1
    have:=(j3 f.toNat).2 (.inr (by rw [zQx hb.1]; exact hfl))
    rw [h1] at this
    cases this
   refine ⟨fun p y m hy hm => ?_,fun p q a b f ha hb hfa hfb => ?_,fun g => ?_,fun m hm f hf => ?_⟩
   ·cases p with
    | zero=>simp at hy hm; subst hy; subst hm; exact ⟨j1,j2⟩
    | succ p =>
     have h1:=i1 p y m (by simpa using hy) (by simpa using hm)
     refine ⟨fun f hf => ?_,h1.2⟩
     have h2:=h1.1 f hf
     refine ⟨h2.1,h2.2.1,?_⟩
     cases hq:d.getD f.toNat false with
     | false=>rfl
     | true=>rw [(j3 f.toNat).2 (.inl hq)] at h2; cases h2.2.2
   ·cases p with
    | zero =>
     simp at ha
     subst ha
     cases q with
     | zero=>rfl
     | succ q=>exact absurd hfa (hz q b f (by simpa using hb) hfb)
    | succ p =>
     cases q with
     | zero=>simp at hb; subst hb; exact absurd hfb (hz p a f (by simpa using ha) hfa)
     | succ q=>rw [i2 p q a b f (by simpa using ha) (by simpa using hb) hfa hfb]
   ·rw [i3 g,j3 g]
    constructor
    ·rintro ((h | h) | ⟨m,h1,h2⟩)
     ·exact .inl h
     ·exact .inr ⟨l,by simp,h⟩
     ·exact .inr ⟨m,by simp [h1],h2⟩
    ·rintro (h | ⟨m,h1,h2⟩)
     ·exact .inl (.inl h)
     ·rcases List.mem_cons.1 h1 with rfl | h1
      ·exact .inl (.inr h2)
      ·exact .inr ⟨m,h1,h2⟩
   ·rcases List.mem_cons.1 hm with rfl | hm
    ·exact (zPu hrz (j1 f hf).1).1
    ·exact i4 m hm f hf
  ·rw [if_neg h0] at h; exact absurd h h0
theorem zUm {zs:List zi} (hr:∀ z,z∈zs→ranges z=true):∀ (cs:List zL) (d:List Bool),(∀ c,c∈cs→c.lists.length=zs.length)→d.length=256→feA zs d cs=0 →
  (∀ c,c∈cs → ∀ (p:Nat) z l,zs[p]?=some z→c.lists[p]?=some l→(∀ f,f∈l→inZ z f=true∧zLR z f=false)∧l.Nodup) ∧
  (∀ c,c∈cs → ∀ (p q:Nat) l m f,c.lists[p]?=some l→c.lists[q]?=some m→f∈l→f∈m→p=q) ∧
  (∀ (i j:Nat) x y l m f,cs[i]?=some x→cs[j]?=some y→l∈x.lists→m∈y.lists→f∈l→f∈m→i=j)∧(∀ c,c∈cs → ∀ l,l∈c.lists → ∀ f,f∈l→d.getD f.toNat false=false)
 | [],_,_,_,_=>⟨(fun c hc=>by cases hc),(fun c hc=>by cases hc),(fun i j x y l m f h=>by simp at h),(fun c hc=>by cases hc)⟩
 | c::cs,d,hl,hd,h=>by
  unfold feA at h
  by_cases h0:(feC d zs c.lists).1=0
  ·rw [if_pos h0] at h
   have hcl:=hl c (by simp)
   obtain ⟨j1,j2,j3,j4⟩:=zUa zs c.lists d hr hcl hd h0
   obtain ⟨i1,i2,i3,i4⟩:=zUm hr cs (feC d zs c.lists).2 (fun x hx=>hl x (by simp [hx])) (by rw [zPJ]; exact hd) h
   have hz:∀ y m f,y∈cs→m∈y.lists→f∈m → ∀ l,l∈c.lists→f ∉ l:=fun y m f hy hm hf l hl hfl=>by
    have h1:=i4 y hy m hm f hf
    have:=(j3 f.toNat).2 (.inr ⟨l,hl,by rw [zQx (j4 l hl f hfl)]; exact hfl⟩)
    rw [h1] at this
    cases this
   refine ⟨fun x hx => ?_,fun x hx => ?_,fun i j x y l m f hi hj hlx hmy hfl hfm => ?_,fun x hx l hlx f hf => ?_⟩
   ·rcases List.mem_cons.1 hx with rfl | hx
    ·exact fun p z l h1 h2=>⟨fun f hf=>⟨((j1 p z l h1 h2).1 f hf).1,((j1 p z l h1 h2).1 f hf).2.1⟩,(j1 p z l h1 h2).2⟩
    ·exact i1 x hx
   ·rcases List.mem_cons.1 hx with rfl | hx
    ·exact j2
    ·exact i2 x hx
   ·cases i with
    | zero =>
     simp at hi
     subst hi
     cases j with
     | zero=>rfl
     | succ j=>exact absurd hfl (hz y m f (List.mem_of_getElem? (by simpa using hj)) hmy hfm l hlx)
    | succ i =>
     cases j with
     | zero=>simp at hj; subst hj; exact absurd hfm (hz x l f (List.mem_of_getElem? (by simpa using hi)) hlx hfl m hmy)
     | succ j=>rw [i3 i j x y l m f (by simpa using hi) (by simpa using hj) hlx hmy hfl hfm]
   ·rcases List.mem_cons.1 hx with rfl | hx
    ·obtain ⟨p,hp,e⟩:=List.getElem_of_mem hlx
     have hpz:p<zs.length:=by omega
     exact ((j1 p _ l (List.getElem?_eq_getElem hpz) (by rw [List.getElem?_eq_getElem hp,e])).1 f hf).2.2
    ·cases hq:d.getD f.toNat false with
     | false=>rfl
     | true =>
      have:=i4 x hx l hlx f hf
      rw [(j3 f.toNat).2 (.inl hq)] at this
      cases this
  ·rw [if_neg h0] at h; exact absurd h h0
theorem zUK:∀ {cs:List zL} {h zn:Int},cE h zn cs=0 → ∀ c,c∈cs → ∀ l,l∈c.lists→(l.length:Int)≤h
 | [],_,_,_,_,hc=>absurd hc (by simp)
 | c::cs,h,zn,he,x,hx=>by
  unfold cE at he
  by_cases h0:pcR c zn=0
  ·rw [if_pos h0] at he
   split at he
   ·cases he
   ·rename_i hany
    rcases List.mem_cons.1 hx with rfl | hx
    ·intro l hl
     refine Int.not_lt.1 fun hlt=>hany ?_
     exact List.any_eq_true.2 ⟨l,hl,decide_eq_true hlt⟩
    ·exact zUK he x hx
  ·rw [if_neg h0] at he; exact absurd he h0
theorem zTE {z:zi} {f:Int} (hr:ranges z=true):inZ z f=true↔inside z f 0=true:=by
 have hb:=zBV hr
 rw [zBX hr,pw0]
 unfold inZ
 simp only [Bool.and_eq_true,decide_eq_true_eq]
 omega
theorem zTf {z:zi} {f:Int} (hz:Zk z) (h:zEd z=0) (hi:inside z f 0=true):zLR z f=true↔cov z f:=by
 obtain ⟨hr,hin,_⟩:=zGc hz h
 have hb:=zAZ hr hi
 have hc:=zLi hz hr hin f.toNat
 rw [zQx hb.1] at hc
 unfold zLR
 rw [dt h,hi]
 simp only [Bool.and_self,Bool.true_and,decide_eq_true_eq]
 exact hc
def Lf (a:zJ) (c p:Nat):List Int:=at_ (at_ a.caches (c:Int)).lists (p:Int)
def Zn (a:zJ) (p:Nat):zi:=at_ a.zones (p:Int)
structure Wa (a:zJ):Prop where
 n:1≤a.nodes.length∧a.nodes.length≤4
 nr:∀ v,v∈a.nodes→0≤v∧v<4
 se:zE 0 a.zones=0
 bh:1≤a.batch∧a.batch≤a.high∧a.high≤64
 zn:1≤a.zones.length∧a.zones.length≤6
 cn:a.caches.length=a.nodes.length
 zs:∀ p,p<a.zones.length→OkZ (Zn a p)
 ap:∀ p q f,p<a.zones.length→q<a.zones.length→inside (Zn a p) f 0=true→inside (Zn a q) f 0=true→p=q
 cl:∀ c,c<a.caches.length→(at_ a.caches (c:Int)).lists.length=a.zones.length
 own:∀ c p f,c<a.caches.length→f∈Lf a c p→inside (Zn a p) f 0=true ∧ ¬ cov (Zn a p) f
 nd:∀ c p,c<a.caches.length→(Lf a c p).Nodup
 dis:∀ c d p q f,c<a.caches.length→d<a.caches.length→f∈Lf a c p→f∈Lf a d q→c=d∧p=q
 lim:∀ c p,c<a.caches.length→((Lf a c p).length:Int)≤a.high
section
variable {a:zJ}
theorem Wa.pz (h:Wa a) {c p:Nat} {f:Int} (hc:c<a.caches.length) (hf:f∈Lf a c p):p<a.zones.length:=by
 rw [← h.cl c hc]
 exact zUe hf
theorem Wa.pc (h:Wa a) {c:Nat} (hc:c<a.caches.length):Pc (at_ a.caches (c:Int)) a.zones.length:=by
 have hl:=h.cl c hc
 have hlf:∀ l,l∈(at_ a.caches (c:Int)).lists → ∃ p,p<a.zones.length∧l=Lf a c p:=fun l hm=>by
  obtain ⟨p,hp,e⟩:=List.getElem_of_mem hm
  exact ⟨p,by omega,by unfold Lf; rw [zHb hp,e]⟩
 refine ⟨h.zn,hl,fun l hm => ?_,fun l hm f hf => ?_,fun l hm => ?_,fun p q f hp hq h1 h2=>(h.dis c c p q f hc hc h1 h2).2⟩
 ·obtain ⟨p,hp,rfl⟩:=hlf l hm
  have:=h.lim c p hc
  have:=h.bh
  omega
 ·obtain ⟨p,hp,rfl⟩:=hlf l hm
  have hb:=(h.zs p hp).bds (h.own c p f hc hf).1
  rw [pw0] at hb
  unfold zFG
  simp
  omega
 ·obtain ⟨p,hp,rfl⟩:=hlf l hm
  exact h.nd c p hc
theorem zXp (ha:Al a) (h:zT3 a=0):Wa a:=by
 have hv:=zXa ha h
 have hzc:∀ z,z∈a.zones→zEd z=0:=fun z hz=>hv.chk hz
 have hzr:∀ z,z∈a.zones→ranges z=true:=fun z hz=>zC9 (hzc z hz)
 unfold zT3 at h
 split at h
 ·rename_i hf
  split at h
  ·rename_i hz
   split at h
   ·rename_i hl
    split at h
    ·rename_i hc
     obtain ⟨q1,q2,q3,_⟩:=zUm hzr a.caches zEs hv.len zJB h
     have hap:=(zSh hz).2
     have hnr:∀ v,v∈a.nodes→0≤v∧v<4:=fun v hv=>by
      unfold zTS at hf
      simp only [Bool.and_eq_true,Bool.not_eq_true'] at hf
      have:=List.any_eq_false.1 hf.2 v hv
      unfold zMn at this
      simp at this
      omega
     unfold zTS zJh at hf
     simp only [Bool.and_eq_true,Bool.not_eq_true',Bool.or_eq_false_iff,decide_eq_false_iff_not] at hf
     have hcl:∀ c,c<a.caches.length→(at_ a.caches (c:Int)).lists.length=a.zones.length:=fun c hc=>hv.len _ (zA9 hc)
     have hpz:∀ c p f,c<a.caches.length→f∈Lf a c p→p<a.zones.length:=fun c p f hc hf=>by rw [← hcl c hc]; exact zUe hf
     have hnd:∀ c p,c<a.caches.length→p<a.zones.length→(∀ f,f∈Lf a c p→inZ (Zn a p) f=true∧zLR (Zn a p) f=false)∧(Lf a c p).Nodup:=fun c p hc hp=>q1 _ (zA9 hc) p _ _ (zUr hp) (zUr (by rw [hcl c hc]; exact hp))
     refine ⟨by omega,hnr,hz,by omega,by omega,by omega,fun p hp => ?_,fun p q f hp hq h1 h2 => ?_,hcl,fun c p f hc hf => ?_,fun c p hc => ?_,fun c d p q f hc hd h1 h2 => ?_,fun c p hcc => ?_⟩
     ·exact (zKV (ha.zk _ (zA9 hp)).1 (hzc _ (zA9 hp))).1
     ·have e1:=(zTE (hzr _ (zA9 hp))).2 h1
      have e2:=(zTE (hzr _ (zA9 hq))).2 h2
      have g1:=(zRE f a.zones 0 p hp hap).2 (by rw [← zHb hp]; exact e1)
      have g2:=(zRE f a.zones 0 q hq hap).2 (by rw [← zHb hq]; exact e2)
      omega
     ·have hp:=hpz c p f hc hf
      have h1:=(hnd c p hc hp).1 f hf
      have hzk:=(ha.zk _ (zA9 hp)).1
      have hi:=(zTE (hzr _ (zA9 hp))).1 h1.1
      refine ⟨hi,fun hcv => ?_⟩
      have:=(zTf hzk (hzc _ (zA9 hp)) hi).2 hcv
      rw [show zLR (at_ a.zones (p:Int)) f=false from h1.2] at this
      cases this
     ·by_cases hp:p<a.zones.length
      ·exact (hnd c p hc hp).2
      ·unfold Lf
       rw [zS2 (by rw [hcl c hc]; omega)]
       exact List.nodup_nil
     ·have hp:=hpz c p f hc h1
      have hq:=hpz d q f hd h2
      have hpl:p<(at_ a.caches (c:Int)).lists.length:=by rw [hcl c hc]; exact hp
      have hql:q<(at_ a.caches (d:Int)).lists.length:=by rw [hcl d hd]; exact hq
      have e:c=d:=q3 c d _ _ _ _ f (zUr hc) (zUr hd) (zA9 hpl) (zA9 hql) h1 h2
      subst e
      exact ⟨rfl,q2 _ (zA9 hc) p q _ _ f (zUr hpl) (zUr hql) h1 h2⟩
     ·by_cases hp:p<a.zones.length
      ·exact zUK hc _ (zA9 hcc) _ (zA9 (by rw [hcl c hcc]; exact hp))
      ·unfold Lf
       rw [zS2 (by rw [hcl c hcc]; omega)]
       show ((0:Nat):Int)≤_
       omega
    ·rename_i hc; exact absurd h hc
   ·cases h
  ·rename_i hz; exact absurd h hz
 ·cases h
end
end Go.Proofs.YtplkliakhdkpcaaGreat
namespace Go.Proofs.YtplkliakhdkpcaaGreat
open Go Go.RowKit Go.Wk Go.Am
theorem zPn {α:Type} [Inhabited α] {l:List α} {i j:Nat} {x:α} (h:i<l.length):at_ (l.set i x) (j:Int)=if j=i then x else at_ l (j:Int):=by
 unfold at_
 rw [Int.toNat_natCast,List.getD_eq_getElem?_getD,List.getElem?_set]
 by_cases hj:i=j
 ·rw [if_pos hj,if_pos h,if_pos hj.symm]
  rfl
 ·rw [if_neg hj,if_neg (fun e=>hj e.symm),List.getD_eq_getElem?_getD]
theorem zUg {z:zi}:∀ (zs:List zi) (s:Int) (p:Nat),zE s zs=0→p<zs.length→zEd z=0→zGw z (at_ zs (p:Int))→zE s (zs.set p z)=0
 | [],_,_,_,hp,_,_=>by simp at hp
 | y::zs,s,p,h,hp,hc,h5=>by
  unfold zE at h
  by_cases hy:zEd y=0
  ·rw [if_pos hy] at h
   by_cases hs:y.start=s
   ·rw [if_pos hs] at h
    cases p with
    | zero =>
     have h5':zGw z y:=h5
     show zE s (z::zs)=0
     unfold zE
     rw [if_pos hc,if_pos (h5'.2.2.1.trans hs),h5'.2.2.2.1]
     exact h
    | succ p =>
     show zE s (y::zs.set p z)=0
     unfold zE
     rw [if_pos hy,if_pos hs]
     refine zUg zs _ p h (by simpa using hp) hc ?_
     have e:at_ (y::zs) ((p+1:Nat):Int)=at_ zs (p:Int):=rfl
     rw [e] at h5
     exact h5
   ·rw [if_neg hs] at h; cases h
  ·rw [if_neg hy] at h; exact absurd h hy
def upd (a:zJ) (c p:Nat) (l:List Int) (z:zi):zJ:=⟨a.nodes,a.batch,a.high,a.zones.set p z,a.caches.set c ⟨(at_ a.caches (c:Int)).lists.set p l⟩⟩
section
variable {a:zJ} {c p:Nat} {l:List Int} {z:zi}
theorem zSu (hp:p<a.zones.length) (q:Nat):Zn (upd a c p l z) q=if q=p then z else Zn a q:=zPn hp
theorem zUT (h:Wa a) (hc:c<a.caches.length) (hp:p<a.zones.length) (d q:Nat):Lf (upd a c p l z) d q=if d=c∧q=p then l else Lf a d q:=by
 unfold Lf upd
 rw [zPn hc]
 by_cases hd:d=c
 ·subst hd
  rw [if_pos rfl,zPn (by rw [h.cl d hc]; exact hp)]
  by_cases hq:q=p
  ·rw [if_pos hq,if_pos ⟨rfl,hq⟩]
  ·rw [if_neg hq,if_neg (fun e=>hq e.2)]
 ·rw [if_neg hd,if_neg (fun e=>hd e.1)]
theorem zUf (h:Wa a) (hc:c<a.caches.length) (hp:p<a.zones.length) (hz:OkZ z) (h5:zGw z (Zn a p)) (hl:(l.length:Int)≤a.high) (hn:l.Nodup)
  (hi:∀ f,f∈l→inside (Zn a p) f 0=true ∧ ¬ cov z f) (hd:∀ d f,d<a.caches.length→d≠c→f∈Lf a d p→f ∉ l ∧ ¬ cov z f):Wa (upd a c p l z):=by
 have hZ:=fun q=>zSu (c:=c) (l:=l) (z:=z) hp q
 have hL:=fun d q=>zUT (l:=l) (z:=z) h hc hp d q
 have hzl:(upd a c p l z).zones.length=a.zones.length:=List.length_set
 have hcl:(upd a c p l z).caches.length=a.caches.length:=List.length_set
 have hin:∀ q f,inside (Zn (upd a c p l z) q) f 0=inside (Zn a q) f 0:=fun q f=>by
  rw [hZ q]
  by_cases hq:q=p
  ·rw [if_pos hq,hq,h5.inside]
  ·rw [if_neg hq]
 have hq':∀ d q f,d<a.caches.length→f∈Lf a d q→f∈l→q=p:=fun d q f hd1 hf hfl=>h.ap q p f (h.pz hd1 hf) hp (h.own d q f hd1 hf).1 (hi f hfl).1
 refine ⟨h.n,h.nr,zUg a.zones 0 p h.se hp (zFl hz) h5,h.bh,by rw [hzl]; exact h.zn,by rw [hcl]; exact h.cn,fun q hq => ?_,fun q r f hq hr h1 h2 => ?_,fun d hd1 => ?_,fun d q f hd1 hf => ?_,fun d q hd1 => ?_,fun d e q r f hd1 he h1 h2 => ?_,fun d q hd1 => ?_⟩
 ·rw [hZ q]
  by_cases e:q=p
  ·rw [if_pos e]; exact hz
  ·rw [if_neg e]; exact h.zs q (by rwa [hzl] at hq)
 ·rw [hin] at h1 h2
  exact h.ap q r f (by rwa [hzl] at hq) (by rwa [hzl] at hr) h1 h2
 ·rw [hcl] at hd1
  rw [hzl]
  show (at_ (a.caches.set c _) (d:Int)).lists.length=_
  rw [zPn hc]
  by_cases e:d=c
  ·rw [if_pos e]
   show ((at_ a.caches (c:Int)).lists.set p l).length=_
   rw [List.length_set,h.cl c hc]
  ·rw [if_neg e]; exact h.cl d hd1
 ·rw [hcl] at hd1
  rw [hin,hZ q]
  rw [hL d q] at hf
  by_cases e:d=c∧q=p
  ·rw [if_pos e] at hf
   rw [if_pos e.2,e.2]
   exact hi f hf
  ·rw [if_neg e] at hf
   refine ⟨(h.own d q f hd1 hf).1,?_⟩
   by_cases hqp:q=p
   ·subst hqp
    rw [if_pos rfl]
    exact (hd d f hd1 (fun x=>e ⟨x,rfl⟩) hf).2
   ·rw [if_neg hqp]; exact (h.own d q f hd1 hf).2
 ·rw [hcl] at hd1
  rw [hL d q]
  by_cases e:d=c∧q=p
  ·rw [if_pos e]; exact hn
  ·rw [if_neg e]; exact h.nd d q hd1
 ·rw [hcl] at hd1 he
  rw [hL d q] at h1
  rw [hL e r] at h2
  by_cases e1:d=c∧q=p
  ·rw [if_pos e1] at h1
   by_cases e2:e=c∧r=p
   ·exact ⟨e1.1.trans e2.1.symm,e1.2.trans e2.2.symm⟩
   ·rw [if_neg e2] at h2
    have hr:=hq' e r f he h2 h1
    subst hr
    exact absurd h1 (hd e f he (fun x=>e2 ⟨x,rfl⟩) h2).1
  ·rw [if_neg e1] at h1
   by_cases e2:e=c∧r=p
   ·rw [if_pos e2] at h2
    have hr:=hq' d q f hd1 h1 h2
    subst hr
    exact absurd h2 (hd d f hd1 (fun x=>e1 ⟨x,rfl⟩) h1).1
   ·rw [if_neg e2] at h2
    exact h.dis d e q r f hd1 he h1 h2
 ·rw [hcl] at hd1
  rw [hL d q]
  by_cases e:d=c∧q=p
  ·rw [if_pos e]; exact hl
  ·rw [if_neg e]; exact h.lim d q hd1
theorem Wa.sm (h:Wa a):Sm a:=by
 refine ⟨by have:=h.n; omega,by have:=h.zn; omega,by have:=h.n; have:=h.cn; omega,fun z hz k => ?_,fun x hx => ?_⟩
 ·obtain ⟨q,hq,e⟩:=List.getElem_of_mem hz
  have:=(h.zs q hq).putI.len' k
  unfold Zn at this
  rw [zHb hq,e] at this
  unfold lst at this
  omega
 ·obtain ⟨d,hd,e⟩:=List.getElem_of_mem hx
  have h1:=h.cl d hd
  have h2:=(h.pc hd).bd
  rw [zHb hd,e] at h1 h2
  exact ⟨by have:=h.zn; omega,fun l hl=>by have:=h2 l hl; omega⟩
theorem zWj {f:Int} (h:OkZ z) (hi:inside z f 0=true) (hn:¬ cov z f):zI0 z f 0=some (zN9 4 z f 0,0) :=
 zTk (k:=0) h.zk h.inI (zFl h) (by omega) hi (fun g g1 g2=>by
  rw [pw0] at g2
  have:g=f:=by omega
  rw [this]; exact hn)
theorem zW0 {f:Int} (h:OkZ z) (hi:inside z f 0=true) (hn:¬ cov z f):zI2 z f 0=some (zN9 4 z f 0,0) :=
 zTl (k:=0) h.zk (zFl h) (by omega) hi (fun g g1 g2=>by
  rw [pw0] at g2
  have:g=f:=by omega
  rw [this]; exact hn)
theorem zSm {fs:List Int} (hfs:fs.length≤1000):∀ (m n i:Nat) (zs:List zi),i+m=fs.length→m<n→p<zs.length→OkZ (at_ zs (p:Int))→(∀ f,f∈fs.drop i→inside (at_ zs (p:Int)) f 0=true ∧ ¬ cov (at_ zs (p:Int)) f)→(fs.drop i).Nodup →
  zDD a (p:Int) fs n (i:Int) zs=some ⟨a.nodes,a.batch,a.high,zs.set p (zMH (at_ zs (p:Int)) (fs.drop i)),a.caches⟩ ∧
  zHU a (p:Int) fs n (i:Int) zs=some ⟨a.nodes,a.batch,a.high,zs.set p (zMH (at_ zs (p:Int)) (fs.drop i)),a.caches⟩:=by
 intro m
 induction m with
 | zero =>
  intro n i zs h1 h2 hp _ _ _
  obtain ⟨n,rfl⟩:=ex1 ‹_<n›
  rw [List.drop_eq_nil_of_le (by omega)]
  show zCY _ _ _ _ _ _=some (⟨_,_,_,zs.set p (at_ zs (p:Int)),_⟩:zJ)∧zEw _ _ _ _ _ _=some (⟨_,_,_,zs.set p (at_ zs (p:Int)),_⟩:zJ)
  unfold zCY zEw
  rw [z5 (df (by omega)),z5 (df (by omega)),zOF hp]
  exact ⟨rfl,rfl⟩
 | succ m ih =>
  intro n i zs h1 h2 hp ho hf hn
  obtain ⟨n,rfl⟩:=ex1 ‹_<n›
  have hi:i<fs.length:=by omega
  rw [zEY hi] at hf hn ⊢
  have h0:=hf (at_ fs (i:Int)) (by simp)
  have hnd:=List.nodup_cons.1 hn
  obtain ⟨q1,q2,q3⟩:=OkZ.put 4 (k:=0) (by omega) ho h0.1 (fun g g1 g2=>by
   rw [pw0] at g2
   have:g=at_ fs (i:Int):=by omega
   rw [this]; exact h0.2)
  have e1:at_ (zs.set p (zN9 4 (at_ zs (p:Int)) (at_ fs (i:Int)) 0)) (p:Int)=zN9 4 (at_ zs (p:Int)) (at_ fs (i:Int)) 0:=by rw [zPn hp,if_pos rfl]
  have hr:=ih n (i+1) (zs.set p (zN9 4 (at_ zs (p:Int)) (at_ fs (i:Int)) 0)) (by omega) (by omega) (by rw [List.length_set]; exact hp) (by rw [e1]; exact q1) (fun g hg=>by
   rw [e1,q3.inside]
   refine ⟨(hf g (by simp [hg])).1,fun hc => ?_⟩
   rcases (q2 g).1 hc with hc | hc
   ·exact (hf g (by simp [hg])).2 hc
   ·rw [pw0] at hc
    have:g=at_ fs (i:Int):=by omega
    exact hnd.1 (this▸hg)) hnd.2
  rw [e1,List.set_set] at hr
  show zCY _ _ _ _ _ _=some (⟨_,_,_,zs.set p (zMH (zN9 4 (at_ zs (p:Int)) (at_ fs (i:Int)) 0) (fs.drop (i+1))),_⟩:zJ)∧zEw _ _ _ _ _ _=some (⟨_,_,_,zs.set p (zMH (zN9 4 (at_ zs (p:Int)) (at_ fs (i:Int)) 0) (fs.drop (i+1))),_⟩:zJ)
  unfold zCY zEw zEc
  rw [zAG (dt (by omega)),zAG (dt (by omega)),zZ (zAI hi),zZ (zAI hp),zZ (zAI hp),zZ (zAI hi),zWj ho h0.1 h0.2,zW0 ho h0.1 h0.2,zB8,zB8,zAG (dt rfl),zZ (z8 (by omega)),zZ (z8 (by omega))]
  exact hr
theorem zVp {fs:List Int} (hfs:fs.length≤1000) (hp:p<a.zones.length) (ho:OkZ (Zn a p)) (hf:∀ f,f∈fs→inside (Zn a p) f 0=true ∧ ¬ cov (Zn a p) f) (hn:fs.Nodup) :
  zE8 a (p:Int) fs=some ⟨a.nodes,a.batch,a.high,a.zones.set p (zMH (Zn a p) fs),a.caches⟩∧zJ5 a (p:Int) fs=some ⟨a.nodes,a.batch,a.high,a.zones.set p (zMH (Zn a p) fs),a.caches⟩ :=
 zSm (a:=a) hfs fs.length zAD 0 a.zones (by omega) (by unfold zAD; omega) hp ho hf hn
end
end Go.Proofs.YtplkliakhdkpcaaGreat
namespace Go.Proofs.YtplkliakhdkpcaaGreat
open Go Go.RowKit Go.Wk Go.Am
def zMG (z:zi) (f:Int) (k:Nat):Nat→zi
 | 0=>z
 | m+1=>zMG (zPs z (f+2 ^ (k+m)) (k+m)) f k m
structure zWU (z:zi) (f:Int) (q:Nat):Prop where
 al:f%2 ^ q=0
 lo:z.start≤f
 hi:f+2 ^ q≤z.start+z.count
 no:∀ g,f≤g→g<f+2 ^ q → ¬ cov z g
section
variable {z:zi} {f:Int} {k j:Nat}
theorem zOM {q:Nat} (ho:OkZ z) (hq:q<4) (h:zWU z f (q+1)):OkZ (zPs z (f+2 ^ q) q)∧(∀ g,cov (zPs z (f+2 ^ q) q) g↔cov z g∨(f+2 ^ q≤g∧g<f+2 ^ (q+1)))∧zGw (zPs z (f+2 ^ q) q) z∧zWU (zPs z (f+2 ^ q) q) f q:=by
 obtain ⟨h1,h2,h3,h4⟩:=h
 have hp:=zIp q
 have hs:=zLj q
 have hr:=zBV ho.ranges
 obtain ⟨a1,a2⟩:=zSI h1
 have hin:inside z (f+2 ^ q) q=true:=(zBX ho.ranges).2 ⟨by omega,a2,by omega,by omega⟩
 have hfn:f ∉ lst z q:=fun hm=>h4 f (by omega) (by omega) ⟨q,f,hm,by omega,by omega⟩
 have hj:zMD z (f+2 ^ q) q=false:=by
  have hb:bud (f+2 ^ q) q=f:=by
   rcases zNP hq (show 0≤f+2 ^ q by omega) (by omega) a2 with ⟨e,_⟩ | ⟨_,e⟩
   ·exfalso
    rcases (show q=0∨q=1∨q=2∨q=3 by omega) with rfl | rfl | rfl | rfl
    ·have e':(f+1)%2=0:=e
     have h':f%2=0:=h1
     omega
    ·have e':(f+2)%4=0:=e
     have h':f%4=0:=h1
     omega
    ·have e':(f+4)%8=0:=e
     have h':f%8=0:=h1
     omega
    ·have e':(f+8)%16=0:=e
     have h':f%16=0:=h1
     omega
   ·rw [e]; omega
  unfold zMD
  rw [hb,df hfn]
  rfl
 obtain ⟨q1,q2,q3⟩:=ho.insert (by omega) hin (fun g g1 g2=>h4 g (by omega) (by omega)) (fun _=>hj)
 refine ⟨q1,fun g => ?_,q3,a1,?_,?_,fun g g1 g2 hc => ?_⟩
 ·rw [q2 g]
  constructor
  ·rintro (h | h)
   ·exact .inl h
   ·exact .inr (by omega)
  ·rintro (h | h)
   ·exact .inl h
   ·exact .inr (by omega)
 ·rw [q3.2.2.1]; exact h2
 ·rw [q3.2.2.1,q3.2.2.2.1]; omega
 ·rcases (q2 g).1 hc with h | h
  ·exact h4 g g1 (by omega) h
  ·omega
theorem zQr (k:Nat):∀ m:Nat,(2:Int) ^ k≤2 ^ (k+m)
 | 0=>Int.le_refl _
 | m+1=>by
  have h1:=zQr k m
  have h2:=zLj (k+m)
  have h3:=zIp (k+m)
  rw [show k+(m+1)=k+m+1 by omega]
  omega
theorem zQs:∀ (m:Nat) {z:zi},k+m≤4→OkZ z→zWU z f (k+m)→OkZ (zMG z f k m)∧(∀ g,cov (zMG z f k m) g↔cov z g∨(f+2 ^ k≤g∧g<f+2 ^ (k+m)))∧zGw (zMG z f k m) z
 | 0,z,_,ho,_=>⟨ho,fun g=>⟨.inl,fun h=>h.elim id (fun h=>by rw [Nat.add_zero] at h; omega)⟩,⟨rfl,rfl,rfl,rfl,rfl⟩⟩
 | m+1,z,hk,ho,h=>by
  obtain ⟨q1,q2,q3,q4⟩:=zOM ho (q:=k+m) (by omega) h
  obtain ⟨r1,r2,r3⟩:=zQs m (by omega) q1 q4
  refine ⟨r1,fun g => ?_,r3.trans q3⟩
  show cov (zMG (zPs z (f+2 ^ (k+m)) (k+m)) f k m) g↔_
  have hle:=zQr k m
  have hs:=zLj (k+m)
  have hp:=zIp (k+m)
  rw [r2 g,q2 g,show k+(m+1)=k+m+1 by omega]
  constructor
  ·rintro ((h | h) | h)
   ·exact .inl h
   ·exact .inr (by omega)
   ·exact .inr (by omega)
  ·rintro (h | h)
   ·exact .inl (.inl h)
   ·by_cases hg:f+2 ^ (k+m)≤g
    ·exact .inl (.inr (by omega))
    ·exact .inr (by omega)
theorem zVS (hj:j≤4) (hf:at_ (lst z j) (0:Int)=f):∀ (m n:Nat) (y:zi),k+m≤j→m<n→OkZ y→zGw y z→zWU y f (k+m)→zFC (k:Int) (j:Int) z n ((k+m:Nat):Int) y.free=some (zMG y f k m,f,0):=by
 intro m
 induction m with
 | zero =>
  intro n y h1 h2 ho h5 hh
  obtain ⟨n,rfl⟩:=ex1 ‹_<n›
  show zDm _ _ _ _ _ _=_
  unfold zDm zHz
  rw [z5 (df (by omega)), ← h5.1, ← h5.2.1, ← h5.2.2.1, ← h5.2.2.2.1, ← h5.2.2.2.2]
  show some (_,at_ (lst z j) (0:Int),0)=_
  rw [hf]
  rfl
 | succ m ih =>
  intro n y h1 h2 ho h5 hh
  obtain ⟨n,rfl⟩:=ex1 ‹_<n›
  obtain ⟨q1,q2,q3,q4⟩:=zOM ho (q:=k+m) (by omega) hh
  obtain ⟨e1,p1,p2⟩:=zJW (k:=k+m) (by omega)
  have hb:=zBV ho.ranges
  have hlo:=hh.lo
  have hhi:=hh.hi
  have hpp:=zIp (k+(m+1))
  have hP:=ho.putI
  have h5l:=ho.len
  have hi2:((k+(m+1):Nat):Int) - 1=((k+m:Nat):Int):=by omega
  have hfe:at_ (z.free.getD (j:Int).toNat []) (0:Int)=f:=hf
  have hl:y.free.getD ((k+m:Nat):Int).toNat []=lst y (k+m):=rfl
  have hok:zP2 (lst y (k+m)) (lb (lst y (k+m)) (f+2 ^ (k+m)):Int)=true:=by
   have h1:=zU0 (lst y (k+m)) (f+2 ^ (k+m))
   have h2:=hP.len' (k+m)
   unfold zP2
   rw [dt (by omega),dt (by omega),dt (by omega)]
   rfl
  show zDm _ _ _ _ _ _=_
  unfold zDm
  rw [zAG (dt (by omega)),zZ (z8 (by omega)),hi2,zZ (zM7 (by omega)),e1,hfe,zZ (z8 (by omega)),zZ (z8 (by omega)),zZ (zAI (by omega)),zZ (dt (by omega)),hl,zS5 (hP.srt' _) (by have:=hP.len' (k+m); omega),zB8,zZ hok]
  show zFC (k:Int) (j:Int) z n ((k+m:Nat):Int) (zEN 5 [] y.free (k+m) (zSG (lst y (k+m)) (f+2 ^ (k+m))))=_
  rw [zKJ h5l (by omega)]
  exact ih n (zPs y (f+2 ^ (k+m)) (k+m)) (by omega) (by omega) q1 (q3.trans h5) q4
def zRX (z:zi):Nat→Nat→Option Nat
 | _,0=>none
 | i,m+1=>if lst z i=[] then zRX z (i+1) m else some i
theorem zPw:∀ {m i j:Nat},zRX z i m=some j→i≤j∧j<i+m∧lst z j≠[] ∧ ∀ q,i≤q→q<j→lst z q=[]
 | 0,_,_,h=>by cases h
 | m+1,i,j,h=>by
  unfold zRX at h
  by_cases h0:lst z i=[]
  ·rw [if_pos h0] at h
   obtain ⟨h1,h2,h3,h4⟩:=zPw h
   refine ⟨by omega,by omega,h3,fun q q1 q2 => ?_⟩
   by_cases e:q=i
   ·rw [e]; exact h0
   ·exact h4 q (by omega) q2
  ·rw [if_neg h0] at h
   cases h
   exact ⟨Nat.le_refl _,by omega,h0,fun q q1 q2=>by omega⟩
def zF4 (z:zi) (k:Nat):zi×Int×Int:=match zRX z k (5 - k) with
 | none=>(⟨0,0,0,0,0,List.replicate 5 []⟩,0,16)
 | some j=>(zMG (zNI z (at_ (lst z j) (0:Int)) j) (at_ (lst z j) (0:Int)) k (j - k),at_ (lst z j) (0:Int),0)
theorem zXR {l:List Int} (h:l≠[]):∃ x r,l=x::r∧at_ l (0:Int)=x:=by
 cases l with
 | nil=>exact absurd rfl h
 | cons x r=>exact ⟨x,r,rfl,rfl⟩
theorem zXP (ho:OkZ z) (h:lst z j≠[]):zNI z (at_ (lst z j) (0:Int)) j=zR9 z j ((lst z j).drop 1):=by
 obtain ⟨x,r,e1,e2⟩:=zXR h
 have hs:=ho.srt j
 unfold zNI
 rw [e2]
 rw [e1] at hs ⊢
 rw [zQL (fun y hy=>by
  rcases List.mem_cons.1 hy with rfl | hy
  ·exact Int.le_refl _
  ·exact Int.le_of_lt ((List.pairwise_cons.1 hs).1 y hy))]
 rfl
theorem zRV (ho:OkZ z) (hj:j≤4) (h:f∈lst z j):OkZ (zNI z f j)∧(∀ g,cov (zNI z f j) g↔cov z g ∧ ¬ (f≤g∧g<f+2 ^ j))∧zGw (zNI z f j) z∧zWU (zNI z f j) f j:=by
 obtain ⟨q1,q2,q3⟩:=ho.del h
 have hb:=ho.bds (ho.ins j f h)
 refine ⟨q1,q2,q3,hb.2.2.2.2,?_,?_,fun g g1 g2 hc=>((q2 g).1 hc).2 ⟨g1,g2⟩⟩
 ·rw [q3.2.2.1]; exact hb.2.2.1
 ·rw [q3.2.2.1,q3.2.2.2.1]; exact hb.2.2.2.1
theorem zP7 (ho:OkZ z) (hj:zRX z k (5 - k)=some j):(zF4 z k).2.2=0∧OkZ (zF4 z k).1∧zGw (zF4 z k).1 z∧inside z (zF4 z k).2.1 k=true∧(∀ g,cov (zF4 z k).1 g↔cov z g ∧ ¬ ((zF4 z k).2.1≤g∧g<(zF4 z k).2.1+2 ^ k))∧(∀ g,(zF4 z k).2.1≤g→g<(zF4 z k).2.1+2 ^ k→cov z g):=by
 obtain ⟨h1,h2,h3,_⟩:=zPw hj
 unfold zF4
 rw [hj]
 dsimp only
 obtain ⟨x,r,e1,e2⟩:=zXR h3
 have hx:at_ (lst z j) (0:Int)∈lst z j:=by rw [e2,e1]; simp
 obtain ⟨q1,q2,q3,q4⟩:=zRV ho (by omega) hx
 have e:k+(j - k)=j:=by omega
 obtain ⟨r1,r2,r3⟩:=zQs (f:=at_ (lst z j) (0:Int)) (k:=k) (j - k) (by omega) q1 (by rw [e]; exact q4)
 have hpk:=zIp k
 have hle:=zQr k (j - k)
 rw [e] at hle
 have hb:=ho.bds (ho.ins j _ hx)
 have hcv:∀ g,at_ (lst z j) (0:Int)≤g→g<at_ (lst z j) (0:Int)+2 ^ j→cov z g:=fun g g1 g2=>⟨j,_,hx,g1,g2⟩
 refine ⟨rfl,r1,r3.trans q3,?_,fun g => ?_,fun g g1 g2=>hcv g g1 (by omega)⟩
 ·refine (zBX ho.ranges).2 ⟨hb.2.2.1,?_,?_,?_⟩
  ·have h9:=hb.2.2.2.2
   have h10:(2:Int) ^ j=2 ^ k*2 ^ (j - k):=by rw [← Int.pow_add,e]
   rw [h10] at h9
   exact Int.emod_eq_zero_of_dvd (Int.dvd_trans ⟨_,rfl⟩ (Int.dvd_of_emod_eq_zero h9))
  ·omega
  ·omega
 ·rw [r2 g,q2 g,e]
  constructor
  ·rintro (⟨h,h'⟩ | h)
   ·exact ⟨h,fun hh=>h' ⟨hh.1,by have:=hh.2; omega⟩⟩
   ·exact ⟨hcv g (by omega) h.2,fun hh=>by have:=hh.2; omega⟩
  ·rintro ⟨h,h'⟩
   by_cases hg:at_ (lst z j) (0:Int)≤g∧g<at_ (lst z j) (0:Int)+2 ^ j
   ·refine .inr ⟨?_,hg.2⟩
    by_cases hh:at_ (lst z j) (0:Int)+2 ^ k≤g
    ·exact hh
    ·exact absurd ⟨hg.1,by omega⟩ h'
   ·exact .inl ⟨h,hg⟩
theorem zU9 (ho:OkZ z) (hk:k≤4):∀ (m n i:Nat),i+m=5→m<n→k≤i→zGF z (k:Int) n (i:Int)=match zRX z i m with
  | none=>some (⟨0,0,0,0,0,List.replicate 5 []⟩,0,16)
  | some j=>some (zMG (zNI z (at_ (lst z j) (0:Int)) j) (at_ (lst z j) (0:Int)) k (j - k),at_ (lst z j) (0:Int),0):=by
 intro m
 induction m with
 | zero =>
  intro n i h1 h2 h3
  obtain ⟨n,rfl⟩:=ex1 ‹_<n›
  show zEC _ _ _ _=some (⟨0,0,0,0,0,List.replicate 5 []⟩,0,16)
  unfold zEC zGO
  rw [df (p:=(i:Int)≤4) (by omega),zZ (by rfl),z5 (by rfl),zAG (dt (by omega))]
 | succ m ih =>
  intro n i h1 h2 h3
  obtain ⟨n,rfl⟩:=ex1 ‹_<n›
  have hll:=ho.putI.len' i
  have hl:z.free.getD (i:Int).toNat []=lst z i:=rfl
  show zEC _ _ _ _=_
  unfold zEC zRX
  rw [hl,dt (p:=(i:Int)≤4) (by omega),zZ (zMv (zAI (by omega)))]
  by_cases h0:lst z i=[]
  ·rw [if_pos h0,zAG (by rw [h0]; rfl),zZ (z8 (by omega))]
   exact ih n (i+1) (by omega) (by omega) (by omega)
  ·obtain ⟨x,r,e1,e2⟩:=zXR h0
   have hlen:(lst z i).length=r.length+1:=by rw [e1]; rfl
   have hx:at_ (lst z i) (0:Int)∈lst z i:=by rw [e2,e1]; simp
   obtain ⟨q1,q2,q3,q4⟩:=zRV ho (by omega) hx
   have ecut:zIY (lst z i) 1 ((lst z i).length:Int)=(lst z i).drop 1:=by
    unfold zIY
    rw [Int.toNat_natCast,List.take_length]
    rfl
   rw [if_neg h0,z5 (by rw [df (by omega)]; rfl)]
   unfold zGO
   rw [z5 (df (by omega)),zUU ho.zk,zB8,hl,zZ (zAI (by omega)),zZ (dt (by omega)),zZ (zUB (by omega)),zZ (by unfold zM8; simp; omega),zZ (dt (by omega)),ecut,Int.toNat_natCast,zKJ ho.len (by omega)]
   have e:k+(i - k)=i:=by omega
   have:=zVS (z:=z) (f:=at_ (lst z i) (0:Int)) (k:=k) (j:=i) (by omega) rfl (i - k) zAD (zNI z (at_ (lst z i) (0:Int)) i) (by omega) (by unfold zAD; omega) q1 q3 (by rw [e]; exact q4)
   rw [e,zXP ho h0] at this
   show _=some (zMG (zNI z (at_ (lst z i) (0:Int)) i) (at_ (lst z i) (0:Int)) k (i - k),at_ (lst z i) (0:Int),0)
   rw [zXP ho h0]
   exact this
theorem zXI (ho:OkZ z) (hk:k≤4):zHr z (k:Int)=some (zF4 z k):=by
 unfold zHr zF4
 rw [zPz ho.zk ho.inI,zFl ho,zB8,dt rfl,Bool.not_true,z5 rfl,df (by omega),df (by omega),z5 (by rfl),zU9 ho hk (5 - k) zAD k (by omega) (by unfold zAD; omega) (Nat.le_refl _)]
 cases zRX z k (5 - k) <;> rfl
theorem zVG (ho:OkZ z) (hk:k≤4) (hj:zRX z k (5 - k)=some j):∀ (m n i:Nat) (s:List Int),(i:Int)+m=at_ (lst z j) (0:Int)+2 ^ k→m<n→at_ (lst z j) (0:Int)≤i→s.length=256 →
  (∀ g:Nat,s.getD g 0=if at_ (lst z j) (0:Int)≤(g:Int)∧(g:Int)<i then 0 else (zOp z).getD g 0)→zGT z (k:Int) (j:Int) n (i:Int) s=some (zF4 z k):=by
 obtain ⟨hr,hin,_⟩:=zGc ho.zk (zFl ho)
 obtain ⟨w1,w2,w3,w4,w5,w6⟩:=zP7 ho hj
 have ef:(zF4 z k).2.1=at_ (lst z j) (0:Int):=by unfold zF4; rw [hj]
 have er:zF4 z k=((zF4 z k).1,at_ (lst z j) (0:Int),0):=by rw [← ef, ← w1]
 have hb:=zAZ hr w4
 rw [ef] at w5 w6 hb
 obtain ⟨e,p1,p2⟩:=zJW (k:=k) (by omega)
 obtain ⟨_,h01⟩:=zKV ho.zk (zFl ho)
 have ell:at_ (z.free.getD (j:Int).toNat []) (0:Int)=at_ (lst z j) (0:Int):=rfl
 intro m
 induction m with
 | zero =>
  intro n i s h1 h2 h3 h4 h5
  obtain ⟨n,rfl⟩:=ex1 ‹_<n›
  have hw:=zSj (z:=z) (s:=s) h4 w2 w3 (fun g=>by
   rw [w5]
   constructor
   ·rintro ⟨⟨q,x,hx,x1,x2⟩,hg⟩
    have:=zAZ hr (ho.ins q x hx)
    obtain ⟨g,rfl⟩:=Int.eq_ofNat_of_zero_le (show 0≤g by omega)
    refine ⟨by omega,by omega,?_⟩
    rw [Int.toNat_natCast,h5,if_neg (fun hh=>hg ⟨hh.1,by omega⟩)]
    have:=(zLi ho.zk hr hin g).2 ⟨q,x,hx,x1,x2⟩
    omega
   ·rintro ⟨g1,g2,g3⟩
    have hrb:=zBV hr
    obtain ⟨q,rfl⟩:=Int.eq_ofNat_of_zero_le (show 0≤g by omega)
    rw [Int.toNat_natCast,h5] at g3
    split at g3
    ·exact absurd rfl g3
    ·rename_i hq
     refine ⟨?_,fun hh=>hq ⟨hh.1,by omega⟩⟩
     rcases h01 q with e0 | e0
     ·exact absurd e0 g3
     ·exact (zLi ho.zk hr hin q).1 (by omega))
  show zD7 _ _ _ _ _ _=_
  unfold zD7 zID
  rw [e,ell,zZ (dt (zGo (by omega) (by omega))),zZ (zM7 (by omega)),zZ (z8 (by omega)),zZ (z8 (by omega)),z5 (df (by omega)),hw,zB8,zB8, ← er]
 | succ m ih =>
  intro n i s h1 h2 h3 h4 h5
  obtain ⟨n,rfl⟩:=ex1 ‹_<n›
  have hil:i<s.length:=by omega
  show zD7 _ _ _ _ _ _=_
  unfold zD7
  rw [e,ell,zZ (dt (zGo (by omega) (by omega))),zZ (zM7 (by omega)),zZ (z8 (by omega)),zZ (z8 (by omega)),zAG (dt (by omega)),zZ (zAI hil),zZ (z8 (by omega))]
  refine ih n (i+1) _ (by omega) (by omega) (by omega) (by rw [List.length_set]; exact h4) (fun g => ?_)
  rw [Int.toNat_natCast,zVa s i g hil,h5]
  by_cases hg:g=i
  ·rw [if_pos hg,if_pos (by omega)]
  ·rw [if_neg hg]
   by_cases hq:at_ (lst z j) (0:Int)≤(g:Int)∧(g:Int)<i
   ·rw [if_pos hq,if_pos (by omega)]
   ·rw [if_neg hq,if_neg (by omega)]
theorem zU1 (ho:OkZ z) (hk:k≤4):∀ (m n i:Nat),i+m=5→m<n→k≤i→zRX z k (5 - k)=zRX z i m→zE5 z (k:Int) n (i:Int)=some (zF4 z k):=by
 obtain ⟨hr,hin,_⟩:=zGc ho.zk (zFl ho)
 intro m
 induction m with
 | zero =>
  intro n i h1 h2 h3 h4
  obtain ⟨n,rfl⟩:=ex1 ‹_<n›
  show zDq _ _ _ _=_
  unfold zDq zH6 zF4
  rw [z5 (df (by omega)),h4]
  rfl
 | succ m ih =>
  intro n i h1 h2 h3 h4
  obtain ⟨n,rfl⟩:=ex1 ‹_<n›
  have hl:z.free.getD (i:Int).toNat []=lst z i:=rfl
  show zDq _ _ _ _=_
  unfold zDq zH4
  rw [hl,zAG (dt (by omega)),zZ (zAI (by omega))]
  by_cases h0:lst z i=[]
  ·rw [z5 (by rw [h0]; rfl),zZ (z8 (by omega))]
   refine ih n (i+1) (by omega) (by omega) (by omega) ?_
   rw [h4]
   show (if lst z i=[] then _ else _)=_
   rw [if_pos h0]
  ·obtain ⟨x,r,e1,e2⟩:=zXR h0
   have hlen:(lst z i).length=r.length+1:=by rw [e1]; rfl
   have hj:zRX z k (5 - k)=some i:=by
    rw [h4]
    show (if lst z i=[] then _ else _)=_
    rw [if_neg h0]
   have hx:at_ (lst z i) (0:Int)∈lst z i:=by rw [e2,e1]; simp
   have hb:=ho.bds (ho.ins i _ hx)
   obtain ⟨q,hq⟩:=Int.eq_ofNat_of_zero_le hb.1
   have pn:=zMj (k:=k) (by omega)
   obtain ⟨e,p1,p2⟩:=zJW (k:=k) (by omega)
   rw [zAG (dt (by omega)),zZ (zUB (by omega)),zQ0 ho.zk hr hin,zB8,hq]
   exact zVG ho hk hj (2 ^ k) zAD q (zOp z) (by omega) (by unfold zAD; omega) (by omega) zOx (fun g=>by rw [if_neg (by omega)])
theorem zWl (ho:OkZ z) (hk:k≤4):zHm z (k:Int)=some (zF4 z k):=by
 unfold zHm
 rw [zRI ho.zk,zFl ho,zB8,dt rfl,Bool.not_true,z5 rfl,df (by omega),df (by omega),z5 (by rfl)]
 exact zU1 ho hk (5 - k) zAD k (by omega) (by unfold zAD; omega) (Nat.le_refl _) rfl
theorem zQT (h:zRX z k (5 - k)=none):zF4 z k=(⟨0,0,0,0,0,List.replicate 5 []⟩,0,16):=by
 unfold zF4
 rw [h]
end
end Go.Proofs.YtplkliakhdkpcaaGreat
namespace Go.Proofs.YtplkliakhdkpcaaGreat
open Go Go.RowKit Go.Wk Go.Am
section
variable {a:zJ}
def zTs (cs:List zL) (i:Int):Int:=match cs with
 | []=>0
 | c::r=>((at_ c.lists i).length:Int)+zTs r i
def zR7 (a:zJ) (i:Nat):Int:=zV1 (at_ a.zones (i:Int))+zTs a.caches (i:Int)
theorem zSn (h:Va a) {p:Nat} (hp:p<a.zones.length):∀ (m n j:Nat) (acc:Int),j+m=a.caches.length→m<n→0≤acc∧acc≤80000000+j*1000 →
  (zDh a (p:Int) n acc (j:Int)=some (acc+zTs (a.caches.drop j) (p:Int))∧zGB a (p:Int) n acc (j:Int)=some (acc+zTs (a.caches.drop j) (p:Int)))∧0≤acc+zTs (a.caches.drop j) (p:Int)∧acc+zTs (a.caches.drop j) (p:Int)≤90000000:=by
 have hcl:=h.al.c
 intro m
 induction m with
 | zero =>
  intro n j acc h1 h2 h3
  obtain ⟨n,rfl⟩:=ex1 ‹_<n›
  rw [List.drop_eq_nil_of_le (by omega)]
  have e:acc+zTs [] (p:Int)=acc:=by unfold zTs; omega
  rw [e]
  refine ⟨⟨?_,?_⟩,by omega,by omega⟩
  ·show zCL _ _ _ _ _=_
   unfold zCL
   rw [z5 (df (by omega))]
   rfl
  ·show zDu _ _ _ _ _=_
   unfold zDu
   rw [z5 (df (by omega))]
   rfl
 | succ m ih =>
  intro n j acc h1 h2 h3
  obtain ⟨n,rfl⟩:=ex1 ‹_<n›
  have hj:j<a.caches.length:=by omega
  have hl:=h.len _ (zA9 hj)
  have hck:=h.al.ck _ (zA9 hj)
  have hb:=hck.l _ (zA9 (show p<(at_ a.caches (j:Int)).lists.length by omega))
  have:=ih n (j+1) (acc+((at_ (at_ a.caches (j:Int)).lists (p:Int)).length:Int)) (by omega) (by omega) (by omega)
  rw [zEY hj]
  unfold zTs
  rw [← Int.add_assoc]
  refine ⟨⟨?_,?_⟩,this.2⟩
  ·rw [← this.1.1]
   show zCL _ _ _ _ _=_
   unfold zCL
   rw [zAG (dt (by omega)),zZ (zAI hj),zZ (zAI (by omega)),zZ (z8 (by omega)),zZ (z8 (by omega))]
   rfl
  ·rw [← this.1.2]
   show zDu _ _ _ _ _=_
   unfold zDu
   rw [zAG (dt (by omega)),zZ (zAI hj),zZ (zAI (by omega)),zZ (z8 (by omega)),zZ (z8 (by omega))]
   rfl
theorem zSD (h:Va a) {p:Nat} (hp:p<a.zones.length):∀ (m n k:Nat) (acc:Int),k+m=5→m<n→0≤acc∧acc≤k*16000000 →
  zGJ a (p:Int) n acc (k:Int)=zHu a (p:Int) (acc+zRa k ((at_ a.zones (p:Int)).free.drop k)):=by
 have hzk:=(h.al.zk _ (zA9 hp)).1
 intro m
 induction m with
 | zero =>
  intro n k acc h1 h2 h3
  obtain ⟨n,rfl⟩:=ex1 ‹_<n›
  rw [List.drop_eq_nil_of_le (by rw [hzk.len]; omega)]
  show zEL _ _ _ _ _=_
  unfold zEL
  rw [z5 (df (by omega)),show acc+zRa k []=acc by unfold zRa; omega]
 | succ m ih =>
  intro n k acc h1 h2 h3
  obtain ⟨n,rfl⟩:=ex1 ‹_<n›
  have hb:=zVE (k:=k) (by omega) (hzk.bd k)
  obtain ⟨a1,a2⟩:=List.getElem?_eq_some_iff.1 (hzk.get (k:=k) (by omega))
  have hi:=ih n (k+1) (acc+((lst (at_ a.zones (p:Int)) k).length:Int)*2 ^ k) (by omega) (by omega) (by omega)
  rw [List.drop_eq_getElem_cons a1,a2]
  unfold zRa
  rw [← Int.add_assoc, ← hi]
  show zEL _ _ _ _ _=_
  unfold zEL
  have e:(at_ a.zones (p:Int)).free.getD (k:Int).toNat []=lst (at_ a.zones (p:Int)) k:=rfl
  rw [e,Int.toNat_natCast,zAG (dt (by omega)),zZ (zAI hp),zZ (zAI (by omega)),zZ (dt (zGo (by omega) (by omega))),zZ (zM7 (by omega)),zZ (z8 (by omega)),zZ (z8 (by omega)),zZ (z8 (by omega))]
  rfl
theorem zW7 (h:Va a) {p:Nat} (hp:p<a.zones.length):zDL a (p:Int)=some (zR7 a p)∧zJL a (p:Int)=some (zR7 a p)∧0≤zR7 a p∧zR7 a p≤90000000:=by
 have hzk:=h.al.zk _ (zA9 hp)
 have hcl:=h.al.c
 obtain ⟨b1,b2,b3⟩:=zXH hzk.1 hzk.2 (h.chk (zA9 hp))
 have hc:=zSn h hp a.caches.length zAD 0 (zV1 (at_ a.zones (p:Int))) (by omega) (by unfold zAD; omega) (by omega)
 rw [List.drop_zero] at hc
 refine ⟨?_,?_,hc.2⟩
 ·unfold zDL
  rw [zZ (zAI hp),b1,zB8]
  exact hc.1.1
 ·unfold zJL
  have hr:=zSD h hp 5 zAD 0 0 (by omega) (by unfold zAD; omega) (by omega)
  rw [List.drop_zero,Int.zero_add] at hr
  refine Eq.trans hr ?_
  exact hc.1.2
theorem zXF (h:Va a) {p:Nat} (hp:p<a.zones.length):0≤(at_ a.zones (p:Int)).min∧(at_ a.zones (p:Int)).min≤256:=by
 have:=zBV (zC9 (h.chk (zA9 hp)))
 omega
end
end Go.Proofs.YtplkliakhdkpcaaGreat
namespace Go.Proofs.YtplkliakhdkpcaaGreat
open Go Go.RowKit Go.Wk Go.Am
def zNH (v w:Int):Int:=if w<v then 2*(v - w) else 2*(w - v)+1
def zKL (zs:List zi) (v i:Int):Int:=if (at_ zs i).kind=0 then 2*zNH v (at_ zs i).node+1 else 2*zNH v (at_ zs i).node
def gK (zs:List zi) (v i:Int):Int:=8*zKL zs v i+i
structure Gn (zs:List zi):Prop where
 n:zs.length≤6
 nd:∀ z,z∈zs→0≤z.node∧z.node<4
 kd:∀ z,z∈zs→z.kind=0∨z.kind=1
theorem zKT {A B:List Int}:Srt (A++B)↔Srt A∧Srt B ∧ ∀ a,a∈A → ∀ b,b∈B→a<b:=List.pairwise_append
theorem zLl (a:Int):Srt [a]:=List.pairwise_singleton ..
theorem zUd {A C:List Int} {b:Int} {i:Nat} (h:A.length=i):at_ (A++b::C) (i:Int)=b:=zX8 (zGl h)
section
variable {zs:List zi} {v:Int}
theorem zWe (hv:0≤v∧v<4) {w:Int} (hw:0≤w∧w<4):zIQ v w=some (zNH v w)∧0≤zNH v w∧zNH v w≤8:=by
 unfold zIQ zNH
 by_cases h:w<v
 ·rw [zAG (dt h),if_pos h,zZ (z8 (by omega)),zZ (z8 (by omega))]
  exact ⟨rfl,by omega⟩
 ·rw [z5 (df h),if_neg h,zZ (z8 (by omega)),zZ (z8 (by omega)),zZ (z8 (by omega))]
  exact ⟨rfl,by omega⟩
theorem zQO (h:Gn zs) (hv:0≤v∧v<4) {i:Nat} (hi:i<zs.length):zAo (i:Int) v zs=some (zKL zs v (i:Int))∧0≤zKL zs v (i:Int)∧zKL zs v (i:Int)≤17:=by
 obtain ⟨k1,k2,k3⟩:=zWe hv (h.nd _ (zA9 hi))
 unfold zAo zKL zDK
 rw [zZ (zAI hi),k1,zB8,zZ (z8 (by omega))]
 by_cases hk:(at_ zs (i:Int)).kind=0
 ·rw [zAG (dt hk),if_pos hk,zZ (z8 (by omega))]
  exact ⟨rfl,by omega⟩
 ·rw [z5 (df hk),if_neg hk]
  exact ⟨rfl,by omega⟩
def Ix (zs:List zi) (i:Int):Prop := ∃ k:Nat,i=(k:Int)∧k<zs.length
theorem zTz (h:Gn zs) {i j:Int} (hi:Ix zs i) (hj:Ix zs j) (hr:zKL zs v i<zKL zs v j):gK zs v i<gK zs v j:=by
 obtain ⟨a,rfl,ha⟩:=hi
 obtain ⟨b,rfl,hb⟩:=hj
 have:=h.n
 unfold gK
 omega
theorem zWm (h:Gn zs) (hv:0≤v∧v<4) {x y:Int} (hx:Ix zs x) (hy:Ix zs y) (hyx:y<x):∃ r,zAy x y (fun y0=>zAo y0 v zs)=some r∧(r<0↔gK zs v x<gK zs v y):=by
 have hlt:=zTz (v:=v) h hx hy
 have hgt:=zTz (v:=v) h hy hx
 obtain ⟨a,rfl,ha⟩:=hx
 obtain ⟨b,rfl,hb⟩:=hy
 unfold zAy
 dsimp only
 rw [(zQO h hv ha).1,(zQO h hv hb).1,zB8,zB8]
 unfold zHP zDa
 rw [dt rfl,dt rfl,Bool.not_true,zB8,zB8,z5 rfl,z5 rfl]
 by_cases h1:zKL zs v (a:Int)<zKL zs v (b:Int)
 ·rw [zAG (dt h1)]
  exact ⟨-1,rfl,fun _=>hlt h1,fun _=>by decide⟩
 ·rw [z5 (df h1)]
  by_cases h2:zKL zs v (b:Int)<zKL zs v (a:Int)
  ·rw [zAG (dt h2)]
   have:=hgt h2
   exact ⟨1,rfl,fun x=>absurd x (by decide),fun x=>by omega⟩
  ·rw [z5 (df h2)]
   exact ⟨0,rfl,fun x=>absurd x (by decide),fun x=>by unfold gK at x; omega⟩
theorem zWY (h:Gn zs) (hv:0≤v∧v<4) {i:Int} {se:Int→List Int→Option (List Int)} {x:Int} (hx:Ix zs x) (hi:0≤i∧i≤1000):∀ (m n:Nat) (P R:List Int),P.length=m→m<n→m≤1000→(∀ y,y∈P→Ix zs y∧y<x)→Srt (P.map (gK zs v)) →
  ∃ P',P'.length=m+1∧Srt (P'.map (gK zs v))∧(∀ z,z∈P'↔z=x∨z∈P)∧zAR se 0 (fun y0 y1=>zAy y0 y1 (fun y0=>zAo y0 v zs)) i n (m:Int) (P++x::R)=se (i+1) (P'++R):=by
 intro m
 induction m with
 | zero =>
  intro n P R h1 h2 h3 h4 h5
  obtain ⟨n,rfl⟩:=ex1 ‹_<n›
  obtain rfl:=List.length_eq_zero_iff.1 h1
  refine ⟨[x],rfl,zLl _,fun z=>by simp,?_⟩
  show zAQ _ _ _ _ _ _ _=_
  unfold zAQ zAu
  rw [df (p:=(0:Int)<((0:Nat):Int)) (by omega),zZ (by rfl),zZ (by rfl),zZ (by rfl),z5 rfl,zB8,z5 (by rfl),zZ (z8 (by omega))]
  rfl
 | succ m ih =>
  intro n P R h1 h2 h3 h4 h5
  obtain ⟨n,rfl⟩:=ex1 ‹_<n›
  have hne:P≠[]:=fun e=>by rw [e] at h1; simp at h1
  obtain ⟨Q,y,rfl⟩:∃ Q y,P=Q++[y]:=⟨P.dropLast,P.getLast hne,(List.dropLast_concat_getLast hne).symm⟩
  have hQ:Q.length=m:=by simp at h1; exact h1
  have hy:=h4 y (by simp)
  have e0:Q++[y]++x::R=Q++y::(x::R):=by simp
  have ex:at_ (Q++[y]++x::R) ((m+1:Nat):Int)=x:=zUd h1
  have ey:at_ (Q++[y]++x::R) (m:Int)=y:=by rw [e0]; exact zUd hQ
  have hm:((m+1:Nat):Int) - 1=(m:Int):=by omega
  have hlen:(Q++[y]++x::R).length=m+2+R.length:=by simp; omega
  obtain ⟨r,r1,r2⟩:=zWm h hv hx hy.1 hy.2
  rw [List.map_append,zKT] at h5
  have hlast:∀ q,q∈Q→gK zs v q<gK zs v y:=fun q hq=>h5.2.2 _ (List.mem_map_of_mem hq) _ (by simp)
  have hne2:gK zs v y≠gK zs v x:=fun e=>by
   obtain ⟨a,rfl,ha⟩:=hx
   obtain ⟨b,rfl,hb⟩:=hy.1
   have:=h.n
   have:=hy.2
   unfold gK at e
   omega
  have step:∀ (R':Option (List Int)),(gK zs v x<gK zs v y→zAR se 0 (fun y0 y1=>zAy y0 y1 (fun y0=>zAo y0 v zs)) i n (m:Int) (Q++x::(y::R))=R')→(¬ gK zs v x<gK zs v y→se (i+1) (Q++[y]++x::R)=R') →
    zAR se 0 (fun y0 y1=>zAy y0 y1 (fun y0=>zAo y0 v zs)) i (n+1) ((m+1:Nat):Int) (Q++[y]++x::R)=R':=fun R' k1 k2=>by
   show zAQ _ _ _ _ _ _ _=_
   unfold zAQ zAu
   rw [dt (p:=(0:Int)<((m+1:Nat):Int)) (by omega),zZ (zMv (zAI (by omega))),zZ (zMv (z8 (by omega))),hm,zZ (zMv (zAI (by omega))),zAG rfl,ex,ey]
   dsimp only
   rw [r1,zB8]
   by_cases hlt:gK zs v x<gK zs v y
   ·have es:((Q++[y]++x::R).set ((m+1:Nat):Int).toNat y).set (m:Int).toNat x=Q++x::(y::R):=by
     rw [Int.toNat_natCast,Int.toNat_natCast,zK3 h1]
     have:Q++[y]++y::R=Q++y::(y::R):=by simp
     rw [this,zK3 hQ]
    rw [zAG (by rw [dt (r2.2 hlt)]; rfl),zZ (z8 (by omega)),zZ (zAI (by omega)),zZ (zAI (by omega)),zZ (zAI (by rw [List.length_set]; omega)),es]
    exact k1 hlt
   ·rw [z5 (by rw [df (fun hh=>hlt (r2.1 hh))]; rfl),zZ (z8 (by omega))]
    exact k2 hlt
  by_cases hlt:gK zs v x<gK zs v y
  ·obtain ⟨P',p1,p2,p3,p4⟩:=ih n Q (y::R) hQ (by omega) (by omega) (fun q hq=>h4 q (by simp [hq])) h5.1
   refine ⟨P'++[y],by simp [p1],?_,fun z => ?_,step _ (fun _ => ?_) (fun hh=>absurd hlt hh)⟩
   ·rw [List.map_append,zKT]
    refine ⟨p2,zLl _,fun a ha b hb => ?_⟩
    simp only [List.map_cons,List.map_nil,List.mem_singleton] at hb
    subst hb
    obtain ⟨q,hq,rfl⟩:=List.mem_map.1 ha
    rcases (p3 q).1 hq with rfl | hq
    ·exact hlt
    ·exact hlast q hq
   ·rw [List.mem_append,p3,List.mem_append]
    constructor
    ·rintro ((h | h) | h)
     ·exact .inl h
     ·exact .inr (.inl h)
     ·exact .inr (.inr h)
    ·rintro (h | h | h)
     ·exact .inl (.inl h)
     ·exact .inl (.inr h)
     ·exact .inr h
   ·rw [p4]; simp
  ·refine ⟨Q++[y]++[x],by simp; omega,?_,fun z => ?_,step _ (fun hh=>absurd hh hlt) (fun _=>by simp)⟩
   ·rw [List.map_append,zKT,List.map_append,zKT]
    refine ⟨⟨h5.1,h5.2.1,h5.2.2⟩,zLl _,fun a ha b hb => ?_⟩
    simp only [List.map_cons,List.map_nil,List.mem_singleton] at hb
    subst hb
    rcases List.mem_append.1 ha with ha | ha
    ·obtain ⟨q,hq,rfl⟩:=List.mem_map.1 ha
     have:=hlast q hq
     omega
    ·simp only [List.map_cons,List.map_nil,List.mem_singleton] at ha
     subst ha
     omega
   ·rw [List.mem_append,List.mem_singleton]
    exact ⟨fun h=>h.elim .inr .inl,fun h=>h.elim .inr .inl⟩
theorem zVI (h:Gn zs) (hv:0≤v∧v<4):∀ (m n:Nat) (S T:List Int),T.length=m→m<n→S.length+m≤6→(∀ y,y∈S→Ix zs y)→(∀ y,y∈T→Ix zs y)→(∀ y,y∈S → ∀ x,x∈T→y<x)→Srt T→Srt (S.map (gK zs v)) →
  ∃ L,Srt (L.map (gK zs v))∧(∀ z,z∈L↔z∈S∨z∈T)∧zAC 0 ((S.length+m:Nat):Int) (fun y0 y1=>zAy y0 y1 (fun y0=>zAo y0 v zs)) n (S.length:Int) (S++T)=some L:=by
 intro m
 induction m with
 | zero =>
  intro n S T h1 h2 h3 h4 h5 h6 h7 h8
  obtain ⟨n,rfl⟩:=ex1 ‹_<n›
  obtain rfl:=List.length_eq_zero_iff.1 h1
  refine ⟨S,h8,fun z=>by simp,?_⟩
  show zAE _ _ _ _ _ _=_
  unfold zAE
  rw [z5 (df (by omega)),List.append_nil]
 | succ m ih =>
  intro n S T h1 h2 h3 h4 h5 h6 h7 h8
  obtain ⟨n,rfl⟩:=ex1 ‹_<n›
  obtain ⟨x,T',rfl⟩:∃ x T',T=x::T':=by cases T with | nil=>simp at h1 | cons x T'=>exact ⟨x,T',rfl⟩
  have h7':=List.pairwise_cons.1 h7
  obtain ⟨P',p1,p2,p3,p4⟩:=zWY h hv (i:=(S.length:Int)) (se:=zAC 0 ((S.length+(m+1):Nat):Int) (fun y0 y1=>zAy y0 y1 (fun y0=>zAo y0 v zs)) n) (h5 x (by simp)) (by omega) S.length zAD S T' rfl (by unfold zAD; omega) (by omega) (fun y hy=>⟨h4 y hy,h6 y hy x (by simp)⟩) h8
  obtain ⟨L,l1,l2,l3⟩:=ih n P' T' (by simpa using h1) (by omega) (by omega) (fun y hy=>by
   rcases (p3 y).1 hy with rfl | hy
   ·exact h5 y (by simp)
   ·exact h4 y hy) (fun y hy=>h5 y (by simp [hy])) (fun y hy z hz=>by
   rcases (p3 y).1 hy with rfl | hy
   ·exact h7'.1 z hz
   ·exact h6 y hy z (by simp [hz])) h7'.2 p2
  refine ⟨L,l1,fun z => ?_,?_⟩
  ·rw [l2,p3,List.mem_cons]
   constructor
   ·rintro ((h | h) | h)
    ·exact .inr (.inl h)
    ·exact .inl h
    ·exact .inr (.inr h)
   ·rintro (h | h | h)
    ·exact .inl (.inr h)
    ·exact .inl (.inl h)
    ·exact .inr h
  ·show zAE _ _ _ _ _ _=_
   unfold zAE
   rw [zAG (dt (by omega)),p4, ← l3,p1,show S.length+(m+1)=S.length+1+m by omega]
   rfl
theorem zUz (h:Gn zs) (hv:0≤v∧v<4) {T:List Int} (hT:T.length≤6) (hi:∀ y,y∈T→Ix zs y) (hs:Srt T):∃ L,Srt (L.map (gK zs v))∧(∀ z,z∈L↔z∈T)∧zBF T (fun y0 y1=>zAy y0 y1 (fun y0=>zAo y0 v zs))=some L:=by
 have key:∃ L,Srt (L.map (gK zs v))∧(∀ z,z∈L↔z∈T)∧zAn T 0 (T.length:Int) (fun y0 y1=>zAy y0 y1 (fun y0=>zAo y0 v zs))=some L:=by
  unfold zAn
  rw [zZ (z8 (by omega))]
  cases T with
  | nil=>exact ⟨[],Srt.nil,fun z=>Iff.rfl,by
    rw [show zAD=(zAD - 1)+1 from rfl]
    show zAE _ _ _ _ _ _=_
    unfold zAE
    rw [z5 (by rfl)]⟩
  | cons x T =>
   have hs':=List.pairwise_cons.1 hs
   obtain ⟨L,l1,l2,l3⟩:=zVI h hv T.length zAD [x] T rfl (by simp at hT; unfold zAD; omega) (by simp at hT ⊢; omega) (fun y hy=>hi y (by simp at hy; simp [hy])) (fun y hy=>hi y (by simp [hy])) (fun y hy z hz=>by simp at hy; subst hy; exact hs'.1 z hz) hs'.2 (zLl _)
   refine ⟨L,l1,fun z=>by rw [l2]; simp,?_⟩
   rw [← l3,show ((x::T).length:Int)=(([x].length+T.length:Nat):Int) by rw [List.length_cons]; show _=((1+T.length:Nat):Int); omega]
   rfl
 obtain ⟨L,l1,l2,l3⟩:=key
 refine ⟨L,l1,l2,?_⟩
 unfold zBF zCz
 have e1:zBZ (T.length:Int) (fun y0 y1=>zAy y0 y1 (fun y0=>zAo y0 v zs)) zAD 0 20 T=some L:=by
  rw [show zAD=(zAD - 1)+1 from rfl]
  show zBa _ _ _ _ _ _=_
  unfold zBa zCI
  rw [z5 (df (by omega)),l3,zB8]
  rw [show zAD=(zAD - 1)+1 from rfl]
  show zBY _ _ _ _=_
  unfold zBY
  rw [z5 (df (by omega))]
 rw [e1]
 rfl
def zTR (zs:List zi) (kern:Bool) (i:Int):Bool := !kern||decide ((at_ zs i).kind=0)
theorem zRf (h:Gn zs):∀ (m n i:Nat),i+m=zs.length→m<n→zEV zs n (i:Int)=some 0∧zGL zs n (i:Int)=some 0:=by
 have hn:=h.n
 intro m
 induction m with
 | zero =>
  intro n i h1 h2
  obtain ⟨n,rfl⟩:=ex1 ‹_<n›
  show zCe _ _ _=_∧zD4 _ _ _=_
  unfold zCe zD4
  rw [z5 (df (by omega)),z5 (df (by omega))]
  exact ⟨rfl,rfl⟩
 | succ m ih =>
  intro n i h1 h2
  obtain ⟨n,rfl⟩:=ex1 ‹_<n›
  have hi:i<zs.length:=by omega
  have h3:=h.nd _ (zA9 hi)
  have h4:=h.kd _ (zA9 hi)
  have h5:((!decide ((at_ zs (i:Int)).kind=0))&&(!decide ((at_ zs (i:Int)).kind=1)))=false:=by
   rcases h4 with e | e <;> rw [e] <;> rfl
  show zCe _ _ _=_∧zD4 _ _ _=_
  unfold zCe zD4
  rw [zAG (dt (by omega)),zAG (dt (by omega)),zZ (zAI hi),zZ (zAI hi),df (by omega),df (by omega),h5,Bool.or_false,z5 rfl,z5 rfl,z5 rfl,z5 rfl,zZ (z8 (by omega)),zZ (z8 (by omega))]
  exact ih n (i+1) (by omega) (by omega)
theorem zVT (h:Gn zs) (hv:0≤v∧v<4) {kern:Bool}:∀ (m n i:Nat) (l:List Int),i+m=zs.length→m<n→l.length≤i→Srt l→(∀ z,z∈l ↔ ∃ k:Nat,z=(k:Int)∧k<i∧zTR zs kern z=true) →
  ∃ L,Srt (L.map (gK zs v))∧(∀ z,z∈L↔Ix zs z∧zTR zs kern z=true)∧zDH zs v kern n (i:Int) l=some (L,0):=by
 have hn:=h.n
 intro m
 induction m with
 | zero =>
  intro n i l h1 h2 h3 h4 h5
  obtain ⟨n,rfl⟩:=ex1 ‹_<n›
  obtain ⟨L,l1,l2,l3⟩:=zUz h hv (T:=l) (by omega) (fun y hy=>by
   obtain ⟨k,e,hk,_⟩:=(h5 y).1 hy
   exact ⟨k,e,by omega⟩) h4
  refine ⟨L,l1,fun z => ?_,?_⟩
  ·rw [l2,h5]
   constructor
   ·rintro ⟨k,e,hk,hs⟩; exact ⟨⟨k,e,by omega⟩,hs⟩
   ·rintro ⟨⟨k,e,hk⟩,hs⟩; exact ⟨k,e,by omega,hs⟩
  ·show zBd _ _ _ _ _ _=_
   unfold zBd zF3
   rw [z5 (df (by omega)),l3,zB8]
 | succ m ih =>
  intro n i l h1 h2 h3 h4 h5
  obtain ⟨n,rfl⟩:=ex1 ‹_<n›
  have hi:i<zs.length:=by omega
  have hcur:zTR zs kern (i:Int)=((!kern)||decide ((at_ zs (i:Int)).kind=0)):=rfl
  cases hs:zTR zs kern (i:Int) with
  | true =>
   obtain ⟨L,l1,l2,l3⟩:=ih n (i+1) (l++[(i:Int)]) (by omega) (by omega) (by simp; omega) (by
    rw [zKT]
    refine ⟨h4,zLl _,fun a ha b hb => ?_⟩
    obtain ⟨k,e,hk,_⟩:=(h5 a).1 ha
    simp at hb
    omega) (fun z=>by
    rw [List.mem_append,h5]
    constructor
    ·rintro (⟨k,e,hk,hs'⟩ | hz)
     ·exact ⟨k,e,by omega,hs'⟩
     ·simp at hz
      subst hz
      exact ⟨i,rfl,by omega,hs⟩
    ·rintro ⟨k,e,hk,hs'⟩
     by_cases hki:k<i
     ·exact .inl ⟨k,e,hki,hs'⟩
     ·exact .inr (by simp; omega))
   refine ⟨L,l1,l2,?_⟩
   show zBd _ _ _ _ _ _=_
   unfold zBd zDE
   rw [zAG (dt (by omega)),zZ (zAI hi), ← hcur,hs,zAG rfl,zZ (dt (by simp; omega)),zZ (z8 (by omega))]
   exact l3
  | false =>
   obtain ⟨L,l1,l2,l3⟩:=ih n (i+1) l (by omega) (by omega) (by omega) h4 (fun z=>by
    rw [h5]
    constructor
    ·rintro ⟨k,e,hk,hs'⟩; exact ⟨k,e,by omega,hs'⟩
    ·rintro ⟨k,e,hk,hs'⟩
     refine ⟨k,e,?_,hs'⟩
     refine Nat.lt_of_not_le fun hki => ?_
     have:k=i:=by omega
     subst this
     rw [e,hs] at hs'
     cases hs')
   refine ⟨L,l1,l2,?_⟩
   show zBd _ _ _ _ _ _=_
   unfold zBd zDE
   rw [zAG (dt (by omega)),zZ (zAI hi), ← hcur,hs,z5 rfl,zZ (z8 (by omega))]
   exact l3
theorem zWb (h:Gn zs) (hv:0≤v∧v<4) (kern:Bool):∃ L,Srt (L.map (gK zs v))∧(∀ z,z∈L↔Ix zs z∧zTR zs kern z=true)∧zDn zs v kern=some (L,0):=by
 have hn:=h.n
 obtain ⟨L,l1,l2,l3⟩:=zVT h hv (kern:=kern) zs.length zAD 0 [] (by omega) (by unfold zAD; omega) (Nat.le_refl _) Srt.nil (fun z=>⟨fun hz=>(by cases hz),fun ⟨k,_,hk,_⟩=>by omega⟩)
 refine ⟨L,l1,l2,?_⟩
 unfold zDn zIH zH9
 rw [z5 (df (by omega)),z0i,(zRf h zs.length zAD 0 (by omega) (by unfold zAD; omega)).1,zB8]
 rw [z5 (by rfl),df (by omega),df (by omega),z5 (by rfl),zB8,z5 (by rfl)]
 exact l3
theorem zWs (h:Gn zs) {q:Int}:∀ (m n i:Nat),i+m=zs.length→m<n → ∃ b,zIO zs q n (i:Int)=some b∧(b=true ↔ ∃ k:Nat,i≤k∧k<zs.length∧(at_ zs (k:Int)).node=q):=by
 have hn:=h.n
 intro m
 induction m with
 | zero =>
  intro n i h1 h2
  obtain ⟨n,rfl⟩:=ex1 ‹_<n›
  refine ⟨false,?_,fun e=>(by cases e),fun ⟨k,k1,k2,_⟩=>by omega⟩
  show zDV _ _ _ _=_
  unfold zDV
  rw [z5 (df (by omega))]
  rfl
 | succ m ih =>
  intro n i h1 h2
  obtain ⟨n,rfl⟩:=ex1 ‹_<n›
  have hi:i<zs.length:=by omega
  by_cases hq:(at_ zs (i:Int)).node=q
  ·refine ⟨true,?_,fun _=>⟨i,Nat.le_refl _,hi,hq⟩,fun _=>rfl⟩
   show zDV _ _ _ _=_
   unfold zDV
   rw [zAG (dt (by omega)),zZ (zAI hi),zAG (dt hq)]
  ·obtain ⟨b,b1,b2⟩:=ih n (i+1) (by omega) (by omega)
   refine ⟨b,?_,b2.trans ⟨fun ⟨k,k1,k2,k3⟩=>⟨k,by omega,k2,k3⟩,fun ⟨k,k1,k2,k3⟩=>⟨k,?_,k2,k3⟩⟩⟩
   ·show zDV _ _ _ _=_
    unfold zDV
    rw [zAG (dt (by omega)),zZ (zAI hi),z5 (df hq),zZ (z8 (by omega))]
    exact b1
   ·refine Nat.lt_of_not_le fun hk => ?_
    have:k=i:=by omega
    subst this
    exact hq k3
def zWI (zs:List zi) (q:Int):Prop := ∃ k:Nat,k<zs.length∧(at_ zs (k:Int)).node=q
theorem zTO (h:Gn zs) (hv:0≤v∧v<4):∀ (m n d:Nat) (l:List Int),d+m=4→m<n→Srt (l.map (zNH v))→l.length≤2*d→(∀ q,q∈l↔zWI zs q ∧ -(d:Int)<q - v∧q - v<d) →
  ∃ ns,Srt (ns.map (zNH v))∧ns.length≤8∧(∀ q,q∈ns↔zWI zs q)∧zBO zs v n (d:Int) l=some (ns,0):=by
 have hn:=h.n
 intro m
 induction m with
 | zero =>
  intro n d l h1 h2 h3 h4 h5
  obtain ⟨n,rfl⟩:=ex1 ‹_<n›
  refine ⟨l,h3,by omega,fun q => ?_,?_⟩
  ·rw [h5]
   refine ⟨And.left,fun hq=>⟨hq,?_⟩⟩
   obtain ⟨k,k1,k2⟩:=hq
   have:=h.nd _ (zA9 k1)
   omega
  ·show zDx _ _ _ _ _=_
   unfold zDx zIG
   rw [z5 (df (by omega))]
 | succ m ih =>
  intro n d l h1 h2 h3 h4 h5
  obtain ⟨n,rfl⟩:=ex1 ‹_<n›
  obtain ⟨b1,e1,g1⟩:=zWs h (q:=v - d) zs.length zAD 0 (by omega) (by unfold zAD; omega)
  obtain ⟨b2,e2,g2⟩:=zWs h (q:=v+d) zs.length zAD 0 (by omega) (by unfold zAD; omega)
  have g1':b1=true↔zWI zs (v - d):=g1.trans ⟨fun ⟨k,_,k2,k3⟩=>⟨k,k2,k3⟩,fun ⟨k,k2,k3⟩=>⟨k,Nat.zero_le _,k2,k3⟩⟩
  have g2':b2=true↔zWI zs (v+d):=g2.trans ⟨fun ⟨k,_,k2,k3⟩=>⟨k,k2,k3⟩,fun ⟨k,k2,k3⟩=>⟨k,Nat.zero_le _,k2,k3⟩⟩
  have hk:∀ q,q∈l→zNH v q<2*d:=fun q hq=>by
   obtain ⟨_,q1,q2⟩:=(h5 q).1 hq
   unfold zNH
   split <;> omega
  have hadd:∀ (c1 c2:Bool),(c1=true↔b1=true)→(c2=true↔0<d∧b2=true) → ∃ ns,Srt (ns.map (zNH v))∧ns.length≤8∧(∀ q,q∈ns↔zWI zs q)∧zBO zs v n ((d+1:Nat):Int) (l++(if c1 then [v - (d:Int)] else [])++(if c2 then [v+(d:Int)] else []))=some (ns,0):=fun c1 c2 i1 i2=>by
   refine ih n (d+1) _ (by omega) (by omega) ?_ ?_ (fun q => ?_)
   ·rw [List.map_append,List.map_append,zKT,zKT]
    refine ⟨⟨h3,?_,fun a ha b hb => ?_⟩,?_,fun a ha b hb => ?_⟩
    ·cases c1
     ·exact Srt.nil
     ·exact zLl _
    ·obtain ⟨q,hq,rfl⟩:=List.mem_map.1 ha
     have:=hk q hq
     cases c1
     ·cases hb
     ·simp at hb
      subst hb
      unfold zNH at this ⊢
      split <;> split at this <;> omega
    ·cases c2
     ·exact Srt.nil
     ·exact zLl _
    ·cases c2 with
     | false=>cases hb
     | true =>
      have hd:=(i2.1 rfl).1
      simp at hb
      subst hb
      rcases List.mem_append.1 ha with ha | ha
      ·obtain ⟨q,hq,rfl⟩:=List.mem_map.1 ha
       have:=hk q hq
       unfold zNH at this ⊢
       split <;> split at this <;> omega
      ·cases c1
       ·cases ha
       ·simp at ha
        subst ha
        unfold zNH
        split <;> split <;> omega
   ·rw [List.length_append,List.length_append]
    cases c1 <;> cases c2 <;> simp <;> omega
   ·rw [List.mem_append,List.mem_append,h5]
    have m1:q∈(if c1 then [v - (d:Int)] else [])↔c1=true∧q=v - d:=by cases c1 <;> simp
    have m2:q∈(if c2 then [v+(d:Int)] else [])↔c2=true∧q=v+d:=by cases c2 <;> simp
    rw [m1,m2,i1,i2,g1',g2']
    constructor
    ·rintro ((⟨h1,h2,h3⟩ | ⟨h1,rfl⟩) | ⟨⟨h0,h1⟩,rfl⟩)
     ·exact ⟨h1,by omega⟩
     ·exact ⟨h1,by omega⟩
     ·exact ⟨h1,by omega⟩
    ·rintro ⟨h1,h2,h3⟩
     by_cases e1:q=v - d
     ·exact .inl (.inr ⟨e1▸h1,e1⟩)
     ·by_cases e2:q=v+d
      ·exact .inr ⟨⟨by omega,e2▸h1⟩,e2⟩
      ·exact .inl (.inl ⟨h1,by omega⟩)
  have hlen:l.length≤8:=by omega
  have hj:∀ (l':List Int),l'.length≤9→zFB (zBO zs v n) zs v (d:Int) l'=zBO zs v n ((d+1:Nat):Int) (l'++(if (decide (0<(d:Int))&&b2) then [v+(d:Int)] else [])):=fun l' hl'=>by
   unfold zFB zGN zKA
   rw [zZ (zMv (z8 (by omega)))]
   by_cases hd:0<d
   ·rw [dt (p:=(0:Int)<(d:Int)) (by omega),zAG rfl,z0i,e2,zB8]
    cases b2 with
    | true =>
     rw [zAG (by rfl),zZ (z8 (by omega)),zZ (dt (by simp; omega)),zZ (z8 (by omega))]
     rfl
    | false =>
     rw [z5 (by rfl),zZ (z8 (by omega))]
     show _=zBO zs v n _ (l'++[])
     rw [List.append_nil]
     rfl
   ·rw [df (p:=(0:Int)<(d:Int)) (by omega),z5 rfl,zB8,z5 (by rfl),zZ (z8 (by omega))]
    show _=zBO zs v n _ (l'++[])
    rw [List.append_nil]
    rfl
  obtain ⟨ns,n1,n2,n3,n4⟩:=hadd b1 (decide (0<(d:Int))&&b2) Iff.rfl (by rw [Bool.and_eq_true,decide_eq_true_eq]; exact ⟨fun ⟨a,b⟩=>⟨by omega,b⟩,fun ⟨a,b⟩=>⟨by omega,b⟩⟩)
  refine ⟨ns,n1,n2,n3,?_⟩
  rw [← n4]
  show zDx _ _ _ _ _=_
  unfold zDx zKA
  rw [zAG (dt (by omega)),zZ (z8 (by omega)),z0i,e1,zB8]
  cases b1 with
  | true =>
   rw [zAG rfl,zZ (dt (by simp; omega)),hj _ (by simp; omega)]
   rfl
  | false =>
   rw [z5 rfl,hj _ (by omega)]
   show _=zBO zs v n _ (l++[]++_)
   rw [List.append_nil]
   rfl
theorem zTa (h:Gn zs) (hv:0≤v∧v<4):∃ ns,Srt (ns.map (zNH v))∧ns.length≤8∧(∀ q,q∈ns↔zWI zs q)∧zJQ zs v=some (ns,0):=by
 have hn:=h.n
 obtain ⟨ns,n1,n2,n3,n4⟩:=zTO h hv 4 zAD 0 [] (by omega) (by unfold zAD; omega) Srt.nil (Nat.le_refl _) (fun q=>⟨fun hq=>(by cases hq),fun ⟨_,h1,h2⟩=>by omega⟩)
 refine ⟨ns,n1,n2,n3,?_⟩
 unfold zJQ zKR
 rw [z5 (df (by omega)),z0i,(zRf h zs.length zAD 0 (by omega) (by unfold zAD; omega)).2,zB8]
 rw [z5 (by rfl),df (by omega),df (by omega),z5 (by rfl)]
 exact n4
end
end Go.Proofs.YtplkliakhdkpcaaGreat
namespace Go.Proofs.YtplkliakhdkpcaaGreat
open Go Go.RowKit Go.Wk Go.Am
def zPL (zs:List zi) (q K:Int):Nat→Nat→List Int
 | 0,_=>[]
 | m+1,i=>if ((at_ zs (i:Int)).node=q∧(at_ zs (i:Int)).kind=K) then (i:Int)::zPL zs q K m (i+1) else zPL zs q K m (i+1)
section
variable {zs:List zi} {v q K:Int}
theorem zJY:∀ {m i:Nat} {z:Int},z∈zPL zs q K m i ↔ ∃ k:Nat,z=(k:Int)∧i≤k∧k<i+m∧(at_ zs (k:Int)).node=q∧(at_ zs (k:Int)).kind=K
 | 0,i,z=>⟨fun h=>(by cases h),fun ⟨k,_,h1,h2,_⟩=>by omega⟩
 | m+1,i,z=>by
  unfold zPL
  by_cases h:(at_ zs (i:Int)).node=q∧(at_ zs (i:Int)).kind=K
  ·rw [if_pos h,List.mem_cons,zJY]
   constructor
   ·rintro (rfl | ⟨k,e,h1,h2,h3⟩)
    ·exact ⟨i,rfl,Nat.le_refl _,by omega,h⟩
    ·exact ⟨k,e,by omega,by omega,h3⟩
   ·rintro ⟨k,e,h1,h2,h3⟩
    by_cases hk:k=i
    ·subst hk; exact .inl e
    ·exact .inr ⟨k,e,by omega,by omega,h3⟩
  ·rw [if_neg h,zJY]
   constructor
   ·rintro ⟨k,e,h1,h2,h3⟩; exact ⟨k,e,by omega,by omega,h3⟩
   ·rintro ⟨k,e,h1,h2,h3⟩
    refine ⟨k,e,?_,by omega,h3⟩
    refine Nat.lt_of_not_le fun hk => ?_
    have:k=i:=by omega
    subst this
    exact h h3
theorem zNG:∀ {m i:Nat},Srt (zPL zs q K m i)
 | 0,_=>Srt.nil
 | m+1,i=>by
  unfold zPL
  by_cases h:(at_ zs (i:Int)).node=q∧(at_ zs (i:Int)).kind=K
  ·rw [if_pos h]
   refine List.pairwise_cons.2 ⟨fun z hz => ?_,zNG⟩
   obtain ⟨k,e,h1,_⟩:=zJY.1 hz
   omega
  ·rw [if_neg h]; exact zNG
theorem zOt:∀ {m i:Nat},(zPL zs q K m i).length≤m
 | 0,_=>Nat.le_refl _
 | m+1,i=>by
  have:=zOt (m:=m) (i:=i+1)
  unfold zPL
  split
  ·simp; omega
  ·omega
theorem zSp {a b:Prop} [Decidable a] [Decidable b]:(decide a&&decide b)=decide (a∧b):=by simp
theorem zR8 (h:Gn zs) {ns:List Int} {t:Nat} (ht:t<ns.length) (hns:ns.length≤8) (hq:at_ ns (t:Int)=q) {se:Int→List Int→Option (List Int×Int)}:∀ (m n i:Nat) (l:List Int),i+m=zs.length→m<n→l.length+m≤1000 →
  zE6 se zs (ns,0) (t:Int) n (i:Int) l=se ((t+1:Nat):Int) (l++zPL zs q 0 m i):=by
 have hn:=h.n
 intro m
 induction m with
 | zero =>
  intro n i l h1 h2 h3
  obtain ⟨n,rfl⟩:=ex1 ‹_<n›
  show zDw _ _ _ _ _ _ _=_
  unfold zDw zH2 zPL
  rw [z5 (df (by omega)),zZ (z8 (by omega)),List.append_nil]
  rfl
 | succ m ih =>
  intro n i l h1 h2 h3
  obtain ⟨n,rfl⟩:=ex1 ‹_<n›
  have hi:i<zs.length:=by omega
  show zDw _ _ _ _ _ _ _=_
  unfold zDw zGW zPL
  rw [zAG (dt (by omega)),zZ (zAI hi),zZ (zAI ht),hq,zSp]
  by_cases hh:(at_ zs (i:Int)).node=q∧(at_ zs (i:Int)).kind=0
  ·rw [zAG (dt hh),if_pos hh,zZ (dt (by simp; omega)),zZ (z8 (by omega))]
   refine (ih n (i+1) (l++[(i:Int)]) (by omega) (by omega) (by simp; omega)).trans ?_
   rw [List.append_assoc]
   rfl
  ·rw [z5 (df hh),if_neg hh,zZ (z8 (by omega))]
   exact ih n (i+1) l (by omega) (by omega) (by omega)
theorem zVj (h:Gn zs) {ns:List Int} {t:Nat} (ht:t<ns.length) (hns:ns.length≤8) (hq:at_ ns (t:Int)=q) {se:Int→List Int→Option (List Int×Int)}:∀ (m n i:Nat) (l:List Int),i+m=zs.length→m<n→l.length+m≤1000 →
  zDz se zs false (ns,0) (t:Int) n (i:Int) l=zGQ se zs (ns,0) (t:Int) (l++zPL zs q 1 m i):=by
 have hn:=h.n
 intro m
 induction m with
 | zero =>
  intro n i l h1 h2 h3
  obtain ⟨n,rfl⟩:=ex1 ‹_<n›
  show zCl _ _ _ _ _ _ _ _=_
  unfold zCl zPL
  rw [df (p:=(i:Int)<(zs.length:Int)) (by omega),z5 (by rfl),List.append_nil]
 | succ m ih =>
  intro n i l h1 h2 h3
  obtain ⟨n,rfl⟩:=ex1 ‹_<n›
  have hi:i<zs.length:=by omega
  show zCl _ _ _ _ _ _ _ _=_
  unfold zCl zGE zPL
  rw [dt (p:=(i:Int)<(zs.length:Int)) (by omega),zAG (by rfl),zZ (zAI hi),zZ (zAI ht),hq,zSp]
  by_cases hh:(at_ zs (i:Int)).node=q∧(at_ zs (i:Int)).kind=1
  ·rw [zAG (dt hh),if_pos hh,zZ (dt (by simp; omega)),zZ (z8 (by omega))]
   refine (ih n (i+1) (l++[(i:Int)]) (by omega) (by omega) (by simp; omega)).trans ?_
   rw [List.append_assoc]
   rfl
  ·rw [z5 (df hh),if_neg hh,zZ (z8 (by omega))]
   exact ih n (i+1) l (by omega) (by omega) (by omega)
def zVb (zs:List zi) (kern:Bool) (q:Int):List Int:=(if kern then [] else zPL zs q 1 zs.length 0)++zPL zs q 0 zs.length 0
theorem zRC (h:Gn zs) {kern:Bool} {z:Int}:z∈zVb zs kern q↔Ix zs z∧zTR zs kern z=true∧(at_ zs z).node=q:=by
 unfold zVb zTR
 rw [List.mem_append,zJY]
 constructor
 ·rintro (hz | ⟨k,e,_,h2,h3,h4⟩)
  ·cases kern with
   | true=>cases hz
   | false =>
    obtain ⟨k,e,_,h2,h3,h4⟩:=zJY.1 hz
    subst e
    exact ⟨⟨k,rfl,by omega⟩,rfl,h3⟩
  ·subst e
   exact ⟨⟨k,rfl,by omega⟩,by rw [dt h4,Bool.or_true],h3⟩
 ·rintro ⟨⟨k,e,hk⟩,hs,hq⟩
  subst e
  rcases h.kd _ (zA9 hk) with e0 | e1
  ·exact .inr ⟨k,rfl,Nat.zero_le _,by omega,hq,e0⟩
  ·cases kern with
   | true =>
    rw [df (p:=(at_ zs (k:Int)).kind=0) (by omega)] at hs
    cases hs
   | false=>exact .inl (zJY.2 ⟨k,rfl,Nat.zero_le _,by omega,hq,e1⟩)
theorem zSB {l:List Int} {r:Int} (hs:Srt l) (hr:∀ z,z∈l→zKL zs v z=r):Srt (l.map (gK zs v)):=by
 refine List.pairwise_map.2 (hs.imp_of_mem fun {a b} ha hb hab => ?_)
 unfold gK
 rw [hr a ha,hr b hb]
 omega
theorem zT7 (h:Gn zs) {kern:Bool}:Srt ((zVb zs kern q).map (gK zs v)):=by
 have h0:∀ z,z∈zPL zs q 0 zs.length 0→Ix zs z∧zKL zs v z=2*zNH v q+1:=fun z hz=>by
  obtain ⟨k,e,_,h2,h3,h4⟩:=zJY.1 hz
  subst e
  exact ⟨⟨k,rfl,by omega⟩,by unfold zKL; rw [if_pos h4,h3]⟩
 have h1:∀ z,z∈zPL zs q 1 zs.length 0→Ix zs z∧zKL zs v z=2*zNH v q:=fun z hz=>by
  obtain ⟨k,e,_,h2,h3,h4⟩:=zJY.1 hz
  subst e
  exact ⟨⟨k,rfl,by omega⟩,by unfold zKL; rw [if_neg (by omega),h3]⟩
 unfold zVb
 rw [List.map_append,zKT]
 refine ⟨?_,zSB zNG (fun z hz=>(h0 z hz).2),fun a ha b hb => ?_⟩
 ·cases kern with
  | true=>exact Srt.nil
  | false=>exact zSB zNG (fun z hz=>(h1 z hz).2)
 ·obtain ⟨y,hy,rfl⟩:=List.mem_map.1 hb
  cases kern with
  | true=>cases ha
  | false =>
   obtain ⟨x,hx,rfl⟩:=List.mem_map.1 ha
   exact zTz h (h1 x hx).1 (h0 y hy).1 (by rw [(h1 x hx).2,(h0 y hy).2]; omega)
theorem zRN (z:Int):2*zNH v (at_ zs z).node≤zKL zs v z∧zKL zs v z≤2*zNH v (at_ zs z).node+1:=by
 unfold zKL
 split <;> omega
theorem zVi (h:Gn zs) {kern:Bool} {ns:List Int} (hns:ns.length≤8) (hks:Srt (ns.map (zNH v))):∀ (m n t:Nat) (l:List Int),t+m=ns.length→m<n→l.length≤12*t→Srt (l.map (gK zs v))→(∀ z,z∈l↔Ix zs z∧zTR zs kern z=true∧(at_ zs z).node∈ns.take t) →
  ∃ L,Srt (L.map (gK zs v))∧(∀ z,z∈L↔Ix zs z∧zTR zs kern z=true∧(at_ zs z).node∈ns)∧zAb zs kern (ns,0) n (t:Int) l=some (L,0):=by
 have hn:=h.n
 intro m
 induction m with
 | zero =>
  intro n t l h1 h2 h3 h4 h5
  obtain ⟨n,rfl⟩:=ex1 ‹_<n›
  refine ⟨l,h4,fun z=>by rw [h5,List.take_of_length_le (by omega)],?_⟩
  show zEG _ _ _ _ _ _=_
  unfold zEG zII
  rw [z5 (df (show ¬ (t:Int)<(ns.length:Int) by omega))]
 | succ m ih =>
  intro n t l h1 h2 h3 h4 h5
  obtain ⟨n,rfl⟩:=ex1 ‹_<n›
  have ht:t<ns.length:=by omega
  have hl1:=zOt (zs:=zs) (q:=at_ ns (t:Int)) (K:=1) (m:=zs.length) (i:=0)
  have hl0:=zOt (zs:=zs) (q:=at_ ns (t:Int)) (K:=0) (m:=zs.length) (i:=0)
  have hstep:zAb zs kern (ns,0) (n+1) (t:Int) l=zAb zs kern (ns,0) n ((t+1:Nat):Int) (l++zVb zs kern (at_ ns (t:Int))):=by
   show zEG _ _ _ _ _ _=_
   unfold zEG zVb
   rw [zAG (dt (show (t:Int)<(ns.length:Int) by omega))]
   cases kern with
   | true =>
    rw [show zDz (zAb zs true (ns,0) n) zs true (ns,0) (t:Int) zAD 0 l=zGQ (zAb zs true (ns,0) n) zs (ns,0) (t:Int) l by
     rw [show zAD=(zAD - 1)+1 from rfl]
     show zCl _ _ _ _ _ _ _ _=_
     unfold zCl
     rw [z5 (by rw [Bool.not_true,Bool.and_false])]]
    exact zR8 h ht hns rfl zs.length zAD 0 l (by omega) (by unfold zAD; omega) (by omega)
   | false =>
    refine (zVj h ht hns rfl zs.length zAD 0 l (by omega) (by unfold zAD; omega) (by omega)).trans ?_
    refine (zR8 h ht hns rfl zs.length zAD 0 _ (by omega) (by unfold zAD; omega) (by rw [List.length_append]; omega)).trans ?_
    rw [List.append_assoc]
    rfl
  rw [hstep]
  refine ih n (t+1) _ (by omega) (by omega) ?_ ?_ (fun z => ?_)
  ·unfold zVb
   rw [List.length_append,List.length_append]
   cases kern <;> simp <;> omega
  ·rw [List.map_append,zKT]
   refine ⟨h4,zT7 h,fun a ha b hb => ?_⟩
   obtain ⟨x,hx,rfl⟩:=List.mem_map.1 ha
   obtain ⟨y,hy,rfl⟩:=List.mem_map.1 hb
   have hx':=(h5 x).1 hx
   have hy':=(zRC h).1 hy
   have hk:zNH v (at_ zs x).node<zNH v (at_ ns (t:Int)):=by
    obtain ⟨i,hi,e⟩:=List.getElem_of_mem hx'.2.2
    rw [List.length_take] at hi
    rw [List.getElem_take] at e
    have:=zKQ hks (i:=i) (j:=t) (x:=zNH v ns[i]) (y:=zNH v ns[t]) (by rw [List.getElem?_map,List.getElem?_eq_getElem (by omega)]; rfl) (by rw [List.getElem?_map,List.getElem?_eq_getElem ht]; rfl) (by omega)
    rw [← e,zHb ht]
    exact this
   refine zTz h hx'.1 hy'.1 ?_
   have r1:=(zRN (zs:=zs) (v:=v) x).2
   have r2:=(zRN (zs:=zs) (v:=v) y).1
   rw [hy'.2.2] at r2
   omega
  ·rw [List.mem_append,h5,zRC h,List.take_add_one,List.mem_append,zUr ht]
   simp only [Option.toList_some,List.mem_singleton]
   constructor
   ·rintro (⟨h1,h2,h3⟩ | ⟨h1,h2,h3⟩)
    ·exact ⟨h1,h2,.inl h3⟩
    ·exact ⟨h1,h2,.inr h3⟩
   ·rintro ⟨h1,h2,h3 | h3⟩
    ·exact .inl ⟨h1,h2,h3⟩
    ·exact .inr ⟨h1,h2,h3⟩
theorem zUQ {g:Int→Int}:∀ {l m:List Int},l.map g=m.map g→(∀ a b,a∈l→b∈m→g a=g b→a=b)→l=m
 | [],[],_,_=>rfl
 | [],_::_,h,_=>by cases h
 | _::_,[],h,_=>by cases h
 | a::l,b::m,h,hi=>by
  simp only [List.map_cons,List.cons.injEq] at h
  rw [hi a b (by simp) (by simp) h.1,zUQ h.2 (fun x y hx hy=>hi x y (by simp [hx]) (by simp [hy]))]
theorem zWp (h:Gn zs) (hv:0≤v∧v<4) (kern:Bool):∃ L,(∀ z,z∈L↔Ix zs z∧zTR zs kern z=true)∧L.length≤256∧zDn zs v kern=some (L,0)∧zJT zs v kern=some (L,0):=by
 have hn:=h.n
 obtain ⟨L,l1,l2,l3⟩:=zWb h hv kern
 obtain ⟨ns,n1,n2,n3,n4⟩:=zTa h hv
 obtain ⟨M,m1,m2,m3⟩:=zVi h (kern:=kern) (ns:=ns) n2 n1 ns.length zAD 0 [] (by omega) (by unfold zAD; omega) (Nat.le_refl _) Srt.nil (fun z=>⟨fun hz=>(by cases hz),fun ⟨_,_,hz⟩=>by simp at hz⟩)
 have hm:∀ z,z∈M↔z∈L:=fun z=>by
  rw [m2,l2]
  constructor
  ·rintro ⟨a,b,_⟩; exact ⟨a,b⟩
  ·rintro ⟨a,b⟩
   obtain ⟨k,e,hk⟩:=a
   subst e
   exact ⟨⟨k,rfl,hk⟩,b,(n3 _).2 ⟨k,hk,rfl⟩⟩
 have e:L=M:=by
  refine zUQ (g:=gK zs v) (zQa l1 m1 (fun x => ?_)) (fun a b ha hb hg => ?_)
  ·constructor
   ·intro hx
    obtain ⟨z,hz,rfl⟩:=List.mem_map.1 hx
    exact List.mem_map_of_mem ((hm z).2 hz)
   ·intro hx
    obtain ⟨z,hz,rfl⟩:=List.mem_map.1 hx
    exact List.mem_map_of_mem ((hm z).1 hz)
  ·obtain ⟨i,rfl,hi⟩:=((l2 a).1 ha).1
   obtain ⟨j,rfl,hj⟩:=((l2 b).1 ((hm b).1 hb)).1
   unfold gK at hg
   omega
 have hlen:L.length≤256:=by
  have:=zQI l1 (fun f hf=>by
   obtain ⟨z,hz,rfl⟩:=List.mem_map.1 hf
   obtain ⟨⟨k,rfl,hk⟩,_⟩:=(l2 z).1 hz
   have:=zQO h hv hk
   unfold gK
   omega)
  rwa [List.length_map] at this
 refine ⟨L,l2,hlen,l3,?_⟩
 unfold zJT
 rw [n4,zB8]
 rw [z5 (by rfl)]
 rw [e]
 exact m3
end
end Go.Proofs.YtplkliakhdkpcaaGreat
namespace Go.Proofs.YtplkliakhdkpcaaGreat
open Go Go.RowKit Go.Wk Go.Am
section
variable {a:zJ} {c p:Nat}
def zIW (a:zJ) (c p:Nat):zJ:=upd a c p [] (zMH (Zn a p) (Lf a c p))
theorem zMb (h:Wa a) (hc:c<a.caches.length) (hp:p<a.zones.length):zDI a (c:Int) (p:Int)=some (zIW a c p)∧zHk a (c:Int) (p:Int)=some (zIW a c p)∧Wa (zIW a c p):=by
 have hpc:=h.pc hc
 have hlim:=h.lim c p hc
 have hbh:=h.bh
 obtain ⟨g1,g2,g3⟩:=zOe (Lf a c p) (h.zs p hp) (fun f hf=>h.own c p f hc hf) (h.nd c p hc)
 have hg:=fun cs=>zVp (a:=⟨a.nodes,a.batch,a.high,a.zones,cs⟩) (fs:=Lf a c p) (by omega) hp (h.zs p hp) (fun f hf=>h.own c p f hc hf) (h.nd c p hc)
 refine ⟨?_,?_,?_⟩
 ·unfold zDI
  rw [zZ (zAI hc),zWc hpc hp,zB8,zAG (by rfl)]
  show ((zE8 ⟨a.nodes,a.batch,a.high,a.zones,a.caches.set c ⟨(at_ a.caches (c:Int)).lists.set p []⟩⟩ (p:Int) (Lf a c p)).bind _)=_
  rw [(hg _).1,zB8]
  rfl
 ·unfold zHk
  rw [zZ (zAI hc),zXM hpc hp,zB8]
  show ((zJ5 ⟨a.nodes,a.batch,a.high,a.zones,a.caches.set c ⟨(at_ a.caches (c:Int)).lists.set p []⟩⟩ (p:Int) (Lf a c p)).bind _)=_
  rw [(hg _).2,zB8]
  rfl
 ·refine zUf h hc hp g1 g3 (by show ((0:Nat):Int)≤_; omega) List.nodup_nil (fun f hf=>by cases hf) (fun d f hd hdc hf=>⟨by simp,fun hcv => ?_⟩)
  rcases (g2 f).1 hcv with h1 | h1
  ·exact (h.own d p f hd hf).2 h1
  ·exact hdc (h.dis d c p p f hd hc hf h1).1
def zBG (p:Nat):Nat→Nat→zJ→zJ
 | 0,_,a=>a
 | m+1,c,a=>zBG p m (c+1) (zIW a c p)
theorem zT0 (h:Wa a) (hc:c<a.caches.length) (hp:p<a.zones.length) (d q:Nat):Lf (zIW a c p) d q=if d=c∧q=p then [] else Lf a d q:=zUT h hc hp d q
theorem zLF:(zIW a c p).caches.length=a.caches.length∧(zIW a c p).zones.length=a.zones.length:=⟨List.length_set,List.length_set⟩
end
end Go.Proofs.YtplkliakhdkpcaaGreat
namespace Go.Proofs.YtplkliakhdkpcaaGreat
open Go Go.RowKit Go.Wk Go.Am
section
variable {a:zJ} {c p:Nat}
theorem zMz:∀ (m i:Nat) {a:zJ},Wa a→i+m≤a.caches.length→p<a.zones.length →
  Wa (zBG p m i a)∧(zBG p m i a).caches.length=a.caches.length∧(zBG p m i a).zones.length=a.zones.length∧(zBG p m i a).batch=a.batch∧(∀ d q,Lf (zBG p m i a) d q=if i≤d∧d<i+m∧q=p then [] else Lf a d q)∧(∀ q,q≠p→Zn (zBG p m i a) q=Zn a q) ∧
  (∀ g,cov (Zn (zBG p m i a) p) g↔cov (Zn a p) g ∨ ∃ d,i≤d∧d<i+m∧g∈Lf a d p)
 | 0,i,a,h,_,_=>⟨h,rfl,rfl,rfl,fun d q=>by rw [if_neg (by omega)]; rfl,fun q _=>rfl,fun g=>⟨.inl,fun x=>x.elim id (fun ⟨d,h1,h2,_⟩=>by omega)⟩⟩
 | m+1,i,a,h,hm,hp=>by
  have hi:i<a.caches.length:=by omega
  obtain ⟨_,_,hw⟩:=zMb h hi hp
  obtain ⟨s1,s2⟩:=zLF (a:=a) (c:=i) (p:=p)
  have hL:=zT0 h hi hp
  obtain ⟨_,g2,_⟩:=zOe (Lf a i p) (h.zs p hp) (fun f hf=>h.own i p f hi hf) (h.nd i p hi)
  obtain ⟨r1,r2,r3,r4,r5,r6,r7⟩:=zMz m (i+1) hw (by rw [s1]; omega) (by rw [s2]; exact hp)
  have hZ:Zn (zIW a i p) p=zMH (Zn a p) (Lf a i p):=by
   unfold zIW
   rw [zSu hp,if_pos rfl]
  refine ⟨r1,r2.trans s1,r3.trans s2,r4,fun d q => ?_,fun q hq => ?_,fun g => ?_⟩
  ·show Lf (zBG p m (i+1) (zIW a i p)) d q=_
   rw [r5,hL]
   by_cases h1:i+1≤d∧d<i+1+m∧q=p
   ·rw [if_pos h1,if_pos (by omega)]
   ·rw [if_neg h1]
    by_cases h2:d=i∧q=p
    ·rw [if_pos h2,if_pos (by omega)]
    ·rw [if_neg h2,if_neg (by omega)]
  ·show Zn (zBG p m (i+1) (zIW a i p)) q=_
   rw [r6 q hq]
   unfold zIW
   rw [zSu hp,if_neg hq]
  ·show cov (Zn (zBG p m (i+1) (zIW a i p)) p) g↔_
   rw [r7,hZ,g2]
   constructor
   ·rintro ((h1 | h1) | ⟨d,h1,h2,h3⟩)
    ·exact .inl h1
    ·exact .inr ⟨i,Nat.le_refl _,by omega,h1⟩
    ·rw [hL,if_neg (by omega)] at h3
     exact .inr ⟨d,by omega,by omega,h3⟩
   ·rintro (h1 | ⟨d,h1,h2,h3⟩)
    ·exact .inl (.inl h1)
    ·by_cases hd:d=i
     ·subst hd; exact .inl (.inr h3)
     ·exact .inr ⟨d,by omega,by omega,by rw [hL,if_neg (by omega)]; exact h3⟩
def BoG {β:Type} (x y:Option (zJ×β)):Prop := ∃ r,x=some r∧y=some r∧Sm r.1
theorem Wa.gn (h:Wa a):Gn a.zones:=by
 have hz:∀ z,z∈a.zones→ranges z=true:=fun z hz=>by
  obtain ⟨q,hq,e⟩:=List.getElem_of_mem hz
  have:=(h.zs q hq).ranges
  unfold Zn at this
  rw [zHb hq,e] at this
  exact this
 exact ⟨h.zn.2,fun z hm=>by have:=zBV (hz z hm); omega,fun z hm=>(zBV (hz z hm)).2.2.1⟩
theorem Wa.vn (h:Wa a) (hc:c<a.nodes.length):0≤at_ a.nodes (c:Int)∧at_ a.nodes (c:Int)<4:=h.nr _ (zA9 hc)
end
end Go.Proofs.YtplkliakhdkpcaaGreat
namespace Go.Proofs.YtplkliakhdkpcaaGreat
open Go Go.RowKit Go.Wk Go.Am
section
variable {a:zJ} {c p:Nat}
theorem Wa.al (h:Wa a):Al a:=by
 have h1:=h.n
 have h2:=h.zn
 have h3:=h.cn
 refine ⟨by omega,by omega,by omega,fun z hz => ?_,fun x hx => ?_⟩
 ·obtain ⟨q,hq,e⟩:=List.getElem_of_mem hz
  have:=h.zs q hq
  unfold Zn at this
  rw [zHb hq,e] at this
  exact ⟨this.zk,this.inI⟩
 ·obtain ⟨d,hd,e⟩:=List.getElem_of_mem hx
  have:=(h.pc hd).ck
  rw [zHb hd,e] at this
  exact this
theorem Wa.va (h:Wa a):Va a:=by
 refine ⟨h.al,h.se,fun x hx => ?_,h.zn.1⟩
 obtain ⟨d,hd,e⟩:=List.getElem_of_mem hx
 have:=h.cl d hd
 rw [zHb hd,e] at this
 exact this
theorem zV5 {K k:Nat} {x3:List Int×Int} {i1:Int} {l2:List zL} {se:Int→List Int→Int→Int→List zi→List zL→Option (zJ×Int×Int)} (hx:at_ x3.1 i1=(p:Int)) (hl2:l2.length=K) (hK:K≤1000):∀ (m n i:Nat) (b:zJ),i+m=K→m<n→Wa b→b.caches.length=K→p<b.zones.length →
  zBe se (k:Int) x3 i1 l2 n (i:Int) b.nodes b.batch b.high b.zones b.caches=zCS se (k:Int) x3 i1 (zBG p m i b).nodes (zBG p m i b).batch (zBG p m i b).high (zBG p m i b).zones (zBG p m i b).caches:=by
 intro m
 induction m with
 | zero =>
  intro n i b h1 h2 hw hb hp
  obtain ⟨n,rfl⟩:=ex1 ‹_<n›
  show zBJ _ _ _ _ _ _ _ _ _ _ _ _=_
  unfold zBJ
  rw [z5 (df (by omega))]
  rfl
 | succ m ih =>
  intro n i b h1 h2 hw hb hp
  obtain ⟨n,rfl⟩:=ex1 ‹_<n›
  obtain ⟨d1,d2,d3⟩:=zMb hw (c:=i) (by omega) hp
  have q:=ih n (i+1) (zIW b i p) (by omega) (by omega) d3 (zLF.1.trans hb) (by rw [zLF.2]; exact hp)
  show zBJ _ _ _ _ _ _ _ _ _ _ _ _=_
  unfold zBJ
  rw [zAG (dt (by omega)),hx,show (⟨b.nodes,b.batch,b.high,b.zones,b.caches⟩:zJ)=b from rfl,d1,zB8,zZ (z8 (by omega)),show zBG p (m+1) i b=zBG p m (i+1) (zIW b i p) from rfl]
  exact q
theorem zWg {K k:Nat} {x3:List Int×Int} {i1:Int} {se:Int→List Int→Int→Int→List zi→List zL→Option (zJ×Int×Int)} (hx:at_ x3.1 i1=(p:Int)) (hK:K≤1000):∀ (m n i:Nat) (b:zJ),i+m=K→m<n→Wa b→b.caches.length=K→p<b.zones.length →
  zCi se (k:Int) x3 i1 n (i:Int) b.nodes b.batch b.high b.zones b.caches=zDM se (k:Int) x3 i1 (zBG p m i b).nodes (zBG p m i b).batch (zBG p m i b).high (zBG p m i b).zones (zBG p m i b).caches:=by
 intro m
 induction m with
 | zero =>
  intro n i b h1 h2 hw hb hp
  obtain ⟨n,rfl⟩:=ex1 ‹_<n›
  show zBw _ _ _ _ _ _ _ _ _ _ _=_
  unfold zBw
  rw [z5 (df (by omega))]
  rfl
 | succ m ih =>
  intro n i b h1 h2 hw hb hp
  obtain ⟨n,rfl⟩:=ex1 ‹_<n›
  obtain ⟨d1,d2,d3⟩:=zMb hw (c:=i) (by omega) hp
  have q:=ih n (i+1) (zIW b i p) (by omega) (by omega) d3 (zLF.1.trans hb) (by rw [zLF.2]; exact hp)
  show zBw _ _ _ _ _ _ _ _ _ _ _=_
  unfold zBw
  rw [zAG (dt (by omega)),hx,show (⟨b.nodes,b.batch,b.high,b.zones,b.caches⟩:zJ)=b from rfl,d2,zB8,zZ (z8 (by omega)),show zBG p (m+1) i b=zBG p m (i+1) (zIW b i p) from rfl]
  exact q
theorem zUn {Z C k:Nat} {L:List Int} (hk:k≤4) (hL:∀ z,z∈L → ∃ p:Nat,z=(p:Int)∧p<Z) (hLl:L.length≤256):∀ (m n i:Nat) (b:zJ),i+m=L.length→m<n→Wa b→b.zones.length=Z→b.caches.length=C →
  BoG (zAF (k:Int) (L,0) n (i:Int) b.nodes b.batch b.high b.zones b.caches) (zAS (k:Int) (L,0) n (i:Int) b.nodes b.batch b.high b.zones b.caches):=by
 intro m
 induction m with
 | zero =>
  intro n i b h1 h2 hw hz hc
  obtain ⟨n,rfl⟩:=ex1 ‹_<n›
  refine ⟨(⟨[],0,0,[],[]⟩,0,16),?_,?_,zXZ⟩
  ·show zBI _ _ _ _ _ _ _ _ _=_
   unfold zBI
   rw [z5 (df (show ¬ (i:Int)<(L.length:Int) by omega))]
   rfl
  ·show zBv _ _ _ _ _ _ _ _ _=_
   unfold zBv
   rw [z5 (df (show ¬ (i:Int)<(L.length:Int) by omega))]
   rfl
 | succ m ih =>
  intro n i b h1 h2 hw hz hc
  obtain ⟨n,rfl⟩:=ex1 ‹_<n›
  have hi:i<L.length:=by omega
  obtain ⟨p,ep,hp⟩:=hL _ (zA9 hi)
  rw [← hz] at hp
  have hbn:=hw.n
  have hbc:=hw.cn
  have hc0:0<b.caches.length:=by omega
  obtain ⟨k1,k2,k3,k4⟩:=zW7 hw.va hp
  have hmin:=zXF hw.va hp
  obtain ⟨e,p1,p2⟩:=zJW (k:=k) (by omega)
  have hroom:zD1 b (p:Int)=some (zR7 b p - (at_ b.zones (p:Int)).min):=by
   unfold zD1
   rw [k1,zB8,zZ (zAI hp),zZ (z8 (by omega))]
  have hx:at_ (L,(0:Int)).1 (i:Int)=(p:Int):=ep
  have hP:∀ R,(¬ zR7 b p - (at_ b.zones (p:Int)).min<2 ^ k→zBe (zAF (k:Int) (L,0) n) (k:Int) (L,0) (i:Int) b.caches zAD 0 b.nodes b.batch b.high b.zones b.caches=R)→(zR7 b p - (at_ b.zones (p:Int)).min<2 ^ k→zAF (k:Int) (L,0) n ((i+1:Nat):Int) b.nodes b.batch b.high b.zones b.caches=R) →
    zAF (k:Int) (L,0) (n+1) (i:Int) b.nodes b.batch b.high b.zones b.caches=R:=fun R g1 g2=>by
   show zBI _ _ _ _ _ _ _ _ _=_
   unfold zBI zBc
   rw [zAG (dt (show (i:Int)<(L.length:Int) by omega)),zZ (show inb (i:Int) L.length=true from zAI hi),hx,show (⟨b.nodes,b.batch,b.high,b.zones,b.caches⟩:zJ)=b from rfl,hroom,zB8,zZ (zM7 (by omega)),e,zZ (z8 (by omega))]
   by_cases h0:zR7 b p - (at_ b.zones (p:Int)).min<2 ^ k
   ·rw [zAG (dt h0),zZ (z8 (by omega))]
    exact g2 h0
   ·rw [z5 (df h0)]
    exact g1 h0
  have hR:∀ R,(¬ zR7 b p - (at_ b.zones (p:Int)).min<2 ^ k→zCi (zAS (k:Int) (L,0) n) (k:Int) (L,0) (i:Int) zAD 0 b.nodes b.batch b.high b.zones b.caches=R)→(zR7 b p - (at_ b.zones (p:Int)).min<2 ^ k→zAS (k:Int) (L,0) n ((i+1:Nat):Int) b.nodes b.batch b.high b.zones b.caches=R) →
    zAS (k:Int) (L,0) (n+1) (i:Int) b.nodes b.batch b.high b.zones b.caches=R:=fun R g1 g2=>by
   show zBv _ _ _ _ _ _ _ _ _=_
   unfold zBv zCg
   rw [zAG (dt (show (i:Int)<(L.length:Int) by omega)),zZ (show inb (i:Int) L.length=true from zAI hi),hx,show (⟨b.nodes,b.batch,b.high,b.zones,b.caches⟩:zJ)=b from rfl,k2,zB8,zZ (dt (zGo (by omega) (by omega))),zZ (zM7 (by omega)),e,zZ (z8 (by omega)),zZ (z8 (by omega)),zZ (zAI hp)]
   by_cases h0:zR7 b p - (at_ b.zones (p:Int)).min<2 ^ k
   ·rw [zAG (dt (by omega)),zZ (z8 (by omega))]
    exact g2 h0
   ·rw [z5 (df (by omega))]
    exact g1 h0
  by_cases h0:zR7 b p - (at_ b.zones (p:Int)).min<2 ^ k
  ·rw [hP _ (fun hh=>absurd h0 hh) (fun _=>rfl),hR _ (fun hh=>absurd h0 hh) (fun _=>rfl)]
   exact ih n (i+1) b (by omega) (by omega) hw hz hc
  ·obtain ⟨r1,r2,r3,r4,r5,r6,r7⟩:=zMz (p:=p) b.caches.length 0 hw (by omega) hp
   have q1:=(zV5 (k:=k) (x3:=(L,0)) (i1:=(i:Int)) (l2:=b.caches) (se:=zAF (k:Int) (L,0) n) hx rfl (by omega) b.caches.length zAD 0 b (by omega) (by unfold zAD; omega) hw rfl hp)
   have q2:=(zWg (k:=k) (x3:=(L,0)) (i1:=(i:Int)) (se:=zAS (k:Int) (L,0) n) hx (by omega) b.caches.length zAD 0 b (by omega) (by unfold zAD; omega) hw rfl hp)
   generalize hb':zBG p b.caches.length 0 b=b' at *
   have hp':p<b'.zones.length:=by omega
   have ho:=r1.zs p hp'
   rw [hP _ (fun _=>q1) (fun hh=>absurd hh h0),hR _ (fun _=>q2) (fun hh=>absurd hh h0)]
   unfold zCS zDM
   rw [hx,zZ (zAI hp'),zZ (zAI hp'),show at_ b'.zones (p:Int)=Zn b' p from rfl,zXI ho hk,zWl ho hk,zB8,zB8]
   cases hf:zRX (Zn b' p) k (5 - k) with
   | none =>
    rw [zQT hf,z5 (by rfl),z5 (by rfl)]
    unfold zBc zCg
    rw [zZ (z8 (by omega)),zZ (z8 (by omega))]
    exact ih n (i+1) b' (by omega) (by omega) r1 (by omega) (by omega)
   | some j =>
    obtain ⟨w1,w2,w3,w4,w5,w6⟩:=zP7 ho hf
    rw [zAG (by rw [w1]; rfl),zAG (by rw [w1]; rfl)]
    refine ⟨_,rfl,rfl,?_⟩
    have hl0:∀ d,d<b'.caches.length→Lf b' d p=[]:=fun d hd=>by rw [r5,if_pos ⟨Nat.zero_le _,by omega,rfl⟩]
    have hcl:b'.caches.set 0 ⟨(at_ b'.caches ((0:Nat):Int)).lists.set p []⟩=b'.caches:=by
     have e1:(at_ b'.caches ((0:Nat):Int)).lists.set p ([]:List Int)=(at_ b'.caches ((0:Nat):Int)).lists:=by
      rw [← hl0 0 (by omega)]
      exact zOF (by rw [r1.cl 0 (by omega)]; exact hp')
     rw [e1]
     exact zOF (by omega)
    have hW:=zUf (l:=[]) r1 (c:=0) (by omega) hp' w2 w3 (by have:=r1.bh; show ((0:Nat):Int)≤_; omega) List.nodup_nil (fun f hf=>by cases hf) (fun d f hd _ hf=>by rw [hl0 d hd] at hf; cases hf)
    unfold upd at hW
    rw [hcl] at hW
    exact hW.sm
theorem zRq (ha:Al a) (c o:Int):BoG (zCU a c o) (zEx a c o):=by
 unfold zCU zEx
 rw [zWt ha,zVt ha,zB8,zB8]
 by_cases h:zT3 a=0
 ·have hw:=zXp ha h
  rw [dt h,Bool.not_true,z5 rfl,z5 rfl]
  cases hd:((((decide (c<0))||(decide ((a.nodes.length:Int)≤c)))||(decide (o<0)))||(decide (4<o))) with
  | true=>exact ⟨_,rfl,rfl,zXZ⟩
  | false =>
   simp only [Bool.or_eq_false_iff,decide_eq_false_iff_not] at hd
   obtain ⟨d,rfl⟩:=Int.eq_ofNat_of_zero_le (show 0≤c by omega)
   obtain ⟨k,rfl⟩:=Int.eq_ofNat_of_zero_le (show 0≤o by omega)
   have hdn:d<a.nodes.length:=by omega
   obtain ⟨L,l1,l2,l3,l4⟩:=zWp hw.gn (hw.vn hdn) false
   rw [z5 rfl,z5 rfl,zWd ha,zB8,zZ (zAI hdn),zZ (zAI hdn),l3,l4,zB8,zB8,zWr ha,zB8]
   exact zUn (by omega) (fun z hz=>((l1 z).1 hz).1) l2 L.length zAD 0 a (by omega) (by unfold zAD; omega) hw rfl rfl
 ·rw [df h]
  exact ⟨_,rfl,rfl,zXZ⟩
theorem zTc (hg:∀ z,z∈a.zones→Gz z) (c f:Int):zDd a c f=some true:=by
 obtain ⟨b,b1,b2⟩:=few hg
 unfold zDd
 rw [zWE,zB8,Bool.not_true,Bool.not_false,zAG rfl,b1,zB8]
 cases b with
 | false=>rfl
 | true =>
  obtain ⟨r,r1,r2,r3⟩:=zRq (b2 rfl) c f
  refine (z5 (by rfl)).trans ?_
  rw [r1,zB8,r2,zB8,dt rfl,dt rfl,Bool.and_self,zAG rfl,zW3 r3]
  rfl
end
end Go.Proofs.YtplkliakhdkpcaaGreat
namespace Go.Proofs.YtplkliakhdkpcaaGreat
open Go Go.ChangeShapes Go.WideShapes Go.ChangeAt Go.RowKit Go.Wk Go.Am
theorem own:ownKnob Tryz.prog.godebug=none:=by kernel_rfl
theorem zVP:laidOutB Tryz.prog=true:=by kernel_rfl
theorem zXD {n:Int} (h:(Lit.int .i64 n).wf=true):inI n=true:=by
 refine z8 ?_
 simp [Lit.wf,IntKind.min,IntKind.max,IntKind.signed,IntKind.bits] at h
 omega
theorem zOA:RdC Tryz.prog 3 cI (fun n=>inI n=true):=RdC.map (zVL Tryz.underlying3) id (fun _=>rfl) (fun _ h=>zXD h)
theorem zQk:RdC Tryz.prog 22 (cS cI) (fun l=>(∀ x,x∈l→inI x=true)∧l.length≤140737488351232):=zMJ Tryz.underlying22 (of_decide_eq_true (by kernel_rfl)) (of_decide_eq_true (by kernel_rfl)) zOA
theorem zWT:RdC Tryz.prog 49 (cA 5 (eS cI) ([]:List Int)) (fun l=>l.length=5 ∧ ∀ x,x∈l→(∀ y,y∈x→inI y=true)∧x.length≤140737488351232):=zVU [] Tryz.underlying49 (by kernel_rfl) (by kernel_rfl) zQk
theorem zXA:RdC Tryz.prog 51 zO Gz :=
 RdC.map (zMk (tot:=10) Tryz.underlying51 (by kernel_rfl) (zGe (s:=1) zOA rfl (by kernel_rfl) (zGe (s:=1) zOA rfl (by kernel_rfl) (zGe (s:=1) zOA rfl (by kernel_rfl) (zGe (s:=1) zOA rfl (by kernel_rfl) (zGe (s:=1) zOA rfl (by kernel_rfl) (zGe (s:=5) zWT rfl (by kernel_rfl) (zQH rfl))))))))
  (fun x=>⟨x.1,x.2.1,x.2.2.1,x.2.2.2.1,x.2.2.2.2.1,x.2.2.2.2.2.1⟩) (fun _=>rfl) (fun _ h=>⟨h.2.2.2.2.2.1.1,h.2.2.1⟩)
theorem zVo:RdC Tryz.prog 23 (cS zO) (fun l=>(∀ x,x∈l→Gz x)∧l.length≤140737488351232):=zMJ Tryz.underlying23 (of_decide_eq_true (by kernel_rfl)) (of_decide_eq_true (by kernel_rfl)) zXA
theorem zVl:RdC Tryz.prog 53 (cS (cS cI)) (fun l=>(∀ x,x∈l→(∀ y,y∈x→inI y=true)∧x.length≤140737488351232)∧l.length≤140737488351232):=zMJ Tryz.underlying53 (of_decide_eq_true (by kernel_rfl)) (of_decide_eq_true (by kernel_rfl)) zQk
theorem zUx:RdC Tryz.prog 55 zG (fun _=>True) :=
 RdC.map (zMk (tot:=1) Tryz.underlying55 (by kernel_rfl) (zGe (s:=1) zVl rfl (by kernel_rfl) (zQH rfl))) (fun x=>⟨x.1⟩) (fun _=>rfl) (fun _ _=>trivial)
theorem zTp:RdC Tryz.prog 24 (cS zG) (fun l=>(∀ x,x∈l→True)∧l.length≤140737488351232):=zMJ Tryz.underlying24 (of_decide_eq_true (by kernel_rfl)) (of_decide_eq_true (by kernel_rfl)) zUx
theorem zVm:RdC Tryz.prog 26 zI (fun a => ∀ z,z∈a.zones→Gz z) :=
 RdC.map (zMk (tot:=5) Tryz.underlying26 (by kernel_rfl) (zGe (s:=1) zQk rfl (by kernel_rfl) (zGe (s:=1) zOA rfl (by kernel_rfl) (zGe (s:=1) zOA rfl (by kernel_rfl) (zGe (s:=1) zVo rfl (by kernel_rfl) (zGe (s:=1) zTp rfl (by kernel_rfl) (zQH rfl)))))))
  (fun x=>⟨x.1,x.2.1,x.2.2.1,x.2.2.2.1,x.2.2.2.2.1⟩) (fun _=>rfl) (fun _ h=>h.2.2.2.1.1)
set_option maxRecDepth 100000 in
theorem zKd (os:Os) (started:os.Started) (H:Type) (enc:TypeId×Value→H) :
  ReturnsInHanded {} Tryz.checked os 5 .any (Rows.allocatorBlocksSpec.pre6 enc Tryz.prog Tryz.f5 Rows.allocatorBlocksRow.domain false) (Rows.allocatorBlocksSpec.post enc Tryz.prog Tryz.f5 false true false false):=by
 refine returnsInHanded_of_change_sized (C:=Tryz.checked) own started (by kernel_rfl) Tryz.func5
  (ChangeSpec.witness6 (enc:=enc) (C:=Tryz.checked) false ⟨#[], #[.agg #[.slice none 0 0,.int .i64 0,.int .i64 0,.slice none 0 0,.slice none 0 0],.int .i64 0,.int .i64 0],[]⟩ 8 (by kernel_rfl) (by kernel_rfl) (by kernel_rfl) (by kernel_rfl)) ?_
 intro W base args ds gs before hval0 hW hcnd0 hsz0 _
 have hsz:(DataW.weightsEach Tryz.prog (Tryz.f5.params.toList++Rows.allocatorBlocksSpec.plain.varTypes Tryz.prog) (ds++gs)).all (· ≤ reachBytes)=true:=hsz0
 have hval:∀ (j:Nat) t v,Tryz.f5.params[j]?=some t→args[j]?=some v→Value.okWide Tryz.prog W .any base t v:=hval0
 clear hcnd0 hsz0 hval0
 have hW':=hW
 obtain ⟨p,q,hA0,hV,rfl,hfz,hnd⟩:=hW
 have hA:DataW.TrodAll enc Tryz.prog W 0 (fun _=>true) true Tryz.f5.params.toList args.toList ds p:=hA0
 clear hA0
 rw [Tryz.params5] at hA hval hsz
 obtain ⟨v0,v1,v2,d0,d1,d2,p0,p1,p2,rfl,rfl,rfl,h0,h1,h2⟩:=trodAll_three hA
 obtain ⟨rfl,rfl⟩:=trodVars_none hV
 simp only [List.append_nil] at hW' hsz
 have hlt:=hW'.lt
 have hwt:∀ (j:Nat) (t:TypeId) (d:DataW H),([26,3,3]:List TypeId)[j]?=some t→[d0,d1,d2][j]?=some d → ∀ n,n∈d.weights Tryz.prog t→n≤reachBytes:=by
  intro j t d ht hd n hn
  have:=List.all_eq_true.1 hsz n (DataW.weights_mem_each (ts:=[26,3,3]++Rows.allocatorBlocksSpec.plain.varTypes Tryz.prog) (by rw [List.getElem?_append_left (by have:=(List.getElem?_eq_some_iff.1 ht).1; exact this)]; exact ht) hd n hn)
  simpa using this
 obtain ⟨xs,rfl,hxs⟩:=okWide_struct Tryz.underlying26 (hval 0 26 v0 rfl rfl)
 obtain ⟨i1,rfl⟩:=okWide_int Tryz.underlying3 (hval 1 3 v1 rfl rfl)
 obtain ⟨i2,rfl⟩:=okWide_int Tryz.underlying3 (hval 2 3 v2 rfl rfl)
 obtain ⟨a,r0,hg⟩:=zVm.argA h0 (hwt 0 26 d0 rfl rfl) rfl
 obtain ⟨x1,r1,y1⟩:=zOA.arg1 (g:=eI) h1 (hwt 1 3 d1 rfl rfl) rfl
 obtain ⟨x2,r2,y2⟩:=zOA.arg1 (g:=eI) h2 (hwt 2 3 d2 rfl rfl) rfl
 have hk:∀ (W':World),Below W.heap.size W W' → ∀ (t:TypeId) (v:Value) (d:DataW H) (ps:List MemPlace),Tryz.prog.readableRec t=true→t<Tryz.prog.types.size→DataW.Trod enc Tryz.prog W 0 (fun _=>true) true t v d ps→(∀ x∈ps,x.block<W.heap.size)→DataW.Trod enc Tryz.prog W' 0 (fun b=>decide (b<W.heap.size)) true t v d ps :=
  fun W' hb t v d ps hr hs h hl=>Below.trod zVP hr hs h hb hl
 refine (zKE (zTc hg x1 x2) W noB _ (fun x h=>h.elim) (show VRt W noB [] _ [_,_,_] [] from ?_)).mono ?_
 ·unfold VRt
  refine ⟨_,_,[],[],rfl,rfl,r0,?_⟩
  unfold VRt
  refine ⟨_,_,[],[],rfl,rfl,r1,?_⟩
  unfold VRt
  refine ⟨_,_,[],[],rfl,rfl,r2,?_⟩
  unfold VRt
  exact ⟨rfl,rfl⟩
 ·rintro v W' ⟨fr,hv,_,_,kp⟩
  unfold VR at hv
  obtain ⟨rfl,_⟩:=hv
  have hb:Below W.heap.size W W':=⟨kp.os,kp.tape,kp.output,kp.size,fun k hk=>kp.block k hk id⟩
  refine ⟨_,_,_,[],_,[],hW',trodAll_mk1 (shut_bool Tryz.underlying4 true),trodAll_mk3 (hk W' hb _ _ _ _ (by kernel_rfl) (of_decide_eq_true (by kernel_rfl)) h0 (fun x hx=>hlt x (by simp [hx]))) (hk W' hb _ _ _ _ (by kernel_rfl) (of_decide_eq_true (by kernel_rfl)) h1 (fun x hx=>hlt x (by simp [hx]))) (hk W' hb _ _ _ _ (by kernel_rfl) (of_decide_eq_true (by kernel_rfl)) h2 (fun x hx=>hlt x (by simp [hx]))),rfl,hb.frame _,fun h=>by cases h⟩
theorem allocatorBlocks_holds:Rows.AllocatorBlocksSaid :=
 OpenClaim.holds_of_wide 5 Tryz.f5 rfl rfl rfl rfl rfl rfl rfl ⟨rfl,rfl,rfl,rfl,rfl⟩ rfl rfl rfl rfl rfl (by kernel_rfl) Tryz.func5 (by kernel_rfl)
  (of_decide_eq_true (by kernel_rfl)) (by unfold Func.isWrapper; first | (rw [if_pos (by decide +kernel)]; kernel_rfl) | (rw [if_neg (by decide +kernel)]; exact ⟨rfl,rfl⟩))
  (fun os started H enc _=>zKd os started H enc)
end Go.Proofs.YtplkliakhdkpcaaGreat
