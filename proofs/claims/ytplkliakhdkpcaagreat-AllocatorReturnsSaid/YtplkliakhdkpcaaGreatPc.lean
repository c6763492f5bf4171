/-
  What the printed functions of the reference's layer 12 give: the canonical lists of a set. No program in sight.
-/
import Derived.Test.YtplkliakhdkpcaaGreatPb
set_option linter.unusedVariables false
set_option linter.unusedSimpArgs false
namespace Go.Proofs.YtplkliakhdkpcaaGreat
open Go Go.RowKit Go.Wk Go.Am
theorem zRB {s:List Int} {f k:Nat} (hk:k≤4) (hs:f+2 ^ k≤s.length) (hl:s.length=256):∀ (m n i:Nat),i+m=f+2 ^ k→m<n→f≤i→(∀ g,f≤g→g<i→s.getD g 0≠0) →
    zHR s (f:Int) (k:Int) n (i:Int)=some (decide (∀ g,g<2 ^ k→s.getD (f+g) 0≠0)):=by
  intro m
  obtain ⟨e,p1,p2⟩:=zIn (k:=k) (by omega)
  have pn:=zLW (k:=k) (by omega)
  induction m with
  | zero =>
    intro n i h1 h2 h3 h4
    obtain ⟨n,rfl⟩:∃ q,n=q+1:=⟨n - 1,by omega⟩
    show zE3 _ _ _ _ _=_
    unfold zE3
    rw [e,zi (dt (zGr (by omega) (by omega))),zi (zLa (by omega)),zi (zAE (by omega)),zi (zAE (by omega)),zAG (df (by omega))]
    rw [dt (p := ∀ g,g<2 ^ k→s.getD (f+g) 0≠0) (fun g hg=>h4 (f+g) (by omega) (by omega))]
    rfl
  | succ m ih =>
    intro n i h1 h2 h3 h4
    obtain ⟨n,rfl⟩:∃ q,n=q+1:=⟨n - 1,by omega⟩
    show zE3 _ _ _ _ _=_
    unfold zE3
    have hi:i<s.length:=by omega
    have hg:s.getD i 0=s[i]:=by rw [List.getD_eq_getElem?_getD,List.getElem?_eq_getElem hi]; rfl
    rw [e,zi (dt (zGr (by omega) (by omega))),zi (zLa (by omega)),zi (zAE (by omega)),zi (zAE (by omega)),zAY (dt (by omega)),zi (zAb hi),zII hi]
    by_cases hz:s[i]=0
    · rw [zAY (dt hz),df]
      intro hh
      have:=hh (i - f) (by omega)
      rw [show f+(i - f)=i by omega,hg] at this
      exact this hz
    · rw [zAG (df hz),zi (zAE (by omega))]
      refine ih n (i+1) (by omega) (by omega) (by omega) (fun g h5 h6 => ?_)
      by_cases hgi:g=i
      · rw [hgi,hg]; exact hz
      · exact h4 g h5 (by omega)
theorem zT1 {s:List Int} {f k:Nat} (hk:k≤4) (hs:f+2 ^ k≤s.length) (hl:s.length=256):zKm s (f:Int) (k:Int)=some (decide (∀ g,g<2 ^ k→s.getD (f+g) 0≠0)) :=
  zRB hk hs hl (2 ^ k) z9 f (by omega) (by have:=(zIn (k:=k) (by omega)).2.2; have:=zLW (k:=k) (by omega); unfold z9; omega) (by omega) (fun g h1 h2=>by omega)
def zl (z:zo) (l:List (List Int)):zo:={ z with free:=l }
def zer (l:List Int) (i:Nat):Nat→List Int
  | 0=>l
  | m+1=>zer (l.set i 0) (i+1) m
theorem zQM:∀ (m i:Nat) (l:List Int),(zer l i m).length=l.length
  | 0,_,_=>rfl
  | m+1,i,l=>by unfold zer; rw [zQM]; exact List.length_set ..
theorem zPL (l:List Int) (i g:Nat) (h:i<l.length) (x:Int):(l.set i x).getD g 0=if g=i then x else l.getD g 0:=by
  simp only [List.getD_eq_getElem?_getD,List.getElem?_set]
  by_cases hg:i=g
  · rw [if_pos hg,if_pos h,if_pos hg.symm]; rfl
  · rw [if_neg hg,if_neg (fun e=>hg e.symm)]
theorem zQA:∀ (m i:Nat) (l:List Int) (g:Nat),i+m≤l.length→(zer l i m).getD g 0=if i≤g∧g<i+m then 0 else l.getD g 0
  | 0,i,l,g,_=>by rw [if_neg (by omega)]; rfl
  | m+1,i,l,g,h=>by
    unfold zer
    rw [zQA m (i+1) _ g (by rw [List.length_set]; omega),zPL l i g (by omega)]
    by_cases h1:i+1≤g∧g<i+1+m
    · rw [if_pos h1,if_pos (by omega)]
    · rw [if_neg h1]
      by_cases h2:g=i
      · rw [if_pos h2,if_pos (by omega)]
      · rw [if_neg h2,if_neg (by omega)]
theorem zSm {se:Int→(List (List Int))→(List Int)→Option zo} {k f:Nat} {l:List (List Int)} (hk:k≤4) (h5:l.length=5) (hf:f+2 ^ k≤256):∀ (m n i:Nat) (s:List Int),i+m=f+2 ^ k→m<n→s.length=256 →
    zGB se (k:Int) (f:Int) l n (i:Int) s=zEL se (f:Int) (l.set k (l.getD k []++[(f:Int)])) (zer s i m):=by
  intro m
  obtain ⟨e,p1,p2⟩:=zIn (k:=k) (by omega)
  have pn:=zLW (k:=k) (by omega)
  induction m with
  | zero =>
    intro n i s h1 h2 h3
    obtain ⟨n,rfl⟩:∃ q,n=q+1:=⟨n - 1,by omega⟩
    show zED _ _ _ _ _ _ _=_
    unfold zED
    rw [e,zi (dt (zGr (by omega) (by omega))),zi (zLa (by omega)),zi (zAE (by omega)),zi (zAE (by omega)),zAG (df (by omega)),zKW h5 (by omega)]
    rfl
  | succ m ih =>
    intro n i s h1 h2 h3
    obtain ⟨n,rfl⟩:∃ q,n=q+1:=⟨n - 1,by omega⟩
    show zED _ _ _ _ _ _ _=_
    unfold zED
    rw [e,zi (dt (zGr (by omega) (by omega))),zi (zLa (by omega)),zi (zAE (by omega)),zi (zAE (by omega)),zAY (dt (by omega)),zi (zAb (by omega)),zi (zAE (by omega))]
    exact ih n (i+1) (s.set i 0) (by omega) (by omega) (by rw [List.length_set]; exact h3)
structure WI (z:zo) (s:List Int) (D:Nat→Int→Prop) (l:List (List Int)) (left:List Int):Prop where
  len:l.length=5
  llen:left.length=256
  srt:∀ k,Srt (lst (zl z l) k)
  ins:∀ k x,x∈lst (zl z l) k→inside z x k=true∧D k x
  dis:∀ k x j y g,x∈lst (zl z l) k→y∈lst (zl z l) j→x≤g→g<x+2 ^ k→y≤g→g<y+2 ^ j→k=j∧x=y
  lft:∀ g:Nat,g<256→(left.getD g 0≠0↔s.getD g 0≠0 ∧ ¬ cov (zl z l) g)
  sub:∀ g,cov (zl z l) g→s.getD g.toNat 0≠0
  max:∀ j x,D j x→j≤4→inside z x j=true → ∃ g,x≤g∧g<x+2 ^ j∧(s.getD g.toNat 0=0 ∨ ∃ i y,j≤i∧y∈lst (zl z l) i∧y≤g∧g<y+2 ^ i)
section
variable {z:zo} {s left left':List Int} {D D':Nat→Int→Prop} {l:List (List Int)} {k:Nat} {f:Int}
theorem WI.mono (h:WI z s D l left) (h1:∀ j x,inside z x j=true→D j x→D' j x) (h2:∀ j x,inside z x j=true→j≤4→D' j x→D j x):WI z s D' l left :=
  ⟨h.len,h.llen,h.srt,fun k x hx=>⟨(h.ins k x hx).1,h1 k x (h.ins k x hx).1 (h.ins k x hx).2⟩,h.dis,h.lft,h.sub,fun j x hd hj hi=>h.max j x (h2 j x hi hj hd) hj hi⟩
theorem WI.skip (h:WI z s D l left) (hr:ranges z=true) (hk:k≤4) (hD:∀ j x,D j x→k≤j) (hn:inside z f k=true → ∃ g,f≤g∧g<f+2 ^ k∧left.getD g.toNat 0=0):WI z s (fun j x=>D j x∨(j=k∧x=f)) l left:=by
  refine ⟨h.len,h.llen,h.srt,fun k x hx=>⟨(h.ins k x hx).1,.inl (h.ins k x hx).2⟩,h.dis,h.lft,h.sub,?_⟩
  rintro j x (hd | ⟨rfl,rfl⟩) hj hi
  · exact h.max j x hd hj hi
  · obtain ⟨g,g1,g2,g3⟩:=hn hi
    have hb:=zAf hr hi
    refine ⟨g,g1,g2,?_⟩
    have hl:=h.lft g.toNat (by omega)
    rw [Int.toNat_of_nonneg (by omega)] at hl
    by_cases hs:s.getD g.toNat 0=0
    · exact .inl hs
    · have hc:cov (zl z l) g:=by
        refine Classical.byContradiction fun hc => ?_
        exact hl.2 ⟨hs,hc⟩ g3
      obtain ⟨i,y,hy,y1,y2⟩:=hc
      exact .inr ⟨i,y,hD _ _ (h.ins i y hy).2,hy,y1,y2⟩
theorem WI.add (h:WI z s D l left) (hr:ranges z=true) (hk:k≤4) (hi:inside z f k=true) (hD:∀ j x,D j x→k<j∨(j=k∧x<f)) (hall:∀ g:Nat,f≤g→(g:Int)<f+2 ^ k→left.getD g 0≠0)
    (hl':left'.length=256) (hg':∀ g:Nat,left'.getD g 0=if f≤(g:Int)∧(g:Int)<f+2 ^ k then 0 else left.getD g 0):WI z s (fun j x=>D j x∨(j=k∧x=f)) (l.set k (l.getD k []++[f])) left':=by
  have hb:=zAf hr hi
  have hls:∀ j,lst (zl z (l.set k (l.getD k []++[f]))) j=if j=k then lst (zl z l) k++[f] else lst (zl z l) j:=fun j=>zOY (z:=zl z l) h.len (by omega)
  have hm:∀ j y,y∈lst (zl z (l.set k (l.getD k []++[f]))) j↔y∈lst (zl z l) j∨(j=k∧y=f):=by
    intro j y
    rw [hls]
    by_cases hjk:j=k
    · subst hjk
      rw [if_pos rfl,List.mem_append]
      simp
    · rw [if_neg hjk]
      simp [hjk]
  have hf:∀ g,f≤g→g<f+2 ^ k→s.getD g.toNat 0≠0 ∧ ¬ cov (zl z l) g:=by
    intro g g1 g2
    have e:((g.toNat:Nat):Int)=g:=Int.toNat_of_nonneg (by omega)
    have:=(h.lft g.toNat (by omega)).1 (hall g.toNat (by omega) (by omega))
    rw [e] at this
    exact this
  have hc:∀ g,cov (zl z (l.set k (l.getD k []++[f]))) g↔cov (zl z l) g∨(f≤g∧g<f+2 ^ k):=by
    intro g
    constructor
    · rintro ⟨j,y,hy,h1,h2⟩
      rcases (hm j y).1 hy with hy | ⟨rfl,rfl⟩
      · exact .inl ⟨j,y,hy,h1,h2⟩
      · exact .inr ⟨h1,h2⟩
    · rintro (⟨j,y,hy,h1,h2⟩ | ⟨h1,h2⟩)
      · exact ⟨j,y,(hm j y).2 (.inl hy),h1,h2⟩
      · exact ⟨k,f,(hm k f).2 (.inr ⟨rfl,rfl⟩),h1,h2⟩
  refine ⟨by simpa using h.len,hl',fun j => ?_,fun j y hy => ?_,fun j y i u g hy hu h1 h2 h3 h4 => ?_,fun g hg => ?_,fun g hg => ?_,fun j x hd hj hij => ?_⟩
  · rw [hls]
    split
    · refine List.pairwise_append.2 ⟨h.srt k,List.pairwise_singleton .., fun a ha b hb' => ?_⟩
      simp only [List.mem_singleton] at hb'
      subst hb'
      rcases hD _ _ (h.ins k a ha).2 with hq | hq <;> omega
    · exact h.srt j
  · rcases (hm j y).1 hy with hy | ⟨rfl,rfl⟩
    · exact ⟨(h.ins j y hy).1,.inl (h.ins j y hy).2⟩
    · exact ⟨hi,.inr ⟨rfl,rfl⟩⟩
  · rcases (hm j y).1 hy with hy' | ⟨e1,e2⟩
    · rcases (hm i u).1 hu with hu' | ⟨e3,e4⟩
      · exact h.dis j y i u g hy' hu' h1 h2 h3 h4
      · rw [e4] at h3 h4
        rw [e3] at h4
        exact absurd ⟨j,y,hy',h1,h2⟩ (hf g h3 h4).2
    · rw [e2] at h1 h2
      rw [e1] at h2
      rcases (hm i u).1 hu with hu' | ⟨e3,e4⟩
      · exact absurd ⟨i,u,hu',h3,h4⟩ (hf g h1 h2).2
      · exact ⟨e1.trans e3.symm,e2.trans e4.symm⟩
  · rw [hg',hc]
    by_cases hq:f≤(g:Int)∧(g:Int)<f+2 ^ k
    · rw [if_pos hq]
      simp [hq]
    · rw [if_neg hq,h.lft g hg]
      simp only [hq,or_false]
  · rcases (hc g).1 hg with hg | hg
    · exact h.sub g hg
    · exact (hf g hg.1 hg.2).1
  · rcases hd with hd | ⟨rfl,rfl⟩
    · obtain ⟨g,g1,g2,g3⟩:=h.max j x hd hj hij
      refine ⟨g,g1,g2,g3.imp id ?_⟩
      rintro ⟨i,y,hy,hy2,hy3⟩
      exact ⟨i,y,hy,(hm i y).2 (.inl hy2),hy3⟩
    · have hp:=zJb j
      exact ⟨x,Int.le_refl _,by omega,.inr ⟨j,x,Nat.le_refl _,(hm j x).2 (.inr ⟨rfl,rfl⟩),Int.le_refl _,by omega⟩⟩
theorem WI.len' (h:WI z s D l left) (hr:ranges z=true) (k:Nat):(lst (zl z l) k).length≤256:=by
  refine zQK (h.srt k) (fun f hf => ?_)
  have:=zAf hr (h.ins k f hf).1
  have:=zJb k
  omega
theorem WI.ok (h:WI z s (fun _ _=>True) l left) (hr:ranges z=true):OkZ (zl z l) ∧ ∀ g,cov (zl z l) g↔z.start≤g∧g<z.start+z.count∧s.getD g.toNat 0≠0:=by
  refine ⟨⟨hr,h.len,h.srt,fun k x hx=>(h.ins k x hx).1,h.dis,fun k x hk hx hb => ?_⟩,fun g=>⟨fun hg => ?_,fun hg => ?_⟩⟩
  · refine Bool.eq_false_iff.2 fun hi => ?_
    have hbx:=zAf hr (h.ins k x hx).1
    have hax:=(zBK hr).1 (h.ins k x hx).1
    have hp:=zJb k
    have hps:=zM1 k
    obtain ⟨g,g1,g2,g3⟩:=h.max (k+1) _ trivial (by omega) hi
    have hcov:(x≤g∧g<x+2 ^ k)∨(bud x k≤g∧g<bud x k+2 ^ k):=by
      clear g3
      rcases zMu hk hbx.1 (by omega) hax.2.1 with ⟨_,e⟩ | ⟨_,e⟩ <;> rw [e] at g1 g2 ⊢ <;> omega
    have hno:∀ y,y∈lst (zl z l) k→y≤g→g<y+2 ^ k→False:=by
      intro y hy y1 y2
      rcases g3 with g3 | ⟨i,u,hu,hu1,hu2,hu3⟩
      · exact h.sub g ⟨k,y,hy,y1,y2⟩ g3
      · have:=(h.dis k y i u g hy hu1 y1 y2 hu2 hu3).1
        omega
    rcases hcov with hq | hq
    · exact hno x hx hq.1 hq.2
    · exact hno _ hb hq.1 hq.2
  · obtain ⟨k,x,hx,h1,h2⟩:=hg
    have:=zAf hr (h.ins k x hx).1
    exact ⟨by omega,by omega,h.sub g ⟨k,x,hx,h1,h2⟩⟩
  · have hb:=zCA hr
    obtain ⟨g',g1,g2,g3⟩:=h.max 0 g trivial (by omega) ((zBK hr).2 (by rw [pw0]; omega))
    rw [pw0] at g2
    have e:g'=g:=by omega
    subst e
    rcases g3 with g3 | ⟨i,y,_,hy,hy2,hy3⟩
    · exact absurd g3 hg.2.2
    · exact ⟨i,y,hy,hy2,hy3⟩
end
section
variable {z:zo} {s:List Int}
def Nx (z:zo) (s:List Int) (k:Nat) (se:Int→(List (List Int))→(List Int)→Option zo):Prop :=
  ∀ l left,WI z s (fun j _=>k≤j) l left → ∃ l',se ((k:Int) - 1) l left=some (zl z l') ∧ ∃ left',WI z s (fun _ _=>True) l' left'
theorem zR9 (hr:ranges z=true) {k:Nat} {se:Int→(List (List Int))→(List Int)→Option zo} (hk:k≤4) (hn:Nx z s k se):∀ (m n f:Nat) (l:List (List Int)) (left:List Int),(f:Int)+m=z.start+z.count→m<n→z.start≤f →
    WI z s (fun j x=>k<j∨(j=k∧x<f)) l left → ∃ l',zCO se z (k:Int) n (f:Int) l left=some (zl z l') ∧ ∃ left',WI z s (fun _ _=>True) l' left':=by
  have hb:=zCA hr
  intro m
  induction m with
  | zero =>
    intro n f l left h1 h2 h3 h
    obtain ⟨n,rfl⟩:∃ q,n=q+1:=⟨n - 1,by omega⟩
    show ∃ l',zEG _ _ _ _ _ _ _=_∧_
    unfold zEG
    rw [zi (zAE (by omega)),zAG (df (by omega))]
    unfold zHv
    rw [zi (zAE (by omega))]
    refine hn l left (h.mono (fun j x _ hd=>by rcases hd with hd | hd <;> omega) (fun j x hi _ hd => ?_))
    have:=zAf hr hi
    have:=zJb j
    have hd:k≤j:=hd
    by_cases hjk:j=k
    · exact .inr ⟨hjk,by omega⟩
    · exact .inl (by omega)
  | succ m ih =>
    intro n f l left h1 h2 h3 h
    obtain ⟨n,rfl⟩:∃ q,n=q+1:=⟨n - 1,by omega⟩
    obtain ⟨e,p1,p2⟩:=zIn (k:=k) (by omega)
    have pn:=zLW (k:=k) (by omega)
    have hstep:∀ l2 left2,WI z s (fun j x=>(k<j∨(j=k∧x<f))∨(j=k∧x=f)) l2 left2 → ∃ l',zEL (zCO se z (k:Int) n) (f:Int) l2 left2=some (zl z l') ∧ ∃ left',WI z s (fun _ _=>True) l' left':=by
      intro l2 left2 hw
      unfold zEL
      rw [zi (zAE (by omega))]
      exact ih n (f+1) l2 left2 (by omega) (by omega) (by omega) (hw.mono (fun j x _ hd=>by omega) (fun j x _ _ hd=>by omega))
    show ∃ l',zEG _ _ _ _ _ _ _=_∧_
    unfold zEG
    rw [zi (zAE (by omega)),zAY (dt (by omega)),zPR hr hk h3 (by omega),zD0]
    by_cases hi:inside z f k=true
    · have hbi:=zAf hr hi
      rw [hi,zAY rfl,zT1 hk (by rw [h.llen]; omega) h.llen,zD0]
      by_cases ha:∀ g,g<2 ^ k→left.getD (f+g) 0≠0
      · have hlen:(l.getD (k:Int).toNat []).length≤256:=h.len' hr k
        rw [dt ha,Bool.and_true,zAY rfl,zi (zAb (by omega)),zi (dt (by omega)),zi (dt (by show (_+1)*8≤4294967296; omega)),zSm hk h.len (by omega) (2 ^ k) z9 f left (by omega) (by unfold z9; omega) h.llen]
        refine hstep _ _ (h.add hr hk hi (fun j x hd=>hd) (fun g g1 g2 => ?_) (by rw [zQM]; exact h.llen) (fun g => ?_))
        · have:=ha (g - f) (by omega)
          rw [show f+(g - f)=g by omega] at this
          exact this
        · rw [zQA (2 ^ k) f left g (by rw [h.llen]; omega)]
          by_cases hq:f≤g∧g<f+2 ^ k
          · rw [if_pos hq,if_pos (by omega)]
          · rw [if_neg hq,if_neg (by omega)]
      · rw [df ha,Bool.and_false,zAG rfl]
        refine hstep _ _ (h.skip hr hk (fun j x hd=>by omega) (fun _ => ?_))
        refine Classical.byContradiction fun hno=>ha (fun g hg hz=>hno ⟨((f+g:Nat):Int),by omega,by omega,?_⟩)
        rw [Int.toNat_natCast]
        exact hz
    · have hi':=Bool.eq_false_iff.2 hi
      rw [hi',zAG rfl,zD0,Bool.false_and,zAG rfl]
      exact hstep _ _ (h.skip hr hk (fun j x hd=>by omega) (fun hq=>absurd hq hi))
theorem zS6 (hr:ranges z=true):∀ (q n:Nat) (l:List (List Int)) (left:List Int),q≤5→q<n→WI z s (fun j _=>q≤j) l left →
    ∃ l',zBH z n ((q:Int) - 1) l left=some (zl z l') ∧ ∃ left',WI z s (fun _ _=>True) l' left':=by
  have hb:=zCA hr
  intro q
  induction q with
  | zero =>
    intro n l left hq hn h
    obtain ⟨n,rfl⟩:∃ q,n=q+1:=⟨n - 1,by omega⟩
    show ∃ l',zEB _ _ _ _ _=_∧_
    unfold zEB
    rw [zAG (df (by omega))]
    exact ⟨l,rfl,left,h.mono (fun _ _ _ _=>trivial) (fun j x _ _ _=>Nat.zero_le j)⟩
  | succ q ih =>
    intro n l left hq hn h
    obtain ⟨n,rfl⟩:∃ q,n=q+1:=⟨n - 1,by omega⟩
    show ∃ l',zEB _ _ _ _ _=_∧_
    unfold zEB
    obtain ⟨st,hst⟩:=Int.eq_ofNat_of_zero_le hb.2.2.2.1
    rw [show (((q+1:Nat):Int) - 1)=(q:Int) by omega,zAY (dt (by omega))]
    have:=zR9 (s:=s) (k:=q) (se:=zBH z n) hr (by omega) (fun l2 left2 h2=>ih n l2 left2 (by omega) (by omega) h2) z.count.toNat z9 st l left (by omega) (by unfold z9; omega) (by omega)
      (h.mono (fun j x _ hd => .inl hd) (fun j x hi _ hd=>by
        have:=zAf hr hi
        show q+1≤j
        omega))
    rw [← hst] at this
    exact this
theorem zTB {s:List Int} (hs:s.length=256):∀ (m n i:Nat) (l:List Int),i+m=256→m<n→l.length=256→(∀ g:Nat,g<i→l.getD g 0=s.getD g 0)→zGj z s n (i:Int) l=zGl z s:=by
  intro m
  induction m with
  | zero =>
    intro n i l h1 h2 h3 h4
    obtain ⟨n,rfl⟩:∃ q,n=q+1:=⟨n - 1,by omega⟩
    show zEK _ _ _ _ _=_
    unfold zEK
    rw [zAG (df (by omega))]
    congr 1
    apply List.ext_getElem?
    intro g
    rcases Nat.lt_or_ge g 256 with hg | hg
    · have:=h4 g (by omega)
      rw [List.getD_eq_getElem?_getD,List.getD_eq_getElem?_getD,List.getElem?_eq_getElem (by omega),List.getElem?_eq_getElem (by omega)] at this
      rw [List.getElem?_eq_getElem (by omega),List.getElem?_eq_getElem (by omega)]
      exact congrArg some this
    · rw [List.getElem?_eq_none (by omega),List.getElem?_eq_none (by omega)]
  | succ m ih =>
    intro n i l h1 h2 h3 h4
    obtain ⟨n,rfl⟩:∃ q,n=q+1:=⟨n - 1,by omega⟩
    show zEK _ _ _ _ _=_
    unfold zEK
    have hi:i<s.length:=by omega
    rw [zAY (dt (by omega)),zi (zAb hi),zi (zAb (by omega)),zi (zAE (by omega)),zII hi]
    refine ih n (i+1) _ (by omega) (by omega) (by rw [List.length_set]; exact h3) (fun g hg => ?_)
    rw [Int.toNat_natCast,zPL _ _ _ (by omega)]
    by_cases hgi:g=i
    · rw [if_pos hgi,hgi,List.getD_eq_getElem?_getD,List.getElem?_eq_getElem hi]
      rfl
    · rw [if_neg hgi]
      exact h4 g (by omega)
theorem zSs (hr:ranges z=true) (hs:s.length=256):∃ y,zG0 z s=some y∧OkZ y∧zIu y z ∧ ∀ g,cov y g↔z.start≤g∧g<z.start+z.count∧s.getD g.toNat 0≠0:=by
  unfold zG0
  rw [zi (by rw [hs]; rfl),show (0:Int)=((0:Nat):Int) from rfl,zTB hs 256 z9 0 _ (by omega) (by unfold z9; omega) (by rw [List.length_replicate,hs]; rfl) (fun g hg=>by omega)]
  unfold zGl
  have he:=zQn (z:=zl z (List.replicate 5 [])) hr rfl
  obtain ⟨l',e,left',hw⟩:=zS6 (s:=s) hr 5 z9 (List.replicate 5 []) s (by omega) (by unfold z9; omega)
    ⟨rfl,hs,he.1.srt,fun k x hx=>absurd (show x∈[] from (zN2 (z:=zl z (List.replicate 5 [])) rfl k)▸hx) (by simp),he.1.dis,fun g hg=>⟨fun h=>⟨h,he.2 g⟩,fun h=>h.1⟩,fun g hg=>absurd hg (he.2 g),fun j x hd hj _=>by exact absurd (show 5≤j from hd) (by omega)⟩
  have ho:=hw.ok hr
  exact ⟨zl z l',e,ho.1,⟨rfl,rfl,rfl,rfl,rfl⟩,ho.2⟩
theorem zSv {y:zo} (hs:s.length=256) (ho:OkZ y) (hy:zIu y z) (hc:∀ g,cov y g↔z.start≤g∧g<z.start+z.count∧s.getD g.toNat 0≠0):zG0 z s=some y:=by
  have hr:ranges z=true:=by rw [← hy.ranges]; exact ho.ranges
  obtain ⟨x,e,h1,h2,h3⟩:=zSs hr hs
  have hxy:zIu x y:=h2.trans ⟨hy.1.symm,hy.2.1.symm,hy.2.2.1.symm,hy.2.2.2.1.symm,hy.2.2.2.2.symm⟩
  rw [e,h1.ext ho hxy.1 hxy.2.1 hxy.2.2.1 hxy.2.2.2.1 hxy.2.2.2.2 (fun f=>by rw [h3,hc])]
end
end Go.Proofs.YtplkliakhdkpcaaGreat
