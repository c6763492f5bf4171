/-
  A valid zone is one whose lists are in order; giving a block back, and copies, on both sides. No program in sight.
-/
import Derived.Test.YtplkliakhdkpcaaGreatPv
import Derived.Test.YtplkliakhdkpcaaGreatPc
set_option linter.unusedVariables false
set_option linter.unusedSimpArgs false
namespace Go.Proofs.YtplkliakhdkpcaaGreat
open Go Go.RowKit Go.Wk Go.Am
section
variable {z:zo} {k:Nat} {l:List Int}
theorem zLq (hr:ranges z=true) (hk:k<5) {g:Nat}:∀ (l:List Int) {s:List Int},s.length=256→(∀ f,f∈l→inside z f k=true) → ∀ x,x∈l→x≤(g:Int)→(g:Int)<x+2 ^ k→s.getD g 0+1≤(zHd k s l).getD g 0
  | [],_,_,_,_,hx,_,_=>absurd hx (by simp)
  | y::l,s,hs,hin,x,hx,h1,h2=>by
    have hbd:=zAf hr (hin y (by simp))
    have pn:=zLW (k:=k) (by omega)
    have hg:=zJc (2 ^ k) y.toNat s g (by rw [hs]; omega)
    unfold zHd
    rcases List.mem_cons.1 hx with rfl | hx
    · rw [if_pos (by omega)] at hg
      have:=zJI l k (zIf s x.toNat (2 ^ k)) g
      omega
    · have hge:=zLd (2 ^ k) y.toNat s g
      have:=zLq hr hk l (s:=zIf s y.toNat (2 ^ k)) (by rw [zJX]; exact hs) (fun f hf=>hin f (by simp [hf])) x hx h1 h2
      omega
theorem zMc (hr:ranges z=true) {g:Nat}:∀ (ls:List (List Int)) (k:Nat) {s:List Int},k+ls.length=5→s.length=256→(∀ j l,ls[j]?=some l → ∀ f,f∈l→inside z f (k+j)=true) → ∀ j l x,ls[j]?=some l→x∈l→x≤(g:Int)→(g:Int)<x+2 ^ (k+j)→s.getD g 0+1≤(zGn k s ls).getD g 0
  | [],_,_,_,_,_,_,_,_,hj,_,_,_=>absurd hj (by simp)
  | l0::ls,k,s,hk,hs,hin,j,l,x,hj,hx,h1,h2=>by
    have hk':k+(ls.length+1)=5:=hk
    unfold zGn
    cases j with
    | zero =>
      simp at hj
      subst hj
      have:=zLq (k:=k) hr (by omega) l0 hs (fun f hf=>by have:=hin 0 l0 rfl f hf; rwa [Nat.add_zero] at this) x hx h1 h2
      have:=zLp ls (k+1) (zHd k s l0) g
      omega
    | succ j =>
      have hge:=zJI l0 k s g
      have:=zMc hr ls (k+1) (s:=zHd k s l0) (by omega) (by rw [zIC]; exact hs) (fun j' l' hj' f hf=>by
        have:=hin (j'+1) l' hj' f hf
        rwa [show k+(j'+1)=k+1+j' by omega] at this) j l x (by simpa using hj) hx h1 (by rw [show k+1+j=k+(j+1) by omega]; exact h2)
      omega
theorem zMx (hr:ranges z=true) {g:Nat}:∀ (ls:List (List Int)) (k:Nat) {s:List Int},k+ls.length=5→s.length=256→(∀ j l,ls[j]?=some l → ∀ f,f∈l→inside z f (k+j)=true) → ∀ i j l m x y,i<j→ls[i]?=some l→ls[j]?=some m→x∈l→y∈m→x≤(g:Int)→(g:Int)<x+2 ^ (k+i)→y≤(g:Int)→(g:Int)<y+2 ^ (k+j)→s.getD g 0+2≤(zGn k s ls).getD g 0
  | [],_,_,_,_,_,_,_,_,_,_,_,_,hi,_,_,_,_,_,_,_=>absurd hi (by simp)
  | l0::ls,k,s,hk,hs,hin,i,j,l,m,x,y,hij,hi,hj,hx,hy,h1,h2,h3,h4=>by
    have hk':k+(ls.length+1)=5:=hk
    have hin':∀ j' l',ls[j']?=some l' → ∀ f,f∈l'→inside z f (k+1+j')=true:=fun j' l' hj' f hf=>by
      have:=hin (j'+1) l' hj' f hf
      rwa [show k+(j'+1)=k+1+j' by omega] at this
    unfold zGn
    obtain ⟨j,rfl⟩:∃ q,j=q+1:=⟨j - 1,by omega⟩
    have hj':ls[j]?=some m:=by simpa using hj
    cases i with
    | zero =>
      simp at hi
      subst hi
      have a1:=zLq (k:=k) hr (by omega) l0 hs (fun f hf=>by have:=hin 0 l0 rfl f hf; rwa [Nat.add_zero] at this) x hx h1 h2
      have a2:=zMc hr ls (k+1) (s:=zHd k s l0) (by omega) (by rw [zIC]; exact hs) hin' j m y hj' hy h3 (by rw [show k+1+j=k+(j+1) by omega]; exact h4)
      omega
    | succ i =>
      have hge:=zJI l0 k s g
      have:=zMx hr ls (k+1) (s:=zHd k s l0) (by omega) (by rw [zIC]; exact hs) hin' i j l m x y (by omega) (by simpa using hi) hj' hx hy h1 (by rw [show k+1+i=k+(i+1) by omega]; exact h2) h3 (by rw [show k+1+j=k+(j+1) by omega]; exact h4)
      omega
theorem zOm (l0:List Int):∀ r:List Int,zPN z k l0 r=true ↔ ∃ f,f∈r∧bud f k∈l0∧inside z (min f (bud f k)) (k+1)=true
  | []=>by unfold zPN; simp
  | f::r=>by
    unfold zPN
    by_cases h:(decide (bud f k∈l0)&&inside z (min f (bud f k)) (k+1))=true
    · rw [if_pos h]
      simp only [Bool.and_eq_true,decide_eq_true_eq] at h
      exact ⟨fun _=>⟨f,by simp,h.1,h.2⟩,fun _=>rfl⟩
    · rw [if_neg h,zOm l0 r]
      simp only [Bool.and_eq_true,decide_eq_true_eq] at h
      constructor
      · rintro ⟨g,h1,h2⟩; exact ⟨g,by simp [h1],h2⟩
      · rintro ⟨g,h1,h2,h3⟩
        rcases List.mem_cons.1 h1 with rfl | h1
        · exact absurd ⟨h2,h3⟩ h
        · exact ⟨g,h1,h2,h3⟩
theorem zPB:∀ (ls:List (List Int)) (k:Nat),zMP z k ls=false → ∀ j l,ls[j]?=some l→zPN z (k+j) l l=false
  | [],_,_,_,_,hj=>absurd hj (by simp)
  | l0::ls,k,h,j,l,hj=>by
    unfold zMP at h
    split at h
    · cases h
    · rename_i h0
      cases j with
      | zero =>
        simp at hj
        subst hj
        exact Bool.eq_false_iff.2 h0
      | succ j =>
        have:=zPB ls (k+1) h j l (by simpa using hj)
        rwa [show k+1+j=k+(j+1) by omega] at this
theorem zKR (hz:Zk z) (h:zEr z=0):OkZ z ∧ ∀ g:Nat,(zNr z).getD g 0=0∨(zNr z).getD g 0=1:=by
  obtain ⟨hr,hin,hs⟩:=zGb hz h
  have hm:=zUp hz hr hin
  have hc:zEw z 0 z.free=0 ∧ ¬ zIv 0 zFV z.free=none∧zMP z 0 (z.free.take 4)=false:=by
    have h':=h
    unfold zEr at h'
    rw [if_neg (by rw [hr]; simp)] at h'
    by_cases h0:zEw z 0 z.free=0
    · rw [if_pos h0] at h'
      by_cases h1:zIv 0 zFV z.free=none
      · rw [if_pos h1] at h'; cases h'
      · rw [if_neg h1] at h'
        by_cases h2:zMP z 0 (z.free.take 4)=true
        · rw [if_pos h2] at h'; cases h'
        · exact ⟨h0,h1,Bool.eq_false_iff.2 h2⟩
    · rw [if_neg h0] at h'; exact absurd h' h0
  have h01:∀ g:Nat,(zNr z).getD g 0=0∨(zNr z).getD g 0=1:=by
    cases hd:zIv 0 zFV z.free with
    | none=>exact absurd hd hc.2.1
    | some d =>
      rw [hd] at hm
      intro g
      cases hb:d.getD g false with
      | true=>exact .inr (hm.t g hb)
      | false=>exact .inl (hm.f g hb)
  have hin':∀ j l,z.free[j]?=some l → ∀ f,f∈l→inside z f (0+j)=true:=fun j l hj f hf=>by
    have hj5:j<5:=by rw [← hz.len]; exact (List.getElem?_eq_some_iff.1 hj).1
    rw [hz.get hj5] at hj
    cases hj
    rw [Nat.zero_add]
    exact hin j hj5 f hf
  have lt5:∀ {k x},x∈lst z k→k<5:=fun {k x} hx=>by
    rcases Nat.lt_or_ge k 5 with hk | hk
    · exact hk
    · rw [zKu hz.len hk] at hx; exact absurd hx (by simp)
  have two:∀ k j x y f,k<j→x∈lst z k→y∈lst z j→x≤f→f<x+2 ^ k→y≤f→f<y+2 ^ j→False:=by
    intro k j x y f hkj hx hy h1 h2 h3 h4
    have hb:=zAf hr (hin k (lt5 hx) x hx)
    obtain ⟨g,rfl⟩:=Int.eq_ofNat_of_zero_le (show 0≤f by omega)
    have:=zMx hr (g:=g) z.free 0 (s:=List.replicate 256 0) (by rw [hz.len]) (by rw [List.length_replicate]) hin' k j _ _ x y hkj (hz.get (lt5 hx)) (hz.get (lt5 hy)) hx hy h1 (by rw [Nat.zero_add]; exact h2) h3 (by rw [Nat.zero_add]; exact h4)
    have h0:(List.replicate 256 (0:Int)).getD g 0=0:=by
      rw [List.getD_eq_getElem?_getD,List.getElem?_replicate]
      split <;> rfl
    rw [h0] at this
    have hc2:(zNr z).getD g 0=(zGn 0 (List.replicate 256 0) z.free).getD g 0:=rfl
    rcases h01 g with e | e <;> omega
  refine ⟨⟨hr,hz.len,hs,fun k x hx=>hin k (lt5 hx) x hx,fun k x j y f hx hy h1 h2 h3 h4 => ?_,fun k x hk hx hb => ?_⟩,h01⟩
  · rcases Nat.lt_trichotomy k j with hkj | hkj | hkj
    · exact (two k j x y f hkj hx hy h1 h2 h3 h4).elim
    · subst hkj
      have b1:=zAf hr (hin k (lt5 hx) x hx)
      have b2:=zAf hr (hin k (lt5 hy) y hy)
      obtain ⟨g,rfl⟩:=Int.eq_ofNat_of_zero_le (show 0≤f by omega)
      have e1:=(zMq (f:=g) (lt5 hx) b1.1 ((zBK hr).1 (hin k (lt5 hx) x hx)).2.1).1 ⟨h1,h2⟩
      have e2:=(zMq (f:=g) (lt5 hy) b2.1 ((zBK hr).1 (hin k (lt5 hy) y hy)).2.1).1 ⟨h3,h4⟩
      exact ⟨rfl,by omega⟩
    · exact (two j k y x f hkj hy hx h3 h4 h1 h2).elim
  · have hn:=zPB (z.free.take 4) 0 hc.2.2 k _ (zMB (hz.get (k:=k) (by omega)) hk)
    rw [Nat.zero_add] at hn
    refine Bool.eq_false_iff.2 fun hi => ?_
    have:=(zOm (z:=z) (k:=k) (lst z k) (lst z k)).2 ⟨x,hx,hb,hi⟩
    rw [hn] at this
    cases this
theorem zKb (h:l.length≤1000000):zAo l=some l:=by
  unfold zAo
  rw [zi (dt (by show (0+_)*8≤_; omega))]
theorem zOk (hz:Zk z):∀ (m n i:Nat),i+m=5→m<n→zFf z n (i:Int) z.free=some z:=by
  intro m
  induction m with
  | zero =>
    intro n i h1 h2
    obtain ⟨n,rfl⟩:∃ q,n=q+1:=⟨n - 1,by omega⟩
    show zDS _ _ _ _=_
    unfold zDS zHE
    rw [zAG (df (by omega)),zi (dt (by omega))]
  | succ m ih =>
    intro n i h1 h2
    obtain ⟨n,rfl⟩:∃ q,n=q+1:=⟨n - 1,by omega⟩
    have hlen:=hz.len
    have e:z.free.getD (i:Int).toNat []=lst z i:=rfl
    have e3:zDl 5 [] z.free (i:Int).toNat (lst z i)=z.free:=by
      rw [zKW hlen (by omega)]
      exact zIN (by omega)
    show zDS _ _ _ _=_
    unfold zDS
    rw [zAY (dt (by omega)),zi (zAb (by omega)),e,zKb (hz.bd i),zD0,zi (zAE (by omega)),e3]
    exact ih n (i+1) (by omega) (by omega)
theorem zT4 (hz:Zk z):zIF z=some z:=zOk hz 5 z9 0 (by omega) (by unfold z9; omega)
theorem zSz (hz:Zk z) (h:zEr z=0) {m:Nat} (hm:m<256):∃ r,zGz z (m:Int)=some r∧(0≤r.1↔cov z m):=by
  obtain ⟨hr,hin,_⟩:=zGb hz h
  obtain ⟨r,r1,r2⟩:=zPS hz h hm 5 z9 0 (by omega) (by unfold z9; omega)
  refine ⟨r,r1,r2.trans ?_⟩
  constructor
  · rintro ⟨j,_,hj,hm⟩
    have hbj:=zAf hr (hin j hj _ hm)
    have haj:=(zBK hr).1 (hin j hj _ hm)
    have:=(zMq (f:=m) hj hbj.1 haj.2.1).2 rfl
    exact ⟨j,_,hm,this.1,this.2⟩
  · rintro ⟨j,x,hx,h1,h2⟩
    rcases Nat.lt_or_ge j 5 with hj | hj
    · have hbj:=zAf hr (hin j hj _ hx)
      have haj:=(zBK hr).1 (hin j hj _ hx)
      have:=(zMq (f:=m) hj hbj.1 haj.2.1).1 ⟨h1,h2⟩
      exact ⟨j,Nat.zero_le _,hj,this▸hx⟩
    · rw [zKu hz.len hj] at hx; exact absurd hx (by simp)
theorem zSQ (hz:Zk z) (h:zEr z=0) {f:Int} (hk:k≤4) (hi:inside z f k=true) (hn:∀ g,f≤g→g<f+2 ^ k → ¬ cov z g):∀ (m n i:Nat),(i:Int)+m=f+2 ^ k→m<n→f≤i →
    zGI z f (k:Int) n (i:Int)=some (zOJ (4 - k) z f k,0):=by
  obtain ⟨hr,hin,_⟩:=zGb hz h
  have hb:=zAf hr hi
  obtain ⟨e,p1,p2⟩:=zIn (k:=k) (by omega)
  intro m
  induction m with
  | zero =>
    intro n i h1 h2 h3
    obtain ⟨n,rfl⟩:∃ q,n=q+1:=⟨n - 1,by omega⟩
    show zEC _ _ _ _ _=_
    unfold zEC zHs
    rw [e,zi (zLa (by omega)),zi (zAE (by omega)),zi (zAE (by omega)),zAG (df (by omega)),zT4 hz,zD0]
    show ((zI4 z f (k:Int)).bind _)=_
    rw [zTg (zKR hz h).1.putI hk hb.1 (by omega),zD0]
  | succ m ih =>
    intro n i h1 h2 h3
    obtain ⟨n,rfl⟩:∃ q,n=q+1:=⟨n - 1,by omega⟩
    obtain ⟨r,r1,r2⟩:=zSz hz h (m:=i) (by omega)
    show zEC _ _ _ _ _=_
    unfold zEC
    rw [e,zi (zLa (by omega)),zi (zAE (by omega)),zi (zAE (by omega)),zAY (dt (by omega)),r1,zD0,zAG (df (fun hq=>hn i h3 (by omega) (r2.1 hq))),zi (zAE (by omega))]
    exact ih n (i+1) (by omega) (by omega) (by omega)
theorem zRh (hz:Zk z) (hI:inI z.start=true) (h:zEr z=0) {f:Int} (hk:k≤4) (hi:inside z f k=true) (hn:∀ g,f≤g→g<f+2 ^ k → ¬ cov z g):zHx z f (k:Int)=some (zOJ (4 - k) z f k,0):=by
  obtain ⟨hr,hin,_⟩:=zGb hz h
  have hb:=zAf hr hi
  obtain ⟨e,p1,p2⟩:=zIn (k:=k) (by omega)
  have pn:=zLW (k:=k) (by omega)
  obtain ⟨m,rfl⟩:=Int.eq_ofNat_of_zero_le hb.1
  unfold zHx
  rw [zQg hz hI,zD0,dt h,Bool.not_true,zAG rfl,df (p:=(k:Int)<0) (by omega),df (p:=4<(k:Int)) (by omega),zJg hr (by omega),hi]
  refine (congrArg (fun q=>Option.bind q _) (zAY (by rfl))).trans ?_
  rw [zD0]
  refine (zAG (by rfl)).trans ?_
  exact zSQ hz h hk hi hn (2 ^ k) z9 m (by omega) (by unfold z9; omega) (by omega)
theorem zTF (hz:Zk z) (h:zEr z=0) {f:Int} (hk:k≤4) (hi:inside z f k=true) (hn:∀ g,f≤g→g<f+2 ^ k → ¬ cov z g):∀ (m n i:Nat) (s:List Int),(i:Int)+m=f+2 ^ k→m<n→f≤i→s.length=256 →
    (∀ g:Nat,s.getD g 0=if f≤(g:Int)∧(g:Int)<i then 1 else (zNr z).getD g 0)→zGK z f (k:Int) n (i:Int) s=some (zOJ (4 - k) z f k,0):=by
  obtain ⟨hr,hin,_⟩:=zGb hz h
  have hb:=zAf hr hi
  obtain ⟨e,p1,p2⟩:=zIn (k:=k) (by omega)
  obtain ⟨ho,h01⟩:=zKR hz h
  intro m
  induction m with
  | zero =>
    intro n i s h1 h2 h3 h4 h5
    obtain ⟨n,rfl⟩:∃ q,n=q+1:=⟨n - 1,by omega⟩
    obtain ⟨q1,q2,q3⟩:=OkZ.put (4 - k) (k:=k) (by omega) ho hi hn
    have hw:=zSv (z:=z) (s:=s) h4 q1 q3 (fun g=>by
      rw [q2]
      constructor
      · intro hg
        have hgb:z.start≤g∧g<z.start+z.count∧0≤g:=by
          rcases hg with ⟨j,x,hx,x1,x2⟩ | hg
          · have:=zAf hr (ho.ins j x hx)
            omega
          · omega
        obtain ⟨q,rfl⟩:=Int.eq_ofNat_of_zero_le hgb.2.2
        refine ⟨hgb.1,hgb.2.1,?_⟩
        rw [Int.toNat_natCast,h5]
        split
        · decide
        · rename_i hne
          rcases hg with hg | hg
          · have:=(zLw hz hr hin q).2 hg
            omega
          · exact absurd ⟨hg.1,by omega⟩ hne
      · rintro ⟨g1,g2,g3⟩
        have hrb:=zCA hr
        obtain ⟨q,rfl⟩:=Int.eq_ofNat_of_zero_le (show 0≤g by omega)
        rw [Int.toNat_natCast,h5] at g3
        split at g3
        · rename_i hq
          exact .inr ⟨hq.1,by omega⟩
        · rcases h01 q with e0 | e0
          · exact absurd e0 g3
          · exact .inl ((zLw hz hr hin q).1 (by omega)))
    show zD4 _ _ _ _ _ _=_
    unfold zD4 zHt
    rw [e,zi (dt (zGr (by omega) (by omega))),zi (zLa (by omega)),zi (zAE (by omega)),zi (zAE (by omega)),zAG (df (by omega)),hw,zD0,zD0]
  | succ m ih =>
    intro n i s h1 h2 h3 h4 h5
    obtain ⟨n,rfl⟩:∃ q,n=q+1:=⟨n - 1,by omega⟩
    have hil:i<s.length:=by omega
    have ea:at_ s (i:Int)=s.getD i 0:=by rw [zII hil,List.getD_eq_getElem?_getD,List.getElem?_eq_getElem hil]; rfl
    have h0:s.getD i 0=0:=by
      rw [h5,if_neg (by omega)]
      rcases h01 i with e0 | e0
      · exact e0
      · exact absurd ((zLw hz hr hin i).1 (by omega)) (hn i h3 (by omega))
    show zD4 _ _ _ _ _ _=_
    unfold zD4
    rw [e,zi (dt (zGr (by omega) (by omega))),zi (zLa (by omega)),zi (zAE (by omega)),zi (zAE (by omega)),zAY (dt (by omega)),zi (zAb hil),ea,h0,zAG (by rfl),zi (zAE (by omega))]
    refine ih n (i+1) _ (by omega) (by omega) (by omega) (by rw [List.length_set]; exact h4) (fun g => ?_)
    rw [Int.toNat_natCast,zTK s i g hil,h5]
    by_cases hg:g=i
    · rw [if_pos hg,if_pos (by omega)]
    · rw [if_neg hg]
      by_cases hq:f≤(g:Int)∧(g:Int)<i
      · rw [if_pos hq,if_pos (by omega)]
      · rw [if_neg hq,if_neg (by omega)]
theorem zRg (hz:Zk z) (h:zEr z=0) {f:Int} (hk:k≤4) (hi:inside z f k=true) (hn:∀ g,f≤g→g<f+2 ^ k → ¬ cov z g):zIy z f (k:Int)=some (zOJ (4 - k) z f k,0):=by
  obtain ⟨hr,hin,_⟩:=zGb hz h
  have hb:=zAf hr hi
  obtain ⟨e,p1,p2⟩:=zIn (k:=k) (by omega)
  have pn:=zLW (k:=k) (by omega)
  obtain ⟨m,rfl⟩:=Int.eq_ofNat_of_zero_le hb.1
  unfold zIy
  rw [zP4 hz,zD0,dt h,Bool.not_true,zAG rfl,zJy hr hk,zD0,hi,Bool.not_true,zAG rfl,zPv hz hr hin,zD0]
  exact zTF hz h hk hi hn (2 ^ k) z9 m (zNr z) (by omega) (by unfold z9; omega) (by omega) zOT (fun g=>by rw [if_neg (by omega)])
end
end Go.Proofs.YtplkliakhdkpcaaGreat
