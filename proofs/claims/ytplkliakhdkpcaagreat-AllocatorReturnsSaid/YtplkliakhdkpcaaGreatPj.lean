/-
  The checks of a processor's cache on both sides. No program in sight.
-/
import Derived.Test.YtplkliakhdkpcaaGreatPi
set_option linter.unusedVariables false
set_option linter.unusedSimpArgs false
namespace Go.Proofs.YtplkliakhdkpcaaGreat
open Go Go.RowKit Go.Wk Go.Am
structure Ck (c:zL):Prop where
  n:c.lists.length≤1000
  l:∀ x,x∈c.lists→x.length≤1000
def pcR (c:zL) (zn:Int):Int :=
  if zn<1∨6<zn then 1 else if (c.lists.length:Int)=zn then (if c.lists.flatten.all zFS=true then (if c.lists.flatten.Nodup then 0 else 7) else 2) else 3
section
variable {c:zL}
theorem Ck.le (h:Ck c) {i:Nat} (hi:i<c.lists.length):c.lists[i].length≤1000:=h.l _ (List.getElem_mem hi)
theorem zM7 {i:Nat} (hi:i<c.lists.length):(c.lists.drop i).flatten=c.lists[i]++(c.lists.drop (i+1)).flatten:=by
  rw [List.drop_eq_getElem_cons hi]
  rfl
theorem zOv {i:Nat} (hi:c.lists.length≤i):(c.lists.drop i).flatten=[]:=by rw [List.drop_eq_nil_of_le hi]; rfl
theorem pl1 {se:Int→Int→Option Int} {acc:Int} {j:Nat} {l:List Int} (hc:Ck c) (hj:j<c.lists.length) (hl:c.lists[j]=l) (h0:0≤acc∧acc≤1000000000):∀ (m n i:Nat),i+m=l.length→m<n →
    zE1 se c acc (j:Int) n (i:Int)=if (l.drop i).all zFS=true then se (acc+l.length) ((j+1:Nat):Int) else some 2:=by
  have hb:l.length≤1000:=by rw [← hl]; exact hc.le hj
  have hn:=hc.n
  have e:at_ c.lists (j:Int)=l:=by rw [zII hj,hl]
  intro m
  induction m with
  | zero =>
    intro n i h1 h2
    obtain ⟨n,rfl⟩:∃ q,n=q+1:=⟨n - 1,by omega⟩
    show zCo _ _ _ _ _ _=_
    unfold zCo zGd zGM
    rw [e,zAG (df (by omega)),zi (zAE (by omega)),zi (zAE (by omega)),List.drop_eq_nil_of_le (by omega)]
    rfl
  | succ m ih =>
    intro n i h1 h2
    obtain ⟨n,rfl⟩:∃ q,n=q+1:=⟨n - 1,by omega⟩
    have hi:i<l.length:=by omega
    show zCo _ _ _ _ _ _=_
    unfold zCo
    rw [e,zAY (dt (by omega)),zi (zAb hi),zII hi,List.drop_eq_getElem_cons hi,List.all_cons,zi (zAE (by omega))]
    show cnd (!zFS l[i]) _ _=_
    cases hf:zFS l[i] with
    | false=>rfl
    | true=>exact ih n (i+1) (by omega) (by omega)
theorem pl0 (hc:Ck c):∀ (m n i acc:Nat),i+m=c.lists.length→m<n→acc≤i*1000 →
    zBb c n (acc:Int) (i:Int)=if ((c.lists.drop i).flatten).all zFS=true then zE4 c ((acc+(c.lists.drop i).flatten.length:Nat):Int) else some 2:=by
  have hn:=hc.n
  intro m
  induction m with
  | zero =>
    intro n i acc h1 h2 h3
    obtain ⟨n,rfl⟩:∃ q,n=q+1:=⟨n - 1,by omega⟩
    show zCy _ _ _ _=_
    unfold zCy
    rw [zAG (df (by omega)),zOv (by omega)]
    rfl
  | succ m ih =>
    intro n i acc h1 h2 h3
    obtain ⟨n,rfl⟩:∃ q,n=q+1:=⟨n - 1,by omega⟩
    have hi:i<c.lists.length:=by omega
    have hb:=hc.le hi
    show zCy _ _ _ _=_
    unfold zCy
    rw [zAY (dt (by omega)),zi (zAb hi),show (0:Int)=((0:Nat):Int) from rfl,pl1 hc hi rfl (by omega) c.lists[i].length z9 0 (by omega) (by unfold z9; omega),List.drop_zero,zM7 hi,List.all_append,List.length_append]
    cases hf:c.lists[i].all zFS with
    | false=>rfl
    | true =>
      rw [if_pos rfl,Bool.true_and]
      have:=ih n (i+1) (acc+c.lists[i].length) (by omega) (by omega) (by omega)
      rw [show acc+c.lists[i].length+((c.lists.drop (i+1)).flatten).length=acc+(c.lists[i].length+((c.lists.drop (i+1)).flatten).length) by omega] at this
      rw [← this]
      congr 1
def zNq (m:List (Int×Bool)) (l:List Int):List (Int×Bool):=l.foldl (fun q f=>zJQ q f true) m
theorem fm1 {se:Int→List (Int×Bool)→Option (List (Int×Bool))} {j:Nat} {l:List Int} (hc:Ck c) (hj:j<c.lists.length) (hl:c.lists[j]=l):∀ (m n i:Nat) (q:List (Int×Bool)),i+m=l.length→m<n →
    zEP se c (j:Int) n (i:Int) q=se ((j+1:Nat):Int) (zNq q (l.drop i)):=by
  have hb:l.length≤1000:=by rw [← hl]; exact hc.le hj
  have hn:=hc.n
  have e:at_ c.lists (j:Int)=l:=by rw [zII hj,hl]
  intro m
  induction m with
  | zero =>
    intro n i q h1 h2
    obtain ⟨n,rfl⟩:∃ q,n=q+1:=⟨n - 1,by omega⟩
    show zCX _ _ _ _ _ _=_
    unfold zCX zFw
    rw [e,zAG (df (by omega)),zi (zAE (by omega)),List.drop_eq_nil_of_le (by omega)]
    rfl
  | succ m ih =>
    intro n i q h1 h2
    obtain ⟨n,rfl⟩:∃ q,n=q+1:=⟨n - 1,by omega⟩
    have hi:i<l.length:=by omega
    show zCX _ _ _ _ _ _=_
    unfold zCX
    rw [e,zAY (dt (by omega)),zi (zAb hi),zII hi,List.drop_eq_getElem_cons hi,zi (zAE (by omega))]
    exact ih n (i+1) (zJQ q l[i] true) (by omega) (by omega)
theorem fm0 (hc:Ck c):∀ (m n i:Nat) (q:List (Int×Bool)),i+m=c.lists.length→m<n→zBc c n (i:Int) q=some (zNq q (c.lists.drop i).flatten):=by
  have hn:=hc.n
  intro m
  induction m with
  | zero =>
    intro n i q h1 h2
    obtain ⟨n,rfl⟩:∃ q,n=q+1:=⟨n - 1,by omega⟩
    show zCb _ _ _ _=_
    unfold zCb
    rw [zAG (df (by omega)),zOv (by omega)]
    rfl
  | succ m ih =>
    intro n i q h1 h2
    obtain ⟨n,rfl⟩:∃ q,n=q+1:=⟨n - 1,by omega⟩
    have hi:i<c.lists.length:=by omega
    have hb:=hc.le hi
    show zCb _ _ _ _=_
    unfold zCb
    rw [zAY (dt (by omega)),zi (zAb hi),show (0:Int)=((0:Nat):Int) from rfl,fm1 hc hi rfl c.lists[i].length z9 0 q (by omega) (by unfold z9; omega),List.drop_zero,zM7 hi,ih n (i+1) _ (by omega) (by omega)]
    unfold zNq
    rw [List.foldl_append]
theorem zOB (k:Int):∀ (q:List (Int×Bool)) (x:Int),x∈(zJQ q k true).map (·.1)↔x=k∨x∈q.map (·.1)
  | [],x=>by simp [zJQ]
  | p::q,x=>by
    unfold zJQ
    by_cases h:p.1=k
    · rw [if_pos h]
      simp [h]
    · rw [if_neg h]
      simp only [List.map_cons,List.mem_cons,zOB k q x]
      constructor
      · rintro (h1 | h1 | h1)
        · exact .inr (.inl h1)
        · exact .inl h1
        · exact .inr (.inr h1)
      · rintro (h1 | h1 | h1)
        · exact .inr (.inl h1)
        · exact .inl h1
        · exact .inr (.inr h1)
theorem zOp (k:Int):∀ (q:List (Int×Bool)),(k∈q.map (·.1)→(zJQ q k true).length=q.length)∧(k ∉ q.map (·.1)→(zJQ q k true).length=q.length+1)
  | []=>by simp [zJQ]
  | p::q=>by
    have ih:=zOp k q
    unfold zJQ
    by_cases h:p.1=k
    · rw [if_pos h]
      exact ⟨fun _=>rfl,fun hn=>absurd (by simp [h]) hn⟩
    · rw [if_neg h]
      refine ⟨fun hm => ?_,fun hn => ?_⟩
      · have hm':k∈q.map (·.1):=by
          rcases List.mem_cons.1 hm with e | e
          · exact absurd e.symm h
          · exact e
        show (zJQ q k true).length+1=q.length+1
        rw [ih.1 hm']
      · show (zJQ q k true).length+1=q.length+1+1
        rw [ih.2 (fun hm=>hn (List.mem_cons_of_mem _ hm))]
theorem zNo:∀ (l:List Int) (q:List (Int×Bool)),(zNq q l).length≤q.length+l.length∧((zNq q l).length=q.length+l.length↔l.Nodup ∧ ∀ x,x∈l→x ∉ q.map (·.1))
  | [],q=>⟨Nat.le_refl _,by simp [zNq]⟩
  | a::l,q=>by
    obtain ⟨h1,h2⟩:=zNo l (zJQ q a true)
    have e:zNq q (a::l)=zNq (zJQ q a true) l:=rfl
    rw [e]
    have hk:=zOB a q
    have hl:=zOp a q
    by_cases ha:a∈q.map (·.1)
    · rw [hl.1 ha] at h1 h2
      refine ⟨by simp; omega,⟨fun h=>by simp at h; omega,fun h=>absurd ha (h.2 a (by simp))⟩⟩
    · rw [hl.2 ha] at h1 h2
      refine ⟨by simp; omega,?_⟩
      rw [show q.length+(a::l).length=q.length+1+l.length by simp; omega,h2,List.nodup_cons]
      constructor
      · rintro ⟨n1,n2⟩
        refine ⟨⟨fun hm=>n2 a hm ((hk a).2 (.inl rfl)),n1⟩,fun x hx => ?_⟩
        rcases List.mem_cons.1 hx with rfl | hx
        · exact ha
        · exact fun hq=>n2 x hx ((hk x).2 (.inr hq))
      · rintro ⟨⟨n0,n1⟩,n2⟩
        refine ⟨n1,fun x hx hq => ?_⟩
        rcases (hk x).1 hq with rfl | hq
        · exact n0 hx
        · exact n2 x (by simp [hx]) hq
theorem zTr (hc:Ck c) {zn:Int}:zF3 c zn=some (pcR c zn):=by
  unfold zF3 pcR
  by_cases h1:zn<1∨6<zn
  · rw [if_pos h1]
    refine zAY ?_
    rcases h1 with h1 | h1 <;> simp [h1]
  · have h1a:¬ zn<1:=fun h=>h1 (.inl h)
    have h1b:¬ 6<zn:=fun h=>h1 (.inr h)
    rw [if_neg h1,df h1a,df h1b]
    refine (zAG (by rfl)).trans ?_
    by_cases h2:(c.lists.length:Int)=zn
    · rw [if_pos h2,dt h2]
      refine (zAG (by rfl)).trans ?_
      have hp:=pl0 hc c.lists.length z9 0 0 (by omega) (by have:=hc.n; unfold z9; omega) (by omega)
      rw [List.drop_zero,Nat.zero_add] at hp
      refine Eq.trans hp ?_
      cases hf:c.lists.flatten.all zFS with
      | false=>rfl
      | true =>
        rw [if_pos rfl,if_pos rfl]
        unfold zE4 zFO
        rw [show (0:Int)=((0:Nat):Int) from rfl,fm0 hc c.lists.length z9 0 [] (by omega) (by have:=hc.n; unfold z9; omega),zD0,List.drop_zero]
        have hm:=(zNo c.lists.flatten []).2
        simp only [List.length_nil,Nat.zero_add,List.map_nil,List.not_mem_nil,not_false_eq_true,implies_true,and_true] at hm
        by_cases hd:c.lists.flatten.Nodup
        · rw [if_pos hd,dt (by have:=hm.2 hd; omega)]
          rfl
        · rw [if_neg hd,df (fun h=>hd (hm.1 (by omega)))]
          rfl
    · rw [if_neg h2,df h2]
      rfl
def zJG:List Bool→List Int→Option (List Bool)
  | d,[]=>some d
  | d,f::r=>if d.getD f.toNat false=true then none else zJG (d.set f.toNat true) r
theorem zNu:∀ {l:List Int} {d d':List Bool},zJG d l=some d'→d'.length=d.length
  | [],_,_,h=>by unfold zJG at h; cases h; rfl
  | x::l,d,d',h=>by
    unfold zJG at h
    split at h
    · cases h
    · rw [zNu h,List.length_set]
theorem zN7:∀ (l r:List Int) (d:List Bool),zJG d (l++r)=(zJG d l).bind fun d'=>zJG d' r
  | [],_,_=>rfl
  | x::l,r,d=>by
    show (if d.getD x.toNat false=true then none else zJG (d.set x.toNat true) (l++r))=(if d.getD x.toNat false=true then none else zJG (d.set x.toNat true) l).bind fun d'=>zJG d' r
    split
    · rfl
    · exact zN7 l r _
theorem zN5:∀ (l:List Int) (d:List Bool),d.length=256→(∀ f,f∈l→0≤f∧f<256)→(zJG d l≠none↔l.Nodup ∧ ∀ f,f∈l→d.getD f.toNat false=false)
  | [],d,_,_=>by simp [zJG]
  | x::l,d,hd,hin=>by
    have hx:=hin x (by simp)
    unfold zJG
    cases hq:d.getD x.toNat false with
    | true =>
      rw [if_pos rfl]
      exact ⟨fun h=>absurd rfl h,fun h=>by have:=h.2 x (by simp); rw [hq] at this; cases this⟩
    | false =>
      rw [if_neg (by simp),zN5 l _ (by rw [List.length_set]; exact hd) (fun f hf=>hin f (by simp [hf])),List.nodup_cons]
      constructor
      · rintro ⟨h1,h2⟩
        refine ⟨⟨fun hm => ?_,h1⟩,fun f hf => ?_⟩
        · have:=h2 x hm
          rw [zC3 _ _ _ (by omega),if_pos rfl] at this
          cases this
        · rcases List.mem_cons.1 hf with rfl | hf
          · exact hq
          · have:=h2 f hf
            rw [zC3 _ _ _ (by omega)] at this
            split at this
            · cases this
            · exact this
      · rintro ⟨⟨h0,h1⟩,h2⟩
        refine ⟨h1,fun f hf => ?_⟩
        have hfb:=hin f (by simp [hf])
        rw [zC3 _ _ _ (by omega),if_neg]
        · exact h2 f (by simp [hf])
        · intro e
          have:f=x:=by omega
          exact h0 (this▸hf)
theorem ql3 {se:Int→Option Int} {j:Nat} {l:List Int} (hc:Ck c) (hj:j<c.lists.length) (hl:c.lists[j]=l):∀ (m n i:Nat),i+m=l.length→m<n →
    zFd se c (j:Int) n (i:Int)=if (l.drop i).all zFS=true then se ((j+1:Nat):Int) else some 2:=by
  have hb:l.length≤1000:=by rw [← hl]; exact hc.le hj
  have hn:=hc.n
  have e:at_ c.lists (j:Int)=l:=by rw [zII hj,hl]
  intro m
  induction m with
  | zero =>
    intro n i h1 h2
    obtain ⟨n,rfl⟩:∃ q,n=q+1:=⟨n - 1,by omega⟩
    show zDg _ _ _ _ _=_
    unfold zDg zHK
    rw [e,zAG (df (by omega)),zi (zAE (by omega)),List.drop_eq_nil_of_le (by omega)]
    rfl
  | succ m ih =>
    intro n i h1 h2
    obtain ⟨n,rfl⟩:∃ q,n=q+1:=⟨n - 1,by omega⟩
    have hi:i<l.length:=by omega
    show zDg _ _ _ _ _=_
    unfold zDg
    have ho:zGC l[i]=some (!zFS l[i]):=by
      unfold zGC zFS
      congr 1
      rw [Bool.eq_iff_iff]
      simp only [Bool.or_eq_true,decide_eq_true_eq,Bool.not_eq_true',Bool.and_eq_false_iff,decide_eq_false_iff_not]
      omega
    rw [e,zAY (dt (by omega)),zi (zAb hi),zII hi,ho,zD0,List.drop_eq_getElem_cons hi,List.all_cons,zi (zAE (by omega))]
    cases hf:zFS l[i] with
    | false=>rfl
    | true=>exact ih n (i+1) (by omega) (by omega)
theorem ql2 (hc:Ck c):∀ (m n i:Nat),i+m=c.lists.length→m<n →
    zCL c n (i:Int)=if ((c.lists.drop i).flatten).all zFS=true then zFb c else some 2:=by
  have hn:=hc.n
  intro m
  induction m with
  | zero =>
    intro n i h1 h2
    obtain ⟨n,rfl⟩:∃ q,n=q+1:=⟨n - 1,by omega⟩
    show zDV _ _ _=_
    unfold zDV
    rw [zAG (df (by omega)),zOv (by omega)]
    rfl
  | succ m ih =>
    intro n i h1 h2
    obtain ⟨n,rfl⟩:∃ q,n=q+1:=⟨n - 1,by omega⟩
    have hi:i<c.lists.length:=by omega
    have hb:=hc.le hi
    show zDV _ _ _=_
    unfold zDV
    rw [zAY (dt (by omega)),zi (zAb hi),show (0:Int)=((0:Nat):Int) from rfl,ql3 hc hi rfl c.lists[i].length z9 0 (by omega) (by unfold z9; omega),List.drop_zero,zM7 hi,List.all_append]
    cases hf:c.lists[i].all zFS with
    | false=>rfl
    | true =>
      rw [if_pos rfl,Bool.true_and]
      exact ih n (i+1) (by omega) (by omega)
theorem ql1 {se:Int→List Bool→Option Int} {j:Nat} {l:List Int} (hc:Ck c) (hj:j<c.lists.length) (hl:c.lists[j]=l) (hin:∀ f,f∈l→0≤f∧f<256):∀ (m n i:Nat) (d:List Bool),i+m=l.length→m<n→d.length=256 →
    zFn se c (j:Int) n (i:Int) d=match zJG d (l.drop i) with | none=>some 7 | some d'=>se ((j+1:Nat):Int) d':=by
  have hb:l.length≤1000:=by rw [← hl]; exact hc.le hj
  have hn:=hc.n
  have e:at_ c.lists (j:Int)=l:=by rw [zII hj,hl]
  intro m
  induction m with
  | zero =>
    intro n i d h1 h2 h3
    obtain ⟨n,rfl⟩:∃ q,n=q+1:=⟨n - 1,by omega⟩
    show zDL _ _ _ _ _ _=_
    unfold zDL zHL
    rw [e,zAG (df (by omega)),zi (zAE (by omega)),List.drop_eq_nil_of_le (by omega)]
    rfl
  | succ m ih =>
    intro n i d h1 h2 h3
    obtain ⟨n,rfl⟩:∃ q,n=q+1:=⟨n - 1,by omega⟩
    have hi:i<l.length:=by omega
    have hf:=hin _ (List.getElem_mem hi)
    obtain ⟨f,hf2⟩:=Int.eq_ofNat_of_zero_le hf.1
    have hfl:f<d.length:=by omega
    show zDL _ _ _ _ _ _=_
    unfold zDL
    have ed:at_ d (f:Int)=d.getD f false:=by rw [zII hfl,List.getD_eq_getElem?_getD,List.getElem?_eq_getElem hfl]; rfl
    rw [e,zAY (dt (by omega)),zi (zAb hi),zII hi,List.drop_eq_getElem_cons hi,hf2,zi (zAb hfl),ed,zi (zAE (by omega)),Int.toNat_natCast]
    unfold zJG
    rw [Int.toNat_natCast]
    cases hd:d.getD f false with
    | true=>rfl
    | false =>
      rw [zAG rfl,if_neg (by simp)]
      exact ih n (i+1) (d.set f true) (by omega) (by omega) (by rw [List.length_set]; exact h3)
theorem ql0 (hc:Ck c) (hin:∀ f,f∈c.lists.flatten→0≤f∧f<256):∀ (m n i:Nat) (d:List Bool),i+m=c.lists.length→m<n→d.length=256 →
    zCJ c n (i:Int) d=match zJG d (c.lists.drop i).flatten with | none=>some 7 | some _=>some 0:=by
  have hn:=hc.n
  intro m
  induction m with
  | zero =>
    intro n i d h1 h2 h3
    obtain ⟨n,rfl⟩:∃ q,n=q+1:=⟨n - 1,by omega⟩
    show zDk _ _ _ _=_
    unfold zDk
    rw [zAG (df (by omega)),zOv (by omega)]
    rfl
  | succ m ih =>
    intro n i d h1 h2 h3
    obtain ⟨n,rfl⟩:∃ q,n=q+1:=⟨n - 1,by omega⟩
    have hi:i<c.lists.length:=by omega
    have hb:=hc.le hi
    show zDk _ _ _ _=_
    unfold zDk
    rw [zAY (dt (by omega)),zi (zAb hi),show (0:Int)=((0:Nat):Int) from rfl,ql1 hc hi rfl (fun f hf=>hin f (List.mem_flatten.2 ⟨_,List.getElem_mem hi,hf⟩)) c.lists[i].length z9 0 d (by omega) (by unfold z9; omega) h3,List.drop_zero,zM7 hi,zN7]
    cases hm:zJG d c.lists[i] with
    | none=>rfl
    | some d'=>exact ih n (i+1) d' (by omega) (by omega) (by rw [zNu hm]; exact h3)
theorem zTx (hc:Ck c) {zn:Int}:zID c zn=some (pcR c zn):=by
  unfold zID pcR
  by_cases h1:zn<1∨6<zn
  · rw [if_pos h1]
    refine zAY ?_
    rcases h1 with h1 | h1 <;> simp [h1]
  · have h1a:¬ zn<1:=fun h=>h1 (.inl h)
    have h1b:¬ 6<zn:=fun h=>h1 (.inr h)
    rw [if_neg h1,df h1a,df h1b]
    refine (zAG (by rfl)).trans ?_
    by_cases h2:(c.lists.length:Int)=zn
    · rw [if_pos h2,dt h2]
      refine (zAG (by rfl)).trans ?_
      have hp:=ql2 hc c.lists.length z9 0 (by omega) (by have:=hc.n; unfold z9; omega)
      rw [List.drop_zero] at hp
      refine Eq.trans hp ?_
      cases hf:c.lists.flatten.all zFS with
      | false=>rfl
      | true =>
        rw [if_pos rfl,if_pos rfl]
        unfold zFb
        have hin:∀ f,f∈c.lists.flatten→0≤f∧f<256:=fun f hm=>by
          have:=List.all_eq_true.1 hf f hm
          unfold zFS at this
          simpa using this
        rw [zi (by rfl),show (0:Int)=((0:Nat):Int) from rfl,ql0 hc hin c.lists.length z9 0 _ (by omega) (by have:=hc.n; unfold z9; omega) (by rw [List.length_replicate]; rfl),List.drop_zero]
        have hm:=zN5 c.lists.flatten (List.replicate (256:Int).toNat false) (by rw [List.length_replicate]; rfl) hin
        have hz:∀ f:Int,f∈c.lists.flatten→(List.replicate (256:Int).toNat false).getD f.toNat false=false:=fun f _=>by
          rw [List.getD_eq_getElem?_getD,List.getElem?_replicate]
          split <;> rfl
        by_cases hd:c.lists.flatten.Nodup
        · rw [if_pos hd]
          have:=hm.2 ⟨hd,hz⟩
          cases hq:zJG (List.replicate (256:Int).toNat false) c.lists.flatten with
          | none=>exact absurd hq this
          | some d=>rfl
        · rw [if_neg hd]
          cases hq:zJG (List.replicate (256:Int).toNat false) c.lists.flatten with
          | none=>rfl
          | some d=>exact absurd (hm.1 (by rw [hq]; simp)).1 hd
    · rw [if_neg h2,df h2]
      rfl
end
end Go.Proofs.YtplkliakhdkpcaaGreat
