/-
  The reference's Check of a zone gives 'check': the frames listed twice, the buddies; free frames. No program in sight.
-/
import Derived.Test.YtplkliakhdkpcaaGreatPg
set_option linter.unusedVariables false
set_option linter.unusedSimpArgs false
namespace Go.Proofs.YtplkliakhdkpcaaGreat
open Go Go.RowKit Go.Wk Go.Am
theorem zC3 {α:Type} (l:List α) (i g:Nat) (h:i<l.length) (x d:α):(l.set i x).getD g d=if g=i then x else l.getD g d:=by
  simp only [List.getD_eq_getElem?_getD,List.getElem?_set]
  by_cases hg:i=g
  · rw [if_pos hg,if_pos h,if_pos hg.symm]; rfl
  · rw [if_neg hg,if_neg (fun e=>hg e.symm)]
structure MB (d:List Bool) (s:List Int):Prop where
  dl:d.length=256
  sl:s.length=256
  t:∀ g,d.getD g false=true→s.getD g 0=1
  f:∀ g,d.getD g false=false→s.getD g 0=0
section
variable {z:zo} {k:Nat} {l:List Int}
theorem zLd:∀ (m i:Nat) (s:List Int) (g:Nat),s.getD g 0≤(zIf s i m).getD g 0
  | 0,_,_,_=>Int.le_refl _
  | m+1,i,s,g=>by
    unfold zIf
    refine Int.le_trans ?_ (zLd m (i+1) _ g)
    rcases Nat.lt_or_ge i s.length with h | h
    · rw [zTK s i g h]
      split
      · rename_i e; rw [e]; omega
      · omega
    · rw [List.set_eq_of_length_le h]
      omega
theorem zJI:∀ (l:List Int) (k:Nat) (s:List Int) (g:Nat),s.getD g 0≤(zHd k s l).getD g 0
  | [],_,_,_=>Int.le_refl _
  | x::l,k,s,g=>by
    unfold zHd
    exact Int.le_trans (zLd _ _ _ _) (zJI l k _ g)
theorem zLp:∀ (ls:List (List Int)) (k:Nat) (s:List Int) (g:Nat),s.getD g 0≤(zGn k s ls).getD g 0
  | [],_,_,_=>Int.le_refl _
  | l::ls,k,s,g=>by
    unfold zGn
    exact Int.le_trans (zJI l k s g) (zLp ls (k+1) _ g)
theorem zUm:∀ (m f:Nat) {d:List Bool} {s:List Int},MB d s→f+m≤256→match zMK d f m with | some d'=>MB d' (zIf s f m) | none => ∃ g,1<(zIf s f m).getD g 0
  | 0,_,_,_,h,_=>h
  | m+1,f,d,s,h,hm=>by
    unfold zMK
    cases hd:d.getD f false with
    | true =>
      rw [if_pos rfl]
      refine ⟨f,?_⟩
      rw [zJc _ _ _ _ (by rw [h.sl]; exact hm),if_pos (by omega),h.t f hd]
      decide
    | false =>
      rw [if_neg (by simp)]
      unfold zIf
      have hs:=h.sl
      have hl:=h.dl
      refine zUm m (f+1) ⟨by rw [List.length_set]; exact hl,by rw [List.length_set]; exact hs,fun g hg => ?_,fun g hg => ?_⟩ (by omega)
      · rw [zTK s f g (by omega)]
        rw [zC3 d f g (by omega)] at hg
        by_cases e:g=f
        · rw [if_pos e,h.f f hd]; rfl
        · rw [if_neg e]
          rw [if_neg e] at hg
          exact h.t g hg
      · rw [zC3 d f g (by omega)] at hg
        by_cases e:g=f
        · rw [if_pos e] at hg; cases hg
        · rw [if_neg e] at hg
          rw [zTK s f g (by omega),if_neg e]
          exact h.f g hg
theorem zUj (hr:ranges z=true):∀ (l:List Int) {d:List Bool} {s:List Int},(∀ f,f∈l→inside z f k=true)→k<5→MB d s→match zMG k d l with | some d'=>MB d' (zHd k s l) | none => ∃ g,1<(zHd k s l).getD g 0
  | [],_,_,_,_,h=>h
  | x::l,d,s,hin,hk,h=>by
    have hbd:=zAf hr (hin x (by simp))
    have pn:=zLW (k:=k) (by omega)
    have hn:=zUm (2 ^ k) x.toNat h (by omega)
    unfold zMG zHd
    cases hm:zMK d x.toNat (2 ^ k) with
    | none =>
      rw [hm] at hn
      obtain ⟨g,hg⟩:=hn
      exact ⟨g,by have:=zJI l k (zIf s x.toNat (2 ^ k)) g; omega⟩
    | some d' =>
      rw [hm] at hn
      exact zUj hr l (fun f hf=>hin f (by simp [hf])) hk hn
theorem zT5 (hr:ranges z=true):∀ (ls:List (List Int)) (k:Nat) {d:List Bool} {s:List Int},k+ls.length=5→(∀ j l,ls[j]?=some l → ∀ f,f∈l→inside z f (k+j)=true)→MB d s→match zIv k d ls with | some d'=>MB d' (zGn k s ls) | none => ∃ g,1<(zGn k s ls).getD g 0
  | [],_,_,_,_,_,h=>h
  | l::ls,k,d,s,hk,hin,h=>by
    have hk':k+(ls.length+1)=5:=hk
    have hn:=zUj hr l (d:=d) (s:=s) (fun f hf=>by have:=hin 0 l rfl f hf; rwa [Nat.add_zero] at this) (by omega) h
    unfold zIv zGn
    cases hm:zMG k d l with
    | none =>
      rw [hm] at hn
      obtain ⟨g,hg⟩:=hn
      exact ⟨g,by have:=zLp ls (k+1) (zHd k s l) g; omega⟩
    | some d' =>
      rw [hm] at hn
      exact zT5 hr ls (k+1) (by omega) (fun j l' hj f hf=>by
        have:=hin (j+1) l' hj f hf
        rwa [show k+(j+1)=k+1+j by omega] at this) hn
theorem mb0:MB zFV (List.replicate 256 0):=⟨zKI,by rw [List.length_replicate],fun g hg=>by
    unfold zFV at hg
    rw [List.getD_eq_getElem?_getD,List.getElem?_replicate] at hg
    split at hg <;> simp at hg,fun g _=>by
    rw [List.getD_eq_getElem?_getD,List.getElem?_replicate]
    split <;> rfl⟩
theorem zUp (hz:Zk z) (hr:ranges z=true) (hin:∀ k,k<5 → ∀ f,f∈lst z k→inside z f k=true):match zIv 0 zFV z.free with | some d=>MB d (zNr z) | none => ∃ g,1<(zNr z).getD g 0 :=
  zT5 hr z.free 0 (by rw [hz.len]) (fun j l hj f hf=>by
    have hj5:j<5:=by rw [← hz.len]; exact (List.getElem?_eq_some_iff.1 hj).1
    rw [hz.get hj5] at hj
    cases hj
    rw [Nat.zero_add]
    exact hin j hj5 f hf) mb0
theorem zMf:∀ (ls:List (List Int)) (k:Nat) (s:List Int),(zGn k s ls).length=s.length
  | [],_,_=>rfl
  | l::ls,k,s=>by unfold zGn; rw [zMf ls,zIC]
theorem zOT:(zNr z).length=256:=by unfold zNr; rw [zMf,List.length_replicate]
theorem rc2 {x:List Int} (hx:x.length=256):∀ (m n i:Nat),i+m=256→m<n→(∀ g,g<i → ¬ 1<x.getD g 0) →
    ((∃ g,1<x.getD g 0)→zBn z x n (i:Int)=some 7)∧((∀ g,¬ 1<x.getD g 0)→zBn z x n (i:Int)=zET z):=by
  intro m
  induction m with
  | zero =>
    intro n i h1 h2 h3
    obtain ⟨n,rfl⟩:∃ q,n=q+1:=⟨n - 1,by omega⟩
    have e:zBn z x (n+1) (i:Int)=zET z:=by
      show zDY _ _ _ _=_
      unfold zDY
      rw [zAG (df (by omega))]
    refine ⟨fun ⟨g,hg⟩ => ?_,fun _=>e⟩
    rcases Nat.lt_or_ge g i with h | h
    · exact absurd hg (h3 g h)
    · rw [List.getD_eq_getElem?_getD,List.getElem?_eq_none (by omega)] at hg
      exact absurd hg (by decide)
  | succ m ih =>
    intro n i h1 h2 h3
    obtain ⟨n,rfl⟩:∃ q,n=q+1:=⟨n - 1,by omega⟩
    have hi:i<x.length:=by omega
    have ea:at_ x (i:Int)=x.getD i 0:=by rw [zII hi,List.getD_eq_getElem?_getD,List.getElem?_eq_getElem hi]; rfl
    have e:zBn z x (n+1) (i:Int)=cnd (decide (1<x.getD i 0)) (some 7) (zBn z x n ((i+1:Nat):Int)):=by
      show zDY _ _ _ _=_
      unfold zDY
      rw [zAY (dt (by omega)),zi (zAb hi),ea,zi (zAE (by omega))]
      rfl
    rw [e]
    by_cases h7:1<x.getD i 0
    · rw [zAY (dt h7)]
      exact ⟨fun _=>rfl,fun h=>absurd h7 (h i)⟩
    · rw [zAG (df h7)]
      exact ih n (i+1) (by omega) (by omega) (fun g hg=>by
        by_cases e:g=i
        · rw [e]; exact h7
        · exact h3 g (by omega))
def Adj (z:zo) (k:Nat) (l:List Int) (i:Nat):Prop:=0<i∧i<l.length∧at_ l (i:Int)=at_ l ((i - 1:Nat):Int)+2 ^ k∧inside z (at_ l ((i - 1:Nat):Int)) (k+1)=true
theorem zSR (hr:ranges z=true) (hk:k<4) (hin:∀ f,f∈l→inside z f k=true) (hs:Srt l):(∃ i,Adj z k l i)↔zPN z k l l=true:=by
  have hp:=zJb k
  have hps:=zM1 k
  have key:∀ r,zPN z k l r=true ↔ ∃ f,f∈r∧bud f k∈l∧inside z (min f (bud f k)) (k+1)=true:=by
    intro r
    induction r with
    | nil=>unfold zPN; simp
    | cons f r ih =>
      unfold zPN
      by_cases h:(decide (bud f k∈l)&&inside z (min f (bud f k)) (k+1))=true
      · rw [if_pos h]
        simp only [Bool.and_eq_true,decide_eq_true_eq] at h
        exact ⟨fun _=>⟨f,by simp,h.1,h.2⟩,fun _=>rfl⟩
      · rw [if_neg h,ih]
        simp only [Bool.and_eq_true,decide_eq_true_eq] at h
        constructor
        · rintro ⟨g,h1,h2⟩; exact ⟨g,by simp [h1],h2⟩
        · rintro ⟨g,h1,h2,h3⟩
          rcases List.mem_cons.1 h1 with rfl | h1
          · exact absurd ⟨h2,h3⟩ h
          · exact ⟨g,h1,h2,h3⟩
  rw [key]
  constructor
  · rintro ⟨i,h0,hi,he,hq⟩
    have hi':i - 1<l.length:=by omega
    rw [zII hi,zII hi'] at he
    rw [zII hi'] at hq
    have hb:=zAf hr (hin _ (List.getElem_mem hi'))
    have ha:=(zBK hr).1 (hin _ (List.getElem_mem hi'))
    have ha2:=(zBK hr).1 hq
    have hbu:bud l[i - 1] k=l[i - 1]+2 ^ k:=by
      rcases zMu hk hb.1 (by omega) ha.2.1 with ⟨_,e⟩ | ⟨e,_⟩
      · exact e
      · rw [ha2.2.1] at e; omega
    refine ⟨l[i - 1],List.getElem_mem hi',?_,?_⟩
    · rw [hbu, ← he]; exact List.getElem_mem hi
    · rw [hbu,Int.min_eq_left (by omega)]; exact hq
  · rintro ⟨f,h1,h2,h3⟩
    have main:∀ x,x∈l→x+2 ^ k∈l→inside z x (k+1)=true → ∃ i,Adj z k l i:=by
      intro x hx hy hq
      obtain ⟨p,hp1,rfl⟩:=List.getElem_of_mem hx
      obtain ⟨q,hq1,hq2⟩:=List.getElem_of_mem hy
      have hpq:p<q:=by
        rcases Nat.lt_trichotomy p q with h | h | h
        · exact h
        · subst h; omega
        · have:=zJi hs (List.getElem?_eq_getElem hq1) (List.getElem?_eq_getElem hp1) h
          omega
      have hn:p+1<l.length:=by omega
      have hlt:=zJi hs (List.getElem?_eq_getElem hp1) (List.getElem?_eq_getElem hn) (by omega)
      have hle:l[p+1]≤l[q]:=by
        by_cases e:p+1=q
        · subst e; omega
        · have:=zJi hs (List.getElem?_eq_getElem hn) (List.getElem?_eq_getElem hq1) (by omega)
          omega
      have a1:=((zBK hr).1 (hin _ (List.getElem_mem hp1))).2.1
      have a2:=((zBK hr).1 (hin _ (List.getElem_mem hn))).2.1
      have he:l[p+1]=l[p]+2 ^ k:=by
        have hk':k=0∨k=1∨k=2∨k=3:=by omega
        rcases hk' with rfl | rfl | rfl | rfl <;> simp only [pw0,pw1,pw2,pw3] at * <;> omega
      refine ⟨p+1,by omega,hn,?_,?_⟩
      · rw [zII hn,show p+1 - 1=p by omega,zII hp1]; exact he
      · rw [show p+1 - 1=p by omega,zII hp1]; exact hq
    have hb:=zAf hr (hin f h1)
    have ha:=(zBK hr).1 (hin f h1)
    rcases zMu hk hb.1 (by omega) ha.2.1 with ⟨_,e⟩ | ⟨_,e⟩
    · rw [e] at h2 h3
      rw [Int.min_eq_left (by omega)] at h3
      exact main f h1 h2 h3
    · rw [e] at h2 h3
      rw [Int.min_eq_right (by omega)] at h3
      exact main (f - 2 ^ k) h2 (by rw [show f - 2 ^ k+2 ^ k=f by omega]; exact h1) h3
theorem rc1 {se:Int→Option Int} (hz:Zk z) (hr:ranges z=true) (hk:k<4) (hl:lst z k=l) (hin:∀ f,f∈l→inside z f k=true):∀ (m n i:Nat),l.length≤i+m→i≤1000001→m<n→0<i→(∀ j,j<i → ¬ Adj z k l j) →
    ((∃ j,Adj z k l j)→zBo se z (k:Int) n (i:Int)=some 11)∧((∀ j,¬ Adj z k l j)→zBo se z (k:Int) n (i:Int)=se ((k+1:Nat):Int)):=by
  have hb:l.length≤1000000:=by rw [← hl]; exact hz.bd k
  have e:z.free.getD (k:Int).toNat []=l:=hl
  obtain ⟨e2,p1,p2⟩:=zIn (k:=k) (by omega)
  have hend:∀ n i:Nat,l.length≤i→(∀ j,j<i → ¬ Adj z k l j)→((∃ j,Adj z k l j)→zBo se z (k:Int) (n+1) (i:Int)=some 11)∧((∀ j,¬ Adj z k l j)→zBo se z (k:Int) (n+1) (i:Int)=se ((k+1:Nat):Int)):=by
    intro n i h1 h4
    refine ⟨fun ⟨j,hj⟩=>absurd hj (h4 j (by have:=hj.2.1; omega)),fun _ => ?_⟩
    show zDX _ _ _ _ _=_
    unfold zDX zG9
    rw [e,zi (zAb (by omega)),zAG (df (by omega)),zi (zAE (by omega))]
    rfl
  intro m
  induction m with
  | zero =>
    intro n i h1 hi6 h2 h3 h4
    obtain ⟨n,rfl⟩:∃ q,n=q+1:=⟨n - 1,by omega⟩
    exact hend n i (by omega) h4
  | succ m ih =>
    intro n i h1 hi6 h2 h3 h4
    obtain ⟨n,rfl⟩:∃ q,n=q+1:=⟨n - 1,by omega⟩
    by_cases hi:i<l.length
    · have hbd:=zAf hr (hin _ (List.getElem_mem (show i - 1<l.length by omega)))
      have hat:=zII (l:=l) (i:=i - 1) (by omega)
      have ee:zBo se z (k:Int) (n+1) (i:Int)=cnd (decide (at_ l (i:Int)=at_ l ((i - 1:Nat):Int)+2 ^ k)&&inside z (at_ l ((i - 1:Nat):Int)) (k+1)) (some 11) (zBo se z (k:Int) n ((i+1:Nat):Int)):=by
        show zDX _ _ _ _ _=_
        unfold zDX
        have hbl:zBR z (at_ l ((i - 1:Nat):Int)) ((k:Int)+1)=some (inside z (at_ l ((i - 1:Nat):Int)) (k+1)):=zJy (k:=k+1) hr (by omega)
        rw [e,e2,zi (zAb (by omega)),zAY (dt (by omega)),zi (zAb hi),zi (zAE (by omega)),zNt h3,zi (zAb (by omega)),zi (dt (zGr (by omega) (by omega))),zi (zLa (by omega)),zi (zAE (by omega)),zi (zAE (by rw [hat]; omega)),zi (zJ9 (zAE (by omega))),hbl,zi (zAE (by omega))]
        cases decide (at_ l (i:Int)=at_ l ((i - 1:Nat):Int)+2 ^ k) with
        | true=>rfl
        | false=>rfl
      rw [ee]
      by_cases ha:Adj z k l i
      · rw [dt ha.2.2.1,ha.2.2.2]
        exact ⟨fun _=>rfl,fun h=>absurd ha (h i)⟩
      · have hf:(decide (at_ l (i:Int)=at_ l ((i - 1:Nat):Int)+2 ^ k)&&inside z (at_ l ((i - 1:Nat):Int)) (k+1))=false:=by
          refine Bool.eq_false_iff.2 fun h=>ha ?_
          simp only [Bool.and_eq_true,decide_eq_true_eq] at h
          exact ⟨h3,hi,h.1,h.2⟩
        rw [zAG hf]
        exact ih n (i+1) (by omega) (by omega) (by omega) (by omega) (fun j hj=>by
          by_cases e:j=i
          · rw [e]; exact ha
          · exact h4 j (by omega))
    · exact hend n i (by omega) h4
theorem rc0 (hz:Zk z) (hr:ranges z=true) (hin:∀ k,k<5 → ∀ f,f∈lst z k→inside z f k=true) (hs:∀ k,Srt (lst z k)):∀ (m n k:Nat),k+m=4→m<n →
    zBr z n (k:Int)=if zMP z k ((z.free.take 4).drop k)=true then some 11 else some 0:=by
  intro m
  induction m with
  | zero =>
    intro n k h1 h2
    obtain ⟨n,rfl⟩:∃ q,n=q+1:=⟨n - 1,by omega⟩
    show zDe _ _ _=_
    unfold zDe
    rw [zAG (df (by omega)),List.drop_eq_nil_of_le (by rw [List.length_take,hz.len]; omega)]
    rfl
  | succ m ih =>
    intro n k h1 h2
    obtain ⟨n,rfl⟩:∃ q,n=q+1:=⟨n - 1,by omega⟩
    show zDe _ _ _=_
    unfold zDe
    have hb:=hz.bd k
    obtain ⟨a1,a2⟩:=List.getElem?_eq_some_iff.1 (zMB (hz.get (k:=k) (by omega)) (show k<4 by omega))
    have hc:=rc1 (se:=zBr z n) hz hr (k:=k) (by omega) rfl (hin k (by omega)) (lst z k).length z9 1 (by omega) (by omega) (by unfold z9; omega) (by omega) (fun j hj h=>by have:=h.1; omega)
    rw [zAY (dt (by omega)),List.drop_eq_getElem_cons a1,a2]
    conv=>rhs; unfold zMP
    have hab:=zSR (l:=lst z k) hr (by omega) (hin k (by omega)) (hs k)
    by_cases hq:zPN z k (lst z k) (lst z k)=true
    · rw [if_pos hq,if_pos rfl]
      exact hc.1 (hab.2 hq)
    · rw [if_neg hq]
      refine (hc.2 (fun j hj=>hq (hab.1 ⟨j,hj⟩))).trans ?_
      exact ih n (k+1) (by omega) (by omega)
theorem zP4 (hz:Zk z):zFz z=some (zEr z):=by
  unfold zFz zEr
  rw [zPY,zD0]
  cases hr:ranges z with
  | false=>rfl
  | true =>
    rw [Bool.not_true,zAG rfl,if_neg (by simp)]
    unfold zGF
    rw [show (0:Int)=((0:Nat):Int) from rfl,rl5 hz hr 5 z9 0 (by omega) (by unfold z9; omega) rfl,zD0]
    show cnd (!decide (zEw z 0 z.free=0)) _ _=some (if zEw z 0 z.free=0 then _ else _)
    by_cases h0:zEw z 0 z.free=0
    · rw [dt h0,if_pos h0,Bool.not_true,zAG rfl]
      have hl:=fun k=>zLb hz h0 k
      rw [zPv hz hr (fun k _=>(hl k).1),zD0]
      have hm:=zUp hz hr (fun k _=>(hl k).1)
      have hc:=rc2 (z:=z) (zOT (z:=z)) 256 z9 0 (by omega) (by unfold z9; omega) (fun g hg=>by omega)
      show zBn z (zNr z) z9 ((0:Nat):Int)=_
      cases hd:zIv 0 zFV z.free with
      | none =>
        rw [hd] at hm
        rw [hc.1 hm]
        rfl
      | some d =>
        rw [hd] at hm
        rw [hc.2 (fun g hg=>by
          cases hb:d.getD g false with
          | true=>have:=hm.t g hb; omega
          | false=>have:=hm.f g hb; omega),if_neg (by simp)]
        unfold zET
        rw [show (0:Int)=((0:Nat):Int) from rfl,rc0 hz hr (fun k _=>(hl k).1) (fun k=>(hl k).2) 4 z9 0 (by omega) (by unfold z9; omega),List.drop_zero]
        split <;> rfl
    · rw [df h0,if_neg h0]
      rfl
end
end Go.Proofs.YtplkliakhdkpcaaGreat
