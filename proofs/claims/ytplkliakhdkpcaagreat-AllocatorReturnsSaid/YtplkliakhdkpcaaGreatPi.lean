/-
  Free frames of a zone, and their number, on both sides. No program in sight.
-/
import Derived.Test.YtplkliakhdkpcaaGreatPh
set_option linter.unusedVariables false
set_option linter.unusedSimpArgs false
namespace Go.Proofs.YtplkliakhdkpcaaGreat
open Go Go.RowKit Go.Wk Go.Am
def zLl (z:zo) (f:Int):Bool:=decide (zEr z=0)&&inside z f 0&&decide (0<(zNr z).getD f.toNat 0)
theorem zRj:∀ k:Fin 5, ∀ x:Fin 256,zLD .andNot .i64 (x.val:Int) (2 ^ k.val - 1)=((x.val/2 ^ k.val*2 ^ k.val:Nat):Int):=by decide +kernel
section
variable {z:zo} {k:Nat} {l:List Int}
theorem zGb (hz:Zk z) (h:zEr z=0):ranges z=true∧(∀ k,k<5 → ∀ f,f∈lst z k→inside z f k=true)∧(∀ k,Srt (lst z k)):=by
  have hr:=zC9 h
  have hc:zEw z 0 z.free=0:=by
    unfold zEr at h
    rw [if_neg (by rw [hr]; simp)] at h
    by_cases h0:zEw z 0 z.free=0
    · exact h0
    · rw [if_neg h0] at h; exact h
  exact ⟨hr,fun k _=>(zLb hz hc k).1,fun k=>(zLb hz hc k).2⟩
theorem zPS (hz:Zk z) (h:zEr z=0) {f:Nat} (hf:f<256):∀ (m n k:Nat),k+m=5→m<n → ∃ r,zDU z (f:Int) n (k:Int)=some r∧(0≤r.1 ↔ ∃ j,k≤j∧j<5∧((f/2 ^ j*2 ^ j:Nat):Int)∈lst z j):=by
  obtain ⟨hr,hin,hs⟩:=zGb hz h
  intro m
  induction m with
  | zero =>
    intro n k h1 h2
    obtain ⟨n,rfl⟩:∃ q,n=q+1:=⟨n - 1,by omega⟩
    refine ⟨(-1,0),?_,⟨fun hh=>absurd hh (by decide),fun ⟨j,a,b,_⟩=>by omega⟩⟩
    show zDZ _ _ _ _=_
    unfold zDZ
    rw [zAG (df (by omega))]
    rfl
  | succ m ih =>
    intro n k h1 h2
    obtain ⟨n,rfl⟩:∃ q,n=q+1:=⟨n - 1,by omega⟩
    obtain ⟨e2,p1,p2⟩:=zIn (k:=k) (by omega)
    have e:z.free.getD (k:Int).toNat []=lst z k:=rfl
    have ha:=zRj ⟨k,by omega⟩ ⟨f,hf⟩
    simp only at ha
    have ee:zDU z (f:Int) (n+1) (k:Int)=cnd (decide (((f/2 ^ k*2 ^ k:Nat):Int)∈lst z k)) (some ((k:Int),((f/2 ^ k*2 ^ k:Nat):Int))) (zDU z (f:Int) n ((k+1:Nat):Int)):=by
      show zDZ _ _ _ _=_
      unfold zDZ
      rw [zAY (dt (by omega)),zi (zLa (by omega)),e2,zi (zAE (by omega)),zi (zAE (by omega)),zi (zAb (by omega)),e,ha,zRL (hs k) (hz.bd k),zD0,zi (zAE (by omega))]
      rfl
    rw [ee]
    by_cases hm:((f/2 ^ k*2 ^ k:Nat):Int)∈lst z k
    · rw [zAY (dt hm)]
      exact ⟨_,rfl,⟨fun _=>⟨k,Nat.le_refl _,by omega,hm⟩,fun _=>Int.natCast_nonneg k⟩⟩
    · rw [zAG (df hm)]
      obtain ⟨r,r1,r2⟩:=ih n (k+1) (by omega) (by omega)
      refine ⟨r,r1,r2.trans ⟨fun ⟨j,a,b,c⟩=>⟨j,by omega,b,c⟩,fun ⟨j,a,b,c⟩=>⟨j,?_,b,c⟩⟩⟩
      by_cases hjk:j=k
      · subst hjk; exact absurd c hm
      · omega
theorem zQp {s:List Int} {i m g:Nat} (h:i+m≤s.length) (hg:0≤s.getD g 0):0<(zIf s i m).getD g 0↔0<s.getD g 0∨(i≤g∧g<i+m):=by
  rw [zJc _ _ _ _ h]
  split
  · rename_i hq
    exact ⟨fun _ => .inr hq,fun _=>by omega⟩
  · rename_i hq
    exact ⟨.inl,fun h=>h.resolve_right hq⟩
theorem zN4 (hr:ranges z=true) (hk:k<5) {g:Nat}:∀ (l:List Int) {s:List Int},s.length=256→(∀ f,f∈l→inside z f k=true)→0≤s.getD g 0→(0<(zHd k s l).getD g 0↔0<s.getD g 0 ∨ ∃ x,x∈l∧x≤(g:Int)∧(g:Int)<x+2 ^ k)
  | [],s,_,_,_=>by unfold zHd; simp
  | x::l,s,hs,hin,h0=>by
    have hbd:=zAf hr (hin x (by simp))
    have pn:=zLW (k:=k) (by omega)
    have hle:=zLd (2 ^ k) x.toNat s g
    unfold zHd
    rw [zN4 hr hk l (by rw [zJX]; exact hs) (fun f hf=>hin f (by simp [hf])) (by omega),zQp (by rw [hs]; omega) h0]
    constructor
    · rintro ((h | h) | ⟨y,h1,h2⟩)
      · exact .inl h
      · exact .inr ⟨x,by simp,by omega,by omega⟩
      · exact .inr ⟨y,by simp [h1],h2⟩
    · rintro (h | ⟨y,h1,h2,h3⟩)
      · exact .inl (.inl h)
      · rcases List.mem_cons.1 h1 with rfl | h1
        · exact .inl (.inr (by omega))
        · exact .inr ⟨y,h1,h2,h3⟩
theorem zMs (hr:ranges z=true) {g:Nat}:∀ (ls:List (List Int)) (k:Nat) {s:List Int},k+ls.length=5→s.length=256→(∀ j l,ls[j]?=some l → ∀ f,f∈l→inside z f (k+j)=true)→0≤s.getD g 0 →
    (0<(zGn k s ls).getD g 0↔0<s.getD g 0 ∨ ∃ j l x,ls[j]?=some l∧x∈l∧x≤(g:Int)∧(g:Int)<x+2 ^ (k+j))
  | [],k,s,_,_,_,_=>by unfold zGn; simp
  | l::ls,k,s,hk,hs,hin,h0=>by
    have hk':k+(ls.length+1)=5:=hk
    have hle:=zJI l k s g
    unfold zGn
    rw [zMs hr ls (k+1) (by omega) (by rw [zIC]; exact hs) (fun j l' hj f hf=>by
        have:=hin (j+1) l' hj f hf
        rwa [show k+(j+1)=k+1+j by omega] at this) (by omega),zN4 hr (by omega) l hs (fun f hf=>by have:=hin 0 l rfl f hf; rwa [Nat.add_zero] at this) h0]
    constructor
    · rintro ((h | ⟨x,h1,h2,h3⟩) | ⟨j,l',x,h1,h2,h3,h4⟩)
      · exact .inl h
      · exact .inr ⟨0,l,x,rfl,h1,h2,h3⟩
      · exact .inr ⟨j+1,l',x,h1,h2,h3,by rw [show k+(j+1)=k+1+j by omega]; exact h4⟩
    · rintro (h | ⟨j,l',x,h1,h2,h3,h4⟩)
      · exact .inl (.inl h)
      · cases j with
        | zero =>
          simp at h1
          subst h1
          exact .inl (.inr ⟨x,h2,h3,h4⟩)
        | succ j=>exact .inr ⟨j,l',x,by simpa using h1,h2,h3,by rw [show k+1+j=k+(j+1) by omega]; exact h4⟩
theorem zLw (hz:Zk z) (hr:ranges z=true) (hin:∀ k,k<5 → ∀ f,f∈lst z k→inside z f k=true) (g:Nat):0<(zNr z).getD g 0↔cov z g:=by
  unfold zNr
  have h0:(List.replicate 256 (0:Int)).getD g 0=0:=by
    rw [List.getD_eq_getElem?_getD,List.getElem?_replicate]
    split <;> rfl
  rw [zMs hr z.free 0 (by rw [hz.len]) (by rw [List.length_replicate]) (fun j l hj f hf=>by
    have hj5:j<5:=by rw [← hz.len]; exact (List.getElem?_eq_some_iff.1 hj).1
    rw [hz.get hj5] at hj
    cases hj
    rw [Nat.zero_add]
    exact hin j hj5 f hf) (by rw [h0]; decide),h0]
  constructor
  · rintro (h | ⟨j,l,x,h1,h2,h3,h4⟩)
    · exact absurd h (by decide)
    · have hj5:j<5:=by rw [← hz.len]; exact (List.getElem?_eq_some_iff.1 h1).1
      rw [hz.get hj5] at h1
      cases h1
      rw [Nat.zero_add] at h4
      exact ⟨j,x,h2,h3,h4⟩
  · rintro ⟨j,x,h2,h3,h4⟩
    rcases Nat.lt_or_ge j 5 with hj | hj
    · exact .inr ⟨j,lst z j,x,hz.get hj,h2,h3,by rw [Nat.zero_add]; exact h4⟩
    · rw [zKu hz.len hj] at h2; exact absurd h2 (by simp)
theorem zMq {f:Nat} {x:Int} (hk:k<5) (h0:0≤x) (ha:x%2 ^ k=0):(x≤(f:Int)∧(f:Int)<x+2 ^ k)↔x=((f/2 ^ k*2 ^ k:Nat):Int):=by
  have hk':k=0∨k=1∨k=2∨k=3∨k=4:=by omega
  rcases hk' with rfl | rfl | rfl | rfl | rfl <;> simp only [pw0,pw1,pw2,pw3,pw4,Nat.reducePow] at * <;> omega
theorem zTw (hz:Zk z) (f:Int):zF6 z f=some (zLl z f):=by
  unfold zF6 zLl
  rw [zP4 hz,zD0]
  by_cases h:zEr z=0
  · obtain ⟨hr,hin,_⟩:=zGb hz h
    have hbl:zBR z f 0=some (inside z f 0):=zJy (k:=0) hr (by omega)
    rw [dt h,zAY rfl,hbl,zD0]
    cases hi:inside z f 0 with
    | false=>rfl
    | true =>
      have hb:=zAf hr hi
      rw [pw0] at hb
      obtain ⟨m,rfl⟩:=Int.eq_ofNat_of_zero_le hb.1
      have hm:m<(zNr z).length:=by rw [zOT]; omega
      rw [Bool.and_true,zAY rfl,zPv hz hr hin,zD0,zi (zJ9 (zAb hm)),zII hm,Int.toNat_natCast,List.getD_eq_getElem?_getD,List.getElem?_eq_getElem hm]
      rfl
  · rw [df h]
    rfl
theorem zTv (hz:Zk z) (hI:inI z.start=true) (f:Int):zF2 z f=some (zLl z f):=by
  unfold zF2 zLl
  rw [zQg hz hI,zD0]
  by_cases h:zEr z=0
  · obtain ⟨hr,hin,_⟩:=zGb hz h
    have hie:zCF z f 0=some (inside z f 0):=zJg (k:=0) hr (by omega)
    rw [dt h,Bool.not_true,Bool.not_false,zAY rfl,hie,zD0]
    cases hi:inside z f 0 with
    | false=>rfl
    | true =>
      have hb:=zAf hr hi
      rw [pw0] at hb
      obtain ⟨m,rfl⟩:=Int.eq_ofNat_of_zero_le hb.1
      refine (zAG (by rfl)).trans ?_
      unfold zGz
      obtain ⟨r,r1,r2⟩:=zPS hz h (f:=m) (by omega) 5 z9 0 (by omega) (by unfold z9; omega)
      rw [show (0:Int)=((0:Nat):Int) from rfl,r1,zD0]
      congr 1
      rw [Bool.true_and,Bool.true_and,decide_eq_decide,Int.toNat_natCast]
      refine Iff.trans r2 (Iff.trans ?_ (zLw hz hr hin m).symm)
      constructor
      · rintro ⟨j,_,hj,hm⟩
        have hbj:=zAf hr (hin j hj _ hm)
        have haj:=(zBK hr).1 (hin j hj _ hm)
        have:=(zMq (f:=m) hj hbj.1 haj.2.1).2 rfl
        exact ⟨j,_,hm,this.1,this.2⟩
      · rintro ⟨j,x,hx,h1,h2⟩
        rcases Nat.lt_or_ge j 5 with hj | hj
        · have hbj:=zAf hr (hin j hj _ hx)
          have haj:=(zBK hr).1 (hin j hj _ hx)
          have:=(zMq (f:=m) hj hbj.1 haj.2.1).1 ⟨h1,h2⟩
          exact ⟨j,Nat.zero_le _,hj,this▸hx⟩
        · rw [zKu hz.len hj] at hx; exact absurd hx (by simp)
  · rw [df h]
    rfl
end
end Go.Proofs.YtplkliakhdkpcaaGreat
