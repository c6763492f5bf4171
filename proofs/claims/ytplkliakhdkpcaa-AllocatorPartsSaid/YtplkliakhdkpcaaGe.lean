/-
  Rules, functions and laws for the last text, part e.
-/
import Derived.Test.YtplkliakhdkpcaaGd
set_option linter.unusedVariables false
set_option linter.unusedSimpArgs false
namespace Go.Proofs.Ytplkliakhdkpcaa
open Go Go.RowKit Go.Am
theorem ex1 {m n:Nat} (h:m<n):∃ q,n=q+1:=⟨n - 1,by omega⟩
theorem z0i:(0:Int)=((0:Nat):Int):=rfl
def zBw (f:Int):Bool:=decide (0≤f)&&decide (f<256)
def inside (z:zW) (f:Int) (k:Nat):Bool :=
 decide (z.start≤f)&&decide (f.tmod (2 ^ k)=0)&&decide ((2:Int) ^ k≤z.count)&&decide (f≤z.start+z.count - 2 ^ k)
def ranges (z:zW):Bool :=
 decide (0≤z.node)&&decide (z.node<4)&&(decide (z.kind=0)||decide (z.kind=1))&&decide (0≤z.start)&&decide (z.start<256)&&decide (1≤z.count)&&decide (z.count≤256 - z.start)&&decide (0≤z.min)&&decide (z.min≤z.count)
def Srt (l:List Int):Prop:=l.Pairwise (· < ·)
def lb (l:List Int) (t:Int):Nat:=l.countP (fun x=>decide (x<t))
theorem Srt.nil:Srt []:=List.Pairwise.nil
theorem zJ9 {l:List Int} (h:Srt l) {i j:Nat} {x y:Int} (hi:l[i]?=some x) (hj:l[j]?=some y) (hij:i<j):x<y:=by
 obtain ⟨h1,rfl⟩:=List.getElem?_eq_some_iff.1 hi
 obtain ⟨h2,rfl⟩:=List.getElem?_eq_some_iff.1 hj
 exact List.pairwise_iff_getElem.1 h i j h1 h2 hij
theorem zZX {l:List Int} {t:Int}:∀ {i:Nat},i≤l.length→(∀ m x,m<i→l[m]?=some x→x<t)→(∀ m x,i≤m→l[m]?=some x→t≤x)→lb l t=i:=by
 induction l with
 | nil=>intro i hi _ _; simp at hi; simp [lb,hi]
 | cons a l ih =>
  intro i hi h1 h2
  unfold lb at *
  rw [List.countP_cons]
  cases i with
  | zero =>
   have ha:=h2 0 a (Nat.le_refl _) rfl
   have hz:=ih (i:=0) (Nat.zero_le _) (fun m x hm=>by omega) (fun m x _ hx=>h2 (m+1) x (by omega) hx)
   rw [hz]
   have:¬ a<t:=by omega
   simp [this]
  | succ i =>
   have ha:=h1 0 a (by omega) rfl
   have hz:=ih (i:=i) (by simp at hi; omega) (fun m x hm hx=>h1 (m+1) x (by omega) hx) (fun m x hm hx=>h2 (m+1) x (by omega) hx)
   rw [hz]
   simp [ha]
theorem zYT {l:List Int} {t:Int} {i:Nat} (h1:∀ m x,m<i→l[m]?=some x→x<t) (h2:∀ m x,i<m→l[m]?=some x→t<x):(t∈l)↔l[i]?=some t:=by
 constructor
 ·intro h
  obtain ⟨m,hm,rfl⟩:=List.getElem_of_mem h
  have hx:=List.getElem?_eq_getElem hm
  rcases Nat.lt_trichotomy m i with h | h | h
  ·have:=h1 m _ h hx; omega
  ·rw [← h]; exact hx
  ·have:=h2 m _ h hx; omega
 ·intro h; exact List.mem_of_getElem? h
theorem zVZ {l:List Int} (hs:Srt l) {p:Nat} {x t:Int} (hx:l[p]?=some x) (h:x<t):∀ m y,m<p+1→l[m]?=some y→y<t:=by
 intro m y hm hy
 rcases Nat.lt_or_ge m p with hlt | hge
 ·have:=zJ9 hs hy hx hlt; omega
 ·have:m=p:=by omega
  subst this
  rw [hx] at hy; cases hy; exact h
theorem zUv {l:List Int} (hs:Srt l) {p:Nat} {x t:Int} (hx:l[p]?=some x) (h:¬ x<t):∀ m y,p≤m→l[m]?=some y→t≤y:=by
 intro m y hm hy
 rcases Nat.lt_or_ge p m with hlt | hge
 ·have:=zJ9 hs hx hy hlt; omega
 ·have:m=p:=by omega
  subst this
  rw [hx] at hy; cases hy; omega
theorem zZg {l:List Int} {t:Int} {i:Nat} (h1:∀ m x,m<i→l[m]?=some x→x<t) (h:¬ i<l.length):(t∈l)↔False:=by
 constructor
 ·intro hm
  obtain ⟨m,hm',rfl⟩:=List.getElem_of_mem hm
  have:=h1 m _ (by omega) (List.getElem?_eq_getElem hm')
  omega
 ·exact False.elim
theorem zYa {l:List Int} {t x:Int} {i:Nat} (hs:Srt l) (h1:∀ m x,m<i→l[m]?=some x→x<t) (h2:∀ m x,i≤m→l[m]?=some x→t≤x) (hx:l[i]?=some x):(t∈l)↔x=t:=by
 rw [zYT h1 (fun m y hm hy=>by
  have:=h2 i x (Nat.le_refl _) hx
  have:=zJ9 hs hx hy hm
  omega),hx]
 simp
def bud (f:Int) (k:Nat):Int:=((f.toNat ^^^ 2 ^ k:Nat):Int)
theorem zA4 {z:zW} (h:ranges z=true):0≤z.node∧z.node<4∧(z.kind=0∨z.kind=1)∧0≤z.start∧z.start<256∧1≤z.count∧z.count≤256 - z.start∧0≤z.min∧z.min≤z.count:=by
 unfold ranges at h
 simp only [Bool.and_eq_true,Bool.or_eq_true,decide_eq_true_eq] at h
 omega
theorem zAU {z:zW} {f:Int} {k:Nat} (hz:ranges z=true) (h:inside z f k=true):0≤f∧f+2 ^ k≤256∧z.start≤f∧f+2 ^ k≤z.start+z.count∧f.tmod (2 ^ k)=0:=by
 have hb:=zA4 hz
 unfold inside at h
 simp only [Bool.and_eq_true,decide_eq_true_eq] at h
 omega
theorem zWS {l:List Int}:∀ {a:Int},Srt l→(∀ f,f∈l→a≤f) → ∀ {i:Nat} {x:Int},l[i]?=some x→a+i≤x:=by
 induction l with
 | nil=>intro a _ _ i x hx; simp at hx
 | cons y l ih =>
  intro a hs ha i x hx
  cases i with
  | zero =>
   simp at hx; subst hx
   have:=ha y (by simp); simpa using this
  | succ i =>
   have hs':=List.pairwise_cons.1 hs
   have:=ih (a:=a+1) hs'.2 (fun f hf=>by have h1:=ha y (by simp); have h2:=hs'.1 f hf; omega) (i:=i) (x:=x) (by simpa using hx)
   omega
theorem zRZ {l:List Int} (hs:Srt l) (h:∀ f,f∈l→0≤f∧f<256):l.length≤256:=by
 rcases Nat.eq_zero_or_pos l.length with h0 | h0
 ·omega
 ·have hl:l[l.length - 1]?=some l[l.length - 1]:=List.getElem?_eq_getElem (by omega)
  have h1:=zWS hs (fun f hf=>(h f hf).1) hl
  have h2:=(h _ (List.mem_of_getElem? hl)).2
  omega
def zS8 (l:List Int) (t:Int):List Int:=l.take (lb l t)++t::l.drop (lb l t)
def lst (z:zW) (k:Nat):List Int:=z.free.getD k []
def zUU (z:zW) (k:Nat) (l:List Int):zW:={ z with free:=z.free.set k l }
def zNK (z:zW) (f:Int) (k:Nat):zW:=zUU z k (zS8 (lst z k) f)
def zMb (z:zW) (f:Int) (k:Nat):zW:=zUU z k ((lst z k).eraseIdx (lb (lst z k) f))
def zLQ (z:zW) (f:Int) (k:Nat):Bool:=decide (bud f k∈lst z k)&&inside z (min f (bud f k)) (k+1)
def zOW:Nat→zW→Int→Nat→zW
 | 0,z,f,k=>zNK z f k
 | n+1,z,f,k=>if zLQ z f k=true then zOW n (zMb z (bud f k) k) (min f (bud f k)) (k+1) else zNK z f k
theorem zVs {z:zW} {k:Nat} {l:List Int} (h:z.free[k]?=some l):lst z k=l:=by simp [lst,h]
theorem zUx (l:List Int) (t:Int):lb l t≤l.length:=List.countP_le_length
theorem zYY {l:List Int} {t:Int} (h:t∈l):lb l t<l.length:=by
 unfold lb
 rcases Nat.lt_or_ge (l.countP (fun x=>decide (x<t))) l.length with h1 | h1
 ·exact h1
 ·exfalso
  have:=List.countP_eq_length.1 (Nat.le_antisymm List.countP_le_length h1) t h
  simp at this
theorem zR6 {l:List Int} {t x:Int}:x∈zS8 l t↔x=t∨x∈l:=by
 unfold zS8
 have:x∈l↔x∈l.take (lb l t)∨x∈l.drop (lb l t):=by
  rw [← List.mem_append,List.take_append_drop]
 rw [List.mem_append,List.mem_cons,this]
 constructor
 ·rintro (h | h | h)
  ·exact .inr (.inl h)
  ·exact .inl h
  ·exact .inr (.inr h)
 ·rintro (h | h | h)
  ·exact .inr (.inl h)
  ·exact .inl h
  ·exact .inr (.inr h)
structure zSF (z:zW):Prop where
 ranges:ranges z=true
 len:z.free.length=5
 srt:∀ (k:Nat) (l:List Int),z.free[k]?=some l→Srt l
 bd:∀ (k:Nat) (l:List Int),z.free[k]?=some l → ∀ x,x∈l→0≤x∧x<256
theorem zSF.lenl {z:zW} (h:zSF z) {k:Nat} {l:List Int} (hl:z.free[k]?=some l):l.length≤256:=zRZ (h.srt k l hl) (h.bd k l hl)
theorem zSF.del {z:zW} (h:zSF z) {k:Nat} {f:Int} {l:List Int} (hl:z.free[k]?=some l):zSF (zMb z f k):=by
 have hlst:=zVs hl
 refine ⟨h.ranges,by simpa [zMb,zUU] using h.len,?_,?_⟩
 ·intro j l' hl'
  simp only [zMb,zUU,List.getElem?_set] at hl'
  split at hl'
  ·split at hl'
   ·cases hl'
    rw [hlst]
    exact (h.srt k l hl).sublist (List.eraseIdx_sublist ..)
   ·cases hl'
  ·exact h.srt j l' hl'
 ·intro j l' hl' x hx
  simp only [zMb,zUU,List.getElem?_set] at hl'
  split at hl'
  ·split at hl'
   ·cases hl'
    rw [hlst] at hx
    exact h.bd k l hl x ((List.eraseIdx_sublist ..).subset hx)
   ·cases hl'
  ·exact h.bd j l' hl' x hx
theorem zWb:∀ k:Fin 4, ∀ x:Fin 256,x.val%2 ^ k.val=0→(x.val ^^^ 2 ^ k.val)=if x.val%2 ^ (k.val+1)=0 then x.val+2 ^ k.val else x.val - 2 ^ k.val:=by decide +kernel
theorem zAz {z:zW} (h:ranges z=true) {x:Int} {k:Nat}:inside z x k=true↔z.start≤x∧x%2 ^ k=0∧(2:Int) ^ k≤z.count∧x≤z.start+z.count - 2 ^ k:=by
 have hr:=zA4 h
 unfold inside
 simp only [Bool.and_eq_true,decide_eq_true_eq]
 constructor
 ·rintro ⟨⟨⟨h1,h2⟩,h3⟩,h4⟩
  rw [Int.tmod_eq_emod_of_nonneg (by omega)] at h2
  exact ⟨h1,h2,h3,h4⟩
 ·rintro ⟨h1,h2,h3,h4⟩
  rw [← Int.tmod_eq_emod_of_nonneg (by omega)] at h2
  exact ⟨⟨⟨h1,h2⟩,h3⟩,h4⟩
theorem le4 {k:Nat} (h:k≤4):k=0∨k=1∨k=2∨k=3∨k=4:=by omega
theorem pw0:(2:Int) ^ 0=1:=rfl
theorem pw1:(2:Int) ^ 1=2:=rfl
theorem pw2:(2:Int) ^ 2=4:=rfl
theorem pw3:(2:Int) ^ 3=8:=rfl
theorem pw4:(2:Int) ^ 4=16:=rfl
theorem zND {x:Int} {k:Nat} (hk:k<4) (h0:0≤x) (h1:x<256) (ha:x%2 ^ k=0):(x%2 ^ (k+1)=0∧bud x k=x+2 ^ k)∨(x%2 ^ (k+1)=2 ^ k∧bud x k=x - 2 ^ k):=by
 obtain ⟨m,rfl⟩:=Int.eq_ofNat_of_zero_le h0
 have hm:m<256:=by omega
 have h:=zWb ⟨k,hk⟩ ⟨m,hm⟩
 simp only at h
 have hb:bud (m:Int) k=((m ^^^ 2 ^ k:Nat):Int):=by simp [bud]
 have hk':k=0∨k=1∨k=2∨k=3:=by omega
 rw [hb]
 rcases hk' with rfl | rfl | rfl | rfl
 ·have:=h (by omega)
  simp only [Nat.reducePow,Nat.reduceAdd,pw0,pw1] at *
  split at this <;> omega
 ·simp only [Nat.reducePow,Nat.reduceAdd,pw1,pw2] at *
  have:=h (by omega)
  split at this <;> omega
 ·simp only [Nat.reducePow,Nat.reduceAdd,pw2,pw3] at *
  have:=h (by omega)
  split at this <;> omega
 ·simp only [Nat.reducePow,Nat.reduceAdd,pw3,pw4] at *
  have:=h (by omega)
  split at this <;> omega
theorem zZs {x y f:Int} {k j:Nat} (hkj:k≤j) (hj:j≤4) (hx:x%2 ^ k=0) (hy:y%2 ^ j=0) (h1:x≤f) (h2:f<x+2 ^ k) (h3:y≤f) (h4:f<y+2 ^ j):y≤x∧x+2 ^ k≤y+2 ^ j:=by
 rcases le4 hj with rfl | rfl | rfl | rfl | rfl <;> rcases le4 (Nat.le_trans hkj hj) with rfl | rfl | rfl | rfl | rfl <;> simp only [pw0,pw1,pw2,pw3,pw4] at * <;> omega
theorem zNP {z:zW} (h:z.free.length=5) {k:Nat} (hk:5≤k):lst z k=[]:=by
 unfold lst
 rw [List.getD_eq_getElem?_getD,List.getElem?_eq_none (by omega)]
 rfl
theorem zRY {z:zW} (h:z.free.length=5) {k j:Nat} (hk:k<5) {l:List Int}:lst (zUU z k l) j=if j=k then l else lst z j:=by
 unfold lst zUU
 simp only [List.getD_eq_getElem?_getD,List.getElem?_set]
 by_cases hj:k=j
 ·subst hj
  rw [if_pos rfl,if_pos rfl,if_pos (by omega)]
  rfl
 ·rw [if_neg hj,if_neg (fun e=>hj e.symm)]
theorem zKJ {z:zW} (h:z.free.length=5) {k:Nat} (hk:k<5):z.free[k]?=some (lst z k):=by
 unfold lst
 rw [List.getD_eq_getElem?_getD,List.getElem?_eq_getElem (by omega)]
 rfl
def cov (z:zW) (f:Int):Prop := ∃ k x,x∈lst z k∧x≤f∧f<x+2 ^ k
structure OkZ (z:zW):Prop where
 ranges:ranges z=true
 len:z.free.length=5
 srt:∀ k,Srt (lst z k)
 ins:∀ k x,x∈lst z k→inside z x k=true
 dis:∀ k x j y f,x∈lst z k→y∈lst z j→x≤f→f<x+2 ^ k→y≤f→f<y+2 ^ j→k=j∧x=y
 can:∀ k x,k<4→x∈lst z k→bud x k∈lst z k→inside z (min x (bud x k)) (k+1)=false
section
variable {z z1 z2:zW}
theorem OkZ.le4 (h:OkZ z) {k:Nat} {x:Int} (hx:x∈lst z k):k≤4:=by
 rcases Nat.lt_or_ge k 5 with hk | hk
 ·omega
 ·rw [zNP h.len hk] at hx; cases hx
theorem OkZ.bds (h:OkZ z) {k:Nat} {x:Int} (hx:inside z x k=true):0≤x∧x+2 ^ k≤256∧z.start≤x∧x+2 ^ k≤z.start+z.count∧x%2 ^ k=0:=by
 have h1:=zAU h.ranges hx
 have h2:=(zAz h.ranges).1 hx
 exact ⟨h1.1,h1.2.1,h2.1,by omega,h2.2.1⟩
theorem zGm (k:Nat):(0:Int)<2 ^ k:=Int.pow_pos (by omega)
theorem zJP (k:Nat):(2:Int) ^ (k+1)=2 ^ k+2 ^ k:=by rw [Int.pow_succ]; omega
theorem zRa {x:Int} {k:Nat} (h:x%2 ^ (k+1)=0):x%2 ^ k=0∧(x+2 ^ k)%2 ^ k=0:=by
 obtain ⟨c,rfl⟩:=Int.dvd_of_emod_eq_zero h
 rw [Int.pow_succ,Int.mul_assoc]
 constructor
 ·exact Int.mul_emod_right _ _
 ·rw [show (2:Int) ^ k*(2*c)+2 ^ k=2 ^ k*(2*c+1) by rw [Int.mul_add,Int.mul_one]]
  exact Int.mul_emod_right _ _
theorem OkZ.holder (h:OkZ z):∀ (k:Nat) (x:Int),k≤4→inside z x k=true→(∀ f,x≤f→f<x+2 ^ k→cov z f) → ∃ j y,k≤j∧y∈lst z j∧y≤x∧x+2 ^ k≤y+2 ^ j:=by
 intro k
 induction k with
 | zero =>
  intro x _ hi hc
  obtain ⟨j,y,hy,h1,h2⟩:=hc x (Int.le_refl _) (by rw [pw0]; omega)
  exact ⟨j,y,Nat.zero_le _,hy,h1,by rw [pw0]; omega⟩
 | succ k ih =>
  intro x hk hi hc
  have hb:=h.bds hi
  have hi':=(zAz h.ranges).1 hi
  have hal:=zRa hb.2.2.2.2
  have hp:=zJP k
  have hp0:=zGm k
  have hin1:inside z x k=true:=(zAz h.ranges).2 ⟨by omega,hal.1,by omega,by omega⟩
  have hin2:inside z (x+2 ^ k) k=true:=(zAz h.ranges).2 ⟨by omega,hal.2,by omega,by omega⟩
  obtain ⟨j1,y1,a1,a2,a3,a4⟩:=ih x (by omega) hin1 (fun f h1 h2=>hc f h1 (by omega))
  obtain ⟨j2,y2,b1,b2,b3,b4⟩:=ih (x+2 ^ k) (by omega) hin2 (fun f h1 h2=>hc f (by omega) (by omega))
  have hj1:=h.le4 a2
  have hj2:=h.le4 b2
  have hy1:=(h.bds (h.ins _ _ a2)).2.2.2.2
  have hy2:=(h.bds (h.ins _ _ b2)).2.2.2.2
  by_cases hk1:k<j1
  ·obtain ⟨n1,n2⟩:=zZs (f:=x) (show k+1≤j1 by omega) hj1 hb.2.2.2.2 hy1 (Int.le_refl _) (by omega) a3 (by omega)
   exact ⟨j1,y1,by omega,a2,n1,n2⟩
  ·by_cases hk2:k<j2
   ·obtain ⟨n1,n2⟩:=zZs (f:=x+2 ^ k) (show k+1≤j2 by omega) hj2 hb.2.2.2.2 hy2 (by omega) (by omega) b3 (by omega)
    exact ⟨j2,y2,by omega,b2,n1,n2⟩
   ·exfalso
    have e1:j1=k:=by omega
    have e2:j2=k:=by omega
    subst e1
    subst e2
    have e3:y1=x:=by omega
    have e4:y2=x+2 ^ j2:=by omega
    subst e3
    subst e4
    have hbud:=zND (x:=y1) (k:=j2) (by omega) (by omega) (by omega) hal.1
    rcases hbud with ⟨_,hb2⟩ | ⟨hb1,_⟩
    ·have:=h.can j2 y1 (by omega) a2 (by rw [hb2]; exact b2)
     rw [hb2,Int.min_eq_left (by omega),hi] at this
     cases this
    ·rw [hb.2.2.2.2] at hb1
     omega
theorem zRC:∀ {l m:List Int},Srt l→Srt m→(∀ x,x∈l↔x∈m)→l=m
 | [],[],_,_,_=>rfl
 | [],b::m,_,_,h=>by have:=(h b).2 (by simp); cases this
 | a::l,[],_,_,h=>by have:=(h a).1 (by simp); cases this
 | a::l,b::m,hl,hm,h=>by
  have ha:=List.pairwise_cons.1 hl
  have hb:=List.pairwise_cons.1 hm
  have hab:a=b:=by
   have h1:=(h a).1 (by simp)
   have h2:=(h b).2 (by simp)
   rcases List.mem_cons.1 h1 with e | e
   ·exact e
   ·rcases List.mem_cons.1 h2 with e2 | e2
    ·exact e2.symm
    ·have:=hb.1 a e
     have:=ha.1 b e2
     omega
  subst hab
  congr 1
  refine zRC ha.2 hb.2 (fun x => ?_)
  constructor
  ·intro hx
   rcases List.mem_cons.1 ((h x).1 (by simp [hx])) with e | e
   ·have:=ha.1 x hx; omega
   ·exact e
  ·intro hx
   rcases List.mem_cons.1 ((h x).2 (by simp [hx])) with e | e
   ·have:=hb.1 x hx; omega
   ·exact e
theorem OkZ.sub (h1:OkZ z1) (h2:OkZ z2) (hp:∀ x k,inside z1 x k=inside z2 x k) (hc:∀ f,cov z1 f↔cov z2 f):∀ k x,x∈lst z1 k→x∈lst z2 k:=by
 intro k x hx
 have hk:=h1.le4 hx
 have hi:=h1.ins k x hx
 have hp0:=zGm k
 obtain ⟨j,y,a1,a2,a3,a4⟩:=h2.holder k x hk (by rw [← hp]; exact hi) (fun f g1 g2=>(hc f).1 ⟨k,x,hx,g1,g2⟩)
 have hj:=h2.le4 a2
 have hiy:=h2.ins j y a2
 obtain ⟨i,u,b1,b2,b3,b4⟩:=h1.holder j y hj (by rw [hp]; exact hiy) (fun f g1 g2=>(hc f).2 ⟨j,y,a2,g1,g2⟩)
 obtain ⟨e1,e2⟩:=h1.dis k x i u x hx b2 (Int.le_refl _) (by omega) (by omega) (by omega)
 subst e2
 have e3:j=k:=by omega
 subst e3
 have e4:y=x:=by omega
 rw [← e4]
 exact a2
theorem OkZ.ext (h1:OkZ z1) (h2:OkZ z2) (e1:z1.node=z2.node) (e2:z1.kind=z2.kind) (e3:z1.start=z2.start) (e4:z1.count=z2.count) (e5:z1.min=z2.min) (hc:∀ f,cov z1 f↔cov z2 f):z1=z2:=by
 have hp:∀ x k,inside z1 x k=inside z2 x k:=fun x k=>by unfold inside; rw [e3,e4]
 have hl:∀ k,lst z1 k=lst z2 k:=fun k=>zRC (h1.srt k) (h2.srt k) (fun x=>⟨h1.sub h2 hp hc k x,h2.sub h1 (fun x k=>(hp x k).symm) (fun f=>(hc f).symm) k x⟩)
 have hf:z1.free=z2.free:=by
  apply List.ext_getElem?
  intro k
  rcases Nat.lt_or_ge k 5 with hk | hk
  ·rw [zKJ h1.len hk,zKJ h2.len hk,hl]
  ·rw [List.getElem?_eq_none (by have:=h1.len; omega),List.getElem?_eq_none (by have:=h2.len; omega)]
 cases z1; cases z2
 simp_all
end
theorem zTX (a:Int) (l:List Int) (t:Int):lb (a::l) t=lb l t+if a<t then 1 else 0:=by
 unfold lb
 rw [List.countP_cons]
 simp
theorem zRD {l:List Int} {t:Int} (h:∀ x,x∈l→t≤x):lb l t=0:=by
 unfold lb
 rw [List.countP_eq_zero]
 intro x hx
 have:=h x hx
 simp
 omega
theorem zUG {a:Int} {l:List Int} {t:Int} (hs:Srt (a::l)):zS8 (a::l) t=if a<t then a::zS8 l t else t::a::l:=by
 unfold zS8
 rw [zTX]
 have ha:=List.pairwise_cons.1 hs
 by_cases h:a<t
 ·simp [h]
 ·have:lb l t=0:=zRD (fun x hx=>by have:=ha.1 x hx; omega)
  simp [h,this]
theorem zRo:∀ {l:List Int} {t:Int},Srt l→t ∉ l→Srt (zS8 l t)
 | [],t,_,_=>by simp [zS8,lb,Srt]
 | a::l,t,hs,hn=>by
  have ha:=List.pairwise_cons.1 hs
  rw [zUG hs]
  simp only [List.mem_cons,not_or] at hn
  by_cases h:a<t
  ·rw [if_pos h]
   refine List.pairwise_cons.2 ⟨fun x hx => ?_,zRo ha.2 hn.2⟩
   rcases zR6.1 hx with rfl | hx
   ·exact h
   ·exact ha.1 x hx
  ·rw [if_neg h]
   refine List.pairwise_cons.2 ⟨fun x hx => ?_,hs⟩
   rcases List.mem_cons.1 hx with rfl | hx
   ·omega
   ·have:=ha.1 x hx; omega
theorem zVy:∀ {l:List Int} {t:Int},Srt l→t∈l→l[lb l t]?=some t
 | [],_,_,h=>by cases h
 | a::l,t,hs,h=>by
  have ha:=List.pairwise_cons.1 hs
  rw [zTX]
  rcases List.mem_cons.1 h with rfl | h
  ·have:lb l t=0:=zRD (fun x hx=>by have:=ha.1 x hx; omega)
   simp [this]
  ·have:=ha.1 t h
   simp [this,zVy ha.2 h]
theorem zYF {l:List Int} {t x:Int} (hs:Srt l) (ht:t∈l):x∈l.eraseIdx (lb l t)↔x∈l∧x≠t:=by
 have hg:=zVy hs ht
 rw [List.mem_eraseIdx_iff_getElem?]
 constructor
 ·rintro ⟨i,hi,hx⟩
  refine ⟨List.mem_of_getElem? hx,?_⟩
  rintro rfl
  rcases Nat.lt_or_gt_of_ne hi with h | h
  ·have:=zJ9 hs hx hg h; omega
  ·have:=zJ9 hs hg hx h; omega
 ·rintro ⟨hx,hne⟩
  obtain ⟨i,hi,he⟩:=List.getElem_of_mem hx
  have hxi:l[i]?=some x:=by rw [List.getElem?_eq_getElem hi,he]
  refine ⟨i,?_,hxi⟩
  intro e
  rw [e,hg] at hxi
  exact hne (Option.some.inj hxi).symm
theorem zX7 {l:List Int} {i:Nat} (hs:Srt l):Srt (l.eraseIdx i):=hs.sublist (List.eraseIdx_sublist ..)
def zE0 (a b:zW):Prop:=a.node=b.node∧a.kind=b.kind∧a.start=b.start∧a.count=b.count∧a.min=b.min
theorem zE0.inside {a b:zW} (h:zE0 a b) (x:Int) (k:Nat):inside a x k=inside b x k:=by unfold Go.Proofs.Ytplkliakhdkpcaa.inside; rw [h.2.2.1,h.2.2.2.1]
theorem zE0.ranges {a b:zW} (h:zE0 a b):ranges a=ranges b:=by unfold Go.Proofs.Ytplkliakhdkpcaa.ranges; rw [h.1,h.2.1,h.2.2.1,h.2.2.2.1,h.2.2.2.2]
theorem zQt (z:zW) (k:Nat) (l:List Int):zE0 (zUU z k l) z:=⟨rfl,rfl,rfl,rfl,rfl⟩
theorem zE0.trans {a b c:zW} (h:zE0 a b) (g:zE0 b c):zE0 a c:=⟨h.1.trans g.1,h.2.1.trans g.2.1,h.2.2.1.trans g.2.2.1,h.2.2.2.1.trans g.2.2.2.1,h.2.2.2.2.trans g.2.2.2.2⟩
theorem zXh {x:Int} (k:Nat) (h:0≤x):bud (bud x k) k=x:=by
 unfold bud
 rw [Int.toNat_natCast,Nat.xor_assoc,Nat.xor_self,Nat.xor_zero,Int.toNat_of_nonneg h]
section
variable {z:zW}
theorem OkZ.del (h:OkZ z) {k:Nat} {x:Int} (hx:x∈lst z k):OkZ (zMb z x k)∧(∀ f,cov (zMb z x k) f↔cov z f ∧ ¬ (x≤f∧f<x+2 ^ k))∧zE0 (zMb z x k) z:=by
 have hk:=h.le4 hx
 have hsame:zE0 (zMb z x k) z:=zQt z k ((lst z k).eraseIdx (lb (lst z k) x))
 have hls:∀ j,lst (zMb z x k) j=if j=k then (lst z k).eraseIdx (lb (lst z k) x) else lst z j:=fun j=>zRY h.len (by omega)
 have hm:∀ j y,y∈lst (zMb z x k) j↔y∈lst z j ∧ ¬ (j=k∧y=x):=by
  intro j y
  rw [hls]
  by_cases hj:j=k
  ·subst hj
   rw [if_pos rfl,zYF (h.srt j) hx]
   simp
  ·rw [if_neg hj]
   simp [hj]
 refine ⟨⟨by rw [← h.ranges]; exact hsame.ranges,by simpa [zMb,zUU] using h.len,?_,?_,?_,?_⟩,?_,hsame⟩
 ·intro j
  rw [hls]
  split
  ·exact zX7 (h.srt k)
  ·exact h.srt j
 ·intro j y hy
  rw [hsame.inside]
  exact h.ins j y ((hm j y).1 hy).1
 ·intro j y i u f hy hu
  exact h.dis j y i u f ((hm j y).1 hy).1 ((hm i u).1 hu).1
 ·intro j y hj hy hb
  rw [hsame.inside]
  exact h.can j y hj ((hm j y).1 hy).1 ((hm j _).1 hb).1
 ·intro f
  constructor
  ·rintro ⟨j,y,hy,h1,h2⟩
   have hy':=(hm j y).1 hy
   refine ⟨⟨j,y,hy'.1,h1,h2⟩,fun hf=>hy'.2 (h.dis j y k x f hy'.1 hx h1 h2 hf.1 hf.2)⟩
  ·rintro ⟨⟨j,y,hy,h1,h2⟩,hf⟩
   refine ⟨j,y,(hm j y).2 ⟨hy,?_⟩,h1,h2⟩
   rintro ⟨rfl,rfl⟩
   exact hf ⟨h1,h2⟩
theorem OkZ.insert (h:OkZ z) {k:Nat} {f:Int} (hk:k≤4) (hi:inside z f k=true) (hf:∀ g,f≤g→g<f+2 ^ k → ¬ cov z g) (hj:k<4→zLQ z f k=false):OkZ (zNK z f k)∧(∀ g,cov (zNK z f k) g↔cov z g∨(f≤g∧g<f+2 ^ k))∧zE0 (zNK z f k) z:=by
 have hsame:zE0 (zNK z f k) z:=zQt z k (zS8 (lst z k) f)
 have hp:=zGm k
 have hb:=h.bds hi
 have hn:f ∉ lst z k:=fun hm=>hf f (Int.le_refl _) (by omega) ⟨k,f,hm,Int.le_refl _,by omega⟩
 have hls:∀ j,lst (zNK z f k) j=if j=k then zS8 (lst z k) f else lst z j:=fun j=>zRY h.len (by omega)
 have hm:∀ j y,y∈lst (zNK z f k) j↔y∈lst z j∨(j=k∧y=f):=by
  intro j y
  rw [hls]
  by_cases hjk:j=k
  ·subst hjk
   rw [if_pos rfl,zR6]
   simp
   exact Or.comm
  ·rw [if_neg hjk]
   simp [hjk]
 refine ⟨⟨by rw [← h.ranges]; exact hsame.ranges,by simpa [zNK,zUU] using h.len,?_,?_,?_,?_⟩,?_,hsame⟩
 ·intro j
  rw [hls]
  split
  ·exact zRo (h.srt k) hn
  ·exact h.srt j
 ·intro j y hy
  rw [hsame.inside]
  rcases (hm j y).1 hy with hy | ⟨rfl,rfl⟩
  ·exact h.ins j y hy
  ·exact hi
 ·intro j y i u g hy hu h1 h2 h3 h4
  rcases (hm j y).1 hy with hy' | ⟨e1,e2⟩
  ·rcases (hm i u).1 hu with hu' | ⟨e3,e4⟩
   ·exact h.dis j y i u g hy' hu' h1 h2 h3 h4
   ·rw [e4] at h3 h4
    rw [e3] at h4
    exact absurd ⟨j,y,hy',h1,h2⟩ (hf g h3 h4)
  ·rw [e2] at h1 h2
   rw [e1] at h2
   rcases (hm i u).1 hu with hu' | ⟨e3,e4⟩
   ·exact absurd ⟨i,u,hu',h3,h4⟩ (hf g h1 h2)
   ·exact ⟨e1.trans e3.symm,e2.trans e4.symm⟩
 ·intro j y hj4 hy hbu
  rw [hsame.inside]
  have hno:∀ y,y∈lst z k→bud y k=f→k<4→inside z (min y (bud y k)) (k+1)=false:=by
   intro y hy he h4
   have hy0:=(h.bds (h.ins k y hy)).1
   have e2:bud f k=y:=by rw [← he,zXh k hy0]
   have:=hj h4
   unfold zLQ at this
   rw [e2] at this
   rw [he,Int.min_comm]
   simpa [hy] using this
  rcases (hm j y).1 hy with hy' | ⟨rfl,rfl⟩
  ·rcases (hm j _).1 hbu with hbu' | ⟨e1,hbu'⟩
   ·exact h.can j y hj4 hy' hbu'
   ·rw [e1] at hy' hbu' hj4 ⊢
    exact hno y hy' hbu' hj4
  ·rcases (hm j _).1 hbu with hbu | ⟨_,hbu⟩
   ·have:=hj hj4
    unfold zLQ at this
    simpa [hbu] using this
   ·exfalso
    rcases zND hj4 hb.1 (by omega) hb.2.2.2.2 with ⟨_,e⟩ | ⟨_,e⟩ <;> omega
 ·intro g
  constructor
  ·rintro ⟨j,y,hy,h1,h2⟩
   rcases (hm j y).1 hy with hy | ⟨rfl,rfl⟩
   ·exact .inl ⟨j,y,hy,h1,h2⟩
   ·exact .inr ⟨h1,h2⟩
  ·rintro (⟨j,y,hy,h1,h2⟩ | ⟨h1,h2⟩)
   ·exact ⟨j,y,(hm j y).2 (.inl hy),h1,h2⟩
   ·exact ⟨k,f,(hm k f).2 (.inr ⟨rfl,rfl⟩),h1,h2⟩
theorem OkZ.put:∀ (n:Nat) {z:zW} {f:Int} {k:Nat},n+k=4→OkZ z→inside z f k=true→(∀ g,f≤g→g<f+2 ^ k → ¬ cov z g) →
  OkZ (zOW n z f k)∧(∀ g,cov (zOW n z f k) g↔cov z g∨(f≤g∧g<f+2 ^ k))∧zE0 (zOW n z f k) z
 | 0,z,f,k,hn,h,hi,hf=>h.insert (by omega) hi hf (fun h4=>by omega)
 | n+1,z,f,k,hn,h,hi,hf=>by
  unfold zOW
  by_cases hj:zLQ z f k=true
  ·rw [if_pos hj]
   unfold zLQ at hj
   simp only [Bool.and_eq_true,decide_eq_true_eq] at hj
   obtain ⟨hb,hi2⟩:=hj
   obtain ⟨d1,d2,d3⟩:=h.del hb
   have hbd:=h.bds hi
   have hbb:=h.bds (h.ins k _ hb)
   have hp:=zGm k
   have hps:=zJP k
   have hcase:=zND (k:=k) (by omega) hbd.1 (by omega) hbd.2.2.2.2
   obtain ⟨r1,r2,r3⟩:=OkZ.put n (k:=k+1) (by omega) d1 (by rw [d3.inside]; exact hi2) (fun g g1 g2 hc=>by
    have hc':=(d2 g).1 hc
    by_cases hin:f≤g∧g<f+2 ^ k
    ·exact hf g hin.1 hin.2 hc'.1
    ·apply hc'.2
     rcases hcase with ⟨_,e⟩ | ⟨_,e⟩
     ·rw [e] at g1 g2 ⊢
      omega
     ·rw [e] at g1 g2 ⊢
      omega)
   refine ⟨r1,fun g => ?_,r3.trans d3⟩
   rw [r2 g,d2 g]
   have hcb:(bud f k≤g∧g<bud f k+2 ^ k)→cov z g:=fun hg=>⟨k,_,hb,hg.1,hg.2⟩
   rcases hcase with ⟨_,e⟩ | ⟨_,e⟩
   ·rw [e] at hcb ⊢
    constructor
    ·rintro (⟨h1,_⟩ | h1)
     ·exact .inl h1
     ·by_cases hin:f≤g∧g<f+2 ^ k
      ·exact .inr hin
      ·exact .inl (hcb (by omega))
    ·rintro (h1 | h1)
     ·by_cases hin:f+2 ^ k≤g∧g<f+2 ^ k+2 ^ k
      ·exact .inr (by omega)
      ·exact .inl ⟨h1,hin⟩
     ·exact .inr (by omega)
   ·rw [e] at hcb ⊢
    constructor
    ·rintro (⟨h1,_⟩ | h1)
     ·exact .inl h1
     ·by_cases hin:f≤g∧g<f+2 ^ k
      ·exact .inr hin
      ·exact .inl (hcb (by omega))
    ·rintro (h1 | h1)
     ·by_cases hin:f - 2 ^ k≤g∧g<f - 2 ^ k+2 ^ k
      ·exact .inr (by omega)
      ·exact .inl ⟨h1,hin⟩
     ·exact .inr (by omega)
  ·rw [if_neg hj]
   exact h.insert (by omega) hi hf (fun _=>by simpa using hj)
theorem OkZ.putI (h:OkZ z):zSF z:=by
 have hl:∀ (k:Nat) (l:List Int),z.free[k]?=some l→l=lst z k:=fun k l hl=>by
  have hk:k<5:=by have:=(List.getElem?_eq_some_iff.1 hl).1; rw [h.len] at this; exact this
  rw [zKJ h.len hk] at hl
  cases hl
  rfl
 refine ⟨h.ranges,h.len,fun k l hkl => ?_,fun k l hkl x hx => ?_⟩
 ·rw [hl k l hkl]; exact h.srt k
 ·rw [hl k l hkl] at hx
  have:=h.bds (h.ins k x hx)
  have:=zGm k
  omega
end
def zL5 (node kind start count least:Int):zW:=⟨node,kind,start,count,least,[[],[],[],[],[]]⟩
def zNR (z:zW):Nat→zW
 | 0=>z
 | i+1=>zOW 4 (zNR z i) (z.start+i) 0
theorem zQC {z:zW} (hf:z.free=[[],[],[],[],[]]) (k:Nat):lst z k=[]:=by
 unfold lst
 rw [hf]
 match k with
 | 0=>rfl
 | 1=>rfl
 | 2=>rfl
 | 3=>rfl
 | 4=>rfl
 | k+5=>rfl
theorem zOD {z:zW} (hr:ranges z=true) (hf:z.free=[[],[],[],[],[]]):OkZ z ∧ ∀ g,¬ cov z g:=by
 have hl:=zQC hf
 refine ⟨⟨hr,by rw [hf]; rfl,fun k=>by rw [hl]; exact Srt.nil,(fun k x hx=>by rw [hl] at hx; cases hx),(fun k x j y f hx=>by rw [hl] at hx; cases hx),(fun k x _ hx=>by rw [hl] at hx; cases hx)⟩,?_⟩
 rintro g ⟨k,x,hx,_⟩
 rw [hl] at hx
 cases hx
theorem zRc {z:zW} (hr:ranges z=true) (hf:z.free=[[],[],[],[],[]]):∀ i:Nat,(i:Int)≤z.count→OkZ (zNR z i)∧(∀ g,cov (zNR z i) g↔z.start≤g∧g<z.start+i)∧zE0 (zNR z i) z
 | 0,_=>⟨(zOD hr hf).1,fun g=>⟨fun h=>absurd h ((zOD hr hf).2 g),fun h=>by omega⟩,⟨rfl,rfl,rfl,rfl,rfl⟩⟩
 | i+1,hi=>by
  obtain ⟨h1,h2,h3⟩:=zRc hr hf i (by omega)
  have hrb:=zA4 hr
  have hin:inside (zNR z i) (z.start+i) 0=true:=by
   rw [h3.inside,zAz hr]
   simp only [pw0]
   omega
  obtain ⟨p1,p2,p3⟩:=OkZ.put 4 (k:=0) rfl h1 hin (fun g g1 g2 hc=>by
   have:=(h2 g).1 hc
   rw [pw0] at g2
   omega)
  refine ⟨p1,fun g => ?_,p3.trans h3⟩
  show cov (zOW 4 (zNR z i) (z.start+i) 0) g↔_
  rw [p2 g,h2 g,pw0]
  omega
theorem zXC {z:zW} (hr:ranges z=true) (hf:z.free=[[],[],[],[],[]]) {i:Nat} (hi:(i:Int)<z.count):zSF (zNR z i)∧inside (zNR z i) (z.start+i) 0=true:=by
 obtain ⟨h1,h2,h3⟩:=zRc hr hf i (by omega)
 refine ⟨h1.putI,?_⟩
 have hrb:=zA4 hr
 rw [h3.inside,zAz hr]
 simp only [pw0]
 omega
def zYc:zW:=⟨0,0,0,0,0,[[],[],[],[],[]]⟩
def zUY (node kind start count least:Int):zW×Int:=if ranges (zL5 node kind start count least)=true then (zNR (zL5 node kind start count least) count.toNat,0) else (zYc,2)
end Go.Proofs.Ytplkliakhdkpcaa
namespace Go.Proofs.Ytplkliakhdkpcaa
open Go Go.RowKit Go.Wk Go.Am
section
variable {α β:Type} {b:Bool} {x y:Option α} {a:α} {f:α→Option β}
theorem zP (h:b=true):chk b x=x:=by subst h; rfl
theorem zz (h:b=true):cnd b x y=x:=by subst h; rfl
theorem zf (h:b=false):cnd b x y=y:=by subst h; rfl
theorem zAw:(some a).bind f=f a:=rfl
end
theorem zu {a:Int} (h : -9223372036854775808≤a∧a≤9223372036854775807):inI a=true:=by simp [inI,h]
theorem zPr {i:Int} {n:Nat} (h:0≤i∧i<(n:Int)):inb i n=true:=by simp [inb,h]
theorem zAD {i n:Nat} (h:i<n):inb (i:Int) n=true:=zPr (by omega)
theorem zNN {a b:Bool} (h:b=true):(a||b)=true:=by rw [h,Bool.or_true]
theorem dt {p:Prop} [Decidable p] (h:p):decide p=true:=decide_eq_true h
theorem df {p:Prop} [Decidable p] (h:¬ p):decide p=false:=decide_eq_false h
theorem zFW {α:Type} [Inhabited α] {l:List α} {i:Nat} (h:i<l.length):at_ l (i:Int)=l[i]:=by
 unfold at_
 rw [Int.toNat_natCast,List.getD_eq_getElem?_getD,List.getElem?_eq_getElem h]
 rfl
theorem zY9 (i j:Nat):((i:Int)+(j:Int)).fdiv (2 ^ (1:Int).toNat)=(((i+j)/2:Nat):Int):=by
 show ((i:Int)+(j:Int)).fdiv 2=_
 rw [Int.fdiv_eq_ediv_of_nonneg _ (by omega)]
 omega
theorem zVB (x y:Int):zHz x y=some (decide (x<y)):=by
 unfold zHz zD9
 simp [cnd]
theorem zV6 {l:List Int} {t:Int} {i:Nat} (hs:Srt l) (hi:i≤l.length) (h1:∀ p x,p<i→l[p]?=some x→x<t) (h2:∀ p x,i≤p→l[p]?=some x→t≤x) :
  zBG l t (i:Int)=some ((lb l t:Int),decide (t∈l)):=by
 rw [zZX hi h1 h2]
 unfold zBG zE8
 rcases Nat.lt_or_ge i l.length with h | h
 ·have hx:l[i]?=some l[i]:=List.getElem?_eq_getElem h
  have hb:inb (i:Int) l.length=true:=zAD h
  have hd:decide ((i:Int)<(l.length:Int))=true:=dt (by omega)
  have hm:decide (t∈l)=decide (l[i]=t):=by rw [decide_eq_decide]; exact zYa hs h1 h2 hx
  rw [zP (zNN hb),zP (zNN hb),zFW h,hd,hm]
  cases hq:decide (l[i]=t) <;> simp [cnd]
 ·have hd:decide ((i:Int)<(l.length:Int))=false:=df (by omega)
  have hm:decide (t∈l)=false:=df (fun hh=>(zZg h1 (by omega)).1 hh)
  rw [hd,hm]
  rfl
theorem zXG {l:List Int} {t:Int} (hs:Srt l) (hl:l.length≤1000000):∀ (m n i j:Nat),j - i≤m→m<n→i≤j→j≤l.length→(∀ p x,p<i→l[p]?=some x→x<t)→(∀ p x,j≤p→l[p]?=some x→t≤x) →
  zBE l t n (i:Int) (j:Int)=some ((lb l t:Int),decide (t∈l)):=by
 intro m
 induction m with
 | zero =>
  intro n i j h1 h2 h3 h4 ha hb
  obtain ⟨n,rfl⟩:∃ k,n=k+1:=⟨n - 1,by omega⟩
  show zAi _ _ _ _ _=_
  unfold zAi
  rw [zf (df (by omega))]
  have:j=i:=by omega
  subst this
  exact zV6 hs h4 ha hb
 | succ m ih =>
  intro n i j h1 h2 h3 h4 ha hb
  obtain ⟨n,rfl⟩:∃ k,n=k+1:=⟨n - 1,by omega⟩
  show zAi _ _ _ _ _=_
  unfold zAi
  by_cases hij:i<j
  ·have hm:(i+j)/2<l.length:=by omega
   rw [zz (dt (by omega)),zY9,zP (zu (by omega)),zP (dt (zF3 (by omega) (by omega))),zP (dt (zKn (by omega) (by omega))),zP (zAD hm),zVB,zAw,zFW hm]
   have hx:l[(i+j)/2]?=some l[(i+j)/2]:=List.getElem?_eq_getElem hm
   by_cases hlt:l[(i+j)/2]<t
   ·rw [zz (dt hlt),zP (zu (by omega))]
    exact ih n ((i+j)/2+1) j (by omega) (by omega) (by omega) h4 (zVZ hs hx hlt) hb
   ·rw [zf (df hlt)]
    exact ih n i ((i+j)/2) (by omega) (by omega) (by omega) (by omega) ha (zUv hs hx hlt)
  ·rw [zf (df (by omega))]
   have:j=i:=by omega
   subst this
   exact zV6 hs h4 ha hb
theorem zQd {l:List Int} {t:Int} (hs:Srt l) (hl:l.length≤1000000):zAN l t=some ((lb l t:Int),decide (t∈l)) :=
 zXG hs hl l.length z5 0 l.length (by omega) (by unfold z5; omega) (by omega) (by omega) (fun p x hp=>by omega) (fun p x hp hx=>by
  rw [List.getElem?_eq_none (by omega)] at hx; cases hx)
theorem zH6 {k:Nat} (h:k≤5):(1:Int)*2 ^ (k:Int).toNat=2 ^ k∧(1:Int)≤2 ^ k∧(2:Int) ^ k≤32:=by
 rw [Int.one_mul,Int.toNat_natCast]
 refine ⟨rfl,?_⟩
 have:k=0∨k=1∨k=2∨k=3∨k=4∨k=5:=by omega
 rcases this with rfl | rfl | rfl | rfl | rfl | rfl <;> decide
theorem zM4 {k:Nat} (h:k≤5):zNf (k:Int)=true:=by
 unfold zNf
 rw [dt (by omega),dt (by omega)]
 rfl
theorem zJs {z:zW} {f:Int} {k:Nat} (hr:ranges z=true) (hk:k≤5):zBu z f (k:Int)=some (inside z f k):=by
 have hb:=zA4 hr
 obtain ⟨e,h1,h2⟩:=zH6 hk
 unfold zBu inside
 rw [e,zP (zM4 hk),zP (zu (by omega)),zP (zNN (by rw [df (by omega)]; rfl)),zP (zNN (zu (by omega))),zP (zNN (zu (by omega)))]
theorem zWi:∀ k:Fin 4, ∀ x:Fin 256,zMk .xor .i64 (x.val:Int) (2 ^ k.val)=((x.val ^^^ 2 ^ k.val:Nat):Int):=by decide +kernel
theorem zVg {f:Int} {k:Nat} (h0:0≤f) (h1:f<256) (hk:k<4):zMk .xor .i64 f (2 ^ k)=bud f k:=by
 obtain ⟨m,rfl⟩:=Int.eq_ofNat_of_zero_le h0
 exact zWi ⟨k,hk⟩ ⟨m,by omega⟩
theorem zJb {l:List (List Int)} (hl:l.length=5) {i:Nat} (hi:i<5) (x:List Int):zDY 5 [] l i x=l.set i x:=by
 match l,hl with
 | [a,b,c,d,e],_ =>
  have:i=0∨i=1∨i=2∨i=3∨i=4:=by omega
  rcases this with rfl | rfl | rfl | rfl | rfl <;> rfl
theorem zJ8 {l:List (List Int)} {i:Nat} (hi:i<l.length):l.set i (l.getD i [])=l:=by
 apply List.ext_getElem?
 intro j
 rw [List.getElem?_set]
 split
 ·rename_i h
  subst h
  simp [hi]
 ·rfl
theorem zSF.srt' {z:zW} (h:zSF z) (k:Nat):Srt (lst z k):=by
 rcases Nat.lt_or_ge k 5 with hk | hk
 ·exact h.srt k _ (zKJ h.len hk)
 ·rw [zNP h.len hk]; exact Srt.nil
theorem zSF.len' {z:zW} (h:zSF z) (k:Nat):(lst z k).length≤256:=by
 rcases Nat.lt_or_ge k 5 with hk | hk
 ·exact h.lenl (zKJ h.len hk)
 ·rw [zNP h.len hk]; simp
theorem zRH {z:zW} (h:zSF z) {f:Int} {k:Nat} (hk:k<5) {a:zW} (ha:zE0 a z):zGl a f (k:Int) z.free=some (zNK z f k):=by
 unfold zGl
 have e:z.free.getD (k:Int).toNat []=lst z k:=rfl
 have h5:=h.len
 rw [zP (zAD hk),zP (dt (by omega)),e,zQd (h.srt' k) (by have:=h.len' k; omega),zAw]
 have hok:zOZ (lst z k) (lb (lst z k) f:Int)=true:=by
  have h1:=zUx (lst z k) f
  have h2:=h.len' k
  unfold zOZ
  rw [dt (by omega),dt (by omega),dt (by omega)]
  rfl
 rw [zP hok]
 show some (zW.mk _ _ _ _ _ _)=_
 rw [zJb h5 (by omega),ha.1,ha.2.1,ha.2.2.1,ha.2.2.2.1,ha.2.2.2.2]
 rfl
theorem zU8:∀ (m n:Nat) {z a:zW} {f:Int} {k:Nat},m+k=4→m<n→zSF z→zE0 a z→0≤f→f<256 →
  zHt a n f (k:Int) z.free=some (zOW m z f k):=by
 intro m
 induction m with
 | zero =>
  intro n z a f k hk hn h ha h0 h1
  obtain ⟨n,rfl⟩:=ex1 ‹_<n›
  show zFa _ _ _ _ _=_
  unfold zFa
  rw [zf (df (by omega))]
  exact zRH h (by omega) ha
 | succ m ih =>
  intro n z a f k hk hn h ha h0 h1
  obtain ⟨n,rfl⟩:=ex1 ‹_<n›
  show zFa _ _ _ _ _=_
  unfold zFa
  have e:z.free.getD (k:Int).toNat []=lst z k:=rfl
  have h5:=h.len
  obtain ⟨e1,p1,p2⟩:=zH6 (k:=k) (by omega)
  have e3:zDY 5 [] z.free (k:Int).toNat (lst z k)=z.free:=by
   rw [zJb h5 (by omega)]
   exact zJ8 (by omega)
  have e4:(⟨a.node,a.kind,a.start,a.count,a.min,z.free⟩:zW)=z:=by rw [ha.1,ha.2.1,ha.2.2.1,ha.2.2.2.1,ha.2.2.2.2]
  rw [zz (dt (by omega)),zP (zM4 (by omega)),e1,zP (zu (by omega)),zP (zAD (by omega)),zP (dt (by omega)),e,zVg h0 h1 (by omega),zQd (h.srt' k) (by have:=h.len' k; omega),zAw]
  rw [zP (zNN (zu (by omega))),e3,e4]
  have hin:zBu z (min f (bud f k)) ((k:Int)+1)=some (inside z (min f (bud f k)) (k+1)):=zJs (k:=k+1) h.ranges (by omega)
  rw [hin]
  conv=>rhs; unfold zOW
  by_cases hm:bud f k∈lst z k
  ·have hb:=h.bd k _ (zKJ h5 (by omega)) _ hm
   show ((cnd (!!decide (bud f k∈lst z k)) _ _).bind _)=_
   rw [dt hm,Bool.not_true,Bool.not_false,zz rfl,zAw]
   by_cases hi:inside z (min f (bud f k)) (k+1)=true
   ·have hj:zLQ z f k=true:=by unfold zLQ; rw [hi,dt hm]; rfl
    rw [if_pos hj,hi]
    refine (zf (by rfl)).trans ?_
    have hdel:zQZ (z.free.getD (k:Int).toNat []) (lb (lst z k) (bud f k):Int) ((lb (lst z k) (bud f k):Int)+1)=true:=by
     have:=zYY hm
     rw [e]
     unfold zQZ
     rw [dt (by omega),dt (by omega),dt rfl]
     rfl
    rw [zP (zu (by have:=zUx (lst z k) (bud f k); have:=h.len' k; omega)),zP hdel,zP (zu (by omega))]
    have hz:(zMb z (bud f k) k).free=zDY 5 [] z.free (k:Int).toNat (zSE (z.free.getD (k:Int).toNat []) (lb (lst z k) (bud f k):Int)):=by
     rw [zJb h5 (by omega)]
     rfl
    rw [← hz]
    exact ih n (k:=k+1) (by omega) (by omega) (h.del (zKJ h5 (by omega))) (show zE0 a (zMb z (bud f k) k) from ha) (by omega) (by omega)
   ·have hj:¬ zLQ z f k=true:=by unfold zLQ; rw [Bool.and_eq_true]; exact fun q=>hi q.2
    have hi':inside z (min f (bud f k)) (k+1)=false:=by simpa using hi
    rw [if_neg hj,hi']
    refine (zz (by rfl)).trans ?_
    exact zRH h (by omega) ha
  ·have hj:¬ zLQ z f k=true:=by unfold zLQ; rw [Bool.and_eq_true,decide_eq_true_eq]; exact fun q=>hm q.1
   show ((cnd (!!decide (bud f k∈lst z k)) _ _).bind _)=_
   rw [if_neg hj,df hm,Bool.not_false,Bool.not_true,zf rfl,zAw]
   refine (zz (by rfl)).trans ?_
   exact zRH h (by omega) ha
theorem zV2 {z:zW} {f:Int} {k:Nat} (h:zSF z) (hk:k≤4) (h0:0≤f) (h1:f<256):zIi z f (k:Int)=some (zOW (4 - k) z f k) :=
 zU8 (4 - k) z5 (by omega) (by unfold z5; omega) h ⟨rfl,rfl,rfl,rfl,rfl⟩ h0 h1
theorem zQn (z:zW) (h:inI z.start=true):zGh z=some (ranges z):=by
 unfold zGh ranges
 by_cases hs:0≤z.start∧z.start<256
 ·rw [zP (zNN (zu (by omega)))]
 ·have:(((((((decide (0≤z.node))&&(decide (z.node<4)))&&((decide (z.kind=0))||(decide (z.kind=1))))&&(decide (0≤z.start)))&&(decide (z.start<256)))&&(decide (1≤z.count))))=false:=by
   rcases Classical.not_and_iff_not_or_not.1 hs with hs | hs <;> simp [hs]
  rw [this]
  rfl
theorem zUf {z:zW} (hr:ranges z=true) (hf:z.free=[[],[],[],[],[]]):∀ (m n i:Nat),(i:Int)+m=z.count→m<n → ∀ a:zW,a=zNR z i →
  zH0 z.start z.count n (z.start+i) a.node a.kind a.start a.count a.min a.free=some (zNR z z.count.toNat,0):=by
 intro m
 have hb:=zA4 hr
 induction m with
 | zero =>
  intro n i hi hn a ha
  obtain ⟨n,rfl⟩:=ex1 ‹_<n›
  show zFm _ _ _ _ _ _ _ _ _ _=_
  unfold zFm
  rw [zP (zu (by omega)),zf (df (by omega))]
  have:z.count.toNat=i:=by omega
  rw [this, ← ha]
  rfl
 | succ m ih =>
  intro n i hi hn a ha
  obtain ⟨n,rfl⟩:=ex1 ‹_<n›
  show zFm _ _ _ _ _ _ _ _ _ _=_
  unfold zFm
  rw [zP (zu (by omega)),zz (dt (by omega))]
  show ((zIi a (z.start+i) (0:Nat)).bind _)=_
  rw [ha,zV2 (zXC hr hf (by omega)).1 (by omega) (by omega) (by omega),zAw,zP (zu (by omega))]
  have:=ih n (i+1) (by omega) (by omega) (zNR z (i+1)) rfl
  rw [show z.start+((i+1:Nat):Int)=z.start+i+1 by omega] at this
  exact this
theorem zXZ {node kind start count least:Int} (h:inI start=true):zKw node kind start count least=some (zUY node kind start count least):=by
 unfold zKw zUY
 have e:(⟨node,kind,start,count,least,List.replicate 5 ([]:List Int)⟩:zW)=zL5 node kind start count least:=rfl
 rw [e,zQn _ h,zAw]
 by_cases hr:ranges (zL5 node kind start count least)=true
 ·rw [if_pos hr,hr]
  refine (zf (by rfl)).trans ?_
  have hb:=zA4 hr
  have hc:(zL5 node kind start count least).count=count:=rfl
  have:=zUf hr rfl count.toNat z5 0 (by omega) (by unfold z5; omega) _ rfl
  have e0:(zL5 node kind start count least).start+((0:Nat):Int)=start:=by show start+0=start; omega
  rw [e0] at this
  exact this
 ·rw [if_neg hr,zz (by simpa using hr)]
  rfl
theorem zSn (z:zW):zKI z=some (ranges z):=by
 unfold zKI
 by_cases h:(((decide (z.node<0))||(decide (4≤z.node)))||((!decide (z.kind=0))&&(!decide (z.kind=1))))=true
 ·rw [zz h]
  have:ranges z=false:=by
   cases hr:ranges z with
   | false=>rfl
   | true =>
    have hb:=zA4 hr
    simp at h
    omega
  rw [this]
 ·have h':=Bool.eq_false_iff.2 h
  rw [zf h']
  have hc:(!(((decide (0≤z.start))&&(decide (1≤z.count)))&&(decide (z.count≤256)))||inI (256 - z.count))=true:=by
   by_cases hq:1≤z.count∧z.count≤256
   ·exact zNN (zu (by omega))
   ·have:(decide (0≤z.start)&&decide (1≤z.count)&&decide (z.count≤256))=false:=by
     rcases Classical.not_and_iff_not_or_not.1 hq with hq | hq <;> simp [hq]
    rw [this]
    rfl
  rw [zP hc]
  congr 1
  rw [Bool.eq_iff_iff]
  unfold ranges
  simp at h ⊢
  omega
theorem zRq {z:zW} {f:Int} {k:Nat} (hr:ranges z=true) (hk:k≤4) (h0:z.start≤f) (h1:f<z.start+z.count):zCj z f (k:Int)=some (inside z f k):=by
 have hb:=zA4 hr
 obtain ⟨e,p1,p2⟩:=zH6 (k:=k) (by omega)
 unfold zCj
 rw [zP (zNN (zu (by omega))),df (p:=(k:Int)<0) (by omega),df (p:=4<(k:Int)) (by omega),df (p:=f<z.start) (by omega),df (p:=z.start+z.count≤f) (by omega)]
 refine (zf (by rfl)).trans ?_
 rw [e,zP (dt (zF3 (by omega) (by omega))),zP (zM4 (by omega)),zP (zu (by omega)),zP (by rw [df (by omega)]; rfl),zP (zNN (zu (by omega))),zP (zNN (zu (by omega)))]
 congr 1
 unfold inside
 rw [Bool.eq_iff_iff]
 simp
 omega
theorem zMa {k:Nat} (h:k≤5):(2:Int) ^ k=((2 ^ k:Nat):Int):=by norm_cast
theorem zVR {l:List Int} {f:Int→Option Bool} {p:Int→Bool} (hf:∀ x,f x=some (p x)) (hl:l.length≤1099511627776):∀ (m n i:Nat),i+m=l.length→m<n → ∃ r,zAH l f n (i:Int)=some r∧decide (0≤r)=(l.drop i).any p:=by
 intro m
 induction m with
 | zero =>
  intro n i h1 h2
  obtain ⟨n,rfl⟩:=ex1 ‹_<n›
  refine ⟨-1,?_,?_⟩
  ·show zAW _ _ _ _=_
   unfold zAW
   rw [zf (df (by omega))]
   rfl
  ·rw [List.drop_eq_nil_of_le (by omega)]
   rfl
 | succ m ih =>
  intro n i h1 h2
  obtain ⟨n,rfl⟩:=ex1 ‹_<n›
  have hi:i<l.length:=by omega
  have hs:zAH l f (n+1) (i:Int)=cnd (p l[i]) (some (i:Int)) (zAH l f n ((i+1:Nat):Int)):=by
   show zAW _ _ _ _=_
   unfold zAW
   rw [zz (dt (by omega)),zP (zAD hi),hf,zAw,zFW hi,zP (zu (by omega))]
   rfl
  rw [hs,List.drop_eq_getElem_cons hi,List.any_cons]
  cases hp:p l[i] with
  | true=>exact ⟨i,rfl,by rw [dt (by omega)]; rfl⟩
  | false=>simpa [cnd] using ih n (i+1) (by omega) (by omega)
def zPi (n:Int):Bool:=decide (n<0)||decide (4≤n)
def zMN (k b h z:Int):Bool:=decide (k<1)||decide (4<k)||decide (64<h)||decide (b<1)||decide (h<b)||decide (z<1)||decide (6<z)
def zU2 (nodes:List Int) (b h z:Int):Bool := !zMN (nodes.length:Int) b h z && !nodes.any zPi
theorem zPI {a:zH} (hl:a.nodes.length≤1099511627776):zDg a=some (zU2 a.nodes a.batch a.high (a.zones.length:Int)):=by
 unfold zDg zU2
 show cnd (zMN (a.nodes.length:Int) a.batch a.high (a.zones.length:Int)) _ _=_
 cases zMN (a.nodes.length:Int) a.batch a.high (a.zones.length:Int) with
 | true=>rfl
 | false =>
  obtain ⟨r,h1,h2⟩:=zVR (l:=a.nodes) (f:=fun y=>zDl y) (p:=zPi) (fun x=>rfl) hl a.nodes.length z5 0 (by omega) (by unfold z5; omega)
  unfold zB6 zBY
  show (((zAH a.nodes (fun y=>zDl y) z5 ((0:Nat):Int)).bind _).bind _)=_
  rw [h1,zAw,zAw,h2]
  rfl
set_option maxRecDepth 100000 in
theorem zXQ:zId=some true:=by kernel_rfl
end Go.Proofs.Ytplkliakhdkpcaa
namespace Go.Proofs.Ytplkliakhdkpcaa
open Go Go.RowKit Go.Wk Go.Am
theorem zUz {s:List Int} {f k:Nat} (hk:k≤4) (hs:f+2 ^ k≤s.length) (hl:s.length=256):∀ (m n i:Nat),i+m=f+2 ^ k→m<n→f≤i→(∀ g,f≤g→g<i→s.getD g 0≠0) →
  zKc s (f:Int) (k:Int) n (i:Int)=some (decide (∀ g,g<2 ^ k→s.getD (f+g) 0≠0)):=by
 intro m
 obtain ⟨e,p1,p2⟩:=zH6 (k:=k) (by omega)
 have pn:=zMa (k:=k) (by omega)
 induction m with
 | zero =>
  intro n i h1 h2 h3 h4
  obtain ⟨n,rfl⟩:=ex1 ‹_<n›
  show zHy _ _ _ _ _=_
  unfold zHy
  rw [e,zP (dt (zF3 (by omega) (by omega))),zP (zM4 (by omega)),zP (zu (by omega)),zP (zu (by omega)),zf (df (by omega))]
  rw [dt (p := ∀ g,g<2 ^ k→s.getD (f+g) 0≠0) (fun g hg=>h4 (f+g) (by omega) (by omega))]
  rfl
 | succ m ih =>
  intro n i h1 h2 h3 h4
  obtain ⟨n,rfl⟩:=ex1 ‹_<n›
  show zHy _ _ _ _ _=_
  unfold zHy
  have hi:i<s.length:=by omega
  have hg:s.getD i 0=s[i]:=by rw [List.getD_eq_getElem?_getD,List.getElem?_eq_getElem hi]; rfl
  rw [e,zP (dt (zF3 (by omega) (by omega))),zP (zM4 (by omega)),zP (zu (by omega)),zP (zu (by omega)),zz (dt (by omega)),zP (zAD hi),zFW hi]
  by_cases hz:s[i]=0
  ·rw [zz (dt hz),df]
   intro hh
   have:=hh (i - f) (by omega)
   rw [show f+(i - f)=i by omega,hg] at this
   exact this hz
  ·rw [zf (df hz),zP (zu (by omega))]
   refine ih n (i+1) (by omega) (by omega) (by omega) (fun g h5 h6 => ?_)
   by_cases hgi:g=i
   ·rw [hgi,hg]; exact hz
   ·exact h4 g h5 (by omega)
theorem zYj {s:List Int} {f k:Nat} (hk:k≤4) (hs:f+2 ^ k≤s.length) (hl:s.length=256):zQw s (f:Int) (k:Int)=some (decide (∀ g,g<2 ^ k→s.getD (f+g) 0≠0)) :=
 zUz hk hs hl (2 ^ k) z5 f (by omega) (by have:=(zH6 (k:=k) (by omega)).2.2; have:=zMa (k:=k) (by omega); unfold z5; omega) (by omega) (fun g h1 h2=>by omega)
def zl (z:zW) (l:List (List Int)):zW:={ z with free:=l }
def zer (l:List Int) (i:Nat):Nat→List Int
 | 0=>l
 | m+1=>zer (l.set i 0) (i+1) m
theorem zTD:∀ (m i:Nat) (l:List Int),(zer l i m).length=l.length
 | 0,_,_=>rfl
 | m+1,i,l=>by unfold zer; rw [zTD]; exact List.length_set ..
theorem zSC (l:List Int) (i g:Nat) (h:i<l.length) (x:Int):(l.set i x).getD g 0=if g=i then x else l.getD g 0:=by
 simp only [List.getD_eq_getElem?_getD,List.getElem?_set]
 by_cases hg:i=g
 ·rw [if_pos hg,if_pos h,if_pos hg.symm]; rfl
 ·rw [if_neg hg,if_neg (fun e=>hg e.symm)]
theorem zTw:∀ (m i:Nat) (l:List Int) (g:Nat),i+m≤l.length→(zer l i m).getD g 0=if i≤g∧g<i+m then 0 else l.getD g 0
 | 0,i,l,g,_=>by rw [if_neg (by omega)]; rfl
 | m+1,i,l,g,h=>by
  unfold zer
  rw [zTw m (i+1) _ g (by rw [List.length_set]; omega),zSC l i g (by omega)]
  by_cases h1:i+1≤g∧g<i+1+m
  ·rw [if_pos h1,if_pos (by omega)]
  ·rw [if_neg h1]
   by_cases h2:g=i
   ·rw [if_pos h2,if_pos (by omega)]
   ·rw [if_neg h2,if_neg (by omega)]
theorem zWO {se:Int→(List (List Int))→(List Int)→Option zW} {k f:Nat} {l:List (List Int)} (hk:k≤4) (h5:l.length=5) (hf:f+2 ^ k≤256):∀ (m n i:Nat) (s:List Int),i+m=f+2 ^ k→m<n→s.length=256 →
  zKF se (k:Int) (f:Int) l n (i:Int) s=zHD se (f:Int) (l.set k (l.getD k []++[(f:Int)])) (zer s i m):=by
 intro m
 obtain ⟨e,p1,p2⟩:=zH6 (k:=k) (by omega)
 have pn:=zMa (k:=k) (by omega)
 induction m with
 | zero =>
  intro n i s h1 h2 h3
  obtain ⟨n,rfl⟩:=ex1 ‹_<n›
  show zGw _ _ _ _ _ _ _=_
  unfold zGw
  rw [e,zP (dt (zF3 (by omega) (by omega))),zP (zM4 (by omega)),zP (zu (by omega)),zP (zu (by omega)),zf (df (by omega)),zJb h5 (by omega)]
  rfl
 | succ m ih =>
  intro n i s h1 h2 h3
  obtain ⟨n,rfl⟩:=ex1 ‹_<n›
  show zGw _ _ _ _ _ _ _=_
  unfold zGw
  rw [e,zP (dt (zF3 (by omega) (by omega))),zP (zM4 (by omega)),zP (zu (by omega)),zP (zu (by omega)),zz (dt (by omega)),zP (zAD (by omega)),zP (zu (by omega))]
  exact ih n (i+1) (s.set i 0) (by omega) (by omega) (by rw [List.length_set]; exact h3)
structure WI (z:zW) (s:List Int) (D:Nat→Int→Prop) (l:List (List Int)) (left:List Int):Prop where
 len:l.length=5
 llen:left.length=256
 srt:∀ k,Srt (lst (zl z l) k)
 ins:∀ k x,x∈lst (zl z l) k→inside z x k=true∧D k x
 dis:∀ k x j y g,x∈lst (zl z l) k→y∈lst (zl z l) j→x≤g→g<x+2 ^ k→y≤g→g<y+2 ^ j→k=j∧x=y
 lft:∀ g:Nat,g<256→(left.getD g 0≠0↔s.getD g 0≠0 ∧ ¬ cov (zl z l) g)
 sub:∀ g,cov (zl z l) g→s.getD g.toNat 0≠0
 max:∀ j x,D j x→j≤4→inside z x j=true → ∃ g,x≤g∧g<x+2 ^ j∧(s.getD g.toNat 0=0 ∨ ∃ i y,j≤i∧y∈lst (zl z l) i∧y≤g∧g<y+2 ^ i)
section
variable {z:zW} {s left left':List Int} {D D':Nat→Int→Prop} {l:List (List Int)} {k:Nat} {f:Int}
theorem WI.mono (h:WI z s D l left) (h1:∀ j x,inside z x j=true→D j x→D' j x) (h2:∀ j x,inside z x j=true→j≤4→D' j x→D j x):WI z s D' l left :=
 ⟨h.len,h.llen,h.srt,fun k x hx=>⟨(h.ins k x hx).1,h1 k x (h.ins k x hx).1 (h.ins k x hx).2⟩,h.dis,h.lft,h.sub,fun j x hd hj hi=>h.max j x (h2 j x hi hj hd) hj hi⟩
theorem WI.skip (h:WI z s D l left) (hr:ranges z=true) (hk:k≤4) (hD:∀ j x,D j x→k≤j) (hn:inside z f k=true → ∃ g,f≤g∧g<f+2 ^ k∧left.getD g.toNat 0=0):WI z s (fun j x=>D j x∨(j=k∧x=f)) l left:=by
 refine ⟨h.len,h.llen,h.srt,fun k x hx=>⟨(h.ins k x hx).1,.inl (h.ins k x hx).2⟩,h.dis,h.lft,h.sub,?_⟩
 rintro j x (hd | ⟨rfl,rfl⟩) hj hi
 ·exact h.max j x hd hj hi
 ·obtain ⟨g,g1,g2,g3⟩:=hn hi
  have hb:=zAU hr hi
  refine ⟨g,g1,g2,?_⟩
  have hl:=h.lft g.toNat (by omega)
  rw [Int.toNat_of_nonneg (by omega)] at hl
  by_cases hs:s.getD g.toNat 0=0
  ·exact .inl hs
  ·have hc:cov (zl z l) g:=by
    refine Classical.byContradiction fun hc => ?_
    exact hl.2 ⟨hs,hc⟩ g3
   obtain ⟨i,y,hy,y1,y2⟩:=hc
   exact .inr ⟨i,y,hD _ _ (h.ins i y hy).2,hy,y1,y2⟩
theorem WI.add (h:WI z s D l left) (hr:ranges z=true) (hk:k≤4) (hi:inside z f k=true) (hD:∀ j x,D j x→k<j∨(j=k∧x<f)) (hall:∀ g:Nat,f≤g→(g:Int)<f+2 ^ k→left.getD g 0≠0)
  (hl':left'.length=256) (hg':∀ g:Nat,left'.getD g 0=if f≤(g:Int)∧(g:Int)<f+2 ^ k then 0 else left.getD g 0):WI z s (fun j x=>D j x∨(j=k∧x=f)) (l.set k (l.getD k []++[f])) left':=by
 have hb:=zAU hr hi
 have hls:∀ j,lst (zl z (l.set k (l.getD k []++[f]))) j=if j=k then lst (zl z l) k++[f] else lst (zl z l) j:=fun j=>zRY (z:=zl z l) h.len (by omega)
 have hm:∀ j y,y∈lst (zl z (l.set k (l.getD k []++[f]))) j↔y∈lst (zl z l) j∨(j=k∧y=f):=by
  intro j y
  rw [hls]
  by_cases hjk:j=k
  ·subst hjk
   rw [if_pos rfl,List.mem_append]
   simp
  ·rw [if_neg hjk]
   simp [hjk]
 have hf:∀ g,f≤g→g<f+2 ^ k→s.getD g.toNat 0≠0 ∧ ¬ cov (zl z l) g:=by
  intro g g1 g2
  have e:((g.toNat:Nat):Int)=g:=Int.toNat_of_nonneg (by omega)
  have:=(h.lft g.toNat (by omega)).1 (hall g.toNat (by omega) (by omega))
  rw [e] at this
  exact this
 have hc:∀ g,cov (zl z (l.set k (l.getD k []++[f]))) g↔cov (zl z l) g∨(f≤g∧g<f+2 ^ k):=by
  intro g
  constructor
  ·rintro ⟨j,y,hy,h1,h2⟩
   rcases (hm j y).1 hy with hy | ⟨rfl,rfl⟩
   ·exact .inl ⟨j,y,hy,h1,h2⟩
   ·exact .inr ⟨h1,h2⟩
  ·rintro (⟨j,y,hy,h1,h2⟩ | ⟨h1,h2⟩)
   ·exact ⟨j,y,(hm j y).2 (.inl hy),h1,h2⟩
   ·exact ⟨k,f,(hm k f).2 (.inr ⟨rfl,rfl⟩),h1,h2⟩
 refine ⟨by simpa using h.len,hl',fun j => ?_,fun j y hy => ?_,fun j y i u g hy hu h1 h2 h3 h4 => ?_,fun g hg => ?_,fun g hg => ?_,fun j x hd hj hij => ?_⟩
 ·rw [hls]
  split
  ·refine List.pairwise_append.2 ⟨h.srt k,List.pairwise_singleton .., fun a ha b hb' => ?_⟩
   simp only [List.mem_singleton] at hb'
   subst hb'
   rcases hD _ _ (h.ins k a ha).2 with hq | hq <;> omega
  ·exact h.srt j
 ·rcases (hm j y).1 hy with hy | ⟨rfl,rfl⟩
  ·exact ⟨(h.ins j y hy).1,.inl (h.ins j y hy).2⟩
  ·exact ⟨hi,.inr ⟨rfl,rfl⟩⟩
 ·rcases (hm j y).1 hy with hy' | ⟨e1,e2⟩
  ·rcases (hm i u).1 hu with hu' | ⟨e3,e4⟩
   ·exact h.dis j y i u g hy' hu' h1 h2 h3 h4
   ·rw [e4] at h3 h4
    rw [e3] at h4
    exact absurd ⟨j,y,hy',h1,h2⟩ (hf g h3 h4).2
  ·rw [e2] at h1 h2
   rw [e1] at h2
   rcases (hm i u).1 hu with hu' | ⟨e3,e4⟩
   ·exact absurd ⟨i,u,hu',h3,h4⟩ (hf g h1 h2).2
   ·exact ⟨e1.trans e3.symm,e2.trans e4.symm⟩
 ·rw [hg',hc]
  by_cases hq:f≤(g:Int)∧(g:Int)<f+2 ^ k
  ·rw [if_pos hq]
   simp [hq]
  ·rw [if_neg hq,h.lft g hg]
   simp only [hq,or_false]
 ·rcases (hc g).1 hg with hg | hg
  ·exact h.sub g hg
  ·exact (hf g hg.1 hg.2).1
 ·rcases hd with hd | ⟨rfl,rfl⟩
  ·obtain ⟨g,g1,g2,g3⟩:=h.max j x hd hj hij
   refine ⟨g,g1,g2,g3.imp id ?_⟩
   rintro ⟨i,y,hy,hy2,hy3⟩
   exact ⟨i,y,hy,(hm i y).2 (.inl hy2),hy3⟩
  ·have hp:=zGm j
   exact ⟨x,Int.le_refl _,by omega,.inr ⟨j,x,Nat.le_refl _,(hm j x).2 (.inr ⟨rfl,rfl⟩),Int.le_refl _,by omega⟩⟩
theorem WI.len' (h:WI z s D l left) (hr:ranges z=true) (k:Nat):(lst (zl z l) k).length≤256:=by
 refine zRZ (h.srt k) (fun f hf => ?_)
 have:=zAU hr (h.ins k f hf).1
 have:=zGm k
 omega
theorem WI.ok (h:WI z s (fun _ _=>True) l left) (hr:ranges z=true):OkZ (zl z l) ∧ ∀ g,cov (zl z l) g↔z.start≤g∧g<z.start+z.count∧s.getD g.toNat 0≠0:=by
 refine ⟨⟨hr,h.len,h.srt,fun k x hx=>(h.ins k x hx).1,h.dis,fun k x hk hx hb => ?_⟩,fun g=>⟨fun hg => ?_,fun hg => ?_⟩⟩
 ·refine Bool.eq_false_iff.2 fun hi => ?_
  have hbx:=zAU hr (h.ins k x hx).1
  have hax:=(zAz hr).1 (h.ins k x hx).1
  have hp:=zGm k
  have hps:=zJP k
  obtain ⟨g,g1,g2,g3⟩:=h.max (k+1) _ trivial (by omega) hi
  have hcov:(x≤g∧g<x+2 ^ k)∨(bud x k≤g∧g<bud x k+2 ^ k):=by
   clear g3
   rcases zND hk hbx.1 (by omega) hax.2.1 with ⟨_,e⟩ | ⟨_,e⟩ <;> rw [e] at g1 g2 ⊢ <;> omega
  have hno:∀ y,y∈lst (zl z l) k→y≤g→g<y+2 ^ k→False:=by
   intro y hy y1 y2
   rcases g3 with g3 | ⟨i,u,hu,hu1,hu2,hu3⟩
   ·exact h.sub g ⟨k,y,hy,y1,y2⟩ g3
   ·have:=(h.dis k y i u g hy hu1 y1 y2 hu2 hu3).1
    omega
  rcases hcov with hq | hq
  ·exact hno x hx hq.1 hq.2
  ·exact hno _ hb hq.1 hq.2
 ·obtain ⟨k,x,hx,h1,h2⟩:=hg
  have:=zAU hr (h.ins k x hx).1
  exact ⟨by omega,by omega,h.sub g ⟨k,x,hx,h1,h2⟩⟩
 ·have hb:=zA4 hr
  obtain ⟨g',g1,g2,g3⟩:=h.max 0 g trivial (by omega) ((zAz hr).2 (by rw [pw0]; omega))
  rw [pw0] at g2
  have e:g'=g:=by omega
  subst e
  rcases g3 with g3 | ⟨i,y,_,hy,hy2,hy3⟩
  ·exact absurd g3 hg.2.2
  ·exact ⟨i,y,hy,hy2,hy3⟩
end
section
variable {z:zW} {s:List Int}
def Nx (z:zW) (s:List Int) (k:Nat) (se:Int→(List (List Int))→(List Int)→Option zW):Prop :=
 ∀ l left,WI z s (fun j _=>k≤j) l left → ∃ l',se ((k:Int) - 1) l left=some (zl z l') ∧ ∃ left',WI z s (fun _ _=>True) l' left'
theorem zXD (hr:ranges z=true) {k:Nat} {se:Int→(List (List Int))→(List Int)→Option zW} (hk:k≤4) (hn:Nx z s k se):∀ (m n f:Nat) (l:List (List Int)) (left:List Int),(f:Int)+m=z.start+z.count→m<n→z.start≤f →
  WI z s (fun j x=>k<j∨(j=k∧x<f)) l left → ∃ l',zIT se z (k:Int) n (f:Int) l left=some (zl z l') ∧ ∃ left',WI z s (fun _ _=>True) l' left':=by
 have hb:=zA4 hr
 intro m
 induction m with
 | zero =>
  intro n f l left h1 h2 h3 h
  obtain ⟨n,rfl⟩:=ex1 ‹_<n›
  show ∃ l',zGo _ _ _ _ _ _ _=_∧_
  unfold zGo
  rw [zP (zu (by omega)),zf (df (by omega))]
  unfold zMQ
  rw [zP (zu (by omega))]
  refine hn l left (h.mono (fun j x _ hd=>by rcases hd with hd | hd <;> omega) (fun j x hi _ hd => ?_))
  have:=zAU hr hi
  have:=zGm j
  have hd:k≤j:=hd
  by_cases hjk:j=k
  ·exact .inr ⟨hjk,by omega⟩
  ·exact .inl (by omega)
 | succ m ih =>
  intro n f l left h1 h2 h3 h
  obtain ⟨n,rfl⟩:=ex1 ‹_<n›
  obtain ⟨e,p1,p2⟩:=zH6 (k:=k) (by omega)
  have pn:=zMa (k:=k) (by omega)
  have hstep:∀ l2 left2,WI z s (fun j x=>(k<j∨(j=k∧x<f))∨(j=k∧x=f)) l2 left2 → ∃ l',zHD (zIT se z (k:Int) n) (f:Int) l2 left2=some (zl z l') ∧ ∃ left',WI z s (fun _ _=>True) l' left':=by
   intro l2 left2 hw
   unfold zHD
   rw [zP (zu (by omega))]
   exact ih n (f+1) l2 left2 (by omega) (by omega) (by omega) (hw.mono (fun j x _ hd=>by omega) (fun j x _ _ hd=>by omega))
  show ∃ l',zGo _ _ _ _ _ _ _=_∧_
  unfold zGo
  rw [zP (zu (by omega)),zz (dt (by omega)),zRq hr hk h3 (by omega),zAw]
  by_cases hi:inside z f k=true
  ·have hbi:=zAU hr hi
   rw [hi,zz rfl,zYj hk (by rw [h.llen]; omega) h.llen,zAw]
   by_cases ha:∀ g,g<2 ^ k→left.getD (f+g) 0≠0
   ·have hlen:(l.getD (k:Int).toNat []).length≤256:=h.len' hr k
    rw [dt ha,Bool.and_true,zz rfl,zP (zAD (by omega)),zP (dt (by omega)),zP (dt (by show (_+1)*8≤4294967296; omega)),zWO hk h.len (by omega) (2 ^ k) z5 f left (by omega) (by unfold z5; omega) h.llen]
    refine hstep _ _ (h.add hr hk hi (fun j x hd=>hd) (fun g g1 g2 => ?_) (by rw [zTD]; exact h.llen) (fun g => ?_))
    ·have:=ha (g - f) (by omega)
     rw [show f+(g - f)=g by omega] at this
     exact this
    ·rw [zTw (2 ^ k) f left g (by rw [h.llen]; omega)]
     by_cases hq:f≤g∧g<f+2 ^ k
     ·rw [if_pos hq,if_pos (by omega)]
     ·rw [if_neg hq,if_neg (by omega)]
   ·rw [df ha,Bool.and_false,zf rfl]
    refine hstep _ _ (h.skip hr hk (fun j x hd=>by omega) (fun _ => ?_))
    refine Classical.byContradiction fun hno=>ha (fun g hg hz=>hno ⟨((f+g:Nat):Int),by omega,by omega,?_⟩)
    rw [Int.toNat_natCast]
    exact hz
  ·have hi':=Bool.eq_false_iff.2 hi
   rw [hi',zf rfl,zAw,Bool.false_and,zf rfl]
   exact hstep _ _ (h.skip hr hk (fun j x hd=>by omega) (fun hq=>absurd hq hi))
theorem zXM (hr:ranges z=true):∀ (q n:Nat) (l:List (List Int)) (left:List Int),q≤5→q<n→WI z s (fun j _=>q≤j) l left →
  ∃ l',zIN z n ((q:Int) - 1) l left=some (zl z l') ∧ ∃ left',WI z s (fun _ _=>True) l' left':=by
 have hb:=zA4 hr
 intro q
 induction q with
 | zero =>
  intro n l left hq hn h
  obtain ⟨n,rfl⟩:=ex1 ‹_<n›
  show ∃ l',zGp _ _ _ _ _=_∧_
  unfold zGp
  rw [zf (df (by omega))]
  exact ⟨l,rfl,left,h.mono (fun _ _ _ _=>trivial) (fun j x _ _ _=>Nat.zero_le j)⟩
 | succ q ih =>
  intro n l left hq hn h
  obtain ⟨n,rfl⟩:=ex1 ‹_<n›
  show ∃ l',zGp _ _ _ _ _=_∧_
  unfold zGp
  obtain ⟨st,hst⟩:=Int.eq_ofNat_of_zero_le hb.2.2.2.1
  rw [show (((q+1:Nat):Int) - 1)=(q:Int) by omega,zz (dt (by omega))]
  have:=zXD (s:=s) (k:=q) (se:=zIN z n) hr (by omega) (fun l2 left2 h2=>ih n l2 left2 (by omega) (by omega) h2) z.count.toNat z5 st l left (by omega) (by unfold z5; omega) (by omega)
   (h.mono (fun j x _ hd => .inl hd) (fun j x hi _ hd=>by
    have:=zAU hr hi
    show q+1≤j
    omega))
  rw [← hst] at this
  exact this
theorem zWz {s:List Int} (hs:s.length=256):∀ (m n i:Nat) (l:List Int),i+m=256→m<n→l.length=256→(∀ g:Nat,g<i→l.getD g 0=s.getD g 0)→zJ2 z s n (i:Int) l=zKM z s:=by
 intro m
 induction m with
 | zero =>
  intro n i l h1 h2 h3 h4
  obtain ⟨n,rfl⟩:=ex1 ‹_<n›
  show zG4 _ _ _ _ _=_
  unfold zG4
  rw [zf (df (by omega))]
  congr 1
  apply List.ext_getElem?
  intro g
  rcases Nat.lt_or_ge g 256 with hg | hg
  ·have:=h4 g (by omega)
   rw [List.getD_eq_getElem?_getD,List.getD_eq_getElem?_getD,List.getElem?_eq_getElem (by omega),List.getElem?_eq_getElem (by omega)] at this
   rw [List.getElem?_eq_getElem (by omega),List.getElem?_eq_getElem (by omega)]
   exact congrArg some this
  ·rw [List.getElem?_eq_none (by omega),List.getElem?_eq_none (by omega)]
 | succ m ih =>
  intro n i l h1 h2 h3 h4
  obtain ⟨n,rfl⟩:=ex1 ‹_<n›
  show zG4 _ _ _ _ _=_
  unfold zG4
  have hi:i<s.length:=by omega
  rw [zz (dt (by omega)),zP (zAD hi),zP (zAD (by omega)),zP (zu (by omega)),zFW hi]
  refine ih n (i+1) _ (by omega) (by omega) (by rw [List.length_set]; exact h3) (fun g hg => ?_)
  rw [Int.toNat_natCast,zSC _ _ _ (by omega)]
  by_cases hgi:g=i
  ·rw [if_pos hgi,hgi,List.getD_eq_getElem?_getD,List.getElem?_eq_getElem hi]
   rfl
  ·rw [if_neg hgi]
   exact h4 g (by omega)
theorem zWu (hr:ranges z=true) (hs:s.length=256):∃ y,zFF z s=some y∧OkZ y∧zE0 y z ∧ ∀ g,cov y g↔z.start≤g∧g<z.start+z.count∧s.getD g.toNat 0≠0:=by
 unfold zFF
 rw [zP (by rw [hs]; rfl),z0i,zWz hs 256 z5 0 _ (by omega) (by unfold z5; omega) (by rw [List.length_replicate,hs]; rfl) (fun g hg=>by omega)]
 unfold zKM
 have he:=zOD (z:=zl z (List.replicate 5 [])) hr rfl
 obtain ⟨l',e,left',hw⟩:=zXM (s:=s) hr 5 z5 (List.replicate 5 []) s (by omega) (by unfold z5; omega)
  ⟨rfl,hs,he.1.srt,fun k x hx=>absurd (show x∈[] from (zQC (z:=zl z (List.replicate 5 [])) rfl k)▸hx) (by simp),he.1.dis,fun g hg=>⟨fun h=>⟨h,he.2 g⟩,fun h=>h.1⟩,fun g hg=>absurd hg (he.2 g),fun j x hd hj _=>by exact absurd (show 5≤j from hd) (by omega)⟩
 have ho:=hw.ok hr
 exact ⟨zl z l',e,ho.1,⟨rfl,rfl,rfl,rfl,rfl⟩,ho.2⟩
theorem zRg {y:zW} (hs:s.length=256) (ho:OkZ y) (hy:zE0 y z) (hc:∀ g,cov y g↔z.start≤g∧g<z.start+z.count∧s.getD g.toNat 0≠0):zFF z s=some y:=by
 have hr:ranges z=true:=by rw [← hy.ranges]; exact ho.ranges
 obtain ⟨x,e,h1,h2,h3⟩:=zWu hr hs
 have hxy:zE0 x y:=h2.trans ⟨hy.1.symm,hy.2.1.symm,hy.2.2.1.symm,hy.2.2.2.1.symm,hy.2.2.2.2.symm⟩
 rw [e,h1.ext ho hxy.1 hxy.2.1 hxy.2.2.1 hxy.2.2.2.1 hxy.2.2.2.2 (fun f=>by rw [h3,hc])]
end
end Go.Proofs.Ytplkliakhdkpcaa
namespace Go.Proofs.Ytplkliakhdkpcaa
open Go Go.RowKit Go.Wk Go.Am
end Go.Proofs.Ytplkliakhdkpcaa
namespace Go.Proofs.Ytplkliakhdkpcaa
open Go Go.RowKit Go.Am
def geP:Option Int→Int→Bool
 | some q,f=>decide (f≤q)
 | none,_=>false
def zKZ (z:zW) (k:Nat):Option Int→List Int→Int
 | _,[]=>0
 | p,f::r=>if inside z f k=false then 3 else if geP p f=true then 10 else zKZ z k (some f) r
def zFD (z:zW):Nat→List (List Int)→Int
 | _,[]=>0
 | k,l::r=>if zKZ z k none l=0 then zFD z (k+1) r else zKZ z k none l
def zMd (s:List Bool) (i:Nat):Nat→Option (List Bool)
 | 0=>some s
 | n+1=>if s.getD i false=true then none else zMd (s.set i true) (i+1) n
def zMg (k:Nat):List Bool→List Int→Option (List Bool)
 | s,[]=>some s
 | s,f::r=>match zMd s f.toNat (2 ^ k) with
  | none=>none
  | some s'=>zMg k s' r
def zIF:Nat→List Bool→List (List Int)→Option (List Bool)
 | _,s,[]=>some s
 | k,s,l::r=>match zMg k s l with
  | none=>none
  | some s'=>zIF (k+1) s' r
def zRi (z:zW) (k:Nat) (l0:List Int):List Int→Bool
 | []=>false
 | f::r=>if (decide (bud f k∈l0)&&inside z (min f (bud f k)) (k+1))=true then true else zRi z k l0 r
def zMc (z:zW):Nat→List (List Int)→Bool
 | _,[]=>false
 | k,l::r=>if zRi z k l l=true then true else zMc z (k+1) r
def zFI:List Bool:=List.replicate 256 false
theorem zKP:zFI.length=256:=List.length_replicate
def zEr (z:zW):Int :=
 if ranges z=false then 2 else if zFD z 0 z.free=0 then
  (if zIF 0 zFI z.free=none then 7 else if zMc z 0 (z.free.take 4)=true then 11 else 0)
 else zFD z 0 z.free
theorem zUF {z:zW} {k:Nat}:∀ {l:List Int} {p:Option Int},zKZ z k p l=0→(∀ f,f∈l→inside z f k=true)∧Srt l∧(∀ q f,p=some q→f∈l→q<f):=by
 intro l
 induction l with
 | nil=>intro p _; exact ⟨fun f hf=>by simp at hf,Srt.nil,fun q f _ hf=>by simp at hf⟩
 | cons a l ih =>
  intro p h
  unfold zKZ at h
  split at h
  ·cases h
  ·rename_i h1
   split at h
   ·cases h
   ·rename_i h2
    obtain ⟨i1,i2,i3⟩:=ih h
    have ha:inside z a k=true:=by simpa using h1
    refine ⟨fun f hf => ?_,List.pairwise_cons.2 ⟨fun f hf=>i3 a f rfl hf,i2⟩,fun q f hq hf => ?_⟩
    ·rcases List.mem_cons.1 hf with rfl | hf
     ·exact ha
     ·exact i1 f hf
    ·subst hq
     have h2:q<a:=by simpa [geP] using h2
     rcases List.mem_cons.1 hf with rfl | hf
     ·exact h2
     ·have:=i3 a f rfl hf; omega
theorem zUo {z:zW}:∀ {ls:List (List Int)} {k:Nat},zFD z k ls=0 → ∀ (j:Nat) (l:List Int),ls[j]?=some l→(∀ f,f∈l→inside z f (k+j)=true)∧Srt l:=by
 intro ls
 induction ls with
 | nil=>intro k _ j l hl; simp at hl
 | cons a ls ih =>
  intro k h j l hl
  unfold zFD at h
  split at h
  ·rename_i h0
   cases j with
   | zero =>
    simp at hl; subst hl
    exact ⟨(zUF h0).1,(zUF h0).2.1⟩
   | succ j =>
    have:=ih h j l (by simpa using hl)
    rw [show k+(j+1)=k+1+j by omega]
    exact this
  ·rename_i h0; exact absurd h h0
theorem zFp {z:zW} (h:zEr z=0):ranges z=true:=by
 unfold zEr at h
 split at h
 ·cases h
 ·rename_i h1; simpa using h1
def zLT (l:List Int) (i:Nat):Option Int:=if i=0 then none else l[i - 1]?
section
variable {z:zW} {k i:Nat} {l:List Int} {x y:Int}
theorem zQX (hI:zKZ z k none l=zKZ z k (zLT l i) (l.drop i)) (hx:l[i]?=some x) (h:inside z x k=false):zKZ z k none l=3:=by
 obtain ⟨h1,h2⟩:=List.getElem?_eq_some_iff.1 hx
 rw [hI,List.drop_eq_getElem_cons h1,h2]
 unfold zKZ
 simp [h]
theorem zMX (hI:zKZ z k none l=zKZ z k (zLT l i) (l.drop i)) (hx:l[i]?=some x) (h:inside z x k=true) (hg:geP (zLT l i) x=false):zKZ z k none l=zKZ z k (zLT l (i+1)) (l.drop (i+1)):=by
 obtain ⟨h1,h2⟩:=List.getElem?_eq_some_iff.1 hx
 rw [hI,List.drop_eq_getElem_cons h1,h2]
 conv=>lhs; unfold zKZ
 have:zLT l (i+1)=some x:=by unfold zLT; simpa using hx
 simp [h,hg,this]
theorem zYd (h:¬ 0<i):geP (zLT l i) x=false:=by
 have:i=0:=by omega
 subst this
 rfl
theorem zYM (h:0<i) (hy:l[((i:Int) - 1).toNat]?=some y):geP (zLT l i) x=decide (x≤y):=by
 have e:((i:Int) - 1).toNat=i - 1:=by omega
 rw [e] at hy
 unfold zLT
 rw [if_neg (by omega),hy]
 rfl
theorem zPH (hI:zKZ z k none l=zKZ z k (zLT l i) (l.drop i)) (hx:l[i]?=some x) (h:inside z x k=true) (hg:geP (zLT l i) x=true):zKZ z k none l=10:=by
 obtain ⟨h1,h2⟩:=List.getElem?_eq_some_iff.1 hx
 rw [hI,List.drop_eq_getElem_cons h1,h2]
 unfold zKZ
 simp [h,hg]
theorem zSK (hI:zKZ z k none l=zKZ z k (zLT l i) (l.drop i)) (h:l.length≤i):zKZ z k none l=0:=by
 rw [hI,List.drop_eq_nil_of_le h]
 rfl
theorem zOy (hR:zFD z 0 z.free=zFD z k (z.free.drop k)) (hl:z.free[k]?=some l) (e:zKZ z k none l=0):zFD z 0 z.free=zFD z (k+1) (z.free.drop (k+1)):=by
 obtain ⟨h1,h2⟩:=List.getElem?_eq_some_iff.1 hl
 rw [hR,List.drop_eq_getElem_cons h1,h2]
 conv=>lhs; unfold zFD
 simp [e]
theorem zQS (hR:zFD z 0 z.free=zFD z k (z.free.drop k)) (h:z.free.length≤k):zFD z 0 z.free=0:=by
 rw [hR,List.drop_eq_nil_of_le h]
 rfl
variable {s s0 s1:List Bool} {m n:Nat}
variable {ls:List (List Int)}
variable {l0:List Int}
theorem zMA {β:Type} {l:List β} {i m:Nat} {x:β} (h:l[i]?=some x) (hm:i<m):(l.take m)[i]?=some x:=by
 rw [List.getElem?_take,if_pos hm]; exact h
end
def zP9 (k:Nat):List (List Int)→Int
 | []=>0
 | l::r=>(l.length:Int)*2 ^ k+zP9 (k+1) r
end Go.Proofs.Ytplkliakhdkpcaa
namespace Go.Proofs.Ytplkliakhdkpcaa
open Go Go.RowKit Go.Wk Go.Am
structure Zk (z:zW):Prop where
 len:z.free.length=5
 bd:∀ k,(lst z k).length≤1000000
section
variable {z:zW} {k:Nat} {l:List Int}
theorem Zk.get (h:Zk z) (hk:k<5):z.free[k]?=some (lst z k):=zKJ h.len hk
theorem zSR {i:Nat} (h:i<l.length):l[i]?=some (at_ l (i:Int)):=by rw [zFW h,List.getElem?_eq_getElem h]
theorem zQH {i:Nat} (h0:0<i):(i:Int) - 1=((i - 1:Nat):Int):=by omega
theorem cl6 {se:Int→Option Int} (hz:Zk z) (hr:ranges z=true) (hk:k<5) (hl:lst z k=l):∀ (m n i:Nat),i+m=l.length→m<n→zKZ z k none l=zKZ z k (zLT l i) (l.drop i) →
  zGR se z (k:Int) n (i:Int)=if zKZ z k none l=0 then se ((k+1:Nat):Int) else some (zKZ z k none l):=by
 have hb:l.length≤1000000:=by rw [← hl]; exact hz.bd k
 have e:z.free.getD (k:Int).toNat []=l:=hl
 intro m
 induction m with
 | zero =>
  intro n i h1 h2 hI
  obtain ⟨n,rfl⟩:=ex1 ‹_<n›
  show zEM _ _ _ _ _=_
  unfold zEM zHX
  rw [e,zf (df (by omega)),zP (zu (by omega)),if_pos (zSK hI (by omega))]
  rfl
 | succ m ih =>
  intro n i h1 h2 hI
  obtain ⟨n,rfl⟩:=ex1 ‹_<n›
  have hi:i<l.length:=by omega
  have hx:=zSR hi
  show zEM _ _ _ _ _=_
  unfold zEM
  rw [e,zz (dt (by omega)),zP (zAD hi),zJs hr (by omega),zAw]
  generalize at_ l (i:Int)=x at *
  cases hin:inside z x k with
  | false =>
   rw [Bool.not_false,zz rfl,zQX hI hx hin]
   rfl
  | true =>
   rw [Bool.not_true,zf rfl]
   by_cases h0:0<i
   ·rw [zP (zNN (zu (by omega))),zQH h0,zP (zNN (zAD (by omega))),dt (p:=0<(i:Int)) (by omega),Bool.true_and]
    have hy:=zSR (l:=l) (i:=i - 1) (by omega)
    have hg:geP (zLT l i) x=decide (x≤at_ l ((i - 1:Nat):Int)):=zYM h0 (by rw [zQH h0,Int.toNat_natCast]; exact hy)
    by_cases hle:x≤at_ l ((i - 1:Nat):Int)
    ·rw [zz (dt hle),zPH hI hx hin (by rw [hg,dt hle])]
     rfl
    ·rw [zf (df hle),zP (zu (by omega))]
     exact ih n (i+1) (by omega) (by omega) (zMX hI hx hin (by rw [hg,df hle]))
   ·rw [df (p:=0<(i:Int)) (by omega)]
    refine (zP (by rfl)).trans ((zP (by rfl)).trans ((zf (by rfl)).trans ?_))
    rw [zP (zu (by omega))]
    exact ih n (i+1) (by omega) (by omega) (zMX hI hx hin (zYd h0))
theorem cl5 (hz:Zk z) (hr:ranges z=true):∀ (m n k:Nat),k+m=5→m<n→zFD z 0 z.free=zFD z k (z.free.drop k) →
  zCr z n (k:Int)=if zFD z 0 z.free=0 then zF4 z else some (zFD z 0 z.free):=by
 intro m
 induction m with
 | zero =>
  intro n k h1 h2 hR
  obtain ⟨n,rfl⟩:=ex1 ‹_<n›
  show zEP _ _ _=_
  unfold zEP
  rw [zf (df (by omega)),if_pos (zQS hR (by rw [hz.len]; omega))]
 | succ m ih =>
  intro n k h1 h2 hR
  obtain ⟨n,rfl⟩:=ex1 ‹_<n›
  show zEP _ _ _=_
  unfold zEP
  have hb:=hz.bd k
  have hg:=hz.get (k:=k) (by omega)
  rw [zz (dt (by omega)),zP (zAD (by omega)),z0i,cl6 hz hr (by omega) rfl (lst z k).length z5 0 (by omega) (by unfold z5; omega) rfl]
  by_cases h0:zKZ z k none (lst z k)=0
  ·rw [if_pos h0]
   exact ih n (k+1) (by omega) (by omega) (zOy hR hg h0)
  ·rw [if_neg h0]
   have hc:zFD z 0 z.free=zKZ z k none (lst z k):=by
    obtain ⟨a1,a2⟩:=List.getElem?_eq_some_iff.1 hg
    rw [hR,List.drop_eq_getElem_cons a1,a2]
    unfold zFD
    rw [if_neg h0]
   rw [if_neg (by rw [hc]; exact h0),hc]
theorem zYh {l:List Bool} {n i:Nat} (hl:l.length=n) (hi:i<n) (x:Bool):zDY n false l i x=l.set i x:=by
 unfold zDY
 apply List.ext_getElem?
 intro j
 rw [List.getElem?_map,List.getElem?_set]
 by_cases hj:j<n
 ·rw [List.getElem?_range hj]
  by_cases hij:i=j
  ·subst hij
   rw [if_pos rfl,if_pos (by omega)]
   simp
  ·rw [if_neg hij,List.getElem?_eq_getElem (by omega)]
   simp [show ¬ j=i from fun e=>hij e.symm,List.getElem?_eq_getElem (show j<l.length by omega)]
 ·rw [List.getElem?_eq_none (by simp; omega)]
  by_cases hij:i=j
  ·omega
  ·rw [if_neg hij,List.getElem?_eq_none (by omega)]
   rfl
theorem zN3:∀ {m f:Nat} {d d':List Bool},zMd d f m=some d'→d'.length=d.length
 | 0,_,_,_,h=>by unfold zMd at h; cases h; rfl
 | m+1,f,d,d',h=>by
  unfold zMd at h
  split at h
  ·cases h
  ·rw [zN3 h,List.length_set]
theorem cl4 {se:Int→List Bool→Option Int} {i:Nat} {x:Int} (hk:k<5) (hx:at_ (lst z k) (i:Int)=x) (h0:0≤x) (h1:x+2 ^ k≤256) (hi:i<1000000):∀ (m n f:Nat) (d:List Bool),(f:Int)+m=x+2 ^ k→m<n→d.length=256 →
  zGQ se z (k:Int) (i:Int) n (f:Int) d=match zMd d f m with | none=>some 7 | some d'=>se ((i+1:Nat):Int) d':=by
 obtain ⟨e,p1,p2⟩:=zH6 (k:=k) (by omega)
 have ex:at_ (z.free.getD (k:Int).toNat []) (i:Int)=x:=hx
 intro m
 induction m with
 | zero =>
  intro n f d h2 h3 h4
  obtain ⟨n,rfl⟩:=ex1 ‹_<n›
  show zEY _ _ _ _ _ _ _=_
  unfold zEY zHY
  rw [e,ex,zP (zM4 (by omega)),zP (zu (by omega)),zP (zu (by omega)),zf (df (by omega)),zP (zu (by omega))]
  rfl
 | succ m ih =>
  intro n f d h2 h3 h4
  obtain ⟨n,rfl⟩:=ex1 ‹_<n›
  show zEY _ _ _ _ _ _ _=_
  unfold zEY
  rw [e,ex,zP (zM4 (by omega)),zP (zu (by omega)),zP (zu (by omega)),zz (dt (by omega)),zP (zAD (by omega))]
  have ed:d.getD (f:Int).toNat false=d.getD f false:=rfl
  unfold zMd
  cases hd:d.getD f false with
  | true=>rw [ed,hd,zz rfl,if_pos rfl]
  | false =>
   rw [ed,hd,zf rfl,if_neg (by simp),zP (zu (by omega)),zYh h4 (by omega)]
   exact ih n (f+1) (d.set f true) (by omega) (by omega) (by rw [List.length_set]; exact h4)
theorem cl3 {se:Int→List Bool→Option Int} (hz:Zk z) (hr:ranges z=true) (hk:k<5) (hl:lst z k=l) (hin:∀ f,f∈l→inside z f k=true):∀ (m n i:Nat) (d:List Bool),i+m=l.length→m<n→d.length=256 →
  zCB se z (k:Int) n (i:Int) d=match zMg k d (l.drop i) with | none=>some 7 | some d'=>se ((k+1:Nat):Int) d':=by
 have hb:l.length≤1000000:=by rw [← hl]; exact hz.bd k
 have e:z.free.getD (k:Int).toNat []=l:=hl
 obtain ⟨e2,p1,p2⟩:=zH6 (k:=k) (by omega)
 have pn:=zMa (k:=k) (by omega)
 intro m
 induction m with
 | zero =>
  intro n i d h1 h2 h3
  obtain ⟨n,rfl⟩:=ex1 ‹_<n›
  show zEL _ _ _ _ _ _=_
  unfold zEL zHg
  rw [e,zf (df (by omega)),zP (zu (by omega)),List.drop_eq_nil_of_le (by omega)]
  rfl
 | succ m ih =>
  intro n i d h1 h2 h3
  obtain ⟨n,rfl⟩:=ex1 ‹_<n›
  have hi:i<l.length:=by omega
  show zEL _ _ _ _ _ _=_
  unfold zEL
  have hbd:=zAU hr (hin _ (List.getElem_mem hi))
  have ha:at_ (lst z k) (i:Int)=l[i]:=by rw [hl]; exact zFW hi
  obtain ⟨f,hf⟩:=Int.eq_ofNat_of_zero_le hbd.1
  rw [e,zz (dt (by omega)),zP (zAD hi),zFW hi,List.drop_eq_getElem_cons hi]
  have hc:=cl4 (se:=zCB se z (k:Int) n) hk ha hbd.1 hbd.2.1 (by omega) (2 ^ k) z5 f d (by omega) (by unfold z5; omega) h3
  unfold zMg
  rw [hf,hc,show ((f:Int)).toNat=f from rfl]
  cases hm:zMd d f (2 ^ k) with
  | none=>rfl
  | some d'=>exact ih n (i+1) d' (by omega) (by omega) (by rw [zN3 hm]; exact h3)
theorem zQc:∀ {l:List Int} {k:Nat} {d d':List Bool},zMg k d l=some d'→d'.length=d.length
 | [],_,_,_,h=>by unfold zMg at h; cases h; rfl
 | x::l,k,d,d',h=>by
  unfold zMg at h
  split at h
  ·cases h
  ·rename_i q hq
   rw [zQc h,zN3 hq]
theorem cl2 (hz:Zk z) (hr:ranges z=true) (hin:∀ k,k<5 → ∀ f,f∈lst z k→inside z f k=true):∀ (m n k:Nat) (d:List Bool),k+m=5→m<n→d.length=256 →
  zBX z n (k:Int) d=match zIF k d (z.free.drop k) with | none=>some 7 | some _=>zES z:=by
 intro m
 induction m with
 | zero =>
  intro n k d h1 h2 h3
  obtain ⟨n,rfl⟩:=ex1 ‹_<n›
  show zEI _ _ _ _=_
  unfold zEI
  rw [zf (df (by omega)),List.drop_eq_nil_of_le (by rw [hz.len]; omega)]
  rfl
 | succ m ih =>
  intro n k d h1 h2 h3
  obtain ⟨n,rfl⟩:=ex1 ‹_<n›
  show zEI _ _ _ _=_
  unfold zEI
  have hb:=hz.bd k
  obtain ⟨a1,a2⟩:=List.getElem?_eq_some_iff.1 (hz.get (k:=k) (by omega))
  rw [zz (dt (by omega)),zP (zAD (by omega)),z0i,cl3 hz hr (by omega) rfl (hin k (by omega)) (lst z k).length z5 0 d (by omega) (by unfold z5; omega) h3,List.drop_eq_getElem_cons a1,a2]
  conv=>rhs; unfold zIF
  rw [List.drop_zero]
  cases hm:zMg k d (lst z k) with
  | none=>rfl
  | some d'=>exact ih n (k+1) d' (by omega) (by omega) (by rw [zQc hm]; exact h3)
theorem cl1 {se:Int→Option Int} (hz:Zk z) (hr:ranges z=true) (hk:k<4) (hl:lst z k=l) (hin:∀ f,f∈l→inside z f k=true) (hs:Srt l):∀ (m n i:Nat),i+m=l.length→m<n →
  zF9 se z (k:Int) n (i:Int)=if zRi z k l (l.drop i)=true then some 11 else se ((k+1:Nat):Int):=by
 have hb:l.length≤1000000:=by rw [← hl]; exact hz.bd k
 have e:z.free.getD (k:Int).toNat []=l:=hl
 obtain ⟨e2,p1,p2⟩:=zH6 (k:=k) (by omega)
 intro m
 induction m with
 | zero =>
  intro n i h1 h2
  obtain ⟨n,rfl⟩:=ex1 ‹_<n›
  show zEQ _ _ _ _ _=_
  unfold zEQ zHj
  rw [e,zf (df (by omega)),zP (zu (by omega)),List.drop_eq_nil_of_le (by omega)]
  rfl
 | succ m ih =>
  intro n i h1 h2
  obtain ⟨n,rfl⟩:=ex1 ‹_<n›
  have hi:i<l.length:=by omega
  show zEQ _ _ _ _ _=_
  unfold zEQ
  have hbd:=zAU hr (hin _ (List.getElem_mem hi))
  rw [e,e2,zz (dt (by omega)),zP (zAD hi),zP (zM4 (by omega)),zP (zu (by omega)),zP (zAD (by omega)),zFW hi,List.drop_eq_getElem_cons hi,zVg hbd.1 (by omega) hk,zQd hs hb,zAw,zP (zNN (zu (by omega)))]
  conv=>rhs; unfold zRi
  show ((cnd (decide (bud l[i] k∈l)) _ _).bind _)=_
  have hie:zBu z (min l[i] (bud l[i] k)) ((k:Int)+1)=some (inside z (min l[i] (bud l[i] k)) (k+1)):=zJs (k:=k+1) hr (by omega)
  rw [hie,zP (zu (by omega))]
  cases hm:decide (bud l[i] k∈l) with
  | false =>
   rw [zf rfl,zAw,Bool.false_and,Bool.false_and,if_neg Bool.false_ne_true]
   exact ih n (i+1) (by omega) (by omega)
  | true =>
   rw [zz rfl,zAw]
   cases hq:inside z (min l[i] (bud l[i] k)) (k+1) with
   | false =>
    rw [Bool.and_false,if_neg Bool.false_ne_true]
    exact ih n (i+1) (by omega) (by omega)
   | true=>rfl
theorem cl0 (hz:Zk z) (hr:ranges z=true) (hin:∀ k,k<5 → ∀ f,f∈lst z k→inside z f k=true) (hs:∀ k,Srt (lst z k)):∀ (m n k:Nat),k+m=4→m<n →
  zCn z n (k:Int)=if zMc z k ((z.free.take 4).drop k)=true then some 11 else some 0:=by
 intro m
 induction m with
 | zero =>
  intro n k h1 h2
  obtain ⟨n,rfl⟩:=ex1 ‹_<n›
  show zEa _ _ _=_
  unfold zEa
  rw [zf (df (by omega)),List.drop_eq_nil_of_le (by rw [List.length_take,hz.len]; omega)]
  rfl
 | succ m ih =>
  intro n k h1 h2
  obtain ⟨n,rfl⟩:=ex1 ‹_<n›
  show zEa _ _ _=_
  unfold zEa
  have hb:=hz.bd k
  obtain ⟨a1,a2⟩:=List.getElem?_eq_some_iff.1 (zMA (hz.get (k:=k) (by omega)) (show k<4 by omega))
  rw [zz (dt (by omega)),zP (zAD (by omega)),z0i,cl1 hz hr (by omega) rfl (hin k (by omega)) (hs k) (lst z k).length z5 0 (by omega) (by unfold z5; omega),List.drop_eq_getElem_cons a1,a2]
  conv=>rhs; unfold zMc
  rw [List.drop_zero]
  by_cases hq:zRi z k (lst z k) (lst z k)=true
  ·rw [if_pos hq,if_pos hq,if_pos rfl]
  ·rw [if_neg hq,if_neg hq]
   exact ih n (k+1) (by omega) (by omega)
theorem zNX (hz:Zk z) (h:zFD z 0 z.free=0) (k:Nat):(∀ f,f∈lst z k→inside z f k=true)∧Srt (lst z k):=by
 rcases Nat.lt_or_ge k 5 with hk | hk
 ·have:=zUo h k _ (hz.get hk)
  rwa [Nat.zero_add] at this
 ·rw [zNP hz.len hk]
  exact ⟨fun f hf=>absurd hf (by simp),Srt.nil⟩
theorem zO3 (hz:Zk z) (hI:inI z.start=true):zDk z=some (zEr z):=by
 unfold zDk zEr
 rw [zQn _ hI,zAw]
 cases hr:ranges z with
 | false=>rfl
 | true =>
  rw [Bool.not_true,zf rfl,if_neg (by simp),z0i,cl5 hz hr 5 z5 0 (by omega) (by unfold z5; omega) rfl]
  show (if zFD z 0 z.free=0 then _ else _)=some (if zFD z 0 z.free=0 then _ else _)
  by_cases h0:zFD z 0 z.free=0
  ·rw [if_pos h0,if_pos h0]
   have hl:=fun k=>zNX hz h0 k
   unfold zF4
   rw [z0i,cl2 hz hr (fun k _=>(hl k).1) 5 z5 0 _ (by omega) (by unfold z5; omega) (by rw [List.length_replicate]),List.drop_zero]
   show (match zIF 0 zFI z.free with | none=>some 7 | some _=>zES z)=_
   cases hm:zIF 0 zFI z.free with
   | none=>rfl
   | some d =>
    rw [if_neg (by simp)]
    show zES z=_
    unfold zES
    rw [z0i,cl0 hz hr (fun k _=>(hl k).1) (fun k=>(hl k).2) 4 z5 0 (by omega) (by unfold z5; omega),List.drop_zero]
    split <;> rfl
  ·rw [if_neg h0,if_neg h0]
end
end Go.Proofs.Ytplkliakhdkpcaa
namespace Go.Proofs.Ytplkliakhdkpcaa
open Go Go.RowKit Go.Wk Go.Am
section
variable {z:zW} {k:Nat} {l:List Int}
theorem zKx {f:Int} (hr:ranges z=true) (hk:k≤4):zCj z f (k:Int)=some (inside z f k):=by
 have hb:=zA4 hr
 have hp:=zGm k
 by_cases h:z.start≤f∧f<z.start+z.count
 ·exact zRq hr hk h.1 h.2
 ·have hin:inside z f k=false:=by
   refine Bool.eq_false_iff.2 fun hi=>h ?_
   have:=zAU hr hi
   omega
  rw [hin]
  unfold zCj
  rw [zP (zNN (zu (by omega)))]
  refine zz ?_
  rw [df (p:=(k:Int)<0) (by omega),df (p:=4<(k:Int)) (by omega)]
  by_cases h1:f<z.start
  ·rw [dt h1]; rfl
  ·rw [df h1,dt (p:=z.start+z.count≤f) (by omega)]; rfl
theorem rl6 {se:Int→Option Int} (hz:Zk z) (hr:ranges z=true) (hk:k<5) (hl:lst z k=l):∀ (m n i:Nat),i+m=l.length→m<n→zKZ z k none l=zKZ z k (zLT l i) (l.drop i) →
  zGy se z (k:Int) n (i:Int)=if zKZ z k none l=0 then se ((k+1:Nat):Int) else some (zKZ z k none l):=by
 have hb:l.length≤1000000:=by rw [← hl]; exact hz.bd k
 have e:z.free.getD (k:Int).toNat []=l:=hl
 intro m
 induction m with
 | zero =>
  intro n i h1 h2 hI
  obtain ⟨n,rfl⟩:=ex1 ‹_<n›
  show zEE _ _ _ _ _=_
  unfold zEE zJB
  rw [e,zP (zAD (by omega)),zf (df (by omega)),zP (zu (by omega)),if_pos (zSK hI (by omega))]
  rfl
 | succ m ih =>
  intro n i h1 h2 hI
  obtain ⟨n,rfl⟩:=ex1 ‹_<n›
  have hi:i<l.length:=by omega
  have hx:=zSR hi
  show zEE _ _ _ _ _=_
  unfold zEE
  rw [e,zP (zAD (by omega)),zz (dt (by omega)),zP (zAD hi),zKx hr (by omega),zAw]
  generalize at_ l (i:Int)=x at *
  cases hin:inside z x k with
  | false =>
   rw [Bool.not_false,zz rfl,zQX hI hx hin]
   rfl
  | true =>
   rw [Bool.not_true,zf rfl]
   by_cases h0:0<i
   ·rw [zP (zNN (zu (by omega))),zQH h0,zP (zNN (zAD (by omega))),dt (p:=0<(i:Int)) (by omega),Bool.true_and]
    have hy:=zSR (l:=l) (i:=i - 1) (by omega)
    have hg:geP (zLT l i) x=decide (x≤at_ l ((i - 1:Nat):Int)):=zYM h0 (by rw [zQH h0,Int.toNat_natCast]; exact hy)
    by_cases hle:x≤at_ l ((i - 1:Nat):Int)
    ·rw [zz (dt hle),zPH hI hx hin (by rw [hg,dt hle])]
     rfl
    ·rw [zf (df hle),zP (zu (by omega))]
     exact ih n (i+1) (by omega) (by omega) (zMX hI hx hin (by rw [hg,df hle]))
   ·rw [df (p:=0<(i:Int)) (by omega)]
    refine (zP (by rfl)).trans ((zP (by rfl)).trans ((zf (by rfl)).trans ?_))
    rw [zP (zu (by omega))]
    exact ih n (i+1) (by omega) (by omega) (zMX hI hx hin (zYd h0))
theorem rl5 (hz:Zk z) (hr:ranges z=true):∀ (m n k:Nat),k+m=5→m<n→zFD z 0 z.free=zFD z k (z.free.drop k) →
  zHC z n (k:Int)=some (zFD z 0 z.free):=by
 intro m
 induction m with
 | zero =>
  intro n k h1 h2 hR
  obtain ⟨n,rfl⟩:=ex1 ‹_<n›
  show zD4 _ _ _=_
  unfold zD4
  rw [zf (df (by omega)),zQS hR (by rw [hz.len]; omega)]
  rfl
 | succ m ih =>
  intro n k h1 h2 hR
  obtain ⟨n,rfl⟩:=ex1 ‹_<n›
  show zD4 _ _ _=_
  unfold zD4
  have hb:=hz.bd k
  have hg:=hz.get (k:=k) (by omega)
  rw [zz (dt (by omega)),z0i,rl6 hz hr (by omega) rfl (lst z k).length z5 0 (by omega) (by unfold z5; omega) rfl]
  by_cases h0:zKZ z k none (lst z k)=0
  ·rw [if_pos h0]
   exact ih n (k+1) (by omega) (by omega) (zOy hR hg h0)
  ·rw [if_neg h0]
   have hc:zFD z 0 z.free=zKZ z k none (lst z k):=by
    obtain ⟨a1,a2⟩:=List.getElem?_eq_some_iff.1 hg
    rw [hR,List.drop_eq_getElem_cons a1,a2]
    unfold zFD
    rw [if_neg h0]
   rw [hc]
def zJc (s:List Int) (i:Nat):Nat→List Int
 | 0=>s
 | n+1=>zJc (s.set i (s.getD i 0+1)) (i+1) n
def zH5 (k:Nat):List Int→List Int→List Int
 | s,[]=>s
 | s,f::r=>zH5 k (zJc s f.toNat (2 ^ k)) r
def zHH:Nat→List Int→List (List Int)→List Int
 | _,s,[]=>s
 | k,s,l::r=>zHH (k+1) (zH5 k s l) r
def zN6 (z:zW):List Int:=zHH 0 (List.replicate 256 0) z.free
theorem zKr:∀ (m i:Nat) (s:List Int),(zJc s i m).length=s.length
 | 0,_,_=>rfl
 | m+1,i,s=>by unfold zJc; rw [zKr,List.length_set]
theorem zIo:∀ (l:List Int) (k:Nat) (s:List Int),(zH5 k s l).length=s.length
 | [],_,_=>rfl
 | x::l,k,s=>by unfold zH5; rw [zIo l,zKr]
theorem zVN (l:List Int) (i g:Nat) (h:i<l.length) (x:Int):(l.set i x).getD g 0=if g=i then x else l.getD g 0:=by
 simp only [List.getD_eq_getElem?_getD,List.getElem?_set]
 by_cases hg:i=g
 ·rw [if_pos hg,if_pos h,if_pos hg.symm]; rfl
 ·rw [if_neg hg,if_neg (fun e=>hg e.symm)]
theorem zK9:∀ (m i:Nat) (s:List Int) (g:Nat),i+m≤s.length→(zJc s i m).getD g 0=if i≤g∧g<i+m then s.getD g 0+1 else s.getD g 0
 | 0,i,s,g,_=>by rw [if_neg (by omega)]; rfl
 | m+1,i,s,g,h=>by
  unfold zJc
  rw [zK9 m (i+1) _ g (by rw [List.length_set]; omega),zVN s i g (by omega)]
  by_cases h2:g=i
  ·subst h2
   rw [if_neg (by omega),if_pos rfl,if_pos (by omega)]
  ·rw [if_neg h2]
   by_cases h1:i+1≤g∧g<i+1+m
   ·rw [if_pos h1,if_pos (by omega)]
   ·rw [if_neg h1,if_neg (by omega)]
theorem sl2 {se:Int→List Int→Option (List Int)} {i:Nat} {x:Int} (hk:k<5) (hx:at_ (lst z k) (i:Int)=x) (hil:i<(lst z k).length) (h0:0≤x) (h1:x+2 ^ k≤256) (hi:i<1000000):∀ (m n f:Nat) (s:List Int),(f:Int)+m=x+2 ^ k→m<n→s.length=256→(∀ g,f≤g→0≤s.getD g 0∧s.getD g 0≤1000000000) →
  zKk se z (k:Int) (i:Int) n (f:Int) s=se ((i+1:Nat):Int) (zJc s f m):=by
 obtain ⟨e,p1,p2⟩:=zH6 (k:=k) (by omega)
 have ex:at_ (z.free.getD (k:Int).toNat []) (i:Int)=x:=hx
 have el:i<(z.free.getD (k:Int).toNat []).length:=hil
 intro m
 induction m with
 | zero =>
  intro n f s h2 h3 h4 h5
  obtain ⟨n,rfl⟩:=ex1 ‹_<n›
  show zHu _ _ _ _ _ _ _=_
  unfold zHu zNA
  rw [e,ex,zP (zAD (by omega)),zP (zAD el),zP (dt (zF3 (by omega) (by omega))),zP (zM4 (by omega)),zP (zu (by omega)),zP (zu (by omega)),zf (df (by omega)),zP (zu (by omega))]
  rfl
 | succ m ih =>
  intro n f s h2 h3 h4 h5
  obtain ⟨n,rfl⟩:=ex1 ‹_<n›
  show zHu _ _ _ _ _ _ _=_
  unfold zHu
  have hf:f<s.length:=by omega
  have ea:at_ s (f:Int)=s.getD f 0:=by rw [zFW hf,List.getD_eq_getElem?_getD,List.getElem?_eq_getElem hf]; rfl
  have hb:=h5 f (Nat.le_refl _)
  rw [e,ex,zP (zAD (by omega)),zP (zAD el),zP (dt (zF3 (by omega) (by omega))),zP (zM4 (by omega)),zP (zu (by omega)),zP (zu (by omega)),zz (dt (by omega)),zP (zAD hf),ea,zP (zu (by omega)),zP (zu (by omega))]
  exact ih n (f+1) (s.set f (s.getD f 0+1)) (by omega) (by omega) (by rw [List.length_set]; exact h4) (fun g hg=>by
   rw [zVN s f g hf,if_neg (by omega)]
   exact h5 g (by omega))
theorem sl1 {se:Int→List Int→Option (List Int)} (hz:Zk z) (hr:ranges z=true) (hk:k<5) (hl:lst z k=l) (hin:∀ f,f∈l→inside z f k=true):∀ (m n i c:Nat) (s:List Int),i+m=l.length→m<n→s.length=256→(∀ g,0≤s.getD g 0∧s.getD g 0≤c)→c+m≤1000000000 →
  zI1 se z (k:Int) n (i:Int) s=se ((k+1:Nat):Int) (zH5 k s (l.drop i)) ∧ ∀ g,0≤(zH5 k s (l.drop i)).getD g 0∧(zH5 k s (l.drop i)).getD g 0≤((c+m:Nat):Int):=by
 have hb:l.length≤1000000:=by rw [← hl]; exact hz.bd k
 have e:z.free.getD (k:Int).toNat []=l:=hl
 obtain ⟨e2,p1,p2⟩:=zH6 (k:=k) (by omega)
 have pn:=zMa (k:=k) (by omega)
 intro m
 induction m with
 | zero =>
  intro n i c s h1 h2 h3 h4 h5
  obtain ⟨n,rfl⟩:=ex1 ‹_<n›
  rw [List.drop_eq_nil_of_le (by omega)]
  refine ⟨?_,h4⟩
  show zHs _ _ _ _ _ _=_
  unfold zHs zNG
  rw [e,zP (zAD (by omega)),zf (df (by omega)),zP (zu (by omega))]
  rfl
 | succ m ih =>
  intro n i c s h1 h2 h3 h4 h5
  obtain ⟨n,rfl⟩:=ex1 ‹_<n›
  have hi:i<l.length:=by omega
  have hbd:=zAU hr (hin _ (List.getElem_mem hi))
  have ha:at_ (lst z k) (i:Int)=l[i]:=by rw [hl]; exact zFW hi
  obtain ⟨f,hf⟩:=Int.eq_ofNat_of_zero_le hbd.1
  rw [List.drop_eq_getElem_cons hi]
  have hbump:zH5 k s (l[i]::l.drop (i+1))=zH5 k (zJc s f (2 ^ k)) (l.drop (i+1)):=by
   show zH5 k (zJc s l[i].toNat (2 ^ k)) (l.drop (i+1))=_
   rw [hf]
   rfl
  rw [hbump]
  have hg:∀ g,0≤(zJc s f (2 ^ k)).getD g 0∧(zJc s f (2 ^ k)).getD g 0≤((c+1:Nat):Int):=fun g=>by
   rw [zK9 _ _ _ _ (by omega)]
   have:=h4 g
   split <;> omega
  obtain ⟨r1,r2⟩:=ih n (i+1) (c+1) (zJc s f (2 ^ k)) (by omega) (by omega) (by rw [zKr]; exact h3) hg (by omega)
  refine ⟨?_,fun g=>by have:=r2 g; omega⟩
  rw [← r1]
  show zHs _ _ _ _ _ _=_
  unfold zHs
  rw [e,zP (zAD (by omega)),zz (dt (by omega)),zP (zAD hi),zFW hi]
  have hc:=sl2 (se:=zI1 se z (k:Int) n) hk ha (by rw [hl]; exact hi) hbd.1 hbd.2.1 (by omega) (2 ^ k) z5 f s (by omega) (by unfold z5; omega) h3 (fun g _=>by have:=h4 g; omega)
  rw [← hf] at hc
  exact hc
theorem sl0 (hz:Zk z) (hr:ranges z=true) (hin:∀ k,k<5 → ∀ f,f∈lst z k→inside z f k=true):∀ (m n k c:Nat) (s:List Int),k+m=5→m<n→s.length=256→(∀ g,0≤s.getD g 0∧s.getD g 0≤c)→c+m*1000000≤1000000000 →
  zI5 z n (k:Int) s=some (zHH k s (z.free.drop k)):=by
 intro m
 induction m with
 | zero =>
  intro n k c s h1 h2 h3 h4 h5
  obtain ⟨n,rfl⟩:=ex1 ‹_<n›
  show zHx _ _ _ _=_
  unfold zHx
  rw [zf (df (by omega)),List.drop_eq_nil_of_le (by rw [hz.len]; omega)]
  rfl
 | succ m ih =>
  intro n k c s h1 h2 h3 h4 h5
  obtain ⟨n,rfl⟩:=ex1 ‹_<n›
  have hb:=hz.bd k
  obtain ⟨a1,a2⟩:=List.getElem?_eq_some_iff.1 (hz.get (k:=k) (by omega))
  obtain ⟨r1,r2⟩:=sl1 (se:=zI5 z n) hz hr (by omega) rfl (hin k (by omega)) (lst z k).length z5 0 c s (by omega) (by unfold z5; omega) h3 h4 (by omega)
  rw [List.drop_zero] at r1 r2
  show zHx _ _ _ _=_
  unfold zHx
  rw [zz (dt (by omega)),z0i,r1,List.drop_eq_getElem_cons a1,a2]
  exact ih n (k+1) (c+(lst z k).length) _ (by omega) (by omega) (by rw [zIo]; exact h3) r2 (by omega)
theorem zQg (hz:Zk z) (hr:ranges z=true) (hin:∀ k,k<5 → ∀ f,f∈lst z k→inside z f k=true):zIf z=some (zN6 z):=by
 unfold zIf
 rw [zP (by rfl),z0i]
 exact sl0 hz hr hin 5 z5 0 0 _ (by omega) (by unfold z5; omega) (by rw [List.length_replicate]; rfl) (fun g=>by
  rw [List.getD_eq_getElem?_getD,List.getElem?_replicate]
  split <;> simp) (by omega)
end
end Go.Proofs.Ytplkliakhdkpcaa
namespace Go.Proofs.Ytplkliakhdkpcaa
open Go Go.RowKit Go.Wk Go.Am
theorem zB8 {α:Type} (l:List α) (i g:Nat) (h:i<l.length) (x d:α):(l.set i x).getD g d=if g=i then x else l.getD g d:=by
 simp only [List.getD_eq_getElem?_getD,List.getElem?_set]
 by_cases hg:i=g
 ·rw [if_pos hg,if_pos h,if_pos hg.symm]; rfl
 ·rw [if_neg hg,if_neg (fun e=>hg e.symm)]
structure MB (d:List Bool) (s:List Int):Prop where
 dl:d.length=256
 sl:s.length=256
 t:∀ g,d.getD g false=true→s.getD g 0=1
 f:∀ g,d.getD g false=false→s.getD g 0=0
section
variable {z:zW} {k:Nat} {l:List Int}
theorem zNi:∀ (m i:Nat) (s:List Int) (g:Nat),s.getD g 0≤(zJc s i m).getD g 0
 | 0,_,_,_=>Int.le_refl _
 | m+1,i,s,g=>by
  unfold zJc
  refine Int.le_trans ?_ (zNi m (i+1) _ g)
  rcases Nat.lt_or_ge i s.length with h | h
  ·rw [zVN s i g h]
   split
   ·rename_i e; rw [e]; omega
   ·omega
  ·rw [List.set_eq_of_length_le h]
   omega
theorem zKN:∀ (l:List Int) (k:Nat) (s:List Int) (g:Nat),s.getD g 0≤(zH5 k s l).getD g 0
 | [],_,_,_=>Int.le_refl _
 | x::l,k,s,g=>by
  unfold zH5
  exact Int.le_trans (zNi _ _ _ _) (zKN l k _ g)
theorem zNl:∀ (ls:List (List Int)) (k:Nat) (s:List Int) (g:Nat),s.getD g 0≤(zHH k s ls).getD g 0
 | [],_,_,_=>Int.le_refl _
 | l::ls,k,s,g=>by
  unfold zHH
  exact Int.le_trans (zKN l k s g) (zNl ls (k+1) _ g)
theorem zZv:∀ (m f:Nat) {d:List Bool} {s:List Int},MB d s→f+m≤256→match zMd d f m with | some d'=>MB d' (zJc s f m) | none => ∃ g,1<(zJc s f m).getD g 0
 | 0,_,_,_,h,_=>h
 | m+1,f,d,s,h,hm=>by
  unfold zMd
  cases hd:d.getD f false with
  | true =>
   rw [if_pos rfl]
   refine ⟨f,?_⟩
   rw [zK9 _ _ _ _ (by rw [h.sl]; exact hm),if_pos (by omega),h.t f hd]
   decide
  | false =>
   rw [if_neg (by simp)]
   unfold zJc
   have hs:=h.sl
   have hl:=h.dl
   refine zZv m (f+1) ⟨by rw [List.length_set]; exact hl,by rw [List.length_set]; exact hs,fun g hg => ?_,fun g hg => ?_⟩ (by omega)
   ·rw [zVN s f g (by omega)]
    rw [zB8 d f g (by omega)] at hg
    by_cases e:g=f
    ·rw [if_pos e,h.f f hd]; rfl
    ·rw [if_neg e]
     rw [if_neg e] at hg
     exact h.t g hg
   ·rw [zB8 d f g (by omega)] at hg
    by_cases e:g=f
    ·rw [if_pos e] at hg; cases hg
    ·rw [if_neg e] at hg
     rw [zVN s f g (by omega),if_neg e]
     exact h.f g hg
theorem zZu (hr:ranges z=true):∀ (l:List Int) {d:List Bool} {s:List Int},(∀ f,f∈l→inside z f k=true)→k<5→MB d s→match zMg k d l with | some d'=>MB d' (zH5 k s l) | none => ∃ g,1<(zH5 k s l).getD g 0
 | [],_,_,_,_,h=>h
 | x::l,d,s,hin,hk,h=>by
  have hbd:=zAU hr (hin x (by simp))
  have pn:=zMa (k:=k) (by omega)
  have hn:=zZv (2 ^ k) x.toNat h (by omega)
  unfold zMg zH5
  cases hm:zMd d x.toNat (2 ^ k) with
  | none =>
   rw [hm] at hn
   obtain ⟨g,hg⟩:=hn
   exact ⟨g,by have:=zKN l k (zJc s x.toNat (2 ^ k)) g; omega⟩
  | some d' =>
   rw [hm] at hn
   exact zZu hr l (fun f hf=>hin f (by simp [hf])) hk hn
theorem zX5 (hr:ranges z=true):∀ (ls:List (List Int)) (k:Nat) {d:List Bool} {s:List Int},k+ls.length=5→(∀ j l,ls[j]?=some l → ∀ f,f∈l→inside z f (k+j)=true)→MB d s→match zIF k d ls with | some d'=>MB d' (zHH k s ls) | none => ∃ g,1<(zHH k s ls).getD g 0
 | [],_,_,_,_,_,h=>h
 | l::ls,k,d,s,hk,hin,h=>by
  have hk':k+(ls.length+1)=5:=hk
  have hn:=zZu hr l (d:=d) (s:=s) (fun f hf=>by have:=hin 0 l rfl f hf; rwa [Nat.add_zero] at this) (by omega) h
  unfold zIF zHH
  cases hm:zMg k d l with
  | none =>
   rw [hm] at hn
   obtain ⟨g,hg⟩:=hn
   exact ⟨g,by have:=zNl ls (k+1) (zH5 k s l) g; omega⟩
  | some d' =>
   rw [hm] at hn
   exact zX5 hr ls (k+1) (by omega) (fun j l' hj f hf=>by
    have:=hin (j+1) l' hj f hf
    rwa [show k+(j+1)=k+1+j by omega] at this) hn
theorem mb0:MB zFI (List.replicate 256 0):=⟨zKP,by rw [List.length_replicate],fun g hg=>by
  unfold zFI at hg
  rw [List.getD_eq_getElem?_getD,List.getElem?_replicate] at hg
  split at hg <;> simp at hg,fun g _=>by
  rw [List.getD_eq_getElem?_getD,List.getElem?_replicate]
  split <;> rfl⟩
theorem zZt (hz:Zk z) (hr:ranges z=true) (hin:∀ k,k<5 → ∀ f,f∈lst z k→inside z f k=true):match zIF 0 zFI z.free with | some d=>MB d (zN6 z) | none => ∃ g,1<(zN6 z).getD g 0 :=
 zX5 hr z.free 0 (by rw [hz.len]) (fun j l hj f hf=>by
  have hj5:j<5:=by rw [← hz.len]; exact (List.getElem?_eq_some_iff.1 hj).1
  rw [hz.get hj5] at hj
  cases hj
  rw [Nat.zero_add]
  exact hin j hj5 f hf) mb0
theorem zPD:∀ (ls:List (List Int)) (k:Nat) (s:List Int),(zHH k s ls).length=s.length
 | [],_,_=>rfl
 | l::ls,k,s=>by unfold zHH; rw [zPD ls,zIo]
theorem zM0:(zN6 z).length=256:=by unfold zN6; rw [zPD,List.length_replicate]
theorem rc2 {x:List Int} (hx:x.length=256):∀ (m n i:Nat),i+m=256→m<n→(∀ g,g<i → ¬ 1<x.getD g 0) →
  ((∃ g,1<x.getD g 0)→zDV z x n (i:Int)=some 7)∧((∀ g,¬ 1<x.getD g 0)→zDV z x n (i:Int)=zHe z):=by
 intro m
 induction m with
 | zero =>
  intro n i h1 h2 h3
  obtain ⟨n,rfl⟩:=ex1 ‹_<n›
  have e:zDV z x (n+1) (i:Int)=zHe z:=by
   show zGF _ _ _ _=_
   unfold zGF
   rw [zf (df (by omega))]
  refine ⟨fun ⟨g,hg⟩ => ?_,fun _=>e⟩
  rcases Nat.lt_or_ge g i with h | h
  ·exact absurd hg (h3 g h)
  ·rw [List.getD_eq_getElem?_getD,List.getElem?_eq_none (by omega)] at hg
   exact absurd hg (by decide)
 | succ m ih =>
  intro n i h1 h2 h3
  obtain ⟨n,rfl⟩:=ex1 ‹_<n›
  have hi:i<x.length:=by omega
  have ea:at_ x (i:Int)=x.getD i 0:=by rw [zFW hi,List.getD_eq_getElem?_getD,List.getElem?_eq_getElem hi]; rfl
  have e:zDV z x (n+1) (i:Int)=cnd (decide (1<x.getD i 0)) (some 7) (zDV z x n ((i+1:Nat):Int)):=by
   show zGF _ _ _ _=_
   unfold zGF
   rw [zz (dt (by omega)),zP (zAD hi),ea,zP (zu (by omega))]
   rfl
  rw [e]
  by_cases h7:1<x.getD i 0
  ·rw [zz (dt h7)]
   exact ⟨fun _=>rfl,fun h=>absurd h7 (h i)⟩
  ·rw [zf (df h7)]
   exact ih n (i+1) (by omega) (by omega) (fun g hg=>by
    by_cases e:g=i
    ·rw [e]; exact h7
    ·exact h3 g (by omega))
def Adj (z:zW) (k:Nat) (l:List Int) (i:Nat):Prop:=0<i∧i<l.length∧at_ l (i:Int)=at_ l ((i - 1:Nat):Int)+2 ^ k∧inside z (at_ l ((i - 1:Nat):Int)) (k+1)=true
theorem zWy (hr:ranges z=true) (hk:k<4) (hin:∀ f,f∈l→inside z f k=true) (hs:Srt l):(∃ i,Adj z k l i)↔zRi z k l l=true:=by
 have hp:=zGm k
 have hps:=zJP k
 have key:∀ r,zRi z k l r=true ↔ ∃ f,f∈r∧bud f k∈l∧inside z (min f (bud f k)) (k+1)=true:=by
  intro r
  induction r with
  | nil=>unfold zRi; simp
  | cons f r ih =>
   unfold zRi
   by_cases h:(decide (bud f k∈l)&&inside z (min f (bud f k)) (k+1))=true
   ·rw [if_pos h]
    simp only [Bool.and_eq_true,decide_eq_true_eq] at h
    exact ⟨fun _=>⟨f,by simp,h.1,h.2⟩,fun _=>rfl⟩
   ·rw [if_neg h,ih]
    simp only [Bool.and_eq_true,decide_eq_true_eq] at h
    constructor
    ·rintro ⟨g,h1,h2⟩; exact ⟨g,by simp [h1],h2⟩
    ·rintro ⟨g,h1,h2,h3⟩
     rcases List.mem_cons.1 h1 with rfl | h1
     ·exact absurd ⟨h2,h3⟩ h
     ·exact ⟨g,h1,h2,h3⟩
 rw [key]
 constructor
 ·rintro ⟨i,h0,hi,he,hq⟩
  have hi':i - 1<l.length:=by omega
  rw [zFW hi,zFW hi'] at he
  rw [zFW hi'] at hq
  have hb:=zAU hr (hin _ (List.getElem_mem hi'))
  have ha:=(zAz hr).1 (hin _ (List.getElem_mem hi'))
  have ha2:=(zAz hr).1 hq
  have hbu:bud l[i - 1] k=l[i - 1]+2 ^ k:=by
   rcases zND hk hb.1 (by omega) ha.2.1 with ⟨_,e⟩ | ⟨e,_⟩
   ·exact e
   ·rw [ha2.2.1] at e; omega
  refine ⟨l[i - 1],List.getElem_mem hi',?_,?_⟩
  ·rw [hbu, ← he]; exact List.getElem_mem hi
  ·rw [hbu,Int.min_eq_left (by omega)]; exact hq
 ·rintro ⟨f,h1,h2,h3⟩
  have main:∀ x,x∈l→x+2 ^ k∈l→inside z x (k+1)=true → ∃ i,Adj z k l i:=by
   intro x hx hy hq
   obtain ⟨p,hp1,rfl⟩:=List.getElem_of_mem hx
   obtain ⟨q,hq1,hq2⟩:=List.getElem_of_mem hy
   have hpq:p<q:=by
    rcases Nat.lt_trichotomy p q with h | h | h
    ·exact h
    ·subst h; omega
    ·have:=zJ9 hs (List.getElem?_eq_getElem hq1) (List.getElem?_eq_getElem hp1) h
     omega
   have hn:p+1<l.length:=by omega
   have hlt:=zJ9 hs (List.getElem?_eq_getElem hp1) (List.getElem?_eq_getElem hn) (by omega)
   have hle:l[p+1]≤l[q]:=by
    by_cases e:p+1=q
    ·subst e; omega
    ·have:=zJ9 hs (List.getElem?_eq_getElem hn) (List.getElem?_eq_getElem hq1) (by omega)
     omega
   have a1:=((zAz hr).1 (hin _ (List.getElem_mem hp1))).2.1
   have a2:=((zAz hr).1 (hin _ (List.getElem_mem hn))).2.1
   have he:l[p+1]=l[p]+2 ^ k:=by
    have hk':k=0∨k=1∨k=2∨k=3:=by omega
    rcases hk' with rfl | rfl | rfl | rfl <;> simp only [pw0,pw1,pw2,pw3] at * <;> omega
   refine ⟨p+1,by omega,hn,?_,?_⟩
   ·rw [zFW hn,show p+1 - 1=p by omega,zFW hp1]; exact he
   ·rw [show p+1 - 1=p by omega,zFW hp1]; exact hq
  have hb:=zAU hr (hin f h1)
  have ha:=(zAz hr).1 (hin f h1)
  rcases zND hk hb.1 (by omega) ha.2.1 with ⟨_,e⟩ | ⟨_,e⟩
  ·rw [e] at h2 h3
   rw [Int.min_eq_left (by omega)] at h3
   exact main f h1 h2 h3
  ·rw [e] at h2 h3
   rw [Int.min_eq_right (by omega)] at h3
   exact main (f - 2 ^ k) h2 (by rw [show f - 2 ^ k+2 ^ k=f by omega]; exact h1) h3
theorem rc1 {se:Int→Option Int} (hz:Zk z) (hr:ranges z=true) (hk:k<4) (hl:lst z k=l) (hin:∀ f,f∈l→inside z f k=true):∀ (m n i:Nat),l.length≤i+m→i≤1000001→m<n→0<i→(∀ j,j<i → ¬ Adj z k l j) →
  ((∃ j,Adj z k l j)→zDZ se z (k:Int) n (i:Int)=some 11)∧((∀ j,¬ Adj z k l j)→zDZ se z (k:Int) n (i:Int)=se ((k+1:Nat):Int)):=by
 have hb:l.length≤1000000:=by rw [← hl]; exact hz.bd k
 have e:z.free.getD (k:Int).toNat []=l:=hl
 obtain ⟨e2,p1,p2⟩:=zH6 (k:=k) (by omega)
 have hend:∀ n i:Nat,l.length≤i→(∀ j,j<i → ¬ Adj z k l j)→((∃ j,Adj z k l j)→zDZ se z (k:Int) (n+1) (i:Int)=some 11)∧((∀ j,¬ Adj z k l j)→zDZ se z (k:Int) (n+1) (i:Int)=se ((k+1:Nat):Int)):=by
  intro n i h1 h4
  refine ⟨fun ⟨j,hj⟩=>absurd hj (h4 j (by have:=hj.2.1; omega)),fun _ => ?_⟩
  show zGL _ _ _ _ _=_
  unfold zGL zLj
  rw [e,zP (zAD (by omega)),zf (df (by omega)),zP (zu (by omega))]
  rfl
 intro m
 induction m with
 | zero =>
  intro n i h1 hi6 h2 h3 h4
  obtain ⟨n,rfl⟩:=ex1 ‹_<n›
  exact hend n i (by omega) h4
 | succ m ih =>
  intro n i h1 hi6 h2 h3 h4
  obtain ⟨n,rfl⟩:=ex1 ‹_<n›
  by_cases hi:i<l.length
  ·have hbd:=zAU hr (hin _ (List.getElem_mem (show i - 1<l.length by omega)))
   have hat:=zFW (l:=l) (i:=i - 1) (by omega)
   have ee:zDZ se z (k:Int) (n+1) (i:Int)=cnd (decide (at_ l (i:Int)=at_ l ((i - 1:Nat):Int)+2 ^ k)&&inside z (at_ l ((i - 1:Nat):Int)) (k+1)) (some 11) (zDZ se z (k:Int) n ((i+1:Nat):Int)):=by
    show zGL _ _ _ _ _=_
    unfold zGL
    have hbl:zCj z (at_ l ((i - 1:Nat):Int)) ((k:Int)+1)=some (inside z (at_ l ((i - 1:Nat):Int)) (k+1)):=zKx (k:=k+1) hr (by omega)
    rw [e,e2,zP (zAD (by omega)),zz (dt (by omega)),zP (zAD hi),zP (zu (by omega)),zQH h3,zP (zAD (by omega)),zP (dt (zF3 (by omega) (by omega))),zP (zM4 (by omega)),zP (zu (by omega)),zP (zu (by rw [hat]; omega)),zP (zNN (zu (by omega))),hbl,zP (zu (by omega))]
    cases decide (at_ l (i:Int)=at_ l ((i - 1:Nat):Int)+2 ^ k) with
    | true=>rfl
    | false=>rfl
   rw [ee]
   by_cases ha:Adj z k l i
   ·rw [dt ha.2.2.1,ha.2.2.2]
    exact ⟨fun _=>rfl,fun h=>absurd ha (h i)⟩
   ·have hf:(decide (at_ l (i:Int)=at_ l ((i - 1:Nat):Int)+2 ^ k)&&inside z (at_ l ((i - 1:Nat):Int)) (k+1))=false:=by
     refine Bool.eq_false_iff.2 fun h=>ha ?_
     simp only [Bool.and_eq_true,decide_eq_true_eq] at h
     exact ⟨h3,hi,h.1,h.2⟩
    rw [zf hf]
    exact ih n (i+1) (by omega) (by omega) (by omega) (by omega) (fun j hj=>by
     by_cases e:j=i
     ·rw [e]; exact ha
     ·exact h4 j (by omega))
  ·exact hend n i (by omega) h4
theorem rc0 (hz:Zk z) (hr:ranges z=true) (hin:∀ k,k<5 → ∀ f,f∈lst z k→inside z f k=true) (hs:∀ k,Srt (lst z k)):∀ (m n k:Nat),k+m=4→m<n →
  zHm z n (k:Int)=if zMc z k ((z.free.take 4).drop k)=true then some 11 else some 0:=by
 intro m
 induction m with
 | zero =>
  intro n k h1 h2
  obtain ⟨n,rfl⟩:=ex1 ‹_<n›
  show zGS _ _ _=_
  unfold zGS
  rw [zf (df (by omega)),List.drop_eq_nil_of_le (by rw [List.length_take,hz.len]; omega)]
  rfl
 | succ m ih =>
  intro n k h1 h2
  obtain ⟨n,rfl⟩:=ex1 ‹_<n›
  show zGS _ _ _=_
  unfold zGS
  have hb:=hz.bd k
  obtain ⟨a1,a2⟩:=List.getElem?_eq_some_iff.1 (zMA (hz.get (k:=k) (by omega)) (show k<4 by omega))
  have hc:=rc1 (se:=zHm z n) hz hr (k:=k) (by omega) rfl (hin k (by omega)) (lst z k).length z5 1 (by omega) (by omega) (by unfold z5; omega) (by omega) (fun j hj h=>by have:=h.1; omega)
  rw [zz (dt (by omega)),List.drop_eq_getElem_cons a1,a2]
  conv=>rhs; unfold zMc
  have hab:=zWy (l:=lst z k) hr (by omega) (hin k (by omega)) (hs k)
  by_cases hq:zRi z k (lst z k) (lst z k)=true
  ·rw [if_pos hq,if_pos rfl]
   exact hc.1 (hab.2 hq)
  ·rw [if_neg hq]
   refine (hc.2 (fun j hj=>hq (hab.1 ⟨j,hj⟩))).trans ?_
   exact ih n (k+1) (by omega) (by omega)
theorem zRy (hz:Zk z):zGb z=some (zEr z):=by
 unfold zGb zEr
 rw [zSn,zAw]
 cases hr:ranges z with
 | false=>rfl
 | true =>
  rw [Bool.not_true,zf rfl,if_neg (by simp)]
  unfold zKt
  rw [z0i,rl5 hz hr 5 z5 0 (by omega) (by unfold z5; omega) rfl,zAw]
  show cnd (!decide (zFD z 0 z.free=0)) _ _=some (if zFD z 0 z.free=0 then _ else _)
  by_cases h0:zFD z 0 z.free=0
  ·rw [dt h0,if_pos h0,Bool.not_true,zf rfl]
   have hl:=fun k=>zNX hz h0 k
   rw [zQg hz hr (fun k _=>(hl k).1),zAw]
   have hm:=zZt hz hr (fun k _=>(hl k).1)
   have hc:=rc2 (z:=z) (zM0 (z:=z)) 256 z5 0 (by omega) (by unfold z5; omega) (fun g hg=>by omega)
   show zDV z (zN6 z) z5 ((0:Nat):Int)=_
   cases hd:zIF 0 zFI z.free with
   | none =>
    rw [hd] at hm
    rw [hc.1 hm]
    rfl
   | some d =>
    rw [hd] at hm
    rw [hc.2 (fun g hg=>by
     cases hb:d.getD g false with
     | true=>have:=hm.t g hb; omega
     | false=>have:=hm.f g hb; omega),if_neg (by simp)]
    unfold zHe
    rw [z0i,rc0 hz hr (fun k _=>(hl k).1) (fun k=>(hl k).2) 4 z5 0 (by omega) (by unfold z5; omega),List.drop_zero]
    split <;> rfl
  ·rw [df h0,if_neg h0]
   rfl
end
end Go.Proofs.Ytplkliakhdkpcaa
namespace Go.Proofs.Ytplkliakhdkpcaa
open Go Go.RowKit Go.Wk Go.Am
def zKu (z:zW) (f:Int):Bool:=decide (zEr z=0)&&inside z f 0&&decide (0<(zN6 z).getD f.toNat 0)
theorem zSV:∀ k:Fin 5, ∀ x:Fin 256,zMk .andNot .i64 (x.val:Int) (2 ^ k.val - 1)=((x.val/2 ^ k.val*2 ^ k.val:Nat):Int):=by decide +kernel
section
variable {z:zW} {k:Nat} {l:List Int}
theorem zFK (hz:Zk z) (h:zEr z=0):ranges z=true∧(∀ k,k<5 → ∀ f,f∈lst z k→inside z f k=true)∧(∀ k,Srt (lst z k)):=by
 have hr:=zFp h
 have hc:zFD z 0 z.free=0:=by
  unfold zEr at h
  rw [if_neg (by rw [hr]; simp)] at h
  by_cases h0:zFD z 0 z.free=0
  ·exact h0
  ·rw [if_neg h0] at h; exact h
 exact ⟨hr,fun k _=>(zNX hz hc k).1,fun k=>(zNX hz hc k).2⟩
theorem zSU (hz:Zk z) (h:zEr z=0) {f:Nat} (hf:f<256):∀ (m n k:Nat),k+m=5→m<n → ∃ r,zB9 z (f:Int) n (k:Int)=some r∧(0≤r.1 ↔ ∃ j,k≤j∧j<5∧((f/2 ^ j*2 ^ j:Nat):Int)∈lst z j):=by
 obtain ⟨hr,hin,hs⟩:=zFK hz h
 intro m
 induction m with
 | zero =>
  intro n k h1 h2
  obtain ⟨n,rfl⟩:=ex1 ‹_<n›
  refine ⟨(-1,0),?_,⟨fun hh=>absurd hh (by decide),fun ⟨j,a,b,_⟩=>by omega⟩⟩
  show zCq _ _ _ _=_
  unfold zCq
  rw [zf (df (by omega))]
  rfl
 | succ m ih =>
  intro n k h1 h2
  obtain ⟨n,rfl⟩:=ex1 ‹_<n›
  obtain ⟨e2,p1,p2⟩:=zH6 (k:=k) (by omega)
  have e:z.free.getD (k:Int).toNat []=lst z k:=rfl
  have ha:=zSV ⟨k,by omega⟩ ⟨f,hf⟩
  simp only at ha
  have ee:zB9 z (f:Int) (n+1) (k:Int)=cnd (decide (((f/2 ^ k*2 ^ k:Nat):Int)∈lst z k)) (some ((k:Int),((f/2 ^ k*2 ^ k:Nat):Int))) (zB9 z (f:Int) n ((k+1:Nat):Int)):=by
   show zCq _ _ _ _=_
   unfold zCq
   rw [zz (dt (by omega)),zP (zM4 (by omega)),e2,zP (zu (by omega)),zP (zu (by omega)),zP (zAD (by omega)),e,ha,zQd (hs k) (hz.bd k),zAw,zP (zu (by omega))]
   rfl
  rw [ee]
  by_cases hm:((f/2 ^ k*2 ^ k:Nat):Int)∈lst z k
  ·rw [zz (dt hm)]
   exact ⟨_,rfl,⟨fun _=>⟨k,Nat.le_refl _,by omega,hm⟩,fun _=>Int.natCast_nonneg k⟩⟩
  ·rw [zf (df hm)]
   obtain ⟨r,r1,r2⟩:=ih n (k+1) (by omega) (by omega)
   refine ⟨r,r1,r2.trans ⟨fun ⟨j,a,b,c⟩=>⟨j,by omega,b,c⟩,fun ⟨j,a,b,c⟩=>⟨j,?_,b,c⟩⟩⟩
   by_cases hjk:j=k
   ·subst hjk; exact absurd c hm
   ·omega
theorem zTm {s:List Int} {i m g:Nat} (h:i+m≤s.length) (hg:0≤s.getD g 0):0<(zJc s i m).getD g 0↔0<s.getD g 0∨(i≤g∧g<i+m):=by
 rw [zK9 _ _ _ _ h]
 split
 ·rename_i hq
  exact ⟨fun _ => .inr hq,fun _=>by omega⟩
 ·rename_i hq
  exact ⟨.inl,fun h=>h.resolve_right hq⟩
theorem zQv (hr:ranges z=true) (hk:k<5) {g:Nat}:∀ (l:List Int) {s:List Int},s.length=256→(∀ f,f∈l→inside z f k=true)→0≤s.getD g 0→(0<(zH5 k s l).getD g 0↔0<s.getD g 0 ∨ ∃ x,x∈l∧x≤(g:Int)∧(g:Int)<x+2 ^ k)
 | [],s,_,_,_=>by unfold zH5; simp
 | x::l,s,hs,hin,h0=>by
  have hbd:=zAU hr (hin x (by simp))
  have pn:=zMa (k:=k) (by omega)
  have hle:=zNi (2 ^ k) x.toNat s g
  unfold zH5
  rw [zQv hr hk l (by rw [zKr]; exact hs) (fun f hf=>hin f (by simp [hf])) (by omega),zTm (by rw [hs]; omega) h0]
  constructor
  ·rintro ((h | h) | ⟨y,h1,h2⟩)
   ·exact .inl h
   ·exact .inr ⟨x,by simp,by omega,by omega⟩
   ·exact .inr ⟨y,by simp [h1],h2⟩
  ·rintro (h | ⟨y,h1,h2,h3⟩)
   ·exact .inl (.inl h)
   ·rcases List.mem_cons.1 h1 with rfl | h1
    ·exact .inl (.inr (by omega))
    ·exact .inr ⟨y,h1,h2,h3⟩
theorem zOz (hr:ranges z=true) {g:Nat}:∀ (ls:List (List Int)) (k:Nat) {s:List Int},k+ls.length=5→s.length=256→(∀ j l,ls[j]?=some l → ∀ f,f∈l→inside z f (k+j)=true)→0≤s.getD g 0 →
  (0<(zHH k s ls).getD g 0↔0<s.getD g 0 ∨ ∃ j l x,ls[j]?=some l∧x∈l∧x≤(g:Int)∧(g:Int)<x+2 ^ (k+j))
 | [],k,s,_,_,_,_=>by unfold zHH; simp
 | l::ls,k,s,hk,hs,hin,h0=>by
  have hk':k+(ls.length+1)=5:=hk
  have hle:=zKN l k s g
  unfold zHH
  rw [zOz hr ls (k+1) (by omega) (by rw [zIo]; exact hs) (fun j l' hj f hf=>by
    have:=hin (j+1) l' hj f hf
    rwa [show k+(j+1)=k+1+j by omega] at this) (by omega),zQv hr (by omega) l hs (fun f hf=>by have:=hin 0 l rfl f hf; rwa [Nat.add_zero] at this) h0]
  constructor
  ·rintro ((h | ⟨x,h1,h2,h3⟩) | ⟨j,l',x,h1,h2,h3,h4⟩)
   ·exact .inl h
   ·exact .inr ⟨0,l,x,rfl,h1,h2,h3⟩
   ·exact .inr ⟨j+1,l',x,h1,h2,h3,by rw [show k+(j+1)=k+1+j by omega]; exact h4⟩
  ·rintro (h | ⟨j,l',x,h1,h2,h3,h4⟩)
   ·exact .inl (.inl h)
   ·cases j with
    | zero =>
     simp at h1
     subst h1
     exact .inl (.inr ⟨x,h2,h3,h4⟩)
    | succ j=>exact .inr ⟨j,l',x,by simpa using h1,h2,h3,by rw [show k+1+j=k+(j+1) by omega]; exact h4⟩
theorem zJH (hz:Zk z) (hr:ranges z=true) (hin:∀ k,k<5 → ∀ f,f∈lst z k→inside z f k=true) (g:Nat):0<(zN6 z).getD g 0↔cov z g:=by
 unfold zN6
 have h0:(List.replicate 256 (0:Int)).getD g 0=0:=by
  rw [List.getD_eq_getElem?_getD,List.getElem?_replicate]
  split <;> rfl
 rw [zOz hr z.free 0 (by rw [hz.len]) (by rw [List.length_replicate]) (fun j l hj f hf=>by
  have hj5:j<5:=by rw [← hz.len]; exact (List.getElem?_eq_some_iff.1 hj).1
  rw [hz.get hj5] at hj
  cases hj
  rw [Nat.zero_add]
  exact hin j hj5 f hf) (by rw [h0]; decide),h0]
 constructor
 ·rintro (h | ⟨j,l,x,h1,h2,h3,h4⟩)
  ·exact absurd h (by decide)
  ·have hj5:j<5:=by rw [← hz.len]; exact (List.getElem?_eq_some_iff.1 h1).1
   rw [hz.get hj5] at h1
   cases h1
   rw [Nat.zero_add] at h4
   exact ⟨j,x,h2,h3,h4⟩
 ·rintro ⟨j,x,h2,h3,h4⟩
  rcases Nat.lt_or_ge j 5 with hj | hj
  ·exact .inr ⟨j,lst z j,x,hz.get hj,h2,h3,by rw [Nat.zero_add]; exact h4⟩
  ·rw [zNP hz.len hj] at h2; exact absurd h2 (by simp)
theorem zNO {f:Nat} {x:Int} (hk:k<5) (h0:0≤x) (ha:x%2 ^ k=0):(x≤(f:Int)∧(f:Int)<x+2 ^ k)↔x=((f/2 ^ k*2 ^ k:Nat):Int):=by
 have hk':k=0∨k=1∨k=2∨k=3∨k=4:=by omega
 rcases hk' with rfl | rfl | rfl | rfl | rfl <;> simp only [pw0,pw1,pw2,pw3,pw4,Nat.reducePow] at * <;> omega
theorem zZN (hz:Zk z) (f:Int):zI7 z f=some (zKu z f):=by
 unfold zI7 zKu
 rw [zRy hz,zAw]
 by_cases h:zEr z=0
 ·obtain ⟨hr,hin,_⟩:=zFK hz h
  have hbl:zCj z f 0=some (inside z f 0):=zKx (k:=0) hr (by omega)
  rw [dt h,zz rfl,hbl,zAw]
  cases hi:inside z f 0 with
  | false=>rfl
  | true =>
   have hb:=zAU hr hi
   rw [pw0] at hb
   obtain ⟨m,rfl⟩:=Int.eq_ofNat_of_zero_le hb.1
   have hm:m<(zN6 z).length:=by rw [zM0]; omega
   rw [Bool.and_true,zz rfl,zQg hz hr hin,zAw,zP (zNN (zAD hm)),zFW hm,Int.toNat_natCast,List.getD_eq_getElem?_getD,List.getElem?_eq_getElem hm]
   rfl
 ·rw [df h]
  rfl
theorem zYz (hz:Zk z) (hI:inI z.start=true) (f:Int):zGd z f=some (zKu z f):=by
 unfold zGd zKu
 rw [zO3 hz hI,zAw]
 by_cases h:zEr z=0
 ·obtain ⟨hr,hin,_⟩:=zFK hz h
  have hie:zBu z f 0=some (inside z f 0):=zJs (k:=0) hr (by omega)
  rw [dt h,Bool.not_true,Bool.not_false,zz rfl,hie,zAw]
  cases hi:inside z f 0 with
  | false=>rfl
  | true =>
   have hb:=zAU hr hi
   rw [pw0] at hb
   obtain ⟨m,rfl⟩:=Int.eq_ofNat_of_zero_le hb.1
   refine (zf (by rfl)).trans ?_
   unfold zFk
   obtain ⟨r,r1,r2⟩:=zSU hz h (f:=m) (by omega) 5 z5 0 (by omega) (by unfold z5; omega)
   rw [z0i,r1,zAw]
   congr 1
   rw [Bool.true_and,Bool.true_and,decide_eq_decide,Int.toNat_natCast]
   refine Iff.trans r2 (Iff.trans ?_ (zJH hz hr hin m).symm)
   constructor
   ·rintro ⟨j,_,hj,hm⟩
    have hbj:=zAU hr (hin j hj _ hm)
    have haj:=(zAz hr).1 (hin j hj _ hm)
    have:=(zNO (f:=m) hj hbj.1 haj.2.1).2 rfl
    exact ⟨j,_,hm,this.1,this.2⟩
   ·rintro ⟨j,x,hx,h1,h2⟩
    rcases Nat.lt_or_ge j 5 with hj | hj
    ·have hbj:=zAU hr (hin j hj _ hx)
     have haj:=(zAz hr).1 (hin j hj _ hx)
     have:=(zNO (f:=m) hj hbj.1 haj.2.1).1 ⟨h1,h2⟩
     exact ⟨j,Nat.zero_le _,hj,this▸hx⟩
    ·rw [zNP hz.len hj] at hx; exact absurd hx (by simp)
 ·rw [df h]
  rfl
def zV1 (z:zW):Int:=zP9 0 z.free
theorem zXK (hk:k<5) {n:Nat} (hn:n≤1000000):0≤(n:Int)*2 ^ k∧(n:Int)*2 ^ k≤16000000:=by
 have hk':k=0∨k=1∨k=2∨k=3∨k=4:=by omega
 rcases hk' with rfl | rfl | rfl | rfl | rfl <;> simp only [pw0,pw1,pw2,pw3,pw4] <;> omega
theorem zWc (hz:Zk z):∀ (m n k:Nat) (acc:Int),k+m=4→m<n→0≤acc∧acc≤k*16000000 → ∃ r,zEn z 4 n acc (k:Int)=some r∧r=acc+zP9 k ((z.free.take 4).drop k)∧0≤r∧r≤64000000:=by
 have hl4:(z.free.take 4).length=4:=by rw [List.length_take,hz.len]; rfl
 have hcut:zFX z.free 0 4=z.free.take 4:=rfl
 intro m
 induction m with
 | zero =>
  intro n k acc h1 h2 h3
  obtain ⟨n,rfl⟩:=ex1 ‹_<n›
  refine ⟨acc,?_,?_,by omega,by omega⟩
  ·show zCk _ _ _ _ _=_
   unfold zCk
   rw [hcut,zf (df (by omega))]
   rfl
  ·rw [List.drop_eq_nil_of_le (by omega)]
   show acc=acc+0
   omega
 | succ m ih =>
  intro n k acc h1 h2 h3
  obtain ⟨n,rfl⟩:=ex1 ‹_<n›
  have hk:k<(z.free.take 4).length:=by omega
  have hg:=zMA (hz.get (k:=k) (by omega)) (show k<4 by omega)
  obtain ⟨a1,a2⟩:=List.getElem?_eq_some_iff.1 hg
  have hb:=zXK (k:=k) (by omega) (hz.bd k)
  obtain ⟨r,r1,r2,r3,r4⟩:=ih n (k+1) (acc+((lst z k).length:Int)*2 ^ k) (by omega) (by omega) (by omega)
  refine ⟨r,?_,?_,r3,r4⟩
  ·rw [← r1]
   show zCk _ _ _ _ _=_
   unfold zCk
   rw [hcut,zz (dt (by omega)),zP (zAD hk),zFW hk,a2,Int.toNat_natCast,zP (zM4 (by omega)),zP (zu (by omega)),zP (zu (by omega)),zP (zu (by omega))]
   rfl
  ·rw [r2,List.drop_eq_getElem_cons a1,a2]
   conv=>rhs; unfold zP9
   omega
theorem zSa:∀ (ls:List (List Int)) (k:Nat) (l:List Int),zP9 k (ls++[l])=zP9 k ls+(l.length:Int)*2 ^ (k+ls.length)
 | [],k,l=>by simp [zP9]
 | a::ls,k,l=>by
  show zP9 k (a::(ls++[l]))=_
  unfold zP9
  rw [zSa ls (k+1) l,show k+1+ls.length=k+(a::ls).length by simp; omega]
  omega
theorem zYK (hz:Zk z) (hI:inI z.start=true) (h:zEr z=0):zIq z=some (zV1 z)∧0≤zV1 z∧zV1 z≤80000000:=by
 have h4:=hz.bd 4
 have hb:=zXK (k:=4) (by omega) h4
 obtain ⟨r,r1,r2,r3,r4⟩:=zWc hz 4 z5 0 0 (by omega) (by unfold z5; omega) (by omega)
 have hfr:z.free=z.free.take 4++[lst z 4]:=by
  match hq:z.free,hz.len with
  | [a,b,c,d,e],_=>unfold lst; rw [hq]; rfl
 have hnum:zV1 z=r+((lst z 4).length:Int)*2 ^ 4:=by
  unfold zV1
  rw [hfr,zSa,r2,List.length_take,hz.len]
  show _=0+zP9 0 (z.free.take 4)+_
  rw [Int.zero_add]
  rfl
 refine ⟨?_,by omega,by omega⟩
 unfold zIq zHZ zLG
 rw [zO3 hz hI,zAw,zAw,dt h]
 refine (congrArg (fun q=>Option.bind q _) ((zf (by rfl)).trans ((zP (by rfl)).trans ((zP (dt hz.len)).trans r1)))).trans ?_
 rw [zAw]
 have e4:(z.free.getD (4:Int).toNat []).length=(lst z 4).length:=rfl
 have e16:(2:Int) ^ (4:Int).toNat=2 ^ 4:=rfl
 rw [e4,e16]
 refine (congrArg (fun q=>Option.bind q _) ((zf (by rfl)).trans (zP (zu (by omega))))).trans ?_
 rw [zAw,zP (zu (by omega)),hnum]
end
end Go.Proofs.Ytplkliakhdkpcaa
namespace Go.Proofs.Ytplkliakhdkpcaa
open Go Go.RowKit Go.Wk Go.Am
structure Ck (c:zK):Prop where
 n:c.lists.length≤1000
 l:∀ x,x∈c.lists→x.length≤1000
def pcR (c:zK) (zn:Int):Int :=
 if zn<1∨6<zn then 1 else if (c.lists.length:Int)=zn then (if c.lists.flatten.all zBw=true then (if c.lists.flatten.Nodup then 0 else 7) else 2) else 3
section
variable {c:zK}
theorem Ck.le (h:Ck c) {i:Nat} (hi:i<c.lists.length):c.lists[i].length≤1000:=h.l _ (List.getElem_mem hi)
theorem zPv {i:Nat} (hi:i<c.lists.length):(c.lists.drop i).flatten=c.lists[i]++(c.lists.drop (i+1)).flatten:=by
 rw [List.drop_eq_getElem_cons hi]
 rfl
theorem zQo {i:Nat} (hi:c.lists.length≤i):(c.lists.drop i).flatten=[]:=by rw [List.drop_eq_nil_of_le hi]; rfl
theorem pl1 {se:Int→Int→Option Int} {acc:Int} {j:Nat} {l:List Int} (hc:Ck c) (hj:j<c.lists.length) (hl:c.lists[j]=l) (h0:0≤acc∧acc≤1000000000):∀ (m n i:Nat),i+m=l.length→m<n →
  zFe se c acc (j:Int) n (i:Int)=if (l.drop i).all zBw=true then se (acc+l.length) ((j+1:Nat):Int) else some 2:=by
 have hb:l.length≤1000:=by rw [← hl]; exact hc.le hj
 have hn:=hc.n
 have e:at_ c.lists (j:Int)=l:=by rw [zFW hj,hl]
 intro m
 induction m with
 | zero =>
  intro n i h1 h2
  obtain ⟨n,rfl⟩:=ex1 ‹_<n›
  show zDo _ _ _ _ _ _=_
  unfold zDo zHA zGt
  rw [e,zf (df (by omega)),zP (zu (by omega)),zP (zu (by omega)),List.drop_eq_nil_of_le (by omega)]
  rfl
 | succ m ih =>
  intro n i h1 h2
  obtain ⟨n,rfl⟩:=ex1 ‹_<n›
  have hi:i<l.length:=by omega
  show zDo _ _ _ _ _ _=_
  unfold zDo
  rw [e,zz (dt (by omega)),zP (zAD hi),zFW hi,List.drop_eq_getElem_cons hi,List.all_cons,zP (zu (by omega))]
  show cnd (!zBw l[i]) _ _=_
  cases hf:zBw l[i] with
  | false=>rfl
  | true=>exact ih n (i+1) (by omega) (by omega)
theorem pl0 (hc:Ck c):∀ (m n i acc:Nat),i+m=c.lists.length→m<n→acc≤i*1000 →
  zBx c n (acc:Int) (i:Int)=if ((c.lists.drop i).flatten).all zBw=true then zFj c ((acc+(c.lists.drop i).flatten.length:Nat):Int) else some 2:=by
 have hn:=hc.n
 intro m
 induction m with
 | zero =>
  intro n i acc h1 h2 h3
  obtain ⟨n,rfl⟩:=ex1 ‹_<n›
  show zDp _ _ _ _=_
  unfold zDp
  rw [zf (df (by omega)),zQo (by omega)]
  rfl
 | succ m ih =>
  intro n i acc h1 h2 h3
  obtain ⟨n,rfl⟩:=ex1 ‹_<n›
  have hi:i<c.lists.length:=by omega
  have hb:=hc.le hi
  show zDp _ _ _ _=_
  unfold zDp
  rw [zz (dt (by omega)),zP (zAD hi),z0i,pl1 hc hi rfl (by omega) c.lists[i].length z5 0 (by omega) (by unfold z5; omega),List.drop_zero,zPv hi,List.all_append,List.length_append]
  cases hf:c.lists[i].all zBw with
  | false=>rfl
  | true =>
   rw [if_pos rfl,Bool.true_and]
   have:=ih n (i+1) (acc+c.lists[i].length) (by omega) (by omega) (by omega)
   rw [show acc+c.lists[i].length+((c.lists.drop (i+1)).flatten).length=acc+(c.lists[i].length+((c.lists.drop (i+1)).flatten).length) by omega] at this
   rw [← this]
   congr 1
def zMn (m:List (Int×Bool)) (l:List Int):List (Int×Bool):=l.foldl (fun q f=>zKa q f true) m
theorem fm1 {se:Int→List (Int×Bool)→Option (List (Int×Bool))} {j:Nat} {l:List Int} (hc:Ck c) (hj:j<c.lists.length) (hl:c.lists[j]=l):∀ (m n i:Nat) (q:List (Int×Bool)),i+m=l.length→m<n →
  zE5 se c (j:Int) n (i:Int) q=se ((j+1:Nat):Int) (zMn q (l.drop i)):=by
 have hb:l.length≤1000:=by rw [← hl]; exact hc.le hj
 have hn:=hc.n
 have e:at_ c.lists (j:Int)=l:=by rw [zFW hj,hl]
 intro m
 induction m with
 | zero =>
  intro n i q h1 h2
  obtain ⟨n,rfl⟩:=ex1 ‹_<n›
  show zDA _ _ _ _ _ _=_
  unfold zDA zGT
  rw [e,zf (df (by omega)),zP (zu (by omega)),List.drop_eq_nil_of_le (by omega)]
  rfl
 | succ m ih =>
  intro n i q h1 h2
  obtain ⟨n,rfl⟩:=ex1 ‹_<n›
  have hi:i<l.length:=by omega
  show zDA _ _ _ _ _ _=_
  unfold zDA
  rw [e,zz (dt (by omega)),zP (zAD hi),zFW hi,List.drop_eq_getElem_cons hi,zP (zu (by omega))]
  exact ih n (i+1) (zKa q l[i] true) (by omega) (by omega)
theorem fm0 (hc:Ck c):∀ (m n i:Nat) (q:List (Int×Bool)),i+m=c.lists.length→m<n→zB1 c n (i:Int) q=some (zMn q (c.lists.drop i).flatten):=by
 have hn:=hc.n
 intro m
 induction m with
 | zero =>
  intro n i q h1 h2
  obtain ⟨n,rfl⟩:=ex1 ‹_<n›
  show zDE _ _ _ _=_
  unfold zDE
  rw [zf (df (by omega)),zQo (by omega)]
  rfl
 | succ m ih =>
  intro n i q h1 h2
  obtain ⟨n,rfl⟩:=ex1 ‹_<n›
  have hi:i<c.lists.length:=by omega
  have hb:=hc.le hi
  show zDE _ _ _ _=_
  unfold zDE
  rw [zz (dt (by omega)),zP (zAD hi),z0i,fm1 hc hi rfl c.lists[i].length z5 0 q (by omega) (by unfold z5; omega),List.drop_zero,zPv hi,ih n (i+1) _ (by omega) (by omega)]
  unfold zMn
  rw [List.foldl_append]
theorem zQi (k:Int):∀ (q:List (Int×Bool)) (x:Int),x∈(zKa q k true).map (·.1)↔x=k∨x∈q.map (·.1)
 | [],x=>by simp [zKa]
 | p::q,x=>by
  unfold zKa
  by_cases h:p.1=k
  ·rw [if_pos h]
   simp [h]
  ·rw [if_neg h]
   simp only [List.map_cons,List.mem_cons,zQi k q x]
   constructor
   ·rintro (h1 | h1 | h1)
    ·exact .inr (.inl h1)
    ·exact .inl h1
    ·exact .inr (.inr h1)
   ·rintro (h1 | h1 | h1)
    ·exact .inr (.inl h1)
    ·exact .inl h1
    ·exact .inr (.inr h1)
theorem zRx (k:Int):∀ (q:List (Int×Bool)),(k∈q.map (·.1)→(zKa q k true).length=q.length)∧(k ∉ q.map (·.1)→(zKa q k true).length=q.length+1)
 | []=>by simp [zKa]
 | p::q=>by
  have ih:=zRx k q
  unfold zKa
  by_cases h:p.1=k
  ·rw [if_pos h]
   exact ⟨fun _=>rfl,fun hn=>absurd (by simp [h]) hn⟩
  ·rw [if_neg h]
   refine ⟨fun hm => ?_,fun hn => ?_⟩
   ·have hm':k∈q.map (·.1):=by
     rcases List.mem_cons.1 hm with e | e
     ·exact absurd e.symm h
     ·exact e
    show (zKa q k true).length+1=q.length+1
    rw [ih.1 hm']
   ·show (zKa q k true).length+1=q.length+1+1
    rw [ih.2 (fun hm=>hn (List.mem_cons_of_mem _ hm))]
theorem zQN:∀ (l:List Int) (q:List (Int×Bool)),(zMn q l).length≤q.length+l.length∧((zMn q l).length=q.length+l.length↔l.Nodup ∧ ∀ x,x∈l→x ∉ q.map (·.1))
 | [],q=>⟨Nat.le_refl _,by simp [zMn]⟩
 | a::l,q=>by
  obtain ⟨h1,h2⟩:=zQN l (zKa q a true)
  have e:zMn q (a::l)=zMn (zKa q a true) l:=rfl
  rw [e]
  have hk:=zQi a q
  have hl:=zRx a q
  by_cases ha:a∈q.map (·.1)
  ·rw [hl.1 ha] at h1 h2
   refine ⟨by simp; omega,⟨fun h=>by simp at h; omega,fun h=>absurd ha (h.2 a (by simp))⟩⟩
  ·rw [hl.2 ha] at h1 h2
   refine ⟨by simp; omega,?_⟩
   rw [show q.length+(a::l).length=q.length+1+l.length by simp; omega,h2,List.nodup_cons]
   constructor
   ·rintro ⟨n1,n2⟩
    refine ⟨⟨fun hm=>n2 a hm ((hk a).2 (.inl rfl)),n1⟩,fun x hx => ?_⟩
    rcases List.mem_cons.1 hx with rfl | hx
    ·exact ha
    ·exact fun hq=>n2 x hx ((hk x).2 (.inr hq))
   ·rintro ⟨⟨n0,n1⟩,n2⟩
    refine ⟨n1,fun x hx hq => ?_⟩
    rcases (hk x).1 hq with rfl | hq
    ·exact n0 hx
    ·exact n2 x (by simp [hx]) hq
theorem zVp (hc:Ck c) {zn:Int}:zGg c zn=some (pcR c zn):=by
 unfold zGg pcR
 by_cases h1:zn<1∨6<zn
 ·rw [if_pos h1]
  refine zz ?_
  rcases h1 with h1 | h1 <;> simp [h1]
 ·have h1a:¬ zn<1:=fun h=>h1 (.inl h)
  have h1b:¬ 6<zn:=fun h=>h1 (.inr h)
  rw [if_neg h1,df h1a,df h1b]
  refine (zf (by rfl)).trans ?_
  by_cases h2:(c.lists.length:Int)=zn
  ·rw [if_pos h2,dt h2]
   refine (zf (by rfl)).trans ?_
   have hp:=pl0 hc c.lists.length z5 0 0 (by omega) (by have:=hc.n; unfold z5; omega) (by omega)
   rw [List.drop_zero,Nat.zero_add] at hp
   refine Eq.trans hp ?_
   cases hf:c.lists.flatten.all zBw with
   | false=>rfl
   | true =>
    rw [if_pos rfl,if_pos rfl]
    unfold zFj zED
    rw [z0i,fm0 hc c.lists.length z5 0 [] (by omega) (by have:=hc.n; unfold z5; omega),zAw,List.drop_zero]
    have hm:=(zQN c.lists.flatten []).2
    simp only [List.length_nil,Nat.zero_add,List.map_nil,List.not_mem_nil,not_false_eq_true,implies_true,and_true] at hm
    by_cases hd:c.lists.flatten.Nodup
    ·rw [if_pos hd,dt (by have:=hm.2 hd; omega)]
     rfl
    ·rw [if_neg hd,df (fun h=>hd (hm.1 (by omega)))]
     rfl
  ·rw [if_neg h2,df h2]
   rfl
def zKA:List Bool→List Int→Option (List Bool)
 | d,[]=>some d
 | d,f::r=>if d.getD f.toNat false=true then none else zKA (d.set f.toNat true) r
theorem zQW:∀ {l:List Int} {d d':List Bool},zKA d l=some d'→d'.length=d.length
 | [],_,_,h=>by unfold zKA at h; cases h; rfl
 | x::l,d,d',h=>by
  unfold zKA at h
  split at h
  ·cases h
  ·rw [zQW h,List.length_set]
theorem zQD:∀ (l r:List Int) (d:List Bool),zKA d (l++r)=(zKA d l).bind fun d'=>zKA d' r
 | [],_,_=>rfl
 | x::l,r,d=>by
  show (if d.getD x.toNat false=true then none else zKA (d.set x.toNat true) (l++r))=(if d.getD x.toNat false=true then none else zKA (d.set x.toNat true) l).bind fun d'=>zKA d' r
  split
  ·rfl
  ·exact zQD l r _
theorem zQu:∀ (l:List Int) (d:List Bool),d.length=256→(∀ f,f∈l→0≤f∧f<256)→(zKA d l≠none↔l.Nodup ∧ ∀ f,f∈l→d.getD f.toNat false=false)
 | [],d,_,_=>by simp [zKA]
 | x::l,d,hd,hin=>by
  have hx:=hin x (by simp)
  unfold zKA
  cases hq:d.getD x.toNat false with
  | true =>
   rw [if_pos rfl]
   exact ⟨fun h=>absurd rfl h,fun h=>by have:=h.2 x (by simp); rw [hq] at this; cases this⟩
  | false =>
   rw [if_neg (by simp),zQu l _ (by rw [List.length_set]; exact hd) (fun f hf=>hin f (by simp [hf])),List.nodup_cons]
   constructor
   ·rintro ⟨h1,h2⟩
    refine ⟨⟨fun hm => ?_,h1⟩,fun f hf => ?_⟩
    ·have:=h2 x hm
     rw [zB8 _ _ _ (by omega),if_pos rfl] at this
     cases this
    ·rcases List.mem_cons.1 hf with rfl | hf
     ·exact hq
     ·have:=h2 f hf
      rw [zB8 _ _ _ (by omega)] at this
      split at this
      ·cases this
      ·exact this
   ·rintro ⟨⟨h0,h1⟩,h2⟩
    refine ⟨h1,fun f hf => ?_⟩
    have hfb:=hin f (by simp [hf])
    rw [zB8 _ _ _ (by omega),if_neg]
    ·exact h2 f (by simp [hf])
    ·intro e
     have:f=x:=by omega
     exact h0 (this▸hf)
theorem ql3 {se:Int→Option Int} {j:Nat} {l:List Int} (hc:Ck c) (hj:j<c.lists.length) (hl:c.lists[j]=l):∀ (m n i:Nat),i+m=l.length→m<n →
  zJe se c (j:Int) n (i:Int)=if (l.drop i).all zBw=true then se ((j+1:Nat):Int) else some 2:=by
 have hb:l.length≤1000:=by rw [← hl]; exact hc.le hj
 have hn:=hc.n
 have e:at_ c.lists (j:Int)=l:=by rw [zFW hj,hl]
 intro m
 induction m with
 | zero =>
  intro n i h1 h2
  obtain ⟨n,rfl⟩:=ex1 ‹_<n›
  show zGH _ _ _ _ _=_
  unfold zGH zLi
  rw [e,zf (df (by omega)),zP (zu (by omega)),List.drop_eq_nil_of_le (by omega)]
  rfl
 | succ m ih =>
  intro n i h1 h2
  obtain ⟨n,rfl⟩:=ex1 ‹_<n›
  have hi:i<l.length:=by omega
  show zGH _ _ _ _ _=_
  unfold zGH
  have ho:zDJ l[i]=some (!zBw l[i]):=by
   unfold zDJ zBw
   congr 1
   rw [Bool.eq_iff_iff]
   simp only [Bool.or_eq_true,decide_eq_true_eq,Bool.not_eq_true',Bool.and_eq_false_iff,decide_eq_false_iff_not]
   omega
  rw [e,zz (dt (by omega)),zP (zAD hi),zFW hi,ho,zAw,List.drop_eq_getElem_cons hi,List.all_cons,zP (zu (by omega))]
  cases hf:zBw l[i] with
  | false=>rfl
  | true=>exact ih n (i+1) (by omega) (by omega)
theorem ql2 (hc:Ck c):∀ (m n i:Nat),i+m=c.lists.length→m<n →
  zJj c n (i:Int)=if ((c.lists.drop i).flatten).all zBw=true then zJG c else some 2:=by
 have hn:=hc.n
 intro m
 induction m with
 | zero =>
  intro n i h1 h2
  obtain ⟨n,rfl⟩:=ex1 ‹_<n›
  show zGP _ _ _=_
  unfold zGP
  rw [zf (df (by omega)),zQo (by omega)]
  rfl
 | succ m ih =>
  intro n i h1 h2
  obtain ⟨n,rfl⟩:=ex1 ‹_<n›
  have hi:i<c.lists.length:=by omega
  have hb:=hc.le hi
  show zGP _ _ _=_
  unfold zGP
  rw [zz (dt (by omega)),zP (zAD hi),z0i,ql3 hc hi rfl c.lists[i].length z5 0 (by omega) (by unfold z5; omega),List.drop_zero,zPv hi,List.all_append]
  cases hf:c.lists[i].all zBw with
  | false=>rfl
  | true =>
   rw [if_pos rfl,Bool.true_and]
   exact ih n (i+1) (by omega) (by omega)
theorem ql1 {se:Int→List Bool→Option Int} {j:Nat} {l:List Int} (hc:Ck c) (hj:j<c.lists.length) (hl:c.lists[j]=l) (hin:∀ f,f∈l→0≤f∧f<256):∀ (m n i:Nat) (d:List Bool),i+m=l.length→m<n→d.length=256 →
  zJQ se c (j:Int) n (i:Int) d=match zKA d (l.drop i) with | none=>some 7 | some d'=>se ((j+1:Nat):Int) d':=by
 have hb:l.length≤1000:=by rw [← hl]; exact hc.le hj
 have hn:=hc.n
 have e:at_ c.lists (j:Int)=l:=by rw [zFW hj,hl]
 intro m
 induction m with
 | zero =>
  intro n i d h1 h2 h3
  obtain ⟨n,rfl⟩:=ex1 ‹_<n›
  show zGB _ _ _ _ _ _=_
  unfold zGB zLX
  rw [e,zf (df (by omega)),zP (zu (by omega)),List.drop_eq_nil_of_le (by omega)]
  rfl
 | succ m ih =>
  intro n i d h1 h2 h3
  obtain ⟨n,rfl⟩:=ex1 ‹_<n›
  have hi:i<l.length:=by omega
  have hf:=hin _ (List.getElem_mem hi)
  obtain ⟨f,hf2⟩:=Int.eq_ofNat_of_zero_le hf.1
  have hfl:f<d.length:=by omega
  show zGB _ _ _ _ _ _=_
  unfold zGB
  have ed:at_ d (f:Int)=d.getD f false:=by rw [zFW hfl,List.getD_eq_getElem?_getD,List.getElem?_eq_getElem hfl]; rfl
  rw [e,zz (dt (by omega)),zP (zAD hi),zFW hi,List.drop_eq_getElem_cons hi,hf2,zP (zAD hfl),ed,zP (zu (by omega)),Int.toNat_natCast]
  unfold zKA
  rw [Int.toNat_natCast]
  cases hd:d.getD f false with
  | true=>rfl
  | false =>
   rw [zf rfl,if_neg (by simp)]
   exact ih n (i+1) (d.set f true) (by omega) (by omega) (by rw [List.length_set]; exact h3)
theorem ql0 (hc:Ck c) (hin:∀ f,f∈c.lists.flatten→0≤f∧f<256):∀ (m n i:Nat) (d:List Bool),i+m=c.lists.length→m<n→d.length=256 →
  zJL c n (i:Int) d=match zKA d (c.lists.drop i).flatten with | none=>some 7 | some _=>some 0:=by
 have hn:=hc.n
 intro m
 induction m with
 | zero =>
  intro n i d h1 h2 h3
  obtain ⟨n,rfl⟩:=ex1 ‹_<n›
  show zGJ _ _ _ _=_
  unfold zGJ
  rw [zf (df (by omega)),zQo (by omega)]
  rfl
 | succ m ih =>
  intro n i d h1 h2 h3
  obtain ⟨n,rfl⟩:=ex1 ‹_<n›
  have hi:i<c.lists.length:=by omega
  have hb:=hc.le hi
  show zGJ _ _ _ _=_
  unfold zGJ
  rw [zz (dt (by omega)),zP (zAD hi),z0i,ql1 hc hi rfl (fun f hf=>hin f (List.mem_flatten.2 ⟨_,List.getElem_mem hi,hf⟩)) c.lists[i].length z5 0 d (by omega) (by unfold z5; omega) h3,List.drop_zero,zPv hi,zQD]
  cases hm:zKA d c.lists[i] with
  | none=>rfl
  | some d'=>exact ih n (i+1) d' (by omega) (by omega) (by rw [zQW hm]; exact h3)
theorem zYt (hc:Ck c) {zn:Int}:zJ7 c zn=some (pcR c zn):=by
 unfold zJ7 pcR
 by_cases h1:zn<1∨6<zn
 ·rw [if_pos h1]
  refine zz ?_
  rcases h1 with h1 | h1 <;> simp [h1]
 ·have h1a:¬ zn<1:=fun h=>h1 (.inl h)
  have h1b:¬ 6<zn:=fun h=>h1 (.inr h)
  rw [if_neg h1,df h1a,df h1b]
  refine (zf (by rfl)).trans ?_
  by_cases h2:(c.lists.length:Int)=zn
  ·rw [if_pos h2,dt h2]
   refine (zf (by rfl)).trans ?_
   have hp:=ql2 hc c.lists.length z5 0 (by omega) (by have:=hc.n; unfold z5; omega)
   rw [List.drop_zero] at hp
   refine Eq.trans hp ?_
   cases hf:c.lists.flatten.all zBw with
   | false=>rfl
   | true =>
    rw [if_pos rfl,if_pos rfl]
    unfold zJG
    have hin:∀ f,f∈c.lists.flatten→0≤f∧f<256:=fun f hm=>by
     have:=List.all_eq_true.1 hf f hm
     unfold zBw at this
     simpa using this
    rw [zP (by rfl),z0i,ql0 hc hin c.lists.length z5 0 _ (by omega) (by have:=hc.n; unfold z5; omega) (by rw [List.length_replicate]; rfl),List.drop_zero]
    have hm:=zQu c.lists.flatten (List.replicate (256:Int).toNat false) (by rw [List.length_replicate]; rfl) hin
    have hz:∀ f:Int,f∈c.lists.flatten→(List.replicate (256:Int).toNat false).getD f.toNat false=false:=fun f _=>by
     rw [List.getD_eq_getElem?_getD,List.getElem?_replicate]
     split <;> rfl
    by_cases hd:c.lists.flatten.Nodup
    ·rw [if_pos hd]
     have:=hm.2 ⟨hd,hz⟩
     cases hq:zKA (List.replicate (256:Int).toNat false) c.lists.flatten with
     | none=>exact absurd hq this
     | some d=>rfl
    ·rw [if_neg hd]
     cases hq:zKA (List.replicate (256:Int).toNat false) c.lists.flatten with
     | none=>rfl
     | some d=>exact absurd (hm.1 (by rw [hq]; simp)).1 hd
  ·rw [if_neg h2,df h2]
   rfl
end
end Go.Proofs.Ytplkliakhdkpcaa
namespace Go.Proofs.Ytplkliakhdkpcaa
open Go Go.RowKit Go.Wk Go.Am
structure Al (a:zH):Prop where
 n:a.nodes.length≤1000
 z:a.zones.length≤1000
 c:a.caches.length≤1000
 zk:∀ z,z∈a.zones→Zk z∧inI z.start=true
 ck:∀ c,c∈a.caches→Ck c
def inZ (z:zW) (f:Int):Bool:=decide (z.start≤f)&&decide (f<z.start+z.count)
def zE:Int→List zW→Int
 | _,[]=>0
 | s,z::r=>if zEr z=0 then (if z.start=s then zE (s+z.count) r else 10) else zEr z
def cE (h zn:Int):List zK→Int
 | []=>0
 | c::r=>if pcR c zn=0 then (if (c.lists.any fun l=>decide (h<(l.length:Int)))=true then 9 else cE h zn r) else pcR c zn
def feL (z:zW):List Bool→List Int→Int×List Bool
 | d,[]=>(0,d)
 | d,f::r=>if inZ z f=true then (if (d.getD f.toNat false||zKu z f)=true then (7,d) else feL z (d.set f.toNat true) r) else (2,d)
def feC:List Bool→List zW→List (List Int)→Int×List Bool
 | d,z::zs,l::ls=>if (feL z d l).1=0 then feC (feL z d l).2 zs ls else feL z d l
 | d,_,_=>(0,d)
def feA (zs:List zW):List Bool→List zK→Int
 | _,[]=>0
 | d,c::cs=>if (feC d zs c.lists).1=0 then feA zs (feC d zs c.lists).2 cs else (feC d zs c.lists).1
def zZF (a:zH):Int :=
 if zU2 a.nodes a.batch a.high (a.zones.length:Int)=true then
  (if zE 0 a.zones=0 then
   (if (a.caches.length:Int)=(a.nodes.length:Int) then
    (if cE a.high (a.zones.length:Int) a.caches=0 then feA a.zones zFI a.caches else cE a.high (a.zones.length:Int) a.caches) else 3)
  else zE 0 a.zones) else 2
section
variable {a:zH}
theorem zAv {α:Type} [Inhabited α] {l:List α} {i:Nat} (h:i<l.length):at_ l (i:Int)∈l:=by rw [zFW h]; exact List.getElem_mem h
theorem zC4 {α:Type} [Inhabited α] {l:List α} {i:Nat} (h:i<l.length):l.drop i=at_ l (i:Int)::l.drop (i+1):=by rw [zFW h]; exact List.drop_eq_getElem_cons h
theorem zl5 (h:Al a):∀ (m n i:Nat) (s:Int),i+m=a.zones.length→m<n→0≤s∧s≤i*256 →
  zEG a n s (i:Int)=if zE s (a.zones.drop i)=0 then zEA a else some (zE s (a.zones.drop i)):=by
 have hz:=h.z
 intro m
 induction m with
 | zero =>
  intro n i s h1 h2 h3
  obtain ⟨n,rfl⟩:=ex1 ‹_<n›
  show zCE _ _ _ _=_
  unfold zCE
  rw [zf (df (by omega)),List.drop_eq_nil_of_le (by omega)]
  rfl
 | succ m ih =>
  intro n i s h1 h2 h3
  obtain ⟨n,rfl⟩:=ex1 ‹_<n›
  have hi:i<a.zones.length:=by omega
  have hk:=h.zk _ (zAv hi)
  show zCE _ _ _ _=_
  unfold zCE
  rw [zz (dt (by omega)),zP (zAD hi),zO3 hk.1 hk.2,zAw,zC4 hi]
  unfold zE
  generalize hz':at_ a.zones (i:Int)=z at *
  by_cases hc:zEr z=0
  ·have hb:=zA4 (zFp hc)
   rw [dt hc,if_pos hc,Bool.not_true,zf rfl]
   by_cases hs:z.start=s
   ·rw [dt hs,if_pos hs,Bool.not_true,zf rfl,zP (zu (by omega)),zP (zu (by omega))]
    exact ih n (i+1) (s+z.count) (by omega) (by omega) (by omega)
   ·rw [df hs,if_neg hs]
    rfl
  ·rw [df hc,if_neg hc,if_neg hc]
   rfl
theorem zUu {l:List (List Int)} {h:Int} {i:Nat} (hi:i<l.length):((l.drop i).any fun q=>decide (h<(q.length:Int)))=(decide (h<((at_ l (i:Int)).length:Int))||(l.drop (i+1)).any fun q=>decide (h<(q.length:Int))):=by
 rw [zC4 hi,List.any_cons]
theorem hl4 {se:Int→Option Int} {c:zK} {j:Nat} (hj:j<a.caches.length) (hc:at_ a.caches (j:Int)=c) (hk:Ck c) (ha:Al a):∀ (m n i:Nat),i+m=c.lists.length→m<n →
  zEB se a (j:Int) n (i:Int)=if ((c.lists.drop i).any fun l=>decide (a.high<(l.length:Int)))=true then some 9 else se ((j+1:Nat):Int):=by
 have hn:=hk.n
 have hcl:=ha.c
 intro m
 induction m with
 | zero =>
  intro n i h1 h2
  obtain ⟨n,rfl⟩:=ex1 ‹_<n›
  show zCT _ _ _ _ _=_
  unfold zCT zFJ
  rw [hc,zf (df (by omega)),zP (zu (by omega)),List.drop_eq_nil_of_le (by omega)]
  rfl
 | succ m ih =>
  intro n i h1 h2
  obtain ⟨n,rfl⟩:=ex1 ‹_<n›
  have hi:i<c.lists.length:=by omega
  show zCT _ _ _ _ _=_
  unfold zCT
  rw [hc,zz (dt (by omega)),zP (zAD hi),zUu hi,zP (zu (by omega))]
  cases decide (a.high<((at_ c.lists (i:Int)).length:Int)) with
  | true=>rfl
  | false=>exact ih n (i+1) (by omega) (by omega)
theorem zXH {c:zK} {zn:Int} (h:pcR c zn=0):(c.lists.length:Int)=zn∧(∀ f,f∈c.lists.flatten→zBw f=true):=by
 unfold pcR at h
 split at h
 ·cases h
 ·split at h
  ·rename_i h2
   split at h
   ·rename_i h3
    exact ⟨h2,fun f hf=>List.all_eq_true.1 h3 f hf⟩
   ·cases h
  ·cases h
theorem hl3 (ha:Al a):∀ (m n i:Nat),i+m=a.caches.length→m<n →
  zBa a n (i:Int)=if cE a.high (a.zones.length:Int) (a.caches.drop i)=0 then zD3 a else some (cE a.high (a.zones.length:Int) (a.caches.drop i)):=by
 have hcl:=ha.c
 intro m
 induction m with
 | zero =>
  intro n i h1 h2
  obtain ⟨n,rfl⟩:=ex1 ‹_<n›
  show zCS _ _ _=_
  unfold zCS
  rw [zf (df (by omega)),List.drop_eq_nil_of_le (by omega)]
  rfl
 | succ m ih =>
  intro n i h1 h2
  obtain ⟨n,rfl⟩:=ex1 ‹_<n›
  have hi:i<a.caches.length:=by omega
  have hk:=ha.ck _ (zAv hi)
  show zCS _ _ _=_
  unfold zCS
  rw [zz (dt (by omega)),zP (zAD hi),zVp hk,zAw,zC4 hi]
  unfold cE
  by_cases h0:pcR (at_ a.caches (i:Int)) (a.zones.length:Int)=0
  ·rw [dt h0,if_pos h0,Bool.not_true,zf rfl,z0i,hl4 hi rfl hk ha _ z5 0 (Nat.zero_add _) (by have:=hk.n; unfold z5; omega),List.drop_zero]
   cases hq:((at_ a.caches (i:Int)).lists.any fun l=>decide (a.high<(l.length:Int))) with
   | true=>rfl
   | false =>
    rw [if_neg Bool.false_ne_true,if_neg Bool.false_ne_true]
    exact ih n (i+1) (by omega) (by omega)
  ·rw [df h0,if_neg h0,if_neg h0]
   rfl
def zIx (f:Int):List zW→Nat→Int
 | [],_ => -1
 | z::r,i=>if inZ z f=true then (i:Int) else zIx f r (i+1)
theorem zUH (f:Int):∀ (zs:List zW) (i:Nat),zIx f zs i = -1∨((i:Int)≤zIx f zs i∧zIx f zs i<((i+zs.length:Nat):Int))
 | [],_ => .inl rfl
 | z::r,i=>by
  unfold zIx
  split
  ·exact .inr ⟨Int.le_refl _,by simp; omega⟩
  ·rcases zUH f r (i+1) with h | h
   ·exact .inl h
   ·exact .inr ⟨by omega,by simp; omega⟩
def zT4 (zs:List zW):Prop:=zs.Pairwise fun x y => ∀ f,inZ x f=true→inZ y f=false
theorem zO1 (f:Int):∀ (zs:List zW) (i p:Nat) (hp:p<zs.length),zT4 zs→(zIx f zs i=((i+p:Nat):Int)↔inZ zs[p] f=true)
 | [],_,_,hp,_=>absurd hp (by simp)
 | z::r,i,p,hp,ha=>by
  have ha':=List.pairwise_cons.1 ha
  unfold zIx
  cases p with
  | zero =>
   show _↔inZ z f=true
   by_cases h:inZ z f=true
   ·rw [if_pos h]; simp [h]
   ·rw [if_neg h]
    refine ⟨fun e => ?_,fun e=>absurd e h⟩
    rcases zUH f r (i+1) with h1 | h1 <;> omega
  | succ p =>
   have hp':p<r.length:=by simpa using hp
   show _↔inZ r[p] f=true
   by_cases h:inZ z f=true
   ·rw [if_pos h,ha'.1 _ (List.getElem_mem hp') f h]
    refine ⟨fun e=>by omega,fun e=>by cases e⟩
   ·rw [if_neg h,show i+(p+1)=i+1+p by omega]
    exact zO1 f r (i+1) p hp' ha'.2
theorem zSv:∀ {zs:List zW} {s:Int},zE s zs=0→(∀ z,z∈zs→zEr z=0∧s≤z.start)∧zT4 zs
 | [],_,_=>⟨fun z hz=>absurd hz (by simp),List.Pairwise.nil⟩
 | z::r,s,h=>by
  unfold zE at h
  by_cases hc:zEr z=0
  ·rw [if_pos hc] at h
   by_cases hs:z.start=s
   ·rw [if_pos hs] at h
    have hb:=zA4 (zFp hc)
    obtain ⟨h1,h2⟩:=zSv h
    refine ⟨fun y hy => ?_,List.pairwise_cons.2 ⟨fun y hy f hf => ?_,h2⟩⟩
    ·rcases List.mem_cons.1 hy with rfl | hy
     ·exact ⟨hc,by omega⟩
     ·have:=h1 y hy
      exact ⟨this.1,by omega⟩
    ·have:=(h1 y hy).2
     unfold inZ at hf ⊢
     simp only [Bool.and_eq_true,decide_eq_true_eq] at hf
     rw [df (by omega)]
     rfl
   ·rw [if_neg hs] at h; cases h
  ·rw [if_neg hc] at h; exact absurd h hc
theorem zXJ {f:Int} (ha:Al a) (hv:∀ z,z∈a.zones→zEr z=0):∀ (m n i:Nat),i+m=a.zones.length→m<n →
  zAq a.zones (fun y=>zC8 y f) n (i:Int)=some (zIx f (a.zones.drop i) i):=by
 have hzl:=ha.z
 intro m
 induction m with
 | zero =>
  intro n i h1 h2
  obtain ⟨n,rfl⟩:=ex1 ‹_<n›
  show zAK _ _ _ _=_
  unfold zAK
  rw [zf (df (by omega)),List.drop_eq_nil_of_le (by omega)]
  rfl
 | succ m ih =>
  intro n i h1 h2
  obtain ⟨n,rfl⟩:=ex1 ‹_<n›
  have hi:i<a.zones.length:=by omega
  have hb:=zA4 (zFp (hv _ (zAv hi)))
  show zAK _ _ _ _=_
  unfold zAK
  have hz1:zC8 (at_ a.zones (i:Int)) f=some (inZ (at_ a.zones (i:Int)) f):=by
   unfold zC8
   rw [zP (zNN (zu (by omega)))]
   rfl
  rw [zz (dt (by omega)),zP (zAD hi)]
  show ((zC8 (at_ a.zones (i:Int)) f).bind _)=_
  rw [hz1,zAw,zC4 hi,zP (zu (by omega))]
  unfold zIx
  cases inZ (at_ a.zones (i:Int)) f with
  | true=>rfl
  | false=>exact ih n (i+1) (by omega) (by omega)
theorem zX0 {f:Int} (ha:Al a) (hv:∀ z,z∈a.zones→zEr z=0):zCA a f=some (zIx f a.zones 0):=by
 unfold zCA zBO
 have:=zXJ (f:=f) ha hv a.zones.length z5 0 (by omega) (by have:=ha.z; unfold z5; omega)
 rw [List.drop_zero] at this
 rw [z0i,this]
 rfl
theorem zMy (z:zW):∀ (l:List Int) (d:List Bool),(feL z d l).2.length=d.length
 | [],_=>rfl
 | f::l,d=>by
  unfold feL
  split
  ·split
   ·rfl
   ·rw [zMy z l,List.length_set]
  ·rfl
theorem zRO:∀ (zs:List zW) (ls:List (List Int)) (d:List Bool),(feC d zs ls).2.length=d.length
 | [],_,_=>by unfold feC; rfl
 | _::_,[],_=>by unfold feC; rfl
 | z::zs,l::ls,d=>by
  unfold feC
  split
  ·rw [zRO zs ls,zMy]
  ·exact zMy z l d
def SM (q:List (Int×Bool)) (d:List Bool):Prop := ∀ f:Nat,f<256→zMB false q (f:Int)=d.getD f false
theorem zNY (k f:Int):∀ (q:List (Int×Bool)),zMB false (zKa q k true) f=if f=k then true else zMB false q f
 | []=>by
  unfold zKa zMB
  by_cases h:f=k
  ·rw [if_pos h,h]; simp
  ·rw [if_neg h]
   have:¬ k=f:=fun e=>h e.symm
   simp [this]
 | p::q=>by
  have ih:=zNY k f q
  unfold zKa
  by_cases hp:p.1=k
  ·rw [if_pos hp]
   unfold zMB
   by_cases h:f=k
   ·rw [if_pos h,h]; simp
   ·rw [if_neg h]
    have h1:¬ k=f:=fun e=>h e.symm
    have h2:¬ p.1=f:=fun e=>h (by rw [← e,hp])
    simp [h1,h2]
  ·rw [if_neg hp]
   by_cases h2:p.1=f
   ·have h1:¬ f=k:=fun e=>hp (by rw [h2,e])
    rw [if_neg h1]
    unfold zMB
    simp [h2]
   ·have e1:∀ r:List (Int×Bool),zMB false (p::r) f=zMB false r f:=fun r=>by unfold zMB; simp [h2]
    rw [e1,e1,ih]
theorem SM.set {q:List (Int×Bool)} {d:List Bool} {k:Nat} (h:SM q d) (hd:d.length=256) (hk:k<256):SM (zKa q (k:Int) true) (d.set k true):=by
 intro f hf
 rw [zNY,zB8 _ _ _ (by omega),h f hf]
 by_cases e:f=k
 ·rw [if_pos e,if_pos (by omega)]
 ·rw [if_neg e,if_neg (by omega)]
theorem zNB {z:zW} {f:Int} (hr:ranges z=true) (h:inZ z f=true):0≤f∧f<256:=by
 have hb:=zA4 hr
 unfold inZ at h
 simp only [Bool.and_eq_true,decide_eq_true_eq] at h
 omega
theorem zaB {α:Type} {b c:Bool} {x y:Option α}:(cnd (!b) (some c) (some default)).bind (fun q=>cnd (b||q) x y)=cnd (b||c) x y:=by
 cases b <;> rfl
theorem el2 {se:Int→List (Int×Bool)→Option Int} {c:zK} {j p:Nat} {z:zW} {l:List Int} (ha:Al a) (hv:∀ z,z∈a.zones→zEr z=0) (hap:zT4 a.zones) (hj:j<a.caches.length) (hc:at_ a.caches (j:Int)=c) (hp:p<c.lists.length) (hpz:p<a.zones.length) (hz:at_ a.zones (p:Int)=z) (hl:at_ c.lists (p:Int)=l) (hll:l.length≤1000) (hpb:p≤1000) :
  ∀ (m n i:Nat) (q:List (Int×Bool)) (d:List Bool),i+m=l.length→m<n→d.length=256→SM q d → ∃ q',SM q' (feL z d (l.drop i)).2 ∧
   zBs se a (j:Int) (p:Int) n (i:Int) q=if (feL z d (l.drop i)).1=0 then se ((p+1:Nat):Int) q' else some (feL z d (l.drop i)).1:=by
 have hkz:=ha.zk z (hz▸zAv hpz)
 have hcz:=hv z (hz▸zAv hpz)
 intro m
 induction m with
 | zero =>
  intro n i q d h1 h2 h3 h4
  obtain ⟨n,rfl⟩:=ex1 ‹_<n›
  rw [List.drop_eq_nil_of_le (by omega)]
  refine ⟨q,h4,?_⟩
  show zCW _ _ _ _ _ _ _=_
  unfold zCW zFS
  rw [hc,hl,zf (df (by omega)),zP (zu (by omega))]
  rfl
 | succ m ih =>
  intro n i q d h1 h2 h3 h4
  obtain ⟨n,rfl⟩:=ex1 ‹_<n›
  have hi:i<l.length:=by omega
  have hx:=zO1 (at_ l (i:Int)) a.zones 0 p hpz hap
  rw [← zFW hpz,hz,Nat.zero_add] at hx
  have ee:zBs se a (j:Int) (p:Int) (n+1) (i:Int) q=cnd (!decide (zIx (at_ l (i:Int)) a.zones 0=(p:Int))) (some 2) (cnd (zMB false q (at_ l (i:Int))||zKu z (at_ l (i:Int))) (some 7) (zBs se a (j:Int) (p:Int) n ((i+1:Nat):Int) (zKa q (at_ l (i:Int)) true))):=by
   show zCW _ _ _ _ _ _ _=_
   unfold zCW
   rw [hc,hl,zz (dt (by omega)),zP (zAD hi),zX0 ha hv,zAw,zP (zNN (zAD hpz)),hz,zYz hkz.1 hkz.2,zaB,zP (zu (by omega))]
   rfl
  rw [ee,zC4 hi]
  unfold feL
  generalize at_ l (i:Int)=f at *
  cases hq:inZ z f with
  | false =>
   rw [df (fun e=>by rw [hx.1 e] at hq; cases hq)]
   exact ⟨q,h4,rfl⟩
  | true =>
   have hf:=zNB (zFp hcz) hq
   obtain ⟨g,rfl⟩:=Int.eq_ofNat_of_zero_le hf.1
   rw [dt (hx.2 hq),Bool.not_true,zf rfl,if_pos rfl,h4 g (by omega),Int.toNat_natCast]
   cases hr:(d.getD g false||zKu z (g:Int)) with
   | true=>exact ⟨q,h4,rfl⟩
   | false =>
    rw [zf rfl,if_neg Bool.false_ne_true]
    exact ih n (i+1) _ _ (by omega) (by omega) (by rw [List.length_set]; exact h3) (h4.set h3 (by omega))
theorem el1 {se:Int→List (Int×Bool)→Option Int} {c:zK} {j:Nat} (ha:Al a) (hv:∀ z,z∈a.zones→zEr z=0) (hap:zT4 a.zones) (hj:j<a.caches.length) (hc:at_ a.caches (j:Int)=c) (hlen:c.lists.length=a.zones.length) :
  ∀ (m n p:Nat) (q:List (Int×Bool)) (d:List Bool),p+m=c.lists.length→m<n→d.length=256→SM q d → ∃ q',SM q' (feC d (a.zones.drop p) (c.lists.drop p)).2 ∧
   zA1 se a (j:Int) n (p:Int) q=if (feC d (a.zones.drop p) (c.lists.drop p)).1=0 then se ((j+1:Nat):Int) q' else some (feC d (a.zones.drop p) (c.lists.drop p)).1:=by
 have hcl:=ha.c
 have hck:=ha.ck c (hc▸zAv hj)
 have hn:=hck.n
 intro m
 induction m with
 | zero =>
  intro n p q d h1 h2 h3 h4
  obtain ⟨n,rfl⟩:=ex1 ‹_<n›
  rw [List.drop_eq_nil_of_le (show a.zones.length≤p by omega)]
  unfold feC
  refine ⟨q,h4,?_⟩
  show zCY _ _ _ _ _ _=_
  unfold zCY zFT
  rw [hc,zf (df (by omega)),zP (zu (by omega))]
  rfl
 | succ m ih =>
  intro n p q d h1 h2 h3 h4
  obtain ⟨n,rfl⟩:=ex1 ‹_<n›
  have hp:p<c.lists.length:=by omega
  have hpz:p<a.zones.length:=by omega
  have hll:=hck.l _ (zAv hp)
  obtain ⟨q1,s1,s2⟩:=el2 (se:=zA1 se a (j:Int) n) ha hv hap hj hc hp hpz rfl rfl hll (by omega) _ z5 0 q d (Nat.zero_add _) (by unfold z5; omega) h3 h4
  rw [List.drop_zero] at s1 s2
  have ee:zA1 se a (j:Int) (n+1) (p:Int) q=zBs (zA1 se a (j:Int) n) a (j:Int) (p:Int) z5 ((0:Nat):Int) q:=by
   show zCY _ _ _ _ _ _=_
   unfold zCY
   rw [hc,zz (dt (by omega)),zP (zAD hp)]
   rfl
  rw [ee,s2,zC4 hp,zC4 hpz]
  unfold feC
  by_cases h0:(feL (at_ a.zones (p:Int)) d (at_ c.lists (p:Int))).1=0
  ·rw [if_pos h0,if_pos h0]
   exact ih n (p+1) q1 _ (by omega) (by omega) (by rw [zMy]; exact h3) s1
  ·rw [if_neg h0,if_neg h0]
   exact ⟨q1,s1,(if_neg h0).symm⟩
theorem el0 (ha:Al a) (hv:∀ z,z∈a.zones→zEr z=0) (hap:zT4 a.zones) (hlen:∀ c,c∈a.caches→c.lists.length=a.zones.length) :
  ∀ (m n j:Nat) (q:List (Int×Bool)) (d:List Bool),j+m=a.caches.length→m<n→d.length=256→SM q d→zAg a n (j:Int) q=some (feA a.zones d (a.caches.drop j)):=by
 have hcl:=ha.c
 intro m
 induction m with
 | zero =>
  intro n j q d h1 h2 h3 h4
  obtain ⟨n,rfl⟩:=ex1 ‹_<n›
  show zCJ _ _ _ _=_
  unfold zCJ
  rw [zf (df (by omega)),List.drop_eq_nil_of_le (by omega)]
  rfl
 | succ m ih =>
  intro n j q d h1 h2 h3 h4
  obtain ⟨n,rfl⟩:=ex1 ‹_<n›
  have hj:j<a.caches.length:=by omega
  have hl:=hlen _ (zAv hj)
  obtain ⟨q1,s1,s2⟩:=el1 (se:=zAg a n) ha hv hap hj rfl hl _ z5 0 q d (Nat.zero_add _) (by have:=(ha.ck _ (zAv hj)).n; unfold z5; omega) h3 h4
  rw [List.drop_zero,List.drop_zero] at s1 s2
  show zCJ _ _ _ _=_
  unfold zCJ
  rw [zz (dt (by omega)),zP (zAD hj),z0i,s2,zC4 hj]
  unfold feA
  by_cases h0:(feC d a.zones (at_ a.caches (j:Int)).lists).1=0
  ·rw [if_pos h0,if_pos h0]
   exact ih n (j+1) q1 _ (by omega) (by omega) (by rw [zRO]; exact h3) s1
  ·rw [if_neg h0,if_neg h0]
theorem zV3:∀ {cs:List zK} {h zn:Int},cE h zn cs=0 → ∀ c,c∈cs→(c.lists.length:Int)=zn
 | [],_,_,_,_,hc=>absurd hc (by simp)
 | c::cs,h,zn,he,x,hx=>by
  unfold cE at he
  by_cases h0:pcR c zn=0
  ·rw [if_pos h0] at he
   split at he
   ·cases he
   ·rcases List.mem_cons.1 hx with rfl | hx
    ·exact (zXH h0).1
    ·exact zV3 he x hx
  ·rw [if_neg h0] at he; exact absurd he h0
theorem zY7 (ha:Al a):zAm a=some (zZF a):=by
 have h1:=ha.n
 have h2:=ha.z
 have h3:=ha.c
 unfold zAm zZF
 rw [zPI (by omega),zAw]
 cases zU2 a.nodes a.batch a.high (a.zones.length:Int) with
 | false=>rfl
 | true =>
  have hz:=zl5 ha a.zones.length z5 0 0 (by omega) (by unfold z5; omega) (by omega)
  rw [List.drop_zero] at hz
  rw [Bool.not_true,zf rfl,if_pos rfl]
  refine Eq.trans hz ?_
  by_cases h0:zE 0 a.zones=0
  ·rw [if_pos h0,if_pos h0]
   obtain ⟨z1,z2⟩:=zSv h0
   unfold zEA
   by_cases hl:(a.caches.length:Int)=(a.nodes.length:Int)
   ·rw [dt hl,if_pos hl,Bool.not_true,zf rfl,z0i,hl3 ha a.caches.length z5 0 (by omega) (by unfold z5; omega),List.drop_zero]
    show (if cE a.high (a.zones.length:Int) a.caches=0 then _ else _)=some (if cE a.high (a.zones.length:Int) a.caches=0 then _ else _)
    by_cases hc:cE a.high (a.zones.length:Int) a.caches=0
    ·rw [if_pos hc,if_pos hc]
     unfold zD3
     rw [z0i,el0 ha (fun z hz=>(z1 z hz).1) z2 (fun c hm=>by have:=zV3 hc c hm; omega) a.caches.length z5 0 [] zFI (by omega) (by unfold z5; omega) zKP (fun f hf=>by
      unfold zFI zMB
      rw [List.getD_eq_getElem?_getD,List.getElem?_replicate,if_pos hf]
      rfl),List.drop_zero]
    ·rw [if_neg hc,if_neg hc]
   ·rw [df hl,if_neg hl]
    rfl
  ·rw [if_neg h0,if_neg h0]
end
end Go.Proofs.Ytplkliakhdkpcaa
namespace Go.Proofs.Ytplkliakhdkpcaa
open Go Go.RowKit Go.Wk Go.Am
section
variable {a:zH}
structure Va (a:zH):Prop where
 al:Al a
 z:zE 0 a.zones=0
 len:∀ c,c∈a.caches→c.lists.length=a.zones.length
 z1:1≤a.zones.length
theorem Va.chk (h:Va a) {z:zW} (hz:z∈a.zones):zEr z=0:=((zSv h.z).1 z hz).1
theorem zWV {f:Int} {l:List Int} (hl:l.length≤1000):∀ (m n i:Nat),i+m=l.length→m<n → ∃ r,zBH l f n (i:Int)=some r∧(0≤r↔f∈l.drop i):=by
 intro m
 induction m with
 | zero =>
  intro n i h1 h2
  obtain ⟨n,rfl⟩:=ex1 ‹_<n›
  refine ⟨-1,?_,?_⟩
  ·show zBF _ _ _ _=_
   unfold zBF
   rw [zf (df (by omega))]
   rfl
  ·rw [List.drop_eq_nil_of_le (by omega)]
   simp
 | succ m ih =>
  intro n i h1 h2
  obtain ⟨n,rfl⟩:=ex1 ‹_<n›
  have hi:i<l.length:=by omega
  have ee:zBH l f (n+1) (i:Int)=cnd (decide (f=at_ l (i:Int))) (some (i:Int)) (zBH l f n ((i+1:Nat):Int)):=by
   show zBF _ _ _ _=_
   unfold zBF
   rw [zz (dt (by omega)),zP (zAD hi),zP (zu (by omega))]
   rfl
  rw [ee,zC4 hi]
  by_cases h:f=at_ l (i:Int)
  ·rw [zz (dt h)]
   exact ⟨_,rfl,⟨fun _=>by rw [h]; simp,fun _=>Int.natCast_nonneg i⟩⟩
  ·rw [zf (df h)]
   obtain ⟨r,r1,r2⟩:=ih n (i+1) (by omega) (by omega)
   exact ⟨r,r1,by rw [r2,List.mem_cons]; exact ⟨.inr,fun q=>q.resolve_left h⟩⟩
theorem contains {f:Int} {l:List Int} (hl:l.length≤1000):zB4 l f=some (decide (f∈l)):=by
 unfold zB4 zEH
 obtain ⟨r,r1,r2⟩:=zWV (f:=f) hl l.length z5 0 (by omega) (by unfold z5; omega)
 rw [List.drop_zero] at r2
 rw [z0i,r1,zAw]
 congr 1
 rw [decide_eq_decide]
 exact r2
theorem zTC (h:Va a) {f:Int} {p:Nat} (hp:p<a.zones.length):∀ (m n j:Nat),j+m=a.caches.length→m<n → ∃ r,zw a.caches (fun y=>zAp y (p:Int) f) n (j:Int)=some r∧(0≤r ↔ ∃ c,c∈a.caches.drop j∧f∈at_ c.lists (p:Int)):=by
 have hcl:=h.al.c
 intro m
 induction m with
 | zero =>
  intro n j h1 h2
  obtain ⟨n,rfl⟩:=ex1 ‹_<n›
  refine ⟨-1,?_,?_⟩
  ·show zj _ _ _ _=_
   unfold zj
   rw [zf (df (by omega))]
   rfl
  ·rw [List.drop_eq_nil_of_le (by omega)]
   simp
 | succ m ih =>
  intro n j h1 h2
  obtain ⟨n,rfl⟩:=ex1 ‹_<n›
  have hj:j<a.caches.length:=by omega
  have hl:=h.len _ (zAv hj)
  have hb:=(h.al.ck _ (zAv hj)).l _ (zAv (show p<(at_ a.caches (j:Int)).lists.length by omega))
  have h1c:zAp (at_ a.caches (j:Int)) (p:Int) f=some (decide (f∈at_ (at_ a.caches (j:Int)).lists (p:Int))):=by
   unfold zAp
   rw [zP (zAD (by omega)),contains hb]
   rfl
  have ee:zw a.caches (fun y=>zAp y (p:Int) f) (n+1) (j:Int)=cnd (decide (f∈at_ (at_ a.caches (j:Int)).lists (p:Int))) (some (j:Int)) (zw a.caches (fun y=>zAp y (p:Int) f) n ((j+1:Nat):Int)):=by
   show zj _ _ _ _=_
   unfold zj
   rw [zz (dt (by omega)),zP (zAD hj)]
   show ((zAp (at_ a.caches (j:Int)) (p:Int) f).bind _)=_
   rw [h1c,zAw,zP (zu (by omega))]
   rfl
  rw [ee,zC4 hj]
  by_cases hm:f∈at_ (at_ a.caches (j:Int)).lists (p:Int)
  ·rw [zz (dt hm)]
   exact ⟨_,rfl,⟨fun _=>⟨_,by simp,hm⟩,fun _=>Int.natCast_nonneg j⟩⟩
  ·rw [zf (df hm)]
   obtain ⟨r,r1,r2⟩:=ih n (j+1) (by omega) (by omega)
   refine ⟨r,r1,r2.trans ⟨fun ⟨c,c1,c2⟩=>⟨c,by simp [c1],c2⟩,fun ⟨c,c1,c2⟩ => ?_⟩⟩
   rcases List.mem_cons.1 c1 with rfl | c1
   ·exact absurd c2 hm
   ·exact ⟨c,c1,c2⟩
theorem zYx {se:Int→Option Int} {f:Int} {p j:Nat} {l:List Int} (h:Va a) (hp:p<a.zones.length) (hj:j<a.caches.length) (hl:at_ (at_ a.caches (j:Int)).lists (p:Int)=l):∀ (m n i:Nat),i+m=l.length→m<n →
  (f∈l.drop i→zDj se a (p:Int) f (j:Int) n (i:Int)=some (j:Int))∧(f ∉ l.drop i→zDj se a (p:Int) f (j:Int) n (i:Int)=se ((j+1:Nat):Int)):=by
 have hcl:=h.al.c
 have hlen:=h.len _ (zAv hj)
 have hb:=(h.al.ck _ (zAv hj)).l _ (zAv (show p<(at_ a.caches (j:Int)).lists.length by omega))
 rw [hl] at hb
 intro m
 induction m with
 | zero =>
  intro n i h1 h2
  obtain ⟨n,rfl⟩:=ex1 ‹_<n›
  rw [List.drop_eq_nil_of_le (by omega)]
  refine ⟨fun hm=>absurd hm (by simp),fun _ => ?_⟩
  show zFg _ _ _ _ _ _ _=_
  unfold zFg zK5
  rw [hl,zP (zAD hj),zP (zAD (by omega)),zf (df (by omega)),zP (zu (by omega))]
  rfl
 | succ m ih =>
  intro n i h1 h2
  obtain ⟨n,rfl⟩:=ex1 ‹_<n›
  have hi:i<l.length:=by omega
  have ee:zDj se a (p:Int) f (j:Int) (n+1) (i:Int)=cnd (decide (at_ l (i:Int)=f)) (some (j:Int)) (zDj se a (p:Int) f (j:Int) n ((i+1:Nat):Int)):=by
   show zFg _ _ _ _ _ _ _=_
   unfold zFg
   rw [hl,zP (zAD hj),zP (zAD (by omega)),zz (dt (by omega)),zP (zAD hi),zP (zu (by omega))]
   rfl
  rw [ee,zC4 hi]
  by_cases hq:at_ l (i:Int)=f
  ·rw [zz (dt hq)]
   exact ⟨fun _=>rfl,fun hn=>absurd (by rw [hq]; simp) hn⟩
  ·rw [zf (df hq)]
   obtain ⟨r1,r2⟩:=ih n (i+1) (by omega) (by omega)
   refine ⟨fun hm=>r1 ?_,fun hn=>r2 (fun hm=>hn (by simp [hm]))⟩
   rcases List.mem_cons.1 hm with e | e
   ·exact absurd e.symm hq
   ·exact e
theorem zUZ (h:Va a) {f:Int} {p:Nat} (hp:p<a.zones.length):∀ (m n j:Nat),j+m=a.caches.length→m<n → ∃ r,zCw a (p:Int) f n (j:Int)=some r∧(0≤r ↔ ∃ c,c∈a.caches.drop j∧f∈at_ c.lists (p:Int)):=by
 have hcl:=h.al.c
 intro m
 induction m with
 | zero =>
  intro n j h1 h2
  obtain ⟨n,rfl⟩:=ex1 ‹_<n›
  refine ⟨-1,?_,?_⟩
  ·show zCM _ _ _ _ _=_
   unfold zCM
   rw [zf (df (by omega))]
   rfl
  ·rw [List.drop_eq_nil_of_le (by omega)]
   simp
 | succ m ih =>
  intro n j h1 h2
  obtain ⟨n,rfl⟩:=ex1 ‹_<n›
  have hj:j<a.caches.length:=by omega
  have hlen:=h.len _ (zAv hj)
  have hb:=(h.al.ck _ (zAv hj)).l _ (zAv (show p<(at_ a.caches (j:Int)).lists.length by omega))
  obtain ⟨i1,i2⟩:=zYx (se:=zCw a (p:Int) f n) (f:=f) h hp hj rfl _ z5 0 (Nat.zero_add _) (by unfold z5; omega)
  rw [List.drop_zero] at i1 i2
  have ee:zCw a (p:Int) f (n+1) (j:Int)=zDj (zCw a (p:Int) f n) a (p:Int) f (j:Int) z5 ((0:Nat):Int):=by
   show zCM _ _ _ _ _=_
   unfold zCM
   rw [zz (dt (by omega))]
   rfl
  rw [ee,zC4 hj]
  by_cases hm:f∈at_ (at_ a.caches (j:Int)).lists (p:Int)
  ·rw [i1 hm]
   exact ⟨_,rfl,⟨fun _=>⟨_,by simp,hm⟩,fun _=>Int.natCast_nonneg j⟩⟩
  ·rw [i2 hm]
   obtain ⟨r,r1,r2⟩:=ih n (j+1) (by omega) (by omega)
   refine ⟨r,r1,r2.trans ⟨fun ⟨c,c1,c2⟩=>⟨c,by simp [c1],c2⟩,fun ⟨c,c1,c2⟩ => ?_⟩⟩
   rcases List.mem_cons.1 c1 with rfl | c1
   ·exact absurd c2 hm
   ·exact ⟨c,c1,c2⟩
end
end Go.Proofs.Ytplkliakhdkpcaa
namespace Go.Proofs.Ytplkliakhdkpcaa
open Go Go.RowKit Go.Wk Go.Am
section
variable {z:zW} {k:Nat} {l:List Int}
theorem zN2 (hr:ranges z=true) (hk:k<5) {g:Nat}:∀ (l:List Int) {s:List Int},s.length=256→(∀ f,f∈l→inside z f k=true) → ∀ x,x∈l→x≤(g:Int)→(g:Int)<x+2 ^ k→s.getD g 0+1≤(zH5 k s l).getD g 0
 | [],_,_,_,_,hx,_,_=>absurd hx (by simp)
 | y::l,s,hs,hin,x,hx,h1,h2=>by
  have hbd:=zAU hr (hin y (by simp))
  have pn:=zMa (k:=k) (by omega)
  have hg:=zK9 (2 ^ k) y.toNat s g (by rw [hs]; omega)
  unfold zH5
  rcases List.mem_cons.1 hx with rfl | hx
  ·rw [if_pos (by omega)] at hg
   have:=zKN l k (zJc s x.toNat (2 ^ k)) g
   omega
  ·have hge:=zNi (2 ^ k) y.toNat s g
   have:=zN2 hr hk l (s:=zJc s y.toNat (2 ^ k)) (by rw [zKr]; exact hs) (fun f hf=>hin f (by simp [hf])) x hx h1 h2
   omega
theorem zO0 (hr:ranges z=true) {g:Nat}:∀ (ls:List (List Int)) (k:Nat) {s:List Int},k+ls.length=5→s.length=256→(∀ j l,ls[j]?=some l → ∀ f,f∈l→inside z f (k+j)=true) → ∀ j l x,ls[j]?=some l→x∈l→x≤(g:Int)→(g:Int)<x+2 ^ (k+j)→s.getD g 0+1≤(zHH k s ls).getD g 0
 | [],_,_,_,_,_,_,_,_,hj,_,_,_=>absurd hj (by simp)
 | l0::ls,k,s,hk,hs,hin,j,l,x,hj,hx,h1,h2=>by
  have hk':k+(ls.length+1)=5:=hk
  unfold zHH
  cases j with
  | zero =>
   simp at hj
   subst hj
   have:=zN2 (k:=k) hr (by omega) l0 hs (fun f hf=>by have:=hin 0 l0 rfl f hf; rwa [Nat.add_zero] at this) x hx h1 h2
   have:=zNl ls (k+1) (zH5 k s l0) g
   omega
  | succ j =>
   have hge:=zKN l0 k s g
   have:=zO0 hr ls (k+1) (s:=zH5 k s l0) (by omega) (by rw [zIo]; exact hs) (fun j' l' hj' f hf=>by
    have:=hin (j'+1) l' hj' f hf
    rwa [show k+(j'+1)=k+1+j' by omega] at this) j l x (by simpa using hj) hx h1 (by rw [show k+1+j=k+(j+1) by omega]; exact h2)
   omega
theorem zO4 (hr:ranges z=true) {g:Nat}:∀ (ls:List (List Int)) (k:Nat) {s:List Int},k+ls.length=5→s.length=256→(∀ j l,ls[j]?=some l → ∀ f,f∈l→inside z f (k+j)=true) → ∀ i j l m x y,i<j→ls[i]?=some l→ls[j]?=some m→x∈l→y∈m→x≤(g:Int)→(g:Int)<x+2 ^ (k+i)→y≤(g:Int)→(g:Int)<y+2 ^ (k+j)→s.getD g 0+2≤(zHH k s ls).getD g 0
 | [],_,_,_,_,_,_,_,_,_,_,_,_,hi,_,_,_,_,_,_,_=>absurd hi (by simp)
 | l0::ls,k,s,hk,hs,hin,i,j,l,m,x,y,hij,hi,hj,hx,hy,h1,h2,h3,h4=>by
  have hk':k+(ls.length+1)=5:=hk
  have hin':∀ j' l',ls[j']?=some l' → ∀ f,f∈l'→inside z f (k+1+j')=true:=fun j' l' hj' f hf=>by
   have:=hin (j'+1) l' hj' f hf
   rwa [show k+(j'+1)=k+1+j' by omega] at this
  unfold zHH
  obtain ⟨j,rfl⟩:∃ q,j=q+1:=⟨j - 1,by omega⟩
  have hj':ls[j]?=some m:=by simpa using hj
  cases i with
  | zero =>
   simp at hi
   subst hi
   have a1:=zN2 (k:=k) hr (by omega) l0 hs (fun f hf=>by have:=hin 0 l0 rfl f hf; rwa [Nat.add_zero] at this) x hx h1 h2
   have a2:=zO0 hr ls (k+1) (s:=zH5 k s l0) (by omega) (by rw [zIo]; exact hs) hin' j m y hj' hy h3 (by rw [show k+1+j=k+(j+1) by omega]; exact h4)
   omega
  | succ i =>
   have hge:=zKN l0 k s g
   have:=zO4 hr ls (k+1) (s:=zH5 k s l0) (by omega) (by rw [zIo]; exact hs) hin' i j l m x y (by omega) (by simpa using hi) hj' hx hy h1 (by rw [show k+1+i=k+(i+1) by omega]; exact h2) h3 (by rw [show k+1+j=k+(j+1) by omega]; exact h4)
   omega
theorem zPz (l0:List Int):∀ r:List Int,zRi z k l0 r=true ↔ ∃ f,f∈r∧bud f k∈l0∧inside z (min f (bud f k)) (k+1)=true
 | []=>by unfold zRi; simp
 | f::r=>by
  unfold zRi
  by_cases h:(decide (bud f k∈l0)&&inside z (min f (bud f k)) (k+1))=true
  ·rw [if_pos h]
   simp only [Bool.and_eq_true,decide_eq_true_eq] at h
   exact ⟨fun _=>⟨f,by simp,h.1,h.2⟩,fun _=>rfl⟩
  ·rw [if_neg h,zPz l0 r]
   simp only [Bool.and_eq_true,decide_eq_true_eq] at h
   constructor
   ·rintro ⟨g,h1,h2⟩; exact ⟨g,by simp [h1],h2⟩
   ·rintro ⟨g,h1,h2,h3⟩
    rcases List.mem_cons.1 h1 with rfl | h1
    ·exact absurd ⟨h2,h3⟩ h
    ·exact ⟨g,h1,h2,h3⟩
theorem zSW:∀ (ls:List (List Int)) (k:Nat),zMc z k ls=false → ∀ j l,ls[j]?=some l→zRi z (k+j) l l=false
 | [],_,_,_,_,hj=>absurd hj (by simp)
 | l0::ls,k,h,j,l,hj=>by
  unfold zMc at h
  split at h
  ·cases h
  ·rename_i h0
   cases j with
   | zero =>
    simp at hj
    subst hj
    exact Bool.eq_false_iff.2 h0
   | succ j =>
    have:=zSW ls (k+1) h j l (by simpa using hj)
    rwa [show k+1+j=k+(j+1) by omega] at this
theorem zKE (hz:Zk z) (h:zEr z=0):OkZ z ∧ ∀ g:Nat,(zN6 z).getD g 0=0∨(zN6 z).getD g 0=1:=by
 obtain ⟨hr,hin,hs⟩:=zFK hz h
 have hm:=zZt hz hr hin
 have hc:zFD z 0 z.free=0 ∧ ¬ zIF 0 zFI z.free=none∧zMc z 0 (z.free.take 4)=false:=by
  have h':=h
  unfold zEr at h'
  rw [if_neg (by rw [hr]; simp)] at h'
  by_cases h0:zFD z 0 z.free=0
  ·rw [if_pos h0] at h'
   by_cases h1:zIF 0 zFI z.free=none
   ·rw [if_pos h1] at h'; cases h'
   ·rw [if_neg h1] at h'
    by_cases h2:zMc z 0 (z.free.take 4)=true
    ·rw [if_pos h2] at h'; cases h'
    ·exact ⟨h0,h1,Bool.eq_false_iff.2 h2⟩
  ·rw [if_neg h0] at h'; exact absurd h' h0
 have h01:∀ g:Nat,(zN6 z).getD g 0=0∨(zN6 z).getD g 0=1:=by
  cases hd:zIF 0 zFI z.free with
  | none=>exact absurd hd hc.2.1
  | some d =>
   rw [hd] at hm
   intro g
   cases hb:d.getD g false with
   | true=>exact .inr (hm.t g hb)
   | false=>exact .inl (hm.f g hb)
 have hin':∀ j l,z.free[j]?=some l → ∀ f,f∈l→inside z f (0+j)=true:=fun j l hj f hf=>by
  have hj5:j<5:=by rw [← hz.len]; exact (List.getElem?_eq_some_iff.1 hj).1
  rw [hz.get hj5] at hj
  cases hj
  rw [Nat.zero_add]
  exact hin j hj5 f hf
 have lt5:∀ {k x},x∈lst z k→k<5:=fun {k x} hx=>by
  rcases Nat.lt_or_ge k 5 with hk | hk
  ·exact hk
  ·rw [zNP hz.len hk] at hx; exact absurd hx (by simp)
 have two:∀ k j x y f,k<j→x∈lst z k→y∈lst z j→x≤f→f<x+2 ^ k→y≤f→f<y+2 ^ j→False:=by
  intro k j x y f hkj hx hy h1 h2 h3 h4
  have hb:=zAU hr (hin k (lt5 hx) x hx)
  obtain ⟨g,rfl⟩:=Int.eq_ofNat_of_zero_le (show 0≤f by omega)
  have:=zO4 hr (g:=g) z.free 0 (s:=List.replicate 256 0) (by rw [hz.len]) (by rw [List.length_replicate]) hin' k j _ _ x y hkj (hz.get (lt5 hx)) (hz.get (lt5 hy)) hx hy h1 (by rw [Nat.zero_add]; exact h2) h3 (by rw [Nat.zero_add]; exact h4)
  have h0:(List.replicate 256 (0:Int)).getD g 0=0:=by
   rw [List.getD_eq_getElem?_getD,List.getElem?_replicate]
   split <;> rfl
  rw [h0] at this
  have hc2:(zN6 z).getD g 0=(zHH 0 (List.replicate 256 0) z.free).getD g 0:=rfl
  rcases h01 g with e | e <;> omega
 refine ⟨⟨hr,hz.len,hs,fun k x hx=>hin k (lt5 hx) x hx,fun k x j y f hx hy h1 h2 h3 h4 => ?_,fun k x hk hx hb => ?_⟩,h01⟩
 ·rcases Nat.lt_trichotomy k j with hkj | hkj | hkj
  ·exact (two k j x y f hkj hx hy h1 h2 h3 h4).elim
  ·subst hkj
   have b1:=zAU hr (hin k (lt5 hx) x hx)
   have b2:=zAU hr (hin k (lt5 hy) y hy)
   obtain ⟨g,rfl⟩:=Int.eq_ofNat_of_zero_le (show 0≤f by omega)
   have e1:=(zNO (f:=g) (lt5 hx) b1.1 ((zAz hr).1 (hin k (lt5 hx) x hx)).2.1).1 ⟨h1,h2⟩
   have e2:=(zNO (f:=g) (lt5 hy) b2.1 ((zAz hr).1 (hin k (lt5 hy) y hy)).2.1).1 ⟨h3,h4⟩
   exact ⟨rfl,by omega⟩
  ·exact (two j k y x f hkj hy hx h3 h4 h1 h2).elim
 ·have hn:=zSW (z.free.take 4) 0 hc.2.2 k _ (zMA (hz.get (k:=k) (by omega)) hk)
  rw [Nat.zero_add] at hn
  refine Bool.eq_false_iff.2 fun hi => ?_
  have:=(zPz (z:=z) (k:=k) (lst z k) (lst z k)).2 ⟨x,hx,hb,hi⟩
  rw [hn] at this
  cases this
theorem zME (h:l.length≤1000000):zAu l=some l:=by
 unfold zAu
 rw [zP (dt (by show (0+_)*8≤_; omega))]
theorem zRV (hz:Zk z):∀ (m n i:Nat),i+m=5→m<n→zF7 z n (i:Int) z.free=some z:=by
 intro m
 induction m with
 | zero =>
  intro n i h1 h2
  obtain ⟨n,rfl⟩:=ex1 ‹_<n›
  show zEU _ _ _ _=_
  unfold zEU zHi
  rw [zf (df (by omega)),zP (dt (by omega))]
 | succ m ih =>
  intro n i h1 h2
  obtain ⟨n,rfl⟩:=ex1 ‹_<n›
  have hlen:=hz.len
  have e:z.free.getD (i:Int).toNat []=lst z i:=rfl
  have e3:zDY 5 [] z.free (i:Int).toNat (lst z i)=z.free:=by
   rw [zJb hlen (by omega)]
   exact zJ8 (by omega)
  show zEU _ _ _ _=_
  unfold zEU
  rw [zz (dt (by omega)),zP (zAD (by omega)),e,zME (hz.bd i),zAw,zP (zu (by omega)),e3]
  exact ih n (i+1) (by omega) (by omega)
theorem zUa (hz:Zk z):zHO z=some z:=zRV hz 5 z5 0 (by omega) (by unfold z5; omega)
theorem zWr (hz:Zk z) (h:zEr z=0) {m:Nat} (hm:m<256):∃ r,zFk z (m:Int)=some r∧(0≤r.1↔cov z m):=by
 obtain ⟨hr,hin,_⟩:=zFK hz h
 obtain ⟨r,r1,r2⟩:=zSU hz h hm 5 z5 0 (by omega) (by unfold z5; omega)
 refine ⟨r,r1,r2.trans ?_⟩
 constructor
 ·rintro ⟨j,_,hj,hm⟩
  have hbj:=zAU hr (hin j hj _ hm)
  have haj:=(zAz hr).1 (hin j hj _ hm)
  have:=(zNO (f:=m) hj hbj.1 haj.2.1).2 rfl
  exact ⟨j,_,hm,this.1,this.2⟩
 ·rintro ⟨j,x,hx,h1,h2⟩
  rcases Nat.lt_or_ge j 5 with hj | hj
  ·have hbj:=zAU hr (hin j hj _ hx)
   have haj:=(zAz hr).1 (hin j hj _ hx)
   have:=(zNO (f:=m) hj hbj.1 haj.2.1).1 ⟨h1,h2⟩
   exact ⟨j,Nat.zero_le _,hj,this▸hx⟩
  ·rw [zNP hz.len hj] at hx; exact absurd hx (by simp)
theorem zWN (hz:Zk z) (h:zEr z=0) {f:Int} (hk:k≤4) (hi:inside z f k=true) (hn:∀ g,f≤g→g<f+2 ^ k → ¬ cov z g):∀ (m n i:Nat),(i:Int)+m=f+2 ^ k→m<n→f≤i →
  zG3 z f (k:Int) n (i:Int)=some (zOW (4 - k) z f k,0):=by
 obtain ⟨hr,hin,_⟩:=zFK hz h
 have hb:=zAU hr hi
 obtain ⟨e,p1,p2⟩:=zH6 (k:=k) (by omega)
 intro m
 induction m with
 | zero =>
  intro n i h1 h2 h3
  obtain ⟨n,rfl⟩:=ex1 ‹_<n›
  show zEx _ _ _ _ _=_
  unfold zEx zIM
  rw [e,zP (zM4 (by omega)),zP (zu (by omega)),zP (zu (by omega)),zf (df (by omega)),zUa hz,zAw]
  show ((zIi z f (k:Int)).bind _)=_
  rw [zV2 (zKE hz h).1.putI hk hb.1 (by omega),zAw]
 | succ m ih =>
  intro n i h1 h2 h3
  obtain ⟨n,rfl⟩:=ex1 ‹_<n›
  obtain ⟨r,r1,r2⟩:=zWr hz h (m:=i) (by omega)
  show zEx _ _ _ _ _=_
  unfold zEx
  rw [e,zP (zM4 (by omega)),zP (zu (by omega)),zP (zu (by omega)),zz (dt (by omega)),r1,zAw,zf (df (fun hq=>hn i h3 (by omega) (r2.1 hq))),zP (zu (by omega))]
  exact ih n (i+1) (by omega) (by omega) (by omega)
theorem zVc (hz:Zk z) (hI:inI z.start=true) (h:zEr z=0) {f:Int} (hk:k≤4) (hi:inside z f k=true) (hn:∀ g,f≤g→g<f+2 ^ k → ¬ cov z g):zIX z f (k:Int)=some (zOW (4 - k) z f k,0):=by
 obtain ⟨hr,hin,_⟩:=zFK hz h
 have hb:=zAU hr hi
 obtain ⟨e,p1,p2⟩:=zH6 (k:=k) (by omega)
 have pn:=zMa (k:=k) (by omega)
 obtain ⟨m,rfl⟩:=Int.eq_ofNat_of_zero_le hb.1
 unfold zIX
 rw [zO3 hz hI,zAw,dt h,Bool.not_true,zf rfl,df (p:=(k:Int)<0) (by omega),df (p:=4<(k:Int)) (by omega),zJs hr (by omega),hi]
 refine (congrArg (fun q=>Option.bind q _) (zz (by rfl))).trans ?_
 rw [zAw]
 refine (zf (by rfl)).trans ?_
 exact zWN hz h hk hi hn (2 ^ k) z5 m (by omega) (by unfold z5; omega) (by omega)
theorem zXn (hz:Zk z) (h:zEr z=0) {f:Int} (hk:k≤4) (hi:inside z f k=true) (hn:∀ g,f≤g→g<f+2 ^ k → ¬ cov z g):∀ (m n i:Nat) (s:List Int),(i:Int)+m=f+2 ^ k→m<n→f≤i→s.length=256 →
  (∀ g:Nat,s.getD g 0=if f≤(g:Int)∧(g:Int)<i then 1 else (zN6 z).getD g 0)→zKS z f (k:Int) n (i:Int) s=some (zOW (4 - k) z f k,0):=by
 obtain ⟨hr,hin,_⟩:=zFK hz h
 have hb:=zAU hr hi
 obtain ⟨e,p1,p2⟩:=zH6 (k:=k) (by omega)
 obtain ⟨ho,h01⟩:=zKE hz h
 intro m
 induction m with
 | zero =>
  intro n i s h1 h2 h3 h4 h5
  obtain ⟨n,rfl⟩:=ex1 ‹_<n›
  obtain ⟨q1,q2,q3⟩:=OkZ.put (4 - k) (k:=k) (by omega) ho hi hn
  have hw:=zRg (z:=z) (s:=s) h4 q1 q3 (fun g=>by
   rw [q2]
   constructor
   ·intro hg
    have hgb:z.start≤g∧g<z.start+z.count∧0≤g:=by
     rcases hg with ⟨j,x,hx,x1,x2⟩ | hg
     ·have:=zAU hr (ho.ins j x hx)
      omega
     ·omega
    obtain ⟨q,rfl⟩:=Int.eq_ofNat_of_zero_le hgb.2.2
    refine ⟨hgb.1,hgb.2.1,?_⟩
    rw [Int.toNat_natCast,h5]
    split
    ·decide
    ·rename_i hne
     rcases hg with hg | hg
     ·have:=(zJH hz hr hin q).2 hg
      omega
     ·exact absurd ⟨hg.1,by omega⟩ hne
   ·rintro ⟨g1,g2,g3⟩
    have hrb:=zA4 hr
    obtain ⟨q,rfl⟩:=Int.eq_ofNat_of_zero_le (show 0≤g by omega)
    rw [Int.toNat_natCast,h5] at g3
    split at g3
    ·rename_i hq
     exact .inr ⟨hq.1,by omega⟩
    ·rcases h01 q with e0 | e0
     ·exact absurd e0 g3
     ·exact .inl ((zJH hz hr hin q).1 (by omega)))
  show zGr _ _ _ _ _ _=_
  unfold zGr zMJ
  rw [e,zP (dt (zF3 (by omega) (by omega))),zP (zM4 (by omega)),zP (zu (by omega)),zP (zu (by omega)),zf (df (by omega)),hw,zAw,zAw]
 | succ m ih =>
  intro n i s h1 h2 h3 h4 h5
  obtain ⟨n,rfl⟩:=ex1 ‹_<n›
  have hil:i<s.length:=by omega
  have ea:at_ s (i:Int)=s.getD i 0:=by rw [zFW hil,List.getD_eq_getElem?_getD,List.getElem?_eq_getElem hil]; rfl
  have h0:s.getD i 0=0:=by
   rw [h5,if_neg (by omega)]
   rcases h01 i with e0 | e0
   ·exact e0
   ·exact absurd ((zJH hz hr hin i).1 (by omega)) (hn i h3 (by omega))
  show zGr _ _ _ _ _ _=_
  unfold zGr
  rw [e,zP (dt (zF3 (by omega) (by omega))),zP (zM4 (by omega)),zP (zu (by omega)),zP (zu (by omega)),zz (dt (by omega)),zP (zAD hil),ea,h0,zf (by rfl),zP (zu (by omega))]
  refine ih n (i+1) _ (by omega) (by omega) (by omega) (by rw [List.length_set]; exact h4) (fun g => ?_)
  rw [Int.toNat_natCast,zVN s i g hil,h5]
  by_cases hg:g=i
  ·rw [if_pos hg,if_pos (by omega)]
  ·rw [if_neg hg]
   by_cases hq:f≤(g:Int)∧(g:Int)<i
   ·rw [if_pos hq,if_pos (by omega)]
   ·rw [if_neg hq,if_neg (by omega)]
theorem zVU (hz:Zk z) (h:zEr z=0) {f:Int} (hk:k≤4) (hi:inside z f k=true) (hn:∀ g,f≤g→g<f+2 ^ k → ¬ cov z g):zLD z f (k:Int)=some (zOW (4 - k) z f k,0):=by
 obtain ⟨hr,hin,_⟩:=zFK hz h
 have hb:=zAU hr hi
 obtain ⟨e,p1,p2⟩:=zH6 (k:=k) (by omega)
 have pn:=zMa (k:=k) (by omega)
 obtain ⟨m,rfl⟩:=Int.eq_ofNat_of_zero_le hb.1
 unfold zLD
 rw [zRy hz,zAw,dt h,Bool.not_true,zf rfl,zKx hr hk,zAw,hi,Bool.not_true,zf rfl,zQg hz hr hin,zAw]
 exact zXn hz h hk hi hn (2 ^ k) z5 m (zN6 z) (by omega) (by unfold z5; omega) (by omega) zM0 (fun g=>by rw [if_neg (by omega)])
end
end Go.Proofs.Ytplkliakhdkpcaa
namespace Go.Proofs.Ytplkliakhdkpcaa
open Go Go.RowKit Go.Wk Go.Am
section
variable {z:zW} {k:Nat} {l:List Int}
theorem zSf:∀ (m i:Nat) (s:List Bool),i+m≤s.length→(∀ g,i≤g→g<i+m→s.getD g false=false) → ∃ s',zMd s i m=some s'∧s'.length=s.length ∧ ∀ g,s'.getD g false=true→s.getD g false=true∨(i≤g∧g<i+m)
 | 0,i,s,_,_=>⟨s,rfl,rfl,fun g h => .inl h⟩
 | m+1,i,s,h,hf=>by
  obtain ⟨s',h1,h2,h3⟩:=zSf m (i+1) (s.set i true) (by rw [List.length_set]; omega) (fun g g1 g2=>by
   rw [zB8 _ _ _ (by omega),if_neg (by omega)]; exact hf g (by omega) (by omega))
  refine ⟨s',?_,by rw [h2,List.length_set],fun g hg => ?_⟩
  ·unfold zMd
   rw [if_neg (by rw [hf i (by omega) (by omega)]; simp)]
   exact h1
  ·rcases h3 g hg with h4 | h4
   ·rw [zB8 _ _ _ (by omega)] at h4
    split at h4
    ·exact .inr (by omega)
    ·exact .inl h4
   ·exact .inr (by omega)
theorem zSI (hk:k≤4):∀ (l:List Int) (s:List Bool),s.length=256→(∀ x,x∈l→0≤x∧x+2 ^ k≤256)→Srt l→(∀ x y f,x∈l→y∈l→x≤f→f<x+2 ^ k→y≤f→f<y+2 ^ k→x=y)→(∀ x,x∈l → ∀ g:Nat,x≤(g:Int)→(g:Int)<x+2 ^ k→s.getD g false=false) →
  ∃ s',zMg k s l=some s'∧s'.length=256 ∧ ∀ g:Nat,s'.getD g false=true→s.getD g false=true ∨ ∃ x,x∈l∧x≤(g:Int)∧(g:Int)<x+2 ^ k
 | [],s,hs,_,_,_,_=>⟨s,rfl,hs,fun g h => .inl h⟩
 | x::l,s,hs,hb,ho,hd,hf=>by
  have hx:=hb x (by simp)
  have pn:=zMa (k:=k) (by omega)
  obtain ⟨s1,h1,h2,h3⟩:=zSf (2 ^ k) x.toNat s (by omega) (fun g g1 g2=>hf x (by simp) g (by omega) (by omega))
  have hno:=List.pairwise_cons.1 ho
  obtain ⟨s2,q1,q2,q3⟩:=zSI hk l s1 (by omega) (fun y hy=>hb y (by simp [hy])) hno.2 (fun a b f ha hb'=>hd a b f (by simp [ha]) (by simp [hb'])) (fun y hy g g1 g2=>by
   cases hq:s1.getD g false with
   | false=>rfl
   | true =>
    rcases h3 g hq with h4 | h4
    ·rw [hf y (by simp [hy]) g g1 g2] at h4; cases h4
    ·have:=hd x y g (by simp) (by simp [hy]) (by omega) (by omega) g1 g2
     have:=hno.1 y hy
     omega)
  refine ⟨s2,?_,q2,fun g hg => ?_⟩
  ·unfold zMg
   rw [h1]
   exact q1
  ·rcases q3 g hg with h4 | ⟨y,hy,h4⟩
   ·rcases h3 g h4 with h5 | h5
    ·exact .inl h5
    ·exact .inr ⟨x,by simp,by omega,by omega⟩
   ·exact .inr ⟨y,by simp [hy],h4⟩
theorem zQm:∀ (ls:List (List Int)) (k:Nat) (s:List Bool),k+ls.length≤5→s.length=256→(∀ j l,ls[j]?=some l→Srt l ∧ ∀ x,x∈l→0≤x∧x+2 ^ (k+j)≤256) →
  (∀ i j l m x y f,ls[i]?=some l→ls[j]?=some m→x∈l→y∈m→x≤f→f<x+2 ^ (k+i)→y≤f→f<y+2 ^ (k+j)→i=j∧x=y) →
  (∀ j l,ls[j]?=some l → ∀ x,x∈l → ∀ g:Nat,x≤(g:Int)→(g:Int)<x+2 ^ (k+j)→s.getD g false=false)→zIF k s ls≠none
 | [],k,s,_,_,_,_,_=>by unfold zIF; simp
 | l::ls,k,s,hk,hs,hb,hd,hf=>by
  have hk':k+(ls.length+1)≤5:=hk
  have hb0:=hb 0 l rfl
  obtain ⟨s1,h1,h2,h3⟩:=zSI (k:=k) (by omega) l s hs hb0.2 hb0.1 (fun x y f hx hy a1 a2 a3 a4=>(hd 0 0 l l x y f rfl rfl hx hy a1 a2 a3 a4).2) (hf 0 l rfl)
  unfold zIF
  rw [h1]
  refine zQm ls (k+1) s1 (by omega) h2 (fun j m hj => ?_) (fun i j a b x y f hi hj hx hy a1 a2 a3 a4 => ?_) (fun j m hj x hx g g1 g2 => ?_)
  ·have:=hb (j+1) m (by simpa using hj)
   rwa [show k+(j+1)=k+1+j by omega] at this
  ·have:=hd (i+1) (j+1) a b x y f (by simpa using hi) (by simpa using hj) hx hy a1 (by rwa [show k+(i+1)=k+1+i by omega]) a3 (by rwa [show k+(j+1)=k+1+j by omega])
   exact ⟨by omega,this.2⟩
  ·cases hq:s1.getD g false with
   | false=>rfl
   | true =>
    have g2':(g:Int)<x+2 ^ (k+(j+1)):=by rwa [show k+(j+1)=k+1+j by omega]
    rcases h3 g hq with h4 | ⟨y,hy,h4,h5⟩
    ·rw [hf (j+1) m (by simpa using hj) x hx g g1 g2'] at h4; cases h4
    ·have:=(hd 0 (j+1) l m y x g rfl (by simpa using hj) hy hx h4 h5 g1 g2').1
     omega
theorem zUV:∀ (l:List Int) (p:Option Int),(∀ f,f∈l→inside z f k=true)→Srt l→(∀ q f,p=some q→f∈l→q<f)→zKZ z k p l=0
 | [],_,_,_,_=>by unfold zKZ; rfl
 | x::l,p,hi,hs,hp=>by
  have hno:=List.pairwise_cons.1 hs
  unfold zKZ
  rw [if_neg (by rw [hi x (by simp)]; simp),if_neg]
  ·exact zUV l (some x) (fun f hf=>hi f (by simp [hf])) hno.2 (fun q f hq hf=>by cases hq; exact hno.1 f hf)
  ·cases p with
   | none=>unfold geP; simp
   | some q =>
    have:=hp q x rfl (by simp)
    unfold geP
    simp
    omega
theorem zSS:∀ (ls:List (List Int)) (k:Nat),(∀ j l,ls[j]?=some l→(∀ f,f∈l→inside z f (k+j)=true)∧Srt l)→zFD z k ls=0
 | [],_,_=>by unfold zFD; rfl
 | l::ls,k,h=>by
  have h0:=h 0 l rfl
  rw [Nat.add_zero] at h0
  unfold zFD
  rw [zUV l none h0.1 h0.2 (fun q f hq=>by cases hq),if_pos rfl]
  exact zSS ls (k+1) (fun j m hj=>by
   have:=h (j+1) m (by simpa using hj)
   rwa [show k+(j+1)=k+1+j by omega] at this)
theorem zSm:∀ (ls:List (List Int)) (k:Nat),(∀ j l,ls[j]?=some l→zRi z (k+j) l l=false)→zMc z k ls=false
 | [],_,_=>by unfold zMc; rfl
 | l::ls,k,h=>by
  unfold zMc
  rw [if_neg (by have:=h 0 l rfl; rw [Nat.add_zero] at this; rw [this]; simp)]
  exact zSm ls (k+1) (fun j m hj=>by
   have:=h (j+1) m (by simpa using hj)
   rwa [show k+(j+1)=k+1+j by omega] at this)
theorem zC9 (h:OkZ z):zEr z=0:=by
 have hl:∀ (j:Nat) (l:List Int),z.free[j]?=some l→j<5∧l=lst z j:=fun j l hl=>by
  have hj:j<5:=by have:=(List.getElem?_eq_some_iff.1 hl).1; rw [h.len] at this; exact this
  rw [zKJ h.len hj] at hl
  cases hl
  exact ⟨hj,rfl⟩
 unfold zEr
 rw [if_neg (by rw [h.ranges]; simp),if_pos (zSS z.free 0 fun j l hj=>by obtain ⟨_,rfl⟩:=hl j l hj; rw [Nat.zero_add]; exact ⟨h.ins j,h.srt j⟩),if_neg,if_neg]
 ·rw [zSm (z.free.take 4) 0]
  ·simp
  ·intro j l hj
   have hj4:j<4:=by have:=(List.getElem?_eq_some_iff.1 hj).1; rw [List.length_take] at this; omega
   rw [List.getElem?_take,if_pos hj4] at hj
   obtain ⟨_,rfl⟩:=hl j l hj
   rw [Nat.zero_add]
   refine Bool.eq_false_iff.2 fun hh => ?_
   obtain ⟨f,f1,f2,f3⟩:=(zPz (lst z j) (lst z j)).1 hh
   rw [h.can j f hj4 f1 f2] at f3
   cases f3
 ·refine zQm z.free 0 zFI (by rw [h.len]; omega) zKP (fun j l hj => ?_) (fun i j a b x y f hi hj hx hy a1 a2 a3 a4 => ?_) (fun j l hj x hx g _ _ => ?_)
  ·obtain ⟨_,rfl⟩:=hl j l hj
   rw [Nat.zero_add]
   exact ⟨h.srt j,fun x hx=>⟨(h.bds (h.ins j x hx)).1,(h.bds (h.ins j x hx)).2.1⟩⟩
  ·obtain ⟨_,rfl⟩:=hl i a hi
   obtain ⟨_,rfl⟩:=hl j b hj
   rw [Nat.zero_add] at a2 a4
   exact h.dis i x j y f hx hy a1 a2 a3 a4
  ·unfold zFI
   rw [List.getD_eq_getElem?_getD,List.getElem?_replicate]
   split <;> rfl
theorem OkZ.zk (h:OkZ z):Zk z:=⟨h.len,fun k=>by have:=h.putI.len' k; omega⟩
theorem OkZ.inI (h:OkZ z):inI z.start=true:=by have:=zA4 h.ranges; exact zu (by omega)
def zKs (z:zW):List Int→zW
 | []=>z
 | f::r=>zKs (zOW 4 z f 0) r
theorem zLE:∀ (l:List Int) {z:zW},OkZ z→(∀ f,f∈l→inside z f 0=true ∧ ¬ cov z f)→l.Nodup→OkZ (zKs z l)∧(∀ g,cov (zKs z l) g↔cov z g∨g∈l)∧zE0 (zKs z l) z
 | [],z,h,_,_=>⟨h,fun g=>by unfold zKs; simp,⟨rfl,rfl,rfl,rfl,rfl⟩⟩
 | f::r,z,h,hi,hn=>by
  have hf:=hi f (by simp)
  have hnd:=List.nodup_cons.1 hn
  obtain ⟨h1,h2,h3⟩:=OkZ.put 4 (k:=0) (by omega) h hf.1 (fun g g1 g2=>by
   rw [pw0] at g2
   have:g=f:=by omega
   rw [this]; exact hf.2)
  obtain ⟨q1,q2,q3⟩:=zLE r h1 (fun g hg=>by
   refine ⟨by rw [h3.inside]; exact (hi g (by simp [hg])).1,fun hc => ?_⟩
   rcases (h2 g).1 hc with hc | hc
   ·exact (hi g (by simp [hg])).2 hc
   ·rw [pw0] at hc
    have:g=f:=by omega
    exact hnd.1 (this▸hg)) hnd.2
  refine ⟨q1,fun g => ?_,q3.trans h3⟩
  show cov (zKs (zOW 4 z f 0) r) g↔_
  rw [q2 g,h2 g,pw0,List.mem_cons]
  constructor
  ·rintro ((h | h) | h)
   ·exact .inl h
   ·exact .inr (.inl (by omega))
   ·exact .inr (.inr h)
  ·rintro (h | h | h)
   ·exact .inl (.inl h)
   ·exact .inl (.inr (by omega))
   ·exact .inr h
end
end Go.Proofs.Ytplkliakhdkpcaa
namespace Go.Proofs.Ytplkliakhdkpcaa
open Go Go.RowKit Go.Wk Go.Am
section
variable {a:zH}
theorem zJA {α:Type} [Inhabited α] {l:List α} {i:Nat} (h:i<l.length):l.set i (at_ l (i:Int))=l:=by
 rw [zFW h]
 exact List.set_getElem_self h
theorem zZ8 {se:Int→List zW→Option zH} {zs:List zW} {j:Nat} (hj:j<zs.length) (hl:zs.length≤1000) (hz:Zk (at_ zs (j:Int))):∀ (m n k:Nat),k+m=5→m<n→zC3 se (j:Int) n (k:Int) zs=se ((j+1:Nat):Int) zs:=by
 intro m
 induction m with
 | zero =>
  intro n k h1 h2
  obtain ⟨n,rfl⟩:=ex1 ‹_<n›
  show zCG _ _ _ _ _=_
  unfold zCG zFR
  rw [zf (df (by omega)),zP (zu (by omega))]
  rfl
 | succ m ih =>
  intro n k h1 h2
  obtain ⟨n,rfl⟩:=ex1 ‹_<n›
  have hlen:=hz.len
  have e:(at_ zs (j:Int)).free.getD (k:Int).toNat []=lst (at_ zs (j:Int)) k:=rfl
  have e3:zDY 5 [] (at_ zs (j:Int)).free (k:Int).toNat (lst (at_ zs (j:Int)) k)=(at_ zs (j:Int)).free:=by
   rw [zJb hlen (by omega)]
   exact zJ8 (by omega)
  show zCG _ _ _ _ _=_
  unfold zCG
  rw [zz (dt (by omega)),zP (zAD hj),zP (zAD (by omega)),e,zME (hz.bd k),zAw,zP (zu (by omega)),e3]
  have e4:zs.set (j:Int).toNat (at_ zs (j:Int))=zs:=zJA hj
  show zC3 se (j:Int) n ((k:Int)+1) (zs.set (j:Int).toNat (at_ zs (j:Int)))=_
  rw [e4]
  exact ih n (k+1) (by omega) (by omega)
theorem zZ7 {se:Int→List zK→Option zH} {cs:List zK} {j:Nat} (hj:j<cs.length) (hl:cs.length≤1000) (hc:Ck (at_ cs (j:Int))):∀ (m n i:Nat),i+m=(at_ cs (j:Int)).lists.length→m<n→zD8 se (j:Int) cs (at_ cs (j:Int)).lists n (i:Int) (at_ cs (j:Int)).lists=se ((j+1:Nat):Int) cs:=by
 have hn:=hc.n
 intro m
 induction m with
 | zero =>
  intro n i h1 h2
  obtain ⟨n,rfl⟩:=ex1 ‹_<n›
  show zCC _ _ _ _ _ _ _=_
  unfold zCC zFQ zFU
  rw [zf (df (by omega)),zP (zAD hj),zP (zu (by omega))]
  have e4:cs.set (j:Int).toNat (at_ cs (j:Int))=cs:=zJA hj
  show se ((j:Int)+1) (cs.set (j:Int).toNat (at_ cs (j:Int)))=_
  rw [e4]
  rfl
 | succ m ih =>
  intro n i h1 h2
  obtain ⟨n,rfl⟩:=ex1 ‹_<n›
  have hi:i<(at_ cs (j:Int)).lists.length:=by omega
  have hb:=hc.l _ (zAv hi)
  show zCC _ _ _ _ _ _ _=_
  unfold zCC
  have e4:(at_ cs (j:Int)).lists.set (i:Int).toNat (at_ (at_ cs (j:Int)).lists (i:Int))=(at_ cs (j:Int)).lists:=zJA hi
  rw [zz (dt (by omega)),zP (zAD hi),zME (by omega),zAw,zP (zu (by omega)),e4]
  exact ih n (i+1) (by omega) (by omega)
theorem zZ6 (ha:Al a) {zs:List zW} {ns:List Int}:∀ (m n j:Nat),j+m=a.caches.length→m<n→zBJ a ns a.caches zs n (j:Int) a.caches=some ⟨ns,a.batch,a.high,zs,a.caches⟩:=by
 have hc:=ha.c
 intro m
 induction m with
 | zero =>
  intro n j h1 h2
  obtain ⟨n,rfl⟩:=ex1 ‹_<n›
  show zCH _ _ _ _ _ _ _=_
  unfold zCH
  rw [zf (df (by omega))]
  rfl
 | succ m ih =>
  intro n j h1 h2
  obtain ⟨n,rfl⟩:=ex1 ‹_<n›
  have hj:j<a.caches.length:=by omega
  have hk:=ha.ck _ (zAv hj)
  have hn:=hk.n
  show zCH _ _ _ _ _ _ _=_
  unfold zCH zDu
  rw [zz (dt (by omega)),zP (zAD hj),zP (dt (by show (0+_)*24≤_; omega)),zAw,z0i,zZ7 hj hc hk _ z5 0 (Nat.zero_add _) (by unfold z5; omega)]
  exact ih n (j+1) (by omega) (by omega)
theorem zZo (ha:Al a) {ns:List Int}:∀ (m n j:Nat),j+m=a.zones.length→m<n→zBb a ns a.zones a.caches n (j:Int) a.zones=some ⟨ns,a.batch,a.high,a.zones,a.caches⟩:=by
 have hz:=ha.z
 have hc:=ha.c
 intro m
 induction m with
 | zero =>
  intro n j h1 h2
  obtain ⟨n,rfl⟩:=ex1 ‹_<n›
  show zCD _ _ _ _ _ _ _=_
  unfold zCD zFL
  rw [zf (df (by omega)),z0i]
  exact zZ6 ha a.caches.length z5 0 (by omega) (by unfold z5; omega)
 | succ m ih =>
  intro n j h1 h2
  obtain ⟨n,rfl⟩:=ex1 ‹_<n›
  have hj:j<a.zones.length:=by omega
  show zCD _ _ _ _ _ _ _=_
  unfold zCD
  rw [zz (dt (by omega)),z0i,zZ8 hj hz (ha.zk _ (zAv hj)).1 5 z5 0 (by omega) (by unfold z5; omega)]
  exact ih n (j+1) (by omega) (by omega)
theorem zQU (ha:Al a):zCO a=some a:=by
 have h1:=ha.n
 have h2:=ha.z
 have h3:=ha.c
 unfold zCO zBn zBA
 rw [zME (by omega),zAw,zP (dt (by show (0+_)*160≤_; omega)),zAw,zP (dt (by show (0+_)*24≤_; omega)),zAw,z0i]
 exact zZo ha a.zones.length z5 0 (by omega) (by unfold z5; omega)
theorem zUq {c:zK} (hc:Ck c):∀ (m n i:Nat) (l:List (List Int)),i+m=c.lists.length→m<n→l=c.lists.take i→zJI c n (i:Int) l=some c:=by
 have hn:=hc.n
 intro m
 induction m with
 | zero =>
  intro n i l h1 h2 h3
  obtain ⟨n,rfl⟩:=ex1 ‹_<n›
  show zGN _ _ _ _=_
  unfold zGN
  rw [zf (df (by omega)),h3,List.take_of_length_le (by omega)]
  rfl
 | succ m ih =>
  intro n i l h1 h2 h3
  obtain ⟨n,rfl⟩:=ex1 ‹_<n›
  have hi:i<c.lists.length:=by omega
  have hb:=hc.l _ (zAv hi)
  have hl:l.length=i:=by rw [h3,List.length_take]; omega
  show zGN _ _ _ _=_
  unfold zGN
  rw [zz (dt (by omega)),zP (zAD hi),zP (dt (by show (0+_)*8≤_; omega)),zP (dt (by show (_+1)*24≤_; omega)),zP (zu (by omega)),List.nil_append]
  refine ih n (i+1) _ (by omega) (by omega) ?_
  rw [h3,List.take_add_one,List.getElem?_eq_getElem hi,zFW hi]
  rfl
theorem zOL {c:zK} (hc:Ck c):zIe c=some c:=zUq hc c.lists.length z5 0 [] (by omega) (by have:=hc.n; unfold z5; omega) rfl
end
end Go.Proofs.Ytplkliakhdkpcaa
namespace Go.Proofs.Ytplkliakhdkpcaa
open Go Go.RowKit Go.Wk Go.Am
structure Pc (c:zK) (zn:Nat):Prop where
 z:1≤zn∧zn≤6
 len:c.lists.length=zn
 bd:∀ l,l∈c.lists→l.length≤400
 fr:∀ l,l∈c.lists → ∀ f,f∈l→zBw f=true
 nd:∀ l,l∈c.lists→l.Nodup
 dis:∀ (p q:Nat) (f:Int),p<zn→q<zn→f∈at_ c.lists (p:Int)→f∈at_ c.lists (q:Int)→p=q
section
variable {c:zK} {zn:Nat} {z:Nat} {l:List Int}
theorem Pc.ck (h:Pc c zn):Ck c:=⟨by have:=h.len; have:=h.z; omega,fun x hx=>by have:=h.bd x hx; omega⟩
theorem Pc.r (h:Pc c zn):pcR c (zn:Int)=0:=by
 have hz:=h.z
 unfold pcR
 rw [if_neg (by omega),if_pos (by rw [h.len]),if_pos,if_pos]
 ·unfold List.Nodup
  rw [List.pairwise_flatten]
  refine ⟨h.nd,List.pairwise_iff_getElem.2 fun i j hi hj hij x hx y hy e => ?_⟩
  subst e
  have:=h.dis i j x (by rw [← h.len]; exact hi) (by rw [← h.len]; exact hj) (by rw [zFW hi]; exact hx) (by rw [zFW hj]; exact hy)
  omega
 ·refine List.all_eq_true.2 fun f hf => ?_
  obtain ⟨l,hl,hfl⟩:=List.mem_flatten.1 hf
  exact h.fr l hl f hfl
theorem zMU (l:List Int):zC0 (List.replicate (l.length:Int).toNat 0) l=l:=by
 unfold zC0
 rw [List.length_replicate,Int.toNat_natCast,List.take_length,List.drop_replicate,Nat.sub_self]
 exact List.append_nil l
theorem zUT {n:Int} (h:n.toNat≤l.length):zC0 (List.replicate n.toNat 0) l=l.take n.toNat:=by
 unfold zC0
 rw [List.length_replicate,List.drop_replicate,Nat.sub_eq_zero_of_le h]
 exact List.append_nil _
theorem zTE {T:List (List Int)} {i m:Nat} {x:List Int} (hi:T[i]?=some x):(T.take i++List.replicate (m+1) ([]:List Int)).set i x=T.take (i+1)++List.replicate m []:=by
 have hl:(T.take i).length=i:=by rw [List.length_take]; have:=(List.getElem?_eq_some_iff.1 hi).1; omega
 rw [List.set_append,if_neg (by omega),hl,Nat.sub_self,List.replicate_succ,List.set_cons_zero,List.take_add_one,hi]
 simp
theorem zUK (hc:Ck c) (hl:l.length≤1000):∀ (m n i:Nat),i+m=c.lists.length→m<n→zCh c (z:Int) l n (i:Int) ((c.lists.set z l).take i++List.replicate m [])=some ⟨c.lists.set z l⟩:=by
 have hn:=hc.n
 intro m
 induction m with
 | zero =>
  intro n i h1 h2
  obtain ⟨n,rfl⟩:=ex1 ‹_<n›
  show zCi _ _ _ _ _ _=_
  unfold zCi zFz
  rw [zf (df (by omega)),List.replicate_zero,List.append_nil,List.take_of_length_le (by rw [List.length_set]; omega)]
 | succ m ih =>
  intro n i h1 h2
  obtain ⟨n,rfl⟩:=ex1 ‹_<n›
  have hi:i<c.lists.length:=by omega
  have hll:((c.lists.set z l).take i++List.replicate (m+1) ([]:List Int)).length=c.lists.length:=by
   rw [List.length_append,List.length_take,List.length_set,List.length_replicate]; omega
  have hj:∀ d:List Int,d.length≤1000→(c.lists.set z l)[i]?=some d→zDd (zCh c (z:Int) l n) (i:Int) ((c.lists.set z l).take i++List.replicate (m+1) []) d=some ⟨c.lists.set z l⟩:=fun d hd he=>by
   unfold zDd
   rw [zP (by simp; omega),zP (zPr (by rw [hll]; omega)),zP (zu (by omega)),zMU,Int.toNat_natCast,zTE he]
   exact ih n (i+1) (by omega) (by omega)
  show zCi _ _ _ _ _ _=_
  unfold zCi
  rw [zz (dt (by omega)),zP (zAD hi)]
  by_cases hz:i=z
  ·rw [zz (dt (by omega))]
   exact hj l hl (by rw [← hz,List.getElem?_set_self hi])
  ·rw [zf (df (by omega))]
   refine hj _ (hc.l _ (zAv hi)) ?_
   rw [List.getElem?_set_ne (fun e=>hz e.symm),zFW hi,List.getElem?_eq_getElem hi]
theorem zN9 (hc:Ck c) (hl:l.length≤1000):zBy c (z:Int) l=some ⟨c.lists.set z l⟩:=by
 have hn:=hc.n
 unfold zBy
 rw [zP (by simp; omega)]
 exact zUK hc hl c.lists.length z5 0 (by omega) (by unfold z5; omega)
theorem zP1 (h:Pc c zn) (hz:z<zn):zEo c (z:Int)=some 0:=by
 have hl:=h.len
 unfold zEo
 rw [zVp h.ck,hl,h.r,zAw,dt rfl,Bool.not_true,zf rfl,df (by omega),df (by omega)]
 rfl
theorem zRP (h:Pc c zn) (hz:z<zn):zIj c (z:Int)=some 0:=by
 have hl:=h.len
 unfold zIj
 rw [zYt h.ck,hl,h.r,zAw,dt rfl,Bool.not_true,zf rfl,df (by omega),df (by omega)]
 rfl
theorem zOQ (f:Int):∀ (l:List Int) (q:List (Int×Bool)),zMB false (zMn q l) f=(decide (f∈l)||zMB false q f)
 | [],q=>by simp [zMn]
 | x::l,q=>by
  have e:zMn q (x::l)=zMn (zKa q x true) l:=rfl
  rw [e,zOQ f l,zNY]
  by_cases hx:f=x
  ·simp [hx]
  ·rw [if_neg hx]
   simp [hx]
theorem zQM (hc:Ck c):zED c=some (zMn [] c.lists.flatten):=by
 unfold zED
 rw [z0i,fm0 hc c.lists.length z5 0 [] (by omega) (by have:=hc.n; unfold z5; omega),List.drop_zero]
theorem zZy {se:Int→Option Bool} {f:Int} {j:Nat} {l:List Int} (hc:Ck c) (hj:j<c.lists.length) (hl:at_ c.lists (j:Int)=l):∀ (m n i:Nat),i+m=l.length→m<n →
  zKe se c f (j:Int) n (i:Int)=if f∈l.drop i then some true else se ((j+1:Nat):Int):=by
 have hb:l.length≤1000:=by rw [← hl]; exact hc.l _ (zAv hj)
 have hn:=hc.n
 intro m
 induction m with
 | zero =>
  intro n i h1 h2
  obtain ⟨n,rfl⟩:=ex1 ‹_<n›
  show zHn _ _ _ _ _ _=_
  unfold zHn zNC
  rw [hl,zf (df (by omega)),zP (zu (by omega)),List.drop_eq_nil_of_le (by omega),if_neg (by simp)]
  rfl
 | succ m ih =>
  intro n i h1 h2
  obtain ⟨n,rfl⟩:=ex1 ‹_<n›
  have hi:i<l.length:=by omega
  show zHn _ _ _ _ _ _=_
  unfold zHn
  rw [hl,zz (dt (by omega)),zP (zAD hi),zC4 hi]
  by_cases hf:at_ l (i:Int)=f
  ·rw [zz (dt hf),if_pos (by simp [hf])]
  ·rw [zf (df hf),zP (zu (by omega))]
   refine (ih n (i+1) (by omega) (by omega)).trans ?_
   by_cases hm:f∈l.drop (i+1)
   ·rw [if_pos hm,if_pos (List.mem_cons_of_mem _ hm)]
   ·rw [if_neg hm,if_neg (fun h=>by rcases List.mem_cons.1 h with h | h; exact hf h.symm; exact hm h)]
theorem zZ1 {f:Int} (hc:Ck c):∀ (m n i:Nat),i+m=c.lists.length→m<n→zKm c f n (i:Int)=some (decide (f∈(c.lists.drop i).flatten)):=by
 have hn:=hc.n
 intro m
 induction m with
 | zero =>
  intro n i h1 h2
  obtain ⟨n,rfl⟩:=ex1 ‹_<n›
  show zHo _ _ _ _=_
  unfold zHo zM9
  rw [zf (df (by omega)),zQo (by omega),df (by simp)]
 | succ m ih =>
  intro n i h1 h2
  obtain ⟨n,rfl⟩:=ex1 ‹_<n›
  have hi:i<c.lists.length:=by omega
  have hb:=hc.l _ (zAv hi)
  show zHo _ _ _ _=_
  unfold zHo
  rw [zz (dt (by omega)),zP (zAD hi),z0i,zZy hc hi rfl _ z5 0 (Nat.zero_add _) (by unfold z5; omega),List.drop_zero,zC4 hi,List.flatten_cons]
  by_cases hm:f∈at_ c.lists (i:Int)
  ·rw [if_pos hm,dt (by simp [hm])]
  ·rw [if_neg hm,ih n (i+1) (by omega) (by omega)]
   congr 1
   exact decide_eq_decide.2 ⟨fun h=>List.mem_append_right _ h,fun h=>by rcases List.mem_append.1 h with h | h; exact absurd h hm; exact h⟩
theorem zV4 {f:Int} (hc:Ck c):zOA c f=some (decide (f∈c.lists.flatten)):=by
 have:=zZ1 (f:=f) hc c.lists.length z5 0 (by omega) (by have:=hc.n; unfold z5; omega)
 rw [List.drop_zero] at this
 exact this
def zNW (c:zK) (z:Nat) (f b h:Int):zK×List Int :=
 if ((at_ c.lists (z:Int)++[f]).length:Int)≤h then (⟨c.lists.set z (at_ c.lists (z:Int)++[f])⟩,[]) else (⟨c.lists.set z ((at_ c.lists (z:Int)++[f]).drop b.toNat)⟩,(at_ c.lists (z:Int)++[f]).take b.toNat)
theorem zZz {f b h:Int} (hp:Pc c zn) (hz:z<zn) (hf:zBw f=true) (hb:1≤b∧b≤h∧h≤64) (hn:f ∉ c.lists.flatten):zIW c (z:Int) f b h=some ((zNW c z f b h).1,(zNW c z f b h).2,0):=by
 have hl:=hp.len
 have hzl:z<c.lists.length:=by omega
 have hbd:=hp.bd _ (zAv hzl)
 have hff:zCt f=some true:=by
  unfold zCt
  show some (zBw f)=_
  rw [hf]
 unfold zIW zNW
 generalize hq:at_ c.lists (z:Int)=q at hbd ⊢
 have hql:(q++[f]).length=q.length+1:=by simp
 rw [zP1 hp hz,zAw,dt rfl,Bool.not_true,zf rfl,hff,zAw,Bool.not_true,zf rfl,df (by omega),df (by omega),Bool.or_false,zf rfl,zQM hp.ck,zAw,zOQ,df hn]
 rw [zf (by rfl),zP (zAD hzl),zP (zu (by omega)),zP (by simp; omega),zMU,zP (by simp; omega)]
 by_cases hh:((q++[f]).length:Int)≤h
 ·rw [dt hh,if_pos hh,zz rfl,zN9 hp.ck (by omega),zAw,zAw]
 ·have e1:zFX (q++[f]) b ((q++[f]).length:Int)=(q++[f]).drop b.toNat:=by
   unfold zFX
   rw [Int.toNat_natCast,List.take_length]
  rw [df hh,if_neg hh,zf rfl,zP (by simp; omega),zP (by unfold zHG; rw [hql]; simp; omega),e1,zN9 hp.ck (by rw [List.length_drop]; omega),zAw,zUT (by omega)]
theorem zaA {f b h:Int} (hp:Pc c zn) (hz:z<zn) (hf:zBw f=true) (hb:1≤b∧b≤h∧h≤64) (hn:f ∉ c.lists.flatten):zOY c (z:Int) f b h=some ((zNW c z f b h).1,(zNW c z f b h).2,0):=by
 have hl:=hp.len
 have hzl:z<c.lists.length:=by omega
 have hbd:=hp.bd _ (zAv hzl)
 have hff:zDJ f=some false:=by
  unfold zDJ
  unfold zBw at hf
  simp at hf ⊢
  omega
 unfold zOY zNW
 rw [zRP hp hz,zAw,dt rfl,Bool.not_true,zf rfl,hff,zAw,zf rfl,df (by omega),df (by omega),Bool.or_false,zf rfl,zV4 hp.ck,zAw,df hn,zf rfl,zOL hp.ck,zAw]
 generalize hq:at_ c.lists (z:Int)=q at hbd ⊢
 have hql:(q++[f]).length=q.length+1:=by simp
 rw [zP (zAD hzl),zP (by simp; omega)]
 by_cases hh:((q++[f]).length:Int)≤h
 ·rw [dt hh,if_pos hh,zz rfl,Int.toNat_natCast]
 ·have e1:zFX (q++[f]) b ((q++[f]).length:Int)=(q++[f]).drop b.toNat:=by
   unfold zFX
   rw [Int.toNat_natCast,List.take_length]
  have e2:zFX (q++[f]) 0 b=(q++[f]).take b.toNat:=rfl
  rw [df hh,if_neg hh,zf rfl,zP (by unfold zHG; rw [hql]; simp; omega),e2,zP (dt (by rw [List.length_take]; simp; omega)),zP (by unfold zHG; rw [hql]; simp; omega),e1,zP (dt (by rw [List.length_drop]; simp; omega)),List.nil_append,List.nil_append,Int.toNat_natCast]
theorem zYN (hp:Pc c zn) (hz:z<zn):zHv c (z:Int)=some (⟨c.lists.set z []⟩,at_ c.lists (z:Int),0):=by
 have hl:=hp.len
 have hzl:z<c.lists.length:=by omega
 have hbd:=hp.bd _ (zAv hzl)
 unfold zHv
 rw [zP1 hp hz,zAw,dt rfl,Bool.not_true,zf rfl,zP (zAD hzl),zP (by simp; omega),zN9 hp.ck (by simp),zAw,zMU]
theorem zYW (hp:Pc c zn) (hz:z<zn):zL2 c (z:Int)=some (⟨c.lists.set z []⟩,at_ c.lists (z:Int),0):=by
 have hl:=hp.len
 have hzl:z<c.lists.length:=by omega
 have hbd:=hp.bd _ (zAv hzl)
 unfold zL2
 rw [zRP hp hz,zAw,dt rfl,Bool.not_true,zf rfl,zOL hp.ck,zAw,zP (zAD hzl),zP (by simp; omega),Int.toNat_natCast,List.nil_append]
def zXO (c:zK) (z:Nat):zK:=⟨c.lists.set z ((at_ c.lists (z:Int)).take ((at_ c.lists (z:Int)).length - 1))⟩
def zPk (c:zK) (z:Nat):Int:=at_ (at_ c.lists (z:Int)) (((at_ c.lists (z:Int)).length:Int) - 1)
theorem zZb (hp:Pc c zn) (hz:z<zn) (hne:at_ c.lists (z:Int)≠[]):zIn c (z:Int)=some (zXO c z,zPk c z,0):=by
 have hl:=hp.len
 have hzl:z<c.lists.length:=by omega
 have hbd:=hp.bd _ (zAv hzl)
 unfold zIn zXO zPk
 generalize hq:at_ c.lists (z:Int)=q at hbd hne ⊢
 have h1:0<q.length:=List.length_pos_iff.2 hne
 have e1:zFX q 0 ((q.length:Int) - 1)=q.take (q.length - 1):=by
  unfold zFX
  rw [show ((q.length:Int) - 1).toNat=q.length - 1 by omega]
  rfl
 rw [zP1 hp hz,zAw,dt rfl,Bool.not_true,zf rfl,zP (zAD hzl),zf (df (by omega)),zP (zu (by omega)),zP (by unfold zHG; simp; omega),e1,zN9 hp.ck (by rw [List.length_take]; omega),zAw,zP (zPr (by omega))]
end
end Go.Proofs.Ytplkliakhdkpcaa
namespace Go.Proofs.Ytplkliakhdkpcaa
open Go Go.RowKit Go.Wk Go.Am
theorem zXy {α:Type} [Inhabited α] {l:List α} {i:Nat} {x:α} (h:l[i]?=some x):at_ l (i:Int)=x:=by
 obtain ⟨hi,e⟩:=List.getElem?_eq_some_iff.1 h
 rw [zFW hi]
 exact e
theorem zZ0 {α:Type} [Inhabited α] {l:List α} {i:Nat} (h:i<l.length):l[i]?=some (at_ l (i:Int)):=by rw [zFW h,List.getElem?_eq_getElem h]
theorem zV8 {l:List (List Int)} {p:Nat} (h:l.length≤p):at_ l (p:Int)=[]:=by
 unfold at_
 rw [Int.toNat_natCast,List.getD_eq_getElem?_getD,List.getElem?_eq_none h]
 rfl
theorem zYl {l:List (List Int)} {p:Nat} {f:Int} (h:f∈at_ l (p:Int)):p<l.length:=by
 refine Nat.lt_of_not_le fun hn => ?_
 rw [zV8 hn] at h
 cases h
theorem zQb {f:Int} (h:0≤f):((f.toNat:Nat):Int)=f:=Int.toNat_of_nonneg h
theorem zTS {z:zW} (hr:ranges z=true):∀ (l:List Int) (d:List Bool),d.length=256→(feL z d l).1=0→(∀ f,f∈l→inZ z f=true∧zKu z f=false∧d.getD f.toNat false=false)∧l.Nodup∧(∀ g:Nat,(feL z d l).2.getD g false=true↔d.getD g false=true∨(g:Int)∈l)
 | [],d,hd,h=>⟨(fun f hf=>by cases hf),List.nodup_nil,(fun g=>by unfold feL; simp)⟩
 | f::r,d,hd,h=>by
  unfold feL at h ⊢
  by_cases hi:inZ z f=true
  ·rw [if_pos hi] at h ⊢
   have hb:=zNB hr hi
   by_cases hx:(d.getD f.toNat false||zKu z f)=true
   ·rw [if_pos hx] at h; cases h
   ·rw [if_neg hx] at h ⊢
    simp only [Bool.or_eq_true,not_or,Bool.not_eq_true] at hx
    obtain ⟨i1,i2,i3⟩:=zTS hr r (d.set f.toNat true) (by rw [List.length_set]; exact hd) h
    have hfr:f ∉ r:=fun hm=>by
     have:=(i1 f hm).2.2
     rw [zB8 _ _ _ (by omega),if_pos rfl] at this
     cases this
    refine ⟨fun g hg => ?_,List.nodup_cons.2 ⟨hfr,i2⟩,fun g => ?_⟩
    ·rcases List.mem_cons.1 hg with rfl | hg
     ·exact ⟨hi,hx.2,hx.1⟩
     ·have h3:=i1 g hg
      refine ⟨h3.1,h3.2.1,?_⟩
      have h4:=h3.2.2
      rw [zB8 _ _ _ (by omega)] at h4
      split at h4
      ·cases h4
      ·exact h4
    ·rw [i3 g,zB8 _ _ _ (by omega)]
     by_cases hg:g=f.toNat
     ·rw [if_pos hg]
      exact ⟨fun _ => .inr (by rw [hg,zQb hb.1]; simp),fun _ => .inl rfl⟩
     ·rw [if_neg hg]
      constructor
      ·rintro (h | h)
       ·exact .inl h
       ·exact .inr (List.mem_cons_of_mem _ h)
      ·rintro (h | h)
       ·exact .inl h
       ·rcases List.mem_cons.1 h with h | h
        ·omega
        ·exact .inr h
  ·rw [if_neg hi] at h; cases h
theorem zVm:∀ (zs:List zW) (ls:List (List Int)) (d:List Bool),(∀ z,z∈zs→ranges z=true)→ls.length=zs.length→d.length=256→(feC d zs ls).1=0 →
  (∀ (p:Nat) z l,zs[p]?=some z→ls[p]?=some l→(∀ f,f∈l→inZ z f=true∧zKu z f=false∧d.getD f.toNat false=false)∧l.Nodup) ∧
  (∀ (p q:Nat) l m f,ls[p]?=some l→ls[q]?=some m→f∈l→f∈m→p=q)∧(∀ g:Nat,(feC d zs ls).2.getD g false=true↔d.getD g false=true ∨ ∃ l,l∈ls∧(g:Int)∈l)∧(∀ l,l∈ls → ∀ f,f∈l→0≤f)
 | [],[],d,_,_,_,_=>⟨(fun p z l h=>by simp at h),(fun p q l m f h=>by simp at h),(fun g=>by unfold feC; simp),(fun l hl=>by cases hl)⟩
 | [],_::_,_,_,hl,_,_=>by simp at hl
 | _::_,[],_,_,hl,_,_=>by simp at hl
 | z::zs,l::ls,d,hr,hl,hd,h=>by
  unfold feC at h ⊢
  have hrz:=hr z (by simp)
  by_cases h0:(feL z d l).1=0
  ·rw [if_pos h0] at h ⊢
   obtain ⟨j1,j2,j3⟩:=zTS hrz l d hd h0
   obtain ⟨i1,i2,i3,i4⟩:=zVm zs ls (feL z d l).2 (fun y hy=>hr y (by simp [hy])) (by simpa using hl) (by rw [zMy]; exact hd) h
   have hz:∀ (q:Nat) m f,ls[q]?=some m→f∈m→f ∉ l:=fun q m f hq hm hfl=>by
    have hq':q<zs.length:=by have:=(List.getElem?_eq_some_iff.1 hq).1; simp at hl; omega
    have h1:=((i1 q _ m (List.getElem?_eq_getElem hq') hq).1 f hm).2.2
    have hb:=zNB hrz (j1 f hfl).1
    have:=(j3 f.toNat).2 (.inr (by rw [zQb hb.1]; exact hfl))
    rw [h1] at this
    cases this
   refine ⟨fun p y m hy hm => ?_,fun p q a b f ha hb hfa hfb => ?_,fun g => ?_,fun m hm f hf => ?_⟩
   ·cases p with
    | zero=>simp at hy hm; subst hy; subst hm; exact ⟨j1,j2⟩
    | succ p =>
     have h1:=i1 p y m (by simpa using hy) (by simpa using hm)
     refine ⟨fun f hf => ?_,h1.2⟩
     have h2:=h1.1 f hf
     refine ⟨h2.1,h2.2.1,?_⟩
     cases hq:d.getD f.toNat false with
     | false=>rfl
     | true=>rw [(j3 f.toNat).2 (.inl hq)] at h2; cases h2.2.2
   ·cases p with
    | zero =>
     simp at ha
     subst ha
     cases q with
     | zero=>rfl
     | succ q=>exact absurd hfa (hz q b f (by simpa using hb) hfb)
    | succ p =>
     cases q with
     | zero=>simp at hb; subst hb; exact absurd hfb (hz p a f (by simpa using ha) hfa)
     | succ q=>rw [i2 p q a b f (by simpa using ha) (by simpa using hb) hfa hfb]
   ·rw [i3 g,j3 g]
    constructor
    ·rintro ((h | h) | ⟨m,h1,h2⟩)
     ·exact .inl h
     ·exact .inr ⟨l,by simp,h⟩
     ·exact .inr ⟨m,by simp [h1],h2⟩
    ·rintro (h | ⟨m,h1,h2⟩)
     ·exact .inl (.inl h)
     ·rcases List.mem_cons.1 h1 with rfl | h1
      ·exact .inl (.inr h2)
      ·exact .inr ⟨m,h1,h2⟩
   ·rcases List.mem_cons.1 hm with rfl | hm
    ·exact (zNB hrz (j1 f hf).1).1
    ·exact i4 m hm f hf
  ·rw [if_neg h0] at h; exact absurd h h0
theorem zOM {z:zW} {f:Int} (hr:ranges z=true):inZ z f=true↔inside z f 0=true:=by
 have hb:=zA4 hr
 rw [zAz hr,pw0]
 unfold inZ
 simp only [Bool.and_eq_true,decide_eq_true_eq]
 omega
theorem zRn {z:zW} {f:Int} (hz:Zk z) (h:zEr z=0) (hi:inside z f 0=true):zKu z f=true↔cov z f:=by
 obtain ⟨hr,hin,_⟩:=zFK hz h
 have hb:=zAU hr hi
 have hc:=zJH hz hr hin f.toNat
 rw [zQb hb.1] at hc
 unfold zKu
 rw [dt h,hi]
 simp only [Bool.and_self,Bool.true_and,decide_eq_true_eq]
 exact hc
def Lf (a:zH) (c p:Nat):List Int:=at_ (at_ a.caches (c:Int)).lists (p:Int)
def Zn (a:zH) (p:Nat):zW:=at_ a.zones (p:Int)
structure Wa (a:zH):Prop where
 n:1≤a.nodes.length∧a.nodes.length≤4
 nr:∀ v,v∈a.nodes→0≤v∧v<4
 se:zE 0 a.zones=0
 bh:1≤a.batch∧a.batch≤a.high∧a.high≤64
 zn:1≤a.zones.length∧a.zones.length≤6
 cn:a.caches.length=a.nodes.length
 zs:∀ p,p<a.zones.length→OkZ (Zn a p)
 ap:∀ p q f,p<a.zones.length→q<a.zones.length→inside (Zn a p) f 0=true→inside (Zn a q) f 0=true→p=q
 cl:∀ c,c<a.caches.length→(at_ a.caches (c:Int)).lists.length=a.zones.length
 own:∀ c p f,c<a.caches.length→f∈Lf a c p→inside (Zn a p) f 0=true ∧ ¬ cov (Zn a p) f
 nd:∀ c p,c<a.caches.length→(Lf a c p).Nodup
 dis:∀ c d p q f,c<a.caches.length→d<a.caches.length→f∈Lf a c p→f∈Lf a d q→c=d∧p=q
 lim:∀ c p,c<a.caches.length→((Lf a c p).length:Int)≤a.high
section
variable {a:zH}
theorem Wa.pz (h:Wa a) {c p:Nat} {f:Int} (hc:c<a.caches.length) (hf:f∈Lf a c p):p<a.zones.length:=by
 rw [← h.cl c hc]
 exact zYl hf
theorem Wa.pc (h:Wa a) {c:Nat} (hc:c<a.caches.length):Pc (at_ a.caches (c:Int)) a.zones.length:=by
 have hl:=h.cl c hc
 have hlf:∀ l,l∈(at_ a.caches (c:Int)).lists → ∃ p,p<a.zones.length∧l=Lf a c p:=fun l hm=>by
  obtain ⟨p,hp,e⟩:=List.getElem_of_mem hm
  exact ⟨p,by omega,by unfold Lf; rw [zFW hp,e]⟩
 refine ⟨h.zn,hl,fun l hm => ?_,fun l hm f hf => ?_,fun l hm => ?_,fun p q f hp hq h1 h2=>(h.dis c c p q f hc hc h1 h2).2⟩
 ·obtain ⟨p,hp,rfl⟩:=hlf l hm
  have:=h.lim c p hc
  have:=h.bh
  omega
 ·obtain ⟨p,hp,rfl⟩:=hlf l hm
  have hb:=(h.zs p hp).bds (h.own c p f hc hf).1
  rw [pw0] at hb
  unfold zBw
  simp
  omega
 ·obtain ⟨p,hp,rfl⟩:=hlf l hm
  exact h.nd c p hc
end
end Go.Proofs.Ytplkliakhdkpcaa
namespace Go.Proofs.Ytplkliakhdkpcaa
open Go Go.RowKit Go.Wk Go.Am
theorem zOE {α:Type} [Inhabited α] {l:List α} {i j:Nat} {x:α} (h:i<l.length):at_ (l.set i x) (j:Int)=if j=i then x else at_ l (j:Int):=by
 unfold at_
 rw [Int.toNat_natCast,List.getD_eq_getElem?_getD,List.getElem?_set]
 by_cases hj:i=j
 ·rw [if_pos hj,if_pos h,if_pos hj.symm]
  rfl
 ·rw [if_neg hj,if_neg (fun e=>hj e.symm),List.getD_eq_getElem?_getD]
theorem zVf {z:zW}:∀ (zs:List zW) (s:Int) (p:Nat),zE s zs=0→p<zs.length→zEr z=0→zE0 z (at_ zs (p:Int))→zE s (zs.set p z)=0
 | [],_,_,_,hp,_,_=>by simp at hp
 | y::zs,s,p,h,hp,hc,h5=>by
  unfold zE at h
  by_cases hy:zEr y=0
  ·rw [if_pos hy] at h
   by_cases hs:y.start=s
   ·rw [if_pos hs] at h
    cases p with
    | zero =>
     have h5':zE0 z y:=h5
     show zE s (z::zs)=0
     unfold zE
     rw [if_pos hc,if_pos (h5'.2.2.1.trans hs),h5'.2.2.2.1]
     exact h
    | succ p =>
     show zE s (y::zs.set p z)=0
     unfold zE
     rw [if_pos hy,if_pos hs]
     refine zVf zs _ p h (by simpa using hp) hc ?_
     have e:at_ (y::zs) ((p+1:Nat):Int)=at_ zs (p:Int):=rfl
     rw [e] at h5
     exact h5
   ·rw [if_neg hs] at h; cases h
  ·rw [if_neg hy] at h; exact absurd h hy
def upd (a:zH) (c p:Nat) (l:List Int) (z:zW):zH:=⟨a.nodes,a.batch,a.high,a.zones.set p z,a.caches.set c ⟨(at_ a.caches (c:Int)).lists.set p l⟩⟩
section
variable {a:zH} {c p:Nat} {l:List Int} {z:zW}
theorem zRt (hp:p<a.zones.length) (q:Nat):Zn (upd a c p l z) q=if q=p then z else Zn a q:=zOE hp
theorem zR8 (h:Wa a) (hc:c<a.caches.length) (hp:p<a.zones.length) (d q:Nat):Lf (upd a c p l z) d q=if d=c∧q=p then l else Lf a d q:=by
 unfold Lf upd
 rw [zOE hc]
 by_cases hd:d=c
 ·subst hd
  rw [if_pos rfl,zOE (by rw [h.cl d hc]; exact hp)]
  by_cases hq:q=p
  ·rw [if_pos hq,if_pos ⟨rfl,hq⟩]
  ·rw [if_neg hq,if_neg (fun e=>hq e.2)]
 ·rw [if_neg hd,if_neg (fun e=>hd e.1)]
theorem zOK (h:Wa a) (hc:c<a.caches.length) (hp:p<a.zones.length) (hz:OkZ z) (h5:zE0 z (Zn a p)) (hl:(l.length:Int)≤a.high) (hn:l.Nodup)
  (hi:∀ f,f∈l→inside (Zn a p) f 0=true ∧ ¬ cov z f) (hd:∀ d f,d<a.caches.length→d≠c→f∈Lf a d p→f ∉ l ∧ ¬ cov z f):Wa (upd a c p l z):=by
 have hZ:=fun q=>zRt (c:=c) (l:=l) (z:=z) hp q
 have hL:=fun d q=>zR8 (l:=l) (z:=z) h hc hp d q
 have hzl:(upd a c p l z).zones.length=a.zones.length:=List.length_set
 have hcl:(upd a c p l z).caches.length=a.caches.length:=List.length_set
 have hin:∀ q f,inside (Zn (upd a c p l z) q) f 0=inside (Zn a q) f 0:=fun q f=>by
  rw [hZ q]
  by_cases hq:q=p
  ·rw [if_pos hq,hq,h5.inside]
  ·rw [if_neg hq]
 have hq':∀ d q f,d<a.caches.length→f∈Lf a d q→f∈l→q=p:=fun d q f hd1 hf hfl=>h.ap q p f (h.pz hd1 hf) hp (h.own d q f hd1 hf).1 (hi f hfl).1
 refine ⟨h.n,h.nr,zVf a.zones 0 p h.se hp (zC9 hz) h5,h.bh,by rw [hzl]; exact h.zn,by rw [hcl]; exact h.cn,fun q hq => ?_,fun q r f hq hr h1 h2 => ?_,fun d hd1 => ?_,fun d q f hd1 hf => ?_,fun d q hd1 => ?_,fun d e q r f hd1 he h1 h2 => ?_,fun d q hd1 => ?_⟩
 ·rw [hZ q]
  by_cases e:q=p
  ·rw [if_pos e]; exact hz
  ·rw [if_neg e]; exact h.zs q (by rwa [hzl] at hq)
 ·rw [hin] at h1 h2
  exact h.ap q r f (by rwa [hzl] at hq) (by rwa [hzl] at hr) h1 h2
 ·rw [hcl] at hd1
  rw [hzl]
  show (at_ (a.caches.set c _) (d:Int)).lists.length=_
  rw [zOE hc]
  by_cases e:d=c
  ·rw [if_pos e]
   show ((at_ a.caches (c:Int)).lists.set p l).length=_
   rw [List.length_set,h.cl c hc]
  ·rw [if_neg e]; exact h.cl d hd1
 ·rw [hcl] at hd1
  rw [hin,hZ q]
  rw [hL d q] at hf
  by_cases e:d=c∧q=p
  ·rw [if_pos e] at hf
   rw [if_pos e.2,e.2]
   exact hi f hf
  ·rw [if_neg e] at hf
   refine ⟨(h.own d q f hd1 hf).1,?_⟩
   by_cases hqp:q=p
   ·subst hqp
    rw [if_pos rfl]
    exact (hd d f hd1 (fun x=>e ⟨x,rfl⟩) hf).2
   ·rw [if_neg hqp]; exact (h.own d q f hd1 hf).2
 ·rw [hcl] at hd1
  rw [hL d q]
  by_cases e:d=c∧q=p
  ·rw [if_pos e]; exact hn
  ·rw [if_neg e]; exact h.nd d q hd1
 ·rw [hcl] at hd1 he
  rw [hL d q] at h1
  rw [hL e r] at h2
  by_cases e1:d=c∧q=p
  ·rw [if_pos e1] at h1
   by_cases e2:e=c∧r=p
   ·exact ⟨e1.1.trans e2.1.symm,e1.2.trans e2.2.symm⟩
   ·rw [if_neg e2] at h2
    have hr:=hq' e r f he h2 h1
    subst hr
    exact absurd h1 (hd e f he (fun x=>e2 ⟨x,rfl⟩) h2).1
  ·rw [if_neg e1] at h1
   by_cases e2:e=c∧r=p
   ·rw [if_pos e2] at h2
    have hr:=hq' d q f hd1 h1 h2
    subst hr
    exact absurd h2 (hd d f hd1 (fun x=>e1 ⟨x,rfl⟩) h1).1
   ·rw [if_neg e2] at h2
    exact h.dis d e q r f hd1 he h1 h2
 ·rw [hcl] at hd1
  rw [hL d q]
  by_cases e:d=c∧q=p
  ·rw [if_pos e]; exact hl
  ·rw [if_neg e]; exact h.lim d q hd1
theorem zYQ {f:Int} (h:OkZ z) (hi:inside z f 0=true) (hn:¬ cov z f):zIX z f 0=some (zOW 4 z f 0,0) :=
 zVc (k:=0) h.zk h.inI (zC9 h) (by omega) hi (fun g g1 g2=>by
  rw [pw0] at g2
  have:g=f:=by omega
  rw [this]; exact hn)
theorem zZB {f:Int} (h:OkZ z) (hi:inside z f 0=true) (hn:¬ cov z f):zLD z f 0=some (zOW 4 z f 0,0) :=
 zVU (k:=0) h.zk (zC9 h) (by omega) hi (fun g g1 g2=>by
  rw [pw0] at g2
  have:g=f:=by omega
  rw [this]; exact hn)
theorem zTc {fs:List Int} (hfs:fs.length≤1000):∀ (m n i:Nat) (zs:List zW),i+m=fs.length→m<n→p<zs.length→OkZ (at_ zs (p:Int))→(∀ f,f∈fs.drop i→inside (at_ zs (p:Int)) f 0=true ∧ ¬ cov (at_ zs (p:Int)) f)→(fs.drop i).Nodup →
  zDf a (p:Int) fs n (i:Int) zs=some ⟨a.nodes,a.batch,a.high,zs.set p (zKs (at_ zs (p:Int)) (fs.drop i)),a.caches⟩ ∧
  zJ1 a (p:Int) fs n (i:Int) zs=some ⟨a.nodes,a.batch,a.high,zs.set p (zKs (at_ zs (p:Int)) (fs.drop i)),a.caches⟩:=by
 intro m
 induction m with
 | zero =>
  intro n i zs h1 h2 hp _ _ _
  obtain ⟨n,rfl⟩:=ex1 ‹_<n›
  rw [List.drop_eq_nil_of_le (by omega)]
  show zCg _ _ _ _ _ _=some (⟨_,_,_,zs.set p (at_ zs (p:Int)),_⟩:zH)∧zGv _ _ _ _ _ _=some (⟨_,_,_,zs.set p (at_ zs (p:Int)),_⟩:zH)
  unfold zCg zGv
  rw [zf (df (by omega)),zf (df (by omega)),zJA hp]
  exact ⟨rfl,rfl⟩
 | succ m ih =>
  intro n i zs h1 h2 hp ho hf hn
  obtain ⟨n,rfl⟩:=ex1 ‹_<n›
  have hi:i<fs.length:=by omega
  rw [zC4 hi] at hf hn ⊢
  have h0:=hf (at_ fs (i:Int)) (by simp)
  have hnd:=List.nodup_cons.1 hn
  obtain ⟨q1,q2,q3⟩:=OkZ.put 4 (k:=0) (by omega) ho h0.1 (fun g g1 g2=>by
   rw [pw0] at g2
   have:g=at_ fs (i:Int):=by omega
   rw [this]; exact h0.2)
  have e1:at_ (zs.set p (zOW 4 (at_ zs (p:Int)) (at_ fs (i:Int)) 0)) (p:Int)=zOW 4 (at_ zs (p:Int)) (at_ fs (i:Int)) 0:=by rw [zOE hp,if_pos rfl]
  have hr:=ih n (i+1) (zs.set p (zOW 4 (at_ zs (p:Int)) (at_ fs (i:Int)) 0)) (by omega) (by omega) (by rw [List.length_set]; exact hp) (by rw [e1]; exact q1) (fun g hg=>by
   rw [e1,q3.inside]
   refine ⟨(hf g (by simp [hg])).1,fun hc => ?_⟩
   rcases (q2 g).1 hc with hc | hc
   ·exact (hf g (by simp [hg])).2 hc
   ·rw [pw0] at hc
    have:g=at_ fs (i:Int):=by omega
    exact hnd.1 (this▸hg)) hnd.2
  rw [e1,List.set_set] at hr
  show zCg _ _ _ _ _ _=some (⟨_,_,_,zs.set p (zKs (zOW 4 (at_ zs (p:Int)) (at_ fs (i:Int)) 0) (fs.drop (i+1))),_⟩:zH)∧zGv _ _ _ _ _ _=some (⟨_,_,_,zs.set p (zKs (zOW 4 (at_ zs (p:Int)) (at_ fs (i:Int)) 0) (fs.drop (i+1))),_⟩:zH)
  unfold zCg zGv zEl
  rw [zz (dt (by omega)),zz (dt (by omega)),zP (zAD hi),zP (zAD hp),zP (zAD hp),zP (zAD hi),zYQ ho h0.1 h0.2,zZB ho h0.1 h0.2,zAw,zAw,zz (dt rfl),zP (zu (by omega)),zP (zu (by omega))]
  exact hr
theorem zUJ {fs:List Int} (hfs:fs.length≤1000) (hp:p<a.zones.length) (ho:OkZ (Zn a p)) (hf:∀ f,f∈fs→inside (Zn a p) f 0=true ∧ ¬ cov (Zn a p) f) (hn:fs.Nodup) :
  zEK a (p:Int) fs=some ⟨a.nodes,a.batch,a.high,a.zones.set p (zKs (Zn a p) fs),a.caches⟩∧zLJ a (p:Int) fs=some ⟨a.nodes,a.batch,a.high,a.zones.set p (zKs (Zn a p) fs),a.caches⟩ :=
 zTc (a:=a) hfs fs.length z5 0 a.zones (by omega) (by unfold z5; omega) hp ho hf hn
theorem zYZ (h:Va a) (hw:Wa a) {f:Int} (hp:p<a.zones.length) (hi:inside (Zn a p) f 0=true):∃ b,zDU a (p:Int) f=some b∧zPJ a (p:Int) f=some b∧(b=true↔cov (Zn a p) f ∨ ∃ c,c<a.caches.length∧f∈Lf a c p):=by
 have hzk:=h.al.zk _ (zAv hp)
 have hcl:=h.al.c
 obtain ⟨r1,q1,s1⟩:=zTC h (f:=f) hp a.caches.length z5 0 (by omega) (by unfold z5; omega)
 obtain ⟨r2,q2,s2⟩:=zUZ h (f:=f) hp a.caches.length z5 0 (by omega) (by unfold z5; omega)
 have ed:decide (0≤r1)=decide (0≤r2):=decide_eq_decide.2 (s1.trans s2.symm)
 have e1:zCd a (p:Int) f=some r1:=by
  unfold zCd zAa
  rw [z0i,q1]
  rfl
 have e2:zK7 a (p:Int) f=some r2:=q2
 have hc:=zRn hzk.1 (zC9 (hw.zs p hp)) hi
 have hs:0≤r1 ↔ ∃ c,c<a.caches.length∧f∈Lf a c p:=by
  rw [s1,List.drop_zero]
  constructor
  ·rintro ⟨c,h1,h2⟩
   obtain ⟨d,hd,e⟩:=List.getElem_of_mem h1
   exact ⟨d,hd,by unfold Lf; rw [zFW hd,e]; exact h2⟩
  ·rintro ⟨c,h1,h2⟩
   exact ⟨_,zAv h1,h2⟩
 unfold zDU zPJ
 rw [zP (zAD hp),zP (zAD hp),zYz hzk.1 hzk.2,zZN hzk.1,zAw,zAw,e1,e2]
 cases hz:zKu (at_ a.zones (p:Int)) f with
 | true=>exact ⟨true,rfl,rfl,fun _ => .inl (hc.1 hz),fun _=>rfl⟩
 | false =>
  refine ⟨decide (0≤r1),?_,?_,?_⟩
  ·show some (false||decide (0≤r1))=_
   rw [Bool.false_or]
  ·show some (false||decide (0≤r2))=_
   rw [Bool.false_or,ed]
  ·rw [decide_eq_true_eq,hs]
   exact ⟨.inr,fun x=>x.resolve_left fun y=>by rw [show zKu (at_ a.zones (p:Int)) f=true from hc.2 y] at hz; cases hz⟩
def zRJ (a:zH) (c p:Nat) (f:Int):zH:=⟨a.nodes,a.batch,a.high,a.zones.set p (zKs (Zn a p) (zNW (at_ a.caches (c:Int)) p f a.batch a.high).2),a.caches.set c (zNW (at_ a.caches (c:Int)) p f a.batch a.high).1⟩
theorem zVw (hw:Wa a) {f:Int} (hc:c<a.caches.length) (hp:p<a.zones.length) (hi:inside (Zn a p) f 0=true) (hn:¬ cov (Zn a p) f) (hq:∀ d,d<a.caches.length→f ∉ Lf a d p) :
  zIW (at_ a.caches (c:Int)) (p:Int) f a.batch a.high=some ((zNW (at_ a.caches (c:Int)) p f a.batch a.high).1,(zNW (at_ a.caches (c:Int)) p f a.batch a.high).2,0) ∧
  zOY (at_ a.caches (c:Int)) (p:Int) f a.batch a.high=some ((zNW (at_ a.caches (c:Int)) p f a.batch a.high).1,(zNW (at_ a.caches (c:Int)) p f a.batch a.high).2,0) ∧
  (∀ cs,zEK ⟨a.nodes,a.batch,a.high,a.zones,cs⟩ (p:Int) (zNW (at_ a.caches (c:Int)) p f a.batch a.high).2=some ⟨a.nodes,a.batch,a.high,a.zones.set p (zKs (Zn a p) (zNW (at_ a.caches (c:Int)) p f a.batch a.high).2),cs⟩ ∧
   zLJ ⟨a.nodes,a.batch,a.high,a.zones,cs⟩ (p:Int) (zNW (at_ a.caches (c:Int)) p f a.batch a.high).2=some ⟨a.nodes,a.batch,a.high,a.zones.set p (zKs (Zn a p) (zNW (at_ a.caches (c:Int)) p f a.batch a.high).2),cs⟩)∧Wa (zRJ a c p f):=by
 have hpc:=hw.pc hc
 have hb:=(hw.zs p hp).bds hi
 rw [pw0] at hb
 have hlim:=hw.lim c p hc
 have hnd:=hw.nd c p hc
 have hbh:=hw.bh
 have hfr:zBw f=true:=by unfold zBw; simp; omega
 have hfl:f ∉ (at_ a.caches (c:Int)).lists.flatten:=fun hm=>by
  obtain ⟨l,hl,hfm⟩:=List.mem_flatten.1 hm
  obtain ⟨q,hq1,e⟩:=List.getElem_of_mem hl
  have hfq:f∈Lf a c q:=by unfold Lf; rw [zFW hq1,e]; exact hfm
  have:=hw.ap q p f (hw.pz hc hfq) hp (hw.own c q f hc hfq).1 hi
  subst this
  exact hq c hc hfq
 have hx:∀ g,g∈Lf a c p++[f]→inside (Zn a p) g 0=true ∧ ¬ cov (Zn a p) g:=fun g hg=>by
  rcases List.mem_append.1 hg with hg | hg
  ·exact hw.own c p g hc hg
  ·rw [List.mem_singleton.1 hg]; exact ⟨hi,hn⟩
 have hxn:(Lf a c p++[f]).Nodup:=by
  rw [List.nodup_append]
  exact ⟨hnd,by simp,fun x hx' y hy e=>by rw [List.mem_singleton.1 hy] at e; rw [e] at hx'; exact hq c hc hx'⟩
 have hl1:(Lf a c p++[f]).length=(Lf a c p).length+1:=by simp
 have hdd:∀ d g,d<a.caches.length→d≠c→g∈Lf a d p→g ∉ Lf a c p++[f]:=fun d g hd hdc hg hm=>by
  rcases List.mem_append.1 hm with hm | hm
  ·exact hdc (hw.dis d c p p g hd hc hg hm).1
  ·rw [List.mem_singleton.1 hm] at hg; exact hq d hd hg
 refine ⟨zZz hpc hp hfr hbh hfl,zaA hpc hp hfr hbh hfl,fun cs => ?_,?_⟩
 ·have hsp:∀ g,g∈(zNW (at_ a.caches (c:Int)) p f a.batch a.high).2→g∈Lf a c p++[f]:=fun g hg=>by
   unfold zNW at hg
   split at hg
   ·cases hg
   ·exact List.mem_of_mem_take hg
  have hsn:(zNW (at_ a.caches (c:Int)) p f a.batch a.high).2.Nodup:=by
   unfold zNW
   split
   ·exact List.nodup_nil
   ·exact hxn.sublist (List.take_sublist _ _)
  have hsl:(zNW (at_ a.caches (c:Int)) p f a.batch a.high).2.length≤1000:=by
   unfold zNW
   split
   ·exact Nat.zero_le _
   ·show (List.take _ (Lf a c p++[f])).length≤_
    rw [List.length_take]; omega
  exact zUJ (a:=⟨a.nodes,a.batch,a.high,a.zones,cs⟩) hsl hp (hw.zs p hp) (fun g hg=>hx g (hsp g hg)) hsn
 ·unfold zRJ zNW
  by_cases hh:((at_ (at_ a.caches (c:Int)).lists (p:Int)++[f]).length:Int)≤a.high
  ·rw [if_pos hh]
   exact zOK (z:=Zn a p) hw hc hp (hw.zs p hp) ⟨rfl,rfl,rfl,rfl,rfl⟩ hh hxn hx (fun d g hd hdc hg=>⟨hdd d g hd hdc hg,(hw.own d p g hd hg).2⟩)
  ·rw [if_neg hh]
   obtain ⟨g1,g2,g3⟩:=zLE (((Lf a c p)++[f]).take a.batch.toNat) (hw.zs p hp) (fun g hg=>hx g (List.mem_of_mem_take hg)) (hxn.sublist (List.take_sublist _ _))
   have hh':a.high<((Lf a c p++[f]).length:Int):=Int.not_le.1 hh
   have hdj:∀ g,g∈(Lf a c p++[f]).drop a.batch.toNat→g ∉ (Lf a c p++[f]).take a.batch.toNat:=fun g h1 h2=>by
    have:=hxn
    rw [← List.take_append_drop a.batch.toNat (Lf a c p++[f]),List.nodup_append] at this
    exact this.2.2 g h2 g h1 rfl
   refine zOK hw hc hp g1 g3 ?_ (hxn.sublist (List.drop_sublist _ _)) (fun g hg => ?_) (fun d g hd hdc hg=>⟨fun hm=>hdd d g hd hdc hg (List.mem_of_mem_drop hm),fun hcv => ?_⟩)
   ·show (((Lf a c p++[f]).drop a.batch.toNat).length:Int)≤_
    rw [List.length_drop]
    omega
   ·have h1:=hx g (List.mem_of_mem_drop hg)
    refine ⟨h1.1,fun hcv => ?_⟩
    rcases (g2 g).1 hcv with h | h
    ·exact h1.2 h
    ·exact hdj g hg h
   ·rcases (g2 g).1 hcv with h | h
    ·exact (hw.own d p g hd hg).2 h
    ·exact hdd d g hd hdc hg (List.mem_of_mem_take h)
end
end Go.Proofs.Ytplkliakhdkpcaa
namespace Go.Proofs.Ytplkliakhdkpcaa
open Go Go.RowKit Go.Wk Go.Am
def zML (z:zW) (f:Int) (k:Nat):Nat→zW
 | 0=>z
 | m+1=>zML (zNK z (f+2 ^ (k+m)) (k+m)) f k m
structure zUn (z:zW) (f:Int) (q:Nat):Prop where
 al:f%2 ^ q=0
 lo:z.start≤f
 hi:f+2 ^ q≤z.start+z.count
 no:∀ g,f≤g→g<f+2 ^ q → ¬ cov z g
section
variable {z:zW} {f:Int} {k j:Nat}
theorem zLF {q:Nat} (ho:OkZ z) (hq:q<4) (h:zUn z f (q+1)):OkZ (zNK z (f+2 ^ q) q)∧(∀ g,cov (zNK z (f+2 ^ q) q) g↔cov z g∨(f+2 ^ q≤g∧g<f+2 ^ (q+1)))∧zE0 (zNK z (f+2 ^ q) q) z∧zUn (zNK z (f+2 ^ q) q) f q:=by
 obtain ⟨h1,h2,h3,h4⟩:=h
 have hp:=zGm q
 have hs:=zJP q
 have hr:=zA4 ho.ranges
 obtain ⟨a1,a2⟩:=zRa h1
 have hin:inside z (f+2 ^ q) q=true:=(zAz ho.ranges).2 ⟨by omega,a2,by omega,by omega⟩
 have hfn:f ∉ lst z q:=fun hm=>h4 f (by omega) (by omega) ⟨q,f,hm,by omega,by omega⟩
 have hj:zLQ z (f+2 ^ q) q=false:=by
  have hb:bud (f+2 ^ q) q=f:=by
   rcases zND hq (show 0≤f+2 ^ q by omega) (by omega) a2 with ⟨e,_⟩ | ⟨_,e⟩
   ·exfalso
    rcases (show q=0∨q=1∨q=2∨q=3 by omega) with rfl | rfl | rfl | rfl
    ·have e':(f+1)%2=0:=e
     have h':f%2=0:=h1
     omega
    ·have e':(f+2)%4=0:=e
     have h':f%4=0:=h1
     omega
    ·have e':(f+4)%8=0:=e
     have h':f%8=0:=h1
     omega
    ·have e':(f+8)%16=0:=e
     have h':f%16=0:=h1
     omega
   ·rw [e]; omega
  unfold zLQ
  rw [hb,df hfn]
  rfl
 obtain ⟨q1,q2,q3⟩:=ho.insert (by omega) hin (fun g g1 g2=>h4 g (by omega) (by omega)) (fun _=>hj)
 refine ⟨q1,fun g => ?_,q3,a1,?_,?_,fun g g1 g2 hc => ?_⟩
 ·rw [q2 g]
  constructor
  ·rintro (h | h)
   ·exact .inl h
   ·exact .inr (by omega)
  ·rintro (h | h)
   ·exact .inl h
   ·exact .inr (by omega)
 ·rw [q3.2.2.1]; exact h2
 ·rw [q3.2.2.1,q3.2.2.2.1]; omega
 ·rcases (q2 g).1 hc with h | h
  ·exact h4 g g1 (by omega) h
  ·omega
theorem zRF (k:Nat):∀ m:Nat,(2:Int) ^ k≤2 ^ (k+m)
 | 0=>Int.le_refl _
 | m+1=>by
  have h1:=zRF k m
  have h2:=zJP (k+m)
  have h3:=zGm (k+m)
  rw [show k+(m+1)=k+m+1 by omega]
  omega
theorem zSl:∀ (m:Nat) {z:zW},k+m≤4→OkZ z→zUn z f (k+m)→OkZ (zML z f k m)∧(∀ g,cov (zML z f k m) g↔cov z g∨(f+2 ^ k≤g∧g<f+2 ^ (k+m)))∧zE0 (zML z f k m) z
 | 0,z,_,ho,_=>⟨ho,fun g=>⟨.inl,fun h=>h.elim id (fun h=>by rw [Nat.add_zero] at h; omega)⟩,⟨rfl,rfl,rfl,rfl,rfl⟩⟩
 | m+1,z,hk,ho,h=>by
  obtain ⟨q1,q2,q3,q4⟩:=zLF ho (q:=k+m) (by omega) h
  obtain ⟨r1,r2,r3⟩:=zSl m (by omega) q1 q4
  refine ⟨r1,fun g => ?_,r3.trans q3⟩
  show cov (zML (zNK z (f+2 ^ (k+m)) (k+m)) f k m) g↔_
  have hle:=zRF k m
  have hs:=zJP (k+m)
  have hp:=zGm (k+m)
  rw [r2 g,q2 g,show k+(m+1)=k+m+1 by omega]
  constructor
  ·rintro ((h | h) | h)
   ·exact .inl h
   ·exact .inr (by omega)
   ·exact .inr (by omega)
  ·rintro (h | h)
   ·exact .inl (.inl h)
   ·by_cases hg:f+2 ^ (k+m)≤g
    ·exact .inl (.inr (by omega))
    ·exact .inr (by omega)
theorem zXU (hj:j≤4) (hf:at_ (lst z j) (0:Int)=f):∀ (m n:Nat) (y:zW),k+m≤j→m<n→OkZ y→zE0 y z→zUn y f (k+m)→zFG (k:Int) (j:Int) z n ((k+m:Nat):Int) y.free=some (zML y f k m,f,0):=by
 intro m
 induction m with
 | zero =>
  intro n y h1 h2 ho h5 hh
  obtain ⟨n,rfl⟩:=ex1 ‹_<n›
  show zEJ _ _ _ _ _ _=_
  unfold zEJ zHc
  rw [zf (df (by omega)), ← h5.1, ← h5.2.1, ← h5.2.2.1, ← h5.2.2.2.1, ← h5.2.2.2.2]
  show some (_,at_ (lst z j) (0:Int),0)=_
  rw [hf]
  rfl
 | succ m ih =>
  intro n y h1 h2 ho h5 hh
  obtain ⟨n,rfl⟩:=ex1 ‹_<n›
  obtain ⟨q1,q2,q3,q4⟩:=zLF ho (q:=k+m) (by omega) hh
  obtain ⟨e1,p1,p2⟩:=zH6 (k:=k+m) (by omega)
  have hb:=zA4 ho.ranges
  have hlo:=hh.lo
  have hhi:=hh.hi
  have hpp:=zGm (k+(m+1))
  have hP:=ho.putI
  have h5l:=ho.len
  have hi2:((k+(m+1):Nat):Int) - 1=((k+m:Nat):Int):=by omega
  have hfe:at_ (z.free.getD (j:Int).toNat []) (0:Int)=f:=hf
  have hl:y.free.getD ((k+m:Nat):Int).toNat []=lst y (k+m):=rfl
  have hok:zOZ (lst y (k+m)) (lb (lst y (k+m)) (f+2 ^ (k+m)):Int)=true:=by
   have h1:=zUx (lst y (k+m)) (f+2 ^ (k+m))
   have h2:=hP.len' (k+m)
   unfold zOZ
   rw [dt (by omega),dt (by omega),dt (by omega)]
   rfl
  show zEJ _ _ _ _ _ _=_
  unfold zEJ
  rw [zz (dt (by omega)),zP (zu (by omega)),hi2,zP (zM4 (by omega)),e1,hfe,zP (zu (by omega)),zP (zu (by omega)),zP (zAD (by omega)),zP (dt (by omega)),hl,zQd (hP.srt' _) (by have:=hP.len' (k+m); omega),zAw,zP hok]
  show zFG (k:Int) (j:Int) z n ((k+m:Nat):Int) (zDY 5 [] y.free (k+m) (zS8 (lst y (k+m)) (f+2 ^ (k+m))))=_
  rw [zJb h5l (by omega)]
  exact ih n (zNK y (f+2 ^ (k+m)) (k+m)) (by omega) (by omega) q1 (q3.trans h5) q4
def zNU (z:zW):Nat→Nat→Option Nat
 | _,0=>none
 | i,m+1=>if lst z i=[] then zNU z (i+1) m else some i
theorem zQK:∀ {m i j:Nat},zNU z i m=some j→i≤j∧j<i+m∧lst z j≠[] ∧ ∀ q,i≤q→q<j→lst z q=[]
 | 0,_,_,h=>by cases h
 | m+1,i,j,h=>by
  unfold zNU at h
  by_cases h0:lst z i=[]
  ·rw [if_pos h0] at h
   obtain ⟨h1,h2,h3,h4⟩:=zQK h
   refine ⟨by omega,by omega,h3,fun q q1 q2 => ?_⟩
   by_cases e:q=i
   ·rw [e]; exact h0
   ·exact h4 q (by omega) q2
  ·rw [if_neg h0] at h
   cases h
   exact ⟨Nat.le_refl _,by omega,h0,fun q q1 q2=>by omega⟩
theorem zQy:∀ {m i:Nat},zNU z i m=none → ∀ q,i≤q→q<i+m→lst z q=[]
 | 0,_,_,q,_,_=>by omega
 | m+1,i,h,q,q1,q2=>by
  unfold zNU at h
  by_cases h0:lst z i=[]
  ·rw [if_pos h0] at h
   by_cases e:q=i
   ·rw [e]; exact h0
   ·exact zQy h q (by omega) (by omega)
  ·rw [if_neg h0] at h; cases h
def zDG (z:zW) (k:Nat):zW×Int×Int:=match zNU z k (5 - k) with
 | none=>(⟨0,0,0,0,0,List.replicate 5 []⟩,0,16)
 | some j=>(zML (zMb z (at_ (lst z j) (0:Int)) j) (at_ (lst z j) (0:Int)) k (j - k),at_ (lst z j) (0:Int),0)
theorem zXt {l:List Int} (h:l≠[]):∃ x r,l=x::r∧at_ l (0:Int)=x:=by
 cases l with
 | nil=>exact absurd rfl h
 | cons x r=>exact ⟨x,r,rfl,rfl⟩
theorem zX6 (ho:OkZ z) (h:lst z j≠[]):zMb z (at_ (lst z j) (0:Int)) j=zUU z j ((lst z j).drop 1):=by
 obtain ⟨x,r,e1,e2⟩:=zXt h
 have hs:=ho.srt j
 unfold zMb
 rw [e2]
 rw [e1] at hs ⊢
 rw [zRD (fun y hy=>by
  rcases List.mem_cons.1 hy with rfl | hy
  ·exact Int.le_refl _
  ·exact Int.le_of_lt ((List.pairwise_cons.1 hs).1 y hy))]
 rfl
theorem zPx (ho:OkZ z) (hj:j≤4) (h:f∈lst z j):OkZ (zMb z f j)∧(∀ g,cov (zMb z f j) g↔cov z g ∧ ¬ (f≤g∧g<f+2 ^ j))∧zE0 (zMb z f j) z∧zUn (zMb z f j) f j:=by
 obtain ⟨q1,q2,q3⟩:=ho.del h
 have hb:=ho.bds (ho.ins j f h)
 refine ⟨q1,q2,q3,hb.2.2.2.2,?_,?_,fun g g1 g2 hc=>((q2 g).1 hc).2 ⟨g1,g2⟩⟩
 ·rw [q3.2.2.1]; exact hb.2.2.1
 ·rw [q3.2.2.1,q3.2.2.2.1]; exact hb.2.2.2.1
theorem zNx (ho:OkZ z) (hj:zNU z k (5 - k)=some j):(zDG z k).2.2=0∧OkZ (zDG z k).1∧zE0 (zDG z k).1 z∧inside z (zDG z k).2.1 k=true∧(∀ g,cov (zDG z k).1 g↔cov z g ∧ ¬ ((zDG z k).2.1≤g∧g<(zDG z k).2.1+2 ^ k))∧(∀ g,(zDG z k).2.1≤g→g<(zDG z k).2.1+2 ^ k→cov z g):=by
 obtain ⟨h1,h2,h3,_⟩:=zQK hj
 unfold zDG
 rw [hj]
 dsimp only
 obtain ⟨x,r,e1,e2⟩:=zXt h3
 have hx:at_ (lst z j) (0:Int)∈lst z j:=by rw [e2,e1]; simp
 obtain ⟨q1,q2,q3,q4⟩:=zPx ho (by omega) hx
 have e:k+(j - k)=j:=by omega
 obtain ⟨r1,r2,r3⟩:=zSl (f:=at_ (lst z j) (0:Int)) (k:=k) (j - k) (by omega) q1 (by rw [e]; exact q4)
 have hpk:=zGm k
 have hle:=zRF k (j - k)
 rw [e] at hle
 have hb:=ho.bds (ho.ins j _ hx)
 have hcv:∀ g,at_ (lst z j) (0:Int)≤g→g<at_ (lst z j) (0:Int)+2 ^ j→cov z g:=fun g g1 g2=>⟨j,_,hx,g1,g2⟩
 refine ⟨rfl,r1,r3.trans q3,?_,fun g => ?_,fun g g1 g2=>hcv g g1 (by omega)⟩
 ·refine (zAz ho.ranges).2 ⟨hb.2.2.1,?_,?_,?_⟩
  ·have h9:=hb.2.2.2.2
   have h10:(2:Int) ^ j=2 ^ k*2 ^ (j - k):=by rw [← Int.pow_add,e]
   rw [h10] at h9
   exact Int.emod_eq_zero_of_dvd (Int.dvd_trans ⟨_,rfl⟩ (Int.dvd_of_emod_eq_zero h9))
  ·omega
  ·omega
 ·rw [r2 g,q2 g,e]
  constructor
  ·rintro (⟨h,h'⟩ | h)
   ·exact ⟨h,fun hh=>h' ⟨hh.1,by have:=hh.2; omega⟩⟩
   ·exact ⟨hcv g (by omega) h.2,fun hh=>by have:=hh.2; omega⟩
  ·rintro ⟨h,h'⟩
   by_cases hg:at_ (lst z j) (0:Int)≤g∧g<at_ (lst z j) (0:Int)+2 ^ j
   ·refine .inr ⟨?_,hg.2⟩
    by_cases hh:at_ (lst z j) (0:Int)+2 ^ k≤g
    ·exact hh
    ·exact absurd ⟨hg.1,by omega⟩ h'
   ·exact .inl ⟨h,hg⟩
theorem zXi (ho:OkZ z) (hk:k≤4):∀ (m n i:Nat),i+m=5→m<n→k≤i→zF8 z (k:Int) n (i:Int)=match zNU z i m with
  | none=>some (⟨0,0,0,0,0,List.replicate 5 []⟩,0,16)
  | some j=>some (zML (zMb z (at_ (lst z j) (0:Int)) j) (at_ (lst z j) (0:Int)) k (j - k),at_ (lst z j) (0:Int),0):=by
 intro m
 induction m with
 | zero =>
  intro n i h1 h2 h3
  obtain ⟨n,rfl⟩:=ex1 ‹_<n›
  show zEO _ _ _ _=some (⟨0,0,0,0,0,List.replicate 5 []⟩,0,16)
  unfold zEO zGK
  rw [df (p:=(i:Int)≤4) (by omega),zP (by rfl),zf (by rfl),zz (dt (by omega))]
 | succ m ih =>
  intro n i h1 h2 h3
  obtain ⟨n,rfl⟩:=ex1 ‹_<n›
  have hll:=ho.putI.len' i
  have hl:z.free.getD (i:Int).toNat []=lst z i:=rfl
  show zEO _ _ _ _=_
  unfold zEO zNU
  rw [hl,dt (p:=(i:Int)≤4) (by omega),zP (zNN (zAD (by omega)))]
  by_cases h0:lst z i=[]
  ·rw [if_pos h0,zz (by rw [h0]; rfl),zP (zu (by omega))]
   exact ih n (i+1) (by omega) (by omega) (by omega)
  ·obtain ⟨x,r,e1,e2⟩:=zXt h0
   have hlen:(lst z i).length=r.length+1:=by rw [e1]; rfl
   have hx:at_ (lst z i) (0:Int)∈lst z i:=by rw [e2,e1]; simp
   obtain ⟨q1,q2,q3,q4⟩:=zPx ho (by omega) hx
   have ecut:zFX (lst z i) 1 ((lst z i).length:Int)=(lst z i).drop 1:=by
    unfold zFX
    rw [Int.toNat_natCast,List.take_length]
    rfl
   rw [if_neg h0,zf (by rw [df (by omega)]; rfl)]
   unfold zGK
   rw [zf (df (by omega)),zUa ho.zk,zAw,hl,zP (zAD (by omega)),zP (dt (by omega)),zP (zPr (by omega)),zP (by unfold zHG; simp; omega),zP (dt (by omega)),ecut,Int.toNat_natCast,zJb ho.len (by omega)]
   have e:k+(i - k)=i:=by omega
   have:=zXU (z:=z) (f:=at_ (lst z i) (0:Int)) (k:=k) (j:=i) (by omega) rfl (i - k) z5 (zMb z (at_ (lst z i) (0:Int)) i) (by omega) (by unfold z5; omega) q1 q3 (by rw [e]; exact q4)
   rw [e,zX6 ho h0] at this
   show _=some (zML (zMb z (at_ (lst z i) (0:Int)) i) (at_ (lst z i) (0:Int)) k (i - k),at_ (lst z i) (0:Int),0)
   rw [zX6 ho h0]
   exact this
theorem zX8 (ho:OkZ z) (hk:k≤4):zHV z (k:Int)=some (zDG z k):=by
 unfold zHV zDG
 rw [zO3 ho.zk ho.inI,zC9 ho,zAw,dt rfl,Bool.not_true,zf rfl,df (by omega),df (by omega),zf (by rfl),zXi ho hk (5 - k) z5 k (by omega) (by unfold z5; omega) (Nat.le_refl _)]
 cases zNU z k (5 - k) <;> rfl
theorem zW1 (ho:OkZ z) (hk:k≤4) (hj:zNU z k (5 - k)=some j):∀ (m n i:Nat) (s:List Int),(i:Int)+m=at_ (lst z j) (0:Int)+2 ^ k→m<n→at_ (lst z j) (0:Int)≤i→s.length=256 →
  (∀ g:Nat,s.getD g 0=if at_ (lst z j) (0:Int)≤(g:Int)∧(g:Int)<i then 0 else (zN6 z).getD g 0)→zJT z (k:Int) (j:Int) n (i:Int) s=some (zDG z k):=by
 obtain ⟨hr,hin,_⟩:=zFK ho.zk (zC9 ho)
 obtain ⟨w1,w2,w3,w4,w5,w6⟩:=zNx ho hj
 have ef:(zDG z k).2.1=at_ (lst z j) (0:Int):=by unfold zDG; rw [hj]
 have er:zDG z k=((zDG z k).1,at_ (lst z j) (0:Int),0):=by rw [← ef, ← w1]
 have hb:=zAU hr w4
 rw [ef] at w5 w6 hb
 obtain ⟨e,p1,p2⟩:=zH6 (k:=k) (by omega)
 obtain ⟨_,h01⟩:=zKE ho.zk (zC9 ho)
 have ell:at_ (z.free.getD (j:Int).toNat []) (0:Int)=at_ (lst z j) (0:Int):=rfl
 intro m
 induction m with
 | zero =>
  intro n i s h1 h2 h3 h4 h5
  obtain ⟨n,rfl⟩:=ex1 ‹_<n›
  have hw:=zRg (z:=z) (s:=s) h4 w2 w3 (fun g=>by
   rw [w5]
   constructor
   ·rintro ⟨⟨q,x,hx,x1,x2⟩,hg⟩
    have:=zAU hr (ho.ins q x hx)
    obtain ⟨g,rfl⟩:=Int.eq_ofNat_of_zero_le (show 0≤g by omega)
    refine ⟨by omega,by omega,?_⟩
    rw [Int.toNat_natCast,h5,if_neg (fun hh=>hg ⟨hh.1,by omega⟩)]
    have:=(zJH ho.zk hr hin g).2 ⟨q,x,hx,x1,x2⟩
    omega
   ·rintro ⟨g1,g2,g3⟩
    have hrb:=zA4 hr
    obtain ⟨q,rfl⟩:=Int.eq_ofNat_of_zero_le (show 0≤g by omega)
    rw [Int.toNat_natCast,h5] at g3
    split at g3
    ·exact absurd rfl g3
    ·rename_i hq
     refine ⟨?_,fun hh=>hq ⟨hh.1,by omega⟩⟩
     rcases h01 q with e0 | e0
     ·exact absurd e0 g3
     ·exact (zJH ho.zk hr hin q).1 (by omega))
  show zGA _ _ _ _ _ _=_
  unfold zGA zLa
  rw [e,ell,zP (dt (zF3 (by omega) (by omega))),zP (zM4 (by omega)),zP (zu (by omega)),zP (zu (by omega)),zf (df (by omega)),hw,zAw,zAw, ← er]
 | succ m ih =>
  intro n i s h1 h2 h3 h4 h5
  obtain ⟨n,rfl⟩:=ex1 ‹_<n›
  have hil:i<s.length:=by omega
  show zGA _ _ _ _ _ _=_
  unfold zGA
  rw [e,ell,zP (dt (zF3 (by omega) (by omega))),zP (zM4 (by omega)),zP (zu (by omega)),zP (zu (by omega)),zz (dt (by omega)),zP (zAD hil),zP (zu (by omega))]
  refine ih n (i+1) _ (by omega) (by omega) (by omega) (by rw [List.length_set]; exact h4) (fun g => ?_)
  rw [Int.toNat_natCast,zVN s i g hil,h5]
  by_cases hg:g=i
  ·rw [if_pos hg,if_pos (by omega)]
  ·rw [if_neg hg]
   by_cases hq:at_ (lst z j) (0:Int)≤(g:Int)∧(g:Int)<i
   ·rw [if_pos hq,if_pos (by omega)]
   ·rw [if_neg hq,if_neg (by omega)]
theorem zWj (ho:OkZ z) (hk:k≤4):∀ (m n i:Nat),i+m=5→m<n→k≤i→zNU z k (5 - k)=zNU z i m→zJR z (k:Int) n (i:Int)=some (zDG z k):=by
 obtain ⟨hr,hin,_⟩:=zFK ho.zk (zC9 ho)
 intro m
 induction m with
 | zero =>
  intro n i h1 h2 h3 h4
  obtain ⟨n,rfl⟩:=ex1 ‹_<n›
  show zGG _ _ _ _=_
  unfold zGG zLZ zDG
  rw [zf (df (by omega)),h4]
  rfl
 | succ m ih =>
  intro n i h1 h2 h3 h4
  obtain ⟨n,rfl⟩:=ex1 ‹_<n›
  have hl:z.free.getD (i:Int).toNat []=lst z i:=rfl
  show zGG _ _ _ _=_
  unfold zGG zLd
  rw [hl,zz (dt (by omega)),zP (zAD (by omega))]
  by_cases h0:lst z i=[]
  ·rw [zf (by rw [h0]; rfl),zP (zu (by omega))]
   refine ih n (i+1) (by omega) (by omega) (by omega) ?_
   rw [h4]
   show (if lst z i=[] then _ else _)=_
   rw [if_pos h0]
  ·obtain ⟨x,r,e1,e2⟩:=zXt h0
   have hlen:(lst z i).length=r.length+1:=by rw [e1]; rfl
   have hj:zNU z k (5 - k)=some i:=by
    rw [h4]
    show (if lst z i=[] then _ else _)=_
    rw [if_neg h0]
   have hx:at_ (lst z i) (0:Int)∈lst z i:=by rw [e2,e1]; simp
   have hb:=ho.bds (ho.ins i _ hx)
   obtain ⟨q,hq⟩:=Int.eq_ofNat_of_zero_le hb.1
   have pn:=zMa (k:=k) (by omega)
   obtain ⟨e,p1,p2⟩:=zH6 (k:=k) (by omega)
   rw [zz (dt (by omega)),zP (zPr (by omega)),zQg ho.zk hr hin,zAw,hq]
   exact zW1 ho hk hj (2 ^ k) z5 q (zN6 z) (by omega) (by unfold z5; omega) (by omega) zM0 (fun g=>by rw [if_neg (by omega)])
theorem zYp (ho:OkZ z) (hk:k≤4):zLp z (k:Int)=some (zDG z k):=by
 unfold zLp
 rw [zRy ho.zk,zC9 ho,zAw,dt rfl,Bool.not_true,zf rfl,df (by omega),df (by omega),zf (by rfl)]
 exact zWj ho hk (5 - k) z5 k (by omega) (by unfold z5; omega) (Nat.le_refl _) rfl
theorem zQ8 (h:zNU z k (5 - k)=none):zDG z k=(⟨0,0,0,0,0,List.replicate 5 []⟩,0,16):=by
 unfold zDG
 rw [h]
theorem zZU (ho:OkZ z) (h:zNU z 0 (5 - 0)=none):∀ g,¬ cov z g:=by
 rintro g ⟨q,x,hx,_⟩
 have hq:=ho.le4 hx
 rw [zQy h q (Nat.zero_le _) (by omega)] at hx
 cases hx
end
end Go.Proofs.Ytplkliakhdkpcaa
namespace Go.Proofs.Ytplkliakhdkpcaa
open Go Go.RowKit Go.Wk Go.Am
def tkZ (z:zW) (g x:Int):Nat→zW
 | 0=>z
 | m+1=>if x+2 ^ m≤g then tkZ (zNK z x m) g (x+2 ^ m) m else tkZ (zNK z (x+2 ^ m) m) g x m
section
variable {z:zW} {f g:Int} {k j:Nat}
theorem zSP {q:Nat} (ho:OkZ z) (hq:q<4) (h:zUn z f (q+1)):OkZ (zNK z f q)∧(∀ g,cov (zNK z f q) g↔cov z g∨(f≤g∧g<f+2 ^ q))∧zE0 (zNK z f q) z∧zUn (zNK z f q) (f+2 ^ q) q:=by
 obtain ⟨h1,h2,h3,h4⟩:=h
 have hp:=zGm q
 have hs:=zJP q
 have hr:=zA4 ho.ranges
 obtain ⟨a1,a2⟩:=zRa h1
 have hin:inside z f q=true:=(zAz ho.ranges).2 ⟨by omega,a1,by omega,by omega⟩
 have hfn:f+2 ^ q ∉ lst z q:=fun hm=>h4 (f+2 ^ q) (by omega) (by omega) ⟨q,_,hm,by omega,by omega⟩
 have hj:zLQ z f q=false:=by
  have hb:bud f q=f+2 ^ q:=by
   rcases zND hq (show 0≤f by omega) (by omega) a1 with ⟨_,e⟩ | ⟨e,_⟩
   ·exact e
   ·rw [h1] at e; omega
  unfold zLQ
  rw [hb,df hfn]
  rfl
 obtain ⟨q1,q2,q3⟩:=ho.insert (by omega) hin (fun g g1 g2=>h4 g (by omega) (by omega)) (fun _=>hj)
 refine ⟨q1,fun g=>q2 g,q3,a2,?_,?_,fun g g1 g2 hc => ?_⟩
 ·rw [q3.2.2.1]; omega
 ·rw [q3.2.2.1,q3.2.2.2.1]; omega
 ·rcases (q2 g).1 hc with h | h
  ·exact h4 g (by omega) (by omega) h
  ·omega
theorem zWI:∀ (m:Nat) {z:zW} {x:Int},m≤4→OkZ z→zUn z x m→x≤g→g<x+2 ^ m→OkZ (tkZ z g x m)∧(∀ y,cov (tkZ z g x m) y↔cov z y∨(x≤y∧y<x+2 ^ m∧y≠g))∧zE0 (tkZ z g x m) z
 | 0,z,x,_,ho,_,h1,h2=>⟨ho,fun y=>⟨.inl,fun h=>h.elim id (fun h=>by rw [pw0] at h h2; omega)⟩,⟨rfl,rfl,rfl,rfl,rfl⟩⟩
 | m+1,z,x,hm,ho,hh,h1,h2=>by
  have hp:=zGm m
  have hs:=zJP m
  unfold tkZ
  by_cases hg:x+2 ^ m≤g
  ·rw [if_pos hg]
   obtain ⟨q1,q2,q3,q4⟩:=zSP ho (q:=m) (by omega) hh
   obtain ⟨r1,r2,r3⟩:=zWI m (by omega) q1 q4 hg (by omega)
   refine ⟨r1,fun y => ?_,r3.trans q3⟩
   rw [r2 y,q2 y]
   constructor
   ·rintro ((h | h) | h)
    ·exact .inl h
    ·exact .inr (by omega)
    ·exact .inr (by omega)
   ·rintro (h | h)
    ·exact .inl (.inl h)
    ·by_cases hy:x+2 ^ m≤y
     ·exact .inr (by omega)
     ·exact .inl (.inr (by omega))
  ·rw [if_neg hg]
   obtain ⟨q1,q2,q3,q4⟩:=zLF ho (q:=m) (by omega) hh
   obtain ⟨r1,r2,r3⟩:=zWI m (by omega) q1 q4 h1 (by omega)
   refine ⟨r1,fun y => ?_,r3.trans q3⟩
   rw [r2 y,q2 y]
   constructor
   ·rintro ((h | h) | h)
    ·exact .inl h
    ·exact .inr (by omega)
    ·exact .inr (by omega)
   ·rintro (h | h)
    ·exact .inl (.inl h)
    ·by_cases hy:x+2 ^ m≤y
     ·exact .inl (.inr (by omega))
     ·exact .inr (by omega)
theorem zWd:∀ (m n:Nat) (y:zW) (x:Int),m≤4→m<n→OkZ y→zE0 y z→zUn y x m→x≤g→g<x+2 ^ m→zCo g z n (m:Int) x y.free=some (tkZ y g x m,0):=by
 intro m
 induction m with
 | zero =>
  intro n y x h1 h2 ho h5 hh hx hy
  obtain ⟨n,rfl⟩:=ex1 ‹_<n›
  show zEt _ _ _ _ _ _=_
  unfold zEt zIS
  rw [zf (df (by omega)), ← h5.1, ← h5.2.1, ← h5.2.2.1, ← h5.2.2.2.1, ← h5.2.2.2.2]
  rfl
 | succ m ih =>
  intro n y x h1 h2 ho h5 hh hx hy
  obtain ⟨n,rfl⟩:=ex1 ‹_<n›
  obtain ⟨e1,p1,p2⟩:=zH6 (k:=m) (by omega)
  have hb:=zA4 ho.ranges
  have hlo:=hh.lo
  have hhi:=hh.hi
  have hpp:=zGm m
  have hss:=zJP m
  have hP:=ho.putI
  have hj:∀ u w:Int,zFx (zCo g z n) ((m+1:Nat):Int) y.free u w=zCo g z n (m:Int) u (zNK y w m).free:=fun u w=>by
   have hl:y.free.getD (m:Int).toNat []=lst y m:=rfl
   have hok:zOZ (lst y m) (lb (lst y m) w:Int)=true:=by
    have h1:=zUx (lst y m) w
    have h2:=hP.len' m
    unfold zOZ
    rw [dt (by omega),dt (by omega),dt (by omega)]
    rfl
   unfold zFx
   rw [show ((m+1:Nat):Int) - 1=(m:Int) by omega,zP (zAD (by omega)),zP (dt (by omega)),hl,zQd (hP.srt' m) (by have:=hP.len' m; omega),zAw,zP hok]
   show zCo g z n (m:Int) u (zDY 5 [] y.free m (zS8 (lst y m) w))=_
   rw [zJb ho.len (by omega)]
   rfl
  show zEt _ _ _ _ _ _=_
  unfold zEt tkZ
  rw [zz (dt (by omega)),show ((m+1:Nat):Int) - 1=(m:Int) by omega,zP (zu (by omega)),zP (zM4 (by omega)),e1,zP (zu (by omega)),zP (zu (by omega)),hj,hj]
  by_cases hg:x+2 ^ m≤g
  ·obtain ⟨q1,q2,q3,q4⟩:=zSP ho (q:=m) (by omega) hh
   rw [zz (dt hg),if_pos hg]
   exact ih n (zNK y x m) _ (by omega) (by omega) q1 (q3.trans h5) q4 hg (by omega)
  ·obtain ⟨q1,q2,q3,q4⟩:=zLF ho (q:=m) (by omega) hh
   rw [zf (df hg),if_neg hg]
   exact ih n (zNK y (x+2 ^ m) m) _ (by omega) (by omega) q1 (q3.trans h5) q4 hx (by omega)
theorem zX3 (hz:Zk z) (h:zEr z=0) {f:Nat} (hf:f<256):∀ (m n k:Nat),k+m=5→m<n→(∃ j,k≤j∧j<5∧((f/2 ^ j*2 ^ j:Nat):Int)∈lst z j) → ∃ j:Nat,j<5∧((f/2 ^ j*2 ^ j:Nat):Int)∈lst z j∧zB9 z (f:Int) n (k:Int)=some ((j:Int),((f/2 ^ j*2 ^ j:Nat):Int)):=by
 obtain ⟨hr,hin,hs⟩:=zFK hz h
 intro m
 induction m with
 | zero =>
  rintro n k h1 h2 ⟨j,j1,j2,_⟩
  omega
 | succ m ih =>
  rintro n k h1 h2 ⟨j,j1,j2,j3⟩
  obtain ⟨n,rfl⟩:=ex1 ‹_<n›
  obtain ⟨e2,p1,p2⟩:=zH6 (k:=k) (by omega)
  have e:z.free.getD (k:Int).toNat []=lst z k:=rfl
  have ha:=zSV ⟨k,by omega⟩ ⟨f,hf⟩
  simp only at ha
  have ee:zB9 z (f:Int) (n+1) (k:Int)=cnd (decide (((f/2 ^ k*2 ^ k:Nat):Int)∈lst z k)) (some ((k:Int),((f/2 ^ k*2 ^ k:Nat):Int))) (zB9 z (f:Int) n ((k+1:Nat):Int)):=by
   show zCq _ _ _ _=_
   unfold zCq
   rw [zz (dt (by omega)),zP (zM4 (by omega)),e2,zP (zu (by omega)),zP (zu (by omega)),zP (zAD (by omega)),e,ha,zQd (hs k) (hz.bd k),zAw,zP (zu (by omega))]
   rfl
  rw [ee]
  by_cases hm:((f/2 ^ k*2 ^ k:Nat):Int)∈lst z k
  ·rw [zz (dt hm)]
   exact ⟨k,by omega,hm,rfl⟩
  ·rw [zf (df hm)]
   refine ih n (k+1) (by omega) (by omega) ⟨j,?_,j2,j3⟩
   by_cases hjk:j=k
   ·subst hjk; exact absurd j3 hm
   ·omega
theorem zZh {f:Int} (ho:OkZ z) (hi:inside z f 0=true) (hc:cov z f):∃ y,zJn z f=some (y,0)∧zOw z f=some (y,0)∧OkZ y∧zE0 y z ∧ ∀ g,cov y g↔cov z g∧g≠f:=by
 have hz:=ho.zk
 have h0:=zC9 ho
 obtain ⟨hr,hin,hs⟩:=zFK hz h0
 have hb:=zAU hr hi
 rw [pw0] at hb
 obtain ⟨m,rfl⟩:=Int.eq_ofNat_of_zero_le hb.1
 have hP:=ho.putI
 obtain ⟨j,hj,hm,hblk⟩:=zX3 hz h0 (f:=m) (by omega) 5 z5 0 (by omega) (by unfold z5; omega) (by
  obtain ⟨j,x,hx,h1,h2⟩:=hc
  have hj:j<5:=Nat.lt_succ_of_le (ho.le4 hx)
  have hbj:=zAU hr (hin j hj _ hx)
  have haj:=(zAz hr).1 (hin j hj _ hx)
  have:=(zNO (f:=m) hj hbj.1 haj.2.1).1 ⟨h1,h2⟩
  exact ⟨j,Nat.zero_le _,hj,this▸hx⟩)
 generalize hx:((m/2 ^ j*2 ^ j:Nat):Int)=x at hm hblk
 have hbj:=zAU hr (hin j hj _ hm)
 have haj:=(zAz hr).1 (hin j hj _ hm)
 have hmx:=(zNO (f:=m) hj hbj.1 haj.2.1).2 hx.symm
 obtain ⟨q1,q2,q3,q4⟩:=zPx ho (by omega) hm
 obtain ⟨r1,r2,r3⟩:=zWI j (by omega) q1 q4 hmx.1 hmx.2
 have hcy:∀ g,cov (tkZ (zMb z x j) (m:Int) x j) g↔cov z g∧g≠(m:Int):=fun g=>by
  rw [r2 g,q2 g]
  constructor
  ·rintro (⟨h,h'⟩ | h)
   ·exact ⟨h,fun e=>h' (by omega)⟩
   ·exact ⟨⟨j,x,hm,h.1,h.2.1⟩,h.2.2⟩
  ·rintro ⟨h,h'⟩
   by_cases hq:x≤g∧g<x+2 ^ j
   ·exact .inr ⟨hq.1,hq.2,h'⟩
   ·exact .inl ⟨h,hq⟩
 refine ⟨tkZ (zMb z x j) (m:Int) x j,?_,?_,r1,r3.trans q3,hcy⟩
 ·have hie:zBu z (m:Int) 0=some (inside z (m:Int) 0):=zJs (k:=0) hr (by omega)
  have hl:z.free.getD (j:Int).toNat []=lst z j:=rfl
  have hlt:=zYY hm
  have hlen:=hP.len' j
  have hdel:zQZ (lst z j) (lb (lst z j) x:Int) ((lb (lst z j) x:Int)+1)=true:=by
   unfold zQZ
   rw [dt (by omega),dt (by omega),dt (by omega)]
   rfl
  have hf:(zMb z x j).free=zDY 5 [] z.free (j:Int).toNat (zSE (lst z j) (lb (lst z j) x:Int)):=by
   rw [zJb ho.len (by omega)]
   rfl
  unfold zJn
  rw [zO3 hz ho.inI,h0,zAw,dt rfl,Bool.not_true,zf rfl,hie,hi,zAw,Bool.not_true,zf rfl]
  have hbl:zFk z (m:Int)=some ((j:Int),x):=hblk
  rw [hbl,zAw,zf (df (by show ¬ (j:Int)<0; omega)),zUa hz,zAw,zP (zAD hj),zP (dt (by show (j:Int)<5; omega)),hl,zQd (hP.srt' j) (by omega),zAw,zP (zu (by show _≤(lb (lst z j) x:Int)+1∧(lb (lst z j) x:Int)+1≤_; omega)),zP hdel]
  show zCo (m:Int) z z5 (j:Int) x (zDY 5 [] z.free (j:Int).toNat (zSE (lst z j) (lb (lst z j) x:Int)))=_
  rw [← hf]
  exact zWd j z5 _ x (by omega) (by unfold z5; omega) q1 q3 q4 hmx.1 hmx.2
 ·have hbl:zCj z (m:Int) 0=some (inside z (m:Int) 0):=zKx (k:=0) hr (by omega)
  have hml:m<(zN6 z).length:=by rw [zM0]; omega
  obtain ⟨_,h01⟩:=zKE hz h0
  have hpos:=(zJH hz hr hin m).2 hc
  have hg:(zN6 z).getD m 0=at_ (zN6 z) (m:Int):=by
   rw [zFW hml,List.getD_eq_getElem?_getD,List.getElem?_eq_getElem hml]; rfl
  have hw:zFF z ((zN6 z).set m 0)=some (tkZ (zMb z x j) (m:Int) x j):=zRg (z:=z) (by rw [List.length_set]; exact zM0) r1 (r3.trans q3) (fun g=>by
   rw [hcy]
   constructor
   ·rintro ⟨⟨q,y,hy,y1,y2⟩,hne⟩
    have:=zAU hr (ho.ins q y hy)
    obtain ⟨g,rfl⟩:=Int.eq_ofNat_of_zero_le (show 0≤g by omega)
    refine ⟨by omega,by omega,?_⟩
    rw [Int.toNat_natCast,zVN _ m g hml,if_neg (fun e=>hne (by omega))]
    have:=(zJH hz hr hin g).2 ⟨q,y,hy,y1,y2⟩
    omega
   ·rintro ⟨g1,g2,g3⟩
    have hrb:=zA4 hr
    obtain ⟨q,rfl⟩:=Int.eq_ofNat_of_zero_le (show 0≤g by omega)
    rw [Int.toNat_natCast,zVN _ m q hml] at g3
    by_cases hqm:q=m
    ·rw [if_pos hqm] at g3; exact absurd rfl g3
    ·rw [if_neg hqm] at g3
     refine ⟨?_,by omega⟩
     rcases h01 q with e0 | e0
     ·exact absurd e0 g3
     ·exact (zJH hz hr hin q).1 (by omega))
  unfold zOw
  rw [zRy hz,h0,zAw,dt rfl,Bool.not_true,zf rfl,hbl,hi,zAw,Bool.not_true,zf rfl,zQg hz hr hin,zAw,zP (zAD hml),zf (df (by rw [← hg]; omega)),Int.toNat_natCast,hw,zAw,zAw]
end
end Go.Proofs.Ytplkliakhdkpcaa
namespace Go.Proofs.Ytplkliakhdkpcaa
open Go Go.RowKit Go.Wk Go.Am
section
variable {a:zH}
def zS7 (cs:List zK) (i:Int):Int:=match cs with
 | []=>0
 | c::r=>((at_ c.lists i).length:Int)+zS7 r i
def zOv (a:zH) (i:Nat):Int:=zV1 (at_ a.zones (i:Int))+zS7 a.caches (i:Int)
theorem zTq (h:Va a) {p:Nat} (hp:p<a.zones.length):∀ (m n j:Nat) (acc:Int),j+m=a.caches.length→m<n→0≤acc∧acc≤80000000+j*1000 →
  (zD2 a (p:Int) n acc (j:Int)=some (acc+zS7 (a.caches.drop j) (p:Int))∧zJU a (p:Int) n acc (j:Int)=some (acc+zS7 (a.caches.drop j) (p:Int)))∧0≤acc+zS7 (a.caches.drop j) (p:Int)∧acc+zS7 (a.caches.drop j) (p:Int)≤90000000:=by
 have hcl:=h.al.c
 intro m
 induction m with
 | zero =>
  intro n j acc h1 h2 h3
  obtain ⟨n,rfl⟩:=ex1 ‹_<n›
  rw [List.drop_eq_nil_of_le (by omega)]
  have e:acc+zS7 [] (p:Int)=acc:=by unfold zS7; omega
  rw [e]
  refine ⟨⟨?_,?_⟩,by omega,by omega⟩
  ·show zCc _ _ _ _ _=_
   unfold zCc
   rw [zf (df (by omega))]
   rfl
  ·show zGM _ _ _ _ _=_
   unfold zGM
   rw [zf (df (by omega))]
   rfl
 | succ m ih =>
  intro n j acc h1 h2 h3
  obtain ⟨n,rfl⟩:=ex1 ‹_<n›
  have hj:j<a.caches.length:=by omega
  have hl:=h.len _ (zAv hj)
  have hck:=h.al.ck _ (zAv hj)
  have hb:=hck.l _ (zAv (show p<(at_ a.caches (j:Int)).lists.length by omega))
  have:=ih n (j+1) (acc+((at_ (at_ a.caches (j:Int)).lists (p:Int)).length:Int)) (by omega) (by omega) (by omega)
  rw [zC4 hj]
  unfold zS7
  rw [← Int.add_assoc]
  refine ⟨⟨?_,?_⟩,this.2⟩
  ·rw [← this.1.1]
   show zCc _ _ _ _ _=_
   unfold zCc
   rw [zz (dt (by omega)),zP (zAD hj),zP (zAD (by omega)),zP (zu (by omega)),zP (zu (by omega))]
   rfl
  ·rw [← this.1.2]
   show zGM _ _ _ _ _=_
   unfold zGM
   rw [zz (dt (by omega)),zP (zAD hj),zP (zAD (by omega)),zP (zu (by omega)),zP (zu (by omega))]
   rfl
theorem zTF (h:Va a) {p:Nat} (hp:p<a.zones.length):∀ (m n k:Nat) (acc:Int),k+m=5→m<n→0≤acc∧acc≤k*16000000 →
  zJg a (p:Int) n acc (k:Int)=zLm a (p:Int) (acc+zP9 k ((at_ a.zones (p:Int)).free.drop k)):=by
 have hzk:=(h.al.zk _ (zAv hp)).1
 intro m
 induction m with
 | zero =>
  intro n k acc h1 h2 h3
  obtain ⟨n,rfl⟩:=ex1 ‹_<n›
  rw [List.drop_eq_nil_of_le (by rw [hzk.len]; omega)]
  show zGE _ _ _ _ _=_
  unfold zGE
  rw [zf (df (by omega)),show acc+zP9 k []=acc by unfold zP9; omega]
 | succ m ih =>
  intro n k acc h1 h2 h3
  obtain ⟨n,rfl⟩:=ex1 ‹_<n›
  have hb:=zXK (k:=k) (by omega) (hzk.bd k)
  obtain ⟨a1,a2⟩:=List.getElem?_eq_some_iff.1 (hzk.get (k:=k) (by omega))
  have hi:=ih n (k+1) (acc+((lst (at_ a.zones (p:Int)) k).length:Int)*2 ^ k) (by omega) (by omega) (by omega)
  rw [List.drop_eq_getElem_cons a1,a2]
  unfold zP9
  rw [← Int.add_assoc, ← hi]
  show zGE _ _ _ _ _=_
  unfold zGE
  have e:(at_ a.zones (p:Int)).free.getD (k:Int).toNat []=lst (at_ a.zones (p:Int)) k:=rfl
  rw [e,Int.toNat_natCast,zz (dt (by omega)),zP (zAD hp),zP (zAD (by omega)),zP (dt (zF3 (by omega) (by omega))),zP (zM4 (by omega)),zP (zu (by omega)),zP (zu (by omega)),zP (zu (by omega))]
  rfl
theorem counts (h:Va a) {p:Nat} (hp:p<a.zones.length):zDi a (p:Int)=some (zOv a p)∧zOB a (p:Int)=some (zOv a p)∧0≤zOv a p∧zOv a p≤90000000:=by
 have hzk:=h.al.zk _ (zAv hp)
 have hcl:=h.al.c
 obtain ⟨b1,b2,b3⟩:=zYK hzk.1 hzk.2 (h.chk (zAv hp))
 have hc:=zTq h hp a.caches.length z5 0 (zV1 (at_ a.zones (p:Int))) (by omega) (by unfold z5; omega) (by omega)
 rw [List.drop_zero] at hc
 refine ⟨?_,?_,hc.2⟩
 ·unfold zDi
  rw [zP (zAD hp),b1,zAw]
  exact hc.1.1
 ·unfold zOB
  have hr:=zTF h hp 5 z5 0 0 (by omega) (by unfold z5; omega) (by omega)
  rw [List.drop_zero,Int.zero_add] at hr
  refine Eq.trans hr ?_
  exact hc.1.2
theorem zWA (h:Va a) {p:Nat} (hp:p<a.zones.length):0≤(at_ a.zones (p:Int)).min∧(at_ a.zones (p:Int)).min≤256:=by
 have:=zA4 (zFp (h.chk (zAv hp)))
 omega
end
end Go.Proofs.Ytplkliakhdkpcaa
namespace Go.Proofs.Ytplkliakhdkpcaa
open Go Go.RowKit Go.Wk Go.Am
def zNS (v w:Int):Int:=if w<v then 2*(v - w) else 2*(w - v)+1
def zJ0 (zs:List zW) (v i:Int):Int:=if (at_ zs i).kind=0 then 2*zNS v (at_ zs i).node+1 else 2*zNS v (at_ zs i).node
def gK (zs:List zW) (v i:Int):Int:=8*zJ0 zs v i+i
structure Gn (zs:List zW):Prop where
 n:zs.length≤6
 nd:∀ z,z∈zs→0≤z.node∧z.node<4
 kd:∀ z,z∈zs→z.kind=0∨z.kind=1
theorem zJF {A B:List Int}:Srt (A++B)↔Srt A∧Srt B ∧ ∀ a,a∈A → ∀ b,b∈B→a<b:=List.pairwise_append
theorem zL3 (a:Int):Srt [a]:=List.pairwise_singleton ..
theorem zVe {A C:List Int} {b:Int} {i:Nat} (h:A.length=i):at_ (A++b::C) (i:Int)=b:=zXy (zGZ h)
section
variable {zs:List zW} {v:Int}
theorem zYO (hv:0≤v∧v<4) {w:Int} (hw:0≤w∧w<4):zHq v w=some (zNS v w)∧0≤zNS v w∧zNS v w≤8:=by
 unfold zHq zNS
 by_cases h:w<v
 ·rw [zz (dt h),if_pos h,zP (zu (by omega)),zP (zu (by omega))]
  exact ⟨rfl,by omega⟩
 ·rw [zf (df h),if_neg h,zP (zu (by omega)),zP (zu (by omega)),zP (zu (by omega))]
  exact ⟨rfl,by omega⟩
theorem zQ5 (h:Gn zs) (hv:0≤v∧v<4) {i:Nat} (hi:i<zs.length):zA3 (i:Int) v zs=some (zJ0 zs v (i:Int))∧0≤zJ0 zs v (i:Int)∧zJ0 zs v (i:Int)≤17:=by
 obtain ⟨k1,k2,k3⟩:=zYO hv (h.nd _ (zAv hi))
 unfold zA3 zJ0 zDt
 rw [zP (zAD hi),k1,zAw,zP (zu (by omega))]
 by_cases hk:(at_ zs (i:Int)).kind=0
 ·rw [zz (dt hk),if_pos hk,zP (zu (by omega))]
  exact ⟨rfl,by omega⟩
 ·rw [zf (df hk),if_neg hk]
  exact ⟨rfl,by omega⟩
def Ix (zs:List zW) (i:Int):Prop := ∃ k:Nat,i=(k:Int)∧k<zs.length
theorem zUp (h:Gn zs) {i j:Int} (hi:Ix zs i) (hj:Ix zs j) (hr:zJ0 zs v i<zJ0 zs v j):gK zs v i<gK zs v j:=by
 obtain ⟨a,rfl,ha⟩:=hi
 obtain ⟨b,rfl,hb⟩:=hj
 have:=h.n
 unfold gK
 omega
theorem zYD (h:Gn zs) (hv:0≤v∧v<4) {x y:Int} (hx:Ix zs x) (hy:Ix zs y) (hyx:y<x):∃ r,zA7 x y (fun y0=>zA3 y0 v zs)=some r∧(r<0↔gK zs v x<gK zs v y):=by
 have hlt:=zUp (v:=v) h hx hy
 have hgt:=zUp (v:=v) h hy hx
 obtain ⟨a,rfl,ha⟩:=hx
 obtain ⟨b,rfl,hb⟩:=hy
 unfold zA7
 dsimp only
 rw [(zQ5 h hv ha).1,(zQ5 h hv hb).1,zAw,zAw]
 unfold zG7 zD9
 rw [dt rfl,dt rfl,Bool.not_true,zAw,zAw,zf rfl,zf rfl]
 by_cases h1:zJ0 zs v (a:Int)<zJ0 zs v (b:Int)
 ·rw [zz (dt h1)]
  exact ⟨-1,rfl,fun _=>hlt h1,fun _=>by decide⟩
 ·rw [zf (df h1)]
  by_cases h2:zJ0 zs v (b:Int)<zJ0 zs v (a:Int)
  ·rw [zz (dt h2)]
   have:=hgt h2
   exact ⟨1,rfl,fun x=>absurd x (by decide),fun x=>by omega⟩
  ·rw [zf (df h2)]
   exact ⟨0,rfl,fun x=>absurd x (by decide),fun x=>by unfold gK at x; omega⟩
theorem zYE (h:Gn zs) (hv:0≤v∧v<4) {i:Int} {se:Int→List Int→Option (List Int)} {x:Int} (hx:Ix zs x) (hi:0≤i∧i≤1000):∀ (m n:Nat) (P R:List Int),P.length=m→m<n→m≤1000→(∀ y,y∈P→Ix zs y∧y<x)→Srt (P.map (gK zs v)) →
  ∃ P',P'.length=m+1∧Srt (P'.map (gK zs v))∧(∀ z,z∈P'↔z=x∨z∈P)∧zAX se 0 (fun y0 y1=>zA7 y0 y1 (fun y0=>zA3 y0 v zs)) i n (m:Int) (P++x::R)=se (i+1) (P'++R):=by
 intro m
 induction m with
 | zero =>
  intro n P R h1 h2 h3 h4 h5
  obtain ⟨n,rfl⟩:=ex1 ‹_<n›
  obtain rfl:=List.length_eq_zero_iff.1 h1
  refine ⟨[x],rfl,zL3 _,fun z=>by simp,?_⟩
  show zAY _ _ _ _ _ _ _=_
  unfold zAY zA6
  rw [df (p:=(0:Int)<((0:Nat):Int)) (by omega),zP (by rfl),zP (by rfl),zP (by rfl),zf rfl,zAw,zf (by rfl),zP (zu (by omega))]
  rfl
 | succ m ih =>
  intro n P R h1 h2 h3 h4 h5
  obtain ⟨n,rfl⟩:=ex1 ‹_<n›
  have hne:P≠[]:=fun e=>by rw [e] at h1; simp at h1
  obtain ⟨Q,y,rfl⟩:∃ Q y,P=Q++[y]:=⟨P.dropLast,P.getLast hne,(List.dropLast_concat_getLast hne).symm⟩
  have hQ:Q.length=m:=by simp at h1; exact h1
  have hy:=h4 y (by simp)
  have e0:Q++[y]++x::R=Q++y::(x::R):=by simp
  have ex:at_ (Q++[y]++x::R) ((m+1:Nat):Int)=x:=zVe h1
  have ey:at_ (Q++[y]++x::R) (m:Int)=y:=by rw [e0]; exact zVe hQ
  have hm:((m+1:Nat):Int) - 1=(m:Int):=by omega
  have hlen:(Q++[y]++x::R).length=m+2+R.length:=by simp; omega
  obtain ⟨r,r1,r2⟩:=zYD h hv hx hy.1 hy.2
  rw [List.map_append,zJF] at h5
  have hlast:∀ q,q∈Q→gK zs v q<gK zs v y:=fun q hq=>h5.2.2 _ (List.mem_map_of_mem hq) _ (by simp)
  have hne2:gK zs v y≠gK zs v x:=fun e=>by
   obtain ⟨a,rfl,ha⟩:=hx
   obtain ⟨b,rfl,hb⟩:=hy.1
   have:=h.n
   have:=hy.2
   unfold gK at e
   omega
  have step:∀ (R':Option (List Int)),(gK zs v x<gK zs v y→zAX se 0 (fun y0 y1=>zA7 y0 y1 (fun y0=>zA3 y0 v zs)) i n (m:Int) (Q++x::(y::R))=R')→(¬ gK zs v x<gK zs v y→se (i+1) (Q++[y]++x::R)=R') →
    zAX se 0 (fun y0 y1=>zA7 y0 y1 (fun y0=>zA3 y0 v zs)) i (n+1) ((m+1:Nat):Int) (Q++[y]++x::R)=R':=fun R' k1 k2=>by
   show zAY _ _ _ _ _ _ _=_
   unfold zAY zA6
   rw [dt (p:=(0:Int)<((m+1:Nat):Int)) (by omega),zP (zNN (zAD (by omega))),zP (zNN (zu (by omega))),hm,zP (zNN (zAD (by omega))),zz rfl,ex,ey]
   dsimp only
   rw [r1,zAw]
   by_cases hlt:gK zs v x<gK zs v y
   ·have es:((Q++[y]++x::R).set ((m+1:Nat):Int).toNat y).set (m:Int).toNat x=Q++x::(y::R):=by
     rw [Int.toNat_natCast,Int.toNat_natCast,zKy h1]
     have:Q++[y]++y::R=Q++y::(y::R):=by simp
     rw [this,zKy hQ]
    rw [zz (by rw [dt (r2.2 hlt)]; rfl),zP (zu (by omega)),zP (zAD (by omega)),zP (zAD (by omega)),zP (zAD (by rw [List.length_set]; omega)),es]
    exact k1 hlt
   ·rw [zf (by rw [df (fun hh=>hlt (r2.1 hh))]; rfl),zP (zu (by omega))]
    exact k2 hlt
  by_cases hlt:gK zs v x<gK zs v y
  ·obtain ⟨P',p1,p2,p3,p4⟩:=ih n Q (y::R) hQ (by omega) (by omega) (fun q hq=>h4 q (by simp [hq])) h5.1
   refine ⟨P'++[y],by simp [p1],?_,fun z => ?_,step _ (fun _ => ?_) (fun hh=>absurd hlt hh)⟩
   ·rw [List.map_append,zJF]
    refine ⟨p2,zL3 _,fun a ha b hb => ?_⟩
    simp only [List.map_cons,List.map_nil,List.mem_singleton] at hb
    subst hb
    obtain ⟨q,hq,rfl⟩:=List.mem_map.1 ha
    rcases (p3 q).1 hq with rfl | hq
    ·exact hlt
    ·exact hlast q hq
   ·rw [List.mem_append,p3,List.mem_append]
    constructor
    ·rintro ((h | h) | h)
     ·exact .inl h
     ·exact .inr (.inl h)
     ·exact .inr (.inr h)
    ·rintro (h | h | h)
     ·exact .inl (.inl h)
     ·exact .inl (.inr h)
     ·exact .inr h
   ·rw [p4]; simp
  ·refine ⟨Q++[y]++[x],by simp; omega,?_,fun z => ?_,step _ (fun hh=>absurd hh hlt) (fun _=>by simp)⟩
   ·rw [List.map_append,zJF,List.map_append,zJF]
    refine ⟨⟨h5.1,h5.2.1,h5.2.2⟩,zL3 _,fun a ha b hb => ?_⟩
    simp only [List.map_cons,List.map_nil,List.mem_singleton] at hb
    subst hb
    rcases List.mem_append.1 ha with ha | ha
    ·obtain ⟨q,hq,rfl⟩:=List.mem_map.1 ha
     have:=hlast q hq
     omega
    ·simp only [List.map_cons,List.map_nil,List.mem_singleton] at ha
     subst ha
     omega
   ·rw [List.mem_append,List.mem_singleton]
    exact ⟨fun h=>h.elim .inr .inl,fun h=>h.elim .inr .inl⟩
theorem zXX (h:Gn zs) (hv:0≤v∧v<4):∀ (m n:Nat) (S T:List Int),T.length=m→m<n→S.length+m≤6→(∀ y,y∈S→Ix zs y)→(∀ y,y∈T→Ix zs y)→(∀ y,y∈S → ∀ x,x∈T→y<x)→Srt T→Srt (S.map (gK zs v)) →
  ∃ L,Srt (L.map (gK zs v))∧(∀ z,z∈L↔z∈S∨z∈T)∧zAB 0 ((S.length+m:Nat):Int) (fun y0 y1=>zA7 y0 y1 (fun y0=>zA3 y0 v zs)) n (S.length:Int) (S++T)=some L:=by
 intro m
 induction m with
 | zero =>
  intro n S T h1 h2 h3 h4 h5 h6 h7 h8
  obtain ⟨n,rfl⟩:=ex1 ‹_<n›
  obtain rfl:=List.length_eq_zero_iff.1 h1
  refine ⟨S,h8,fun z=>by simp,?_⟩
  show zAE _ _ _ _ _ _=_
  unfold zAE
  rw [zf (df (by omega)),List.append_nil]
 | succ m ih =>
  intro n S T h1 h2 h3 h4 h5 h6 h7 h8
  obtain ⟨n,rfl⟩:=ex1 ‹_<n›
  obtain ⟨x,T',rfl⟩:∃ x T',T=x::T':=by cases T with | nil=>simp at h1 | cons x T'=>exact ⟨x,T',rfl⟩
  have h7':=List.pairwise_cons.1 h7
  obtain ⟨P',p1,p2,p3,p4⟩:=zYE h hv (i:=(S.length:Int)) (se:=zAB 0 ((S.length+(m+1):Nat):Int) (fun y0 y1=>zA7 y0 y1 (fun y0=>zA3 y0 v zs)) n) (h5 x (by simp)) (by omega) S.length z5 S T' rfl (by unfold z5; omega) (by omega) (fun y hy=>⟨h4 y hy,h6 y hy x (by simp)⟩) h8
  obtain ⟨L,l1,l2,l3⟩:=ih n P' T' (by simpa using h1) (by omega) (by omega) (fun y hy=>by
   rcases (p3 y).1 hy with rfl | hy
   ·exact h5 y (by simp)
   ·exact h4 y hy) (fun y hy=>h5 y (by simp [hy])) (fun y hy z hz=>by
   rcases (p3 y).1 hy with rfl | hy
   ·exact h7'.1 z hz
   ·exact h6 y hy z (by simp [hz])) h7'.2 p2
  refine ⟨L,l1,fun z => ?_,?_⟩
  ·rw [l2,p3,List.mem_cons]
   constructor
   ·rintro ((h | h) | h)
    ·exact .inr (.inl h)
    ·exact .inl h
    ·exact .inr (.inr h)
   ·rintro (h | h | h)
    ·exact .inl (.inr h)
    ·exact .inl (.inl h)
    ·exact .inr h
  ·show zAE _ _ _ _ _ _=_
   unfold zAE
   rw [zz (dt (by omega)),p4, ← l3,p1,show S.length+(m+1)=S.length+1+m by omega]
   rfl
theorem zXY (h:Gn zs) (hv:0≤v∧v<4) {T:List Int} (hT:T.length≤6) (hi:∀ y,y∈T→Ix zs y) (hs:Srt T):∃ L,Srt (L.map (gK zs v))∧(∀ z,z∈L↔z∈T)∧zBK T (fun y0 y1=>zA7 y0 y1 (fun y0=>zA3 y0 v zs))=some L:=by
 have key:∃ L,Srt (L.map (gK zs v))∧(∀ z,z∈L↔z∈T)∧zA0 T 0 (T.length:Int) (fun y0 y1=>zA7 y0 y1 (fun y0=>zA3 y0 v zs))=some L:=by
  unfold zA0
  rw [zP (zu (by omega))]
  cases T with
  | nil=>exact ⟨[],Srt.nil,fun z=>Iff.rfl,by
    rw [show z5=(z5 - 1)+1 from rfl]
    show zAE _ _ _ _ _ _=_
    unfold zAE
    rw [zf (by rfl)]⟩
  | cons x T =>
   have hs':=List.pairwise_cons.1 hs
   obtain ⟨L,l1,l2,l3⟩:=zXX h hv T.length z5 [x] T rfl (by simp at hT; unfold z5; omega) (by simp at hT ⊢; omega) (fun y hy=>hi y (by simp at hy; simp [hy])) (fun y hy=>hi y (by simp [hy])) (fun y hy z hz=>by simp at hy; subst hy; exact hs'.1 z hz) hs'.2 (zL3 _)
   refine ⟨L,l1,fun z=>by rw [l2]; simp,?_⟩
   rw [← l3,show ((x::T).length:Int)=(([x].length+T.length:Nat):Int) by rw [List.length_cons]; show _=((1+T.length:Nat):Int); omega]
   rfl
 obtain ⟨L,l1,l2,l3⟩:=key
 refine ⟨L,l1,l2,?_⟩
 unfold zBK zC2
 have e1:zBh (T.length:Int) (fun y0 y1=>zA7 y0 y1 (fun y0=>zA3 y0 v zs)) z5 0 20 T=some L:=by
  rw [show z5=(z5 - 1)+1 from rfl]
  show zBi _ _ _ _ _ _=_
  unfold zBi zCX
  rw [zf (df (by omega)),l3,zAw]
  rw [show z5=(z5 - 1)+1 from rfl]
  show zBj _ _ _ _=_
  unfold zBj
  rw [zf (df (by omega))]
 rw [e1]
 rfl
def zS4 (zs:List zW) (kern:Bool) (i:Int):Bool := !kern||decide ((at_ zs i).kind=0)
theorem zSA (h:Gn zs):∀ (m n i:Nat),i+m=zs.length→m<n→zEj zs n (i:Int)=some 0∧zJS zs n (i:Int)=some 0:=by
 have hn:=h.n
 intro m
 induction m with
 | zero =>
  intro n i h1 h2
  obtain ⟨n,rfl⟩:=ex1 ‹_<n›
  show zCl _ _ _=_∧zF5 _ _ _=_
  unfold zCl zF5
  rw [zf (df (by omega)),zf (df (by omega))]
  exact ⟨rfl,rfl⟩
 | succ m ih =>
  intro n i h1 h2
  obtain ⟨n,rfl⟩:=ex1 ‹_<n›
  have hi:i<zs.length:=by omega
  have h3:=h.nd _ (zAv hi)
  have h4:=h.kd _ (zAv hi)
  have h5:((!decide ((at_ zs (i:Int)).kind=0))&&(!decide ((at_ zs (i:Int)).kind=1)))=false:=by
   rcases h4 with e | e <;> rw [e] <;> rfl
  show zCl _ _ _=_∧zF5 _ _ _=_
  unfold zCl zF5
  rw [zz (dt (by omega)),zz (dt (by omega)),zP (zAD hi),zP (zAD hi),df (by omega),df (by omega),h5,Bool.or_false,zf rfl,zf rfl,zf rfl,zf rfl,zP (zu (by omega)),zP (zu (by omega))]
  exact ih n (i+1) (by omega) (by omega)
theorem zWa (h:Gn zs) (hv:0≤v∧v<4) {kern:Bool}:∀ (m n i:Nat) (l:List Int),i+m=zs.length→m<n→l.length≤i→Srt l→(∀ z,z∈l ↔ ∃ k:Nat,z=(k:Int)∧k<i∧zS4 zs kern z=true) →
  ∃ L,Srt (L.map (gK zs v))∧(∀ z,z∈L↔Ix zs z∧zS4 zs kern z=true)∧zDb zs v kern n (i:Int) l=some (L,0):=by
 have hn:=h.n
 intro m
 induction m with
 | zero =>
  intro n i l h1 h2 h3 h4 h5
  obtain ⟨n,rfl⟩:=ex1 ‹_<n›
  obtain ⟨L,l1,l2,l3⟩:=zXY h hv (T:=l) (by omega) (fun y hy=>by
   obtain ⟨k,e,hk,_⟩:=(h5 y).1 hy
   exact ⟨k,e,by omega⟩) h4
  refine ⟨L,l1,fun z => ?_,?_⟩
  ·rw [l2,h5]
   constructor
   ·rintro ⟨k,e,hk,hs⟩; exact ⟨⟨k,e,by omega⟩,hs⟩
   ·rintro ⟨⟨k,e,hk⟩,hs⟩; exact ⟨k,e,by omega,hs⟩
  ·show zBl _ _ _ _ _ _=_
   unfold zBl zFy
   rw [zf (df (by omega)),l3,zAw]
 | succ m ih =>
  intro n i l h1 h2 h3 h4 h5
  obtain ⟨n,rfl⟩:=ex1 ‹_<n›
  have hi:i<zs.length:=by omega
  have hcur:zS4 zs kern (i:Int)=((!kern)||decide ((at_ zs (i:Int)).kind=0)):=rfl
  cases hs:zS4 zs kern (i:Int) with
  | true =>
   obtain ⟨L,l1,l2,l3⟩:=ih n (i+1) (l++[(i:Int)]) (by omega) (by omega) (by simp; omega) (by
    rw [zJF]
    refine ⟨h4,zL3 _,fun a ha b hb => ?_⟩
    obtain ⟨k,e,hk,_⟩:=(h5 a).1 ha
    simp at hb
    omega) (fun z=>by
    rw [List.mem_append,h5]
    constructor
    ·rintro (⟨k,e,hk,hs'⟩ | hz)
     ·exact ⟨k,e,by omega,hs'⟩
     ·simp at hz
      subst hz
      exact ⟨i,rfl,by omega,hs⟩
    ·rintro ⟨k,e,hk,hs'⟩
     by_cases hki:k<i
     ·exact .inl ⟨k,e,hki,hs'⟩
     ·exact .inr (by simp; omega))
   refine ⟨L,l1,l2,?_⟩
   show zBl _ _ _ _ _ _=_
   unfold zBl zDe
   rw [zz (dt (by omega)),zP (zAD hi), ← hcur,hs,zz rfl,zP (dt (by simp; omega)),zP (zu (by omega))]
   exact l3
  | false =>
   obtain ⟨L,l1,l2,l3⟩:=ih n (i+1) l (by omega) (by omega) (by omega) h4 (fun z=>by
    rw [h5]
    constructor
    ·rintro ⟨k,e,hk,hs'⟩; exact ⟨k,e,by omega,hs'⟩
    ·rintro ⟨k,e,hk,hs'⟩
     refine ⟨k,e,?_,hs'⟩
     refine Nat.lt_of_not_le fun hki => ?_
     have:k=i:=by omega
     subst this
     rw [e,hs] at hs'
     cases hs')
   refine ⟨L,l1,l2,?_⟩
   show zBl _ _ _ _ _ _=_
   unfold zBl zDe
   rw [zz (dt (by omega)),zP (zAD hi), ← hcur,hs,zf rfl,zP (zu (by omega))]
   exact l3
theorem zYR (h:Gn zs) (hv:0≤v∧v<4) (kern:Bool):∃ L,Srt (L.map (gK zs v))∧(∀ z,z∈L↔Ix zs z∧zS4 zs kern z=true)∧zEX zs v kern=some (L,0):=by
 have hn:=h.n
 obtain ⟨L,l1,l2,l3⟩:=zWa h hv (kern:=kern) zs.length z5 0 [] (by omega) (by unfold z5; omega) (Nat.le_refl _) Srt.nil (fun z=>⟨fun hz=>(by cases hz),fun ⟨k,_,hk,_⟩=>by omega⟩)
 refine ⟨L,l1,l2,?_⟩
 unfold zEX zHa zHb
 rw [zf (df (by omega)),z0i,(zSA h zs.length z5 0 (by omega) (by unfold z5; omega)).1,zAw]
 rw [zf (by rfl),df (by omega),df (by omega),zf (by rfl),zAw,zf (by rfl)]
 exact l3
theorem zY8 (h:Gn zs) {q:Int}:∀ (m n i:Nat),i+m=zs.length→m<n → ∃ b,zK6 zs q n (i:Int)=some b∧(b=true ↔ ∃ k:Nat,i≤k∧k<zs.length∧(at_ zs (k:Int)).node=q):=by
 have hn:=h.n
 intro m
 induction m with
 | zero =>
  intro n i h1 h2
  obtain ⟨n,rfl⟩:=ex1 ‹_<n›
  refine ⟨false,?_,fun e=>(by cases e),fun ⟨k,k1,k2,_⟩=>by omega⟩
  show zFb _ _ _ _=_
  unfold zFb
  rw [zf (df (by omega))]
  rfl
 | succ m ih =>
  intro n i h1 h2
  obtain ⟨n,rfl⟩:=ex1 ‹_<n›
  have hi:i<zs.length:=by omega
  by_cases hq:(at_ zs (i:Int)).node=q
  ·refine ⟨true,?_,fun _=>⟨i,Nat.le_refl _,hi,hq⟩,fun _=>rfl⟩
   show zFb _ _ _ _=_
   unfold zFb
   rw [zz (dt (by omega)),zP (zAD hi),zz (dt hq)]
  ·obtain ⟨b,b1,b2⟩:=ih n (i+1) (by omega) (by omega)
   refine ⟨b,?_,b2.trans ⟨fun ⟨k,k1,k2,k3⟩=>⟨k,by omega,k2,k3⟩,fun ⟨k,k1,k2,k3⟩=>⟨k,?_,k2,k3⟩⟩⟩
   ·show zFb _ _ _ _=_
    unfold zFb
    rw [zz (dt (by omega)),zP (zAD hi),zf (df hq),zP (zu (by omega))]
    exact b1
   ·refine Nat.lt_of_not_le fun hk => ?_
    have:k=i:=by omega
    subst this
    exact hq k3
def zXo (zs:List zW) (q:Int):Prop := ∃ k:Nat,k<zs.length∧(at_ zs (k:Int)).node=q
theorem zT3 (h:Gn zs) (hv:0≤v∧v<4):∀ (m n d:Nat) (l:List Int),d+m=4→m<n→Srt (l.map (zNS v))→l.length≤2*d→(∀ q,q∈l↔zXo zs q ∧ -(d:Int)<q - v∧q - v<d) →
  ∃ ns,Srt (ns.map (zNS v))∧ns.length≤8∧(∀ q,q∈ns↔zXo zs q)∧zCp zs v n (d:Int) l=some (ns,0):=by
 have hn:=h.n
 intro m
 induction m with
 | zero =>
  intro n d l h1 h2 h3 h4 h5
  obtain ⟨n,rfl⟩:=ex1 ‹_<n›
  refine ⟨l,h3,by omega,fun q => ?_,?_⟩
  ·rw [h5]
   refine ⟨And.left,fun hq=>⟨hq,?_⟩⟩
   obtain ⟨k,k1,k2⟩:=hq
   have:=h.nd _ (zAv k1)
   omega
  ·show zGI _ _ _ _ _=_
   unfold zGI zLY
   rw [zf (df (by omega))]
 | succ m ih =>
  intro n d l h1 h2 h3 h4 h5
  obtain ⟨n,rfl⟩:=ex1 ‹_<n›
  obtain ⟨b1,e1,g1⟩:=zY8 h (q:=v - d) zs.length z5 0 (by omega) (by unfold z5; omega)
  obtain ⟨b2,e2,g2⟩:=zY8 h (q:=v+d) zs.length z5 0 (by omega) (by unfold z5; omega)
  have g1':b1=true↔zXo zs (v - d):=g1.trans ⟨fun ⟨k,_,k2,k3⟩=>⟨k,k2,k3⟩,fun ⟨k,k2,k3⟩=>⟨k,Nat.zero_le _,k2,k3⟩⟩
  have g2':b2=true↔zXo zs (v+d):=g2.trans ⟨fun ⟨k,_,k2,k3⟩=>⟨k,k2,k3⟩,fun ⟨k,k2,k3⟩=>⟨k,Nat.zero_le _,k2,k3⟩⟩
  have hk:∀ q,q∈l→zNS v q<2*d:=fun q hq=>by
   obtain ⟨_,q1,q2⟩:=(h5 q).1 hq
   unfold zNS
   split <;> omega
  have hadd:∀ (c1 c2:Bool),(c1=true↔b1=true)→(c2=true↔0<d∧b2=true) → ∃ ns,Srt (ns.map (zNS v))∧ns.length≤8∧(∀ q,q∈ns↔zXo zs q)∧zCp zs v n ((d+1:Nat):Int) (l++(if c1 then [v - (d:Int)] else [])++(if c2 then [v+(d:Int)] else []))=some (ns,0):=fun c1 c2 i1 i2=>by
   refine ih n (d+1) _ (by omega) (by omega) ?_ ?_ (fun q => ?_)
   ·rw [List.map_append,List.map_append,zJF,zJF]
    refine ⟨⟨h3,?_,fun a ha b hb => ?_⟩,?_,fun a ha b hb => ?_⟩
    ·cases c1
     ·exact Srt.nil
     ·exact zL3 _
    ·obtain ⟨q,hq,rfl⟩:=List.mem_map.1 ha
     have:=hk q hq
     cases c1
     ·cases hb
     ·simp at hb
      subst hb
      unfold zNS at this ⊢
      split <;> split at this <;> omega
    ·cases c2
     ·exact Srt.nil
     ·exact zL3 _
    ·cases c2 with
     | false=>cases hb
     | true =>
      have hd:=(i2.1 rfl).1
      simp at hb
      subst hb
      rcases List.mem_append.1 ha with ha | ha
      ·obtain ⟨q,hq,rfl⟩:=List.mem_map.1 ha
       have:=hk q hq
       unfold zNS at this ⊢
       split <;> split at this <;> omega
      ·cases c1
       ·cases ha
       ·simp at ha
        subst ha
        unfold zNS
        split <;> split <;> omega
   ·rw [List.length_append,List.length_append]
    cases c1 <;> cases c2 <;> simp <;> omega
   ·rw [List.mem_append,List.mem_append,h5]
    have m1:q∈(if c1 then [v - (d:Int)] else [])↔c1=true∧q=v - d:=by cases c1 <;> simp
    have m2:q∈(if c2 then [v+(d:Int)] else [])↔c2=true∧q=v+d:=by cases c2 <;> simp
    rw [m1,m2,i1,i2,g1',g2']
    constructor
    ·rintro ((⟨h1,h2,h3⟩ | ⟨h1,rfl⟩) | ⟨⟨h0,h1⟩,rfl⟩)
     ·exact ⟨h1,by omega⟩
     ·exact ⟨h1,by omega⟩
     ·exact ⟨h1,by omega⟩
    ·rintro ⟨h1,h2,h3⟩
     by_cases e1:q=v - d
     ·exact .inl (.inr ⟨e1▸h1,e1⟩)
     ·by_cases e2:q=v+d
      ·exact .inr ⟨⟨by omega,e2▸h1⟩,e2⟩
      ·exact .inl (.inl ⟨h1,by omega⟩)
  have hlen:l.length≤8:=by omega
  have hj:∀ (l':List Int),l'.length≤9→zHf (zCp zs v n) zs v (d:Int) l'=zCp zs v n ((d+1:Nat):Int) (l'++(if (decide (0<(d:Int))&&b2) then [v+(d:Int)] else [])):=fun l' hl'=>by
   unfold zHf zJZ zMD
   rw [zP (zNN (zu (by omega)))]
   by_cases hd:0<d
   ·rw [dt (p:=(0:Int)<(d:Int)) (by omega),zz rfl,z0i,e2,zAw]
    cases b2 with
    | true =>
     rw [zz (by rfl),zP (zu (by omega)),zP (dt (by simp; omega)),zP (zu (by omega))]
     rfl
    | false =>
     rw [zf (by rfl),zP (zu (by omega))]
     show _=zCp zs v n _ (l'++[])
     rw [List.append_nil]
     rfl
   ·rw [df (p:=(0:Int)<(d:Int)) (by omega),zf rfl,zAw,zf (by rfl),zP (zu (by omega))]
    show _=zCp zs v n _ (l'++[])
    rw [List.append_nil]
    rfl
  obtain ⟨ns,n1,n2,n3,n4⟩:=hadd b1 (decide (0<(d:Int))&&b2) Iff.rfl (by rw [Bool.and_eq_true,decide_eq_true_eq]; exact ⟨fun ⟨a,b⟩=>⟨by omega,b⟩,fun ⟨a,b⟩=>⟨by omega,b⟩⟩)
  refine ⟨ns,n1,n2,n3,?_⟩
  rw [← n4]
  show zGI _ _ _ _ _=_
  unfold zGI zMD
  rw [zz (dt (by omega)),zP (zu (by omega)),z0i,e1,zAw]
  cases b1 with
  | true =>
   rw [zz rfl,zP (dt (by simp; omega)),hj _ (by simp; omega)]
   rfl
  | false =>
   rw [zf rfl,hj _ (by omega)]
   show _=zCp zs v n _ (l++[]++_)
   rw [List.append_nil]
   rfl
theorem zVW (h:Gn zs) (hv:0≤v∧v<4):∃ ns,Srt (ns.map (zNS v))∧ns.length≤8∧(∀ q,q∈ns↔zXo zs q)∧zLn zs v=some (ns,0):=by
 have hn:=h.n
 obtain ⟨ns,n1,n2,n3,n4⟩:=zT3 h hv 4 z5 0 [] (by omega) (by unfold z5; omega) Srt.nil (Nat.le_refl _) (fun q=>⟨fun hq=>(by cases hq),fun ⟨_,h1,h2⟩=>by omega⟩)
 refine ⟨ns,n1,n2,n3,?_⟩
 unfold zLn zOC
 rw [zf (df (by omega)),z0i,(zSA h zs.length z5 0 (by omega) (by unfold z5; omega)).2,zAw]
 rw [zf (by rfl),df (by omega),df (by omega),zf (by rfl)]
 exact n4
end
end Go.Proofs.Ytplkliakhdkpcaa
namespace Go.Proofs.Ytplkliakhdkpcaa
open Go Go.RowKit Go.Wk Go.Am
def zP4 (zs:List zW) (q K:Int):Nat→Nat→List Int
 | 0,_=>[]
 | m+1,i=>if ((at_ zs (i:Int)).node=q∧(at_ zs (i:Int)).kind=K) then (i:Int)::zP4 zs q K m (i+1) else zP4 zs q K m (i+1)
section
variable {zs:List zW} {v q K:Int}
theorem zI3:∀ {m i:Nat} {z:Int},z∈zP4 zs q K m i ↔ ∃ k:Nat,z=(k:Int)∧i≤k∧k<i+m∧(at_ zs (k:Int)).node=q∧(at_ zs (k:Int)).kind=K
 | 0,i,z=>⟨fun h=>(by cases h),fun ⟨k,_,h1,h2,_⟩=>by omega⟩
 | m+1,i,z=>by
  unfold zP4
  by_cases h:(at_ zs (i:Int)).node=q∧(at_ zs (i:Int)).kind=K
  ·rw [if_pos h,List.mem_cons,zI3]
   constructor
   ·rintro (rfl | ⟨k,e,h1,h2,h3⟩)
    ·exact ⟨i,rfl,Nat.le_refl _,by omega,h⟩
    ·exact ⟨k,e,by omega,by omega,h3⟩
   ·rintro ⟨k,e,h1,h2,h3⟩
    by_cases hk:k=i
    ·subst hk; exact .inl e
    ·exact .inr ⟨k,e,by omega,by omega,h3⟩
  ·rw [if_neg h,zI3]
   constructor
   ·rintro ⟨k,e,h1,h2,h3⟩; exact ⟨k,e,by omega,by omega,h3⟩
   ·rintro ⟨k,e,h1,h2,h3⟩
    refine ⟨k,e,?_,by omega,h3⟩
    refine Nat.lt_of_not_le fun hk => ?_
    have:k=i:=by omega
    subst this
    exact h h3
theorem zNa:∀ {m i:Nat},Srt (zP4 zs q K m i)
 | 0,_=>Srt.nil
 | m+1,i=>by
  unfold zP4
  by_cases h:(at_ zs (i:Int)).node=q∧(at_ zs (i:Int)).kind=K
  ·rw [if_pos h]
   refine List.pairwise_cons.2 ⟨fun z hz => ?_,zNa⟩
   obtain ⟨k,e,h1,_⟩:=zI3.1 hz
   omega
  ·rw [if_neg h]; exact zNa
theorem zPR:∀ {m i:Nat},(zP4 zs q K m i).length≤m
 | 0,_=>Nat.le_refl _
 | m+1,i=>by
  have:=zPR (m:=m) (i:=i+1)
  unfold zP4
  split
  ·simp; omega
  ·omega
theorem zUM {a b:Prop} [Decidable a] [Decidable b]:(decide a&&decide b)=decide (a∧b):=by simp
theorem zTH (h:Gn zs) {ns:List Int} {t:Nat} (ht:t<ns.length) (hns:ns.length≤8) (hq:at_ ns (t:Int)=q) {se:Int→List Int→Option (List Int×Int)}:∀ (m n i:Nat) (l:List Int),i+m=zs.length→m<n→l.length+m≤1000 →
  zJd se zs (ns,0) (t:Int) n (i:Int) l=se ((t+1:Nat):Int) (l++zP4 zs q 0 m i):=by
 have hn:=h.n
 intro m
 induction m with
 | zero =>
  intro n i l h1 h2 h3
  obtain ⟨n,rfl⟩:=ex1 ‹_<n›
  show zF6 _ _ _ _ _ _ _=_
  unfold zF6 zLW zP4
  rw [zf (df (by omega)),zP (zu (by omega)),List.append_nil]
  rfl
 | succ m ih =>
  intro n i l h1 h2 h3
  obtain ⟨n,rfl⟩:=ex1 ‹_<n›
  have hi:i<zs.length:=by omega
  show zF6 _ _ _ _ _ _ _=_
  unfold zF6 zJf zP4
  rw [zz (dt (by omega)),zP (zAD hi),zP (zAD ht),hq,zUM]
  by_cases hh:(at_ zs (i:Int)).node=q∧(at_ zs (i:Int)).kind=0
  ·rw [zz (dt hh),if_pos hh,zP (dt (by simp; omega)),zP (zu (by omega))]
   refine (ih n (i+1) (l++[(i:Int)]) (by omega) (by omega) (by simp; omega)).trans ?_
   rw [List.append_assoc]
   rfl
  ·rw [zf (df hh),if_neg hh,zP (zu (by omega))]
   exact ih n (i+1) l (by omega) (by omega) (by omega)
theorem zXA (h:Gn zs) {ns:List Int} {t:Nat} (ht:t<ns.length) (hns:ns.length≤8) (hq:at_ ns (t:Int)=q) {se:Int→List Int→Option (List Int×Int)}:∀ (m n i:Nat) (l:List Int),i+m=zs.length→m<n→l.length+m≤1000 →
  zHk se zs false (ns,0) (t:Int) n (i:Int) l=zJV se zs (ns,0) (t:Int) (l++zP4 zs q 1 m i):=by
 have hn:=h.n
 intro m
 induction m with
 | zero =>
  intro n i l h1 h2 h3
  obtain ⟨n,rfl⟩:=ex1 ‹_<n›
  show zER _ _ _ _ _ _ _ _=_
  unfold zER zP4
  rw [df (p:=(i:Int)<(zs.length:Int)) (by omega),zf (by rfl),List.append_nil]
 | succ m ih =>
  intro n i l h1 h2 h3
  obtain ⟨n,rfl⟩:=ex1 ‹_<n›
  have hi:i<zs.length:=by omega
  show zER _ _ _ _ _ _ _ _=_
  unfold zER zJJ zP4
  rw [dt (p:=(i:Int)<(zs.length:Int)) (by omega),zz (by rfl),zP (zAD hi),zP (zAD ht),hq,zUM]
  by_cases hh:(at_ zs (i:Int)).node=q∧(at_ zs (i:Int)).kind=1
  ·rw [zz (dt hh),if_pos hh,zP (dt (by simp; omega)),zP (zu (by omega))]
   refine (ih n (i+1) (l++[(i:Int)]) (by omega) (by omega) (by simp; omega)).trans ?_
   rw [List.append_assoc]
   rfl
  ·rw [zf (df hh),if_neg hh,zP (zu (by omega))]
   exact ih n (i+1) l (by omega) (by omega) (by omega)
def zWP (zs:List zW) (kern:Bool) (q:Int):List Int:=(if kern then [] else zP4 zs q 1 zs.length 0)++zP4 zs q 0 zs.length 0
theorem zSQ (h:Gn zs) {kern:Bool} {z:Int}:z∈zWP zs kern q↔Ix zs z∧zS4 zs kern z=true∧(at_ zs z).node=q:=by
 unfold zWP zS4
 rw [List.mem_append,zI3]
 constructor
 ·rintro (hz | ⟨k,e,_,h2,h3,h4⟩)
  ·cases kern with
   | true=>cases hz
   | false =>
    obtain ⟨k,e,_,h2,h3,h4⟩:=zI3.1 hz
    subst e
    exact ⟨⟨k,rfl,by omega⟩,rfl,h3⟩
  ·subst e
   exact ⟨⟨k,rfl,by omega⟩,by rw [dt h4,Bool.or_true],h3⟩
 ·rintro ⟨⟨k,e,hk⟩,hs,hq⟩
  subst e
  rcases h.kd _ (zAv hk) with e0 | e1
  ·exact .inr ⟨k,rfl,Nat.zero_le _,by omega,hq,e0⟩
  ·cases kern with
   | true =>
    rw [df (p:=(at_ zs (k:Int)).kind=0) (by omega)] at hs
    cases hs
   | false=>exact .inl (zI3.2 ⟨k,rfl,Nat.zero_le _,by omega,hq,e1⟩)
theorem zTG {l:List Int} {r:Int} (hs:Srt l) (hr:∀ z,z∈l→zJ0 zs v z=r):Srt (l.map (gK zs v)):=by
 refine List.pairwise_map.2 (hs.imp_of_mem fun {a b} ha hb hab => ?_)
 unfold gK
 rw [hr a ha,hr b hb]
 omega
theorem zVd (h:Gn zs) {kern:Bool}:Srt ((zWP zs kern q).map (gK zs v)):=by
 have h0:∀ z,z∈zP4 zs q 0 zs.length 0→Ix zs z∧zJ0 zs v z=2*zNS v q+1:=fun z hz=>by
  obtain ⟨k,e,_,h2,h3,h4⟩:=zI3.1 hz
  subst e
  exact ⟨⟨k,rfl,by omega⟩,by unfold zJ0; rw [if_pos h4,h3]⟩
 have h1:∀ z,z∈zP4 zs q 1 zs.length 0→Ix zs z∧zJ0 zs v z=2*zNS v q:=fun z hz=>by
  obtain ⟨k,e,_,h2,h3,h4⟩:=zI3.1 hz
  subst e
  exact ⟨⟨k,rfl,by omega⟩,by unfold zJ0; rw [if_neg (by omega),h3]⟩
 unfold zWP
 rw [List.map_append,zJF]
 refine ⟨?_,zTG zNa (fun z hz=>(h0 z hz).2),fun a ha b hb => ?_⟩
 ·cases kern with
  | true=>exact Srt.nil
  | false=>exact zTG zNa (fun z hz=>(h1 z hz).2)
 ·obtain ⟨y,hy,rfl⟩:=List.mem_map.1 hb
  cases kern with
  | true=>cases ha
  | false =>
   obtain ⟨x,hx,rfl⟩:=List.mem_map.1 ha
   exact zUp h (h1 x hx).1 (h0 y hy).1 (by rw [(h1 x hx).2,(h0 y hy).2]; omega)
theorem zSB (z:Int):2*zNS v (at_ zs z).node≤zJ0 zs v z∧zJ0 zs v z≤2*zNS v (at_ zs z).node+1:=by
 unfold zJ0
 split <;> omega
theorem zW5 (h:Gn zs) {kern:Bool} {ns:List Int} (hns:ns.length≤8) (hks:Srt (ns.map (zNS v))):∀ (m n t:Nat) (l:List Int),t+m=ns.length→m<n→l.length≤12*t→Srt (l.map (gK zs v))→(∀ z,z∈l↔Ix zs z∧zS4 zs kern z=true∧(at_ zs z).node∈ns.take t) →
  ∃ L,Srt (L.map (gK zs v))∧(∀ z,z∈L↔Ix zs z∧zS4 zs kern z=true∧(at_ zs z).node∈ns)∧zEV zs kern (ns,0) n (t:Int) l=some (L,0):=by
 have hn:=h.n
 intro m
 induction m with
 | zero =>
  intro n t l h1 h2 h3 h4 h5
  obtain ⟨n,rfl⟩:=ex1 ‹_<n›
  refine ⟨l,h4,fun z=>by rw [h5,List.take_of_length_le (by omega)],?_⟩
  show zGD _ _ _ _ _ _=_
  unfold zGD zLf
  rw [zf (df (show ¬ (t:Int)<(ns.length:Int) by omega))]
 | succ m ih =>
  intro n t l h1 h2 h3 h4 h5
  obtain ⟨n,rfl⟩:=ex1 ‹_<n›
  have ht:t<ns.length:=by omega
  have hl1:=zPR (zs:=zs) (q:=at_ ns (t:Int)) (K:=1) (m:=zs.length) (i:=0)
  have hl0:=zPR (zs:=zs) (q:=at_ ns (t:Int)) (K:=0) (m:=zs.length) (i:=0)
  have hstep:zEV zs kern (ns,0) (n+1) (t:Int) l=zEV zs kern (ns,0) n ((t+1:Nat):Int) (l++zWP zs kern (at_ ns (t:Int))):=by
   show zGD _ _ _ _ _ _=_
   unfold zGD zWP
   rw [zz (dt (show (t:Int)<(ns.length:Int) by omega))]
   cases kern with
   | true =>
    rw [show zHk (zEV zs true (ns,0) n) zs true (ns,0) (t:Int) z5 0 l=zJV (zEV zs true (ns,0) n) zs (ns,0) (t:Int) l by
     rw [show z5=(z5 - 1)+1 from rfl]
     show zER _ _ _ _ _ _ _ _=_
     unfold zER
     rw [zf (by rw [Bool.not_true,Bool.and_false])]]
    exact zTH h ht hns rfl zs.length z5 0 l (by omega) (by unfold z5; omega) (by omega)
   | false =>
    refine (zXA h ht hns rfl zs.length z5 0 l (by omega) (by unfold z5; omega) (by omega)).trans ?_
    refine (zTH h ht hns rfl zs.length z5 0 _ (by omega) (by unfold z5; omega) (by rw [List.length_append]; omega)).trans ?_
    rw [List.append_assoc]
    rfl
  rw [hstep]
  refine ih n (t+1) _ (by omega) (by omega) ?_ ?_ (fun z => ?_)
  ·unfold zWP
   rw [List.length_append,List.length_append]
   cases kern <;> simp <;> omega
  ·rw [List.map_append,zJF]
   refine ⟨h4,zVd h,fun a ha b hb => ?_⟩
   obtain ⟨x,hx,rfl⟩:=List.mem_map.1 ha
   obtain ⟨y,hy,rfl⟩:=List.mem_map.1 hb
   have hx':=(h5 x).1 hx
   have hy':=(zSQ h).1 hy
   have hk:zNS v (at_ zs x).node<zNS v (at_ ns (t:Int)):=by
    obtain ⟨i,hi,e⟩:=List.getElem_of_mem hx'.2.2
    rw [List.length_take] at hi
    rw [List.getElem_take] at e
    have:=zJ9 hks (i:=i) (j:=t) (x:=zNS v ns[i]) (y:=zNS v ns[t]) (by rw [List.getElem?_map,List.getElem?_eq_getElem (by omega)]; rfl) (by rw [List.getElem?_map,List.getElem?_eq_getElem ht]; rfl) (by omega)
    rw [← e,zFW ht]
    exact this
   refine zUp h hx'.1 hy'.1 ?_
   have r1:=(zSB (zs:=zs) (v:=v) x).2
   have r2:=(zSB (zs:=zs) (v:=v) y).1
   rw [hy'.2.2] at r2
   omega
  ·rw [List.mem_append,h5,zSQ h,List.take_add_one,List.mem_append,zZ0 ht]
   simp only [Option.toList_some,List.mem_singleton]
   constructor
   ·rintro (⟨h1,h2,h3⟩ | ⟨h1,h2,h3⟩)
    ·exact ⟨h1,h2,.inl h3⟩
    ·exact ⟨h1,h2,.inr h3⟩
   ·rintro ⟨h1,h2,h3 | h3⟩
    ·exact .inl ⟨h1,h2,h3⟩
    ·exact .inr ⟨h1,h2,h3⟩
theorem zVv {g:Int→Int}:∀ {l m:List Int},l.map g=m.map g→(∀ a b,a∈l→b∈m→g a=g b→a=b)→l=m
 | [],[],_,_=>rfl
 | [],_::_,h,_=>by cases h
 | _::_,[],h,_=>by cases h
 | a::l,b::m,h,hi=>by
  simp only [List.map_cons,List.cons.injEq] at h
  rw [hi a b (by simp) (by simp) h.1,zVv h.2 (fun x y hx hy=>hi x y (by simp [hx]) (by simp [hy]))]
theorem zYV (h:Gn zs) (hv:0≤v∧v<4) (kern:Bool):∃ L,(∀ z,z∈L↔Ix zs z∧zS4 zs kern z=true)∧L.length≤256∧zEX zs v kern=some (L,0)∧zOJ zs v kern=some (L,0):=by
 have hn:=h.n
 obtain ⟨L,l1,l2,l3⟩:=zYR h hv kern
 obtain ⟨ns,n1,n2,n3,n4⟩:=zVW h hv
 obtain ⟨M,m1,m2,m3⟩:=zW5 h (kern:=kern) (ns:=ns) n2 n1 ns.length z5 0 [] (by omega) (by unfold z5; omega) (Nat.le_refl _) Srt.nil (fun z=>⟨fun hz=>(by cases hz),fun ⟨_,_,hz⟩=>by simp at hz⟩)
 have hm:∀ z,z∈M↔z∈L:=fun z=>by
  rw [m2,l2]
  constructor
  ·rintro ⟨a,b,_⟩; exact ⟨a,b⟩
  ·rintro ⟨a,b⟩
   obtain ⟨k,e,hk⟩:=a
   subst e
   exact ⟨⟨k,rfl,hk⟩,b,(n3 _).2 ⟨k,hk,rfl⟩⟩
 have e:L=M:=by
  refine zVv (g:=gK zs v) (zRC l1 m1 (fun x => ?_)) (fun a b ha hb hg => ?_)
  ·constructor
   ·intro hx
    obtain ⟨z,hz,rfl⟩:=List.mem_map.1 hx
    exact List.mem_map_of_mem ((hm z).2 hz)
   ·intro hx
    obtain ⟨z,hz,rfl⟩:=List.mem_map.1 hx
    exact List.mem_map_of_mem ((hm z).1 hz)
  ·obtain ⟨i,rfl,hi⟩:=((l2 a).1 ha).1
   obtain ⟨j,rfl,hj⟩:=((l2 b).1 ((hm b).1 hb)).1
   unfold gK at hg
   omega
 have hlen:L.length≤256:=by
  have:=zRZ l1 (fun f hf=>by
   obtain ⟨z,hz,rfl⟩:=List.mem_map.1 hf
   obtain ⟨⟨k,rfl,hk⟩,_⟩:=(l2 z).1 hz
   have:=zQ5 h hv hk
   unfold gK
   omega)
  rwa [List.length_map] at this
 refine ⟨L,l2,hlen,l3,?_⟩
 unfold zOJ
 rw [n4,zAw]
 rw [zf (by rfl)]
 rw [e]
 exact m3
end
end Go.Proofs.Ytplkliakhdkpcaa
namespace Go.Proofs.Ytplkliakhdkpcaa
open Go Go.RowKit Go.Wk Go.Am
section
variable {c:zK} {zn z:Nat} {add:List Int}
theorem zZY (hl:add.length≤1000):∀ (m n i:Nat) (q:List (Int×Bool)),i+m=add.length→m<n→(∀ f,f∈add.drop i→zBw f=true∧zMB false q f=false)→(add.drop i).Nodup→zE9 c (z:Int) add n (i:Int) q=zE4 c (z:Int) add:=by
 intro m
 induction m with
 | zero =>
  intro n i q h1 h2 _ _
  obtain ⟨n,rfl⟩:=ex1 ‹_<n›
  show zDD _ _ _ _ _ _=_
  unfold zDD
  rw [zf (df (by omega))]
 | succ m ih =>
  intro n i q h1 h2 h3 h4
  obtain ⟨n,rfl⟩:=ex1 ‹_<n›
  have hi:i<add.length:=by omega
  rw [zC4 hi] at h3 h4
  have h0:=h3 (at_ add (i:Int)) (by simp)
  have hn:=List.nodup_cons.1 h4
  have hff:zCt (at_ add (i:Int))=some true:=by
   unfold zCt
   show some (zBw _)=_
   rw [h0.1]
  show zDD _ _ _ _ _ _=_
  unfold zDD
  rw [zz (dt (by omega)),zP (zAD hi),hff,zAw,Bool.not_true,zf rfl,h0.2,zf rfl,zP (zu (by omega))]
  refine ih n (i+1) _ (by omega) (by omega) (fun f hf=>⟨(h3 f (by simp [hf])).1,?_⟩) hn.2
  rw [zNY,if_neg (fun e=>hn.1 (by rw [← e]; exact hf))]
  exact (h3 f (by simp [hf])).2
theorem zYf {i:Nat} (hi:i<add.length):at_ add (((add.length:Int) - 1) - (i:Int))=at_ add.reverse (i:Int):=by
 rw [show ((add.length:Int) - 1) - (i:Int)=((add.length - 1 - i:Nat):Int) by omega,zFW (by omega),zFW (by rw [List.length_reverse]; exact hi),List.getElem_reverse]
theorem zZp (hl:add.length≤1000):∀ (m n i:Nat) (l:List Int),i+m=add.length→m<n→l.length+m≤2000→zE7 c (z:Int) add n (i:Int) l=zFB c (z:Int) (l++add.reverse.drop i):=by
 intro m
 induction m with
 | zero =>
  intro n i l h1 h2 _
  obtain ⟨n,rfl⟩:=ex1 ‹_<n›
  show zC7 _ _ _ _ _ _=_
  unfold zC7
  rw [zf (df (by omega)),List.drop_eq_nil_of_le (by rw [List.length_reverse]; omega),List.append_nil]
 | succ m ih =>
  intro n i l h1 h2 h3
  obtain ⟨n,rfl⟩:=ex1 ‹_<n›
  have hi:i<add.length:=by omega
  show zC7 _ _ _ _ _ _=_
  unfold zC7
  rw [zz (dt (by omega)),zP (zu (by omega)),zP (zu (by omega)),zP (zPr (by omega)),zYf hi,zP (dt (by simp; omega)),zP (zu (by omega)),zC4 (by rw [List.length_reverse]; exact hi)]
  refine (ih n (i+1) _ (by omega) (by omega) (by simp; omega)).trans ?_
  rw [List.append_assoc]
  rfl
theorem zWm (hp:Pc c zn) (hz:z<zn) (hl:add.length≤100) (hf:∀ f,f∈add→zBw f=true∧f ∉ c.lists.flatten) (hn:add.Nodup):zFw c (z:Int) add=some (⟨c.lists.set z (at_ c.lists (z:Int)++add.reverse)⟩,0):=by
 have hll:=hp.len
 have hzl:z<c.lists.length:=by omega
 have hbd:=hp.bd _ (zAv hzl)
 unfold zFw
 rw [zP1 hp hz,zAw,dt rfl,Bool.not_true,zf rfl,zQM hp.ck,zAw]
 refine (zZY (by omega) add.length z5 0 _ (by omega) (by unfold z5; omega) (fun f h=>⟨(hf f h).1,?_⟩) hn).trans ?_
 ·rw [zOQ,df (hf f h).2]
  rfl
 ·unfold zE4
  rw [zP (zAD hzl),zP (by simp; omega),zMU]
  refine (zZp (by omega) add.length z5 0 _ (by omega) (by unfold z5; omega) (by omega)).trans ?_
  unfold zFB
  rw [List.drop_zero,zN9 hp.ck (by rw [List.length_append,List.length_reverse]; omega),zAw,zAw]
theorem zZM {se:Int→Option (zK×Int)} {i:Nat} (hl:add.length≤1000) (hi:i<add.length) (hn:add.Nodup):∀ (m n j:Nat),j+m=i→m<n→zIu se add (i:Int) n (j:Int)=se ((i+1:Nat):Int):=by
 have hc:zFX add 0 (i:Int)=add.take i:=rfl
 intro m
 induction m with
 | zero =>
  intro n j h1 h2
  obtain ⟨n,rfl⟩:=ex1 ‹_<n›
  show zFh _ _ _ _ _=_
  unfold zFh zLB
  rw [hc,zf (df (by rw [List.length_take]; omega)),zP (zu (by omega))]
  rfl
 | succ m ih =>
  intro n j h1 h2
  obtain ⟨n,rfl⟩:=ex1 ‹_<n›
  have hj:j<(add.take i).length:=by rw [List.length_take]; omega
  have hne:at_ add (i:Int)≠at_ (add.take i) (j:Int):=by
   rw [zFW hi,zFW hj,List.getElem_take]
   rw [List.length_take] at hj
   exact fun e=>(List.pairwise_iff_getElem.1 hn j i (by omega) hi (by omega)) e.symm
  show zFh _ _ _ _ _=_
  unfold zFh
  rw [hc,zz (dt (by omega)),zP (zAD hj),zf (df hne),zP (zu (by omega))]
  exact ih n (j+1) (by omega) (by omega)
theorem zZQ (hp:Pc c zn) (hl:add.length≤1000) (hf:∀ f,f∈add→zBw f=true∧f ∉ c.lists.flatten) (hn:add.Nodup):∀ (m n i:Nat),i+m=add.length→m<n→zIl c (z:Int) add n (i:Int)=zIb c (z:Int) add:=by
 intro m
 induction m with
 | zero =>
  intro n i h1 h2
  obtain ⟨n,rfl⟩:=ex1 ‹_<n›
  show zFZ _ _ _ _ _=_
  unfold zFZ
  rw [zf (df (by omega))]
 | succ m ih =>
  intro n i h1 h2
  obtain ⟨n,rfl⟩:=ex1 ‹_<n›
  have hi:i<add.length:=by omega
  have h0:=hf _ (zAv hi)
  have hff:zDJ (at_ add (i:Int))=some false:=by
   have:=h0.1
   unfold zDJ
   unfold zBw at this
   simp at this ⊢
   omega
  show zFZ _ _ _ _ _=_
  unfold zFZ
  rw [zz (dt (by omega)),zP (zAD hi),hff,zAw,zf rfl,zV4 hp.ck,zAw,df h0.2,zf rfl,zP (by unfold zHG; simp; omega),z0i,zZM hl hi hn i z5 0 (by omega) (by unfold z5; omega)]
  exact ih n (i+1) (by omega) (by omega)
theorem zZd (hzl:z<c.lists.length) (hl:add.length≤1000) (hb:(at_ c.lists (z:Int)).length≤1000):∀ (m n:Nat),m≤add.length→m<n→zIZ (z:Int) add n ((m:Int) - 1) (c.lists.set z (at_ c.lists (z:Int)++(add.drop m).reverse))=some (⟨c.lists.set z (at_ c.lists (z:Int)++add.reverse)⟩,0):=by
 intro m
 induction m with
 | zero =>
  intro n h1 h2
  obtain ⟨n,rfl⟩:=ex1 ‹_<n›
  show zFl _ _ _ _ _=_
  unfold zFl zKj
  rw [zf (df (by omega)),List.drop_zero]
 | succ m ih =>
  intro n h1 h2
  obtain ⟨n,rfl⟩:=ex1 ‹_<n›
  have hi:m<add.length:=by omega
  have e:at_ (c.lists.set z (at_ c.lists (z:Int)++(add.drop (m+1)).reverse)) (z:Int)=at_ c.lists (z:Int)++(add.drop (m+1)).reverse:=by rw [zOE hzl,if_pos rfl]
  show zFl _ _ _ _ _=_
  unfold zFl
  rw [zz (dt (by omega)),zP (zAD (by rw [List.length_set]; exact hzl)),show ((m+1:Nat):Int) - 1=(m:Int) by omega,zP (zAD hi),e,zP (dt (by simp; omega)),zP (zu (by omega)),Int.toNat_natCast,List.set_set, ← ih n (by omega) (by omega),List.append_assoc,zC4 hi,List.reverse_cons]
theorem zXW (hp:Pc c zn) (hz:z<zn) (hl:add.length≤100) (hf:∀ f,f∈add→zBw f=true∧f ∉ c.lists.flatten) (hn:add.Nodup):zKi c (z:Int) add=some (⟨c.lists.set z (at_ c.lists (z:Int)++add.reverse)⟩,0):=by
 have hll:=hp.len
 have hzl:z<c.lists.length:=by omega
 have hbd:=hp.bd _ (zAv hzl)
 unfold zKi
 rw [zRP hp hz,zAw,dt rfl,Bool.not_true,zf rfl]
 refine (zZQ hp (by omega) hf hn add.length z5 0 (by omega) (by unfold z5; omega)).trans ?_
 unfold zIb
 rw [zOL hp.ck,zAw,zP (zu (by omega))]
 have:=zZd (c:=c) (z:=z) (add:=add) hzl (by omega) (by omega) add.length z5 (Nat.le_refl _) (by unfold z5; omega)
 rw [List.drop_length,List.reverse_nil,List.append_nil,zJA hzl] at this
 exact this
end
def refl:Nat→zW→zW×List Int
 | 0,z=>(z,[])
 | m+1,z=>if zNU z 0 5=none then (z,[]) else ((refl m (zDG z 0).1).1,(zDG z 0).2.1::(refl m (zDG z 0).1).2)
theorem zQ4:∀ (m:Nat) {z:zW},OkZ z→OkZ (refl m z).1∧zE0 (refl m z).1 z∧(refl m z).2.Nodup∧(refl m z).2.length≤m∧(∀ f,f∈(refl m z).2→inside z f 0=true∧cov z f)∧(∀ g,cov (refl m z).1 g↔cov z g∧g ∉ (refl m z).2)
 | 0,z,h=>⟨h,⟨rfl,rfl,rfl,rfl,rfl⟩,List.nodup_nil,Nat.le_refl _,(fun f hf=>by cases hf),fun g=>⟨fun x=>⟨x,by simp [refl]⟩,And.left⟩⟩
 | m+1,z,h=>by
  unfold refl
  by_cases hf:zNU z 0 5=none
  ·rw [if_pos hf]
   exact ⟨h,⟨rfl,rfl,rfl,rfl,rfl⟩,List.nodup_nil,Nat.zero_le _,(fun f hf=>by cases hf),fun g=>⟨fun x=>⟨x,by simp⟩,And.left⟩⟩
  ·rw [if_neg hf]
   obtain ⟨j,hj⟩:∃ j,zNU z 0 (5 - 0)=some j:=by
    cases h':zNU z 0 5 with
    | none=>exact absurd h' hf
    | some j=>exact ⟨j,rfl⟩
   obtain ⟨w1,w2,w3,w4,w5,w6⟩:=zNx h hj
   obtain ⟨i1,i2,i3,i4,i5,i6⟩:=zQ4 m w2
   rw [pw0] at w5 w6
   have hc0:cov z (zDG z 0).2.1:=w6 _ (by omega) (by omega)
   have hn0:(zDG z 0).2.1 ∉ (refl m (zDG z 0).1).2:=fun hm=>((w5 _).1 (i5 _ hm).2).2 ⟨by omega,by omega⟩
   refine ⟨i1,i2.trans w3,List.nodup_cons.2 ⟨hn0,i3⟩,by simp; omega,fun f hf' => ?_,fun g => ?_⟩
   ·rcases List.mem_cons.1 hf' with rfl | hf'
    ·exact ⟨w4,hc0⟩
    ·have:=i5 f hf'
     exact ⟨by rw [← w3.inside]; exact this.1,((w5 f).1 this.2).1⟩
   ·rw [i6,w5,List.mem_cons]
    constructor
    ·rintro ⟨⟨h1,h2⟩,h3⟩
     exact ⟨h1,fun h4=>h4.elim (fun e=>h2 (by omega)) h3⟩
    ·rintro ⟨h1,h2⟩
     exact ⟨⟨h1,fun h4=>h2 (.inl (by omega))⟩,fun h4=>h2 (.inr h4)⟩
theorem zVO {m:Nat} {z:zW} (ho:OkZ z) (h:(refl (m+1) z).2=[]):∀ g,¬ cov z g:=by
 unfold refl at h
 by_cases hf:zNU z 0 5=none
 ·exact zZU ho hf
 ·rw [if_neg hf] at h; cases h
section
variable {a:zH} {c p:Nat}
theorem zWG {b:Nat} (hb:(b:Int)=a.batch) (hbb:b≤64):∀ (m n:Nat) (zs:List zW) (l:List Int),l.length+m=b→m<n→p<zs.length→OkZ (at_ zs (p:Int)) →
  zDh a (c:Int) (p:Int) n (l.length:Int) zs l=zB3 a (c:Int) (p:Int) (zs.set p (refl m (at_ zs (p:Int))).1) (l++(refl m (at_ zs (p:Int))).2) ∧
  zIp a (c:Int) (p:Int) n zs l=zFc a (c:Int) (p:Int) (zs.set p (refl m (at_ zs (p:Int))).1) (l++(refl m (at_ zs (p:Int))).2):=by
 intro m
 induction m with
 | zero =>
  intro n zs l h1 h2 hp ho
  obtain ⟨n,rfl⟩:=ex1 ‹_<n›
  show zB2 _ _ _ _ _ _ _=zB3 _ _ _ (zs.set p (at_ zs (p:Int))) (l++[])∧zFn _ _ _ _ _ _=zFc _ _ _ (zs.set p (at_ zs (p:Int))) (l++[])
  unfold zB2 zFn
  rw [zf (df (by omega)),zf (df (by omega)),zJA hp,List.append_nil]
  exact ⟨rfl,rfl⟩
 | succ m ih =>
  intro n zs l h1 h2 hp ho
  obtain ⟨n,rfl⟩:=ex1 ‹_<n›
  show zB2 _ _ _ _ _ _ _=_∧zFn _ _ _ _ _ _=_
  unfold zB2 zFn refl
  rw [zz (dt (by omega)),zz (dt (by omega)),zP (zAD hp),zP (zAD hp),z0i,zX8 ho (Nat.zero_le _),zYp ho (Nat.zero_le _),zAw,zAw]
  by_cases hf:zNU (at_ zs (p:Int)) 0 5=none
  ·rw [if_pos hf,zQ8 (k:=0) hf]
   rw [zz (by rfl),zz (by rfl),zJA hp,List.append_nil]
   exact ⟨rfl,rfl⟩
  ·rw [if_neg hf]
   obtain ⟨j,hj⟩:∃ j,zNU (at_ zs (p:Int)) 0 (5 - 0)=some j:=by
    cases h':zNU (at_ zs (p:Int)) 0 5 with
    | none=>exact absurd h' hf
    | some j=>exact ⟨j,rfl⟩
   obtain ⟨w1,w2,w3,w4,w5,w6⟩:=zNx ho hj
   have e1:at_ (zs.set p (zDG (at_ zs (p:Int)) 0).1) (p:Int)=(zDG (at_ zs (p:Int)) 0).1:=by rw [zOE hp,if_pos rfl]
   have hl:(l++[(zDG (at_ zs (p:Int)) 0).2.1]).length=l.length+1:=by simp
   have hi:=ih n (zs.set p (zDG (at_ zs (p:Int)) 0).1) (l++[(zDG (at_ zs (p:Int)) 0).2.1]) (by omega) (by omega) (by rw [List.length_set]; exact hp) (by rw [e1]; exact w2)
   rw [e1,List.set_set,hl,List.append_assoc] at hi
   rw [zf (by rw [w1]; rfl),zf (by rw [w1]; rfl),zP (dt (by simp; omega)),zP (dt (by simp; omega)),zP (zu (by omega))]
   exact hi
def zRv (a:zH) (c p:Nat):zH:=upd a c p (Lf a c p++(refl a.batch.toNat (Zn a p)).2.reverse) (refl a.batch.toNat (Zn a p)).1
theorem zXe (h:Wa a) (hc:c<a.caches.length) {f:Int}:f∈(at_ a.caches (c:Int)).lists.flatten ↔ ∃ q,f∈Lf a c q:=by
 rw [List.mem_flatten]
 constructor
 ·rintro ⟨l,hl,hf⟩
  obtain ⟨q,hq,e⟩:=List.getElem_of_mem hl
  exact ⟨q,by unfold Lf; rw [zFW hq,e]; exact hf⟩
 ·rintro ⟨q,hf⟩
  have hq:=h.pz hc hf
  exact ⟨_,zAv (by rw [h.cl c hc]; exact hq),hf⟩
theorem zVl (h:Wa a) (hc:c<a.caches.length) (hp:p<a.zones.length) {f:Int} (hi:inside (Zn a p) f 0=true) (hv:cov (Zn a p) f):∀ q,f ∉ Lf a c q:=fun q hf=>by
 have hq:=h.pz hc hf
 have e:=h.ap q p f hq hp (h.own c q f hc hf).1 hi
 subst e
 exact (h.own c q f hc hf).2 hv
theorem zIc (h:Wa a) (hc:c<a.caches.length) (hp:p<a.zones.length) (hl:Lf a c p=[]) :
  zC5 a (c:Int) (p:Int)=some (zRv a c p,decide (0<(((refl a.batch.toNat (Zn a p)).2).length:Int)))∧zNE a (c:Int) (p:Int)=some (zRv a c p)∧Wa (zRv a c p):=by
 have hbh:=h.bh
 have hbe:((a.batch.toNat:Nat):Int)=a.batch:=Int.toNat_of_nonneg (by omega)
 obtain ⟨r1,r2,r3,r4,r5,r6⟩:=zQ4 a.batch.toNat (h.zs p hp)
 obtain ⟨f1,f2⟩:=zWG (a:=a) (c:=c) (p:=p) hbe (by omega) a.batch.toNat z5 a.zones [] (by simp) (by unfold z5; omega) hp (h.zs p hp)
 have hpc:=h.pc hc
 have hfr:∀ f,f∈(refl a.batch.toNat (Zn a p)).2→zBw f=true∧f ∉ (at_ a.caches (c:Int)).lists.flatten:=fun f hf=>by
  have h5:=r5 f hf
  have hb:=(h.zs p hp).bds h5.1
  rw [pw0] at hb
  refine ⟨by unfold zBw; simp; omega,fun hm => ?_⟩
  obtain ⟨q,hq⟩:=(zXe h hc).1 hm
  exact zVl h hc hp h5.1 h5.2 q hq
 have e1:=zWm hpc hp (show (refl a.batch.toNat (Zn a p)).2.length≤100 by omega) hfr r3
 have e2:=zXW hpc hp (show (refl a.batch.toNat (Zn a p)).2.length≤100 by omega) hfr r3
 refine ⟨?_,?_,?_⟩
 ·unfold zC5
  refine f1.trans ?_
  unfold zB3 zDm
  rw [List.nil_append,zP (zAD hc),show at_ a.zones (p:Int)=Zn a p from rfl,e1,zAw,zAw,zz (by rfl)]
  rfl
 ·unfold zNE
  refine f2.trans ?_
  unfold zFc
  rw [List.nil_append,zP (zAD hc),show at_ a.zones (p:Int)=Zn a p from rfl,e2,zAw]
  rfl
 ·unfold zRv
  rw [hl,List.nil_append]
  refine zOK h hc hp r1 r2 ?_ (List.pairwise_reverse.2 (List.Pairwise.imp (fun h=>Ne.symm h) r3)) (fun f hf => ?_) (fun d f hd hdc hf=>⟨fun hm => ?_,fun hcv => ?_⟩)
  ·rw [List.length_reverse]; omega
  ·have hf':=List.mem_reverse.1 hf
   exact ⟨(r5 f hf').1,fun hcv=>((r6 f).1 hcv).2 hf'⟩
  ·have h5:=r5 f (List.mem_reverse.1 hm)
   exact zVl h hd hp h5.1 h5.2 p hf
  ·exact (h.own d p f hd hf).2 ((r6 f).1 hcv).1
def zF1 (a:zH) (c p:Nat):zH:=upd a c p [] (zKs (Zn a p) (Lf a c p))
theorem zJx (h:Wa a) (hc:c<a.caches.length) (hp:p<a.zones.length):zDs a (c:Int) (p:Int)=some (zF1 a c p)∧zOP a (c:Int) (p:Int)=some (zF1 a c p)∧Wa (zF1 a c p):=by
 have hpc:=h.pc hc
 have hlim:=h.lim c p hc
 have hbh:=h.bh
 obtain ⟨g1,g2,g3⟩:=zLE (Lf a c p) (h.zs p hp) (fun f hf=>h.own c p f hc hf) (h.nd c p hc)
 have hg:=fun cs=>zUJ (a:=⟨a.nodes,a.batch,a.high,a.zones,cs⟩) (fs:=Lf a c p) (by omega) hp (h.zs p hp) (fun f hf=>h.own c p f hc hf) (h.nd c p hc)
 refine ⟨?_,?_,?_⟩
 ·unfold zDs
  rw [zP (zAD hc),zYN hpc hp,zAw,zz (by rfl)]
  show ((zEK ⟨a.nodes,a.batch,a.high,a.zones,a.caches.set c ⟨(at_ a.caches (c:Int)).lists.set p []⟩⟩ (p:Int) (Lf a c p)).bind _)=_
  rw [(hg _).1,zAw]
  rfl
 ·unfold zOP
  rw [zP (zAD hc),zYW hpc hp,zAw]
  show ((zLJ ⟨a.nodes,a.batch,a.high,a.zones,a.caches.set c ⟨(at_ a.caches (c:Int)).lists.set p []⟩⟩ (p:Int) (Lf a c p)).bind _)=_
  rw [(hg _).2,zAw]
  rfl
 ·refine zOK h hc hp g1 g3 (by show ((0:Nat):Int)≤_; omega) List.nodup_nil (fun f hf=>by cases hf) (fun d f hd hdc hf=>⟨by simp,fun hcv => ?_⟩)
  rcases (g2 f).1 hcv with h1 | h1
  ·exact (h.own d p f hd hf).2 h1
  ·exact hdc (h.dis d c p p f hd hc hf h1).1
theorem zSr (h:Wa a) (hc:c<a.caches.length) (hp:p<a.zones.length) (hl:Lf a c p=[]):zF1 a c p=a:=by
 unfold zF1 upd
 rw [hl]
 have e1:(at_ a.caches (c:Int)).lists.set p ([]:List Int)=(at_ a.caches (c:Int)).lists:=by
  rw [← hl]
  exact zJA (by rw [h.cl c hc]; exact hp)
 rw [e1]
 show (⟨a.nodes,a.batch,a.high,a.zones.set p (at_ a.zones (p:Int)),a.caches.set c (at_ a.caches (c:Int))⟩:zH)=a
 rw [zJA hp,zJA hc]
def zAs (p:Nat):Nat→Nat→zH→zH
 | 0,_,a=>a
 | m+1,c,a=>zAs p m (c+1) (zF1 a c p)
theorem zSb (h:Wa a) (hc:c<a.caches.length) (hp:p<a.zones.length) (d q:Nat):Lf (zF1 a c p) d q=if d=c∧q=p then [] else Lf a d q:=zR8 h hc hp d q
theorem zEg:(zF1 a c p).caches.length=a.caches.length∧(zF1 a c p).zones.length=a.zones.length:=⟨List.length_set,List.length_set⟩
end
end Go.Proofs.Ytplkliakhdkpcaa
