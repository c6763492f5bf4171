/-
 The statement AllocatorTakes.
-/
import Derived.Test.YtplkliakhdkpcaaGreatGe
import Derived.Test.YtplkliakhdkpcaaGreatRows
set_option linter.unusedVariables false
set_option linter.unusedSimpArgs false
namespace Go.Proofs.YtplkliakhdkpcaaGreat
open Go Go.RowKit Go.Am
theorem ex1 {m n:Nat} (h:m<n):∃ q,n=q+1:=⟨n - 1,by omega⟩
theorem z0i:(0:Int)=((0:Nat):Int):=rfl
def zFJ (f:Int):Bool:=decide (0≤f)&&decide (f<256)
def inside (z:zi) (f:Int) (k:Nat):Bool :=
 decide (z.start≤f)&&decide (f.tmod (2 ^ k)=0)&&decide ((2:Int) ^ k≤z.count)&&decide (f≤z.start+z.count - 2 ^ k)
def ranges (z:zi):Bool :=
 decide (0≤z.node)&&decide (z.node<4)&&(decide (z.kind=0)||decide (z.kind=1))&&decide (0≤z.start)&&decide (z.start<256)&&decide (1≤z.count)&&decide (z.count≤256 - z.start)&&decide (0≤z.min)&&decide (z.min≤z.count)
def Srt (l:List Int):Prop:=l.Pairwise (· < ·)
def lb (l:List Int) (t:Int):Nat:=l.countP (fun x=>decide (x<t))
theorem Srt.nil:Srt []:=List.Pairwise.nil
theorem zLY {l:List Int} (h:Srt l) {i j:Nat} {x y:Int} (hi:l[i]?=some x) (hj:l[j]?=some y) (hij:i<j):x<y:=by
 obtain ⟨h1,rfl⟩:=List.getElem?_eq_some_iff.1 hi
 obtain ⟨h2,rfl⟩:=List.getElem?_eq_some_iff.1 hj
 exact List.pairwise_iff_getElem.1 h i j h1 h2 hij
theorem zXp {l:List Int} {t:Int}:∀ {i:Nat},i≤l.length→(∀ m x,m<i→l[m]?=some x→x<t)→(∀ m x,i≤m→l[m]?=some x→t≤x)→lb l t=i:=by
 induction l with
 | nil=>intro i hi _ _; simp at hi; simp [lb,hi]
 | cons a l ih =>
  intro i hi h1 h2
  unfold lb at *
  rw [List.countP_cons]
  cases i with
  | zero =>
   have ha:=h2 0 a (Nat.le_refl _) rfl
   have hz:=ih (i:=0) (Nat.zero_le _) (fun m x hm=>by omega) (fun m x _ hx=>h2 (m+1) x (by omega) hx)
   rw [hz]
   have:¬ a<t:=by omega
   simp [this]
  | succ i =>
   have ha:=h1 0 a (by omega) rfl
   have hz:=ih (i:=i) (by simp at hi; omega) (fun m x hm hx=>h1 (m+1) x (by omega) hx) (fun m x hm hx=>h2 (m+1) x (by omega) hx)
   rw [hz]
   simp [ha]
theorem zWp {l:List Int} {t:Int} {i:Nat} (h1:∀ m x,m<i→l[m]?=some x→x<t) (h2:∀ m x,i<m→l[m]?=some x→t<x):(t∈l)↔l[i]?=some t:=by
 constructor
 ·intro h
  obtain ⟨m,hm,rfl⟩:=List.getElem_of_mem h
  have hx:=List.getElem?_eq_getElem hm
  rcases Nat.lt_trichotomy m i with h | h | h
  ·have:=h1 m _ h hx; omega
  ·rw [← h]; exact hx
  ·have:=h2 m _ h hx; omega
 ·intro h; exact List.mem_of_getElem? h
theorem zUQ {l:List Int} (hs:Srt l) {p:Nat} {x t:Int} (hx:l[p]?=some x) (h:x<t):∀ m y,m<p+1→l[m]?=some y→y<t:=by
 intro m y hm hy
 rcases Nat.lt_or_ge m p with hlt | hge
 ·have:=zLY hs hy hx hlt; omega
 ·have:m=p:=by omega
  subst this
  rw [hx] at hy; cases hy; exact h
theorem zTo {l:List Int} (hs:Srt l) {p:Nat} {x t:Int} (hx:l[p]?=some x) (h:¬ x<t):∀ m y,p≤m→l[m]?=some y→t≤y:=by
 intro m y hm hy
 rcases Nat.lt_or_ge p m with hlt | hge
 ·have:=zLY hs hx hy hlt; omega
 ·have:m=p:=by omega
  subst this
  rw [hx] at hy; cases hy; omega
theorem zXh {l:List Int} {t:Int} {i:Nat} (h1:∀ m x,m<i→l[m]?=some x→x<t) (h:¬ i<l.length):(t∈l)↔False:=by
 constructor
 ·intro hm
  obtain ⟨m,hm',rfl⟩:=List.getElem_of_mem hm
  have:=h1 m _ (by omega) (List.getElem?_eq_getElem hm')
  omega
 ·exact False.elim
theorem zXC {l:List Int} {t x:Int} {i:Nat} (hs:Srt l) (h1:∀ m x,m<i→l[m]?=some x→x<t) (h2:∀ m x,i≤m→l[m]?=some x→t≤x) (hx:l[i]?=some x):(t∈l)↔x=t:=by
 rw [zWp h1 (fun m y hm hy=>by
  have:=h2 i x (Nat.le_refl _) hx
  have:=zLY hs hx hy hm
  omega),hx]
 simp
def bud (f:Int) (k:Nat):Int:=((f.toNat ^^^ 2 ^ k:Nat):Int)
theorem zBR {z:zi} (h:ranges z=true):0≤z.node∧z.node<4∧(z.kind=0∨z.kind=1)∧0≤z.start∧z.start<256∧1≤z.count∧z.count≤256 - z.start∧0≤z.min∧z.min≤z.count:=by
 unfold ranges at h
 simp only [Bool.and_eq_true,Bool.or_eq_true,decide_eq_true_eq] at h
 omega
theorem zAW {z:zi} {f:Int} {k:Nat} (hz:ranges z=true) (h:inside z f k=true):0≤f∧f+2 ^ k≤256∧z.start≤f∧f+2 ^ k≤z.start+z.count∧f.tmod (2 ^ k)=0:=by
 have hb:=zBR hz
 unfold inside at h
 simp only [Bool.and_eq_true,decide_eq_true_eq] at h
 omega
theorem zU2 {l:List Int}:∀ {a:Int},Srt l→(∀ f,f∈l→a≤f) → ∀ {i:Nat} {x:Int},l[i]?=some x→a+i≤x:=by
 induction l with
 | nil=>intro a _ _ i x hx; simp at hx
 | cons y l ih =>
  intro a hs ha i x hx
  cases i with
  | zero =>
   simp at hx; subst hx
   have:=ha y (by simp); simpa using this
  | succ i =>
   have hs':=List.pairwise_cons.1 hs
   have:=ih (a:=a+1) hs'.2 (fun f hf=>by have h1:=ha y (by simp); have h2:=hs'.1 f hf; omega) (i:=i) (x:=x) (by simpa using hx)
   omega
theorem zTD {l:List Int} (hs:Srt l) (h:∀ f,f∈l→0≤f∧f<256):l.length≤256:=by
 rcases Nat.eq_zero_or_pos l.length with h0 | h0
 ·omega
 ·have hl:l[l.length - 1]?=some l[l.length - 1]:=List.getElem?_eq_getElem (by omega)
  have h1:=zU2 hs (fun f hf=>(h f hf).1) hl
  have h2:=(h _ (List.mem_of_getElem? hl)).2
  omega
def zSd (l:List Int) (t:Int):List Int:=l.take (lb l t)++t::l.drop (lb l t)
def lst (z:zi) (k:Nat):List Int:=z.free.getD k []
def zTi (z:zi) (k:Nat) (l:List Int):zi:={ z with free:=z.free.set k l }
def zNn (z:zi) (f:Int) (k:Nat):zi:=zTi z k (zSd (lst z k) f)
def zOQ (z:zi) (f:Int) (k:Nat):zi:=zTi z k ((lst z k).eraseIdx (lb (lst z k) f))
def zLo (z:zi) (f:Int) (k:Nat):Bool:=decide (bud f k∈lst z k)&&inside z (min f (bud f k)) (k+1)
def zOZ:Nat→zi→Int→Nat→zi
 | 0,z,f,k=>zNn z f k
 | n+1,z,f,k=>if zLo z f k=true then zOZ n (zOQ z (bud f k) k) (min f (bud f k)) (k+1) else zNn z f k
theorem zW4 {z:zi} {k:Nat} {l:List Int} (h:z.free[k]?=some l):lst z k=l:=by simp [lst,h]
theorem zV7 (l:List Int) (t:Int):lb l t≤l.length:=List.countP_le_length
theorem zWc {l:List Int} {t:Int} (h:t∈l):lb l t<l.length:=by
 unfold lb
 rcases Nat.lt_or_ge (l.countP (fun x=>decide (x<t))) l.length with h1 | h1
 ·exact h1
 ·exfalso
  have:=List.countP_eq_length.1 (Nat.le_antisymm List.countP_le_length h1) t h
  simp at this
theorem zRw {l:List Int} {t x:Int}:x∈zSd l t↔x=t∨x∈l:=by
 unfold zSd
 have:x∈l↔x∈l.take (lb l t)∨x∈l.drop (lb l t):=by
  rw [← List.mem_append,List.take_append_drop]
 rw [List.mem_append,List.mem_cons,this]
 constructor
 ·rintro (h | h | h)
  ·exact .inr (.inl h)
  ·exact .inl h
  ·exact .inr (.inr h)
 ·rintro (h | h | h)
  ·exact .inr (.inl h)
  ·exact .inl h
  ·exact .inr (.inr h)
structure zR4 (z:zi):Prop where
 ranges:ranges z=true
 len:z.free.length=5
 srt:∀ (k:Nat) (l:List Int),z.free[k]?=some l→Srt l
 bd:∀ (k:Nat) (l:List Int),z.free[k]?=some l → ∀ x,x∈l→0≤x∧x<256
theorem zR4.lenl {z:zi} (h:zR4 z) {k:Nat} {l:List Int} (hl:z.free[k]?=some l):l.length≤256:=zTD (h.srt k l hl) (h.bd k l hl)
theorem zR4.del {z:zi} (h:zR4 z) {k:Nat} {f:Int} {l:List Int} (hl:z.free[k]?=some l):zR4 (zOQ z f k):=by
 have hlst:=zW4 hl
 refine ⟨h.ranges,by simpa [zOQ,zTi] using h.len,?_,?_⟩
 ·intro j l' hl'
  simp only [zOQ,zTi,List.getElem?_set] at hl'
  split at hl'
  ·split at hl'
   ·cases hl'
    rw [hlst]
    exact (h.srt k l hl).sublist (List.eraseIdx_sublist ..)
   ·cases hl'
  ·exact h.srt j l' hl'
 ·intro j l' hl' x hx
  simp only [zOQ,zTi,List.getElem?_set] at hl'
  split at hl'
  ·split at hl'
   ·cases hl'
    rw [hlst] at hx
    exact h.bd k l hl x ((List.eraseIdx_sublist ..).subset hx)
   ·cases hl'
  ·exact h.bd j l' hl' x hx
theorem zVJ:∀ k:Fin 4, ∀ x:Fin 256,x.val%2 ^ k.val=0→(x.val ^^^ 2 ^ k.val)=if x.val%2 ^ (k.val+1)=0 then x.val+2 ^ k.val else x.val - 2 ^ k.val:=by decide +kernel
theorem zBE {z:zi} (h:ranges z=true) {x:Int} {k:Nat}:inside z x k=true↔z.start≤x∧x%2 ^ k=0∧(2:Int) ^ k≤z.count∧x≤z.start+z.count - 2 ^ k:=by
 have hr:=zBR h
 unfold inside
 simp only [Bool.and_eq_true,decide_eq_true_eq]
 constructor
 ·rintro ⟨⟨⟨h1,h2⟩,h3⟩,h4⟩
  rw [Int.tmod_eq_emod_of_nonneg (by omega)] at h2
  exact ⟨h1,h2,h3,h4⟩
 ·rintro ⟨h1,h2,h3,h4⟩
  rw [← Int.tmod_eq_emod_of_nonneg (by omega)] at h2
  exact ⟨⟨⟨h1,h2⟩,h3⟩,h4⟩
theorem le4 {k:Nat} (h:k≤4):k=0∨k=1∨k=2∨k=3∨k=4:=by omega
theorem pw0:(2:Int) ^ 0=1:=rfl
theorem pw1:(2:Int) ^ 1=2:=rfl
theorem pw2:(2:Int) ^ 2=4:=rfl
theorem pw3:(2:Int) ^ 3=8:=rfl
theorem pw4:(2:Int) ^ 4=16:=rfl
theorem zNQ {x:Int} {k:Nat} (hk:k<4) (h0:0≤x) (h1:x<256) (ha:x%2 ^ k=0):(x%2 ^ (k+1)=0∧bud x k=x+2 ^ k)∨(x%2 ^ (k+1)=2 ^ k∧bud x k=x - 2 ^ k):=by
 obtain ⟨m,rfl⟩:=Int.eq_ofNat_of_zero_le h0
 have hm:m<256:=by omega
 have h:=zVJ ⟨k,hk⟩ ⟨m,hm⟩
 simp only at h
 have hb:bud (m:Int) k=((m ^^^ 2 ^ k:Nat):Int):=by simp [bud]
 have hk':k=0∨k=1∨k=2∨k=3:=by omega
 rw [hb]
 rcases hk' with rfl | rfl | rfl | rfl
 ·have:=h (by omega)
  simp only [Nat.reducePow,Nat.reduceAdd,pw0,pw1] at *
  split at this <;> omega
 ·simp only [Nat.reducePow,Nat.reduceAdd,pw1,pw2] at *
  have:=h (by omega)
  split at this <;> omega
 ·simp only [Nat.reducePow,Nat.reduceAdd,pw2,pw3] at *
  have:=h (by omega)
  split at this <;> omega
 ·simp only [Nat.reducePow,Nat.reduceAdd,pw3,pw4] at *
  have:=h (by omega)
  split at this <;> omega
theorem zXy {x y f:Int} {k j:Nat} (hkj:k≤j) (hj:j≤4) (hx:x%2 ^ k=0) (hy:y%2 ^ j=0) (h1:x≤f) (h2:f<x+2 ^ k) (h3:y≤f) (h4:f<y+2 ^ j):y≤x∧x+2 ^ k≤y+2 ^ j:=by
 rcases le4 hj with rfl | rfl | rfl | rfl | rfl <;> rcases le4 (Nat.le_trans hkj hj) with rfl | rfl | rfl | rfl | rfl <;> simp only [pw0,pw1,pw2,pw3,pw4] at * <;> omega
theorem zML {z:zi} (h:z.free.length=5) {k:Nat} (hk:5≤k):lst z k=[]:=by
 unfold lst
 rw [List.getD_eq_getElem?_getD,List.getElem?_eq_none (by omega)]
 rfl
theorem zQn {z:zi} (h:z.free.length=5) {k j:Nat} (hk:k<5) {l:List Int}:lst (zTi z k l) j=if j=k then l else lst z j:=by
 unfold lst zTi
 simp only [List.getD_eq_getElem?_getD,List.getElem?_set]
 by_cases hj:k=j
 ·subst hj
  rw [if_pos rfl,if_pos rfl,if_pos (by omega)]
  rfl
 ·rw [if_neg hj,if_neg (fun e=>hj e.symm)]
theorem zKd {z:zi} (h:z.free.length=5) {k:Nat} (hk:k<5):z.free[k]?=some (lst z k):=by
 unfold lst
 rw [List.getD_eq_getElem?_getD,List.getElem?_eq_getElem (by omega)]
 rfl
def cov (z:zi) (f:Int):Prop := ∃ k x,x∈lst z k∧x≤f∧f<x+2 ^ k
structure OkZ (z:zi):Prop where
 ranges:ranges z=true
 len:z.free.length=5
 srt:∀ k,Srt (lst z k)
 ins:∀ k x,x∈lst z k→inside z x k=true
 dis:∀ k x j y f,x∈lst z k→y∈lst z j→x≤f→f<x+2 ^ k→y≤f→f<y+2 ^ j→k=j∧x=y
 can:∀ k x,k<4→x∈lst z k→bud x k∈lst z k→inside z (min x (bud x k)) (k+1)=false
section
variable {z z1 z2:zi}
theorem OkZ.le4 (h:OkZ z) {k:Nat} {x:Int} (hx:x∈lst z k):k≤4:=by
 rcases Nat.lt_or_ge k 5 with hk | hk
 ·omega
 ·rw [zML h.len hk] at hx; cases hx
theorem OkZ.bds (h:OkZ z) {k:Nat} {x:Int} (hx:inside z x k=true):0≤x∧x+2 ^ k≤256∧z.start≤x∧x+2 ^ k≤z.start+z.count∧x%2 ^ k=0:=by
 have h1:=zAW h.ranges hx
 have h2:=(zBE h.ranges).1 hx
 exact ⟨h1.1,h1.2.1,h2.1,by omega,h2.2.1⟩
theorem zJQ (k:Nat):(0:Int)<2 ^ k:=Int.pow_pos (by omega)
theorem zLB (k:Nat):(2:Int) ^ (k+1)=2 ^ k+2 ^ k:=by rw [Int.pow_succ]; omega
theorem zQz {x:Int} {k:Nat} (h:x%2 ^ (k+1)=0):x%2 ^ k=0∧(x+2 ^ k)%2 ^ k=0:=by
 obtain ⟨c,rfl⟩:=Int.dvd_of_emod_eq_zero h
 rw [Int.pow_succ,Int.mul_assoc]
 constructor
 ·exact Int.mul_emod_right _ _
 ·rw [show (2:Int) ^ k*(2*c)+2 ^ k=2 ^ k*(2*c+1) by rw [Int.mul_add,Int.mul_one]]
  exact Int.mul_emod_right _ _
theorem OkZ.holder (h:OkZ z):∀ (k:Nat) (x:Int),k≤4→inside z x k=true→(∀ f,x≤f→f<x+2 ^ k→cov z f) → ∃ j y,k≤j∧y∈lst z j∧y≤x∧x+2 ^ k≤y+2 ^ j:=by
 intro k
 induction k with
 | zero =>
  intro x _ hi hc
  obtain ⟨j,y,hy,h1,h2⟩:=hc x (Int.le_refl _) (by rw [pw0]; omega)
  exact ⟨j,y,Nat.zero_le _,hy,h1,by rw [pw0]; omega⟩
 | succ k ih =>
  intro x hk hi hc
  have hb:=h.bds hi
  have hi':=(zBE h.ranges).1 hi
  have hal:=zQz hb.2.2.2.2
  have hp:=zLB k
  have hp0:=zJQ k
  have hin1:inside z x k=true:=(zBE h.ranges).2 ⟨by omega,hal.1,by omega,by omega⟩
  have hin2:inside z (x+2 ^ k) k=true:=(zBE h.ranges).2 ⟨by omega,hal.2,by omega,by omega⟩
  obtain ⟨j1,y1,a1,a2,a3,a4⟩:=ih x (by omega) hin1 (fun f h1 h2=>hc f h1 (by omega))
  obtain ⟨j2,y2,b1,b2,b3,b4⟩:=ih (x+2 ^ k) (by omega) hin2 (fun f h1 h2=>hc f (by omega) (by omega))
  have hj1:=h.le4 a2
  have hj2:=h.le4 b2
  have hy1:=(h.bds (h.ins _ _ a2)).2.2.2.2
  have hy2:=(h.bds (h.ins _ _ b2)).2.2.2.2
  by_cases hk1:k<j1
  ·obtain ⟨n1,n2⟩:=zXy (f:=x) (show k+1≤j1 by omega) hj1 hb.2.2.2.2 hy1 (Int.le_refl _) (by omega) a3 (by omega)
   exact ⟨j1,y1,by omega,a2,n1,n2⟩
  ·by_cases hk2:k<j2
   ·obtain ⟨n1,n2⟩:=zXy (f:=x+2 ^ k) (show k+1≤j2 by omega) hj2 hb.2.2.2.2 hy2 (by omega) (by omega) b3 (by omega)
    exact ⟨j2,y2,by omega,b2,n1,n2⟩
   ·exfalso
    have e1:j1=k:=by omega
    have e2:j2=k:=by omega
    subst e1
    subst e2
    have e3:y1=x:=by omega
    have e4:y2=x+2 ^ j2:=by omega
    subst e3
    subst e4
    have hbud:=zNQ (x:=y1) (k:=j2) (by omega) (by omega) (by omega) hal.1
    rcases hbud with ⟨_,hb2⟩ | ⟨hb1,_⟩
    ·have:=h.can j2 y1 (by omega) a2 (by rw [hb2]; exact b2)
     rw [hb2,Int.min_eq_left (by omega),hi] at this
     cases this
    ·rw [hb.2.2.2.2] at hb1
     omega
theorem zSh:∀ {l m:List Int},Srt l→Srt m→(∀ x,x∈l↔x∈m)→l=m
 | [],[],_,_,_=>rfl
 | [],b::m,_,_,h=>by have:=(h b).2 (by simp); cases this
 | a::l,[],_,_,h=>by have:=(h a).1 (by simp); cases this
 | a::l,b::m,hl,hm,h=>by
  have ha:=List.pairwise_cons.1 hl
  have hb:=List.pairwise_cons.1 hm
  have hab:a=b:=by
   have h1:=(h a).1 (by simp)
   have h2:=(h b).2 (by simp)
   rcases List.mem_cons.1 h1 with e | e
   ·exact e
   ·rcases List.mem_cons.1 h2 with e2 | e2
    ·exact e2.symm
    ·have:=hb.1 a e
     have:=ha.1 b e2
     omega
  subst hab
  congr 1
  refine zSh ha.2 hb.2 (fun x => ?_)
  constructor
  ·intro hx
   rcases List.mem_cons.1 ((h x).1 (by simp [hx])) with e | e
   ·have:=ha.1 x hx; omega
   ·exact e
  ·intro hx
   rcases List.mem_cons.1 ((h x).2 (by simp [hx])) with e | e
   ·have:=hb.1 x hx; omega
   ·exact e
theorem OkZ.sub (h1:OkZ z1) (h2:OkZ z2) (hp:∀ x k,inside z1 x k=inside z2 x k) (hc:∀ f,cov z1 f↔cov z2 f):∀ k x,x∈lst z1 k→x∈lst z2 k:=by
 intro k x hx
 have hk:=h1.le4 hx
 have hi:=h1.ins k x hx
 have hp0:=zJQ k
 obtain ⟨j,y,a1,a2,a3,a4⟩:=h2.holder k x hk (by rw [← hp]; exact hi) (fun f g1 g2=>(hc f).1 ⟨k,x,hx,g1,g2⟩)
 have hj:=h2.le4 a2
 have hiy:=h2.ins j y a2
 obtain ⟨i,u,b1,b2,b3,b4⟩:=h1.holder j y hj (by rw [hp]; exact hiy) (fun f g1 g2=>(hc f).2 ⟨j,y,a2,g1,g2⟩)
 obtain ⟨e1,e2⟩:=h1.dis k x i u x hx b2 (Int.le_refl _) (by omega) (by omega) (by omega)
 subst e2
 have e3:j=k:=by omega
 subst e3
 have e4:y=x:=by omega
 rw [← e4]
 exact a2
theorem OkZ.ext (h1:OkZ z1) (h2:OkZ z2) (e1:z1.node=z2.node) (e2:z1.kind=z2.kind) (e3:z1.start=z2.start) (e4:z1.count=z2.count) (e5:z1.min=z2.min) (hc:∀ f,cov z1 f↔cov z2 f):z1=z2:=by
 have hp:∀ x k,inside z1 x k=inside z2 x k:=fun x k=>by unfold inside; rw [e3,e4]
 have hl:∀ k,lst z1 k=lst z2 k:=fun k=>zSh (h1.srt k) (h2.srt k) (fun x=>⟨h1.sub h2 hp hc k x,h2.sub h1 (fun x k=>(hp x k).symm) (fun f=>(hc f).symm) k x⟩)
 have hf:z1.free=z2.free:=by
  apply List.ext_getElem?
  intro k
  rcases Nat.lt_or_ge k 5 with hk | hk
  ·rw [zKd h1.len hk,zKd h2.len hk,hl]
  ·rw [List.getElem?_eq_none (by have:=h1.len; omega),List.getElem?_eq_none (by have:=h2.len; omega)]
 cases z1; cases z2
 simp_all
end
theorem zS4 (a:Int) (l:List Int) (t:Int):lb (a::l) t=lb l t+if a<t then 1 else 0:=by
 unfold lb
 rw [List.countP_cons]
 simp
theorem zTU {l:List Int} {t:Int} (h:∀ x,x∈l→t≤x):lb l t=0:=by
 unfold lb
 rw [List.countP_eq_zero]
 intro x hx
 have:=h x hx
 simp
 omega
theorem zSf {a:Int} {l:List Int} {t:Int} (hs:Srt (a::l)):zSd (a::l) t=if a<t then a::zSd l t else t::a::l:=by
 unfold zSd
 rw [zS4]
 have ha:=List.pairwise_cons.1 hs
 by_cases h:a<t
 ·simp [h]
 ·have:lb l t=0:=zTU (fun x hx=>by have:=ha.1 x hx; omega)
  simp [h,this]
theorem zRI:∀ {l:List Int} {t:Int},Srt l→t ∉ l→Srt (zSd l t)
 | [],t,_,_=>by simp [zSd,lb,Srt]
 | a::l,t,hs,hn=>by
  have ha:=List.pairwise_cons.1 hs
  rw [zSf hs]
  simp only [List.mem_cons,not_or] at hn
  by_cases h:a<t
  ·rw [if_pos h]
   refine List.pairwise_cons.2 ⟨fun x hx => ?_,zRI ha.2 hn.2⟩
   rcases zRw.1 hx with rfl | hx
   ·exact h
   ·exact ha.1 x hx
  ·rw [if_neg h]
   refine List.pairwise_cons.2 ⟨fun x hx => ?_,hs⟩
   rcases List.mem_cons.1 hx with rfl | hx
   ·omega
   ·have:=ha.1 x hx; omega
theorem zUW:∀ {l:List Int} {t:Int},Srt l→t∈l→l[lb l t]?=some t
 | [],_,_,h=>by cases h
 | a::l,t,hs,h=>by
  have ha:=List.pairwise_cons.1 hs
  rw [zS4]
  rcases List.mem_cons.1 h with rfl | h
  ·have:lb l t=0:=zTU (fun x hx=>by have:=ha.1 x hx; omega)
   simp [this]
  ·have:=ha.1 t h
   simp [this,zUW ha.2 h]
theorem zXD {l:List Int} {t x:Int} (hs:Srt l) (ht:t∈l):x∈l.eraseIdx (lb l t)↔x∈l∧x≠t:=by
 have hg:=zUW hs ht
 rw [List.mem_eraseIdx_iff_getElem?]
 constructor
 ·rintro ⟨i,hi,hx⟩
  refine ⟨List.mem_of_getElem? hx,?_⟩
  rintro rfl
  rcases Nat.lt_or_gt_of_ne hi with h | h
  ·have:=zLY hs hx hg h; omega
  ·have:=zLY hs hg hx h; omega
 ·rintro ⟨hx,hne⟩
  obtain ⟨i,hi,he⟩:=List.getElem_of_mem hx
  have hxi:l[i]?=some x:=by rw [List.getElem?_eq_getElem hi,he]
  refine ⟨i,?_,hxi⟩
  intro e
  rw [e,hg] at hxi
  exact hne (Option.some.inj hxi).symm
theorem zWy {l:List Int} {i:Nat} (hs:Srt l):Srt (l.eraseIdx i):=hs.sublist (List.eraseIdx_sublist ..)
def zGv (a b:zi):Prop:=a.node=b.node∧a.kind=b.kind∧a.start=b.start∧a.count=b.count∧a.min=b.min
theorem zGv.inside {a b:zi} (h:zGv a b) (x:Int) (k:Nat):inside a x k=inside b x k:=by unfold Go.Proofs.YtplkliakhdkpcaaGreat.inside; rw [h.2.2.1,h.2.2.2.1]
theorem zGv.ranges {a b:zi} (h:zGv a b):ranges a=ranges b:=by unfold Go.Proofs.YtplkliakhdkpcaaGreat.ranges; rw [h.1,h.2.1,h.2.2.1,h.2.2.2.1,h.2.2.2.2]
theorem zQR (z:zi) (k:Nat) (l:List Int):zGv (zTi z k l) z:=⟨rfl,rfl,rfl,rfl,rfl⟩
theorem zGv.trans {a b c:zi} (h:zGv a b) (g:zGv b c):zGv a c:=⟨h.1.trans g.1,h.2.1.trans g.2.1,h.2.2.1.trans g.2.2.1,h.2.2.2.1.trans g.2.2.2.1,h.2.2.2.2.trans g.2.2.2.2⟩
theorem zWB {x:Int} (k:Nat) (h:0≤x):bud (bud x k) k=x:=by
 unfold bud
 rw [Int.toNat_natCast,Nat.xor_assoc,Nat.xor_self,Nat.xor_zero,Int.toNat_of_nonneg h]
section
variable {z:zi}
theorem OkZ.del (h:OkZ z) {k:Nat} {x:Int} (hx:x∈lst z k):OkZ (zOQ z x k)∧(∀ f,cov (zOQ z x k) f↔cov z f ∧ ¬ (x≤f∧f<x+2 ^ k))∧zGv (zOQ z x k) z:=by
 have hk:=h.le4 hx
 have hsame:zGv (zOQ z x k) z:=zQR z k ((lst z k).eraseIdx (lb (lst z k) x))
 have hls:∀ j,lst (zOQ z x k) j=if j=k then (lst z k).eraseIdx (lb (lst z k) x) else lst z j:=fun j=>zQn h.len (by omega)
 have hm:∀ j y,y∈lst (zOQ z x k) j↔y∈lst z j ∧ ¬ (j=k∧y=x):=by
  intro j y
  rw [hls]
  by_cases hj:j=k
  ·subst hj
   rw [if_pos rfl,zXD (h.srt j) hx]
   simp
  ·rw [if_neg hj]
   simp [hj]
 refine ⟨⟨by rw [← h.ranges]; exact hsame.ranges,by simpa [zOQ,zTi] using h.len,?_,?_,?_,?_⟩,?_,hsame⟩
 ·intro j
  rw [hls]
  split
  ·exact zWy (h.srt k)
  ·exact h.srt j
 ·intro j y hy
  rw [hsame.inside]
  exact h.ins j y ((hm j y).1 hy).1
 ·intro j y i u f hy hu
  exact h.dis j y i u f ((hm j y).1 hy).1 ((hm i u).1 hu).1
 ·intro j y hj hy hb
  rw [hsame.inside]
  exact h.can j y hj ((hm j y).1 hy).1 ((hm j _).1 hb).1
 ·intro f
  constructor
  ·rintro ⟨j,y,hy,h1,h2⟩
   have hy':=(hm j y).1 hy
   refine ⟨⟨j,y,hy'.1,h1,h2⟩,fun hf=>hy'.2 (h.dis j y k x f hy'.1 hx h1 h2 hf.1 hf.2)⟩
  ·rintro ⟨⟨j,y,hy,h1,h2⟩,hf⟩
   refine ⟨j,y,(hm j y).2 ⟨hy,?_⟩,h1,h2⟩
   rintro ⟨rfl,rfl⟩
   exact hf ⟨h1,h2⟩
theorem OkZ.insert (h:OkZ z) {k:Nat} {f:Int} (hk:k≤4) (hi:inside z f k=true) (hf:∀ g,f≤g→g<f+2 ^ k → ¬ cov z g) (hj:k<4→zLo z f k=false):OkZ (zNn z f k)∧(∀ g,cov (zNn z f k) g↔cov z g∨(f≤g∧g<f+2 ^ k))∧zGv (zNn z f k) z:=by
 have hsame:zGv (zNn z f k) z:=zQR z k (zSd (lst z k) f)
 have hp:=zJQ k
 have hb:=h.bds hi
 have hn:f ∉ lst z k:=fun hm=>hf f (Int.le_refl _) (by omega) ⟨k,f,hm,Int.le_refl _,by omega⟩
 have hls:∀ j,lst (zNn z f k) j=if j=k then zSd (lst z k) f else lst z j:=fun j=>zQn h.len (by omega)
 have hm:∀ j y,y∈lst (zNn z f k) j↔y∈lst z j∨(j=k∧y=f):=by
  intro j y
  rw [hls]
  by_cases hjk:j=k
  ·subst hjk
   rw [if_pos rfl,zRw]
   simp
   exact Or.comm
  ·rw [if_neg hjk]
   simp [hjk]
 refine ⟨⟨by rw [← h.ranges]; exact hsame.ranges,by simpa [zNn,zTi] using h.len,?_,?_,?_,?_⟩,?_,hsame⟩
 ·intro j
  rw [hls]
  split
  ·exact zRI (h.srt k) hn
  ·exact h.srt j
 ·intro j y hy
  rw [hsame.inside]
  rcases (hm j y).1 hy with hy | ⟨rfl,rfl⟩
  ·exact h.ins j y hy
  ·exact hi
 ·intro j y i u g hy hu h1 h2 h3 h4
  rcases (hm j y).1 hy with hy' | ⟨e1,e2⟩
  ·rcases (hm i u).1 hu with hu' | ⟨e3,e4⟩
   ·exact h.dis j y i u g hy' hu' h1 h2 h3 h4
   ·rw [e4] at h3 h4
    rw [e3] at h4
    exact absurd ⟨j,y,hy',h1,h2⟩ (hf g h3 h4)
  ·rw [e2] at h1 h2
   rw [e1] at h2
   rcases (hm i u).1 hu with hu' | ⟨e3,e4⟩
   ·exact absurd ⟨i,u,hu',h3,h4⟩ (hf g h1 h2)
   ·exact ⟨e1.trans e3.symm,e2.trans e4.symm⟩
 ·intro j y hj4 hy hbu
  rw [hsame.inside]
  have hno:∀ y,y∈lst z k→bud y k=f→k<4→inside z (min y (bud y k)) (k+1)=false:=by
   intro y hy he h4
   have hy0:=(h.bds (h.ins k y hy)).1
   have e2:bud f k=y:=by rw [← he,zWB k hy0]
   have:=hj h4
   unfold zLo at this
   rw [e2] at this
   rw [he,Int.min_comm]
   simpa [hy] using this
  rcases (hm j y).1 hy with hy' | ⟨rfl,rfl⟩
  ·rcases (hm j _).1 hbu with hbu' | ⟨e1,hbu'⟩
   ·exact h.can j y hj4 hy' hbu'
   ·rw [e1] at hy' hbu' hj4 ⊢
    exact hno y hy' hbu' hj4
  ·rcases (hm j _).1 hbu with hbu | ⟨_,hbu⟩
   ·have:=hj hj4
    unfold zLo at this
    simpa [hbu] using this
   ·exfalso
    rcases zNQ hj4 hb.1 (by omega) hb.2.2.2.2 with ⟨_,e⟩ | ⟨_,e⟩ <;> omega
 ·intro g
  constructor
  ·rintro ⟨j,y,hy,h1,h2⟩
   rcases (hm j y).1 hy with hy | ⟨rfl,rfl⟩
   ·exact .inl ⟨j,y,hy,h1,h2⟩
   ·exact .inr ⟨h1,h2⟩
  ·rintro (⟨j,y,hy,h1,h2⟩ | ⟨h1,h2⟩)
   ·exact ⟨j,y,(hm j y).2 (.inl hy),h1,h2⟩
   ·exact ⟨k,f,(hm k f).2 (.inr ⟨rfl,rfl⟩),h1,h2⟩
theorem OkZ.put:∀ (n:Nat) {z:zi} {f:Int} {k:Nat},n+k=4→OkZ z→inside z f k=true→(∀ g,f≤g→g<f+2 ^ k → ¬ cov z g) →
  OkZ (zOZ n z f k)∧(∀ g,cov (zOZ n z f k) g↔cov z g∨(f≤g∧g<f+2 ^ k))∧zGv (zOZ n z f k) z
 | 0,z,f,k,hn,h,hi,hf=>h.insert (by omega) hi hf (fun h4=>by omega)
 | n+1,z,f,k,hn,h,hi,hf=>by
  unfold zOZ
  by_cases hj:zLo z f k=true
  ·rw [if_pos hj]
   unfold zLo at hj
   simp only [Bool.and_eq_true,decide_eq_true_eq] at hj
   obtain ⟨hb,hi2⟩:=hj
   obtain ⟨d1,d2,d3⟩:=h.del hb
   have hbd:=h.bds hi
   have hbb:=h.bds (h.ins k _ hb)
   have hp:=zJQ k
   have hps:=zLB k
   have hcase:=zNQ (k:=k) (by omega) hbd.1 (by omega) hbd.2.2.2.2
   obtain ⟨r1,r2,r3⟩:=OkZ.put n (k:=k+1) (by omega) d1 (by rw [d3.inside]; exact hi2) (fun g g1 g2 hc=>by
    have hc':=(d2 g).1 hc
    by_cases hin:f≤g∧g<f+2 ^ k
    ·exact hf g hin.1 hin.2 hc'.1
    ·apply hc'.2
     rcases hcase with ⟨_,e⟩ | ⟨_,e⟩
     ·rw [e] at g1 g2 ⊢
      omega
     ·rw [e] at g1 g2 ⊢
      omega)
   refine ⟨r1,fun g => ?_,r3.trans d3⟩
   rw [r2 g,d2 g]
   have hcb:(bud f k≤g∧g<bud f k+2 ^ k)→cov z g:=fun hg=>⟨k,_,hb,hg.1,hg.2⟩
   rcases hcase with ⟨_,e⟩ | ⟨_,e⟩
   ·rw [e] at hcb ⊢
    constructor
    ·rintro (⟨h1,_⟩ | h1)
     ·exact .inl h1
     ·by_cases hin:f≤g∧g<f+2 ^ k
      ·exact .inr hin
      ·exact .inl (hcb (by omega))
    ·rintro (h1 | h1)
     ·by_cases hin:f+2 ^ k≤g∧g<f+2 ^ k+2 ^ k
      ·exact .inr (by omega)
      ·exact .inl ⟨h1,hin⟩
     ·exact .inr (by omega)
   ·rw [e] at hcb ⊢
    constructor
    ·rintro (⟨h1,_⟩ | h1)
     ·exact .inl h1
     ·by_cases hin:f≤g∧g<f+2 ^ k
      ·exact .inr hin
      ·exact .inl (hcb (by omega))
    ·rintro (h1 | h1)
     ·by_cases hin:f - 2 ^ k≤g∧g<f - 2 ^ k+2 ^ k
      ·exact .inr (by omega)
      ·exact .inl ⟨h1,hin⟩
     ·exact .inr (by omega)
  ·rw [if_neg hj]
   exact h.insert (by omega) hi hf (fun _=>by simpa using hj)
theorem OkZ.putI (h:OkZ z):zR4 z:=by
 have hl:∀ (k:Nat) (l:List Int),z.free[k]?=some l→l=lst z k:=fun k l hl=>by
  have hk:k<5:=by have:=(List.getElem?_eq_some_iff.1 hl).1; rw [h.len] at this; exact this
  rw [zKd h.len hk] at hl
  cases hl
  rfl
 refine ⟨h.ranges,h.len,fun k l hkl => ?_,fun k l hkl x hx => ?_⟩
 ·rw [hl k l hkl]; exact h.srt k
 ·rw [hl k l hkl] at hx
  have:=h.bds (h.ins k x hx)
  have:=zJQ k
  omega
end
theorem zQN {z:zi} (hf:z.free=[[],[],[],[],[]]) (k:Nat):lst z k=[]:=by
 unfold lst
 rw [hf]
 match k with
 | 0=>rfl
 | 1=>rfl
 | 2=>rfl
 | 3=>rfl
 | 4=>rfl
 | k+5=>rfl
theorem zTG {z:zi} (hr:ranges z=true) (hf:z.free=[[],[],[],[],[]]):OkZ z ∧ ∀ g,¬ cov z g:=by
 have hl:=zQN hf
 refine ⟨⟨hr,by rw [hf]; rfl,fun k=>by rw [hl]; exact Srt.nil,(fun k x hx=>by rw [hl] at hx; cases hx),(fun k x j y f hx=>by rw [hl] at hx; cases hx),(fun k x _ hx=>by rw [hl] at hx; cases hx)⟩,?_⟩
 rintro g ⟨k,x,hx,_⟩
 rw [hl] at hx
 cases hx
end Go.Proofs.YtplkliakhdkpcaaGreat
namespace Go.Proofs.YtplkliakhdkpcaaGreat
open Go Go.RowKit Go.Wk Go.Am
section
variable {α β:Type} {b:Bool} {x y:Option α} {a:α} {f:α→Option β}
theorem zf (h:b=true):chk b x=x:=by subst h; rfl
theorem zAN (h:b=true):cnd b x y=x:=by subst h; rfl
theorem zAB (h:b=false):cnd b x y=y:=by subst h; rfl
theorem zBt:(some a).bind f=f a:=rfl
end
theorem zAE {a:Int} (h : -9223372036854775808≤a∧a≤9223372036854775807):inI a=true:=by simp [inI,h]
theorem zXT {i:Int} {n:Nat} (h:0≤i∧i<(n:Int)):inb i n=true:=by simp [inb,h]
theorem zAK {i n:Nat} (h:i<n):inb (i:Int) n=true:=zXT (by omega)
theorem zNo {a b:Bool} (h:b=true):(a||b)=true:=by rw [h,Bool.or_true]
theorem dt {p:Prop} [Decidable p] (h:p):decide p=true:=decide_eq_true h
theorem df {p:Prop} [Decidable p] (h:¬ p):decide p=false:=decide_eq_false h
theorem zHL {α:Type} [Inhabited α] {l:List α} {i:Nat} (h:i<l.length):at_ l (i:Int)=l[i]:=by
 unfold at_
 rw [Int.toNat_natCast,List.getD_eq_getElem?_getD,List.getElem?_eq_getElem h]
 rfl
theorem zWb (i j:Nat):((i:Int)+(j:Int)).fdiv (2 ^ (1:Int).toNat)=(((i+j)/2:Nat):Int):=by
 show ((i:Int)+(j:Int)).fdiv 2=_
 rw [Int.fdiv_eq_ediv_of_nonneg _ (by omega)]
 omega
theorem zTm (x y:Int):zIS x y=some (decide (x<y)):=by
 unfold zIS zEl
 simp [cnd]
theorem zUm {l:List Int} {t:Int} {i:Nat} (hs:Srt l) (hi:i≤l.length) (h1:∀ p x,p<i→l[p]?=some x→x<t) (h2:∀ p x,i≤p→l[p]?=some x→t≤x) :
  zA9 l t (i:Int)=some ((lb l t:Int),decide (t∈l)):=by
 rw [zXp hi h1 h2]
 unfold zA9 zFB
 rcases Nat.lt_or_ge i l.length with h | h
 ·have hx:l[i]?=some l[i]:=List.getElem?_eq_getElem h
  have hb:inb (i:Int) l.length=true:=zAK h
  have hd:decide ((i:Int)<(l.length:Int))=true:=dt (by omega)
  have hm:decide (t∈l)=decide (l[i]=t):=by rw [decide_eq_decide]; exact zXC hs h1 h2 hx
  rw [zf (zNo hb),zf (zNo hb),zHL h,hd,hm]
  cases hq:decide (l[i]=t) <;> simp [cnd]
 ·have hd:decide ((i:Int)<(l.length:Int))=false:=df (by omega)
  have hm:decide (t∈l)=false:=df (fun hh=>(zXh h1 (by omega)).1 hh)
  rw [hd,hm]
  rfl
theorem zU5 {l:List Int} {t:Int} (hs:Srt l) (hl:l.length≤1000000):∀ (m n i j:Nat),j - i≤m→m<n→i≤j→j≤l.length→(∀ p x,p<i→l[p]?=some x→x<t)→(∀ p x,j≤p→l[p]?=some x→t≤x) →
  zBC l t n (i:Int) (j:Int)=some ((lb l t:Int),decide (t∈l)):=by
 intro m
 induction m with
 | zero =>
  intro n i j h1 h2 h3 h4 ha hb
  obtain ⟨n,rfl⟩:∃ k,n=k+1:=⟨n - 1,by omega⟩
  show zAa _ _ _ _ _=_
  unfold zAa
  rw [zAB (df (by omega))]
  have:j=i:=by omega
  subst this
  exact zUm hs h4 ha hb
 | succ m ih =>
  intro n i j h1 h2 h3 h4 ha hb
  obtain ⟨n,rfl⟩:∃ k,n=k+1:=⟨n - 1,by omega⟩
  show zAa _ _ _ _ _=_
  unfold zAa
  by_cases hij:i<j
  ·have hm:(i+j)/2<l.length:=by omega
   rw [zAN (dt (by omega)),zWb,zf (zAE (by omega)),zf (dt (zIm (by omega) (by omega))),zf (dt (zU4 (by omega) (by omega))),zf (zAK hm),zTm,zBt,zHL hm]
   have hx:l[(i+j)/2]?=some l[(i+j)/2]:=List.getElem?_eq_getElem hm
   by_cases hlt:l[(i+j)/2]<t
   ·rw [zAN (dt hlt),zf (zAE (by omega))]
    exact ih n ((i+j)/2+1) j (by omega) (by omega) (by omega) h4 (zUQ hs hx hlt) hb
   ·rw [zAB (df hlt)]
    exact ih n i ((i+j)/2) (by omega) (by omega) (by omega) (by omega) ha (zTo hs hx hlt)
  ·rw [zAB (df (by omega))]
   have:j=i:=by omega
   subst this
   exact zUm hs h4 ha hb
theorem zQr {l:List Int} {t:Int} (hs:Srt l) (hl:l.length≤1000000):zAQ l t=some ((lb l t:Int),decide (t∈l)) :=
 zU5 hs hl l.length zAF 0 l.length (by omega) (by unfold zAF; omega) (by omega) (by omega) (fun p x hp=>by omega) (fun p x hp hx=>by
  rw [List.getElem?_eq_none (by omega)] at hx; cases hx)
theorem zKR {k:Nat} (h:k≤5):(1:Int)*2 ^ (k:Int).toNat=2 ^ k∧(1:Int)≤2 ^ k∧(2:Int) ^ k≤32:=by
 rw [Int.one_mul,Int.toNat_natCast]
 refine ⟨rfl,?_⟩
 have:k=0∨k=1∨k=2∨k=3∨k=4∨k=5:=by omega
 rcases this with rfl | rfl | rfl | rfl | rfl | rfl <;> decide
theorem zOR {k:Nat} (h:k≤5):zN3 (k:Int)=true:=by
 unfold zN3
 rw [dt (by omega),dt (by omega)]
 rfl
theorem zKO {z:zi} {f:Int} {k:Nat} (hr:ranges z=true) (hk:k≤5):zBm z f (k:Int)=some (inside z f k):=by
 have hb:=zBR hr
 obtain ⟨e,h1,h2⟩:=zKR hk
 unfold zBm inside
 rw [e,zf (zOR hk),zf (zAE (by omega)),zf (zNo (by rw [df (by omega)]; rfl)),zf (zNo (zAE (by omega))),zf (zNo (zAE (by omega)))]
theorem zVT:∀ k:Fin 4, ∀ x:Fin 256,zMv .xor .i64 (x.val:Int) (2 ^ k.val)=((x.val ^^^ 2 ^ k.val:Nat):Int):=by decide +kernel
theorem zUn {f:Int} {k:Nat} (h0:0≤f) (h1:f<256) (hk:k<4):zMv .xor .i64 f (2 ^ k)=bud f k:=by
 obtain ⟨m,rfl⟩:=Int.eq_ofNat_of_zero_le h0
 exact zVT ⟨k,hk⟩ ⟨m,by omega⟩
theorem zKl {l:List (List Int)} (hl:l.length=5) {i:Nat} (hi:i<5) (x:List Int):zDc 5 [] l i x=l.set i x:=by
 match l,hl with
 | [a,b,c,d,e],_ =>
  have:i=0∨i=1∨i=2∨i=3∨i=4:=by omega
  rcases this with rfl | rfl | rfl | rfl | rfl <;> rfl
theorem zJd {l:List (List Int)} {i:Nat} (hi:i<l.length):l.set i (l.getD i [])=l:=by
 apply List.ext_getElem?
 intro j
 rw [List.getElem?_set]
 split
 ·rename_i h
  subst h
  simp [hi]
 ·rfl
theorem zR4.srt' {z:zi} (h:zR4 z) (k:Nat):Srt (lst z k):=by
 rcases Nat.lt_or_ge k 5 with hk | hk
 ·exact h.srt k _ (zKd h.len hk)
 ·rw [zML h.len hk]; exact Srt.nil
theorem zR4.len' {z:zi} (h:zR4 z) (k:Nat):(lst z k).length≤256:=by
 rcases Nat.lt_or_ge k 5 with hk | hk
 ·exact h.lenl (zKd h.len hk)
 ·rw [zML h.len hk]; simp
theorem zQt {z:zi} (h:zR4 z) {f:Int} {k:Nat} (hk:k<5) {a:zi} (ha:zGv a z):zGt a f (k:Int) z.free=some (zNn z f k):=by
 unfold zGt
 have e:z.free.getD (k:Int).toNat []=lst z k:=rfl
 have h5:=h.len
 rw [zf (zAK hk),zf (dt (by omega)),e,zQr (h.srt' k) (by have:=h.len' k; omega),zBt]
 have hok:zPQ (lst z k) (lb (lst z k) f:Int)=true:=by
  have h1:=zV7 (lst z k) f
  have h2:=h.len' k
  unfold zPQ
  rw [dt (by omega),dt (by omega),dt (by omega)]
  rfl
 rw [zf hok]
 show some (zi.mk _ _ _ _ _ _)=_
 rw [zKl h5 (by omega),ha.1,ha.2.1,ha.2.2.1,ha.2.2.2.1,ha.2.2.2.2]
 rfl
theorem zT1:∀ (m n:Nat) {z a:zi} {f:Int} {k:Nat},m+k=4→m<n→zR4 z→zGv a z→0≤f→f<256 →
  zIK a n f (k:Int) z.free=some (zOZ m z f k):=by
 intro m
 induction m with
 | zero =>
  intro n z a f k hk hn h ha h0 h1
  obtain ⟨n,rfl⟩:=ex1 ‹_<n›
  show zFh _ _ _ _ _=_
  unfold zFh
  rw [zAB (df (by omega))]
  exact zQt h (by omega) ha
 | succ m ih =>
  intro n z a f k hk hn h ha h0 h1
  obtain ⟨n,rfl⟩:=ex1 ‹_<n›
  show zFh _ _ _ _ _=_
  unfold zFh
  have e:z.free.getD (k:Int).toNat []=lst z k:=rfl
  have h5:=h.len
  obtain ⟨e1,p1,p2⟩:=zKR (k:=k) (by omega)
  have e3:zDc 5 [] z.free (k:Int).toNat (lst z k)=z.free:=by
   rw [zKl h5 (by omega)]
   exact zJd (by omega)
  have e4:(⟨a.node,a.kind,a.start,a.count,a.min,z.free⟩:zi)=z:=by rw [ha.1,ha.2.1,ha.2.2.1,ha.2.2.2.1,ha.2.2.2.2]
  rw [zAN (dt (by omega)),zf (zOR (by omega)),e1,zf (zAE (by omega)),zf (zAK (by omega)),zf (dt (by omega)),e,zUn h0 h1 (by omega),zQr (h.srt' k) (by have:=h.len' k; omega),zBt]
  rw [zf (zNo (zAE (by omega))),e3,e4]
  have hin:zBm z (min f (bud f k)) ((k:Int)+1)=some (inside z (min f (bud f k)) (k+1)):=zKO (k:=k+1) h.ranges (by omega)
  rw [hin]
  conv=>rhs; unfold zOZ
  by_cases hm:bud f k∈lst z k
  ·have hb:=h.bd k _ (zKd h5 (by omega)) _ hm
   show ((cnd (!!decide (bud f k∈lst z k)) _ _).bind _)=_
   rw [dt hm,Bool.not_true,Bool.not_false,zAN rfl,zBt]
   by_cases hi:inside z (min f (bud f k)) (k+1)=true
   ·have hj:zLo z f k=true:=by unfold zLo; rw [hi,dt hm]; rfl
    rw [if_pos hj,hi]
    refine (zAB (by rfl)).trans ?_
    have hdel:zQK (z.free.getD (k:Int).toNat []) (lb (lst z k) (bud f k):Int) ((lb (lst z k) (bud f k):Int)+1)=true:=by
     have:=zWc hm
     rw [e]
     unfold zQK
     rw [dt (by omega),dt (by omega),dt rfl]
     rfl
    rw [zf (zAE (by have:=zV7 (lst z k) (bud f k); have:=h.len' k; omega)),zf hdel,zf (zAE (by omega))]
    have hz:(zOQ z (bud f k) k).free=zDc 5 [] z.free (k:Int).toNat (zRh (z.free.getD (k:Int).toNat []) (lb (lst z k) (bud f k):Int)):=by
     rw [zKl h5 (by omega)]
     rfl
    rw [← hz]
    exact ih n (k:=k+1) (by omega) (by omega) (h.del (zKd h5 (by omega))) (show zGv a (zOQ z (bud f k) k) from ha) (by omega) (by omega)
   ·have hj:¬ zLo z f k=true:=by unfold zLo; rw [Bool.and_eq_true]; exact fun q=>hi q.2
    have hi':inside z (min f (bud f k)) (k+1)=false:=by simpa using hi
    rw [if_neg hj,hi']
    refine (zAN (by rfl)).trans ?_
    exact zQt h (by omega) ha
  ·have hj:¬ zLo z f k=true:=by unfold zLo; rw [Bool.and_eq_true,decide_eq_true_eq]; exact fun q=>hm q.1
   show ((cnd (!!decide (bud f k∈lst z k)) _ _).bind _)=_
   rw [if_neg hj,df hm,Bool.not_false,Bool.not_true,zAB rfl,zBt]
   refine (zAN (by rfl)).trans ?_
   exact zQt h (by omega) ha
theorem zXP {z:zi} {f:Int} {k:Nat} (h:zR4 z) (hk:k≤4) (h0:0≤f) (h1:f<256):zKM z f (k:Int)=some (zOZ (4 - k) z f k) :=
 zT1 (4 - k) zAF (by omega) (by unfold zAF; omega) h ⟨rfl,rfl,rfl,rfl,rfl⟩ h0 h1
theorem zTW (z:zi) (h:inI z.start=true):zGs z=some (ranges z):=by
 unfold zGs ranges
 by_cases hs:0≤z.start∧z.start<256
 ·rw [zf (zNo (zAE (by omega)))]
 ·have:(((((((decide (0≤z.node))&&(decide (z.node<4)))&&((decide (z.kind=0))||(decide (z.kind=1))))&&(decide (0≤z.start)))&&(decide (z.start<256)))&&(decide (1≤z.count))))=false:=by
   rcases Classical.not_and_iff_not_or_not.1 hs with hs | hs <;> simp [hs]
  rw [this]
  rfl
theorem zSG (z:zi):zG5 z=some (ranges z):=by
 unfold zG5
 by_cases h:(((decide (z.node<0))||(decide (4≤z.node)))||((!decide (z.kind=0))&&(!decide (z.kind=1))))=true
 ·rw [zAN h]
  have:ranges z=false:=by
   cases hr:ranges z with
   | false=>rfl
   | true =>
    have hb:=zBR hr
    simp at h
    omega
  rw [this]
 ·have h':=Bool.eq_false_iff.2 h
  rw [zAB h']
  have hc:(!(((decide (0≤z.start))&&(decide (1≤z.count)))&&(decide (z.count≤256)))||inI (256 - z.count))=true:=by
   by_cases hq:1≤z.count∧z.count≤256
   ·exact zNo (zAE (by omega))
   ·have:(decide (0≤z.start)&&decide (1≤z.count)&&decide (z.count≤256))=false:=by
     rcases Classical.not_and_iff_not_or_not.1 hq with hq | hq <;> simp [hq]
    rw [this]
    rfl
  rw [zf hc]
  congr 1
  rw [Bool.eq_iff_iff]
  unfold ranges
  simp at h ⊢
  omega
theorem zRi {z:zi} {f:Int} {k:Nat} (hr:ranges z=true) (hk:k≤4) (h0:z.start≤f) (h1:f<z.start+z.count):zBu z f (k:Int)=some (inside z f k):=by
 have hb:=zBR hr
 obtain ⟨e,p1,p2⟩:=zKR (k:=k) (by omega)
 unfold zBu
 rw [zf (zNo (zAE (by omega))),df (p:=(k:Int)<0) (by omega),df (p:=4<(k:Int)) (by omega),df (p:=f<z.start) (by omega),df (p:=z.start+z.count≤f) (by omega)]
 refine (zAB (by rfl)).trans ?_
 rw [e,zf (dt (zIm (by omega) (by omega))),zf (zOR (by omega)),zf (zAE (by omega)),zf (by rw [df (by omega)]; rfl),zf (zNo (zAE (by omega))),zf (zNo (zAE (by omega)))]
 congr 1
 unfold inside
 rw [Bool.eq_iff_iff]
 simp
 omega
theorem zNU {k:Nat} (h:k≤5):(2:Int) ^ k=((2 ^ k:Nat):Int):=by norm_cast
theorem zUS {l:List Int} {f:Int→Option Bool} {p:Int→Bool} (hf:∀ x,f x=some (p x)) (hl:l.length≤1099511627776):∀ (m n i:Nat),i+m=l.length→m<n → ∃ r,zAH l f n (i:Int)=some r∧decide (0≤r)=(l.drop i).any p:=by
 intro m
 induction m with
 | zero =>
  intro n i h1 h2
  obtain ⟨n,rfl⟩:=ex1 ‹_<n›
  refine ⟨-1,?_,?_⟩
  ·show zAU _ _ _ _=_
   unfold zAU
   rw [zAB (df (by omega))]
   rfl
  ·rw [List.drop_eq_nil_of_le (by omega)]
   rfl
 | succ m ih =>
  intro n i h1 h2
  obtain ⟨n,rfl⟩:=ex1 ‹_<n›
  have hi:i<l.length:=by omega
  have hs:zAH l f (n+1) (i:Int)=cnd (p l[i]) (some (i:Int)) (zAH l f n ((i+1:Nat):Int)):=by
   show zAU _ _ _ _=_
   unfold zAU
   rw [zAN (dt (by omega)),zf (zAK hi),hf,zBt,zHL hi,zf (zAE (by omega))]
   rfl
  rw [hs,List.drop_eq_getElem_cons hi,List.any_cons]
  cases hp:p l[i] with
  | true=>exact ⟨i,rfl,by rw [dt (by omega)]; rfl⟩
  | false=>simpa [cnd] using ih n (i+1) (by omega) (by omega)
def zNA (n:Int):Bool:=decide (n<0)||decide (4≤n)
def zJe (k b h z:Int):Bool:=decide (k<1)||decide (4<k)||decide (64<h)||decide (b<1)||decide (h<b)||decide (z<1)||decide (6<z)
def zTf (nodes:List Int) (b h z:Int):Bool := !zJe (nodes.length:Int) b h z && !nodes.any zNA
theorem zR6 {a:zJ} (hl:a.nodes.length≤1099511627776):zDH a=some (zTf a.nodes a.batch a.high (a.zones.length:Int)):=by
 unfold zDH zTf
 show cnd (zJe (a.nodes.length:Int) a.batch a.high (a.zones.length:Int)) _ _=_
 cases zJe (a.nodes.length:Int) a.batch a.high (a.zones.length:Int) with
 | true=>rfl
 | false =>
  obtain ⟨r,h1,h2⟩:=zUS (l:=a.nodes) (f:=fun y=>zDQ y) (p:=zNA) (fun x=>rfl) hl a.nodes.length zAF 0 (by omega) (by unfold zAF; omega)
  unfold zBx zBN
  show (((zAH a.nodes (fun y=>zDQ y) zAF ((0:Nat):Int)).bind _).bind _)=_
  rw [h1,zBt,zBt,h2]
  rfl
theorem zR3 {l:List Int} (hl:l.length≤1099511627776):∀ (m n i:Nat),i+m=l.length→m<n→zE9 l n (i:Int)=some (!(l.drop i).any zNA):=by
 intro m
 induction m with
 | zero =>
  intro n i h1 h2
  obtain ⟨n,rfl⟩:=ex1 ‹_<n›
  show zC1 _ _ _=_
  unfold zC1
  rw [zAB (df (by omega)),List.drop_eq_nil_of_le (by omega)]
  rfl
 | succ m ih =>
  intro n i h1 h2
  obtain ⟨n,rfl⟩:=ex1 ‹_<n›
  have hi:i<l.length:=by omega
  show zC1 _ _ _=_
  unfold zC1
  rw [zAN (dt (by omega)),zf (zAK hi),zHL hi,zf (zAE (by omega)),List.drop_eq_getElem_cons hi,List.any_cons]
  show cnd (zNA l[i]) _ _=_
  cases zNA l[i] with
  | true=>rfl
  | false=>exact ih n (i+1) (by omega) (by omega)
theorem zUA {nodes:List Int} {b h z:Int} (hl:nodes.length≤1099511627776):zHA nodes b h z=some (zTf nodes b h z):=by
 unfold zHA zTf
 have e:(((((((decide ((nodes.length:Int)<1))||(decide (4<(nodes.length:Int))))||(decide (b<1)))||(decide (h<b)))||(decide (64<h)))||(decide (z<1)))||(decide (6<z)))=zJe (nodes.length:Int) b h z:=by
  rw [Bool.eq_iff_iff]
  unfold zJe
  simp only [Bool.or_eq_true,decide_eq_true_eq]
  omega
 rw [e]
 cases zJe (nodes.length:Int) b h z with
 | true=>rfl
 | false=>exact zR3 hl nodes.length zAF 0 (by omega) (by unfold zAF; omega)
set_option maxRecDepth 100000 in
theorem zVh:zJM=some true:=by kernel_rfl
end Go.Proofs.YtplkliakhdkpcaaGreat
namespace Go.Proofs.YtplkliakhdkpcaaGreat
open Go Go.RowKit Go.Wk Go.Am
theorem zUE {s:List Int} {f k:Nat} (hk:k≤4) (hs:f+2 ^ k≤s.length) (hl:s.length=256):∀ (m n i:Nat),i+m=f+2 ^ k→m<n→f≤i→(∀ g,f≤g→g<i→s.getD g 0≠0) →
  zIN s (f:Int) (k:Int) n (i:Int)=some (decide (∀ g,g<2 ^ k→s.getD (f+g) 0≠0)):=by
 intro m
 obtain ⟨e,p1,p2⟩:=zKR (k:=k) (by omega)
 have pn:=zNU (k:=k) (by omega)
 induction m with
 | zero =>
  intro n i h1 h2 h3 h4
  obtain ⟨n,rfl⟩:=ex1 ‹_<n›
  show zFZ _ _ _ _ _=_
  unfold zFZ
  rw [e,zf (dt (zIm (by omega) (by omega))),zf (zOR (by omega)),zf (zAE (by omega)),zf (zAE (by omega)),zAB (df (by omega))]
  rw [dt (p := ∀ g,g<2 ^ k→s.getD (f+g) 0≠0) (fun g hg=>h4 (f+g) (by omega) (by omega))]
  rfl
 | succ m ih =>
  intro n i h1 h2 h3 h4
  obtain ⟨n,rfl⟩:=ex1 ‹_<n›
  show zFZ _ _ _ _ _=_
  unfold zFZ
  have hi:i<s.length:=by omega
  have hg:s.getD i 0=s[i]:=by rw [List.getD_eq_getElem?_getD,List.getElem?_eq_getElem hi]; rfl
  rw [e,zf (dt (zIm (by omega) (by omega))),zf (zOR (by omega)),zf (zAE (by omega)),zf (zAE (by omega)),zAN (dt (by omega)),zf (zAK hi),zHL hi]
  by_cases hz:s[i]=0
  ·rw [zAN (dt hz),df]
   intro hh
   have:=hh (i - f) (by omega)
   rw [show f+(i - f)=i by omega,hg] at this
   exact this hz
  ·rw [zAB (df hz),zf (zAE (by omega))]
   refine ih n (i+1) (by omega) (by omega) (by omega) (fun g h5 h6 => ?_)
   by_cases hgi:g=i
   ·rw [hgi,hg]; exact hz
   ·exact h4 g h5 (by omega)
theorem zWi {s:List Int} {f k:Nat} (hk:k≤4) (hs:f+2 ^ k≤s.length) (hl:s.length=256):zMj s (f:Int) (k:Int)=some (decide (∀ g,g<2 ^ k→s.getD (f+g) 0≠0)) :=
 zUE hk hs hl (2 ^ k) zAF f (by omega) (by have:=(zKR (k:=k) (by omega)).2.2; have:=zNU (k:=k) (by omega); unfold zAF; omega) (by omega) (fun g h1 h2=>by omega)
def zl (z:zi) (l:List (List Int)):zi:={ z with free:=l }
def zer (l:List Int) (i:Nat):Nat→List Int
 | 0=>l
 | m+1=>zer (l.set i 0) (i+1) m
theorem zSn:∀ (m i:Nat) (l:List Int),(zer l i m).length=l.length
 | 0,_,_=>rfl
 | m+1,i,l=>by unfold zer; rw [zSn]; exact List.length_set ..
theorem zRB (l:List Int) (i g:Nat) (h:i<l.length) (x:Int):(l.set i x).getD g 0=if g=i then x else l.getD g 0:=by
 simp only [List.getD_eq_getElem?_getD,List.getElem?_set]
 by_cases hg:i=g
 ·rw [if_pos hg,if_pos h,if_pos hg.symm]; rfl
 ·rw [if_neg hg,if_neg (fun e=>hg e.symm)]
theorem zSw:∀ (m i:Nat) (l:List Int) (g:Nat),i+m≤l.length→(zer l i m).getD g 0=if i≤g∧g<i+m then 0 else l.getD g 0
 | 0,i,l,g,_=>by rw [if_neg (by omega)]; rfl
 | m+1,i,l,g,h=>by
  unfold zer
  rw [zSw m (i+1) _ g (by rw [List.length_set]; omega),zRB l i g (by omega)]
  by_cases h1:i+1≤g∧g<i+1+m
  ·rw [if_pos h1,if_pos (by omega)]
  ·rw [if_neg h1]
   by_cases h2:g=i
   ·rw [if_pos h2,if_pos (by omega)]
   ·rw [if_neg h2,if_neg (by omega)]
theorem zVU {se:Int→(List (List Int))→(List Int)→Option zi} {k f:Nat} {l:List (List Int)} (hk:k≤4) (h5:l.length=5) (hf:f+2 ^ k≤256):∀ (m n i:Nat) (s:List Int),i+m=f+2 ^ k→m<n→s.length=256 →
  zHV se (k:Int) (f:Int) l n (i:Int) s=zEj se (f:Int) (l.set k (l.getD k []++[(f:Int)])) (zer s i m):=by
 intro m
 obtain ⟨e,p1,p2⟩:=zKR (k:=k) (by omega)
 have pn:=zNU (k:=k) (by omega)
 induction m with
 | zero =>
  intro n i s h1 h2 h3
  obtain ⟨n,rfl⟩:=ex1 ‹_<n›
  show zEm _ _ _ _ _ _ _=_
  unfold zEm
  rw [e,zf (dt (zIm (by omega) (by omega))),zf (zOR (by omega)),zf (zAE (by omega)),zf (zAE (by omega)),zAB (df (by omega)),zKl h5 (by omega)]
  rfl
 | succ m ih =>
  intro n i s h1 h2 h3
  obtain ⟨n,rfl⟩:=ex1 ‹_<n›
  show zEm _ _ _ _ _ _ _=_
  unfold zEm
  rw [e,zf (dt (zIm (by omega) (by omega))),zf (zOR (by omega)),zf (zAE (by omega)),zf (zAE (by omega)),zAN (dt (by omega)),zf (zAK (by omega)),zf (zAE (by omega))]
  exact ih n (i+1) (s.set i 0) (by omega) (by omega) (by rw [List.length_set]; exact h3)
structure WI (z:zi) (s:List Int) (D:Nat→Int→Prop) (l:List (List Int)) (left:List Int):Prop where
 len:l.length=5
 llen:left.length=256
 srt:∀ k,Srt (lst (zl z l) k)
 ins:∀ k x,x∈lst (zl z l) k→inside z x k=true∧D k x
 dis:∀ k x j y g,x∈lst (zl z l) k→y∈lst (zl z l) j→x≤g→g<x+2 ^ k→y≤g→g<y+2 ^ j→k=j∧x=y
 lft:∀ g:Nat,g<256→(left.getD g 0≠0↔s.getD g 0≠0 ∧ ¬ cov (zl z l) g)
 sub:∀ g,cov (zl z l) g→s.getD g.toNat 0≠0
 max:∀ j x,D j x→j≤4→inside z x j=true → ∃ g,x≤g∧g<x+2 ^ j∧(s.getD g.toNat 0=0 ∨ ∃ i y,j≤i∧y∈lst (zl z l) i∧y≤g∧g<y+2 ^ i)
section
variable {z:zi} {s left left':List Int} {D D':Nat→Int→Prop} {l:List (List Int)} {k:Nat} {f:Int}
theorem WI.mono (h:WI z s D l left) (h1:∀ j x,inside z x j=true→D j x→D' j x) (h2:∀ j x,inside z x j=true→j≤4→D' j x→D j x):WI z s D' l left :=
 ⟨h.len,h.llen,h.srt,fun k x hx=>⟨(h.ins k x hx).1,h1 k x (h.ins k x hx).1 (h.ins k x hx).2⟩,h.dis,h.lft,h.sub,fun j x hd hj hi=>h.max j x (h2 j x hi hj hd) hj hi⟩
theorem WI.skip (h:WI z s D l left) (hr:ranges z=true) (hk:k≤4) (hD:∀ j x,D j x→k≤j) (hn:inside z f k=true → ∃ g,f≤g∧g<f+2 ^ k∧left.getD g.toNat 0=0):WI z s (fun j x=>D j x∨(j=k∧x=f)) l left:=by
 refine ⟨h.len,h.llen,h.srt,fun k x hx=>⟨(h.ins k x hx).1,.inl (h.ins k x hx).2⟩,h.dis,h.lft,h.sub,?_⟩
 rintro j x (hd | ⟨rfl,rfl⟩) hj hi
 ·exact h.max j x hd hj hi
 ·obtain ⟨g,g1,g2,g3⟩:=hn hi
  have hb:=zAW hr hi
  refine ⟨g,g1,g2,?_⟩
  have hl:=h.lft g.toNat (by omega)
  rw [Int.toNat_of_nonneg (by omega)] at hl
  by_cases hs:s.getD g.toNat 0=0
  ·exact .inl hs
  ·have hc:cov (zl z l) g:=by
    refine Classical.byContradiction fun hc => ?_
    exact hl.2 ⟨hs,hc⟩ g3
   obtain ⟨i,y,hy,y1,y2⟩:=hc
   exact .inr ⟨i,y,hD _ _ (h.ins i y hy).2,hy,y1,y2⟩
theorem WI.add (h:WI z s D l left) (hr:ranges z=true) (hk:k≤4) (hi:inside z f k=true) (hD:∀ j x,D j x→k<j∨(j=k∧x<f)) (hall:∀ g:Nat,f≤g→(g:Int)<f+2 ^ k→left.getD g 0≠0)
  (hl':left'.length=256) (hg':∀ g:Nat,left'.getD g 0=if f≤(g:Int)∧(g:Int)<f+2 ^ k then 0 else left.getD g 0):WI z s (fun j x=>D j x∨(j=k∧x=f)) (l.set k (l.getD k []++[f])) left':=by
 have hb:=zAW hr hi
 have hls:∀ j,lst (zl z (l.set k (l.getD k []++[f]))) j=if j=k then lst (zl z l) k++[f] else lst (zl z l) j:=fun j=>zQn (z:=zl z l) h.len (by omega)
 have hm:∀ j y,y∈lst (zl z (l.set k (l.getD k []++[f]))) j↔y∈lst (zl z l) j∨(j=k∧y=f):=by
  intro j y
  rw [hls]
  by_cases hjk:j=k
  ·subst hjk
   rw [if_pos rfl,List.mem_append]
   simp
  ·rw [if_neg hjk]
   simp [hjk]
 have hf:∀ g,f≤g→g<f+2 ^ k→s.getD g.toNat 0≠0 ∧ ¬ cov (zl z l) g:=by
  intro g g1 g2
  have e:((g.toNat:Nat):Int)=g:=Int.toNat_of_nonneg (by omega)
  have:=(h.lft g.toNat (by omega)).1 (hall g.toNat (by omega) (by omega))
  rw [e] at this
  exact this
 have hc:∀ g,cov (zl z (l.set k (l.getD k []++[f]))) g↔cov (zl z l) g∨(f≤g∧g<f+2 ^ k):=by
  intro g
  constructor
  ·rintro ⟨j,y,hy,h1,h2⟩
   rcases (hm j y).1 hy with hy | ⟨rfl,rfl⟩
   ·exact .inl ⟨j,y,hy,h1,h2⟩
   ·exact .inr ⟨h1,h2⟩
  ·rintro (⟨j,y,hy,h1,h2⟩ | ⟨h1,h2⟩)
   ·exact ⟨j,y,(hm j y).2 (.inl hy),h1,h2⟩
   ·exact ⟨k,f,(hm k f).2 (.inr ⟨rfl,rfl⟩),h1,h2⟩
 refine ⟨by simpa using h.len,hl',fun j => ?_,fun j y hy => ?_,fun j y i u g hy hu h1 h2 h3 h4 => ?_,fun g hg => ?_,fun g hg => ?_,fun j x hd hj hij => ?_⟩
 ·rw [hls]
  split
  ·refine List.pairwise_append.2 ⟨h.srt k,List.pairwise_singleton .., fun a ha b hb' => ?_⟩
   simp only [List.mem_singleton] at hb'
   subst hb'
   rcases hD _ _ (h.ins k a ha).2 with hq | hq <;> omega
  ·exact h.srt j
 ·rcases (hm j y).1 hy with hy | ⟨rfl,rfl⟩
  ·exact ⟨(h.ins j y hy).1,.inl (h.ins j y hy).2⟩
  ·exact ⟨hi,.inr ⟨rfl,rfl⟩⟩
 ·rcases (hm j y).1 hy with hy' | ⟨e1,e2⟩
  ·rcases (hm i u).1 hu with hu' | ⟨e3,e4⟩
   ·exact h.dis j y i u g hy' hu' h1 h2 h3 h4
   ·rw [e4] at h3 h4
    rw [e3] at h4
    exact absurd ⟨j,y,hy',h1,h2⟩ (hf g h3 h4).2
  ·rw [e2] at h1 h2
   rw [e1] at h2
   rcases (hm i u).1 hu with hu' | ⟨e3,e4⟩
   ·exact absurd ⟨i,u,hu',h3,h4⟩ (hf g h1 h2).2
   ·exact ⟨e1.trans e3.symm,e2.trans e4.symm⟩
 ·rw [hg',hc]
  by_cases hq:f≤(g:Int)∧(g:Int)<f+2 ^ k
  ·rw [if_pos hq]
   simp [hq]
  ·rw [if_neg hq,h.lft g hg]
   simp only [hq,or_false]
 ·rcases (hc g).1 hg with hg | hg
  ·exact h.sub g hg
  ·exact (hf g hg.1 hg.2).1
 ·rcases hd with hd | ⟨rfl,rfl⟩
  ·obtain ⟨g,g1,g2,g3⟩:=h.max j x hd hj hij
   refine ⟨g,g1,g2,g3.imp id ?_⟩
   rintro ⟨i,y,hy,hy2,hy3⟩
   exact ⟨i,y,hy,(hm i y).2 (.inl hy2),hy3⟩
  ·have hp:=zJQ j
   exact ⟨x,Int.le_refl _,by omega,.inr ⟨j,x,Nat.le_refl _,(hm j x).2 (.inr ⟨rfl,rfl⟩),Int.le_refl _,by omega⟩⟩
theorem WI.len' (h:WI z s D l left) (hr:ranges z=true) (k:Nat):(lst (zl z l) k).length≤256:=by
 refine zTD (h.srt k) (fun f hf => ?_)
 have:=zAW hr (h.ins k f hf).1
 have:=zJQ k
 omega
theorem WI.ok (h:WI z s (fun _ _=>True) l left) (hr:ranges z=true):OkZ (zl z l) ∧ ∀ g,cov (zl z l) g↔z.start≤g∧g<z.start+z.count∧s.getD g.toNat 0≠0:=by
 refine ⟨⟨hr,h.len,h.srt,fun k x hx=>(h.ins k x hx).1,h.dis,fun k x hk hx hb => ?_⟩,fun g=>⟨fun hg => ?_,fun hg => ?_⟩⟩
 ·refine Bool.eq_false_iff.2 fun hi => ?_
  have hbx:=zAW hr (h.ins k x hx).1
  have hax:=(zBE hr).1 (h.ins k x hx).1
  have hp:=zJQ k
  have hps:=zLB k
  obtain ⟨g,g1,g2,g3⟩:=h.max (k+1) _ trivial (by omega) hi
  have hcov:(x≤g∧g<x+2 ^ k)∨(bud x k≤g∧g<bud x k+2 ^ k):=by
   clear g3
   rcases zNQ hk hbx.1 (by omega) hax.2.1 with ⟨_,e⟩ | ⟨_,e⟩ <;> rw [e] at g1 g2 ⊢ <;> omega
  have hno:∀ y,y∈lst (zl z l) k→y≤g→g<y+2 ^ k→False:=by
   intro y hy y1 y2
   rcases g3 with g3 | ⟨i,u,hu,hu1,hu2,hu3⟩
   ·exact h.sub g ⟨k,y,hy,y1,y2⟩ g3
   ·have:=(h.dis k y i u g hy hu1 y1 y2 hu2 hu3).1
    omega
  rcases hcov with hq | hq
  ·exact hno x hx hq.1 hq.2
  ·exact hno _ hb hq.1 hq.2
 ·obtain ⟨k,x,hx,h1,h2⟩:=hg
  have:=zAW hr (h.ins k x hx).1
  exact ⟨by omega,by omega,h.sub g ⟨k,x,hx,h1,h2⟩⟩
 ·have hb:=zBR hr
  obtain ⟨g',g1,g2,g3⟩:=h.max 0 g trivial (by omega) ((zBE hr).2 (by rw [pw0]; omega))
  rw [pw0] at g2
  have e:g'=g:=by omega
  subst e
  rcases g3 with g3 | ⟨i,y,_,hy,hy2,hy3⟩
  ·exact absurd g3 hg.2.2
  ·exact ⟨i,y,hy,hy2,hy3⟩
end
section
variable {z:zi} {s:List Int}
def Nx (z:zi) (s:List Int) (k:Nat) (se:Int→(List (List Int))→(List Int)→Option zi):Prop :=
 ∀ l left,WI z s (fun j _=>k≤j) l left → ∃ l',se ((k:Int) - 1) l left=some (zl z l') ∧ ∃ left',WI z s (fun _ _=>True) l' left'
theorem zWC (hr:ranges z=true) {k:Nat} {se:Int→(List (List Int))→(List Int)→Option zi} (hk:k≤4) (hn:Nx z s k se):∀ (m n f:Nat) (l:List (List Int)) (left:List Int),(f:Int)+m=z.start+z.count→m<n→z.start≤f →
  WI z s (fun j x=>k<j∨(j=k∧x<f)) l left → ∃ l',zCn se z (k:Int) n (f:Int) l left=some (zl z l') ∧ ∃ left',WI z s (fun _ _=>True) l' left':=by
 have hb:=zBR hr
 intro m
 induction m with
 | zero =>
  intro n f l left h1 h2 h3 h
  obtain ⟨n,rfl⟩:=ex1 ‹_<n›
  show ∃ l',zEs _ _ _ _ _ _ _=_∧_
  unfold zEs
  rw [zf (zAE (by omega)),zAB (df (by omega))]
  unfold zIq
  rw [zf (zAE (by omega))]
  refine hn l left (h.mono (fun j x _ hd=>by rcases hd with hd | hd <;> omega) (fun j x hi _ hd => ?_))
  have:=zAW hr hi
  have:=zJQ j
  have hd:k≤j:=hd
  by_cases hjk:j=k
  ·exact .inr ⟨hjk,by omega⟩
  ·exact .inl (by omega)
 | succ m ih =>
  intro n f l left h1 h2 h3 h
  obtain ⟨n,rfl⟩:=ex1 ‹_<n›
  obtain ⟨e,p1,p2⟩:=zKR (k:=k) (by omega)
  have pn:=zNU (k:=k) (by omega)
  have hstep:∀ l2 left2,WI z s (fun j x=>(k<j∨(j=k∧x<f))∨(j=k∧x=f)) l2 left2 → ∃ l',zEj (zCn se z (k:Int) n) (f:Int) l2 left2=some (zl z l') ∧ ∃ left',WI z s (fun _ _=>True) l' left':=by
   intro l2 left2 hw
   unfold zEj
   rw [zf (zAE (by omega))]
   exact ih n (f+1) l2 left2 (by omega) (by omega) (by omega) (hw.mono (fun j x _ hd=>by omega) (fun j x _ _ hd=>by omega))
  show ∃ l',zEs _ _ _ _ _ _ _=_∧_
  unfold zEs
  rw [zf (zAE (by omega)),zAN (dt (by omega)),zRi hr hk h3 (by omega),zBt]
  by_cases hi:inside z f k=true
  ·have hbi:=zAW hr hi
   rw [hi,zAN rfl,zWi hk (by rw [h.llen]; omega) h.llen,zBt]
   by_cases ha:∀ g,g<2 ^ k→left.getD (f+g) 0≠0
   ·have hlen:(l.getD (k:Int).toNat []).length≤256:=h.len' hr k
    rw [dt ha,Bool.and_true,zAN rfl,zf (zAK (by omega)),zf (dt (by omega)),zf (dt (by show (_+1)*8≤4294967296; omega)),zVU hk h.len (by omega) (2 ^ k) zAF f left (by omega) (by unfold zAF; omega) h.llen]
    refine hstep _ _ (h.add hr hk hi (fun j x hd=>hd) (fun g g1 g2 => ?_) (by rw [zSn]; exact h.llen) (fun g => ?_))
    ·have:=ha (g - f) (by omega)
     rw [show f+(g - f)=g by omega] at this
     exact this
    ·rw [zSw (2 ^ k) f left g (by rw [h.llen]; omega)]
     by_cases hq:f≤g∧g<f+2 ^ k
     ·rw [if_pos hq,if_pos (by omega)]
     ·rw [if_neg hq,if_neg (by omega)]
   ·rw [df ha,Bool.and_false,zAB rfl]
    refine hstep _ _ (h.skip hr hk (fun j x hd=>by omega) (fun _ => ?_))
    refine Classical.byContradiction fun hno=>ha (fun g hg hz=>hno ⟨((f+g:Nat):Int),by omega,by omega,?_⟩)
    rw [Int.toNat_natCast]
    exact hz
  ·have hi':=Bool.eq_false_iff.2 hi
   rw [hi',zAB rfl,zBt,Bool.false_and,zAB rfl]
   exact hstep _ _ (h.skip hr hk (fun j x hd=>by omega) (fun hq=>absurd hq hi))
theorem zVx (hr:ranges z=true):∀ (q n:Nat) (l:List (List Int)) (left:List Int),q≤5→q<n→WI z s (fun j _=>q≤j) l left →
  ∃ l',zBP z n ((q:Int) - 1) l left=some (zl z l') ∧ ∃ left',WI z s (fun _ _=>True) l' left':=by
 have hb:=zBR hr
 intro q
 induction q with
 | zero =>
  intro n l left hq hn h
  obtain ⟨n,rfl⟩:=ex1 ‹_<n›
  show ∃ l',zE5 _ _ _ _ _=_∧_
  unfold zE5
  rw [zAB (df (by omega))]
  exact ⟨l,rfl,left,h.mono (fun _ _ _ _=>trivial) (fun j x _ _ _=>Nat.zero_le j)⟩
 | succ q ih =>
  intro n l left hq hn h
  obtain ⟨n,rfl⟩:=ex1 ‹_<n›
  show ∃ l',zE5 _ _ _ _ _=_∧_
  unfold zE5
  obtain ⟨st,hst⟩:=Int.eq_ofNat_of_zero_le hb.2.2.2.1
  rw [show (((q+1:Nat):Int) - 1)=(q:Int) by omega,zAN (dt (by omega))]
  have:=zWC (s:=s) (k:=q) (se:=zBP z n) hr (by omega) (fun l2 left2 h2=>ih n l2 left2 (by omega) (by omega) h2) z.count.toNat zAF st l left (by omega) (by unfold zAF; omega) (by omega)
   (h.mono (fun j x _ hd => .inl hd) (fun j x hi _ hd=>by
    have:=zAW hr hi
    show q+1≤j
    omega))
  rw [← hst] at this
  exact this
theorem zV3 {s:List Int} (hs:s.length=256):∀ (m n i:Nat) (l:List Int),i+m=256→m<n→l.length=256→(∀ g:Nat,g<i→l.getD g 0=s.getD g 0)→zG7 z s n (i:Int) l=zHF z s:=by
 intro m
 induction m with
 | zero =>
  intro n i l h1 h2 h3 h4
  obtain ⟨n,rfl⟩:=ex1 ‹_<n›
  show zE4 _ _ _ _ _=_
  unfold zE4
  rw [zAB (df (by omega))]
  congr 1
  apply List.ext_getElem?
  intro g
  rcases Nat.lt_or_ge g 256 with hg | hg
  ·have:=h4 g (by omega)
   rw [List.getD_eq_getElem?_getD,List.getD_eq_getElem?_getD,List.getElem?_eq_getElem (by omega),List.getElem?_eq_getElem (by omega)] at this
   rw [List.getElem?_eq_getElem (by omega),List.getElem?_eq_getElem (by omega)]
   exact congrArg some this
  ·rw [List.getElem?_eq_none (by omega),List.getElem?_eq_none (by omega)]
 | succ m ih =>
  intro n i l h1 h2 h3 h4
  obtain ⟨n,rfl⟩:=ex1 ‹_<n›
  show zE4 _ _ _ _ _=_
  unfold zE4
  have hi:i<s.length:=by omega
  rw [zAN (dt (by omega)),zf (zAK hi),zf (zAK (by omega)),zf (zAE (by omega)),zHL hi]
  refine ih n (i+1) _ (by omega) (by omega) (by rw [List.length_set]; exact h3) (fun g hg => ?_)
  rw [Int.toNat_natCast,zRB _ _ _ (by omega)]
  by_cases hgi:g=i
  ·rw [if_pos hgi,hgi,List.getD_eq_getElem?_getD,List.getElem?_eq_getElem hi]
   rfl
  ·rw [if_neg hgi]
   exact h4 g (by omega)
theorem zU9 (hr:ranges z=true) (hs:s.length=256):∃ y,zDd z s=some y∧OkZ y∧zGv y z ∧ ∀ g,cov y g↔z.start≤g∧g<z.start+z.count∧s.getD g.toNat 0≠0:=by
 unfold zDd
 rw [zf (by rw [hs]; rfl),z0i,zV3 hs 256 zAF 0 _ (by omega) (by unfold zAF; omega) (by rw [List.length_replicate,hs]; rfl) (fun g hg=>by omega)]
 unfold zHF
 have he:=zTG (z:=zl z (List.replicate 5 [])) hr rfl
 obtain ⟨l',e,left',hw⟩:=zVx (s:=s) hr 5 zAF (List.replicate 5 []) s (by omega) (by unfold zAF; omega)
  ⟨rfl,hs,he.1.srt,fun k x hx=>absurd (show x∈[] from (zQN (z:=zl z (List.replicate 5 [])) rfl k)▸hx) (by simp),he.1.dis,fun g hg=>⟨fun h=>⟨h,he.2 g⟩,fun h=>h.1⟩,fun g hg=>absurd hg (he.2 g),fun j x hd hj _=>by exact absurd (show 5≤j from hd) (by omega)⟩
 have ho:=hw.ok hr
 exact ⟨zl z l',e,ho.1,⟨rfl,rfl,rfl,rfl,rfl⟩,ho.2⟩
theorem zSb {y:zi} (hs:s.length=256) (ho:OkZ y) (hy:zGv y z) (hc:∀ g,cov y g↔z.start≤g∧g<z.start+z.count∧s.getD g.toNat 0≠0):zDd z s=some y:=by
 have hr:ranges z=true:=by rw [← hy.ranges]; exact ho.ranges
 obtain ⟨x,e,h1,h2,h3⟩:=zU9 hr hs
 have hxy:zGv x y:=h2.trans ⟨hy.1.symm,hy.2.1.symm,hy.2.2.1.symm,hy.2.2.2.1.symm,hy.2.2.2.2.symm⟩
 rw [e,h1.ext ho hxy.1 hxy.2.1 hxy.2.2.1 hxy.2.2.2.1 hxy.2.2.2.2 (fun f=>by rw [h3,hc])]
end
end Go.Proofs.YtplkliakhdkpcaaGreat
namespace Go.Proofs.YtplkliakhdkpcaaGreat
open Go Go.RowKit Go.Wk Go.Am
structure Sm (a:zJ):Prop where
 n:a.nodes.length≤1099511627776
 z:a.zones.length≤1099511627776
 c:a.caches.length≤1099511627776
 f:∀ z,z∈a.zones → ∀ k,(z.free.getD k []).length≤1099511627776
 l:∀ c,c∈a.caches→c.lists.length≤1099511627776 ∧ ∀ l,l∈c.lists→l.length≤1099511627776
theorem zX8 {l:List Int} (hl:l.length≤1099511627776):∀ (m n i:Nat),i+m=l.length→m<n→zEb l l n (i:Int)=some true:=by
 intro m
 induction m with
 | zero =>
  intro n i h1 h2
  obtain ⟨n,rfl⟩:=ex1 ‹_<n›
  show zCc _ _ _ _=_
  unfold zCc
  rw [zAB (df (by omega))]
  rfl
 | succ m ih =>
  intro n i h1 h2
  obtain ⟨n,rfl⟩:=ex1 ‹_<n›
  show zCc _ _ _ _=_
  unfold zCc
  rw [zAN (dt (by omega)),zf (zAK (by omega)),zf (zAK (by omega)),dt rfl]
  refine (zAB (by rfl)).trans ?_
  rw [zf (zAE (by omega))]
  exact ih n (i+1) (by omega) (by omega)
theorem zPn {l:List Int} (hl:l.length≤1099511627776):zFG l l=some true:=by
 unfold zFG
 rw [dt rfl]
 exact zX8 hl l.length zAF 0 (by omega) (by unfold zAF; omega)
theorem zX9 {l:List Int} (hl:l.length≤1099511627776):∀ (m n i:Nat),i+m=l.length→m<n→zEc l l n (i:Int)=some true:=by
 intro m
 induction m with
 | zero =>
  intro n i h1 h2
  obtain ⟨n,rfl⟩:=ex1 ‹_<n›
  show zCf _ _ _ _=_
  unfold zCf
  rw [zAB (df (by omega))]
  rfl
 | succ m ih =>
  intro n i h1 h2
  obtain ⟨n,rfl⟩:=ex1 ‹_<n›
  show zCf _ _ _ _=_
  unfold zCf
  rw [zAN (dt (by omega)),zf (zAK (by omega)),zf (zAK (by omega)),dt rfl]
  refine (zAB (by rfl)).trans ?_
  rw [zf (zAE (by omega))]
  exact ih n (i+1) (by omega) (by omega)
theorem zTJ {l:List Int} (hl:l.length≤1099511627776):zGU l l=some true:=by
 unfold zGU
 rw [dt rfl]
 exact zX9 hl l.length zAF 0 (by omega) (by unfold zAF; omega)
theorem zQk {z:zi} (hz:∀ k,(z.free.getD k []).length≤1099511627776):∀ (m n i:Nat),i+m=5→m<n→zG9 z z n (i:Int)=some true:=by
 intro m
 induction m with
 | zero =>
  intro n i h1 h2
  obtain ⟨n,rfl⟩:=ex1 ‹_<n›
  show zE2 _ _ _ _=_
  unfold zE2
  rw [zAB (df (by omega))]
  rfl
 | succ m ih =>
  intro n i h1 h2
  obtain ⟨n,rfl⟩:=ex1 ‹_<n›
  show zE2 _ _ _ _=_
  unfold zE2
  rw [zAN (dt (by omega)),zf (zAK (by omega)),zTJ (hz _),zBt]
  refine (zAB (by rfl)).trans ?_
  rw [zf (zAE (by omega))]
  exact ih n (i+1) (by omega) (by omega)
theorem zWz {z:zi} (hz:∀ k,(z.free.getD k []).length≤1099511627776):zKI z z=some true:=by
 unfold zKI
 rw [dt rfl,dt rfl,dt rfl,dt rfl,dt rfl]
 exact zQk hz 5 zAF 0 (by omega) (by unfold zAF; omega)
theorem zQh {c:zL} (h1:c.lists.length≤1099511627776) (h2:∀ l,l∈c.lists→l.length≤1099511627776):∀ (m n i:Nat),i+m=c.lists.length→m<n→zHb c c n (i:Int)=some true:=by
 intro m
 induction m with
 | zero =>
  intro n i h3 h4
  obtain ⟨n,rfl⟩:=ex1 ‹_<n›
  show zEx _ _ _ _=_
  unfold zEx
  rw [zAB (df (by omega))]
  rfl
 | succ m ih =>
  intro n i h3 h4
  obtain ⟨n,rfl⟩:=ex1 ‹_<n›
  show zEx _ _ _ _=_
  unfold zEx
  have hi:i<c.lists.length:=by omega
  rw [zAN (dt (by omega)),zf (zAK hi),zf (zAK hi),zHL hi,zPn (h2 _ (List.getElem_mem hi)),zBt]
  refine (zAB (by rfl)).trans ?_
  rw [zf (zAE (by omega))]
  exact ih n (i+1) (by omega) (by omega)
theorem zWv {c:zL} (h1:c.lists.length≤1099511627776) (h2:∀ l,l∈c.lists→l.length≤1099511627776):zKP c c=some true:=by
 unfold zKP
 rw [dt rfl]
 exact zQh h1 h2 c.lists.length zAF 0 (by omega) (by unfold zAF; omega)
theorem zTk {a:zJ} (h:Sm a):∀ (m n i:Nat),i+m=a.caches.length→m<n→zGx a a n (i:Int)=some true:=by
 have hc:=h.c
 intro m
 induction m with
 | zero =>
  intro n i h3 h4
  obtain ⟨n,rfl⟩:=ex1 ‹_<n›
  show zE3 _ _ _ _=_
  unfold zE3
  rw [zAB (df (by omega))]
  rfl
 | succ m ih =>
  intro n i h3 h4
  obtain ⟨n,rfl⟩:=ex1 ‹_<n›
  show zE3 _ _ _ _=_
  unfold zE3
  have hi:i<a.caches.length:=by omega
  have hl:=h.l _ (List.getElem_mem hi)
  rw [zAN (dt (by omega)),zf (zAK hi),zf (zAK hi),zHL hi,zWv hl.1 hl.2,zBt]
  refine (zAB (by rfl)).trans ?_
  rw [zf (zAE (by omega))]
  exact ih n (i+1) (by omega) (by omega)
theorem zTt {a:zJ} (h:Sm a):∀ (m n i:Nat),i+m=a.zones.length→m<n→zG0 a a n (i:Int)=some true:=by
 have hc:=h.z
 intro m
 induction m with
 | zero =>
  intro n i h3 h4
  obtain ⟨n,rfl⟩:=ex1 ‹_<n›
  show zE6 _ _ _ _=_
  unfold zE6
  rw [zAB (df (by omega))]
  exact zTk h a.caches.length zAF 0 (by omega) (by have:=h.c; unfold zAF; omega)
 | succ m ih =>
  intro n i h3 h4
  obtain ⟨n,rfl⟩:=ex1 ‹_<n›
  show zE6 _ _ _ _=_
  unfold zE6
  have hi:i<a.zones.length:=by omega
  rw [zAN (dt (by omega)),zf (zAK hi),zf (zAK hi),zHL hi,zWz (h.f _ (List.getElem_mem hi)),zBt]
  refine (zAB (by rfl)).trans ?_
  rw [zf (zAE (by omega))]
  exact ih n (i+1) (by omega) (by omega)
theorem zUg {a:zJ} (h:Sm a):zHk a a=some true:=by
 unfold zHk
 rw [zPn h.n,zBt,dt rfl,dt rfl,dt rfl,dt rfl]
 exact zTt h a.zones.length zAF 0 (by omega) (by have:=h.z; unfold zAF; omega)
end Go.Proofs.YtplkliakhdkpcaaGreat
namespace Go.Proofs.YtplkliakhdkpcaaGreat
open Go Go.RowKit Go.Am
def geP:Option Int→Int→Bool
 | some q,f=>decide (f≤q)
 | none,_=>false
def zKv (z:zi) (k:Nat):Option Int→List Int→Int
 | _,[]=>0
 | p,f::r=>if inside z f k=false then 3 else if geP p f=true then 10 else zKv z k (some f) r
def zFA (z:zi):Nat→List (List Int)→Int
 | _,[]=>0
 | k,l::r=>if zKv z k none l=0 then zFA z (k+1) r else zKv z k none l
def zM0 (s:List Bool) (i:Nat):Nat→Option (List Bool)
 | 0=>some s
 | n+1=>if s.getD i false=true then none else zM0 (s.set i true) (i+1) n
def zM8 (k:Nat):List Bool→List Int→Option (List Bool)
 | s,[]=>some s
 | s,f::r=>match zM0 s f.toNat (2 ^ k) with
  | none=>none
  | some s'=>zM8 k s' r
def zIn:Nat→List Bool→List (List Int)→Option (List Bool)
 | _,s,[]=>some s
 | k,s,l::r=>match zM8 k s l with
  | none=>none
  | some s'=>zIn (k+1) s' r
def zQs (z:zi) (k:Nat) (l0:List Int):List Int→Bool
 | []=>false
 | f::r=>if (decide (bud f k∈l0)&&inside z (min f (bud f k)) (k+1))=true then true else zQs z k l0 r
def zMz (z:zi):Nat→List (List Int)→Bool
 | _,[]=>false
 | k,l::r=>if zQs z k l l=true then true else zMz z (k+1) r
def zEw:List Bool:=List.replicate 256 false
theorem zJO:zEw.length=256:=List.length_replicate
def zDu (z:zi):Int :=
 if ranges z=false then 2 else if zFA z 0 z.free=0 then
  (if zIn 0 zEw z.free=none then 7 else if zMz z 0 (z.free.take 4)=true then 11 else 0)
 else zFA z 0 z.free
theorem zS7 {z:zi} {k:Nat}:∀ {l:List Int} {p:Option Int},zKv z k p l=0→(∀ f,f∈l→inside z f k=true)∧Srt l∧(∀ q f,p=some q→f∈l→q<f):=by
 intro l
 induction l with
 | nil=>intro p _; exact ⟨fun f hf=>by simp at hf,Srt.nil,fun q f _ hf=>by simp at hf⟩
 | cons a l ih =>
  intro p h
  unfold zKv at h
  split at h
  ·cases h
  ·rename_i h1
   split at h
   ·cases h
   ·rename_i h2
    obtain ⟨i1,i2,i3⟩:=ih h
    have ha:inside z a k=true:=by simpa using h1
    refine ⟨fun f hf => ?_,List.pairwise_cons.2 ⟨fun f hf=>i3 a f rfl hf,i2⟩,fun q f hq hf => ?_⟩
    ·rcases List.mem_cons.1 hf with rfl | hf
     ·exact ha
     ·exact i1 f hf
    ·subst hq
     have h2:q<a:=by simpa [geP] using h2
     rcases List.mem_cons.1 hf with rfl | hf
     ·exact h2
     ·have:=i3 a f rfl hf; omega
theorem zT6 {z:zi}:∀ {ls:List (List Int)} {k:Nat},zFA z k ls=0 → ∀ (j:Nat) (l:List Int),ls[j]?=some l→(∀ f,f∈l→inside z f (k+j)=true)∧Srt l:=by
 intro ls
 induction ls with
 | nil=>intro k _ j l hl; simp at hl
 | cons a ls ih =>
  intro k h j l hl
  unfold zFA at h
  split at h
  ·rename_i h0
   cases j with
   | zero =>
    simp at hl; subst hl
    exact ⟨(zS7 h0).1,(zS7 h0).2.1⟩
   | succ j =>
    have:=ih h j l (by simpa using hl)
    rw [show k+(j+1)=k+1+j by omega]
    exact this
  ·rename_i h0; exact absurd h h0
theorem zCs {z:zi} (h:zDu z=0):ranges z=true:=by
 unfold zDu at h
 split at h
 ·cases h
 ·rename_i h1; simpa using h1
def zLq (l:List Int) (i:Nat):Option Int:=if i=0 then none else l[i - 1]?
section
variable {z:zi} {k i:Nat} {l:List Int} {x y:Int}
theorem zPm (hI:zKv z k none l=zKv z k (zLq l i) (l.drop i)) (hx:l[i]?=some x) (h:inside z x k=false):zKv z k none l=3:=by
 obtain ⟨h1,h2⟩:=List.getElem?_eq_some_iff.1 hx
 rw [hI,List.drop_eq_getElem_cons h1,h2]
 unfold zKv
 simp [h]
theorem zMg (hI:zKv z k none l=zKv z k (zLq l i) (l.drop i)) (hx:l[i]?=some x) (h:inside z x k=true) (hg:geP (zLq l i) x=false):zKv z k none l=zKv z k (zLq l (i+1)) (l.drop (i+1)):=by
 obtain ⟨h1,h2⟩:=List.getElem?_eq_some_iff.1 hx
 rw [hI,List.drop_eq_getElem_cons h1,h2]
 conv=>lhs; unfold zKv
 have:zLq l (i+1)=some x:=by unfold zLq; simpa using hx
 simp [h,hg,this]
theorem zXI (h:¬ 0<i):geP (zLq l i) x=false:=by
 have:i=0:=by omega
 subst this
 rfl
theorem zXJ (h:0<i) (hy:l[((i:Int) - 1).toNat]?=some y):geP (zLq l i) x=decide (x≤y):=by
 have e:((i:Int) - 1).toNat=i - 1:=by omega
 rw [e] at hy
 unfold zLq
 rw [if_neg (by omega),hy]
 rfl
theorem zOe (hI:zKv z k none l=zKv z k (zLq l i) (l.drop i)) (hx:l[i]?=some x) (h:inside z x k=true) (hg:geP (zLq l i) x=true):zKv z k none l=10:=by
 obtain ⟨h1,h2⟩:=List.getElem?_eq_some_iff.1 hx
 rw [hI,List.drop_eq_getElem_cons h1,h2]
 unfold zKv
 simp [h,hg]
theorem zQ6 (hI:zKv z k none l=zKv z k (zLq l i) (l.drop i)) (h:l.length≤i):zKv z k none l=0:=by
 rw [hI,List.drop_eq_nil_of_le h]
 rfl
theorem zOy (hR:zFA z 0 z.free=zFA z k (z.free.drop k)) (hl:z.free[k]?=some l) (e:zKv z k none l=0):zFA z 0 z.free=zFA z (k+1) (z.free.drop (k+1)):=by
 obtain ⟨h1,h2⟩:=List.getElem?_eq_some_iff.1 hl
 rw [hR,List.drop_eq_getElem_cons h1,h2]
 conv=>lhs; unfold zFA
 simp [e]
theorem zQE (hR:zFA z 0 z.free=zFA z k (z.free.drop k)) (h:z.free.length≤k):zFA z 0 z.free=0:=by
 rw [hR,List.drop_eq_nil_of_le h]
 rfl
variable {s s0 s1:List Bool} {m n:Nat}
variable {ls:List (List Int)}
variable {l0:List Int}
theorem zMZ {β:Type} {l:List β} {i m:Nat} {x:β} (h:l[i]?=some x) (hm:i<m):(l.take m)[i]?=some x:=by
 rw [List.getElem?_take,if_pos hm]; exact h
end
def zRD (k:Nat):List (List Int)→Int
 | []=>0
 | l::r=>(l.length:Int)*2 ^ k+zRD (k+1) r
end Go.Proofs.YtplkliakhdkpcaaGreat
namespace Go.Proofs.YtplkliakhdkpcaaGreat
open Go Go.RowKit Go.Wk Go.Am
structure Zk (z:zi):Prop where
 len:z.free.length=5
 bd:∀ k,(lst z k).length≤1000000
section
variable {z:zi} {k:Nat} {l:List Int}
theorem Zk.get (h:Zk z) (hk:k<5):z.free[k]?=some (lst z k):=zKd h.len hk
theorem zRX {i:Nat} (h:i<l.length):l[i]?=some (at_ l (i:Int)):=by rw [zHL h,List.getElem?_eq_getElem h]
theorem zP6 {i:Nat} (h0:0<i):(i:Int) - 1=((i - 1:Nat):Int):=by omega
theorem cl6 {se:Int→Option Int} (hz:Zk z) (hr:ranges z=true) (hk:k<5) (hl:lst z k=l):∀ (m n i:Nat),i+m=l.length→m<n→zKv z k none l=zKv z k (zLq l i) (l.drop i) →
  zGW se z (k:Int) n (i:Int)=if zKv z k none l=0 then se ((k+1:Nat):Int) else some (zKv z k none l):=by
 have hb:l.length≤1000000:=by rw [← hl]; exact hz.bd k
 have e:z.free.getD (k:Int).toNat []=l:=hl
 intro m
 induction m with
 | zero =>
  intro n i h1 h2 hI
  obtain ⟨n,rfl⟩:=ex1 ‹_<n›
  show zEF _ _ _ _ _=_
  unfold zEF zH2
  rw [e,zAB (df (by omega)),zf (zAE (by omega)),if_pos (zQ6 hI (by omega))]
  rfl
 | succ m ih =>
  intro n i h1 h2 hI
  obtain ⟨n,rfl⟩:=ex1 ‹_<n›
  have hi:i<l.length:=by omega
  have hx:=zRX hi
  show zEF _ _ _ _ _=_
  unfold zEF
  rw [e,zAN (dt (by omega)),zf (zAK hi),zKO hr (by omega),zBt]
  generalize at_ l (i:Int)=x at *
  cases hin:inside z x k with
  | false =>
   rw [Bool.not_false,zAN rfl,zPm hI hx hin]
   rfl
  | true =>
   rw [Bool.not_true,zAB rfl]
   by_cases h0:0<i
   ·rw [zf (zNo (zAE (by omega))),zP6 h0,zf (zNo (zAK (by omega))),dt (p:=0<(i:Int)) (by omega),Bool.true_and]
    have hy:=zRX (l:=l) (i:=i - 1) (by omega)
    have hg:geP (zLq l i) x=decide (x≤at_ l ((i - 1:Nat):Int)):=zXJ h0 (by rw [zP6 h0,Int.toNat_natCast]; exact hy)
    by_cases hle:x≤at_ l ((i - 1:Nat):Int)
    ·rw [zAN (dt hle),zOe hI hx hin (by rw [hg,dt hle])]
     rfl
    ·rw [zAB (df hle),zf (zAE (by omega))]
     exact ih n (i+1) (by omega) (by omega) (zMg hI hx hin (by rw [hg,df hle]))
   ·rw [df (p:=0<(i:Int)) (by omega)]
    refine (zf (by rfl)).trans ((zf (by rfl)).trans ((zAB (by rfl)).trans ?_))
    rw [zf (zAE (by omega))]
    exact ih n (i+1) (by omega) (by omega) (zMg hI hx hin (zXI h0))
theorem cl5 (hz:Zk z) (hr:ranges z=true):∀ (m n k:Nat),k+m=5→m<n→zFA z 0 z.free=zFA z k (z.free.drop k) →
  zCp z n (k:Int)=if zFA z 0 z.free=0 then zGF z else some (zFA z 0 z.free):=by
 intro m
 induction m with
 | zero =>
  intro n k h1 h2 hR
  obtain ⟨n,rfl⟩:=ex1 ‹_<n›
  show zD7 _ _ _=_
  unfold zD7
  rw [zAB (df (by omega)),if_pos (zQE hR (by rw [hz.len]; omega))]
 | succ m ih =>
  intro n k h1 h2 hR
  obtain ⟨n,rfl⟩:=ex1 ‹_<n›
  show zD7 _ _ _=_
  unfold zD7
  have hb:=hz.bd k
  have hg:=hz.get (k:=k) (by omega)
  rw [zAN (dt (by omega)),zf (zAK (by omega)),z0i,cl6 hz hr (by omega) rfl (lst z k).length zAF 0 (by omega) (by unfold zAF; omega) rfl]
  by_cases h0:zKv z k none (lst z k)=0
  ·rw [if_pos h0]
   exact ih n (k+1) (by omega) (by omega) (zOy hR hg h0)
  ·rw [if_neg h0]
   have hc:zFA z 0 z.free=zKv z k none (lst z k):=by
    obtain ⟨a1,a2⟩:=List.getElem?_eq_some_iff.1 hg
    rw [hR,List.drop_eq_getElem_cons a1,a2]
    unfold zFA
    rw [if_neg h0]
   rw [if_neg (by rw [hc]; exact h0),hc]
theorem zWU {l:List Bool} {n i:Nat} (hl:l.length=n) (hi:i<n) (x:Bool):zDc n false l i x=l.set i x:=by
 unfold zDc
 apply List.ext_getElem?
 intro j
 rw [List.getElem?_map,List.getElem?_set]
 by_cases hj:j<n
 ·rw [List.getElem?_range hj]
  by_cases hij:i=j
  ·subst hij
   rw [if_pos rfl,if_pos (by omega)]
   simp
  ·rw [if_neg hij,List.getElem?_eq_getElem (by omega)]
   simp [show ¬ j=i from fun e=>hij e.symm,List.getElem?_eq_getElem (show j<l.length by omega)]
 ·rw [List.getElem?_eq_none (by simp; omega)]
  by_cases hij:i=j
  ·omega
  ·rw [if_neg hij,List.getElem?_eq_none (by omega)]
   rfl
theorem zNw:∀ {m f:Nat} {d d':List Bool},zM0 d f m=some d'→d'.length=d.length
 | 0,_,_,_,h=>by unfold zM0 at h; cases h; rfl
 | m+1,f,d,d',h=>by
  unfold zM0 at h
  split at h
  ·cases h
  ·rw [zNw h,List.length_set]
theorem cl4 {se:Int→List Bool→Option Int} {i:Nat} {x:Int} (hk:k<5) (hx:at_ (lst z k) (i:Int)=x) (h0:0≤x) (h1:x+2 ^ k≤256) (hi:i<1000000):∀ (m n f:Nat) (d:List Bool),(f:Int)+m=x+2 ^ k→m<n→d.length=256 →
  zGY se z (k:Int) (i:Int) n (f:Int) d=match zM0 d f m with | none=>some 7 | some d'=>se ((i+1:Nat):Int) d':=by
 obtain ⟨e,p1,p2⟩:=zKR (k:=k) (by omega)
 have ex:at_ (z.free.getD (k:Int).toNat []) (i:Int)=x:=hx
 intro m
 induction m with
 | zero =>
  intro n f d h2 h3 h4
  obtain ⟨n,rfl⟩:=ex1 ‹_<n›
  show zEB _ _ _ _ _ _ _=_
  unfold zEB zH8
  rw [e,ex,zf (zOR (by omega)),zf (zAE (by omega)),zf (zAE (by omega)),zAB (df (by omega)),zf (zAE (by omega))]
  rfl
 | succ m ih =>
  intro n f d h2 h3 h4
  obtain ⟨n,rfl⟩:=ex1 ‹_<n›
  show zEB _ _ _ _ _ _ _=_
  unfold zEB
  rw [e,ex,zf (zOR (by omega)),zf (zAE (by omega)),zf (zAE (by omega)),zAN (dt (by omega)),zf (zAK (by omega))]
  have ed:d.getD (f:Int).toNat false=d.getD f false:=rfl
  unfold zM0
  cases hd:d.getD f false with
  | true=>rw [ed,hd,zAN rfl,if_pos rfl]
  | false =>
   rw [ed,hd,zAB rfl,if_neg (by simp),zf (zAE (by omega)),zWU h4 (by omega)]
   exact ih n (f+1) (d.set f true) (by omega) (by omega) (by rw [List.length_set]; exact h4)
theorem cl3 {se:Int→List Bool→Option Int} (hz:Zk z) (hr:ranges z=true) (hk:k<5) (hl:lst z k=l) (hin:∀ f,f∈l→inside z f k=true):∀ (m n i:Nat) (d:List Bool),i+m=l.length→m<n→d.length=256 →
  zB5 se z (k:Int) n (i:Int) d=match zM8 k d (l.drop i) with | none=>some 7 | some d'=>se ((k+1:Nat):Int) d':=by
 have hb:l.length≤1000000:=by rw [← hl]; exact hz.bd k
 have e:z.free.getD (k:Int).toNat []=l:=hl
 obtain ⟨e2,p1,p2⟩:=zKR (k:=k) (by omega)
 have pn:=zNU (k:=k) (by omega)
 intro m
 induction m with
 | zero =>
  intro n i d h1 h2 h3
  obtain ⟨n,rfl⟩:=ex1 ‹_<n›
  show zEL _ _ _ _ _ _=_
  unfold zEL zHy
  rw [e,zAB (df (by omega)),zf (zAE (by omega)),List.drop_eq_nil_of_le (by omega)]
  rfl
 | succ m ih =>
  intro n i d h1 h2 h3
  obtain ⟨n,rfl⟩:=ex1 ‹_<n›
  have hi:i<l.length:=by omega
  show zEL _ _ _ _ _ _=_
  unfold zEL
  have hbd:=zAW hr (hin _ (List.getElem_mem hi))
  have ha:at_ (lst z k) (i:Int)=l[i]:=by rw [hl]; exact zHL hi
  obtain ⟨f,hf⟩:=Int.eq_ofNat_of_zero_le hbd.1
  rw [e,zAN (dt (by omega)),zf (zAK hi),zHL hi,List.drop_eq_getElem_cons hi]
  have hc:=cl4 (se:=zB5 se z (k:Int) n) hk ha hbd.1 hbd.2.1 (by omega) (2 ^ k) zAF f d (by omega) (by unfold zAF; omega) h3
  unfold zM8
  rw [hf,hc,show ((f:Int)).toNat=f from rfl]
  cases hm:zM0 d f (2 ^ k) with
  | none=>rfl
  | some d'=>exact ih n (i+1) d' (by omega) (by omega) (by rw [zNw hm]; exact h3)
theorem zP1:∀ {l:List Int} {k:Nat} {d d':List Bool},zM8 k d l=some d'→d'.length=d.length
 | [],_,_,_,h=>by unfold zM8 at h; cases h; rfl
 | x::l,k,d,d',h=>by
  unfold zM8 at h
  split at h
  ·cases h
  ·rename_i q hq
   rw [zP1 h,zNw hq]
theorem cl2 (hz:Zk z) (hr:ranges z=true) (hin:∀ k,k<5 → ∀ f,f∈lst z k→inside z f k=true):∀ (m n k:Nat) (d:List Bool),k+m=5→m<n→d.length=256 →
  zBM z n (k:Int) d=match zIn k d (z.free.drop k) with | none=>some 7 | some _=>zDv z:=by
 intro m
 induction m with
 | zero =>
  intro n k d h1 h2 h3
  obtain ⟨n,rfl⟩:=ex1 ‹_<n›
  show zD2 _ _ _ _=_
  unfold zD2
  rw [zAB (df (by omega)),List.drop_eq_nil_of_le (by rw [hz.len]; omega)]
  rfl
 | succ m ih =>
  intro n k d h1 h2 h3
  obtain ⟨n,rfl⟩:=ex1 ‹_<n›
  show zD2 _ _ _ _=_
  unfold zD2
  have hb:=hz.bd k
  obtain ⟨a1,a2⟩:=List.getElem?_eq_some_iff.1 (hz.get (k:=k) (by omega))
  rw [zAN (dt (by omega)),zf (zAK (by omega)),z0i,cl3 hz hr (by omega) rfl (hin k (by omega)) (lst z k).length zAF 0 d (by omega) (by unfold zAF; omega) h3,List.drop_eq_getElem_cons a1,a2]
  conv=>rhs; unfold zIn
  rw [List.drop_zero]
  cases hm:zM8 k d (lst z k) with
  | none=>rfl
  | some d'=>exact ih n (k+1) d' (by omega) (by omega) (by rw [zP1 hm]; exact h3)
theorem cl1 {se:Int→Option Int} (hz:Zk z) (hr:ranges z=true) (hk:k<4) (hl:lst z k=l) (hin:∀ f,f∈l→inside z f k=true) (hs:Srt l):∀ (m n i:Nat),i+m=l.length→m<n →
  zGZ se z (k:Int) n (i:Int)=if zQs z k l (l.drop i)=true then some 11 else se ((k+1:Nat):Int):=by
 have hb:l.length≤1000000:=by rw [← hl]; exact hz.bd k
 have e:z.free.getD (k:Int).toNat []=l:=hl
 obtain ⟨e2,p1,p2⟩:=zKR (k:=k) (by omega)
 intro m
 induction m with
 | zero =>
  intro n i h1 h2
  obtain ⟨n,rfl⟩:=ex1 ‹_<n›
  show zDx _ _ _ _ _=_
  unfold zDx zH3
  rw [e,zAB (df (by omega)),zf (zAE (by omega)),List.drop_eq_nil_of_le (by omega)]
  rfl
 | succ m ih =>
  intro n i h1 h2
  obtain ⟨n,rfl⟩:=ex1 ‹_<n›
  have hi:i<l.length:=by omega
  show zDx _ _ _ _ _=_
  unfold zDx
  have hbd:=zAW hr (hin _ (List.getElem_mem hi))
  rw [e,e2,zAN (dt (by omega)),zf (zAK hi),zf (zOR (by omega)),zf (zAE (by omega)),zf (zAK (by omega)),zHL hi,List.drop_eq_getElem_cons hi,zUn hbd.1 (by omega) hk,zQr hs hb,zBt,zf (zNo (zAE (by omega)))]
  conv=>rhs; unfold zQs
  show ((cnd (decide (bud l[i] k∈l)) _ _).bind _)=_
  have hie:zBm z (min l[i] (bud l[i] k)) ((k:Int)+1)=some (inside z (min l[i] (bud l[i] k)) (k+1)):=zKO (k:=k+1) hr (by omega)
  rw [hie,zf (zAE (by omega))]
  cases hm:decide (bud l[i] k∈l) with
  | false =>
   rw [zAB rfl,zBt,Bool.false_and,Bool.false_and,if_neg Bool.false_ne_true]
   exact ih n (i+1) (by omega) (by omega)
  | true =>
   rw [zAN rfl,zBt]
   cases hq:inside z (min l[i] (bud l[i] k)) (k+1) with
   | false =>
    rw [Bool.and_false,if_neg Bool.false_ne_true]
    exact ih n (i+1) (by omega) (by omega)
   | true=>rfl
theorem cl0 (hz:Zk z) (hr:ranges z=true) (hin:∀ k,k<5 → ∀ f,f∈lst z k→inside z f k=true) (hs:∀ k,Srt (lst z k)):∀ (m n k:Nat),k+m=4→m<n →
  zCk z n (k:Int)=if zMz z k ((z.free.take 4).drop k)=true then some 11 else some 0:=by
 intro m
 induction m with
 | zero =>
  intro n k h1 h2
  obtain ⟨n,rfl⟩:=ex1 ‹_<n›
  show zD6 _ _ _=_
  unfold zD6
  rw [zAB (df (by omega)),List.drop_eq_nil_of_le (by rw [List.length_take,hz.len]; omega)]
  rfl
 | succ m ih =>
  intro n k h1 h2
  obtain ⟨n,rfl⟩:=ex1 ‹_<n›
  show zD6 _ _ _=_
  unfold zD6
  have hb:=hz.bd k
  obtain ⟨a1,a2⟩:=List.getElem?_eq_some_iff.1 (zMZ (hz.get (k:=k) (by omega)) (show k<4 by omega))
  rw [zAN (dt (by omega)),zf (zAK (by omega)),z0i,cl1 hz hr (by omega) rfl (hin k (by omega)) (hs k) (lst z k).length zAF 0 (by omega) (by unfold zAF; omega),List.drop_eq_getElem_cons a1,a2]
  conv=>rhs; unfold zMz
  rw [List.drop_zero]
  by_cases hq:zQs z k (lst z k) (lst z k)=true
  ·rw [if_pos hq,if_pos hq,if_pos rfl]
  ·rw [if_neg hq,if_neg hq]
   exact ih n (k+1) (by omega) (by omega)
theorem zNe (hz:Zk z) (h:zFA z 0 z.free=0) (k:Nat):(∀ f,f∈lst z k→inside z f k=true)∧Srt (lst z k):=by
 rcases Nat.lt_or_ge k 5 with hk | hk
 ·have:=zT6 h k _ (hz.get hk)
  rwa [Nat.zero_add] at this
 ·rw [zML hz.len hk]
  exact ⟨fun f hf=>absurd hf (by simp),Srt.nil⟩
theorem zQA (hz:Zk z) (hI:inI z.start=true):zDP z=some (zDu z):=by
 unfold zDP zDu
 rw [zTW _ hI,zBt]
 cases hr:ranges z with
 | false=>rfl
 | true =>
  rw [Bool.not_true,zAB rfl,if_neg (by simp),z0i,cl5 hz hr 5 zAF 0 (by omega) (by unfold zAF; omega) rfl]
  show (if zFA z 0 z.free=0 then _ else _)=some (if zFA z 0 z.free=0 then _ else _)
  by_cases h0:zFA z 0 z.free=0
  ·rw [if_pos h0,if_pos h0]
   have hl:=fun k=>zNe hz h0 k
   unfold zGF
   rw [z0i,cl2 hz hr (fun k _=>(hl k).1) 5 zAF 0 _ (by omega) (by unfold zAF; omega) (by rw [List.length_replicate]),List.drop_zero]
   show (match zIn 0 zEw z.free with | none=>some 7 | some _=>zDv z)=_
   cases hm:zIn 0 zEw z.free with
   | none=>rfl
   | some d =>
    rw [if_neg (by simp)]
    show zDv z=_
    unfold zDv
    rw [z0i,cl0 hz hr (fun k _=>(hl k).1) (fun k=>(hl k).2) 4 zAF 0 (by omega) (by unfold zAF; omega),List.drop_zero]
    split <;> rfl
  ·rw [if_neg h0,if_neg h0]
end
end Go.Proofs.YtplkliakhdkpcaaGreat
namespace Go.Proofs.YtplkliakhdkpcaaGreat
open Go Go.RowKit Go.Wk Go.Am
section
variable {z:zi} {k:Nat} {l:List Int}
theorem zK2 {f:Int} (hr:ranges z=true) (hk:k≤4):zBu z f (k:Int)=some (inside z f k):=by
 have hb:=zBR hr
 have hp:=zJQ k
 by_cases h:z.start≤f∧f<z.start+z.count
 ·exact zRi hr hk h.1 h.2
 ·have hin:inside z f k=false:=by
   refine Bool.eq_false_iff.2 fun hi=>h ?_
   have:=zAW hr hi
   omega
  rw [hin]
  unfold zBu
  rw [zf (zNo (zAE (by omega)))]
  refine zAN ?_
  rw [df (p:=(k:Int)<0) (by omega),df (p:=4<(k:Int)) (by omega)]
  by_cases h1:f<z.start
  ·rw [dt h1]; rfl
  ·rw [df h1,dt (p:=z.start+z.count≤f) (by omega)]; rfl
theorem rl6 {se:Int→Option Int} (hz:Zk z) (hr:ranges z=true) (hk:k<5) (hl:lst z k=l):∀ (m n i:Nat),i+m=l.length→m<n→zKv z k none l=zKv z k (zLq l i) (l.drop i) →
  zDq se z (k:Int) n (i:Int)=if zKv z k none l=0 then se ((k+1:Nat):Int) else some (zKv z k none l):=by
 have hb:l.length≤1000000:=by rw [← hl]; exact hz.bd k
 have e:z.free.getD (k:Int).toNat []=l:=hl
 intro m
 induction m with
 | zero =>
  intro n i h1 h2 hI
  obtain ⟨n,rfl⟩:=ex1 ‹_<n›
  show zCM _ _ _ _ _=_
  unfold zCM zFO
  rw [e,zf (zAK (by omega)),zAB (df (by omega)),zf (zAE (by omega)),if_pos (zQ6 hI (by omega))]
  rfl
 | succ m ih =>
  intro n i h1 h2 hI
  obtain ⟨n,rfl⟩:=ex1 ‹_<n›
  have hi:i<l.length:=by omega
  have hx:=zRX hi
  show zCM _ _ _ _ _=_
  unfold zCM
  rw [e,zf (zAK (by omega)),zAN (dt (by omega)),zf (zAK hi),zK2 hr (by omega),zBt]
  generalize at_ l (i:Int)=x at *
  cases hin:inside z x k with
  | false =>
   rw [Bool.not_false,zAN rfl,zPm hI hx hin]
   rfl
  | true =>
   rw [Bool.not_true,zAB rfl]
   by_cases h0:0<i
   ·rw [zf (zNo (zAE (by omega))),zP6 h0,zf (zNo (zAK (by omega))),dt (p:=0<(i:Int)) (by omega),Bool.true_and]
    have hy:=zRX (l:=l) (i:=i - 1) (by omega)
    have hg:geP (zLq l i) x=decide (x≤at_ l ((i - 1:Nat):Int)):=zXJ h0 (by rw [zP6 h0,Int.toNat_natCast]; exact hy)
    by_cases hle:x≤at_ l ((i - 1:Nat):Int)
    ·rw [zAN (dt hle),zOe hI hx hin (by rw [hg,dt hle])]
     rfl
    ·rw [zAB (df hle),zf (zAE (by omega))]
     exact ih n (i+1) (by omega) (by omega) (zMg hI hx hin (by rw [hg,df hle]))
   ·rw [df (p:=0<(i:Int)) (by omega)]
    refine (zf (by rfl)).trans ((zf (by rfl)).trans ((zAB (by rfl)).trans ?_))
    rw [zf (zAE (by omega))]
    exact ih n (i+1) (by omega) (by omega) (zMg hI hx hin (zXI h0))
theorem rl5 (hz:Zk z) (hr:ranges z=true):∀ (m n k:Nat),k+m=5→m<n→zFA z 0 z.free=zFA z k (z.free.drop k) →
  zBU z n (k:Int)=some (zFA z 0 z.free):=by
 intro m
 induction m with
 | zero =>
  intro n k h1 h2 hR
  obtain ⟨n,rfl⟩:=ex1 ‹_<n›
  show zCF _ _ _=_
  unfold zCF
  rw [zAB (df (by omega)),zQE hR (by rw [hz.len]; omega)]
  rfl
 | succ m ih =>
  intro n k h1 h2 hR
  obtain ⟨n,rfl⟩:=ex1 ‹_<n›
  show zCF _ _ _=_
  unfold zCF
  have hb:=hz.bd k
  have hg:=hz.get (k:=k) (by omega)
  rw [zAN (dt (by omega)),z0i,rl6 hz hr (by omega) rfl (lst z k).length zAF 0 (by omega) (by unfold zAF; omega) rfl]
  by_cases h0:zKv z k none (lst z k)=0
  ·rw [if_pos h0]
   exact ih n (k+1) (by omega) (by omega) (zOy hR hg h0)
  ·rw [if_neg h0]
   have hc:zFA z 0 z.free=zKv z k none (lst z k):=by
    obtain ⟨a1,a2⟩:=List.getElem?_eq_some_iff.1 hg
    rw [hR,List.drop_eq_getElem_cons a1,a2]
    unfold zFA
    rw [if_neg h0]
   rw [hc]
def zJ6 (s:List Int) (i:Nat):Nat→List Int
 | 0=>s
 | n+1=>zJ6 (s.set i (s.getD i 0+1)) (i+1) n
def zIU (k:Nat):List Int→List Int→List Int
 | s,[]=>s
 | s,f::r=>zIU k (zJ6 s f.toNat (2 ^ k)) r
def zHg:Nat→List Int→List (List Int)→List Int
 | _,s,[]=>s
 | k,s,l::r=>zHg (k+1) (zIU k s l) r
def zOY (z:zi):List Int:=zHg 0 (List.replicate 256 0) z.free
theorem zLd:∀ (m i:Nat) (s:List Int),(zJ6 s i m).length=s.length
 | 0,_,_=>rfl
 | m+1,i,s=>by unfold zJ6; rw [zLd,List.length_set]
theorem zI7:∀ (l:List Int) (k:Nat) (s:List Int),(zIU k s l).length=s.length
 | [],_,_=>rfl
 | x::l,k,s=>by unfold zIU; rw [zI7 l,zLd]
theorem zUh (l:List Int) (i g:Nat) (h:i<l.length) (x:Int):(l.set i x).getD g 0=if g=i then x else l.getD g 0:=by
 simp only [List.getD_eq_getElem?_getD,List.getElem?_set]
 by_cases hg:i=g
 ·rw [if_pos hg,if_pos h,if_pos hg.symm]; rfl
 ·rw [if_neg hg,if_neg (fun e=>hg e.symm)]
theorem zLM:∀ (m i:Nat) (s:List Int) (g:Nat),i+m≤s.length→(zJ6 s i m).getD g 0=if i≤g∧g<i+m then s.getD g 0+1 else s.getD g 0
 | 0,i,s,g,_=>by rw [if_neg (by omega)]; rfl
 | m+1,i,s,g,h=>by
  unfold zJ6
  rw [zLM m (i+1) _ g (by rw [List.length_set]; omega),zUh s i g (by omega)]
  by_cases h2:g=i
  ·subst h2
   rw [if_neg (by omega),if_pos rfl,if_pos (by omega)]
  ·rw [if_neg h2]
   by_cases h1:i+1≤g∧g<i+1+m
   ·rw [if_pos h1,if_pos (by omega)]
   ·rw [if_neg h1,if_neg (by omega)]
theorem sl2 {se:Int→List Int→Option (List Int)} {i:Nat} {x:Int} (hk:k<5) (hx:at_ (lst z k) (i:Int)=x) (hil:i<(lst z k).length) (h0:0≤x) (h1:x+2 ^ k≤256) (hi:i<1000000):∀ (m n f:Nat) (s:List Int),(f:Int)+m=x+2 ^ k→m<n→s.length=256→(∀ g,f≤g→0≤s.getD g 0∧s.getD g 0≤1000000000) →
  zIO se z (k:Int) (i:Int) n (f:Int) s=se ((i+1:Nat):Int) (zJ6 s f m):=by
 obtain ⟨e,p1,p2⟩:=zKR (k:=k) (by omega)
 have ex:at_ (z.free.getD (k:Int).toNat []) (i:Int)=x:=hx
 have el:i<(z.free.getD (k:Int).toNat []).length:=hil
 intro m
 induction m with
 | zero =>
  intro n f s h2 h3 h4 h5
  obtain ⟨n,rfl⟩:=ex1 ‹_<n›
  show zFk _ _ _ _ _ _ _=_
  unfold zFk zJT
  rw [e,ex,zf (zAK (by omega)),zf (zAK el),zf (dt (zIm (by omega) (by omega))),zf (zOR (by omega)),zf (zAE (by omega)),zf (zAE (by omega)),zAB (df (by omega)),zf (zAE (by omega))]
  rfl
 | succ m ih =>
  intro n f s h2 h3 h4 h5
  obtain ⟨n,rfl⟩:=ex1 ‹_<n›
  show zFk _ _ _ _ _ _ _=_
  unfold zFk
  have hf:f<s.length:=by omega
  have ea:at_ s (f:Int)=s.getD f 0:=by rw [zHL hf,List.getD_eq_getElem?_getD,List.getElem?_eq_getElem hf]; rfl
  have hb:=h5 f (Nat.le_refl _)
  rw [e,ex,zf (zAK (by omega)),zf (zAK el),zf (dt (zIm (by omega) (by omega))),zf (zOR (by omega)),zf (zAE (by omega)),zf (zAE (by omega)),zAN (dt (by omega)),zf (zAK hf),ea,zf (zAE (by omega)),zf (zAE (by omega))]
  exact ih n (f+1) (s.set f (s.getD f 0+1)) (by omega) (by omega) (by rw [List.length_set]; exact h4) (fun g hg=>by
   rw [zUh s f g hf,if_neg (by omega)]
   exact h5 g (by omega))
theorem sl1 {se:Int→List Int→Option (List Int)} (hz:Zk z) (hr:ranges z=true) (hk:k<5) (hl:lst z k=l) (hin:∀ f,f∈l→inside z f k=true):∀ (m n i c:Nat) (s:List Int),i+m=l.length→m<n→s.length=256→(∀ g,0≤s.getD g 0∧s.getD g 0≤c)→c+m≤1000000000 →
  zDC se z (k:Int) n (i:Int) s=se ((k+1:Nat):Int) (zIU k s (l.drop i)) ∧ ∀ g,0≤(zIU k s (l.drop i)).getD g 0∧(zIU k s (l.drop i)).getD g 0≤((c+m:Nat):Int):=by
 have hb:l.length≤1000000:=by rw [← hl]; exact hz.bd k
 have e:z.free.getD (k:Int).toNat []=l:=hl
 obtain ⟨e2,p1,p2⟩:=zKR (k:=k) (by omega)
 have pn:=zNU (k:=k) (by omega)
 intro m
 induction m with
 | zero =>
  intro n i c s h1 h2 h3 h4 h5
  obtain ⟨n,rfl⟩:=ex1 ‹_<n›
  rw [List.drop_eq_nil_of_le (by omega)]
  refine ⟨?_,h4⟩
  show zFs _ _ _ _ _ _=_
  unfold zFs zJX
  rw [e,zf (zAK (by omega)),zAB (df (by omega)),zf (zAE (by omega))]
  rfl
 | succ m ih =>
  intro n i c s h1 h2 h3 h4 h5
  obtain ⟨n,rfl⟩:=ex1 ‹_<n›
  have hi:i<l.length:=by omega
  have hbd:=zAW hr (hin _ (List.getElem_mem hi))
  have ha:at_ (lst z k) (i:Int)=l[i]:=by rw [hl]; exact zHL hi
  obtain ⟨f,hf⟩:=Int.eq_ofNat_of_zero_le hbd.1
  rw [List.drop_eq_getElem_cons hi]
  have hbump:zIU k s (l[i]::l.drop (i+1))=zIU k (zJ6 s f (2 ^ k)) (l.drop (i+1)):=by
   show zIU k (zJ6 s l[i].toNat (2 ^ k)) (l.drop (i+1))=_
   rw [hf]
   rfl
  rw [hbump]
  have hg:∀ g,0≤(zJ6 s f (2 ^ k)).getD g 0∧(zJ6 s f (2 ^ k)).getD g 0≤((c+1:Nat):Int):=fun g=>by
   rw [zLM _ _ _ _ (by omega)]
   have:=h4 g
   split <;> omega
  obtain ⟨r1,r2⟩:=ih n (i+1) (c+1) (zJ6 s f (2 ^ k)) (by omega) (by omega) (by rw [zLd]; exact h3) hg (by omega)
  refine ⟨?_,fun g=>by have:=r2 g; omega⟩
  rw [← r1]
  show zFs _ _ _ _ _ _=_
  unfold zFs
  rw [e,zf (zAK (by omega)),zAN (dt (by omega)),zf (zAK hi),zHL hi]
  have hc:=sl2 (se:=zDC se z (k:Int) n) hk ha (by rw [hl]; exact hi) hbd.1 hbd.2.1 (by omega) (2 ^ k) zAF f s (by omega) (by unfold zAF; omega) h3 (fun g _=>by have:=h4 g; omega)
  rw [← hf] at hc
  exact hc
theorem sl0 (hz:Zk z) (hr:ranges z=true) (hin:∀ k,k<5 → ∀ f,f∈lst z k→inside z f k=true):∀ (m n k c:Nat) (s:List Int),k+m=5→m<n→s.length=256→(∀ g,0≤s.getD g 0∧s.getD g 0≤c)→c+m*1000000≤1000000000 →
  zBk z n (k:Int) s=some (zHg k s (z.free.drop k)):=by
 intro m
 induction m with
 | zero =>
  intro n k c s h1 h2 h3 h4 h5
  obtain ⟨n,rfl⟩:=ex1 ‹_<n›
  show zFd _ _ _ _=_
  unfold zFd
  rw [zAB (df (by omega)),List.drop_eq_nil_of_le (by rw [hz.len]; omega)]
  rfl
 | succ m ih =>
  intro n k c s h1 h2 h3 h4 h5
  obtain ⟨n,rfl⟩:=ex1 ‹_<n›
  have hb:=hz.bd k
  obtain ⟨a1,a2⟩:=List.getElem?_eq_some_iff.1 (hz.get (k:=k) (by omega))
  obtain ⟨r1,r2⟩:=sl1 (se:=zBk z n) hz hr (by omega) rfl (hin k (by omega)) (lst z k).length zAF 0 c s (by omega) (by unfold zAF; omega) h3 h4 (by omega)
  rw [List.drop_zero] at r1 r2
  show zFd _ _ _ _=_
  unfold zFd
  rw [zAN (dt (by omega)),z0i,r1,List.drop_eq_getElem_cons a1,a2]
  exact ih n (k+1) (c+(lst z k).length) _ (by omega) (by omega) (by rw [zI7]; exact h3) r2 (by omega)
theorem zRH (hz:Zk z) (hr:ranges z=true) (hin:∀ k,k<5 → ∀ f,f∈lst z k→inside z f k=true):zHS z=some (zOY z):=by
 unfold zHS
 rw [zf (by rfl),z0i]
 exact sl0 hz hr hin 5 zAF 0 0 _ (by omega) (by unfold zAF; omega) (by rw [List.length_replicate]; rfl) (fun g=>by
  rw [List.getD_eq_getElem?_getD,List.getElem?_replicate]
  split <;> simp) (by omega)
end
end Go.Proofs.YtplkliakhdkpcaaGreat
namespace Go.Proofs.YtplkliakhdkpcaaGreat
open Go Go.RowKit Go.Wk Go.Am
theorem zCC {α:Type} (l:List α) (i g:Nat) (h:i<l.length) (x d:α):(l.set i x).getD g d=if g=i then x else l.getD g d:=by
 simp only [List.getD_eq_getElem?_getD,List.getElem?_set]
 by_cases hg:i=g
 ·rw [if_pos hg,if_pos h,if_pos hg.symm]; rfl
 ·rw [if_neg hg,if_neg (fun e=>hg e.symm)]
structure MB (d:List Bool) (s:List Int):Prop where
 dl:d.length=256
 sl:s.length=256
 t:∀ g,d.getD g false=true→s.getD g 0=1
 f:∀ g,d.getD g false=false→s.getD g 0=0
section
variable {z:zi} {k:Nat} {l:List Int}
theorem zNc:∀ (m i:Nat) (s:List Int) (g:Nat),s.getD g 0≤(zJ6 s i m).getD g 0
 | 0,_,_,_=>Int.le_refl _
 | m+1,i,s,g=>by
  unfold zJ6
  refine Int.le_trans ?_ (zNc m (i+1) _ g)
  rcases Nat.lt_or_ge i s.length with h | h
  ·rw [zUh s i g h]
   split
   ·rename_i e; rw [e]; omega
   ·omega
  ·rw [List.set_eq_of_length_le h]
   omega
theorem zKa:∀ (l:List Int) (k:Nat) (s:List Int) (g:Nat),s.getD g 0≤(zIU k s l).getD g 0
 | [],_,_,_=>Int.le_refl _
 | x::l,k,s,g=>by
  unfold zIU
  exact Int.le_trans (zNc _ _ _ _) (zKa l k _ g)
theorem zOF:∀ (ls:List (List Int)) (k:Nat) (s:List Int) (g:Nat),s.getD g 0≤(zHg k s ls).getD g 0
 | [],_,_,_=>Int.le_refl _
 | l::ls,k,s,g=>by
  unfold zHg
  exact Int.le_trans (zKa l k s g) (zOF ls (k+1) _ g)
theorem zXs:∀ (m f:Nat) {d:List Bool} {s:List Int},MB d s→f+m≤256→match zM0 d f m with | some d'=>MB d' (zJ6 s f m) | none => ∃ g,1<(zJ6 s f m).getD g 0
 | 0,_,_,_,h,_=>h
 | m+1,f,d,s,h,hm=>by
  unfold zM0
  cases hd:d.getD f false with
  | true =>
   rw [if_pos rfl]
   refine ⟨f,?_⟩
   rw [zLM _ _ _ _ (by rw [h.sl]; exact hm),if_pos (by omega),h.t f hd]
   decide
  | false =>
   rw [if_neg (by simp)]
   unfold zJ6
   have hs:=h.sl
   have hl:=h.dl
   refine zXs m (f+1) ⟨by rw [List.length_set]; exact hl,by rw [List.length_set]; exact hs,fun g hg => ?_,fun g hg => ?_⟩ (by omega)
   ·rw [zUh s f g (by omega)]
    rw [zCC d f g (by omega)] at hg
    by_cases e:g=f
    ·rw [if_pos e,h.f f hd]; rfl
    ·rw [if_neg e]
     rw [if_neg e] at hg
     exact h.t g hg
   ·rw [zCC d f g (by omega)] at hg
    by_cases e:g=f
    ·rw [if_pos e] at hg; cases hg
    ·rw [if_neg e] at hg
     rw [zUh s f g (by omega),if_neg e]
     exact h.f g hg
theorem zXr (hr:ranges z=true):∀ (l:List Int) {d:List Bool} {s:List Int},(∀ f,f∈l→inside z f k=true)→k<5→MB d s→match zM8 k d l with | some d'=>MB d' (zIU k s l) | none => ∃ g,1<(zIU k s l).getD g 0
 | [],_,_,_,_,h=>h
 | x::l,d,s,hin,hk,h=>by
  have hbd:=zAW hr (hin x (by simp))
  have pn:=zNU (k:=k) (by omega)
  have hn:=zXs (2 ^ k) x.toNat h (by omega)
  unfold zM8 zIU
  cases hm:zM0 d x.toNat (2 ^ k) with
  | none =>
   rw [hm] at hn
   obtain ⟨g,hg⟩:=hn
   exact ⟨g,by have:=zKa l k (zJ6 s x.toNat (2 ^ k)) g; omega⟩
  | some d' =>
   rw [hm] at hn
   exact zXr hr l (fun f hf=>hin f (by simp [hf])) hk hn
theorem zW2 (hr:ranges z=true):∀ (ls:List (List Int)) (k:Nat) {d:List Bool} {s:List Int},k+ls.length=5→(∀ j l,ls[j]?=some l → ∀ f,f∈l→inside z f (k+j)=true)→MB d s→match zIn k d ls with | some d'=>MB d' (zHg k s ls) | none => ∃ g,1<(zHg k s ls).getD g 0
 | [],_,_,_,_,_,h=>h
 | l::ls,k,d,s,hk,hin,h=>by
  have hk':k+(ls.length+1)=5:=hk
  have hn:=zXr hr l (d:=d) (s:=s) (fun f hf=>by have:=hin 0 l rfl f hf; rwa [Nat.add_zero] at this) (by omega) h
  unfold zIn zHg
  cases hm:zM8 k d l with
  | none =>
   rw [hm] at hn
   obtain ⟨g,hg⟩:=hn
   exact ⟨g,by have:=zOF ls (k+1) (zIU k s l) g; omega⟩
  | some d' =>
   rw [hm] at hn
   exact zW2 hr ls (k+1) (by omega) (fun j l' hj f hf=>by
    have:=hin (j+1) l' hj f hf
    rwa [show k+(j+1)=k+1+j by omega] at this) hn
theorem mb0:MB zEw (List.replicate 256 0):=⟨zJO,by rw [List.length_replicate],fun g hg=>by
  unfold zEw at hg
  rw [List.getD_eq_getElem?_getD,List.getElem?_replicate] at hg
  split at hg <;> simp at hg,fun g _=>by
  rw [List.getD_eq_getElem?_getD,List.getElem?_replicate]
  split <;> rfl⟩
theorem zXv (hz:Zk z) (hr:ranges z=true) (hin:∀ k,k<5 → ∀ f,f∈lst z k→inside z f k=true):match zIn 0 zEw z.free with | some d=>MB d (zOY z) | none => ∃ g,1<(zOY z).getD g 0 :=
 zW2 hr z.free 0 (by rw [hz.len]) (fun j l hj f hf=>by
  have hj5:j<5:=by rw [← hz.len]; exact (List.getElem?_eq_some_iff.1 hj).1
  rw [hz.get hj5] at hj
  cases hj
  rw [Nat.zero_add]
  exact hin j hj5 f hf) mb0
theorem zO2:∀ (ls:List (List Int)) (k:Nat) (s:List Int),(zHg k s ls).length=s.length
 | [],_,_=>rfl
 | l::ls,k,s=>by unfold zHg; rw [zO2 ls,zI7]
theorem zNl:(zOY z).length=256:=by unfold zOY; rw [zO2,List.length_replicate]
theorem rc2 {x:List Int} (hx:x.length=256):∀ (m n i:Nat),i+m=256→m<n→(∀ g,g<i → ¬ 1<x.getD g 0) →
  ((∃ g,1<x.getD g 0)→zB6 z x n (i:Int)=some 7)∧((∀ g,¬ 1<x.getD g 0)→zB6 z x n (i:Int)=zFE z):=by
 intro m
 induction m with
 | zero =>
  intro n i h1 h2 h3
  obtain ⟨n,rfl⟩:=ex1 ‹_<n›
  have e:zB6 z x (n+1) (i:Int)=zFE z:=by
   show zD1 _ _ _ _=_
   unfold zD1
   rw [zAB (df (by omega))]
  refine ⟨fun ⟨g,hg⟩ => ?_,fun _=>e⟩
  rcases Nat.lt_or_ge g i with h | h
  ·exact absurd hg (h3 g h)
  ·rw [List.getD_eq_getElem?_getD,List.getElem?_eq_none (by omega)] at hg
   exact absurd hg (by decide)
 | succ m ih =>
  intro n i h1 h2 h3
  obtain ⟨n,rfl⟩:=ex1 ‹_<n›
  have hi:i<x.length:=by omega
  have ea:at_ x (i:Int)=x.getD i 0:=by rw [zHL hi,List.getD_eq_getElem?_getD,List.getElem?_eq_getElem hi]; rfl
  have e:zB6 z x (n+1) (i:Int)=cnd (decide (1<x.getD i 0)) (some 7) (zB6 z x n ((i+1:Nat):Int)):=by
   show zD1 _ _ _ _=_
   unfold zD1
   rw [zAN (dt (by omega)),zf (zAK hi),ea,zf (zAE (by omega))]
   rfl
  rw [e]
  by_cases h7:1<x.getD i 0
  ·rw [zAN (dt h7)]
   exact ⟨fun _=>rfl,fun h=>absurd h7 (h i)⟩
  ·rw [zAB (df h7)]
   exact ih n (i+1) (by omega) (by omega) (fun g hg=>by
    by_cases e:g=i
    ·rw [e]; exact h7
    ·exact h3 g (by omega))
def Adj (z:zi) (k:Nat) (l:List Int) (i:Nat):Prop:=0<i∧i<l.length∧at_ l (i:Int)=at_ l ((i - 1:Nat):Int)+2 ^ k∧inside z (at_ l ((i - 1:Nat):Int)) (k+1)=true
theorem zV4 (hr:ranges z=true) (hk:k<4) (hin:∀ f,f∈l→inside z f k=true) (hs:Srt l):(∃ i,Adj z k l i)↔zQs z k l l=true:=by
 have hp:=zJQ k
 have hps:=zLB k
 have key:∀ r,zQs z k l r=true ↔ ∃ f,f∈r∧bud f k∈l∧inside z (min f (bud f k)) (k+1)=true:=by
  intro r
  induction r with
  | nil=>unfold zQs; simp
  | cons f r ih =>
   unfold zQs
   by_cases h:(decide (bud f k∈l)&&inside z (min f (bud f k)) (k+1))=true
   ·rw [if_pos h]
    simp only [Bool.and_eq_true,decide_eq_true_eq] at h
    exact ⟨fun _=>⟨f,by simp,h.1,h.2⟩,fun _=>rfl⟩
   ·rw [if_neg h,ih]
    simp only [Bool.and_eq_true,decide_eq_true_eq] at h
    constructor
    ·rintro ⟨g,h1,h2⟩; exact ⟨g,by simp [h1],h2⟩
    ·rintro ⟨g,h1,h2,h3⟩
     rcases List.mem_cons.1 h1 with rfl | h1
     ·exact absurd ⟨h2,h3⟩ h
     ·exact ⟨g,h1,h2,h3⟩
 rw [key]
 constructor
 ·rintro ⟨i,h0,hi,he,hq⟩
  have hi':i - 1<l.length:=by omega
  rw [zHL hi,zHL hi'] at he
  rw [zHL hi'] at hq
  have hb:=zAW hr (hin _ (List.getElem_mem hi'))
  have ha:=(zBE hr).1 (hin _ (List.getElem_mem hi'))
  have ha2:=(zBE hr).1 hq
  have hbu:bud l[i - 1] k=l[i - 1]+2 ^ k:=by
   rcases zNQ hk hb.1 (by omega) ha.2.1 with ⟨_,e⟩ | ⟨e,_⟩
   ·exact e
   ·rw [ha2.2.1] at e; omega
  refine ⟨l[i - 1],List.getElem_mem hi',?_,?_⟩
  ·rw [hbu, ← he]; exact List.getElem_mem hi
  ·rw [hbu,Int.min_eq_left (by omega)]; exact hq
 ·rintro ⟨f,h1,h2,h3⟩
  have main:∀ x,x∈l→x+2 ^ k∈l→inside z x (k+1)=true → ∃ i,Adj z k l i:=by
   intro x hx hy hq
   obtain ⟨p,hp1,rfl⟩:=List.getElem_of_mem hx
   obtain ⟨q,hq1,hq2⟩:=List.getElem_of_mem hy
   have hpq:p<q:=by
    rcases Nat.lt_trichotomy p q with h | h | h
    ·exact h
    ·subst h; omega
    ·have:=zLY hs (List.getElem?_eq_getElem hq1) (List.getElem?_eq_getElem hp1) h
     omega
   have hn:p+1<l.length:=by omega
   have hlt:=zLY hs (List.getElem?_eq_getElem hp1) (List.getElem?_eq_getElem hn) (by omega)
   have hle:l[p+1]≤l[q]:=by
    by_cases e:p+1=q
    ·subst e; omega
    ·have:=zLY hs (List.getElem?_eq_getElem hn) (List.getElem?_eq_getElem hq1) (by omega)
     omega
   have a1:=((zBE hr).1 (hin _ (List.getElem_mem hp1))).2.1
   have a2:=((zBE hr).1 (hin _ (List.getElem_mem hn))).2.1
   have he:l[p+1]=l[p]+2 ^ k:=by
    have hk':k=0∨k=1∨k=2∨k=3:=by omega
    rcases hk' with rfl | rfl | rfl | rfl <;> simp only [pw0,pw1,pw2,pw3] at * <;> omega
   refine ⟨p+1,by omega,hn,?_,?_⟩
   ·rw [zHL hn,show p+1 - 1=p by omega,zHL hp1]; exact he
   ·rw [show p+1 - 1=p by omega,zHL hp1]; exact hq
  have hb:=zAW hr (hin f h1)
  have ha:=(zBE hr).1 (hin f h1)
  rcases zNQ hk hb.1 (by omega) ha.2.1 with ⟨_,e⟩ | ⟨_,e⟩
  ·rw [e] at h2 h3
   rw [Int.min_eq_left (by omega)] at h3
   exact main f h1 h2 h3
  ·rw [e] at h2 h3
   rw [Int.min_eq_right (by omega)] at h3
   exact main (f - 2 ^ k) h2 (by rw [show f - 2 ^ k+2 ^ k=f by omega]; exact h1) h3
theorem rc1 {se:Int→Option Int} (hz:Zk z) (hr:ranges z=true) (hk:k<4) (hl:lst z k=l) (hin:∀ f,f∈l→inside z f k=true):∀ (m n i:Nat),l.length≤i+m→i≤1000001→m<n→0<i→(∀ j,j<i → ¬ Adj z k l j) →
  ((∃ j,Adj z k l j)→zB1 se z (k:Int) n (i:Int)=some 11)∧((∀ j,¬ Adj z k l j)→zB1 se z (k:Int) n (i:Int)=se ((k+1:Nat):Int)):=by
 have hb:l.length≤1000000:=by rw [← hl]; exact hz.bd k
 have e:z.free.getD (k:Int).toNat []=l:=hl
 obtain ⟨e2,p1,p2⟩:=zKR (k:=k) (by omega)
 have hend:∀ n i:Nat,l.length≤i→(∀ j,j<i → ¬ Adj z k l j)→((∃ j,Adj z k l j)→zB1 se z (k:Int) (n+1) (i:Int)=some 11)∧((∀ j,¬ Adj z k l j)→zB1 se z (k:Int) (n+1) (i:Int)=se ((k+1:Nat):Int)):=by
  intro n i h1 h4
  refine ⟨fun ⟨j,hj⟩=>absurd hj (h4 j (by have:=hj.2.1; omega)),fun _ => ?_⟩
  show zD9 _ _ _ _ _=_
  unfold zD9 zIF
  rw [e,zf (zAK (by omega)),zAB (df (by omega)),zf (zAE (by omega))]
  rfl
 intro m
 induction m with
 | zero =>
  intro n i h1 hi6 h2 h3 h4
  obtain ⟨n,rfl⟩:=ex1 ‹_<n›
  exact hend n i (by omega) h4
 | succ m ih =>
  intro n i h1 hi6 h2 h3 h4
  obtain ⟨n,rfl⟩:=ex1 ‹_<n›
  by_cases hi:i<l.length
  ·have hbd:=zAW hr (hin _ (List.getElem_mem (show i - 1<l.length by omega)))
   have hat:=zHL (l:=l) (i:=i - 1) (by omega)
   have ee:zB1 se z (k:Int) (n+1) (i:Int)=cnd (decide (at_ l (i:Int)=at_ l ((i - 1:Nat):Int)+2 ^ k)&&inside z (at_ l ((i - 1:Nat):Int)) (k+1)) (some 11) (zB1 se z (k:Int) n ((i+1:Nat):Int)):=by
    show zD9 _ _ _ _ _=_
    unfold zD9
    have hbl:zBu z (at_ l ((i - 1:Nat):Int)) ((k:Int)+1)=some (inside z (at_ l ((i - 1:Nat):Int)) (k+1)):=zK2 (k:=k+1) hr (by omega)
    rw [e,e2,zf (zAK (by omega)),zAN (dt (by omega)),zf (zAK hi),zf (zAE (by omega)),zP6 h3,zf (zAK (by omega)),zf (dt (zIm (by omega) (by omega))),zf (zOR (by omega)),zf (zAE (by omega)),zf (zAE (by rw [hat]; omega)),zf (zNo (zAE (by omega))),hbl,zf (zAE (by omega))]
    cases decide (at_ l (i:Int)=at_ l ((i - 1:Nat):Int)+2 ^ k) with
    | true=>rfl
    | false=>rfl
   rw [ee]
   by_cases ha:Adj z k l i
   ·rw [dt ha.2.2.1,ha.2.2.2]
    exact ⟨fun _=>rfl,fun h=>absurd ha (h i)⟩
   ·have hf:(decide (at_ l (i:Int)=at_ l ((i - 1:Nat):Int)+2 ^ k)&&inside z (at_ l ((i - 1:Nat):Int)) (k+1))=false:=by
     refine Bool.eq_false_iff.2 fun h=>ha ?_
     simp only [Bool.and_eq_true,decide_eq_true_eq] at h
     exact ⟨h3,hi,h.1,h.2⟩
    rw [zAB hf]
    exact ih n (i+1) (by omega) (by omega) (by omega) (by omega) (fun j hj=>by
     by_cases e:j=i
     ·rw [e]; exact ha
     ·exact h4 j (by omega))
  ·exact hend n i (by omega) h4
theorem rc0 (hz:Zk z) (hr:ranges z=true) (hin:∀ k,k<5 → ∀ f,f∈lst z k→inside z f k=true) (hs:∀ k,Srt (lst z k)):∀ (m n k:Nat),k+m=4→m<n →
  zB3 z n (k:Int)=if zMz z k ((z.free.take 4).drop k)=true then some 11 else some 0:=by
 intro m
 induction m with
 | zero =>
  intro n k h1 h2
  obtain ⟨n,rfl⟩:=ex1 ‹_<n›
  show zEG _ _ _=_
  unfold zEG
  rw [zAB (df (by omega)),List.drop_eq_nil_of_le (by rw [List.length_take,hz.len]; omega)]
  rfl
 | succ m ih =>
  intro n k h1 h2
  obtain ⟨n,rfl⟩:=ex1 ‹_<n›
  show zEG _ _ _=_
  unfold zEG
  have hb:=hz.bd k
  obtain ⟨a1,a2⟩:=List.getElem?_eq_some_iff.1 (zMZ (hz.get (k:=k) (by omega)) (show k<4 by omega))
  have hc:=rc1 (se:=zB3 z n) hz hr (k:=k) (by omega) rfl (hin k (by omega)) (lst z k).length zAF 1 (by omega) (by omega) (by unfold zAF; omega) (by omega) (fun j hj h=>by have:=h.1; omega)
  rw [zAN (dt (by omega)),List.drop_eq_getElem_cons a1,a2]
  conv=>rhs; unfold zMz
  have hab:=zV4 (l:=lst z k) hr (by omega) (hin k (by omega)) (hs k)
  by_cases hq:zQs z k (lst z k) (lst z k)=true
  ·rw [if_pos hq,if_pos rfl]
   exact hc.1 (hab.2 hq)
  ·rw [if_neg hq]
   refine (hc.2 (fun j hj=>hq (hab.1 ⟨j,hj⟩))).trans ?_
   exact ih n (k+1) (by omega) (by omega)
theorem zQ7 (hz:Zk z):zE8 z=some (zDu z):=by
 unfold zE8 zDu
 rw [zSG,zBt]
 cases hr:ranges z with
 | false=>rfl
 | true =>
  rw [Bool.not_true,zAB rfl,if_neg (by simp)]
  unfold zHP
  rw [z0i,rl5 hz hr 5 zAF 0 (by omega) (by unfold zAF; omega) rfl,zBt]
  show cnd (!decide (zFA z 0 z.free=0)) _ _=some (if zFA z 0 z.free=0 then _ else _)
  by_cases h0:zFA z 0 z.free=0
  ·rw [dt h0,if_pos h0,Bool.not_true,zAB rfl]
   have hl:=fun k=>zNe hz h0 k
   rw [zRH hz hr (fun k _=>(hl k).1),zBt]
   have hm:=zXv hz hr (fun k _=>(hl k).1)
   have hc:=rc2 (z:=z) (zNl (z:=z)) 256 zAF 0 (by omega) (by unfold zAF; omega) (fun g hg=>by omega)
   show zB6 z (zOY z) zAF ((0:Nat):Int)=_
   cases hd:zIn 0 zEw z.free with
   | none =>
    rw [hd] at hm
    rw [hc.1 hm]
    rfl
   | some d =>
    rw [hd] at hm
    rw [hc.2 (fun g hg=>by
     cases hb:d.getD g false with
     | true=>have:=hm.t g hb; omega
     | false=>have:=hm.f g hb; omega),if_neg (by simp)]
    unfold zFE
    rw [z0i,rc0 hz hr (fun k _=>(hl k).1) (fun k=>(hl k).2) 4 zAF 0 (by omega) (by unfold zAF; omega),List.drop_zero]
    split <;> rfl
  ·rw [df h0,if_neg h0]
   rfl
end
end Go.Proofs.YtplkliakhdkpcaaGreat
namespace Go.Proofs.YtplkliakhdkpcaaGreat
open Go Go.RowKit Go.Wk Go.Am
def zKu (z:zi) (f:Int):Bool:=decide (zDu z=0)&&inside z f 0&&decide (0<(zOY z).getD f.toNat 0)
theorem zRO:∀ k:Fin 5, ∀ x:Fin 256,zMv .andNot .i64 (x.val:Int) (2 ^ k.val - 1)=((x.val/2 ^ k.val*2 ^ k.val:Nat):Int):=by decide +kernel
section
variable {z:zi} {k:Nat} {l:List Int}
theorem zGj (hz:Zk z) (h:zDu z=0):ranges z=true∧(∀ k,k<5 → ∀ f,f∈lst z k→inside z f k=true)∧(∀ k,Srt (lst z k)):=by
 have hr:=zCs h
 have hc:zFA z 0 z.free=0:=by
  unfold zDu at h
  rw [if_neg (by rw [hr]; simp)] at h
  by_cases h0:zFA z 0 z.free=0
  ·exact h0
  ·rw [if_neg h0] at h; exact h
 exact ⟨hr,fun k _=>(zNe hz hc k).1,fun k=>(zNe hz hc k).2⟩
theorem zRM (hz:Zk z) (h:zDu z=0) {f:Nat} (hf:f<256):∀ (m n k:Nat),k+m=5→m<n → ∃ r,zB4 z (f:Int) n (k:Int)=some r∧(0≤r.1 ↔ ∃ j,k≤j∧j<5∧((f/2 ^ j*2 ^ j:Nat):Int)∈lst z j):=by
 obtain ⟨hr,hin,hs⟩:=zGj hz h
 intro m
 induction m with
 | zero =>
  intro n k h1 h2
  obtain ⟨n,rfl⟩:=ex1 ‹_<n›
  refine ⟨(-1,0),?_,⟨fun hh=>absurd hh (by decide),fun ⟨j,a,b,_⟩=>by omega⟩⟩
  show zCo _ _ _ _=_
  unfold zCo
  rw [zAB (df (by omega))]
  rfl
 | succ m ih =>
  intro n k h1 h2
  obtain ⟨n,rfl⟩:=ex1 ‹_<n›
  obtain ⟨e2,p1,p2⟩:=zKR (k:=k) (by omega)
  have e:z.free.getD (k:Int).toNat []=lst z k:=rfl
  have ha:=zRO ⟨k,by omega⟩ ⟨f,hf⟩
  simp only at ha
  have ee:zB4 z (f:Int) (n+1) (k:Int)=cnd (decide (((f/2 ^ k*2 ^ k:Nat):Int)∈lst z k)) (some ((k:Int),((f/2 ^ k*2 ^ k:Nat):Int))) (zB4 z (f:Int) n ((k+1:Nat):Int)):=by
   show zCo _ _ _ _=_
   unfold zCo
   rw [zAN (dt (by omega)),zf (zOR (by omega)),e2,zf (zAE (by omega)),zf (zAE (by omega)),zf (zAK (by omega)),e,ha,zQr (hs k) (hz.bd k),zBt,zf (zAE (by omega))]
   rfl
  rw [ee]
  by_cases hm:((f/2 ^ k*2 ^ k:Nat):Int)∈lst z k
  ·rw [zAN (dt hm)]
   exact ⟨_,rfl,⟨fun _=>⟨k,Nat.le_refl _,by omega,hm⟩,fun _=>Int.natCast_nonneg k⟩⟩
  ·rw [zAB (df hm)]
   obtain ⟨r,r1,r2⟩:=ih n (k+1) (by omega) (by omega)
   refine ⟨r,r1,r2.trans ⟨fun ⟨j,a,b,c⟩=>⟨j,by omega,b,c⟩,fun ⟨j,a,b,c⟩=>⟨j,?_,b,c⟩⟩⟩
   by_cases hjk:j=k
   ·subst hjk; exact absurd c hm
   ·omega
theorem zTd {s:List Int} {i m g:Nat} (h:i+m≤s.length) (hg:0≤s.getD g 0):0<(zJ6 s i m).getD g 0↔0<s.getD g 0∨(i≤g∧g<i+m):=by
 rw [zLM _ _ _ _ h]
 split
 ·rename_i hq
  exact ⟨fun _ => .inr hq,fun _=>by omega⟩
 ·rename_i hq
  exact ⟨.inl,fun h=>h.resolve_right hq⟩
theorem zP3 (hr:ranges z=true) (hk:k<5) {g:Nat}:∀ (l:List Int) {s:List Int},s.length=256→(∀ f,f∈l→inside z f k=true)→0≤s.getD g 0→(0<(zIU k s l).getD g 0↔0<s.getD g 0 ∨ ∃ x,x∈l∧x≤(g:Int)∧(g:Int)<x+2 ^ k)
 | [],s,_,_,_=>by unfold zIU; simp
 | x::l,s,hs,hin,h0=>by
  have hbd:=zAW hr (hin x (by simp))
  have pn:=zNU (k:=k) (by omega)
  have hle:=zNc (2 ^ k) x.toNat s g
  unfold zIU
  rw [zP3 hr hk l (by rw [zLd]; exact hs) (fun f hf=>hin f (by simp [hf])) (by omega),zTd (by rw [hs]; omega) h0]
  constructor
  ·rintro ((h | h) | ⟨y,h1,h2⟩)
   ·exact .inl h
   ·exact .inr ⟨x,by simp,by omega,by omega⟩
   ·exact .inr ⟨y,by simp [h1],h2⟩
  ·rintro (h | ⟨y,h1,h2,h3⟩)
   ·exact .inl (.inl h)
   ·rcases List.mem_cons.1 h1 with rfl | h1
    ·exact .inl (.inr (by omega))
    ·exact .inr ⟨y,h1,h2,h3⟩
theorem zOh (hr:ranges z=true) {g:Nat}:∀ (ls:List (List Int)) (k:Nat) {s:List Int},k+ls.length=5→s.length=256→(∀ j l,ls[j]?=some l → ∀ f,f∈l→inside z f (k+j)=true)→0≤s.getD g 0 →
  (0<(zHg k s ls).getD g 0↔0<s.getD g 0 ∨ ∃ j l x,ls[j]?=some l∧x∈l∧x≤(g:Int)∧(g:Int)<x+2 ^ (k+j))
 | [],k,s,_,_,_,_=>by unfold zHg; simp
 | l::ls,k,s,hk,hs,hin,h0=>by
  have hk':k+(ls.length+1)=5:=hk
  have hle:=zKa l k s g
  unfold zHg
  rw [zOh hr ls (k+1) (by omega) (by rw [zI7]; exact hs) (fun j l' hj f hf=>by
    have:=hin (j+1) l' hj f hf
    rwa [show k+(j+1)=k+1+j by omega] at this) (by omega),zP3 hr (by omega) l hs (fun f hf=>by have:=hin 0 l rfl f hf; rwa [Nat.add_zero] at this) h0]
  constructor
  ·rintro ((h | ⟨x,h1,h2,h3⟩) | ⟨j,l',x,h1,h2,h3,h4⟩)
   ·exact .inl h
   ·exact .inr ⟨0,l,x,rfl,h1,h2,h3⟩
   ·exact .inr ⟨j+1,l',x,h1,h2,h3,by rw [show k+(j+1)=k+1+j by omega]; exact h4⟩
  ·rintro (h | ⟨j,l',x,h1,h2,h3,h4⟩)
   ·exact .inl (.inl h)
   ·cases j with
    | zero =>
     simp at h1
     subst h1
     exact .inl (.inr ⟨x,h2,h3,h4⟩)
    | succ j=>exact .inr ⟨j,l',x,by simpa using h1,h2,h3,by rw [show k+1+j=k+(j+1) by omega]; exact h4⟩
theorem zK3 (hz:Zk z) (hr:ranges z=true) (hin:∀ k,k<5 → ∀ f,f∈lst z k→inside z f k=true) (g:Nat):0<(zOY z).getD g 0↔cov z g:=by
 unfold zOY
 have h0:(List.replicate 256 (0:Int)).getD g 0=0:=by
  rw [List.getD_eq_getElem?_getD,List.getElem?_replicate]
  split <;> rfl
 rw [zOh hr z.free 0 (by rw [hz.len]) (by rw [List.length_replicate]) (fun j l hj f hf=>by
  have hj5:j<5:=by rw [← hz.len]; exact (List.getElem?_eq_some_iff.1 hj).1
  rw [hz.get hj5] at hj
  cases hj
  rw [Nat.zero_add]
  exact hin j hj5 f hf) (by rw [h0]; decide),h0]
 constructor
 ·rintro (h | ⟨j,l,x,h1,h2,h3,h4⟩)
  ·exact absurd h (by decide)
  ·have hj5:j<5:=by rw [← hz.len]; exact (List.getElem?_eq_some_iff.1 h1).1
   rw [hz.get hj5] at h1
   cases h1
   rw [Nat.zero_add] at h4
   exact ⟨j,x,h2,h3,h4⟩
 ·rintro ⟨j,x,h2,h3,h4⟩
  rcases Nat.lt_or_ge j 5 with hj | hj
  ·exact .inr ⟨j,lst z j,x,hz.get hj,h2,h3,by rw [Nat.zero_add]; exact h4⟩
  ·rw [zML hz.len hj] at h2; exact absurd h2 (by simp)
theorem zNS {f:Nat} {x:Int} (hk:k<5) (h0:0≤x) (ha:x%2 ^ k=0):(x≤(f:Int)∧(f:Int)<x+2 ^ k)↔x=((f/2 ^ k*2 ^ k:Nat):Int):=by
 have hk':k=0∨k=1∨k=2∨k=3∨k=4:=by omega
 rcases hk' with rfl | rfl | rfl | rfl | rfl <;> simp only [pw0,pw1,pw2,pw3,pw4,Nat.reducePow] at * <;> omega
theorem zXS (hz:Zk z) (f:Int):zGp z f=some (zKu z f):=by
 unfold zGp zKu
 rw [zQ7 hz,zBt]
 by_cases h:zDu z=0
 ·obtain ⟨hr,hin,_⟩:=zGj hz h
  have hbl:zBu z f 0=some (inside z f 0):=zK2 (k:=0) hr (by omega)
  rw [dt h,zAN rfl,hbl,zBt]
  cases hi:inside z f 0 with
  | false=>rfl
  | true =>
   have hb:=zAW hr hi
   rw [pw0] at hb
   obtain ⟨m,rfl⟩:=Int.eq_ofNat_of_zero_le hb.1
   have hm:m<(zOY z).length:=by rw [zNl]; omega
   rw [Bool.and_true,zAN rfl,zRH hz hr hin,zBt,zf (zNo (zAK hm)),zHL hm,Int.toNat_natCast,List.getD_eq_getElem?_getD,List.getElem?_eq_getElem hm]
   rfl
 ·rw [df h]
  rfl
theorem zXB (hz:Zk z) (hI:inI z.start=true) (f:Int):zGu z f=some (zKu z f):=by
 unfold zGu zKu
 rw [zQA hz hI,zBt]
 by_cases h:zDu z=0
 ·obtain ⟨hr,hin,_⟩:=zGj hz h
  have hie:zBm z f 0=some (inside z f 0):=zKO (k:=0) hr (by omega)
  rw [dt h,Bool.not_true,Bool.not_false,zAN rfl,hie,zBt]
  cases hi:inside z f 0 with
  | false=>rfl
  | true =>
   have hb:=zAW hr hi
   rw [pw0] at hb
   obtain ⟨m,rfl⟩:=Int.eq_ofNat_of_zero_le hb.1
   refine (zAB (by rfl)).trans ?_
   unfold zFm
   obtain ⟨r,r1,r2⟩:=zRM hz h (f:=m) (by omega) 5 zAF 0 (by omega) (by unfold zAF; omega)
   rw [z0i,r1,zBt]
   congr 1
   rw [Bool.true_and,Bool.true_and,decide_eq_decide,Int.toNat_natCast]
   refine Iff.trans r2 (Iff.trans ?_ (zK3 hz hr hin m).symm)
   constructor
   ·rintro ⟨j,_,hj,hm⟩
    have hbj:=zAW hr (hin j hj _ hm)
    have haj:=(zBE hr).1 (hin j hj _ hm)
    have:=(zNS (f:=m) hj hbj.1 haj.2.1).2 rfl
    exact ⟨j,_,hm,this.1,this.2⟩
   ·rintro ⟨j,x,hx,h1,h2⟩
    rcases Nat.lt_or_ge j 5 with hj | hj
    ·have hbj:=zAW hr (hin j hj _ hx)
     have haj:=(zBE hr).1 (hin j hj _ hx)
     have:=(zNS (f:=m) hj hbj.1 haj.2.1).1 ⟨h1,h2⟩
     exact ⟨j,Nat.zero_le _,hj,this▸hx⟩
    ·rw [zML hz.len hj] at hx; exact absurd hx (by simp)
 ·rw [df h]
  rfl
def zU1 (z:zi):Int:=zRD 0 z.free
theorem zWA (hk:k<5) {n:Nat} (hn:n≤1000000):0≤(n:Int)*2 ^ k∧(n:Int)*2 ^ k≤16000000:=by
 have hk':k=0∨k=1∨k=2∨k=3∨k=4:=by omega
 rcases hk' with rfl | rfl | rfl | rfl | rfl <;> simp only [pw0,pw1,pw2,pw3,pw4] <;> omega
theorem zUy (hz:Zk z):∀ (m n k:Nat) (acc:Int),k+m=4→m<n→0≤acc∧acc≤k*16000000 → ∃ r,zEY z 4 n acc (k:Int)=some r∧r=acc+zRD k ((z.free.take 4).drop k)∧0≤r∧r≤64000000:=by
 have hl4:(z.free.take 4).length=4:=by rw [List.length_take,hz.len]; rfl
 have hcut:zH6 z.free 0 4=z.free.take 4:=rfl
 intro m
 induction m with
 | zero =>
  intro n k acc h1 h2 h3
  obtain ⟨n,rfl⟩:=ex1 ‹_<n›
  refine ⟨acc,?_,?_,by omega,by omega⟩
  ·show zCa _ _ _ _ _=_
   unfold zCa
   rw [hcut,zAB (df (by omega))]
   rfl
  ·rw [List.drop_eq_nil_of_le (by omega)]
   show acc=acc+0
   omega
 | succ m ih =>
  intro n k acc h1 h2 h3
  obtain ⟨n,rfl⟩:=ex1 ‹_<n›
  have hk:k<(z.free.take 4).length:=by omega
  have hg:=zMZ (hz.get (k:=k) (by omega)) (show k<4 by omega)
  obtain ⟨a1,a2⟩:=List.getElem?_eq_some_iff.1 hg
  have hb:=zWA (k:=k) (by omega) (hz.bd k)
  obtain ⟨r,r1,r2,r3,r4⟩:=ih n (k+1) (acc+((lst z k).length:Int)*2 ^ k) (by omega) (by omega) (by omega)
  refine ⟨r,?_,?_,r3,r4⟩
  ·rw [← r1]
   show zCa _ _ _ _ _=_
   unfold zCa
   rw [hcut,zAN (dt (by omega)),zf (zAK hk),zHL hk,a2,Int.toNat_natCast,zf (zOR (by omega)),zf (zAE (by omega)),zf (zAE (by omega)),zf (zAE (by omega))]
   rfl
  ·rw [r2,List.drop_eq_getElem_cons a1,a2]
   conv=>rhs; unfold zRD
   omega
theorem zRy:∀ (ls:List (List Int)) (k:Nat) (l:List Int),zRD k (ls++[l])=zRD k ls+(l.length:Int)*2 ^ (k+ls.length)
 | [],k,l=>by simp [zRD]
 | a::ls,k,l=>by
  show zRD k (a::(ls++[l]))=_
  unfold zRD
  rw [zRy ls (k+1) l,show k+1+ls.length=k+(a::ls).length by simp; omega]
  omega
theorem zWh (hz:Zk z) (hI:inI z.start=true) (h:zDu z=0):zI8 z=some (zU1 z)∧0≤zU1 z∧zU1 z≤80000000:=by
 have h4:=hz.bd 4
 have hb:=zWA (k:=4) (by omega) h4
 obtain ⟨r,r1,r2,r3,r4⟩:=zUy hz 4 zAF 0 0 (by omega) (by unfold zAF; omega) (by omega)
 have hfr:z.free=z.free.take 4++[lst z 4]:=by
  match hq:z.free,hz.len with
  | [a,b,c,d,e],_=>unfold lst; rw [hq]; rfl
 have hnum:zU1 z=r+((lst z 4).length:Int)*2 ^ 4:=by
  unfold zU1
  rw [hfr,zRy,r2,List.length_take,hz.len]
  show _=0+zRD 0 (z.free.take 4)+_
  rw [Int.zero_add]
  rfl
 refine ⟨?_,by omega,by omega⟩
 unfold zI8 zH7 zLl
 rw [zQA hz hI,zBt,zBt,dt h]
 refine (congrArg (fun q=>Option.bind q _) ((zAB (by rfl)).trans ((zf (by rfl)).trans ((zf (dt hz.len)).trans r1)))).trans ?_
 rw [zBt]
 have e4:(z.free.getD (4:Int).toNat []).length=(lst z 4).length:=rfl
 have e16:(2:Int) ^ (4:Int).toNat=2 ^ 4:=rfl
 rw [e4,e16]
 refine (congrArg (fun q=>Option.bind q _) ((zAB (by rfl)).trans (zf (zAE (by omega))))).trans ?_
 rw [zBt,zf (zAE (by omega)),hnum]
end
end Go.Proofs.YtplkliakhdkpcaaGreat
namespace Go.Proofs.YtplkliakhdkpcaaGreat
open Go Go.RowKit Go.Wk Go.Am
structure Ck (c:zL):Prop where
 n:c.lists.length≤1000
 l:∀ x,x∈c.lists→x.length≤1000
def pcR (c:zL) (zn:Int):Int :=
 if zn<1∨6<zn then 1 else if (c.lists.length:Int)=zn then (if c.lists.flatten.all zFJ=true then (if c.lists.flatten.Nodup then 0 else 7) else 2) else 3
section
variable {c:zL}
theorem Ck.le (h:Ck c) {i:Nat} (hi:i<c.lists.length):c.lists[i].length≤1000:=h.l _ (List.getElem_mem hi)
theorem zPG {i:Nat} (hi:i<c.lists.length):(c.lists.drop i).flatten=c.lists[i]++(c.lists.drop (i+1)).flatten:=by
 rw [List.drop_eq_getElem_cons hi]
 rfl
theorem zRF {i:Nat} (hi:c.lists.length≤i):(c.lists.drop i).flatten=[]:=by rw [List.drop_eq_nil_of_le hi]; rfl
theorem pl1 {se:Int→Int→Option Int} {acc:Int} {j:Nat} {l:List Int} (hc:Ck c) (hj:j<c.lists.length) (hl:c.lists[j]=l) (h0:0≤acc∧acc≤1000000000):∀ (m n i:Nat),i+m=l.length→m<n →
  zFv se c acc (j:Int) n (i:Int)=if (l.drop i).all zFJ=true then se (acc+l.length) ((j+1:Nat):Int) else some 2:=by
 have hb:l.length≤1000:=by rw [← hl]; exact hc.le hj
 have hn:=hc.n
 have e:at_ c.lists (j:Int)=l:=by rw [zHL hj,hl]
 intro m
 induction m with
 | zero =>
  intro n i h1 h2
  obtain ⟨n,rfl⟩:=ex1 ‹_<n›
  show zDL _ _ _ _ _ _=_
  unfold zDL zHW zHO
  rw [e,zAB (df (by omega)),zf (zAE (by omega)),zf (zAE (by omega)),List.drop_eq_nil_of_le (by omega)]
  rfl
 | succ m ih =>
  intro n i h1 h2
  obtain ⟨n,rfl⟩:=ex1 ‹_<n›
  have hi:i<l.length:=by omega
  show zDL _ _ _ _ _ _=_
  unfold zDL
  rw [e,zAN (dt (by omega)),zf (zAK hi),zHL hi,List.drop_eq_getElem_cons hi,List.all_cons,zf (zAE (by omega))]
  show cnd (!zFJ l[i]) _ _=_
  cases hf:zFJ l[i] with
  | false=>rfl
  | true=>exact ih n (i+1) (by omega) (by omega)
theorem pl0 (hc:Ck c):∀ (m n i acc:Nat),i+m=c.lists.length→m<n→acc≤i*1000 →
  zBo c n (acc:Int) (i:Int)=if ((c.lists.drop i).flatten).all zFJ=true then zFX c ((acc+(c.lists.drop i).flatten.length:Nat):Int) else some 2:=by
 have hn:=hc.n
 intro m
 induction m with
 | zero =>
  intro n i acc h1 h2 h3
  obtain ⟨n,rfl⟩:=ex1 ‹_<n›
  show zDT _ _ _ _=_
  unfold zDT
  rw [zAB (df (by omega)),zRF (by omega)]
  rfl
 | succ m ih =>
  intro n i acc h1 h2 h3
  obtain ⟨n,rfl⟩:=ex1 ‹_<n›
  have hi:i<c.lists.length:=by omega
  have hb:=hc.le hi
  show zDT _ _ _ _=_
  unfold zDT
  rw [zAN (dt (by omega)),zf (zAK hi),z0i,pl1 hc hi rfl (by omega) c.lists[i].length zAF 0 (by omega) (by unfold zAF; omega),List.drop_zero,zPG hi,List.all_append,List.length_append]
  cases hf:c.lists[i].all zFJ with
  | false=>rfl
  | true =>
   rw [if_pos rfl,Bool.true_and]
   have:=ih n (i+1) (acc+c.lists[i].length) (by omega) (by omega) (by omega)
   rw [show acc+c.lists[i].length+((c.lists.drop (i+1)).flatten).length=acc+(c.lists[i].length+((c.lists.drop (i+1)).flatten).length) by omega] at this
   rw [← this]
   congr 1
def zQG (m:List (Int×Bool)) (l:List Int):List (Int×Bool):=l.foldl (fun q f=>zKx q f true) m
theorem fm1 {se:Int→List (Int×Bool)→Option (List (Int×Bool))} {j:Nat} {l:List Int} (hc:Ck c) (hj:j<c.lists.length) (hl:c.lists[j]=l):∀ (m n i:Nat) (q:List (Int×Bool)),i+m=l.length→m<n →
  zFC se c (j:Int) n (i:Int) q=se ((j+1:Nat):Int) (zQG q (l.drop i)):=by
 have hb:l.length≤1000:=by rw [← hl]; exact hc.le hj
 have hn:=hc.n
 have e:at_ c.lists (j:Int)=l:=by rw [zHL hj,hl]
 intro m
 induction m with
 | zero =>
  intro n i q h1 h2
  obtain ⟨n,rfl⟩:=ex1 ‹_<n›
  show zC0 _ _ _ _ _ _=_
  unfold zC0 zGi
  rw [e,zAB (df (by omega)),zf (zAE (by omega)),List.drop_eq_nil_of_le (by omega)]
  rfl
 | succ m ih =>
  intro n i q h1 h2
  obtain ⟨n,rfl⟩:=ex1 ‹_<n›
  have hi:i<l.length:=by omega
  show zC0 _ _ _ _ _ _=_
  unfold zC0
  rw [e,zAN (dt (by omega)),zf (zAK hi),zHL hi,List.drop_eq_getElem_cons hi,zf (zAE (by omega))]
  exact ih n (i+1) (zKx q l[i] true) (by omega) (by omega)
theorem fm0 (hc:Ck c):∀ (m n i:Nat) (q:List (Int×Bool)),i+m=c.lists.length→m<n→zBq c n (i:Int) q=some (zQG q (c.lists.drop i).flatten):=by
 have hn:=hc.n
 intro m
 induction m with
 | zero =>
  intro n i q h1 h2
  obtain ⟨n,rfl⟩:=ex1 ‹_<n›
  show zC2 _ _ _ _=_
  unfold zC2
  rw [zAB (df (by omega)),zRF (by omega)]
  rfl
 | succ m ih =>
  intro n i q h1 h2
  obtain ⟨n,rfl⟩:=ex1 ‹_<n›
  have hi:i<c.lists.length:=by omega
  have hb:=hc.le hi
  show zC2 _ _ _ _=_
  unfold zC2
  rw [zAN (dt (by omega)),zf (zAK hi),z0i,fm1 hc hi rfl c.lists[i].length zAF 0 q (by omega) (by unfold zAF; omega),List.drop_zero,zPG hi,ih n (i+1) _ (by omega) (by omega)]
  unfold zQG
  rw [List.foldl_append]
theorem zPx (k:Int):∀ (q:List (Int×Bool)) (x:Int),x∈(zKx q k true).map (·.1)↔x=k∨x∈q.map (·.1)
 | [],x=>by simp [zKx]
 | p::q,x=>by
  unfold zKx
  by_cases h:p.1=k
  ·rw [if_pos h]
   simp [h]
  ·rw [if_neg h]
   simp only [List.map_cons,List.mem_cons,zPx k q x]
   constructor
   ·rintro (h1 | h1 | h1)
    ·exact .inr (.inl h1)
    ·exact .inl h1
    ·exact .inr (.inr h1)
   ·rintro (h1 | h1 | h1)
    ·exact .inr (.inl h1)
    ·exact .inl h1
    ·exact .inr (.inr h1)
theorem zRt (k:Int):∀ (q:List (Int×Bool)),(k∈q.map (·.1)→(zKx q k true).length=q.length)∧(k ∉ q.map (·.1)→(zKx q k true).length=q.length+1)
 | []=>by simp [zKx]
 | p::q=>by
  have ih:=zRt k q
  unfold zKx
  by_cases h:p.1=k
  ·rw [if_pos h]
   exact ⟨fun _=>rfl,fun hn=>absurd (by simp [h]) hn⟩
  ·rw [if_neg h]
   refine ⟨fun hm => ?_,fun hn => ?_⟩
   ·have hm':k∈q.map (·.1):=by
     rcases List.mem_cons.1 hm with e | e
     ·exact absurd e.symm h
     ·exact e
    show (zKx q k true).length+1=q.length+1
    rw [ih.1 hm']
   ·show (zKx q k true).length+1=q.length+1+1
    rw [ih.2 (fun hm=>hn (List.mem_cons_of_mem _ hm))]
theorem zQH:∀ (l:List Int) (q:List (Int×Bool)),(zQG q l).length≤q.length+l.length∧((zQG q l).length=q.length+l.length↔l.Nodup ∧ ∀ x,x∈l→x ∉ q.map (·.1))
 | [],q=>⟨Nat.le_refl _,by simp [zQG]⟩
 | a::l,q=>by
  obtain ⟨h1,h2⟩:=zQH l (zKx q a true)
  have e:zQG q (a::l)=zQG (zKx q a true) l:=rfl
  rw [e]
  have hk:=zPx a q
  have hl:=zRt a q
  by_cases ha:a∈q.map (·.1)
  ·rw [hl.1 ha] at h1 h2
   refine ⟨by simp; omega,⟨fun h=>by simp at h; omega,fun h=>absurd ha (h.2 a (by simp))⟩⟩
  ·rw [hl.2 ha] at h1 h2
   refine ⟨by simp; omega,?_⟩
   rw [show q.length+(a::l).length=q.length+1+l.length by simp; omega,h2,List.nodup_cons]
   constructor
   ·rintro ⟨n1,n2⟩
    refine ⟨⟨fun hm=>n2 a hm ((hk a).2 (.inl rfl)),n1⟩,fun x hx => ?_⟩
    rcases List.mem_cons.1 hx with rfl | hx
    ·exact ha
    ·exact fun hq=>n2 x hx ((hk x).2 (.inr hq))
   ·rintro ⟨⟨n0,n1⟩,n2⟩
    refine ⟨n1,fun x hx hq => ?_⟩
    rcases (hk x).1 hq with rfl | hq
    ·exact n0 hx
    ·exact n2 x (by simp [hx]) hq
theorem zUl (hc:Ck c) {zn:Int}:zGq c zn=some (pcR c zn):=by
 unfold zGq pcR
 by_cases h1:zn<1∨6<zn
 ·rw [if_pos h1]
  refine zAN ?_
  rcases h1 with h1 | h1 <;> simp [h1]
 ·have h1a:¬ zn<1:=fun h=>h1 (.inl h)
  have h1b:¬ 6<zn:=fun h=>h1 (.inr h)
  rw [if_neg h1,df h1a,df h1b]
  refine (zAB (by rfl)).trans ?_
  by_cases h2:(c.lists.length:Int)=zn
  ·rw [if_pos h2,dt h2]
   refine (zAB (by rfl)).trans ?_
   have hp:=pl0 hc c.lists.length zAF 0 0 (by omega) (by have:=hc.n; unfold zAF; omega) (by omega)
   rw [List.drop_zero,Nat.zero_add] at hp
   refine Eq.trans hp ?_
   cases hf:c.lists.flatten.all zFJ with
   | false=>rfl
   | true =>
    rw [if_pos rfl,if_pos rfl]
    unfold zFX zFx
    rw [z0i,fm0 hc c.lists.length zAF 0 [] (by omega) (by have:=hc.n; unfold zAF; omega),zBt,List.drop_zero]
    have hm:=(zQH c.lists.flatten []).2
    simp only [List.length_nil,Nat.zero_add,List.map_nil,List.not_mem_nil,not_false_eq_true,implies_true,and_true] at hm
    by_cases hd:c.lists.flatten.Nodup
    ·rw [if_pos hd,dt (by have:=hm.2 hd; omega)]
     rfl
    ·rw [if_neg hd,df (fun h=>hd (hm.1 (by omega)))]
     rfl
  ·rw [if_neg h2,df h2]
   rfl
def zKc:List Bool→List Int→Option (List Bool)
 | d,[]=>some d
 | d,f::r=>if d.getD f.toNat false=true then none else zKc (d.set f.toNat true) r
theorem zPv:∀ {l:List Int} {d d':List Bool},zKc d l=some d'→d'.length=d.length
 | [],_,_,h=>by unfold zKc at h; cases h; rfl
 | x::l,d,d',h=>by
  unfold zKc at h
  split at h
  ·cases h
  ·rw [zPv h,List.length_set]
theorem zP8:∀ (l r:List Int) (d:List Bool),zKc d (l++r)=(zKc d l).bind fun d'=>zKc d' r
 | [],_,_=>rfl
 | x::l,r,d=>by
  show (if d.getD x.toNat false=true then none else zKc (d.set x.toNat true) (l++r))=(if d.getD x.toNat false=true then none else zKc (d.set x.toNat true) l).bind fun d'=>zKc d' r
  split
  ·rfl
  ·exact zP8 l r _
theorem zQJ:∀ (l:List Int) (d:List Bool),d.length=256→(∀ f,f∈l→0≤f∧f<256)→(zKc d l≠none↔l.Nodup ∧ ∀ f,f∈l→d.getD f.toNat false=false)
 | [],d,_,_=>by simp [zKc]
 | x::l,d,hd,hin=>by
  have hx:=hin x (by simp)
  unfold zKc
  cases hq:d.getD x.toNat false with
  | true =>
   rw [if_pos rfl]
   exact ⟨fun h=>absurd rfl h,fun h=>by have:=h.2 x (by simp); rw [hq] at this; cases this⟩
  | false =>
   rw [if_neg (by simp),zQJ l _ (by rw [List.length_set]; exact hd) (fun f hf=>hin f (by simp [hf])),List.nodup_cons]
   constructor
   ·rintro ⟨h1,h2⟩
    refine ⟨⟨fun hm => ?_,h1⟩,fun f hf => ?_⟩
    ·have:=h2 x hm
     rw [zCC _ _ _ (by omega),if_pos rfl] at this
     cases this
    ·rcases List.mem_cons.1 hf with rfl | hf
     ·exact hq
     ·have:=h2 f hf
      rw [zCC _ _ _ (by omega)] at this
      split at this
      ·cases this
      ·exact this
   ·rintro ⟨⟨h0,h1⟩,h2⟩
    refine ⟨h1,fun f hf => ?_⟩
    have hfb:=hin f (by simp [hf])
    rw [zCC _ _ _ (by omega),if_neg]
    ·exact h2 f (by simp [hf])
    ·intro e
     have:f=x:=by omega
     exact h0 (this▸hf)
theorem ql3 {se:Int→Option Int} {j:Nat} {l:List Int} (hc:Ck c) (hj:j<c.lists.length) (hl:c.lists[j]=l):∀ (m n i:Nat),i+m=l.length→m<n →
  zGS se c (j:Int) n (i:Int)=if (l.drop i).all zFJ=true then se ((j+1:Nat):Int) else some 2:=by
 have hb:l.length≤1000:=by rw [← hl]; exact hc.le hj
 have hn:=hc.n
 have e:at_ c.lists (j:Int)=l:=by rw [zHL hj,hl]
 intro m
 induction m with
 | zero =>
  intro n i h1 h2
  obtain ⟨n,rfl⟩:=ex1 ‹_<n›
  show zD0 _ _ _ _ _=_
  unfold zD0 zIG
  rw [e,zAB (df (by omega)),zf (zAE (by omega)),List.drop_eq_nil_of_le (by omega)]
  rfl
 | succ m ih =>
  intro n i h1 h2
  obtain ⟨n,rfl⟩:=ex1 ‹_<n›
  have hi:i<l.length:=by omega
  show zD0 _ _ _ _ _=_
  unfold zD0
  have ho:zFw l[i]=some (!zFJ l[i]):=by
   unfold zFw zFJ
   congr 1
   rw [Bool.eq_iff_iff]
   simp only [Bool.or_eq_true,decide_eq_true_eq,Bool.not_eq_true',Bool.and_eq_false_iff,decide_eq_false_iff_not]
   omega
  rw [e,zAN (dt (by omega)),zf (zAK hi),zHL hi,ho,zBt,List.drop_eq_getElem_cons hi,List.all_cons,zf (zAE (by omega))]
  cases hf:zFJ l[i] with
  | false=>rfl
  | true=>exact ih n (i+1) (by omega) (by omega)
theorem ql2 (hc:Ck c):∀ (m n i:Nat),i+m=c.lists.length→m<n →
  zCm c n (i:Int)=if ((c.lists.drop i).flatten).all zFJ=true then zGP c else some 2:=by
 have hn:=hc.n
 intro m
 induction m with
 | zero =>
  intro n i h1 h2
  obtain ⟨n,rfl⟩:=ex1 ‹_<n›
  show zD4 _ _ _=_
  unfold zD4
  rw [zAB (df (by omega)),zRF (by omega)]
  rfl
 | succ m ih =>
  intro n i h1 h2
  obtain ⟨n,rfl⟩:=ex1 ‹_<n›
  have hi:i<c.lists.length:=by omega
  have hb:=hc.le hi
  show zD4 _ _ _=_
  unfold zD4
  rw [zAN (dt (by omega)),zf (zAK hi),z0i,ql3 hc hi rfl c.lists[i].length zAF 0 (by omega) (by unfold zAF; omega),List.drop_zero,zPG hi,List.all_append]
  cases hf:c.lists[i].all zFJ with
  | false=>rfl
  | true =>
   rw [if_pos rfl,Bool.true_and]
   exact ih n (i+1) (by omega) (by omega)
theorem ql1 {se:Int→List Bool→Option Int} {j:Nat} {l:List Int} (hc:Ck c) (hj:j<c.lists.length) (hl:c.lists[j]=l) (hin:∀ f,f∈l→0≤f∧f<256):∀ (m n i:Nat) (d:List Bool),i+m=l.length→m<n→d.length=256 →
  zGG se c (j:Int) n (i:Int) d=match zKc d (l.drop i) with | none=>some 7 | some d'=>se ((j+1:Nat):Int) d':=by
 have hb:l.length≤1000:=by rw [← hl]; exact hc.le hj
 have hn:=hc.n
 have e:at_ c.lists (j:Int)=l:=by rw [zHL hj,hl]
 intro m
 induction m with
 | zero =>
  intro n i d h1 h2 h3
  obtain ⟨n,rfl⟩:=ex1 ‹_<n›
  show zDz _ _ _ _ _ _=_
  unfold zDz zID
  rw [e,zAB (df (by omega)),zf (zAE (by omega)),List.drop_eq_nil_of_le (by omega)]
  rfl
 | succ m ih =>
  intro n i d h1 h2 h3
  obtain ⟨n,rfl⟩:=ex1 ‹_<n›
  have hi:i<l.length:=by omega
  have hf:=hin _ (List.getElem_mem hi)
  obtain ⟨f,hf2⟩:=Int.eq_ofNat_of_zero_le hf.1
  have hfl:f<d.length:=by omega
  show zDz _ _ _ _ _ _=_
  unfold zDz
  have ed:at_ d (f:Int)=d.getD f false:=by rw [zHL hfl,List.getD_eq_getElem?_getD,List.getElem?_eq_getElem hfl]; rfl
  rw [e,zAN (dt (by omega)),zf (zAK hi),zHL hi,List.drop_eq_getElem_cons hi,hf2,zf (zAK hfl),ed,zf (zAE (by omega)),Int.toNat_natCast]
  unfold zKc
  rw [Int.toNat_natCast]
  cases hd:d.getD f false with
  | true=>rfl
  | false =>
   rw [zAB rfl,if_neg (by simp)]
   exact ih n (i+1) (d.set f true) (by omega) (by omega) (by rw [List.length_set]; exact h3)
theorem ql0 (hc:Ck c) (hin:∀ f,f∈c.lists.flatten→0≤f∧f<256):∀ (m n i:Nat) (d:List Bool),i+m=c.lists.length→m<n→d.length=256 →
  zCi c n (i:Int) d=match zKc d (c.lists.drop i).flatten with | none=>some 7 | some _=>some 0:=by
 have hn:=hc.n
 intro m
 induction m with
 | zero =>
  intro n i d h1 h2 h3
  obtain ⟨n,rfl⟩:=ex1 ‹_<n›
  show zEJ _ _ _ _=_
  unfold zEJ
  rw [zAB (df (by omega)),zRF (by omega)]
  rfl
 | succ m ih =>
  intro n i d h1 h2 h3
  obtain ⟨n,rfl⟩:=ex1 ‹_<n›
  have hi:i<c.lists.length:=by omega
  have hb:=hc.le hi
  show zEJ _ _ _ _=_
  unfold zEJ
  rw [zAN (dt (by omega)),zf (zAK hi),z0i,ql1 hc hi rfl (fun f hf=>hin f (List.mem_flatten.2 ⟨_,List.getElem_mem hi,hf⟩)) c.lists[i].length zAF 0 d (by omega) (by unfold zAF; omega) h3,List.drop_zero,zPG hi,zP8]
  cases hm:zKc d c.lists[i] with
  | none=>rfl
  | some d'=>exact ih n (i+1) d' (by omega) (by omega) (by rw [zPv hm]; exact h3)
theorem zUp (hc:Ck c) {zn:Int}:zHr c zn=some (pcR c zn):=by
 unfold zHr pcR
 by_cases h1:zn<1∨6<zn
 ·rw [if_pos h1]
  refine zAN ?_
  rcases h1 with h1 | h1 <;> simp [h1]
 ·have h1a:¬ zn<1:=fun h=>h1 (.inl h)
  have h1b:¬ 6<zn:=fun h=>h1 (.inr h)
  rw [if_neg h1,df h1a,df h1b]
  refine (zAB (by rfl)).trans ?_
  by_cases h2:(c.lists.length:Int)=zn
  ·rw [if_pos h2,dt h2]
   refine (zAB (by rfl)).trans ?_
   have hp:=ql2 hc c.lists.length zAF 0 (by omega) (by have:=hc.n; unfold zAF; omega)
   rw [List.drop_zero] at hp
   refine Eq.trans hp ?_
   cases hf:c.lists.flatten.all zFJ with
   | false=>rfl
   | true =>
    rw [if_pos rfl,if_pos rfl]
    unfold zGP
    have hin:∀ f,f∈c.lists.flatten→0≤f∧f<256:=fun f hm=>by
     have:=List.all_eq_true.1 hf f hm
     unfold zFJ at this
     simpa using this
    rw [zf (by rfl),z0i,ql0 hc hin c.lists.length zAF 0 _ (by omega) (by have:=hc.n; unfold zAF; omega) (by rw [List.length_replicate]; rfl),List.drop_zero]
    have hm:=zQJ c.lists.flatten (List.replicate (256:Int).toNat false) (by rw [List.length_replicate]; rfl) hin
    have hz:∀ f:Int,f∈c.lists.flatten→(List.replicate (256:Int).toNat false).getD f.toNat false=false:=fun f _=>by
     rw [List.getD_eq_getElem?_getD,List.getElem?_replicate]
     split <;> rfl
    by_cases hd:c.lists.flatten.Nodup
    ·rw [if_pos hd]
     have:=hm.2 ⟨hd,hz⟩
     cases hq:zKc (List.replicate (256:Int).toNat false) c.lists.flatten with
     | none=>exact absurd hq this
     | some d=>rfl
    ·rw [if_neg hd]
     cases hq:zKc (List.replicate (256:Int).toNat false) c.lists.flatten with
     | none=>rfl
     | some d=>exact absurd (hm.1 (by rw [hq]; simp)).1 hd
  ·rw [if_neg h2,df h2]
   rfl
end
end Go.Proofs.YtplkliakhdkpcaaGreat
namespace Go.Proofs.YtplkliakhdkpcaaGreat
open Go Go.RowKit Go.Wk Go.Am
structure Al (a:zJ):Prop where
 n:a.nodes.length≤1000
 z:a.zones.length≤1000
 c:a.caches.length≤1000
 zk:∀ z,z∈a.zones→Zk z∧inI z.start=true
 ck:∀ c,c∈a.caches→Ck c
def inZ (z:zi) (f:Int):Bool:=decide (z.start≤f)&&decide (f<z.start+z.count)
def zE:Int→List zi→Int
 | _,[]=>0
 | s,z::r=>if zDu z=0 then (if z.start=s then zE (s+z.count) r else 10) else zDu z
def cE (h zn:Int):List zL→Int
 | []=>0
 | c::r=>if pcR c zn=0 then (if (c.lists.any fun l=>decide (h<(l.length:Int)))=true then 9 else cE h zn r) else pcR c zn
def feL (z:zi):List Bool→List Int→Int×List Bool
 | d,[]=>(0,d)
 | d,f::r=>if inZ z f=true then (if (d.getD f.toNat false||zKu z f)=true then (7,d) else feL z (d.set f.toNat true) r) else (2,d)
def feC:List Bool→List zi→List (List Int)→Int×List Bool
 | d,z::zs,l::ls=>if (feL z d l).1=0 then feC (feL z d l).2 zs ls else feL z d l
 | d,_,_=>(0,d)
def feA (zs:List zi):List Bool→List zL→Int
 | _,[]=>0
 | d,c::cs=>if (feC d zs c.lists).1=0 then feA zs (feC d zs c.lists).2 cs else (feC d zs c.lists).1
def zTg (a:zJ):Int :=
 if zTf a.nodes a.batch a.high (a.zones.length:Int)=true then
  (if zE 0 a.zones=0 then
   (if (a.caches.length:Int)=(a.nodes.length:Int) then
    (if cE a.high (a.zones.length:Int) a.caches=0 then feA a.zones zEw a.caches else cE a.high (a.zones.length:Int) a.caches) else 3)
  else zE 0 a.zones) else 2
section
variable {a:zJ}
theorem zAn {α:Type} [Inhabited α] {l:List α} {i:Nat} (h:i<l.length):at_ l (i:Int)∈l:=by rw [zHL h]; exact List.getElem_mem h
theorem zCZ {α:Type} [Inhabited α] {l:List α} {i:Nat} (h:i<l.length):l.drop i=at_ l (i:Int)::l.drop (i+1):=by rw [zHL h]; exact List.drop_eq_getElem_cons h
theorem zl5 (h:Al a):∀ (m n i:Nat) (s:Int),i+m=a.zones.length→m<n→0≤s∧s≤i*256 →
  zDi a n s (i:Int)=if zE s (a.zones.drop i)=0 then zDl a else some (zE s (a.zones.drop i)):=by
 have hz:=h.z
 intro m
 induction m with
 | zero =>
  intro n i s h1 h2 h3
  obtain ⟨n,rfl⟩:=ex1 ‹_<n›
  show zCD _ _ _ _=_
  unfold zCD
  rw [zAB (df (by omega)),List.drop_eq_nil_of_le (by omega)]
  rfl
 | succ m ih =>
  intro n i s h1 h2 h3
  obtain ⟨n,rfl⟩:=ex1 ‹_<n›
  have hi:i<a.zones.length:=by omega
  have hk:=h.zk _ (zAn hi)
  show zCD _ _ _ _=_
  unfold zCD
  rw [zAN (dt (by omega)),zf (zAK hi),zQA hk.1 hk.2,zBt,zCZ hi]
  unfold zE
  generalize hz':at_ a.zones (i:Int)=z at *
  by_cases hc:zDu z=0
  ·have hb:=zBR (zCs hc)
   rw [dt hc,if_pos hc,Bool.not_true,zAB rfl]
   by_cases hs:z.start=s
   ·rw [dt hs,if_pos hs,Bool.not_true,zAB rfl,zf (zAE (by omega)),zf (zAE (by omega))]
    exact ih n (i+1) (s+z.count) (by omega) (by omega) (by omega)
   ·rw [df hs,if_neg hs]
    rfl
  ·rw [df hc,if_neg hc,if_neg hc]
   rfl
theorem zr0 (h:Al a):∀ (m n i:Nat) (s:Int),i+m=a.zones.length→m<n→0≤s∧s≤i*256 →
  zGR a n s (i:Int)=if zE s (a.zones.drop i)=0 then zGV a else some (zE s (a.zones.drop i)):=by
 have hz:=h.z
 intro m
 induction m with
 | zero =>
  intro n i s h1 h2 h3
  obtain ⟨n,rfl⟩:=ex1 ‹_<n›
  show zEK _ _ _ _=_
  unfold zEK
  rw [zAB (df (by omega)),List.drop_eq_nil_of_le (by omega)]
  rfl
 | succ m ih =>
  intro n i s h1 h2 h3
  obtain ⟨n,rfl⟩:=ex1 ‹_<n›
  have hi:i<a.zones.length:=by omega
  have hk:=h.zk _ (zAn hi)
  show zEK _ _ _ _=_
  unfold zEK
  rw [zAN (dt (by omega)),zf (zAK hi),zQ7 hk.1,zBt,zCZ hi]
  unfold zE
  generalize hz':at_ a.zones (i:Int)=z at *
  by_cases hc:zDu z=0
  ·have hb:=zBR (zCs hc)
   rw [dt hc,if_pos hc,Bool.not_true,zAB rfl]
   by_cases hs:z.start=s
   ·rw [dt hs,if_pos hs,Bool.not_true,zAB rfl,zf (zAE (by omega)),zf (zAE (by omega))]
    exact ih n (i+1) (s+z.count) (by omega) (by omega) (by omega)
   ·rw [df hs,if_neg hs]
    rfl
  ·rw [df hc,if_neg hc,if_neg hc]
   rfl
theorem zRL {l:List (List Int)} {h:Int} {i:Nat} (hi:i<l.length):((l.drop i).any fun q=>decide (h<(q.length:Int)))=(decide (h<((at_ l (i:Int)).length:Int))||(l.drop (i+1)).any fun q=>decide (h<(q.length:Int))):=by
 rw [zCZ hi,List.any_cons]
theorem hl4 {se:Int→Option Int} {c:zL} {j:Nat} (hj:j<a.caches.length) (hc:at_ a.caches (j:Int)=c) (hk:Ck c) (ha:Al a):∀ (m n i:Nat),i+m=c.lists.length→m<n →
  zDk se a (j:Int) n (i:Int)=if ((c.lists.drop i).any fun l=>decide (a.high<(l.length:Int)))=true then some 9 else se ((j+1:Nat):Int):=by
 have hn:=hk.n
 have hcl:=ha.c
 intro m
 induction m with
 | zero =>
  intro n i h1 h2
  obtain ⟨n,rfl⟩:=ex1 ‹_<n›
  show zB7 _ _ _ _ _=_
  unfold zB7 zFR
  rw [hc,zAB (df (by omega)),zf (zAE (by omega)),List.drop_eq_nil_of_le (by omega)]
  rfl
 | succ m ih =>
  intro n i h1 h2
  obtain ⟨n,rfl⟩:=ex1 ‹_<n›
  have hi:i<c.lists.length:=by omega
  show zB7 _ _ _ _ _=_
  unfold zB7
  rw [hc,zAN (dt (by omega)),zf (zAK hi),zRL hi,zf (zAE (by omega))]
  cases decide (a.high<((at_ c.lists (i:Int)).length:Int)) with
  | true=>rfl
  | false=>exact ih n (i+1) (by omega) (by omega)
theorem rl4 {se:Int→Option Int} {c:zL} {j:Nat} (hj:j<a.caches.length) (hc:at_ a.caches (j:Int)=c) (hk:Ck c) (ha:Al a) (hzl:c.lists.length=a.zones.length):∀ (m n i:Nat),i+m=c.lists.length→m<n →
  zC5 se a (j:Int) n (i:Int)=if ((c.lists.drop i).any fun l=>decide (a.high<(l.length:Int)))=true then some 9 else se ((j+1:Nat):Int):=by
 have hn:=hk.n
 have hcl:=ha.c
 intro m
 induction m with
 | zero =>
  intro n i h1 h2
  obtain ⟨n,rfl⟩:=ex1 ‹_<n›
  show zBh _ _ _ _ _=_
  unfold zBh zEQ
  rw [zAB (df (by omega)),zf (zAE (by omega)),List.drop_eq_nil_of_le (by omega)]
  rfl
 | succ m ih =>
  intro n i h1 h2
  obtain ⟨n,rfl⟩:=ex1 ‹_<n›
  have hi:i<c.lists.length:=by omega
  show zBh _ _ _ _ _=_
  unfold zBh
  rw [hc,zAN (dt (by omega)),zf (zAK hj),zf (zAK hi),zRL hi,zf (zAE (by omega))]
  cases decide (a.high<((at_ c.lists (i:Int)).length:Int)) with
  | true=>rfl
  | false=>exact ih n (i+1) (by omega) (by omega)
theorem zSv {c:zL} {zn:Int} (h:pcR c zn=0):(c.lists.length:Int)=zn∧(∀ f,f∈c.lists.flatten→zFJ f=true):=by
 unfold pcR at h
 split at h
 ·cases h
 ·split at h
  ·rename_i h2
   split at h
   ·rename_i h3
    exact ⟨h2,fun f hf=>List.all_eq_true.1 h3 f hf⟩
   ·cases h
  ·cases h
theorem hl3 (ha:Al a):∀ (m n i:Nat),i+m=a.caches.length→m<n →
  zBS a n (i:Int)=if cE a.high (a.zones.length:Int) (a.caches.drop i)=0 then zDh a else some (cE a.high (a.zones.length:Int) (a.caches.drop i)):=by
 have hcl:=ha.c
 intro m
 induction m with
 | zero =>
  intro n i h1 h2
  obtain ⟨n,rfl⟩:=ex1 ‹_<n›
  show zCK _ _ _=_
  unfold zCK
  rw [zAB (df (by omega)),List.drop_eq_nil_of_le (by omega)]
  rfl
 | succ m ih =>
  intro n i h1 h2
  obtain ⟨n,rfl⟩:=ex1 ‹_<n›
  have hi:i<a.caches.length:=by omega
  have hk:=ha.ck _ (zAn hi)
  show zCK _ _ _=_
  unfold zCK
  rw [zAN (dt (by omega)),zf (zAK hi),zUl hk,zBt,zCZ hi]
  unfold cE
  by_cases h0:pcR (at_ a.caches (i:Int)) (a.zones.length:Int)=0
  ·rw [dt h0,if_pos h0,Bool.not_true,zAB rfl,z0i,hl4 hi rfl hk ha _ zAF 0 (Nat.zero_add _) (by have:=hk.n; unfold zAF; omega),List.drop_zero]
   cases hq:((at_ a.caches (i:Int)).lists.any fun l=>decide (a.high<(l.length:Int))) with
   | true=>rfl
   | false =>
    rw [if_neg Bool.false_ne_true,if_neg Bool.false_ne_true]
    exact ih n (i+1) (by omega) (by omega)
  ·rw [df h0,if_neg h0,if_neg h0]
   rfl
theorem rl3 (ha:Al a):∀ (m n i:Nat),i+m=a.caches.length→m<n →
  zA7 a n (i:Int)=if cE a.high (a.zones.length:Int) (a.caches.drop i)=0 then zC6 a else some (cE a.high (a.zones.length:Int) (a.caches.drop i)):=by
 have hcl:=ha.c
 intro m
 induction m with
 | zero =>
  intro n i h1 h2
  obtain ⟨n,rfl⟩:=ex1 ‹_<n›
  show zBf _ _ _=_
  unfold zBf
  rw [zAB (df (by omega)),List.drop_eq_nil_of_le (by omega)]
  rfl
 | succ m ih =>
  intro n i h1 h2
  obtain ⟨n,rfl⟩:=ex1 ‹_<n›
  have hi:i<a.caches.length:=by omega
  have hk:=ha.ck _ (zAn hi)
  show zBf _ _ _=_
  unfold zBf
  rw [zAN (dt (by omega)),zf (zAK hi),zUp hk,zBt,zCZ hi]
  unfold cE
  by_cases h0:pcR (at_ a.caches (i:Int)) (a.zones.length:Int)=0
  ·have hlen:=(zSv h0).1
   rw [dt h0,if_pos h0,Bool.not_true,zAB rfl,z0i,rl4 hi rfl hk ha (by omega) _ zAF 0 (Nat.zero_add _) (by have:=hk.n; unfold zAF; omega),List.drop_zero]
   cases hq:((at_ a.caches (i:Int)).lists.any fun l=>decide (a.high<(l.length:Int))) with
   | true=>rfl
   | false =>
    rw [if_neg Bool.false_ne_true,if_neg Bool.false_ne_true]
    exact ih n (i+1) (by omega) (by omega)
  ·rw [df h0,if_neg h0,if_neg h0]
   rfl
def zIx (f:Int):List zi→Nat→Int
 | [],_ => -1
 | z::r,i=>if inZ z f=true then (i:Int) else zIx f r (i+1)
theorem zSV (f:Int):∀ (zs:List zi) (i:Nat),zIx f zs i = -1∨((i:Int)≤zIx f zs i∧zIx f zs i<((i+zs.length:Nat):Int))
 | [],_ => .inl rfl
 | z::r,i=>by
  unfold zIx
  split
  ·exact .inr ⟨Int.le_refl _,by simp; omega⟩
  ·rcases zSV f r (i+1) with h | h
   ·exact .inl h
   ·exact .inr ⟨by omega,by simp; omega⟩
def zTV (zs:List zi):Prop:=zs.Pairwise fun x y => ∀ f,inZ x f=true→inZ y f=false
theorem zPt (f:Int):∀ (zs:List zi) (i p:Nat) (hp:p<zs.length),zTV zs→(zIx f zs i=((i+p:Nat):Int)↔inZ zs[p] f=true)
 | [],_,_,hp,_=>absurd hp (by simp)
 | z::r,i,p,hp,ha=>by
  have ha':=List.pairwise_cons.1 ha
  unfold zIx
  cases p with
  | zero =>
   show _↔inZ z f=true
   by_cases h:inZ z f=true
   ·rw [if_pos h]; simp [h]
   ·rw [if_neg h]
    refine ⟨fun e => ?_,fun e=>absurd e h⟩
    rcases zSV f r (i+1) with h1 | h1 <;> omega
  | succ p =>
   have hp':p<r.length:=by simpa using hp
   show _↔inZ r[p] f=true
   by_cases h:inZ z f=true
   ·rw [if_pos h,ha'.1 _ (List.getElem_mem hp') f h]
    refine ⟨fun e=>by omega,fun e=>by cases e⟩
   ·rw [if_neg h,show i+(p+1)=i+1+p by omega]
    exact zPt f r (i+1) p hp' ha'.2
theorem zR7:∀ {zs:List zi} {s:Int},zE s zs=0→(∀ z,z∈zs→zDu z=0∧s≤z.start)∧zTV zs
 | [],_,_=>⟨fun z hz=>absurd hz (by simp),List.Pairwise.nil⟩
 | z::r,s,h=>by
  unfold zE at h
  by_cases hc:zDu z=0
  ·rw [if_pos hc] at h
   by_cases hs:z.start=s
   ·rw [if_pos hs] at h
    have hb:=zBR (zCs hc)
    obtain ⟨h1,h2⟩:=zR7 h
    refine ⟨fun y hy => ?_,List.pairwise_cons.2 ⟨fun y hy f hf => ?_,h2⟩⟩
    ·rcases List.mem_cons.1 hy with rfl | hy
     ·exact ⟨hc,by omega⟩
     ·have:=h1 y hy
      exact ⟨this.1,by omega⟩
    ·have:=(h1 y hy).2
     unfold inZ at hf ⊢
     simp only [Bool.and_eq_true,decide_eq_true_eq] at hf
     rw [df (by omega)]
     rfl
   ·rw [if_neg hs] at h; cases h
  ·rw [if_neg hc] at h; exact absurd h hc
theorem zVQ {f:Int} (ha:Al a) (hv:∀ z,z∈a.zones→zDu z=0):∀ (m n i:Nat),i+m=a.zones.length→m<n →
  zAg a.zones (fun y=>zCz y f) n (i:Int)=some (zIx f (a.zones.drop i) i):=by
 have hzl:=ha.z
 intro m
 induction m with
 | zero =>
  intro n i h1 h2
  obtain ⟨n,rfl⟩:=ex1 ‹_<n›
  show zAO _ _ _ _=_
  unfold zAO
  rw [zAB (df (by omega)),List.drop_eq_nil_of_le (by omega)]
  rfl
 | succ m ih =>
  intro n i h1 h2
  obtain ⟨n,rfl⟩:=ex1 ‹_<n›
  have hi:i<a.zones.length:=by omega
  have hb:=zBR (zCs (hv _ (zAn hi)))
  show zAO _ _ _ _=_
  unfold zAO
  have hz1:zCz (at_ a.zones (i:Int)) f=some (inZ (at_ a.zones (i:Int)) f):=by
   unfold zCz
   rw [zf (zNo (zAE (by omega)))]
   rfl
  rw [zAN (dt (by omega)),zf (zAK hi)]
  show ((zCz (at_ a.zones (i:Int)) f).bind _)=_
  rw [hz1,zBt,zCZ hi,zf (zAE (by omega))]
  unfold zIx
  cases inZ (at_ a.zones (i:Int)) f with
  | true=>rfl
  | false=>exact ih n (i+1) (by omega) (by omega)
theorem zXG {f:Int} (ha:Al a) (hv:∀ z,z∈a.zones→zDu z=0):zCq a f=some (zIx f a.zones 0):=by
 unfold zCq zBH
 have:=zVQ (f:=f) ha hv a.zones.length zAF 0 (by omega) (by have:=ha.z; unfold zAF; omega)
 rw [List.drop_zero] at this
 rw [z0i,this]
 rfl
theorem zV6 {f:Int} (ha:Al a) (hv:∀ z,z∈a.zones→zDu z=0):∀ (m n i:Nat),i+m=a.zones.length→m<n→zHQ a f n (i:Int)=some (zIx f (a.zones.drop i) i):=by
 have hzl:=ha.z
 intro m
 induction m with
 | zero =>
  intro n i h1 h2
  obtain ⟨n,rfl⟩:=ex1 ‹_<n›
  show zEz _ _ _ _=_
  unfold zEz
  rw [zAB (df (by omega)),List.drop_eq_nil_of_le (by omega)]
  rfl
 | succ m ih =>
  intro n i h1 h2
  obtain ⟨n,rfl⟩:=ex1 ‹_<n›
  have hi:i<a.zones.length:=by omega
  have hb:=zBR (zCs (hv _ (zAn hi)))
  show zEz _ _ _ _=_
  unfold zEz
  rw [zAN (dt (by omega)),zf (zAK hi),zf (zNo (zAE (by omega))),zCZ hi,zf (zAE (by omega))]
  unfold zIx
  show cnd (inZ (at_ a.zones (i:Int)) f) _ _=_
  cases inZ (at_ a.zones (i:Int)) f with
  | true=>rfl
  | false=>exact ih n (i+1) (by omega) (by omega)
theorem zXq {f:Int} (ha:Al a) (hv:∀ z,z∈a.zones→zDu z=0):zKE a f=some (zIx f a.zones 0):=by
 unfold zKE
 have:=zV6 (f:=f) ha hv a.zones.length zAF 0 (by omega) (by have:=ha.z; unfold zAF; omega)
 rw [List.drop_zero] at this
 exact this
theorem zMq (z:zi):∀ (l:List Int) (d:List Bool),(feL z d l).2.length=d.length
 | [],_=>rfl
 | f::l,d=>by
  unfold feL
  split
  ·split
   ·rfl
   ·rw [zMq z l,List.length_set]
  ·rfl
theorem zPP:∀ (zs:List zi) (ls:List (List Int)) (d:List Bool),(feC d zs ls).2.length=d.length
 | [],_,_=>by unfold feC; rfl
 | _::_,[],_=>by unfold feC; rfl
 | z::zs,l::ls,d=>by
  unfold feC
  split
  ·rw [zPP zs ls,zMq]
  ·exact zMq z l d
def SM (q:List (Int×Bool)) (d:List Bool):Prop := ∀ f:Nat,f<256→zNP false q (f:Int)=d.getD f false
theorem zR0 (k f:Int):∀ (q:List (Int×Bool)),zNP false (zKx q k true) f=if f=k then true else zNP false q f
 | []=>by
  unfold zKx zNP
  by_cases h:f=k
  ·rw [if_pos h,h]; simp
  ·rw [if_neg h]
   have:¬ k=f:=fun e=>h e.symm
   simp [this]
 | p::q=>by
  have ih:=zR0 k f q
  unfold zKx
  by_cases hp:p.1=k
  ·rw [if_pos hp]
   unfold zNP
   by_cases h:f=k
   ·rw [if_pos h,h]; simp
   ·rw [if_neg h]
    have h1:¬ k=f:=fun e=>h e.symm
    have h2:¬ p.1=f:=fun e=>h (by rw [← e,hp])
    simp [h1,h2]
  ·rw [if_neg hp]
   by_cases h2:p.1=f
   ·have h1:¬ f=k:=fun e=>hp (by rw [h2,e])
    rw [if_neg h1]
    unfold zNP
    simp [h2]
   ·have e1:∀ r:List (Int×Bool),zNP false (p::r) f=zNP false r f:=fun r=>by unfold zNP; simp [h2]
    rw [e1,e1,ih]
theorem SM.set {q:List (Int×Bool)} {d:List Bool} {k:Nat} (h:SM q d) (hd:d.length=256) (hk:k<256):SM (zKx q (k:Int) true) (d.set k true):=by
 intro f hf
 rw [zR0,zCC _ _ _ (by omega),h f hf]
 by_cases e:f=k
 ·rw [if_pos e,if_pos (by omega)]
 ·rw [if_neg e,if_neg (by omega)]
theorem zPq {z:zi} {f:Int} (hr:ranges z=true) (h:inZ z f=true):0≤f∧f<256:=by
 have hb:=zBR hr
 unfold inZ at h
 simp only [Bool.and_eq_true,decide_eq_true_eq] at h
 omega
theorem zXx {α:Type} {b c:Bool} {x y:Option α}:(cnd (!b) (some c) (some default)).bind (fun q=>cnd (b||q) x y)=cnd (b||c) x y:=by
 cases b <;> rfl
theorem el2 {se:Int→List (Int×Bool)→Option Int} {c:zL} {j p:Nat} {z:zi} {l:List Int} (ha:Al a) (hv:∀ z,z∈a.zones→zDu z=0) (hap:zTV a.zones) (hj:j<a.caches.length) (hc:at_ a.caches (j:Int)=c) (hp:p<c.lists.length) (hpz:p<a.zones.length) (hz:at_ a.zones (p:Int)=z) (hl:at_ c.lists (p:Int)=l) (hll:l.length≤1000) (hpb:p≤1000) :
  ∀ (m n i:Nat) (q:List (Int×Bool)) (d:List Bool),i+m=l.length→m<n→d.length=256→SM q d → ∃ q',SM q' (feL z d (l.drop i)).2 ∧
   zBl se a (j:Int) (p:Int) n (i:Int) q=if (feL z d (l.drop i)).1=0 then se ((p+1:Nat):Int) q' else some (feL z d (l.drop i)).1:=by
 have hkz:=ha.zk z (hz▸zAn hpz)
 have hcz:=hv z (hz▸zAn hpz)
 intro m
 induction m with
 | zero =>
  intro n i q d h1 h2 h3 h4
  obtain ⟨n,rfl⟩:=ex1 ‹_<n›
  rw [List.drop_eq_nil_of_le (by omega)]
  refine ⟨q,h4,?_⟩
  show zCA _ _ _ _ _ _ _=_
  unfold zCA zFP
  rw [hc,hl,zAB (df (by omega)),zf (zAE (by omega))]
  rfl
 | succ m ih =>
  intro n i q d h1 h2 h3 h4
  obtain ⟨n,rfl⟩:=ex1 ‹_<n›
  have hi:i<l.length:=by omega
  have hx:=zPt (at_ l (i:Int)) a.zones 0 p hpz hap
  rw [← zHL hpz,hz,Nat.zero_add] at hx
  have ee:zBl se a (j:Int) (p:Int) (n+1) (i:Int) q=cnd (!decide (zIx (at_ l (i:Int)) a.zones 0=(p:Int))) (some 2) (cnd (zNP false q (at_ l (i:Int))||zKu z (at_ l (i:Int))) (some 7) (zBl se a (j:Int) (p:Int) n ((i+1:Nat):Int) (zKx q (at_ l (i:Int)) true))):=by
   show zCA _ _ _ _ _ _ _=_
   unfold zCA
   rw [hc,hl,zAN (dt (by omega)),zf (zAK hi),zXG ha hv,zBt,zf (zNo (zAK hpz)),hz,zXB hkz.1 hkz.2,zXx,zf (zAE (by omega))]
   rfl
  rw [ee,zCZ hi]
  unfold feL
  generalize at_ l (i:Int)=f at *
  cases hq:inZ z f with
  | false =>
   rw [df (fun e=>by rw [hx.1 e] at hq; cases hq)]
   exact ⟨q,h4,rfl⟩
  | true =>
   have hf:=zPq (zCs hcz) hq
   obtain ⟨g,rfl⟩:=Int.eq_ofNat_of_zero_le hf.1
   rw [dt (hx.2 hq),Bool.not_true,zAB rfl,if_pos rfl,h4 g (by omega),Int.toNat_natCast]
   cases hr:(d.getD g false||zKu z (g:Int)) with
   | true=>exact ⟨q,h4,rfl⟩
   | false =>
    rw [zAB rfl,if_neg Bool.false_ne_true]
    exact ih n (i+1) _ _ (by omega) (by omega) (by rw [List.length_set]; exact h3) (h4.set h3 (by omega))
theorem el1 {se:Int→List (Int×Bool)→Option Int} {c:zL} {j:Nat} (ha:Al a) (hv:∀ z,z∈a.zones→zDu z=0) (hap:zTV a.zones) (hj:j<a.caches.length) (hc:at_ a.caches (j:Int)=c) (hlen:c.lists.length=a.zones.length) :
  ∀ (m n p:Nat) (q:List (Int×Bool)) (d:List Bool),p+m=c.lists.length→m<n→d.length=256→SM q d → ∃ q',SM q' (feC d (a.zones.drop p) (c.lists.drop p)).2 ∧
   zAs se a (j:Int) n (p:Int) q=if (feC d (a.zones.drop p) (c.lists.drop p)).1=0 then se ((j+1:Nat):Int) q' else some (feC d (a.zones.drop p) (c.lists.drop p)).1:=by
 have hcl:=ha.c
 have hck:=ha.ck c (hc▸zAn hj)
 have hn:=hck.n
 intro m
 induction m with
 | zero =>
  intro n p q d h1 h2 h3 h4
  obtain ⟨n,rfl⟩:=ex1 ‹_<n›
  rw [List.drop_eq_nil_of_le (show a.zones.length≤p by omega)]
  unfold feC
  refine ⟨q,h4,?_⟩
  show zCO _ _ _ _ _ _=_
  unfold zCO zFM
  rw [hc,zAB (df (by omega)),zf (zAE (by omega))]
  rfl
 | succ m ih =>
  intro n p q d h1 h2 h3 h4
  obtain ⟨n,rfl⟩:=ex1 ‹_<n›
  have hp:p<c.lists.length:=by omega
  have hpz:p<a.zones.length:=by omega
  have hll:=hck.l _ (zAn hp)
  obtain ⟨q1,s1,s2⟩:=el2 (se:=zAs se a (j:Int) n) ha hv hap hj hc hp hpz rfl rfl hll (by omega) _ zAF 0 q d (Nat.zero_add _) (by unfold zAF; omega) h3 h4
  rw [List.drop_zero] at s1 s2
  have ee:zAs se a (j:Int) (n+1) (p:Int) q=zBl (zAs se a (j:Int) n) a (j:Int) (p:Int) zAF ((0:Nat):Int) q:=by
   show zCO _ _ _ _ _ _=_
   unfold zCO
   rw [hc,zAN (dt (by omega)),zf (zAK hp)]
   rfl
  rw [ee,s2,zCZ hp,zCZ hpz]
  unfold feC
  by_cases h0:(feL (at_ a.zones (p:Int)) d (at_ c.lists (p:Int))).1=0
  ·rw [if_pos h0,if_pos h0]
   exact ih n (p+1) q1 _ (by omega) (by omega) (by rw [zMq]; exact h3) s1
  ·rw [if_neg h0,if_neg h0]
   exact ⟨q1,s1,(if_neg h0).symm⟩
theorem el0 (ha:Al a) (hv:∀ z,z∈a.zones→zDu z=0) (hap:zTV a.zones) (hlen:∀ c,c∈a.caches→c.lists.length=a.zones.length) :
  ∀ (m n j:Nat) (q:List (Int×Bool)) (d:List Bool),j+m=a.caches.length→m<n→d.length=256→SM q d→zAY a n (j:Int) q=some (feA a.zones d (a.caches.drop j)):=by
 have hcl:=ha.c
 intro m
 induction m with
 | zero =>
  intro n j q d h1 h2 h3 h4
  obtain ⟨n,rfl⟩:=ex1 ‹_<n›
  show zCI _ _ _ _=_
  unfold zCI
  rw [zAB (df (by omega)),List.drop_eq_nil_of_le (by omega)]
  rfl
 | succ m ih =>
  intro n j q d h1 h2 h3 h4
  obtain ⟨n,rfl⟩:=ex1 ‹_<n›
  have hj:j<a.caches.length:=by omega
  have hl:=hlen _ (zAn hj)
  obtain ⟨q1,s1,s2⟩:=el1 (se:=zAY a n) ha hv hap hj rfl hl _ zAF 0 q d (Nat.zero_add _) (by have:=(ha.ck _ (zAn hj)).n; unfold zAF; omega) h3 h4
  rw [List.drop_zero,List.drop_zero] at s1 s2
  show zCI _ _ _ _=_
  unfold zCI
  rw [zAN (dt (by omega)),zf (zAK hj),z0i,s2,zCZ hj]
  unfold feA
  by_cases h0:(feC d a.zones (at_ a.caches (j:Int)).lists).1=0
  ·rw [if_pos h0,if_pos h0]
   exact ih n (j+1) q1 _ (by omega) (by omega) (by rw [zPP]; exact h3) s1
  ·rw [if_neg h0,if_neg h0]
theorem fl2 {se:Int→List Bool→Option Int} {c:zL} {j p:Nat} {z:zi} {l:List Int} (ha:Al a) (hv:∀ z,z∈a.zones→zDu z=0) (hc:at_ a.caches (j:Int)=c) (hpz:p<a.zones.length) (hz:at_ a.zones (p:Int)=z) (hl:at_ c.lists (p:Int)=l) (hll:l.length≤1000) (hpb:p≤1000) :
  ∀ (m n i:Nat) (d:List Bool),i+m=l.length→m<n→d.length=256 →
   zCV se a (j:Int) (p:Int) n (i:Int) d=if (feL z d (l.drop i)).1=0 then se ((p+1:Nat):Int) (feL z d (l.drop i)).2 else some (feL z d (l.drop i)).1:=by
 have hkz:=ha.zk z (hz▸zAn hpz)
 have hcz:=hv z (hz▸zAn hpz)
 have hb:=zBR (zCs hcz)
 intro m
 induction m with
 | zero =>
  intro n i d h1 h2 h3
  obtain ⟨n,rfl⟩:=ex1 ‹_<n›
  rw [List.drop_eq_nil_of_le (by omega)]
  show zBg _ _ _ _ _ _ _=_
  unfold zBg zER
  rw [hc,hl,zAB (df (by omega)),zf (zAE (by omega))]
  rfl
 | succ m ih =>
  intro n i d h1 h2 h3
  obtain ⟨n,rfl⟩:=ex1 ‹_<n›
  have hi:i<l.length:=by omega
  rw [zCZ hi]
  show zBg _ _ _ _ _ _ _=_
  unfold zBg
  rw [hc,hl,zAN (dt (by omega)),zf (zAK hi),zf (zAK hpz),hz,zf (zNo (zAE (by omega)))]
  unfold feL
  generalize at_ l (i:Int)=f at *
  have hin:((decide (f<z.start))||(decide ((z.start+z.count)≤f))) = !inZ z f:=by
   unfold inZ
   rw [Bool.eq_iff_iff]
   simp only [Bool.or_eq_true,decide_eq_true_eq,Bool.not_eq_true',Bool.and_eq_false_iff,decide_eq_false_iff_not]
   omega
  rw [hin]
  cases hq:inZ z f with
  | false=>rfl
  | true =>
   have hf:=zPq (zCs hcz) hq
   obtain ⟨g,rfl⟩:=Int.eq_ofNat_of_zero_le hf.1
   have hg:g<d.length:=by omega
   have ed:at_ d (g:Int)=d.getD g false:=by rw [zHL hg,List.getD_eq_getElem?_getD,List.getElem?_eq_getElem hg]; rfl
   rw [Bool.not_true,zAB rfl,if_pos rfl,zf (zAK hg),ed,zXS hkz.1,zXx,zf (zAE (by omega)),Int.toNat_natCast]
   cases hr:(d.getD g false||zKu z (g:Int)) with
   | true=>rfl
   | false =>
    rw [zAB rfl,if_neg Bool.false_ne_true]
    exact ih n (i+1) _ (by omega) (by omega) (by rw [List.length_set]; exact h3)
theorem fl1 {se:Int→List Bool→Option Int} {c:zL} {j:Nat} (ha:Al a) (hv:∀ z,z∈a.zones→zDu z=0) (hj:j<a.caches.length) (hc:at_ a.caches (j:Int)=c) (hlen:c.lists.length=a.zones.length) :
  ∀ (m n p:Nat) (d:List Bool),p+m=c.lists.length→m<n→d.length=256 →
   zAc se a (j:Int) n (p:Int) d=if (feC d (a.zones.drop p) (c.lists.drop p)).1=0 then se ((j+1:Nat):Int) (feC d (a.zones.drop p) (c.lists.drop p)).2 else some (feC d (a.zones.drop p) (c.lists.drop p)).1:=by
 have hcl:=ha.c
 have hck:=ha.ck c (hc▸zAn hj)
 have hn:=hck.n
 intro m
 induction m with
 | zero =>
  intro n p d h1 h2 h3
  obtain ⟨n,rfl⟩:=ex1 ‹_<n›
  rw [List.drop_eq_nil_of_le (show a.zones.length≤p by omega)]
  unfold feC
  show zBi _ _ _ _ _ _=_
  unfold zBi zEO
  rw [zAB (df (by omega)),zf (zAE (by omega))]
  rfl
 | succ m ih =>
  intro n p d h1 h2 h3
  obtain ⟨n,rfl⟩:=ex1 ‹_<n›
  have hp:p<c.lists.length:=by omega
  have hpz:p<a.zones.length:=by omega
  have hll:=hck.l _ (zAn hp)
  have s2:=fl2 (se:=zAc se a (j:Int) n) ha hv hc hpz rfl rfl hll (by omega) _ zAF 0 d (Nat.zero_add _) (by unfold zAF; omega) h3
  rw [List.drop_zero] at s2
  have ee:zAc se a (j:Int) (n+1) (p:Int) d=zCV (zAc se a (j:Int) n) a (j:Int) (p:Int) zAF ((0:Nat):Int) d:=by
   show zBi _ _ _ _ _ _=_
   unfold zBi
   rw [hc,zAN (dt (by omega)),zf (zAK hj),zf (zAK hp)]
   rfl
  rw [ee,s2,zCZ hp,zCZ hpz]
  unfold feC
  by_cases h0:(feL (at_ a.zones (p:Int)) d (at_ c.lists (p:Int))).1=0
  ·rw [if_pos h0,if_pos h0]
   exact ih n (p+1) _ (by omega) (by omega) (by rw [zMq]; exact h3)
  ·rw [if_neg h0,if_neg h0,if_neg h0]
theorem fl0 (ha:Al a) (hv:∀ z,z∈a.zones→zDu z=0) (hlen:∀ c,c∈a.caches→c.lists.length=a.zones.length) :
  ∀ (m n j:Nat) (d:List Bool),j+m=a.caches.length→m<n→d.length=256→zAT a n (j:Int) d=some (feA a.zones d (a.caches.drop j)):=by
 have hcl:=ha.c
 intro m
 induction m with
 | zero =>
  intro n j d h1 h2 h3
  obtain ⟨n,rfl⟩:=ex1 ‹_<n›
  show zBj _ _ _ _=_
  unfold zBj
  rw [zAB (df (by omega)),List.drop_eq_nil_of_le (by omega)]
  rfl
 | succ m ih =>
  intro n j d h1 h2 h3
  obtain ⟨n,rfl⟩:=ex1 ‹_<n›
  have hj:j<a.caches.length:=by omega
  have hl:=hlen _ (zAn hj)
  have s2:=fl1 (se:=zAT a n) ha hv hj rfl hl _ zAF 0 d (Nat.zero_add _) (by have:=(ha.ck _ (zAn hj)).n; unfold zAF; omega) h3
  rw [List.drop_zero,List.drop_zero] at s2
  show zBj _ _ _ _=_
  unfold zBj
  rw [zAN (dt (by omega)),z0i,s2,zCZ hj]
  unfold feA
  by_cases h0:(feC d a.zones (at_ a.caches (j:Int)).lists).1=0
  ·rw [if_pos h0,if_pos h0]
   exact ih n (j+1) _ (by omega) (by omega) (by rw [zPP]; exact h3)
  ·rw [if_neg h0,if_neg h0]
theorem zRq:∀ {cs:List zL} {h zn:Int},cE h zn cs=0 → ∀ c,c∈cs→(c.lists.length:Int)=zn
 | [],_,_,_,_,hc=>absurd hc (by simp)
 | c::cs,h,zn,he,x,hx=>by
  unfold cE at he
  by_cases h0:pcR c zn=0
  ·rw [if_pos h0] at he
   split at he
   ·cases he
   ·rcases List.mem_cons.1 hx with rfl | hx
    ·exact (zSv h0).1
    ·exact zRq he x hx
  ·rw [if_neg h0] at he; exact absurd he h0
theorem zUb (ha:Al a):zAt a=some (zTg a):=by
 have h1:=ha.n
 have h2:=ha.z
 have h3:=ha.c
 unfold zAt zTg
 rw [zR6 (by omega),zBt]
 cases zTf a.nodes a.batch a.high (a.zones.length:Int) with
 | false=>rfl
 | true =>
  have hz:=zl5 ha a.zones.length zAF 0 0 (by omega) (by unfold zAF; omega) (by omega)
  rw [List.drop_zero] at hz
  rw [Bool.not_true,zAB rfl,if_pos rfl]
  refine Eq.trans hz ?_
  by_cases h0:zE 0 a.zones=0
  ·rw [if_pos h0,if_pos h0]
   obtain ⟨z1,z2⟩:=zR7 h0
   unfold zDl
   by_cases hl:(a.caches.length:Int)=(a.nodes.length:Int)
   ·rw [dt hl,if_pos hl,Bool.not_true,zAB rfl,z0i,hl3 ha a.caches.length zAF 0 (by omega) (by unfold zAF; omega),List.drop_zero]
    show (if cE a.high (a.zones.length:Int) a.caches=0 then _ else _)=some (if cE a.high (a.zones.length:Int) a.caches=0 then _ else _)
    by_cases hc:cE a.high (a.zones.length:Int) a.caches=0
    ·rw [if_pos hc,if_pos hc]
     unfold zDh
     rw [z0i,el0 ha (fun z hz=>(z1 z hz).1) z2 (fun c hm=>by have:=zRq hc c hm; omega) a.caches.length zAF 0 [] zEw (by omega) (by unfold zAF; omega) zJO (fun f hf=>by
      unfold zEw zNP
      rw [List.getD_eq_getElem?_getD,List.getElem?_replicate,if_pos hf]
      rfl),List.drop_zero]
    ·rw [if_neg hc,if_neg hc]
   ·rw [df hl,if_neg hl]
    rfl
  ·rw [if_neg h0,if_neg h0]
theorem zTY (ha:Al a):zHt a=some (zTg a):=by
 have h1:=ha.n
 have h2:=ha.z
 have h3:=ha.c
 unfold zHt zTg
 rw [zUA (by omega),zBt]
 cases zTf a.nodes a.batch a.high (a.zones.length:Int) with
 | false=>rfl
 | true =>
  have hz:=zr0 ha a.zones.length zAF 0 0 (by omega) (by unfold zAF; omega) (by omega)
  rw [List.drop_zero] at hz
  rw [Bool.not_true,zAB rfl,if_pos rfl]
  refine Eq.trans hz ?_
  by_cases h0:zE 0 a.zones=0
  ·rw [if_pos h0,if_pos h0]
   obtain ⟨z1,z2⟩:=zR7 h0
   unfold zGV zF1
   by_cases hl:(a.caches.length:Int)=(a.nodes.length:Int)
   ·rw [dt hl,if_pos hl,Bool.not_true,zAB rfl,z0i,rl3 ha a.caches.length zAF 0 (by omega) (by unfold zAF; omega),List.drop_zero]
    show (if cE a.high (a.zones.length:Int) a.caches=0 then (_:Option Int) else _).bind _=some (if cE a.high (a.zones.length:Int) a.caches=0 then _ else _)
    by_cases hc:cE a.high (a.zones.length:Int) a.caches=0
    ·rw [if_pos hc,if_pos hc]
     unfold zC6 zFz
     rw [zf (by rfl),show List.replicate (256:Int).toNat false=zEw from rfl,z0i,fl0 ha (fun z hz=>(z1 z hz).1) (fun c hm=>by have:=zRq hc c hm; omega) a.caches.length zAF 0 zEw (by omega) (by unfold zAF; omega) zJO,List.drop_zero]
     rfl
    ·rw [if_neg hc,if_neg hc]
     rfl
   ·rw [df hl,if_neg hl]
    rfl
  ·rw [if_neg h0,if_neg h0]
end
end Go.Proofs.YtplkliakhdkpcaaGreat
namespace Go.Proofs.YtplkliakhdkpcaaGreat
open Go Go.RowKit Go.Wk Go.Am
section
variable {a:zJ}
structure Va (a:zJ):Prop where
 al:Al a
 z:zE 0 a.zones=0
 len:∀ c,c∈a.caches→c.lists.length=a.zones.length
 z1:1≤a.zones.length
theorem zWg (ha:Al a) (h:zTg a=0):Va a:=by
 unfold zTg at h
 split at h
 ·rename_i hf
  have h16:1≤a.zones.length:=by
   unfold zTf zJe at hf
   simp at hf
   omega
  split at h
  ·rename_i hz
   split at h
   ·rename_i hl
    split at h
    ·rename_i hc
     exact ⟨ha,hz,fun c hm=>by have:=zRq hc c hm; omega,h16⟩
    ·rename_i hc; exact absurd h hc
   ·cases h
  ·rename_i hz; exact absurd h hz
 ·cases h
theorem Va.chk (h:Va a) {z:zi} (hz:z∈a.zones):zDu z=0:=((zR7 h.z).1 z hz).1
theorem zV1 {f:Int} {l:List Int} (hl:l.length≤1000):∀ (m n i:Nat),i+m=l.length→m<n → ∃ r,zBA l f n (i:Int)=some r∧(0≤r↔f∈l.drop i):=by
 intro m
 induction m with
 | zero =>
  intro n i h1 h2
  obtain ⟨n,rfl⟩:=ex1 ‹_<n›
  refine ⟨-1,?_,?_⟩
  ·show zBB _ _ _ _=_
   unfold zBB
   rw [zAB (df (by omega))]
   rfl
  ·rw [List.drop_eq_nil_of_le (by omega)]
   simp
 | succ m ih =>
  intro n i h1 h2
  obtain ⟨n,rfl⟩:=ex1 ‹_<n›
  have hi:i<l.length:=by omega
  have ee:zBA l f (n+1) (i:Int)=cnd (decide (f=at_ l (i:Int))) (some (i:Int)) (zBA l f n ((i+1:Nat):Int)):=by
   show zBB _ _ _ _=_
   unfold zBB
   rw [zAN (dt (by omega)),zf (zAK hi),zf (zAE (by omega))]
   rfl
  rw [ee,zCZ hi]
  by_cases h:f=at_ l (i:Int)
  ·rw [zAN (dt h)]
   exact ⟨_,rfl,⟨fun _=>by rw [h]; simp,fun _=>Int.natCast_nonneg i⟩⟩
  ·rw [zAB (df h)]
   obtain ⟨r,r1,r2⟩:=ih n (i+1) (by omega) (by omega)
   exact ⟨r,r1,by rw [r2,List.mem_cons]; exact ⟨.inr,fun q=>q.resolve_left h⟩⟩
theorem contains {f:Int} {l:List Int} (hl:l.length≤1000):zBw l f=some (decide (f∈l)):=by
 unfold zBw zDo
 obtain ⟨r,r1,r2⟩:=zV1 (f:=f) hl l.length zAF 0 (by omega) (by unfold zAF; omega)
 rw [List.drop_zero] at r2
 rw [z0i,r1,zBt]
 congr 1
 rw [decide_eq_decide]
 exact r2
theorem zS8 (h:Va a) {f:Int} {p:Nat} (hp:p<a.zones.length):∀ (m n j:Nat),j+m=a.caches.length→m<n → ∃ r,zAA a.caches (fun y=>zAi y (p:Int) f) n (j:Int)=some r∧(0≤r ↔ ∃ c,c∈a.caches.drop j∧f∈at_ c.lists (p:Int)):=by
 have hcl:=h.al.c
 intro m
 induction m with
 | zero =>
  intro n j h1 h2
  obtain ⟨n,rfl⟩:=ex1 ‹_<n›
  refine ⟨-1,?_,?_⟩
  ·show zw _ _ _ _=_
   unfold zw
   rw [zAB (df (by omega))]
   rfl
  ·rw [List.drop_eq_nil_of_le (by omega)]
   simp
 | succ m ih =>
  intro n j h1 h2
  obtain ⟨n,rfl⟩:=ex1 ‹_<n›
  have hj:j<a.caches.length:=by omega
  have hl:=h.len _ (zAn hj)
  have hb:=(h.al.ck _ (zAn hj)).l _ (zAn (show p<(at_ a.caches (j:Int)).lists.length by omega))
  have h1c:zAi (at_ a.caches (j:Int)) (p:Int) f=some (decide (f∈at_ (at_ a.caches (j:Int)).lists (p:Int))):=by
   unfold zAi
   rw [zf (zAK (by omega)),contains hb]
   rfl
  have ee:zAA a.caches (fun y=>zAi y (p:Int) f) (n+1) (j:Int)=cnd (decide (f∈at_ (at_ a.caches (j:Int)).lists (p:Int))) (some (j:Int)) (zAA a.caches (fun y=>zAi y (p:Int) f) n ((j+1:Nat):Int)):=by
   show zw _ _ _ _=_
   unfold zw
   rw [zAN (dt (by omega)),zf (zAK hj)]
   show ((zAi (at_ a.caches (j:Int)) (p:Int) f).bind _)=_
   rw [h1c,zBt,zf (zAE (by omega))]
   rfl
  rw [ee,zCZ hj]
  by_cases hm:f∈at_ (at_ a.caches (j:Int)).lists (p:Int)
  ·rw [zAN (dt hm)]
   exact ⟨_,rfl,⟨fun _=>⟨_,by simp,hm⟩,fun _=>Int.natCast_nonneg j⟩⟩
  ·rw [zAB (df hm)]
   obtain ⟨r,r1,r2⟩:=ih n (j+1) (by omega) (by omega)
   refine ⟨r,r1,r2.trans ⟨fun ⟨c,c1,c2⟩=>⟨c,by simp [c1],c2⟩,fun ⟨c,c1,c2⟩ => ?_⟩⟩
   rcases List.mem_cons.1 c1 with rfl | c1
   ·exact absurd c2 hm
   ·exact ⟨c,c1,c2⟩
theorem zXK {se:Int→Option Int} {f:Int} {p j:Nat} {l:List Int} (h:Va a) (hp:p<a.zones.length) (hj:j<a.caches.length) (hl:at_ (at_ a.caches (j:Int)).lists (p:Int)=l):∀ (m n i:Nat),i+m=l.length→m<n →
  (f∈l.drop i→zCJ se a (p:Int) f (j:Int) n (i:Int)=some (j:Int))∧(f ∉ l.drop i→zCJ se a (p:Int) f (j:Int) n (i:Int)=se ((j+1:Nat):Int)):=by
 have hcl:=h.al.c
 have hlen:=h.len _ (zAn hj)
 have hb:=(h.al.ck _ (zAn hj)).l _ (zAn (show p<(at_ a.caches (j:Int)).lists.length by omega))
 rw [hl] at hb
 intro m
 induction m with
 | zero =>
  intro n i h1 h2
  obtain ⟨n,rfl⟩:=ex1 ‹_<n›
  rw [List.drop_eq_nil_of_le (by omega)]
  refine ⟨fun hm=>absurd hm (by simp),fun _ => ?_⟩
  show zDJ _ _ _ _ _ _ _=_
  unfold zDJ zHR
  rw [hl,zf (zAK hj),zf (zAK (by omega)),zAB (df (by omega)),zf (zAE (by omega))]
  rfl
 | succ m ih =>
  intro n i h1 h2
  obtain ⟨n,rfl⟩:=ex1 ‹_<n›
  have hi:i<l.length:=by omega
  have ee:zCJ se a (p:Int) f (j:Int) (n+1) (i:Int)=cnd (decide (at_ l (i:Int)=f)) (some (j:Int)) (zCJ se a (p:Int) f (j:Int) n ((i+1:Nat):Int)):=by
   show zDJ _ _ _ _ _ _ _=_
   unfold zDJ
   rw [hl,zf (zAK hj),zf (zAK (by omega)),zAN (dt (by omega)),zf (zAK hi),zf (zAE (by omega))]
   rfl
  rw [ee,zCZ hi]
  by_cases hq:at_ l (i:Int)=f
  ·rw [zAN (dt hq)]
   exact ⟨fun _=>rfl,fun hn=>absurd (by rw [hq]; simp) hn⟩
  ·rw [zAB (df hq)]
   obtain ⟨r1,r2⟩:=ih n (i+1) (by omega) (by omega)
   refine ⟨fun hm=>r1 ?_,fun hn=>r2 (fun hm=>hn (by simp [hm]))⟩
   rcases List.mem_cons.1 hm with e | e
   ·exact absurd e.symm hq
   ·exact e
theorem zSP (h:Va a) {f:Int} {p:Nat} (hp:p<a.zones.length):∀ (m n j:Nat),j+m=a.caches.length→m<n → ∃ r,zA2 a (p:Int) f n (j:Int)=some r∧(0≤r ↔ ∃ c,c∈a.caches.drop j∧f∈at_ c.lists (p:Int)):=by
 have hcl:=h.al.c
 intro m
 induction m with
 | zero =>
  intro n j h1 h2
  obtain ⟨n,rfl⟩:=ex1 ‹_<n›
  refine ⟨-1,?_,?_⟩
  ·show zBX _ _ _ _ _=_
   unfold zBX
   rw [zAB (df (by omega))]
   rfl
  ·rw [List.drop_eq_nil_of_le (by omega)]
   simp
 | succ m ih =>
  intro n j h1 h2
  obtain ⟨n,rfl⟩:=ex1 ‹_<n›
  have hj:j<a.caches.length:=by omega
  have hlen:=h.len _ (zAn hj)
  have hb:=(h.al.ck _ (zAn hj)).l _ (zAn (show p<(at_ a.caches (j:Int)).lists.length by omega))
  obtain ⟨i1,i2⟩:=zXK (se:=zA2 a (p:Int) f n) (f:=f) h hp hj rfl _ zAF 0 (Nat.zero_add _) (by unfold zAF; omega)
  rw [List.drop_zero] at i1 i2
  have ee:zA2 a (p:Int) f (n+1) (j:Int)=zCJ (zA2 a (p:Int) f n) a (p:Int) f (j:Int) zAF ((0:Nat):Int):=by
   show zBX _ _ _ _ _=_
   unfold zBX
   rw [zAN (dt (by omega))]
   rfl
  rw [ee,zCZ hj]
  by_cases hm:f∈at_ (at_ a.caches (j:Int)).lists (p:Int)
  ·rw [i1 hm]
   exact ⟨_,rfl,⟨fun _=>⟨_,by simp,hm⟩,fun _=>Int.natCast_nonneg j⟩⟩
  ·rw [i2 hm]
   obtain ⟨r,r1,r2⟩:=ih n (j+1) (by omega) (by omega)
   refine ⟨r,r1,r2.trans ⟨fun ⟨c,c1,c2⟩=>⟨c,by simp [c1],c2⟩,fun ⟨c,c1,c2⟩ => ?_⟩⟩
   rcases List.mem_cons.1 c1 with rfl | c1
   ·exact absurd c2 hm
   ·exact ⟨c,c1,c2⟩
def Gz (z:zi):Prop:=z.free.length=5∧inI z.start=true
theorem zXZ {z:zi}:∀ (m n k:Nat),k+m=5→m<n → ∃ b,zFp z n (k:Int)=some b∧(b=true → ∀ j,k≤j→j<5→(lst z j).length≤300):=by
 intro m
 induction m with
 | zero =>
  intro n k h1 h2
  obtain ⟨n,rfl⟩:=ex1 ‹_<n›
  refine ⟨true,?_,fun _ j h3 h4=>by omega⟩
  show zFb _ _ _=_
  unfold zFb
  rw [zAB (df (by omega))]
  rfl
 | succ m ih =>
  intro n k h1 h2
  obtain ⟨n,rfl⟩:=ex1 ‹_<n›
  have ee:zFp z (n+1) (k:Int)=cnd (decide (300<((lst z k).length:Int))) (some false) (zFp z n ((k+1:Nat):Int)):=by
   show zFb _ _ _=_
   unfold zFb
   rw [zAN (dt (by omega)),zf (zAK (by omega)),zf (zAE (by omega))]
   rfl
  rw [ee]
  by_cases h:300<((lst z k).length:Int)
  ·rw [zAN (dt h)]
   exact ⟨false,rfl,fun e=>by cases e⟩
  ·rw [zAB (df h)]
   obtain ⟨b,b1,b2⟩:=ih n (k+1) (by omega) (by omega)
   refine ⟨b,b1,fun e j h3 h4 => ?_⟩
   by_cases hj:j=k
   ·rw [hj]; omega
   ·exact b2 e j (by omega) h4
theorem zX5 {z:zi} (hg:Gz z):∃ b,zMV z=some b∧(b=true→Zk z):=by
 obtain ⟨b,b1,b2⟩:=zXZ (z:=z) 5 zAF 0 (by omega) (by unfold zAF; omega)
 refine ⟨b,b1,fun e=>⟨hg.1,fun k => ?_⟩⟩
 rcases Nat.lt_or_ge k 5 with hk | hk
 ·have:=b2 e k (Nat.zero_le _) hk
  omega
 ·rw [zML hg.1 hk]; simp
theorem zXb {c:zL} (hn:c.lists.length≤20):∀ (m n i:Nat),i+m=c.lists.length→m<n → ∃ b,zFi c n (i:Int)=some b∧(b=true → ∀ x,x∈c.lists.drop i→x.length≤300):=by
 intro m
 induction m with
 | zero =>
  intro n i h1 h2
  obtain ⟨n,rfl⟩:=ex1 ‹_<n›
  rw [List.drop_eq_nil_of_le (by omega)]
  refine ⟨true,?_,fun _ x hx=>absurd hx (by simp)⟩
  show zFj _ _ _=_
  unfold zFj
  rw [zAB (df (by omega))]
  rfl
 | succ m ih =>
  intro n i h1 h2
  obtain ⟨n,rfl⟩:=ex1 ‹_<n›
  have hi:i<c.lists.length:=by omega
  have ee:zFi c (n+1) (i:Int)=cnd (decide (300<((at_ c.lists (i:Int)).length:Int))) (some false) (zFi c n ((i+1:Nat):Int)):=by
   show zFj _ _ _=_
   unfold zFj
   rw [zAN (dt (by omega)),zf (zAK hi),zf (zAE (by omega))]
   rfl
  rw [ee,zCZ hi]
  by_cases h:300<((at_ c.lists (i:Int)).length:Int)
  ·rw [zAN (dt h)]
   exact ⟨false,rfl,fun e=>by cases e⟩
  ·rw [zAB (df h)]
   obtain ⟨b,b1,b2⟩:=ih n (i+1) (by omega) (by omega)
   refine ⟨b,b1,fun e x hx => ?_⟩
   rcases List.mem_cons.1 hx with rfl | hx
   ·omega
   ·exact b2 e x hx
theorem zX1 {c:zL}:∃ b,zLb c=some b∧(b=true→Ck c):=by
 unfold zLb
 by_cases h:20<(c.lists.length:Int)
 ·rw [zAN (dt h)]
  exact ⟨false,rfl,fun e=>by cases e⟩
 ·rw [zAB (df h)]
  obtain ⟨b,b1,b2⟩:=zXb (c:=c) (by omega) c.lists.length zAF 0 (by omega) (by unfold zAF; omega)
  rw [List.drop_zero] at b2
  exact ⟨b,b1,fun e=>⟨by omega,fun x hx=>by have:=b2 e x hx; omega⟩⟩
theorem zW7 (hn:a.caches.length≤20):∀ (m n i:Nat),i+m=a.caches.length→m<n → ∃ b,zFY a n (i:Int)=some b∧(b=true → ∀ x,x∈a.caches.drop i→Ck x):=by
 intro m
 induction m with
 | zero =>
  intro n i h1 h2
  obtain ⟨n,rfl⟩:=ex1 ‹_<n›
  rw [List.drop_eq_nil_of_le (by omega)]
  refine ⟨true,?_,fun _ x hx=>absurd hx (by simp)⟩
  show zFt _ _ _=_
  unfold zFt
  rw [zAB (df (by omega))]
  rfl
 | succ m ih =>
  intro n i h1 h2
  obtain ⟨n,rfl⟩:=ex1 ‹_<n›
  have hi:i<a.caches.length:=by omega
  obtain ⟨b0,c1,c2⟩:=zX1 (c:=at_ a.caches (i:Int))
  have ee:zFY a (n+1) (i:Int)=cnd (!b0) (some false) (zFY a n ((i+1:Nat):Int)):=by
   show zFt _ _ _=_
   unfold zFt
   rw [zAN (dt (by omega)),zf (zAK hi),c1,zBt,zf (zAE (by omega))]
   rfl
  rw [ee,zCZ hi]
  cases b0 with
  | false=>exact ⟨false,rfl,fun e=>by cases e⟩
  | true =>
   obtain ⟨b,b1,b2⟩:=ih n (i+1) (by omega) (by omega)
   refine ⟨b,b1,fun e x hx => ?_⟩
   rcases List.mem_cons.1 hx with rfl | hx
   ·exact c2 rfl
   ·exact b2 e x hx
theorem zWt (hg:∀ z,z∈a.zones→Gz z) (hz:a.zones.length≤20) (hn:a.caches.length≤20):∀ (m n i:Nat),i+m=a.zones.length→m<n → ∃ b,zFc a n (i:Int)=some b∧(b=true→(∀ x,x∈a.zones.drop i→Zk x) ∧ ∀ x,x∈a.caches→Ck x):=by
 intro m
 induction m with
 | zero =>
  intro n i h1 h2
  obtain ⟨n,rfl⟩:=ex1 ‹_<n›
  obtain ⟨b,b1,b2⟩:=zW7 hn a.caches.length zAF 0 (by omega) (by unfold zAF; omega)
  rw [List.drop_zero] at b2
  rw [List.drop_eq_nil_of_le (by omega)]
  refine ⟨b,?_,fun e=>⟨fun x hx=>absurd hx (by simp),b2 e⟩⟩
  show zFf _ _ _=_
  unfold zFf
  rw [zAB (df (by omega))]
  exact b1
 | succ m ih =>
  intro n i h1 h2
  obtain ⟨n,rfl⟩:=ex1 ‹_<n›
  have hi:i<a.zones.length:=by omega
  obtain ⟨b0,c1,c2⟩:=zX5 (hg _ (zAn hi))
  have ee:zFc a (n+1) (i:Int)=cnd (!b0) (some false) (zFc a n ((i+1:Nat):Int)):=by
   show zFf _ _ _=_
   unfold zFf
   rw [zAN (dt (by omega)),zf (zAK hi),c1,zBt,zf (zAE (by omega))]
   rfl
  rw [ee,zCZ hi]
  cases b0 with
  | false=>exact ⟨false,rfl,fun e=>by cases e⟩
  | true =>
   obtain ⟨b,b1,b2⟩:=ih n (i+1) (by omega) (by omega)
   refine ⟨b,b1,fun e=>⟨fun x hx => ?_,(b2 e).2⟩⟩
   rcases List.mem_cons.1 hx with rfl | hx
   ·exact c2 rfl
   ·exact (b2 e).1 x hx
theorem few (hg:∀ z,z∈a.zones→Gz z):∃ b,zLe a=some b∧(b=true→Al a):=by
 unfold zLe
 by_cases h:(((decide (20<(a.nodes.length:Int)))||(decide (20<(a.zones.length:Int))))||(decide (20<(a.caches.length:Int))))=true
 ·rw [zAN h]
  exact ⟨false,rfl,fun e=>by cases e⟩
 ·rw [zAB (Bool.eq_false_iff.2 h)]
  simp only [Bool.or_eq_true,decide_eq_true_eq] at h
  obtain ⟨b,b1,b2⟩:=zWt hg (by omega) (by omega) a.zones.length zAF 0 (by omega) (by unfold zAF; omega)
  rw [List.drop_zero] at b2
  exact ⟨b,b1,fun e=>⟨by omega,by omega,by omega,fun z hz=>⟨(b2 e).1 z hz,(hg z hz).2⟩,(b2 e).2⟩⟩
end
end Go.Proofs.YtplkliakhdkpcaaGreat
namespace Go.Proofs.YtplkliakhdkpcaaGreat
open Go Go.RowKit Go.Wk Go.Am
section
variable {z:zi} {k:Nat} {l:List Int}
theorem zOM (hr:ranges z=true) (hk:k<5) {g:Nat}:∀ (l:List Int) {s:List Int},s.length=256→(∀ f,f∈l→inside z f k=true) → ∀ x,x∈l→x≤(g:Int)→(g:Int)<x+2 ^ k→s.getD g 0+1≤(zIU k s l).getD g 0
 | [],_,_,_,_,hx,_,_=>absurd hx (by simp)
 | y::l,s,hs,hin,x,hx,h1,h2=>by
  have hbd:=zAW hr (hin y (by simp))
  have pn:=zNU (k:=k) (by omega)
  have hg:=zLM (2 ^ k) y.toNat s g (by rw [hs]; omega)
  unfold zIU
  rcases List.mem_cons.1 hx with rfl | hx
  ·rw [if_pos (by omega)] at hg
   have:=zKa l k (zJ6 s x.toNat (2 ^ k)) g
   omega
  ·have hge:=zNc (2 ^ k) y.toNat s g
   have:=zOM hr hk l (s:=zJ6 s y.toNat (2 ^ k)) (by rw [zLd]; exact hs) (fun f hf=>hin f (by simp [hf])) x hx h1 h2
   omega
theorem zOl (hr:ranges z=true) {g:Nat}:∀ (ls:List (List Int)) (k:Nat) {s:List Int},k+ls.length=5→s.length=256→(∀ j l,ls[j]?=some l → ∀ f,f∈l→inside z f (k+j)=true) → ∀ j l x,ls[j]?=some l→x∈l→x≤(g:Int)→(g:Int)<x+2 ^ (k+j)→s.getD g 0+1≤(zHg k s ls).getD g 0
 | [],_,_,_,_,_,_,_,_,hj,_,_,_=>absurd hj (by simp)
 | l0::ls,k,s,hk,hs,hin,j,l,x,hj,hx,h1,h2=>by
  have hk':k+(ls.length+1)=5:=hk
  unfold zHg
  cases j with
  | zero =>
   simp at hj
   subst hj
   have:=zOM (k:=k) hr (by omega) l0 hs (fun f hf=>by have:=hin 0 l0 rfl f hf; rwa [Nat.add_zero] at this) x hx h1 h2
   have:=zOF ls (k+1) (zIU k s l0) g
   omega
  | succ j =>
   have hge:=zKa l0 k s g
   have:=zOl hr ls (k+1) (s:=zIU k s l0) (by omega) (by rw [zI7]; exact hs) (fun j' l' hj' f hf=>by
    have:=hin (j'+1) l' hj' f hf
    rwa [show k+(j'+1)=k+1+j' by omega] at this) j l x (by simpa using hj) hx h1 (by rw [show k+1+j=k+(j+1) by omega]; exact h2)
   omega
theorem zOi (hr:ranges z=true) {g:Nat}:∀ (ls:List (List Int)) (k:Nat) {s:List Int},k+ls.length=5→s.length=256→(∀ j l,ls[j]?=some l → ∀ f,f∈l→inside z f (k+j)=true) → ∀ i j l m x y,i<j→ls[i]?=some l→ls[j]?=some m→x∈l→y∈m→x≤(g:Int)→(g:Int)<x+2 ^ (k+i)→y≤(g:Int)→(g:Int)<y+2 ^ (k+j)→s.getD g 0+2≤(zHg k s ls).getD g 0
 | [],_,_,_,_,_,_,_,_,_,_,_,_,hi,_,_,_,_,_,_,_=>absurd hi (by simp)
 | l0::ls,k,s,hk,hs,hin,i,j,l,m,x,y,hij,hi,hj,hx,hy,h1,h2,h3,h4=>by
  have hk':k+(ls.length+1)=5:=hk
  have hin':∀ j' l',ls[j']?=some l' → ∀ f,f∈l'→inside z f (k+1+j')=true:=fun j' l' hj' f hf=>by
   have:=hin (j'+1) l' hj' f hf
   rwa [show k+(j'+1)=k+1+j' by omega] at this
  unfold zHg
  obtain ⟨j,rfl⟩:∃ q,j=q+1:=⟨j - 1,by omega⟩
  have hj':ls[j]?=some m:=by simpa using hj
  cases i with
  | zero =>
   simp at hi
   subst hi
   have a1:=zOM (k:=k) hr (by omega) l0 hs (fun f hf=>by have:=hin 0 l0 rfl f hf; rwa [Nat.add_zero] at this) x hx h1 h2
   have a2:=zOl hr ls (k+1) (s:=zIU k s l0) (by omega) (by rw [zI7]; exact hs) hin' j m y hj' hy h3 (by rw [show k+1+j=k+(j+1) by omega]; exact h4)
   omega
  | succ i =>
   have hge:=zKa l0 k s g
   have:=zOi hr ls (k+1) (s:=zIU k s l0) (by omega) (by rw [zI7]; exact hs) hin' i j l m x y (by omega) (by simpa using hi) hj' hx hy h1 (by rw [show k+1+i=k+(i+1) by omega]; exact h2) h3 (by rw [show k+1+j=k+(j+1) by omega]; exact h4)
   omega
theorem zPf (l0:List Int):∀ r:List Int,zQs z k l0 r=true ↔ ∃ f,f∈r∧bud f k∈l0∧inside z (min f (bud f k)) (k+1)=true
 | []=>by unfold zQs; simp
 | f::r=>by
  unfold zQs
  by_cases h:(decide (bud f k∈l0)&&inside z (min f (bud f k)) (k+1))=true
  ·rw [if_pos h]
   simp only [Bool.and_eq_true,decide_eq_true_eq] at h
   exact ⟨fun _=>⟨f,by simp,h.1,h.2⟩,fun _=>rfl⟩
  ·rw [if_neg h,zPf l0 r]
   simp only [Bool.and_eq_true,decide_eq_true_eq] at h
   constructor
   ·rintro ⟨g,h1,h2⟩; exact ⟨g,by simp [h1],h2⟩
   ·rintro ⟨g,h1,h2,h3⟩
    rcases List.mem_cons.1 h1 with rfl | h1
    ·exact absurd ⟨h2,h3⟩ h
    ·exact ⟨g,h1,h2,h3⟩
theorem zRE:∀ (ls:List (List Int)) (k:Nat),zMz z k ls=false → ∀ j l,ls[j]?=some l→zQs z (k+j) l l=false
 | [],_,_,_,_,hj=>absurd hj (by simp)
 | l0::ls,k,h,j,l,hj=>by
  unfold zMz at h
  split at h
  ·cases h
  ·rename_i h0
   cases j with
   | zero =>
    simp at hj
    subst hj
    exact Bool.eq_false_iff.2 h0
   | succ j =>
    have:=zRE ls (k+1) h j l (by simpa using hj)
    rwa [show k+1+j=k+(j+1) by omega] at this
theorem zKq (hz:Zk z) (h:zDu z=0):OkZ z ∧ ∀ g:Nat,(zOY z).getD g 0=0∨(zOY z).getD g 0=1:=by
 obtain ⟨hr,hin,hs⟩:=zGj hz h
 have hm:=zXv hz hr hin
 have hc:zFA z 0 z.free=0 ∧ ¬ zIn 0 zEw z.free=none∧zMz z 0 (z.free.take 4)=false:=by
  have h':=h
  unfold zDu at h'
  rw [if_neg (by rw [hr]; simp)] at h'
  by_cases h0:zFA z 0 z.free=0
  ·rw [if_pos h0] at h'
   by_cases h1:zIn 0 zEw z.free=none
   ·rw [if_pos h1] at h'; cases h'
   ·rw [if_neg h1] at h'
    by_cases h2:zMz z 0 (z.free.take 4)=true
    ·rw [if_pos h2] at h'; cases h'
    ·exact ⟨h0,h1,Bool.eq_false_iff.2 h2⟩
  ·rw [if_neg h0] at h'; exact absurd h' h0
 have h01:∀ g:Nat,(zOY z).getD g 0=0∨(zOY z).getD g 0=1:=by
  cases hd:zIn 0 zEw z.free with
  | none=>exact absurd hd hc.2.1
  | some d =>
   rw [hd] at hm
   intro g
   cases hb:d.getD g false with
   | true=>exact .inr (hm.t g hb)
   | false=>exact .inl (hm.f g hb)
 have hin':∀ j l,z.free[j]?=some l → ∀ f,f∈l→inside z f (0+j)=true:=fun j l hj f hf=>by
  have hj5:j<5:=by rw [← hz.len]; exact (List.getElem?_eq_some_iff.1 hj).1
  rw [hz.get hj5] at hj
  cases hj
  rw [Nat.zero_add]
  exact hin j hj5 f hf
 have lt5:∀ {k x},x∈lst z k→k<5:=fun {k x} hx=>by
  rcases Nat.lt_or_ge k 5 with hk | hk
  ·exact hk
  ·rw [zML hz.len hk] at hx; exact absurd hx (by simp)
 have two:∀ k j x y f,k<j→x∈lst z k→y∈lst z j→x≤f→f<x+2 ^ k→y≤f→f<y+2 ^ j→False:=by
  intro k j x y f hkj hx hy h1 h2 h3 h4
  have hb:=zAW hr (hin k (lt5 hx) x hx)
  obtain ⟨g,rfl⟩:=Int.eq_ofNat_of_zero_le (show 0≤f by omega)
  have:=zOi hr (g:=g) z.free 0 (s:=List.replicate 256 0) (by rw [hz.len]) (by rw [List.length_replicate]) hin' k j _ _ x y hkj (hz.get (lt5 hx)) (hz.get (lt5 hy)) hx hy h1 (by rw [Nat.zero_add]; exact h2) h3 (by rw [Nat.zero_add]; exact h4)
  have h0:(List.replicate 256 (0:Int)).getD g 0=0:=by
   rw [List.getD_eq_getElem?_getD,List.getElem?_replicate]
   split <;> rfl
  rw [h0] at this
  have hc2:(zOY z).getD g 0=(zHg 0 (List.replicate 256 0) z.free).getD g 0:=rfl
  rcases h01 g with e | e <;> omega
 refine ⟨⟨hr,hz.len,hs,fun k x hx=>hin k (lt5 hx) x hx,fun k x j y f hx hy h1 h2 h3 h4 => ?_,fun k x hk hx hb => ?_⟩,h01⟩
 ·rcases Nat.lt_trichotomy k j with hkj | hkj | hkj
  ·exact (two k j x y f hkj hx hy h1 h2 h3 h4).elim
  ·subst hkj
   have b1:=zAW hr (hin k (lt5 hx) x hx)
   have b2:=zAW hr (hin k (lt5 hy) y hy)
   obtain ⟨g,rfl⟩:=Int.eq_ofNat_of_zero_le (show 0≤f by omega)
   have e1:=(zNS (f:=g) (lt5 hx) b1.1 ((zBE hr).1 (hin k (lt5 hx) x hx)).2.1).1 ⟨h1,h2⟩
   have e2:=(zNS (f:=g) (lt5 hy) b2.1 ((zBE hr).1 (hin k (lt5 hy) y hy)).2.1).1 ⟨h3,h4⟩
   exact ⟨rfl,by omega⟩
  ·exact (two j k y x f hkj hy hx h3 h4 h1 h2).elim
 ·have hn:=zRE (z.free.take 4) 0 hc.2.2 k _ (zMZ (hz.get (k:=k) (by omega)) hk)
  rw [Nat.zero_add] at hn
  refine Bool.eq_false_iff.2 fun hi => ?_
  have:=(zPf (z:=z) (k:=k) (lst z k) (lst z k)).2 ⟨x,hx,hb,hi⟩
  rw [hn] at this
  cases this
theorem zMk (h:l.length≤1000000):zA0 l=some l:=by
 unfold zA0
 rw [zf (dt (by show (0+_)*8≤_; omega))]
theorem zQg (hz:Zk z):∀ (m n i:Nat),i+m=5→m<n→zGH z n (i:Int) z.free=some z:=by
 intro m
 induction m with
 | zero =>
  intro n i h1 h2
  obtain ⟨n,rfl⟩:=ex1 ‹_<n›
  show zEE _ _ _ _=_
  unfold zEE zIA
  rw [zAB (df (by omega)),zf (dt (by omega))]
 | succ m ih =>
  intro n i h1 h2
  obtain ⟨n,rfl⟩:=ex1 ‹_<n›
  have hlen:=hz.len
  have e:z.free.getD (i:Int).toNat []=lst z i:=rfl
  have e3:zDc 5 [] z.free (i:Int).toNat (lst z i)=z.free:=by
   rw [zKl hlen (by omega)]
   exact zJd (by omega)
  show zEE _ _ _ _=_
  unfold zEE
  rw [zAN (dt (by omega)),zf (zAK (by omega)),e,zMk (hz.bd i),zBt,zf (zAE (by omega)),e3]
  exact ih n (i+1) (by omega) (by omega)
theorem zUk (hz:Zk z):zHh z=some z:=zQg hz 5 zAF 0 (by omega) (by unfold zAF; omega)
theorem zVb (hz:Zk z) (h:zDu z=0) {m:Nat} (hm:m<256):∃ r,zFm z (m:Int)=some r∧(0≤r.1↔cov z m):=by
 obtain ⟨hr,hin,_⟩:=zGj hz h
 obtain ⟨r,r1,r2⟩:=zRM hz h hm 5 zAF 0 (by omega) (by unfold zAF; omega)
 refine ⟨r,r1,r2.trans ?_⟩
 constructor
 ·rintro ⟨j,_,hj,hm⟩
  have hbj:=zAW hr (hin j hj _ hm)
  have haj:=(zBE hr).1 (hin j hj _ hm)
  have:=(zNS (f:=m) hj hbj.1 haj.2.1).2 rfl
  exact ⟨j,_,hm,this.1,this.2⟩
 ·rintro ⟨j,x,hx,h1,h2⟩
  rcases Nat.lt_or_ge j 5 with hj | hj
  ·have hbj:=zAW hr (hin j hj _ hx)
   have haj:=(zBE hr).1 (hin j hj _ hx)
   have:=(zNS (f:=m) hj hbj.1 haj.2.1).1 ⟨h1,h2⟩
   exact ⟨j,Nat.zero_le _,hj,this▸hx⟩
  ·rw [zML hz.len hj] at hx; exact absurd hx (by simp)
theorem zVF (hz:Zk z) (h:zDu z=0) {f:Int} (hk:k≤4) (hi:inside z f k=true) (hn:∀ g,f≤g→g<f+2 ^ k → ¬ cov z g):∀ (m n i:Nat),(i:Int)+m=f+2 ^ k→m<n→f≤i →
  zG1 z f (k:Int) n (i:Int)=some (zOZ (4 - k) z f k,0):=by
 obtain ⟨hr,hin,_⟩:=zGj hz h
 have hb:=zAW hr hi
 obtain ⟨e,p1,p2⟩:=zKR (k:=k) (by omega)
 intro m
 induction m with
 | zero =>
  intro n i h1 h2 h3
  obtain ⟨n,rfl⟩:=ex1 ‹_<n›
  show zEn _ _ _ _ _=_
  unfold zEn zIr
  rw [e,zf (zOR (by omega)),zf (zAE (by omega)),zf (zAE (by omega)),zAB (df (by omega)),zUk hz,zBt]
  show ((zKM z f (k:Int)).bind _)=_
  rw [zXP (zKq hz h).1.putI hk hb.1 (by omega),zBt]
 | succ m ih =>
  intro n i h1 h2 h3
  obtain ⟨n,rfl⟩:=ex1 ‹_<n›
  obtain ⟨r,r1,r2⟩:=zVb hz h (m:=i) (by omega)
  show zEn _ _ _ _ _=_
  unfold zEn
  rw [e,zf (zOR (by omega)),zf (zAE (by omega)),zf (zAE (by omega)),zAN (dt (by omega)),r1,zBt,zAB (df (fun hq=>hn i h3 (by omega) (r2.1 hq))),zf (zAE (by omega))]
  exact ih n (i+1) (by omega) (by omega) (by omega)
theorem zUB (hz:Zk z) (hI:inI z.start=true) (h:zDu z=0) {f:Int} (hk:k≤4) (hi:inside z f k=true) (hn:∀ g,f≤g→g<f+2 ^ k → ¬ cov z g):zIy z f (k:Int)=some (zOZ (4 - k) z f k,0):=by
 obtain ⟨hr,hin,_⟩:=zGj hz h
 have hb:=zAW hr hi
 obtain ⟨e,p1,p2⟩:=zKR (k:=k) (by omega)
 have pn:=zNU (k:=k) (by omega)
 obtain ⟨m,rfl⟩:=Int.eq_ofNat_of_zero_le hb.1
 unfold zIy
 rw [zQA hz hI,zBt,dt h,Bool.not_true,zAB rfl,df (p:=(k:Int)<0) (by omega),df (p:=4<(k:Int)) (by omega),zKO hr (by omega),hi]
 refine (congrArg (fun q=>Option.bind q _) (zAN (by rfl))).trans ?_
 rw [zBt]
 refine (zAB (by rfl)).trans ?_
 exact zVF hz h hk hi hn (2 ^ k) zAF m (by omega) (by unfold zAF; omega) (by omega)
theorem zVe (hz:Zk z) (h:zDu z=0) {f:Int} (hk:k≤4) (hi:inside z f k=true) (hn:∀ g,f≤g→g<f+2 ^ k → ¬ cov z g):∀ (m n i:Nat) (s:List Int),(i:Int)+m=f+2 ^ k→m<n→f≤i→s.length=256 →
  (∀ g:Nat,s.getD g 0=if f≤(g:Int)∧(g:Int)<i then 1 else (zOY z).getD g 0)→zHJ z f (k:Int) n (i:Int) s=some (zOZ (4 - k) z f k,0):=by
 obtain ⟨hr,hin,_⟩:=zGj hz h
 have hb:=zAW hr hi
 obtain ⟨e,p1,p2⟩:=zKR (k:=k) (by omega)
 obtain ⟨ho,h01⟩:=zKq hz h
 intro m
 induction m with
 | zero =>
  intro n i s h1 h2 h3 h4 h5
  obtain ⟨n,rfl⟩:=ex1 ‹_<n›
  obtain ⟨q1,q2,q3⟩:=OkZ.put (4 - k) (k:=k) (by omega) ho hi hn
  have hw:=zSb (z:=z) (s:=s) h4 q1 q3 (fun g=>by
   rw [q2]
   constructor
   ·intro hg
    have hgb:z.start≤g∧g<z.start+z.count∧0≤g:=by
     rcases hg with ⟨j,x,hx,x1,x2⟩ | hg
     ·have:=zAW hr (ho.ins j x hx)
      omega
     ·omega
    obtain ⟨q,rfl⟩:=Int.eq_ofNat_of_zero_le hgb.2.2
    refine ⟨hgb.1,hgb.2.1,?_⟩
    rw [Int.toNat_natCast,h5]
    split
    ·decide
    ·rename_i hne
     rcases hg with hg | hg
     ·have:=(zK3 hz hr hin q).2 hg
      omega
     ·exact absurd ⟨hg.1,by omega⟩ hne
   ·rintro ⟨g1,g2,g3⟩
    have hrb:=zBR hr
    obtain ⟨q,rfl⟩:=Int.eq_ofNat_of_zero_le (show 0≤g by omega)
    rw [Int.toNat_natCast,h5] at g3
    split at g3
    ·rename_i hq
     exact .inr ⟨hq.1,by omega⟩
    ·rcases h01 q with e0 | e0
     ·exact absurd e0 g3
     ·exact .inl ((zK3 hz hr hin q).1 (by omega)))
  show zEr _ _ _ _ _ _=_
  unfold zEr zIu
  rw [e,zf (dt (zIm (by omega) (by omega))),zf (zOR (by omega)),zf (zAE (by omega)),zf (zAE (by omega)),zAB (df (by omega)),hw,zBt,zBt]
 | succ m ih =>
  intro n i s h1 h2 h3 h4 h5
  obtain ⟨n,rfl⟩:=ex1 ‹_<n›
  have hil:i<s.length:=by omega
  have ea:at_ s (i:Int)=s.getD i 0:=by rw [zHL hil,List.getD_eq_getElem?_getD,List.getElem?_eq_getElem hil]; rfl
  have h0:s.getD i 0=0:=by
   rw [h5,if_neg (by omega)]
   rcases h01 i with e0 | e0
   ·exact e0
   ·exact absurd ((zK3 hz hr hin i).1 (by omega)) (hn i h3 (by omega))
  show zEr _ _ _ _ _ _=_
  unfold zEr
  rw [e,zf (dt (zIm (by omega) (by omega))),zf (zOR (by omega)),zf (zAE (by omega)),zf (zAE (by omega)),zAN (dt (by omega)),zf (zAK hil),ea,h0,zAB (by rfl),zf (zAE (by omega))]
  refine ih n (i+1) _ (by omega) (by omega) (by omega) (by rw [List.length_set]; exact h4) (fun g => ?_)
  rw [Int.toNat_natCast,zUh s i g hil,h5]
  by_cases hg:g=i
  ·rw [if_pos hg,if_pos (by omega)]
  ·rw [if_neg hg]
   by_cases hq:f≤(g:Int)∧(g:Int)<i
   ·rw [if_pos hq,if_pos (by omega)]
   ·rw [if_neg hq,if_neg (by omega)]
theorem zT7 (hz:Zk z) (h:zDu z=0) {f:Int} (hk:k≤4) (hi:inside z f k=true) (hn:∀ g,f≤g→g<f+2 ^ k → ¬ cov z g):zIz z f (k:Int)=some (zOZ (4 - k) z f k,0):=by
 obtain ⟨hr,hin,_⟩:=zGj hz h
 have hb:=zAW hr hi
 obtain ⟨e,p1,p2⟩:=zKR (k:=k) (by omega)
 have pn:=zNU (k:=k) (by omega)
 obtain ⟨m,rfl⟩:=Int.eq_ofNat_of_zero_le hb.1
 unfold zIz
 rw [zQ7 hz,zBt,dt h,Bool.not_true,zAB rfl,zK2 hr hk,zBt,hi,Bool.not_true,zAB rfl,zRH hz hr hin,zBt]
 exact zVe hz h hk hi hn (2 ^ k) zAF m (zOY z) (by omega) (by unfold zAF; omega) (by omega) zNl (fun g=>by rw [if_neg (by omega)])
end
end Go.Proofs.YtplkliakhdkpcaaGreat
namespace Go.Proofs.YtplkliakhdkpcaaGreat
open Go Go.RowKit Go.Wk Go.Am
section
variable {z:zi} {k:Nat} {l:List Int}
theorem zRS:∀ (m i:Nat) (s:List Bool),i+m≤s.length→(∀ g,i≤g→g<i+m→s.getD g false=false) → ∃ s',zM0 s i m=some s'∧s'.length=s.length ∧ ∀ g,s'.getD g false=true→s.getD g false=true∨(i≤g∧g<i+m)
 | 0,i,s,_,_=>⟨s,rfl,rfl,fun g h => .inl h⟩
 | m+1,i,s,h,hf=>by
  obtain ⟨s',h1,h2,h3⟩:=zRS m (i+1) (s.set i true) (by rw [List.length_set]; omega) (fun g g1 g2=>by
   rw [zCC _ _ _ (by omega),if_neg (by omega)]; exact hf g (by omega) (by omega))
  refine ⟨s',?_,by rw [h2,List.length_set],fun g hg => ?_⟩
  ·unfold zM0
   rw [if_neg (by rw [hf i (by omega) (by omega)]; simp)]
   exact h1
  ·rcases h3 g hg with h4 | h4
   ·rw [zCC _ _ _ (by omega)] at h4
    split at h4
    ·exact .inr (by omega)
    ·exact .inl h4
   ·exact .inr (by omega)
theorem zRP (hk:k≤4):∀ (l:List Int) (s:List Bool),s.length=256→(∀ x,x∈l→0≤x∧x+2 ^ k≤256)→Srt l→(∀ x y f,x∈l→y∈l→x≤f→f<x+2 ^ k→y≤f→f<y+2 ^ k→x=y)→(∀ x,x∈l → ∀ g:Nat,x≤(g:Int)→(g:Int)<x+2 ^ k→s.getD g false=false) →
  ∃ s',zM8 k s l=some s'∧s'.length=256 ∧ ∀ g:Nat,s'.getD g false=true→s.getD g false=true ∨ ∃ x,x∈l∧x≤(g:Int)∧(g:Int)<x+2 ^ k
 | [],s,hs,_,_,_,_=>⟨s,rfl,hs,fun g h => .inl h⟩
 | x::l,s,hs,hb,ho,hd,hf=>by
  have hx:=hb x (by simp)
  have pn:=zNU (k:=k) (by omega)
  obtain ⟨s1,h1,h2,h3⟩:=zRS (2 ^ k) x.toNat s (by omega) (fun g g1 g2=>hf x (by simp) g (by omega) (by omega))
  have hno:=List.pairwise_cons.1 ho
  obtain ⟨s2,q1,q2,q3⟩:=zRP hk l s1 (by omega) (fun y hy=>hb y (by simp [hy])) hno.2 (fun a b f ha hb'=>hd a b f (by simp [ha]) (by simp [hb'])) (fun y hy g g1 g2=>by
   cases hq:s1.getD g false with
   | false=>rfl
   | true =>
    rcases h3 g hq with h4 | h4
    ·rw [hf y (by simp [hy]) g g1 g2] at h4; cases h4
    ·have:=hd x y g (by simp) (by simp [hy]) (by omega) (by omega) g1 g2
     have:=hno.1 y hy
     omega)
  refine ⟨s2,?_,q2,fun g hg => ?_⟩
  ·unfold zM8
   rw [h1]
   exact q1
  ·rcases q3 g hg with h4 | ⟨y,hy,h4⟩
   ·rcases h3 g h4 with h5 | h5
    ·exact .inl h5
    ·exact .inr ⟨x,by simp,by omega,by omega⟩
   ·exact .inr ⟨y,by simp [hy],h4⟩
theorem zPr:∀ (ls:List (List Int)) (k:Nat) (s:List Bool),k+ls.length≤5→s.length=256→(∀ j l,ls[j]?=some l→Srt l ∧ ∀ x,x∈l→0≤x∧x+2 ^ (k+j)≤256) →
  (∀ i j l m x y f,ls[i]?=some l→ls[j]?=some m→x∈l→y∈m→x≤f→f<x+2 ^ (k+i)→y≤f→f<y+2 ^ (k+j)→i=j∧x=y) →
  (∀ j l,ls[j]?=some l → ∀ x,x∈l → ∀ g:Nat,x≤(g:Int)→(g:Int)<x+2 ^ (k+j)→s.getD g false=false)→zIn k s ls≠none
 | [],k,s,_,_,_,_,_=>by unfold zIn; simp
 | l::ls,k,s,hk,hs,hb,hd,hf=>by
  have hk':k+(ls.length+1)≤5:=hk
  have hb0:=hb 0 l rfl
  obtain ⟨s1,h1,h2,h3⟩:=zRP (k:=k) (by omega) l s hs hb0.2 hb0.1 (fun x y f hx hy a1 a2 a3 a4=>(hd 0 0 l l x y f rfl rfl hx hy a1 a2 a3 a4).2) (hf 0 l rfl)
  unfold zIn
  rw [h1]
  refine zPr ls (k+1) s1 (by omega) h2 (fun j m hj => ?_) (fun i j a b x y f hi hj hx hy a1 a2 a3 a4 => ?_) (fun j m hj x hx g g1 g2 => ?_)
  ·have:=hb (j+1) m (by simpa using hj)
   rwa [show k+(j+1)=k+1+j by omega] at this
  ·have:=hd (i+1) (j+1) a b x y f (by simpa using hi) (by simpa using hj) hx hy a1 (by rwa [show k+(i+1)=k+1+i by omega]) a3 (by rwa [show k+(j+1)=k+1+j by omega])
   exact ⟨by omega,this.2⟩
  ·cases hq:s1.getD g false with
   | false=>rfl
   | true =>
    have g2':(g:Int)<x+2 ^ (k+(j+1)):=by rwa [show k+(j+1)=k+1+j by omega]
    rcases h3 g hq with h4 | ⟨y,hy,h4,h5⟩
    ·rw [hf (j+1) m (by simpa using hj) x hx g g1 g2'] at h4; cases h4
    ·have:=(hd 0 (j+1) l m y x g rfl (by simpa using hj) hy hx h4 h5 g1 g2').1
     omega
theorem zSW:∀ (l:List Int) (p:Option Int),(∀ f,f∈l→inside z f k=true)→Srt l→(∀ q f,p=some q→f∈l→q<f)→zKv z k p l=0
 | [],_,_,_,_=>by unfold zKv; rfl
 | x::l,p,hi,hs,hp=>by
  have hno:=List.pairwise_cons.1 hs
  unfold zKv
  rw [if_neg (by rw [hi x (by simp)]; simp),if_neg]
  ·exact zSW l (some x) (fun f hf=>hi f (by simp [hf])) hno.2 (fun q f hq hf=>by cases hq; exact hno.1 f hf)
  ·cases p with
   | none=>unfold geP; simp
   | some q =>
    have:=hp q x rfl (by simp)
    unfold geP
    simp
    omega
theorem zRv:∀ (ls:List (List Int)) (k:Nat),(∀ j l,ls[j]?=some l→(∀ f,f∈l→inside z f (k+j)=true)∧Srt l)→zFA z k ls=0
 | [],_,_=>by unfold zFA; rfl
 | l::ls,k,h=>by
  have h0:=h 0 l rfl
  rw [Nat.add_zero] at h0
  unfold zFA
  rw [zSW l none h0.1 h0.2 (fun q f hq=>by cases hq),if_pos rfl]
  exact zRv ls (k+1) (fun j m hj=>by
   have:=h (j+1) m (by simpa using hj)
   rwa [show k+(j+1)=k+1+j by omega] at this)
theorem zRW:∀ (ls:List (List Int)) (k:Nat),(∀ j l,ls[j]?=some l→zQs z (k+j) l l=false)→zMz z k ls=false
 | [],_,_=>by unfold zMz; rfl
 | l::ls,k,h=>by
  unfold zMz
  rw [if_neg (by have:=h 0 l rfl; rw [Nat.add_zero] at this; rw [this]; simp)]
  exact zRW ls (k+1) (fun j m hj=>by
   have:=h (j+1) m (by simpa using hj)
   rwa [show k+(j+1)=k+1+j by omega] at this)
theorem zI9 (h:OkZ z):zDu z=0:=by
 have hl:∀ (j:Nat) (l:List Int),z.free[j]?=some l→j<5∧l=lst z j:=fun j l hl=>by
  have hj:j<5:=by have:=(List.getElem?_eq_some_iff.1 hl).1; rw [h.len] at this; exact this
  rw [zKd h.len hj] at hl
  cases hl
  exact ⟨hj,rfl⟩
 unfold zDu
 rw [if_neg (by rw [h.ranges]; simp),if_pos (zRv z.free 0 fun j l hj=>by obtain ⟨_,rfl⟩:=hl j l hj; rw [Nat.zero_add]; exact ⟨h.ins j,h.srt j⟩),if_neg,if_neg]
 ·rw [zRW (z.free.take 4) 0]
  ·simp
  ·intro j l hj
   have hj4:j<4:=by have:=(List.getElem?_eq_some_iff.1 hj).1; rw [List.length_take] at this; omega
   rw [List.getElem?_take,if_pos hj4] at hj
   obtain ⟨_,rfl⟩:=hl j l hj
   rw [Nat.zero_add]
   refine Bool.eq_false_iff.2 fun hh => ?_
   obtain ⟨f,f1,f2,f3⟩:=(zPf (lst z j) (lst z j)).1 hh
   rw [h.can j f hj4 f1 f2] at f3
   cases f3
 ·refine zPr z.free 0 zEw (by rw [h.len]; omega) zJO (fun j l hj => ?_) (fun i j a b x y f hi hj hx hy a1 a2 a3 a4 => ?_) (fun j l hj x hx g _ _ => ?_)
  ·obtain ⟨_,rfl⟩:=hl j l hj
   rw [Nat.zero_add]
   exact ⟨h.srt j,fun x hx=>⟨(h.bds (h.ins j x hx)).1,(h.bds (h.ins j x hx)).2.1⟩⟩
  ·obtain ⟨_,rfl⟩:=hl i a hi
   obtain ⟨_,rfl⟩:=hl j b hj
   rw [Nat.zero_add] at a2 a4
   exact h.dis i x j y f hx hy a1 a2 a3 a4
  ·unfold zEw
   rw [List.getD_eq_getElem?_getD,List.getElem?_replicate]
   split <;> rfl
theorem OkZ.zk (h:OkZ z):Zk z:=⟨h.len,fun k=>by have:=h.putI.len' k; omega⟩
theorem OkZ.inI (h:OkZ z):inI z.start=true:=by have:=zBR h.ranges; exact zAE (by omega)
def zND (z:zi):List Int→zi
 | []=>z
 | f::r=>zND (zOZ 4 z f 0) r
theorem zRG:∀ (l:List Int) {z:zi},OkZ z→(∀ f,f∈l→inside z f 0=true ∧ ¬ cov z f)→l.Nodup→OkZ (zND z l)∧(∀ g,cov (zND z l) g↔cov z g∨g∈l)∧zGv (zND z l) z
 | [],z,h,_,_=>⟨h,fun g=>by unfold zND; simp,⟨rfl,rfl,rfl,rfl,rfl⟩⟩
 | f::r,z,h,hi,hn=>by
  have hf:=hi f (by simp)
  have hnd:=List.nodup_cons.1 hn
  obtain ⟨h1,h2,h3⟩:=OkZ.put 4 (k:=0) (by omega) h hf.1 (fun g g1 g2=>by
   rw [pw0] at g2
   have:g=f:=by omega
   rw [this]; exact hf.2)
  obtain ⟨q1,q2,q3⟩:=zRG r h1 (fun g hg=>by
   refine ⟨by rw [h3.inside]; exact (hi g (by simp [hg])).1,fun hc => ?_⟩
   rcases (h2 g).1 hc with hc | hc
   ·exact (hi g (by simp [hg])).2 hc
   ·rw [pw0] at hc
    have:g=f:=by omega
    exact hnd.1 (this▸hg)) hnd.2
  refine ⟨q1,fun g => ?_,q3.trans h3⟩
  show cov (zND (zOZ 4 z f 0) r) g↔_
  rw [q2 g,h2 g,pw0,List.mem_cons]
  constructor
  ·rintro ((h | h) | h)
   ·exact .inl h
   ·exact .inr (.inl (by omega))
   ·exact .inr (.inr h)
  ·rintro (h | h | h)
   ·exact .inl (.inl h)
   ·exact .inl (.inr (by omega))
   ·exact .inr h
end
end Go.Proofs.YtplkliakhdkpcaaGreat
namespace Go.Proofs.YtplkliakhdkpcaaGreat
open Go Go.RowKit Go.Wk Go.Am
section
variable {a:zJ}
theorem zOL {α:Type} [Inhabited α] {l:List α} {i:Nat} (h:i<l.length):l.set i (at_ l (i:Int))=l:=by
 rw [zHL h]
 exact List.set_getElem_self h
theorem zYB {se:Int→List zi→Option zJ} {zs:List zi} {j:Nat} (hj:j<zs.length) (hl:zs.length≤1000) (hz:Zk (at_ zs (j:Int))):∀ (m n k:Nat),k+m=5→m<n→zCy se (j:Int) n (k:Int) zs=se ((j+1:Nat):Int) zs:=by
 intro m
 induction m with
 | zero =>
  intro n k h1 h2
  obtain ⟨n,rfl⟩:=ex1 ‹_<n›
  show zCN _ _ _ _ _=_
  unfold zCN zFL
  rw [zAB (df (by omega)),zf (zAE (by omega))]
  rfl
 | succ m ih =>
  intro n k h1 h2
  obtain ⟨n,rfl⟩:=ex1 ‹_<n›
  have hlen:=hz.len
  have e:(at_ zs (j:Int)).free.getD (k:Int).toNat []=lst (at_ zs (j:Int)) k:=rfl
  have e3:zDc 5 [] (at_ zs (j:Int)).free (k:Int).toNat (lst (at_ zs (j:Int)) k)=(at_ zs (j:Int)).free:=by
   rw [zKl hlen (by omega)]
   exact zJd (by omega)
  show zCN _ _ _ _ _=_
  unfold zCN
  rw [zAN (dt (by omega)),zf (zAK hj),zf (zAK (by omega)),e,zMk (hz.bd k),zBt,zf (zAE (by omega)),e3]
  have e4:zs.set (j:Int).toNat (at_ zs (j:Int))=zs:=zOL hj
  show zCy se (j:Int) n ((k:Int)+1) (zs.set (j:Int).toNat (at_ zs (j:Int)))=_
  rw [e4]
  exact ih n (k+1) (by omega) (by omega)
theorem zX2 {se:Int→List zL→Option zJ} {cs:List zL} {j:Nat} (hj:j<cs.length) (hl:cs.length≤1000) (hc:Ck (at_ cs (j:Int))):∀ (m n i:Nat),i+m=(at_ cs (j:Int)).lists.length→m<n→zDf se (j:Int) cs (at_ cs (j:Int)).lists n (i:Int) (at_ cs (j:Int)).lists=se ((j+1:Nat):Int) cs:=by
 have hn:=hc.n
 intro m
 induction m with
 | zero =>
  intro n i h1 h2
  obtain ⟨n,rfl⟩:=ex1 ‹_<n›
  show zB9 _ _ _ _ _ _ _=_
  unfold zB9 zFK zFU
  rw [zAB (df (by omega)),zf (zAK hj),zf (zAE (by omega))]
  have e4:cs.set (j:Int).toNat (at_ cs (j:Int))=cs:=zOL hj
  show se ((j:Int)+1) (cs.set (j:Int).toNat (at_ cs (j:Int)))=_
  rw [e4]
  rfl
 | succ m ih =>
  intro n i h1 h2
  obtain ⟨n,rfl⟩:=ex1 ‹_<n›
  have hi:i<(at_ cs (j:Int)).lists.length:=by omega
  have hb:=hc.l _ (zAn hi)
  show zB9 _ _ _ _ _ _ _=_
  unfold zB9
  have e4:(at_ cs (j:Int)).lists.set (i:Int).toNat (at_ (at_ cs (j:Int)).lists (i:Int))=(at_ cs (j:Int)).lists:=zOL hi
  rw [zAN (dt (by omega)),zf (zAK hi),zMk (by omega),zBt,zf (zAE (by omega)),e4]
  exact ih n (i+1) (by omega) (by omega)
theorem zX3 (ha:Al a) {zs:List zi} {ns:List Int}:∀ (m n j:Nat),j+m=a.caches.length→m<n→zBD a ns a.caches zs n (j:Int) a.caches=some ⟨ns,a.batch,a.high,zs,a.caches⟩:=by
 have hc:=ha.c
 intro m
 induction m with
 | zero =>
  intro n j h1 h2
  obtain ⟨n,rfl⟩:=ex1 ‹_<n›
  show zCP _ _ _ _ _ _ _=_
  unfold zCP
  rw [zAB (df (by omega))]
  rfl
 | succ m ih =>
  intro n j h1 h2
  obtain ⟨n,rfl⟩:=ex1 ‹_<n›
  have hj:j<a.caches.length:=by omega
  have hk:=ha.ck _ (zAn hj)
  have hn:=hk.n
  show zCP _ _ _ _ _ _ _=_
  unfold zCP zDU
  rw [zAN (dt (by omega)),zf (zAK hj),zf (dt (by show (0+_)*24≤_; omega)),zBt,z0i,zX2 hj hc hk _ zAF 0 (Nat.zero_add _) (by unfold zAF; omega)]
  exact ih n (j+1) (by omega) (by omega)
theorem zXd (ha:Al a) {ns:List Int}:∀ (m n j:Nat),j+m=a.zones.length→m<n→zBT a ns a.zones a.caches n (j:Int) a.zones=some ⟨ns,a.batch,a.high,a.zones,a.caches⟩:=by
 have hz:=ha.z
 have hc:=ha.c
 intro m
 induction m with
 | zero =>
  intro n j h1 h2
  obtain ⟨n,rfl⟩:=ex1 ‹_<n›
  show zCE _ _ _ _ _ _ _=_
  unfold zCE zFS
  rw [zAB (df (by omega)),z0i]
  exact zX3 ha a.caches.length zAF 0 (by omega) (by unfold zAF; omega)
 | succ m ih =>
  intro n j h1 h2
  obtain ⟨n,rfl⟩:=ex1 ‹_<n›
  have hj:j<a.zones.length:=by omega
  show zCE _ _ _ _ _ _ _=_
  unfold zCE
  rw [zAN (dt (by omega)),z0i,zYB hj hz (ha.zk _ (zAn hj)).1 5 zAF 0 (by omega) (by unfold zAF; omega)]
  exact ih n (j+1) (by omega) (by omega)
theorem zUq (ha:Al a):zCL a=some a:=by
 have h1:=ha.n
 have h2:=ha.z
 have h3:=ha.c
 unfold zCL zBb zAz
 rw [zMk (by omega),zBt,zf (dt (by show (0+_)*160≤_; omega)),zBt,zf (dt (by show (0+_)*24≤_; omega)),zBt,z0i]
 exact zXd ha a.zones.length zAF 0 (by omega) (by unfold zAF; omega)
theorem zTx {c:zL} (hc:Ck c):∀ (m n i:Nat) (l:List (List Int)),i+m=c.lists.length→m<n→l=c.lists.take i→zGE c n (i:Int) l=some c:=by
 have hn:=hc.n
 intro m
 induction m with
 | zero =>
  intro n i l h1 h2 h3
  obtain ⟨n,rfl⟩:=ex1 ‹_<n›
  show zD8 _ _ _ _=_
  unfold zD8
  rw [zAB (df (by omega)),h3,List.take_of_length_le (by omega)]
  rfl
 | succ m ih =>
  intro n i l h1 h2 h3
  obtain ⟨n,rfl⟩:=ex1 ‹_<n›
  have hi:i<c.lists.length:=by omega
  have hb:=hc.l _ (zAn hi)
  have hl:l.length=i:=by rw [h3,List.length_take]; omega
  show zD8 _ _ _ _=_
  unfold zD8
  rw [zAN (dt (by omega)),zf (zAK hi),zf (dt (by show (0+_)*8≤_; omega)),zf (dt (by show (_+1)*24≤_; omega)),zf (zAE (by omega)),List.nil_append]
  refine ih n (i+1) _ (by omega) (by omega) ?_
  rw [h3,List.take_add_one,List.getElem?_eq_getElem hi,zHL hi]
  rfl
theorem zPu {c:zL} (hc:Ck c):zGm c=some c:=zTx hc c.lists.length zAF 0 [] (by omega) (by have:=hc.n; unfold zAF; omega) rfl
theorem zX4 (ha:Al a) {zs:List zi}:∀ (m n j:Nat) (l:List zL),j+m=a.caches.length→m<n→l=a.caches.take j→zGD a zs n (j:Int) l=some ⟨a.nodes,a.batch,a.high,zs,a.caches⟩:=by
 have hc:=ha.c
 intro m
 induction m with
 | zero =>
  intro n j l h1 h2 h3
  obtain ⟨n,rfl⟩:=ex1 ‹_<n›
  show zEI _ _ _ _ _=_
  unfold zEI
  rw [zAB (df (by omega)),h3,List.take_of_length_le (by omega)]
  rfl
 | succ m ih =>
  intro n j l h1 h2 h3
  obtain ⟨n,rfl⟩:=ex1 ‹_<n›
  have hj:j<a.caches.length:=by omega
  have hl:l.length=j:=by rw [h3,List.length_take]; omega
  show zEI _ _ _ _ _=_
  unfold zEI
  rw [zAN (dt (by omega)),zf (zAK hj),zPu (ha.ck _ (zAn hj)),zBt,zf (dt (by show (_+1)*24≤_; omega)),zf (zAE (by omega))]
  refine ih n (j+1) _ (by omega) (by omega) ?_
  rw [h3,List.take_add_one,List.getElem?_eq_getElem hj,zHL hj]
  rfl
theorem zX7 {se:Int→List zi→Option zJ} (ha:Al a) {j:Nat} {l:List zi} (hj:j<a.zones.length) (hl:l.length≤1000):∀ (m n k:Nat),k+m=5→m<n→zGX se a (j:Int) l n (k:Int) (at_ a.zones (j:Int)).free=se ((j+1:Nat):Int) (l++[at_ a.zones (j:Int)]):=by
 have hzl:=ha.z
 have hz:=(ha.zk _ (zAn hj)).1
 intro m
 induction m with
 | zero =>
  intro n k h1 h2
  obtain ⟨n,rfl⟩:=ex1 ‹_<n›
  show zEA _ _ _ _ _ _ _=_
  unfold zEA zH0 zIB
  rw [zAB (df (by omega)),zf (dt (by show (_+1)*160≤_; omega)),zf (zAE (by omega))]
  rfl
 | succ m ih =>
  intro n k h1 h2
  obtain ⟨n,rfl⟩:=ex1 ‹_<n›
  have hlen:=hz.len
  have hb:=hz.bd k
  have e:(at_ a.zones (j:Int)).free.getD (k:Int).toNat []=lst (at_ a.zones (j:Int)) k:=rfl
  have e3:zDc 5 [] (at_ a.zones (j:Int)).free (k:Int).toNat (lst (at_ a.zones (j:Int)) k)=(at_ a.zones (j:Int)).free:=by
   rw [zKl hlen (by omega)]
   exact zJd (by omega)
  show zEA _ _ _ _ _ _ _=_
  unfold zEA
  rw [e,zAN (dt (by omega)),zf (zAK hj),zf (zAK (by omega)),zf (dt (by show (0+_)*8≤_; omega)),zf (zAE (by omega)),List.nil_append,e3]
  exact ih n (k+1) (by omega) (by omega)
theorem zX6 (ha:Al a):∀ (m n j:Nat) (l:List zi),j+m=a.zones.length→m<n→l=a.zones.take j→zB2 a n (j:Int) l=some a:=by
 have hz:=ha.z
 have hc:=ha.c
 intro m
 induction m with
 | zero =>
  intro n j l h1 h2 h3
  obtain ⟨n,rfl⟩:=ex1 ‹_<n›
  show zED _ _ _ _=_
  unfold zED zIH
  rw [zAB (df (by omega)),h3,List.take_of_length_le (by omega)]
  exact zX4 ha a.caches.length zAF 0 [] (by omega) (by unfold zAF; omega) rfl
 | succ m ih =>
  intro n j l h1 h2 h3
  obtain ⟨n,rfl⟩:=ex1 ‹_<n›
  have hj:j<a.zones.length:=by omega
  have hl:l.length=j:=by rw [h3,List.length_take]; omega
  show zED _ _ _ _=_
  unfold zED
  rw [zAN (dt (by omega)),zf (zAK hj),z0i,zX7 ha hj (by omega) 5 zAF 0 (by omega) (by unfold zAF; omega)]
  refine ih n (j+1) _ (by omega) (by omega) ?_
  rw [h3,List.take_add_one,List.getElem?_eq_getElem hj,zHL hj]
  rfl
theorem zUa (ha:Al a):zHw a=some a:=by
 have h1:=ha.n
 unfold zHw
 rw [zf (dt (by show (0+_)*8≤_; omega))]
 exact zX6 ha a.zones.length zAF 0 [] (by omega) (by have:=ha.z; unfold zAF; omega) rfl
theorem zWl:Sm ⟨([]:List Int),0,0,([]:List zi),([]:List zL)⟩:=⟨by simp,by simp,by simp,by simp,by simp⟩
def Bo (x y:Option (zJ×Int)):Prop := ∃ r,x=some r∧y=some r∧Sm r.1
end
end Go.Proofs.YtplkliakhdkpcaaGreat
namespace Go.Proofs.YtplkliakhdkpcaaGreat
open Go Go.RowKit Go.Wk Go.Am
structure Pc (c:zL) (zn:Nat):Prop where
 z:1≤zn∧zn≤6
 len:c.lists.length=zn
 bd:∀ l,l∈c.lists→l.length≤400
 fr:∀ l,l∈c.lists → ∀ f,f∈l→zFJ f=true
 nd:∀ l,l∈c.lists→l.Nodup
 dis:∀ (p q:Nat) (f:Int),p<zn→q<zn→f∈at_ c.lists (p:Int)→f∈at_ c.lists (q:Int)→p=q
section
variable {c:zL} {zn:Nat} {z:Nat} {l:List Int}
theorem Pc.ck (h:Pc c zn):Ck c:=⟨by have:=h.len; have:=h.z; omega,fun x hx=>by have:=h.bd x hx; omega⟩
theorem Pc.r (h:Pc c zn):pcR c (zn:Int)=0:=by
 have hz:=h.z
 unfold pcR
 rw [if_neg (by omega),if_pos (by rw [h.len]),if_pos,if_pos]
 ·unfold List.Nodup
  rw [List.pairwise_flatten]
  refine ⟨h.nd,List.pairwise_iff_getElem.2 fun i j hi hj hij x hx y hy e => ?_⟩
  subst e
  have:=h.dis i j x (by rw [← h.len]; exact hi) (by rw [← h.len]; exact hj) (by rw [zHL hi]; exact hx) (by rw [zHL hj]; exact hy)
  omega
 ·refine List.all_eq_true.2 fun f hf => ?_
  obtain ⟨l,hl,hfl⟩:=List.mem_flatten.1 hf
  exact h.fr l hl f hfl
theorem zP4 (l:List Int):zC4 (List.replicate (l.length:Int).toNat 0) l=l:=by
 unfold zC4
 rw [List.length_replicate,Int.toNat_natCast,List.take_length,List.drop_replicate,Nat.sub_self]
 exact List.append_nil l
theorem zTC {T:List (List Int)} {i m:Nat} {x:List Int} (hi:T[i]?=some x):(T.take i++List.replicate (m+1) ([]:List Int)).set i x=T.take (i+1)++List.replicate m []:=by
 have hl:(T.take i).length=i:=by rw [List.length_take]; have:=(List.getElem?_eq_some_iff.1 hi).1; omega
 rw [List.set_append,if_neg (by omega),hl,Nat.sub_self,List.replicate_succ,List.set_cons_zero,List.take_add_one,hi]
 simp
theorem zSj (hc:Ck c) (hl:l.length≤1000):∀ (m n i:Nat),i+m=c.lists.length→m<n→zCY c (z:Int) l n (i:Int) ((c.lists.set z l).take i++List.replicate m [])=some ⟨c.lists.set z l⟩:=by
 have hn:=hc.n
 intro m
 induction m with
 | zero =>
  intro n i h1 h2
  obtain ⟨n,rfl⟩:=ex1 ‹_<n›
  show zCe _ _ _ _ _ _=_
  unfold zCe zF0
  rw [zAB (df (by omega)),List.replicate_zero,List.append_nil,List.take_of_length_le (by rw [List.length_set]; omega)]
 | succ m ih =>
  intro n i h1 h2
  obtain ⟨n,rfl⟩:=ex1 ‹_<n›
  have hi:i<c.lists.length:=by omega
  have hll:((c.lists.set z l).take i++List.replicate (m+1) ([]:List Int)).length=c.lists.length:=by
   rw [List.length_append,List.length_take,List.length_set,List.length_replicate]; omega
  have hj:∀ d:List Int,d.length≤1000→(c.lists.set z l)[i]?=some d→zDG (zCY c (z:Int) l n) (i:Int) ((c.lists.set z l).take i++List.replicate (m+1) []) d=some ⟨c.lists.set z l⟩:=fun d hd he=>by
   unfold zDG
   rw [zf (by simp; omega),zf (zXT (by rw [hll]; omega)),zf (zAE (by omega)),zP4,Int.toNat_natCast,zTC he]
   exact ih n (i+1) (by omega) (by omega)
  show zCe _ _ _ _ _ _=_
  unfold zCe
  rw [zAN (dt (by omega)),zf (zAK hi)]
  by_cases hz:i=z
  ·rw [zAN (dt (by omega))]
   exact hj l hl (by rw [← hz,List.getElem?_set_self hi])
  ·rw [zAB (df (by omega))]
   refine hj _ (hc.l _ (zAn hi)) ?_
   rw [List.getElem?_set_ne (fun e=>hz e.symm),zHL hi,List.getElem?_eq_getElem hi]
theorem zU7 (hc:Ck c) (hl:l.length≤1000):zBn c (z:Int) l=some ⟨c.lists.set z l⟩:=by
 have hn:=hc.n
 unfold zBn
 rw [zf (by simp; omega)]
 exact zSj hc hl c.lists.length zAF 0 (by omega) (by unfold zAF; omega)
theorem zVP (h:Pc c zn) (hz:z<zn):zEg c (z:Int)=some 0:=by
 have hl:=h.len
 unfold zEg
 rw [zUl h.ck,hl,h.r,zBt,dt rfl,Bool.not_true,zAB rfl,df (by omega),df (by omega)]
 rfl
theorem zVd (h:Pc c zn) (hz:z<zn):zGo c (z:Int)=some 0:=by
 have hl:=h.len
 unfold zGo
 rw [zUp h.ck,hl,h.r,zBt,dt rfl,Bool.not_true,zAB rfl,df (by omega),df (by omega)]
 rfl
theorem zWX (hp:Pc c zn) (hz:z<zn):zIT c (z:Int)=some (⟨c.lists.set z []⟩,at_ c.lists (z:Int),0):=by
 have hl:=hp.len
 have hzl:z<c.lists.length:=by omega
 have hbd:=hp.bd _ (zAn hzl)
 unfold zIT
 rw [zVP hp hz,zBt,dt rfl,Bool.not_true,zAB rfl,zf (zAK hzl),zf (by simp; omega),zU7 hp.ck (by simp),zBt,zP4]
theorem zXF (hp:Pc c zn) (hz:z<zn):zJB c (z:Int)=some (⟨c.lists.set z []⟩,at_ c.lists (z:Int),0):=by
 have hl:=hp.len
 have hzl:z<c.lists.length:=by omega
 have hbd:=hp.bd _ (zAn hzl)
 unfold zJB
 rw [zVd hp hz,zBt,dt rfl,Bool.not_true,zAB rfl,zPu hp.ck,zBt,zf (zAK hzl),zf (by simp; omega),Int.toNat_natCast,List.nil_append]
end
end Go.Proofs.YtplkliakhdkpcaaGreat
namespace Go.Proofs.YtplkliakhdkpcaaGreat
open Go Go.RowKit Go.Wk Go.Am
theorem zWO {α:Type} [Inhabited α] {l:List α} {i:Nat} (h:i<l.length):l[i]?=some (at_ l (i:Int)):=by rw [zHL h,List.getElem?_eq_getElem h]
theorem zTX {l:List (List Int)} {p:Nat} (h:l.length≤p):at_ l (p:Int)=[]:=by
 unfold at_
 rw [Int.toNat_natCast,List.getD_eq_getElem?_getD,List.getElem?_eq_none h]
 rfl
theorem zUd {l:List (List Int)} {p:Nat} {f:Int} (h:f∈at_ l (p:Int)):p<l.length:=by
 refine Nat.lt_of_not_le fun hn => ?_
 rw [zTX hn] at h
 cases h
theorem zQ8 {f:Int} (h:0≤f):((f.toNat:Nat):Int)=f:=Int.toNat_of_nonneg h
theorem zUt {z:zi} (hr:ranges z=true):∀ (l:List Int) (d:List Bool),d.length=256→(feL z d l).1=0→(∀ f,f∈l→inZ z f=true∧zKu z f=false∧d.getD f.toNat false=false)∧l.Nodup∧(∀ g:Nat,(feL z d l).2.getD g false=true↔d.getD g false=true∨(g:Int)∈l)
 | [],d,hd,h=>⟨(fun f hf=>by cases hf),List.nodup_nil,(fun g=>by unfold feL; simp)⟩
 | f::r,d,hd,h=>by
  unfold feL at h ⊢
  by_cases hi:inZ z f=true
  ·rw [if_pos hi] at h ⊢
   have hb:=zPq hr hi
   by_cases hx:(d.getD f.toNat false||zKu z f)=true
   ·rw [if_pos hx] at h; cases h
   ·rw [if_neg hx] at h ⊢
    simp only [Bool.or_eq_true,not_or,Bool.not_eq_true] at hx
    obtain ⟨i1,i2,i3⟩:=zUt hr r (d.set f.toNat true) (by rw [List.length_set]; exact hd) h
    have hfr:f ∉ r:=fun hm=>by
     have:=(i1 f hm).2.2
     rw [zCC _ _ _ (by omega),if_pos rfl] at this
     cases this
    refine ⟨fun g hg => ?_,List.nodup_cons.2 ⟨hfr,i2⟩,fun g => ?_⟩
    ·rcases List.mem_cons.1 hg with rfl | hg
     ·exact ⟨hi,hx.2,hx.1⟩
     ·have h3:=i1 g hg
      refine ⟨h3.1,h3.2.1,?_⟩
      have h4:=h3.2.2
      rw [zCC _ _ _ (by omega)] at h4
      split at h4
      ·cases h4
      ·exact h4
    ·rw [i3 g,zCC _ _ _ (by omega)]
     by_cases hg:g=f.toNat
     ·rw [if_pos hg]
      exact ⟨fun _ => .inr (by rw [hg,zQ8 hb.1]; simp),fun _ => .inl rfl⟩
     ·rw [if_neg hg]
      constructor
      ·rintro (h | h)
       ·exact .inl h
       ·exact .inr (List.mem_cons_of_mem _ h)
      ·rintro (h | h)
       ·exact .inl h
       ·rcases List.mem_cons.1 h with h | h
        ·omega
        ·exact .inr h
  ·rw [if_neg hi] at h; cases h
theorem zUu:∀ (zs:List zi) (ls:List (List Int)) (d:List Bool),(∀ z,z∈zs→ranges z=true)→ls.length=zs.length→d.length=256→(feC d zs ls).1=0 →
  (∀ (p:Nat) z l,zs[p]?=some z→ls[p]?=some l→(∀ f,f∈l→inZ z f=true∧zKu z f=false∧d.getD f.toNat false=false)∧l.Nodup) ∧
  (∀ (p q:Nat) l m f,ls[p]?=some l→ls[q]?=some m→f∈l→f∈m→p=q)∧(∀ g:Nat,(feC d zs ls).2.getD g false=true↔d.getD g false=true ∨ ∃ l,l∈ls∧(g:Int)∈l)∧(∀ l,l∈ls → ∀ f,f∈l→0≤f)
 | [],[],d,_,_,_,_=>⟨(fun p z l h=>by simp at h),(fun p q l m f h=>by simp at h),(fun g=>by unfold feC; simp),(fun l hl=>by cases hl)⟩
 | [],_::_,_,_,hl,_,_=>by simp at hl
 | _::_,[],_,_,hl,_,_=>by simp at hl
 | z::zs,l::ls,d,hr,hl,hd,h=>by
  unfold feC at h ⊢
  have hrz:=hr z (by simp)
  by_cases h0:(feL z d l).1=0
  ·rw [if_pos h0] at h ⊢
   obtain ⟨j1,j2,j3⟩:=zUt hrz l d hd h0
   obtain ⟨i1,i2,i3,i4⟩:=zUu zs ls (feL z d l).2 (fun y hy=>hr y (by simp [hy])) (by simpa using hl) (by rw [zMq]; exact hd) h
   have hz:∀ (q:Nat) m f,ls[q]?=some m→f∈m→f ∉ l:=fun q m f hq hm hfl=>by
    have hq':q<zs.length:=by have:=(List.getElem?_eq_some_iff.1 hq).1; simp at hl; omega
    have h1:=((i1 q _ m (List.getElem?_eq_getElem hq') hq).1 f hm).2.2
    have hb:=zPq hrz (j1 f hfl).1
    have:=(j3 f.toNat).2 (.inr (by rw [zQ8 hb.1]; exact hfl))
    rw [h1] at this
    cases this
   refine ⟨fun p y m hy hm => ?_,fun p q a b f ha hb hfa hfb => ?_,fun g => ?_,fun m hm f hf => ?_⟩
   ·cases p with
    | zero=>simp at hy hm; subst hy; subst hm; exact ⟨j1,j2⟩
    | succ p =>
     have h1:=i1 p y m (by simpa using hy) (by simpa using hm)
     refine ⟨fun f hf => ?_,h1.2⟩
     have h2:=h1.1 f hf
     refine ⟨h2.1,h2.2.1,?_⟩
     cases hq:d.getD f.toNat false with
     | false=>rfl
     | true=>rw [(j3 f.toNat).2 (.inl hq)] at h2; cases h2.2.2
   ·cases p with
    | zero =>
     simp at ha
     subst ha
     cases q with
     | zero=>rfl
     | succ q=>exact absurd hfa (hz q b f (by simpa using hb) hfb)
    | succ p =>
     cases q with
     | zero=>simp at hb; subst hb; exact absurd hfb (hz p a f (by simpa using ha) hfa)
     | succ q=>rw [i2 p q a b f (by simpa using ha) (by simpa using hb) hfa hfb]
   ·rw [i3 g,j3 g]
    constructor
    ·rintro ((h | h) | ⟨m,h1,h2⟩)
     ·exact .inl h
     ·exact .inr ⟨l,by simp,h⟩
     ·exact .inr ⟨m,by simp [h1],h2⟩
    ·rintro (h | ⟨m,h1,h2⟩)
     ·exact .inl (.inl h)
     ·rcases List.mem_cons.1 h1 with rfl | h1
      ·exact .inl (.inr h2)
      ·exact .inr ⟨m,h1,h2⟩
   ·rcases List.mem_cons.1 hm with rfl | hm
    ·exact (zPq hrz (j1 f hf).1).1
    ·exact i4 m hm f hf
  ·rw [if_neg h0] at h; exact absurd h h0
theorem zUi {zs:List zi} (hr:∀ z,z∈zs→ranges z=true):∀ (cs:List zL) (d:List Bool),(∀ c,c∈cs→c.lists.length=zs.length)→d.length=256→feA zs d cs=0 →
  (∀ c,c∈cs → ∀ (p:Nat) z l,zs[p]?=some z→c.lists[p]?=some l→(∀ f,f∈l→inZ z f=true∧zKu z f=false)∧l.Nodup) ∧
  (∀ c,c∈cs → ∀ (p q:Nat) l m f,c.lists[p]?=some l→c.lists[q]?=some m→f∈l→f∈m→p=q) ∧
  (∀ (i j:Nat) x y l m f,cs[i]?=some x→cs[j]?=some y→l∈x.lists→m∈y.lists→f∈l→f∈m→i=j)∧(∀ c,c∈cs → ∀ l,l∈c.lists → ∀ f,f∈l→d.getD f.toNat false=false)
 | [],_,_,_,_=>⟨(fun c hc=>by cases hc),(fun c hc=>by cases hc),(fun i j x y l m f h=>by simp at h),(fun c hc=>by cases hc)⟩
 | c::cs,d,hl,hd,h=>by
  unfold feA at h
  by_cases h0:(feC d zs c.lists).1=0
  ·rw [if_pos h0] at h
   have hcl:=hl c (by simp)
   obtain ⟨j1,j2,j3,j4⟩:=zUu zs c.lists d hr hcl hd h0
   obtain ⟨i1,i2,i3,i4⟩:=zUi hr cs (feC d zs c.lists).2 (fun x hx=>hl x (by simp [hx])) (by rw [zPP]; exact hd) h
   have hz:∀ y m f,y∈cs→m∈y.lists→f∈m → ∀ l,l∈c.lists→f ∉ l:=fun y m f hy hm hf l hl hfl=>by
    have h1:=i4 y hy m hm f hf
    have:=(j3 f.toNat).2 (.inr ⟨l,hl,by rw [zQ8 (j4 l hl f hfl)]; exact hfl⟩)
    rw [h1] at this
    cases this
   refine ⟨fun x hx => ?_,fun x hx => ?_,fun i j x y l m f hi hj hlx hmy hfl hfm => ?_,fun x hx l hlx f hf => ?_⟩
   ·rcases List.mem_cons.1 hx with rfl | hx
    ·exact fun p z l h1 h2=>⟨fun f hf=>⟨((j1 p z l h1 h2).1 f hf).1,((j1 p z l h1 h2).1 f hf).2.1⟩,(j1 p z l h1 h2).2⟩
    ·exact i1 x hx
   ·rcases List.mem_cons.1 hx with rfl | hx
    ·exact j2
    ·exact i2 x hx
   ·cases i with
    | zero =>
     simp at hi
     subst hi
     cases j with
     | zero=>rfl
     | succ j=>exact absurd hfl (hz y m f (List.mem_of_getElem? (by simpa using hj)) hmy hfm l hlx)
    | succ i =>
     cases j with
     | zero=>simp at hj; subst hj; exact absurd hfm (hz x l f (List.mem_of_getElem? (by simpa using hi)) hlx hfl m hmy)
     | succ j=>rw [i3 i j x y l m f (by simpa using hi) (by simpa using hj) hlx hmy hfl hfm]
   ·rcases List.mem_cons.1 hx with rfl | hx
    ·obtain ⟨p,hp,e⟩:=List.getElem_of_mem hlx
     have hpz:p<zs.length:=by omega
     exact ((j1 p _ l (List.getElem?_eq_getElem hpz) (by rw [List.getElem?_eq_getElem hp,e])).1 f hf).2.2
    ·cases hq:d.getD f.toNat false with
     | false=>rfl
     | true =>
      have:=i4 x hx l hlx f hf
      rw [(j3 f.toNat).2 (.inl hq)] at this
      cases this
  ·rw [if_neg h0] at h; exact absurd h h0
theorem zUX:∀ {cs:List zL} {h zn:Int},cE h zn cs=0 → ∀ c,c∈cs → ∀ l,l∈c.lists→(l.length:Int)≤h
 | [],_,_,_,_,hc=>absurd hc (by simp)
 | c::cs,h,zn,he,x,hx=>by
  unfold cE at he
  by_cases h0:pcR c zn=0
  ·rw [if_pos h0] at he
   split at he
   ·cases he
   ·rename_i hany
    rcases List.mem_cons.1 hx with rfl | hx
    ·intro l hl
     refine Int.not_lt.1 fun hlt=>hany ?_
     exact List.any_eq_true.2 ⟨l,hl,decide_eq_true hlt⟩
    ·exact zUX he x hx
  ·rw [if_neg h0] at he; exact absurd he h0
theorem zRA {z:zi} {f:Int} (hr:ranges z=true):inZ z f=true↔inside z f 0=true:=by
 have hb:=zBR hr
 rw [zBE hr,pw0]
 unfold inZ
 simp only [Bool.and_eq_true,decide_eq_true_eq]
 omega
theorem zRm {z:zi} {f:Int} (hz:Zk z) (h:zDu z=0) (hi:inside z f 0=true):zKu z f=true↔cov z f:=by
 obtain ⟨hr,hin,_⟩:=zGj hz h
 have hb:=zAW hr hi
 have hc:=zK3 hz hr hin f.toNat
 rw [zQ8 hb.1] at hc
 unfold zKu
 rw [dt h,hi]
 simp only [Bool.and_self,Bool.true_and,decide_eq_true_eq]
 exact hc
def Lf (a:zJ) (c p:Nat):List Int:=at_ (at_ a.caches (c:Int)).lists (p:Int)
def Zn (a:zJ) (p:Nat):zi:=at_ a.zones (p:Int)
structure Wa (a:zJ):Prop where
 n:1≤a.nodes.length∧a.nodes.length≤4
 nr:∀ v,v∈a.nodes→0≤v∧v<4
 se:zE 0 a.zones=0
 bh:1≤a.batch∧a.batch≤a.high∧a.high≤64
 zn:1≤a.zones.length∧a.zones.length≤6
 cn:a.caches.length=a.nodes.length
 zs:∀ p,p<a.zones.length→OkZ (Zn a p)
 ap:∀ p q f,p<a.zones.length→q<a.zones.length→inside (Zn a p) f 0=true→inside (Zn a q) f 0=true→p=q
 cl:∀ c,c<a.caches.length→(at_ a.caches (c:Int)).lists.length=a.zones.length
 own:∀ c p f,c<a.caches.length→f∈Lf a c p→inside (Zn a p) f 0=true ∧ ¬ cov (Zn a p) f
 nd:∀ c p,c<a.caches.length→(Lf a c p).Nodup
 dis:∀ c d p q f,c<a.caches.length→d<a.caches.length→f∈Lf a c p→f∈Lf a d q→c=d∧p=q
 lim:∀ c p,c<a.caches.length→((Lf a c p).length:Int)≤a.high
section
variable {a:zJ}
theorem Wa.pz (h:Wa a) {c p:Nat} {f:Int} (hc:c<a.caches.length) (hf:f∈Lf a c p):p<a.zones.length:=by
 rw [← h.cl c hc]
 exact zUd hf
theorem Wa.pc (h:Wa a) {c:Nat} (hc:c<a.caches.length):Pc (at_ a.caches (c:Int)) a.zones.length:=by
 have hl:=h.cl c hc
 have hlf:∀ l,l∈(at_ a.caches (c:Int)).lists → ∃ p,p<a.zones.length∧l=Lf a c p:=fun l hm=>by
  obtain ⟨p,hp,e⟩:=List.getElem_of_mem hm
  exact ⟨p,by omega,by unfold Lf; rw [zHL hp,e]⟩
 refine ⟨h.zn,hl,fun l hm => ?_,fun l hm f hf => ?_,fun l hm => ?_,fun p q f hp hq h1 h2=>(h.dis c c p q f hc hc h1 h2).2⟩
 ·obtain ⟨p,hp,rfl⟩:=hlf l hm
  have:=h.lim c p hc
  have:=h.bh
  omega
 ·obtain ⟨p,hp,rfl⟩:=hlf l hm
  have hb:=(h.zs p hp).bds (h.own c p f hc hf).1
  rw [pw0] at hb
  unfold zFJ
  simp
  omega
 ·obtain ⟨p,hp,rfl⟩:=hlf l hm
  exact h.nd c p hc
theorem zXN (ha:Al a) (h:zTg a=0):Wa a:=by
 have hv:=zWg ha h
 have hzc:∀ z,z∈a.zones→zDu z=0:=fun z hz=>hv.chk hz
 have hzr:∀ z,z∈a.zones→ranges z=true:=fun z hz=>zCs (hzc z hz)
 unfold zTg at h
 split at h
 ·rename_i hf
  split at h
  ·rename_i hz
   split at h
   ·rename_i hl
    split at h
    ·rename_i hc
     obtain ⟨q1,q2,q3,_⟩:=zUi hzr a.caches zEw hv.len zJO h
     have hap:=(zR7 hz).2
     have hnr:∀ v,v∈a.nodes→0≤v∧v<4:=fun v hv=>by
      unfold zTf at hf
      simp only [Bool.and_eq_true,Bool.not_eq_true'] at hf
      have:=List.any_eq_false.1 hf.2 v hv
      unfold zNA at this
      simp at this
      omega
     unfold zTf zJe at hf
     simp only [Bool.and_eq_true,Bool.not_eq_true',Bool.or_eq_false_iff,decide_eq_false_iff_not] at hf
     have hcl:∀ c,c<a.caches.length→(at_ a.caches (c:Int)).lists.length=a.zones.length:=fun c hc=>hv.len _ (zAn hc)
     have hpz:∀ c p f,c<a.caches.length→f∈Lf a c p→p<a.zones.length:=fun c p f hc hf=>by rw [← hcl c hc]; exact zUd hf
     have hnd:∀ c p,c<a.caches.length→p<a.zones.length→(∀ f,f∈Lf a c p→inZ (Zn a p) f=true∧zKu (Zn a p) f=false)∧(Lf a c p).Nodup:=fun c p hc hp=>q1 _ (zAn hc) p _ _ (zWO hp) (zWO (by rw [hcl c hc]; exact hp))
     refine ⟨by omega,hnr,hz,by omega,by omega,by omega,fun p hp => ?_,fun p q f hp hq h1 h2 => ?_,hcl,fun c p f hc hf => ?_,fun c p hc => ?_,fun c d p q f hc hd h1 h2 => ?_,fun c p hcc => ?_⟩
     ·exact (zKq (ha.zk _ (zAn hp)).1 (hzc _ (zAn hp))).1
     ·have e1:=(zRA (hzr _ (zAn hp))).2 h1
      have e2:=(zRA (hzr _ (zAn hq))).2 h2
      have g1:=(zPt f a.zones 0 p hp hap).2 (by rw [← zHL hp]; exact e1)
      have g2:=(zPt f a.zones 0 q hq hap).2 (by rw [← zHL hq]; exact e2)
      omega
     ·have hp:=hpz c p f hc hf
      have h1:=(hnd c p hc hp).1 f hf
      have hzk:=(ha.zk _ (zAn hp)).1
      have hi:=(zRA (hzr _ (zAn hp))).1 h1.1
      refine ⟨hi,fun hcv => ?_⟩
      have:=(zRm hzk (hzc _ (zAn hp)) hi).2 hcv
      rw [show zKu (at_ a.zones (p:Int)) f=false from h1.2] at this
      cases this
     ·by_cases hp:p<a.zones.length
      ·exact (hnd c p hc hp).2
      ·unfold Lf
       rw [zTX (by rw [hcl c hc]; omega)]
       exact List.nodup_nil
     ·have hp:=hpz c p f hc h1
      have hq:=hpz d q f hd h2
      have hpl:p<(at_ a.caches (c:Int)).lists.length:=by rw [hcl c hc]; exact hp
      have hql:q<(at_ a.caches (d:Int)).lists.length:=by rw [hcl d hd]; exact hq
      have e:c=d:=q3 c d _ _ _ _ f (zWO hc) (zWO hd) (zAn hpl) (zAn hql) h1 h2
      subst e
      exact ⟨rfl,q2 _ (zAn hc) p q _ _ f (zWO hpl) (zWO hql) h1 h2⟩
     ·by_cases hp:p<a.zones.length
      ·exact zUX hc _ (zAn hcc) _ (zAn (by rw [hcl c hcc]; exact hp))
      ·unfold Lf
       rw [zTX (by rw [hcl c hcc]; omega)]
       show ((0:Nat):Int)≤_
       omega
    ·rename_i hc; exact absurd h hc
   ·cases h
  ·rename_i hz; exact absurd h hz
 ·cases h
end
end Go.Proofs.YtplkliakhdkpcaaGreat
namespace Go.Proofs.YtplkliakhdkpcaaGreat
open Go Go.RowKit Go.Wk Go.Am
theorem zPl {α:Type} [Inhabited α] {l:List α} {i j:Nat} {x:α} (h:i<l.length):at_ (l.set i x) (j:Int)=if j=i then x else at_ l (j:Int):=by
 unfold at_
 rw [Int.toNat_natCast,List.getD_eq_getElem?_getD,List.getElem?_set]
 by_cases hj:i=j
 ·rw [if_pos hj,if_pos h,if_pos hj.symm]
  rfl
 ·rw [if_neg hj,if_neg (fun e=>hj e.symm),List.getD_eq_getElem?_getD]
theorem zUx {z:zi}:∀ (zs:List zi) (s:Int) (p:Nat),zE s zs=0→p<zs.length→zDu z=0→zGv z (at_ zs (p:Int))→zE s (zs.set p z)=0
 | [],_,_,_,hp,_,_=>by simp at hp
 | y::zs,s,p,h,hp,hc,h5=>by
  unfold zE at h
  by_cases hy:zDu y=0
  ·rw [if_pos hy] at h
   by_cases hs:y.start=s
   ·rw [if_pos hs] at h
    cases p with
    | zero =>
     have h5':zGv z y:=h5
     show zE s (z::zs)=0
     unfold zE
     rw [if_pos hc,if_pos (h5'.2.2.1.trans hs),h5'.2.2.2.1]
     exact h
    | succ p =>
     show zE s (y::zs.set p z)=0
     unfold zE
     rw [if_pos hy,if_pos hs]
     refine zUx zs _ p h (by simpa using hp) hc ?_
     have e:at_ (y::zs) ((p+1:Nat):Int)=at_ zs (p:Int):=rfl
     rw [e] at h5
     exact h5
   ·rw [if_neg hs] at h; cases h
  ·rw [if_neg hy] at h; exact absurd h hy
def upd (a:zJ) (c p:Nat) (l:List Int) (z:zi):zJ:=⟨a.nodes,a.batch,a.high,a.zones.set p z,a.caches.set c ⟨(at_ a.caches (c:Int)).lists.set p l⟩⟩
section
variable {a:zJ} {c p:Nat} {l:List Int} {z:zi}
theorem zWS (hp:p<a.zones.length) (q:Nat):Zn (upd a c p l z) q=if q=p then z else Zn a q:=zPl hp
theorem zWj (h:Wa a) (hc:c<a.caches.length) (hp:p<a.zones.length) (d q:Nat):Lf (upd a c p l z) d q=if d=c∧q=p then l else Lf a d q:=by
 unfold Lf upd
 rw [zPl hc]
 by_cases hd:d=c
 ·subst hd
  rw [if_pos rfl,zPl (by rw [h.cl d hc]; exact hp)]
  by_cases hq:q=p
  ·rw [if_pos hq,if_pos ⟨rfl,hq⟩]
  ·rw [if_neg hq,if_neg (fun e=>hq e.2)]
 ·rw [if_neg hd,if_neg (fun e=>hd e.1)]
theorem zTZ (h:Wa a) (hc:c<a.caches.length) (hp:p<a.zones.length) (hz:OkZ z) (h5:zGv z (Zn a p)) (hl:(l.length:Int)≤a.high) (hn:l.Nodup)
  (hi:∀ f,f∈l→inside (Zn a p) f 0=true ∧ ¬ cov z f) (hd:∀ d f,d<a.caches.length→d≠c→f∈Lf a d p→f ∉ l ∧ ¬ cov z f):Wa (upd a c p l z):=by
 have hZ:=fun q=>zWS (c:=c) (l:=l) (z:=z) hp q
 have hL:=fun d q=>zWj (l:=l) (z:=z) h hc hp d q
 have hzl:(upd a c p l z).zones.length=a.zones.length:=List.length_set
 have hcl:(upd a c p l z).caches.length=a.caches.length:=List.length_set
 have hin:∀ q f,inside (Zn (upd a c p l z) q) f 0=inside (Zn a q) f 0:=fun q f=>by
  rw [hZ q]
  by_cases hq:q=p
  ·rw [if_pos hq,hq,h5.inside]
  ·rw [if_neg hq]
 have hq':∀ d q f,d<a.caches.length→f∈Lf a d q→f∈l→q=p:=fun d q f hd1 hf hfl=>h.ap q p f (h.pz hd1 hf) hp (h.own d q f hd1 hf).1 (hi f hfl).1
 refine ⟨h.n,h.nr,zUx a.zones 0 p h.se hp (zI9 hz) h5,h.bh,by rw [hzl]; exact h.zn,by rw [hcl]; exact h.cn,fun q hq => ?_,fun q r f hq hr h1 h2 => ?_,fun d hd1 => ?_,fun d q f hd1 hf => ?_,fun d q hd1 => ?_,fun d e q r f hd1 he h1 h2 => ?_,fun d q hd1 => ?_⟩
 ·rw [hZ q]
  by_cases e:q=p
  ·rw [if_pos e]; exact hz
  ·rw [if_neg e]; exact h.zs q (by rwa [hzl] at hq)
 ·rw [hin] at h1 h2
  exact h.ap q r f (by rwa [hzl] at hq) (by rwa [hzl] at hr) h1 h2
 ·rw [hcl] at hd1
  rw [hzl]
  show (at_ (a.caches.set c _) (d:Int)).lists.length=_
  rw [zPl hc]
  by_cases e:d=c
  ·rw [if_pos e]
   show ((at_ a.caches (c:Int)).lists.set p l).length=_
   rw [List.length_set,h.cl c hc]
  ·rw [if_neg e]; exact h.cl d hd1
 ·rw [hcl] at hd1
  rw [hin,hZ q]
  rw [hL d q] at hf
  by_cases e:d=c∧q=p
  ·rw [if_pos e] at hf
   rw [if_pos e.2,e.2]
   exact hi f hf
  ·rw [if_neg e] at hf
   refine ⟨(h.own d q f hd1 hf).1,?_⟩
   by_cases hqp:q=p
   ·subst hqp
    rw [if_pos rfl]
    exact (hd d f hd1 (fun x=>e ⟨x,rfl⟩) hf).2
   ·rw [if_neg hqp]; exact (h.own d q f hd1 hf).2
 ·rw [hcl] at hd1
  rw [hL d q]
  by_cases e:d=c∧q=p
  ·rw [if_pos e]; exact hn
  ·rw [if_neg e]; exact h.nd d q hd1
 ·rw [hcl] at hd1 he
  rw [hL d q] at h1
  rw [hL e r] at h2
  by_cases e1:d=c∧q=p
  ·rw [if_pos e1] at h1
   by_cases e2:e=c∧r=p
   ·exact ⟨e1.1.trans e2.1.symm,e1.2.trans e2.2.symm⟩
   ·rw [if_neg e2] at h2
    have hr:=hq' e r f he h2 h1
    subst hr
    exact absurd h1 (hd e f he (fun x=>e2 ⟨x,rfl⟩) h2).1
  ·rw [if_neg e1] at h1
   by_cases e2:e=c∧r=p
   ·rw [if_pos e2] at h2
    have hr:=hq' d q f hd1 h1 h2
    subst hr
    exact absurd h2 (hd d f hd1 (fun x=>e1 ⟨x,rfl⟩) h1).1
   ·rw [if_neg e2] at h2
    exact h.dis d e q r f hd1 he h1 h2
 ·rw [hcl] at hd1
  rw [hL d q]
  by_cases e:d=c∧q=p
  ·rw [if_pos e]; exact hl
  ·rw [if_neg e]; exact h.lim d q hd1
theorem Wa.sm (h:Wa a):Sm a:=by
 refine ⟨by have:=h.n; omega,by have:=h.zn; omega,by have:=h.n; have:=h.cn; omega,fun z hz k => ?_,fun x hx => ?_⟩
 ·obtain ⟨q,hq,e⟩:=List.getElem_of_mem hz
  have:=(h.zs q hq).putI.len' k
  unfold Zn at this
  rw [zHL hq,e] at this
  unfold lst at this
  omega
 ·obtain ⟨d,hd,e⟩:=List.getElem_of_mem hx
  have h1:=h.cl d hd
  have h2:=(h.pc hd).bd
  rw [zHL hd,e] at h1 h2
  exact ⟨by have:=h.zn; omega,fun l hl=>by have:=h2 l hl; omega⟩
theorem zWT {f:Int} (h:OkZ z) (hi:inside z f 0=true) (hn:¬ cov z f):zIy z f 0=some (zOZ 4 z f 0,0) :=
 zUB (k:=0) h.zk h.inI (zI9 h) (by omega) hi (fun g g1 g2=>by
  rw [pw0] at g2
  have:g=f:=by omega
  rw [this]; exact hn)
theorem zWu {f:Int} (h:OkZ z) (hi:inside z f 0=true) (hn:¬ cov z f):zIz z f 0=some (zOZ 4 z f 0,0) :=
 zT7 (k:=0) h.zk (zI9 h) (by omega) hi (fun g g1 g2=>by
  rw [pw0] at g2
  have:g=f:=by omega
  rw [this]; exact hn)
theorem zSc {fs:List Int} (hfs:fs.length≤1000):∀ (m n i:Nat) (zs:List zi),i+m=fs.length→m<n→p<zs.length→OkZ (at_ zs (p:Int))→(∀ f,f∈fs.drop i→inside (at_ zs (p:Int)) f 0=true ∧ ¬ cov (at_ zs (p:Int)) f)→(fs.drop i).Nodup →
  zDF a (p:Int) fs n (i:Int) zs=some ⟨a.nodes,a.batch,a.high,zs.set p (zND (at_ zs (p:Int)) (fs.drop i)),a.caches⟩ ∧
  zHC a (p:Int) fs n (i:Int) zs=some ⟨a.nodes,a.batch,a.high,zs.set p (zND (at_ zs (p:Int)) (fs.drop i)),a.caches⟩:=by
 intro m
 induction m with
 | zero =>
  intro n i zs h1 h2 hp _ _ _
  obtain ⟨n,rfl⟩:=ex1 ‹_<n›
  rw [List.drop_eq_nil_of_le (by omega)]
  show zCb _ _ _ _ _ _=some (⟨_,_,_,zs.set p (at_ zs (p:Int)),_⟩:zJ)∧zEv _ _ _ _ _ _=some (⟨_,_,_,zs.set p (at_ zs (p:Int)),_⟩:zJ)
  unfold zCb zEv
  rw [zAB (df (by omega)),zAB (df (by omega)),zOL hp]
  exact ⟨rfl,rfl⟩
 | succ m ih =>
  intro n i zs h1 h2 hp ho hf hn
  obtain ⟨n,rfl⟩:=ex1 ‹_<n›
  have hi:i<fs.length:=by omega
  rw [zCZ hi] at hf hn ⊢
  have h0:=hf (at_ fs (i:Int)) (by simp)
  have hnd:=List.nodup_cons.1 hn
  obtain ⟨q1,q2,q3⟩:=OkZ.put 4 (k:=0) (by omega) ho h0.1 (fun g g1 g2=>by
   rw [pw0] at g2
   have:g=at_ fs (i:Int):=by omega
   rw [this]; exact h0.2)
  have e1:at_ (zs.set p (zOZ 4 (at_ zs (p:Int)) (at_ fs (i:Int)) 0)) (p:Int)=zOZ 4 (at_ zs (p:Int)) (at_ fs (i:Int)) 0:=by rw [zPl hp,if_pos rfl]
  have hr:=ih n (i+1) (zs.set p (zOZ 4 (at_ zs (p:Int)) (at_ fs (i:Int)) 0)) (by omega) (by omega) (by rw [List.length_set]; exact hp) (by rw [e1]; exact q1) (fun g hg=>by
   rw [e1,q3.inside]
   refine ⟨(hf g (by simp [hg])).1,fun hc => ?_⟩
   rcases (q2 g).1 hc with hc | hc
   ·exact (hf g (by simp [hg])).2 hc
   ·rw [pw0] at hc
    have:g=at_ fs (i:Int):=by omega
    exact hnd.1 (this▸hg)) hnd.2
  rw [e1,List.set_set] at hr
  show zCb _ _ _ _ _ _=some (⟨_,_,_,zs.set p (zND (zOZ 4 (at_ zs (p:Int)) (at_ fs (i:Int)) 0) (fs.drop (i+1))),_⟩:zJ)∧zEv _ _ _ _ _ _=some (⟨_,_,_,zs.set p (zND (zOZ 4 (at_ zs (p:Int)) (at_ fs (i:Int)) 0) (fs.drop (i+1))),_⟩:zJ)
  unfold zCb zEv zEa
  rw [zAN (dt (by omega)),zAN (dt (by omega)),zf (zAK hi),zf (zAK hp),zf (zAK hp),zf (zAK hi),zWT ho h0.1 h0.2,zWu ho h0.1 h0.2,zBt,zBt,zAN (dt rfl),zf (zAE (by omega)),zf (zAE (by omega))]
  exact hr
theorem zVq {fs:List Int} (hfs:fs.length≤1000) (hp:p<a.zones.length) (ho:OkZ (Zn a p)) (hf:∀ f,f∈fs→inside (Zn a p) f 0=true ∧ ¬ cov (Zn a p) f) (hn:fs.Nodup) :
  zFH a (p:Int) fs=some ⟨a.nodes,a.batch,a.high,a.zones.set p (zND (Zn a p) fs),a.caches⟩∧zKL a (p:Int) fs=some ⟨a.nodes,a.batch,a.high,a.zones.set p (zND (Zn a p) fs),a.caches⟩ :=
 zSc (a:=a) hfs fs.length zAF 0 a.zones (by omega) (by unfold zAF; omega) hp ho hf hn
theorem zXA (h:Va a) (hw:Wa a) {f:Int} (hp:p<a.zones.length) (hi:inside (Zn a p) f 0=true):∃ b,zD5 a (p:Int) f=some b∧zKF a (p:Int) f=some b∧(b=true↔cov (Zn a p) f ∨ ∃ c,c<a.caches.length∧f∈Lf a c p):=by
 have hzk:=h.al.zk _ (zAn hp)
 have hcl:=h.al.c
 obtain ⟨r1,q1,s1⟩:=zS8 h (f:=f) hp a.caches.length zAF 0 (by omega) (by unfold zAF; omega)
 obtain ⟨r2,q2,s2⟩:=zSP h (f:=f) hp a.caches.length zAF 0 (by omega) (by unfold zAF; omega)
 have ed:decide (0≤r1)=decide (0≤r2):=decide_eq_decide.2 (s1.trans s2.symm)
 have e1:zCW a (p:Int) f=some r1:=by
  unfold zCW zAV
  rw [z0i,q1]
  rfl
 have e2:zGr a (p:Int) f=some r2:=q2
 have hc:=zRm hzk.1 (zI9 (hw.zs p hp)) hi
 have hs:0≤r1 ↔ ∃ c,c<a.caches.length∧f∈Lf a c p:=by
  rw [s1,List.drop_zero]
  constructor
  ·rintro ⟨c,h1,h2⟩
   obtain ⟨d,hd,e⟩:=List.getElem_of_mem h1
   exact ⟨d,hd,by unfold Lf; rw [zHL hd,e]; exact h2⟩
  ·rintro ⟨c,h1,h2⟩
   exact ⟨_,zAn h1,h2⟩
 unfold zD5 zKF
 rw [zf (zAK hp),zf (zAK hp),zXB hzk.1 hzk.2,zXS hzk.1,zBt,zBt,e1,e2]
 cases hz:zKu (at_ a.zones (p:Int)) f with
 | true=>exact ⟨true,rfl,rfl,fun _ => .inl (hc.1 hz),fun _=>rfl⟩
 | false =>
  refine ⟨decide (0≤r1),?_,?_,?_⟩
  ·show some (false||decide (0≤r1))=_
   rw [Bool.false_or]
  ·show some (false||decide (0≤r2))=_
   rw [Bool.false_or,ed]
  ·rw [decide_eq_true_eq,hs]
   exact ⟨.inr,fun x=>x.resolve_left fun y=>by rw [show zKu (at_ a.zones (p:Int)) f=true from hc.2 y] at hz; cases hz⟩
end
end Go.Proofs.YtplkliakhdkpcaaGreat
namespace Go.Proofs.YtplkliakhdkpcaaGreat
open Go Go.RowKit Go.Wk Go.Am
structure zVV (z:zi) (f:Int) (q:Nat):Prop where
 al:f%2 ^ q=0
 lo:z.start≤f
 hi:f+2 ^ q≤z.start+z.count
 no:∀ g,f≤g→g<f+2 ^ q → ¬ cov z g
section
variable {z:zi} {f:Int} {k j:Nat}
theorem zOp {q:Nat} (ho:OkZ z) (hq:q<4) (h:zVV z f (q+1)):OkZ (zNn z (f+2 ^ q) q)∧(∀ g,cov (zNn z (f+2 ^ q) q) g↔cov z g∨(f+2 ^ q≤g∧g<f+2 ^ (q+1)))∧zGv (zNn z (f+2 ^ q) q) z∧zVV (zNn z (f+2 ^ q) q) f q:=by
 obtain ⟨h1,h2,h3,h4⟩:=h
 have hp:=zJQ q
 have hs:=zLB q
 have hr:=zBR ho.ranges
 obtain ⟨a1,a2⟩:=zQz h1
 have hin:inside z (f+2 ^ q) q=true:=(zBE ho.ranges).2 ⟨by omega,a2,by omega,by omega⟩
 have hfn:f ∉ lst z q:=fun hm=>h4 f (by omega) (by omega) ⟨q,f,hm,by omega,by omega⟩
 have hj:zLo z (f+2 ^ q) q=false:=by
  have hb:bud (f+2 ^ q) q=f:=by
   rcases zNQ hq (show 0≤f+2 ^ q by omega) (by omega) a2 with ⟨e,_⟩ | ⟨_,e⟩
   ·exfalso
    rcases (show q=0∨q=1∨q=2∨q=3 by omega) with rfl | rfl | rfl | rfl
    ·have e':(f+1)%2=0:=e
     have h':f%2=0:=h1
     omega
    ·have e':(f+2)%4=0:=e
     have h':f%4=0:=h1
     omega
    ·have e':(f+4)%8=0:=e
     have h':f%8=0:=h1
     omega
    ·have e':(f+8)%16=0:=e
     have h':f%16=0:=h1
     omega
   ·rw [e]; omega
  unfold zLo
  rw [hb,df hfn]
  rfl
 obtain ⟨q1,q2,q3⟩:=ho.insert (by omega) hin (fun g g1 g2=>h4 g (by omega) (by omega)) (fun _=>hj)
 refine ⟨q1,fun g => ?_,q3,a1,?_,?_,fun g g1 g2 hc => ?_⟩
 ·rw [q2 g]
  constructor
  ·rintro (h | h)
   ·exact .inl h
   ·exact .inr (by omega)
  ·rintro (h | h)
   ·exact .inl h
   ·exact .inr (by omega)
 ·rw [q3.2.2.1]; exact h2
 ·rw [q3.2.2.1,q3.2.2.2.1]; omega
 ·rcases (q2 g).1 hc with h | h
  ·exact h4 g g1 (by omega) h
  ·omega
theorem zTz (ho:OkZ z) (hj:j≤4) (h:f∈lst z j):OkZ (zOQ z f j)∧(∀ g,cov (zOQ z f j) g↔cov z g ∧ ¬ (f≤g∧g<f+2 ^ j))∧zGv (zOQ z f j) z∧zVV (zOQ z f j) f j:=by
 obtain ⟨q1,q2,q3⟩:=ho.del h
 have hb:=ho.bds (ho.ins j f h)
 refine ⟨q1,q2,q3,hb.2.2.2.2,?_,?_,fun g g1 g2 hc=>((q2 g).1 hc).2 ⟨g1,g2⟩⟩
 ·rw [q3.2.2.1]; exact hb.2.2.1
 ·rw [q3.2.2.1,q3.2.2.2.1]; exact hb.2.2.2.1
end
end Go.Proofs.YtplkliakhdkpcaaGreat
namespace Go.Proofs.YtplkliakhdkpcaaGreat
open Go Go.RowKit Go.Wk Go.Am
def tkZ (z:zi) (g x:Int):Nat→zi
 | 0=>z
 | m+1=>if x+2 ^ m≤g then tkZ (zNn z x m) g (x+2 ^ m) m else tkZ (zNn z (x+2 ^ m) m) g x m
section
variable {z:zi} {f g:Int} {k j:Nat}
theorem zRz {q:Nat} (ho:OkZ z) (hq:q<4) (h:zVV z f (q+1)):OkZ (zNn z f q)∧(∀ g,cov (zNn z f q) g↔cov z g∨(f≤g∧g<f+2 ^ q))∧zGv (zNn z f q) z∧zVV (zNn z f q) (f+2 ^ q) q:=by
 obtain ⟨h1,h2,h3,h4⟩:=h
 have hp:=zJQ q
 have hs:=zLB q
 have hr:=zBR ho.ranges
 obtain ⟨a1,a2⟩:=zQz h1
 have hin:inside z f q=true:=(zBE ho.ranges).2 ⟨by omega,a1,by omega,by omega⟩
 have hfn:f+2 ^ q ∉ lst z q:=fun hm=>h4 (f+2 ^ q) (by omega) (by omega) ⟨q,_,hm,by omega,by omega⟩
 have hj:zLo z f q=false:=by
  have hb:bud f q=f+2 ^ q:=by
   rcases zNQ hq (show 0≤f by omega) (by omega) a1 with ⟨_,e⟩ | ⟨e,_⟩
   ·exact e
   ·rw [h1] at e; omega
  unfold zLo
  rw [hb,df hfn]
  rfl
 obtain ⟨q1,q2,q3⟩:=ho.insert (by omega) hin (fun g g1 g2=>h4 g (by omega) (by omega)) (fun _=>hj)
 refine ⟨q1,fun g=>q2 g,q3,a2,?_,?_,fun g g1 g2 hc => ?_⟩
 ·rw [q3.2.2.1]; omega
 ·rw [q3.2.2.1,q3.2.2.2.1]; omega
 ·rcases (q2 g).1 hc with h | h
  ·exact h4 g (by omega) (by omega) h
  ·omega
theorem zVa:∀ (m:Nat) {z:zi} {x:Int},m≤4→OkZ z→zVV z x m→x≤g→g<x+2 ^ m→OkZ (tkZ z g x m)∧(∀ y,cov (tkZ z g x m) y↔cov z y∨(x≤y∧y<x+2 ^ m∧y≠g))∧zGv (tkZ z g x m) z
 | 0,z,x,_,ho,_,h1,h2=>⟨ho,fun y=>⟨.inl,fun h=>h.elim id (fun h=>by rw [pw0] at h h2; omega)⟩,⟨rfl,rfl,rfl,rfl,rfl⟩⟩
 | m+1,z,x,hm,ho,hh,h1,h2=>by
  have hp:=zJQ m
  have hs:=zLB m
  unfold tkZ
  by_cases hg:x+2 ^ m≤g
  ·rw [if_pos hg]
   obtain ⟨q1,q2,q3,q4⟩:=zRz ho (q:=m) (by omega) hh
   obtain ⟨r1,r2,r3⟩:=zVa m (by omega) q1 q4 hg (by omega)
   refine ⟨r1,fun y => ?_,r3.trans q3⟩
   rw [r2 y,q2 y]
   constructor
   ·rintro ((h | h) | h)
    ·exact .inl h
    ·exact .inr (by omega)
    ·exact .inr (by omega)
   ·rintro (h | h)
    ·exact .inl (.inl h)
    ·by_cases hy:x+2 ^ m≤y
     ·exact .inr (by omega)
     ·exact .inl (.inr (by omega))
  ·rw [if_neg hg]
   obtain ⟨q1,q2,q3,q4⟩:=zOp ho (q:=m) (by omega) hh
   obtain ⟨r1,r2,r3⟩:=zVa m (by omega) q1 q4 h1 (by omega)
   refine ⟨r1,fun y => ?_,r3.trans q3⟩
   rw [r2 y,q2 y]
   constructor
   ·rintro ((h | h) | h)
    ·exact .inl h
    ·exact .inr (by omega)
    ·exact .inr (by omega)
   ·rintro (h | h)
    ·exact .inl (.inl h)
    ·by_cases hy:x+2 ^ m≤y
     ·exact .inl (.inr (by omega))
     ·exact .inr (by omega)
theorem zWD:∀ (m n:Nat) (y:zi) (x:Int),m≤4→m<n→OkZ y→zGv y z→zVV y x m→x≤g→g<x+2 ^ m→zCh g z n (m:Int) x y.free=some (tkZ y g x m,0):=by
 intro m
 induction m with
 | zero =>
  intro n y x h1 h2 ho h5 hh hx hy
  obtain ⟨n,rfl⟩:=ex1 ‹_<n›
  show zEu _ _ _ _ _ _=_
  unfold zEu zIp
  rw [zAB (df (by omega)), ← h5.1, ← h5.2.1, ← h5.2.2.1, ← h5.2.2.2.1, ← h5.2.2.2.2]
  rfl
 | succ m ih =>
  intro n y x h1 h2 ho h5 hh hx hy
  obtain ⟨n,rfl⟩:=ex1 ‹_<n›
  obtain ⟨e1,p1,p2⟩:=zKR (k:=m) (by omega)
  have hb:=zBR ho.ranges
  have hlo:=hh.lo
  have hhi:=hh.hi
  have hpp:=zJQ m
  have hss:=zLB m
  have hP:=ho.putI
  have hj:∀ u w:Int,zF5 (zCh g z n) ((m+1:Nat):Int) y.free u w=zCh g z n (m:Int) u (zNn y w m).free:=fun u w=>by
   have hl:y.free.getD (m:Int).toNat []=lst y m:=rfl
   have hok:zPQ (lst y m) (lb (lst y m) w:Int)=true:=by
    have h1:=zV7 (lst y m) w
    have h2:=hP.len' m
    unfold zPQ
    rw [dt (by omega),dt (by omega),dt (by omega)]
    rfl
   unfold zF5
   rw [show ((m+1:Nat):Int) - 1=(m:Int) by omega,zf (zAK (by omega)),zf (dt (by omega)),hl,zQr (hP.srt' m) (by have:=hP.len' m; omega),zBt,zf hok]
   show zCh g z n (m:Int) u (zDc 5 [] y.free m (zSd (lst y m) w))=_
   rw [zKl ho.len (by omega)]
   rfl
  show zEu _ _ _ _ _ _=_
  unfold zEu tkZ
  rw [zAN (dt (by omega)),show ((m+1:Nat):Int) - 1=(m:Int) by omega,zf (zAE (by omega)),zf (zOR (by omega)),e1,zf (zAE (by omega)),zf (zAE (by omega)),hj,hj]
  by_cases hg:x+2 ^ m≤g
  ·obtain ⟨q1,q2,q3,q4⟩:=zRz ho (q:=m) (by omega) hh
   rw [zAN (dt hg),if_pos hg]
   exact ih n (zNn y x m) _ (by omega) (by omega) q1 (q3.trans h5) q4 hg (by omega)
  ·obtain ⟨q1,q2,q3,q4⟩:=zOp ho (q:=m) (by omega) hh
   rw [zAB (df hg),if_neg hg]
   exact ih n (zNn y (x+2 ^ m) m) _ (by omega) (by omega) q1 (q3.trans h5) q4 hx (by omega)
theorem zWx (hz:Zk z) (h:zDu z=0) {f:Nat} (hf:f<256):∀ (m n k:Nat),k+m=5→m<n→(∃ j,k≤j∧j<5∧((f/2 ^ j*2 ^ j:Nat):Int)∈lst z j) → ∃ j:Nat,j<5∧((f/2 ^ j*2 ^ j:Nat):Int)∈lst z j∧zB4 z (f:Int) n (k:Int)=some ((j:Int),((f/2 ^ j*2 ^ j:Nat):Int)):=by
 obtain ⟨hr,hin,hs⟩:=zGj hz h
 intro m
 induction m with
 | zero =>
  rintro n k h1 h2 ⟨j,j1,j2,_⟩
  omega
 | succ m ih =>
  rintro n k h1 h2 ⟨j,j1,j2,j3⟩
  obtain ⟨n,rfl⟩:=ex1 ‹_<n›
  obtain ⟨e2,p1,p2⟩:=zKR (k:=k) (by omega)
  have e:z.free.getD (k:Int).toNat []=lst z k:=rfl
  have ha:=zRO ⟨k,by omega⟩ ⟨f,hf⟩
  simp only at ha
  have ee:zB4 z (f:Int) (n+1) (k:Int)=cnd (decide (((f/2 ^ k*2 ^ k:Nat):Int)∈lst z k)) (some ((k:Int),((f/2 ^ k*2 ^ k:Nat):Int))) (zB4 z (f:Int) n ((k+1:Nat):Int)):=by
   show zCo _ _ _ _=_
   unfold zCo
   rw [zAN (dt (by omega)),zf (zOR (by omega)),e2,zf (zAE (by omega)),zf (zAE (by omega)),zf (zAK (by omega)),e,ha,zQr (hs k) (hz.bd k),zBt,zf (zAE (by omega))]
   rfl
  rw [ee]
  by_cases hm:((f/2 ^ k*2 ^ k:Nat):Int)∈lst z k
  ·rw [zAN (dt hm)]
   exact ⟨k,by omega,hm,rfl⟩
  ·rw [zAB (df hm)]
   refine ih n (k+1) (by omega) (by omega) ⟨j,?_,j2,j3⟩
   by_cases hjk:j=k
   ·subst hjk; exact absurd j3 hm
   ·omega
theorem zXn {f:Int} (ho:OkZ z) (hi:inside z f 0=true) (hc:cov z f):∃ y,zKH z f=some (y,0)∧zKJ z f=some (y,0)∧OkZ y∧zGv y z ∧ ∀ g,cov y g↔cov z g∧g≠f:=by
 have hz:=ho.zk
 have h0:=zI9 ho
 obtain ⟨hr,hin,hs⟩:=zGj hz h0
 have hb:=zAW hr hi
 rw [pw0] at hb
 obtain ⟨m,rfl⟩:=Int.eq_ofNat_of_zero_le hb.1
 have hP:=ho.putI
 obtain ⟨j,hj,hm,hblk⟩:=zWx hz h0 (f:=m) (by omega) 5 zAF 0 (by omega) (by unfold zAF; omega) (by
  obtain ⟨j,x,hx,h1,h2⟩:=hc
  have hj:j<5:=Nat.lt_succ_of_le (ho.le4 hx)
  have hbj:=zAW hr (hin j hj _ hx)
  have haj:=(zBE hr).1 (hin j hj _ hx)
  have:=(zNS (f:=m) hj hbj.1 haj.2.1).1 ⟨h1,h2⟩
  exact ⟨j,Nat.zero_le _,hj,this▸hx⟩)
 generalize hx:((m/2 ^ j*2 ^ j:Nat):Int)=x at hm hblk
 have hbj:=zAW hr (hin j hj _ hm)
 have haj:=(zBE hr).1 (hin j hj _ hm)
 have hmx:=(zNS (f:=m) hj hbj.1 haj.2.1).2 hx.symm
 obtain ⟨q1,q2,q3,q4⟩:=zTz ho (by omega) hm
 obtain ⟨r1,r2,r3⟩:=zVa j (by omega) q1 q4 hmx.1 hmx.2
 have hcy:∀ g,cov (tkZ (zOQ z x j) (m:Int) x j) g↔cov z g∧g≠(m:Int):=fun g=>by
  rw [r2 g,q2 g]
  constructor
  ·rintro (⟨h,h'⟩ | h)
   ·exact ⟨h,fun e=>h' (by omega)⟩
   ·exact ⟨⟨j,x,hm,h.1,h.2.1⟩,h.2.2⟩
  ·rintro ⟨h,h'⟩
   by_cases hq:x≤g∧g<x+2 ^ j
   ·exact .inr ⟨hq.1,hq.2,h'⟩
   ·exact .inl ⟨h,hq⟩
 refine ⟨tkZ (zOQ z x j) (m:Int) x j,?_,?_,r1,r3.trans q3,hcy⟩
 ·have hie:zBm z (m:Int) 0=some (inside z (m:Int) 0):=zKO (k:=0) hr (by omega)
  have hl:z.free.getD (j:Int).toNat []=lst z j:=rfl
  have hlt:=zWc hm
  have hlen:=hP.len' j
  have hdel:zQK (lst z j) (lb (lst z j) x:Int) ((lb (lst z j) x:Int)+1)=true:=by
   unfold zQK
   rw [dt (by omega),dt (by omega),dt (by omega)]
   rfl
  have hf:(zOQ z x j).free=zDc 5 [] z.free (j:Int).toNat (zRh (lst z j) (lb (lst z j) x:Int)):=by
   rw [zKl ho.len (by omega)]
   rfl
  unfold zKH
  rw [zQA hz ho.inI,h0,zBt,dt rfl,Bool.not_true,zAB rfl,hie,hi,zBt,Bool.not_true,zAB rfl]
  have hbl:zFm z (m:Int)=some ((j:Int),x):=hblk
  rw [hbl,zBt,zAB (df (by show ¬ (j:Int)<0; omega)),zUk hz,zBt,zf (zAK hj),zf (dt (by show (j:Int)<5; omega)),hl,zQr (hP.srt' j) (by omega),zBt,zf (zAE (by show _≤(lb (lst z j) x:Int)+1∧(lb (lst z j) x:Int)+1≤_; omega)),zf hdel]
  show zCh (m:Int) z zAF (j:Int) x (zDc 5 [] z.free (j:Int).toNat (zRh (lst z j) (lb (lst z j) x:Int)))=_
  rw [← hf]
  exact zWD j zAF _ x (by omega) (by unfold zAF; omega) q1 q3 q4 hmx.1 hmx.2
 ·have hbl:zBu z (m:Int) 0=some (inside z (m:Int) 0):=zK2 (k:=0) hr (by omega)
  have hml:m<(zOY z).length:=by rw [zNl]; omega
  obtain ⟨_,h01⟩:=zKq hz h0
  have hpos:=(zK3 hz hr hin m).2 hc
  have hg:(zOY z).getD m 0=at_ (zOY z) (m:Int):=by
   rw [zHL hml,List.getD_eq_getElem?_getD,List.getElem?_eq_getElem hml]; rfl
  have hw:zDd z ((zOY z).set m 0)=some (tkZ (zOQ z x j) (m:Int) x j):=zSb (z:=z) (by rw [List.length_set]; exact zNl) r1 (r3.trans q3) (fun g=>by
   rw [hcy]
   constructor
   ·rintro ⟨⟨q,y,hy,y1,y2⟩,hne⟩
    have:=zAW hr (ho.ins q y hy)
    obtain ⟨g,rfl⟩:=Int.eq_ofNat_of_zero_le (show 0≤g by omega)
    refine ⟨by omega,by omega,?_⟩
    rw [Int.toNat_natCast,zUh _ m g hml,if_neg (fun e=>hne (by omega))]
    have:=(zK3 hz hr hin g).2 ⟨q,y,hy,y1,y2⟩
    omega
   ·rintro ⟨g1,g2,g3⟩
    have hrb:=zBR hr
    obtain ⟨q,rfl⟩:=Int.eq_ofNat_of_zero_le (show 0≤g by omega)
    rw [Int.toNat_natCast,zUh _ m q hml] at g3
    by_cases hqm:q=m
    ·rw [if_pos hqm] at g3; exact absurd rfl g3
    ·rw [if_neg hqm] at g3
     refine ⟨?_,by omega⟩
     rcases h01 q with e0 | e0
     ·exact absurd e0 g3
     ·exact (zK3 hz hr hin q).1 (by omega))
  unfold zKJ
  rw [zQ7 hz,h0,zBt,dt rfl,Bool.not_true,zAB rfl,hbl,hi,zBt,Bool.not_true,zAB rfl,zRH hz hr hin,zBt,zf (zAK hml),zAB (df (by rw [← hg]; omega)),Int.toNat_natCast,hw,zBt,zBt]
end
end Go.Proofs.YtplkliakhdkpcaaGreat
namespace Go.Proofs.YtplkliakhdkpcaaGreat
open Go Go.RowKit Go.Wk Go.Am
section
variable {a:zJ}
def zTr (cs:List zL) (i:Int):Int:=match cs with
 | []=>0
 | c::r=>((at_ c.lists i).length:Int)+zTr r i
def zWK (a:zJ) (i:Nat):Int:=zU1 (at_ a.zones (i:Int))+zTr a.caches (i:Int)
theorem zSa (h:Va a) {p:Nat} (hp:p<a.zones.length):∀ (m n j:Nat) (acc:Int),j+m=a.caches.length→m<n→0≤acc∧acc≤80000000+j*1000 →
  (zDm a (p:Int) n acc (j:Int)=some (acc+zTr (a.caches.drop j) (p:Int))∧zGQ a (p:Int) n acc (j:Int)=some (acc+zTr (a.caches.drop j) (p:Int)))∧0≤acc+zTr (a.caches.drop j) (p:Int)∧acc+zTr (a.caches.drop j) (p:Int)≤90000000:=by
 have hcl:=h.al.c
 intro m
 induction m with
 | zero =>
  intro n j acc h1 h2 h3
  obtain ⟨n,rfl⟩:=ex1 ‹_<n›
  rw [List.drop_eq_nil_of_le (by omega)]
  have e:acc+zTr [] (p:Int)=acc:=by unfold zTr; omega
  rw [e]
  refine ⟨⟨?_,?_⟩,by omega,by omega⟩
  ·show zB8 _ _ _ _ _=_
   unfold zB8
   rw [zAB (df (by omega))]
   rfl
  ·show zDy _ _ _ _ _=_
   unfold zDy
   rw [zAB (df (by omega))]
   rfl
 | succ m ih =>
  intro n j acc h1 h2 h3
  obtain ⟨n,rfl⟩:=ex1 ‹_<n›
  have hj:j<a.caches.length:=by omega
  have hl:=h.len _ (zAn hj)
  have hck:=h.al.ck _ (zAn hj)
  have hb:=hck.l _ (zAn (show p<(at_ a.caches (j:Int)).lists.length by omega))
  have:=ih n (j+1) (acc+((at_ (at_ a.caches (j:Int)).lists (p:Int)).length:Int)) (by omega) (by omega) (by omega)
  rw [zCZ hj]
  unfold zTr
  rw [← Int.add_assoc]
  refine ⟨⟨?_,?_⟩,this.2⟩
  ·rw [← this.1.1]
   show zB8 _ _ _ _ _=_
   unfold zB8
   rw [zAN (dt (by omega)),zf (zAK hj),zf (zAK (by omega)),zf (zAE (by omega)),zf (zAE (by omega))]
   rfl
  ·rw [← this.1.2]
   show zDy _ _ _ _ _=_
   unfold zDy
   rw [zAN (dt (by omega)),zf (zAK hj),zf (zAK (by omega)),zf (zAE (by omega)),zf (zAE (by omega))]
   rfl
theorem zTB (h:Va a) {p:Nat} (hp:p<a.zones.length):∀ (m n k:Nat) (acc:Int),k+m=5→m<n→0≤acc∧acc≤k*16000000 →
  zGM a (p:Int) n acc (k:Int)=zH5 a (p:Int) (acc+zRD k ((at_ a.zones (p:Int)).free.drop k)):=by
 have hzk:=(h.al.zk _ (zAn hp)).1
 intro m
 induction m with
 | zero =>
  intro n k acc h1 h2 h3
  obtain ⟨n,rfl⟩:=ex1 ‹_<n›
  rw [List.drop_eq_nil_of_le (by rw [hzk.len]; omega)]
  show zDw _ _ _ _ _=_
  unfold zDw
  rw [zAB (df (by omega)),show acc+zRD k []=acc by unfold zRD; omega]
 | succ m ih =>
  intro n k acc h1 h2 h3
  obtain ⟨n,rfl⟩:=ex1 ‹_<n›
  have hb:=zWA (k:=k) (by omega) (hzk.bd k)
  obtain ⟨a1,a2⟩:=List.getElem?_eq_some_iff.1 (hzk.get (k:=k) (by omega))
  have hi:=ih n (k+1) (acc+((lst (at_ a.zones (p:Int)) k).length:Int)*2 ^ k) (by omega) (by omega) (by omega)
  rw [List.drop_eq_getElem_cons a1,a2]
  unfold zRD
  rw [← Int.add_assoc, ← hi]
  show zDw _ _ _ _ _=_
  unfold zDw
  have e:(at_ a.zones (p:Int)).free.getD (k:Int).toNat []=lst (at_ a.zones (p:Int)) k:=rfl
  rw [e,Int.toNat_natCast,zAN (dt (by omega)),zf (zAK hp),zf (zAK (by omega)),zf (dt (zIm (by omega) (by omega))),zf (zOR (by omega)),zf (zAE (by omega)),zf (zAE (by omega)),zf (zAE (by omega))]
  rfl
theorem zWQ (h:Va a) {p:Nat} (hp:p<a.zones.length):zDI a (p:Int)=some (zWK a p)∧zJL a (p:Int)=some (zWK a p)∧0≤zWK a p∧zWK a p≤90000000:=by
 have hzk:=h.al.zk _ (zAn hp)
 have hcl:=h.al.c
 obtain ⟨b1,b2,b3⟩:=zWh hzk.1 hzk.2 (h.chk (zAn hp))
 have hc:=zSa h hp a.caches.length zAF 0 (zU1 (at_ a.zones (p:Int))) (by omega) (by unfold zAF; omega) (by omega)
 rw [List.drop_zero] at hc
 refine ⟨?_,?_,hc.2⟩
 ·unfold zDI
  rw [zf (zAK hp),b1,zBt]
  exact hc.1.1
 ·unfold zJL
  have hr:=zTB h hp 5 zAF 0 0 (by omega) (by unfold zAF; omega) (by omega)
  rw [List.drop_zero,Int.zero_add] at hr
  refine Eq.trans hr ?_
  exact hc.1.2
theorem zW8 (h:Va a) {p:Nat} (hp:p<a.zones.length):0≤(at_ a.zones (p:Int)).min∧(at_ a.zones (p:Int)).min≤256:=by
 have:=zBR (zCs (h.chk (zAn hp)))
 omega
end
end Go.Proofs.YtplkliakhdkpcaaGreat
namespace Go.Proofs.YtplkliakhdkpcaaGreat
open Go Go.RowKit Go.Wk Go.Am
section
variable {a:zJ} {c p:Nat}
def zLv (a:zJ) (c p:Nat):zJ:=upd a c p [] (zND (Zn a p) (Lf a c p))
theorem zMy (h:Wa a) (hc:c<a.caches.length) (hp:p<a.zones.length):zDS a (c:Int) (p:Int)=some (zLv a c p)∧zHj a (c:Int) (p:Int)=some (zLv a c p)∧Wa (zLv a c p):=by
 have hpc:=h.pc hc
 have hlim:=h.lim c p hc
 have hbh:=h.bh
 obtain ⟨g1,g2,g3⟩:=zRG (Lf a c p) (h.zs p hp) (fun f hf=>h.own c p f hc hf) (h.nd c p hc)
 have hg:=fun cs=>zVq (a:=⟨a.nodes,a.batch,a.high,a.zones,cs⟩) (fs:=Lf a c p) (by omega) hp (h.zs p hp) (fun f hf=>h.own c p f hc hf) (h.nd c p hc)
 refine ⟨?_,?_,?_⟩
 ·unfold zDS
  rw [zf (zAK hc),zWX hpc hp,zBt,zAN (by rfl)]
  show ((zFH ⟨a.nodes,a.batch,a.high,a.zones,a.caches.set c ⟨(at_ a.caches (c:Int)).lists.set p []⟩⟩ (p:Int) (Lf a c p)).bind _)=_
  rw [(hg _).1,zBt]
  rfl
 ·unfold zHj
  rw [zf (zAK hc),zXF hpc hp,zBt]
  show ((zKL ⟨a.nodes,a.batch,a.high,a.zones,a.caches.set c ⟨(at_ a.caches (c:Int)).lists.set p []⟩⟩ (p:Int) (Lf a c p)).bind _)=_
  rw [(hg _).2,zBt]
  rfl
 ·refine zTZ h hc hp g1 g3 (by show ((0:Nat):Int)≤_; omega) List.nodup_nil (fun f hf=>by cases hf) (fun d f hd hdc hf=>⟨by simp,fun hcv => ?_⟩)
  rcases (g2 f).1 hcv with h1 | h1
  ·exact (h.own d p f hd hf).2 h1
  ·exact hdc (h.dis d c p p f hd hc hf h1).1
theorem zIR:(zLv a c p).caches.length=a.caches.length∧(zLv a c p).zones.length=a.zones.length:=⟨List.length_set,List.length_set⟩
end
end Go.Proofs.YtplkliakhdkpcaaGreat
namespace Go.Proofs.YtplkliakhdkpcaaGreat
open Go Go.RowKit Go.Wk Go.Am
section
variable {l:List Int} {f:Int}
def wo (f:Int) (l:List Int):List Int:=l.filter fun y => !decide (y=f)
theorem zQj {i:Nat} (hi:i<l.length):wo f (l.take (i+1))=if at_ l (i:Int)=f then wo f (l.take i) else wo f (l.take i)++[at_ l (i:Int)]:=by
 unfold wo
 rw [List.take_add_one,List.getElem?_eq_getElem hi, ← zHL hi,List.filter_append]
 by_cases h:at_ l (i:Int)=f
 ·rw [if_pos h]
  show _++List.filter _ [at_ l (i:Int)]=_
  rw [List.filter_cons_of_neg (by rw [dt h]; simp)]
  simp
 ·rw [if_neg h]
  show _++List.filter _ [at_ l (i:Int)]=_
  rw [List.filter_cons_of_pos (by rw [df h]; rfl)]
  simp
theorem zTq (hl:l.length≤1000):∀ (m n i:Nat),i+m=l.length→m<n→f∈l.drop i→f ∉ l.take i → ∃ j:Nat,j<l.length∧wo f (l.take (j+1))=l.take j∧zAH l (fun y=>zBY y f) n (i:Int)=some (j:Int):=by
 intro m
 induction m with
 | zero =>
  intro n i h1 h2 h3 _
  rw [List.drop_eq_nil_of_le (by omega)] at h3
  cases h3
 | succ m ih =>
  intro n i h1 h2 h3 h4
  obtain ⟨n,rfl⟩:=ex1 ‹_<n›
  have hi:i<l.length:=by omega
  have ee:zAH l (fun y=>zBY y f) (n+1) (i:Int)=cnd (decide (at_ l (i:Int)=f)) (some (i:Int)) (zAH l (fun y=>zBY y f) n ((i+1:Nat):Int)):=by
   show zAU _ _ _ _=_
   unfold zAU zBY
   rw [zAN (dt (by omega)),zf (zAK hi),zBt,zf (zAE (by omega))]
   rfl
  rw [ee]
  by_cases h:at_ l (i:Int)=f
  ·rw [zAN (dt h)]
   refine ⟨i,hi,?_,rfl⟩
   rw [zQj hi,if_pos h]
   exact List.filter_eq_self.2 fun y hy=>by rw [df (fun e:y=f=>h4 (e▸hy))]; rfl
  ·rw [zAB (df h)]
   rw [zCZ hi] at h3
   refine ih n (i+1) (by omega) (by omega) ((List.mem_cons.1 h3).resolve_left (fun e=>h e.symm)) (fun hm => ?_)
   rw [List.take_add_one,List.getElem?_eq_getElem hi, ← zHL hi] at hm
   rcases List.mem_append.1 hm with hm | hm
   ·exact h4 hm
   ·exact h (List.mem_singleton.1 hm).symm
theorem zUI (hl:l.length≤1000):∀ (m n j i:Nat) (q:List Int),j+m=l.length→m<n→i≤j→q.length=l.length→q.take i=wo f (l.take j)→q.drop j=l.drop j→zAy (fun y=>zBY y f) n (i:Int) (j:Int) q=some (wo f l):=by
 intro m
 induction m with
 | zero =>
  intro n j i q h1 h2 h3 h4 h5 h6
  obtain ⟨n,rfl⟩:=ex1 ‹_<n›
  have e:zJZ q (i:Int)=q.take i++List.replicate (q.length - i) 0:=rfl
  have hcl:(zJZ q (i:Int)).length=q.length:=by rw [e,List.length_append,List.length_take,List.length_replicate]; omega
  show zAk _ _ _ _ _=_
  unfold zAk zBr
  rw [zAB (df (by omega)),zf (by unfold zLF; simp; omega),zf (by rw [hcl]; unfold zLF; simp; omega)]
  unfold zH6
  rw [Int.toNat_natCast,e,List.take_left' (by rw [List.length_take]; omega),h5,List.take_of_length_le (by omega)]
  rfl
 | succ m ih =>
  intro n j i q h1 h2 h3 h4 h5 h6
  obtain ⟨n,rfl⟩:=ex1 ‹_<n›
  have hj:j<l.length:=by omega
  have hjq:j<q.length:=by omega
  have hiq:i<q.length:=by omega
  have h6':=h6
  rw [zCZ hj,zCZ hjq] at h6
  obtain ⟨ea,ed⟩:=List.cons.inj h6
  have hw:=zQj (f:=f) hj
  show zAk _ _ _ _ _=_
  unfold zAk zBJ zBY
  rw [zAN (dt (by omega)),zf (zAK hjq),zBt,zf (zAK hiq),zf (zAE (by omega)),zf (zAE (by omega)),zf (zAE (by omega)),ea,Int.toNat_natCast]
  by_cases h:at_ l (j:Int)=f
  ·rw [dt h,Bool.not_true,zAB rfl]
   rw [if_pos h] at hw
   exact ih n (j+1) i q (by omega) (by omega) (by omega) h4 (by rw [h5,hw]) ed
  ·rw [df h,Bool.not_false,zAN rfl]
   rw [if_neg h] at hw
   refine ih n (j+1) (i+1) _ (by omega) (by omega) (by omega) (by rw [List.length_set]; exact h4) ?_ ?_
   ·rw [hw,List.take_add_one,List.getElem?_set_self hiq,List.take_set_of_le (Nat.le_refl i),h5]
    rfl
   ·rw [List.drop_set_of_lt (by omega)]
    exact ed
theorem zYA (hl:l.length≤1000) (hf:f∈l):zBe l (fun y=>zBY y f)=some (wo f l):=by
 obtain ⟨j,j1,j2,j3⟩:=zTq (f:=f) hl l.length zAF 0 (by omega) (by unfold zAF; omega) hf (by simp)
 unfold zBe zBN
 rw [z0i,j3,zBt,zAB (df (by omega)),zf (zAE (by omega))]
 exact zUI hl (l.length - (j+1)) zAF (j+1) j l (by omega) (by unfold zAF; omega) (by omega) rfl j2.symm rfl
end
section
variable {a:zJ}
theorem zVf {f:Int} {c p:Nat} {l:List Int} (hc:c<a.caches.length) (hp:p<(at_ a.caches (c:Int)).lists.length) (hl:at_ (at_ a.caches (c:Int)).lists (p:Int)=l) (hb:l.length≤1000):∀ (m n i:Nat),i+m=l.length→m<n →
  zF7 a f (p:Int) a (c:Int) n (i:Int) (wo f (l.take i))=some (⟨a.nodes,a.batch,a.high,a.zones,a.caches.set c ⟨(at_ a.caches (c:Int)).lists.set p (wo f l)⟩⟩,0):=by
 intro m
 induction m with
 | zero =>
  intro n i h1 h2
  obtain ⟨n,rfl⟩:=ex1 ‹_<n›
  show zEq _ _ _ _ _ _ _ _=_
  unfold zEq zIs
  rw [hl,zf (zAK hc),zf (zAK hp),zAB (df (by omega)),zf (zAK hc),zf (zAK hp),List.take_of_length_le (by omega)]
  rfl
 | succ m ih =>
  intro n i h1 h2
  obtain ⟨n,rfl⟩:=ex1 ‹_<n›
  have hi:i<l.length:=by omega
  have hw:=zQj (f:=f) hi
  have hlen:(wo f (l.take i)).length≤1000:=by
   have h1:=List.length_filter_le (fun y => !decide (y=f)) (l.take i)
   rw [List.length_take] at h1
   unfold wo
   omega
  have hI:=ih n (i+1) (by omega) (by omega)
  rw [hw] at hI
  show zEq _ _ _ _ _ _ _ _=_
  unfold zEq zHf
  rw [hl,zf (zAK hc),zf (zAK hp),zAN (dt (by omega)),zf (zAK hi),zf (dt (by simp; omega)),zf (zAE (by omega)),zf (zAE (by omega))]
  by_cases h:at_ l (i:Int)=f
  ·rw [if_pos h] at hI
   rw [dt h,Bool.not_true,zAB rfl]
   exact hI
  ·rw [if_neg h] at hI
   rw [df h,Bool.not_false,zAN rfl]
   exact hI
theorem zXk (h:Va a) {f:Int} {p:Nat} (hp:p<a.zones.length):∀ (m n j:Nat),j+m=a.caches.length→m<n → ∃ r,zAA a.caches (fun y=>zAi y (p:Int) f) n (j:Int)=some r∧(r = -1 ∨ ∃ c:Nat,r=(c:Int)∧c<a.caches.length∧f∈Lf a c p):=by
 have hcl:=h.al.c
 intro m
 induction m with
 | zero =>
  intro n j h1 h2
  obtain ⟨n,rfl⟩:=ex1 ‹_<n›
  refine ⟨-1,?_,.inl rfl⟩
  show zw _ _ _ _=_
  unfold zw
  rw [zAB (df (by omega))]
  rfl
 | succ m ih =>
  intro n j h1 h2
  obtain ⟨n,rfl⟩:=ex1 ‹_<n›
  have hj:j<a.caches.length:=by omega
  have hl:=h.len _ (zAn hj)
  have hb:=(h.al.ck _ (zAn hj)).l _ (zAn (show p<(at_ a.caches (j:Int)).lists.length by omega))
  have h1c:zAi (at_ a.caches (j:Int)) (p:Int) f=some (decide (f∈at_ (at_ a.caches (j:Int)).lists (p:Int))):=by
   unfold zAi
   rw [zf (zAK (by omega)),contains hb]
   rfl
  obtain ⟨r,r1,r2⟩:=ih n (j+1) (by omega) (by omega)
  show ∃ r,zw _ _ _ _=some r∧_
  unfold zw
  rw [zAN (dt (by omega)),zf (zAK hj),zf (zAE (by omega))]
  show ∃ r,((zAi (at_ a.caches (j:Int)) (p:Int) f).bind _)=some r∧_
  rw [h1c,zBt]
  by_cases hm:f∈at_ (at_ a.caches (j:Int)).lists (p:Int)
  ·rw [zAN (dt hm)]
   exact ⟨_,rfl,.inr ⟨j,rfl,hj,hm⟩⟩
  ·rw [zAB (df hm)]
   exact ⟨r,r1,r2⟩
theorem zXg (h:Va a) {f:Int} {p:Nat} (hp:p<a.zones.length):∀ (m n j:Nat),j+m=a.caches.length→m<n → ∃ r,zA2 a (p:Int) f n (j:Int)=some r∧(r = -1 ∨ ∃ c:Nat,r=(c:Int)∧c<a.caches.length∧f∈Lf a c p):=by
 have hcl:=h.al.c
 intro m
 induction m with
 | zero =>
  intro n j h1 h2
  obtain ⟨n,rfl⟩:=ex1 ‹_<n›
  refine ⟨-1,?_,.inl rfl⟩
  show zBX _ _ _ _ _=_
  unfold zBX
  rw [zAB (df (by omega))]
  rfl
 | succ m ih =>
  intro n j h1 h2
  obtain ⟨n,rfl⟩:=ex1 ‹_<n›
  have hj:j<a.caches.length:=by omega
  have hlen:=h.len _ (zAn hj)
  have hb:=(h.al.ck _ (zAn hj)).l _ (zAn (show p<(at_ a.caches (j:Int)).lists.length by omega))
  obtain ⟨i1,i2⟩:=zXK (se:=zA2 a (p:Int) f n) (f:=f) h hp hj rfl _ zAF 0 (Nat.zero_add _) (by unfold zAF; omega)
  rw [List.drop_zero] at i1 i2
  obtain ⟨r,r1,r2⟩:=ih n (j+1) (by omega) (by omega)
  show ∃ r,zBX _ _ _ _ _=some r∧_
  unfold zBX
  rw [zAN (dt (by omega)),z0i]
  by_cases hm:f∈at_ (at_ a.caches (j:Int)).lists (p:Int)
  ·exact ⟨_,i1 hm,.inr ⟨j,rfl,hj,hm⟩⟩
  ·exact ⟨r,(i2 hm).trans r1,r2⟩
theorem zV0 (h:Va a) (hw:Wa a) {f:Int} {p:Nat} (hp:p<a.zones.length):∃ r,zCW a (p:Int) f=some r∧zGr a (p:Int) f=some r∧((r = -1 ∧ ∀ c,c<a.caches.length→f ∉ Lf a c p) ∨ ∃ c:Nat,r=(c:Int)∧c<a.caches.length∧f∈Lf a c p):=by
 have hcl:=h.al.c
 obtain ⟨r,q,s⟩:=zS8 h (f:=f) hp a.caches.length zAF 0 (by omega) (by unfold zAF; omega)
 obtain ⟨r',q',s'⟩:=zSP h (f:=f) hp a.caches.length zAF 0 (by omega) (by unfold zAF; omega)
 obtain ⟨x,u,v⟩:=zXk h (f:=f) hp a.caches.length zAF 0 (by omega) (by unfold zAF; omega)
 obtain ⟨x',u',v'⟩:=zXg h (f:=f) hp a.caches.length zAF 0 (by omega) (by unfold zAF; omega)
 have e:=Option.some.inj (q.symm.trans u)
 have e':=Option.some.inj (q'.symm.trans u')
 subst e e'
 rw [List.drop_zero] at s s'
 have hex:(∃ c,c∈a.caches∧f∈at_ c.lists (p:Int)) ↔ ∃ c,c<a.caches.length∧f∈Lf a c p:=by
  constructor
  ·rintro ⟨c,h1,h2⟩
   obtain ⟨d,hd,e⟩:=List.getElem_of_mem h1
   exact ⟨d,hd,by unfold Lf; rw [zHL hd,e]; exact h2⟩
  ·rintro ⟨c,h1,h2⟩
   exact ⟨_,zAn h1,h2⟩
 rw [hex] at s s'
 have hrr:r'=r:=by
  rcases v with v | ⟨c,v1,v2,v3⟩
  ·rcases v' with v' | ⟨c',v1',v2',v3'⟩
   ·rw [v,v']
   ·have:=s.2 ⟨c',v2',v3'⟩; omega
  ·rcases v' with v' | ⟨c',v1',v2',v3'⟩
   ·have:=s'.2 ⟨c,v2,v3⟩; omega
   ·rw [v1,v1',(hw.dis c c' p p f v2 v2' v3 v3').1]
 subst hrr
 refine ⟨r',?_,q',?_⟩
 ·unfold zCW zAV
  rw [z0i,q]
  rfl
 ·rcases v with v | v
  ·exact .inl ⟨v,fun c hc hm=>by have:=s.2 ⟨c,hc,hm⟩; omega⟩
  ·exact .inr v
theorem zXm (h:Wa a) {c p:Nat} {f:Int} (hc:c<a.caches.length) (hp:p<a.zones.length):Wa (upd a c p (wo f (Lf a c p)) (Zn a p)):=by
 have hs:∀ g,g∈wo f (Lf a c p)→g∈Lf a c p:=fun g hg=>(List.mem_filter.1 hg).1
 refine zTZ h hc hp (h.zs p hp) ⟨rfl,rfl,rfl,rfl,rfl⟩ ?_ ((h.nd c p hc).sublist List.filter_sublist) (fun g hg=>h.own c p g hc (hs g hg)) (fun d g hd hdc hg=>⟨fun hm=>hdc (h.dis d c p p g hd hc hg (hs g hm)).1,(h.own d p g hd hg).2⟩)
 have h1:=h.lim c p hc
 have h2:(wo f (Lf a c p)).length≤(Lf a c p).length:=List.length_filter_le _ _
 omega
theorem zSO (ha:Al a) (f:Int):Bo (zGN a f) (zKQ a f):=by
 unfold zGN zKQ
 rw [zUb ha,zTY ha,zBt,zBt]
 by_cases h:zTg a=0
 ·have hv:=zWg ha h
  have hw:=zXN ha h
  have hzl:=ha.z
  obtain ⟨_,hap⟩:=zR7 hv.z
  rw [dt h,Bool.not_true,zAB rfl,zAB rfl,zXG ha (fun z hz=>hv.chk hz),zXq ha (fun z hz=>hv.chk hz),zBt,zBt]
  by_cases hd:zIx f a.zones 0<0
  ·rw [zAN (dt hd),zAN (dt hd)]
   exact ⟨_,rfl,rfl,zWl⟩
  ·obtain ⟨p,hp⟩:=Int.eq_ofNat_of_zero_le (show 0≤zIx f a.zones 0 by omega)
   have hpl:p<a.zones.length:=by
    rcases zSV f a.zones 0 with hq | hq <;> omega
   have hinz:inZ (at_ a.zones (p:Int)) f=true:=by
    have:=(zPt f a.zones 0 p hpl hap).1 (by rw [hp]; omega)
    rw [zHL hpl]; exact this
   have hi:inside (Zn a p) f 0=true:=(zRA (hw.zs p hpl).ranges).1 hinz
   obtain ⟨b,b1,b2,b3⟩:=zXA hv hw hpl hi
   obtain ⟨k1,k2,k3,k4⟩:=zWQ hv hpl
   have hmin:=zW8 hv hpl
   have hroom:zDD a (p:Int)=some (zWK a p - (at_ a.zones (p:Int)).min):=by
    unfold zDD
    rw [k1,zBt,zf (zAK hpl),zf (zAE (by omega))]
   rw [zAB (df hd),zAB (df hd),hp,b1,b2,zBt,zBt]
   cases b with
   | false=>exact ⟨_,rfl,rfl,zWl⟩
   | true =>
    have hfr:=b3.1 rfl
    rw [Bool.not_true,zAB rfl,zAB rfl,hroom,k2,zBt,zBt,zf (zAK hpl)]
    by_cases hm:zWK a p - (at_ a.zones (p:Int)).min<1
    ·rw [zAN (dt hm),zAN (dt (by omega))]
     exact ⟨_,rfl,rfl,zWl⟩
    ·obtain ⟨r,r1,r2,r3⟩:=zV0 (f:=f) hv hw hpl
     rw [zAB (df hm),zAB (df (by omega)),zUq ha,zUa ha,zBt,zBt,show (⟨a.nodes,a.batch,a.high,a.zones,a.caches⟩:zJ)=a from rfl,r1,r2,zBt,zBt]
     rcases r3 with ⟨e,hno⟩ | ⟨c,e,hcl,hfc⟩
     ·subst e
      have hcov:cov (Zn a p) f:=hfr.resolve_right fun ⟨c,c1,c2⟩=>hno c c1 c2
      obtain ⟨y,y1,y2,y3,y4,y5⟩:=zXn (hw.zs p hpl) hi hcov
      have hcn:=hw.cn
      have hn1:=hw.n
      have hpl0:=hw.cl 0 (by omega)
      have hW:=zTZ (l:=Lf a 0 p) (z:=y) hw (c:=0) (by omega) hpl y3 y4 (hw.lim 0 p (by omega)) (hw.nd 0 p (by omega)) (fun g hg=>⟨(hw.own 0 p g (by omega) hg).1,fun hc=>(hw.own 0 p g (by omega) hg).2 ((y5 g).1 hc).1⟩) (fun d g hd hdc hg=>⟨fun hm=>hdc (hw.dis d 0 p p g hd (by omega) hg hm).1,fun hc=>(hw.own d p g hd hg).2 ((y5 g).1 hc).1⟩)
      have hcl:a.caches.set 0 ⟨(at_ a.caches ((0:Nat):Int)).lists.set p (Lf a 0 p)⟩=a.caches:=by
       have e1:(at_ a.caches ((0:Nat):Int)).lists.set p (Lf a 0 p)=(at_ a.caches ((0:Nat):Int)).lists:=zOL (by rw [hpl0]; exact hpl)
       rw [e1]
       exact zOL (by omega)
      unfold upd at hW
      rw [hcl] at hW
      rw [zAB (by rfl),zAN (by rfl),zf (zAK hpl),zf (zAK hpl),show at_ a.zones (p:Int)=Zn a p from rfl,y1,y2,zBt,zBt,dt rfl,Bool.not_true,zAB rfl]
      exact ⟨_,rfl,rfl,hW.sm⟩
     ·subst e
      have hll:=hw.cl c hcl
      have hplc:p<(at_ a.caches (c:Int)).lists.length:=by omega
      have hlb:(Lf a c p).length≤1000:=by
       have:=hw.lim c p hcl
       have:=hw.bh
       omega
      have hW:=zXm (f:=f) hw hcl hpl
      unfold upd at hW
      have hz:a.zones.set p (Zn a p)=a.zones:=zOL hpl
      rw [hz] at hW
      have hrt:=zVf (f:=f) (l:=Lf a c p) hcl hplc rfl hlb (Lf a c p).length zAF 0 (by omega) (by unfold zAF; omega)
      rw [zAN (dt (by omega)),zAB (df (by omega)),zf (zAK hcl),zf (zAK hplc),show at_ (at_ a.caches (c:Int)).lists (p:Int)=Lf a c p from rfl,zYA hlb hfc,zBt]
      exact ⟨_,rfl,hrt,hW.sm⟩
 ·rw [df h]
  exact ⟨_,rfl,rfl,zWl⟩
def zDA (c:Nat):Nat→Nat→zJ→zJ
 | 0,_,a=>a
 | m+1,p,a=>zDA c m (p+1) (zLv a c p)
def zNY:Nat→Nat→zJ→zJ
 | 0,_,a=>a
 | m+1,c,a=>zNY m (c+1) (zDA c a.zones.length 0 a)
theorem zL4 {c:Nat}:∀ (m p:Nat) {b:zJ},Wa b→c<b.caches.length→p+m≤b.zones.length→Wa (zDA c m p b)∧(zDA c m p b).caches.length=b.caches.length∧(zDA c m p b).zones.length=b.zones.length
 | 0,_,b,h,_,_=>⟨h,rfl,rfl⟩
 | m+1,p,b,h,hc,hp=>by
  obtain ⟨_,_,d3⟩:=zMy h hc (show p<b.zones.length by omega)
  obtain ⟨r1,r2,r3⟩:=zL4 (c:=c) m (p+1) d3 (by rw [zIR.1]; exact hc) (by rw [zIR.2]; omega)
  exact ⟨r1,r2.trans zIR.1,r3.trans zIR.2⟩
theorem zWf {c K:Nat} {l3:List zi} {se:Int→List Int→Int→Int→List zi→List zL→Option zJ} (hl:l3.length=K) (hK:K≤1000) (hcK:c≤1000):∀ (m n i:Nat) (b:zJ),i+m=K→m<n→Wa b→b.zones.length=K→c<b.caches.length →
  zDt se (c:Int) l3 n (i:Int) b.nodes b.batch b.high b.zones b.caches=se ((c+1:Nat):Int) (zDA c m i b).nodes (zDA c m i b).batch (zDA c m i b).high (zDA c m i b).zones (zDA c m i b).caches:=by
 intro m
 induction m with
 | zero =>
  intro n i b h1 h2 hw hb hc
  obtain ⟨n,rfl⟩:=ex1 ‹_<n›
  show zCS _ _ _ _ _ _ _ _ _ _=_
  unfold zCS zFW
  rw [zAB (df (by omega)),zf (zAE (by omega))]
  rfl
 | succ m ih =>
  intro n i b h1 h2 hw hb hc
  obtain ⟨n,rfl⟩:=ex1 ‹_<n›
  obtain ⟨d1,d2,d3⟩:=zMy hw hc (p:=i) (by omega)
  have q:=ih n (i+1) (zLv b c i) (by omega) (by omega) d3 (zIR.2.trans hb) (by rw [zIR.1]; exact hc)
  show zCS _ _ _ _ _ _ _ _ _ _=_
  unfold zCS
  rw [zAN (dt (by omega)),show (⟨b.nodes,b.batch,b.high,b.zones,b.caches⟩:zJ)=b from rfl,d1,zBt,zf (zAE (by omega)),show zDA c (m+1) i b=zDA c m (i+1) (zLv b c i) from rfl]
  exact q
theorem zWY {c K:Nat} {se:Int→List Int→Int→Int→List zi→List zL→Option zJ} (hK:K≤1000) (hcK:c≤1000):∀ (m n i:Nat) (b:zJ),i+m=K→m<n→Wa b→b.zones.length=K→c<b.caches.length →
  zGO se (c:Int) n (i:Int) b.nodes b.batch b.high b.zones b.caches=se ((c+1:Nat):Int) (zDA c m i b).nodes (zDA c m i b).batch (zDA c m i b).high (zDA c m i b).zones (zDA c m i b).caches:=by
 intro m
 induction m with
 | zero =>
  intro n i b h1 h2 hw hb hc
  obtain ⟨n,rfl⟩:=ex1 ‹_<n›
  show zEH _ _ _ _ _ _ _ _ _=_
  unfold zEH zH9
  rw [zAB (df (by omega)),zf (zAE (by omega))]
  rfl
 | succ m ih =>
  intro n i b h1 h2 hw hb hc
  obtain ⟨n,rfl⟩:=ex1 ‹_<n›
  obtain ⟨d1,d2,d3⟩:=zMy hw hc (p:=i) (by omega)
  have q:=ih n (i+1) (zLv b c i) (by omega) (by omega) d3 (zIR.2.trans hb) (by rw [zIR.1]; exact hc)
  show zEH _ _ _ _ _ _ _ _ _=_
  unfold zEH
  rw [zAN (dt (by omega)),show (⟨b.nodes,b.batch,b.high,b.zones,b.caches⟩:zJ)=b from rfl,d2,zBt,zf (zAE (by omega)),show zDA c (m+1) i b=zDA c m (i+1) (zLv b c i) from rfl]
  exact q
theorem zVy {K:Nat} {x:zJ} (hx:x.caches.length=K) (hK:K≤100):∀ (m n c:Nat) (b:zJ),c+m=K→m<n→Wa b→b.caches.length=K →
  zBQ x n (c:Int) b.nodes b.batch b.high b.zones b.caches=some (zNY m c b):=by
 intro m
 induction m with
 | zero =>
  intro n c b h1 h2 hw hb
  obtain ⟨n,rfl⟩:=ex1 ‹_<n›
  show zCR _ _ _ _ _ _ _ _=_
  unfold zCR
  rw [zAB (df (by omega))]
  rfl
 | succ m ih =>
  intro n c b h1 h2 hw hb
  obtain ⟨n,rfl⟩:=ex1 ‹_<n›
  have hz:=hw.zn
  obtain ⟨r1,r2,r3⟩:=zL4 (c:=c) b.zones.length 0 hw (by omega) (by omega)
  show zCR _ _ _ _ _ _ _ _=_
  unfold zCR
  rw [zAN (dt (by omega)),z0i,zWf rfl (by omega) (by omega) b.zones.length zAF 0 b (by omega) (by unfold zAF; omega) hw rfl (by omega)]
  exact ih n (c+1) _ (by omega) (by omega) r1 (by omega)
theorem zVp {K:Nat} (hK:K≤100):∀ (m n c:Nat) (b:zJ),c+m=K→m<n→Wa b→b.caches.length=K →
  zCg n (c:Int) b.nodes b.batch b.high b.zones b.caches=some (zNY m c b)∧Wa (zNY m c b):=by
 intro m
 induction m with
 | zero =>
  intro n c b h1 h2 hw hb
  obtain ⟨n,rfl⟩:=ex1 ‹_<n›
  refine ⟨?_,hw⟩
  show zD3 _ _ _ _ _ _ _=_
  unfold zD3
  rw [zAB (df (by omega))]
  rfl
 | succ m ih =>
  intro n c b h1 h2 hw hb
  obtain ⟨n,rfl⟩:=ex1 ‹_<n›
  have hz:=hw.zn
  obtain ⟨r1,r2,r3⟩:=zL4 (c:=c) b.zones.length 0 hw (by omega) (by omega)
  show zD3 _ _ _ _ _ _ _=_∧_
  unfold zD3
  rw [zAN (dt (by omega)),z0i,zWY (by omega) (by omega) b.zones.length zAF 0 b (by omega) (by unfold zAF; omega) hw rfl (by omega)]
  exact ih n (c+1) _ (by omega) (by omega) r1 (by omega)
theorem zSL (ha:Al a):∃ r,zEd a=some r∧zJI a=some r∧Sm r:=by
 unfold zEd zJI
 rw [zUb ha,zTY ha,zBt,zBt]
 by_cases h:zTg a=0
 ·have hw:=zXN ha h
  have hcn:=hw.cn
  have hn:=hw.n
  obtain ⟨q1,q2⟩:=zVp (K:=a.caches.length) (by omega) a.caches.length zAF 0 a (by omega) (by unfold zAF; omega) hw rfl
  rw [dt h,Bool.not_true,zAB rfl,zAB rfl,zUq ha,zUa ha,zBt,zBt]
  exact ⟨_,zVy rfl (by omega) a.caches.length zAF 0 a (by omega) (by unfold zAF; omega) hw rfl,q1,q2.sm⟩
 ·rw [df h]
  exact ⟨_,rfl,rfl,zWl⟩
theorem zVO (hg:∀ z,z∈a.zones→Gz z) (f:Int):zEP a f=some true:=by
 obtain ⟨b,b1,b2⟩:=few hg
 unfold zEP
 rw [zVh,zBt,Bool.not_true,Bool.not_false,zAN rfl,b1,zBt]
 cases b with
 | false=>rfl
 | true =>
  obtain ⟨r,r1,r2,r3⟩:=zSO (b2 rfl) f
  obtain ⟨s,s1,s2,s3⟩:=zSL (b2 rfl)
  refine (zAB (by rfl)).trans ?_
  rw [r1,zBt,r2,zBt,dt rfl,zAN rfl,zUg r3,zBt,Bool.and_self,zAN rfl,zAN rfl,s1,zBt,s2,zBt,zAN rfl,zUg s3]
  rfl
end
end Go.Proofs.YtplkliakhdkpcaaGreat
namespace Go.Proofs.YtplkliakhdkpcaaGreat
open Go Go.ChangeShapes Go.WideShapes Go.ChangeAt Go.RowKit Go.Wk Go.Am
theorem own:ownKnob Tryz.prog.godebug=none:=by kernel_rfl
theorem zVH:laidOutB Tryz.prog=true:=by kernel_rfl
theorem zWW {n:Int} (h:(Lit.int .i64 n).wf=true):inI n=true:=by
 refine zAE ?_
 simp [Lit.wf,IntKind.min,IntKind.max,IntKind.signed,IntKind.bits] at h
 omega
theorem zPF:RdC Tryz.prog 3 cI (fun n=>inI n=true):=RdC.map (zVm Tryz.underlying3) id (fun _=>rfl) (fun _ h=>zWW h)
theorem zQ1:RdC Tryz.prog 22 (cS cI) (fun l=>(∀ x,x∈l→inI x=true)∧l.length≤140737488351232):=zMf Tryz.underlying22 (of_decide_eq_true (by kernel_rfl)) (of_decide_eq_true (by kernel_rfl)) zPF
theorem zXH:RdC Tryz.prog 49 (cA 5 (eS cI) ([]:List Int)) (fun l=>l.length=5 ∧ ∀ x,x∈l→(∀ y,y∈x→inI y=true)∧x.length≤140737488351232):=zU8 [] Tryz.underlying49 (by kernel_rfl) (by kernel_rfl) zQ1
theorem zWq:RdC Tryz.prog 51 zO Gz :=
 RdC.map (zM2 (tot:=10) Tryz.underlying51 (by kernel_rfl) (zGc (s:=1) zPF rfl (by kernel_rfl) (zGc (s:=1) zPF rfl (by kernel_rfl) (zGc (s:=1) zPF rfl (by kernel_rfl) (zGc (s:=1) zPF rfl (by kernel_rfl) (zGc (s:=1) zPF rfl (by kernel_rfl) (zGc (s:=5) zXH rfl (by kernel_rfl) (zQy rfl))))))))
  (fun x=>⟨x.1,x.2.1,x.2.2.1,x.2.2.2.1,x.2.2.2.2.1,x.2.2.2.2.2.1⟩) (fun _=>rfl) (fun _ h=>⟨h.2.2.2.2.2.1.1,h.2.2.1⟩)
theorem zVA:RdC Tryz.prog 23 (cS zO) (fun l=>(∀ x,x∈l→Gz x)∧l.length≤140737488351232):=zMf Tryz.underlying23 (of_decide_eq_true (by kernel_rfl)) (of_decide_eq_true (by kernel_rfl)) zWq
theorem zV2:RdC Tryz.prog 53 (cS (cS cI)) (fun l=>(∀ x,x∈l→(∀ y,y∈x→inI y=true)∧x.length≤140737488351232)∧l.length≤140737488351232):=zMf Tryz.underlying53 (of_decide_eq_true (by kernel_rfl)) (of_decide_eq_true (by kernel_rfl)) zQ1
theorem zVE:RdC Tryz.prog 55 zI (fun _=>True) :=
 RdC.map (zM2 (tot:=1) Tryz.underlying55 (by kernel_rfl) (zGc (s:=1) zV2 rfl (by kernel_rfl) (zQy rfl))) (fun x=>⟨x.1⟩) (fun _=>rfl) (fun _ _=>trivial)
theorem zTy:RdC Tryz.prog 24 (cS zI) (fun l=>(∀ x,x∈l→True)∧l.length≤140737488351232):=zMf Tryz.underlying24 (of_decide_eq_true (by kernel_rfl)) (of_decide_eq_true (by kernel_rfl)) zVE
theorem zV9:RdC Tryz.prog 26 zG (fun a => ∀ z,z∈a.zones→Gz z) :=
 RdC.map (zM2 (tot:=5) Tryz.underlying26 (by kernel_rfl) (zGc (s:=1) zQ1 rfl (by kernel_rfl) (zGc (s:=1) zPF rfl (by kernel_rfl) (zGc (s:=1) zPF rfl (by kernel_rfl) (zGc (s:=1) zVA rfl (by kernel_rfl) (zGc (s:=1) zTy rfl (by kernel_rfl) (zQy rfl)))))))
  (fun x=>⟨x.1,x.2.1,x.2.2.1,x.2.2.2.1,x.2.2.2.2.1⟩) (fun _=>rfl) (fun _ h=>h.2.2.2.1.1)
set_option maxRecDepth 100000 in
theorem zLH (os:Os) (started:os.Started) (H:Type) (enc:TypeId×Value→H) :
  ReturnsInHanded {} Tryz.checked os 8 .any (Rows.allocatorTakesSpec.pre6 enc Tryz.prog Tryz.f8 Rows.allocatorTakesRow.domain false) (Rows.allocatorTakesSpec.post enc Tryz.prog Tryz.f8 false true false false):=by
 refine returnsInHanded_of_change_sized (C:=Tryz.checked) own started (by kernel_rfl) Tryz.func8
  (ChangeSpec.witness6 (enc:=enc) (C:=Tryz.checked) false ⟨#[], #[.agg #[.slice none 0 0,.int .i64 0,.int .i64 0,.slice none 0 0,.slice none 0 0],.int .i64 0],[]⟩ 8 (by kernel_rfl) (by kernel_rfl) (by kernel_rfl) (by kernel_rfl)) ?_
 intro W base args ds gs before hval0 hW hcnd0 hsz0 _
 have hsz:(DataW.weightsEach Tryz.prog (Tryz.f8.params.toList++Rows.allocatorTakesSpec.plain.varTypes Tryz.prog) (ds++gs)).all (· ≤ reachBytes)=true:=hsz0
 have hval:∀ (j:Nat) t v,Tryz.f8.params[j]?=some t→args[j]?=some v→Value.okWide Tryz.prog W .any base t v:=hval0
 clear hcnd0 hsz0 hval0
 have hW':=hW
 obtain ⟨p,q,hA0,hV,rfl,hfz,hnd⟩:=hW
 have hA:DataW.TrodAll enc Tryz.prog W 0 (fun _=>true) true Tryz.f8.params.toList args.toList ds p:=hA0
 clear hA0
 rw [Tryz.params8] at hA hval hsz
 obtain ⟨v0,v1,d0,d1,p0,p1,rfl,rfl,rfl,h0,h1⟩:=trodAll_two hA
 obtain ⟨rfl,rfl⟩:=trodVars_none hV
 simp only [List.append_nil] at hW' hsz
 have hlt:=hW'.lt
 have hwt:∀ (j:Nat) (t:TypeId) (d:DataW H),([26,3]:List TypeId)[j]?=some t→[d0,d1][j]?=some d → ∀ n,n∈d.weights Tryz.prog t→n≤reachBytes:=by
  intro j t d ht hd n hn
  have:=List.all_eq_true.1 hsz n (DataW.weights_mem_each (ts:=[26,3]++Rows.allocatorTakesSpec.plain.varTypes Tryz.prog) (by rw [List.getElem?_append_left (by have:=(List.getElem?_eq_some_iff.1 ht).1; exact this)]; exact ht) hd n hn)
  simpa using this
 obtain ⟨xs,rfl,hxs⟩:=okWide_struct Tryz.underlying26 (hval 0 26 v0 rfl rfl)
 obtain ⟨i1,rfl⟩:=okWide_int Tryz.underlying3 (hval 1 3 v1 rfl rfl)
 obtain ⟨a,r0,hg⟩:=zV9.argA h0 (hwt 0 26 d0 rfl rfl) rfl
 obtain ⟨x1,r1,y1⟩:=zPF.arg1 (g:=eI) h1 (hwt 1 3 d1 rfl rfl) rfl
 have hk:∀ (W':World),Below W.heap.size W W' → ∀ (t:TypeId) (v:Value) (d:DataW H) (ps:List MemPlace),Tryz.prog.readableRec t=true→t<Tryz.prog.types.size→DataW.Trod enc Tryz.prog W 0 (fun _=>true) true t v d ps→(∀ x∈ps,x.block<W.heap.size)→DataW.Trod enc Tryz.prog W' 0 (fun b=>decide (b<W.heap.size)) true t v d ps :=
  fun W' hb t v d ps hr hs h hl=>Below.trod zVH hr hs h hb hl
 refine (zKh (zVO hg x1) W noB _ (fun x h=>h.elim) (show VRt W noB [] _ [_,_] [] from ?_)).mono ?_
 ·unfold VRt
  refine ⟨_,_,[],[],rfl,rfl,r0,?_⟩
  unfold VRt
  refine ⟨_,_,[],[],rfl,rfl,r1,?_⟩
  unfold VRt
  exact ⟨rfl,rfl⟩
 ·rintro v W' ⟨fr,hv,_,_,kp⟩
  unfold VR at hv
  obtain ⟨rfl,_⟩:=hv
  have hb:Below W.heap.size W W':=⟨kp.os,kp.tape,kp.output,kp.size,fun k hk=>kp.block k hk id⟩
  refine ⟨_,_,_,[],_,[],hW',trodAll_mk1 (shut_bool Tryz.underlying4 true),trodAll_mk2 (hk W' hb _ _ _ _ (by kernel_rfl) (of_decide_eq_true (by kernel_rfl)) h0 (fun x hx=>hlt x (by simp [hx]))) (hk W' hb _ _ _ _ (by kernel_rfl) (of_decide_eq_true (by kernel_rfl)) h1 (fun x hx=>hlt x (by simp [hx]))),rfl,hb.frame _,fun h=>by cases h⟩
theorem allocatorTakes_holds:Rows.AllocatorTakesSaid :=
 OpenClaim.holds_of_wide 8 Tryz.f8 rfl rfl rfl rfl rfl rfl rfl ⟨rfl,rfl,rfl,rfl,rfl⟩ rfl rfl rfl rfl rfl (by kernel_rfl) Tryz.func8 (by kernel_rfl)
  (of_decide_eq_true (by kernel_rfl)) (by unfold Func.isWrapper; first | (rw [if_pos (by decide +kernel)]; kernel_rfl) | (rw [if_neg (by decide +kernel)]; exact ⟨rfl,rfl⟩))
  (fun os started H enc _=>zLH os started H enc)
end Go.Proofs.YtplkliakhdkpcaaGreat
