/-
  The law of the buddy system on the program's own data: a zone's lists are determined by the set of its free frames. No program in sight.
-/
import Derived.Test.YtplkliakhdkpcaaGreatD
set_option linter.unusedVariables false
set_option linter.unusedSimpArgs false
namespace Go.Proofs.YtplkliakhdkpcaaGreat
open Go Go.RowKit Go.Am
def zFS (f:Int):Bool:=decide (0≤f)&&decide (f<256)
def inside (z:zo) (f:Int) (k:Nat):Bool :=
  decide (z.start≤f)&&decide (f.tmod (2 ^ k)=0)&&decide ((2:Int) ^ k≤z.count)&&decide (f≤z.start+z.count - 2 ^ k)
def ranges (z:zo):Bool :=
  decide (0≤z.node)&&decide (z.node<4)&&(decide (z.kind=0)||decide (z.kind=1))&&decide (0≤z.start)&&decide (z.start<256)&&decide (1≤z.count)&&decide (z.count≤256 - z.start)&&decide (0≤z.min)&&decide (z.min≤z.count)
def Srt (l:List Int):Prop:=l.Pairwise (· < ·)
def lb (l:List Int) (t:Int):Nat:=l.countP (fun x=>decide (x<t))
theorem Srt.nil:Srt []:=List.Pairwise.nil
theorem zJi {l:List Int} (h:Srt l) {i j:Nat} {x y:Int} (hi:l[i]?=some x) (hj:l[j]?=some y) (hij:i<j):x<y:=by
  obtain ⟨h1,rfl⟩:=List.getElem?_eq_some_iff.1 hi
  obtain ⟨h2,rfl⟩:=List.getElem?_eq_some_iff.1 hj
  exact List.pairwise_iff_getElem.1 h i j h1 h2 hij
theorem zUW {l:List Int} {t:Int}:∀ {i:Nat},i≤l.length→(∀ m x,m<i→l[m]?=some x→x<t)→(∀ m x,i≤m→l[m]?=some x→t≤x)→lb l t=i:=by
  induction l with
  | nil=>intro i hi _ _; simp at hi; simp [lb,hi]
  | cons a l ih =>
    intro i hi h1 h2
    unfold lb at *
    rw [List.countP_cons]
    cases i with
    | zero =>
      have ha:=h2 0 a (Nat.le_refl _) rfl
      have hz:=ih (i:=0) (Nat.zero_le _) (fun m x hm=>by omega) (fun m x _ hx=>h2 (m+1) x (by omega) hx)
      rw [hz]
      have:¬ a<t:=by omega
      simp [this]
    | succ i =>
      have ha:=h1 0 a (by omega) rfl
      have hz:=ih (i:=i) (by simp at hi; omega) (fun m x hm hx=>h1 (m+1) x (by omega) hx) (fun m x hm hx=>h2 (m+1) x (by omega) hx)
      rw [hz]
      simp [ha]
theorem zTh {l:List Int} {t:Int} {i:Nat} (h1:∀ m x,m<i→l[m]?=some x→x<t) (h2:∀ m x,i<m→l[m]?=some x→t<x):(t∈l)↔l[i]?=some t:=by
  constructor
  · intro h
    obtain ⟨m,hm,rfl⟩:=List.getElem_of_mem h
    have hx:=List.getElem?_eq_getElem hm
    rcases Nat.lt_trichotomy m i with h | h | h
    · have:=h1 m _ h hx; omega
    · rw [← h]; exact hx
    · have:=h2 m _ h hx; omega
  · intro h; exact List.mem_of_getElem? h
theorem zRa {l:List Int} (hs:Srt l) {p:Nat} {x t:Int} (hx:l[p]?=some x) (h:x<t):∀ m y,m<p+1→l[m]?=some y→y<t:=by
  intro m y hm hy
  rcases Nat.lt_or_ge m p with hlt | hge
  · have:=zJi hs hy hx hlt; omega
  · have:m=p:=by omega
    subst this
    rw [hx] at hy; cases hy; exact h
theorem zRY {l:List Int} (hs:Srt l) {p:Nat} {x t:Int} (hx:l[p]?=some x) (h:¬ x<t):∀ m y,p≤m→l[m]?=some y→t≤y:=by
  intro m y hm hy
  rcases Nat.lt_or_ge p m with hlt | hge
  · have:=zJi hs hx hy hlt; omega
  · have:m=p:=by omega
    subst this
    rw [hx] at hy; cases hy; omega
theorem zUX {l:List Int} {t:Int} {i:Nat} (h1:∀ m x,m<i→l[m]?=some x→x<t) (h:¬ i<l.length):(t∈l)↔False:=by
  constructor
  · intro hm
    obtain ⟨m,hm',rfl⟩:=List.getElem_of_mem hm
    have:=h1 m _ (by omega) (List.getElem?_eq_getElem hm')
    omega
  · exact False.elim
theorem zTX {l:List Int} {t x:Int} {i:Nat} (hs:Srt l) (h1:∀ m x,m<i→l[m]?=some x→x<t) (h2:∀ m x,i≤m→l[m]?=some x→t≤x) (hx:l[i]?=some x):(t∈l)↔x=t:=by
  rw [zTh h1 (fun m y hm hy=>by
    have:=h2 i x (Nat.le_refl _) hx
    have:=zJi hs hx hy hm
    omega),hx]
  simp
def bud (f:Int) (k:Nat):Int:=((f.toNat ^^^ 2 ^ k:Nat):Int)
theorem zCA {z:zo} (h:ranges z=true):0≤z.node∧z.node<4∧(z.kind=0∨z.kind=1)∧0≤z.start∧z.start<256∧1≤z.count∧z.count≤256 - z.start∧0≤z.min∧z.min≤z.count:=by
  unfold ranges at h
  simp only [Bool.and_eq_true,Bool.or_eq_true,decide_eq_true_eq] at h
  omega
theorem zAf {z:zo} {f:Int} {k:Nat} (hz:ranges z=true) (h:inside z f k=true):0≤f∧f+2 ^ k≤256∧z.start≤f∧f+2 ^ k≤z.start+z.count∧f.tmod (2 ^ k)=0:=by
  have hb:=zCA hz
  unfold inside at h
  simp only [Bool.and_eq_true,decide_eq_true_eq] at h
  omega
theorem zR5 {l:List Int}:∀ {a:Int},Srt l→(∀ f,f∈l→a≤f) → ∀ {i:Nat} {x:Int},l[i]?=some x→a+i≤x:=by
  induction l with
  | nil=>intro a _ _ i x hx; simp at hx
  | cons y l ih =>
    intro a hs ha i x hx
    cases i with
    | zero =>
      simp at hx; subst hx
      have:=ha y (by simp); simpa using this
    | succ i =>
      have hs':=List.pairwise_cons.1 hs
      have:=ih (a:=a+1) hs'.2 (fun f hf=>by have h1:=ha y (by simp); have h2:=hs'.1 f hf; omega) (i:=i) (x:=x) (by simpa using hx)
      omega
theorem zQK {l:List Int} (hs:Srt l) (h:∀ f,f∈l→0≤f∧f<256):l.length≤256:=by
  rcases Nat.eq_zero_or_pos l.length with h0 | h0
  · omega
  · have hl:l[l.length - 1]?=some l[l.length - 1]:=List.getElem?_eq_getElem (by omega)
    have h1:=zR5 hs (fun f hf=>(h f hf).1) hl
    have h2:=(h _ (List.mem_of_getElem? hl)).2
    omega
def zQ7 (l:List Int) (t:Int):List Int:=l.take (lb l t)++t::l.drop (lb l t)
def lst (z:zo) (k:Nat):List Int:=z.free.getD k []
def zQ5 (z:zo) (k:Nat) (l:List Int):zo:={ z with free:=z.free.set k l }
def zQ6 (z:zo) (f:Int) (k:Nat):zo:=zQ5 z k (zQ7 (lst z k) f)
def zO7 (z:zo) (f:Int) (k:Nat):zo:=zQ5 z k ((lst z k).eraseIdx (lb (lst z k) f))
def zLX (z:zo) (f:Int) (k:Nat):Bool:=decide (bud f k∈lst z k)&&inside z (min f (bud f k)) (k+1)
def zOJ:Nat→zo→Int→Nat→zo
  | 0,z,f,k=>zQ6 z f k
  | n+1,z,f,k=>if zLX z f k=true then zOJ n (zO7 z (bud f k) k) (min f (bud f k)) (k+1) else zQ6 z f k
theorem zT2 {z:zo} {k:Nat} {l:List Int} (h:z.free[k]?=some l):lst z k=l:=by simp [lst,h]
theorem zUJ (l:List Int) (t:Int):lb l t≤l.length:=List.countP_le_length
theorem zUf {l:List Int} {t:Int} (h:t∈l):lb l t<l.length:=by
  unfold lb
  rcases Nat.lt_or_ge (l.countP (fun x=>decide (x<t))) l.length with h1 | h1
  · exact h1
  · exfalso
    have:=List.countP_eq_length.1 (Nat.le_antisymm List.countP_le_length h1) t h
    simp at this
theorem zPH {l:List Int} {t x:Int}:x∈zQ7 l t↔x=t∨x∈l:=by
  unfold zQ7
  have:x∈l↔x∈l.take (lb l t)∨x∈l.drop (lb l t):=by
    rw [← List.mem_append,List.take_append_drop]
  rw [List.mem_append,List.mem_cons,this]
  constructor
  · rintro (h | h | h)
    · exact .inr (.inl h)
    · exact .inl h
    · exact .inr (.inr h)
  · rintro (h | h | h)
    · exact .inr (.inl h)
    · exact .inl h
    · exact .inr (.inr h)
structure zPe (z:zo):Prop where
  ranges:ranges z=true
  len:z.free.length=5
  srt:∀ (k:Nat) (l:List Int),z.free[k]?=some l→Srt l
  bd:∀ (k:Nat) (l:List Int),z.free[k]?=some l → ∀ x,x∈l→0≤x∧x<256
theorem zPe.lenl {z:zo} (h:zPe z) {k:Nat} {l:List Int} (hl:z.free[k]?=some l):l.length≤256:=zQK (h.srt k l hl) (h.bd k l hl)
theorem zPe.del {z:zo} (h:zPe z) {k:Nat} {f:Int} {l:List Int} (hl:z.free[k]?=some l):zPe (zO7 z f k):=by
  have hlst:=zT2 hl
  refine ⟨h.ranges,by simpa [zO7,zQ5] using h.len,?_,?_⟩
  · intro j l' hl'
    simp only [zO7,zQ5,List.getElem?_set] at hl'
    split at hl'
    · split at hl'
      · cases hl'
        rw [hlst]
        exact (h.srt k l hl).sublist (List.eraseIdx_sublist ..)
      · cases hl'
    · exact h.srt j l' hl'
  · intro j l' hl' x hx
    simp only [zO7,zQ5,List.getElem?_set] at hl'
    split at hl'
    · split at hl'
      · cases hl'
        rw [hlst] at hx
        exact h.bd k l hl x ((List.eraseIdx_sublist ..).subset hx)
      · cases hl'
    · exact h.bd j l' hl' x hx
theorem zSq:∀ k:Fin 4, ∀ x:Fin 256,x.val%2 ^ k.val=0→(x.val ^^^ 2 ^ k.val)=if x.val%2 ^ (k.val+1)=0 then x.val+2 ^ k.val else x.val - 2 ^ k.val:=by decide +kernel
theorem zBK {z:zo} (h:ranges z=true) {x:Int} {k:Nat}:inside z x k=true↔z.start≤x∧x%2 ^ k=0∧(2:Int) ^ k≤z.count∧x≤z.start+z.count - 2 ^ k:=by
  have hr:=zCA h
  unfold inside
  simp only [Bool.and_eq_true,decide_eq_true_eq]
  constructor
  · rintro ⟨⟨⟨h1,h2⟩,h3⟩,h4⟩
    rw [Int.tmod_eq_emod_of_nonneg (by omega)] at h2
    exact ⟨h1,h2,h3,h4⟩
  · rintro ⟨h1,h2,h3,h4⟩
    rw [← Int.tmod_eq_emod_of_nonneg (by omega)] at h2
    exact ⟨⟨⟨h1,h2⟩,h3⟩,h4⟩
theorem le4 {k:Nat} (h:k≤4):k=0∨k=1∨k=2∨k=3∨k=4:=by omega
theorem pw0:(2:Int) ^ 0=1:=rfl
theorem pw1:(2:Int) ^ 1=2:=rfl
theorem pw2:(2:Int) ^ 2=4:=rfl
theorem pw3:(2:Int) ^ 3=8:=rfl
theorem pw4:(2:Int) ^ 4=16:=rfl
theorem zMu {x:Int} {k:Nat} (hk:k<4) (h0:0≤x) (h1:x<256) (ha:x%2 ^ k=0):(x%2 ^ (k+1)=0∧bud x k=x+2 ^ k)∨(x%2 ^ (k+1)=2 ^ k∧bud x k=x - 2 ^ k):=by
  obtain ⟨m,rfl⟩:=Int.eq_ofNat_of_zero_le h0
  have hm:m<256:=by omega
  have h:=zSq ⟨k,hk⟩ ⟨m,hm⟩
  simp only at h
  have hb:bud (m:Int) k=((m ^^^ 2 ^ k:Nat):Int):=by simp [bud]
  have hk':k=0∨k=1∨k=2∨k=3:=by omega
  rw [hb]
  rcases hk' with rfl | rfl | rfl | rfl
  · have:=h (by omega)
    simp only [Nat.reducePow,Nat.reduceAdd,pw0,pw1] at *
    split at this <;> omega
  · simp only [Nat.reducePow,Nat.reduceAdd,pw1,pw2] at *
    have:=h (by omega)
    split at this <;> omega
  · simp only [Nat.reducePow,Nat.reduceAdd,pw2,pw3] at *
    have:=h (by omega)
    split at this <;> omega
  · simp only [Nat.reducePow,Nat.reduceAdd,pw3,pw4] at *
    have:=h (by omega)
    split at this <;> omega
theorem zUn {x y f:Int} {k j:Nat} (hkj:k≤j) (hj:j≤4) (hx:x%2 ^ k=0) (hy:y%2 ^ j=0) (h1:x≤f) (h2:f<x+2 ^ k) (h3:y≤f) (h4:f<y+2 ^ j):y≤x∧x+2 ^ k≤y+2 ^ j:=by
  rcases le4 hj with rfl | rfl | rfl | rfl | rfl <;> rcases le4 (Nat.le_trans hkj hj) with rfl | rfl | rfl | rfl | rfl <;> simp only [pw0,pw1,pw2,pw3,pw4] at * <;> omega
theorem zKu {z:zo} (h:z.free.length=5) {k:Nat} (hk:5≤k):lst z k=[]:=by
  unfold lst
  rw [List.getD_eq_getElem?_getD,List.getElem?_eq_none (by omega)]
  rfl
theorem zOY {z:zo} (h:z.free.length=5) {k j:Nat} (hk:k<5) {l:List Int}:lst (zQ5 z k l) j=if j=k then l else lst z j:=by
  unfold lst zQ5
  simp only [List.getD_eq_getElem?_getD,List.getElem?_set]
  by_cases hj:k=j
  · subst hj
    rw [if_pos rfl,if_pos rfl,if_pos (by omega)]
    rfl
  · rw [if_neg hj,if_neg (fun e=>hj e.symm)]
theorem zJZ {z:zo} (h:z.free.length=5) {k:Nat} (hk:k<5):z.free[k]?=some (lst z k):=by
  unfold lst
  rw [List.getD_eq_getElem?_getD,List.getElem?_eq_getElem (by omega)]
  rfl
def cov (z:zo) (f:Int):Prop := ∃ k x,x∈lst z k∧x≤f∧f<x+2 ^ k
structure OkZ (z:zo):Prop where
  ranges:ranges z=true
  len:z.free.length=5
  srt:∀ k,Srt (lst z k)
  ins:∀ k x,x∈lst z k→inside z x k=true
  dis:∀ k x j y f,x∈lst z k→y∈lst z j→x≤f→f<x+2 ^ k→y≤f→f<y+2 ^ j→k=j∧x=y
  can:∀ k x,k<4→x∈lst z k→bud x k∈lst z k→inside z (min x (bud x k)) (k+1)=false
section
variable {z z1 z2:zo}
theorem OkZ.le4 (h:OkZ z) {k:Nat} {x:Int} (hx:x∈lst z k):k≤4:=by
  rcases Nat.lt_or_ge k 5 with hk | hk
  · omega
  · rw [zKu h.len hk] at hx; cases hx
theorem OkZ.bds (h:OkZ z) {k:Nat} {x:Int} (hx:inside z x k=true):0≤x∧x+2 ^ k≤256∧z.start≤x∧x+2 ^ k≤z.start+z.count∧x%2 ^ k=0:=by
  have h1:=zAf h.ranges hx
  have h2:=(zBK h.ranges).1 hx
  exact ⟨h1.1,h1.2.1,h2.1,by omega,h2.2.1⟩
theorem zJb (k:Nat):(0:Int)<2 ^ k:=Int.pow_pos (by omega)
theorem zM1 (k:Nat):(2:Int) ^ (k+1)=2 ^ k+2 ^ k:=by rw [Int.pow_succ]; omega
theorem zTH {x:Int} {k:Nat} (h:x%2 ^ (k+1)=0):x%2 ^ k=0∧(x+2 ^ k)%2 ^ k=0:=by
  obtain ⟨c,rfl⟩:=Int.dvd_of_emod_eq_zero h
  rw [Int.pow_succ,Int.mul_assoc]
  constructor
  · exact Int.mul_emod_right _ _
  · rw [show (2:Int) ^ k*(2*c)+2 ^ k=2 ^ k*(2*c+1) by rw [Int.mul_add,Int.mul_one]]
    exact Int.mul_emod_right _ _
theorem OkZ.holder (h:OkZ z):∀ (k:Nat) (x:Int),k≤4→inside z x k=true→(∀ f,x≤f→f<x+2 ^ k→cov z f) → ∃ j y,k≤j∧y∈lst z j∧y≤x∧x+2 ^ k≤y+2 ^ j:=by
  intro k
  induction k with
  | zero =>
    intro x _ hi hc
    obtain ⟨j,y,hy,h1,h2⟩:=hc x (Int.le_refl _) (by rw [pw0]; omega)
    exact ⟨j,y,Nat.zero_le _,hy,h1,by rw [pw0]; omega⟩
  | succ k ih =>
    intro x hk hi hc
    have hb:=h.bds hi
    have hi':=(zBK h.ranges).1 hi
    have hal:=zTH hb.2.2.2.2
    have hp:=zM1 k
    have hp0:=zJb k
    have hin1:inside z x k=true:=(zBK h.ranges).2 ⟨by omega,hal.1,by omega,by omega⟩
    have hin2:inside z (x+2 ^ k) k=true:=(zBK h.ranges).2 ⟨by omega,hal.2,by omega,by omega⟩
    obtain ⟨j1,y1,a1,a2,a3,a4⟩:=ih x (by omega) hin1 (fun f h1 h2=>hc f h1 (by omega))
    obtain ⟨j2,y2,b1,b2,b3,b4⟩:=ih (x+2 ^ k) (by omega) hin2 (fun f h1 h2=>hc f (by omega) (by omega))
    have hj1:=h.le4 a2
    have hj2:=h.le4 b2
    have hy1:=(h.bds (h.ins _ _ a2)).2.2.2.2
    have hy2:=(h.bds (h.ins _ _ b2)).2.2.2.2
    by_cases hk1:k<j1
    · obtain ⟨n1,n2⟩:=zUn (f:=x) (show k+1≤j1 by omega) hj1 hb.2.2.2.2 hy1 (Int.le_refl _) (by omega) a3 (by omega)
      exact ⟨j1,y1,by omega,a2,n1,n2⟩
    · by_cases hk2:k<j2
      · obtain ⟨n1,n2⟩:=zUn (f:=x+2 ^ k) (show k+1≤j2 by omega) hj2 hb.2.2.2.2 hy2 (by omega) (by omega) b3 (by omega)
        exact ⟨j2,y2,by omega,b2,n1,n2⟩
      · exfalso
        have e1:j1=k:=by omega
        have e2:j2=k:=by omega
        subst e1
        subst e2
        have e3:y1=x:=by omega
        have e4:y2=x+2 ^ j2:=by omega
        subst e3
        subst e4
        have hbud:=zMu (x:=y1) (k:=j2) (by omega) (by omega) (by omega) hal.1
        rcases hbud with ⟨_,hb2⟩ | ⟨hb1,_⟩
        · have:=h.can j2 y1 (by omega) a2 (by rw [hb2]; exact b2)
          rw [hb2,Int.min_eq_left (by omega),hi] at this
          cases this
        · rw [hb.2.2.2.2] at hb1
          omega
theorem zQm:∀ {l m:List Int},Srt l→Srt m→(∀ x,x∈l↔x∈m)→l=m
  | [],[],_,_,_=>rfl
  | [],b::m,_,_,h=>by have:=(h b).2 (by simp); cases this
  | a::l,[],_,_,h=>by have:=(h a).1 (by simp); cases this
  | a::l,b::m,hl,hm,h=>by
    have ha:=List.pairwise_cons.1 hl
    have hb:=List.pairwise_cons.1 hm
    have hab:a=b:=by
      have h1:=(h a).1 (by simp)
      have h2:=(h b).2 (by simp)
      rcases List.mem_cons.1 h1 with e | e
      · exact e
      · rcases List.mem_cons.1 h2 with e2 | e2
        · exact e2.symm
        · have:=hb.1 a e
          have:=ha.1 b e2
          omega
    subst hab
    congr 1
    refine zQm ha.2 hb.2 (fun x => ?_)
    constructor
    · intro hx
      rcases List.mem_cons.1 ((h x).1 (by simp [hx])) with e | e
      · have:=ha.1 x hx; omega
      · exact e
    · intro hx
      rcases List.mem_cons.1 ((h x).2 (by simp [hx])) with e | e
      · have:=hb.1 x hx; omega
      · exact e
theorem OkZ.sub (h1:OkZ z1) (h2:OkZ z2) (hp:∀ x k,inside z1 x k=inside z2 x k) (hc:∀ f,cov z1 f↔cov z2 f):∀ k x,x∈lst z1 k→x∈lst z2 k:=by
  intro k x hx
  have hk:=h1.le4 hx
  have hi:=h1.ins k x hx
  have hp0:=zJb k
  obtain ⟨j,y,a1,a2,a3,a4⟩:=h2.holder k x hk (by rw [← hp]; exact hi) (fun f g1 g2=>(hc f).1 ⟨k,x,hx,g1,g2⟩)
  have hj:=h2.le4 a2
  have hiy:=h2.ins j y a2
  obtain ⟨i,u,b1,b2,b3,b4⟩:=h1.holder j y hj (by rw [hp]; exact hiy) (fun f g1 g2=>(hc f).2 ⟨j,y,a2,g1,g2⟩)
  obtain ⟨e1,e2⟩:=h1.dis k x i u x hx b2 (Int.le_refl _) (by omega) (by omega) (by omega)
  subst e2
  have e3:j=k:=by omega
  subst e3
  have e4:y=x:=by omega
  rw [← e4]
  exact a2
theorem OkZ.ext (h1:OkZ z1) (h2:OkZ z2) (e1:z1.node=z2.node) (e2:z1.kind=z2.kind) (e3:z1.start=z2.start) (e4:z1.count=z2.count) (e5:z1.min=z2.min) (hc:∀ f,cov z1 f↔cov z2 f):z1=z2:=by
  have hp:∀ x k,inside z1 x k=inside z2 x k:=fun x k=>by unfold inside; rw [e3,e4]
  have hl:∀ k,lst z1 k=lst z2 k:=fun k=>zQm (h1.srt k) (h2.srt k) (fun x=>⟨h1.sub h2 hp hc k x,h2.sub h1 (fun x k=>(hp x k).symm) (fun f=>(hc f).symm) k x⟩)
  have hf:z1.free=z2.free:=by
    apply List.ext_getElem?
    intro k
    rcases Nat.lt_or_ge k 5 with hk | hk
    · rw [zJZ h1.len hk,zJZ h2.len hk,hl]
    · rw [List.getElem?_eq_none (by have:=h1.len; omega),List.getElem?_eq_none (by have:=h2.len; omega)]
  cases z1; cases z2
  simp_all
end
theorem zQN (a:Int) (l:List Int) (t:Int):lb (a::l) t=lb l t+if a<t then 1 else 0:=by
  unfold lb
  rw [List.countP_cons]
  simp
theorem zQS {l:List Int} {t:Int} (h:∀ x,x∈l→t≤x):lb l t=0:=by
  unfold lb
  rw [List.countP_eq_zero]
  intro x hx
  have:=h x hx
  simp
  omega
theorem zQX {a:Int} {l:List Int} {t:Int} (hs:Srt (a::l)):zQ7 (a::l) t=if a<t then a::zQ7 l t else t::a::l:=by
  unfold zQ7
  rw [zQN]
  have ha:=List.pairwise_cons.1 hs
  by_cases h:a<t
  · simp [h]
  · have:lb l t=0:=zQS (fun x hx=>by have:=ha.1 x hx; omega)
    simp [h,this]
theorem zPD:∀ {l:List Int} {t:Int},Srt l→t ∉ l→Srt (zQ7 l t)
  | [],t,_,_=>by simp [zQ7,lb,Srt]
  | a::l,t,hs,hn=>by
    have ha:=List.pairwise_cons.1 hs
    rw [zQX hs]
    simp only [List.mem_cons,not_or] at hn
    by_cases h:a<t
    · rw [if_pos h]
      refine List.pairwise_cons.2 ⟨fun x hx => ?_,zPD ha.2 hn.2⟩
      rcases zPH.1 hx with rfl | hx
      · exact h
      · exact ha.1 x hx
    · rw [if_neg h]
      refine List.pairwise_cons.2 ⟨fun x hx => ?_,hs⟩
      rcases List.mem_cons.1 hx with rfl | hx
      · omega
      · have:=ha.1 x hx; omega
theorem zRr:∀ {l:List Int} {t:Int},Srt l→t∈l→l[lb l t]?=some t
  | [],_,_,h=>by cases h
  | a::l,t,hs,h=>by
    have ha:=List.pairwise_cons.1 hs
    rw [zQN]
    rcases List.mem_cons.1 h with rfl | h
    · have:lb l t=0:=zQS (fun x hx=>by have:=ha.1 x hx; omega)
      simp [this]
    · have:=ha.1 t h
      simp [this,zRr ha.2 h]
theorem zTd {l:List Int} {t x:Int} (hs:Srt l) (ht:t∈l):x∈l.eraseIdx (lb l t)↔x∈l∧x≠t:=by
  have hg:=zRr hs ht
  rw [List.mem_eraseIdx_iff_getElem?]
  constructor
  · rintro ⟨i,hi,hx⟩
    refine ⟨List.mem_of_getElem? hx,?_⟩
    rintro rfl
    rcases Nat.lt_or_gt_of_ne hi with h | h
    · have:=zJi hs hx hg h; omega
    · have:=zJi hs hg hx h; omega
  · rintro ⟨hx,hne⟩
    obtain ⟨i,hi,he⟩:=List.getElem_of_mem hx
    have hxi:l[i]?=some x:=by rw [List.getElem?_eq_getElem hi,he]
    refine ⟨i,?_,hxi⟩
    intro e
    rw [e,hg] at hxi
    exact hne (Option.some.inj hxi).symm
theorem zTU {l:List Int} {i:Nat} (hs:Srt l):Srt (l.eraseIdx i):=hs.sublist (List.eraseIdx_sublist ..)
def zIu (a b:zo):Prop:=a.node=b.node∧a.kind=b.kind∧a.start=b.start∧a.count=b.count∧a.min=b.min
theorem zIu.inside {a b:zo} (h:zIu a b) (x:Int) (k:Nat):inside a x k=inside b x k:=by unfold Go.Proofs.YtplkliakhdkpcaaGreat.inside; rw [h.2.2.1,h.2.2.2.1]
theorem zIu.ranges {a b:zo} (h:zIu a b):ranges a=ranges b:=by unfold Go.Proofs.YtplkliakhdkpcaaGreat.ranges; rw [h.1,h.2.1,h.2.2.1,h.2.2.2.1,h.2.2.2.2]
theorem zNf (z:zo) (k:Nat) (l:List Int):zIu (zQ5 z k l) z:=⟨rfl,rfl,rfl,rfl,rfl⟩
theorem zIu.trans {a b c:zo} (h:zIu a b) (g:zIu b c):zIu a c:=⟨h.1.trans g.1,h.2.1.trans g.2.1,h.2.2.1.trans g.2.2.1,h.2.2.2.1.trans g.2.2.2.1,h.2.2.2.2.trans g.2.2.2.2⟩
theorem zSg {x:Int} (k:Nat) (h:0≤x):bud (bud x k) k=x:=by
  unfold bud
  rw [Int.toNat_natCast,Nat.xor_assoc,Nat.xor_self,Nat.xor_zero,Int.toNat_of_nonneg h]
section
variable {z:zo}
theorem OkZ.del (h:OkZ z) {k:Nat} {x:Int} (hx:x∈lst z k):OkZ (zO7 z x k)∧(∀ f,cov (zO7 z x k) f↔cov z f ∧ ¬ (x≤f∧f<x+2 ^ k))∧zIu (zO7 z x k) z:=by
  have hk:=h.le4 hx
  have hsame:zIu (zO7 z x k) z:=zNf z k ((lst z k).eraseIdx (lb (lst z k) x))
  have hls:∀ j,lst (zO7 z x k) j=if j=k then (lst z k).eraseIdx (lb (lst z k) x) else lst z j:=fun j=>zOY h.len (by omega)
  have hm:∀ j y,y∈lst (zO7 z x k) j↔y∈lst z j ∧ ¬ (j=k∧y=x):=by
    intro j y
    rw [hls]
    by_cases hj:j=k
    · subst hj
      rw [if_pos rfl,zTd (h.srt j) hx]
      simp
    · rw [if_neg hj]
      simp [hj]
  refine ⟨⟨by rw [← h.ranges]; exact hsame.ranges,by simpa [zO7,zQ5] using h.len,?_,?_,?_,?_⟩,?_,hsame⟩
  · intro j
    rw [hls]
    split
    · exact zTU (h.srt k)
    · exact h.srt j
  · intro j y hy
    rw [hsame.inside]
    exact h.ins j y ((hm j y).1 hy).1
  · intro j y i u f hy hu
    exact h.dis j y i u f ((hm j y).1 hy).1 ((hm i u).1 hu).1
  · intro j y hj hy hb
    rw [hsame.inside]
    exact h.can j y hj ((hm j y).1 hy).1 ((hm j _).1 hb).1
  · intro f
    constructor
    · rintro ⟨j,y,hy,h1,h2⟩
      have hy':=(hm j y).1 hy
      refine ⟨⟨j,y,hy'.1,h1,h2⟩,fun hf=>hy'.2 (h.dis j y k x f hy'.1 hx h1 h2 hf.1 hf.2)⟩
    · rintro ⟨⟨j,y,hy,h1,h2⟩,hf⟩
      refine ⟨j,y,(hm j y).2 ⟨hy,?_⟩,h1,h2⟩
      rintro ⟨rfl,rfl⟩
      exact hf ⟨h1,h2⟩
theorem OkZ.insert (h:OkZ z) {k:Nat} {f:Int} (hk:k≤4) (hi:inside z f k=true) (hf:∀ g,f≤g→g<f+2 ^ k → ¬ cov z g) (hj:k<4→zLX z f k=false):OkZ (zQ6 z f k)∧(∀ g,cov (zQ6 z f k) g↔cov z g∨(f≤g∧g<f+2 ^ k))∧zIu (zQ6 z f k) z:=by
  have hsame:zIu (zQ6 z f k) z:=zNf z k (zQ7 (lst z k) f)
  have hp:=zJb k
  have hb:=h.bds hi
  have hn:f ∉ lst z k:=fun hm=>hf f (Int.le_refl _) (by omega) ⟨k,f,hm,Int.le_refl _,by omega⟩
  have hls:∀ j,lst (zQ6 z f k) j=if j=k then zQ7 (lst z k) f else lst z j:=fun j=>zOY h.len (by omega)
  have hm:∀ j y,y∈lst (zQ6 z f k) j↔y∈lst z j∨(j=k∧y=f):=by
    intro j y
    rw [hls]
    by_cases hjk:j=k
    · subst hjk
      rw [if_pos rfl,zPH]
      simp
      exact Or.comm
    · rw [if_neg hjk]
      simp [hjk]
  refine ⟨⟨by rw [← h.ranges]; exact hsame.ranges,by simpa [zQ6,zQ5] using h.len,?_,?_,?_,?_⟩,?_,hsame⟩
  · intro j
    rw [hls]
    split
    · exact zPD (h.srt k) hn
    · exact h.srt j
  · intro j y hy
    rw [hsame.inside]
    rcases (hm j y).1 hy with hy | ⟨rfl,rfl⟩
    · exact h.ins j y hy
    · exact hi
  · intro j y i u g hy hu h1 h2 h3 h4
    rcases (hm j y).1 hy with hy' | ⟨e1,e2⟩
    · rcases (hm i u).1 hu with hu' | ⟨e3,e4⟩
      · exact h.dis j y i u g hy' hu' h1 h2 h3 h4
      · rw [e4] at h3 h4
        rw [e3] at h4
        exact absurd ⟨j,y,hy',h1,h2⟩ (hf g h3 h4)
    · rw [e2] at h1 h2
      rw [e1] at h2
      rcases (hm i u).1 hu with hu' | ⟨e3,e4⟩
      · exact absurd ⟨i,u,hu',h3,h4⟩ (hf g h1 h2)
      · exact ⟨e1.trans e3.symm,e2.trans e4.symm⟩
  · intro j y hj4 hy hbu
    rw [hsame.inside]
    have hno:∀ y,y∈lst z k→bud y k=f→k<4→inside z (min y (bud y k)) (k+1)=false:=by
      intro y hy he h4
      have hy0:=(h.bds (h.ins k y hy)).1
      have e2:bud f k=y:=by rw [← he,zSg k hy0]
      have:=hj h4
      unfold zLX at this
      rw [e2] at this
      rw [he,Int.min_comm]
      simpa [hy] using this
    rcases (hm j y).1 hy with hy' | ⟨rfl,rfl⟩
    · rcases (hm j _).1 hbu with hbu' | ⟨e1,hbu'⟩
      · exact h.can j y hj4 hy' hbu'
      · rw [e1] at hy' hbu' hj4 ⊢
        exact hno y hy' hbu' hj4
    · rcases (hm j _).1 hbu with hbu | ⟨_,hbu⟩
      · have:=hj hj4
        unfold zLX at this
        simpa [hbu] using this
      · exfalso
        rcases zMu hj4 hb.1 (by omega) hb.2.2.2.2 with ⟨_,e⟩ | ⟨_,e⟩ <;> omega
  · intro g
    constructor
    · rintro ⟨j,y,hy,h1,h2⟩
      rcases (hm j y).1 hy with hy | ⟨rfl,rfl⟩
      · exact .inl ⟨j,y,hy,h1,h2⟩
      · exact .inr ⟨h1,h2⟩
    · rintro (⟨j,y,hy,h1,h2⟩ | ⟨h1,h2⟩)
      · exact ⟨j,y,(hm j y).2 (.inl hy),h1,h2⟩
      · exact ⟨k,f,(hm k f).2 (.inr ⟨rfl,rfl⟩),h1,h2⟩
theorem OkZ.put:∀ (n:Nat) {z:zo} {f:Int} {k:Nat},n+k=4→OkZ z→inside z f k=true→(∀ g,f≤g→g<f+2 ^ k → ¬ cov z g) →
    OkZ (zOJ n z f k)∧(∀ g,cov (zOJ n z f k) g↔cov z g∨(f≤g∧g<f+2 ^ k))∧zIu (zOJ n z f k) z
  | 0,z,f,k,hn,h,hi,hf=>h.insert (by omega) hi hf (fun h4=>by omega)
  | n+1,z,f,k,hn,h,hi,hf=>by
    unfold zOJ
    by_cases hj:zLX z f k=true
    · rw [if_pos hj]
      unfold zLX at hj
      simp only [Bool.and_eq_true,decide_eq_true_eq] at hj
      obtain ⟨hb,hi2⟩:=hj
      obtain ⟨d1,d2,d3⟩:=h.del hb
      have hbd:=h.bds hi
      have hbb:=h.bds (h.ins k _ hb)
      have hp:=zJb k
      have hps:=zM1 k
      have hcase:=zMu (k:=k) (by omega) hbd.1 (by omega) hbd.2.2.2.2
      obtain ⟨r1,r2,r3⟩:=OkZ.put n (k:=k+1) (by omega) d1 (by rw [d3.inside]; exact hi2) (fun g g1 g2 hc=>by
        have hc':=(d2 g).1 hc
        by_cases hin:f≤g∧g<f+2 ^ k
        · exact hf g hin.1 hin.2 hc'.1
        · apply hc'.2
          rcases hcase with ⟨_,e⟩ | ⟨_,e⟩
          · rw [e] at g1 g2 ⊢
            omega
          · rw [e] at g1 g2 ⊢
            omega)
      refine ⟨r1,fun g => ?_,r3.trans d3⟩
      rw [r2 g,d2 g]
      have hcb:(bud f k≤g∧g<bud f k+2 ^ k)→cov z g:=fun hg=>⟨k,_,hb,hg.1,hg.2⟩
      rcases hcase with ⟨_,e⟩ | ⟨_,e⟩
      · rw [e] at hcb ⊢
        constructor
        · rintro (⟨h1,_⟩ | h1)
          · exact .inl h1
          · by_cases hin:f≤g∧g<f+2 ^ k
            · exact .inr hin
            · exact .inl (hcb (by omega))
        · rintro (h1 | h1)
          · by_cases hin:f+2 ^ k≤g∧g<f+2 ^ k+2 ^ k
            · exact .inr (by omega)
            · exact .inl ⟨h1,hin⟩
          · exact .inr (by omega)
      · rw [e] at hcb ⊢
        constructor
        · rintro (⟨h1,_⟩ | h1)
          · exact .inl h1
          · by_cases hin:f≤g∧g<f+2 ^ k
            · exact .inr hin
            · exact .inl (hcb (by omega))
        · rintro (h1 | h1)
          · by_cases hin:f - 2 ^ k≤g∧g<f - 2 ^ k+2 ^ k
            · exact .inr (by omega)
            · exact .inl ⟨h1,hin⟩
          · exact .inr (by omega)
    · rw [if_neg hj]
      exact h.insert (by omega) hi hf (fun _=>by simpa using hj)
theorem OkZ.putI (h:OkZ z):zPe z:=by
  have hl:∀ (k:Nat) (l:List Int),z.free[k]?=some l→l=lst z k:=fun k l hl=>by
    have hk:k<5:=by have:=(List.getElem?_eq_some_iff.1 hl).1; rw [h.len] at this; exact this
    rw [zJZ h.len hk] at hl
    cases hl
    rfl
  refine ⟨h.ranges,h.len,fun k l hkl => ?_,fun k l hkl x hx => ?_⟩
  · rw [hl k l hkl]; exact h.srt k
  · rw [hl k l hkl] at hx
    have:=h.bds (h.ins k x hx)
    have:=zJb k
    omega
end
theorem zN2 {z:zo} (hf:z.free=[[],[],[],[],[]]) (k:Nat):lst z k=[]:=by
  unfold lst
  rw [hf]
  match k with
  | 0=>rfl
  | 1=>rfl
  | 2=>rfl
  | 3=>rfl
  | 4=>rfl
  | k+5=>rfl
theorem zQn {z:zo} (hr:ranges z=true) (hf:z.free=[[],[],[],[],[]]):OkZ z ∧ ∀ g,¬ cov z g:=by
  have hl:=zN2 hf
  refine ⟨⟨hr,by rw [hf]; rfl,fun k=>by rw [hl]; exact Srt.nil,(fun k x hx=>by rw [hl] at hx; cases hx),(fun k x j y f hx=>by rw [hl] at hx; cases hx),(fun k x _ hx=>by rw [hl] at hx; cases hx)⟩,?_⟩
  rintro g ⟨k,x,hx,_⟩
  rw [hl] at hx
  cases hx
end Go.Proofs.YtplkliakhdkpcaaGreat
