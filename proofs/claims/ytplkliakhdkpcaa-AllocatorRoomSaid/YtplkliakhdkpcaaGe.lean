/-
  Rules, functions and laws for the last text, part e.
-/
import Derived.Test.YtplkliakhdkpcaaGd
set_option linter.unusedVariables false
set_option linter.unusedSimpArgs false
namespace Go.Proofs.Ytplkliakhdkpcaa
open Go Go.RowKit Go.Wk Go.Am
section
variable {α β:Type} {b:Bool} {x y:Option α} {a:α} {f:α→Option β}
theorem zP (h:b=true):chk b x=x:=by subst h; rfl
theorem zz (h:b=true):cnd b x y=x:=by subst h; rfl
theorem zf (h:b=false):cnd b x y=y:=by subst h; rfl
theorem zAt:(some a).bind f=f a:=rfl
end
theorem zu {a:Int} (h : -9223372036854775808≤a∧a≤9223372036854775807):inI a=true:=by simp [inI,h]
theorem zSb {i:Int} {n:Nat} (h:0≤i∧i<(n:Int)):inb i n=true:=by simp [inb,h]
theorem zAC {i n:Nat} (h:i<n):inb (i:Int) n=true:=zSb (by omega)
theorem zMv {a b:Bool} (h:b=true):(a||b)=true:=by rw [h,Bool.or_true]
theorem dt {p:Prop} [Decidable p] (h:p):decide p=true:=decide_eq_true h
theorem df {p:Prop} [Decidable p] (h:¬ p):decide p=false:=decide_eq_false h
theorem zFU {α:Type} [Inhabited α] {l:List α} {i:Nat} (h:i<l.length):at_ l (i:Int)=l[i]:=by
 unfold at_
 rw [Int.toNat_natCast,List.getD_eq_getElem?_getD,List.getElem?_eq_getElem h]
 rfl
theorem zXw (i j:Nat):((i:Int)+(j:Int)).fdiv (2 ^ (1:Int).toNat)=(((i+j)/2:Nat):Int):=by
 show ((i:Int)+(j:Int)).fdiv 2=_
 rw [Int.fdiv_eq_ediv_of_nonneg _ (by omega)]
 omega
theorem zUi (x y:Int):zHZ x y=some (decide (x<y)):=by
 unfold zHZ zDt
 simp [cnd]
theorem zVr {l:List Int} {t:Int} {i:Nat} (hs:Srt l) (hi:i≤l.length) (h1:∀ p x,p<i→l[p]?=some x→x<t) (h2:∀ p x,i≤p→l[p]?=some x→t≤x) :
  zBB l t (i:Int)=some ((lb l t:Int),decide (t∈l)):=by
 rw [zZT hi h1 h2]
 unfold zBB zEl
 rcases Nat.lt_or_ge i l.length with h | h
 ·have hx:l[i]?=some l[i]:=List.getElem?_eq_getElem h
  have hb:inb (i:Int) l.length=true:=zAC h
  have hd:decide ((i:Int)<(l.length:Int))=true:=dt (by omega)
  have hm:decide (t∈l)=decide (l[i]=t):=by rw [decide_eq_decide]; exact zX1 hs h1 h2 hx
  rw [zP (zMv hb),zP (zMv hb),zFU h,hd,hm]
  cases hq:decide (l[i]=t) <;> simp [cnd]
 ·have hd:decide ((i:Int)<(l.length:Int))=false:=df (by omega)
  have hm:decide (t∈l)=false:=df (fun hh=>(zY9 h1 (by omega)).1 hh)
  rw [hd,hm]
  rfl
theorem zWS {l:List Int} {t:Int} (hs:Srt l) (hl:l.length≤1000000):∀ (m n i j:Nat),j - i≤m→m<n→i≤j→j≤l.length→(∀ p x,p<i→l[p]?=some x→x<t)→(∀ p x,j≤p→l[p]?=some x→t≤x) →
  zA8 l t n (i:Int) (j:Int)=some ((lb l t:Int),decide (t∈l)):=by
 intro m
 induction m with
 | zero =>
  intro n i j h1 h2 h3 h4 ha hb
  obtain ⟨n,rfl⟩:∃ k,n=k+1:=⟨n - 1,by omega⟩
  show zAc _ _ _ _ _=_
  unfold zAc
  rw [zf (df (by omega))]
  have:j=i:=by omega
  subst this
  exact zVr hs h4 ha hb
 | succ m ih =>
  intro n i j h1 h2 h3 h4 ha hb
  obtain ⟨n,rfl⟩:∃ k,n=k+1:=⟨n - 1,by omega⟩
  show zAc _ _ _ _ _=_
  unfold zAc
  by_cases hij:i<j
  ·have hm:(i+j)/2<l.length:=by omega
   rw [zz (dt (by omega)),zXw,zP (zu (by omega)),zP (dt (zGb (by omega) (by omega))),zP (dt (zJe (by omega) (by omega))),zP (zAC hm),zUi,zAt,zFU hm]
   have hx:l[(i+j)/2]?=some l[(i+j)/2]:=List.getElem?_eq_getElem hm
   by_cases hlt:l[(i+j)/2]<t
   ·rw [zz (dt hlt),zP (zu (by omega))]
    exact ih n ((i+j)/2+1) j (by omega) (by omega) (by omega) h4 (zVB hs hx hlt) hb
   ·rw [zf (df hlt)]
    exact ih n i ((i+j)/2) (by omega) (by omega) (by omega) (by omega) ha (zUn hs hx hlt)
  ·rw [zf (df (by omega))]
   have:j=i:=by omega
   subst this
   exact zVr hs h4 ha hb
theorem zPz {l:List Int} {t:Int} (hs:Srt l) (hl:l.length≤1000000):zAJ l t=some ((lb l t:Int),decide (t∈l)) :=
 zWS hs hl l.length z8 0 l.length (by omega) (by unfold z8; omega) (by omega) (by omega) (fun p x hp=>by omega) (fun p x hp hx=>by
  rw [List.getElem?_eq_none (by omega)] at hx; cases hx)
theorem zIB {k:Nat} (h:k≤5):(1:Int)*2 ^ (k:Int).toNat=2 ^ k∧(1:Int)≤2 ^ k∧(2:Int) ^ k≤32:=by
 rw [Int.one_mul,Int.toNat_natCast]
 refine ⟨rfl,?_⟩
 have:k=0∨k=1∨k=2∨k=3∨k=4∨k=5:=by omega
 rcases this with rfl | rfl | rfl | rfl | rfl | rfl <;> decide
theorem zM2 {k:Nat} (h:k≤5):zNz (k:Int)=true:=by
 unfold zNz
 rw [dt (by omega),dt (by omega)]
 rfl
theorem zJU {z:zW} {f:Int} {k:Nat} (hr:ranges z=true) (hk:k≤5):zBg z f (k:Int)=some (inside z f k):=by
 have hb:=zAx hr
 obtain ⟨e,h1,h2⟩:=zIB hk
 unfold zBg inside
 rw [e,zP (zM2 hk),zP (zu (by omega)),zP (zMv (by rw [df (by omega)]; rfl)),zP (zMv (zu (by omega))),zP (zMv (zu (by omega)))]
theorem zWa:∀ k:Fin 4, ∀ x:Fin 256,zMT .xor .i64 (x.val:Int) (2 ^ k.val)=((x.val ^^^ 2 ^ k.val:Nat):Int):=by decide +kernel
theorem zVY {f:Int} {k:Nat} (h0:0≤f) (h1:f<256) (hk:k<4):zMT .xor .i64 f (2 ^ k)=bud f k:=by
 obtain ⟨m,rfl⟩:=Int.eq_ofNat_of_zero_le h0
 exact zWa ⟨k,hk⟩ ⟨m,by omega⟩
theorem zJI {l:List (List Int)} (hl:l.length=5) {i:Nat} (hi:i<5) (x:List Int):zEF 5 [] l i x=l.set i x:=by
 match l,hl with
 | [a,b,c,d,e],_ =>
  have:i=0∨i=1∨i=2∨i=3∨i=4:=by omega
  rcases this with rfl | rfl | rfl | rfl | rfl <;> rfl
theorem zJd {l:List (List Int)} {i:Nat} (hi:i<l.length):l.set i (l.getD i [])=l:=by
 apply List.ext_getElem?
 intro j
 rw [List.getElem?_set]
 split
 ·rename_i h
  subst h
  simp [hi]
 ·rfl
theorem zSC.srt' {z:zW} (h:zSC z) (k:Nat):Srt (lst z k):=by
 rcases Nat.lt_or_ge k 5 with hk | hk
 ·exact h.srt k _ (zJj h.len hk)
 ·rw [zMn h.len hk]; exact Srt.nil
theorem zSC.len' {z:zW} (h:zSC z) (k:Nat):(lst z k).length≤256:=by
 rcases Nat.lt_or_ge k 5 with hk | hk
 ·exact h.lenl (zJj h.len hk)
 ·rw [zMn h.len hk]; simp
theorem zQn {z:zW} (h:zSC z) {f:Int} {k:Nat} (hk:k<5) {a:zW} (ha:zEa a z):zGL a f (k:Int) z.free=some (zMr z f k):=by
 unfold zGL
 have e:z.free.getD (k:Int).toNat []=lst z k:=rfl
 have h5:=h.len
 rw [zP (zAC hk),zP (dt (by omega)),e,zPz (h.srt' k) (by have:=h.len' k; omega),zAt]
 have hok:zNo (lst z k) (lb (lst z k) f:Int)=true:=by
  have h1:=zUX (lst z k) f
  have h2:=h.len' k
  unfold zNo
  rw [dt (by omega),dt (by omega),dt (by omega)]
  rfl
 rw [zP hok]
 show some (zW.mk _ _ _ _ _ _)=_
 rw [zJI h5 (by omega),ha.1,ha.2.1,ha.2.2.1,ha.2.2.2.1,ha.2.2.2.2]
 rfl
theorem zUU:∀ (m n:Nat) {z a:zW} {f:Int} {k:Nat},m+k=4→m<n→zSC z→zEa a z→0≤f→f<256 →
  zHT a n f (k:Int) z.free=some (zNY m z f k):=by
 intro m
 induction m with
 | zero =>
  intro n z a f k hk hn h ha h0 h1
  obtain ⟨n,rfl⟩:=ex1 ‹_<n›
  show zFO _ _ _ _ _=_
  unfold zFO
  rw [zf (df (by omega))]
  exact zQn h (by omega) ha
 | succ m ih =>
  intro n z a f k hk hn h ha h0 h1
  obtain ⟨n,rfl⟩:=ex1 ‹_<n›
  show zFO _ _ _ _ _=_
  unfold zFO
  have e:z.free.getD (k:Int).toNat []=lst z k:=rfl
  have h5:=h.len
  obtain ⟨e1,p1,p2⟩:=zIB (k:=k) (by omega)
  have e3:zEF 5 [] z.free (k:Int).toNat (lst z k)=z.free:=by
   rw [zJI h5 (by omega)]
   exact zJd (by omega)
  have e4:(⟨a.node,a.kind,a.start,a.count,a.min,z.free⟩:zW)=z:=by rw [ha.1,ha.2.1,ha.2.2.1,ha.2.2.2.1,ha.2.2.2.2]
  rw [zz (dt (by omega)),zP (zM2 (by omega)),e1,zP (zu (by omega)),zP (zAC (by omega)),zP (dt (by omega)),e,zVY h0 h1 (by omega),zPz (h.srt' k) (by have:=h.len' k; omega),zAt]
  rw [zP (zMv (zu (by omega))),e3,e4]
  have hin:zBg z (min f (bud f k)) ((k:Int)+1)=some (inside z (min f (bud f k)) (k+1)):=zJU (k:=k+1) h.ranges (by omega)
  rw [hin]
  conv=>rhs; unfold zNY
  by_cases hm:bud f k∈lst z k
  ·have hb:=h.bd k _ (zJj h5 (by omega)) _ hm
   show ((cnd (!!decide (bud f k∈lst z k)) _ _).bind _)=_
   rw [dt hm,Bool.not_true,Bool.not_false,zz rfl,zAt]
   by_cases hi:inside z (min f (bud f k)) (k+1)=true
   ·have hj:zKy z f k=true:=by unfold zKy; rw [hi,dt hm]; rfl
    rw [if_pos hj,hi]
    refine (zf (by rfl)).trans ?_
    have hdel:zQc (z.free.getD (k:Int).toNat []) (lb (lst z k) (bud f k):Int) ((lb (lst z k) (bud f k):Int)+1)=true:=by
     have:=zX3 hm
     rw [e]
     unfold zQc
     rw [dt (by omega),dt (by omega),dt rfl]
     rfl
    rw [zP (zu (by have:=zUX (lst z k) (bud f k); have:=h.len' k; omega)),zP hdel,zP (zu (by omega))]
    have hz:(zMD z (bud f k) k).free=zEF 5 [] z.free (k:Int).toNat (zR8 (z.free.getD (k:Int).toNat []) (lb (lst z k) (bud f k):Int)):=by
     rw [zJI h5 (by omega)]
     rfl
    rw [← hz]
    exact ih n (k:=k+1) (by omega) (by omega) (h.del (zJj h5 (by omega))) (show zEa a (zMD z (bud f k) k) from ha) (by omega) (by omega)
   ·have hj:¬ zKy z f k=true:=by unfold zKy; rw [Bool.and_eq_true]; exact fun q=>hi q.2
    have hi':inside z (min f (bud f k)) (k+1)=false:=by simpa using hi
    rw [if_neg hj,hi']
    refine (zz (by rfl)).trans ?_
    exact zQn h (by omega) ha
  ·have hj:¬ zKy z f k=true:=by unfold zKy; rw [Bool.and_eq_true,decide_eq_true_eq]; exact fun q=>hm q.1
   show ((cnd (!!decide (bud f k∈lst z k)) _ _).bind _)=_
   rw [if_neg hj,df hm,Bool.not_false,Bool.not_true,zf rfl,zAt]
   refine (zz (by rfl)).trans ?_
   exact zQn h (by omega) ha
theorem zVQ {z:zW} {f:Int} {k:Nat} (h:zSC z) (hk:k≤4) (h0:0≤f) (h1:f<256):zIH z f (k:Int)=some (zNY (4 - k) z f k) :=
 zUU (4 - k) z8 (by omega) (by unfold z8; omega) h ⟨rfl,rfl,rfl,rfl,rfl⟩ h0 h1
theorem zQP (z:zW) (h:inI z.start=true):zGO z=some (ranges z):=by
 unfold zGO ranges
 by_cases hs:0≤z.start∧z.start<256
 ·rw [zP (zMv (zu (by omega)))]
 ·have:(((((((decide (0≤z.node))&&(decide (z.node<4)))&&((decide (z.kind=0))||(decide (z.kind=1))))&&(decide (0≤z.start)))&&(decide (z.start<256)))&&(decide (1≤z.count))))=false:=by
   rcases Classical.not_and_iff_not_or_not.1 hs with hs | hs <;> simp [hs]
  rw [this]
  rfl
theorem zS8 {z:zW} (hr:ranges z=true) (hf:z.free=[[],[],[],[],[]]):∀ (m n i:Nat),(i:Int)+m=z.count→m<n → ∀ a:zW,a=zM4 z i →
  zHX z.start z.count n (z.start+i) a.node a.kind a.start a.count a.min a.free=some (zM4 z z.count.toNat,0):=by
 intro m
 have hb:=zAx hr
 induction m with
 | zero =>
  intro n i hi hn a ha
  obtain ⟨n,rfl⟩:=ex1 ‹_<n›
  show zFE _ _ _ _ _ _ _ _ _ _=_
  unfold zFE
  rw [zP (zu (by omega)),zf (df (by omega))]
  have:z.count.toNat=i:=by omega
  rw [this, ← ha]
  rfl
 | succ m ih =>
  intro n i hi hn a ha
  obtain ⟨n,rfl⟩:=ex1 ‹_<n›
  show zFE _ _ _ _ _ _ _ _ _ _=_
  unfold zFE
  rw [zP (zu (by omega)),zz (dt (by omega))]
  show ((zIH a (z.start+i) (0:Nat)).bind _)=_
  rw [ha,zVQ (zW3 hr hf (by omega)).1 (by omega) (by omega) (by omega),zAt,zP (zu (by omega))]
  have:=ih n (i+1) (by omega) (by omega) (zM4 z (i+1)) rfl
  rw [show z.start+((i+1:Nat):Int)=z.start+i+1 by omega] at this
  exact this
theorem zXO {node kind start count least:Int} (h:inI start=true):zKY node kind start count least=some (zTj node kind start count least):=by
 unfold zKY zTj
 have e:(⟨node,kind,start,count,least,List.replicate 5 ([]:List Int)⟩:zW)=zL4 node kind start count least:=rfl
 rw [e,zQP _ h,zAt]
 by_cases hr:ranges (zL4 node kind start count least)=true
 ·rw [if_pos hr,hr]
  refine (zf (by rfl)).trans ?_
  have hb:=zAx hr
  have hc:(zL4 node kind start count least).count=count:=rfl
  have:=zS8 hr rfl count.toNat z8 0 (by omega) (by unfold z8; omega) _ rfl
  have e0:(zL4 node kind start count least).start+((0:Nat):Int)=start:=by show start+0=start; omega
  rw [e0] at this
  exact this
 ·rw [if_neg hr,zz (by simpa using hr)]
  rfl
theorem zSh (z:zW):zJ4 z=some (ranges z):=by
 unfold zJ4
 by_cases h:(((decide (z.node<0))||(decide (4≤z.node)))||((!decide (z.kind=0))&&(!decide (z.kind=1))))=true
 ·rw [zz h]
  have:ranges z=false:=by
   cases hr:ranges z with
   | false=>rfl
   | true =>
    have hb:=zAx hr
    simp at h
    omega
  rw [this]
 ·have h':=Bool.eq_false_iff.2 h
  rw [zf h']
  have hc:(!(((decide (0≤z.start))&&(decide (1≤z.count)))&&(decide (z.count≤256)))||inI (256 - z.count))=true:=by
   by_cases hq:1≤z.count∧z.count≤256
   ·exact zMv (zu (by omega))
   ·have:(decide (0≤z.start)&&decide (1≤z.count)&&decide (z.count≤256))=false:=by
     rcases Classical.not_and_iff_not_or_not.1 hq with hq | hq <;> simp [hq]
    rw [this]
    rfl
  rw [zP hc]
  congr 1
  rw [Bool.eq_iff_iff]
  unfold ranges
  simp at h ⊢
  omega
theorem zRw {z:zW} {f:Int} {k:Nat} (hr:ranges z=true) (hk:k≤4) (h0:z.start≤f) (h1:f<z.start+z.count):zCY z f (k:Int)=some (inside z f k):=by
 have hb:=zAx hr
 obtain ⟨e,p1,p2⟩:=zIB (k:=k) (by omega)
 unfold zCY
 rw [zP (zMv (zu (by omega))),df (p:=(k:Int)<0) (by omega),df (p:=4<(k:Int)) (by omega),df (p:=f<z.start) (by omega),df (p:=z.start+z.count≤f) (by omega)]
 refine (zf (by rfl)).trans ?_
 rw [e,zP (dt (zGb (by omega) (by omega))),zP (zM2 (by omega)),zP (zu (by omega)),zP (by rw [df (by omega)]; rfl),zP (zMv (zu (by omega))),zP (zMv (zu (by omega)))]
 congr 1
 unfold inside
 rw [Bool.eq_iff_iff]
 simp
 omega
theorem zLw {k:Nat} (h:k≤5):(2:Int) ^ k=((2 ^ k:Nat):Int):=by norm_cast
theorem zUY {l:List Int} {f:Int→Option Bool} {p:Int→Bool} (hf:∀ x,f x=some (p x)) (hl:l.length≤1099511627776):∀ (m n i:Nat),i+m=l.length→m<n → ∃ r,zAE l f n (i:Int)=some r∧decide (0≤r)=(l.drop i).any p:=by
 intro m
 induction m with
 | zero =>
  intro n i h1 h2
  obtain ⟨n,rfl⟩:=ex1 ‹_<n›
  refine ⟨-1,?_,?_⟩
  ·show zAS _ _ _ _=_
   unfold zAS
   rw [zf (df (by omega))]
   rfl
  ·rw [List.drop_eq_nil_of_le (by omega)]
   rfl
 | succ m ih =>
  intro n i h1 h2
  obtain ⟨n,rfl⟩:=ex1 ‹_<n›
  have hi:i<l.length:=by omega
  have hs:zAE l f (n+1) (i:Int)=cnd (p l[i]) (some (i:Int)) (zAE l f n ((i+1:Nat):Int)):=by
   show zAS _ _ _ _=_
   unfold zAS
   rw [zz (dt (by omega)),zP (zAC hi),hf,zAt,zFU hi,zP (zu (by omega))]
   rfl
  rw [hs,List.drop_eq_getElem_cons hi,List.any_cons]
  cases hp:p l[i] with
  | true=>exact ⟨i,rfl,by rw [dt (by omega)]; rfl⟩
  | false=>simpa [cnd] using ih n (i+1) (by omega) (by omega)
def zPZ (n:Int):Bool:=decide (n<0)||decide (4≤n)
def zLx (k b h z:Int):Bool:=decide (k<1)||decide (4<k)||decide (64<h)||decide (b<1)||decide (h<b)||decide (z<1)||decide (6<z)
def zUt (nodes:List Int) (b h z:Int):Bool := !zLx (nodes.length:Int) b h z && !nodes.any zPZ
theorem zOl {a:zH} (hl:a.nodes.length≤1099511627776):zDE a=some (zUt a.nodes a.batch a.high (a.zones.length:Int)):=by
 unfold zDE zUt
 show cnd (zLx (a.nodes.length:Int) a.batch a.high (a.zones.length:Int)) _ _=_
 cases zLx (a.nodes.length:Int) a.batch a.high (a.zones.length:Int) with
 | true=>rfl
 | false =>
  obtain ⟨r,h1,h2⟩:=zUY (l:=a.nodes) (f:=fun y=>zDI y) (p:=zPZ) (fun x=>rfl) hl a.nodes.length z8 0 (by omega) (by unfold z8; omega)
  unfold zB0 zBJ
  show (((zAE a.nodes (fun y=>zDI y) z8 ((0:Nat):Int)).bind _).bind _)=_
  rw [h1,zAt,zAt,h2]
  rfl
set_option maxRecDepth 100000 in
theorem zW9:zIF=some true:=by kernel_rfl
end Go.Proofs.Ytplkliakhdkpcaa
namespace Go.Proofs.Ytplkliakhdkpcaa
open Go Go.RowKit Go.Wk Go.Am
theorem zUl {s:List Int} {f k:Nat} (hk:k≤4) (hs:f+2 ^ k≤s.length) (hl:s.length=256):∀ (m n i:Nat),i+m=f+2 ^ k→m<n→f≤i→(∀ g,f≤g→g<i→s.getD g 0≠0) →
  zKF s (f:Int) (k:Int) n (i:Int)=some (decide (∀ g,g<2 ^ k→s.getD (f+g) 0≠0)):=by
 intro m
 obtain ⟨e,p1,p2⟩:=zIB (k:=k) (by omega)
 have pn:=zLw (k:=k) (by omega)
 induction m with
 | zero =>
  intro n i h1 h2 h3 h4
  obtain ⟨n,rfl⟩:=ex1 ‹_<n›
  show zHd _ _ _ _ _=_
  unfold zHd
  rw [e,zP (dt (zGb (by omega) (by omega))),zP (zM2 (by omega)),zP (zu (by omega)),zP (zu (by omega)),zf (df (by omega))]
  rw [dt (p := ∀ g,g<2 ^ k→s.getD (f+g) 0≠0) (fun g hg=>h4 (f+g) (by omega) (by omega))]
  rfl
 | succ m ih =>
  intro n i h1 h2 h3 h4
  obtain ⟨n,rfl⟩:=ex1 ‹_<n›
  show zHd _ _ _ _ _=_
  unfold zHd
  have hi:i<s.length:=by omega
  have hg:s.getD i 0=s[i]:=by rw [List.getD_eq_getElem?_getD,List.getElem?_eq_getElem hi]; rfl
  rw [e,zP (dt (zGb (by omega) (by omega))),zP (zM2 (by omega)),zP (zu (by omega)),zP (zu (by omega)),zz (dt (by omega)),zP (zAC hi),zFU hi]
  by_cases hz:s[i]=0
  ·rw [zz (dt hz),df]
   intro hh
   have:=hh (i - f) (by omega)
   rw [show f+(i - f)=i by omega,hg] at this
   exact this hz
  ·rw [zf (df hz),zP (zu (by omega))]
   refine ih n (i+1) (by omega) (by omega) (by omega) (fun g h5 h6 => ?_)
   by_cases hgi:g=i
   ·rw [hgi,hg]; exact hz
   ·exact h4 g h5 (by omega)
theorem zYE {s:List Int} {f k:Nat} (hk:k≤4) (hs:f+2 ^ k≤s.length) (hl:s.length=256):zQZ s (f:Int) (k:Int)=some (decide (∀ g,g<2 ^ k→s.getD (f+g) 0≠0)) :=
 zUl hk hs hl (2 ^ k) z8 f (by omega) (by have:=(zIB (k:=k) (by omega)).2.2; have:=zLw (k:=k) (by omega); unfold z8; omega) (by omega) (fun g h1 h2=>by omega)
def zl (z:zW) (l:List (List Int)):zW:={ z with free:=l }
def zer (l:List Int) (i:Nat):Nat→List Int
 | 0=>l
 | m+1=>zer (l.set i 0) (i+1) m
theorem zTN:∀ (m i:Nat) (l:List Int),(zer l i m).length=l.length
 | 0,_,_=>rfl
 | m+1,i,l=>by unfold zer; rw [zTN]; exact List.length_set ..
theorem zRV (l:List Int) (i g:Nat) (h:i<l.length) (x:Int):(l.set i x).getD g 0=if g=i then x else l.getD g 0:=by
 simp only [List.getD_eq_getElem?_getD,List.getElem?_set]
 by_cases hg:i=g
 ·rw [if_pos hg,if_pos h,if_pos hg.symm]; rfl
 ·rw [if_neg hg,if_neg (fun e=>hg e.symm)]
theorem zTb:∀ (m i:Nat) (l:List Int) (g:Nat),i+m≤l.length→(zer l i m).getD g 0=if i≤g∧g<i+m then 0 else l.getD g 0
 | 0,i,l,g,_=>by rw [if_neg (by omega)]; rfl
 | m+1,i,l,g,h=>by
  unfold zer
  rw [zTb m (i+1) _ g (by rw [List.length_set]; omega),zRV l i g (by omega)]
  by_cases h1:i+1≤g∧g<i+1+m
  ·rw [if_pos h1,if_pos (by omega)]
  ·rw [if_neg h1]
   by_cases h2:g=i
   ·rw [if_pos h2,if_pos (by omega)]
   ·rw [if_neg h2,if_neg (by omega)]
theorem zWu {se:Int→(List (List Int))→(List Int)→Option zW} {k f:Nat} {l:List (List Int)} (hk:k≤4) (h5:l.length=5) (hf:f+2 ^ k≤256):∀ (m n i:Nat) (s:List Int),i+m=f+2 ^ k→m<n→s.length=256 →
  zJa se (k:Int) (f:Int) l n (i:Int) s=zGV se (f:Int) (l.set k (l.getD k []++[(f:Int)])) (zer s i m):=by
 intro m
 obtain ⟨e,p1,p2⟩:=zIB (k:=k) (by omega)
 have pn:=zLw (k:=k) (by omega)
 induction m with
 | zero =>
  intro n i s h1 h2 h3
  obtain ⟨n,rfl⟩:=ex1 ‹_<n›
  show zGS _ _ _ _ _ _ _=_
  unfold zGS
  rw [e,zP (dt (zGb (by omega) (by omega))),zP (zM2 (by omega)),zP (zu (by omega)),zP (zu (by omega)),zf (df (by omega)),zJI h5 (by omega)]
  rfl
 | succ m ih =>
  intro n i s h1 h2 h3
  obtain ⟨n,rfl⟩:=ex1 ‹_<n›
  show zGS _ _ _ _ _ _ _=_
  unfold zGS
  rw [e,zP (dt (zGb (by omega) (by omega))),zP (zM2 (by omega)),zP (zu (by omega)),zP (zu (by omega)),zz (dt (by omega)),zP (zAC (by omega)),zP (zu (by omega))]
  exact ih n (i+1) (s.set i 0) (by omega) (by omega) (by rw [List.length_set]; exact h3)
structure WI (z:zW) (s:List Int) (D:Nat→Int→Prop) (l:List (List Int)) (left:List Int):Prop where
 len:l.length=5
 llen:left.length=256
 srt:∀ k,Srt (lst (zl z l) k)
 ins:∀ k x,x∈lst (zl z l) k→inside z x k=true∧D k x
 dis:∀ k x j y g,x∈lst (zl z l) k→y∈lst (zl z l) j→x≤g→g<x+2 ^ k→y≤g→g<y+2 ^ j→k=j∧x=y
 lft:∀ g:Nat,g<256→(left.getD g 0≠0↔s.getD g 0≠0 ∧ ¬ cov (zl z l) g)
 sub:∀ g,cov (zl z l) g→s.getD g.toNat 0≠0
 max:∀ j x,D j x→j≤4→inside z x j=true → ∃ g,x≤g∧g<x+2 ^ j∧(s.getD g.toNat 0=0 ∨ ∃ i y,j≤i∧y∈lst (zl z l) i∧y≤g∧g<y+2 ^ i)
section
variable {z:zW} {s left left':List Int} {D D':Nat→Int→Prop} {l:List (List Int)} {k:Nat} {f:Int}
theorem WI.mono (h:WI z s D l left) (h1:∀ j x,inside z x j=true→D j x→D' j x) (h2:∀ j x,inside z x j=true→j≤4→D' j x→D j x):WI z s D' l left :=
 ⟨h.len,h.llen,h.srt,fun k x hx=>⟨(h.ins k x hx).1,h1 k x (h.ins k x hx).1 (h.ins k x hx).2⟩,h.dis,h.lft,h.sub,fun j x hd hj hi=>h.max j x (h2 j x hi hj hd) hj hi⟩
theorem WI.skip (h:WI z s D l left) (hr:ranges z=true) (hk:k≤4) (hD:∀ j x,D j x→k≤j) (hn:inside z f k=true → ∃ g,f≤g∧g<f+2 ^ k∧left.getD g.toNat 0=0):WI z s (fun j x=>D j x∨(j=k∧x=f)) l left:=by
 refine ⟨h.len,h.llen,h.srt,fun k x hx=>⟨(h.ins k x hx).1,.inl (h.ins k x hx).2⟩,h.dis,h.lft,h.sub,?_⟩
 rintro j x (hd | ⟨rfl,rfl⟩) hj hi
 ·exact h.max j x hd hj hi
 ·obtain ⟨g,g1,g2,g3⟩:=hn hi
  have hb:=zAO hr hi
  refine ⟨g,g1,g2,?_⟩
  have hl:=h.lft g.toNat (by omega)
  rw [Int.toNat_of_nonneg (by omega)] at hl
  by_cases hs:s.getD g.toNat 0=0
  ·exact .inl hs
  ·have hc:cov (zl z l) g:=by
    refine Classical.byContradiction fun hc => ?_
    exact hl.2 ⟨hs,hc⟩ g3
   obtain ⟨i,y,hy,y1,y2⟩:=hc
   exact .inr ⟨i,y,hD _ _ (h.ins i y hy).2,hy,y1,y2⟩
theorem WI.add (h:WI z s D l left) (hr:ranges z=true) (hk:k≤4) (hi:inside z f k=true) (hD:∀ j x,D j x→k<j∨(j=k∧x<f)) (hall:∀ g:Nat,f≤g→(g:Int)<f+2 ^ k→left.getD g 0≠0)
  (hl':left'.length=256) (hg':∀ g:Nat,left'.getD g 0=if f≤(g:Int)∧(g:Int)<f+2 ^ k then 0 else left.getD g 0):WI z s (fun j x=>D j x∨(j=k∧x=f)) (l.set k (l.getD k []++[f])) left':=by
 have hb:=zAO hr hi
 have hls:∀ j,lst (zl z (l.set k (l.getD k []++[f]))) j=if j=k then lst (zl z l) k++[f] else lst (zl z l) j:=fun j=>zQv (z:=zl z l) h.len (by omega)
 have hm:∀ j y,y∈lst (zl z (l.set k (l.getD k []++[f]))) j↔y∈lst (zl z l) j∨(j=k∧y=f):=by
  intro j y
  rw [hls]
  by_cases hjk:j=k
  ·subst hjk
   rw [if_pos rfl,List.mem_append]
   simp
  ·rw [if_neg hjk]
   simp [hjk]
 have hf:∀ g,f≤g→g<f+2 ^ k→s.getD g.toNat 0≠0 ∧ ¬ cov (zl z l) g:=by
  intro g g1 g2
  have e:((g.toNat:Nat):Int)=g:=Int.toNat_of_nonneg (by omega)
  have:=(h.lft g.toNat (by omega)).1 (hall g.toNat (by omega) (by omega))
  rw [e] at this
  exact this
 have hc:∀ g,cov (zl z (l.set k (l.getD k []++[f]))) g↔cov (zl z l) g∨(f≤g∧g<f+2 ^ k):=by
  intro g
  constructor
  ·rintro ⟨j,y,hy,h1,h2⟩
   rcases (hm j y).1 hy with hy | ⟨rfl,rfl⟩
   ·exact .inl ⟨j,y,hy,h1,h2⟩
   ·exact .inr ⟨h1,h2⟩
  ·rintro (⟨j,y,hy,h1,h2⟩ | ⟨h1,h2⟩)
   ·exact ⟨j,y,(hm j y).2 (.inl hy),h1,h2⟩
   ·exact ⟨k,f,(hm k f).2 (.inr ⟨rfl,rfl⟩),h1,h2⟩
 refine ⟨by simpa using h.len,hl',fun j => ?_,fun j y hy => ?_,fun j y i u g hy hu h1 h2 h3 h4 => ?_,fun g hg => ?_,fun g hg => ?_,fun j x hd hj hij => ?_⟩
 ·rw [hls]
  split
  ·refine List.pairwise_append.2 ⟨h.srt k,List.pairwise_singleton .., fun a ha b hb' => ?_⟩
   simp only [List.mem_singleton] at hb'
   subst hb'
   rcases hD _ _ (h.ins k a ha).2 with hq | hq <;> omega
  ·exact h.srt j
 ·rcases (hm j y).1 hy with hy | ⟨rfl,rfl⟩
  ·exact ⟨(h.ins j y hy).1,.inl (h.ins j y hy).2⟩
  ·exact ⟨hi,.inr ⟨rfl,rfl⟩⟩
 ·rcases (hm j y).1 hy with hy' | ⟨e1,e2⟩
  ·rcases (hm i u).1 hu with hu' | ⟨e3,e4⟩
   ·exact h.dis j y i u g hy' hu' h1 h2 h3 h4
   ·rw [e4] at h3 h4
    rw [e3] at h4
    exact absurd ⟨j,y,hy',h1,h2⟩ (hf g h3 h4).2
  ·rw [e2] at h1 h2
   rw [e1] at h2
   rcases (hm i u).1 hu with hu' | ⟨e3,e4⟩
   ·exact absurd ⟨i,u,hu',h3,h4⟩ (hf g h1 h2).2
   ·exact ⟨e1.trans e3.symm,e2.trans e4.symm⟩
 ·rw [hg',hc]
  by_cases hq:f≤(g:Int)∧(g:Int)<f+2 ^ k
  ·rw [if_pos hq]
   simp [hq]
  ·rw [if_neg hq,h.lft g hg]
   simp only [hq,or_false]
 ·rcases (hc g).1 hg with hg | hg
  ·exact h.sub g hg
  ·exact (hf g hg.1 hg.2).1
 ·rcases hd with hd | ⟨rfl,rfl⟩
  ·obtain ⟨g,g1,g2,g3⟩:=h.max j x hd hj hij
   refine ⟨g,g1,g2,g3.imp id ?_⟩
   rintro ⟨i,y,hy,hy2,hy3⟩
   exact ⟨i,y,hy,(hm i y).2 (.inl hy2),hy3⟩
  ·have hp:=zGI j
   exact ⟨x,Int.le_refl _,by omega,.inr ⟨j,x,Nat.le_refl _,(hm j x).2 (.inr ⟨rfl,rfl⟩),Int.le_refl _,by omega⟩⟩
theorem WI.len' (h:WI z s D l left) (hr:ranges z=true) (k:Nat):(lst (zl z l) k).length≤256:=by
 refine zRG (h.srt k) (fun f hf => ?_)
 have:=zAO hr (h.ins k f hf).1
 have:=zGI k
 omega
theorem WI.ok (h:WI z s (fun _ _=>True) l left) (hr:ranges z=true):OkZ (zl z l) ∧ ∀ g,cov (zl z l) g↔z.start≤g∧g<z.start+z.count∧s.getD g.toNat 0≠0:=by
 refine ⟨⟨hr,h.len,h.srt,fun k x hx=>(h.ins k x hx).1,h.dis,fun k x hk hx hb => ?_⟩,fun g=>⟨fun hg => ?_,fun hg => ?_⟩⟩
 ·refine Bool.eq_false_iff.2 fun hi => ?_
  have hbx:=zAO hr (h.ins k x hx).1
  have hax:=(zAr hr).1 (h.ins k x hx).1
  have hp:=zGI k
  have hps:=zI9 k
  obtain ⟨g,g1,g2,g3⟩:=h.max (k+1) _ trivial (by omega) hi
  have hcov:(x≤g∧g<x+2 ^ k)∨(bud x k≤g∧g<bud x k+2 ^ k):=by
   clear g3
   rcases zMw hk hbx.1 (by omega) hax.2.1 with ⟨_,e⟩ | ⟨_,e⟩ <;> rw [e] at g1 g2 ⊢ <;> omega
  have hno:∀ y,y∈lst (zl z l) k→y≤g→g<y+2 ^ k→False:=by
   intro y hy y1 y2
   rcases g3 with g3 | ⟨i,u,hu,hu1,hu2,hu3⟩
   ·exact h.sub g ⟨k,y,hy,y1,y2⟩ g3
   ·have:=(h.dis k y i u g hy hu1 y1 y2 hu2 hu3).1
    omega
  rcases hcov with hq | hq
  ·exact hno x hx hq.1 hq.2
  ·exact hno _ hb hq.1 hq.2
 ·obtain ⟨k,x,hx,h1,h2⟩:=hg
  have:=zAO hr (h.ins k x hx).1
  exact ⟨by omega,by omega,h.sub g ⟨k,x,hx,h1,h2⟩⟩
 ·have hb:=zAx hr
  obtain ⟨g',g1,g2,g3⟩:=h.max 0 g trivial (by omega) ((zAr hr).2 (by rw [pw0]; omega))
  rw [pw0] at g2
  have e:g'=g:=by omega
  subst e
  rcases g3 with g3 | ⟨i,y,_,hy,hy2,hy3⟩
  ·exact absurd g3 hg.2.2
  ·exact ⟨i,y,hy,hy2,hy3⟩
end
section
variable {z:zW} {s:List Int}
def Nx (z:zW) (s:List Int) (k:Nat) (se:Int→(List (List Int))→(List Int)→Option zW):Prop :=
 ∀ l left,WI z s (fun j _=>k≤j) l left → ∃ l',se ((k:Int) - 1) l left=some (zl z l') ∧ ∃ left',WI z s (fun _ _=>True) l' left'
theorem zV7 (hr:ranges z=true) {k:Nat} {se:Int→(List (List Int))→(List Int)→Option zW} (hk:k≤4) (hn:Nx z s k se):∀ (m n f:Nat) (l:List (List Int)) (left:List Int),(f:Int)+m=z.start+z.count→m<n→z.start≤f →
  WI z s (fun j x=>k<j∨(j=k∧x<f)) l left → ∃ l',zH2 se z (k:Int) n (f:Int) l left=some (zl z l') ∧ ∃ left',WI z s (fun _ _=>True) l' left':=by
 have hb:=zAx hr
 intro m
 induction m with
 | zero =>
  intro n f l left h1 h2 h3 h
  obtain ⟨n,rfl⟩:=ex1 ‹_<n›
  show ∃ l',zGe _ _ _ _ _ _ _=_∧_
  unfold zGe
  rw [zP (zu (by omega)),zf (df (by omega))]
  unfold zL1
  rw [zP (zu (by omega))]
  refine hn l left (h.mono (fun j x _ hd=>by rcases hd with hd | hd <;> omega) (fun j x hi _ hd => ?_))
  have:=zAO hr hi
  have:=zGI j
  have hd:k≤j:=hd
  by_cases hjk:j=k
  ·exact .inr ⟨hjk,by omega⟩
  ·exact .inl (by omega)
 | succ m ih =>
  intro n f l left h1 h2 h3 h
  obtain ⟨n,rfl⟩:=ex1 ‹_<n›
  obtain ⟨e,p1,p2⟩:=zIB (k:=k) (by omega)
  have pn:=zLw (k:=k) (by omega)
  have hstep:∀ l2 left2,WI z s (fun j x=>(k<j∨(j=k∧x<f))∨(j=k∧x=f)) l2 left2 → ∃ l',zGV (zH2 se z (k:Int) n) (f:Int) l2 left2=some (zl z l') ∧ ∃ left',WI z s (fun _ _=>True) l' left':=by
   intro l2 left2 hw
   unfold zGV
   rw [zP (zu (by omega))]
   exact ih n (f+1) l2 left2 (by omega) (by omega) (by omega) (hw.mono (fun j x _ hd=>by omega) (fun j x _ _ hd=>by omega))
  show ∃ l',zGe _ _ _ _ _ _ _=_∧_
  unfold zGe
  rw [zP (zu (by omega)),zz (dt (by omega)),zRw hr hk h3 (by omega),zAt]
  by_cases hi:inside z f k=true
  ·have hbi:=zAO hr hi
   rw [hi,zz rfl,zYE hk (by rw [h.llen]; omega) h.llen,zAt]
   by_cases ha:∀ g,g<2 ^ k→left.getD (f+g) 0≠0
   ·have hlen:(l.getD (k:Int).toNat []).length≤256:=h.len' hr k
    rw [dt ha,Bool.and_true,zz rfl,zP (zAC (by omega)),zP (dt (by omega)),zP (dt (by show (_+1)*8≤4294967296; omega)),zWu hk h.len (by omega) (2 ^ k) z8 f left (by omega) (by unfold z8; omega) h.llen]
    refine hstep _ _ (h.add hr hk hi (fun j x hd=>hd) (fun g g1 g2 => ?_) (by rw [zTN]; exact h.llen) (fun g => ?_))
    ·have:=ha (g - f) (by omega)
     rw [show f+(g - f)=g by omega] at this
     exact this
    ·rw [zTb (2 ^ k) f left g (by rw [h.llen]; omega)]
     by_cases hq:f≤g∧g<f+2 ^ k
     ·rw [if_pos hq,if_pos (by omega)]
     ·rw [if_neg hq,if_neg (by omega)]
   ·rw [df ha,Bool.and_false,zf rfl]
    refine hstep _ _ (h.skip hr hk (fun j x hd=>by omega) (fun _ => ?_))
    refine Classical.byContradiction fun hno=>ha (fun g hg hz=>hno ⟨((f+g:Nat):Int),by omega,by omega,?_⟩)
    rw [Int.toNat_natCast]
    exact hz
  ·have hi':=Bool.eq_false_iff.2 hi
   rw [hi',zf rfl,zAt,Bool.false_and,zf rfl]
   exact hstep _ _ (h.skip hr hk (fun j x hd=>by omega) (fun hq=>absurd hq hi))
theorem zWk (hr:ranges z=true):∀ (q n:Nat) (l:List (List Int)) (left:List Int),q≤5→q<n→WI z s (fun j _=>q≤j) l left →
  ∃ l',zH3 z n ((q:Int) - 1) l left=some (zl z l') ∧ ∃ left',WI z s (fun _ _=>True) l' left':=by
 have hb:=zAx hr
 intro q
 induction q with
 | zero =>
  intro n l left hq hn h
  obtain ⟨n,rfl⟩:=ex1 ‹_<n›
  show ∃ l',zGl _ _ _ _ _=_∧_
  unfold zGl
  rw [zf (df (by omega))]
  exact ⟨l,rfl,left,h.mono (fun _ _ _ _=>trivial) (fun j x _ _ _=>Nat.zero_le j)⟩
 | succ q ih =>
  intro n l left hq hn h
  obtain ⟨n,rfl⟩:=ex1 ‹_<n›
  show ∃ l',zGl _ _ _ _ _=_∧_
  unfold zGl
  obtain ⟨st,hst⟩:=Int.eq_ofNat_of_zero_le hb.2.2.2.1
  rw [show (((q+1:Nat):Int) - 1)=(q:Int) by omega,zz (dt (by omega))]
  have:=zV7 (s:=s) (k:=q) (se:=zH3 z n) hr (by omega) (fun l2 left2 h2=>ih n l2 left2 (by omega) (by omega) h2) z.count.toNat z8 st l left (by omega) (by unfold z8; omega) (by omega)
   (h.mono (fun j x _ hd => .inl hd) (fun j x hi _ hd=>by
    have:=zAO hr hi
    show q+1≤j
    omega))
  rw [← hst] at this
  exact this
theorem zWW {s:List Int} (hs:s.length=256):∀ (m n i:Nat) (l:List Int),i+m=256→m<n→l.length=256→(∀ g:Nat,g<i→l.getD g 0=s.getD g 0)→zJh z s n (i:Int) l=zJu z s:=by
 intro m
 induction m with
 | zero =>
  intro n i l h1 h2 h3 h4
  obtain ⟨n,rfl⟩:=ex1 ‹_<n›
  show zGT _ _ _ _ _=_
  unfold zGT
  rw [zf (df (by omega))]
  congr 1
  apply List.ext_getElem?
  intro g
  rcases Nat.lt_or_ge g 256 with hg | hg
  ·have:=h4 g (by omega)
   rw [List.getD_eq_getElem?_getD,List.getD_eq_getElem?_getD,List.getElem?_eq_getElem (by omega),List.getElem?_eq_getElem (by omega)] at this
   rw [List.getElem?_eq_getElem (by omega),List.getElem?_eq_getElem (by omega)]
   exact congrArg some this
  ·rw [List.getElem?_eq_none (by omega),List.getElem?_eq_none (by omega)]
 | succ m ih =>
  intro n i l h1 h2 h3 h4
  obtain ⟨n,rfl⟩:=ex1 ‹_<n›
  show zGT _ _ _ _ _=_
  unfold zGT
  have hi:i<s.length:=by omega
  rw [zz (dt (by omega)),zP (zAC hi),zP (zAC (by omega)),zP (zu (by omega)),zFU hi]
  refine ih n (i+1) _ (by omega) (by omega) (by rw [List.length_set]; exact h3) (fun g hg => ?_)
  rw [Int.toNat_natCast,zRV _ _ _ (by omega)]
  by_cases hgi:g=i
  ·rw [if_pos hgi,hgi,List.getD_eq_getElem?_getD,List.getElem?_eq_getElem hi]
   rfl
  ·rw [if_neg hgi]
   exact h4 g (by omega)
theorem zWb (hr:ranges z=true) (hs:s.length=256):∃ y,zEs z s=some y∧OkZ y∧zEa y z ∧ ∀ g,cov y g↔z.start≤g∧g<z.start+z.count∧s.getD g.toNat 0≠0:=by
 unfold zEs
 rw [zP (by rw [hs]; rfl),z0i,zWW hs 256 z8 0 _ (by omega) (by unfold z8; omega) (by rw [List.length_replicate,hs]; rfl) (fun g hg=>by omega)]
 unfold zJu
 have he:=zOB (z:=zl z (List.replicate 5 [])) hr rfl
 obtain ⟨l',e,left',hw⟩:=zWk (s:=s) hr 5 z8 (List.replicate 5 []) s (by omega) (by unfold z8; omega)
  ⟨rfl,hs,he.1.srt,fun k x hx=>absurd (show x∈[] from (zQK (z:=zl z (List.replicate 5 [])) rfl k)▸hx) (by simp),he.1.dis,fun g hg=>⟨fun h=>⟨h,he.2 g⟩,fun h=>h.1⟩,fun g hg=>absurd hg (he.2 g),fun j x hd hj _=>by exact absurd (show 5≤j from hd) (by omega)⟩
 have ho:=hw.ok hr
 exact ⟨zl z l',e,ho.1,⟨rfl,rfl,rfl,rfl,rfl⟩,ho.2⟩
theorem zQr {y:zW} (hs:s.length=256) (ho:OkZ y) (hy:zEa y z) (hc:∀ g,cov y g↔z.start≤g∧g<z.start+z.count∧s.getD g.toNat 0≠0):zEs z s=some y:=by
 have hr:ranges z=true:=by rw [← hy.ranges]; exact ho.ranges
 obtain ⟨x,e,h1,h2,h3⟩:=zWb hr hs
 have hxy:zEa x y:=h2.trans ⟨hy.1.symm,hy.2.1.symm,hy.2.2.1.symm,hy.2.2.2.1.symm,hy.2.2.2.2.symm⟩
 rw [e,h1.ext ho hxy.1 hxy.2.1 hxy.2.2.1 hxy.2.2.2.1 hxy.2.2.2.2 (fun f=>by rw [h3,hc])]
end
end Go.Proofs.Ytplkliakhdkpcaa
namespace Go.Proofs.Ytplkliakhdkpcaa
open Go Go.RowKit Go.Wk Go.Am
end Go.Proofs.Ytplkliakhdkpcaa
namespace Go.Proofs.Ytplkliakhdkpcaa
open Go Go.RowKit Go.Am
def geP:Option Int→Int→Bool
 | some q,f=>decide (f≤q)
 | none,_=>false
def zKB (z:zW) (k:Nat):Option Int→List Int→Int
 | _,[]=>0
 | p,f::r=>if inside z f k=false then 3 else if geP p f=true then 10 else zKB z k (some f) r
def zEh (z:zW):Nat→List (List Int)→Int
 | _,[]=>0
 | k,l::r=>if zKB z k none l=0 then zEh z (k+1) r else zKB z k none l
def zMV (s:List Bool) (i:Nat):Nat→Option (List Bool)
 | 0=>some s
 | n+1=>if s.getD i false=true then none else zMV (s.set i true) (i+1) n
def zMc (k:Nat):List Bool→List Int→Option (List Bool)
 | s,[]=>some s
 | s,f::r=>match zMV s f.toNat (2 ^ k) with
  | none=>none
  | some s'=>zMc k s' r
def zHr:Nat→List Bool→List (List Int)→Option (List Bool)
 | _,s,[]=>some s
 | k,s,l::r=>match zMc k s l with
  | none=>none
  | some s'=>zHr (k+1) s' r
def zQq (z:zW) (k:Nat) (l0:List Int):List Int→Bool
 | []=>false
 | f::r=>if (decide (bud f k∈l0)&&inside z (min f (bud f k)) (k+1))=true then true else zQq z k l0 r
def zMY (z:zW):Nat→List (List Int)→Bool
 | _,[]=>false
 | k,l::r=>if zQq z k l l=true then true else zMY z (k+1) r
def zEv:List Bool:=List.replicate 256 false
theorem zJm:zEv.length=256:=List.length_replicate
def zEw (z:zW):Int :=
 if ranges z=false then 2 else if zEh z 0 z.free=0 then
  (if zHr 0 zEv z.free=none then 7 else if zMY z 0 (z.free.take 4)=true then 11 else 0)
 else zEh z 0 z.free
theorem zS2 {z:zW} {k:Nat}:∀ {l:List Int} {p:Option Int},zKB z k p l=0→(∀ f,f∈l→inside z f k=true)∧Srt l∧(∀ q f,p=some q→f∈l→q<f):=by
 intro l
 induction l with
 | nil=>intro p _; exact ⟨fun f hf=>by simp at hf,Srt.nil,fun q f _ hf=>by simp at hf⟩
 | cons a l ih =>
  intro p h
  unfold zKB at h
  split at h
  ·cases h
  ·rename_i h1
   split at h
   ·cases h
   ·rename_i h2
    obtain ⟨i1,i2,i3⟩:=ih h
    have ha:inside z a k=true:=by simpa using h1
    refine ⟨fun f hf => ?_,List.pairwise_cons.2 ⟨fun f hf=>i3 a f rfl hf,i2⟩,fun q f hq hf => ?_⟩
    ·rcases List.mem_cons.1 hf with rfl | hf
     ·exact ha
     ·exact i1 f hf
    ·subst hq
     have h2:q<a:=by simpa [geP] using h2
     rcases List.mem_cons.1 hf with rfl | hf
     ·exact h2
     ·have:=i3 a f rfl hf; omega
theorem zU1 {z:zW}:∀ {ls:List (List Int)} {k:Nat},zEh z k ls=0 → ∀ (j:Nat) (l:List Int),ls[j]?=some l→(∀ f,f∈l→inside z f (k+j)=true)∧Srt l:=by
 intro ls
 induction ls with
 | nil=>intro k _ j l hl; simp at hl
 | cons a ls ih =>
  intro k h j l hl
  unfold zEh at h
  split at h
  ·rename_i h0
   cases j with
   | zero =>
    simp at hl; subst hl
    exact ⟨(zS2 h0).1,(zS2 h0).2.1⟩
   | succ j =>
    have:=ih h j l (by simpa using hl)
    rw [show k+(j+1)=k+1+j by omega]
    exact this
  ·rename_i h0; exact absurd h h0
theorem zFI {z:zW} (h:zEw z=0):ranges z=true:=by
 unfold zEw at h
 split at h
 ·cases h
 ·rename_i h1; simpa using h1
def zK2 (l:List Int) (i:Nat):Option Int:=if i=0 then none else l[i - 1]?
section
variable {z:zW} {k i:Nat} {l:List Int} {x y:Int}
theorem zPp (hI:zKB z k none l=zKB z k (zK2 l i) (l.drop i)) (hx:l[i]?=some x) (h:inside z x k=false):zKB z k none l=3:=by
 obtain ⟨h1,h2⟩:=List.getElem?_eq_some_iff.1 hx
 rw [hI,List.drop_eq_getElem_cons h1,h2]
 unfold zKB
 simp [h]
theorem zLp (hI:zKB z k none l=zKB z k (zK2 l i) (l.drop i)) (hx:l[i]?=some x) (h:inside z x k=true) (hg:geP (zK2 l i) x=false):zKB z k none l=zKB z k (zK2 l (i+1)) (l.drop (i+1)):=by
 obtain ⟨h1,h2⟩:=List.getElem?_eq_some_iff.1 hx
 rw [hI,List.drop_eq_getElem_cons h1,h2]
 conv=>lhs; unfold zKB
 have:zK2 l (i+1)=some x:=by unfold zK2; simpa using hx
 simp [h,hg,this]
theorem zYF (h:¬ 0<i):geP (zK2 l i) x=false:=by
 have:i=0:=by omega
 subst this
 rfl
theorem zYA (h:0<i) (hy:l[((i:Int) - 1).toNat]?=some y):geP (zK2 l i) x=decide (x≤y):=by
 have e:((i:Int) - 1).toNat=i - 1:=by omega
 rw [e] at hy
 unfold zK2
 rw [if_neg (by omega),hy]
 rfl
theorem zOq (hI:zKB z k none l=zKB z k (zK2 l i) (l.drop i)) (hx:l[i]?=some x) (h:inside z x k=true) (hg:geP (zK2 l i) x=true):zKB z k none l=10:=by
 obtain ⟨h1,h2⟩:=List.getElem?_eq_some_iff.1 hx
 rw [hI,List.drop_eq_getElem_cons h1,h2]
 unfold zKB
 simp [h,hg]
theorem zRR (hI:zKB z k none l=zKB z k (zK2 l i) (l.drop i)) (h:l.length≤i):zKB z k none l=0:=by
 rw [hI,List.drop_eq_nil_of_le h]
 rfl
theorem zOy (hR:zEh z 0 z.free=zEh z k (z.free.drop k)) (hl:z.free[k]?=some l) (e:zKB z k none l=0):zEh z 0 z.free=zEh z (k+1) (z.free.drop (k+1)):=by
 obtain ⟨h1,h2⟩:=List.getElem?_eq_some_iff.1 hl
 rw [hR,List.drop_eq_getElem_cons h1,h2]
 conv=>lhs; unfold zEh
 simp [e]
theorem zPl (hR:zEh z 0 z.free=zEh z k (z.free.drop k)) (h:z.free.length≤k):zEh z 0 z.free=0:=by
 rw [hR,List.drop_eq_nil_of_le h]
 rfl
variable {s s0 s1:List Bool} {m n:Nat}
variable {ls:List (List Int)}
variable {l0:List Int}
theorem zLl {β:Type} {l:List β} {i m:Nat} {x:β} (h:l[i]?=some x) (hm:i<m):(l.take m)[i]?=some x:=by
 rw [List.getElem?_take,if_pos hm]; exact h
end
def zPV (k:Nat):List (List Int)→Int
 | []=>0
 | l::r=>(l.length:Int)*2 ^ k+zPV (k+1) r
end Go.Proofs.Ytplkliakhdkpcaa
namespace Go.Proofs.Ytplkliakhdkpcaa
open Go Go.RowKit Go.Wk Go.Am
structure Zk (z:zW):Prop where
 len:z.free.length=5
 bd:∀ k,(lst z k).length≤1000000
section
variable {z:zW} {k:Nat} {l:List Int}
theorem Zk.get (h:Zk z) (hk:k<5):z.free[k]?=some (lst z k):=zJj h.len hk
theorem zRf {i:Nat} (h:i<l.length):l[i]?=some (at_ l (i:Int)):=by rw [zFU h,List.getElem?_eq_getElem h]
theorem zPw {i:Nat} (h0:0<i):(i:Int) - 1=((i - 1:Nat):Int):=by omega
theorem cl6 {se:Int→Option Int} (hz:Zk z) (hr:ranges z=true) (hk:k<5) (hl:lst z k=l):∀ (m n i:Nat),i+m=l.length→m<n→zKB z k none l=zKB z k (zK2 l i) (l.drop i) →
  zFg se z (k:Int) n (i:Int)=if zKB z k none l=0 then se ((k+1:Nat):Int) else some (zKB z k none l):=by
 have hb:l.length≤1000000:=by rw [← hl]; exact hz.bd k
 have e:z.free.getD (k:Int).toNat []=l:=hl
 intro m
 induction m with
 | zero =>
  intro n i h1 h2 hI
  obtain ⟨n,rfl⟩:=ex1 ‹_<n›
  show zDv _ _ _ _ _=_
  unfold zDv zHD
  rw [e,zf (df (by omega)),zP (zu (by omega)),if_pos (zRR hI (by omega))]
  rfl
 | succ m ih =>
  intro n i h1 h2 hI
  obtain ⟨n,rfl⟩:=ex1 ‹_<n›
  have hi:i<l.length:=by omega
  have hx:=zRf hi
  show zDv _ _ _ _ _=_
  unfold zDv
  rw [e,zz (dt (by omega)),zP (zAC hi),zJU hr (by omega),zAt]
  generalize at_ l (i:Int)=x at *
  cases hin:inside z x k with
  | false =>
   rw [Bool.not_false,zz rfl,zPp hI hx hin]
   rfl
  | true =>
   rw [Bool.not_true,zf rfl]
   by_cases h0:0<i
   ·rw [zP (zMv (zu (by omega))),zPw h0,zP (zMv (zAC (by omega))),dt (p:=0<(i:Int)) (by omega),Bool.true_and]
    have hy:=zRf (l:=l) (i:=i - 1) (by omega)
    have hg:geP (zK2 l i) x=decide (x≤at_ l ((i - 1:Nat):Int)):=zYA h0 (by rw [zPw h0,Int.toNat_natCast]; exact hy)
    by_cases hle:x≤at_ l ((i - 1:Nat):Int)
    ·rw [zz (dt hle),zOq hI hx hin (by rw [hg,dt hle])]
     rfl
    ·rw [zf (df hle),zP (zu (by omega))]
     exact ih n (i+1) (by omega) (by omega) (zLp hI hx hin (by rw [hg,df hle]))
   ·rw [df (p:=0<(i:Int)) (by omega)]
    refine (zP (by rfl)).trans ((zP (by rfl)).trans ((zf (by rfl)).trans ?_))
    rw [zP (zu (by omega))]
    exact ih n (i+1) (by omega) (by omega) (zLp hI hx hin (zYF h0))
theorem cl5 (hz:Zk z) (hr:ranges z=true):∀ (m n k:Nat),k+m=5→m<n→zEh z 0 z.free=zEh z k (z.free.drop k) →
  zCb z n (k:Int)=if zEh z 0 z.free=0 then zFz z else some (zEh z 0 z.free):=by
 intro m
 induction m with
 | zero =>
  intro n k h1 h2 hR
  obtain ⟨n,rfl⟩:=ex1 ‹_<n›
  show zD2 _ _ _=_
  unfold zD2
  rw [zf (df (by omega)),if_pos (zPl hR (by rw [hz.len]; omega))]
 | succ m ih =>
  intro n k h1 h2 hR
  obtain ⟨n,rfl⟩:=ex1 ‹_<n›
  show zD2 _ _ _=_
  unfold zD2
  have hb:=hz.bd k
  have hg:=hz.get (k:=k) (by omega)
  rw [zz (dt (by omega)),zP (zAC (by omega)),z0i,cl6 hz hr (by omega) rfl (lst z k).length z8 0 (by omega) (by unfold z8; omega) rfl]
  by_cases h0:zKB z k none (lst z k)=0
  ·rw [if_pos h0]
   exact ih n (k+1) (by omega) (by omega) (zOy hR hg h0)
  ·rw [if_neg h0]
   have hc:zEh z 0 z.free=zKB z k none (lst z k):=by
    obtain ⟨a1,a2⟩:=List.getElem?_eq_some_iff.1 hg
    rw [hR,List.drop_eq_getElem_cons a1,a2]
    unfold zEh
    rw [if_neg h0]
   rw [if_neg (by rw [hc]; exact h0),hc]
theorem zXy {l:List Bool} {n i:Nat} (hl:l.length=n) (hi:i<n) (x:Bool):zEF n false l i x=l.set i x:=by
 unfold zEF
 apply List.ext_getElem?
 intro j
 rw [List.getElem?_map,List.getElem?_set]
 by_cases hj:j<n
 ·rw [List.getElem?_range hj]
  by_cases hij:i=j
  ·subst hij
   rw [if_pos rfl,if_pos (by omega)]
   simp
  ·rw [if_neg hij,List.getElem?_eq_getElem (by omega)]
   simp [show ¬ j=i from fun e=>hij e.symm,List.getElem?_eq_getElem (show j<l.length by omega)]
 ·rw [List.getElem?_eq_none (by simp; omega)]
  by_cases hij:i=j
  ·omega
  ·rw [if_neg hij,List.getElem?_eq_none (by omega)]
   rfl
theorem zNg:∀ {m f:Nat} {d d':List Bool},zMV d f m=some d'→d'.length=d.length
 | 0,_,_,_,h=>by unfold zMV at h; cases h; rfl
 | m+1,f,d,d',h=>by
  unfold zMV at h
  split at h
  ·cases h
  ·rw [zNg h,List.length_set]
theorem cl4 {se:Int→List Bool→Option Int} {i:Nat} {x:Int} (hk:k<5) (hx:at_ (lst z k) (i:Int)=x) (h0:0≤x) (h1:x+2 ^ k≤256) (hi:i<1000000):∀ (m n f:Nat) (d:List Bool),(f:Int)+m=x+2 ^ k→m<n→d.length=256 →
  zF2 se z (k:Int) (i:Int) n (f:Int) d=match zMV d f m with | none=>some 7 | some d'=>se ((i+1:Nat):Int) d':=by
 obtain ⟨e,p1,p2⟩:=zIB (k:=k) (by omega)
 have ex:at_ (z.free.getD (k:Int).toNat []) (i:Int)=x:=hx
 intro m
 induction m with
 | zero =>
  intro n f d h2 h3 h4
  obtain ⟨n,rfl⟩:=ex1 ‹_<n›
  show zDx _ _ _ _ _ _ _=_
  unfold zDx zHF
  rw [e,ex,zP (zM2 (by omega)),zP (zu (by omega)),zP (zu (by omega)),zf (df (by omega)),zP (zu (by omega))]
  rfl
 | succ m ih =>
  intro n f d h2 h3 h4
  obtain ⟨n,rfl⟩:=ex1 ‹_<n›
  show zDx _ _ _ _ _ _ _=_
  unfold zDx
  rw [e,ex,zP (zM2 (by omega)),zP (zu (by omega)),zP (zu (by omega)),zz (dt (by omega)),zP (zAC (by omega))]
  have ed:d.getD (f:Int).toNat false=d.getD f false:=rfl
  unfold zMV
  cases hd:d.getD f false with
  | true=>rw [ed,hd,zz rfl,if_pos rfl]
  | false =>
   rw [ed,hd,zf rfl,if_neg (by simp),zP (zu (by omega)),zXy h4 (by omega)]
   exact ih n (f+1) (d.set f true) (by omega) (by omega) (by rw [List.length_set]; exact h4)
theorem cl3 {se:Int→List Bool→Option Int} (hz:Zk z) (hr:ranges z=true) (hk:k<5) (hl:lst z k=l) (hin:∀ f,f∈l→inside z f k=true):∀ (m n i:Nat) (d:List Bool),i+m=l.length→m<n→d.length=256 →
  zB2 se z (k:Int) n (i:Int) d=match zMc k d (l.drop i) with | none=>some 7 | some d'=>se ((k+1:Nat):Int) d':=by
 have hb:l.length≤1000000:=by rw [← hl]; exact hz.bd k
 have e:z.free.getD (k:Int).toNat []=l:=hl
 obtain ⟨e2,p1,p2⟩:=zIB (k:=k) (by omega)
 have pn:=zLw (k:=k) (by omega)
 intro m
 induction m with
 | zero =>
  intro n i d h1 h2 h3
  obtain ⟨n,rfl⟩:=ex1 ‹_<n›
  show zD9 _ _ _ _ _ _=_
  unfold zD9 zHE
  rw [e,zf (df (by omega)),zP (zu (by omega)),List.drop_eq_nil_of_le (by omega)]
  rfl
 | succ m ih =>
  intro n i d h1 h2 h3
  obtain ⟨n,rfl⟩:=ex1 ‹_<n›
  have hi:i<l.length:=by omega
  show zD9 _ _ _ _ _ _=_
  unfold zD9
  have hbd:=zAO hr (hin _ (List.getElem_mem hi))
  have ha:at_ (lst z k) (i:Int)=l[i]:=by rw [hl]; exact zFU hi
  obtain ⟨f,hf⟩:=Int.eq_ofNat_of_zero_le hbd.1
  rw [e,zz (dt (by omega)),zP (zAC hi),zFU hi,List.drop_eq_getElem_cons hi]
  have hc:=cl4 (se:=zB2 se z (k:Int) n) hk ha hbd.1 hbd.2.1 (by omega) (2 ^ k) z8 f d (by omega) (by unfold z8; omega) h3
  unfold zMc
  rw [hf,hc,show ((f:Int)).toNat=f from rfl]
  cases hm:zMV d f (2 ^ k) with
  | none=>rfl
  | some d'=>exact ih n (i+1) d' (by omega) (by omega) (by rw [zNg hm]; exact h3)
theorem zPs:∀ {l:List Int} {k:Nat} {d d':List Bool},zMc k d l=some d'→d'.length=d.length
 | [],_,_,_,h=>by unfold zMc at h; cases h; rfl
 | x::l,k,d,d',h=>by
  unfold zMc at h
  split at h
  ·cases h
  ·rename_i q hq
   rw [zPs h,zNg hq]
theorem cl2 (hz:Zk z) (hr:ranges z=true) (hin:∀ k,k<5 → ∀ f,f∈lst z k→inside z f k=true):∀ (m n k:Nat) (d:List Bool),k+m=5→m<n→d.length=256 →
  zBK z n (k:Int) d=match zHr k d (z.free.drop k) with | none=>some 7 | some _=>zDw z:=by
 intro m
 induction m with
 | zero =>
  intro n k d h1 h2 h3
  obtain ⟨n,rfl⟩:=ex1 ‹_<n›
  show zEA _ _ _ _=_
  unfold zEA
  rw [zf (df (by omega)),List.drop_eq_nil_of_le (by rw [hz.len]; omega)]
  rfl
 | succ m ih =>
  intro n k d h1 h2 h3
  obtain ⟨n,rfl⟩:=ex1 ‹_<n›
  show zEA _ _ _ _=_
  unfold zEA
  have hb:=hz.bd k
  obtain ⟨a1,a2⟩:=List.getElem?_eq_some_iff.1 (hz.get (k:=k) (by omega))
  rw [zz (dt (by omega)),zP (zAC (by omega)),z0i,cl3 hz hr (by omega) rfl (hin k (by omega)) (lst z k).length z8 0 d (by omega) (by unfold z8; omega) h3,List.drop_eq_getElem_cons a1,a2]
  conv=>rhs; unfold zHr
  rw [List.drop_zero]
  cases hm:zMc k d (lst z k) with
  | none=>rfl
  | some d'=>exact ih n (k+1) d' (by omega) (by omega) (by rw [zPs hm]; exact h3)
theorem cl1 {se:Int→Option Int} (hz:Zk z) (hr:ranges z=true) (hk:k<4) (hl:lst z k=l) (hin:∀ f,f∈l→inside z f k=true) (hs:Srt l):∀ (m n i:Nat),i+m=l.length→m<n →
  zFy se z (k:Int) n (i:Int)=if zQq z k l (l.drop i)=true then some 11 else se ((k+1:Nat):Int):=by
 have hb:l.length≤1000000:=by rw [← hl]; exact hz.bd k
 have e:z.free.getD (k:Int).toNat []=l:=hl
 obtain ⟨e2,p1,p2⟩:=zIB (k:=k) (by omega)
 intro m
 induction m with
 | zero =>
  intro n i h1 h2
  obtain ⟨n,rfl⟩:=ex1 ‹_<n›
  show zD5 _ _ _ _ _=_
  unfold zD5 zHK
  rw [e,zf (df (by omega)),zP (zu (by omega)),List.drop_eq_nil_of_le (by omega)]
  rfl
 | succ m ih =>
  intro n i h1 h2
  obtain ⟨n,rfl⟩:=ex1 ‹_<n›
  have hi:i<l.length:=by omega
  show zD5 _ _ _ _ _=_
  unfold zD5
  have hbd:=zAO hr (hin _ (List.getElem_mem hi))
  rw [e,e2,zz (dt (by omega)),zP (zAC hi),zP (zM2 (by omega)),zP (zu (by omega)),zP (zAC (by omega)),zFU hi,List.drop_eq_getElem_cons hi,zVY hbd.1 (by omega) hk,zPz hs hb,zAt,zP (zMv (zu (by omega)))]
  conv=>rhs; unfold zQq
  show ((cnd (decide (bud l[i] k∈l)) _ _).bind _)=_
  have hie:zBg z (min l[i] (bud l[i] k)) ((k:Int)+1)=some (inside z (min l[i] (bud l[i] k)) (k+1)):=zJU (k:=k+1) hr (by omega)
  rw [hie,zP (zu (by omega))]
  cases hm:decide (bud l[i] k∈l) with
  | false =>
   rw [zf rfl,zAt,Bool.false_and,Bool.false_and,if_neg Bool.false_ne_true]
   exact ih n (i+1) (by omega) (by omega)
  | true =>
   rw [zz rfl,zAt]
   cases hq:inside z (min l[i] (bud l[i] k)) (k+1) with
   | false =>
    rw [Bool.and_false,if_neg Bool.false_ne_true]
    exact ih n (i+1) (by omega) (by omega)
   | true=>rfl
theorem cl0 (hz:Zk z) (hr:ranges z=true) (hin:∀ k,k<5 → ∀ f,f∈lst z k→inside z f k=true) (hs:∀ k,Srt (lst z k)):∀ (m n k:Nat),k+m=4→m<n →
  zCg z n (k:Int)=if zMY z k ((z.free.take 4).drop k)=true then some 11 else some 0:=by
 intro m
 induction m with
 | zero =>
  intro n k h1 h2
  obtain ⟨n,rfl⟩:=ex1 ‹_<n›
  show zEC _ _ _=_
  unfold zEC
  rw [zf (df (by omega)),List.drop_eq_nil_of_le (by rw [List.length_take,hz.len]; omega)]
  rfl
 | succ m ih =>
  intro n k h1 h2
  obtain ⟨n,rfl⟩:=ex1 ‹_<n›
  show zEC _ _ _=_
  unfold zEC
  have hb:=hz.bd k
  obtain ⟨a1,a2⟩:=List.getElem?_eq_some_iff.1 (zLl (hz.get (k:=k) (by omega)) (show k<4 by omega))
  rw [zz (dt (by omega)),zP (zAC (by omega)),z0i,cl1 hz hr (by omega) rfl (hin k (by omega)) (hs k) (lst z k).length z8 0 (by omega) (by unfold z8; omega),List.drop_eq_getElem_cons a1,a2]
  conv=>rhs; unfold zMY
  rw [List.drop_zero]
  by_cases hq:zQq z k (lst z k) (lst z k)=true
  ·rw [if_pos hq,if_pos hq,if_pos rfl]
  ·rw [if_neg hq,if_neg hq]
   exact ih n (k+1) (by omega) (by omega)
theorem zNC (hz:Zk z) (h:zEh z 0 z.free=0) (k:Nat):(∀ f,f∈lst z k→inside z f k=true)∧Srt (lst z k):=by
 rcases Nat.lt_or_ge k 5 with hk | hk
 ·have:=zU1 h k _ (hz.get hk)
  rwa [Nat.zero_add] at this
 ·rw [zMn hz.len hk]
  exact ⟨fun f hf=>absurd hf (by simp),Srt.nil⟩
theorem zOm (hz:Zk z) (hI:inI z.start=true):zDU z=some (zEw z):=by
 unfold zDU zEw
 rw [zQP _ hI,zAt]
 cases hr:ranges z with
 | false=>rfl
 | true =>
  rw [Bool.not_true,zf rfl,if_neg (by simp),z0i,cl5 hz hr 5 z8 0 (by omega) (by unfold z8; omega) rfl]
  show (if zEh z 0 z.free=0 then _ else _)=some (if zEh z 0 z.free=0 then _ else _)
  by_cases h0:zEh z 0 z.free=0
  ·rw [if_pos h0,if_pos h0]
   have hl:=fun k=>zNC hz h0 k
   unfold zFz
   rw [z0i,cl2 hz hr (fun k _=>(hl k).1) 5 z8 0 _ (by omega) (by unfold z8; omega) (by rw [List.length_replicate]),List.drop_zero]
   show (match zHr 0 zEv z.free with | none=>some 7 | some _=>zDw z)=_
   cases hm:zHr 0 zEv z.free with
   | none=>rfl
   | some d =>
    rw [if_neg (by simp)]
    show zDw z=_
    unfold zDw
    rw [z0i,cl0 hz hr (fun k _=>(hl k).1) (fun k=>(hl k).2) 4 z8 0 (by omega) (by unfold z8; omega),List.drop_zero]
    split <;> rfl
  ·rw [if_neg h0,if_neg h0]
end
end Go.Proofs.Ytplkliakhdkpcaa
namespace Go.Proofs.Ytplkliakhdkpcaa
open Go Go.RowKit Go.Wk Go.Am
section
variable {z:zW} {k:Nat} {l:List Int}
theorem zKi {f:Int} (hr:ranges z=true) (hk:k≤4):zCY z f (k:Int)=some (inside z f k):=by
 have hb:=zAx hr
 have hp:=zGI k
 by_cases h:z.start≤f∧f<z.start+z.count
 ·exact zRw hr hk h.1 h.2
 ·have hin:inside z f k=false:=by
   refine Bool.eq_false_iff.2 fun hi=>h ?_
   have:=zAO hr hi
   omega
  rw [hin]
  unfold zCY
  rw [zP (zMv (zu (by omega)))]
  refine zz ?_
  rw [df (p:=(k:Int)<0) (by omega),df (p:=4<(k:Int)) (by omega)]
  by_cases h1:f<z.start
  ·rw [dt h1]; rfl
  ·rw [df h1,dt (p:=z.start+z.count≤f) (by omega)]; rfl
theorem rl6 {se:Int→Option Int} (hz:Zk z) (hr:ranges z=true) (hk:k<5) (hl:lst z k=l):∀ (m n i:Nat),i+m=l.length→m<n→zKB z k none l=zKB z k (zK2 l i) (l.drop i) →
  zGg se z (k:Int) n (i:Int)=if zKB z k none l=0 then se ((k+1:Nat):Int) else some (zKB z k none l):=by
 have hb:l.length≤1000000:=by rw [← hl]; exact hz.bd k
 have e:z.free.getD (k:Int).toNat []=l:=hl
 intro m
 induction m with
 | zero =>
  intro n i h1 h2 hI
  obtain ⟨n,rfl⟩:=ex1 ‹_<n›
  show zDn _ _ _ _ _=_
  unfold zDn zIc
  rw [e,zP (zAC (by omega)),zf (df (by omega)),zP (zu (by omega)),if_pos (zRR hI (by omega))]
  rfl
 | succ m ih =>
  intro n i h1 h2 hI
  obtain ⟨n,rfl⟩:=ex1 ‹_<n›
  have hi:i<l.length:=by omega
  have hx:=zRf hi
  show zDn _ _ _ _ _=_
  unfold zDn
  rw [e,zP (zAC (by omega)),zz (dt (by omega)),zP (zAC hi),zKi hr (by omega),zAt]
  generalize at_ l (i:Int)=x at *
  cases hin:inside z x k with
  | false =>
   rw [Bool.not_false,zz rfl,zPp hI hx hin]
   rfl
  | true =>
   rw [Bool.not_true,zf rfl]
   by_cases h0:0<i
   ·rw [zP (zMv (zu (by omega))),zPw h0,zP (zMv (zAC (by omega))),dt (p:=0<(i:Int)) (by omega),Bool.true_and]
    have hy:=zRf (l:=l) (i:=i - 1) (by omega)
    have hg:geP (zK2 l i) x=decide (x≤at_ l ((i - 1:Nat):Int)):=zYA h0 (by rw [zPw h0,Int.toNat_natCast]; exact hy)
    by_cases hle:x≤at_ l ((i - 1:Nat):Int)
    ·rw [zz (dt hle),zOq hI hx hin (by rw [hg,dt hle])]
     rfl
    ·rw [zf (df hle),zP (zu (by omega))]
     exact ih n (i+1) (by omega) (by omega) (zLp hI hx hin (by rw [hg,df hle]))
   ·rw [df (p:=0<(i:Int)) (by omega)]
    refine (zP (by rfl)).trans ((zP (by rfl)).trans ((zf (by rfl)).trans ?_))
    rw [zP (zu (by omega))]
    exact ih n (i+1) (by omega) (by omega) (zLp hI hx hin (zYF h0))
theorem rl5 (hz:Zk z) (hr:ranges z=true):∀ (m n k:Nat),k+m=5→m<n→zEh z 0 z.free=zEh z k (z.free.drop k) →
  zGk z n (k:Int)=some (zEh z 0 z.free):=by
 intro m
 induction m with
 | zero =>
  intro n k h1 h2 hR
  obtain ⟨n,rfl⟩:=ex1 ‹_<n›
  show zDq _ _ _=_
  unfold zDq
  rw [zf (df (by omega)),zPl hR (by rw [hz.len]; omega)]
  rfl
 | succ m ih =>
  intro n k h1 h2 hR
  obtain ⟨n,rfl⟩:=ex1 ‹_<n›
  show zDq _ _ _=_
  unfold zDq
  have hb:=hz.bd k
  have hg:=hz.get (k:=k) (by omega)
  rw [zz (dt (by omega)),z0i,rl6 hz hr (by omega) rfl (lst z k).length z8 0 (by omega) (by unfold z8; omega) rfl]
  by_cases h0:zKB z k none (lst z k)=0
  ·rw [if_pos h0]
   exact ih n (k+1) (by omega) (by omega) (zOy hR hg h0)
  ·rw [if_neg h0]
   have hc:zEh z 0 z.free=zKB z k none (lst z k):=by
    obtain ⟨a1,a2⟩:=List.getElem?_eq_some_iff.1 hg
    rw [hR,List.drop_eq_getElem_cons a1,a2]
    unfold zEh
    rw [if_neg h0]
   rw [hc]
def zI8 (s:List Int) (i:Nat):Nat→List Int
 | 0=>s
 | n+1=>zI8 (s.set i (s.getD i 0+1)) (i+1) n
def zHj (k:Nat):List Int→List Int→List Int
 | s,[]=>s
 | s,f::r=>zHj k (zI8 s f.toNat (2 ^ k)) r
def zGt:Nat→List Int→List (List Int)→List Int
 | _,s,[]=>s
 | k,s,l::r=>zGt (k+1) (zHj k s l) r
def zNT (z:zW):List Int:=zGt 0 (List.replicate 256 0) z.free
theorem zKS:∀ (m i:Nat) (s:List Int),(zI8 s i m).length=s.length
 | 0,_,_=>rfl
 | m+1,i,s=>by unfold zI8; rw [zKS,List.length_set]
theorem zIT:∀ (l:List Int) (k:Nat) (s:List Int),(zHj k s l).length=s.length
 | [],_,_=>rfl
 | x::l,k,s=>by unfold zHj; rw [zIT l,zKS]
theorem zU9 (l:List Int) (i g:Nat) (h:i<l.length) (x:Int):(l.set i x).getD g 0=if g=i then x else l.getD g 0:=by
 simp only [List.getD_eq_getElem?_getD,List.getElem?_set]
 by_cases hg:i=g
 ·rw [if_pos hg,if_pos h,if_pos hg.symm]; rfl
 ·rw [if_neg hg,if_neg (fun e=>hg e.symm)]
theorem zKe:∀ (m i:Nat) (s:List Int) (g:Nat),i+m≤s.length→(zI8 s i m).getD g 0=if i≤g∧g<i+m then s.getD g 0+1 else s.getD g 0
 | 0,i,s,g,_=>by rw [if_neg (by omega)]; rfl
 | m+1,i,s,g,h=>by
  unfold zI8
  rw [zKe m (i+1) _ g (by rw [List.length_set]; omega),zU9 s i g (by omega)]
  by_cases h2:g=i
  ·subst h2
   rw [if_neg (by omega),if_pos rfl,if_pos (by omega)]
  ·rw [if_neg h2]
   by_cases h1:i+1≤g∧g<i+1+m
   ·rw [if_pos h1,if_pos (by omega)]
   ·rw [if_neg h1,if_neg (by omega)]
theorem sl2 {se:Int→List Int→Option (List Int)} {i:Nat} {x:Int} (hk:k<5) (hx:at_ (lst z k) (i:Int)=x) (hil:i<(lst z k).length) (h0:0≤x) (h1:x+2 ^ k≤256) (hi:i<1000000):∀ (m n f:Nat) (s:List Int),(f:Int)+m=x+2 ^ k→m<n→s.length=256→(∀ g,f≤g→0≤s.getD g 0∧s.getD g 0≤1000000000) →
  zKN se z (k:Int) (i:Int) n (f:Int) s=se ((i+1:Nat):Int) (zI8 s f m):=by
 obtain ⟨e,p1,p2⟩:=zIB (k:=k) (by omega)
 have ex:at_ (z.free.getD (k:Int).toNat []) (i:Int)=x:=hx
 have el:i<(z.free.getD (k:Int).toNat []).length:=hil
 intro m
 induction m with
 | zero =>
  intro n f s h2 h3 h4 h5
  obtain ⟨n,rfl⟩:=ex1 ‹_<n›
  show zHP _ _ _ _ _ _ _=_
  unfold zHP zMt
  rw [e,ex,zP (zAC (by omega)),zP (zAC el),zP (dt (zGb (by omega) (by omega))),zP (zM2 (by omega)),zP (zu (by omega)),zP (zu (by omega)),zf (df (by omega)),zP (zu (by omega))]
  rfl
 | succ m ih =>
  intro n f s h2 h3 h4 h5
  obtain ⟨n,rfl⟩:=ex1 ‹_<n›
  show zHP _ _ _ _ _ _ _=_
  unfold zHP
  have hf:f<s.length:=by omega
  have ea:at_ s (f:Int)=s.getD f 0:=by rw [zFU hf,List.getD_eq_getElem?_getD,List.getElem?_eq_getElem hf]; rfl
  have hb:=h5 f (Nat.le_refl _)
  rw [e,ex,zP (zAC (by omega)),zP (zAC el),zP (dt (zGb (by omega) (by omega))),zP (zM2 (by omega)),zP (zu (by omega)),zP (zu (by omega)),zz (dt (by omega)),zP (zAC hf),ea,zP (zu (by omega)),zP (zu (by omega))]
  exact ih n (f+1) (s.set f (s.getD f 0+1)) (by omega) (by omega) (by rw [List.length_set]; exact h4) (fun g hg=>by
   rw [zU9 s f g hf,if_neg (by omega)]
   exact h5 g (by omega))
theorem sl1 {se:Int→List Int→Option (List Int)} (hz:Zk z) (hr:ranges z=true) (hk:k<5) (hl:lst z k=l) (hin:∀ f,f∈l→inside z f k=true):∀ (m n i c:Nat) (s:List Int),i+m=l.length→m<n→s.length=256→(∀ g,0≤s.getD g 0∧s.getD g 0≤c)→c+m≤1000000000 →
  zIh se z (k:Int) n (i:Int) s=se ((k+1:Nat):Int) (zHj k s (l.drop i)) ∧ ∀ g,0≤(zHj k s (l.drop i)).getD g 0∧(zHj k s (l.drop i)).getD g 0≤((c+m:Nat):Int):=by
 have hb:l.length≤1000000:=by rw [← hl]; exact hz.bd k
 have e:z.free.getD (k:Int).toNat []=l:=hl
 obtain ⟨e2,p1,p2⟩:=zIB (k:=k) (by omega)
 have pn:=zLw (k:=k) (by omega)
 intro m
 induction m with
 | zero =>
  intro n i c s h1 h2 h3 h4 h5
  obtain ⟨n,rfl⟩:=ex1 ‹_<n›
  rw [List.drop_eq_nil_of_le (by omega)]
  refine ⟨?_,h4⟩
  show zHb _ _ _ _ _ _=_
  unfold zHb zMs
  rw [e,zP (zAC (by omega)),zf (df (by omega)),zP (zu (by omega))]
  rfl
 | succ m ih =>
  intro n i c s h1 h2 h3 h4 h5
  obtain ⟨n,rfl⟩:=ex1 ‹_<n›
  have hi:i<l.length:=by omega
  have hbd:=zAO hr (hin _ (List.getElem_mem hi))
  have ha:at_ (lst z k) (i:Int)=l[i]:=by rw [hl]; exact zFU hi
  obtain ⟨f,hf⟩:=Int.eq_ofNat_of_zero_le hbd.1
  rw [List.drop_eq_getElem_cons hi]
  have hbump:zHj k s (l[i]::l.drop (i+1))=zHj k (zI8 s f (2 ^ k)) (l.drop (i+1)):=by
   show zHj k (zI8 s l[i].toNat (2 ^ k)) (l.drop (i+1))=_
   rw [hf]
   rfl
  rw [hbump]
  have hg:∀ g,0≤(zI8 s f (2 ^ k)).getD g 0∧(zI8 s f (2 ^ k)).getD g 0≤((c+1:Nat):Int):=fun g=>by
   rw [zKe _ _ _ _ (by omega)]
   have:=h4 g
   split <;> omega
  obtain ⟨r1,r2⟩:=ih n (i+1) (c+1) (zI8 s f (2 ^ k)) (by omega) (by omega) (by rw [zKS]; exact h3) hg (by omega)
  refine ⟨?_,fun g=>by have:=r2 g; omega⟩
  rw [← r1]
  show zHb _ _ _ _ _ _=_
  unfold zHb
  rw [e,zP (zAC (by omega)),zz (dt (by omega)),zP (zAC hi),zFU hi]
  have hc:=sl2 (se:=zIh se z (k:Int) n) hk ha (by rw [hl]; exact hi) hbd.1 hbd.2.1 (by omega) (2 ^ k) z8 f s (by omega) (by unfold z8; omega) h3 (fun g _=>by have:=h4 g; omega)
  rw [← hf] at hc
  exact hc
theorem sl0 (hz:Zk z) (hr:ranges z=true) (hin:∀ k,k<5 → ∀ f,f∈lst z k→inside z f k=true):∀ (m n k c:Nat) (s:List Int),k+m=5→m<n→s.length=256→(∀ g,0≤s.getD g 0∧s.getD g 0≤c)→c+m*1000000≤1000000000 →
  zIe z n (k:Int) s=some (zGt k s (z.free.drop k)):=by
 intro m
 induction m with
 | zero =>
  intro n k c s h1 h2 h3 h4 h5
  obtain ⟨n,rfl⟩:=ex1 ‹_<n›
  show zHf _ _ _ _=_
  unfold zHf
  rw [zf (df (by omega)),List.drop_eq_nil_of_le (by rw [hz.len]; omega)]
  rfl
 | succ m ih =>
  intro n k c s h1 h2 h3 h4 h5
  obtain ⟨n,rfl⟩:=ex1 ‹_<n›
  have hb:=hz.bd k
  obtain ⟨a1,a2⟩:=List.getElem?_eq_some_iff.1 (hz.get (k:=k) (by omega))
  obtain ⟨r1,r2⟩:=sl1 (se:=zIe z n) hz hr (by omega) rfl (hin k (by omega)) (lst z k).length z8 0 c s (by omega) (by unfold z8; omega) h3 h4 (by omega)
  rw [List.drop_zero] at r1 r2
  show zHf _ _ _ _=_
  unfold zHf
  rw [zz (dt (by omega)),z0i,r1,List.drop_eq_getElem_cons a1,a2]
  exact ih n (k+1) (c+(lst z k).length) _ (by omega) (by omega) (by rw [zIT]; exact h3) r2 (by omega)
theorem zQB (hz:Zk z) (hr:ranges z=true) (hin:∀ k,k<5 → ∀ f,f∈lst z k→inside z f k=true):zIL z=some (zNT z):=by
 unfold zIL
 rw [zP (by rfl),z0i]
 exact sl0 hz hr hin 5 z8 0 0 _ (by omega) (by unfold z8; omega) (by rw [List.length_replicate]; rfl) (fun g=>by
  rw [List.getD_eq_getElem?_getD,List.getElem?_replicate]
  split <;> simp) (by omega)
end
end Go.Proofs.Ytplkliakhdkpcaa
namespace Go.Proofs.Ytplkliakhdkpcaa
open Go Go.RowKit Go.Wk Go.Am
theorem zBz {α:Type} (l:List α) (i g:Nat) (h:i<l.length) (x d:α):(l.set i x).getD g d=if g=i then x else l.getD g d:=by
 simp only [List.getD_eq_getElem?_getD,List.getElem?_set]
 by_cases hg:i=g
 ·rw [if_pos hg,if_pos h,if_pos hg.symm]; rfl
 ·rw [if_neg hg,if_neg (fun e=>hg e.symm)]
structure MB (d:List Bool) (s:List Int):Prop where
 dl:d.length=256
 sl:s.length=256
 t:∀ g,d.getD g false=true→s.getD g 0=1
 f:∀ g,d.getD g false=false→s.getD g 0=0
section
variable {z:zW} {k:Nat} {l:List Int}
theorem zM6:∀ (m i:Nat) (s:List Int) (g:Nat),s.getD g 0≤(zI8 s i m).getD g 0
 | 0,_,_,_=>Int.le_refl _
 | m+1,i,s,g=>by
  unfold zI8
  refine Int.le_trans ?_ (zM6 m (i+1) _ g)
  rcases Nat.lt_or_ge i s.length with h | h
  ·rw [zU9 s i g h]
   split
   ·rename_i e; rw [e]; omega
   ·omega
  ·rw [List.set_eq_of_length_le h]
   omega
theorem zJ3:∀ (l:List Int) (k:Nat) (s:List Int) (g:Nat),s.getD g 0≤(zHj k s l).getD g 0
 | [],_,_,_=>Int.le_refl _
 | x::l,k,s,g=>by
  unfold zHj
  exact Int.le_trans (zM6 _ _ _ _) (zJ3 l k _ g)
theorem zNa:∀ (ls:List (List Int)) (k:Nat) (s:List Int) (g:Nat),s.getD g 0≤(zGt k s ls).getD g 0
 | [],_,_,_=>Int.le_refl _
 | l::ls,k,s,g=>by
  unfold zGt
  exact Int.le_trans (zJ3 l k s g) (zNa ls (k+1) _ g)
theorem zZc:∀ (m f:Nat) {d:List Bool} {s:List Int},MB d s→f+m≤256→match zMV d f m with | some d'=>MB d' (zI8 s f m) | none => ∃ g,1<(zI8 s f m).getD g 0
 | 0,_,_,_,h,_=>h
 | m+1,f,d,s,h,hm=>by
  unfold zMV
  cases hd:d.getD f false with
  | true =>
   rw [if_pos rfl]
   refine ⟨f,?_⟩
   rw [zKe _ _ _ _ (by rw [h.sl]; exact hm),if_pos (by omega),h.t f hd]
   decide
  | false =>
   rw [if_neg (by simp)]
   unfold zI8
   have hs:=h.sl
   have hl:=h.dl
   refine zZc m (f+1) ⟨by rw [List.length_set]; exact hl,by rw [List.length_set]; exact hs,fun g hg => ?_,fun g hg => ?_⟩ (by omega)
   ·rw [zU9 s f g (by omega)]
    rw [zBz d f g (by omega)] at hg
    by_cases e:g=f
    ·rw [if_pos e,h.f f hd]; rfl
    ·rw [if_neg e]
     rw [if_neg e] at hg
     exact h.t g hg
   ·rw [zBz d f g (by omega)] at hg
    by_cases e:g=f
    ·rw [if_pos e] at hg; cases hg
    ·rw [if_neg e] at hg
     rw [zU9 s f g (by omega),if_neg e]
     exact h.f g hg
theorem zZg (hr:ranges z=true):∀ (l:List Int) {d:List Bool} {s:List Int},(∀ f,f∈l→inside z f k=true)→k<5→MB d s→match zMc k d l with | some d'=>MB d' (zHj k s l) | none => ∃ g,1<(zHj k s l).getD g 0
 | [],_,_,_,_,h=>h
 | x::l,d,s,hin,hk,h=>by
  have hbd:=zAO hr (hin x (by simp))
  have pn:=zLw (k:=k) (by omega)
  have hn:=zZc (2 ^ k) x.toNat h (by omega)
  unfold zMc zHj
  cases hm:zMV d x.toNat (2 ^ k) with
  | none =>
   rw [hm] at hn
   obtain ⟨g,hg⟩:=hn
   exact ⟨g,by have:=zJ3 l k (zI8 s x.toNat (2 ^ k)) g; omega⟩
  | some d' =>
   rw [hm] at hn
   exact zZg hr l (fun f hf=>hin f (by simp [hf])) hk hn
theorem zXt (hr:ranges z=true):∀ (ls:List (List Int)) (k:Nat) {d:List Bool} {s:List Int},k+ls.length=5→(∀ j l,ls[j]?=some l → ∀ f,f∈l→inside z f (k+j)=true)→MB d s→match zHr k d ls with | some d'=>MB d' (zGt k s ls) | none => ∃ g,1<(zGt k s ls).getD g 0
 | [],_,_,_,_,_,h=>h
 | l::ls,k,d,s,hk,hin,h=>by
  have hk':k+(ls.length+1)=5:=hk
  have hn:=zZg hr l (d:=d) (s:=s) (fun f hf=>by have:=hin 0 l rfl f hf; rwa [Nat.add_zero] at this) (by omega) h
  unfold zHr zGt
  cases hm:zMc k d l with
  | none =>
   rw [hm] at hn
   obtain ⟨g,hg⟩:=hn
   exact ⟨g,by have:=zNa ls (k+1) (zHj k s l) g; omega⟩
  | some d' =>
   rw [hm] at hn
   exact zXt hr ls (k+1) (by omega) (fun j l' hj f hf=>by
    have:=hin (j+1) l' hj f hf
    rwa [show k+(j+1)=k+1+j by omega] at this) hn
theorem mb0:MB zEv (List.replicate 256 0):=⟨zJm,by rw [List.length_replicate],fun g hg=>by
  unfold zEv at hg
  rw [List.getD_eq_getElem?_getD,List.getElem?_replicate] at hg
  split at hg <;> simp at hg,fun g _=>by
  rw [List.getD_eq_getElem?_getD,List.getElem?_replicate]
  split <;> rfl⟩
theorem zZd (hz:Zk z) (hr:ranges z=true) (hin:∀ k,k<5 → ∀ f,f∈lst z k→inside z f k=true):match zHr 0 zEv z.free with | some d=>MB d (zNT z) | none => ∃ g,1<(zNT z).getD g 0 :=
 zXt hr z.free 0 (by rw [hz.len]) (fun j l hj f hf=>by
  have hj5:j<5:=by rw [← hz.len]; exact (List.getElem?_eq_some_iff.1 hj).1
  rw [hz.get hj5] at hj
  cases hj
  rw [Nat.zero_add]
  exact hin j hj5 f hf) mb0
theorem zOd:∀ (ls:List (List Int)) (k:Nat) (s:List Int),(zGt k s ls).length=s.length
 | [],_,_=>rfl
 | l::ls,k,s=>by unfold zGt; rw [zOd ls,zIT]
theorem zMH:(zNT z).length=256:=by unfold zNT; rw [zOd,List.length_replicate]
theorem rc2 {x:List Int} (hx:x.length=256):∀ (m n i:Nat),i+m=256→m<n→(∀ g,g<i → ¬ 1<x.getD g 0) →
  ((∃ g,1<x.getD g 0)→zDB z x n (i:Int)=some 7)∧((∀ g,¬ 1<x.getD g 0)→zDB z x n (i:Int)=zHL z):=by
 intro m
 induction m with
 | zero =>
  intro n i h1 h2 h3
  obtain ⟨n,rfl⟩:=ex1 ‹_<n›
  have e:zDB z x (n+1) (i:Int)=zHL z:=by
   show zFw _ _ _ _=_
   unfold zFw
   rw [zf (df (by omega))]
  refine ⟨fun ⟨g,hg⟩ => ?_,fun _=>e⟩
  rcases Nat.lt_or_ge g i with h | h
  ·exact absurd hg (h3 g h)
  ·rw [List.getD_eq_getElem?_getD,List.getElem?_eq_none (by omega)] at hg
   exact absurd hg (by decide)
 | succ m ih =>
  intro n i h1 h2 h3
  obtain ⟨n,rfl⟩:=ex1 ‹_<n›
  have hi:i<x.length:=by omega
  have ea:at_ x (i:Int)=x.getD i 0:=by rw [zFU hi,List.getD_eq_getElem?_getD,List.getElem?_eq_getElem hi]; rfl
  have e:zDB z x (n+1) (i:Int)=cnd (decide (1<x.getD i 0)) (some 7) (zDB z x n ((i+1:Nat):Int)):=by
   show zFw _ _ _ _=_
   unfold zFw
   rw [zz (dt (by omega)),zP (zAC hi),ea,zP (zu (by omega))]
   rfl
  rw [e]
  by_cases h7:1<x.getD i 0
  ·rw [zz (dt h7)]
   exact ⟨fun _=>rfl,fun h=>absurd h7 (h i)⟩
  ·rw [zf (df h7)]
   exact ih n (i+1) (by omega) (by omega) (fun g hg=>by
    by_cases e:g=i
    ·rw [e]; exact h7
    ·exact h3 g (by omega))
def Adj (z:zW) (k:Nat) (l:List Int) (i:Nat):Prop:=0<i∧i<l.length∧at_ l (i:Int)=at_ l ((i - 1:Nat):Int)+2 ^ k∧inside z (at_ l ((i - 1:Nat):Int)) (k+1)=true
theorem zWV (hr:ranges z=true) (hk:k<4) (hin:∀ f,f∈l→inside z f k=true) (hs:Srt l):(∃ i,Adj z k l i)↔zQq z k l l=true:=by
 have hp:=zGI k
 have hps:=zI9 k
 have key:∀ r,zQq z k l r=true ↔ ∃ f,f∈r∧bud f k∈l∧inside z (min f (bud f k)) (k+1)=true:=by
  intro r
  induction r with
  | nil=>unfold zQq; simp
  | cons f r ih =>
   unfold zQq
   by_cases h:(decide (bud f k∈l)&&inside z (min f (bud f k)) (k+1))=true
   ·rw [if_pos h]
    simp only [Bool.and_eq_true,decide_eq_true_eq] at h
    exact ⟨fun _=>⟨f,by simp,h.1,h.2⟩,fun _=>rfl⟩
   ·rw [if_neg h,ih]
    simp only [Bool.and_eq_true,decide_eq_true_eq] at h
    constructor
    ·rintro ⟨g,h1,h2⟩; exact ⟨g,by simp [h1],h2⟩
    ·rintro ⟨g,h1,h2,h3⟩
     rcases List.mem_cons.1 h1 with rfl | h1
     ·exact absurd ⟨h2,h3⟩ h
     ·exact ⟨g,h1,h2,h3⟩
 rw [key]
 constructor
 ·rintro ⟨i,h0,hi,he,hq⟩
  have hi':i - 1<l.length:=by omega
  rw [zFU hi,zFU hi'] at he
  rw [zFU hi'] at hq
  have hb:=zAO hr (hin _ (List.getElem_mem hi'))
  have ha:=(zAr hr).1 (hin _ (List.getElem_mem hi'))
  have ha2:=(zAr hr).1 hq
  have hbu:bud l[i - 1] k=l[i - 1]+2 ^ k:=by
   rcases zMw hk hb.1 (by omega) ha.2.1 with ⟨_,e⟩ | ⟨e,_⟩
   ·exact e
   ·rw [ha2.2.1] at e; omega
  refine ⟨l[i - 1],List.getElem_mem hi',?_,?_⟩
  ·rw [hbu, ← he]; exact List.getElem_mem hi
  ·rw [hbu,Int.min_eq_left (by omega)]; exact hq
 ·rintro ⟨f,h1,h2,h3⟩
  have main:∀ x,x∈l→x+2 ^ k∈l→inside z x (k+1)=true → ∃ i,Adj z k l i:=by
   intro x hx hy hq
   obtain ⟨p,hp1,rfl⟩:=List.getElem_of_mem hx
   obtain ⟨q,hq1,hq2⟩:=List.getElem_of_mem hy
   have hpq:p<q:=by
    rcases Nat.lt_trichotomy p q with h | h | h
    ·exact h
    ·subst h; omega
    ·have:=zJf hs (List.getElem?_eq_getElem hq1) (List.getElem?_eq_getElem hp1) h
     omega
   have hn:p+1<l.length:=by omega
   have hlt:=zJf hs (List.getElem?_eq_getElem hp1) (List.getElem?_eq_getElem hn) (by omega)
   have hle:l[p+1]≤l[q]:=by
    by_cases e:p+1=q
    ·subst e; omega
    ·have:=zJf hs (List.getElem?_eq_getElem hn) (List.getElem?_eq_getElem hq1) (by omega)
     omega
   have a1:=((zAr hr).1 (hin _ (List.getElem_mem hp1))).2.1
   have a2:=((zAr hr).1 (hin _ (List.getElem_mem hn))).2.1
   have he:l[p+1]=l[p]+2 ^ k:=by
    have hk':k=0∨k=1∨k=2∨k=3:=by omega
    rcases hk' with rfl | rfl | rfl | rfl <;> simp only [pw0,pw1,pw2,pw3] at * <;> omega
   refine ⟨p+1,by omega,hn,?_,?_⟩
   ·rw [zFU hn,show p+1 - 1=p by omega,zFU hp1]; exact he
   ·rw [show p+1 - 1=p by omega,zFU hp1]; exact hq
  have hb:=zAO hr (hin f h1)
  have ha:=(zAr hr).1 (hin f h1)
  rcases zMw hk hb.1 (by omega) ha.2.1 with ⟨_,e⟩ | ⟨_,e⟩
  ·rw [e] at h2 h3
   rw [Int.min_eq_left (by omega)] at h3
   exact main f h1 h2 h3
  ·rw [e] at h2 h3
   rw [Int.min_eq_right (by omega)] at h3
   exact main (f - 2 ^ k) h2 (by rw [show f - 2 ^ k+2 ^ k=f by omega]; exact h1) h3
theorem rc1 {se:Int→Option Int} (hz:Zk z) (hr:ranges z=true) (hk:k<4) (hl:lst z k=l) (hin:∀ f,f∈l→inside z f k=true):∀ (m n i:Nat),l.length≤i+m→i≤1000001→m<n→0<i→(∀ j,j<i → ¬ Adj z k l j) →
  ((∃ j,Adj z k l j)→zC8 se z (k:Int) n (i:Int)=some 11)∧((∀ j,¬ Adj z k l j)→zC8 se z (k:Int) n (i:Int)=se ((k+1:Nat):Int)):=by
 have hb:l.length≤1000000:=by rw [← hl]; exact hz.bd k
 have e:z.free.getD (k:Int).toNat []=l:=hl
 obtain ⟨e2,p1,p2⟩:=zIB (k:=k) (by omega)
 have hend:∀ n i:Nat,l.length≤i→(∀ j,j<i → ¬ Adj z k l j)→((∃ j,Adj z k l j)→zC8 se z (k:Int) (n+1) (i:Int)=some 11)∧((∀ j,¬ Adj z k l j)→zC8 se z (k:Int) (n+1) (i:Int)=se ((k+1:Nat):Int)):=by
  intro n i h1 h4
  refine ⟨fun ⟨j,hj⟩=>absurd hj (h4 j (by have:=hj.2.1; omega)),fun _ => ?_⟩
  show zF1 _ _ _ _ _=_
  unfold zF1 zLG
  rw [e,zP (zAC (by omega)),zf (df (by omega)),zP (zu (by omega))]
  rfl
 intro m
 induction m with
 | zero =>
  intro n i h1 hi6 h2 h3 h4
  obtain ⟨n,rfl⟩:=ex1 ‹_<n›
  exact hend n i (by omega) h4
 | succ m ih =>
  intro n i h1 hi6 h2 h3 h4
  obtain ⟨n,rfl⟩:=ex1 ‹_<n›
  by_cases hi:i<l.length
  ·have hbd:=zAO hr (hin _ (List.getElem_mem (show i - 1<l.length by omega)))
   have hat:=zFU (l:=l) (i:=i - 1) (by omega)
   have ee:zC8 se z (k:Int) (n+1) (i:Int)=cnd (decide (at_ l (i:Int)=at_ l ((i - 1:Nat):Int)+2 ^ k)&&inside z (at_ l ((i - 1:Nat):Int)) (k+1)) (some 11) (zC8 se z (k:Int) n ((i+1:Nat):Int)):=by
    show zF1 _ _ _ _ _=_
    unfold zF1
    have hbl:zCY z (at_ l ((i - 1:Nat):Int)) ((k:Int)+1)=some (inside z (at_ l ((i - 1:Nat):Int)) (k+1)):=zKi (k:=k+1) hr (by omega)
    rw [e,e2,zP (zAC (by omega)),zz (dt (by omega)),zP (zAC hi),zP (zu (by omega)),zPw h3,zP (zAC (by omega)),zP (dt (zGb (by omega) (by omega))),zP (zM2 (by omega)),zP (zu (by omega)),zP (zu (by rw [hat]; omega)),zP (zMv (zu (by omega))),hbl,zP (zu (by omega))]
    cases decide (at_ l (i:Int)=at_ l ((i - 1:Nat):Int)+2 ^ k) with
    | true=>rfl
    | false=>rfl
   rw [ee]
   by_cases ha:Adj z k l i
   ·rw [dt ha.2.2.1,ha.2.2.2]
    exact ⟨fun _=>rfl,fun h=>absurd ha (h i)⟩
   ·have hf:(decide (at_ l (i:Int)=at_ l ((i - 1:Nat):Int)+2 ^ k)&&inside z (at_ l ((i - 1:Nat):Int)) (k+1))=false:=by
     refine Bool.eq_false_iff.2 fun h=>ha ?_
     simp only [Bool.and_eq_true,decide_eq_true_eq] at h
     exact ⟨h3,hi,h.1,h.2⟩
    rw [zf hf]
    exact ih n (i+1) (by omega) (by omega) (by omega) (by omega) (fun j hj=>by
     by_cases e:j=i
     ·rw [e]; exact ha
     ·exact h4 j (by omega))
  ·exact hend n i (by omega) h4
theorem rc0 (hz:Zk z) (hr:ranges z=true) (hin:∀ k,k<5 → ∀ f,f∈lst z k→inside z f k=true) (hs:∀ k,Srt (lst z k)):∀ (m n k:Nat),k+m=4→m<n →
  zHN z n (k:Int)=if zMY z k ((z.free.take 4).drop k)=true then some 11 else some 0:=by
 intro m
 induction m with
 | zero =>
  intro n k h1 h2
  obtain ⟨n,rfl⟩:=ex1 ‹_<n›
  show zFk _ _ _=_
  unfold zFk
  rw [zf (df (by omega)),List.drop_eq_nil_of_le (by rw [List.length_take,hz.len]; omega)]
  rfl
 | succ m ih =>
  intro n k h1 h2
  obtain ⟨n,rfl⟩:=ex1 ‹_<n›
  show zFk _ _ _=_
  unfold zFk
  have hb:=hz.bd k
  obtain ⟨a1,a2⟩:=List.getElem?_eq_some_iff.1 (zLl (hz.get (k:=k) (by omega)) (show k<4 by omega))
  have hc:=rc1 (se:=zHN z n) hz hr (k:=k) (by omega) rfl (hin k (by omega)) (lst z k).length z8 1 (by omega) (by omega) (by unfold z8; omega) (by omega) (fun j hj h=>by have:=h.1; omega)
  rw [zz (dt (by omega)),List.drop_eq_getElem_cons a1,a2]
  conv=>rhs; unfold zMY
  have hab:=zWV (l:=lst z k) hr (by omega) (hin k (by omega)) (hs k)
  by_cases hq:zQq z k (lst z k) (lst z k)=true
  ·rw [if_pos hq,if_pos rfl]
   exact hc.1 (hab.2 hq)
  ·rw [if_neg hq]
   refine (hc.2 (fun j hj=>hq (hab.1 ⟨j,hj⟩))).trans ?_
   exact ih n (k+1) (by omega) (by omega)
theorem zRt (hz:Zk z):zGB z=some (zEw z):=by
 unfold zGB zEw
 rw [zSh,zAt]
 cases hr:ranges z with
 | false=>rfl
 | true =>
  rw [Bool.not_true,zf rfl,if_neg (by simp)]
  unfold zKG
  rw [z0i,rl5 hz hr 5 z8 0 (by omega) (by unfold z8; omega) rfl,zAt]
  show cnd (!decide (zEh z 0 z.free=0)) _ _=some (if zEh z 0 z.free=0 then _ else _)
  by_cases h0:zEh z 0 z.free=0
  ·rw [dt h0,if_pos h0,Bool.not_true,zf rfl]
   have hl:=fun k=>zNC hz h0 k
   rw [zQB hz hr (fun k _=>(hl k).1),zAt]
   have hm:=zZd hz hr (fun k _=>(hl k).1)
   have hc:=rc2 (z:=z) (zMH (z:=z)) 256 z8 0 (by omega) (by unfold z8; omega) (fun g hg=>by omega)
   show zDB z (zNT z) z8 ((0:Nat):Int)=_
   cases hd:zHr 0 zEv z.free with
   | none =>
    rw [hd] at hm
    rw [hc.1 hm]
    rfl
   | some d =>
    rw [hd] at hm
    rw [hc.2 (fun g hg=>by
     cases hb:d.getD g false with
     | true=>have:=hm.t g hb; omega
     | false=>have:=hm.f g hb; omega),if_neg (by simp)]
    unfold zHL
    rw [z0i,rc0 hz hr (fun k _=>(hl k).1) (fun k=>(hl k).2) 4 z8 0 (by omega) (by unfold z8; omega),List.drop_zero]
    split <;> rfl
  ·rw [df h0,if_neg h0]
   rfl
end
end Go.Proofs.Ytplkliakhdkpcaa
namespace Go.Proofs.Ytplkliakhdkpcaa
open Go Go.RowKit Go.Wk Go.Am
def zKH (z:zW) (f:Int):Bool:=decide (zEw z=0)&&inside z f 0&&decide (0<(zNT z).getD f.toNat 0)
theorem zSR:∀ k:Fin 5, ∀ x:Fin 256,zMT .andNot .i64 (x.val:Int) (2 ^ k.val - 1)=((x.val/2 ^ k.val*2 ^ k.val:Nat):Int):=by decide +kernel
section
variable {z:zW} {k:Nat} {l:List Int}
theorem zE5 (hz:Zk z) (h:zEw z=0):ranges z=true∧(∀ k,k<5 → ∀ f,f∈lst z k→inside z f k=true)∧(∀ k,Srt (lst z k)):=by
 have hr:=zFI h
 have hc:zEh z 0 z.free=0:=by
  unfold zEw at h
  rw [if_neg (by rw [hr]; simp)] at h
  by_cases h0:zEh z 0 z.free=0
  ·exact h0
  ·rw [if_neg h0] at h; exact h
 exact ⟨hr,fun k _=>(zNC hz hc k).1,fun k=>(zNC hz hc k).2⟩
theorem zRd (hz:Zk z) (h:zEw z=0) {f:Nat} (hf:f<256):∀ (m n k:Nat),k+m=5→m<n → ∃ r,zB3 z (f:Int) n (k:Int)=some r∧(0≤r.1 ↔ ∃ j,k≤j∧j<5∧((f/2 ^ j*2 ^ j:Nat):Int)∈lst z j):=by
 obtain ⟨hr,hin,hs⟩:=zE5 hz h
 intro m
 induction m with
 | zero =>
  intro n k h1 h2
  obtain ⟨n,rfl⟩:=ex1 ‹_<n›
  refine ⟨(-1,0),?_,⟨fun hh=>absurd hh (by decide),fun ⟨j,a,b,_⟩=>by omega⟩⟩
  show zCf _ _ _ _=_
  unfold zCf
  rw [zf (df (by omega))]
  rfl
 | succ m ih =>
  intro n k h1 h2
  obtain ⟨n,rfl⟩:=ex1 ‹_<n›
  obtain ⟨e2,p1,p2⟩:=zIB (k:=k) (by omega)
  have e:z.free.getD (k:Int).toNat []=lst z k:=rfl
  have ha:=zSR ⟨k,by omega⟩ ⟨f,hf⟩
  simp only at ha
  have ee:zB3 z (f:Int) (n+1) (k:Int)=cnd (decide (((f/2 ^ k*2 ^ k:Nat):Int)∈lst z k)) (some ((k:Int),((f/2 ^ k*2 ^ k:Nat):Int))) (zB3 z (f:Int) n ((k+1:Nat):Int)):=by
   show zCf _ _ _ _=_
   unfold zCf
   rw [zz (dt (by omega)),zP (zM2 (by omega)),e2,zP (zu (by omega)),zP (zu (by omega)),zP (zAC (by omega)),e,ha,zPz (hs k) (hz.bd k),zAt,zP (zu (by omega))]
   rfl
  rw [ee]
  by_cases hm:((f/2 ^ k*2 ^ k:Nat):Int)∈lst z k
  ·rw [zz (dt hm)]
   exact ⟨_,rfl,⟨fun _=>⟨k,Nat.le_refl _,by omega,hm⟩,fun _=>Int.natCast_nonneg k⟩⟩
  ·rw [zf (df hm)]
   obtain ⟨r,r1,r2⟩:=ih n (k+1) (by omega) (by omega)
   refine ⟨r,r1,r2.trans ⟨fun ⟨j,a,b,c⟩=>⟨j,by omega,b,c⟩,fun ⟨j,a,b,c⟩=>⟨j,?_,b,c⟩⟩⟩
   by_cases hjk:j=k
   ·subst hjk; exact absurd c hm
   ·omega
theorem zTO {s:List Int} {i m g:Nat} (h:i+m≤s.length) (hg:0≤s.getD g 0):0<(zI8 s i m).getD g 0↔0<s.getD g 0∨(i≤g∧g<i+m):=by
 rw [zKe _ _ _ _ h]
 split
 ·rename_i hq
  exact ⟨fun _ => .inr hq,fun _=>by omega⟩
 ·rename_i hq
  exact ⟨.inl,fun h=>h.resolve_right hq⟩
theorem zQS (hr:ranges z=true) (hk:k<5) {g:Nat}:∀ (l:List Int) {s:List Int},s.length=256→(∀ f,f∈l→inside z f k=true)→0≤s.getD g 0→(0<(zHj k s l).getD g 0↔0<s.getD g 0 ∨ ∃ x,x∈l∧x≤(g:Int)∧(g:Int)<x+2 ^ k)
 | [],s,_,_,_=>by unfold zHj; simp
 | x::l,s,hs,hin,h0=>by
  have hbd:=zAO hr (hin x (by simp))
  have pn:=zLw (k:=k) (by omega)
  have hle:=zM6 (2 ^ k) x.toNat s g
  unfold zHj
  rw [zQS hr hk l (by rw [zKS]; exact hs) (fun f hf=>hin f (by simp [hf])) (by omega),zTO (by rw [hs]; omega) h0]
  constructor
  ·rintro ((h | h) | ⟨y,h1,h2⟩)
   ·exact .inl h
   ·exact .inr ⟨x,by simp,by omega,by omega⟩
   ·exact .inr ⟨y,by simp [h1],h2⟩
  ·rintro (h | ⟨y,h1,h2,h3⟩)
   ·exact .inl (.inl h)
   ·rcases List.mem_cons.1 h1 with rfl | h1
    ·exact .inl (.inr (by omega))
    ·exact .inr ⟨y,h1,h2,h3⟩
theorem zOw (hr:ranges z=true) {g:Nat}:∀ (ls:List (List Int)) (k:Nat) {s:List Int},k+ls.length=5→s.length=256→(∀ j l,ls[j]?=some l → ∀ f,f∈l→inside z f (k+j)=true)→0≤s.getD g 0 →
  (0<(zGt k s ls).getD g 0↔0<s.getD g 0 ∨ ∃ j l x,ls[j]?=some l∧x∈l∧x≤(g:Int)∧(g:Int)<x+2 ^ (k+j))
 | [],k,s,_,_,_,_=>by unfold zGt; simp
 | l::ls,k,s,hk,hs,hin,h0=>by
  have hk':k+(ls.length+1)=5:=hk
  have hle:=zJ3 l k s g
  unfold zGt
  rw [zOw hr ls (k+1) (by omega) (by rw [zIT]; exact hs) (fun j l' hj f hf=>by
    have:=hin (j+1) l' hj f hf
    rwa [show k+(j+1)=k+1+j by omega] at this) (by omega),zQS hr (by omega) l hs (fun f hf=>by have:=hin 0 l rfl f hf; rwa [Nat.add_zero] at this) h0]
  constructor
  ·rintro ((h | ⟨x,h1,h2,h3⟩) | ⟨j,l',x,h1,h2,h3,h4⟩)
   ·exact .inl h
   ·exact .inr ⟨0,l,x,rfl,h1,h2,h3⟩
   ·exact .inr ⟨j+1,l',x,h1,h2,h3,by rw [show k+(j+1)=k+1+j by omega]; exact h4⟩
  ·rintro (h | ⟨j,l',x,h1,h2,h3,h4⟩)
   ·exact .inl (.inl h)
   ·cases j with
    | zero =>
     simp at h1
     subst h1
     exact .inl (.inr ⟨x,h2,h3,h4⟩)
    | succ j=>exact .inr ⟨j,l',x,by simpa using h1,h2,h3,by rw [show k+1+j=k+(j+1) by omega]; exact h4⟩
theorem zJD (hz:Zk z) (hr:ranges z=true) (hin:∀ k,k<5 → ∀ f,f∈lst z k→inside z f k=true) (g:Nat):0<(zNT z).getD g 0↔cov z g:=by
 unfold zNT
 have h0:(List.replicate 256 (0:Int)).getD g 0=0:=by
  rw [List.getD_eq_getElem?_getD,List.getElem?_replicate]
  split <;> rfl
 rw [zOw hr z.free 0 (by rw [hz.len]) (by rw [List.length_replicate]) (fun j l hj f hf=>by
  have hj5:j<5:=by rw [← hz.len]; exact (List.getElem?_eq_some_iff.1 hj).1
  rw [hz.get hj5] at hj
  cases hj
  rw [Nat.zero_add]
  exact hin j hj5 f hf) (by rw [h0]; decide),h0]
 constructor
 ·rintro (h | ⟨j,l,x,h1,h2,h3,h4⟩)
  ·exact absurd h (by decide)
  ·have hj5:j<5:=by rw [← hz.len]; exact (List.getElem?_eq_some_iff.1 h1).1
   rw [hz.get hj5] at h1
   cases h1
   rw [Nat.zero_add] at h4
   exact ⟨j,x,h2,h3,h4⟩
 ·rintro ⟨j,x,h2,h3,h4⟩
  rcases Nat.lt_or_ge j 5 with hj | hj
  ·exact .inr ⟨j,lst z j,x,hz.get hj,h2,h3,by rw [Nat.zero_add]; exact h4⟩
  ·rw [zMn hz.len hj] at h2; exact absurd h2 (by simp)
theorem zMq {f:Nat} {x:Int} (hk:k<5) (h0:0≤x) (ha:x%2 ^ k=0):(x≤(f:Int)∧(f:Int)<x+2 ^ k)↔x=((f/2 ^ k*2 ^ k:Nat):Int):=by
 have hk':k=0∨k=1∨k=2∨k=3∨k=4:=by omega
 rcases hk' with rfl | rfl | rfl | rfl | rfl <;> simp only [pw0,pw1,pw2,pw3,pw4,Nat.reducePow] at * <;> omega
theorem zZY (hz:Zk z) (f:Int):zId z f=some (zKH z f):=by
 unfold zId zKH
 rw [zRt hz,zAt]
 by_cases h:zEw z=0
 ·obtain ⟨hr,hin,_⟩:=zE5 hz h
  have hbl:zCY z f 0=some (inside z f 0):=zKi (k:=0) hr (by omega)
  rw [dt h,zz rfl,hbl,zAt]
  cases hi:inside z f 0 with
  | false=>rfl
  | true =>
   have hb:=zAO hr hi
   rw [pw0] at hb
   obtain ⟨m,rfl⟩:=Int.eq_ofNat_of_zero_le hb.1
   have hm:m<(zNT z).length:=by rw [zMH]; omega
   rw [Bool.and_true,zz rfl,zQB hz hr hin,zAt,zP (zMv (zAC hm)),zFU hm,Int.toNat_natCast,List.getD_eq_getElem?_getD,List.getElem?_eq_getElem hm]
   rfl
 ·rw [df h]
  rfl
theorem zX9 (hz:Zk z) (hI:inI z.start=true) (f:Int):zGF z f=some (zKH z f):=by
 unfold zGF zKH
 rw [zOm hz hI,zAt]
 by_cases h:zEw z=0
 ·obtain ⟨hr,hin,_⟩:=zE5 hz h
  have hie:zBg z f 0=some (inside z f 0):=zJU (k:=0) hr (by omega)
  rw [dt h,Bool.not_true,Bool.not_false,zz rfl,hie,zAt]
  cases hi:inside z f 0 with
  | false=>rfl
  | true =>
   have hb:=zAO hr hi
   rw [pw0] at hb
   obtain ⟨m,rfl⟩:=Int.eq_ofNat_of_zero_le hb.1
   refine (zf (by rfl)).trans ?_
   unfold zFT
   obtain ⟨r,r1,r2⟩:=zRd hz h (f:=m) (by omega) 5 z8 0 (by omega) (by unfold z8; omega)
   rw [z0i,r1,zAt]
   congr 1
   rw [Bool.true_and,Bool.true_and,decide_eq_decide,Int.toNat_natCast]
   refine Iff.trans r2 (Iff.trans ?_ (zJD hz hr hin m).symm)
   constructor
   ·rintro ⟨j,_,hj,hm⟩
    have hbj:=zAO hr (hin j hj _ hm)
    have haj:=(zAr hr).1 (hin j hj _ hm)
    have:=(zMq (f:=m) hj hbj.1 haj.2.1).2 rfl
    exact ⟨j,_,hm,this.1,this.2⟩
   ·rintro ⟨j,x,hx,h1,h2⟩
    rcases Nat.lt_or_ge j 5 with hj | hj
    ·have hbj:=zAO hr (hin j hj _ hx)
     have haj:=(zAr hr).1 (hin j hj _ hx)
     have:=(zMq (f:=m) hj hbj.1 haj.2.1).1 ⟨h1,h2⟩
     exact ⟨j,Nat.zero_le _,hj,this▸hx⟩
    ·rw [zMn hz.len hj] at hx; exact absurd hx (by simp)
 ·rw [df h]
  rfl
def zU6 (z:zW):Int:=zPV 0 z.free
theorem zWm (hk:k<5) {n:Nat} (hn:n≤1000000):0≤(n:Int)*2 ^ k∧(n:Int)*2 ^ k≤16000000:=by
 have hk':k=0∨k=1∨k=2∨k=3∨k=4:=by omega
 rcases hk' with rfl | rfl | rfl | rfl | rfl <;> simp only [pw0,pw1,pw2,pw3,pw4] <;> omega
theorem zWH (hz:Zk z):∀ (m n k:Nat) (acc:Int),k+m=4→m<n→0≤acc∧acc≤k*16000000 → ∃ r,zEL z 4 n acc (k:Int)=some r∧r=acc+zPV k ((z.free.take 4).drop k)∧0≤r∧r≤64000000:=by
 have hl4:(z.free.take 4).length=4:=by rw [List.length_take,hz.len]; rfl
 have hcut:zE9 z.free 0 4=z.free.take 4:=rfl
 intro m
 induction m with
 | zero =>
  intro n k acc h1 h2 h3
  obtain ⟨n,rfl⟩:=ex1 ‹_<n›
  refine ⟨acc,?_,?_,by omega,by omega⟩
  ·show zCT _ _ _ _ _=_
   unfold zCT
   rw [hcut,zf (df (by omega))]
   rfl
  ·rw [List.drop_eq_nil_of_le (by omega)]
   show acc=acc+0
   omega
 | succ m ih =>
  intro n k acc h1 h2 h3
  obtain ⟨n,rfl⟩:=ex1 ‹_<n›
  have hk:k<(z.free.take 4).length:=by omega
  have hg:=zLl (hz.get (k:=k) (by omega)) (show k<4 by omega)
  obtain ⟨a1,a2⟩:=List.getElem?_eq_some_iff.1 hg
  have hb:=zWm (k:=k) (by omega) (hz.bd k)
  obtain ⟨r,r1,r2,r3,r4⟩:=ih n (k+1) (acc+((lst z k).length:Int)*2 ^ k) (by omega) (by omega) (by omega)
  refine ⟨r,?_,?_,r3,r4⟩
  ·rw [← r1]
   show zCT _ _ _ _ _=_
   unfold zCT
   rw [hcut,zz (dt (by omega)),zP (zAC hk),zFU hk,a2,Int.toNat_natCast,zP (zM2 (by omega)),zP (zu (by omega)),zP (zu (by omega)),zP (zu (by omega))]
   rfl
  ·rw [r2,List.drop_eq_getElem_cons a1,a2]
   conv=>rhs; unfold zPV
   omega
theorem zR9:∀ (ls:List (List Int)) (k:Nat) (l:List Int),zPV k (ls++[l])=zPV k ls+(l.length:Int)*2 ^ (k+ls.length)
 | [],k,l=>by simp [zPV]
 | a::ls,k,l=>by
  show zPV k (a::(ls++[l]))=_
  unfold zPV
  rw [zR9 ls (k+1) l,show k+1+ls.length=k+(a::ls).length by simp; omega]
  omega
theorem zYp (hz:Zk z) (hI:inI z.start=true) (h:zEw z=0):zIP z=some (zU6 z)∧0≤zU6 z∧zU6 z≤80000000:=by
 have h4:=hz.bd 4
 have hb:=zWm (k:=4) (by omega) h4
 obtain ⟨r,r1,r2,r3,r4⟩:=zWH hz 4 z8 0 0 (by omega) (by unfold z8; omega) (by omega)
 have hfr:z.free=z.free.take 4++[lst z 4]:=by
  match hq:z.free,hz.len with
  | [a,b,c,d,e],_=>unfold lst; rw [hq]; rfl
 have hnum:zU6 z=r+((lst z 4).length:Int)*2 ^ 4:=by
  unfold zU6
  rw [hfr,zR9,r2,List.length_take,hz.len]
  show _=0+zPV 0 (z.free.take 4)+_
  rw [Int.zero_add]
  rfl
 refine ⟨?_,by omega,by omega⟩
 unfold zIP zHH zKq
 rw [zOm hz hI,zAt,zAt,dt h]
 refine (congrArg (fun q=>Option.bind q _) ((zf (by rfl)).trans ((zP (by rfl)).trans ((zP (dt hz.len)).trans r1)))).trans ?_
 rw [zAt]
 have e4:(z.free.getD (4:Int).toNat []).length=(lst z 4).length:=rfl
 have e16:(2:Int) ^ (4:Int).toNat=2 ^ 4:=rfl
 rw [e4,e16]
 refine (congrArg (fun q=>Option.bind q _) ((zf (by rfl)).trans (zP (zu (by omega))))).trans ?_
 rw [zAt,zP (zu (by omega)),hnum]
end
end Go.Proofs.Ytplkliakhdkpcaa
namespace Go.Proofs.Ytplkliakhdkpcaa
open Go Go.RowKit Go.Wk Go.Am
structure Ck (c:zK):Prop where
 n:c.lists.length≤1000
 l:∀ x,x∈c.lists→x.length≤1000
def pcR (c:zK) (zn:Int):Int :=
 if zn<1∨6<zn then 1 else if (c.lists.length:Int)=zn then (if c.lists.flatten.all zBj=true then (if c.lists.flatten.Nodup then 0 else 7) else 2) else 3
section
variable {c:zK}
theorem Ck.le (h:Ck c) {i:Nat} (hi:i<c.lists.length):c.lists[i].length≤1000:=h.l _ (List.getElem_mem hi)
theorem zO8 {i:Nat} (hi:i<c.lists.length):(c.lists.drop i).flatten=c.lists[i]++(c.lists.drop (i+1)).flatten:=by
 rw [List.drop_eq_getElem_cons hi]
 rfl
theorem zQC {i:Nat} (hi:c.lists.length≤i):(c.lists.drop i).flatten=[]:=by rw [List.drop_eq_nil_of_le hi]; rfl
theorem pl1 {se:Int→Int→Option Int} {acc:Int} {j:Nat} {l:List Int} (hc:Ck c) (hj:j<c.lists.length) (hl:c.lists[j]=l) (h0:0≤acc∧acc≤1000000000):∀ (m n i:Nat),i+m=l.length→m<n →
  zFG se c acc (j:Int) n (i:Int)=if (l.drop i).all zBj=true then se (acc+l.length) ((j+1:Nat):Int) else some 2:=by
 have hb:l.length≤1000:=by rw [← hl]; exact hc.le hj
 have hn:=hc.n
 have e:at_ c.lists (j:Int)=l:=by rw [zFU hj,hl]
 intro m
 induction m with
 | zero =>
  intro n i h1 h2
  obtain ⟨n,rfl⟩:=ex1 ‹_<n›
  show zDO _ _ _ _ _ _=_
  unfold zDO zGc zGd
  rw [e,zf (df (by omega)),zP (zu (by omega)),zP (zu (by omega)),List.drop_eq_nil_of_le (by omega)]
  rfl
 | succ m ih =>
  intro n i h1 h2
  obtain ⟨n,rfl⟩:=ex1 ‹_<n›
  have hi:i<l.length:=by omega
  show zDO _ _ _ _ _ _=_
  unfold zDO
  rw [e,zz (dt (by omega)),zP (zAC hi),zFU hi,List.drop_eq_getElem_cons hi,List.all_cons,zP (zu (by omega))]
  show cnd (!zBj l[i]) _ _=_
  cases hf:zBj l[i] with
  | false=>rfl
  | true=>exact ih n (i+1) (by omega) (by omega)
theorem pl0 (hc:Ck c):∀ (m n i acc:Nat),i+m=c.lists.length→m<n→acc≤i*1000 →
  zBn c n (acc:Int) (i:Int)=if ((c.lists.drop i).flatten).all zBj=true then zFH c ((acc+(c.lists.drop i).flatten.length:Nat):Int) else some 2:=by
 have hn:=hc.n
 intro m
 induction m with
 | zero =>
  intro n i acc h1 h2 h3
  obtain ⟨n,rfl⟩:=ex1 ‹_<n›
  show zDN _ _ _ _=_
  unfold zDN
  rw [zf (df (by omega)),zQC (by omega)]
  rfl
 | succ m ih =>
  intro n i acc h1 h2 h3
  obtain ⟨n,rfl⟩:=ex1 ‹_<n›
  have hi:i<c.lists.length:=by omega
  have hb:=hc.le hi
  show zDN _ _ _ _=_
  unfold zDN
  rw [zz (dt (by omega)),zP (zAC hi),z0i,pl1 hc hi rfl (by omega) c.lists[i].length z8 0 (by omega) (by unfold z8; omega),List.drop_zero,zO8 hi,List.all_append,List.length_append]
  cases hf:c.lists[i].all zBj with
  | false=>rfl
  | true =>
   rw [if_pos rfl,Bool.true_and]
   have:=ih n (i+1) (acc+c.lists[i].length) (by omega) (by omega) (by omega)
   rw [show acc+c.lists[i].length+((c.lists.drop (i+1)).flatten).length=acc+(c.lists[i].length+((c.lists.drop (i+1)).flatten).length) by omega] at this
   rw [← this]
   congr 1
def zMI (m:List (Int×Bool)) (l:List Int):List (Int×Bool):=l.foldl (fun q f=>zJ9 q f true) m
theorem fm1 {se:Int→List (Int×Bool)→Option (List (Int×Bool))} {j:Nat} {l:List Int} (hc:Ck c) (hj:j<c.lists.length) (hl:c.lists[j]=l):∀ (m n i:Nat) (q:List (Int×Bool)),i+m=l.length→m<n →
  zEn se c (j:Int) n (i:Int) q=se ((j+1:Nat):Int) (zMI q (l.drop i)):=by
 have hb:l.length≤1000:=by rw [← hl]; exact hc.le hj
 have hn:=hc.n
 have e:at_ c.lists (j:Int)=l:=by rw [zFU hj,hl]
 intro m
 induction m with
 | zero =>
  intro n i q h1 h2
  obtain ⟨n,rfl⟩:=ex1 ‹_<n›
  show zCr _ _ _ _ _ _=_
  unfold zCr zF6
  rw [e,zf (df (by omega)),zP (zu (by omega)),List.drop_eq_nil_of_le (by omega)]
  rfl
 | succ m ih =>
  intro n i q h1 h2
  obtain ⟨n,rfl⟩:=ex1 ‹_<n›
  have hi:i<l.length:=by omega
  show zCr _ _ _ _ _ _=_
  unfold zCr
  rw [e,zz (dt (by omega)),zP (zAC hi),zFU hi,List.drop_eq_getElem_cons hi,zP (zu (by omega))]
  exact ih n (i+1) (zJ9 q l[i] true) (by omega) (by omega)
theorem fm0 (hc:Ck c):∀ (m n i:Nat) (q:List (Int×Bool)),i+m=c.lists.length→m<n→zBo c n (i:Int) q=some (zMI q (c.lists.drop i).flatten):=by
 have hn:=hc.n
 intro m
 induction m with
 | zero =>
  intro n i q h1 h2
  obtain ⟨n,rfl⟩:=ex1 ‹_<n›
  show zCt _ _ _ _=_
  unfold zCt
  rw [zf (df (by omega)),zQC (by omega)]
  rfl
 | succ m ih =>
  intro n i q h1 h2
  obtain ⟨n,rfl⟩:=ex1 ‹_<n›
  have hi:i<c.lists.length:=by omega
  have hb:=hc.le hi
  show zCt _ _ _ _=_
  unfold zCt
  rw [zz (dt (by omega)),zP (zAC hi),z0i,fm1 hc hi rfl c.lists[i].length z8 0 q (by omega) (by unfold z8; omega),List.drop_zero,zO8 hi,ih n (i+1) _ (by omega) (by omega)]
  unfold zMI
  rw [List.foldl_append]
theorem zQT (k:Int):∀ (q:List (Int×Bool)) (x:Int),x∈(zJ9 q k true).map (·.1)↔x=k∨x∈q.map (·.1)
 | [],x=>by simp [zJ9]
 | p::q,x=>by
  unfold zJ9
  by_cases h:p.1=k
  ·rw [if_pos h]
   simp [h]
  ·rw [if_neg h]
   simp only [List.map_cons,List.mem_cons,zQT k q x]
   constructor
   ·rintro (h1 | h1 | h1)
    ·exact .inr (.inl h1)
    ·exact .inl h1
    ·exact .inr (.inr h1)
   ·rintro (h1 | h1 | h1)
    ·exact .inr (.inl h1)
    ·exact .inl h1
    ·exact .inr (.inr h1)
theorem zRQ (k:Int):∀ (q:List (Int×Bool)),(k∈q.map (·.1)→(zJ9 q k true).length=q.length)∧(k ∉ q.map (·.1)→(zJ9 q k true).length=q.length+1)
 | []=>by simp [zJ9]
 | p::q=>by
  have ih:=zRQ k q
  unfold zJ9
  by_cases h:p.1=k
  ·rw [if_pos h]
   exact ⟨fun _=>rfl,fun hn=>absurd (by simp [h]) hn⟩
  ·rw [if_neg h]
   refine ⟨fun hm => ?_,fun hn => ?_⟩
   ·have hm':k∈q.map (·.1):=by
     rcases List.mem_cons.1 hm with e | e
     ·exact absurd e.symm h
     ·exact e
    show (zJ9 q k true).length+1=q.length+1
    rw [ih.1 hm']
   ·show (zJ9 q k true).length+1=q.length+1+1
    rw [ih.2 (fun hm=>hn (List.mem_cons_of_mem _ hm))]
theorem zPv:∀ (l:List Int) (q:List (Int×Bool)),(zMI q l).length≤q.length+l.length∧((zMI q l).length=q.length+l.length↔l.Nodup ∧ ∀ x,x∈l→x ∉ q.map (·.1))
 | [],q=>⟨Nat.le_refl _,by simp [zMI]⟩
 | a::l,q=>by
  obtain ⟨h1,h2⟩:=zPv l (zJ9 q a true)
  have e:zMI q (a::l)=zMI (zJ9 q a true) l:=rfl
  rw [e]
  have hk:=zQT a q
  have hl:=zRQ a q
  by_cases ha:a∈q.map (·.1)
  ·rw [hl.1 ha] at h1 h2
   refine ⟨by simp; omega,⟨fun h=>by simp at h; omega,fun h=>absurd ha (h.2 a (by simp))⟩⟩
  ·rw [hl.2 ha] at h1 h2
   refine ⟨by simp; omega,?_⟩
   rw [show q.length+(a::l).length=q.length+1+l.length by simp; omega,h2,List.nodup_cons]
   constructor
   ·rintro ⟨n1,n2⟩
    refine ⟨⟨fun hm=>n2 a hm ((hk a).2 (.inl rfl)),n1⟩,fun x hx => ?_⟩
    rcases List.mem_cons.1 hx with rfl | hx
    ·exact ha
    ·exact fun hq=>n2 x hx ((hk x).2 (.inr hq))
   ·rintro ⟨⟨n0,n1⟩,n2⟩
    refine ⟨n1,fun x hx hq => ?_⟩
    rcases (hk x).1 hq with rfl | hq
    ·exact n0 hx
    ·exact n2 x (by simp [hx]) hq
theorem zVj (hc:Ck c) {zn:Int}:zGN c zn=some (pcR c zn):=by
 unfold zGN pcR
 by_cases h1:zn<1∨6<zn
 ·rw [if_pos h1]
  refine zz ?_
  rcases h1 with h1 | h1 <;> simp [h1]
 ·have h1a:¬ zn<1:=fun h=>h1 (.inl h)
  have h1b:¬ 6<zn:=fun h=>h1 (.inr h)
  rw [if_neg h1,df h1a,df h1b]
  refine (zf (by rfl)).trans ?_
  by_cases h2:(c.lists.length:Int)=zn
  ·rw [if_pos h2,dt h2]
   refine (zf (by rfl)).trans ?_
   have hp:=pl0 hc c.lists.length z8 0 0 (by omega) (by have:=hc.n; unfold z8; omega) (by omega)
   rw [List.drop_zero,Nat.zero_add] at hp
   refine Eq.trans hp ?_
   cases hf:c.lists.flatten.all zBj with
   | false=>rfl
   | true =>
    rw [if_pos rfl,if_pos rfl]
    unfold zFH zDr
    rw [z0i,fm0 hc c.lists.length z8 0 [] (by omega) (by have:=hc.n; unfold z8; omega),zAt,List.drop_zero]
    have hm:=(zPv c.lists.flatten []).2
    simp only [List.length_nil,Nat.zero_add,List.map_nil,List.not_mem_nil,not_false_eq_true,implies_true,and_true] at hm
    by_cases hd:c.lists.flatten.Nodup
    ·rw [if_pos hd,dt (by have:=hm.2 hd; omega)]
     rfl
    ·rw [if_neg hd,df (fun h=>hd (hm.1 (by omega)))]
     rfl
  ·rw [if_neg h2,df h2]
   rfl
def zJz:List Bool→List Int→Option (List Bool)
 | d,[]=>some d
 | d,f::r=>if d.getD f.toNat false=true then none else zJz (d.set f.toNat true) r
theorem zPr:∀ {l:List Int} {d d':List Bool},zJz d l=some d'→d'.length=d.length
 | [],_,_,h=>by unfold zJz at h; cases h; rfl
 | x::l,d,d',h=>by
  unfold zJz at h
  split at h
  ·cases h
  ·rw [zPr h,List.length_set]
theorem zQF:∀ (l r:List Int) (d:List Bool),zJz d (l++r)=(zJz d l).bind fun d'=>zJz d' r
 | [],_,_=>rfl
 | x::l,r,d=>by
  show (if d.getD x.toNat false=true then none else zJz (d.set x.toNat true) (l++r))=(if d.getD x.toNat false=true then none else zJz (d.set x.toNat true) l).bind fun d'=>zJz d' r
  split
  ·rfl
  ·exact zQF l r _
theorem zPk:∀ (l:List Int) (d:List Bool),d.length=256→(∀ f,f∈l→0≤f∧f<256)→(zJz d l≠none↔l.Nodup ∧ ∀ f,f∈l→d.getD f.toNat false=false)
 | [],d,_,_=>by simp [zJz]
 | x::l,d,hd,hin=>by
  have hx:=hin x (by simp)
  unfold zJz
  cases hq:d.getD x.toNat false with
  | true =>
   rw [if_pos rfl]
   exact ⟨fun h=>absurd rfl h,fun h=>by have:=h.2 x (by simp); rw [hq] at this; cases this⟩
  | false =>
   rw [if_neg (by simp),zPk l _ (by rw [List.length_set]; exact hd) (fun f hf=>hin f (by simp [hf])),List.nodup_cons]
   constructor
   ·rintro ⟨h1,h2⟩
    refine ⟨⟨fun hm => ?_,h1⟩,fun f hf => ?_⟩
    ·have:=h2 x hm
     rw [zBz _ _ _ (by omega),if_pos rfl] at this
     cases this
    ·rcases List.mem_cons.1 hf with rfl | hf
     ·exact hq
     ·have:=h2 f hf
      rw [zBz _ _ _ (by omega)] at this
      split at this
      ·cases this
      ·exact this
   ·rintro ⟨⟨h0,h1⟩,h2⟩
    refine ⟨h1,fun f hf => ?_⟩
    have hfb:=hin f (by simp [hf])
    rw [zBz _ _ _ (by omega),if_neg]
    ·exact h2 f (by simp [hf])
    ·intro e
     have:f=x:=by omega
     exact h0 (this▸hf)
theorem ql3 {se:Int→Option Int} {j:Nat} {l:List Int} (hc:Ck c) (hj:j<c.lists.length) (hl:c.lists[j]=l):∀ (m n i:Nat),i+m=l.length→m<n →
  zIw se c (j:Int) n (i:Int)=if (l.drop i).all zBj=true then se ((j+1:Nat):Int) else some 2:=by
 have hb:l.length≤1000:=by rw [← hl]; exact hc.le hj
 have hn:=hc.n
 have e:at_ c.lists (j:Int)=l:=by rw [zFU hj,hl]
 intro m
 induction m with
 | zero =>
  intro n i h1 h2
  obtain ⟨n,rfl⟩:=ex1 ‹_<n›
  show zFm _ _ _ _ _=_
  unfold zFm zLA
  rw [e,zf (df (by omega)),zP (zu (by omega)),List.drop_eq_nil_of_le (by omega)]
  rfl
 | succ m ih =>
  intro n i h1 h2
  obtain ⟨n,rfl⟩:=ex1 ‹_<n›
  have hi:i<l.length:=by omega
  show zFm _ _ _ _ _=_
  unfold zFm
  have ho:zC0 l[i]=some (!zBj l[i]):=by
   unfold zC0 zBj
   congr 1
   rw [Bool.eq_iff_iff]
   simp only [Bool.or_eq_true,decide_eq_true_eq,Bool.not_eq_true',Bool.and_eq_false_iff,decide_eq_false_iff_not]
   omega
  rw [e,zz (dt (by omega)),zP (zAC hi),zFU hi,ho,zAt,List.drop_eq_getElem_cons hi,List.all_cons,zP (zu (by omega))]
  cases hf:zBj l[i] with
  | false=>rfl
  | true=>exact ih n (i+1) (by omega) (by omega)
theorem ql2 (hc:Ck c):∀ (m n i:Nat),i+m=c.lists.length→m<n →
  zIv c n (i:Int)=if ((c.lists.drop i).flatten).all zBj=true then zIt c else some 2:=by
 have hn:=hc.n
 intro m
 induction m with
 | zero =>
  intro n i h1 h2
  obtain ⟨n,rfl⟩:=ex1 ‹_<n›
  show zFv _ _ _=_
  unfold zFv
  rw [zf (df (by omega)),zQC (by omega)]
  rfl
 | succ m ih =>
  intro n i h1 h2
  obtain ⟨n,rfl⟩:=ex1 ‹_<n›
  have hi:i<c.lists.length:=by omega
  have hb:=hc.le hi
  show zFv _ _ _=_
  unfold zFv
  rw [zz (dt (by omega)),zP (zAC hi),z0i,ql3 hc hi rfl c.lists[i].length z8 0 (by omega) (by unfold z8; omega),List.drop_zero,zO8 hi,List.all_append]
  cases hf:c.lists[i].all zBj with
  | false=>rfl
  | true =>
   rw [if_pos rfl,Bool.true_and]
   exact ih n (i+1) (by omega) (by omega)
theorem ql1 {se:Int→List Bool→Option Int} {j:Nat} {l:List Int} (hc:Ck c) (hj:j<c.lists.length) (hl:c.lists[j]=l) (hin:∀ f,f∈l→0≤f∧f<256):∀ (m n i:Nat) (d:List Bool),i+m=l.length→m<n→d.length=256 →
  zI1 se c (j:Int) n (i:Int) d=match zJz d (l.drop i) with | none=>some 7 | some d'=>se ((j+1:Nat):Int) d':=by
 have hb:l.length≤1000:=by rw [← hl]; exact hc.le hj
 have hn:=hc.n
 have e:at_ c.lists (j:Int)=l:=by rw [zFU hj,hl]
 intro m
 induction m with
 | zero =>
  intro n i d h1 h2 h3
  obtain ⟨n,rfl⟩:=ex1 ‹_<n›
  show zFx _ _ _ _ _ _=_
  unfold zFx zK6
  rw [e,zf (df (by omega)),zP (zu (by omega)),List.drop_eq_nil_of_le (by omega)]
  rfl
 | succ m ih =>
  intro n i d h1 h2 h3
  obtain ⟨n,rfl⟩:=ex1 ‹_<n›
  have hi:i<l.length:=by omega
  have hf:=hin _ (List.getElem_mem hi)
  obtain ⟨f,hf2⟩:=Int.eq_ofNat_of_zero_le hf.1
  have hfl:f<d.length:=by omega
  show zFx _ _ _ _ _ _=_
  unfold zFx
  have ed:at_ d (f:Int)=d.getD f false:=by rw [zFU hfl,List.getD_eq_getElem?_getD,List.getElem?_eq_getElem hfl]; rfl
  rw [e,zz (dt (by omega)),zP (zAC hi),zFU hi,List.drop_eq_getElem_cons hi,hf2,zP (zAC hfl),ed,zP (zu (by omega)),Int.toNat_natCast]
  unfold zJz
  rw [Int.toNat_natCast]
  cases hd:d.getD f false with
  | true=>rfl
  | false =>
   rw [zf rfl,if_neg (by simp)]
   exact ih n (i+1) (d.set f true) (by omega) (by omega) (by rw [List.length_set]; exact h3)
theorem ql0 (hc:Ck c) (hin:∀ f,f∈c.lists.flatten→0≤f∧f<256):∀ (m n i:Nat) (d:List Bool),i+m=c.lists.length→m<n→d.length=256 →
  zI5 c n (i:Int) d=match zJz d (c.lists.drop i).flatten with | none=>some 7 | some _=>some 0:=by
 have hn:=hc.n
 intro m
 induction m with
 | zero =>
  intro n i d h1 h2 h3
  obtain ⟨n,rfl⟩:=ex1 ‹_<n›
  show zFt _ _ _ _=_
  unfold zFt
  rw [zf (df (by omega)),zQC (by omega)]
  rfl
 | succ m ih =>
  intro n i d h1 h2 h3
  obtain ⟨n,rfl⟩:=ex1 ‹_<n›
  have hi:i<c.lists.length:=by omega
  have hb:=hc.le hi
  show zFt _ _ _ _=_
  unfold zFt
  rw [zz (dt (by omega)),zP (zAC hi),z0i,ql1 hc hi rfl (fun f hf=>hin f (List.mem_flatten.2 ⟨_,List.getElem_mem hi,hf⟩)) c.lists[i].length z8 0 d (by omega) (by unfold z8; omega) h3,List.drop_zero,zO8 hi,zQF]
  cases hm:zJz d c.lists[i] with
  | none=>rfl
  | some d'=>exact ih n (i+1) d' (by omega) (by omega) (by rw [zPr hm]; exact h3)
theorem zYR (hc:Ck c) {zn:Int}:zJy c zn=some (pcR c zn):=by
 unfold zJy pcR
 by_cases h1:zn<1∨6<zn
 ·rw [if_pos h1]
  refine zz ?_
  rcases h1 with h1 | h1 <;> simp [h1]
 ·have h1a:¬ zn<1:=fun h=>h1 (.inl h)
  have h1b:¬ 6<zn:=fun h=>h1 (.inr h)
  rw [if_neg h1,df h1a,df h1b]
  refine (zf (by rfl)).trans ?_
  by_cases h2:(c.lists.length:Int)=zn
  ·rw [if_pos h2,dt h2]
   refine (zf (by rfl)).trans ?_
   have hp:=ql2 hc c.lists.length z8 0 (by omega) (by have:=hc.n; unfold z8; omega)
   rw [List.drop_zero] at hp
   refine Eq.trans hp ?_
   cases hf:c.lists.flatten.all zBj with
   | false=>rfl
   | true =>
    rw [if_pos rfl,if_pos rfl]
    unfold zIt
    have hin:∀ f,f∈c.lists.flatten→0≤f∧f<256:=fun f hm=>by
     have:=List.all_eq_true.1 hf f hm
     unfold zBj at this
     simpa using this
    rw [zP (by rfl),z0i,ql0 hc hin c.lists.length z8 0 _ (by omega) (by have:=hc.n; unfold z8; omega) (by rw [List.length_replicate]; rfl),List.drop_zero]
    have hm:=zPk c.lists.flatten (List.replicate (256:Int).toNat false) (by rw [List.length_replicate]; rfl) hin
    have hz:∀ f:Int,f∈c.lists.flatten→(List.replicate (256:Int).toNat false).getD f.toNat false=false:=fun f _=>by
     rw [List.getD_eq_getElem?_getD,List.getElem?_replicate]
     split <;> rfl
    by_cases hd:c.lists.flatten.Nodup
    ·rw [if_pos hd]
     have:=hm.2 ⟨hd,hz⟩
     cases hq:zJz (List.replicate (256:Int).toNat false) c.lists.flatten with
     | none=>exact absurd hq this
     | some d=>rfl
    ·rw [if_neg hd]
     cases hq:zJz (List.replicate (256:Int).toNat false) c.lists.flatten with
     | none=>rfl
     | some d=>exact absurd (hm.1 (by rw [hq]; simp)).1 hd
  ·rw [if_neg h2,df h2]
   rfl
end
end Go.Proofs.Ytplkliakhdkpcaa
namespace Go.Proofs.Ytplkliakhdkpcaa
open Go Go.RowKit Go.Wk Go.Am
structure Al (a:zH):Prop where
 n:a.nodes.length≤1000
 z:a.zones.length≤1000
 c:a.caches.length≤1000
 zk:∀ z,z∈a.zones→Zk z∧inI z.start=true
 ck:∀ c,c∈a.caches→Ck c
def inZ (z:zW) (f:Int):Bool:=decide (z.start≤f)&&decide (f<z.start+z.count)
def zE:Int→List zW→Int
 | _,[]=>0
 | s,z::r=>if zEw z=0 then (if z.start=s then zE (s+z.count) r else 10) else zEw z
def cE (h zn:Int):List zK→Int
 | []=>0
 | c::r=>if pcR c zn=0 then (if (c.lists.any fun l=>decide (h<(l.length:Int)))=true then 9 else cE h zn r) else pcR c zn
def feL (z:zW):List Bool→List Int→Int×List Bool
 | d,[]=>(0,d)
 | d,f::r=>if inZ z f=true then (if (d.getD f.toNat false||zKH z f)=true then (7,d) else feL z (d.set f.toNat true) r) else (2,d)
def feC:List Bool→List zW→List (List Int)→Int×List Bool
 | d,z::zs,l::ls=>if (feL z d l).1=0 then feC (feL z d l).2 zs ls else feL z d l
 | d,_,_=>(0,d)
def feA (zs:List zW):List Bool→List zK→Int
 | _,[]=>0
 | d,c::cs=>if (feC d zs c.lists).1=0 then feA zs (feC d zs c.lists).2 cs else (feC d zs c.lists).1
def zY3 (a:zH):Int :=
 if zUt a.nodes a.batch a.high (a.zones.length:Int)=true then
  (if zE 0 a.zones=0 then
   (if (a.caches.length:Int)=(a.nodes.length:Int) then
    (if cE a.high (a.zones.length:Int) a.caches=0 then feA a.zones zEv a.caches else cE a.high (a.zones.length:Int) a.caches) else 3)
  else zE 0 a.zones) else 2
section
variable {a:zH}
theorem zAy {α:Type} [Inhabited α] {l:List α} {i:Nat} (h:i<l.length):at_ l (i:Int)∈l:=by rw [zFU h]; exact List.getElem_mem h
theorem zCj {α:Type} [Inhabited α] {l:List α} {i:Nat} (h:i<l.length):l.drop i=at_ l (i:Int)::l.drop (i+1):=by rw [zFU h]; exact List.drop_eq_getElem_cons h
theorem zl5 (h:Al a):∀ (m n i:Nat) (s:Int),i+m=a.zones.length→m<n→0≤s∧s≤i*256 →
  zDj a n s (i:Int)=if zE s (a.zones.drop i)=0 then zDi a else some (zE s (a.zones.drop i)):=by
 have hz:=h.z
 intro m
 induction m with
 | zero =>
  intro n i s h1 h2 h3
  obtain ⟨n,rfl⟩:=ex1 ‹_<n›
  show zCG _ _ _ _=_
  unfold zCG
  rw [zf (df (by omega)),List.drop_eq_nil_of_le (by omega)]
  rfl
 | succ m ih =>
  intro n i s h1 h2 h3
  obtain ⟨n,rfl⟩:=ex1 ‹_<n›
  have hi:i<a.zones.length:=by omega
  have hk:=h.zk _ (zAy hi)
  show zCG _ _ _ _=_
  unfold zCG
  rw [zz (dt (by omega)),zP (zAC hi),zOm hk.1 hk.2,zAt,zCj hi]
  unfold zE
  generalize hz':at_ a.zones (i:Int)=z at *
  by_cases hc:zEw z=0
  ·have hb:=zAx (zFI hc)
   rw [dt hc,if_pos hc,Bool.not_true,zf rfl]
   by_cases hs:z.start=s
   ·rw [dt hs,if_pos hs,Bool.not_true,zf rfl,zP (zu (by omega)),zP (zu (by omega))]
    exact ih n (i+1) (s+z.count) (by omega) (by omega) (by omega)
   ·rw [df hs,if_neg hs]
    rfl
  ·rw [df hc,if_neg hc,if_neg hc]
   rfl
theorem zVI {l:List (List Int)} {h:Int} {i:Nat} (hi:i<l.length):((l.drop i).any fun q=>decide (h<(q.length:Int)))=(decide (h<((at_ l (i:Int)).length:Int))||(l.drop (i+1)).any fun q=>decide (h<(q.length:Int))):=by
 rw [zCj hi,List.any_cons]
theorem hl4 {se:Int→Option Int} {c:zK} {j:Nat} (hj:j<a.caches.length) (hc:at_ a.caches (j:Int)=c) (hk:Ck c) (ha:Al a):∀ (m n i:Nat),i+m=c.lists.length→m<n →
  zDl se a (j:Int) n (i:Int)=if ((c.lists.drop i).any fun l=>decide (a.high<(l.length:Int)))=true then some 9 else se ((j+1:Nat):Int):=by
 have hn:=hk.n
 have hcl:=ha.c
 intro m
 induction m with
 | zero =>
  intro n i h1 h2
  obtain ⟨n,rfl⟩:=ex1 ‹_<n›
  show zCD _ _ _ _ _=_
  unfold zCD zE4
  rw [hc,zf (df (by omega)),zP (zu (by omega)),List.drop_eq_nil_of_le (by omega)]
  rfl
 | succ m ih =>
  intro n i h1 h2
  obtain ⟨n,rfl⟩:=ex1 ‹_<n›
  have hi:i<c.lists.length:=by omega
  show zCD _ _ _ _ _=_
  unfold zCD
  rw [hc,zz (dt (by omega)),zP (zAC hi),zVI hi,zP (zu (by omega))]
  cases decide (a.high<((at_ c.lists (i:Int)).length:Int)) with
  | true=>rfl
  | false=>exact ih n (i+1) (by omega) (by omega)
theorem zWI {c:zK} {zn:Int} (h:pcR c zn=0):(c.lists.length:Int)=zn∧(∀ f,f∈c.lists.flatten→zBj f=true):=by
 unfold pcR at h
 split at h
 ·cases h
 ·split at h
  ·rename_i h2
   split at h
   ·rename_i h3
    exact ⟨h2,fun f hf=>List.all_eq_true.1 h3 f hf⟩
   ·cases h
  ·cases h
theorem hl3 (ha:Al a):∀ (m n i:Nat),i+m=a.caches.length→m<n →
  zBP a n (i:Int)=if cE a.high (a.zones.length:Int) (a.caches.drop i)=0 then zDf a else some (cE a.high (a.zones.length:Int) (a.caches.drop i)):=by
 have hcl:=ha.c
 intro m
 induction m with
 | zero =>
  intro n i h1 h2
  obtain ⟨n,rfl⟩:=ex1 ‹_<n›
  show zB9 _ _ _=_
  unfold zB9
  rw [zf (df (by omega)),List.drop_eq_nil_of_le (by omega)]
  rfl
 | succ m ih =>
  intro n i h1 h2
  obtain ⟨n,rfl⟩:=ex1 ‹_<n›
  have hi:i<a.caches.length:=by omega
  have hk:=ha.ck _ (zAy hi)
  show zB9 _ _ _=_
  unfold zB9
  rw [zz (dt (by omega)),zP (zAC hi),zVj hk,zAt,zCj hi]
  unfold cE
  by_cases h0:pcR (at_ a.caches (i:Int)) (a.zones.length:Int)=0
  ·rw [dt h0,if_pos h0,Bool.not_true,zf rfl,z0i,hl4 hi rfl hk ha _ z8 0 (Nat.zero_add _) (by have:=hk.n; unfold z8; omega),List.drop_zero]
   cases hq:((at_ a.caches (i:Int)).lists.any fun l=>decide (a.high<(l.length:Int))) with
   | true=>rfl
   | false =>
    rw [if_neg Bool.false_ne_true,if_neg Bool.false_ne_true]
    exact ih n (i+1) (by omega) (by omega)
  ·rw [df h0,if_neg h0,if_neg h0]
   rfl
def zIx (f:Int):List zW→Nat→Int
 | [],_ => -1
 | z::r,i=>if inZ z f=true then (i:Int) else zIx f r (i+1)
theorem zTU (f:Int):∀ (zs:List zW) (i:Nat),zIx f zs i = -1∨((i:Int)≤zIx f zs i∧zIx f zs i<((i+zs.length:Nat):Int))
 | [],_ => .inl rfl
 | z::r,i=>by
  unfold zIx
  split
  ·exact .inr ⟨Int.le_refl _,by simp; omega⟩
  ·rcases zTU f r (i+1) with h | h
   ·exact .inl h
   ·exact .inr ⟨by omega,by simp; omega⟩
def zTZ (zs:List zW):Prop:=zs.Pairwise fun x y => ∀ f,inZ x f=true→inZ y f=false
theorem zOt (f:Int):∀ (zs:List zW) (i p:Nat) (hp:p<zs.length),zTZ zs→(zIx f zs i=((i+p:Nat):Int)↔inZ zs[p] f=true)
 | [],_,_,hp,_=>absurd hp (by simp)
 | z::r,i,p,hp,ha=>by
  have ha':=List.pairwise_cons.1 ha
  unfold zIx
  cases p with
  | zero =>
   show _↔inZ z f=true
   by_cases h:inZ z f=true
   ·rw [if_pos h]; simp [h]
   ·rw [if_neg h]
    refine ⟨fun e => ?_,fun e=>absurd e h⟩
    rcases zTU f r (i+1) with h1 | h1 <;> omega
  | succ p =>
   have hp':p<r.length:=by simpa using hp
   show _↔inZ r[p] f=true
   by_cases h:inZ z f=true
   ·rw [if_pos h,ha'.1 _ (List.getElem_mem hp') f h]
    refine ⟨fun e=>by omega,fun e=>by cases e⟩
   ·rw [if_neg h,show i+(p+1)=i+1+p by omega]
    exact zOt f r (i+1) p hp' ha'.2
theorem zSV:∀ {zs:List zW} {s:Int},zE s zs=0→(∀ z,z∈zs→zEw z=0∧s≤z.start)∧zTZ zs
 | [],_,_=>⟨fun z hz=>absurd hz (by simp),List.Pairwise.nil⟩
 | z::r,s,h=>by
  unfold zE at h
  by_cases hc:zEw z=0
  ·rw [if_pos hc] at h
   by_cases hs:z.start=s
   ·rw [if_pos hs] at h
    have hb:=zAx (zFI hc)
    obtain ⟨h1,h2⟩:=zSV h
    refine ⟨fun y hy => ?_,List.pairwise_cons.2 ⟨fun y hy f hf => ?_,h2⟩⟩
    ·rcases List.mem_cons.1 hy with rfl | hy
     ·exact ⟨hc,by omega⟩
     ·have:=h1 y hy
      exact ⟨this.1,by omega⟩
    ·have:=(h1 y hy).2
     unfold inZ at hf ⊢
     simp only [Bool.and_eq_true,decide_eq_true_eq] at hf
     rw [df (by omega)]
     rfl
   ·rw [if_neg hs] at h; cases h
  ·rw [if_neg hc] at h; exact absurd h hc
theorem zWz {f:Int} (ha:Al a) (hv:∀ z,z∈a.zones→zEw z=0):∀ (m n i:Nat),i+m=a.zones.length→m<n →
  zAk a.zones (fun y=>zCx y f) n (i:Int)=some (zIx f (a.zones.drop i) i):=by
 have hzl:=ha.z
 intro m
 induction m with
 | zero =>
  intro n i h1 h2
  obtain ⟨n,rfl⟩:=ex1 ‹_<n›
  show zAI _ _ _ _=_
  unfold zAI
  rw [zf (df (by omega)),List.drop_eq_nil_of_le (by omega)]
  rfl
 | succ m ih =>
  intro n i h1 h2
  obtain ⟨n,rfl⟩:=ex1 ‹_<n›
  have hi:i<a.zones.length:=by omega
  have hb:=zAx (zFI (hv _ (zAy hi)))
  show zAI _ _ _ _=_
  unfold zAI
  have hz1:zCx (at_ a.zones (i:Int)) f=some (inZ (at_ a.zones (i:Int)) f):=by
   unfold zCx
   rw [zP (zMv (zu (by omega)))]
   rfl
  rw [zz (dt (by omega)),zP (zAC hi)]
  show ((zCx (at_ a.zones (i:Int)) f).bind _)=_
  rw [hz1,zAt,zCj hi,zP (zu (by omega))]
  unfold zIx
  cases inZ (at_ a.zones (i:Int)) f with
  | true=>rfl
  | false=>exact ih n (i+1) (by omega) (by omega)
theorem zXq {f:Int} (ha:Al a) (hv:∀ z,z∈a.zones→zEw z=0):zB4 a f=some (zIx f a.zones 0):=by
 unfold zB4 zBF
 have:=zWz (f:=f) ha hv a.zones.length z8 0 (by omega) (by have:=ha.z; unfold z8; omega)
 rw [List.drop_zero] at this
 rw [z0i,this]
 rfl
theorem zMG (z:zW):∀ (l:List Int) (d:List Bool),(feL z d l).2.length=d.length
 | [],_=>rfl
 | f::l,d=>by
  unfold feL
  split
  ·split
   ·rfl
   ·rw [zMG z l,List.length_set]
  ·rfl
theorem zQo:∀ (zs:List zW) (ls:List (List Int)) (d:List Bool),(feC d zs ls).2.length=d.length
 | [],_,_=>by unfold feC; rfl
 | _::_,[],_=>by unfold feC; rfl
 | z::zs,l::ls,d=>by
  unfold feC
  split
  ·rw [zQo zs ls,zMG]
  ·exact zMG z l d
def SM (q:List (Int×Bool)) (d:List Bool):Prop := ∀ f:Nat,f<256→zL9 false q (f:Int)=d.getD f false
theorem zNK (k f:Int):∀ (q:List (Int×Bool)),zL9 false (zJ9 q k true) f=if f=k then true else zL9 false q f
 | []=>by
  unfold zJ9 zL9
  by_cases h:f=k
  ·rw [if_pos h,h]; simp
  ·rw [if_neg h]
   have:¬ k=f:=fun e=>h e.symm
   simp [this]
 | p::q=>by
  have ih:=zNK k f q
  unfold zJ9
  by_cases hp:p.1=k
  ·rw [if_pos hp]
   unfold zL9
   by_cases h:f=k
   ·rw [if_pos h,h]; simp
   ·rw [if_neg h]
    have h1:¬ k=f:=fun e=>h e.symm
    have h2:¬ p.1=f:=fun e=>h (by rw [← e,hp])
    simp [h1,h2]
  ·rw [if_neg hp]
   by_cases h2:p.1=f
   ·have h1:¬ f=k:=fun e=>hp (by rw [h2,e])
    rw [if_neg h1]
    unfold zL9
    simp [h2]
   ·have e1:∀ r:List (Int×Bool),zL9 false (p::r) f=zL9 false r f:=fun r=>by unfold zL9; simp [h2]
    rw [e1,e1,ih]
theorem SM.set {q:List (Int×Bool)} {d:List Bool} {k:Nat} (h:SM q d) (hd:d.length=256) (hk:k<256):SM (zJ9 q (k:Int) true) (d.set k true):=by
 intro f hf
 rw [zNK,zBz _ _ _ (by omega),h f hf]
 by_cases e:f=k
 ·rw [if_pos e,if_pos (by omega)]
 ·rw [if_neg e,if_neg (by omega)]
theorem zM1 {z:zW} {f:Int} (hr:ranges z=true) (h:inZ z f=true):0≤f∧f<256:=by
 have hb:=zAx hr
 unfold inZ at h
 simp only [Bool.and_eq_true,decide_eq_true_eq] at h
 omega
theorem zZh {α:Type} {b c:Bool} {x y:Option α}:(cnd (!b) (some c) (some default)).bind (fun q=>cnd (b||q) x y)=cnd (b||c) x y:=by
 cases b <;> rfl
theorem el2 {se:Int→List (Int×Bool)→Option Int} {c:zK} {j p:Nat} {z:zW} {l:List Int} (ha:Al a) (hv:∀ z,z∈a.zones→zEw z=0) (hap:zTZ a.zones) (hj:j<a.caches.length) (hc:at_ a.caches (j:Int)=c) (hp:p<c.lists.length) (hpz:p<a.zones.length) (hz:at_ a.zones (p:Int)=z) (hl:at_ c.lists (p:Int)=l) (hll:l.length≤1000) (hpb:p≤1000) :
  ∀ (m n i:Nat) (q:List (Int×Bool)) (d:List Bool),i+m=l.length→m<n→d.length=256→SM q d → ∃ q',SM q' (feL z d (l.drop i)).2 ∧
   zBh se a (j:Int) (p:Int) n (i:Int) q=if (feL z d (l.drop i)).1=0 then se ((p+1:Nat):Int) q' else some (feL z d (l.drop i)).1:=by
 have hkz:=ha.zk z (hz▸zAy hpz)
 have hcz:=hv z (hz▸zAy hpz)
 intro m
 induction m with
 | zero =>
  intro n i q d h1 h2 h3 h4
  obtain ⟨n,rfl⟩:=ex1 ‹_<n›
  rw [List.drop_eq_nil_of_le (by omega)]
  refine ⟨q,h4,?_⟩
  show zCN _ _ _ _ _ _ _=_
  unfold zCN zE7
  rw [hc,hl,zf (df (by omega)),zP (zu (by omega))]
  rfl
 | succ m ih =>
  intro n i q d h1 h2 h3 h4
  obtain ⟨n,rfl⟩:=ex1 ‹_<n›
  have hi:i<l.length:=by omega
  have hx:=zOt (at_ l (i:Int)) a.zones 0 p hpz hap
  rw [← zFU hpz,hz,Nat.zero_add] at hx
  have ee:zBh se a (j:Int) (p:Int) (n+1) (i:Int) q=cnd (!decide (zIx (at_ l (i:Int)) a.zones 0=(p:Int))) (some 2) (cnd (zL9 false q (at_ l (i:Int))||zKH z (at_ l (i:Int))) (some 7) (zBh se a (j:Int) (p:Int) n ((i+1:Nat):Int) (zJ9 q (at_ l (i:Int)) true))):=by
   show zCN _ _ _ _ _ _ _=_
   unfold zCN
   rw [hc,hl,zz (dt (by omega)),zP (zAC hi),zXq ha hv,zAt,zP (zMv (zAC hpz)),hz,zX9 hkz.1 hkz.2,zZh,zP (zu (by omega))]
   rfl
  rw [ee,zCj hi]
  unfold feL
  generalize at_ l (i:Int)=f at *
  cases hq:inZ z f with
  | false =>
   rw [df (fun e=>by rw [hx.1 e] at hq; cases hq)]
   exact ⟨q,h4,rfl⟩
  | true =>
   have hf:=zM1 (zFI hcz) hq
   obtain ⟨g,rfl⟩:=Int.eq_ofNat_of_zero_le hf.1
   rw [dt (hx.2 hq),Bool.not_true,zf rfl,if_pos rfl,h4 g (by omega),Int.toNat_natCast]
   cases hr:(d.getD g false||zKH z (g:Int)) with
   | true=>exact ⟨q,h4,rfl⟩
   | false =>
    rw [zf rfl,if_neg Bool.false_ne_true]
    exact ih n (i+1) _ _ (by omega) (by omega) (by rw [List.length_set]; exact h3) (h4.set h3 (by omega))
theorem el1 {se:Int→List (Int×Bool)→Option Int} {c:zK} {j:Nat} (ha:Al a) (hv:∀ z,z∈a.zones→zEw z=0) (hap:zTZ a.zones) (hj:j<a.caches.length) (hc:at_ a.caches (j:Int)=c) (hlen:c.lists.length=a.zones.length) :
  ∀ (m n p:Nat) (q:List (Int×Bool)) (d:List Bool),p+m=c.lists.length→m<n→d.length=256→SM q d → ∃ q',SM q' (feC d (a.zones.drop p) (c.lists.drop p)).2 ∧
   zAw se a (j:Int) n (p:Int) q=if (feC d (a.zones.drop p) (c.lists.drop p)).1=0 then se ((j+1:Nat):Int) q' else some (feC d (a.zones.drop p) (c.lists.drop p)).1:=by
 have hcl:=ha.c
 have hck:=ha.ck c (hc▸zAy hj)
 have hn:=hck.n
 intro m
 induction m with
 | zero =>
  intro n p q d h1 h2 h3 h4
  obtain ⟨n,rfl⟩:=ex1 ‹_<n›
  rw [List.drop_eq_nil_of_le (show a.zones.length≤p by omega)]
  unfold feC
  refine ⟨q,h4,?_⟩
  show zCL _ _ _ _ _ _=_
  unfold zCL zE2
  rw [hc,zf (df (by omega)),zP (zu (by omega))]
  rfl
 | succ m ih =>
  intro n p q d h1 h2 h3 h4
  obtain ⟨n,rfl⟩:=ex1 ‹_<n›
  have hp:p<c.lists.length:=by omega
  have hpz:p<a.zones.length:=by omega
  have hll:=hck.l _ (zAy hp)
  obtain ⟨q1,s1,s2⟩:=el2 (se:=zAw se a (j:Int) n) ha hv hap hj hc hp hpz rfl rfl hll (by omega) _ z8 0 q d (Nat.zero_add _) (by unfold z8; omega) h3 h4
  rw [List.drop_zero] at s1 s2
  have ee:zAw se a (j:Int) (n+1) (p:Int) q=zBh (zAw se a (j:Int) n) a (j:Int) (p:Int) z8 ((0:Nat):Int) q:=by
   show zCL _ _ _ _ _ _=_
   unfold zCL
   rw [hc,zz (dt (by omega)),zP (zAC hp)]
   rfl
  rw [ee,s2,zCj hp,zCj hpz]
  unfold feC
  by_cases h0:(feL (at_ a.zones (p:Int)) d (at_ c.lists (p:Int))).1=0
  ·rw [if_pos h0,if_pos h0]
   exact ih n (p+1) q1 _ (by omega) (by omega) (by rw [zMG]; exact h3) s1
  ·rw [if_neg h0,if_neg h0]
   exact ⟨q1,s1,(if_neg h0).symm⟩
theorem el0 (ha:Al a) (hv:∀ z,z∈a.zones→zEw z=0) (hap:zTZ a.zones) (hlen:∀ c,c∈a.caches→c.lists.length=a.zones.length) :
  ∀ (m n j:Nat) (q:List (Int×Bool)) (d:List Bool),j+m=a.caches.length→m<n→d.length=256→SM q d→zAa a n (j:Int) q=some (feA a.zones d (a.caches.drop j)):=by
 have hcl:=ha.c
 intro m
 induction m with
 | zero =>
  intro n j q d h1 h2 h3 h4
  obtain ⟨n,rfl⟩:=ex1 ‹_<n›
  show zB5 _ _ _ _=_
  unfold zB5
  rw [zf (df (by omega)),List.drop_eq_nil_of_le (by omega)]
  rfl
 | succ m ih =>
  intro n j q d h1 h2 h3 h4
  obtain ⟨n,rfl⟩:=ex1 ‹_<n›
  have hj:j<a.caches.length:=by omega
  have hl:=hlen _ (zAy hj)
  obtain ⟨q1,s1,s2⟩:=el1 (se:=zAa a n) ha hv hap hj rfl hl _ z8 0 q d (Nat.zero_add _) (by have:=(ha.ck _ (zAy hj)).n; unfold z8; omega) h3 h4
  rw [List.drop_zero,List.drop_zero] at s1 s2
  show zB5 _ _ _ _=_
  unfold zB5
  rw [zz (dt (by omega)),zP (zAC hj),z0i,s2,zCj hj]
  unfold feA
  by_cases h0:(feC d a.zones (at_ a.caches (j:Int)).lists).1=0
  ·rw [if_pos h0,if_pos h0]
   exact ih n (j+1) q1 _ (by omega) (by omega) (by rw [zQo]; exact h3) s1
  ·rw [if_neg h0,if_neg h0]
theorem zVf:∀ {cs:List zK} {h zn:Int},cE h zn cs=0 → ∀ c,c∈cs→(c.lists.length:Int)=zn
 | [],_,_,_,_,hc=>absurd hc (by simp)
 | c::cs,h,zn,he,x,hx=>by
  unfold cE at he
  by_cases h0:pcR c zn=0
  ·rw [if_pos h0] at he
   split at he
   ·cases he
   ·rcases List.mem_cons.1 hx with rfl | hx
    ·exact (zWI h0).1
    ·exact zVf he x hx
  ·rw [if_neg h0] at he; exact absurd he h0
theorem zYl (ha:Al a):zAn a=some (zY3 a):=by
 have h1:=ha.n
 have h2:=ha.z
 have h3:=ha.c
 unfold zAn zY3
 rw [zOl (by omega),zAt]
 cases zUt a.nodes a.batch a.high (a.zones.length:Int) with
 | false=>rfl
 | true =>
  have hz:=zl5 ha a.zones.length z8 0 0 (by omega) (by unfold z8; omega) (by omega)
  rw [List.drop_zero] at hz
  rw [Bool.not_true,zf rfl,if_pos rfl]
  refine Eq.trans hz ?_
  by_cases h0:zE 0 a.zones=0
  ·rw [if_pos h0,if_pos h0]
   obtain ⟨z1,z2⟩:=zSV h0
   unfold zDi
   by_cases hl:(a.caches.length:Int)=(a.nodes.length:Int)
   ·rw [dt hl,if_pos hl,Bool.not_true,zf rfl,z0i,hl3 ha a.caches.length z8 0 (by omega) (by unfold z8; omega),List.drop_zero]
    show (if cE a.high (a.zones.length:Int) a.caches=0 then _ else _)=some (if cE a.high (a.zones.length:Int) a.caches=0 then _ else _)
    by_cases hc:cE a.high (a.zones.length:Int) a.caches=0
    ·rw [if_pos hc,if_pos hc]
     unfold zDf
     rw [z0i,el0 ha (fun z hz=>(z1 z hz).1) z2 (fun c hm=>by have:=zVf hc c hm; omega) a.caches.length z8 0 [] zEv (by omega) (by unfold z8; omega) zJm (fun f hf=>by
      unfold zEv zL9
      rw [List.getD_eq_getElem?_getD,List.getElem?_replicate,if_pos hf]
      rfl),List.drop_zero]
    ·rw [if_neg hc,if_neg hc]
   ·rw [df hl,if_neg hl]
    rfl
  ·rw [if_neg h0,if_neg h0]
end
end Go.Proofs.Ytplkliakhdkpcaa
namespace Go.Proofs.Ytplkliakhdkpcaa
open Go Go.RowKit Go.Wk Go.Am
section
variable {a:zH}
structure Va (a:zH):Prop where
 al:Al a
 z:zE 0 a.zones=0
 len:∀ c,c∈a.caches→c.lists.length=a.zones.length
 z1:1≤a.zones.length
theorem Va.chk (h:Va a) {z:zW} (hz:z∈a.zones):zEw z=0:=((zSV h.z).1 z hz).1
theorem zW0 {f:Int} {l:List Int} (hl:l.length≤1000):∀ (m n i:Nat),i+m=l.length→m<n → ∃ r,zBA l f n (i:Int)=some r∧(0≤r↔f∈l.drop i):=by
 intro m
 induction m with
 | zero =>
  intro n i h1 h2
  obtain ⟨n,rfl⟩:=ex1 ‹_<n›
  refine ⟨-1,?_,?_⟩
  ·show zA9 _ _ _ _=_
   unfold zA9
   rw [zf (df (by omega))]
   rfl
  ·rw [List.drop_eq_nil_of_le (by omega)]
   simp
 | succ m ih =>
  intro n i h1 h2
  obtain ⟨n,rfl⟩:=ex1 ‹_<n›
  have hi:i<l.length:=by omega
  have ee:zBA l f (n+1) (i:Int)=cnd (decide (f=at_ l (i:Int))) (some (i:Int)) (zBA l f n ((i+1:Nat):Int)):=by
   show zA9 _ _ _ _=_
   unfold zA9
   rw [zz (dt (by omega)),zP (zAC hi),zP (zu (by omega))]
   rfl
  rw [ee,zCj hi]
  by_cases h:f=at_ l (i:Int)
  ·rw [zz (dt h)]
   exact ⟨_,rfl,⟨fun _=>by rw [h]; simp,fun _=>Int.natCast_nonneg i⟩⟩
  ·rw [zf (df h)]
   obtain ⟨r,r1,r2⟩:=ih n (i+1) (by omega) (by omega)
   exact ⟨r,r1,by rw [r2,List.mem_cons]; exact ⟨.inr,fun q=>q.resolve_left h⟩⟩
theorem contains {f:Int} {l:List Int} (hl:l.length≤1000):zBu l f=some (decide (f∈l)):=by
 unfold zBu zDg
 obtain ⟨r,r1,r2⟩:=zW0 (f:=f) hl l.length z8 0 (by omega) (by unfold z8; omega)
 rw [List.drop_zero] at r2
 rw [z0i,r1,zAt]
 congr 1
 rw [decide_eq_decide]
 exact r2
theorem zUH (h:Va a) {f:Int} {p:Nat} (hp:p<a.zones.length):∀ (m n j:Nat),j+m=a.caches.length→m<n → ∃ r,zw a.caches (fun y=>zAj y (p:Int) f) n (j:Int)=some r∧(0≤r ↔ ∃ c,c∈a.caches.drop j∧f∈at_ c.lists (p:Int)):=by
 have hcl:=h.al.c
 intro m
 induction m with
 | zero =>
  intro n j h1 h2
  obtain ⟨n,rfl⟩:=ex1 ‹_<n›
  refine ⟨-1,?_,?_⟩
  ·show zh _ _ _ _=_
   unfold zh
   rw [zf (df (by omega))]
   rfl
  ·rw [List.drop_eq_nil_of_le (by omega)]
   simp
 | succ m ih =>
  intro n j h1 h2
  obtain ⟨n,rfl⟩:=ex1 ‹_<n›
  have hj:j<a.caches.length:=by omega
  have hl:=h.len _ (zAy hj)
  have hb:=(h.al.ck _ (zAy hj)).l _ (zAy (show p<(at_ a.caches (j:Int)).lists.length by omega))
  have h1c:zAj (at_ a.caches (j:Int)) (p:Int) f=some (decide (f∈at_ (at_ a.caches (j:Int)).lists (p:Int))):=by
   unfold zAj
   rw [zP (zAC (by omega)),contains hb]
   rfl
  have ee:zw a.caches (fun y=>zAj y (p:Int) f) (n+1) (j:Int)=cnd (decide (f∈at_ (at_ a.caches (j:Int)).lists (p:Int))) (some (j:Int)) (zw a.caches (fun y=>zAj y (p:Int) f) n ((j+1:Nat):Int)):=by
   show zh _ _ _ _=_
   unfold zh
   rw [zz (dt (by omega)),zP (zAC hj)]
   show ((zAj (at_ a.caches (j:Int)) (p:Int) f).bind _)=_
   rw [h1c,zAt,zP (zu (by omega))]
   rfl
  rw [ee,zCj hj]
  by_cases hm:f∈at_ (at_ a.caches (j:Int)).lists (p:Int)
  ·rw [zz (dt hm)]
   exact ⟨_,rfl,⟨fun _=>⟨_,by simp,hm⟩,fun _=>Int.natCast_nonneg j⟩⟩
  ·rw [zf (df hm)]
   obtain ⟨r,r1,r2⟩:=ih n (j+1) (by omega) (by omega)
   refine ⟨r,r1,r2.trans ⟨fun ⟨c,c1,c2⟩=>⟨c,by simp [c1],c2⟩,fun ⟨c,c1,c2⟩ => ?_⟩⟩
   rcases List.mem_cons.1 c1 with rfl | c1
   ·exact absurd c2 hm
   ·exact ⟨c,c1,c2⟩
theorem zXr {se:Int→Option Int} {f:Int} {p j:Nat} {l:List Int} (h:Va a) (hp:p<a.zones.length) (hj:j<a.caches.length) (hl:at_ (at_ a.caches (j:Int)).lists (p:Int)=l):∀ (m n i:Nat),i+m=l.length→m<n →
  (f∈l.drop i→zDP se a (p:Int) f (j:Int) n (i:Int)=some (j:Int))∧(f ∉ l.drop i→zDP se a (p:Int) f (j:Int) n (i:Int)=se ((j+1:Nat):Int)):=by
 have hcl:=h.al.c
 have hlen:=h.len _ (zAy hj)
 have hb:=(h.al.ck _ (zAy hj)).l _ (zAy (show p<(at_ a.caches (j:Int)).lists.length by omega))
 rw [hl] at hb
 intro m
 induction m with
 | zero =>
  intro n i h1 h2
  obtain ⟨n,rfl⟩:=ex1 ‹_<n›
  rw [List.drop_eq_nil_of_le (by omega)]
  refine ⟨fun hm=>absurd hm (by simp),fun _ => ?_⟩
  show zFF _ _ _ _ _ _ _=_
  unfold zFF zKC
  rw [hl,zP (zAC hj),zP (zAC (by omega)),zf (df (by omega)),zP (zu (by omega))]
  rfl
 | succ m ih =>
  intro n i h1 h2
  obtain ⟨n,rfl⟩:=ex1 ‹_<n›
  have hi:i<l.length:=by omega
  have ee:zDP se a (p:Int) f (j:Int) (n+1) (i:Int)=cnd (decide (at_ l (i:Int)=f)) (some (j:Int)) (zDP se a (p:Int) f (j:Int) n ((i+1:Nat):Int)):=by
   show zFF _ _ _ _ _ _ _=_
   unfold zFF
   rw [hl,zP (zAC hj),zP (zAC (by omega)),zz (dt (by omega)),zP (zAC hi),zP (zu (by omega))]
   rfl
  rw [ee,zCj hi]
  by_cases hq:at_ l (i:Int)=f
  ·rw [zz (dt hq)]
   exact ⟨fun _=>rfl,fun hn=>absurd (by rw [hq]; simp) hn⟩
  ·rw [zf (df hq)]
   obtain ⟨r1,r2⟩:=ih n (i+1) (by omega) (by omega)
   refine ⟨fun hm=>r1 ?_,fun hn=>r2 (fun hm=>hn (by simp [hm]))⟩
   rcases List.mem_cons.1 hm with e | e
   ·exact absurd e.symm hq
   ·exact e
theorem zTB (h:Va a) {f:Int} {p:Nat} (hp:p<a.zones.length):∀ (m n j:Nat),j+m=a.caches.length→m<n → ∃ r,zCi a (p:Int) f n (j:Int)=some r∧(0≤r ↔ ∃ c,c∈a.caches.drop j∧f∈at_ c.lists (p:Int)):=by
 have hcl:=h.al.c
 intro m
 induction m with
 | zero =>
  intro n j h1 h2
  obtain ⟨n,rfl⟩:=ex1 ‹_<n›
  refine ⟨-1,?_,?_⟩
  ·show zB7 _ _ _ _ _=_
   unfold zB7
   rw [zf (df (by omega))]
   rfl
  ·rw [List.drop_eq_nil_of_le (by omega)]
   simp
 | succ m ih =>
  intro n j h1 h2
  obtain ⟨n,rfl⟩:=ex1 ‹_<n›
  have hj:j<a.caches.length:=by omega
  have hlen:=h.len _ (zAy hj)
  have hb:=(h.al.ck _ (zAy hj)).l _ (zAy (show p<(at_ a.caches (j:Int)).lists.length by omega))
  obtain ⟨i1,i2⟩:=zXr (se:=zCi a (p:Int) f n) (f:=f) h hp hj rfl _ z8 0 (Nat.zero_add _) (by unfold z8; omega)
  rw [List.drop_zero] at i1 i2
  have ee:zCi a (p:Int) f (n+1) (j:Int)=zDP (zCi a (p:Int) f n) a (p:Int) f (j:Int) z8 ((0:Nat):Int):=by
   show zB7 _ _ _ _ _=_
   unfold zB7
   rw [zz (dt (by omega))]
   rfl
  rw [ee,zCj hj]
  by_cases hm:f∈at_ (at_ a.caches (j:Int)).lists (p:Int)
  ·rw [i1 hm]
   exact ⟨_,rfl,⟨fun _=>⟨_,by simp,hm⟩,fun _=>Int.natCast_nonneg j⟩⟩
  ·rw [i2 hm]
   obtain ⟨r,r1,r2⟩:=ih n (j+1) (by omega) (by omega)
   refine ⟨r,r1,r2.trans ⟨fun ⟨c,c1,c2⟩=>⟨c,by simp [c1],c2⟩,fun ⟨c,c1,c2⟩ => ?_⟩⟩
   rcases List.mem_cons.1 c1 with rfl | c1
   ·exact absurd c2 hm
   ·exact ⟨c,c1,c2⟩
end
end Go.Proofs.Ytplkliakhdkpcaa
namespace Go.Proofs.Ytplkliakhdkpcaa
open Go Go.RowKit Go.Wk Go.Am
section
variable {z:zW} {k:Nat} {l:List Int}
theorem zN7 (hr:ranges z=true) (hk:k<5) {g:Nat}:∀ (l:List Int) {s:List Int},s.length=256→(∀ f,f∈l→inside z f k=true) → ∀ x,x∈l→x≤(g:Int)→(g:Int)<x+2 ^ k→s.getD g 0+1≤(zHj k s l).getD g 0
 | [],_,_,_,_,hx,_,_=>absurd hx (by simp)
 | y::l,s,hs,hin,x,hx,h1,h2=>by
  have hbd:=zAO hr (hin y (by simp))
  have pn:=zLw (k:=k) (by omega)
  have hg:=zKe (2 ^ k) y.toNat s g (by rw [hs]; omega)
  unfold zHj
  rcases List.mem_cons.1 hx with rfl | hx
  ·rw [if_pos (by omega)] at hg
   have:=zJ3 l k (zI8 s x.toNat (2 ^ k)) g
   omega
  ·have hge:=zM6 (2 ^ k) y.toNat s g
   have:=zN7 hr hk l (s:=zI8 s y.toNat (2 ^ k)) (by rw [zKS]; exact hs) (fun f hf=>hin f (by simp [hf])) x hx h1 h2
   omega
theorem zOh (hr:ranges z=true) {g:Nat}:∀ (ls:List (List Int)) (k:Nat) {s:List Int},k+ls.length=5→s.length=256→(∀ j l,ls[j]?=some l → ∀ f,f∈l→inside z f (k+j)=true) → ∀ j l x,ls[j]?=some l→x∈l→x≤(g:Int)→(g:Int)<x+2 ^ (k+j)→s.getD g 0+1≤(zGt k s ls).getD g 0
 | [],_,_,_,_,_,_,_,_,hj,_,_,_=>absurd hj (by simp)
 | l0::ls,k,s,hk,hs,hin,j,l,x,hj,hx,h1,h2=>by
  have hk':k+(ls.length+1)=5:=hk
  unfold zGt
  cases j with
  | zero =>
   simp at hj
   subst hj
   have:=zN7 (k:=k) hr (by omega) l0 hs (fun f hf=>by have:=hin 0 l0 rfl f hf; rwa [Nat.add_zero] at this) x hx h1 h2
   have:=zNa ls (k+1) (zHj k s l0) g
   omega
  | succ j =>
   have hge:=zJ3 l0 k s g
   have:=zOh hr ls (k+1) (s:=zHj k s l0) (by omega) (by rw [zIT]; exact hs) (fun j' l' hj' f hf=>by
    have:=hin (j'+1) l' hj' f hf
    rwa [show k+(j'+1)=k+1+j' by omega] at this) j l x (by simpa using hj) hx h1 (by rw [show k+1+j=k+(j+1) by omega]; exact h2)
   omega
theorem zOp (hr:ranges z=true) {g:Nat}:∀ (ls:List (List Int)) (k:Nat) {s:List Int},k+ls.length=5→s.length=256→(∀ j l,ls[j]?=some l → ∀ f,f∈l→inside z f (k+j)=true) → ∀ i j l m x y,i<j→ls[i]?=some l→ls[j]?=some m→x∈l→y∈m→x≤(g:Int)→(g:Int)<x+2 ^ (k+i)→y≤(g:Int)→(g:Int)<y+2 ^ (k+j)→s.getD g 0+2≤(zGt k s ls).getD g 0
 | [],_,_,_,_,_,_,_,_,_,_,_,_,hi,_,_,_,_,_,_,_=>absurd hi (by simp)
 | l0::ls,k,s,hk,hs,hin,i,j,l,m,x,y,hij,hi,hj,hx,hy,h1,h2,h3,h4=>by
  have hk':k+(ls.length+1)=5:=hk
  have hin':∀ j' l',ls[j']?=some l' → ∀ f,f∈l'→inside z f (k+1+j')=true:=fun j' l' hj' f hf=>by
   have:=hin (j'+1) l' hj' f hf
   rwa [show k+(j'+1)=k+1+j' by omega] at this
  unfold zGt
  obtain ⟨j,rfl⟩:∃ q,j=q+1:=⟨j - 1,by omega⟩
  have hj':ls[j]?=some m:=by simpa using hj
  cases i with
  | zero =>
   simp at hi
   subst hi
   have a1:=zN7 (k:=k) hr (by omega) l0 hs (fun f hf=>by have:=hin 0 l0 rfl f hf; rwa [Nat.add_zero] at this) x hx h1 h2
   have a2:=zOh hr ls (k+1) (s:=zHj k s l0) (by omega) (by rw [zIT]; exact hs) hin' j m y hj' hy h3 (by rw [show k+1+j=k+(j+1) by omega]; exact h4)
   omega
  | succ i =>
   have hge:=zJ3 l0 k s g
   have:=zOp hr ls (k+1) (s:=zHj k s l0) (by omega) (by rw [zIT]; exact hs) hin' i j l m x y (by omega) (by simpa using hi) hj' hx hy h1 (by rw [show k+1+i=k+(i+1) by omega]; exact h2) h3 (by rw [show k+1+j=k+(j+1) by omega]; exact h4)
   omega
theorem zPP (l0:List Int):∀ r:List Int,zQq z k l0 r=true ↔ ∃ f,f∈r∧bud f k∈l0∧inside z (min f (bud f k)) (k+1)=true
 | []=>by unfold zQq; simp
 | f::r=>by
  unfold zQq
  by_cases h:(decide (bud f k∈l0)&&inside z (min f (bud f k)) (k+1))=true
  ·rw [if_pos h]
   simp only [Bool.and_eq_true,decide_eq_true_eq] at h
   exact ⟨fun _=>⟨f,by simp,h.1,h.2⟩,fun _=>rfl⟩
  ·rw [if_neg h,zPP l0 r]
   simp only [Bool.and_eq_true,decide_eq_true_eq] at h
   constructor
   ·rintro ⟨g,h1,h2⟩; exact ⟨g,by simp [h1],h2⟩
   ·rintro ⟨g,h1,h2,h3⟩
    rcases List.mem_cons.1 h1 with rfl | h1
    ·exact absurd ⟨h2,h3⟩ h
    ·exact ⟨g,h1,h2,h3⟩
theorem zRm:∀ (ls:List (List Int)) (k:Nat),zMY z k ls=false → ∀ j l,ls[j]?=some l→zQq z (k+j) l l=false
 | [],_,_,_,_,hj=>absurd hj (by simp)
 | l0::ls,k,h,j,l,hj=>by
  unfold zMY at h
  split at h
  ·cases h
  ·rename_i h0
   cases j with
   | zero =>
    simp at hj
    subst hj
    exact Bool.eq_false_iff.2 h0
   | succ j =>
    have:=zRm ls (k+1) h j l (by simpa using hj)
    rwa [show k+1+j=k+(j+1) by omega] at this
theorem zJq (hz:Zk z) (h:zEw z=0):OkZ z ∧ ∀ g:Nat,(zNT z).getD g 0=0∨(zNT z).getD g 0=1:=by
 obtain ⟨hr,hin,hs⟩:=zE5 hz h
 have hm:=zZd hz hr hin
 have hc:zEh z 0 z.free=0 ∧ ¬ zHr 0 zEv z.free=none∧zMY z 0 (z.free.take 4)=false:=by
  have h':=h
  unfold zEw at h'
  rw [if_neg (by rw [hr]; simp)] at h'
  by_cases h0:zEh z 0 z.free=0
  ·rw [if_pos h0] at h'
   by_cases h1:zHr 0 zEv z.free=none
   ·rw [if_pos h1] at h'; cases h'
   ·rw [if_neg h1] at h'
    by_cases h2:zMY z 0 (z.free.take 4)=true
    ·rw [if_pos h2] at h'; cases h'
    ·exact ⟨h0,h1,Bool.eq_false_iff.2 h2⟩
  ·rw [if_neg h0] at h'; exact absurd h' h0
 have h01:∀ g:Nat,(zNT z).getD g 0=0∨(zNT z).getD g 0=1:=by
  cases hd:zHr 0 zEv z.free with
  | none=>exact absurd hd hc.2.1
  | some d =>
   rw [hd] at hm
   intro g
   cases hb:d.getD g false with
   | true=>exact .inr (hm.t g hb)
   | false=>exact .inl (hm.f g hb)
 have hin':∀ j l,z.free[j]?=some l → ∀ f,f∈l→inside z f (0+j)=true:=fun j l hj f hf=>by
  have hj5:j<5:=by rw [← hz.len]; exact (List.getElem?_eq_some_iff.1 hj).1
  rw [hz.get hj5] at hj
  cases hj
  rw [Nat.zero_add]
  exact hin j hj5 f hf
 have lt5:∀ {k x},x∈lst z k→k<5:=fun {k x} hx=>by
  rcases Nat.lt_or_ge k 5 with hk | hk
  ·exact hk
  ·rw [zMn hz.len hk] at hx; exact absurd hx (by simp)
 have two:∀ k j x y f,k<j→x∈lst z k→y∈lst z j→x≤f→f<x+2 ^ k→y≤f→f<y+2 ^ j→False:=by
  intro k j x y f hkj hx hy h1 h2 h3 h4
  have hb:=zAO hr (hin k (lt5 hx) x hx)
  obtain ⟨g,rfl⟩:=Int.eq_ofNat_of_zero_le (show 0≤f by omega)
  have:=zOp hr (g:=g) z.free 0 (s:=List.replicate 256 0) (by rw [hz.len]) (by rw [List.length_replicate]) hin' k j _ _ x y hkj (hz.get (lt5 hx)) (hz.get (lt5 hy)) hx hy h1 (by rw [Nat.zero_add]; exact h2) h3 (by rw [Nat.zero_add]; exact h4)
  have h0:(List.replicate 256 (0:Int)).getD g 0=0:=by
   rw [List.getD_eq_getElem?_getD,List.getElem?_replicate]
   split <;> rfl
  rw [h0] at this
  have hc2:(zNT z).getD g 0=(zGt 0 (List.replicate 256 0) z.free).getD g 0:=rfl
  rcases h01 g with e | e <;> omega
 refine ⟨⟨hr,hz.len,hs,fun k x hx=>hin k (lt5 hx) x hx,fun k x j y f hx hy h1 h2 h3 h4 => ?_,fun k x hk hx hb => ?_⟩,h01⟩
 ·rcases Nat.lt_trichotomy k j with hkj | hkj | hkj
  ·exact (two k j x y f hkj hx hy h1 h2 h3 h4).elim
  ·subst hkj
   have b1:=zAO hr (hin k (lt5 hx) x hx)
   have b2:=zAO hr (hin k (lt5 hy) y hy)
   obtain ⟨g,rfl⟩:=Int.eq_ofNat_of_zero_le (show 0≤f by omega)
   have e1:=(zMq (f:=g) (lt5 hx) b1.1 ((zAr hr).1 (hin k (lt5 hx) x hx)).2.1).1 ⟨h1,h2⟩
   have e2:=(zMq (f:=g) (lt5 hy) b2.1 ((zAr hr).1 (hin k (lt5 hy) y hy)).2.1).1 ⟨h3,h4⟩
   exact ⟨rfl,by omega⟩
  ·exact (two j k y x f hkj hy hx h3 h4 h1 h2).elim
 ·have hn:=zRm (z.free.take 4) 0 hc.2.2 k _ (zLl (hz.get (k:=k) (by omega)) hk)
  rw [Nat.zero_add] at hn
  refine Bool.eq_false_iff.2 fun hi => ?_
  have:=(zPP (z:=z) (k:=k) (lst z k) (lst z k)).2 ⟨x,hx,hb,hi⟩
  rw [hn] at this
  cases this
theorem zLs (h:l.length≤1000000):zAp l=some l:=by
 unfold zAp
 rw [zP (dt (by show (0+_)*8≤_; omega))]
theorem zQp (hz:Zk z):∀ (m n i:Nat),i+m=5→m<n→zF0 z n (i:Int) z.free=some z:=by
 intro m
 induction m with
 | zero =>
  intro n i h1 h2
  obtain ⟨n,rfl⟩:=ex1 ‹_<n›
  show zDy _ _ _ _=_
  unfold zDy zHI
  rw [zf (df (by omega)),zP (dt (by omega))]
 | succ m ih =>
  intro n i h1 h2
  obtain ⟨n,rfl⟩:=ex1 ‹_<n›
  have hlen:=hz.len
  have e:z.free.getD (i:Int).toNat []=lst z i:=rfl
  have e3:zEF 5 [] z.free (i:Int).toNat (lst z i)=z.free:=by
   rw [zJI hlen (by omega)]
   exact zJd (by omega)
  show zDy _ _ _ _=_
  unfold zDy
  rw [zz (dt (by omega)),zP (zAC (by omega)),e,zLs (hz.bd i),zAt,zP (zu (by omega)),e3]
  exact ih n (i+1) (by omega) (by omega)
theorem zS7 (hz:Zk z):zGy z=some z:=zQp hz 5 z8 0 (by omega) (by unfold z8; omega)
theorem zWY (hz:Zk z) (h:zEw z=0) {m:Nat} (hm:m<256):∃ r,zFT z (m:Int)=some r∧(0≤r.1↔cov z m):=by
 obtain ⟨hr,hin,_⟩:=zE5 hz h
 obtain ⟨r,r1,r2⟩:=zRd hz h hm 5 z8 0 (by omega) (by unfold z8; omega)
 refine ⟨r,r1,r2.trans ?_⟩
 constructor
 ·rintro ⟨j,_,hj,hm⟩
  have hbj:=zAO hr (hin j hj _ hm)
  have haj:=(zAr hr).1 (hin j hj _ hm)
  have:=(zMq (f:=m) hj hbj.1 haj.2.1).2 rfl
  exact ⟨j,_,hm,this.1,this.2⟩
 ·rintro ⟨j,x,hx,h1,h2⟩
  rcases Nat.lt_or_ge j 5 with hj | hj
  ·have hbj:=zAO hr (hin j hj _ hx)
   have haj:=(zAr hr).1 (hin j hj _ hx)
   have:=(zMq (f:=m) hj hbj.1 haj.2.1).1 ⟨h1,h2⟩
   exact ⟨j,Nat.zero_le _,hj,this▸hx⟩
  ·rw [zMn hz.len hj] at hx; exact absurd hx (by simp)
theorem zW5 (hz:Zk z) (h:zEw z=0) {f:Int} (hk:k≤4) (hi:inside z f k=true) (hn:∀ g,f≤g→g<f+2 ^ k → ¬ cov z g):∀ (m n i:Nat),(i:Int)+m=f+2 ^ k→m<n→f≤i →
  zGp z f (k:Int) n (i:Int)=some (zNY (4 - k) z f k,0):=by
 obtain ⟨hr,hin,_⟩:=zE5 hz h
 have hb:=zAO hr hi
 obtain ⟨e,p1,p2⟩:=zIB (k:=k) (by omega)
 intro m
 induction m with
 | zero =>
  intro n i h1 h2 h3
  obtain ⟨n,rfl⟩:=ex1 ‹_<n›
  show zEb _ _ _ _ _=_
  unfold zEb zHy
  rw [e,zP (zM2 (by omega)),zP (zu (by omega)),zP (zu (by omega)),zf (df (by omega)),zS7 hz,zAt]
  show ((zIH z f (k:Int)).bind _)=_
  rw [zVQ (zJq hz h).1.putI hk hb.1 (by omega),zAt]
 | succ m ih =>
  intro n i h1 h2 h3
  obtain ⟨n,rfl⟩:=ex1 ‹_<n›
  obtain ⟨r,r1,r2⟩:=zWY hz h (m:=i) (by omega)
  show zEb _ _ _ _ _=_
  unfold zEb
  rw [e,zP (zM2 (by omega)),zP (zu (by omega)),zP (zu (by omega)),zz (dt (by omega)),r1,zAt,zf (df (fun hq=>hn i h3 (by omega) (r2.1 hq))),zP (zu (by omega))]
  exact ih n (i+1) (by omega) (by omega) (by omega)
theorem zVL (hz:Zk z) (hI:inI z.start=true) (h:zEw z=0) {f:Int} (hk:k≤4) (hi:inside z f k=true) (hn:∀ g,f≤g→g<f+2 ^ k → ¬ cov z g):zH4 z f (k:Int)=some (zNY (4 - k) z f k,0):=by
 obtain ⟨hr,hin,_⟩:=zE5 hz h
 have hb:=zAO hr hi
 obtain ⟨e,p1,p2⟩:=zIB (k:=k) (by omega)
 have pn:=zLw (k:=k) (by omega)
 obtain ⟨m,rfl⟩:=Int.eq_ofNat_of_zero_le hb.1
 unfold zH4
 rw [zOm hz hI,zAt,dt h,Bool.not_true,zf rfl,df (p:=(k:Int)<0) (by omega),df (p:=4<(k:Int)) (by omega),zJU hr (by omega),hi]
 refine (congrArg (fun q=>Option.bind q _) (zz (by rfl))).trans ?_
 rw [zAt]
 refine (zf (by rfl)).trans ?_
 exact zW5 hz h hk hi hn (2 ^ k) z8 m (by omega) (by unfold z8; omega) (by omega)
theorem zV1 (hz:Zk z) (h:zEw z=0) {f:Int} (hk:k≤4) (hi:inside z f k=true) (hn:∀ g,f≤g→g<f+2 ^ k → ¬ cov z g):∀ (m n i:Nat) (s:List Int),(i:Int)+m=f+2 ^ k→m<n→f≤i→s.length=256 →
  (∀ g:Nat,s.getD g 0=if f≤(g:Int)∧(g:Int)<i then 1 else (zNT z).getD g 0)→zJ0 z f (k:Int) n (i:Int) s=some (zNY (4 - k) z f k,0):=by
 obtain ⟨hr,hin,_⟩:=zE5 hz h
 have hb:=zAO hr hi
 obtain ⟨e,p1,p2⟩:=zIB (k:=k) (by omega)
 obtain ⟨ho,h01⟩:=zJq hz h
 intro m
 induction m with
 | zero =>
  intro n i s h1 h2 h3 h4 h5
  obtain ⟨n,rfl⟩:=ex1 ‹_<n›
  obtain ⟨q1,q2,q3⟩:=OkZ.put (4 - k) (k:=k) (by omega) ho hi hn
  have hw:=zQr (z:=z) (s:=s) h4 q1 q3 (fun g=>by
   rw [q2]
   constructor
   ·intro hg
    have hgb:z.start≤g∧g<z.start+z.count∧0≤g:=by
     rcases hg with ⟨j,x,hx,x1,x2⟩ | hg
     ·have:=zAO hr (ho.ins j x hx)
      omega
     ·omega
    obtain ⟨q,rfl⟩:=Int.eq_ofNat_of_zero_le hgb.2.2
    refine ⟨hgb.1,hgb.2.1,?_⟩
    rw [Int.toNat_natCast,h5]
    split
    ·decide
    ·rename_i hne
     rcases hg with hg | hg
     ·have:=(zJD hz hr hin q).2 hg
      omega
     ·exact absurd ⟨hg.1,by omega⟩ hne
   ·rintro ⟨g1,g2,g3⟩
    have hrb:=zAx hr
    obtain ⟨q,rfl⟩:=Int.eq_ofNat_of_zero_le (show 0≤g by omega)
    rw [Int.toNat_natCast,h5] at g3
    split at g3
    ·rename_i hq
     exact .inr ⟨hq.1,by omega⟩
    ·rcases h01 q with e0 | e0
     ·exact absurd e0 g3
     ·exact .inl ((zJD hz hr hin q).1 (by omega)))
  show zGQ _ _ _ _ _ _=_
  unfold zGQ zL2
  rw [e,zP (dt (zGb (by omega) (by omega))),zP (zM2 (by omega)),zP (zu (by omega)),zP (zu (by omega)),zf (df (by omega)),hw,zAt,zAt]
 | succ m ih =>
  intro n i s h1 h2 h3 h4 h5
  obtain ⟨n,rfl⟩:=ex1 ‹_<n›
  have hil:i<s.length:=by omega
  have ea:at_ s (i:Int)=s.getD i 0:=by rw [zFU hil,List.getD_eq_getElem?_getD,List.getElem?_eq_getElem hil]; rfl
  have h0:s.getD i 0=0:=by
   rw [h5,if_neg (by omega)]
   rcases h01 i with e0 | e0
   ·exact e0
   ·exact absurd ((zJD hz hr hin i).1 (by omega)) (hn i h3 (by omega))
  show zGQ _ _ _ _ _ _=_
  unfold zGQ
  rw [e,zP (dt (zGb (by omega) (by omega))),zP (zM2 (by omega)),zP (zu (by omega)),zP (zu (by omega)),zz (dt (by omega)),zP (zAC hil),ea,h0,zf (by rfl),zP (zu (by omega))]
  refine ih n (i+1) _ (by omega) (by omega) (by omega) (by rw [List.length_set]; exact h4) (fun g => ?_)
  rw [Int.toNat_natCast,zU9 s i g hil,h5]
  by_cases hg:g=i
  ·rw [if_pos hg,if_pos (by omega)]
  ·rw [if_neg hg]
   by_cases hq:f≤(g:Int)∧(g:Int)<i
   ·rw [if_pos hq,if_pos (by omega)]
   ·rw [if_neg hq,if_neg (by omega)]
theorem zUw (hz:Zk z) (h:zEw z=0) {f:Int} (hk:k≤4) (hi:inside z f k=true) (hn:∀ g,f≤g→g<f+2 ^ k → ¬ cov z g):zKr z f (k:Int)=some (zNY (4 - k) z f k,0):=by
 obtain ⟨hr,hin,_⟩:=zE5 hz h
 have hb:=zAO hr hi
 obtain ⟨e,p1,p2⟩:=zIB (k:=k) (by omega)
 have pn:=zLw (k:=k) (by omega)
 obtain ⟨m,rfl⟩:=Int.eq_ofNat_of_zero_le hb.1
 unfold zKr
 rw [zRt hz,zAt,dt h,Bool.not_true,zf rfl,zKi hr hk,zAt,hi,Bool.not_true,zf rfl,zQB hz hr hin,zAt]
 exact zV1 hz h hk hi hn (2 ^ k) z8 m (zNT z) (by omega) (by unfold z8; omega) (by omega) zMH (fun g=>by rw [if_neg (by omega)])
end
end Go.Proofs.Ytplkliakhdkpcaa
namespace Go.Proofs.Ytplkliakhdkpcaa
open Go Go.RowKit Go.Wk Go.Am
section
variable {z:zW} {k:Nat} {l:List Int}
theorem zRX:∀ (m i:Nat) (s:List Bool),i+m≤s.length→(∀ g,i≤g→g<i+m→s.getD g false=false) → ∃ s',zMV s i m=some s'∧s'.length=s.length ∧ ∀ g,s'.getD g false=true→s.getD g false=true∨(i≤g∧g<i+m)
 | 0,i,s,_,_=>⟨s,rfl,rfl,fun g h => .inl h⟩
 | m+1,i,s,h,hf=>by
  obtain ⟨s',h1,h2,h3⟩:=zRX m (i+1) (s.set i true) (by rw [List.length_set]; omega) (fun g g1 g2=>by
   rw [zBz _ _ _ (by omega),if_neg (by omega)]; exact hf g (by omega) (by omega))
  refine ⟨s',?_,by rw [h2,List.length_set],fun g hg => ?_⟩
  ·unfold zMV
   rw [if_neg (by rw [hf i (by omega) (by omega)]; simp)]
   exact h1
  ·rcases h3 g hg with h4 | h4
   ·rw [zBz _ _ _ (by omega)] at h4
    split at h4
    ·exact .inr (by omega)
    ·exact .inl h4
   ·exact .inr (by omega)
theorem zRn (hk:k≤4):∀ (l:List Int) (s:List Bool),s.length=256→(∀ x,x∈l→0≤x∧x+2 ^ k≤256)→Srt l→(∀ x y f,x∈l→y∈l→x≤f→f<x+2 ^ k→y≤f→f<y+2 ^ k→x=y)→(∀ x,x∈l → ∀ g:Nat,x≤(g:Int)→(g:Int)<x+2 ^ k→s.getD g false=false) →
  ∃ s',zMc k s l=some s'∧s'.length=256 ∧ ∀ g:Nat,s'.getD g false=true→s.getD g false=true ∨ ∃ x,x∈l∧x≤(g:Int)∧(g:Int)<x+2 ^ k
 | [],s,hs,_,_,_,_=>⟨s,rfl,hs,fun g h => .inl h⟩
 | x::l,s,hs,hb,ho,hd,hf=>by
  have hx:=hb x (by simp)
  have pn:=zLw (k:=k) (by omega)
  obtain ⟨s1,h1,h2,h3⟩:=zRX (2 ^ k) x.toNat s (by omega) (fun g g1 g2=>hf x (by simp) g (by omega) (by omega))
  have hno:=List.pairwise_cons.1 ho
  obtain ⟨s2,q1,q2,q3⟩:=zRn hk l s1 (by omega) (fun y hy=>hb y (by simp [hy])) hno.2 (fun a b f ha hb'=>hd a b f (by simp [ha]) (by simp [hb'])) (fun y hy g g1 g2=>by
   cases hq:s1.getD g false with
   | false=>rfl
   | true =>
    rcases h3 g hq with h4 | h4
    ·rw [hf y (by simp [hy]) g g1 g2] at h4; cases h4
    ·have:=hd x y g (by simp) (by simp [hy]) (by omega) (by omega) g1 g2
     have:=hno.1 y hy
     omega)
  refine ⟨s2,?_,q2,fun g hg => ?_⟩
  ·unfold zMc
   rw [h1]
   exact q1
  ·rcases q3 g hg with h4 | ⟨y,hy,h4⟩
   ·rcases h3 g h4 with h5 | h5
    ·exact .inl h5
    ·exact .inr ⟨x,by simp,by omega,by omega⟩
   ·exact .inr ⟨y,by simp [hy],h4⟩
theorem zQD:∀ (ls:List (List Int)) (k:Nat) (s:List Bool),k+ls.length≤5→s.length=256→(∀ j l,ls[j]?=some l→Srt l ∧ ∀ x,x∈l→0≤x∧x+2 ^ (k+j)≤256) →
  (∀ i j l m x y f,ls[i]?=some l→ls[j]?=some m→x∈l→y∈m→x≤f→f<x+2 ^ (k+i)→y≤f→f<y+2 ^ (k+j)→i=j∧x=y) →
  (∀ j l,ls[j]?=some l → ∀ x,x∈l → ∀ g:Nat,x≤(g:Int)→(g:Int)<x+2 ^ (k+j)→s.getD g false=false)→zHr k s ls≠none
 | [],k,s,_,_,_,_,_=>by unfold zHr; simp
 | l::ls,k,s,hk,hs,hb,hd,hf=>by
  have hk':k+(ls.length+1)≤5:=hk
  have hb0:=hb 0 l rfl
  obtain ⟨s1,h1,h2,h3⟩:=zRn (k:=k) (by omega) l s hs hb0.2 hb0.1 (fun x y f hx hy a1 a2 a3 a4=>(hd 0 0 l l x y f rfl rfl hx hy a1 a2 a3 a4).2) (hf 0 l rfl)
  unfold zHr
  rw [h1]
  refine zQD ls (k+1) s1 (by omega) h2 (fun j m hj => ?_) (fun i j a b x y f hi hj hx hy a1 a2 a3 a4 => ?_) (fun j m hj x hx g g1 g2 => ?_)
  ·have:=hb (j+1) m (by simpa using hj)
   rwa [show k+(j+1)=k+1+j by omega] at this
  ·have:=hd (i+1) (j+1) a b x y f (by simpa using hi) (by simpa using hj) hx hy a1 (by rwa [show k+(i+1)=k+1+i by omega]) a3 (by rwa [show k+(j+1)=k+1+j by omega])
   exact ⟨by omega,this.2⟩
  ·cases hq:s1.getD g false with
   | false=>rfl
   | true =>
    have g2':(g:Int)<x+2 ^ (k+(j+1)):=by rwa [show k+(j+1)=k+1+j by omega]
    rcases h3 g hq with h4 | ⟨y,hy,h4,h5⟩
    ·rw [hf (j+1) m (by simpa using hj) x hx g g1 g2'] at h4; cases h4
    ·have:=(hd 0 (j+1) l m y x g rfl (by simpa using hj) hy hx h4 h5 g1 g2').1
     omega
theorem zTA:∀ (l:List Int) (p:Option Int),(∀ f,f∈l→inside z f k=true)→Srt l→(∀ q f,p=some q→f∈l→q<f)→zKB z k p l=0
 | [],_,_,_,_=>by unfold zKB; rfl
 | x::l,p,hi,hs,hp=>by
  have hno:=List.pairwise_cons.1 hs
  unfold zKB
  rw [if_neg (by rw [hi x (by simp)]; simp),if_neg]
  ·exact zTA l (some x) (fun f hf=>hi f (by simp [hf])) hno.2 (fun q f hq hf=>by cases hq; exact hno.1 f hf)
  ·cases p with
   | none=>unfold geP; simp
   | some q =>
    have:=hp q x rfl (by simp)
    unfold geP
    simp
    omega
theorem zSO:∀ (ls:List (List Int)) (k:Nat),(∀ j l,ls[j]?=some l→(∀ f,f∈l→inside z f (k+j)=true)∧Srt l)→zEh z k ls=0
 | [],_,_=>by unfold zEh; rfl
 | l::ls,k,h=>by
  have h0:=h 0 l rfl
  rw [Nat.add_zero] at h0
  unfold zEh
  rw [zTA l none h0.1 h0.2 (fun q f hq=>by cases hq),if_pos rfl]
  exact zSO ls (k+1) (fun j m hj=>by
   have:=h (j+1) m (by simpa using hj)
   rwa [show k+(j+1)=k+1+j by omega] at this)
theorem zRU:∀ (ls:List (List Int)) (k:Nat),(∀ j l,ls[j]?=some l→zQq z (k+j) l l=false)→zMY z k ls=false
 | [],_,_=>by unfold zMY; rfl
 | l::ls,k,h=>by
  unfold zMY
  rw [if_neg (by have:=h 0 l rfl; rw [Nat.add_zero] at this; rw [this]; simp)]
  exact zRU ls (k+1) (fun j m hj=>by
   have:=h (j+1) m (by simpa using hj)
   rwa [show k+(j+1)=k+1+j by omega] at this)
theorem zCq (h:OkZ z):zEw z=0:=by
 have hl:∀ (j:Nat) (l:List Int),z.free[j]?=some l→j<5∧l=lst z j:=fun j l hl=>by
  have hj:j<5:=by have:=(List.getElem?_eq_some_iff.1 hl).1; rw [h.len] at this; exact this
  rw [zJj h.len hj] at hl
  cases hl
  exact ⟨hj,rfl⟩
 unfold zEw
 rw [if_neg (by rw [h.ranges]; simp),if_pos (zSO z.free 0 fun j l hj=>by obtain ⟨_,rfl⟩:=hl j l hj; rw [Nat.zero_add]; exact ⟨h.ins j,h.srt j⟩),if_neg,if_neg]
 ·rw [zRU (z.free.take 4) 0]
  ·simp
  ·intro j l hj
   have hj4:j<4:=by have:=(List.getElem?_eq_some_iff.1 hj).1; rw [List.length_take] at this; omega
   rw [List.getElem?_take,if_pos hj4] at hj
   obtain ⟨_,rfl⟩:=hl j l hj
   rw [Nat.zero_add]
   refine Bool.eq_false_iff.2 fun hh => ?_
   obtain ⟨f,f1,f2,f3⟩:=(zPP (lst z j) (lst z j)).1 hh
   rw [h.can j f hj4 f1 f2] at f3
   cases f3
 ·refine zQD z.free 0 zEv (by rw [h.len]; omega) zJm (fun j l hj => ?_) (fun i j a b x y f hi hj hx hy a1 a2 a3 a4 => ?_) (fun j l hj x hx g _ _ => ?_)
  ·obtain ⟨_,rfl⟩:=hl j l hj
   rw [Nat.zero_add]
   exact ⟨h.srt j,fun x hx=>⟨(h.bds (h.ins j x hx)).1,(h.bds (h.ins j x hx)).2.1⟩⟩
  ·obtain ⟨_,rfl⟩:=hl i a hi
   obtain ⟨_,rfl⟩:=hl j b hj
   rw [Nat.zero_add] at a2 a4
   exact h.dis i x j y f hx hy a1 a2 a3 a4
  ·unfold zEv
   rw [List.getD_eq_getElem?_getD,List.getElem?_replicate]
   split <;> rfl
theorem OkZ.zk (h:OkZ z):Zk z:=⟨h.len,fun k=>by have:=h.putI.len' k; omega⟩
theorem OkZ.inI (h:OkZ z):inI z.start=true:=by have:=zAx h.ranges; exact zu (by omega)
def zKc (z:zW):List Int→zW
 | []=>z
 | f::r=>zKc (zNY 4 z f 0) r
theorem zKk:∀ (l:List Int) {z:zW},OkZ z→(∀ f,f∈l→inside z f 0=true ∧ ¬ cov z f)→l.Nodup→OkZ (zKc z l)∧(∀ g,cov (zKc z l) g↔cov z g∨g∈l)∧zEa (zKc z l) z
 | [],z,h,_,_=>⟨h,fun g=>by unfold zKc; simp,⟨rfl,rfl,rfl,rfl,rfl⟩⟩
 | f::r,z,h,hi,hn=>by
  have hf:=hi f (by simp)
  have hnd:=List.nodup_cons.1 hn
  obtain ⟨h1,h2,h3⟩:=OkZ.put 4 (k:=0) (by omega) h hf.1 (fun g g1 g2=>by
   rw [pw0] at g2
   have:g=f:=by omega
   rw [this]; exact hf.2)
  obtain ⟨q1,q2,q3⟩:=zKk r h1 (fun g hg=>by
   refine ⟨by rw [h3.inside]; exact (hi g (by simp [hg])).1,fun hc => ?_⟩
   rcases (h2 g).1 hc with hc | hc
   ·exact (hi g (by simp [hg])).2 hc
   ·rw [pw0] at hc
    have:g=f:=by omega
    exact hnd.1 (this▸hg)) hnd.2
  refine ⟨q1,fun g => ?_,q3.trans h3⟩
  show cov (zKc (zNY 4 z f 0) r) g↔_
  rw [q2 g,h2 g,pw0,List.mem_cons]
  constructor
  ·rintro ((h | h) | h)
   ·exact .inl h
   ·exact .inr (.inl (by omega))
   ·exact .inr (.inr h)
  ·rintro (h | h | h)
   ·exact .inl (.inl h)
   ·exact .inl (.inr (by omega))
   ·exact .inr h
end
end Go.Proofs.Ytplkliakhdkpcaa
namespace Go.Proofs.Ytplkliakhdkpcaa
open Go Go.RowKit Go.Wk Go.Am
section
variable {a:zH}
theorem zIf {α:Type} [Inhabited α] {l:List α} {i:Nat} (h:i<l.length):l.set i (at_ l (i:Int))=l:=by
 rw [zFU h]
 exact List.set_getElem_self h
theorem zZr {se:Int→List zW→Option zH} {zs:List zW} {j:Nat} (hj:j<zs.length) (hl:zs.length≤1000) (hz:Zk (at_ zs (j:Int))):∀ (m n k:Nat),k+m=5→m<n→zCn se (j:Int) n (k:Int) zs=se ((j+1:Nat):Int) zs:=by
 intro m
 induction m with
 | zero =>
  intro n k h1 h2
  obtain ⟨n,rfl⟩:=ex1 ‹_<n›
  show zCC _ _ _ _ _=_
  unfold zCC zE6
  rw [zf (df (by omega)),zP (zu (by omega))]
  rfl
 | succ m ih =>
  intro n k h1 h2
  obtain ⟨n,rfl⟩:=ex1 ‹_<n›
  have hlen:=hz.len
  have e:(at_ zs (j:Int)).free.getD (k:Int).toNat []=lst (at_ zs (j:Int)) k:=rfl
  have e3:zEF 5 [] (at_ zs (j:Int)).free (k:Int).toNat (lst (at_ zs (j:Int)) k)=(at_ zs (j:Int)).free:=by
   rw [zJI hlen (by omega)]
   exact zJd (by omega)
  show zCC _ _ _ _ _=_
  unfold zCC
  rw [zz (dt (by omega)),zP (zAC hj),zP (zAC (by omega)),e,zLs (hz.bd k),zAt,zP (zu (by omega)),e3]
  have e4:zs.set (j:Int).toNat (at_ zs (j:Int))=zs:=zIf hj
  show zCn se (j:Int) n ((k:Int)+1) (zs.set (j:Int).toNat (at_ zs (j:Int)))=_
  rw [e4]
  exact ih n (k+1) (by omega) (by omega)
theorem zZk {se:Int→List zK→Option zH} {cs:List zK} {j:Nat} (hj:j<cs.length) (hl:cs.length≤1000) (hc:Ck (at_ cs (j:Int))):∀ (m n i:Nat),i+m=(at_ cs (j:Int)).lists.length→m<n→zDk se (j:Int) cs (at_ cs (j:Int)).lists n (i:Int) (at_ cs (j:Int)).lists=se ((j+1:Nat):Int) cs:=by
 have hn:=hc.n
 intro m
 induction m with
 | zero =>
  intro n i h1 h2
  obtain ⟨n,rfl⟩:=ex1 ‹_<n›
  show zCF _ _ _ _ _ _ _=_
  unfold zCF zEz zE1
  rw [zf (df (by omega)),zP (zAC hj),zP (zu (by omega))]
  have e4:cs.set (j:Int).toNat (at_ cs (j:Int))=cs:=zIf hj
  show se ((j:Int)+1) (cs.set (j:Int).toNat (at_ cs (j:Int)))=_
  rw [e4]
  rfl
 | succ m ih =>
  intro n i h1 h2
  obtain ⟨n,rfl⟩:=ex1 ‹_<n›
  have hi:i<(at_ cs (j:Int)).lists.length:=by omega
  have hb:=hc.l _ (zAy hi)
  show zCF _ _ _ _ _ _ _=_
  unfold zCF
  have e4:(at_ cs (j:Int)).lists.set (i:Int).toNat (at_ (at_ cs (j:Int)).lists (i:Int))=(at_ cs (j:Int)).lists:=zIf hi
  rw [zz (dt (by omega)),zP (zAC hi),zLs (by omega),zAt,zP (zu (by omega)),e4]
  exact ih n (i+1) (by omega) (by omega)
theorem zZj (ha:Al a) {zs:List zW} {ns:List Int}:∀ (m n j:Nat),j+m=a.caches.length→m<n→zBD a ns a.caches zs n (j:Int) a.caches=some ⟨ns,a.batch,a.high,zs,a.caches⟩:=by
 have hc:=ha.c
 intro m
 induction m with
 | zero =>
  intro n j h1 h2
  obtain ⟨n,rfl⟩:=ex1 ‹_<n›
  show zCH _ _ _ _ _ _ _=_
  unfold zCH
  rw [zf (df (by omega))]
  rfl
 | succ m ih =>
  intro n j h1 h2
  obtain ⟨n,rfl⟩:=ex1 ‹_<n›
  have hj:j<a.caches.length:=by omega
  have hk:=ha.ck _ (zAy hj)
  have hn:=hk.n
  show zCH _ _ _ _ _ _ _=_
  unfold zCH zDV
  rw [zz (dt (by omega)),zP (zAC hj),zP (dt (by show (0+_)*24≤_; omega)),zAt,z0i,zZk hj hc hk _ z8 0 (Nat.zero_add _) (by unfold z8; omega)]
  exact ih n (j+1) (by omega) (by omega)
theorem zY8 (ha:Al a) {ns:List Int}:∀ (m n j:Nat),j+m=a.zones.length→m<n→zBR a ns a.zones a.caches n (j:Int) a.zones=some ⟨ns,a.batch,a.high,a.zones,a.caches⟩:=by
 have hz:=ha.z
 have hc:=ha.c
 intro m
 induction m with
 | zero =>
  intro n j h1 h2
  obtain ⟨n,rfl⟩:=ex1 ‹_<n›
  show zB8 _ _ _ _ _ _ _=_
  unfold zB8 zEx
  rw [zf (df (by omega)),z0i]
  exact zZj ha a.caches.length z8 0 (by omega) (by unfold z8; omega)
 | succ m ih =>
  intro n j h1 h2
  obtain ⟨n,rfl⟩:=ex1 ‹_<n›
  have hj:j<a.zones.length:=by omega
  show zB8 _ _ _ _ _ _ _=_
  unfold zB8
  rw [zz (dt (by omega)),z0i,zZr hj hz (ha.zk _ (zAy hj)).1 5 z8 0 (by omega) (by unfold z8; omega)]
  exact ih n (j+1) (by omega) (by omega)
theorem zPy (ha:Al a):zCK a=some a:=by
 have h1:=ha.n
 have h2:=ha.z
 have h3:=ha.c
 unfold zCK zBa zA5
 rw [zLs (by omega),zAt,zP (dt (by show (0+_)*160≤_; omega)),zAt,zP (dt (by show (0+_)*24≤_; omega)),zAt,z0i]
 exact zY8 ha a.zones.length z8 0 (by omega) (by unfold z8; omega)
theorem zUu {c:zK} (hc:Ck c):∀ (m n i:Nat) (l:List (List Int)),i+m=c.lists.length→m<n→l=c.lists.take i→zI6 c n (i:Int) l=some c:=by
 have hn:=hc.n
 intro m
 induction m with
 | zero =>
  intro n i l h1 h2 h3
  obtain ⟨n,rfl⟩:=ex1 ‹_<n›
  show zFo _ _ _ _=_
  unfold zFo
  rw [zf (df (by omega)),h3,List.take_of_length_le (by omega)]
  rfl
 | succ m ih =>
  intro n i l h1 h2 h3
  obtain ⟨n,rfl⟩:=ex1 ‹_<n›
  have hi:i<c.lists.length:=by omega
  have hb:=hc.l _ (zAy hi)
  have hl:l.length=i:=by rw [h3,List.length_take]; omega
  show zFo _ _ _ _=_
  unfold zFo
  rw [zz (dt (by omega)),zP (zAC hi),zP (dt (by show (0+_)*8≤_; omega)),zP (dt (by show (_+1)*24≤_; omega)),zP (zu (by omega)),List.nil_append]
  refine ih n (i+1) _ (by omega) (by omega) ?_
  rw [h3,List.take_add_one,List.getElem?_eq_getElem hi,zFU hi]
  rfl
theorem zNv {c:zK} (hc:Ck c):zIC c=some c:=zUu hc c.lists.length z8 0 [] (by omega) (by have:=hc.n; unfold z8; omega) rfl
end
end Go.Proofs.Ytplkliakhdkpcaa
namespace Go.Proofs.Ytplkliakhdkpcaa
open Go Go.RowKit Go.Wk Go.Am
structure Pc (c:zK) (zn:Nat):Prop where
 z:1≤zn∧zn≤6
 len:c.lists.length=zn
 bd:∀ l,l∈c.lists→l.length≤400
 fr:∀ l,l∈c.lists → ∀ f,f∈l→zBj f=true
 nd:∀ l,l∈c.lists→l.Nodup
 dis:∀ (p q:Nat) (f:Int),p<zn→q<zn→f∈at_ c.lists (p:Int)→f∈at_ c.lists (q:Int)→p=q
section
variable {c:zK} {zn:Nat} {z:Nat} {l:List Int}
theorem Pc.ck (h:Pc c zn):Ck c:=⟨by have:=h.len; have:=h.z; omega,fun x hx=>by have:=h.bd x hx; omega⟩
theorem Pc.r (h:Pc c zn):pcR c (zn:Int)=0:=by
 have hz:=h.z
 unfold pcR
 rw [if_neg (by omega),if_pos (by rw [h.len]),if_pos,if_pos]
 ·unfold List.Nodup
  rw [List.pairwise_flatten]
  refine ⟨h.nd,List.pairwise_iff_getElem.2 fun i j hi hj hij x hx y hy e => ?_⟩
  subst e
  have:=h.dis i j x (by rw [← h.len]; exact hi) (by rw [← h.len]; exact hj) (by rw [zFU hi]; exact hx) (by rw [zFU hj]; exact hy)
  omega
 ·refine List.all_eq_true.2 fun f hf => ?_
  obtain ⟨l,hl,hfl⟩:=List.mem_flatten.1 hf
  exact h.fr l hl f hfl
theorem zLn (l:List Int):zCm (List.replicate (l.length:Int).toNat 0) l=l:=by
 unfold zCm
 rw [List.length_replicate,Int.toNat_natCast,List.take_length,List.drop_replicate,Nat.sub_self]
 exact List.append_nil l
theorem zTg {n:Int} (h:n.toNat≤l.length):zCm (List.replicate n.toNat 0) l=l.take n.toNat:=by
 unfold zCm
 rw [List.length_replicate,List.drop_replicate,Nat.sub_eq_zero_of_le h]
 exact List.append_nil _
theorem zS5 {T:List (List Int)} {i m:Nat} {x:List Int} (hi:T[i]?=some x):(T.take i++List.replicate (m+1) ([]:List Int)).set i x=T.take (i+1)++List.replicate m []:=by
 have hl:(T.take i).length=i:=by rw [List.length_take]; have:=(List.getElem?_eq_some_iff.1 hi).1; omega
 rw [List.set_append,if_neg (by omega),hl,Nat.sub_self,List.replicate_succ,List.set_cons_zero,List.take_add_one,hi]
 simp
theorem zTd (hc:Ck c) (hl:l.length≤1000):∀ (m n i:Nat),i+m=c.lists.length→m<n→zCX c (z:Int) l n (i:Int) ((c.lists.set z l).take i++List.replicate m [])=some ⟨c.lists.set z l⟩:=by
 have hn:=hc.n
 intro m
 induction m with
 | zero =>
  intro n i h1 h2
  obtain ⟨n,rfl⟩:=ex1 ‹_<n›
  show zCV _ _ _ _ _ _=_
  unfold zCV zFd
  rw [zf (df (by omega)),List.replicate_zero,List.append_nil,List.take_of_length_le (by rw [List.length_set]; omega)]
 | succ m ih =>
  intro n i h1 h2
  obtain ⟨n,rfl⟩:=ex1 ‹_<n›
  have hi:i<c.lists.length:=by omega
  have hll:((c.lists.set z l).take i++List.replicate (m+1) ([]:List Int)).length=c.lists.length:=by
   rw [List.length_append,List.length_take,List.length_set,List.length_replicate]; omega
  have hj:∀ d:List Int,d.length≤1000→(c.lists.set z l)[i]?=some d→zDG (zCX c (z:Int) l n) (i:Int) ((c.lists.set z l).take i++List.replicate (m+1) []) d=some ⟨c.lists.set z l⟩:=fun d hd he=>by
   unfold zDG
   rw [zP (by simp; omega),zP (zSb (by rw [hll]; omega)),zP (zu (by omega)),zLn,Int.toNat_natCast,zS5 he]
   exact ih n (i+1) (by omega) (by omega)
  show zCV _ _ _ _ _ _=_
  unfold zCV
  rw [zz (dt (by omega)),zP (zAC hi)]
  by_cases hz:i=z
  ·rw [zz (dt (by omega))]
   exact hj l hl (by rw [← hz,List.getElem?_set_self hi])
  ·rw [zf (df (by omega))]
   refine hj _ (hc.l _ (zAy hi)) ?_
   rw [List.getElem?_set_ne (fun e=>hz e.symm),zFU hi,List.getElem?_eq_getElem hi]
theorem zNi (hc:Ck c) (hl:l.length≤1000):zBk c (z:Int) l=some ⟨c.lists.set z l⟩:=by
 have hn:=hc.n
 unfold zBk
 rw [zP (by simp; omega)]
 exact zTd hc hl c.lists.length z8 0 (by omega) (by unfold z8; omega)
theorem zPT (h:Pc c zn) (hz:z<zn):zEQ c (z:Int)=some 0:=by
 have hl:=h.len
 unfold zEQ
 rw [zVj h.ck,hl,h.r,zAt,dt rfl,Bool.not_true,zf rfl,df (by omega),df (by omega)]
 rfl
theorem zQw (h:Pc c zn) (hz:z<zn):zIO c (z:Int)=some 0:=by
 have hl:=h.len
 unfold zIO
 rw [zYR h.ck,hl,h.r,zAt,dt rfl,Bool.not_true,zf rfl,df (by omega),df (by omega)]
 rfl
theorem zN6 (f:Int):∀ (l:List Int) (q:List (Int×Bool)),zL9 false (zMI q l) f=(decide (f∈l)||zL9 false q f)
 | [],q=>by simp [zMI]
 | x::l,q=>by
  have e:zMI q (x::l)=zMI (zJ9 q x true) l:=rfl
  rw [e,zN6 f l,zNK]
  by_cases hx:f=x
  ·simp [hx]
  ·rw [if_neg hx]
   simp [hx]
theorem zQU (hc:Ck c):zDr c=some (zMI [] c.lists.flatten):=by
 unfold zDr
 rw [z0i,fm0 hc c.lists.length z8 0 [] (by omega) (by have:=hc.n; unfold z8; omega),List.drop_zero]
theorem zZm {se:Int→Option Bool} {f:Int} {j:Nat} {l:List Int} (hc:Ck c) (hj:j<c.lists.length) (hl:at_ c.lists (j:Int)=l):∀ (m n i:Nat),i+m=l.length→m<n →
  zKO se c f (j:Int) n (i:Int)=if f∈l.drop i then some true else se ((j+1:Nat):Int):=by
 have hb:l.length≤1000:=by rw [← hl]; exact hc.l _ (zAy hj)
 have hn:=hc.n
 intro m
 induction m with
 | zero =>
  intro n i h1 h2
  obtain ⟨n,rfl⟩:=ex1 ‹_<n›
  show zHe _ _ _ _ _ _=_
  unfold zHe zMo
  rw [hl,zf (df (by omega)),zP (zu (by omega)),List.drop_eq_nil_of_le (by omega),if_neg (by simp)]
  rfl
 | succ m ih =>
  intro n i h1 h2
  obtain ⟨n,rfl⟩:=ex1 ‹_<n›
  have hi:i<l.length:=by omega
  show zHe _ _ _ _ _ _=_
  unfold zHe
  rw [hl,zz (dt (by omega)),zP (zAC hi),zCj hi]
  by_cases hf:at_ l (i:Int)=f
  ·rw [zz (dt hf),if_pos (by simp [hf])]
  ·rw [zf (df hf),zP (zu (by omega))]
   refine (ih n (i+1) (by omega) (by omega)).trans ?_
   by_cases hm:f∈l.drop (i+1)
   ·rw [if_pos hm,if_pos (List.mem_cons_of_mem _ hm)]
   ·rw [if_neg hm,if_neg (fun h=>by rcases List.mem_cons.1 h with h | h; exact hf h.symm; exact hm h)]
theorem zZi {f:Int} (hc:Ck c):∀ (m n i:Nat),i+m=c.lists.length→m<n→zKJ c f n (i:Int)=some (decide (f∈(c.lists.drop i).flatten)):=by
 have hn:=hc.n
 intro m
 induction m with
 | zero =>
  intro n i h1 h2
  obtain ⟨n,rfl⟩:=ex1 ‹_<n›
  show zHS _ _ _ _=_
  unfold zHS zMy
  rw [zf (df (by omega)),zQC (by omega),df (by simp)]
 | succ m ih =>
  intro n i h1 h2
  obtain ⟨n,rfl⟩:=ex1 ‹_<n›
  have hi:i<c.lists.length:=by omega
  have hb:=hc.l _ (zAy hi)
  show zHS _ _ _ _=_
  unfold zHS
  rw [zz (dt (by omega)),zP (zAC hi),z0i,zZm hc hi rfl _ z8 0 (Nat.zero_add _) (by unfold z8; omega),List.drop_zero,zCj hi,List.flatten_cons]
  by_cases hm:f∈at_ c.lists (i:Int)
  ·rw [if_pos hm,dt (by simp [hm])]
  ·rw [if_neg hm,ih n (i+1) (by omega) (by omega)]
   congr 1
   exact decide_eq_decide.2 ⟨fun h=>List.mem_append_right _ h,fun h=>by rcases List.mem_append.1 h with h | h; exact absurd h hm; exact h⟩
theorem zVP {f:Int} (hc:Ck c):zN2 c f=some (decide (f∈c.lists.flatten)):=by
 have:=zZi (f:=f) hc c.lists.length z8 0 (by omega) (by have:=hc.n; unfold z8; omega)
 rw [List.drop_zero] at this
 exact this
def zM9 (c:zK) (z:Nat) (f b h:Int):zK×List Int :=
 if ((at_ c.lists (z:Int)++[f]).length:Int)≤h then (⟨c.lists.set z (at_ c.lists (z:Int)++[f])⟩,[]) else (⟨c.lists.set z ((at_ c.lists (z:Int)++[f]).drop b.toNat)⟩,(at_ c.lists (z:Int)++[f]).take b.toNat)
theorem zZq {f b h:Int} (hp:Pc c zn) (hz:z<zn) (hf:zBj f=true) (hb:1≤b∧b≤h∧h≤64) (hn:f ∉ c.lists.flatten):zH6 c (z:Int) f b h=some ((zM9 c z f b h).1,(zM9 c z f b h).2,0):=by
 have hl:=hp.len
 have hzl:z<c.lists.length:=by omega
 have hbd:=hp.bd _ (zAy hzl)
 have hff:zCc f=some true:=by
  unfold zCc
  show some (zBj f)=_
  rw [hf]
 unfold zH6 zM9
 generalize hq:at_ c.lists (z:Int)=q at hbd ⊢
 have hql:(q++[f]).length=q.length+1:=by simp
 rw [zPT hp hz,zAt,dt rfl,Bool.not_true,zf rfl,hff,zAt,Bool.not_true,zf rfl,df (by omega),df (by omega),Bool.or_false,zf rfl,zQU hp.ck,zAt,zN6,df hn]
 rw [zf (by rfl),zP (zAC hzl),zP (zu (by omega)),zP (by simp; omega),zLn,zP (by simp; omega)]
 by_cases hh:((q++[f]).length:Int)≤h
 ·rw [dt hh,if_pos hh,zz rfl,zNi hp.ck (by omega),zAt,zAt]
 ·have e1:zE9 (q++[f]) b ((q++[f]).length:Int)=(q++[f]).drop b.toNat:=by
   unfold zE9
   rw [Int.toNat_natCast,List.take_length]
  rw [df hh,if_neg hh,zf rfl,zP (by simp; omega),zP (by unfold zGs; rw [hql]; simp; omega),e1,zNi hp.ck (by rw [List.length_drop]; omega),zAt,zTg (by omega)]
theorem zZs {f b h:Int} (hp:Pc c zn) (hz:z<zn) (hf:zBj f=true) (hb:1≤b∧b≤h∧h≤64) (hn:f ∉ c.lists.flatten):zNR c (z:Int) f b h=some ((zM9 c z f b h).1,(zM9 c z f b h).2,0):=by
 have hl:=hp.len
 have hzl:z<c.lists.length:=by omega
 have hbd:=hp.bd _ (zAy hzl)
 have hff:zC0 f=some false:=by
  unfold zC0
  unfold zBj at hf
  simp at hf ⊢
  omega
 unfold zNR zM9
 rw [zQw hp hz,zAt,dt rfl,Bool.not_true,zf rfl,hff,zAt,zf rfl,df (by omega),df (by omega),Bool.or_false,zf rfl,zVP hp.ck,zAt,df hn,zf rfl,zNv hp.ck,zAt]
 generalize hq:at_ c.lists (z:Int)=q at hbd ⊢
 have hql:(q++[f]).length=q.length+1:=by simp
 rw [zP (zAC hzl),zP (by simp; omega)]
 by_cases hh:((q++[f]).length:Int)≤h
 ·rw [dt hh,if_pos hh,zz rfl,Int.toNat_natCast]
 ·have e1:zE9 (q++[f]) b ((q++[f]).length:Int)=(q++[f]).drop b.toNat:=by
   unfold zE9
   rw [Int.toNat_natCast,List.take_length]
  have e2:zE9 (q++[f]) 0 b=(q++[f]).take b.toNat:=rfl
  rw [df hh,if_neg hh,zf rfl,zP (by unfold zGs; rw [hql]; simp; omega),e2,zP (dt (by rw [List.length_take]; simp; omega)),zP (by unfold zGs; rw [hql]; simp; omega),e1,zP (dt (by rw [List.length_drop]; simp; omega)),List.nil_append,List.nil_append,Int.toNat_natCast]
theorem zXx (hp:Pc c zn) (hz:z<zn):zHR c (z:Int)=some (⟨c.lists.set z []⟩,at_ c.lists (z:Int),0):=by
 have hl:=hp.len
 have hzl:z<c.lists.length:=by omega
 have hbd:=hp.bd _ (zAy hzl)
 unfold zHR
 rw [zPT hp hz,zAt,dt rfl,Bool.not_true,zf rfl,zP (zAC hzl),zP (by simp; omega),zNi hp.ck (by simp),zAt,zLn]
theorem zYw (hp:Pc c zn) (hz:z<zn):zLV c (z:Int)=some (⟨c.lists.set z []⟩,at_ c.lists (z:Int),0):=by
 have hl:=hp.len
 have hzl:z<c.lists.length:=by omega
 have hbd:=hp.bd _ (zAy hzl)
 unfold zLV
 rw [zQw hp hz,zAt,dt rfl,Bool.not_true,zf rfl,zNv hp.ck,zAt,zP (zAC hzl),zP (by simp; omega),Int.toNat_natCast,List.nil_append]
def zV3 (c:zK) (z:Nat):zK:=⟨c.lists.set z ((at_ c.lists (z:Int)).take ((at_ c.lists (z:Int)).length - 1))⟩
def zPB (c:zK) (z:Nat):Int:=at_ (at_ c.lists (z:Int)) (((at_ c.lists (z:Int)).length:Int) - 1)
theorem zZN (hp:Pc c zn) (hz:z<zn) (hne:at_ c.lists (z:Int)≠[]):zIR c (z:Int)=some (zV3 c z,zPB c z,0):=by
 have hl:=hp.len
 have hzl:z<c.lists.length:=by omega
 have hbd:=hp.bd _ (zAy hzl)
 unfold zIR zV3 zPB
 generalize hq:at_ c.lists (z:Int)=q at hbd hne ⊢
 have h1:0<q.length:=List.length_pos_iff.2 hne
 have e1:zE9 q 0 ((q.length:Int) - 1)=q.take (q.length - 1):=by
  unfold zE9
  rw [show ((q.length:Int) - 1).toNat=q.length - 1 by omega]
  rfl
 rw [zPT hp hz,zAt,dt rfl,Bool.not_true,zf rfl,zP (zAC hzl),zf (df (by omega)),zP (zu (by omega)),zP (by unfold zGs; simp; omega),e1,zNi hp.ck (by rw [List.length_take]; omega),zAt,zP (zSb (by omega))]
end
end Go.Proofs.Ytplkliakhdkpcaa
namespace Go.Proofs.Ytplkliakhdkpcaa
open Go Go.RowKit Go.Wk Go.Am
theorem zXc {α:Type} [Inhabited α] {l:List α} {i:Nat} {x:α} (h:l[i]?=some x):at_ l (i:Int)=x:=by
 obtain ⟨hi,e⟩:=List.getElem?_eq_some_iff.1 h
 rw [zFU hi]
 exact e
theorem zZn {α:Type} [Inhabited α] {l:List α} {i:Nat} (h:i<l.length):l[i]?=some (at_ l (i:Int)):=by rw [zFU h,List.getElem?_eq_getElem h]
theorem zVS {l:List (List Int)} {p:Nat} (h:l.length≤p):at_ l (p:Int)=[]:=by
 unfold at_
 rw [Int.toNat_natCast,List.getD_eq_getElem?_getD,List.getElem?_eq_none h]
 rfl
theorem zYv {l:List (List Int)} {p:Nat} {f:Int} (h:f∈at_ l (p:Int)):p<l.length:=by
 refine Nat.lt_of_not_le fun hn => ?_
 rw [zVS hn] at h
 cases h
theorem zQH {f:Int} (h:0≤f):((f.toNat:Nat):Int)=f:=Int.toNat_of_nonneg h
theorem zSv {z:zW} (hr:ranges z=true):∀ (l:List Int) (d:List Bool),d.length=256→(feL z d l).1=0→(∀ f,f∈l→inZ z f=true∧zKH z f=false∧d.getD f.toNat false=false)∧l.Nodup∧(∀ g:Nat,(feL z d l).2.getD g false=true↔d.getD g false=true∨(g:Int)∈l)
 | [],d,hd,h=>⟨(fun f hf=>by cases hf),List.nodup_nil,(fun g=>by unfold feL; simp)⟩
 | f::r,d,hd,h=>by
  unfold feL at h ⊢
  by_cases hi:inZ z f=true
  ·rw [if_pos hi] at h ⊢
   have hb:=zM1 hr hi
   by_cases hx:(d.getD f.toNat false||zKH z f)=true
   ·rw [if_pos hx] at h; cases h
   ·rw [if_neg hx] at h ⊢
    simp only [Bool.or_eq_true,not_or,Bool.not_eq_true] at hx
    obtain ⟨i1,i2,i3⟩:=zSv hr r (d.set f.toNat true) (by rw [List.length_set]; exact hd) h
    have hfr:f ∉ r:=fun hm=>by
     have:=(i1 f hm).2.2
     rw [zBz _ _ _ (by omega),if_pos rfl] at this
     cases this
    refine ⟨fun g hg => ?_,List.nodup_cons.2 ⟨hfr,i2⟩,fun g => ?_⟩
    ·rcases List.mem_cons.1 hg with rfl | hg
     ·exact ⟨hi,hx.2,hx.1⟩
     ·have h3:=i1 g hg
      refine ⟨h3.1,h3.2.1,?_⟩
      have h4:=h3.2.2
      rw [zBz _ _ _ (by omega)] at h4
      split at h4
      ·cases h4
      ·exact h4
    ·rw [i3 g,zBz _ _ _ (by omega)]
     by_cases hg:g=f.toNat
     ·rw [if_pos hg]
      exact ⟨fun _ => .inr (by rw [hg,zQH hb.1]; simp),fun _ => .inl rfl⟩
     ·rw [if_neg hg]
      constructor
      ·rintro (h | h)
       ·exact .inl h
       ·exact .inr (List.mem_cons_of_mem _ h)
      ·rintro (h | h)
       ·exact .inl h
       ·rcases List.mem_cons.1 h with h | h
        ·omega
        ·exact .inr h
  ·rw [if_neg hi] at h; cases h
theorem zVX:∀ (zs:List zW) (ls:List (List Int)) (d:List Bool),(∀ z,z∈zs→ranges z=true)→ls.length=zs.length→d.length=256→(feC d zs ls).1=0 →
  (∀ (p:Nat) z l,zs[p]?=some z→ls[p]?=some l→(∀ f,f∈l→inZ z f=true∧zKH z f=false∧d.getD f.toNat false=false)∧l.Nodup) ∧
  (∀ (p q:Nat) l m f,ls[p]?=some l→ls[q]?=some m→f∈l→f∈m→p=q)∧(∀ g:Nat,(feC d zs ls).2.getD g false=true↔d.getD g false=true ∨ ∃ l,l∈ls∧(g:Int)∈l)∧(∀ l,l∈ls → ∀ f,f∈l→0≤f)
 | [],[],d,_,_,_,_=>⟨(fun p z l h=>by simp at h),(fun p q l m f h=>by simp at h),(fun g=>by unfold feC; simp),(fun l hl=>by cases hl)⟩
 | [],_::_,_,_,hl,_,_=>by simp at hl
 | _::_,[],_,_,hl,_,_=>by simp at hl
 | z::zs,l::ls,d,hr,hl,hd,h=>by
  unfold feC at h ⊢
  have hrz:=hr z (by simp)
  by_cases h0:(feL z d l).1=0
  ·rw [if_pos h0] at h ⊢
   obtain ⟨j1,j2,j3⟩:=zSv hrz l d hd h0
   obtain ⟨i1,i2,i3,i4⟩:=zVX zs ls (feL z d l).2 (fun y hy=>hr y (by simp [hy])) (by simpa using hl) (by rw [zMG]; exact hd) h
   have hz:∀ (q:Nat) m f,ls[q]?=some m→f∈m→f ∉ l:=fun q m f hq hm hfl=>by
    have hq':q<zs.length:=by have:=(List.getElem?_eq_some_iff.1 hq).1; simp at hl; omega
    have h1:=((i1 q _ m (List.getElem?_eq_getElem hq') hq).1 f hm).2.2
    have hb:=zM1 hrz (j1 f hfl).1
    have:=(j3 f.toNat).2 (.inr (by rw [zQH hb.1]; exact hfl))
    rw [h1] at this
    cases this
   refine ⟨fun p y m hy hm => ?_,fun p q a b f ha hb hfa hfb => ?_,fun g => ?_,fun m hm f hf => ?_⟩
   ·cases p with
    | zero=>simp at hy hm; subst hy; subst hm; exact ⟨j1,j2⟩
    | succ p =>
     have h1:=i1 p y m (by simpa using hy) (by simpa using hm)
     refine ⟨fun f hf => ?_,h1.2⟩
     have h2:=h1.1 f hf
     refine ⟨h2.1,h2.2.1,?_⟩
     cases hq:d.getD f.toNat false with
     | false=>rfl
     | true=>rw [(j3 f.toNat).2 (.inl hq)] at h2; cases h2.2.2
   ·cases p with
    | zero =>
     simp at ha
     subst ha
     cases q with
     | zero=>rfl
     | succ q=>exact absurd hfa (hz q b f (by simpa using hb) hfb)
    | succ p =>
     cases q with
     | zero=>simp at hb; subst hb; exact absurd hfb (hz p a f (by simpa using ha) hfa)
     | succ q=>rw [i2 p q a b f (by simpa using ha) (by simpa using hb) hfa hfb]
   ·rw [i3 g,j3 g]
    constructor
    ·rintro ((h | h) | ⟨m,h1,h2⟩)
     ·exact .inl h
     ·exact .inr ⟨l,by simp,h⟩
     ·exact .inr ⟨m,by simp [h1],h2⟩
    ·rintro (h | ⟨m,h1,h2⟩)
     ·exact .inl (.inl h)
     ·rcases List.mem_cons.1 h1 with rfl | h1
      ·exact .inl (.inr h2)
      ·exact .inr ⟨m,h1,h2⟩
   ·rcases List.mem_cons.1 hm with rfl | hm
    ·exact (zM1 hrz (j1 f hf).1).1
    ·exact i4 m hm f hf
  ·rw [if_neg h0] at h; exact absurd h h0
theorem zQX {z:zW} {f:Int} (hr:ranges z=true):inZ z f=true↔inside z f 0=true:=by
 have hb:=zAx hr
 rw [zAr hr,pw0]
 unfold inZ
 simp only [Bool.and_eq_true,decide_eq_true_eq]
 omega
theorem zRv {z:zW} {f:Int} (hz:Zk z) (h:zEw z=0) (hi:inside z f 0=true):zKH z f=true↔cov z f:=by
 obtain ⟨hr,hin,_⟩:=zE5 hz h
 have hb:=zAO hr hi
 have hc:=zJD hz hr hin f.toNat
 rw [zQH hb.1] at hc
 unfold zKH
 rw [dt h,hi]
 simp only [Bool.and_self,Bool.true_and,decide_eq_true_eq]
 exact hc
def Lf (a:zH) (c p:Nat):List Int:=at_ (at_ a.caches (c:Int)).lists (p:Int)
def Zn (a:zH) (p:Nat):zW:=at_ a.zones (p:Int)
structure Wa (a:zH):Prop where
 n:1≤a.nodes.length∧a.nodes.length≤4
 nr:∀ v,v∈a.nodes→0≤v∧v<4
 se:zE 0 a.zones=0
 bh:1≤a.batch∧a.batch≤a.high∧a.high≤64
 zn:1≤a.zones.length∧a.zones.length≤6
 cn:a.caches.length=a.nodes.length
 zs:∀ p,p<a.zones.length→OkZ (Zn a p)
 ap:∀ p q f,p<a.zones.length→q<a.zones.length→inside (Zn a p) f 0=true→inside (Zn a q) f 0=true→p=q
 cl:∀ c,c<a.caches.length→(at_ a.caches (c:Int)).lists.length=a.zones.length
 own:∀ c p f,c<a.caches.length→f∈Lf a c p→inside (Zn a p) f 0=true ∧ ¬ cov (Zn a p) f
 nd:∀ c p,c<a.caches.length→(Lf a c p).Nodup
 dis:∀ c d p q f,c<a.caches.length→d<a.caches.length→f∈Lf a c p→f∈Lf a d q→c=d∧p=q
 lim:∀ c p,c<a.caches.length→((Lf a c p).length:Int)≤a.high
section
variable {a:zH}
theorem Wa.pz (h:Wa a) {c p:Nat} {f:Int} (hc:c<a.caches.length) (hf:f∈Lf a c p):p<a.zones.length:=by
 rw [← h.cl c hc]
 exact zYv hf
theorem Wa.pc (h:Wa a) {c:Nat} (hc:c<a.caches.length):Pc (at_ a.caches (c:Int)) a.zones.length:=by
 have hl:=h.cl c hc
 have hlf:∀ l,l∈(at_ a.caches (c:Int)).lists → ∃ p,p<a.zones.length∧l=Lf a c p:=fun l hm=>by
  obtain ⟨p,hp,e⟩:=List.getElem_of_mem hm
  exact ⟨p,by omega,by unfold Lf; rw [zFU hp,e]⟩
 refine ⟨h.zn,hl,fun l hm => ?_,fun l hm f hf => ?_,fun l hm => ?_,fun p q f hp hq h1 h2=>(h.dis c c p q f hc hc h1 h2).2⟩
 ·obtain ⟨p,hp,rfl⟩:=hlf l hm
  have:=h.lim c p hc
  have:=h.bh
  omega
 ·obtain ⟨p,hp,rfl⟩:=hlf l hm
  have hb:=(h.zs p hp).bds (h.own c p f hc hf).1
  rw [pw0] at hb
  unfold zBj
  simp
  omega
 ·obtain ⟨p,hp,rfl⟩:=hlf l hm
  exact h.nd c p hc
end
end Go.Proofs.Ytplkliakhdkpcaa
namespace Go.Proofs.Ytplkliakhdkpcaa
open Go Go.RowKit Go.Wk Go.Am
theorem zNQ {α:Type} [Inhabited α] {l:List α} {i j:Nat} {x:α} (h:i<l.length):at_ (l.set i x) (j:Int)=if j=i then x else at_ l (j:Int):=by
 unfold at_
 rw [Int.toNat_natCast,List.getD_eq_getElem?_getD,List.getElem?_set]
 by_cases hj:i=j
 ·rw [if_pos hj,if_pos h,if_pos hj.symm]
  rfl
 ·rw [if_neg hj,if_neg (fun e=>hj e.symm),List.getD_eq_getElem?_getD]
theorem zVa {z:zW}:∀ (zs:List zW) (s:Int) (p:Nat),zE s zs=0→p<zs.length→zEw z=0→zEa z (at_ zs (p:Int))→zE s (zs.set p z)=0
 | [],_,_,_,hp,_,_=>by simp at hp
 | y::zs,s,p,h,hp,hc,h5=>by
  unfold zE at h
  by_cases hy:zEw y=0
  ·rw [if_pos hy] at h
   by_cases hs:y.start=s
   ·rw [if_pos hs] at h
    cases p with
    | zero =>
     have h5':zEa z y:=h5
     show zE s (z::zs)=0
     unfold zE
     rw [if_pos hc,if_pos (h5'.2.2.1.trans hs),h5'.2.2.2.1]
     exact h
    | succ p =>
     show zE s (y::zs.set p z)=0
     unfold zE
     rw [if_pos hy,if_pos hs]
     refine zVa zs _ p h (by simpa using hp) hc ?_
     have e:at_ (y::zs) ((p+1:Nat):Int)=at_ zs (p:Int):=rfl
     rw [e] at h5
     exact h5
   ·rw [if_neg hs] at h; cases h
  ·rw [if_neg hy] at h; exact absurd h hy
def upd (a:zH) (c p:Nat) (l:List Int) (z:zW):zH:=⟨a.nodes,a.batch,a.high,a.zones.set p z,a.caches.set c ⟨(at_ a.caches (c:Int)).lists.set p l⟩⟩
section
variable {a:zH} {c p:Nat} {l:List Int} {z:zW}
theorem zRa (hp:p<a.zones.length) (q:Nat):Zn (upd a c p l z) q=if q=p then z else Zn a q:=zNQ hp
theorem zRk (h:Wa a) (hc:c<a.caches.length) (hp:p<a.zones.length) (d q:Nat):Lf (upd a c p l z) d q=if d=c∧q=p then l else Lf a d q:=by
 unfold Lf upd
 rw [zNQ hc]
 by_cases hd:d=c
 ·subst hd
  rw [if_pos rfl,zNQ (by rw [h.cl d hc]; exact hp)]
  by_cases hq:q=p
  ·rw [if_pos hq,if_pos ⟨rfl,hq⟩]
  ·rw [if_neg hq,if_neg (fun e=>hq e.2)]
 ·rw [if_neg hd,if_neg (fun e=>hd e.1)]
theorem zNr (h:Wa a) (hc:c<a.caches.length) (hp:p<a.zones.length) (hz:OkZ z) (h5:zEa z (Zn a p)) (hl:(l.length:Int)≤a.high) (hn:l.Nodup)
  (hi:∀ f,f∈l→inside (Zn a p) f 0=true ∧ ¬ cov z f) (hd:∀ d f,d<a.caches.length→d≠c→f∈Lf a d p→f ∉ l ∧ ¬ cov z f):Wa (upd a c p l z):=by
 have hZ:=fun q=>zRa (c:=c) (l:=l) (z:=z) hp q
 have hL:=fun d q=>zRk (l:=l) (z:=z) h hc hp d q
 have hzl:(upd a c p l z).zones.length=a.zones.length:=List.length_set
 have hcl:(upd a c p l z).caches.length=a.caches.length:=List.length_set
 have hin:∀ q f,inside (Zn (upd a c p l z) q) f 0=inside (Zn a q) f 0:=fun q f=>by
  rw [hZ q]
  by_cases hq:q=p
  ·rw [if_pos hq,hq,h5.inside]
  ·rw [if_neg hq]
 have hq':∀ d q f,d<a.caches.length→f∈Lf a d q→f∈l→q=p:=fun d q f hd1 hf hfl=>h.ap q p f (h.pz hd1 hf) hp (h.own d q f hd1 hf).1 (hi f hfl).1
 refine ⟨h.n,h.nr,zVa a.zones 0 p h.se hp (zCq hz) h5,h.bh,by rw [hzl]; exact h.zn,by rw [hcl]; exact h.cn,fun q hq => ?_,fun q r f hq hr h1 h2 => ?_,fun d hd1 => ?_,fun d q f hd1 hf => ?_,fun d q hd1 => ?_,fun d e q r f hd1 he h1 h2 => ?_,fun d q hd1 => ?_⟩
 ·rw [hZ q]
  by_cases e:q=p
  ·rw [if_pos e]; exact hz
  ·rw [if_neg e]; exact h.zs q (by rwa [hzl] at hq)
 ·rw [hin] at h1 h2
  exact h.ap q r f (by rwa [hzl] at hq) (by rwa [hzl] at hr) h1 h2
 ·rw [hcl] at hd1
  rw [hzl]
  show (at_ (a.caches.set c _) (d:Int)).lists.length=_
  rw [zNQ hc]
  by_cases e:d=c
  ·rw [if_pos e]
   show ((at_ a.caches (c:Int)).lists.set p l).length=_
   rw [List.length_set,h.cl c hc]
  ·rw [if_neg e]; exact h.cl d hd1
 ·rw [hcl] at hd1
  rw [hin,hZ q]
  rw [hL d q] at hf
  by_cases e:d=c∧q=p
  ·rw [if_pos e] at hf
   rw [if_pos e.2,e.2]
   exact hi f hf
  ·rw [if_neg e] at hf
   refine ⟨(h.own d q f hd1 hf).1,?_⟩
   by_cases hqp:q=p
   ·subst hqp
    rw [if_pos rfl]
    exact (hd d f hd1 (fun x=>e ⟨x,rfl⟩) hf).2
   ·rw [if_neg hqp]; exact (h.own d q f hd1 hf).2
 ·rw [hcl] at hd1
  rw [hL d q]
  by_cases e:d=c∧q=p
  ·rw [if_pos e]; exact hn
  ·rw [if_neg e]; exact h.nd d q hd1
 ·rw [hcl] at hd1 he
  rw [hL d q] at h1
  rw [hL e r] at h2
  by_cases e1:d=c∧q=p
  ·rw [if_pos e1] at h1
   by_cases e2:e=c∧r=p
   ·exact ⟨e1.1.trans e2.1.symm,e1.2.trans e2.2.symm⟩
   ·rw [if_neg e2] at h2
    have hr:=hq' e r f he h2 h1
    subst hr
    exact absurd h1 (hd e f he (fun x=>e2 ⟨x,rfl⟩) h2).1
  ·rw [if_neg e1] at h1
   by_cases e2:e=c∧r=p
   ·rw [if_pos e2] at h2
    have hr:=hq' d q f hd1 h1 h2
    subst hr
    exact absurd h2 (hd d f hd1 (fun x=>e1 ⟨x,rfl⟩) h1).1
   ·rw [if_neg e2] at h2
    exact h.dis d e q r f hd1 he h1 h2
 ·rw [hcl] at hd1
  rw [hL d q]
  by_cases e:d=c∧q=p
  ·rw [if_pos e]; exact hl
  ·rw [if_neg e]; exact h.lim d q hd1
theorem zYt {f:Int} (h:OkZ z) (hi:inside z f 0=true) (hn:¬ cov z f):zH4 z f 0=some (zNY 4 z f 0,0) :=
 zVL (k:=0) h.zk h.inI (zCq h) (by omega) hi (fun g g1 g2=>by
  rw [pw0] at g2
  have:g=f:=by omega
  rw [this]; exact hn)
theorem zYT {f:Int} (h:OkZ z) (hi:inside z f 0=true) (hn:¬ cov z f):zKr z f 0=some (zNY 4 z f 0,0) :=
 zUw (k:=0) h.zk (zCq h) (by omega) hi (fun g g1 g2=>by
  rw [pw0] at g2
  have:g=f:=by omega
  rw [this]; exact hn)
theorem zTx {fs:List Int} (hfs:fs.length≤1000):∀ (m n i:Nat) (zs:List zW),i+m=fs.length→m<n→p<zs.length→OkZ (at_ zs (p:Int))→(∀ f,f∈fs.drop i→inside (at_ zs (p:Int)) f 0=true ∧ ¬ cov (at_ zs (p:Int)) f)→(fs.drop i).Nodup →
  zDF a (p:Int) fs n (i:Int) zs=some ⟨a.nodes,a.batch,a.high,zs.set p (zKc (at_ zs (p:Int)) (fs.drop i)),a.caches⟩ ∧
  zJ2 a (p:Int) fs n (i:Int) zs=some ⟨a.nodes,a.batch,a.high,zs.set p (zKc (at_ zs (p:Int)) (fs.drop i)),a.caches⟩:=by
 intro m
 induction m with
 | zero =>
  intro n i zs h1 h2 hp _ _ _
  obtain ⟨n,rfl⟩:=ex1 ‹_<n›
  rw [List.drop_eq_nil_of_le (by omega)]
  show zCZ _ _ _ _ _ _=some (⟨_,_,_,zs.set p (at_ zs (p:Int)),_⟩:zH)∧zGr _ _ _ _ _ _=some (⟨_,_,_,zs.set p (at_ zs (p:Int)),_⟩:zH)
  unfold zCZ zGr
  rw [zf (df (by omega)),zf (df (by omega)),zIf hp]
  exact ⟨rfl,rfl⟩
 | succ m ih =>
  intro n i zs h1 h2 hp ho hf hn
  obtain ⟨n,rfl⟩:=ex1 ‹_<n›
  have hi:i<fs.length:=by omega
  rw [zCj hi] at hf hn ⊢
  have h0:=hf (at_ fs (i:Int)) (by simp)
  have hnd:=List.nodup_cons.1 hn
  obtain ⟨q1,q2,q3⟩:=OkZ.put 4 (k:=0) (by omega) ho h0.1 (fun g g1 g2=>by
   rw [pw0] at g2
   have:g=at_ fs (i:Int):=by omega
   rw [this]; exact h0.2)
  have e1:at_ (zs.set p (zNY 4 (at_ zs (p:Int)) (at_ fs (i:Int)) 0)) (p:Int)=zNY 4 (at_ zs (p:Int)) (at_ fs (i:Int)) 0:=by rw [zNQ hp,if_pos rfl]
  have hr:=ih n (i+1) (zs.set p (zNY 4 (at_ zs (p:Int)) (at_ fs (i:Int)) 0)) (by omega) (by omega) (by rw [List.length_set]; exact hp) (by rw [e1]; exact q1) (fun g hg=>by
   rw [e1,q3.inside]
   refine ⟨(hf g (by simp [hg])).1,fun hc => ?_⟩
   rcases (q2 g).1 hc with hc | hc
   ·exact (hf g (by simp [hg])).2 hc
   ·rw [pw0] at hc
    have:g=at_ fs (i:Int):=by omega
    exact hnd.1 (this▸hg)) hnd.2
  rw [e1,List.set_set] at hr
  show zCZ _ _ _ _ _ _=some (⟨_,_,_,zs.set p (zKc (zNY 4 (at_ zs (p:Int)) (at_ fs (i:Int)) 0) (fs.drop (i+1))),_⟩:zH)∧zGr _ _ _ _ _ _=some (⟨_,_,_,zs.set p (zKc (zNY 4 (at_ zs (p:Int)) (at_ fs (i:Int)) 0) (fs.drop (i+1))),_⟩:zH)
  unfold zCZ zGr zEI
  rw [zz (dt (by omega)),zz (dt (by omega)),zP (zAC hi),zP (zAC hp),zP (zAC hp),zP (zAC hi),zYt ho h0.1 h0.2,zYT ho h0.1 h0.2,zAt,zAt,zz (dt rfl),zP (zu (by omega)),zP (zu (by omega))]
  exact hr
theorem zTV {fs:List Int} (hfs:fs.length≤1000) (hp:p<a.zones.length) (ho:OkZ (Zn a p)) (hf:∀ f,f∈fs→inside (Zn a p) f 0=true ∧ ¬ cov (Zn a p) f) (hn:fs.Nodup) :
  zD6 a (p:Int) fs=some ⟨a.nodes,a.batch,a.high,a.zones.set p (zKc (Zn a p) fs),a.caches⟩∧zKm a (p:Int) fs=some ⟨a.nodes,a.batch,a.high,a.zones.set p (zKc (Zn a p) fs),a.caches⟩ :=
 zTx (a:=a) hfs fs.length z8 0 a.zones (by omega) (by unfold z8; omega) hp ho hf hn
theorem zX7 (h:Va a) (hw:Wa a) {f:Int} (hp:p<a.zones.length) (hi:inside (Zn a p) f 0=true):∃ b,zC7 a (p:Int) f=some b∧zOz a (p:Int) f=some b∧(b=true↔cov (Zn a p) f ∨ ∃ c,c<a.caches.length∧f∈Lf a c p):=by
 have hzk:=h.al.zk _ (zAy hp)
 have hcl:=h.al.c
 obtain ⟨r1,q1,s1⟩:=zUH h (f:=f) hp a.caches.length z8 0 (by omega) (by unfold z8; omega)
 obtain ⟨r2,q2,s2⟩:=zTB h (f:=f) hp a.caches.length z8 0 (by omega) (by unfold z8; omega)
 have ed:decide (0≤r1)=decide (0≤r2):=decide_eq_decide.2 (s1.trans s2.symm)
 have e1:zCR a (p:Int) f=some r1:=by
  unfold zCR zAV
  rw [z0i,q1]
  rfl
 have e2:zKD a (p:Int) f=some r2:=q2
 have hc:=zRv hzk.1 (zCq (hw.zs p hp)) hi
 have hs:0≤r1 ↔ ∃ c,c<a.caches.length∧f∈Lf a c p:=by
  rw [s1,List.drop_zero]
  constructor
  ·rintro ⟨c,h1,h2⟩
   obtain ⟨d,hd,e⟩:=List.getElem_of_mem h1
   exact ⟨d,hd,by unfold Lf; rw [zFU hd,e]; exact h2⟩
  ·rintro ⟨c,h1,h2⟩
   exact ⟨_,zAy h1,h2⟩
 unfold zC7 zOz
 rw [zP (zAC hp),zP (zAC hp),zX9 hzk.1 hzk.2,zZY hzk.1,zAt,zAt,e1,e2]
 cases hz:zKH (at_ a.zones (p:Int)) f with
 | true=>exact ⟨true,rfl,rfl,fun _ => .inl (hc.1 hz),fun _=>rfl⟩
 | false =>
  refine ⟨decide (0≤r1),?_,?_,?_⟩
  ·show some (false||decide (0≤r1))=_
   rw [Bool.false_or]
  ·show some (false||decide (0≤r2))=_
   rw [Bool.false_or,ed]
  ·rw [decide_eq_true_eq,hs]
   exact ⟨.inr,fun x=>x.resolve_left fun y=>by rw [show zKH (at_ a.zones (p:Int)) f=true from hc.2 y] at hz; cases hz⟩
def zQx (a:zH) (c p:Nat) (f:Int):zH:=⟨a.nodes,a.batch,a.high,a.zones.set p (zKc (Zn a p) (zM9 (at_ a.caches (c:Int)) p f a.batch a.high).2),a.caches.set c (zM9 (at_ a.caches (c:Int)) p f a.batch a.high).1⟩
theorem zVi (hw:Wa a) {f:Int} (hc:c<a.caches.length) (hp:p<a.zones.length) (hi:inside (Zn a p) f 0=true) (hn:¬ cov (Zn a p) f) (hq:∀ d,d<a.caches.length→f ∉ Lf a d p) :
  zH6 (at_ a.caches (c:Int)) (p:Int) f a.batch a.high=some ((zM9 (at_ a.caches (c:Int)) p f a.batch a.high).1,(zM9 (at_ a.caches (c:Int)) p f a.batch a.high).2,0) ∧
  zNR (at_ a.caches (c:Int)) (p:Int) f a.batch a.high=some ((zM9 (at_ a.caches (c:Int)) p f a.batch a.high).1,(zM9 (at_ a.caches (c:Int)) p f a.batch a.high).2,0) ∧
  (∀ cs,zD6 ⟨a.nodes,a.batch,a.high,a.zones,cs⟩ (p:Int) (zM9 (at_ a.caches (c:Int)) p f a.batch a.high).2=some ⟨a.nodes,a.batch,a.high,a.zones.set p (zKc (Zn a p) (zM9 (at_ a.caches (c:Int)) p f a.batch a.high).2),cs⟩ ∧
   zKm ⟨a.nodes,a.batch,a.high,a.zones,cs⟩ (p:Int) (zM9 (at_ a.caches (c:Int)) p f a.batch a.high).2=some ⟨a.nodes,a.batch,a.high,a.zones.set p (zKc (Zn a p) (zM9 (at_ a.caches (c:Int)) p f a.batch a.high).2),cs⟩)∧Wa (zQx a c p f):=by
 have hpc:=hw.pc hc
 have hb:=(hw.zs p hp).bds hi
 rw [pw0] at hb
 have hlim:=hw.lim c p hc
 have hnd:=hw.nd c p hc
 have hbh:=hw.bh
 have hfr:zBj f=true:=by unfold zBj; simp; omega
 have hfl:f ∉ (at_ a.caches (c:Int)).lists.flatten:=fun hm=>by
  obtain ⟨l,hl,hfm⟩:=List.mem_flatten.1 hm
  obtain ⟨q,hq1,e⟩:=List.getElem_of_mem hl
  have hfq:f∈Lf a c q:=by unfold Lf; rw [zFU hq1,e]; exact hfm
  have:=hw.ap q p f (hw.pz hc hfq) hp (hw.own c q f hc hfq).1 hi
  subst this
  exact hq c hc hfq
 have hx:∀ g,g∈Lf a c p++[f]→inside (Zn a p) g 0=true ∧ ¬ cov (Zn a p) g:=fun g hg=>by
  rcases List.mem_append.1 hg with hg | hg
  ·exact hw.own c p g hc hg
  ·rw [List.mem_singleton.1 hg]; exact ⟨hi,hn⟩
 have hxn:(Lf a c p++[f]).Nodup:=by
  rw [List.nodup_append]
  exact ⟨hnd,by simp,fun x hx' y hy e=>by rw [List.mem_singleton.1 hy] at e; rw [e] at hx'; exact hq c hc hx'⟩
 have hl1:(Lf a c p++[f]).length=(Lf a c p).length+1:=by simp
 have hdd:∀ d g,d<a.caches.length→d≠c→g∈Lf a d p→g ∉ Lf a c p++[f]:=fun d g hd hdc hg hm=>by
  rcases List.mem_append.1 hm with hm | hm
  ·exact hdc (hw.dis d c p p g hd hc hg hm).1
  ·rw [List.mem_singleton.1 hm] at hg; exact hq d hd hg
 refine ⟨zZq hpc hp hfr hbh hfl,zZs hpc hp hfr hbh hfl,fun cs => ?_,?_⟩
 ·have hsp:∀ g,g∈(zM9 (at_ a.caches (c:Int)) p f a.batch a.high).2→g∈Lf a c p++[f]:=fun g hg=>by
   unfold zM9 at hg
   split at hg
   ·cases hg
   ·exact List.mem_of_mem_take hg
  have hsn:(zM9 (at_ a.caches (c:Int)) p f a.batch a.high).2.Nodup:=by
   unfold zM9
   split
   ·exact List.nodup_nil
   ·exact hxn.sublist (List.take_sublist _ _)
  have hsl:(zM9 (at_ a.caches (c:Int)) p f a.batch a.high).2.length≤1000:=by
   unfold zM9
   split
   ·exact Nat.zero_le _
   ·show (List.take _ (Lf a c p++[f])).length≤_
    rw [List.length_take]; omega
  exact zTV (a:=⟨a.nodes,a.batch,a.high,a.zones,cs⟩) hsl hp (hw.zs p hp) (fun g hg=>hx g (hsp g hg)) hsn
 ·unfold zQx zM9
  by_cases hh:((at_ (at_ a.caches (c:Int)).lists (p:Int)++[f]).length:Int)≤a.high
  ·rw [if_pos hh]
   exact zNr (z:=Zn a p) hw hc hp (hw.zs p hp) ⟨rfl,rfl,rfl,rfl,rfl⟩ hh hxn hx (fun d g hd hdc hg=>⟨hdd d g hd hdc hg,(hw.own d p g hd hg).2⟩)
  ·rw [if_neg hh]
   obtain ⟨g1,g2,g3⟩:=zKk (((Lf a c p)++[f]).take a.batch.toNat) (hw.zs p hp) (fun g hg=>hx g (List.mem_of_mem_take hg)) (hxn.sublist (List.take_sublist _ _))
   have hh':a.high<((Lf a c p++[f]).length:Int):=Int.not_le.1 hh
   have hdj:∀ g,g∈(Lf a c p++[f]).drop a.batch.toNat→g ∉ (Lf a c p++[f]).take a.batch.toNat:=fun g h1 h2=>by
    have:=hxn
    rw [← List.take_append_drop a.batch.toNat (Lf a c p++[f]),List.nodup_append] at this
    exact this.2.2 g h2 g h1 rfl
   refine zNr hw hc hp g1 g3 ?_ (hxn.sublist (List.drop_sublist _ _)) (fun g hg => ?_) (fun d g hd hdc hg=>⟨fun hm=>hdd d g hd hdc hg (List.mem_of_mem_drop hm),fun hcv => ?_⟩)
   ·show (((Lf a c p++[f]).drop a.batch.toNat).length:Int)≤_
    rw [List.length_drop]
    omega
   ·have h1:=hx g (List.mem_of_mem_drop hg)
    refine ⟨h1.1,fun hcv => ?_⟩
    rcases (g2 g).1 hcv with h | h
    ·exact h1.2 h
    ·exact hdj g hg h
   ·rcases (g2 g).1 hcv with h | h
    ·exact (hw.own d p g hd hg).2 h
    ·exact hdd d g hd hdc hg (List.mem_of_mem_take h)
end
end Go.Proofs.Ytplkliakhdkpcaa
namespace Go.Proofs.Ytplkliakhdkpcaa
open Go Go.RowKit Go.Wk Go.Am
def zLg (z:zW) (f:Int) (k:Nat):Nat→zW
 | 0=>z
 | m+1=>zLg (zMr z (f+2 ^ (k+m)) (k+m)) f k m
structure zU3 (z:zW) (f:Int) (q:Nat):Prop where
 al:f%2 ^ q=0
 lo:z.start≤f
 hi:f+2 ^ q≤z.start+z.count
 no:∀ g,f≤g→g<f+2 ^ q → ¬ cov z g
section
variable {z:zW} {f:Int} {k j:Nat}
theorem zKn {q:Nat} (ho:OkZ z) (hq:q<4) (h:zU3 z f (q+1)):OkZ (zMr z (f+2 ^ q) q)∧(∀ g,cov (zMr z (f+2 ^ q) q) g↔cov z g∨(f+2 ^ q≤g∧g<f+2 ^ (q+1)))∧zEa (zMr z (f+2 ^ q) q) z∧zU3 (zMr z (f+2 ^ q) q) f q:=by
 obtain ⟨h1,h2,h3,h4⟩:=h
 have hp:=zGI q
 have hs:=zI9 q
 have hr:=zAx ho.ranges
 obtain ⟨a1,a2⟩:=zQ9 h1
 have hin:inside z (f+2 ^ q) q=true:=(zAr ho.ranges).2 ⟨by omega,a2,by omega,by omega⟩
 have hfn:f ∉ lst z q:=fun hm=>h4 f (by omega) (by omega) ⟨q,f,hm,by omega,by omega⟩
 have hj:zKy z (f+2 ^ q) q=false:=by
  have hb:bud (f+2 ^ q) q=f:=by
   rcases zMw hq (show 0≤f+2 ^ q by omega) (by omega) a2 with ⟨e,_⟩ | ⟨_,e⟩
   ·exfalso
    rcases (show q=0∨q=1∨q=2∨q=3 by omega) with rfl | rfl | rfl | rfl
    ·have e':(f+1)%2=0:=e
     have h':f%2=0:=h1
     omega
    ·have e':(f+2)%4=0:=e
     have h':f%4=0:=h1
     omega
    ·have e':(f+4)%8=0:=e
     have h':f%8=0:=h1
     omega
    ·have e':(f+8)%16=0:=e
     have h':f%16=0:=h1
     omega
   ·rw [e]; omega
  unfold zKy
  rw [hb,df hfn]
  rfl
 obtain ⟨q1,q2,q3⟩:=ho.insert (by omega) hin (fun g g1 g2=>h4 g (by omega) (by omega)) (fun _=>hj)
 refine ⟨q1,fun g => ?_,q3,a1,?_,?_,fun g g1 g2 hc => ?_⟩
 ·rw [q2 g]
  constructor
  ·rintro (h | h)
   ·exact .inl h
   ·exact .inr (by omega)
  ·rintro (h | h)
   ·exact .inl h
   ·exact .inr (by omega)
 ·rw [q3.2.2.1]; exact h2
 ·rw [q3.2.2.1,q3.2.2.2.1]; omega
 ·rcases (q2 g).1 hc with h | h
  ·exact h4 g g1 (by omega) h
  ·omega
theorem zQy (k:Nat):∀ m:Nat,(2:Int) ^ k≤2 ^ (k+m)
 | 0=>Int.le_refl _
 | m+1=>by
  have h1:=zQy k m
  have h2:=zI9 (k+m)
  have h3:=zGI (k+m)
  rw [show k+(m+1)=k+m+1 by omega]
  omega
theorem zR5:∀ (m:Nat) {z:zW},k+m≤4→OkZ z→zU3 z f (k+m)→OkZ (zLg z f k m)∧(∀ g,cov (zLg z f k m) g↔cov z g∨(f+2 ^ k≤g∧g<f+2 ^ (k+m)))∧zEa (zLg z f k m) z
 | 0,z,_,ho,_=>⟨ho,fun g=>⟨.inl,fun h=>h.elim id (fun h=>by rw [Nat.add_zero] at h; omega)⟩,⟨rfl,rfl,rfl,rfl,rfl⟩⟩
 | m+1,z,hk,ho,h=>by
  obtain ⟨q1,q2,q3,q4⟩:=zKn ho (q:=k+m) (by omega) h
  obtain ⟨r1,r2,r3⟩:=zR5 m (by omega) q1 q4
  refine ⟨r1,fun g => ?_,r3.trans q3⟩
  show cov (zLg (zMr z (f+2 ^ (k+m)) (k+m)) f k m) g↔_
  have hle:=zQy k m
  have hs:=zI9 (k+m)
  have hp:=zGI (k+m)
  rw [r2 g,q2 g,show k+(m+1)=k+m+1 by omega]
  constructor
  ·rintro ((h | h) | h)
   ·exact .inl h
   ·exact .inr (by omega)
   ·exact .inr (by omega)
  ·rintro (h | h)
   ·exact .inl (.inl h)
   ·by_cases hg:f+2 ^ (k+m)≤g
    ·exact .inl (.inr (by omega))
    ·exact .inr (by omega)
theorem zWG (hj:j≤4) (hf:at_ (lst z j) (0:Int)=f):∀ (m n:Nat) (y:zW),k+m≤j→m<n→OkZ y→zEa y z→zU3 y f (k+m)→zEt (k:Int) (j:Int) z n ((k+m:Nat):Int) y.free=some (zLg y f k m,f,0):=by
 intro m
 induction m with
 | zero =>
  intro n y h1 h2 ho h5 hh
  obtain ⟨n,rfl⟩:=ex1 ‹_<n›
  show zEB _ _ _ _ _ _=_
  unfold zEB zHM
  rw [zf (df (by omega)), ← h5.1, ← h5.2.1, ← h5.2.2.1, ← h5.2.2.2.1, ← h5.2.2.2.2]
  show some (_,at_ (lst z j) (0:Int),0)=_
  rw [hf]
  rfl
 | succ m ih =>
  intro n y h1 h2 ho h5 hh
  obtain ⟨n,rfl⟩:=ex1 ‹_<n›
  obtain ⟨q1,q2,q3,q4⟩:=zKn ho (q:=k+m) (by omega) hh
  obtain ⟨e1,p1,p2⟩:=zIB (k:=k+m) (by omega)
  have hb:=zAx ho.ranges
  have hlo:=hh.lo
  have hhi:=hh.hi
  have hpp:=zGI (k+(m+1))
  have hP:=ho.putI
  have h5l:=ho.len
  have hi2:((k+(m+1):Nat):Int) - 1=((k+m:Nat):Int):=by omega
  have hfe:at_ (z.free.getD (j:Int).toNat []) (0:Int)=f:=hf
  have hl:y.free.getD ((k+m:Nat):Int).toNat []=lst y (k+m):=rfl
  have hok:zNo (lst y (k+m)) (lb (lst y (k+m)) (f+2 ^ (k+m)):Int)=true:=by
   have h1:=zUX (lst y (k+m)) (f+2 ^ (k+m))
   have h2:=hP.len' (k+m)
   unfold zNo
   rw [dt (by omega),dt (by omega),dt (by omega)]
   rfl
  show zEB _ _ _ _ _ _=_
  unfold zEB
  rw [zz (dt (by omega)),zP (zu (by omega)),hi2,zP (zM2 (by omega)),e1,hfe,zP (zu (by omega)),zP (zu (by omega)),zP (zAC (by omega)),zP (dt (by omega)),hl,zPz (hP.srt' _) (by have:=hP.len' (k+m); omega),zAt,zP hok]
  show zEt (k:Int) (j:Int) z n ((k+m:Nat):Int) (zEF 5 [] y.free (k+m) (zSo (lst y (k+m)) (f+2 ^ (k+m))))=_
  rw [zJI h5l (by omega)]
  exact ih n (zMr y (f+2 ^ (k+m)) (k+m)) (by omega) (by omega) q1 (q3.trans h5) q4
def zNB (z:zW):Nat→Nat→Option Nat
 | _,0=>none
 | i,m+1=>if lst z i=[] then zNB z (i+1) m else some i
theorem zPj:∀ {m i j:Nat},zNB z i m=some j→i≤j∧j<i+m∧lst z j≠[] ∧ ∀ q,i≤q→q<j→lst z q=[]
 | 0,_,_,h=>by cases h
 | m+1,i,j,h=>by
  unfold zNB at h
  by_cases h0:lst z i=[]
  ·rw [if_pos h0] at h
   obtain ⟨h1,h2,h3,h4⟩:=zPj h
   refine ⟨by omega,by omega,h3,fun q q1 q2 => ?_⟩
   by_cases e:q=i
   ·rw [e]; exact h0
   ·exact h4 q (by omega) q2
  ·rw [if_neg h0] at h
   cases h
   exact ⟨Nat.le_refl _,by omega,h0,fun q q1 q2=>by omega⟩
theorem zQO:∀ {m i:Nat},zNB z i m=none → ∀ q,i≤q→q<i+m→lst z q=[]
 | 0,_,_,q,_,_=>by omega
 | m+1,i,h,q,q1,q2=>by
  unfold zNB at h
  by_cases h0:lst z i=[]
  ·rw [if_pos h0] at h
   by_cases e:q=i
   ·rw [e]; exact h0
   ·exact zQO h q (by omega) (by omega)
  ·rw [if_neg h0] at h; cases h
def zCz (z:zW) (k:Nat):zW×Int×Int:=match zNB z k (5 - k) with
 | none=>(⟨0,0,0,0,0,List.replicate 5 []⟩,0,16)
 | some j=>(zLg (zMD z (at_ (lst z j) (0:Int)) j) (at_ (lst z j) (0:Int)) k (j - k),at_ (lst z j) (0:Int),0)
theorem zXi {l:List Int} (h:l≠[]):∃ x r,l=x::r∧at_ l (0:Int)=x:=by
 cases l with
 | nil=>exact absurd rfl h
 | cons x r=>exact ⟨x,r,rfl,rfl⟩
theorem zYf (ho:OkZ z) (h:lst z j≠[]):zMD z (at_ (lst z j) (0:Int)) j=zTW z j ((lst z j).drop 1):=by
 obtain ⟨x,r,e1,e2⟩:=zXi h
 have hs:=ho.srt j
 unfold zMD
 rw [e2]
 rw [e1] at hs ⊢
 rw [zQl (fun y hy=>by
  rcases List.mem_cons.1 hy with rfl | hy
  ·exact Int.le_refl _
  ·exact Int.le_of_lt ((List.pairwise_cons.1 hs).1 y hy))]
 rfl
theorem zO9 (ho:OkZ z) (hj:j≤4) (h:f∈lst z j):OkZ (zMD z f j)∧(∀ g,cov (zMD z f j) g↔cov z g ∧ ¬ (f≤g∧g<f+2 ^ j))∧zEa (zMD z f j) z∧zU3 (zMD z f j) f j:=by
 obtain ⟨q1,q2,q3⟩:=ho.del h
 have hb:=ho.bds (ho.ins j f h)
 refine ⟨q1,q2,q3,hb.2.2.2.2,?_,?_,fun g g1 g2 hc=>((q2 g).1 hc).2 ⟨g1,g2⟩⟩
 ·rw [q3.2.2.1]; exact hb.2.2.1
 ·rw [q3.2.2.1,q3.2.2.2.1]; exact hb.2.2.2.1
theorem zNf (ho:OkZ z) (hj:zNB z k (5 - k)=some j):(zCz z k).2.2=0∧OkZ (zCz z k).1∧zEa (zCz z k).1 z∧inside z (zCz z k).2.1 k=true∧(∀ g,cov (zCz z k).1 g↔cov z g ∧ ¬ ((zCz z k).2.1≤g∧g<(zCz z k).2.1+2 ^ k))∧(∀ g,(zCz z k).2.1≤g→g<(zCz z k).2.1+2 ^ k→cov z g):=by
 obtain ⟨h1,h2,h3,_⟩:=zPj hj
 unfold zCz
 rw [hj]
 dsimp only
 obtain ⟨x,r,e1,e2⟩:=zXi h3
 have hx:at_ (lst z j) (0:Int)∈lst z j:=by rw [e2,e1]; simp
 obtain ⟨q1,q2,q3,q4⟩:=zO9 ho (by omega) hx
 have e:k+(j - k)=j:=by omega
 obtain ⟨r1,r2,r3⟩:=zR5 (f:=at_ (lst z j) (0:Int)) (k:=k) (j - k) (by omega) q1 (by rw [e]; exact q4)
 have hpk:=zGI k
 have hle:=zQy k (j - k)
 rw [e] at hle
 have hb:=ho.bds (ho.ins j _ hx)
 have hcv:∀ g,at_ (lst z j) (0:Int)≤g→g<at_ (lst z j) (0:Int)+2 ^ j→cov z g:=fun g g1 g2=>⟨j,_,hx,g1,g2⟩
 refine ⟨rfl,r1,r3.trans q3,?_,fun g => ?_,fun g g1 g2=>hcv g g1 (by omega)⟩
 ·refine (zAr ho.ranges).2 ⟨hb.2.2.1,?_,?_,?_⟩
  ·have h9:=hb.2.2.2.2
   have h10:(2:Int) ^ j=2 ^ k*2 ^ (j - k):=by rw [← Int.pow_add,e]
   rw [h10] at h9
   exact Int.emod_eq_zero_of_dvd (Int.dvd_trans ⟨_,rfl⟩ (Int.dvd_of_emod_eq_zero h9))
  ·omega
  ·omega
 ·rw [r2 g,q2 g,e]
  constructor
  ·rintro (⟨h,h'⟩ | h)
   ·exact ⟨h,fun hh=>h' ⟨hh.1,by have:=hh.2; omega⟩⟩
   ·exact ⟨hcv g (by omega) h.2,fun hh=>by have:=hh.2; omega⟩
  ·rintro ⟨h,h'⟩
   by_cases hg:at_ (lst z j) (0:Int)≤g∧g<at_ (lst z j) (0:Int)+2 ^ j
   ·refine .inr ⟨?_,hg.2⟩
    by_cases hh:at_ (lst z j) (0:Int)+2 ^ k≤g
    ·exact hh
    ·exact absurd ⟨hg.1,by omega⟩ h'
   ·exact .inl ⟨h,hg⟩
theorem zWX (ho:OkZ z) (hk:k≤4):∀ (m n i:Nat),i+m=5→m<n→k≤i→zFh z (k:Int) n (i:Int)=match zNB z i m with
  | none=>some (⟨0,0,0,0,0,List.replicate 5 []⟩,0,16)
  | some j=>some (zLg (zMD z (at_ (lst z j) (0:Int)) j) (at_ (lst z j) (0:Int)) k (j - k),at_ (lst z j) (0:Int),0):=by
 intro m
 induction m with
 | zero =>
  intro n i h1 h2 h3
  obtain ⟨n,rfl⟩:=ex1 ‹_<n›
  show zD8 _ _ _ _=some (⟨0,0,0,0,0,List.replicate 5 []⟩,0,16)
  unfold zD8 zFr
  rw [df (p:=(i:Int)≤4) (by omega),zP (by rfl),zf (by rfl),zz (dt (by omega))]
 | succ m ih =>
  intro n i h1 h2 h3
  obtain ⟨n,rfl⟩:=ex1 ‹_<n›
  have hll:=ho.putI.len' i
  have hl:z.free.getD (i:Int).toNat []=lst z i:=rfl
  show zD8 _ _ _ _=_
  unfold zD8 zNB
  rw [hl,dt (p:=(i:Int)≤4) (by omega),zP (zMv (zAC (by omega)))]
  by_cases h0:lst z i=[]
  ·rw [if_pos h0,zz (by rw [h0]; rfl),zP (zu (by omega))]
   exact ih n (i+1) (by omega) (by omega) (by omega)
  ·obtain ⟨x,r,e1,e2⟩:=zXi h0
   have hlen:(lst z i).length=r.length+1:=by rw [e1]; rfl
   have hx:at_ (lst z i) (0:Int)∈lst z i:=by rw [e2,e1]; simp
   obtain ⟨q1,q2,q3,q4⟩:=zO9 ho (by omega) hx
   have ecut:zE9 (lst z i) 1 ((lst z i).length:Int)=(lst z i).drop 1:=by
    unfold zE9
    rw [Int.toNat_natCast,List.take_length]
    rfl
   rw [if_neg h0,zf (by rw [df (by omega)]; rfl)]
   unfold zFr
   rw [zf (df (by omega)),zS7 ho.zk,zAt,hl,zP (zAC (by omega)),zP (dt (by omega)),zP (zSb (by omega)),zP (by unfold zGs; simp; omega),zP (dt (by omega)),ecut,Int.toNat_natCast,zJI ho.len (by omega)]
   have e:k+(i - k)=i:=by omega
   have:=zWG (z:=z) (f:=at_ (lst z i) (0:Int)) (k:=k) (j:=i) (by omega) rfl (i - k) z8 (zMD z (at_ (lst z i) (0:Int)) i) (by omega) (by unfold z8; omega) q1 q3 (by rw [e]; exact q4)
   rw [e,zYf ho h0] at this
   show _=some (zLg (zMD z (at_ (lst z i) (0:Int)) i) (at_ (lst z i) (0:Int)) k (i - k),at_ (lst z i) (0:Int),0)
   rw [zYf ho h0]
   exact this
theorem zYs (ho:OkZ z) (hk:k≤4):zG4 z (k:Int)=some (zCz z k):=by
 unfold zG4 zCz
 rw [zOm ho.zk ho.inI,zCq ho,zAt,dt rfl,Bool.not_true,zf rfl,df (by omega),df (by omega),zf (by rfl),zWX ho hk (5 - k) z8 k (by omega) (by unfold z8; omega) (Nat.le_refl _)]
 cases zNB z k (5 - k) <;> rfl
theorem zWC (ho:OkZ z) (hk:k≤4) (hj:zNB z k (5 - k)=some j):∀ (m n i:Nat) (s:List Int),(i:Int)+m=at_ (lst z j) (0:Int)+2 ^ k→m<n→at_ (lst z j) (0:Int)≤i→s.length=256 →
  (∀ g:Nat,s.getD g 0=if at_ (lst z j) (0:Int)≤(g:Int)∧(g:Int)<i then 0 else (zNT z).getD g 0)→zJG z (k:Int) (j:Int) n (i:Int) s=some (zCz z k):=by
 obtain ⟨hr,hin,_⟩:=zE5 ho.zk (zCq ho)
 obtain ⟨w1,w2,w3,w4,w5,w6⟩:=zNf ho hj
 have ef:(zCz z k).2.1=at_ (lst z j) (0:Int):=by unfold zCz; rw [hj]
 have er:zCz z k=((zCz z k).1,at_ (lst z j) (0:Int),0):=by rw [← ef, ← w1]
 have hb:=zAO hr w4
 rw [ef] at w5 w6 hb
 obtain ⟨e,p1,p2⟩:=zIB (k:=k) (by omega)
 obtain ⟨_,h01⟩:=zJq ho.zk (zCq ho)
 have ell:at_ (z.free.getD (j:Int).toNat []) (0:Int)=at_ (lst z j) (0:Int):=rfl
 intro m
 induction m with
 | zero =>
  intro n i s h1 h2 h3 h4 h5
  obtain ⟨n,rfl⟩:=ex1 ‹_<n›
  have hw:=zQr (z:=z) (s:=s) h4 w2 w3 (fun g=>by
   rw [w5]
   constructor
   ·rintro ⟨⟨q,x,hx,x1,x2⟩,hg⟩
    have:=zAO hr (ho.ins q x hx)
    obtain ⟨g,rfl⟩:=Int.eq_ofNat_of_zero_le (show 0≤g by omega)
    refine ⟨by omega,by omega,?_⟩
    rw [Int.toNat_natCast,h5,if_neg (fun hh=>hg ⟨hh.1,by omega⟩)]
    have:=(zJD ho.zk hr hin g).2 ⟨q,x,hx,x1,x2⟩
    omega
   ·rintro ⟨g1,g2,g3⟩
    have hrb:=zAx hr
    obtain ⟨q,rfl⟩:=Int.eq_ofNat_of_zero_le (show 0≤g by omega)
    rw [Int.toNat_natCast,h5] at g3
    split at g3
    ·exact absurd rfl g3
    ·rename_i hq
     refine ⟨?_,fun hh=>hq ⟨hh.1,by omega⟩⟩
     rcases h01 q with e0 | e0
     ·exact absurd e0 g3
     ·exact (zJD ho.zk hr hin q).1 (by omega))
  show zFs _ _ _ _ _ _=_
  unfold zFs zLL
  rw [e,ell,zP (dt (zGb (by omega) (by omega))),zP (zM2 (by omega)),zP (zu (by omega)),zP (zu (by omega)),zf (df (by omega)),hw,zAt,zAt, ← er]
 | succ m ih =>
  intro n i s h1 h2 h3 h4 h5
  obtain ⟨n,rfl⟩:=ex1 ‹_<n›
  have hil:i<s.length:=by omega
  show zFs _ _ _ _ _ _=_
  unfold zFs
  rw [e,ell,zP (dt (zGb (by omega) (by omega))),zP (zM2 (by omega)),zP (zu (by omega)),zP (zu (by omega)),zz (dt (by omega)),zP (zAC hil),zP (zu (by omega))]
  refine ih n (i+1) _ (by omega) (by omega) (by omega) (by rw [List.length_set]; exact h4) (fun g => ?_)
  rw [Int.toNat_natCast,zU9 s i g hil,h5]
  by_cases hg:g=i
  ·rw [if_pos hg,if_pos (by omega)]
  ·rw [if_neg hg]
   by_cases hq:at_ (lst z j) (0:Int)≤(g:Int)∧(g:Int)<i
   ·rw [if_pos hq,if_pos (by omega)]
   ·rw [if_neg hq,if_neg (by omega)]
theorem zXQ (ho:OkZ z) (hk:k≤4):∀ (m n i:Nat),i+m=5→m<n→k≤i→zNB z k (5 - k)=zNB z i m→zJE z (k:Int) n (i:Int)=some (zCz z k):=by
 obtain ⟨hr,hin,_⟩:=zE5 ho.zk (zCq ho)
 intro m
 induction m with
 | zero =>
  intro n i h1 h2 h3 h4
  obtain ⟨n,rfl⟩:=ex1 ‹_<n›
  show zFi _ _ _ _=_
  unfold zFi zLE zCz
  rw [zf (df (by omega)),h4]
  rfl
 | succ m ih =>
  intro n i h1 h2 h3 h4
  obtain ⟨n,rfl⟩:=ex1 ‹_<n›
  have hl:z.free.getD (i:Int).toNat []=lst z i:=rfl
  show zFi _ _ _ _=_
  unfold zFi zLB
  rw [hl,zz (dt (by omega)),zP (zAC (by omega))]
  by_cases h0:lst z i=[]
  ·rw [zf (by rw [h0]; rfl),zP (zu (by omega))]
   refine ih n (i+1) (by omega) (by omega) (by omega) ?_
   rw [h4]
   show (if lst z i=[] then _ else _)=_
   rw [if_pos h0]
  ·obtain ⟨x,r,e1,e2⟩:=zXi h0
   have hlen:(lst z i).length=r.length+1:=by rw [e1]; rfl
   have hj:zNB z k (5 - k)=some i:=by
    rw [h4]
    show (if lst z i=[] then _ else _)=_
    rw [if_neg h0]
   have hx:at_ (lst z i) (0:Int)∈lst z i:=by rw [e2,e1]; simp
   have hb:=ho.bds (ho.ins i _ hx)
   obtain ⟨q,hq⟩:=Int.eq_ofNat_of_zero_le hb.1
   have pn:=zLw (k:=k) (by omega)
   obtain ⟨e,p1,p2⟩:=zIB (k:=k) (by omega)
   rw [zz (dt (by omega)),zP (zSb (by omega)),zQB ho.zk hr hin,zAt,hq]
   exact zWC ho hk hj (2 ^ k) z8 q (zNT z) (by omega) (by unfold z8; omega) (by omega) zMH (fun g=>by rw [if_neg (by omega)])
theorem zYg (ho:OkZ z) (hk:k≤4):zLc z (k:Int)=some (zCz z k):=by
 unfold zLc
 rw [zRt ho.zk,zCq ho,zAt,dt rfl,Bool.not_true,zf rfl,df (by omega),df (by omega),zf (by rfl)]
 exact zXQ ho hk (5 - k) z8 k (by omega) (by unfold z8; omega) (Nat.le_refl _) rfl
theorem zRL (h:zNB z k (5 - k)=none):zCz z k=(⟨0,0,0,0,0,List.replicate 5 []⟩,0,16):=by
 unfold zCz
 rw [h]
theorem zZX (ho:OkZ z) (h:zNB z 0 (5 - 0)=none):∀ g,¬ cov z g:=by
 rintro g ⟨q,x,hx,_⟩
 have hq:=ho.le4 hx
 rw [zQO h q (Nat.zero_le _) (by omega)] at hx
 cases hx
end
end Go.Proofs.Ytplkliakhdkpcaa
namespace Go.Proofs.Ytplkliakhdkpcaa
open Go Go.RowKit Go.Wk Go.Am
def tkZ (z:zW) (g x:Int):Nat→zW
 | 0=>z
 | m+1=>if x+2 ^ m≤g then tkZ (zMr z x m) g (x+2 ^ m) m else tkZ (zMr z (x+2 ^ m) m) g x m
section
variable {z:zW} {f g:Int} {k j:Nat}
theorem zR1 {q:Nat} (ho:OkZ z) (hq:q<4) (h:zU3 z f (q+1)):OkZ (zMr z f q)∧(∀ g,cov (zMr z f q) g↔cov z g∨(f≤g∧g<f+2 ^ q))∧zEa (zMr z f q) z∧zU3 (zMr z f q) (f+2 ^ q) q:=by
 obtain ⟨h1,h2,h3,h4⟩:=h
 have hp:=zGI q
 have hs:=zI9 q
 have hr:=zAx ho.ranges
 obtain ⟨a1,a2⟩:=zQ9 h1
 have hin:inside z f q=true:=(zAr ho.ranges).2 ⟨by omega,a1,by omega,by omega⟩
 have hfn:f+2 ^ q ∉ lst z q:=fun hm=>h4 (f+2 ^ q) (by omega) (by omega) ⟨q,_,hm,by omega,by omega⟩
 have hj:zKy z f q=false:=by
  have hb:bud f q=f+2 ^ q:=by
   rcases zMw hq (show 0≤f by omega) (by omega) a1 with ⟨_,e⟩ | ⟨e,_⟩
   ·exact e
   ·rw [h1] at e; omega
  unfold zKy
  rw [hb,df hfn]
  rfl
 obtain ⟨q1,q2,q3⟩:=ho.insert (by omega) hin (fun g g1 g2=>h4 g (by omega) (by omega)) (fun _=>hj)
 refine ⟨q1,fun g=>q2 g,q3,a2,?_,?_,fun g g1 g2 hc => ?_⟩
 ·rw [q3.2.2.1]; omega
 ·rw [q3.2.2.1,q3.2.2.2.1]; omega
 ·rcases (q2 g).1 hc with h | h
  ·exact h4 g (by omega) (by omega) h
  ·omega
theorem zXW:∀ (m:Nat) {z:zW} {x:Int},m≤4→OkZ z→zU3 z x m→x≤g→g<x+2 ^ m→OkZ (tkZ z g x m)∧(∀ y,cov (tkZ z g x m) y↔cov z y∨(x≤y∧y<x+2 ^ m∧y≠g))∧zEa (tkZ z g x m) z
 | 0,z,x,_,ho,_,h1,h2=>⟨ho,fun y=>⟨.inl,fun h=>h.elim id (fun h=>by rw [pw0] at h h2; omega)⟩,⟨rfl,rfl,rfl,rfl,rfl⟩⟩
 | m+1,z,x,hm,ho,hh,h1,h2=>by
  have hp:=zGI m
  have hs:=zI9 m
  unfold tkZ
  by_cases hg:x+2 ^ m≤g
  ·rw [if_pos hg]
   obtain ⟨q1,q2,q3,q4⟩:=zR1 ho (q:=m) (by omega) hh
   obtain ⟨r1,r2,r3⟩:=zXW m (by omega) q1 q4 hg (by omega)
   refine ⟨r1,fun y => ?_,r3.trans q3⟩
   rw [r2 y,q2 y]
   constructor
   ·rintro ((h | h) | h)
    ·exact .inl h
    ·exact .inr (by omega)
    ·exact .inr (by omega)
   ·rintro (h | h)
    ·exact .inl (.inl h)
    ·by_cases hy:x+2 ^ m≤y
     ·exact .inr (by omega)
     ·exact .inl (.inr (by omega))
  ·rw [if_neg hg]
   obtain ⟨q1,q2,q3,q4⟩:=zKn ho (q:=m) (by omega) hh
   obtain ⟨r1,r2,r3⟩:=zXW m (by omega) q1 q4 h1 (by omega)
   refine ⟨r1,fun y => ?_,r3.trans q3⟩
   rw [r2 y,q2 y]
   constructor
   ·rintro ((h | h) | h)
    ·exact .inl h
    ·exact .inr (by omega)
    ·exact .inr (by omega)
   ·rintro (h | h)
    ·exact .inl (.inl h)
    ·by_cases hy:x+2 ^ m≤y
     ·exact .inl (.inr (by omega))
     ·exact .inr (by omega)
theorem zWB:∀ (m n:Nat) (y:zW) (x:Int),m≤4→m<n→OkZ y→zEa y z→zU3 y x m→x≤g→g<x+2 ^ m→zCh g z n (m:Int) x y.free=some (tkZ y g x m,0):=by
 intro m
 induction m with
 | zero =>
  intro n y x h1 h2 ho h5 hh hx hy
  obtain ⟨n,rfl⟩:=ex1 ‹_<n›
  show zEY _ _ _ _ _ _=_
  unfold zEY zHz
  rw [zf (df (by omega)), ← h5.1, ← h5.2.1, ← h5.2.2.1, ← h5.2.2.2.1, ← h5.2.2.2.2]
  rfl
 | succ m ih =>
  intro n y x h1 h2 ho h5 hh hx hy
  obtain ⟨n,rfl⟩:=ex1 ‹_<n›
  obtain ⟨e1,p1,p2⟩:=zIB (k:=m) (by omega)
  have hb:=zAx ho.ranges
  have hlo:=hh.lo
  have hhi:=hh.hi
  have hpp:=zGI m
  have hss:=zI9 m
  have hP:=ho.putI
  have hj:∀ u w:Int,zFX (zCh g z n) ((m+1:Nat):Int) y.free u w=zCh g z n (m:Int) u (zMr y w m).free:=fun u w=>by
   have hl:y.free.getD (m:Int).toNat []=lst y m:=rfl
   have hok:zNo (lst y m) (lb (lst y m) w:Int)=true:=by
    have h1:=zUX (lst y m) w
    have h2:=hP.len' m
    unfold zNo
    rw [dt (by omega),dt (by omega),dt (by omega)]
    rfl
   unfold zFX
   rw [show ((m+1:Nat):Int) - 1=(m:Int) by omega,zP (zAC (by omega)),zP (dt (by omega)),hl,zPz (hP.srt' m) (by have:=hP.len' m; omega),zAt,zP hok]
   show zCh g z n (m:Int) u (zEF 5 [] y.free m (zSo (lst y m) w))=_
   rw [zJI ho.len (by omega)]
   rfl
  show zEY _ _ _ _ _ _=_
  unfold zEY tkZ
  rw [zz (dt (by omega)),show ((m+1:Nat):Int) - 1=(m:Int) by omega,zP (zu (by omega)),zP (zM2 (by omega)),e1,zP (zu (by omega)),zP (zu (by omega)),hj,hj]
  by_cases hg:x+2 ^ m≤g
  ·obtain ⟨q1,q2,q3,q4⟩:=zR1 ho (q:=m) (by omega) hh
   rw [zz (dt hg),if_pos hg]
   exact ih n (zMr y x m) _ (by omega) (by omega) q1 (q3.trans h5) q4 hg (by omega)
  ·obtain ⟨q1,q2,q3,q4⟩:=zKn ho (q:=m) (by omega) hh
   rw [zf (df hg),if_neg hg]
   exact ih n (zMr y (x+2 ^ m) m) _ (by omega) (by omega) q1 (q3.trans h5) q4 hx (by omega)
theorem zYa (hz:Zk z) (h:zEw z=0) {f:Nat} (hf:f<256):∀ (m n k:Nat),k+m=5→m<n→(∃ j,k≤j∧j<5∧((f/2 ^ j*2 ^ j:Nat):Int)∈lst z j) → ∃ j:Nat,j<5∧((f/2 ^ j*2 ^ j:Nat):Int)∈lst z j∧zB3 z (f:Int) n (k:Int)=some ((j:Int),((f/2 ^ j*2 ^ j:Nat):Int)):=by
 obtain ⟨hr,hin,hs⟩:=zE5 hz h
 intro m
 induction m with
 | zero =>
  rintro n k h1 h2 ⟨j,j1,j2,_⟩
  omega
 | succ m ih =>
  rintro n k h1 h2 ⟨j,j1,j2,j3⟩
  obtain ⟨n,rfl⟩:=ex1 ‹_<n›
  obtain ⟨e2,p1,p2⟩:=zIB (k:=k) (by omega)
  have e:z.free.getD (k:Int).toNat []=lst z k:=rfl
  have ha:=zSR ⟨k,by omega⟩ ⟨f,hf⟩
  simp only at ha
  have ee:zB3 z (f:Int) (n+1) (k:Int)=cnd (decide (((f/2 ^ k*2 ^ k:Nat):Int)∈lst z k)) (some ((k:Int),((f/2 ^ k*2 ^ k:Nat):Int))) (zB3 z (f:Int) n ((k+1:Nat):Int)):=by
   show zCf _ _ _ _=_
   unfold zCf
   rw [zz (dt (by omega)),zP (zM2 (by omega)),e2,zP (zu (by omega)),zP (zu (by omega)),zP (zAC (by omega)),e,ha,zPz (hs k) (hz.bd k),zAt,zP (zu (by omega))]
   rfl
  rw [ee]
  by_cases hm:((f/2 ^ k*2 ^ k:Nat):Int)∈lst z k
  ·rw [zz (dt hm)]
   exact ⟨k,by omega,hm,rfl⟩
  ·rw [zf (df hm)]
   refine ih n (k+1) (by omega) (by omega) ⟨j,?_,j2,j3⟩
   by_cases hjk:j=k
   ·subst hjk; exact absurd j3 hm
   ·omega
theorem zZD {f:Int} (ho:OkZ z) (hi:inside z f 0=true) (hc:cov z f):∃ y,zJL z f=some (y,0)∧zOi z f=some (y,0)∧OkZ y∧zEa y z ∧ ∀ g,cov y g↔cov z g∧g≠f:=by
 have hz:=ho.zk
 have h0:=zCq ho
 obtain ⟨hr,hin,hs⟩:=zE5 hz h0
 have hb:=zAO hr hi
 rw [pw0] at hb
 obtain ⟨m,rfl⟩:=Int.eq_ofNat_of_zero_le hb.1
 have hP:=ho.putI
 obtain ⟨j,hj,hm,hblk⟩:=zYa hz h0 (f:=m) (by omega) 5 z8 0 (by omega) (by unfold z8; omega) (by
  obtain ⟨j,x,hx,h1,h2⟩:=hc
  have hj:j<5:=Nat.lt_succ_of_le (ho.le4 hx)
  have hbj:=zAO hr (hin j hj _ hx)
  have haj:=(zAr hr).1 (hin j hj _ hx)
  have:=(zMq (f:=m) hj hbj.1 haj.2.1).1 ⟨h1,h2⟩
  exact ⟨j,Nat.zero_le _,hj,this▸hx⟩)
 generalize hx:((m/2 ^ j*2 ^ j:Nat):Int)=x at hm hblk
 have hbj:=zAO hr (hin j hj _ hm)
 have haj:=(zAr hr).1 (hin j hj _ hm)
 have hmx:=(zMq (f:=m) hj hbj.1 haj.2.1).2 hx.symm
 obtain ⟨q1,q2,q3,q4⟩:=zO9 ho (by omega) hm
 obtain ⟨r1,r2,r3⟩:=zXW j (by omega) q1 q4 hmx.1 hmx.2
 have hcy:∀ g,cov (tkZ (zMD z x j) (m:Int) x j) g↔cov z g∧g≠(m:Int):=fun g=>by
  rw [r2 g,q2 g]
  constructor
  ·rintro (⟨h,h'⟩ | h)
   ·exact ⟨h,fun e=>h' (by omega)⟩
   ·exact ⟨⟨j,x,hm,h.1,h.2.1⟩,h.2.2⟩
  ·rintro ⟨h,h'⟩
   by_cases hq:x≤g∧g<x+2 ^ j
   ·exact .inr ⟨hq.1,hq.2,h'⟩
   ·exact .inl ⟨h,hq⟩
 refine ⟨tkZ (zMD z x j) (m:Int) x j,?_,?_,r1,r3.trans q3,hcy⟩
 ·have hie:zBg z (m:Int) 0=some (inside z (m:Int) 0):=zJU (k:=0) hr (by omega)
  have hl:z.free.getD (j:Int).toNat []=lst z j:=rfl
  have hlt:=zX3 hm
  have hlen:=hP.len' j
  have hdel:zQc (lst z j) (lb (lst z j) x:Int) ((lb (lst z j) x:Int)+1)=true:=by
   unfold zQc
   rw [dt (by omega),dt (by omega),dt (by omega)]
   rfl
  have hf:(zMD z x j).free=zEF 5 [] z.free (j:Int).toNat (zR8 (lst z j) (lb (lst z j) x:Int)):=by
   rw [zJI ho.len (by omega)]
   rfl
  unfold zJL
  rw [zOm hz ho.inI,h0,zAt,dt rfl,Bool.not_true,zf rfl,hie,hi,zAt,Bool.not_true,zf rfl]
  have hbl:zFT z (m:Int)=some ((j:Int),x):=hblk
  rw [hbl,zAt,zf (df (by show ¬ (j:Int)<0; omega)),zS7 hz,zAt,zP (zAC hj),zP (dt (by show (j:Int)<5; omega)),hl,zPz (hP.srt' j) (by omega),zAt,zP (zu (by show _≤(lb (lst z j) x:Int)+1∧(lb (lst z j) x:Int)+1≤_; omega)),zP hdel]
  show zCh (m:Int) z z8 (j:Int) x (zEF 5 [] z.free (j:Int).toNat (zR8 (lst z j) (lb (lst z j) x:Int)))=_
  rw [← hf]
  exact zWB j z8 _ x (by omega) (by unfold z8; omega) q1 q3 q4 hmx.1 hmx.2
 ·have hbl:zCY z (m:Int) 0=some (inside z (m:Int) 0):=zKi (k:=0) hr (by omega)
  have hml:m<(zNT z).length:=by rw [zMH]; omega
  obtain ⟨_,h01⟩:=zJq hz h0
  have hpos:=(zJD hz hr hin m).2 hc
  have hg:(zNT z).getD m 0=at_ (zNT z) (m:Int):=by
   rw [zFU hml,List.getD_eq_getElem?_getD,List.getElem?_eq_getElem hml]; rfl
  have hw:zEs z ((zNT z).set m 0)=some (tkZ (zMD z x j) (m:Int) x j):=zQr (z:=z) (by rw [List.length_set]; exact zMH) r1 (r3.trans q3) (fun g=>by
   rw [hcy]
   constructor
   ·rintro ⟨⟨q,y,hy,y1,y2⟩,hne⟩
    have:=zAO hr (ho.ins q y hy)
    obtain ⟨g,rfl⟩:=Int.eq_ofNat_of_zero_le (show 0≤g by omega)
    refine ⟨by omega,by omega,?_⟩
    rw [Int.toNat_natCast,zU9 _ m g hml,if_neg (fun e=>hne (by omega))]
    have:=(zJD hz hr hin g).2 ⟨q,y,hy,y1,y2⟩
    omega
   ·rintro ⟨g1,g2,g3⟩
    have hrb:=zAx hr
    obtain ⟨q,rfl⟩:=Int.eq_ofNat_of_zero_le (show 0≤g by omega)
    rw [Int.toNat_natCast,zU9 _ m q hml] at g3
    by_cases hqm:q=m
    ·rw [if_pos hqm] at g3; exact absurd rfl g3
    ·rw [if_neg hqm] at g3
     refine ⟨?_,by omega⟩
     rcases h01 q with e0 | e0
     ·exact absurd e0 g3
     ·exact (zJD hz hr hin q).1 (by omega))
  unfold zOi
  rw [zRt hz,h0,zAt,dt rfl,Bool.not_true,zf rfl,hbl,hi,zAt,Bool.not_true,zf rfl,zQB hz hr hin,zAt,zP (zAC hml),zf (df (by rw [← hg]; omega)),Int.toNat_natCast,hw,zAt,zAt]
end
end Go.Proofs.Ytplkliakhdkpcaa
namespace Go.Proofs.Ytplkliakhdkpcaa
open Go Go.RowKit Go.Wk Go.Am
section
variable {a:zH}
def zRx (cs:List zK) (i:Int):Int:=match cs with
 | []=>0
 | c::r=>((at_ c.lists i).length:Int)+zRx r i
def zME (a:zH) (i:Nat):Int:=zU6 (at_ a.zones (i:Int))+zRx a.caches (i:Int)
theorem zTo (h:Va a) {p:Nat} (hp:p<a.zones.length):∀ (m n j:Nat) (acc:Int),j+m=a.caches.length→m<n→0≤acc∧acc≤80000000+j*1000 →
  (zDh a (p:Int) n acc (j:Int)=some (acc+zRx (a.caches.drop j) (p:Int))∧zJC a (p:Int) n acc (j:Int)=some (acc+zRx (a.caches.drop j) (p:Int)))∧0≤acc+zRx (a.caches.drop j) (p:Int)∧acc+zRx (a.caches.drop j) (p:Int)≤90000000:=by
 have hcl:=h.al.c
 intro m
 induction m with
 | zero =>
  intro n j acc h1 h2 h3
  obtain ⟨n,rfl⟩:=ex1 ‹_<n›
  rw [List.drop_eq_nil_of_le (by omega)]
  have e:acc+zRx [] (p:Int)=acc:=by unfold zRx; omega
  rw [e]
  refine ⟨⟨?_,?_⟩,by omega,by omega⟩
  ·show zCO _ _ _ _ _=_
   unfold zCO
   rw [zf (df (by omega))]
   rfl
  ·show zFq _ _ _ _ _=_
   unfold zFq
   rw [zf (df (by omega))]
   rfl
 | succ m ih =>
  intro n j acc h1 h2 h3
  obtain ⟨n,rfl⟩:=ex1 ‹_<n›
  have hj:j<a.caches.length:=by omega
  have hl:=h.len _ (zAy hj)
  have hck:=h.al.ck _ (zAy hj)
  have hb:=hck.l _ (zAy (show p<(at_ a.caches (j:Int)).lists.length by omega))
  have:=ih n (j+1) (acc+((at_ (at_ a.caches (j:Int)).lists (p:Int)).length:Int)) (by omega) (by omega) (by omega)
  rw [zCj hj]
  unfold zRx
  rw [← Int.add_assoc]
  refine ⟨⟨?_,?_⟩,this.2⟩
  ·rw [← this.1.1]
   show zCO _ _ _ _ _=_
   unfold zCO
   rw [zz (dt (by omega)),zP (zAC hj),zP (zAC (by omega)),zP (zu (by omega)),zP (zu (by omega))]
   rfl
  ·rw [← this.1.2]
   show zFq _ _ _ _ _=_
   unfold zFq
   rw [zz (dt (by omega)),zP (zAC hj),zP (zAC (by omega)),zP (zu (by omega)),zP (zu (by omega))]
   rfl
theorem zUJ (h:Va a) {p:Nat} (hp:p<a.zones.length):∀ (m n k:Nat) (acc:Int),k+m=5→m<n→0≤acc∧acc≤k*16000000 →
  zIr a (p:Int) n acc (k:Int)=zLD a (p:Int) (acc+zPV k ((at_ a.zones (p:Int)).free.drop k)):=by
 have hzk:=(h.al.zk _ (zAy hp)).1
 intro m
 induction m with
 | zero =>
  intro n k acc h1 h2 h3
  obtain ⟨n,rfl⟩:=ex1 ‹_<n›
  rw [List.drop_eq_nil_of_le (by rw [hzk.len]; omega)]
  show zF4 _ _ _ _ _=_
  unfold zF4
  rw [zf (df (by omega)),show acc+zPV k []=acc by unfold zPV; omega]
 | succ m ih =>
  intro n k acc h1 h2 h3
  obtain ⟨n,rfl⟩:=ex1 ‹_<n›
  have hb:=zWm (k:=k) (by omega) (hzk.bd k)
  obtain ⟨a1,a2⟩:=List.getElem?_eq_some_iff.1 (hzk.get (k:=k) (by omega))
  have hi:=ih n (k+1) (acc+((lst (at_ a.zones (p:Int)) k).length:Int)*2 ^ k) (by omega) (by omega) (by omega)
  rw [List.drop_eq_getElem_cons a1,a2]
  unfold zPV
  rw [← Int.add_assoc, ← hi]
  show zF4 _ _ _ _ _=_
  unfold zF4
  have e:(at_ a.zones (p:Int)).free.getD (k:Int).toNat []=lst (at_ a.zones (p:Int)) k:=rfl
  rw [e,Int.toNat_natCast,zz (dt (by omega)),zP (zAC hp),zP (zAC (by omega)),zP (dt (zGb (by omega) (by omega))),zP (zM2 (by omega)),zP (zu (by omega)),zP (zu (by omega)),zP (zu (by omega))]
  rfl
theorem counts (h:Va a) {p:Nat} (hp:p<a.zones.length):zDL a (p:Int)=some (zME a p)∧zNV a (p:Int)=some (zME a p)∧0≤zME a p∧zME a p≤90000000:=by
 have hzk:=h.al.zk _ (zAy hp)
 have hcl:=h.al.c
 obtain ⟨b1,b2,b3⟩:=zYp hzk.1 hzk.2 (h.chk (zAy hp))
 have hc:=zTo h hp a.caches.length z8 0 (zU6 (at_ a.zones (p:Int))) (by omega) (by unfold z8; omega) (by omega)
 rw [List.drop_zero] at hc
 refine ⟨?_,?_,hc.2⟩
 ·unfold zDL
  rw [zP (zAC hp),b1,zAt]
  exact hc.1.1
 ·unfold zNV
  have hr:=zUJ h hp 5 z8 0 0 (by omega) (by unfold z8; omega) (by omega)
  rw [List.drop_zero,Int.zero_add] at hr
  refine Eq.trans hr ?_
  exact hc.1.2
theorem zPn (h:Va a) {p:Nat} (hp:p<a.zones.length):0≤(at_ a.zones (p:Int)).min∧(at_ a.zones (p:Int)).min≤256:=by
 have:=zAx (zFI (h.chk (zAy hp)))
 omega
end
end Go.Proofs.Ytplkliakhdkpcaa
namespace Go.Proofs.Ytplkliakhdkpcaa
open Go Go.RowKit Go.Wk Go.Am
def zM8 (v w:Int):Int:=if w<v then 2*(v - w) else 2*(w - v)+1
def zJv (zs:List zW) (v i:Int):Int:=if (at_ zs i).kind=0 then 2*zM8 v (at_ zs i).node+1 else 2*zM8 v (at_ zs i).node
def gK (zs:List zW) (v i:Int):Int:=8*zJv zs v i+i
structure Gn (zs:List zW):Prop where
 n:zs.length≤6
 nd:∀ z,z∈zs→0≤z.node∧z.node<4
 kd:∀ z,z∈zs→z.kind=0∨z.kind=1
theorem zJw {A B:List Int}:Srt (A++B)↔Srt A∧Srt B ∧ ∀ a,a∈A → ∀ b,b∈B→a<b:=List.pairwise_append
theorem zLQ (a:Int):Srt [a]:=List.pairwise_singleton ..
theorem zVp {A C:List Int} {b:Int} {i:Nat} (h:A.length=i):at_ (A++b::C) (i:Int)=b:=zXc (zGD h)
section
variable {zs:List zW} {v:Int}
theorem zXu (hv:0≤v∧v<4) {w:Int} (hw:0≤w∧w<4):zHW v w=some (zM8 v w)∧0≤zM8 v w∧zM8 v w≤8:=by
 unfold zHW zM8
 by_cases h:w<v
 ·rw [zz (dt h),if_pos h,zP (zu (by omega)),zP (zu (by omega))]
  exact ⟨rfl,by omega⟩
 ·rw [zf (df h),if_neg h,zP (zu (by omega)),zP (zu (by omega)),zP (zu (by omega))]
  exact ⟨rfl,by omega⟩
theorem zQ5 (h:Gn zs) (hv:0≤v∧v<4) {i:Nat} (hi:i<zs.length):zAv (i:Int) v zs=some (zJv zs v (i:Int))∧0≤zJv zs v (i:Int)∧zJv zs v (i:Int)≤17:=by
 obtain ⟨k1,k2,k3⟩:=zXu hv (h.nd _ (zAy hi))
 unfold zAv zJv zDQ
 rw [zP (zAC hi),k1,zAt,zP (zu (by omega))]
 by_cases hk:(at_ zs (i:Int)).kind=0
 ·rw [zz (dt hk),if_pos hk,zP (zu (by omega))]
  exact ⟨rfl,by omega⟩
 ·rw [zf (df hk),if_neg hk]
  exact ⟨rfl,by omega⟩
def Ix (zs:List zW) (i:Int):Prop := ∃ k:Nat,i=(k:Int)∧k<zs.length
theorem zUZ (h:Gn zs) {i j:Int} (hi:Ix zs i) (hj:Ix zs j) (hr:zJv zs v i<zJv zs v j):gK zs v i<gK zs v j:=by
 obtain ⟨a,rfl,ha⟩:=hi
 obtain ⟨b,rfl,hb⟩:=hj
 have:=h.n
 unfold gK
 omega
theorem zX2 (h:Gn zs) (hv:0≤v∧v<4) {x y:Int} (hx:Ix zs x) (hy:Ix zs y) (hyx:y<x):∃ r,zA2 x y (fun y0=>zAv y0 v zs)=some r∧(r<0↔gK zs v x<gK zs v y):=by
 have hlt:=zUZ (v:=v) h hx hy
 have hgt:=zUZ (v:=v) h hy hx
 obtain ⟨a,rfl,ha⟩:=hx
 obtain ⟨b,rfl,hb⟩:=hy
 unfold zA2
 dsimp only
 rw [(zQ5 h hv ha).1,(zQ5 h hv hb).1,zAt,zAt]
 unfold zGq zDt
 rw [dt rfl,dt rfl,Bool.not_true,zAt,zAt,zf rfl,zf rfl]
 by_cases h1:zJv zs v (a:Int)<zJv zs v (b:Int)
 ·rw [zz (dt h1)]
  exact ⟨-1,rfl,fun _=>hlt h1,fun _=>by decide⟩
 ·rw [zf (df h1)]
  by_cases h2:zJv zs v (b:Int)<zJv zs v (a:Int)
  ·rw [zz (dt h2)]
   have:=hgt h2
   exact ⟨1,rfl,fun x=>absurd x (by decide),fun x=>by omega⟩
  ·rw [zf (df h2)]
   exact ⟨0,rfl,fun x=>absurd x (by decide),fun x=>by unfold gK at x; omega⟩
theorem zYM (h:Gn zs) (hv:0≤v∧v<4) {i:Int} {se:Int→List Int→Option (List Int)} {x:Int} (hx:Ix zs x) (hi:0≤i∧i≤1000):∀ (m n:Nat) (P R:List Int),P.length=m→m<n→m≤1000→(∀ y,y∈P→Ix zs y∧y<x)→Srt (P.map (gK zs v)) →
  ∃ P',P'.length=m+1∧Srt (P'.map (gK zs v))∧(∀ z,z∈P'↔z=x∨z∈P)∧zAT se 0 (fun y0 y1=>zA2 y0 y1 (fun y0=>zAv y0 v zs)) i n (m:Int) (P++x::R)=se (i+1) (P'++R):=by
 intro m
 induction m with
 | zero =>
  intro n P R h1 h2 h3 h4 h5
  obtain ⟨n,rfl⟩:=ex1 ‹_<n›
  obtain rfl:=List.length_eq_zero_iff.1 h1
  refine ⟨[x],rfl,zLQ _,fun z=>by simp,?_⟩
  show zAU _ _ _ _ _ _ _=_
  unfold zAU zA0
  rw [df (p:=(0:Int)<((0:Nat):Int)) (by omega),zP (by rfl),zP (by rfl),zP (by rfl),zf rfl,zAt,zf (by rfl),zP (zu (by omega))]
  rfl
 | succ m ih =>
  intro n P R h1 h2 h3 h4 h5
  obtain ⟨n,rfl⟩:=ex1 ‹_<n›
  have hne:P≠[]:=fun e=>by rw [e] at h1; simp at h1
  obtain ⟨Q,y,rfl⟩:∃ Q y,P=Q++[y]:=⟨P.dropLast,P.getLast hne,(List.dropLast_concat_getLast hne).symm⟩
  have hQ:Q.length=m:=by simp at h1; exact h1
  have hy:=h4 y (by simp)
  have e0:Q++[y]++x::R=Q++y::(x::R):=by simp
  have ex:at_ (Q++[y]++x::R) ((m+1:Nat):Int)=x:=zVp h1
  have ey:at_ (Q++[y]++x::R) (m:Int)=y:=by rw [e0]; exact zVp hQ
  have hm:((m+1:Nat):Int) - 1=(m:Int):=by omega
  have hlen:(Q++[y]++x::R).length=m+2+R.length:=by simp; omega
  obtain ⟨r,r1,r2⟩:=zX2 h hv hx hy.1 hy.2
  rw [List.map_append,zJw] at h5
  have hlast:∀ q,q∈Q→gK zs v q<gK zs v y:=fun q hq=>h5.2.2 _ (List.mem_map_of_mem hq) _ (by simp)
  have hne2:gK zs v y≠gK zs v x:=fun e=>by
   obtain ⟨a,rfl,ha⟩:=hx
   obtain ⟨b,rfl,hb⟩:=hy.1
   have:=h.n
   have:=hy.2
   unfold gK at e
   omega
  have step:∀ (R':Option (List Int)),(gK zs v x<gK zs v y→zAT se 0 (fun y0 y1=>zA2 y0 y1 (fun y0=>zAv y0 v zs)) i n (m:Int) (Q++x::(y::R))=R')→(¬ gK zs v x<gK zs v y→se (i+1) (Q++[y]++x::R)=R') →
    zAT se 0 (fun y0 y1=>zA2 y0 y1 (fun y0=>zAv y0 v zs)) i (n+1) ((m+1:Nat):Int) (Q++[y]++x::R)=R':=fun R' k1 k2=>by
   show zAU _ _ _ _ _ _ _=_
   unfold zAU zA0
   rw [dt (p:=(0:Int)<((m+1:Nat):Int)) (by omega),zP (zMv (zAC (by omega))),zP (zMv (zu (by omega))),hm,zP (zMv (zAC (by omega))),zz rfl,ex,ey]
   dsimp only
   rw [r1,zAt]
   by_cases hlt:gK zs v x<gK zs v y
   ·have es:((Q++[y]++x::R).set ((m+1:Nat):Int).toNat y).set (m:Int).toNat x=Q++x::(y::R):=by
     rw [Int.toNat_natCast,Int.toNat_natCast,zKg h1]
     have:Q++[y]++y::R=Q++y::(y::R):=by simp
     rw [this,zKg hQ]
    rw [zz (by rw [dt (r2.2 hlt)]; rfl),zP (zu (by omega)),zP (zAC (by omega)),zP (zAC (by omega)),zP (zAC (by rw [List.length_set]; omega)),es]
    exact k1 hlt
   ·rw [zf (by rw [df (fun hh=>hlt (r2.1 hh))]; rfl),zP (zu (by omega))]
    exact k2 hlt
  by_cases hlt:gK zs v x<gK zs v y
  ·obtain ⟨P',p1,p2,p3,p4⟩:=ih n Q (y::R) hQ (by omega) (by omega) (fun q hq=>h4 q (by simp [hq])) h5.1
   refine ⟨P'++[y],by simp [p1],?_,fun z => ?_,step _ (fun _ => ?_) (fun hh=>absurd hlt hh)⟩
   ·rw [List.map_append,zJw]
    refine ⟨p2,zLQ _,fun a ha b hb => ?_⟩
    simp only [List.map_cons,List.map_nil,List.mem_singleton] at hb
    subst hb
    obtain ⟨q,hq,rfl⟩:=List.mem_map.1 ha
    rcases (p3 q).1 hq with rfl | hq
    ·exact hlt
    ·exact hlast q hq
   ·rw [List.mem_append,p3,List.mem_append]
    constructor
    ·rintro ((h | h) | h)
     ·exact .inl h
     ·exact .inr (.inl h)
     ·exact .inr (.inr h)
    ·rintro (h | h | h)
     ·exact .inl (.inl h)
     ·exact .inl (.inr h)
     ·exact .inr h
   ·rw [p4]; simp
  ·refine ⟨Q++[y]++[x],by simp; omega,?_,fun z => ?_,step _ (fun hh=>absurd hh hlt) (fun _=>by simp)⟩
   ·rw [List.map_append,zJw,List.map_append,zJw]
    refine ⟨⟨h5.1,h5.2.1,h5.2.2⟩,zLQ _,fun a ha b hb => ?_⟩
    simp only [List.map_cons,List.map_nil,List.mem_singleton] at hb
    subst hb
    rcases List.mem_append.1 ha with ha | ha
    ·obtain ⟨q,hq,rfl⟩:=List.mem_map.1 ha
     have:=hlast q hq
     omega
    ·simp only [List.map_cons,List.map_nil,List.mem_singleton] at ha
     subst ha
     omega
   ·rw [List.mem_append,List.mem_singleton]
    exact ⟨fun h=>h.elim .inr .inl,fun h=>h.elim .inr .inl⟩
theorem zXR (h:Gn zs) (hv:0≤v∧v<4):∀ (m n:Nat) (S T:List Int),T.length=m→m<n→S.length+m≤6→(∀ y,y∈S→Ix zs y)→(∀ y,y∈T→Ix zs y)→(∀ y,y∈S → ∀ x,x∈T→y<x)→Srt T→Srt (S.map (gK zs v)) →
  ∃ L,Srt (L.map (gK zs v))∧(∀ z,z∈L↔z∈S∨z∈T)∧z7 0 ((S.length+m:Nat):Int) (fun y0 y1=>zA2 y0 y1 (fun y0=>zAv y0 v zs)) n (S.length:Int) (S++T)=some L:=by
 intro m
 induction m with
 | zero =>
  intro n S T h1 h2 h3 h4 h5 h6 h7 h8
  obtain ⟨n,rfl⟩:=ex1 ‹_<n›
  obtain rfl:=List.length_eq_zero_iff.1 h1
  refine ⟨S,h8,fun z=>by simp,?_⟩
  show zAB _ _ _ _ _ _=_
  unfold zAB
  rw [zf (df (by omega)),List.append_nil]
 | succ m ih =>
  intro n S T h1 h2 h3 h4 h5 h6 h7 h8
  obtain ⟨n,rfl⟩:=ex1 ‹_<n›
  obtain ⟨x,T',rfl⟩:∃ x T',T=x::T':=by cases T with | nil=>simp at h1 | cons x T'=>exact ⟨x,T',rfl⟩
  have h7':=List.pairwise_cons.1 h7
  obtain ⟨P',p1,p2,p3,p4⟩:=zYM h hv (i:=(S.length:Int)) (se:=z7 0 ((S.length+(m+1):Nat):Int) (fun y0 y1=>zA2 y0 y1 (fun y0=>zAv y0 v zs)) n) (h5 x (by simp)) (by omega) S.length z8 S T' rfl (by unfold z8; omega) (by omega) (fun y hy=>⟨h4 y hy,h6 y hy x (by simp)⟩) h8
  obtain ⟨L,l1,l2,l3⟩:=ih n P' T' (by simpa using h1) (by omega) (by omega) (fun y hy=>by
   rcases (p3 y).1 hy with rfl | hy
   ·exact h5 y (by simp)
   ·exact h4 y hy) (fun y hy=>h5 y (by simp [hy])) (fun y hy z hz=>by
   rcases (p3 y).1 hy with rfl | hy
   ·exact h7'.1 z hz
   ·exact h6 y hy z (by simp [hz])) h7'.2 p2
  refine ⟨L,l1,fun z => ?_,?_⟩
  ·rw [l2,p3,List.mem_cons]
   constructor
   ·rintro ((h | h) | h)
    ·exact .inr (.inl h)
    ·exact .inl h
    ·exact .inr (.inr h)
   ·rintro (h | h | h)
    ·exact .inl (.inr h)
    ·exact .inl (.inl h)
    ·exact .inr h
  ·show zAB _ _ _ _ _ _=_
   unfold zAB
   rw [zz (dt (by omega)),p4, ← l3,p1,show S.length+(m+1)=S.length+1+m by omega]
   rfl
theorem zWp (h:Gn zs) (hv:0≤v∧v<4) {T:List Int} (hT:T.length≤6) (hi:∀ y,y∈T→Ix zs y) (hs:Srt T):∃ L,Srt (L.map (gK zs v))∧(∀ z,z∈L↔z∈T)∧zBE T (fun y0 y1=>zA2 y0 y1 (fun y0=>zAv y0 v zs))=some L:=by
 have key:∃ L,Srt (L.map (gK zs v))∧(∀ z,z∈L↔z∈T)∧zAs T 0 (T.length:Int) (fun y0 y1=>zA2 y0 y1 (fun y0=>zAv y0 v zs))=some L:=by
  unfold zAs
  rw [zP (zu (by omega))]
  cases T with
  | nil=>exact ⟨[],Srt.nil,fun z=>Iff.rfl,by
    rw [show z8=(z8 - 1)+1 from rfl]
    show zAB _ _ _ _ _ _=_
    unfold zAB
    rw [zf (by rfl)]⟩
  | cons x T =>
   have hs':=List.pairwise_cons.1 hs
   obtain ⟨L,l1,l2,l3⟩:=zXR h hv T.length z8 [x] T rfl (by simp at hT; unfold z8; omega) (by simp at hT ⊢; omega) (fun y hy=>hi y (by simp at hy; simp [hy])) (fun y hy=>hi y (by simp [hy])) (fun y hy z hz=>by simp at hy; subst hy; exact hs'.1 z hz) hs'.2 (zLQ _)
   refine ⟨L,l1,fun z=>by rw [l2]; simp,?_⟩
   rw [← l3,show ((x::T).length:Int)=(([x].length+T.length:Nat):Int) by rw [List.length_cons]; show _=((1+T.length:Nat):Int); omega]
   rfl
 obtain ⟨L,l1,l2,l3⟩:=key
 refine ⟨L,l1,l2,?_⟩
 unfold zBE zCo
 have e1:zBY (T.length:Int) (fun y0 y1=>zA2 y0 y1 (fun y0=>zAv y0 v zs)) z8 0 20 T=some L:=by
  rw [show z8=(z8 - 1)+1 from rfl]
  show zBX _ _ _ _ _ _=_
  unfold zBX zCA
  rw [zf (df (by omega)),l3,zAt]
  rw [show z8=(z8 - 1)+1 from rfl]
  show zBV _ _ _ _=_
  unfold zBV
  rw [zf (df (by omega))]
 rw [e1]
 rfl
def zRB (zs:List zW) (kern:Bool) (i:Int):Bool := !kern||decide ((at_ zs i).kind=0)
theorem zR7 (h:Gn zs):∀ (m n i:Nat),i+m=zs.length→m<n→zEO zs n (i:Int)=some 0∧zIy zs n (i:Int)=some 0:=by
 have hn:=h.n
 intro m
 induction m with
 | zero =>
  intro n i h1 h2
  obtain ⟨n,rfl⟩:=ex1 ‹_<n›
  show zCW _ _ _=_∧zFp _ _ _=_
  unfold zCW zFp
  rw [zf (df (by omega)),zf (df (by omega))]
  exact ⟨rfl,rfl⟩
 | succ m ih =>
  intro n i h1 h2
  obtain ⟨n,rfl⟩:=ex1 ‹_<n›
  have hi:i<zs.length:=by omega
  have h3:=h.nd _ (zAy hi)
  have h4:=h.kd _ (zAy hi)
  have h5:((!decide ((at_ zs (i:Int)).kind=0))&&(!decide ((at_ zs (i:Int)).kind=1)))=false:=by
   rcases h4 with e | e <;> rw [e] <;> rfl
  show zCW _ _ _=_∧zFp _ _ _=_
  unfold zCW zFp
  rw [zz (dt (by omega)),zz (dt (by omega)),zP (zAC hi),zP (zAC hi),df (by omega),df (by omega),h5,Bool.or_false,zf rfl,zf rfl,zf rfl,zf rfl,zP (zu (by omega)),zP (zu (by omega))]
  exact ih n (i+1) (by omega) (by omega)
theorem zV6 (h:Gn zs) (hv:0≤v∧v<4) {kern:Bool}:∀ (m n i:Nat) (l:List Int),i+m=zs.length→m<n→l.length≤i→Srt l→(∀ z,z∈l ↔ ∃ k:Nat,z=(k:Int)∧k<i∧zRB zs kern z=true) →
  ∃ L,Srt (L.map (gK zs v))∧(∀ z,z∈L↔Ix zs z∧zRB zs kern z=true)∧zDH zs v kern n (i:Int) l=some (L,0):=by
 have hn:=h.n
 intro m
 induction m with
 | zero =>
  intro n i l h1 h2 h3 h4 h5
  obtain ⟨n,rfl⟩:=ex1 ‹_<n›
  obtain ⟨L,l1,l2,l3⟩:=zWp h hv (T:=l) (by omega) (fun y hy=>by
   obtain ⟨k,e,hk,_⟩:=(h5 y).1 hy
   exact ⟨k,e,by omega⟩) h4
  refine ⟨L,l1,fun z => ?_,?_⟩
  ·rw [l2,h5]
   constructor
   ·rintro ⟨k,e,hk,hs⟩; exact ⟨⟨k,e,by omega⟩,hs⟩
   ·rintro ⟨⟨k,e,hk⟩,hs⟩; exact ⟨k,e,by omega,hs⟩
  ·show zBb _ _ _ _ _ _=_
   unfold zBb zFZ
   rw [zf (df (by omega)),l3,zAt]
 | succ m ih =>
  intro n i l h1 h2 h3 h4 h5
  obtain ⟨n,rfl⟩:=ex1 ‹_<n›
  have hi:i<zs.length:=by omega
  have hcur:zRB zs kern (i:Int)=((!kern)||decide ((at_ zs (i:Int)).kind=0)):=rfl
  cases hs:zRB zs kern (i:Int) with
  | true =>
   obtain ⟨L,l1,l2,l3⟩:=ih n (i+1) (l++[(i:Int)]) (by omega) (by omega) (by simp; omega) (by
    rw [zJw]
    refine ⟨h4,zLQ _,fun a ha b hb => ?_⟩
    obtain ⟨k,e,hk,_⟩:=(h5 a).1 ha
    simp at hb
    omega) (fun z=>by
    rw [List.mem_append,h5]
    constructor
    ·rintro (⟨k,e,hk,hs'⟩ | hz)
     ·exact ⟨k,e,by omega,hs'⟩
     ·simp at hz
      subst hz
      exact ⟨i,rfl,by omega,hs⟩
    ·rintro ⟨k,e,hk,hs'⟩
     by_cases hki:k<i
     ·exact .inl ⟨k,e,hki,hs'⟩
     ·exact .inr (by simp; omega))
   refine ⟨L,l1,l2,?_⟩
   show zBb _ _ _ _ _ _=_
   unfold zBb zDD
   rw [zz (dt (by omega)),zP (zAC hi), ← hcur,hs,zz rfl,zP (dt (by simp; omega)),zP (zu (by omega))]
   exact l3
  | false =>
   obtain ⟨L,l1,l2,l3⟩:=ih n (i+1) l (by omega) (by omega) (by omega) h4 (fun z=>by
    rw [h5]
    constructor
    ·rintro ⟨k,e,hk,hs'⟩; exact ⟨k,e,by omega,hs'⟩
    ·rintro ⟨k,e,hk,hs'⟩
     refine ⟨k,e,?_,hs'⟩
     refine Nat.lt_of_not_le fun hki => ?_
     have:k=i:=by omega
     subst this
     rw [e,hs] at hs'
     cases hs')
   refine ⟨L,l1,l2,?_⟩
   show zBb _ _ _ _ _ _=_
   unfold zBb zDD
   rw [zz (dt (by omega)),zP (zAC hi), ← hcur,hs,zf rfl,zP (zu (by omega))]
   exact l3
theorem zYD (h:Gn zs) (hv:0≤v∧v<4) (kern:Bool):∃ L,Srt (L.map (gK zs v))∧(∀ z,z∈L↔Ix zs z∧zRB zs kern z=true)∧zD3 zs v kern=some (L,0):=by
 have hn:=h.n
 obtain ⟨L,l1,l2,l3⟩:=zV6 h hv (kern:=kern) zs.length z8 0 [] (by omega) (by unfold z8; omega) (Nat.le_refl _) Srt.nil (fun z=>⟨fun hz=>(by cases hz),fun ⟨k,_,hk,_⟩=>by omega⟩)
 refine ⟨L,l1,l2,?_⟩
 unfold zD3 zG9 zHO
 rw [zf (df (by omega)),z0i,(zR7 h zs.length z8 0 (by omega) (by unfold z8; omega)).1,zAt]
 rw [zf (by rfl),df (by omega),df (by omega),zf (by rfl),zAt,zf (by rfl)]
 exact l3
theorem zYc (h:Gn zs) {q:Int}:∀ (m n i:Nat),i+m=zs.length→m<n → ∃ b,zKE zs q n (i:Int)=some b∧(b=true ↔ ∃ k:Nat,i≤k∧k<zs.length∧(at_ zs (k:Int)).node=q):=by
 have hn:=h.n
 intro m
 induction m with
 | zero =>
  intro n i h1 h2
  obtain ⟨n,rfl⟩:=ex1 ‹_<n›
  refine ⟨false,?_,fun e=>(by cases e),fun ⟨k,k1,k2,_⟩=>by omega⟩
  show zFL _ _ _ _=_
  unfold zFL
  rw [zf (df (by omega))]
  rfl
 | succ m ih =>
  intro n i h1 h2
  obtain ⟨n,rfl⟩:=ex1 ‹_<n›
  have hi:i<zs.length:=by omega
  by_cases hq:(at_ zs (i:Int)).node=q
  ·refine ⟨true,?_,fun _=>⟨i,Nat.le_refl _,hi,hq⟩,fun _=>rfl⟩
   show zFL _ _ _ _=_
   unfold zFL
   rw [zz (dt (by omega)),zP (zAC hi),zz (dt hq)]
  ·obtain ⟨b,b1,b2⟩:=ih n (i+1) (by omega) (by omega)
   refine ⟨b,?_,b2.trans ⟨fun ⟨k,k1,k2,k3⟩=>⟨k,by omega,k2,k3⟩,fun ⟨k,k1,k2,k3⟩=>⟨k,?_,k2,k3⟩⟩⟩
   ·show zFL _ _ _ _=_
    unfold zFL
    rw [zz (dt (by omega)),zP (zAC hi),zf (df hq),zP (zu (by omega))]
    exact b1
   ·refine Nat.lt_of_not_le fun hk => ?_
    have:k=i:=by omega
    subst this
    exact hq k3
def zXh (zs:List zW) (q:Int):Prop := ∃ k:Nat,k<zs.length∧(at_ zs (k:Int)).node=q
theorem zTp (h:Gn zs) (hv:0≤v∧v<4):∀ (m n d:Nat) (l:List Int),d+m=4→m<n→Srt (l.map (zM8 v))→l.length≤2*d→(∀ q,q∈l↔zXh zs q ∧ -(d:Int)<q - v∧q - v<d) →
  ∃ ns,Srt (ns.map (zM8 v))∧ns.length≤8∧(∀ q,q∈ns↔zXh zs q)∧zCe zs v n (d:Int) l=some (ns,0):=by
 have hn:=h.n
 intro m
 induction m with
 | zero =>
  intro n d l h1 h2 h3 h4 h5
  obtain ⟨n,rfl⟩:=ex1 ‹_<n›
  refine ⟨l,h3,by omega,fun q => ?_,?_⟩
  ·rw [h5]
   refine ⟨And.left,fun hq=>⟨hq,?_⟩⟩
   obtain ⟨k,k1,k2⟩:=hq
   have:=h.nd _ (zAy k1)
   omega
  ·show zFu _ _ _ _ _=_
   unfold zFu zK7
   rw [zf (df (by omega))]
 | succ m ih =>
  intro n d l h1 h2 h3 h4 h5
  obtain ⟨n,rfl⟩:=ex1 ‹_<n›
  obtain ⟨b1,e1,g1⟩:=zYc h (q:=v - d) zs.length z8 0 (by omega) (by unfold z8; omega)
  obtain ⟨b2,e2,g2⟩:=zYc h (q:=v+d) zs.length z8 0 (by omega) (by unfold z8; omega)
  have g1':b1=true↔zXh zs (v - d):=g1.trans ⟨fun ⟨k,_,k2,k3⟩=>⟨k,k2,k3⟩,fun ⟨k,k2,k3⟩=>⟨k,Nat.zero_le _,k2,k3⟩⟩
  have g2':b2=true↔zXh zs (v+d):=g2.trans ⟨fun ⟨k,_,k2,k3⟩=>⟨k,k2,k3⟩,fun ⟨k,k2,k3⟩=>⟨k,Nat.zero_le _,k2,k3⟩⟩
  have hk:∀ q,q∈l→zM8 v q<2*d:=fun q hq=>by
   obtain ⟨_,q1,q2⟩:=(h5 q).1 hq
   unfold zM8
   split <;> omega
  have hadd:∀ (c1 c2:Bool),(c1=true↔b1=true)→(c2=true↔0<d∧b2=true) → ∃ ns,Srt (ns.map (zM8 v))∧ns.length≤8∧(∀ q,q∈ns↔zXh zs q)∧zCe zs v n ((d+1:Nat):Int) (l++(if c1 then [v - (d:Int)] else [])++(if c2 then [v+(d:Int)] else []))=some (ns,0):=fun c1 c2 i1 i2=>by
   refine ih n (d+1) _ (by omega) (by omega) ?_ ?_ (fun q => ?_)
   ·rw [List.map_append,List.map_append,zJw,zJw]
    refine ⟨⟨h3,?_,fun a ha b hb => ?_⟩,?_,fun a ha b hb => ?_⟩
    ·cases c1
     ·exact Srt.nil
     ·exact zLQ _
    ·obtain ⟨q,hq,rfl⟩:=List.mem_map.1 ha
     have:=hk q hq
     cases c1
     ·cases hb
     ·simp at hb
      subst hb
      unfold zM8 at this ⊢
      split <;> split at this <;> omega
    ·cases c2
     ·exact Srt.nil
     ·exact zLQ _
    ·cases c2 with
     | false=>cases hb
     | true =>
      have hd:=(i2.1 rfl).1
      simp at hb
      subst hb
      rcases List.mem_append.1 ha with ha | ha
      ·obtain ⟨q,hq,rfl⟩:=List.mem_map.1 ha
       have:=hk q hq
       unfold zM8 at this ⊢
       split <;> split at this <;> omega
      ·cases c1
       ·cases ha
       ·simp at ha
        subst ha
        unfold zM8
        split <;> split <;> omega
   ·rw [List.length_append,List.length_append]
    cases c1 <;> cases c2 <;> simp <;> omega
   ·rw [List.mem_append,List.mem_append,h5]
    have m1:q∈(if c1 then [v - (d:Int)] else [])↔c1=true∧q=v - d:=by cases c1 <;> simp
    have m2:q∈(if c2 then [v+(d:Int)] else [])↔c2=true∧q=v+d:=by cases c2 <;> simp
    rw [m1,m2,i1,i2,g1',g2']
    constructor
    ·rintro ((⟨h1,h2,h3⟩ | ⟨h1,rfl⟩) | ⟨⟨h0,h1⟩,rfl⟩)
     ·exact ⟨h1,by omega⟩
     ·exact ⟨h1,by omega⟩
     ·exact ⟨h1,by omega⟩
    ·rintro ⟨h1,h2,h3⟩
     by_cases e1:q=v - d
     ·exact .inl (.inr ⟨e1▸h1,e1⟩)
     ·by_cases e2:q=v+d
      ·exact .inr ⟨⟨by omega,e2▸h1⟩,e2⟩
      ·exact .inl (.inl ⟨h1,by omega⟩)
  have hlen:l.length≤8:=by omega
  have hj:∀ (l':List Int),l'.length≤9→zHB (zCe zs v n) zs v (d:Int) l'=zCe zs v n ((d+1:Nat):Int) (l'++(if (decide (0<(d:Int))&&b2) then [v+(d:Int)] else [])):=fun l' hl'=>by
   unfold zHB zIz zL7
   rw [zP (zMv (zu (by omega)))]
   by_cases hd:0<d
   ·rw [dt (p:=(0:Int)<(d:Int)) (by omega),zz rfl,z0i,e2,zAt]
    cases b2 with
    | true =>
     rw [zz (by rfl),zP (zu (by omega)),zP (dt (by simp; omega)),zP (zu (by omega))]
     rfl
    | false =>
     rw [zf (by rfl),zP (zu (by omega))]
     show _=zCe zs v n _ (l'++[])
     rw [List.append_nil]
     rfl
   ·rw [df (p:=(0:Int)<(d:Int)) (by omega),zf rfl,zAt,zf (by rfl),zP (zu (by omega))]
    show _=zCe zs v n _ (l'++[])
    rw [List.append_nil]
    rfl
  obtain ⟨ns,n1,n2,n3,n4⟩:=hadd b1 (decide (0<(d:Int))&&b2) Iff.rfl (by rw [Bool.and_eq_true,decide_eq_true_eq]; exact ⟨fun ⟨a,b⟩=>⟨by omega,b⟩,fun ⟨a,b⟩=>⟨by omega,b⟩⟩)
  refine ⟨ns,n1,n2,n3,?_⟩
  rw [← n4]
  show zFu _ _ _ _ _=_
  unfold zFu zL7
  rw [zz (dt (by omega)),zP (zu (by omega)),z0i,e1,zAt]
  cases b1 with
  | true =>
   rw [zz rfl,zP (dt (by simp; omega)),hj _ (by simp; omega)]
   rfl
  | false =>
   rw [zf rfl,hj _ (by omega)]
   show _=zCe zs v n _ (l++[]++_)
   rw [List.append_nil]
   rfl
theorem zUd (h:Gn zs) (hv:0≤v∧v<4):∃ ns,Srt (ns.map (zM8 v))∧ns.length≤8∧(∀ q,q∈ns↔zXh zs q)∧zLU zs v=some (ns,0):=by
 have hn:=h.n
 obtain ⟨ns,n1,n2,n3,n4⟩:=zTp h hv 4 z8 0 [] (by omega) (by unfold z8; omega) Srt.nil (Nat.le_refl _) (fun q=>⟨fun hq=>(by cases hq),fun ⟨_,h1,h2⟩=>by omega⟩)
 refine ⟨ns,n1,n2,n3,?_⟩
 unfold zLU zNe
 rw [zf (df (by omega)),z0i,(zR7 h zs.length z8 0 (by omega) (by unfold z8; omega)).2,zAt]
 rw [zf (by rfl),df (by omega),df (by omega),zf (by rfl)]
 exact n4
end
end Go.Proofs.Ytplkliakhdkpcaa
namespace Go.Proofs.Ytplkliakhdkpcaa
open Go Go.RowKit Go.Wk Go.Am
def zPi (zs:List zW) (q K:Int):Nat→Nat→List Int
 | 0,_=>[]
 | m+1,i=>if ((at_ zs (i:Int)).node=q∧(at_ zs (i:Int)).kind=K) then (i:Int)::zPi zs q K m (i+1) else zPi zs q K m (i+1)
section
variable {zs:List zW} {v q K:Int}
theorem zIk:∀ {m i:Nat} {z:Int},z∈zPi zs q K m i ↔ ∃ k:Nat,z=(k:Int)∧i≤k∧k<i+m∧(at_ zs (k:Int)).node=q∧(at_ zs (k:Int)).kind=K
 | 0,i,z=>⟨fun h=>(by cases h),fun ⟨k,_,h1,h2,_⟩=>by omega⟩
 | m+1,i,z=>by
  unfold zPi
  by_cases h:(at_ zs (i:Int)).node=q∧(at_ zs (i:Int)).kind=K
  ·rw [if_pos h,List.mem_cons,zIk]
   constructor
   ·rintro (rfl | ⟨k,e,h1,h2,h3⟩)
    ·exact ⟨i,rfl,Nat.le_refl _,by omega,h⟩
    ·exact ⟨k,e,by omega,by omega,h3⟩
   ·rintro ⟨k,e,h1,h2,h3⟩
    by_cases hk:k=i
    ·subst hk; exact .inl e
    ·exact .inr ⟨k,e,by omega,by omega,h3⟩
  ·rw [if_neg h,zIk]
   constructor
   ·rintro ⟨k,e,h1,h2,h3⟩; exact ⟨k,e,by omega,by omega,h3⟩
   ·rintro ⟨k,e,h1,h2,h3⟩
    refine ⟨k,e,?_,by omega,h3⟩
    refine Nat.lt_of_not_le fun hk => ?_
    have:k=i:=by omega
    subst this
    exact h h3
theorem zNF:∀ {m i:Nat},Srt (zPi zs q K m i)
 | 0,_=>Srt.nil
 | m+1,i=>by
  unfold zPi
  by_cases h:(at_ zs (i:Int)).node=q∧(at_ zs (i:Int)).kind=K
  ·rw [if_pos h]
   refine List.pairwise_cons.2 ⟨fun z hz => ?_,zNF⟩
   obtain ⟨k,e,h1,_⟩:=zIk.1 hz
   omega
  ·rw [if_neg h]; exact zNF
theorem zO4:∀ {m i:Nat},(zPi zs q K m i).length≤m
 | 0,_=>Nat.le_refl _
 | m+1,i=>by
  have:=zO4 (m:=m) (i:=i+1)
  unfold zPi
  split
  ·simp; omega
  ·omega
theorem zTk {a b:Prop} [Decidable a] [Decidable b]:(decide a&&decide b)=decide (a∧b):=by simp
theorem zTS (h:Gn zs) {ns:List Int} {t:Nat} (ht:t<ns.length) (hns:ns.length≤8) (hq:at_ ns (t:Int)=q) {se:Int→List Int→Option (List Int×Int)}:∀ (m n i:Nat) (l:List Int),i+m=zs.length→m<n→l.length+m≤1000 →
  zJA se zs (ns,0) (t:Int) n (i:Int) l=se ((t+1:Nat):Int) (l++zPi zs q 0 m i):=by
 have hn:=h.n
 intro m
 induction m with
 | zero =>
  intro n i l h1 h2 h3
  obtain ⟨n,rfl⟩:=ex1 ‹_<n›
  show zFn _ _ _ _ _ _ _=_
  unfold zFn zLK zPi
  rw [zf (df (by omega)),zP (zu (by omega)),List.append_nil]
  rfl
 | succ m ih =>
  intro n i l h1 h2 h3
  obtain ⟨n,rfl⟩:=ex1 ‹_<n›
  have hi:i<zs.length:=by omega
  show zFn _ _ _ _ _ _ _=_
  unfold zFn zJH zPi
  rw [zz (dt (by omega)),zP (zAC hi),zP (zAC ht),hq,zTk]
  by_cases hh:(at_ zs (i:Int)).node=q∧(at_ zs (i:Int)).kind=0
  ·rw [zz (dt hh),if_pos hh,zP (dt (by simp; omega)),zP (zu (by omega))]
   refine (ih n (i+1) (l++[(i:Int)]) (by omega) (by omega) (by simp; omega)).trans ?_
   rw [List.append_assoc]
   rfl
  ·rw [zf (df hh),if_neg hh,zP (zu (by omega))]
   exact ih n (i+1) l (by omega) (by omega) (by omega)
theorem zWO (h:Gn zs) {ns:List Int} {t:Nat} (ht:t<ns.length) (hns:ns.length≤8) (hq:at_ ns (t:Int)=q) {se:Int→List Int→Option (List Int×Int)}:∀ (m n i:Nat) (l:List Int),i+m=zs.length→m<n→l.length+m≤1000 →
  zHA se zs false (ns,0) (t:Int) n (i:Int) l=zIu se zs (ns,0) (t:Int) (l++zPi zs q 1 m i):=by
 have hn:=h.n
 intro m
 induction m with
 | zero =>
  intro n i l h1 h2 h3
  obtain ⟨n,rfl⟩:=ex1 ‹_<n›
  show zD1 _ _ _ _ _ _ _ _=_
  unfold zD1 zPi
  rw [df (p:=(i:Int)<(zs.length:Int)) (by omega),zf (by rfl),List.append_nil]
 | succ m ih =>
  intro n i l h1 h2 h3
  obtain ⟨n,rfl⟩:=ex1 ‹_<n›
  have hi:i<zs.length:=by omega
  show zD1 _ _ _ _ _ _ _ _=_
  unfold zD1 zIq zPi
  rw [dt (p:=(i:Int)<(zs.length:Int)) (by omega),zz (by rfl),zP (zAC hi),zP (zAC ht),hq,zTk]
  by_cases hh:(at_ zs (i:Int)).node=q∧(at_ zs (i:Int)).kind=1
  ·rw [zz (dt hh),if_pos hh,zP (dt (by simp; omega)),zP (zu (by omega))]
   refine (ih n (i+1) (l++[(i:Int)]) (by omega) (by omega) (by simp; omega)).trans ?_
   rw [List.append_assoc]
   rfl
  ·rw [zf (df hh),if_neg hh,zP (zu (by omega))]
   exact ih n (i+1) l (by omega) (by omega) (by omega)
def zWR (zs:List zW) (kern:Bool) (q:Int):List Int:=(if kern then [] else zPi zs q 1 zs.length 0)++zPi zs q 0 zs.length 0
theorem zSA (h:Gn zs) {kern:Bool} {z:Int}:z∈zWR zs kern q↔Ix zs z∧zRB zs kern z=true∧(at_ zs z).node=q:=by
 unfold zWR zRB
 rw [List.mem_append,zIk]
 constructor
 ·rintro (hz | ⟨k,e,_,h2,h3,h4⟩)
  ·cases kern with
   | true=>cases hz
   | false =>
    obtain ⟨k,e,_,h2,h3,h4⟩:=zIk.1 hz
    subst e
    exact ⟨⟨k,rfl,by omega⟩,rfl,h3⟩
  ·subst e
   exact ⟨⟨k,rfl,by omega⟩,by rw [dt h4,Bool.or_true],h3⟩
 ·rintro ⟨⟨k,e,hk⟩,hs,hq⟩
  subst e
  rcases h.kd _ (zAy hk) with e0 | e1
  ·exact .inr ⟨k,rfl,Nat.zero_le _,by omega,hq,e0⟩
  ·cases kern with
   | true =>
    rw [df (p:=(at_ zs (k:Int)).kind=0) (by omega)] at hs
    cases hs
   | false=>exact .inl (zIk.2 ⟨k,rfl,Nat.zero_le _,by omega,hq,e1⟩)
theorem zUM {l:List Int} {r:Int} (hs:Srt l) (hr:∀ z,z∈l→zJv zs v z=r):Srt (l.map (gK zs v)):=by
 refine List.pairwise_map.2 (hs.imp_of_mem fun {a b} ha hb hab => ?_)
 unfold gK
 rw [hr a ha,hr b hb]
 omega
theorem zVD (h:Gn zs) {kern:Bool}:Srt ((zWR zs kern q).map (gK zs v)):=by
 have h0:∀ z,z∈zPi zs q 0 zs.length 0→Ix zs z∧zJv zs v z=2*zM8 v q+1:=fun z hz=>by
  obtain ⟨k,e,_,h2,h3,h4⟩:=zIk.1 hz
  subst e
  exact ⟨⟨k,rfl,by omega⟩,by unfold zJv; rw [if_pos h4,h3]⟩
 have h1:∀ z,z∈zPi zs q 1 zs.length 0→Ix zs z∧zJv zs v z=2*zM8 v q:=fun z hz=>by
  obtain ⟨k,e,_,h2,h3,h4⟩:=zIk.1 hz
  subst e
  exact ⟨⟨k,rfl,by omega⟩,by unfold zJv; rw [if_neg (by omega),h3]⟩
 unfold zWR
 rw [List.map_append,zJw]
 refine ⟨?_,zUM zNF (fun z hz=>(h0 z hz).2),fun a ha b hb => ?_⟩
 ·cases kern with
  | true=>exact Srt.nil
  | false=>exact zUM zNF (fun z hz=>(h1 z hz).2)
 ·obtain ⟨y,hy,rfl⟩:=List.mem_map.1 hb
  cases kern with
  | true=>cases ha
  | false =>
   obtain ⟨x,hx,rfl⟩:=List.mem_map.1 ha
   exact zUZ h (h1 x hx).1 (h0 y hy).1 (by rw [(h1 x hx).2,(h0 y hy).2]; omega)
theorem zR0 (z:Int):2*zM8 v (at_ zs z).node≤zJv zs v z∧zJv zs v z≤2*zM8 v (at_ zs z).node+1:=by
 unfold zJv
 split <;> omega
theorem zXK (h:Gn zs) {kern:Bool} {ns:List Int} (hns:ns.length≤8) (hks:Srt (ns.map (zM8 v))):∀ (m n t:Nat) (l:List Int),t+m=ns.length→m<n→l.length≤12*t→Srt (l.map (gK zs v))→(∀ z,z∈l↔Ix zs z∧zRB zs kern z=true∧(at_ zs z).node∈ns.take t) →
  ∃ L,Srt (L.map (gK zs v))∧(∀ z,z∈L↔Ix zs z∧zRB zs kern z=true∧(at_ zs z).node∈ns)∧zD4 zs kern (ns,0) n (t:Int) l=some (L,0):=by
 have hn:=h.n
 intro m
 induction m with
 | zero =>
  intro n t l h1 h2 h3 h4 h5
  obtain ⟨n,rfl⟩:=ex1 ‹_<n›
  refine ⟨l,h4,fun z=>by rw [h5,List.take_of_length_le (by omega)],?_⟩
  show zFj _ _ _ _ _ _=_
  unfold zFj zK5
  rw [zf (df (show ¬ (t:Int)<(ns.length:Int) by omega))]
 | succ m ih =>
  intro n t l h1 h2 h3 h4 h5
  obtain ⟨n,rfl⟩:=ex1 ‹_<n›
  have ht:t<ns.length:=by omega
  have hl1:=zO4 (zs:=zs) (q:=at_ ns (t:Int)) (K:=1) (m:=zs.length) (i:=0)
  have hl0:=zO4 (zs:=zs) (q:=at_ ns (t:Int)) (K:=0) (m:=zs.length) (i:=0)
  have hstep:zD4 zs kern (ns,0) (n+1) (t:Int) l=zD4 zs kern (ns,0) n ((t+1:Nat):Int) (l++zWR zs kern (at_ ns (t:Int))):=by
   show zFj _ _ _ _ _ _=_
   unfold zFj zWR
   rw [zz (dt (show (t:Int)<(ns.length:Int) by omega))]
   cases kern with
   | true =>
    rw [show zHA (zD4 zs true (ns,0) n) zs true (ns,0) (t:Int) z8 0 l=zIu (zD4 zs true (ns,0) n) zs (ns,0) (t:Int) l by
     rw [show z8=(z8 - 1)+1 from rfl]
     show zD1 _ _ _ _ _ _ _ _=_
     unfold zD1
     rw [zf (by rw [Bool.not_true,Bool.and_false])]]
    exact zTS h ht hns rfl zs.length z8 0 l (by omega) (by unfold z8; omega) (by omega)
   | false =>
    refine (zWO h ht hns rfl zs.length z8 0 l (by omega) (by unfold z8; omega) (by omega)).trans ?_
    refine (zTS h ht hns rfl zs.length z8 0 _ (by omega) (by unfold z8; omega) (by rw [List.length_append]; omega)).trans ?_
    rw [List.append_assoc]
    rfl
  rw [hstep]
  refine ih n (t+1) _ (by omega) (by omega) ?_ ?_ (fun z => ?_)
  ·unfold zWR
   rw [List.length_append,List.length_append]
   cases kern <;> simp <;> omega
  ·rw [List.map_append,zJw]
   refine ⟨h4,zVD h,fun a ha b hb => ?_⟩
   obtain ⟨x,hx,rfl⟩:=List.mem_map.1 ha
   obtain ⟨y,hy,rfl⟩:=List.mem_map.1 hb
   have hx':=(h5 x).1 hx
   have hy':=(zSA h).1 hy
   have hk:zM8 v (at_ zs x).node<zM8 v (at_ ns (t:Int)):=by
    obtain ⟨i,hi,e⟩:=List.getElem_of_mem hx'.2.2
    rw [List.length_take] at hi
    rw [List.getElem_take] at e
    have:=zJf hks (i:=i) (j:=t) (x:=zM8 v ns[i]) (y:=zM8 v ns[t]) (by rw [List.getElem?_map,List.getElem?_eq_getElem (by omega)]; rfl) (by rw [List.getElem?_map,List.getElem?_eq_getElem ht]; rfl) (by omega)
    rw [← e,zFU ht]
    exact this
   refine zUZ h hx'.1 hy'.1 ?_
   have r1:=(zR0 (zs:=zs) (v:=v) x).2
   have r2:=(zR0 (zs:=zs) (v:=v) y).1
   rw [hy'.2.2] at r2
   omega
  ·rw [List.mem_append,h5,zSA h,List.take_add_one,List.mem_append,zZn ht]
   simp only [Option.toList_some,List.mem_singleton]
   constructor
   ·rintro (⟨h1,h2,h3⟩ | ⟨h1,h2,h3⟩)
    ·exact ⟨h1,h2,.inl h3⟩
    ·exact ⟨h1,h2,.inr h3⟩
   ·rintro ⟨h1,h2,h3 | h3⟩
    ·exact .inl ⟨h1,h2,h3⟩
    ·exact .inr ⟨h1,h2,h3⟩
theorem zVU {g:Int→Int}:∀ {l m:List Int},l.map g=m.map g→(∀ a b,a∈l→b∈m→g a=g b→a=b)→l=m
 | [],[],_,_=>rfl
 | [],_::_,h,_=>by cases h
 | _::_,[],h,_=>by cases h
 | a::l,b::m,h,hi=>by
  simp only [List.map_cons,List.cons.injEq] at h
  rw [hi a b (by simp) (by simp) h.1,zVU h.2 (fun x y hx hy=>hi x y (by simp [hx]) (by simp [hy]))]
theorem zYi (h:Gn zs) (hv:0≤v∧v<4) (kern:Bool):∃ L,(∀ z,z∈L↔Ix zs z∧zRB zs kern z=true)∧L.length≤256∧zD3 zs v kern=some (L,0)∧zN8 zs v kern=some (L,0):=by
 have hn:=h.n
 obtain ⟨L,l1,l2,l3⟩:=zYD h hv kern
 obtain ⟨ns,n1,n2,n3,n4⟩:=zUd h hv
 obtain ⟨M,m1,m2,m3⟩:=zXK h (kern:=kern) (ns:=ns) n2 n1 ns.length z8 0 [] (by omega) (by unfold z8; omega) (Nat.le_refl _) Srt.nil (fun z=>⟨fun hz=>(by cases hz),fun ⟨_,_,hz⟩=>by simp at hz⟩)
 have hm:∀ z,z∈M↔z∈L:=fun z=>by
  rw [m2,l2]
  constructor
  ·rintro ⟨a,b,_⟩; exact ⟨a,b⟩
  ·rintro ⟨a,b⟩
   obtain ⟨k,e,hk⟩:=a
   subst e
   exact ⟨⟨k,rfl,hk⟩,b,(n3 _).2 ⟨k,hk,rfl⟩⟩
 have e:L=M:=by
  refine zVU (g:=gK zs v) (zQm l1 m1 (fun x => ?_)) (fun a b ha hb hg => ?_)
  ·constructor
   ·intro hx
    obtain ⟨z,hz,rfl⟩:=List.mem_map.1 hx
    exact List.mem_map_of_mem ((hm z).2 hz)
   ·intro hx
    obtain ⟨z,hz,rfl⟩:=List.mem_map.1 hx
    exact List.mem_map_of_mem ((hm z).1 hz)
  ·obtain ⟨i,rfl,hi⟩:=((l2 a).1 ha).1
   obtain ⟨j,rfl,hj⟩:=((l2 b).1 ((hm b).1 hb)).1
   unfold gK at hg
   omega
 have hlen:L.length≤256:=by
  have:=zRG l1 (fun f hf=>by
   obtain ⟨z,hz,rfl⟩:=List.mem_map.1 hf
   obtain ⟨⟨k,rfl,hk⟩,_⟩:=(l2 z).1 hz
   have:=zQ5 h hv hk
   unfold gK
   omega)
  rwa [List.length_map] at this
 refine ⟨L,l2,hlen,l3,?_⟩
 unfold zN8
 rw [n4,zAt]
 rw [zf (by rfl)]
 rw [e]
 exact m3
end
end Go.Proofs.Ytplkliakhdkpcaa
namespace Go.Proofs.Ytplkliakhdkpcaa
open Go Go.RowKit Go.Wk Go.Am
section
variable {c:zK} {zn z:Nat} {add:List Int}
theorem zZW (hl:add.length≤1000):∀ (m n i:Nat) (q:List (Int×Bool)),i+m=add.length→m<n→(∀ f,f∈add.drop i→zBj f=true∧zL9 false q f=false)→(add.drop i).Nodup→zEp c (z:Int) add n (i:Int) q=zEm c (z:Int) add:=by
 intro m
 induction m with
 | zero =>
  intro n i q h1 h2 _ _
  obtain ⟨n,rfl⟩:=ex1 ‹_<n›
  show zCv _ _ _ _ _ _=_
  unfold zCv
  rw [zf (df (by omega))]
 | succ m ih =>
  intro n i q h1 h2 h3 h4
  obtain ⟨n,rfl⟩:=ex1 ‹_<n›
  have hi:i<add.length:=by omega
  rw [zCj hi] at h3 h4
  have h0:=h3 (at_ add (i:Int)) (by simp)
  have hn:=List.nodup_cons.1 h4
  have hff:zCc (at_ add (i:Int))=some true:=by
   unfold zCc
   show some (zBj _)=_
   rw [h0.1]
  show zCv _ _ _ _ _ _=_
  unfold zCv
  rw [zz (dt (by omega)),zP (zAC hi),hff,zAt,Bool.not_true,zf rfl,h0.2,zf rfl,zP (zu (by omega))]
  refine ih n (i+1) _ (by omega) (by omega) (fun f hf=>⟨(h3 f (by simp [hf])).1,?_⟩) hn.2
  rw [zNK,if_neg (fun e=>hn.1 (by rw [← e]; exact hf))]
  exact (h3 f (by simp [hf])).2
theorem zX4 {i:Nat} (hi:i<add.length):at_ add (((add.length:Int) - 1) - (i:Int))=at_ add.reverse (i:Int):=by
 rw [show ((add.length:Int) - 1) - (i:Int)=((add.length - 1 - i:Nat):Int) by omega,zFU (by omega),zFU (by rw [List.length_reverse]; exact hi),List.getElem_reverse]
theorem zZQ (hl:add.length≤1000):∀ (m n i:Nat) (l:List Int),i+m=add.length→m<n→l.length+m≤2000→zEo c (z:Int) add n (i:Int) l=zEi c (z:Int) (l++add.reverse.drop i):=by
 intro m
 induction m with
 | zero =>
  intro n i l h1 h2 _
  obtain ⟨n,rfl⟩:=ex1 ‹_<n›
  show zCy _ _ _ _ _ _=_
  unfold zCy
  rw [zf (df (by omega)),List.drop_eq_nil_of_le (by rw [List.length_reverse]; omega),List.append_nil]
 | succ m ih =>
  intro n i l h1 h2 h3
  obtain ⟨n,rfl⟩:=ex1 ‹_<n›
  have hi:i<add.length:=by omega
  show zCy _ _ _ _ _ _=_
  unfold zCy
  rw [zz (dt (by omega)),zP (zu (by omega)),zP (zu (by omega)),zP (zSb (by omega)),zX4 hi,zP (dt (by simp; omega)),zP (zu (by omega)),zCj (by rw [List.length_reverse]; exact hi)]
  refine (ih n (i+1) _ (by omega) (by omega) (by simp; omega)).trans ?_
  rw [List.append_assoc]
  rfl
theorem zXZ (hp:Pc c zn) (hz:z<zn) (hl:add.length≤100) (hf:∀ f,f∈add→zBj f=true∧f ∉ c.lists.flatten) (hn:add.Nodup):zFW c (z:Int) add=some (⟨c.lists.set z (at_ c.lists (z:Int)++add.reverse)⟩,0):=by
 have hll:=hp.len
 have hzl:z<c.lists.length:=by omega
 have hbd:=hp.bd _ (zAy hzl)
 unfold zFW
 rw [zPT hp hz,zAt,dt rfl,Bool.not_true,zf rfl,zQU hp.ck,zAt]
 refine (zZW (by omega) add.length z8 0 _ (by omega) (by unfold z8; omega) (fun f h=>⟨(hf f h).1,?_⟩) hn).trans ?_
 ·rw [zN6,df (hf f h).2]
  rfl
 ·unfold zEm
  rw [zP (zAC hzl),zP (by simp; omega),zLn]
  refine (zZQ (by omega) add.length z8 0 _ (by omega) (by unfold z8; omega) (by omega)).trans ?_
  unfold zEi
  rw [List.drop_zero,zNi hp.ck (by rw [List.length_append,List.length_reverse]; omega),zAt,zAt]
theorem zZV {se:Int→Option (zK×Int)} {i:Nat} (hl:add.length≤1000) (hi:i<add.length) (hn:add.Nodup):∀ (m n j:Nat),j+m=i→m<n→zIA se add (i:Int) n (j:Int)=se ((i+1:Nat):Int):=by
 have hc:zE9 add 0 (i:Int)=add.take i:=rfl
 intro m
 induction m with
 | zero =>
  intro n j h1 h2
  obtain ⟨n,rfl⟩:=ex1 ‹_<n›
  show zFK _ _ _ _ _=_
  unfold zFK zKK
  rw [hc,zf (df (by rw [List.length_take]; omega)),zP (zu (by omega))]
  rfl
 | succ m ih =>
  intro n j h1 h2
  obtain ⟨n,rfl⟩:=ex1 ‹_<n›
  have hj:j<(add.take i).length:=by rw [List.length_take]; omega
  have hne:at_ add (i:Int)≠at_ (add.take i) (j:Int):=by
   rw [zFU hi,zFU hj,List.getElem_take]
   rw [List.length_take] at hj
   exact fun e=>(List.pairwise_iff_getElem.1 hn j i (by omega) hi (by omega)) e.symm
  show zFK _ _ _ _ _=_
  unfold zFK
  rw [hc,zz (dt (by omega)),zP (zAC hj),zf (df hne),zP (zu (by omega))]
  exact ih n (j+1) (by omega) (by omega)
theorem zZJ (hp:Pc c zn) (hl:add.length≤1000) (hf:∀ f,f∈add→zBj f=true∧f ∉ c.lists.flatten) (hn:add.Nodup):∀ (m n i:Nat),i+m=add.length→m<n→zID c (z:Int) add n (i:Int)=zIY c (z:Int) add:=by
 intro m
 induction m with
 | zero =>
  intro n i h1 h2
  obtain ⟨n,rfl⟩:=ex1 ‹_<n›
  show zFQ _ _ _ _ _=_
  unfold zFQ
  rw [zf (df (by omega))]
 | succ m ih =>
  intro n i h1 h2
  obtain ⟨n,rfl⟩:=ex1 ‹_<n›
  have hi:i<add.length:=by omega
  have h0:=hf _ (zAy hi)
  have hff:zC0 (at_ add (i:Int))=some false:=by
   have:=h0.1
   unfold zC0
   unfold zBj at this
   simp at this ⊢
   omega
  show zFQ _ _ _ _ _=_
  unfold zFQ
  rw [zz (dt (by omega)),zP (zAC hi),hff,zAt,zf rfl,zVP hp.ck,zAt,df h0.2,zf rfl,zP (by unfold zGs; simp; omega),z0i,zZV hl hi hn i z8 0 (by omega) (by unfold z8; omega)]
  exact ih n (i+1) (by omega) (by omega)
theorem zZB (hzl:z<c.lists.length) (hl:add.length≤1000) (hb:(at_ c.lists (z:Int)).length≤1000):∀ (m n:Nat),m≤add.length→m<n→zIM (z:Int) add n ((m:Int) - 1) (c.lists.set z (at_ c.lists (z:Int)++(add.drop m).reverse))=some (⟨c.lists.set z (at_ c.lists (z:Int)++add.reverse)⟩,0):=by
 intro m
 induction m with
 | zero =>
  intro n h1 h2
  obtain ⟨n,rfl⟩:=ex1 ‹_<n›
  show zFN _ _ _ _ _=_
  unfold zFN zKd
  rw [zf (df (by omega)),List.drop_zero]
 | succ m ih =>
  intro n h1 h2
  obtain ⟨n,rfl⟩:=ex1 ‹_<n›
  have hi:m<add.length:=by omega
  have e:at_ (c.lists.set z (at_ c.lists (z:Int)++(add.drop (m+1)).reverse)) (z:Int)=at_ c.lists (z:Int)++(add.drop (m+1)).reverse:=by rw [zNQ hzl,if_pos rfl]
  show zFN _ _ _ _ _=_
  unfold zFN
  rw [zz (dt (by omega)),zP (zAC (by rw [List.length_set]; exact hzl)),show ((m+1:Nat):Int) - 1=(m:Int) by omega,zP (zAC hi),e,zP (dt (by simp; omega)),zP (zu (by omega)),Int.toNat_natCast,List.set_set, ← ih n (by omega) (by omega),List.append_assoc,zCj hi,List.reverse_cons]
theorem zV0 (hp:Pc c zn) (hz:z<zn) (hl:add.length≤100) (hf:∀ f,f∈add→zBj f=true∧f ∉ c.lists.flatten) (hn:add.Nodup):zKT c (z:Int) add=some (⟨c.lists.set z (at_ c.lists (z:Int)++add.reverse)⟩,0):=by
 have hll:=hp.len
 have hzl:z<c.lists.length:=by omega
 have hbd:=hp.bd _ (zAy hzl)
 unfold zKT
 rw [zQw hp hz,zAt,dt rfl,Bool.not_true,zf rfl]
 refine (zZJ hp (by omega) hf hn add.length z8 0 (by omega) (by unfold z8; omega)).trans ?_
 unfold zIY
 rw [zNv hp.ck,zAt,zP (zu (by omega))]
 have:=zZB (c:=c) (z:=z) (add:=add) hzl (by omega) (by omega) add.length z8 (Nat.le_refl _) (by unfold z8; omega)
 rw [List.drop_length,List.reverse_nil,List.append_nil,zIf hzl] at this
 exact this
end
def refl:Nat→zW→zW×List Int
 | 0,z=>(z,[])
 | m+1,z=>if zNB z 0 5=none then (z,[]) else ((refl m (zCz z 0).1).1,(zCz z 0).2.1::(refl m (zCz z 0).1).2)
theorem zRH:∀ (m:Nat) {z:zW},OkZ z→OkZ (refl m z).1∧zEa (refl m z).1 z∧(refl m z).2.Nodup∧(refl m z).2.length≤m∧(∀ f,f∈(refl m z).2→inside z f 0=true∧cov z f)∧(∀ g,cov (refl m z).1 g↔cov z g∧g ∉ (refl m z).2)
 | 0,z,h=>⟨h,⟨rfl,rfl,rfl,rfl,rfl⟩,List.nodup_nil,Nat.le_refl _,(fun f hf=>by cases hf),fun g=>⟨fun x=>⟨x,by simp [refl]⟩,And.left⟩⟩
 | m+1,z,h=>by
  unfold refl
  by_cases hf:zNB z 0 5=none
  ·rw [if_pos hf]
   exact ⟨h,⟨rfl,rfl,rfl,rfl,rfl⟩,List.nodup_nil,Nat.zero_le _,(fun f hf=>by cases hf),fun g=>⟨fun x=>⟨x,by simp⟩,And.left⟩⟩
  ·rw [if_neg hf]
   obtain ⟨j,hj⟩:∃ j,zNB z 0 (5 - 0)=some j:=by
    cases h':zNB z 0 5 with
    | none=>exact absurd h' hf
    | some j=>exact ⟨j,rfl⟩
   obtain ⟨w1,w2,w3,w4,w5,w6⟩:=zNf h hj
   obtain ⟨i1,i2,i3,i4,i5,i6⟩:=zRH m w2
   rw [pw0] at w5 w6
   have hc0:cov z (zCz z 0).2.1:=w6 _ (by omega) (by omega)
   have hn0:(zCz z 0).2.1 ∉ (refl m (zCz z 0).1).2:=fun hm=>((w5 _).1 (i5 _ hm).2).2 ⟨by omega,by omega⟩
   refine ⟨i1,i2.trans w3,List.nodup_cons.2 ⟨hn0,i3⟩,by simp; omega,fun f hf' => ?_,fun g => ?_⟩
   ·rcases List.mem_cons.1 hf' with rfl | hf'
    ·exact ⟨w4,hc0⟩
    ·have:=i5 f hf'
     exact ⟨by rw [← w3.inside]; exact this.1,((w5 f).1 this.2).1⟩
   ·rw [i6,w5,List.mem_cons]
    constructor
    ·rintro ⟨⟨h1,h2⟩,h3⟩
     exact ⟨h1,fun h4=>h4.elim (fun e=>h2 (by omega)) h3⟩
    ·rintro ⟨h1,h2⟩
     exact ⟨⟨h1,fun h4=>h2 (.inl (by omega))⟩,fun h4=>h2 (.inr h4)⟩
theorem zUz {m:Nat} {z:zW} (ho:OkZ z) (h:(refl (m+1) z).2=[]):∀ g,¬ cov z g:=by
 unfold refl at h
 by_cases hf:zNB z 0 5=none
 ·exact zZX ho hf
 ·rw [if_neg hf] at h; cases h
section
variable {a:zH} {c p:Nat}
theorem zXH {b:Nat} (hb:(b:Int)=a.batch) (hbb:b≤64):∀ (m n:Nat) (zs:List zW) (l:List Int),l.length+m=b→m<n→p<zs.length→OkZ (at_ zs (p:Int)) →
  zDJ a (c:Int) (p:Int) n (l.length:Int) zs l=zBs a (c:Int) (p:Int) (zs.set p (refl m (at_ zs (p:Int))).1) (l++(refl m (at_ zs (p:Int))).2) ∧
  zIN a (c:Int) (p:Int) n zs l=zFJ a (c:Int) (p:Int) (zs.set p (refl m (at_ zs (p:Int))).1) (l++(refl m (at_ zs (p:Int))).2):=by
 intro m
 induction m with
 | zero =>
  intro n zs l h1 h2 hp ho
  obtain ⟨n,rfl⟩:=ex1 ‹_<n›
  show zBt _ _ _ _ _ _ _=zBs _ _ _ (zs.set p (at_ zs (p:Int))) (l++[])∧zFS _ _ _ _ _ _=zFJ _ _ _ (zs.set p (at_ zs (p:Int))) (l++[])
  unfold zBt zFS
  rw [zf (df (by omega)),zf (df (by omega)),zIf hp,List.append_nil]
  exact ⟨rfl,rfl⟩
 | succ m ih =>
  intro n zs l h1 h2 hp ho
  obtain ⟨n,rfl⟩:=ex1 ‹_<n›
  show zBt _ _ _ _ _ _ _=_∧zFS _ _ _ _ _ _=_
  unfold zBt zFS refl
  rw [zz (dt (by omega)),zz (dt (by omega)),zP (zAC hp),zP (zAC hp),z0i,zYs ho (Nat.zero_le _),zYg ho (Nat.zero_le _),zAt,zAt]
  by_cases hf:zNB (at_ zs (p:Int)) 0 5=none
  ·rw [if_pos hf,zRL (k:=0) hf]
   rw [zz (by rfl),zz (by rfl),zIf hp,List.append_nil]
   exact ⟨rfl,rfl⟩
  ·rw [if_neg hf]
   obtain ⟨j,hj⟩:∃ j,zNB (at_ zs (p:Int)) 0 (5 - 0)=some j:=by
    cases h':zNB (at_ zs (p:Int)) 0 5 with
    | none=>exact absurd h' hf
    | some j=>exact ⟨j,rfl⟩
   obtain ⟨w1,w2,w3,w4,w5,w6⟩:=zNf ho hj
   have e1:at_ (zs.set p (zCz (at_ zs (p:Int)) 0).1) (p:Int)=(zCz (at_ zs (p:Int)) 0).1:=by rw [zNQ hp,if_pos rfl]
   have hl:(l++[(zCz (at_ zs (p:Int)) 0).2.1]).length=l.length+1:=by simp
   have hi:=ih n (zs.set p (zCz (at_ zs (p:Int)) 0).1) (l++[(zCz (at_ zs (p:Int)) 0).2.1]) (by omega) (by omega) (by rw [List.length_set]; exact hp) (by rw [e1]; exact w2)
   rw [e1,List.set_set,hl,List.append_assoc] at hi
   rw [zf (by rw [w1]; rfl),zf (by rw [w1]; rfl),zP (dt (by simp; omega)),zP (dt (by simp; omega)),zP (zu (by omega))]
   exact hi
def zSJ (a:zH) (c p:Nat):zH:=upd a c p (Lf a c p++(refl a.batch.toNat (Zn a p)).2.reverse) (refl a.batch.toNat (Zn a p)).1
theorem zWK (h:Wa a) (hc:c<a.caches.length) {f:Int}:f∈(at_ a.caches (c:Int)).lists.flatten ↔ ∃ q,f∈Lf a c q:=by
 rw [List.mem_flatten]
 constructor
 ·rintro ⟨l,hl,hf⟩
  obtain ⟨q,hq,e⟩:=List.getElem_of_mem hl
  exact ⟨q,by unfold Lf; rw [zFU hq,e]; exact hf⟩
 ·rintro ⟨q,hf⟩
  have hq:=h.pz hc hf
  exact ⟨_,zAy (by rw [h.cl c hc]; exact hq),hf⟩
theorem zVm (h:Wa a) (hc:c<a.caches.length) (hp:p<a.zones.length) {f:Int} (hi:inside (Zn a p) f 0=true) (hv:cov (Zn a p) f):∀ q,f ∉ Lf a c q:=fun q hf=>by
 have hq:=h.pz hc hf
 have e:=h.ap q p f hq hp (h.own c q f hc hf).1 hi
 subst e
 exact (h.own c q f hc hf).2 hv
theorem zIU (h:Wa a) (hc:c<a.caches.length) (hp:p<a.zones.length) (hl:Lf a c p=[]) :
  zCu a (c:Int) (p:Int)=some (zSJ a c p,decide (0<(((refl a.batch.toNat (Zn a p)).2).length:Int)))∧zMm a (c:Int) (p:Int)=some (zSJ a c p)∧Wa (zSJ a c p):=by
 have hbh:=h.bh
 have hbe:((a.batch.toNat:Nat):Int)=a.batch:=Int.toNat_of_nonneg (by omega)
 obtain ⟨r1,r2,r3,r4,r5,r6⟩:=zRH a.batch.toNat (h.zs p hp)
 obtain ⟨f1,f2⟩:=zXH (a:=a) (c:=c) (p:=p) hbe (by omega) a.batch.toNat z8 a.zones [] (by simp) (by unfold z8; omega) hp (h.zs p hp)
 have hpc:=h.pc hc
 have hfr:∀ f,f∈(refl a.batch.toNat (Zn a p)).2→zBj f=true∧f ∉ (at_ a.caches (c:Int)).lists.flatten:=fun f hf=>by
  have h5:=r5 f hf
  have hb:=(h.zs p hp).bds h5.1
  rw [pw0] at hb
  refine ⟨by unfold zBj; simp; omega,fun hm => ?_⟩
  obtain ⟨q,hq⟩:=(zWK h hc).1 hm
  exact zVm h hc hp h5.1 h5.2 q hq
 have e1:=zXZ hpc hp (show (refl a.batch.toNat (Zn a p)).2.length≤100 by omega) hfr r3
 have e2:=zV0 hpc hp (show (refl a.batch.toNat (Zn a p)).2.length≤100 by omega) hfr r3
 refine ⟨?_,?_,?_⟩
 ·unfold zCu
  refine f1.trans ?_
  unfold zBs zDS
  rw [List.nil_append,zP (zAC hc),show at_ a.zones (p:Int)=Zn a p from rfl,e1,zAt,zAt,zz (by rfl)]
  rfl
 ·unfold zMm
  refine f2.trans ?_
  unfold zFJ
  rw [List.nil_append,zP (zAC hc),show at_ a.zones (p:Int)=Zn a p from rfl,e2,zAt]
  rfl
 ·unfold zSJ
  rw [hl,List.nil_append]
  refine zNr h hc hp r1 r2 ?_ (List.pairwise_reverse.2 (List.Pairwise.imp (fun h=>Ne.symm h) r3)) (fun f hf => ?_) (fun d f hd hdc hf=>⟨fun hm => ?_,fun hcv => ?_⟩)
  ·rw [List.length_reverse]; omega
  ·have hf':=List.mem_reverse.1 hf
   exact ⟨(r5 f hf').1,fun hcv=>((r6 f).1 hcv).2 hf'⟩
  ·have h5:=r5 f (List.mem_reverse.1 hm)
   exact zVm h hd hp h5.1 h5.2 p hf
  ·exact (h.own d p f hd hf).2 ((r6 f).1 hcv).1
def zFe (a:zH) (c p:Nat):zH:=upd a c p [] (zKc (Zn a p) (Lf a c p))
theorem zJM (h:Wa a) (hc:c<a.caches.length) (hp:p<a.zones.length):zDM a (c:Int) (p:Int)=some (zFe a c p)∧zN1 a (c:Int) (p:Int)=some (zFe a c p)∧Wa (zFe a c p):=by
 have hpc:=h.pc hc
 have hlim:=h.lim c p hc
 have hbh:=h.bh
 obtain ⟨g1,g2,g3⟩:=zKk (Lf a c p) (h.zs p hp) (fun f hf=>h.own c p f hc hf) (h.nd c p hc)
 have hg:=fun cs=>zTV (a:=⟨a.nodes,a.batch,a.high,a.zones,cs⟩) (fs:=Lf a c p) (by omega) hp (h.zs p hp) (fun f hf=>h.own c p f hc hf) (h.nd c p hc)
 refine ⟨?_,?_,?_⟩
 ·unfold zDM
  rw [zP (zAC hc),zXx hpc hp,zAt,zz (by rfl)]
  show ((zD6 ⟨a.nodes,a.batch,a.high,a.zones,a.caches.set c ⟨(at_ a.caches (c:Int)).lists.set p []⟩⟩ (p:Int) (Lf a c p)).bind _)=_
  rw [(hg _).1,zAt]
  rfl
 ·unfold zN1
  rw [zP (zAC hc),zYw hpc hp,zAt]
  show ((zKm ⟨a.nodes,a.batch,a.high,a.zones,a.caches.set c ⟨(at_ a.caches (c:Int)).lists.set p []⟩⟩ (p:Int) (Lf a c p)).bind _)=_
  rw [(hg _).2,zAt]
  rfl
 ·refine zNr h hc hp g1 g3 (by show ((0:Nat):Int)≤_; omega) List.nodup_nil (fun f hf=>by cases hf) (fun d f hd hdc hf=>⟨by simp,fun hcv => ?_⟩)
  rcases (g2 f).1 hcv with h1 | h1
  ·exact (h.own d p f hd hf).2 h1
  ·exact hdc (h.dis d c p p f hd hc hf h1).1
theorem zSi (h:Wa a) (hc:c<a.caches.length) (hp:p<a.zones.length) (hl:Lf a c p=[]):zFe a c p=a:=by
 unfold zFe upd
 rw [hl]
 have e1:(at_ a.caches (c:Int)).lists.set p ([]:List Int)=(at_ a.caches (c:Int)).lists:=by
  rw [← hl]
  exact zIf (by rw [h.cl c hc]; exact hp)
 rw [e1]
 show (⟨a.nodes,a.batch,a.high,a.zones.set p (at_ a.zones (p:Int)),a.caches.set c (at_ a.caches (c:Int))⟩:zH)=a
 rw [zIf hp,zIf hc]
def zAm (p:Nat):Nat→Nat→zH→zH
 | 0,_,a=>a
 | m+1,c,a=>zAm p m (c+1) (zFe a c p)
theorem zSF (h:Wa a) (hc:c<a.caches.length) (hp:p<a.zones.length) (d q:Nat):Lf (zFe a c p) d q=if d=c∧q=p then [] else Lf a d q:=zRk h hc hp d q
theorem zEJ:(zFe a c p).caches.length=a.caches.length∧(zFe a c p).zones.length=a.zones.length:=⟨List.length_set,List.length_set⟩
end
end Go.Proofs.Ytplkliakhdkpcaa
namespace Go.Proofs.Ytplkliakhdkpcaa
open Go Go.RowKit Go.Wk Go.Am
section
variable {a:zH} {c p:Nat}
theorem zIn:∀ (m i:Nat) {a:zH},Wa a→i+m≤a.caches.length→p<a.zones.length →
  Wa (zAm p m i a)∧(zAm p m i a).caches.length=a.caches.length∧(zAm p m i a).zones.length=a.zones.length∧(zAm p m i a).batch=a.batch∧(∀ d q,Lf (zAm p m i a) d q=if i≤d∧d<i+m∧q=p then [] else Lf a d q)∧(∀ q,q≠p→Zn (zAm p m i a) q=Zn a q) ∧
  (∀ g,cov (Zn (zAm p m i a) p) g↔cov (Zn a p) g ∨ ∃ d,i≤d∧d<i+m∧g∈Lf a d p)
 | 0,i,a,h,_,_=>⟨h,rfl,rfl,rfl,fun d q=>by rw [if_neg (by omega)]; rfl,fun q _=>rfl,fun g=>⟨.inl,fun x=>x.elim id (fun ⟨d,h1,h2,_⟩=>by omega)⟩⟩
 | m+1,i,a,h,hm,hp=>by
  have hi:i<a.caches.length:=by omega
  obtain ⟨_,_,hw⟩:=zJM h hi hp
  obtain ⟨s1,s2⟩:=zEJ (a:=a) (c:=i) (p:=p)
  have hL:=zSF h hi hp
  obtain ⟨_,g2,_⟩:=zKk (Lf a i p) (h.zs p hp) (fun f hf=>h.own i p f hi hf) (h.nd i p hi)
  obtain ⟨r1,r2,r3,r4,r5,r6,r7⟩:=zIn m (i+1) hw (by rw [s1]; omega) (by rw [s2]; exact hp)
  have hZ:Zn (zFe a i p) p=zKc (Zn a p) (Lf a i p):=by
   unfold zFe
   rw [zRa hp,if_pos rfl]
  refine ⟨r1,r2.trans s1,r3.trans s2,r4,fun d q => ?_,fun q hq => ?_,fun g => ?_⟩
  ·show Lf (zAm p m (i+1) (zFe a i p)) d q=_
   rw [r5,hL]
   by_cases h1:i+1≤d∧d<i+1+m∧q=p
   ·rw [if_pos h1,if_pos (by omega)]
   ·rw [if_neg h1]
    by_cases h2:d=i∧q=p
    ·rw [if_pos h2,if_pos (by omega)]
    ·rw [if_neg h2,if_neg (by omega)]
  ·show Zn (zAm p m (i+1) (zFe a i p)) q=_
   rw [r6 q hq]
   unfold zFe
   rw [zRa hp,if_neg hq]
  ·show cov (Zn (zAm p m (i+1) (zFe a i p)) p) g↔_
   rw [r7,hZ,g2]
   constructor
   ·rintro ((h1 | h1) | ⟨d,h1,h2,h3⟩)
    ·exact .inl h1
    ·exact .inr ⟨i,Nat.le_refl _,by omega,h1⟩
    ·rw [hL,if_neg (by omega)] at h3
     exact .inr ⟨d,by omega,by omega,h3⟩
   ·rintro (h1 | ⟨d,h1,h2,h3⟩)
    ·exact .inl (.inl h1)
    ·by_cases hd:d=i
     ·subst hd; exact .inl (.inr h3)
     ·exact .inr ⟨d,by omega,by omega,by rw [hL,if_neg (by omega)]; exact h3⟩
theorem zXN {K:Nat} {x2:List Int×Int} {i1:Int} {x7:zH×Bool} (hx:at_ x2.1 i1=(p:Int)) (hx7:x7.1.caches.length=K) (hc:c<K) (hK:K≤1000):∀ (m n i:Nat) (b:zH),i+m=K→m<n→Wa b→b.caches.length=K→p<b.zones.length→Lf b c p=[] →
  zCM (c:Int) x2 i1 x7 n (i:Int) b.nodes b.batch b.high b.zones b.caches=zCp (c:Int) x2 i1 (zAm p m i b).nodes (zAm p m i b).batch (zAm p m i b).high (zAm p m i b).zones (zAm p m i b).caches:=by
 intro m
 induction m with
 | zero =>
  intro n i b h1 h2 hw hb hp hl
  obtain ⟨n,rfl⟩:=ex1 ‹_<n›
  show zCE _ _ _ _ _ _ _ _ _ _ _=_
  unfold zCE
  rw [hx7,zf (df (by omega))]
  rfl
 | succ m ih =>
  intro n i b h1 h2 hw hb hp hl
  obtain ⟨n,rfl⟩:=ex1 ‹_<n›
  show zCE _ _ _ _ _ _ _ _ _ _ _=_
  unfold zCE zDu
  rw [hx7,zz (dt (by omega))]
  by_cases hi:i=c
  ·subst hi
   rw [dt rfl,Bool.not_true,zf rfl,zP (zu (by omega))]
   show _=zCp _ _ _ (zAm p m (i+1) (zFe b i p)).nodes _ _ _ _
   rw [show zAm p (m+1) i b=zAm p m (i+1) (zFe b i p) from rfl,zSi hw (by omega) hp hl]
   exact ih n (i+1) b (by omega) (by omega) hw hb hp hl
  ·obtain ⟨d1,_,d3⟩:=zJM hw (c:=i) (by omega) hp
   rw [df (by omega),zz (by rfl),hx,show (⟨b.nodes,b.batch,b.high,b.zones,b.caches⟩:zH)=b from rfl,d1,zAt,zP (zu (by omega))]
   exact ih n (i+1) (zFe b i p) (by omega) (by omega) d3 (zEJ.1.trans hb) (by rw [zEJ.2]; exact hp) (by rw [zSF hw (by omega) hp]; split; rfl; exact hl)
def zQE (a:zH) (c p:Nat):zH:=⟨a.nodes,a.batch,a.high,a.zones,a.caches.set c (zV3 (at_ a.caches (c:Int)) p)⟩
theorem zQI (hp:p<a.zones.length):zQE a c p=upd a c p ((Lf a c p).take ((Lf a c p).length - 1)) (Zn a p):=by
 unfold zQE upd Zn
 rw [zIf hp]
 rfl
theorem zWn (h:Wa a) (hc:c<a.caches.length) (hp:p<a.zones.length):Wa (zQE a c p):=by
 rw [zQI hp]
 have hm:∀ f,f∈(Lf a c p).take ((Lf a c p).length - 1)→f∈Lf a c p:=fun f hf=>List.mem_of_mem_take hf
 have:=h.lim c p hc
 refine zNr h hc hp (h.zs p hp) ⟨rfl,rfl,rfl,rfl,rfl⟩ (by rw [List.length_take]; omega) ((h.nd c p hc).sublist (List.take_sublist _ _)) (fun f hf=>h.own c p f hc (hm f hf)) (fun d f hd hdc hf=>⟨fun hh=>hdc (h.dis d c p p f hd hc hf (hm f hh)).1,(h.own d p f hd hf).2⟩)
def a1A (a:zH) (c p:Nat):zH:=if Lf a c p=[] then zSJ a c p else a
def a2A (a:zH) (c p:Nat):zH:=if Lf (a1A a c p) c p=[] then zSJ (zAm p (a1A a c p).caches.length 0 (a1A a c p)) c p else a1A a c p
def zLh (a:zH) (c p:Nat):zH×Int:=(zQE (a2A a c p) c p,zPB (at_ (a2A a c p).caches (c:Int)) p)
theorem zO3:(zSJ a c p).caches.length=a.caches.length∧(zSJ a c p).zones.length=a.zones.length:=⟨List.length_set,List.length_set⟩
theorem zSy (h:Wa a) (hc:c<a.caches.length) (hp:p<a.zones.length) (d q:Nat):Lf (zSJ a c p) d q=if d=c∧q=p then Lf a c p++(refl a.batch.toNat (Zn a p)).2.reverse else Lf a d q:=zRk h hc hp d q
theorem zRp:∀ (ls:List (List Int)) (k:Nat),0<zPV k ls → ∃ (j:Nat) (l:List Int),ls[j]?=some l∧l≠[]
 | [],k,h=>by unfold zPV at h; omega
 | l::ls,k,h=>by
  by_cases hl:l=[]
  ·unfold zPV at h
   rw [hl] at h
   obtain ⟨j,m,h1,h2⟩:=zRp ls (k+1) (by simpa using h)
   exact ⟨j+1,m,by simpa using h1,h2⟩
  ·exact ⟨0,l,rfl,hl⟩
theorem zRj:∀ (cs:List zK) (i:Int),0<zRx cs i → ∃ d,d<cs.length∧at_ (at_ cs (d:Int)).lists i≠[]
 | [],i,h=>by unfold zRx at h; omega
 | x::cs,i,h=>by
  unfold zRx at h
  by_cases hx:at_ x.lists i=[]
  ·rw [hx] at h
   obtain ⟨d,h1,h2⟩:=zRj cs i (by simpa using h)
   exact ⟨d+1,by simp; omega,h2⟩
  ·exact ⟨0,by simp,hx⟩
theorem zW8 (h:0<zME a p):(∃ g,cov (Zn a p) g) ∨ ∃ d,d<a.caches.length∧Lf a d p≠[]:=by
 unfold zME at h
 by_cases hn:0<zU6 (at_ a.zones (p:Int))
 ·obtain ⟨j,l,h1,h2⟩:=zRp _ _ hn
  obtain ⟨x,r,e,_⟩:=zXi h2
  refine .inl ⟨x,j,x,?_,by omega,by have:=zGI j; omega⟩
  show x∈lst (at_ a.zones (p:Int)) j
  rw [zVb h1,e]
  simp
 ·exact .inr (zRj _ _ (by omega))
theorem zYJ (h:Wa a) (hc:c<a.caches.length) (hp:p<a.zones.length):Wa (a1A a c p)∧(a1A a c p).caches.length=a.caches.length∧(a1A a c p).zones.length=a.zones.length:=by
 unfold a1A
 by_cases hl:Lf a c p=[]
 ·rw [if_pos hl]
  exact ⟨(zIU h hc hp hl).2.2,zO3.1,zO3.2⟩
 ·rw [if_neg hl]
  exact ⟨h,rfl,rfl⟩
theorem zVO (h:Wa a) (hc:c<a.caches.length) (hp:p<a.zones.length) (hg:∃ g,cov (Zn a p) g):Lf (zSJ a c p) c p≠[]:=by
 rw [zSy h hc hp,if_pos ⟨rfl,rfl⟩]
 intro e
 have hbh:=h.bh
 have e2:=(List.append_eq_nil_iff.1 e).2
 rw [List.reverse_eq_nil_iff,show a.batch.toNat=(a.batch.toNat - 1)+1 by omega] at e2
 obtain ⟨g,hg⟩:=hg
 exact zUz (h.zs p hp) e2 g hg
theorem zYU (h:Wa a) (hc:c<a.caches.length) (hp:p<a.zones.length) (hn:0<zME a p):Wa (a2A a c p)∧(a2A a c p).caches.length=a.caches.length∧(a2A a c p).zones.length=a.zones.length∧Lf (a2A a c p) c p≠[]:=by
 obtain ⟨w1,w2,w3⟩:=zYJ h hc hp
 unfold a2A
 by_cases hl:Lf (a1A a c p) c p=[]
 ·rw [if_pos hl]
  obtain ⟨r1,r2,r3,r4,r5,r6,r7⟩:=zIn (p:=p) (a1A a c p).caches.length 0 w1 (by omega) (by rw [w3]; exact hp)
  have hl2:Lf (zAm p (a1A a c p).caches.length 0 (a1A a c p)) c p=[]:=by
   rw [r5]
   split
   ·rfl
   ·exact hl
  have hc2:c<(zAm p (a1A a c p).caches.length 0 (a1A a c p)).caches.length:=by rw [r2,w2]; exact hc
  have hp2:p<(zAm p (a1A a c p).caches.length 0 (a1A a c p)).zones.length:=by rw [r3,w3]; exact hp
  refine ⟨(zIU r1 hc2 hp2 hl2).2.2,zO3.1.trans (r2.trans w2),zO3.2.trans (r3.trans w3),zVO r1 hc2 hp2 ?_⟩
  have hl0:Lf a c p=[]:=by
   by_cases h0:Lf a c p=[]
   ·exact h0
   ·unfold a1A at hl
    rw [if_neg h0] at hl
    exact hl
  have ea:a1A a c p=zSJ a c p:=by unfold a1A; rw [if_pos hl0]
  have hng:¬ ∃ g,cov (Zn a p) g:=fun hg=>by
   have:=zVO h hc hp hg
   rw [← ea] at this
   exact this hl
  rcases zW8 hn with hg | ⟨d,hd,hne⟩
  ·exact absurd hg hng
  ·obtain ⟨x,r,e,_⟩:=zXi hne
   refine ⟨x,(r7 x).2 (.inr ⟨d,Nat.zero_le _,by rw [w2]; omega,?_⟩)⟩
   have hdc:d≠c:=fun e'=>by subst e'; exact hne hl0
   rw [ea,zSy h hc hp,if_neg (fun e'=>hdc e'.1),e]
   simp
 ·rw [if_neg hl]
  exact ⟨w1,w2,w3,hl⟩
theorem zUv (h:Wa a) (hc:c<a.caches.length) (hp:p<a.zones.length) (hn:0<zME a p) {x2:List Int×Int} {i1:Int} (hx:at_ x2.1 i1=(p:Int)) :
  (chk (inb (c:Int) a.caches.length)<|chk (inb (at_ x2.1 i1) ((at_ a.caches (c:Int)).lists).length) <|
   (cnd (decide (((at_ ((at_ a.caches (c:Int)).lists) (at_ x2.1 i1)).length:Int)=0)) (zCu (⟨a.nodes,a.batch,a.high,a.zones,a.caches⟩:zH) (c:Int) (at_ x2.1 i1)) (some ((⟨a.nodes,a.batch,a.high,a.zones,a.caches⟩:zH),default))).bind fun x7 =>
   cnd ((decide (((at_ ((at_ a.caches (c:Int)).lists) (at_ x2.1 i1)).length:Int)=0))&&(!x7.2)) (
    zCM (c:Int) x2 i1 x7 z8 0 x7.1.nodes x7.1.batch x7.1.high x7.1.zones x7.1.caches) (
    zB6 (c:Int) x2 i1 x7.1.nodes x7.1.batch x7.1.high x7.1.zones x7.1.caches))=some ((zLh a c p).1,(zLh a c p).2,0):=by
 obtain ⟨w1,w2,w3⟩:=zYJ h hc hp
 obtain ⟨v1,v2,v3,v4⟩:=zYU h hc hp hn
 have hcn:=h.n
 have hcn2:=h.cn
 have hcl:=h.cl c hc
 have key:∀ b:zH,Wa b→b.caches.length=a.caches.length→b.zones.length=a.zones.length→Lf b c p≠[]→zB6 (c:Int) x2 i1 b.nodes b.batch b.high b.zones b.caches=some (zQE b c p,zPB (at_ b.caches (c:Int)) p,0):=fun b hb h1 h2 h3=>by
  unfold zB6
  rw [hx,zP (zAC (by rw [h1]; exact hc)),zZN (hb.pc (by rw [h1]; exact hc)) (by rw [h2]; exact hp) h3,zAt,zf (by rfl)]
  rfl
 rw [hx,zP (zAC hc),zP (zAC (by rw [hcl]; exact hp))]
 by_cases hl:Lf a c p=[]
 ·have e1:a1A a c p=zSJ a c p:=by unfold a1A; rw [if_pos hl]
  rw [dt (show ((at_ (at_ a.caches (c:Int)).lists (p:Int)).length:Int)=0 by show ((Lf a c p).length:Int)=0; rw [hl]; rfl),zz rfl,show (⟨a.nodes,a.batch,a.high,a.zones,a.caches⟩:zH)=a from rfl,(zIU h hc hp hl).1,zAt, ← e1]
  have hlr:Lf (a1A a c p) c p=(refl a.batch.toNat (Zn a p)).2.reverse:=by rw [e1,zSy h hc hp,if_pos ⟨rfl,rfl⟩,hl,List.nil_append]
  by_cases hr:(refl a.batch.toNat (Zn a p)).2=[]
  ·have hl1:Lf (a1A a c p) c p=[]:=by rw [hlr,hr]; rfl
   have e2:a2A a c p=zSJ (zAm p (a1A a c p).caches.length 0 (a1A a c p)) c p:=by unfold a2A; rw [if_pos hl1]
   obtain ⟨r1,r2,r3,r4,r5,r6,r7⟩:=zIn (p:=p) (a1A a c p).caches.length 0 w1 (by omega) (by rw [w3]; exact hp)
   have hl2:Lf (zAm p (a1A a c p).caches.length 0 (a1A a c p)) c p=[]:=by
    rw [r5]
    split
    ·rfl
    ·exact hl1
   have hq:=(zIU r1 (c:=c) (by rw [r2,w2]; exact hc) (by rw [r3,w3]; exact hp) hl2).1
   rw [zz (by rw [hr]; rfl)]
   refine (zXN (x7:=(a1A a c p,decide (0<(((refl a.batch.toNat (Zn a p)).2).length:Int)))) hx (K:=(a1A a c p).caches.length) rfl (by rw [w2]; exact hc) (by omega) (a1A a c p).caches.length z8 0 (a1A a c p) (by omega) (by unfold z8; omega) w1 rfl (by rw [w3]; exact hp) hl1).trans ?_
   unfold zCp
   rw [hx,show (⟨(zAm p (a1A a c p).caches.length 0 (a1A a c p)).nodes,(zAm p (a1A a c p).caches.length 0 (a1A a c p)).batch,(zAm p (a1A a c p).caches.length 0 (a1A a c p)).high,(zAm p (a1A a c p).caches.length 0 (a1A a c p)).zones,(zAm p (a1A a c p).caches.length 0 (a1A a c p)).caches⟩:zH)=zAm p (a1A a c p).caches.length 0 (a1A a c p) from rfl,hq,zAt, ← e2]
   exact key _ v1 v2 v3 v4
  ·have hl1:Lf (a1A a c p) c p≠[]:=by rw [hlr]; exact fun e=>hr (List.reverse_eq_nil_iff.1 e)
   have e2:a2A a c p=a1A a c p:=by unfold a2A; rw [if_neg hl1]
   have hpos:0<(refl a.batch.toNat (Zn a p)).2.length:=List.length_pos_iff.2 hr
   rw [zf (by rw [dt (show (0:Int)<((refl a.batch.toNat (Zn a p)).2.length:Int) by omega)]; rfl), ← e2]
   exact key _ v1 v2 v3 v4
 ·have e1:a1A a c p=a:=by unfold a1A; rw [if_neg hl]
  have e2:a2A a c p=a:=by unfold a2A; rw [e1,if_neg hl]
  have hne:¬ ((at_ (at_ a.caches (c:Int)).lists (p:Int)).length:Int)=0:=fun e=>hl (List.length_eq_zero_iff.1 (by show (Lf a c p).length=0; have e':((Lf a c p).length:Int)=0:=e; omega))
  rw [df hne,zf rfl,zAt,zf (by rfl)]
  have:=key a h rfl rfl hl
  unfold zLh
  rw [e2]
  exact this
theorem Wa.gn (h:Wa a):Gn a.zones:=by
 have hz:∀ z,z∈a.zones→ranges z=true:=fun z hz=>by
  obtain ⟨q,hq,e⟩:=List.getElem_of_mem hz
  have:=(h.zs q hq).ranges
  unfold Zn at this
  rw [zFU hq,e] at this
  exact this
 exact ⟨h.zn.2,fun z hm=>by have:=zAx (hz z hm); omega,fun z hm=>(zAx (hz z hm)).2.2.1⟩
theorem Wa.vn (h:Wa a) (hc:c<a.nodes.length):0≤at_ a.nodes (c:Int)∧at_ a.nodes (c:Int)<4:=h.nr _ (zAy hc)
end
end Go.Proofs.Ytplkliakhdkpcaa
namespace Go.Proofs.Ytplkliakhdkpcaa
open Go Go.RowKit Go.Wk Go.Am
section
variable {a:zH} {c p:Nat}
theorem Wa.al (h:Wa a):Al a:=by
 have h1:=h.n
 have h2:=h.zn
 have h3:=h.cn
 refine ⟨by omega,by omega,by omega,fun z hz => ?_,fun x hx => ?_⟩
 ·obtain ⟨q,hq,e⟩:=List.getElem_of_mem hz
  have:=h.zs q hq
  unfold Zn at this
  rw [zFU hq,e] at this
  exact ⟨this.zk,this.inI⟩
 ·obtain ⟨d,hd,e⟩:=List.getElem_of_mem hx
  have:=(h.pc hd).ck
  rw [zFU hd,e] at this
  exact this
theorem Wa.va (h:Wa a):Va a:=by
 refine ⟨h.al,h.se,fun x hx => ?_,h.zn.1⟩
 obtain ⟨d,hd,e⟩:=List.getElem_of_mem hx
 have:=h.cl d hd
 rw [zFU hd,e] at this
 exact this
end
end Go.Proofs.Ytplkliakhdkpcaa
namespace Go.Proofs.Ytplkliakhdkpcaa
open Go Go.RowKit Go.Wk Go.Am
section
variable {l:List Int} {f:Int}
def wo (f:Int) (l:List Int):List Int:=l.filter fun y => !decide (y=f)
theorem zTX {i:Nat} (hi:i<l.length):wo f (l.take (i+1))=if at_ l (i:Int)=f then wo f (l.take i) else wo f (l.take i)++[at_ l (i:Int)]:=by
 unfold wo
 rw [List.take_add_one,List.getElem?_eq_getElem hi, ← zFU hi,List.filter_append]
 by_cases h:at_ l (i:Int)=f
 ·rw [if_pos h]
  show _++List.filter _ [at_ l (i:Int)]=_
  rw [List.filter_cons_of_neg (by rw [dt h]; simp)]
  simp
 ·rw [if_neg h]
  show _++List.filter _ [at_ l (i:Int)]=_
  rw [List.filter_cons_of_pos (by rw [df h]; rfl)]
  simp
theorem zUb (hl:l.length≤1000):∀ (m n i:Nat),i+m=l.length→m<n→f∈l.drop i→f ∉ l.take i → ∃ j:Nat,j<l.length∧wo f (l.take (j+1))=l.take j∧zAE l (fun y=>zBZ y f) n (i:Int)=some (j:Int):=by
 intro m
 induction m with
 | zero =>
  intro n i h1 h2 h3 _
  rw [List.drop_eq_nil_of_le (by omega)] at h3
  cases h3
 | succ m ih =>
  intro n i h1 h2 h3 h4
  obtain ⟨n,rfl⟩:=ex1 ‹_<n›
  have hi:i<l.length:=by omega
  have ee:zAE l (fun y=>zBZ y f) (n+1) (i:Int)=cnd (decide (at_ l (i:Int)=f)) (some (i:Int)) (zAE l (fun y=>zBZ y f) n ((i+1:Nat):Int)):=by
   show zAS _ _ _ _=_
   unfold zAS zBZ
   rw [zz (dt (by omega)),zP (zAC hi),zAt,zP (zu (by omega))]
   rfl
  rw [ee]
  by_cases h:at_ l (i:Int)=f
  ·rw [zz (dt h)]
   refine ⟨i,hi,?_,rfl⟩
   rw [zTX hi,if_pos h]
   exact List.filter_eq_self.2 fun y hy=>by rw [df (fun e:y=f=>h4 (e▸hy))]; rfl
  ·rw [zf (df h)]
   rw [zCj hi] at h3
   refine ih n (i+1) (by omega) (by omega) ((List.mem_cons.1 h3).resolve_left (fun e=>h e.symm)) (fun hm => ?_)
   rw [List.take_add_one,List.getElem?_eq_getElem hi, ← zFU hi] at hm
   rcases List.mem_append.1 hm with hm | hm
   ·exact h4 hm
   ·exact h (List.mem_singleton.1 hm).symm
theorem zU4 (hl:l.length≤1000):∀ (m n j i:Nat) (q:List Int),j+m=l.length→m<n→i≤j→q.length=l.length→q.take i=wo f (l.take j)→q.drop j=l.drop j→zA1 (fun y=>zBZ y f) n (i:Int) (j:Int) q=some (wo f l):=by
 intro m
 induction m with
 | zero =>
  intro n j i q h1 h2 h3 h4 h5 h6
  obtain ⟨n,rfl⟩:=ex1 ‹_<n›
  have e:zIm q (i:Int)=q.take i++List.replicate (q.length - i) 0:=rfl
  have hcl:(zIm q (i:Int)).length=q.length:=by rw [e,List.length_append,List.length_take,List.length_replicate]; omega
  show zAl _ _ _ _ _=_
  unfold zAl zBr
  rw [zf (df (by omega)),zP (by unfold zGs; simp; omega),zP (by rw [hcl]; unfold zGs; simp; omega)]
  unfold zE9
  rw [Int.toNat_natCast,e,List.take_left' (by rw [List.length_take]; omega),h5,List.take_of_length_le (by omega)]
  rfl
 | succ m ih =>
  intro n j i q h1 h2 h3 h4 h5 h6
  obtain ⟨n,rfl⟩:=ex1 ‹_<n›
  have hj:j<l.length:=by omega
  have hjq:j<q.length:=by omega
  have hiq:i<q.length:=by omega
  have h6':=h6
  rw [zCj hj,zCj hjq] at h6
  obtain ⟨ea,ed⟩:=List.cons.inj h6
  have hw:=zTX (f:=f) hj
  show zAl _ _ _ _ _=_
  unfold zAl zBH zBZ
  rw [zz (dt (by omega)),zP (zAC hjq),zAt,zP (zAC hiq),zP (zu (by omega)),zP (zu (by omega)),zP (zu (by omega)),ea,Int.toNat_natCast]
  by_cases h:at_ l (j:Int)=f
  ·rw [dt h,Bool.not_true,zf rfl]
   rw [if_pos h] at hw
   exact ih n (j+1) i q (by omega) (by omega) (by omega) h4 (by rw [h5,hw]) ed
  ·rw [df h,Bool.not_false,zz rfl]
   rw [if_neg h] at hw
   refine ih n (j+1) (i+1) _ (by omega) (by omega) (by omega) (by rw [List.length_set]; exact h4) ?_ ?_
   ·rw [hw,List.take_add_one,List.getElem?_set_self hiq,List.take_set_of_le (Nat.le_refl i),h5]
    rfl
   ·rw [List.drop_set_of_lt (by omega)]
    exact ed
theorem zZt (hl:l.length≤1000) (hf:f∈l):zBd l (fun y=>zBZ y f)=some (wo f l):=by
 obtain ⟨j,j1,j2,j3⟩:=zUb (f:=f) hl l.length z8 0 (by omega) (by unfold z8; omega) hf (by simp)
 unfold zBd zBJ
 rw [z0i,j3,zAt,zf (df (by omega)),zP (zu (by omega))]
 exact zU4 hl (l.length - (j+1)) z8 (j+1) j l (by omega) (by unfold z8; omega) (by omega) rfl j2.symm rfl
end
section
variable {a:zH}
theorem zZI (h:Va a) {f:Int} {p:Nat} (hp:p<a.zones.length):∀ (m n j:Nat),j+m=a.caches.length→m<n → ∃ r,zw a.caches (fun y=>zAj y (p:Int) f) n (j:Int)=some r∧(r = -1 ∨ ∃ c:Nat,r=(c:Int)∧c<a.caches.length∧f∈Lf a c p):=by
 have hcl:=h.al.c
 intro m
 induction m with
 | zero =>
  intro n j h1 h2
  obtain ⟨n,rfl⟩:=ex1 ‹_<n›
  refine ⟨-1,?_,.inl rfl⟩
  show zh _ _ _ _=_
  unfold zh
  rw [zf (df (by omega))]
  rfl
 | succ m ih =>
  intro n j h1 h2
  obtain ⟨n,rfl⟩:=ex1 ‹_<n›
  have hj:j<a.caches.length:=by omega
  have hl:=h.len _ (zAy hj)
  have hb:=(h.al.ck _ (zAy hj)).l _ (zAy (show p<(at_ a.caches (j:Int)).lists.length by omega))
  have h1c:zAj (at_ a.caches (j:Int)) (p:Int) f=some (decide (f∈at_ (at_ a.caches (j:Int)).lists (p:Int))):=by
   unfold zAj
   rw [zP (zAC (by omega)),contains hb]
   rfl
  obtain ⟨r,r1,r2⟩:=ih n (j+1) (by omega) (by omega)
  show ∃ r,zh _ _ _ _=some r∧_
  unfold zh
  rw [zz (dt (by omega)),zP (zAC hj),zP (zu (by omega))]
  show ∃ r,((zAj (at_ a.caches (j:Int)) (p:Int) f).bind _)=some r∧_
  rw [h1c,zAt]
  by_cases hm:f∈at_ (at_ a.caches (j:Int)).lists (p:Int)
  ·rw [zz (dt hm)]
   exact ⟨_,rfl,.inr ⟨j,rfl,hj,hm⟩⟩
  ·rw [zf (df hm)]
   exact ⟨r,r1,r2⟩
theorem zY7 (h:Va a) {f:Int} {p:Nat} (hp:p<a.zones.length):∀ (m n j:Nat),j+m=a.caches.length→m<n → ∃ r,zCi a (p:Int) f n (j:Int)=some r∧(r = -1 ∨ ∃ c:Nat,r=(c:Int)∧c<a.caches.length∧f∈Lf a c p):=by
 have hcl:=h.al.c
 intro m
 induction m with
 | zero =>
  intro n j h1 h2
  obtain ⟨n,rfl⟩:=ex1 ‹_<n›
  refine ⟨-1,?_,.inl rfl⟩
  show zB7 _ _ _ _ _=_
  unfold zB7
  rw [zf (df (by omega))]
  rfl
 | succ m ih =>
  intro n j h1 h2
  obtain ⟨n,rfl⟩:=ex1 ‹_<n›
  have hj:j<a.caches.length:=by omega
  have hlen:=h.len _ (zAy hj)
  have hb:=(h.al.ck _ (zAy hj)).l _ (zAy (show p<(at_ a.caches (j:Int)).lists.length by omega))
  obtain ⟨i1,i2⟩:=zXr (se:=zCi a (p:Int) f n) (f:=f) h hp hj rfl _ z8 0 (Nat.zero_add _) (by unfold z8; omega)
  rw [List.drop_zero] at i1 i2
  obtain ⟨r,r1,r2⟩:=ih n (j+1) (by omega) (by omega)
  show ∃ r,zB7 _ _ _ _ _=some r∧_
  unfold zB7
  rw [zz (dt (by omega)),z0i]
  by_cases hm:f∈at_ (at_ a.caches (j:Int)).lists (p:Int)
  ·exact ⟨_,i1 hm,.inr ⟨j,rfl,hj,hm⟩⟩
  ·exact ⟨r,(i2 hm).trans r1,r2⟩
theorem zXS (h:Va a) (hw:Wa a) {f:Int} {p:Nat} (hp:p<a.zones.length):∃ r,zCR a (p:Int) f=some r∧zKD a (p:Int) f=some r∧((r = -1 ∧ ∀ c,c<a.caches.length→f ∉ Lf a c p) ∨ ∃ c:Nat,r=(c:Int)∧c<a.caches.length∧f∈Lf a c p):=by
 have hcl:=h.al.c
 obtain ⟨r,q,s⟩:=zUH h (f:=f) hp a.caches.length z8 0 (by omega) (by unfold z8; omega)
 obtain ⟨r',q',s'⟩:=zTB h (f:=f) hp a.caches.length z8 0 (by omega) (by unfold z8; omega)
 obtain ⟨x,u,v⟩:=zZI h (f:=f) hp a.caches.length z8 0 (by omega) (by unfold z8; omega)
 obtain ⟨x',u',v'⟩:=zY7 h (f:=f) hp a.caches.length z8 0 (by omega) (by unfold z8; omega)
 have e:=Option.some.inj (q.symm.trans u)
 have e':=Option.some.inj (q'.symm.trans u')
 subst e e'
 rw [List.drop_zero] at s s'
 have hex:(∃ c,c∈a.caches∧f∈at_ c.lists (p:Int)) ↔ ∃ c,c<a.caches.length∧f∈Lf a c p:=by
  constructor
  ·rintro ⟨c,h1,h2⟩
   obtain ⟨d,hd,e⟩:=List.getElem_of_mem h1
   exact ⟨d,hd,by unfold Lf; rw [zFU hd,e]; exact h2⟩
  ·rintro ⟨c,h1,h2⟩
   exact ⟨_,zAy h1,h2⟩
 rw [hex] at s s'
 have hrr:r'=r:=by
  rcases v with v | ⟨c,v1,v2,v3⟩
  ·rcases v' with v' | ⟨c',v1',v2',v3'⟩
   ·rw [v,v']
   ·have:=s.2 ⟨c',v2',v3'⟩; omega
  ·rcases v' with v' | ⟨c',v1',v2',v3'⟩
   ·have:=s'.2 ⟨c,v2,v3⟩; omega
   ·rw [v1,v1',(hw.dis c c' p p f v2 v2' v3 v3').1]
 subst hrr
 refine ⟨r',?_,q',?_⟩
 ·unfold zCR zAV
  rw [z0i,q]
  rfl
 ·rcases v with v | v
  ·exact .inl ⟨v,fun c hc hm=>by have:=s.2 ⟨c,hc,hm⟩; omega⟩
  ·exact .inr v
theorem zZS (h:Wa a) {c p:Nat} {f:Int} (hc:c<a.caches.length) (hp:p<a.zones.length):Wa (upd a c p (wo f (Lf a c p)) (Zn a p)):=by
 have hs:∀ g,g∈wo f (Lf a c p)→g∈Lf a c p:=fun g hg=>(List.mem_filter.1 hg).1
 refine zNr h hc hp (h.zs p hp) ⟨rfl,rfl,rfl,rfl,rfl⟩ ?_ ((h.nd c p hc).sublist List.filter_sublist) (fun g hg=>h.own c p g hc (hs g hg)) (fun d g hd hdc hg=>⟨fun hm=>hdc (h.dis d c p p g hd hc hg (hs g hm)).1,(h.own d p g hd hg).2⟩)
 have h1:=h.lim c p hc
 have h2:(wo f (Lf a c p)).length≤(Lf a c p).length:=List.length_filter_le _ _
 omega
def zFY (c:Nat):Nat→Nat→zH→zH
 | 0,_,a=>a
 | m+1,p,a=>zFY c m (p+1) (zFe a c p)
def zM5:Nat→Nat→zH→zH
 | 0,_,a=>a
 | m+1,c,a=>zM5 m (c+1) (zFY c a.zones.length 0 a)
theorem zNM {c:Nat}:∀ (m p:Nat) {b:zH},Wa b→c<b.caches.length→p+m≤b.zones.length→Wa (zFY c m p b)∧(zFY c m p b).caches.length=b.caches.length∧(zFY c m p b).zones.length=b.zones.length
 | 0,_,b,h,_,_=>⟨h,rfl,rfl⟩
 | m+1,p,b,h,hc,hp=>by
  obtain ⟨_,_,d3⟩:=zJM h hc (show p<b.zones.length by omega)
  obtain ⟨r1,r2,r3⟩:=zNM (c:=c) m (p+1) d3 (by rw [zEJ.1]; exact hc) (by rw [zEJ.2]; omega)
  exact ⟨r1,r2.trans zEJ.1,r3.trans zEJ.2⟩
theorem zXo {c K:Nat} {l3:List zW} {se:Int→List Int→Int→Int→List zW→List zK→Option zH} (hl:l3.length=K) (hK:K≤1000) (hcK:c≤1000):∀ (m n i:Nat) (b:zH),i+m=K→m<n→Wa b→b.zones.length=K→c<b.caches.length →
  zDs se (c:Int) l3 n (i:Int) b.nodes b.batch b.high b.zones b.caches=se ((c+1:Nat):Int) (zFY c m i b).nodes (zFY c m i b).batch (zFY c m i b).high (zFY c m i b).zones (zFY c m i b).caches:=by
 intro m
 induction m with
 | zero =>
  intro n i b h1 h2 hw hb hc
  obtain ⟨n,rfl⟩:=ex1 ‹_<n›
  show zCJ _ _ _ _ _ _ _ _ _ _=_
  unfold zCJ zE0
  rw [zf (df (by omega)),zP (zu (by omega))]
  rfl
 | succ m ih =>
  intro n i b h1 h2 hw hb hc
  obtain ⟨n,rfl⟩:=ex1 ‹_<n›
  obtain ⟨d1,d2,d3⟩:=zJM hw hc (p:=i) (by omega)
  have q:=ih n (i+1) (zFe b c i) (by omega) (by omega) d3 (zEJ.2.trans hb) (by rw [zEJ.1]; exact hc)
  show zCJ _ _ _ _ _ _ _ _ _ _=_
  unfold zCJ
  rw [zz (dt (by omega)),show (⟨b.nodes,b.batch,b.high,b.zones,b.caches⟩:zH)=b from rfl,d1,zAt,zP (zu (by omega)),show zFY c (m+1) i b=zFY c m (i+1) (zFe b c i) from rfl]
  exact q
theorem zWw {K:Nat} {x:zH} (hx:x.caches.length=K) (hK:K≤100):∀ (m n c:Nat) (b:zH),c+m=K→m<n→Wa b→b.caches.length=K →
  zBS x n (c:Int) b.nodes b.batch b.high b.zones b.caches=some (zM5 m c b):=by
 intro m
 induction m with
 | zero =>
  intro n c b h1 h2 hw hb
  obtain ⟨n,rfl⟩:=ex1 ‹_<n›
  show zCP _ _ _ _ _ _ _ _=_
  unfold zCP
  rw [zf (df (by omega))]
  rfl
 | succ m ih =>
  intro n c b h1 h2 hw hb
  obtain ⟨n,rfl⟩:=ex1 ‹_<n›
  have hz:=hw.zn
  obtain ⟨r1,r2,r3⟩:=zNM (c:=c) b.zones.length 0 hw (by omega) (by omega)
  show zCP _ _ _ _ _ _ _ _=_
  unfold zCP
  rw [zz (dt (by omega)),z0i,zXo rfl (by omega) (by omega) b.zones.length z8 0 b (by omega) (by unfold z8; omega) hw rfl (by omega)]
  exact ih n (c+1) _ (by omega) (by omega) r1 (by omega)
end
end Go.Proofs.Ytplkliakhdkpcaa
