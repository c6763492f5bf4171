/-
  The statement AllocatorFrees.
-/
import Derived.Test.YtplkliakhdkpcaaGreatGe
import Derived.Test.YtplkliakhdkpcaaGreatRows
set_option linter.unusedVariables false
set_option linter.unusedSimpArgs false
namespace Go.Proofs.YtplkliakhdkpcaaGreat
open Go Go.RowKit Go.Wk Go.Am
section
variable {α β:Type} {b:Bool} {x y:Option α} {a:α} {f:α→Option β}
theorem zj (h:b=true):chk b x=x:=by subst h; rfl
theorem zAV (h:b=true):cnd b x y=x:=by subst h; rfl
theorem zAD (h:b=false):cnd b x y=y:=by subst h; rfl
theorem zCz:(some a).bind f=f a:=rfl
end
theorem zAG {a:Int} (h : -9223372036854775808≤a∧a≤9223372036854775807):inI a=true:=by simp [inI,h]
theorem zUZ {i:Int} {n:Nat} (h:0≤i∧i<(n:Int)):inb i n=true:=by simp [inb,h]
theorem zAT {i n:Nat} (h:i<n):inb (i:Int) n=true:=zUZ (by omega)
theorem zMd {a b:Bool} (h:b=true):(a||b)=true:=by rw [h,Bool.or_true]
theorem dt {p:Prop} [Decidable p] (h:p):decide p=true:=decide_eq_true h
theorem df {p:Prop} [Decidable p] (h:¬ p):decide p=false:=decide_eq_false h
theorem zG8 {α:Type} [Inhabited α] {l:List α} {i:Nat} (h:i<l.length):at_ l (i:Int)=l[i]:=by
  unfold at_
  rw [Int.toNat_natCast,List.getD_eq_getElem?_getD,List.getElem?_eq_getElem h]
  rfl
theorem zU1 (i j:Nat):((i:Int)+(j:Int)).fdiv (2 ^ (1:Int).toNat)=(((i+j)/2:Nat):Int):=by
  show ((i:Int)+(j:Int)).fdiv 2=_
  rw [Int.fdiv_eq_ediv_of_nonneg _ (by omega)]
  omega
theorem zRv (x y:Int):zHQ x y=some (decide (x<y)):=by
  unfold zHQ zD9
  simp [cnd]
theorem zSb {l:List Int} {t:Int} {i:Nat} (hs:Srt l) (hi:i≤l.length) (h1:∀ p x,p<i→l[p]?=some x→x<t) (h2:∀ p x,i≤p→l[p]?=some x→t≤x) :
    zAy l t (i:Int)=some ((lb l t:Int),decide (t∈l)):=by
  rw [zVR hi h1 h2]
  unfold zAy zEY
  rcases Nat.lt_or_ge i l.length with h | h
  · have hx:l[i]?=some l[i]:=List.getElem?_eq_getElem h
    have hb:inb (i:Int) l.length=true:=zAT h
    have hd:decide ((i:Int)<(l.length:Int))=true:=dt (by omega)
    have hm:decide (t∈l)=decide (l[i]=t):=by rw [decide_eq_decide]; exact zUM hs h1 h2 hx
    rw [zj (zMd hb),zj (zMd hb),zG8 h,hd,hm]
    cases hq:decide (l[i]=t) <;> simp [cnd]
  · have hd:decide ((i:Int)<(l.length:Int))=false:=df (by omega)
    have hm:decide (t∈l)=false:=df (fun hh=>(zVU h1 (by omega)).1 hh)
    rw [hd,hm]
    rfl
theorem zT4 {l:List Int} {t:Int} (hs:Srt l) (hl:l.length≤1000000):∀ (m n i j:Nat),j - i≤m→m<n→i≤j→j≤l.length→(∀ p x,p<i→l[p]?=some x→x<t)→(∀ p x,j≤p→l[p]?=some x→t≤x) →
    zAv l t n (i:Int) (j:Int)=some ((lb l t:Int),decide (t∈l)):=by
  intro m
  induction m with
  | zero =>
    intro n i j h1 h2 h3 h4 ha hb
    obtain ⟨n,rfl⟩:∃ k,n=k+1:=⟨n - 1,by omega⟩
    show zAZ _ _ _ _ _=_
    unfold zAZ
    rw [zAD (df (by omega))]
    have:j=i:=by omega
    subst this
    exact zSb hs h4 ha hb
  | succ m ih =>
    intro n i j h1 h2 h3 h4 ha hb
    obtain ⟨n,rfl⟩:∃ k,n=k+1:=⟨n - 1,by omega⟩
    show zAZ _ _ _ _ _=_
    unfold zAZ
    by_cases hij:i<j
    · have hm:(i+j)/2<l.length:=by omega
      rw [zAV (dt (by omega)),zU1,zj (zAG (by omega)),zj (dt (zIP (by omega) (by omega))),zj (dt (zTJ (by omega) (by omega))),zj (zAT hm),zRv,zCz,zG8 hm]
      have hx:l[(i+j)/2]?=some l[(i+j)/2]:=List.getElem?_eq_getElem hm
      by_cases hlt:l[(i+j)/2]<t
      · rw [zAV (dt hlt),zj (zAG (by omega))]
        exact ih n ((i+j)/2+1) j (by omega) (by omega) (by omega) h4 (zSH hs hx hlt) hb
      · rw [zAD (df hlt)]
        exact ih n i ((i+j)/2) (by omega) (by omega) (by omega) (by omega) ha (zR1 hs hx hlt)
    · rw [zAD (df (by omega))]
      have:j=i:=by omega
      subst this
      exact zSb hs h4 ha hb
theorem zSE {l:List Int} {t:Int} (hs:Srt l) (hl:l.length≤1000000):zAW l t=some ((lb l t:Int),decide (t∈l)) :=
  zT4 hs hl l.length z9 0 l.length (by omega) (by unfold z9; omega) (by omega) (by omega) (fun p x hp=>by omega) (fun p x hp hx=>by
    rw [List.getElem?_eq_none (by omega)] at hx; cases hx)
theorem zJe {k:Nat} (h:k≤5):(1:Int)*2 ^ (k:Int).toNat=2 ^ k∧(1:Int)≤2 ^ k∧(2:Int) ^ k≤32:=by
  rw [Int.one_mul,Int.toNat_natCast]
  refine ⟨rfl,?_⟩
  have:k=0∨k=1∨k=2∨k=3∨k=4∨k=5:=by omega
  rcases this with rfl | rfl | rfl | rfl | rfl | rfl <;> decide
theorem zNz {k:Nat} (h:k≤5):zMx (k:Int)=true:=by
  unfold zMx
  rw [dt (by omega),dt (by omega)]
  rfl
theorem zJr {z:zp} {f:Int} {k:Nat} (hr:ranges z=true) (hk:k≤5):zB7 z f (k:Int)=some (inside z f k):=by
  have hb:=zBs hr
  obtain ⟨e,h1,h2⟩:=zJe hk
  unfold zB7 inside
  rw [e,zj (zNz hk),zj (zAG (by omega)),zj (zMd (by rw [df (by omega)]; rfl)),zj (zMd (zAG (by omega))),zj (zMd (zAG (by omega)))]
theorem zTg:∀ k:Fin 4, ∀ x:Fin 256,zLO .xor .i64 (x.val:Int) (2 ^ k.val)=((x.val ^^^ 2 ^ k.val:Nat):Int):=by decide +kernel
theorem zSq {f:Int} {k:Nat} (h0:0≤f) (h1:f<256) (hk:k<4):zLO .xor .i64 f (2 ^ k)=bud f k:=by
  obtain ⟨m,rfl⟩:=Int.eq_ofNat_of_zero_le h0
  exact zTg ⟨k,hk⟩ ⟨m,by omega⟩
theorem zKe {l:List (List Int)} (hl:l.length=5) {i:Nat} (hi:i<5) (x:List Int):zDo 5 [] l i x=l.set i x:=by
  match l,hl with
  | [a,b,c,d,e],_ =>
    have:i=0∨i=1∨i=2∨i=3∨i=4:=by omega
    rcases this with rfl | rfl | rfl | rfl | rfl <;> rfl
theorem zIY {l:List (List Int)} {i:Nat} (hi:i<l.length):l.set i (l.getD i [])=l:=by
  apply List.ext_getElem?
  intro j
  rw [List.getElem?_set]
  split
  · rename_i h
    subst h
    simp [hi]
  · rfl
theorem zQO.srt' {z:zp} (h:zQO z) (k:Nat):Srt (lst z k):=by
  rcases Nat.lt_or_ge k 5 with hk | hk
  · exact h.srt k _ (zJI h.len hk)
  · rw [zKz h.len hk]; exact Srt.nil
theorem zQO.len' {z:zp} (h:zQO z) (k:Nat):(lst z k).length≤256:=by
  rcases Nat.lt_or_ge k 5 with hk | hk
  · exact h.lenl (zJI h.len hk)
  · rw [zKz h.len hk]; simp
theorem zPA {z:zp} (h:zQO z) {f:Int} {k:Nat} (hk:k<5) {a:zp} (ha:zIT a z):zF7 a f (k:Int) z.free=some (zRo z f k):=by
  unfold zF7
  have e:z.free.getD (k:Int).toNat []=lst z k:=rfl
  have h5:=h.len
  rw [zj (zAT hk),zj (dt (by omega)),e,zSE (h.srt' k) (by have:=h.len' k; omega),zCz]
  have hok:zQQ (lst z k) (lb (lst z k) f:Int)=true:=by
    have h1:=zUx (lst z k) f
    have h2:=h.len' k
    unfold zQQ
    rw [dt (by omega),dt (by omega),dt (by omega)]
    rfl
  rw [zj hok]
  show some (zp.mk _ _ _ _ _ _)=_
  rw [zKe h5 (by omega),ha.1,ha.2.1,ha.2.2.1,ha.2.2.2.1,ha.2.2.2.2]
  rfl
theorem zSA:∀ (m n:Nat) {z a:zp} {f:Int} {k:Nat},m+k=4→m<n→zQO z→zIT a z→0≤f→f<256 →
    zHS a n f (k:Int) z.free=some (zMk m z f k):=by
  intro m
  induction m with
  | zero =>
    intro n z a f k hk hn h ha h0 h1
    obtain ⟨n,rfl⟩:∃ q,n=q+1:=⟨n - 1,by omega⟩
    show zE7 _ _ _ _ _=_
    unfold zE7
    rw [zAD (df (by omega))]
    exact zPA h (by omega) ha
  | succ m ih =>
    intro n z a f k hk hn h ha h0 h1
    obtain ⟨n,rfl⟩:∃ q,n=q+1:=⟨n - 1,by omega⟩
    show zE7 _ _ _ _ _=_
    unfold zE7
    have e:z.free.getD (k:Int).toNat []=lst z k:=rfl
    have h5:=h.len
    obtain ⟨e1,p1,p2⟩:=zJe (k:=k) (by omega)
    have e3:zDo 5 [] z.free (k:Int).toNat (lst z k)=z.free:=by
      rw [zKe h5 (by omega)]
      exact zIY (by omega)
    have e4:(⟨a.node,a.kind,a.start,a.count,a.min,z.free⟩:zp)=z:=by rw [ha.1,ha.2.1,ha.2.2.1,ha.2.2.2.1,ha.2.2.2.2]
    rw [zAV (dt (by omega)),zj (zNz (by omega)),e1,zj (zAG (by omega)),zj (zAT (by omega)),zj (dt (by omega)),e,zSq h0 h1 (by omega),zSE (h.srt' k) (by have:=h.len' k; omega),zCz]
    rw [zj (zMd (zAG (by omega))),e3,e4]
    have hin:zB7 z (min f (bud f k)) ((k:Int)+1)=some (inside z (min f (bud f k)) (k+1)):=zJr (k:=k+1) h.ranges (by omega)
    rw [hin]
    conv=>rhs; unfold zMk
    by_cases hm:bud f k∈lst z k
    · have hb:=h.bd k _ (zJI h5 (by omega)) _ hm
      show ((cnd (!!decide (bud f k∈lst z k)) _ _).bind _)=_
      rw [dt hm,Bool.not_true,Bool.not_false,zAV rfl,zCz]
      by_cases hi:inside z (min f (bud f k)) (k+1)=true
      · have hj:zLm z f k=true:=by unfold zLm; rw [hi,dt hm]; rfl
        rw [if_pos hj,hi]
        refine (zAD (by rfl)).trans ?_
        have hdel:zRK (z.free.getD (k:Int).toNat []) (lb (lst z k) (bud f k):Int) ((lb (lst z k) (bud f k):Int)+1)=true:=by
          have:=zVW hm
          rw [e]
          unfold zRK
          rw [dt (by omega),dt (by omega),dt rfl]
          rfl
        rw [zj (zAG (by have:=zUx (lst z k) (bud f k); have:=h.len' k; omega)),zj hdel,zj (zAG (by omega))]
        have hz:(zPl z (bud f k) k).free=zDo 5 [] z.free (k:Int).toNat (zSn (z.free.getD (k:Int).toNat []) (lb (lst z k) (bud f k):Int)):=by
          rw [zKe h5 (by omega)]
          rfl
        rw [← hz]
        exact ih n (k:=k+1) (by omega) (by omega) (h.del (zJI h5 (by omega))) (show zIT a (zPl z (bud f k) k) from ha) (by omega) (by omega)
      · have hj:¬ zLm z f k=true:=by unfold zLm; rw [Bool.and_eq_true]; exact fun q=>hi q.2
        have hi':inside z (min f (bud f k)) (k+1)=false:=by simpa using hi
        rw [if_neg hj,hi']
        refine (zAV (by rfl)).trans ?_
        exact zPA h (by omega) ha
    · have hj:¬ zLm z f k=true:=by unfold zLm; rw [Bool.and_eq_true,decide_eq_true_eq]; exact fun q=>hm q.1
      show ((cnd (!!decide (bud f k∈lst z k)) _ _).bind _)=_
      rw [if_neg hj,df hm,Bool.not_false,Bool.not_true,zAD rfl,zCz]
      refine (zAV (by rfl)).trans ?_
      exact zPA h (by omega) ha
theorem zU7 {z:zp} {f:Int} {k:Nat} (h:zQO z) (hk:k≤4) (h0:0≤f) (h1:f<256):zJC z f (k:Int)=some (zMk (4 - k) z f k) :=
  zSA (4 - k) z9 (by omega) (by unfold z9; omega) h ⟨rfl,rfl,rfl,rfl,rfl⟩ h0 h1
theorem zRG (z:zp) (h:inI z.start=true):zF5 z=some (ranges z):=by
  unfold zF5 ranges
  by_cases hs:0≤z.start∧z.start<256
  · rw [zj (zMd (zAG (by omega)))]
  · have:(((((((decide (0≤z.node))&&(decide (z.node<4)))&&((decide (z.kind=0))||(decide (z.kind=1))))&&(decide (0≤z.start)))&&(decide (z.start<256)))&&(decide (1≤z.count))))=false:=by
      rcases Classical.not_and_iff_not_or_not.1 hs with hs | hs <;> simp [hs]
    rw [this]
    rfl
theorem zP9 (z:zp):zGa z=some (ranges z):=by
  unfold zGa
  by_cases h:(((decide (z.node<0))||(decide (4≤z.node)))||((!decide (z.kind=0))&&(!decide (z.kind=1))))=true
  · rw [zAV h]
    have:ranges z=false:=by
      cases hr:ranges z with
      | false=>rfl
      | true =>
        have hb:=zBs hr
        simp at h
        omega
    rw [this]
  · have h':=Bool.eq_false_iff.2 h
    rw [zAD h']
    have hc:(!(((decide (0≤z.start))&&(decide (1≤z.count)))&&(decide (z.count≤256)))||inI (256 - z.count))=true:=by
      by_cases hq:1≤z.count∧z.count≤256
      · exact zMd (zAG (by omega))
      · have:(decide (0≤z.start)&&decide (1≤z.count)&&decide (z.count≤256))=false:=by
          rcases Classical.not_and_iff_not_or_not.1 hq with hq | hq <;> simp [hq]
        rw [this]
        rfl
    rw [zj hc]
    congr 1
    rw [Bool.eq_iff_iff]
    unfold ranges
    simp at h ⊢
    omega
theorem zPh {z:zp} {f:Int} {k:Nat} (hr:ranges z=true) (hk:k≤4) (h0:z.start≤f) (h1:f<z.start+z.count):zCG z f (k:Int)=some (inside z f k):=by
  have hb:=zBs hr
  obtain ⟨e,p1,p2⟩:=zJe (k:=k) (by omega)
  unfold zCG
  rw [zj (zMd (zAG (by omega))),df (p:=(k:Int)<0) (by omega),df (p:=4<(k:Int)) (by omega),df (p:=f<z.start) (by omega),df (p:=z.start+z.count≤f) (by omega)]
  refine (zAD (by rfl)).trans ?_
  rw [e,zj (dt (zIP (by omega) (by omega))),zj (zNz (by omega)),zj (zAG (by omega)),zj (by rw [df (by omega)]; rfl),zj (zMd (zAG (by omega))),zj (zMd (zAG (by omega)))]
  congr 1
  unfold inside
  rw [Bool.eq_iff_iff]
  simp
  omega
theorem zLs {k:Nat} (h:k≤5):(2:Int) ^ k=((2 ^ k:Nat):Int):=by norm_cast
theorem zSS {l:List Int} {f:Int→Option Bool} {p:Int→Bool} (hf:∀ x,f x=some (p x)) (hl:l.length≤1099511627776):∀ (m n i:Nat),i+m=l.length→m<n → ∃ r,zAY l f n (i:Int)=some r∧decide (0≤r)=(l.drop i).any p:=by
  intro m
  induction m with
  | zero =>
    intro n i h1 h2
    obtain ⟨n,rfl⟩:∃ q,n=q+1:=⟨n - 1,by omega⟩
    refine ⟨-1,?_,?_⟩
    · show zAh _ _ _ _=_
      unfold zAh
      rw [zAD (df (by omega))]
      rfl
    · rw [List.drop_eq_nil_of_le (by omega)]
      rfl
  | succ m ih =>
    intro n i h1 h2
    obtain ⟨n,rfl⟩:∃ q,n=q+1:=⟨n - 1,by omega⟩
    have hi:i<l.length:=by omega
    have hs:zAY l f (n+1) (i:Int)=cnd (p l[i]) (some (i:Int)) (zAY l f n ((i+1:Nat):Int)):=by
      show zAh _ _ _ _=_
      unfold zAh
      rw [zAV (dt (by omega)),zj (zAT hi),hf,zCz,zG8 hi,zj (zAG (by omega))]
      rfl
    rw [hs,List.drop_eq_getElem_cons hi,List.any_cons]
    cases hp:p l[i] with
    | true=>exact ⟨i,rfl,by rw [dt (by omega)]; rfl⟩
    | false=>simpa [cnd] using ih n (i+1) (by omega) (by omega)
def zMa (n:Int):Bool:=decide (n<0)||decide (4≤n)
def zIU (k b h z:Int):Bool:=decide (k<1)||decide (4<k)||decide (64<h)||decide (b<1)||decide (h<b)||decide (z<1)||decide (6<z)
def zSR (nodes:List Int) (b h z:Int):Bool := !zIU (nodes.length:Int) b h z && !nodes.any zMa
theorem zQK {a:zJ} (hl:a.nodes.length≤1099511627776):zCs a=some (zSR a.nodes a.batch a.high (a.zones.length:Int)):=by
  unfold zCs zSR
  show cnd (zIU (a.nodes.length:Int) a.batch a.high (a.zones.length:Int)) _ _=_
  cases zIU (a.nodes.length:Int) a.batch a.high (a.zones.length:Int) with
  | true=>rfl
  | false =>
    obtain ⟨r,h1,h2⟩:=zSS (l:=a.nodes) (f:=fun y=>zCv y) (p:=zMa) (fun x=>rfl) hl a.nodes.length z9 0 (by omega) (by unfold z9; omega)
    unfold zBd zCL
    show (((zAY a.nodes (fun y=>zCv y) z9 ((0:Nat):Int)).bind _).bind _)=_
    rw [h1,zCz,zCz,h2]
    rfl
theorem zQD {l:List Int} (hl:l.length≤1099511627776):∀ (m n i:Nat),i+m=l.length→m<n→zEX l n (i:Int)=some (!(l.drop i).any zMa):=by
  intro m
  induction m with
  | zero =>
    intro n i h1 h2
    obtain ⟨n,rfl⟩:∃ q,n=q+1:=⟨n - 1,by omega⟩
    show zCY _ _ _=_
    unfold zCY
    rw [zAD (df (by omega)),List.drop_eq_nil_of_le (by omega)]
    rfl
  | succ m ih =>
    intro n i h1 h2
    obtain ⟨n,rfl⟩:∃ q,n=q+1:=⟨n - 1,by omega⟩
    have hi:i<l.length:=by omega
    show zCY _ _ _=_
    unfold zCY
    rw [zAV (dt (by omega)),zj (zAT hi),zG8 hi,zj (zAG (by omega)),List.drop_eq_getElem_cons hi,List.any_cons]
    show cnd (zMa l[i]) _ _=_
    cases zMa l[i] with
    | true=>rfl
    | false=>exact ih n (i+1) (by omega) (by omega)
theorem zRx {nodes:List Int} {b h z:Int} (hl:nodes.length≤1099511627776):zGu nodes b h z=some (zSR nodes b h z):=by
  unfold zGu zSR
  have e:(((((((decide ((nodes.length:Int)<1))||(decide (4<(nodes.length:Int))))||(decide (b<1)))||(decide (h<b)))||(decide (64<h)))||(decide (z<1)))||(decide (6<z)))=zIU (nodes.length:Int) b h z:=by
    rw [Bool.eq_iff_iff]
    unfold zIU
    simp only [Bool.or_eq_true,decide_eq_true_eq]
    omega
  rw [e]
  cases zIU (nodes.length:Int) b h z with
  | true=>rfl
  | false=>exact zQD hl nodes.length z9 0 (by omega) (by unfold z9; omega)
set_option maxRecDepth 100000 in
theorem zTj:zIC=some true:=by kernel_rfl
end Go.Proofs.YtplkliakhdkpcaaGreat
namespace Go.Proofs.YtplkliakhdkpcaaGreat
open Go Go.RowKit Go.Wk Go.Am
theorem zSP {s:List Int} {f k:Nat} (hk:k≤4) (hs:f+2 ^ k≤s.length) (hl:s.length=256):∀ (m n i:Nat),i+m=f+2 ^ k→m<n→f≤i→(∀ g,f≤g→g<i→s.getD g 0≠0) →
    zHR s (f:Int) (k:Int) n (i:Int)=some (decide (∀ g,g<2 ^ k→s.getD (f+g) 0≠0)):=by
  intro m
  obtain ⟨e,p1,p2⟩:=zJe (k:=k) (by omega)
  have pn:=zLs (k:=k) (by omega)
  induction m with
  | zero =>
    intro n i h1 h2 h3 h4
    obtain ⟨n,rfl⟩:∃ q,n=q+1:=⟨n - 1,by omega⟩
    show zE9 _ _ _ _ _=_
    unfold zE9
    rw [e,zj (dt (zIP (by omega) (by omega))),zj (zNz (by omega)),zj (zAG (by omega)),zj (zAG (by omega)),zAD (df (by omega))]
    rw [dt (p := ∀ g,g<2 ^ k→s.getD (f+g) 0≠0) (fun g hg=>h4 (f+g) (by omega) (by omega))]
    rfl
  | succ m ih =>
    intro n i h1 h2 h3 h4
    obtain ⟨n,rfl⟩:∃ q,n=q+1:=⟨n - 1,by omega⟩
    show zE9 _ _ _ _ _=_
    unfold zE9
    have hi:i<s.length:=by omega
    have hg:s.getD i 0=s[i]:=by rw [List.getD_eq_getElem?_getD,List.getElem?_eq_getElem hi]; rfl
    rw [e,zj (dt (zIP (by omega) (by omega))),zj (zNz (by omega)),zj (zAG (by omega)),zj (zAG (by omega)),zAV (dt (by omega)),zj (zAT hi),zG8 hi]
    by_cases hz:s[i]=0
    · rw [zAV (dt hz),df]
      intro hh
      have:=hh (i - f) (by omega)
      rw [show f+(i - f)=i by omega,hg] at this
      exact this hz
    · rw [zAD (df hz),zj (zAG (by omega))]
      refine ih n (i+1) (by omega) (by omega) (by omega) (fun g h5 h6 => ?_)
      by_cases hgi:g=i
      · rw [hgi,hg]; exact hz
      · exact h4 g h5 (by omega)
theorem zUS {s:List Int} {f k:Nat} (hk:k≤4) (hs:f+2 ^ k≤s.length) (hl:s.length=256):zKs s (f:Int) (k:Int)=some (decide (∀ g,g<2 ^ k→s.getD (f+g) 0≠0)) :=
  zSP hk hs hl (2 ^ k) z9 f (by omega) (by have:=(zJe (k:=k) (by omega)).2.2; have:=zLs (k:=k) (by omega); unfold z9; omega) (by omega) (fun g h1 h2=>by omega)
def zl (z:zp) (l:List (List Int)):zp:={ z with free:=l }
def zer (l:List Int) (i:Nat):Nat→List Int
  | 0=>l
  | m+1=>zer (l.set i 0) (i+1) m
theorem zQX:∀ (m i:Nat) (l:List Int),(zer l i m).length=l.length
  | 0,_,_=>rfl
  | m+1,i,l=>by unfold zer; rw [zQX]; exact List.length_set ..
theorem zPo (l:List Int) (i g:Nat) (h:i<l.length) (x:Int):(l.set i x).getD g 0=if g=i then x else l.getD g 0:=by
  simp only [List.getD_eq_getElem?_getD,List.getElem?_set]
  by_cases hg:i=g
  · rw [if_pos hg,if_pos h,if_pos hg.symm]; rfl
  · rw [if_neg hg,if_neg (fun e=>hg e.symm)]
theorem zRV:∀ (m i:Nat) (l:List Int) (g:Nat),i+m≤l.length→(zer l i m).getD g 0=if i≤g∧g<i+m then 0 else l.getD g 0
  | 0,i,l,g,_=>by rw [if_neg (by omega)]; rfl
  | m+1,i,l,g,h=>by
    unfold zer
    rw [zRV m (i+1) _ g (by rw [List.length_set]; omega),zPo l i g (by omega)]
    by_cases h1:i+1≤g∧g<i+1+m
    · rw [if_pos h1,if_pos (by omega)]
    · rw [if_neg h1]
      by_cases h2:g=i
      · rw [if_pos h2,if_pos (by omega)]
      · rw [if_neg h2,if_neg (by omega)]
theorem zSx {se:Int→(List (List Int))→(List Int)→Option zp} {k f:Nat} {l:List (List Int)} (hk:k≤4) (h5:l.length=5) (hf:f+2 ^ k≤256):∀ (m n i:Nat) (s:List Int),i+m=f+2 ^ k→m<n→s.length=256 →
    zGE se (k:Int) (f:Int) l n (i:Int) s=zEV se (f:Int) (l.set k (l.getD k []++[(f:Int)])) (zer s i m):=by
  intro m
  obtain ⟨e,p1,p2⟩:=zJe (k:=k) (by omega)
  have pn:=zLs (k:=k) (by omega)
  induction m with
  | zero =>
    intro n i s h1 h2 h3
    obtain ⟨n,rfl⟩:∃ q,n=q+1:=⟨n - 1,by omega⟩
    show zEF _ _ _ _ _ _ _=_
    unfold zEF
    rw [e,zj (dt (zIP (by omega) (by omega))),zj (zNz (by omega)),zj (zAG (by omega)),zj (zAG (by omega)),zAD (df (by omega)),zKe h5 (by omega)]
    rfl
  | succ m ih =>
    intro n i s h1 h2 h3
    obtain ⟨n,rfl⟩:∃ q,n=q+1:=⟨n - 1,by omega⟩
    show zEF _ _ _ _ _ _ _=_
    unfold zEF
    rw [e,zj (dt (zIP (by omega) (by omega))),zj (zNz (by omega)),zj (zAG (by omega)),zj (zAG (by omega)),zAV (dt (by omega)),zj (zAT (by omega)),zj (zAG (by omega))]
    exact ih n (i+1) (s.set i 0) (by omega) (by omega) (by rw [List.length_set]; exact h3)
structure WI (z:zp) (s:List Int) (D:Nat→Int→Prop) (l:List (List Int)) (left:List Int):Prop where
  len:l.length=5
  llen:left.length=256
  srt:∀ k,Srt (lst (zl z l) k)
  ins:∀ k x,x∈lst (zl z l) k→inside z x k=true∧D k x
  dis:∀ k x j y g,x∈lst (zl z l) k→y∈lst (zl z l) j→x≤g→g<x+2 ^ k→y≤g→g<y+2 ^ j→k=j∧x=y
  lft:∀ g:Nat,g<256→(left.getD g 0≠0↔s.getD g 0≠0 ∧ ¬ cov (zl z l) g)
  sub:∀ g,cov (zl z l) g→s.getD g.toNat 0≠0
  max:∀ j x,D j x→j≤4→inside z x j=true → ∃ g,x≤g∧g<x+2 ^ j∧(s.getD g.toNat 0=0 ∨ ∃ i y,j≤i∧y∈lst (zl z l) i∧y≤g∧g<y+2 ^ i)
section
variable {z:zp} {s left left':List Int} {D D':Nat→Int→Prop} {l:List (List Int)} {k:Nat} {f:Int}
theorem WI.mono (h:WI z s D l left) (h1:∀ j x,inside z x j=true→D j x→D' j x) (h2:∀ j x,inside z x j=true→j≤4→D' j x→D j x):WI z s D' l left :=
  ⟨h.len,h.llen,h.srt,fun k x hx=>⟨(h.ins k x hx).1,h1 k x (h.ins k x hx).1 (h.ins k x hx).2⟩,h.dis,h.lft,h.sub,fun j x hd hj hi=>h.max j x (h2 j x hi hj hd) hj hi⟩
theorem WI.skip (h:WI z s D l left) (hr:ranges z=true) (hk:k≤4) (hD:∀ j x,D j x→k≤j) (hn:inside z f k=true → ∃ g,f≤g∧g<f+2 ^ k∧left.getD g.toNat 0=0):WI z s (fun j x=>D j x∨(j=k∧x=f)) l left:=by
  refine ⟨h.len,h.llen,h.srt,fun k x hx=>⟨(h.ins k x hx).1,.inl (h.ins k x hx).2⟩,h.dis,h.lft,h.sub,?_⟩
  rintro j x (hd | ⟨rfl,rfl⟩) hj hi
  · exact h.max j x hd hj hi
  · obtain ⟨g,g1,g2,g3⟩:=hn hi
    have hb:=zAe hr hi
    refine ⟨g,g1,g2,?_⟩
    have hl:=h.lft g.toNat (by omega)
    rw [Int.toNat_of_nonneg (by omega)] at hl
    by_cases hs:s.getD g.toNat 0=0
    · exact .inl hs
    · have hc:cov (zl z l) g:=by
        refine Classical.byContradiction fun hc => ?_
        exact hl.2 ⟨hs,hc⟩ g3
      obtain ⟨i,y,hy,y1,y2⟩:=hc
      exact .inr ⟨i,y,hD _ _ (h.ins i y hy).2,hy,y1,y2⟩
theorem WI.add (h:WI z s D l left) (hr:ranges z=true) (hk:k≤4) (hi:inside z f k=true) (hD:∀ j x,D j x→k<j∨(j=k∧x<f)) (hall:∀ g:Nat,f≤g→(g:Int)<f+2 ^ k→left.getD g 0≠0)
    (hl':left'.length=256) (hg':∀ g:Nat,left'.getD g 0=if f≤(g:Int)∧(g:Int)<f+2 ^ k then 0 else left.getD g 0):WI z s (fun j x=>D j x∨(j=k∧x=f)) (l.set k (l.getD k []++[f])) left':=by
  have hb:=zAe hr hi
  have hls:∀ j,lst (zl z (l.set k (l.getD k []++[f]))) j=if j=k then lst (zl z l) k++[f] else lst (zl z l) j:=fun j=>zO5 (z:=zl z l) h.len (by omega)
  have hm:∀ j y,y∈lst (zl z (l.set k (l.getD k []++[f]))) j↔y∈lst (zl z l) j∨(j=k∧y=f):=by
    intro j y
    rw [hls]
    by_cases hjk:j=k
    · subst hjk
      rw [if_pos rfl,List.mem_append]
      simp
    · rw [if_neg hjk]
      simp [hjk]
  have hf:∀ g,f≤g→g<f+2 ^ k→s.getD g.toNat 0≠0 ∧ ¬ cov (zl z l) g:=by
    intro g g1 g2
    have e:((g.toNat:Nat):Int)=g:=Int.toNat_of_nonneg (by omega)
    have:=(h.lft g.toNat (by omega)).1 (hall g.toNat (by omega) (by omega))
    rw [e] at this
    exact this
  have hc:∀ g,cov (zl z (l.set k (l.getD k []++[f]))) g↔cov (zl z l) g∨(f≤g∧g<f+2 ^ k):=by
    intro g
    constructor
    · rintro ⟨j,y,hy,h1,h2⟩
      rcases (hm j y).1 hy with hy | ⟨rfl,rfl⟩
      · exact .inl ⟨j,y,hy,h1,h2⟩
      · exact .inr ⟨h1,h2⟩
    · rintro (⟨j,y,hy,h1,h2⟩ | ⟨h1,h2⟩)
      · exact ⟨j,y,(hm j y).2 (.inl hy),h1,h2⟩
      · exact ⟨k,f,(hm k f).2 (.inr ⟨rfl,rfl⟩),h1,h2⟩
  refine ⟨by simpa using h.len,hl',fun j => ?_,fun j y hy => ?_,fun j y i u g hy hu h1 h2 h3 h4 => ?_,fun g hg => ?_,fun g hg => ?_,fun j x hd hj hij => ?_⟩
  · rw [hls]
    split
    · refine List.pairwise_append.2 ⟨h.srt k,List.pairwise_singleton .., fun a ha b hb' => ?_⟩
      simp only [List.mem_singleton] at hb'
      subst hb'
      rcases hD _ _ (h.ins k a ha).2 with hq | hq <;> omega
    · exact h.srt j
  · rcases (hm j y).1 hy with hy | ⟨rfl,rfl⟩
    · exact ⟨(h.ins j y hy).1,.inl (h.ins j y hy).2⟩
    · exact ⟨hi,.inr ⟨rfl,rfl⟩⟩
  · rcases (hm j y).1 hy with hy' | ⟨e1,e2⟩
    · rcases (hm i u).1 hu with hu' | ⟨e3,e4⟩
      · exact h.dis j y i u g hy' hu' h1 h2 h3 h4
      · rw [e4] at h3 h4
        rw [e3] at h4
        exact absurd ⟨j,y,hy',h1,h2⟩ (hf g h3 h4).2
    · rw [e2] at h1 h2
      rw [e1] at h2
      rcases (hm i u).1 hu with hu' | ⟨e3,e4⟩
      · exact absurd ⟨i,u,hu',h3,h4⟩ (hf g h1 h2).2
      · exact ⟨e1.trans e3.symm,e2.trans e4.symm⟩
  · rw [hg',hc]
    by_cases hq:f≤(g:Int)∧(g:Int)<f+2 ^ k
    · rw [if_pos hq]
      simp [hq]
    · rw [if_neg hq,h.lft g hg]
      simp only [hq,or_false]
  · rcases (hc g).1 hg with hg | hg
    · exact h.sub g hg
    · exact (hf g hg.1 hg.2).1
  · rcases hd with hd | ⟨rfl,rfl⟩
    · obtain ⟨g,g1,g2,g3⟩:=h.max j x hd hj hij
      refine ⟨g,g1,g2,g3.imp id ?_⟩
      rintro ⟨i,y,hy,hy2,hy3⟩
      exact ⟨i,y,hy,(hm i y).2 (.inl hy2),hy3⟩
    · have hp:=zJv j
      exact ⟨x,Int.le_refl _,by omega,.inr ⟨j,x,Nat.le_refl _,(hm j x).2 (.inr ⟨rfl,rfl⟩),Int.le_refl _,by omega⟩⟩
theorem WI.len' (h:WI z s D l left) (hr:ranges z=true) (k:Nat):(lst (zl z l) k).length≤256:=by
  refine zRL (h.srt k) (fun f hf => ?_)
  have:=zAe hr (h.ins k f hf).1
  have:=zJv k
  omega
theorem WI.ok (h:WI z s (fun _ _=>True) l left) (hr:ranges z=true):OkZ (zl z l) ∧ ∀ g,cov (zl z l) g↔z.start≤g∧g<z.start+z.count∧s.getD g.toNat 0≠0:=by
  refine ⟨⟨hr,h.len,h.srt,fun k x hx=>(h.ins k x hx).1,h.dis,fun k x hk hx hb => ?_⟩,fun g=>⟨fun hg => ?_,fun hg => ?_⟩⟩
  · refine Bool.eq_false_iff.2 fun hi => ?_
    have hbx:=zAe hr (h.ins k x hx).1
    have hax:=(zBW hr).1 (h.ins k x hx).1
    have hp:=zJv k
    have hps:=zNc k
    obtain ⟨g,g1,g2,g3⟩:=h.max (k+1) _ trivial (by omega) hi
    have hcov:(x≤g∧g<x+2 ^ k)∨(bud x k≤g∧g<bud x k+2 ^ k):=by
      clear g3
      rcases zMt hk hbx.1 (by omega) hax.2.1 with ⟨_,e⟩ | ⟨_,e⟩ <;> rw [e] at g1 g2 ⊢ <;> omega
    have hno:∀ y,y∈lst (zl z l) k→y≤g→g<y+2 ^ k→False:=by
      intro y hy y1 y2
      rcases g3 with g3 | ⟨i,u,hu,hu1,hu2,hu3⟩
      · exact h.sub g ⟨k,y,hy,y1,y2⟩ g3
      · have:=(h.dis k y i u g hy hu1 y1 y2 hu2 hu3).1
        omega
    rcases hcov with hq | hq
    · exact hno x hx hq.1 hq.2
    · exact hno _ hb hq.1 hq.2
  · obtain ⟨k,x,hx,h1,h2⟩:=hg
    have:=zAe hr (h.ins k x hx).1
    exact ⟨by omega,by omega,h.sub g ⟨k,x,hx,h1,h2⟩⟩
  · have hb:=zBs hr
    obtain ⟨g',g1,g2,g3⟩:=h.max 0 g trivial (by omega) ((zBW hr).2 (by rw [pw0]; omega))
    rw [pw0] at g2
    have e:g'=g:=by omega
    subst e
    rcases g3 with g3 | ⟨i,y,_,hy,hy2,hy3⟩
    · exact absurd g3 hg.2.2
    · exact ⟨i,y,hy,hy2,hy3⟩
end
section
variable {z:zp} {s:List Int}
def Nx (z:zp) (s:List Int) (k:Nat) (se:Int→(List (List Int))→(List Int)→Option zp):Prop :=
  ∀ l left,WI z s (fun j _=>k≤j) l left → ∃ l',se ((k:Int) - 1) l left=some (zl z l') ∧ ∃ left',WI z s (fun _ _=>True) l' left'
theorem zS1 (hr:ranges z=true) {k:Nat} {se:Int→(List (List Int))→(List Int)→Option zp} (hk:k≤4) (hn:Nx z s k se):∀ (m n f:Nat) (l:List (List Int)) (left:List Int),(f:Int)+m=z.start+z.count→m<n→z.start≤f →
    WI z s (fun j x=>k<j∨(j=k∧x<f)) l left → ∃ l',zCP se z (k:Int) n (f:Int) l left=some (zl z l') ∧ ∃ left',WI z s (fun _ _=>True) l' left':=by
  have hb:=zBs hr
  intro m
  induction m with
  | zero =>
    intro n f l left h1 h2 h3 h
    obtain ⟨n,rfl⟩:∃ q,n=q+1:=⟨n - 1,by omega⟩
    show ∃ l',zEU _ _ _ _ _ _ _=_∧_
    unfold zEU
    rw [zj (zAG (by omega)),zAD (df (by omega))]
    unfold zH2
    rw [zj (zAG (by omega))]
    refine hn l left (h.mono (fun j x _ hd=>by rcases hd with hd | hd <;> omega) (fun j x hi _ hd => ?_))
    have:=zAe hr hi
    have:=zJv j
    have hd:k≤j:=hd
    by_cases hjk:j=k
    · exact .inr ⟨hjk,by omega⟩
    · exact .inl (by omega)
  | succ m ih =>
    intro n f l left h1 h2 h3 h
    obtain ⟨n,rfl⟩:∃ q,n=q+1:=⟨n - 1,by omega⟩
    obtain ⟨e,p1,p2⟩:=zJe (k:=k) (by omega)
    have pn:=zLs (k:=k) (by omega)
    have hstep:∀ l2 left2,WI z s (fun j x=>(k<j∨(j=k∧x<f))∨(j=k∧x=f)) l2 left2 → ∃ l',zEV (zCP se z (k:Int) n) (f:Int) l2 left2=some (zl z l') ∧ ∃ left',WI z s (fun _ _=>True) l' left':=by
      intro l2 left2 hw
      unfold zEV
      rw [zj (zAG (by omega))]
      exact ih n (f+1) l2 left2 (by omega) (by omega) (by omega) (hw.mono (fun j x _ hd=>by omega) (fun j x _ _ hd=>by omega))
    show ∃ l',zEU _ _ _ _ _ _ _=_∧_
    unfold zEU
    rw [zj (zAG (by omega)),zAV (dt (by omega)),zPh hr hk h3 (by omega),zCz]
    by_cases hi:inside z f k=true
    · have hbi:=zAe hr hi
      rw [hi,zAV rfl,zUS hk (by rw [h.llen]; omega) h.llen,zCz]
      by_cases ha:∀ g,g<2 ^ k→left.getD (f+g) 0≠0
      · have hlen:(l.getD (k:Int).toNat []).length≤256:=h.len' hr k
        rw [dt ha,Bool.and_true,zAV rfl,zj (zAT (by omega)),zj (dt (by omega)),zj (dt (by show (_+1)*8≤4294967296; omega)),zSx hk h.len (by omega) (2 ^ k) z9 f left (by omega) (by unfold z9; omega) h.llen]
        refine hstep _ _ (h.add hr hk hi (fun j x hd=>hd) (fun g g1 g2 => ?_) (by rw [zQX]; exact h.llen) (fun g => ?_))
        · have:=ha (g - f) (by omega)
          rw [show f+(g - f)=g by omega] at this
          exact this
        · rw [zRV (2 ^ k) f left g (by rw [h.llen]; omega)]
          by_cases hq:f≤g∧g<f+2 ^ k
          · rw [if_pos hq,if_pos (by omega)]
          · rw [if_neg hq,if_neg (by omega)]
      · rw [df ha,Bool.and_false,zAD rfl]
        refine hstep _ _ (h.skip hr hk (fun j x hd=>by omega) (fun _ => ?_))
        refine Classical.byContradiction fun hno=>ha (fun g hg hz=>hno ⟨((f+g:Nat):Int),by omega,by omega,?_⟩)
        rw [Int.toNat_natCast]
        exact hz
    · have hi':=Bool.eq_false_iff.2 hi
      rw [hi',zAD rfl,zCz,Bool.false_and,zAD rfl]
      exact hstep _ _ (h.skip hr hk (fun j x hd=>by omega) (fun hq=>absurd hq hi))
theorem zTH (hr:ranges z=true):∀ (q n:Nat) (l:List (List Int)) (left:List Int),q≤5→q<n→WI z s (fun j _=>q≤j) l left →
    ∃ l',zBF z n ((q:Int) - 1) l left=some (zl z l') ∧ ∃ left',WI z s (fun _ _=>True) l' left':=by
  have hb:=zBs hr
  intro q
  induction q with
  | zero =>
    intro n l left hq hn h
    obtain ⟨n,rfl⟩:∃ q,n=q+1:=⟨n - 1,by omega⟩
    show ∃ l',zED _ _ _ _ _=_∧_
    unfold zED
    rw [zAD (df (by omega))]
    exact ⟨l,rfl,left,h.mono (fun _ _ _ _=>trivial) (fun j x _ _ _=>Nat.zero_le j)⟩
  | succ q ih =>
    intro n l left hq hn h
    obtain ⟨n,rfl⟩:∃ q,n=q+1:=⟨n - 1,by omega⟩
    show ∃ l',zED _ _ _ _ _=_∧_
    unfold zED
    obtain ⟨st,hst⟩:=Int.eq_ofNat_of_zero_le hb.2.2.2.1
    rw [show (((q+1:Nat):Int) - 1)=(q:Int) by omega,zAV (dt (by omega))]
    have:=zS1 (s:=s) (k:=q) (se:=zBF z n) hr (by omega) (fun l2 left2 h2=>ih n l2 left2 (by omega) (by omega) h2) z.count.toNat z9 st l left (by omega) (by unfold z9; omega) (by omega)
      (h.mono (fun j x _ hd => .inl hd) (fun j x hi _ hd=>by
        have:=zAe hr hi
        show q+1≤j
        omega))
    rw [← hst] at this
    exact this
theorem zTh {s:List Int} (hs:s.length=256):∀ (m n i:Nat) (l:List Int),i+m=256→m<n→l.length=256→(∀ g:Nat,g<i→l.getD g 0=s.getD g 0)→zGq z s n (i:Int) l=zGl z s:=by
  intro m
  induction m with
  | zero =>
    intro n i l h1 h2 h3 h4
    obtain ⟨n,rfl⟩:∃ q,n=q+1:=⟨n - 1,by omega⟩
    show zEG _ _ _ _ _=_
    unfold zEG
    rw [zAD (df (by omega))]
    congr 1
    apply List.ext_getElem?
    intro g
    rcases Nat.lt_or_ge g 256 with hg | hg
    · have:=h4 g (by omega)
      rw [List.getD_eq_getElem?_getD,List.getD_eq_getElem?_getD,List.getElem?_eq_getElem (by omega),List.getElem?_eq_getElem (by omega)] at this
      rw [List.getElem?_eq_getElem (by omega),List.getElem?_eq_getElem (by omega)]
      exact congrArg some this
    · rw [List.getElem?_eq_none (by omega),List.getElem?_eq_none (by omega)]
  | succ m ih =>
    intro n i l h1 h2 h3 h4
    obtain ⟨n,rfl⟩:∃ q,n=q+1:=⟨n - 1,by omega⟩
    show zEG _ _ _ _ _=_
    unfold zEG
    have hi:i<s.length:=by omega
    rw [zAV (dt (by omega)),zj (zAT hi),zj (zAT (by omega)),zj (zAG (by omega)),zG8 hi]
    refine ih n (i+1) _ (by omega) (by omega) (by rw [List.length_set]; exact h3) (fun g hg => ?_)
    rw [Int.toNat_natCast,zPo _ _ _ (by omega)]
    by_cases hgi:g=i
    · rw [if_pos hgi,hgi,List.getD_eq_getElem?_getD,List.getElem?_eq_getElem hi]
      rfl
    · rw [if_neg hgi]
      exact h4 g (by omega)
theorem zT0 (hr:ranges z=true) (hs:s.length=256):∃ y,zG2 z s=some y∧OkZ y∧zIT y z ∧ ∀ g,cov y g↔z.start≤g∧g<z.start+z.count∧s.getD g.toNat 0≠0:=by
  unfold zG2
  rw [zj (by rw [hs]; rfl),show (0:Int)=((0:Nat):Int) from rfl,zTh hs 256 z9 0 _ (by omega) (by unfold z9; omega) (by rw [List.length_replicate,hs]; rfl) (fun g hg=>by omega)]
  unfold zGl
  have he:=zQZ (z:=zl z (List.replicate 5 [])) hr rfl
  obtain ⟨l',e,left',hw⟩:=zTH (s:=s) hr 5 z9 (List.replicate 5 []) s (by omega) (by unfold z9; omega)
    ⟨rfl,hs,he.1.srt,fun k x hx=>absurd (show x∈[] from (zOl (z:=zl z (List.replicate 5 [])) rfl k)▸hx) (by simp),he.1.dis,fun g hg=>⟨fun h=>⟨h,he.2 g⟩,fun h=>h.1⟩,fun g hg=>absurd hg (he.2 g),fun j x hd hj _=>by exact absurd (show 5≤j from hd) (by omega)⟩
  have ho:=hw.ok hr
  exact ⟨zl z l',e,ho.1,⟨rfl,rfl,rfl,rfl,rfl⟩,ho.2⟩
theorem zTI {y:zp} (hs:s.length=256) (ho:OkZ y) (hy:zIT y z) (hc:∀ g,cov y g↔z.start≤g∧g<z.start+z.count∧s.getD g.toNat 0≠0):zG2 z s=some y:=by
  have hr:ranges z=true:=by rw [← hy.ranges]; exact ho.ranges
  obtain ⟨x,e,h1,h2,h3⟩:=zT0 hr hs
  have hxy:zIT x y:=h2.trans ⟨hy.1.symm,hy.2.1.symm,hy.2.2.1.symm,hy.2.2.2.1.symm,hy.2.2.2.2.symm⟩
  rw [e,h1.ext ho hxy.1 hxy.2.1 hxy.2.2.1 hxy.2.2.2.1 hxy.2.2.2.2 (fun f=>by rw [h3,hc])]
end
end Go.Proofs.YtplkliakhdkpcaaGreat
namespace Go.Proofs.YtplkliakhdkpcaaGreat
open Go Go.RowKit Go.Wk Go.Am
structure Sm (a:zJ):Prop where
  n:a.nodes.length≤1099511627776
  z:a.zones.length≤1099511627776
  c:a.caches.length≤1099511627776
  f:∀ z,z∈a.zones → ∀ k,(z.free.getD k []).length≤1099511627776
  l:∀ c,c∈a.caches→c.lists.length≤1099511627776 ∧ ∀ l,l∈c.lists→l.length≤1099511627776
theorem zVn {l:List Int} (hl:l.length≤1099511627776):∀ (m n i:Nat),i+m=l.length→m<n→zD0 l l n (i:Int)=some true:=by
  intro m
  induction m with
  | zero =>
    intro n i h1 h2
    obtain ⟨n,rfl⟩:∃ q,n=q+1:=⟨n - 1,by omega⟩
    show zCB _ _ _ _=_
    unfold zCB
    rw [zAD (df (by omega))]
    rfl
  | succ m ih =>
    intro n i h1 h2
    obtain ⟨n,rfl⟩:∃ q,n=q+1:=⟨n - 1,by omega⟩
    show zCB _ _ _ _=_
    unfold zCB
    rw [zAV (dt (by omega)),zj (zAT (by omega)),zj (zAT (by omega)),dt rfl]
    refine (zAD (by rfl)).trans ?_
    rw [zj (zAG (by omega))]
    exact ih n (i+1) (by omega) (by omega)
theorem zOG {l:List Int} (hl:l.length≤1099511627776):zEc l l=some true:=by
  unfold zEc
  rw [dt rfl]
  exact zVn hl l.length z9 0 (by omega) (by unfold z9; omega)
theorem zVk {l:List Int} (hl:l.length≤1099511627776):∀ (m n i:Nat),i+m=l.length→m<n→zDz l l n (i:Int)=some true:=by
  intro m
  induction m with
  | zero =>
    intro n i h1 h2
    obtain ⟨n,rfl⟩:∃ q,n=q+1:=⟨n - 1,by omega⟩
    show zCD _ _ _ _=_
    unfold zCD
    rw [zAD (df (by omega))]
    rfl
  | succ m ih =>
    intro n i h1 h2
    obtain ⟨n,rfl⟩:∃ q,n=q+1:=⟨n - 1,by omega⟩
    show zCD _ _ _ _=_
    unfold zCD
    rw [zAV (dt (by omega)),zj (zAT (by omega)),zj (zAT (by omega)),dt rfl]
    refine (zAD (by rfl)).trans ?_
    rw [zj (zAG (by omega))]
    exact ih n (i+1) (by omega) (by omega)
theorem zQ4 {l:List Int} (hl:l.length≤1099511627776):zFe l l=some true:=by
  unfold zFe
  rw [dt rfl]
  exact zVk hl l.length z9 0 (by omega) (by unfold z9; omega)
theorem zO8 {z:zp} (hz:∀ k,(z.free.getD k []).length≤1099511627776):∀ (m n i:Nat),i+m=5→m<n→zGR z z n (i:Int)=some true:=by
  intro m
  induction m with
  | zero =>
    intro n i h1 h2
    obtain ⟨n,rfl⟩:∃ q,n=q+1:=⟨n - 1,by omega⟩
    show zEC _ _ _ _=_
    unfold zEC
    rw [zAD (df (by omega))]
    rfl
  | succ m ih =>
    intro n i h1 h2
    obtain ⟨n,rfl⟩:∃ q,n=q+1:=⟨n - 1,by omega⟩
    show zEC _ _ _ _=_
    unfold zEC
    rw [zAV (dt (by omega)),zj (zAT (by omega)),zQ4 (hz _),zCz]
    refine (zAD (by rfl)).trans ?_
    rw [zj (zAG (by omega))]
    exact ih n (i+1) (by omega) (by omega)
theorem zU3 {z:zp} (hz:∀ k,(z.free.getD k []).length≤1099511627776):zI9 z z=some true:=by
  unfold zI9
  rw [dt rfl,dt rfl,dt rfl,dt rfl,dt rfl]
  exact zO8 hz 5 z9 0 (by omega) (by unfold z9; omega)
theorem zOq {c:zL} (h1:c.lists.length≤1099511627776) (h2:∀ l,l∈c.lists→l.length≤1099511627776):∀ (m n i:Nat),i+m=c.lists.length→m<n→zGS c c n (i:Int)=some true:=by
  intro m
  induction m with
  | zero =>
    intro n i h3 h4
    obtain ⟨n,rfl⟩:∃ q,n=q+1:=⟨n - 1,by omega⟩
    show zER _ _ _ _=_
    unfold zER
    rw [zAD (df (by omega))]
    rfl
  | succ m ih =>
    intro n i h3 h4
    obtain ⟨n,rfl⟩:∃ q,n=q+1:=⟨n - 1,by omega⟩
    show zER _ _ _ _=_
    unfold zER
    have hi:i<c.lists.length:=by omega
    rw [zAV (dt (by omega)),zj (zAT hi),zj (zAT hi),zG8 hi,zOG (h2 _ (List.getElem_mem hi)),zCz]
    refine (zAD (by rfl)).trans ?_
    rw [zj (zAG (by omega))]
    exact ih n (i+1) (by omega) (by omega)
theorem zU4 {c:zL} (h1:c.lists.length≤1099511627776) (h2:∀ l,l∈c.lists→l.length≤1099511627776):zJF c c=some true:=by
  unfold zJF
  rw [dt rfl]
  exact zOq h1 h2 c.lists.length z9 0 (by omega) (by unfold z9; omega)
theorem zR0 {a:zJ} (h:Sm a):∀ (m n i:Nat),i+m=a.caches.length→m<n→zGC a a n (i:Int)=some true:=by
  have hc:=h.c
  intro m
  induction m with
  | zero =>
    intro n i h3 h4
    obtain ⟨n,rfl⟩:∃ q,n=q+1:=⟨n - 1,by omega⟩
    show zEL _ _ _ _=_
    unfold zEL
    rw [zAD (df (by omega))]
    rfl
  | succ m ih =>
    intro n i h3 h4
    obtain ⟨n,rfl⟩:∃ q,n=q+1:=⟨n - 1,by omega⟩
    show zEL _ _ _ _=_
    unfold zEL
    have hi:i<a.caches.length:=by omega
    have hl:=h.l _ (List.getElem_mem hi)
    rw [zAV (dt (by omega)),zj (zAT hi),zj (zAT hi),zG8 hi,zU4 hl.1 hl.2,zCz]
    refine (zAD (by rfl)).trans ?_
    rw [zj (zAG (by omega))]
    exact ih n (i+1) (by omega) (by omega)
theorem zRr {a:zJ} (h:Sm a):∀ (m n i:Nat),i+m=a.zones.length→m<n→zGK a a n (i:Int)=some true:=by
  have hc:=h.z
  intro m
  induction m with
  | zero =>
    intro n i h3 h4
    obtain ⟨n,rfl⟩:∃ q,n=q+1:=⟨n - 1,by omega⟩
    show zEB _ _ _ _=_
    unfold zEB
    rw [zAD (df (by omega))]
    exact zR0 h a.caches.length z9 0 (by omega) (by have:=h.c; unfold z9; omega)
  | succ m ih =>
    intro n i h3 h4
    obtain ⟨n,rfl⟩:∃ q,n=q+1:=⟨n - 1,by omega⟩
    show zEB _ _ _ _=_
    unfold zEB
    have hi:i<a.zones.length:=by omega
    rw [zAV (dt (by omega)),zj (zAT hi),zj (zAT hi),zG8 hi,zU3 (h.f _ (List.getElem_mem hi)),zCz]
    refine (zAD (by rfl)).trans ?_
    rw [zj (zAG (by omega))]
    exact ih n (i+1) (by omega) (by omega)
theorem zVD {a:zJ} (h:Sm a):zH5 a a=some true:=by
  unfold zH5
  rw [zOG h.n,zCz,dt rfl,dt rfl,dt rfl,dt rfl]
  exact zRr h a.zones.length z9 0 (by omega) (by have:=h.z; unfold z9; omega)
end Go.Proofs.YtplkliakhdkpcaaGreat
namespace Go.Proofs.YtplkliakhdkpcaaGreat
open Go Go.RowKit Go.Am
def geP:Option Int→Int→Bool
  | some q,f=>decide (f≤q)
  | none,_=>false
def zJf (z:zp) (k:Nat):Option Int→List Int→Int
  | _,[]=>0
  | p,f::r=>if inside z f k=false then 3 else if geP p f=true then 10 else zJf z k (some f) r
def zEZ (z:zp):Nat→List (List Int)→Int
  | _,[]=>0
  | k,l::r=>if zJf z k none l=0 then zEZ z (k+1) r else zJf z k none l
def zLR (s:List Bool) (i:Nat):Nat→Option (List Bool)
  | 0=>some s
  | n+1=>if s.getD i false=true then none else zLR (s.set i true) (i+1) n
def zLG (k:Nat):List Bool→List Int→Option (List Bool)
  | s,[]=>some s
  | s,f::r=>match zLR s f.toNat (2 ^ k) with
    | none=>none
    | some s'=>zLG k s' r
def zHt:Nat→List Bool→List (List Int)→Option (List Bool)
  | _,s,[]=>some s
  | k,s,l::r=>match zLG k s l with
    | none=>none
    | some s'=>zHt (k+1) s' r
def zOv (z:zp) (k:Nat) (l0:List Int):List Int→Bool
  | []=>false
  | f::r=>if (decide (bud f k∈l0)&&inside z (min f (bud f k)) (k+1))=true then true else zOv z k l0 r
def zLQ (z:zp):Nat→List (List Int)→Bool
  | _,[]=>false
  | k,l::r=>if zOv z k l l=true then true else zLQ z (k+1) r
def zEI:List Bool:=List.replicate 256 false
theorem zIF:zEI.length=256:=List.length_replicate
def zD5 (z:zp):Int :=
  if ranges z=false then 2 else if zEZ z 0 z.free=0 then
    (if zHt 0 zEI z.free=none then 7 else if zLQ z 0 (z.free.take 4)=true then 11 else 0)
  else zEZ z 0 z.free
theorem zQa {z:zp} {k:Nat}:∀ {l:List Int} {p:Option Int},zJf z k p l=0→(∀ f,f∈l→inside z f k=true)∧Srt l∧(∀ q f,p=some q→f∈l→q<f):=by
  intro l
  induction l with
  | nil=>intro p _; exact ⟨fun f hf=>by simp at hf,Srt.nil,fun q f _ hf=>by simp at hf⟩
  | cons a l ih =>
    intro p h
    unfold zJf at h
    split at h
    · cases h
    · rename_i h1
      split at h
      · cases h
      · rename_i h2
        obtain ⟨i1,i2,i3⟩:=ih h
        have ha:inside z a k=true:=by simpa using h1
        refine ⟨fun f hf => ?_,List.pairwise_cons.2 ⟨fun f hf=>i3 a f rfl hf,i2⟩,fun q f hq hf => ?_⟩
        · rcases List.mem_cons.1 hf with rfl | hf
          · exact ha
          · exact i1 f hf
        · subst hq
          have h2:q<a:=by simpa [geP] using h2
          rcases List.mem_cons.1 hf with rfl | hf
          · exact h2
          · have:=i3 a f rfl hf; omega
theorem zR2 {z:zp}:∀ {ls:List (List Int)} {k:Nat},zEZ z k ls=0 → ∀ (j:Nat) (l:List Int),ls[j]?=some l→(∀ f,f∈l→inside z f (k+j)=true)∧Srt l:=by
  intro ls
  induction ls with
  | nil=>intro k _ j l hl; simp at hl
  | cons a ls ih =>
    intro k h j l hl
    unfold zEZ at h
    split at h
    · rename_i h0
      cases j with
      | zero =>
        simp at hl; subst hl
        exact ⟨(zQa h0).1,(zQa h0).2.1⟩
      | succ j =>
        have:=ih h j l (by simpa using hl)
        rw [show k+(j+1)=k+1+j by omega]
        exact this
    · rename_i h0; exact absurd h h0
theorem zCm {z:zp} (h:zD5 z=0):ranges z=true:=by
  unfold zD5 at h
  split at h
  · cases h
  · rename_i h1; simpa using h1
def zKI (l:List Int) (i:Nat):Option Int:=if i=0 then none else l[i - 1]?
section
variable {z:zp} {k i:Nat} {l:List Int} {x y:Int}
theorem zOm (hI:zJf z k none l=zJf z k (zKI l i) (l.drop i)) (hx:l[i]?=some x) (h:inside z x k=false):zJf z k none l=3:=by
  obtain ⟨h1,h2⟩:=List.getElem?_eq_some_iff.1 hx
  rw [hI,List.drop_eq_getElem_cons h1,h2]
  unfold zJf
  simp [h]
theorem zKw (hI:zJf z k none l=zJf z k (zKI l i) (l.drop i)) (hx:l[i]?=some x) (h:inside z x k=true) (hg:geP (zKI l i) x=false):zJf z k none l=zJf z k (zKI l (i+1)) (l.drop (i+1)):=by
  obtain ⟨h1,h2⟩:=List.getElem?_eq_some_iff.1 hx
  rw [hI,List.drop_eq_getElem_cons h1,h2]
  conv=>lhs; unfold zJf
  have:zKI l (i+1)=some x:=by unfold zKI; simpa using hx
  simp [h,hg,this]
theorem zVC (h:¬ 0<i):geP (zKI l i) x=false:=by
  have:i=0:=by omega
  subst this
  rfl
theorem zVF (h:0<i) (hy:l[((i:Int) - 1).toNat]?=some y):geP (zKI l i) x=decide (x≤y):=by
  have e:((i:Int) - 1).toNat=i - 1:=by omega
  rw [e] at hy
  unfold zKI
  rw [if_neg (by omega),hy]
  rfl
theorem zM1 (hI:zJf z k none l=zJf z k (zKI l i) (l.drop i)) (hx:l[i]?=some x) (h:inside z x k=true) (hg:geP (zKI l i) x=true):zJf z k none l=10:=by
  obtain ⟨h1,h2⟩:=List.getElem?_eq_some_iff.1 hx
  rw [hI,List.drop_eq_getElem_cons h1,h2]
  unfold zJf
  simp [h,hg]
theorem zPW (hI:zJf z k none l=zJf z k (zKI l i) (l.drop i)) (h:l.length≤i):zJf z k none l=0:=by
  rw [hI,List.drop_eq_nil_of_le h]
  rfl
theorem zNH (hR:zEZ z 0 z.free=zEZ z k (z.free.drop k)) (hl:z.free[k]?=some l) (e:zJf z k none l=0):zEZ z 0 z.free=zEZ z (k+1) (z.free.drop (k+1)):=by
  obtain ⟨h1,h2⟩:=List.getElem?_eq_some_iff.1 hl
  rw [hR,List.drop_eq_getElem_cons h1,h2]
  conv=>lhs; unfold zEZ
  simp [e]
theorem zOW (hR:zEZ z 0 z.free=zEZ z k (z.free.drop k)) (h:z.free.length≤k):zEZ z 0 z.free=0:=by
  rw [hR,List.drop_eq_nil_of_le h]
  rfl
variable {s s0 s1:List Bool} {m n:Nat}
variable {ls:List (List Int)}
variable {l0:List Int}
theorem zMI {β:Type} {l:List β} {i m:Nat} {x:β} (h:l[i]?=some x) (hm:i<m):(l.take m)[i]?=some x:=by
  rw [List.getElem?_take,if_pos hm]; exact h
end
end Go.Proofs.YtplkliakhdkpcaaGreat
namespace Go.Proofs.YtplkliakhdkpcaaGreat
open Go Go.RowKit Go.Wk Go.Am
structure Zk (z:zp):Prop where
  len:z.free.length=5
  bd:∀ k,(lst z k).length≤1000000
section
variable {z:zp} {k:Nat} {l:List Int}
theorem Zk.get (h:Zk z) (hk:k<5):z.free[k]?=some (lst z k):=zJI h.len hk
theorem zPX {i:Nat} (h:i<l.length):l[i]?=some (at_ l (i:Int)):=by rw [zG8 h,List.getElem?_eq_getElem h]
theorem zOV {i:Nat} (h0:0<i):(i:Int) - 1=((i - 1:Nat):Int):=by omega
theorem cl6 {se:Int→Option Int} (hz:Zk z) (hr:ranges z=true) (hk:k<5) (hl:lst z k=l):∀ (m n i:Nat),i+m=l.length→m<n→zJf z k none l=zJf z k (zKI l i) (l.drop i) →
    zFp se z (k:Int) n (i:Int)=if zJf z k none l=0 then se ((k+1:Nat):Int) else some (zJf z k none l):=by
  have hb:l.length≤1000000:=by rw [← hl]; exact hz.bd k
  have e:z.free.getD (k:Int).toNat []=l:=hl
  intro m
  induction m with
  | zero =>
    intro n i h1 h2 hI
    obtain ⟨n,rfl⟩:∃ q,n=q+1:=⟨n - 1,by omega⟩
    show zDT _ _ _ _ _=_
    unfold zDT zHO
    rw [e,zAD (df (by omega)),zj (zAG (by omega)),if_pos (zPW hI (by omega))]
    rfl
  | succ m ih =>
    intro n i h1 h2 hI
    obtain ⟨n,rfl⟩:∃ q,n=q+1:=⟨n - 1,by omega⟩
    have hi:i<l.length:=by omega
    have hx:=zPX hi
    show zDT _ _ _ _ _=_
    unfold zDT
    rw [e,zAV (dt (by omega)),zj (zAT hi),zJr hr (by omega),zCz]
    generalize at_ l (i:Int)=x at *
    cases hin:inside z x k with
    | false =>
      rw [Bool.not_false,zAV rfl,zOm hI hx hin]
      rfl
    | true =>
      rw [Bool.not_true,zAD rfl]
      by_cases h0:0<i
      · rw [zj (zMd (zAG (by omega))),zOV h0,zj (zMd (zAT (by omega))),dt (p:=0<(i:Int)) (by omega),Bool.true_and]
        have hy:=zPX (l:=l) (i:=i - 1) (by omega)
        have hg:geP (zKI l i) x=decide (x≤at_ l ((i - 1:Nat):Int)):=zVF h0 (by rw [zOV h0,Int.toNat_natCast]; exact hy)
        by_cases hle:x≤at_ l ((i - 1:Nat):Int)
        · rw [zAV (dt hle),zM1 hI hx hin (by rw [hg,dt hle])]
          rfl
        · rw [zAD (df hle),zj (zAG (by omega))]
          exact ih n (i+1) (by omega) (by omega) (zKw hI hx hin (by rw [hg,df hle]))
      · rw [df (p:=0<(i:Int)) (by omega)]
        refine (zj (by rfl)).trans ((zj (by rfl)).trans ((zAD (by rfl)).trans ?_))
        rw [zj (zAG (by omega))]
        exact ih n (i+1) (by omega) (by omega) (zKw hI hx hin (zVC h0))
theorem cl5 (hz:Zk z) (hr:ranges z=true):∀ (m n k:Nat),k+m=5→m<n→zEZ z 0 z.free=zEZ z k (z.free.drop k) →
    zCQ z n (k:Int)=if zEZ z 0 z.free=0 then zFj z else some (zEZ z 0 z.free):=by
  intro m
  induction m with
  | zero =>
    intro n k h1 h2 hR
    obtain ⟨n,rfl⟩:∃ q,n=q+1:=⟨n - 1,by omega⟩
    show zDl _ _ _=_
    unfold zDl
    rw [zAD (df (by omega)),if_pos (zOW hR (by rw [hz.len]; omega))]
  | succ m ih =>
    intro n k h1 h2 hR
    obtain ⟨n,rfl⟩:∃ q,n=q+1:=⟨n - 1,by omega⟩
    show zDl _ _ _=_
    unfold zDl
    have hb:=hz.bd k
    have hg:=hz.get (k:=k) (by omega)
    rw [zAV (dt (by omega)),zj (zAT (by omega)),show (0:Int)=((0:Nat):Int) from rfl,cl6 hz hr (by omega) rfl (lst z k).length z9 0 (by omega) (by unfold z9; omega) rfl]
    by_cases h0:zJf z k none (lst z k)=0
    · rw [if_pos h0]
      exact ih n (k+1) (by omega) (by omega) (zNH hR hg h0)
    · rw [if_neg h0]
      have hc:zEZ z 0 z.free=zJf z k none (lst z k):=by
        obtain ⟨a1,a2⟩:=List.getElem?_eq_some_iff.1 hg
        rw [hR,List.drop_eq_getElem_cons a1,a2]
        unfold zEZ
        rw [if_neg h0]
      rw [if_neg (by rw [hc]; exact h0),hc]
theorem zUR {l:List Bool} {n i:Nat} (hl:l.length=n) (hi:i<n) (x:Bool):zDo n false l i x=l.set i x:=by
  unfold zDo
  apply List.ext_getElem?
  intro j
  rw [List.getElem?_map,List.getElem?_set]
  by_cases hj:j<n
  · rw [List.getElem?_range hj]
    by_cases hij:i=j
    · subst hij
      rw [if_pos rfl,if_pos (by omega)]
      simp
    · rw [if_neg hij,List.getElem?_eq_getElem (by omega)]
      simp [show ¬ j=i from fun e=>hij e.symm,List.getElem?_eq_getElem (show j<l.length by omega)]
  · rw [List.getElem?_eq_none (by simp; omega)]
    by_cases hij:i=j
    · omega
    · rw [if_neg hij,List.getElem?_eq_none (by omega)]
      rfl
theorem zME:∀ {m f:Nat} {d d':List Bool},zLR d f m=some d'→d'.length=d.length
  | 0,_,_,_,h=>by unfold zLR at h; cases h; rfl
  | m+1,f,d,d',h=>by
    unfold zLR at h
    split at h
    · cases h
    · rw [zME h,List.length_set]
theorem cl4 {se:Int→List Bool→Option Int} {i:Nat} {x:Int} (hk:k<5) (hx:at_ (lst z k) (i:Int)=x) (h0:0≤x) (h1:x+2 ^ k≤256) (hi:i<1000000):∀ (m n f:Nat) (d:List Bool),(f:Int)+m=x+2 ^ k→m<n→d.length=256 →
    zFc se z (k:Int) (i:Int) n (f:Int) d=match zLR d f m with | none=>some 7 | some d'=>se ((i+1:Nat):Int) d':=by
  obtain ⟨e,p1,p2⟩:=zJe (k:=k) (by omega)
  have ex:at_ (z.free.getD (k:Int).toNat []) (i:Int)=x:=hx
  intro m
  induction m with
  | zero =>
    intro n f d h2 h3 h4
    obtain ⟨n,rfl⟩:∃ q,n=q+1:=⟨n - 1,by omega⟩
    show zDk _ _ _ _ _ _ _=_
    unfold zDk zHK
    rw [e,ex,zj (zNz (by omega)),zj (zAG (by omega)),zj (zAG (by omega)),zAD (df (by omega)),zj (zAG (by omega))]
    rfl
  | succ m ih =>
    intro n f d h2 h3 h4
    obtain ⟨n,rfl⟩:∃ q,n=q+1:=⟨n - 1,by omega⟩
    show zDk _ _ _ _ _ _ _=_
    unfold zDk
    rw [e,ex,zj (zNz (by omega)),zj (zAG (by omega)),zj (zAG (by omega)),zAV (dt (by omega)),zj (zAT (by omega))]
    have ed:d.getD (f:Int).toNat false=d.getD f false:=rfl
    unfold zLR
    cases hd:d.getD f false with
    | true=>rw [ed,hd,zAV rfl,if_pos rfl]
    | false =>
      rw [ed,hd,zAD rfl,if_neg (by simp),zj (zAG (by omega)),zUR h4 (by omega)]
      exact ih n (f+1) (d.set f true) (by omega) (by omega) (by rw [List.length_set]; exact h4)
theorem cl3 {se:Int→List Bool→Option Int} (hz:Zk z) (hr:ranges z=true) (hk:k<5) (hl:lst z k=l) (hin:∀ f,f∈l→inside z f k=true):∀ (m n i:Nat) (d:List Bool),i+m=l.length→m<n→d.length=256 →
    zBi se z (k:Int) n (i:Int) d=match zLG k d (l.drop i) with | none=>some 7 | some d'=>se ((k+1:Nat):Int) d':=by
  have hb:l.length≤1000000:=by rw [← hl]; exact hz.bd k
  have e:z.free.getD (k:Int).toNat []=l:=hl
  obtain ⟨e2,p1,p2⟩:=zJe (k:=k) (by omega)
  have pn:=zLs (k:=k) (by omega)
  intro m
  induction m with
  | zero =>
    intro n i d h1 h2 h3
    obtain ⟨n,rfl⟩:∃ q,n=q+1:=⟨n - 1,by omega⟩
    show zDR _ _ _ _ _ _=_
    unfold zDR zHP
    rw [e,zAD (df (by omega)),zj (zAG (by omega)),List.drop_eq_nil_of_le (by omega)]
    rfl
  | succ m ih =>
    intro n i d h1 h2 h3
    obtain ⟨n,rfl⟩:∃ q,n=q+1:=⟨n - 1,by omega⟩
    have hi:i<l.length:=by omega
    show zDR _ _ _ _ _ _=_
    unfold zDR
    have hbd:=zAe hr (hin _ (List.getElem_mem hi))
    have ha:at_ (lst z k) (i:Int)=l[i]:=by rw [hl]; exact zG8 hi
    obtain ⟨f,hf⟩:=Int.eq_ofNat_of_zero_le hbd.1
    rw [e,zAV (dt (by omega)),zj (zAT hi),zG8 hi,List.drop_eq_getElem_cons hi]
    have hc:=cl4 (se:=zBi se z (k:Int) n) hk ha hbd.1 hbd.2.1 (by omega) (2 ^ k) z9 f d (by omega) (by unfold z9; omega) h3
    unfold zLG
    rw [hf,hc,show ((f:Int)).toNat=f from rfl]
    cases hm:zLR d f (2 ^ k) with
    | none=>rfl
    | some d'=>exact ih n (i+1) d' (by omega) (by omega) (by rw [zME hm]; exact h3)
theorem zOg:∀ {l:List Int} {k:Nat} {d d':List Bool},zLG k d l=some d'→d'.length=d.length
  | [],_,_,_,h=>by unfold zLG at h; cases h; rfl
  | x::l,k,d,d',h=>by
    unfold zLG at h
    split at h
    · cases h
    · rename_i q hq
      rw [zOg h,zME hq]
theorem cl2 (hz:Zk z) (hr:ranges z=true) (hin:∀ k,k<5 → ∀ f,f∈lst z k→inside z f k=true):∀ (m n k:Nat) (d:List Bool),k+m=5→m<n→d.length=256 →
    zBB z n (k:Int) d=match zHt k d (z.free.drop k) with | none=>some 7 | some _=>zDn z:=by
  intro m
  induction m with
  | zero =>
    intro n k d h1 h2 h3
    obtain ⟨n,rfl⟩:∃ q,n=q+1:=⟨n - 1,by omega⟩
    show zDW _ _ _ _=_
    unfold zDW
    rw [zAD (df (by omega)),List.drop_eq_nil_of_le (by rw [hz.len]; omega)]
    rfl
  | succ m ih =>
    intro n k d h1 h2 h3
    obtain ⟨n,rfl⟩:∃ q,n=q+1:=⟨n - 1,by omega⟩
    show zDW _ _ _ _=_
    unfold zDW
    have hb:=hz.bd k
    obtain ⟨a1,a2⟩:=List.getElem?_eq_some_iff.1 (hz.get (k:=k) (by omega))
    rw [zAV (dt (by omega)),zj (zAT (by omega)),show (0:Int)=((0:Nat):Int) from rfl,cl3 hz hr (by omega) rfl (hin k (by omega)) (lst z k).length z9 0 d (by omega) (by unfold z9; omega) h3,List.drop_eq_getElem_cons a1,a2]
    conv=>rhs; unfold zHt
    rw [List.drop_zero]
    cases hm:zLG k d (lst z k) with
    | none=>rfl
    | some d'=>exact ih n (k+1) d' (by omega) (by omega) (by rw [zOg hm]; exact h3)
theorem cl1 {se:Int→Option Int} (hz:Zk z) (hr:ranges z=true) (hk:k<4) (hl:lst z k=l) (hin:∀ f,f∈l→inside z f k=true) (hs:Srt l):∀ (m n i:Nat),i+m=l.length→m<n →
    zFf se z (k:Int) n (i:Int)=if zOv z k l (l.drop i)=true then some 11 else se ((k+1:Nat):Int):=by
  have hb:l.length≤1000000:=by rw [← hl]; exact hz.bd k
  have e:z.free.getD (k:Int).toNat []=l:=hl
  obtain ⟨e2,p1,p2⟩:=zJe (k:=k) (by omega)
  intro m
  induction m with
  | zero =>
    intro n i h1 h2
    obtain ⟨n,rfl⟩:∃ q,n=q+1:=⟨n - 1,by omega⟩
    show zDi _ _ _ _ _=_
    unfold zDi zHC
    rw [e,zAD (df (by omega)),zj (zAG (by omega)),List.drop_eq_nil_of_le (by omega)]
    rfl
  | succ m ih =>
    intro n i h1 h2
    obtain ⟨n,rfl⟩:∃ q,n=q+1:=⟨n - 1,by omega⟩
    have hi:i<l.length:=by omega
    show zDi _ _ _ _ _=_
    unfold zDi
    have hbd:=zAe hr (hin _ (List.getElem_mem hi))
    rw [e,e2,zAV (dt (by omega)),zj (zAT hi),zj (zNz (by omega)),zj (zAG (by omega)),zj (zAT (by omega)),zG8 hi,List.drop_eq_getElem_cons hi,zSq hbd.1 (by omega) hk,zSE hs hb,zCz,zj (zMd (zAG (by omega)))]
    conv=>rhs; unfold zOv
    show ((cnd (decide (bud l[i] k∈l)) _ _).bind _)=_
    have hie:zB7 z (min l[i] (bud l[i] k)) ((k:Int)+1)=some (inside z (min l[i] (bud l[i] k)) (k+1)):=zJr (k:=k+1) hr (by omega)
    rw [hie,zj (zAG (by omega))]
    cases hm:decide (bud l[i] k∈l) with
    | false =>
      rw [zAD rfl,zCz,Bool.false_and,Bool.false_and,if_neg Bool.false_ne_true]
      exact ih n (i+1) (by omega) (by omega)
    | true =>
      rw [zAV rfl,zCz]
      cases hq:inside z (min l[i] (bud l[i] k)) (k+1) with
      | false =>
        rw [Bool.and_false,if_neg Bool.false_ne_true]
        exact ih n (i+1) (by omega) (by omega)
      | true=>rfl
theorem cl0 (hz:Zk z) (hr:ranges z=true) (hin:∀ k,k<5 → ∀ f,f∈lst z k→inside z f k=true) (hs:∀ k,Srt (lst z k)):∀ (m n k:Nat),k+m=4→m<n →
    zCI z n (k:Int)=if zLQ z k ((z.free.take 4).drop k)=true then some 11 else some 0:=by
  intro m
  induction m with
  | zero =>
    intro n k h1 h2
    obtain ⟨n,rfl⟩:∃ q,n=q+1:=⟨n - 1,by omega⟩
    show zDP _ _ _=_
    unfold zDP
    rw [zAD (df (by omega)),List.drop_eq_nil_of_le (by rw [List.length_take,hz.len]; omega)]
    rfl
  | succ m ih =>
    intro n k h1 h2
    obtain ⟨n,rfl⟩:∃ q,n=q+1:=⟨n - 1,by omega⟩
    show zDP _ _ _=_
    unfold zDP
    have hb:=hz.bd k
    obtain ⟨a1,a2⟩:=List.getElem?_eq_some_iff.1 (zMI (hz.get (k:=k) (by omega)) (show k<4 by omega))
    rw [zAV (dt (by omega)),zj (zAT (by omega)),show (0:Int)=((0:Nat):Int) from rfl,cl1 hz hr (by omega) rfl (hin k (by omega)) (hs k) (lst z k).length z9 0 (by omega) (by unfold z9; omega),List.drop_eq_getElem_cons a1,a2]
    conv=>rhs; unfold zLQ
    rw [List.drop_zero]
    by_cases hq:zOv z k (lst z k) (lst z k)=true
    · rw [if_pos hq,if_pos hq,if_pos rfl]
    · rw [if_neg hq,if_neg hq]
      exact ih n (k+1) (by omega) (by omega)
theorem zLt (hz:Zk z) (h:zEZ z 0 z.free=0) (k:Nat):(∀ f,f∈lst z k→inside z f k=true)∧Srt (lst z k):=by
  rcases Nat.lt_or_ge k 5 with hk | hk
  · have:=zR2 h k _ (hz.get hk)
    rwa [Nat.zero_add] at this
  · rw [zKz hz.len hk]
    exact ⟨fun f hf=>absurd hf (by simp),Srt.nil⟩
theorem zRX (hz:Zk z) (hI:inI z.start=true):zDf z=some (zD5 z):=by
  unfold zDf zD5
  rw [zRG _ hI,zCz]
  cases hr:ranges z with
  | false=>rfl
  | true =>
    rw [Bool.not_true,zAD rfl,if_neg (by simp),show (0:Int)=((0:Nat):Int) from rfl,cl5 hz hr 5 z9 0 (by omega) (by unfold z9; omega) rfl]
    show (if zEZ z 0 z.free=0 then _ else _)=some (if zEZ z 0 z.free=0 then _ else _)
    by_cases h0:zEZ z 0 z.free=0
    · rw [if_pos h0,if_pos h0]
      have hl:=fun k=>zLt hz h0 k
      unfold zFj
      rw [show (0:Int)=((0:Nat):Int) from rfl,cl2 hz hr (fun k _=>(hl k).1) 5 z9 0 _ (by omega) (by unfold z9; omega) (by rw [List.length_replicate]),List.drop_zero]
      show (match zHt 0 zEI z.free with | none=>some 7 | some _=>zDn z)=_
      cases hm:zHt 0 zEI z.free with
      | none=>rfl
      | some d =>
        rw [if_neg (by simp)]
        show zDn z=_
        unfold zDn
        rw [show (0:Int)=((0:Nat):Int) from rfl,cl0 hz hr (fun k _=>(hl k).1) (fun k=>(hl k).2) 4 z9 0 (by omega) (by unfold z9; omega),List.drop_zero]
        split <;> rfl
    · rw [if_neg h0,if_neg h0]
end
end Go.Proofs.YtplkliakhdkpcaaGreat
namespace Go.Proofs.YtplkliakhdkpcaaGreat
open Go Go.RowKit Go.Wk Go.Am
section
variable {z:zp} {k:Nat} {l:List Int}
theorem zKt {f:Int} (hr:ranges z=true) (hk:k≤4):zCG z f (k:Int)=some (inside z f k):=by
  have hb:=zBs hr
  have hp:=zJv k
  by_cases h:z.start≤f∧f<z.start+z.count
  · exact zPh hr hk h.1 h.2
  · have hin:inside z f k=false:=by
      refine Bool.eq_false_iff.2 fun hi=>h ?_
      have:=zAe hr hi
      omega
    rw [hin]
    unfold zCG
    rw [zj (zMd (zAG (by omega)))]
    refine zAV ?_
    rw [df (p:=(k:Int)<0) (by omega),df (p:=4<(k:Int)) (by omega)]
    by_cases h1:f<z.start
    · rw [dt h1]; rfl
    · rw [df h1,dt (p:=z.start+z.count≤f) (by omega)]; rfl
theorem rl6 {se:Int→Option Int} (hz:Zk z) (hr:ranges z=true) (hk:k<5) (hl:lst z k=l):∀ (m n i:Nat),i+m=l.length→m<n→zJf z k none l=zJf z k (zKI l i) (l.drop i) →
    zDE se z (k:Int) n (i:Int)=if zJf z k none l=0 then se ((k+1:Nat):Int) else some (zJf z k none l):=by
  have hb:l.length≤1000000:=by rw [← hl]; exact hz.bd k
  have e:z.free.getD (k:Int).toNat []=l:=hl
  intro m
  induction m with
  | zero =>
    intro n i h1 h2 hI
    obtain ⟨n,rfl⟩:∃ q,n=q+1:=⟨n - 1,by omega⟩
    show zBu _ _ _ _ _=_
    unfold zBu zEv
    rw [e,zj (zAT (by omega)),zAD (df (by omega)),zj (zAG (by omega)),if_pos (zPW hI (by omega))]
    rfl
  | succ m ih =>
    intro n i h1 h2 hI
    obtain ⟨n,rfl⟩:∃ q,n=q+1:=⟨n - 1,by omega⟩
    have hi:i<l.length:=by omega
    have hx:=zPX hi
    show zBu _ _ _ _ _=_
    unfold zBu
    rw [e,zj (zAT (by omega)),zAV (dt (by omega)),zj (zAT hi),zKt hr (by omega),zCz]
    generalize at_ l (i:Int)=x at *
    cases hin:inside z x k with
    | false =>
      rw [Bool.not_false,zAV rfl,zOm hI hx hin]
      rfl
    | true =>
      rw [Bool.not_true,zAD rfl]
      by_cases h0:0<i
      · rw [zj (zMd (zAG (by omega))),zOV h0,zj (zMd (zAT (by omega))),dt (p:=0<(i:Int)) (by omega),Bool.true_and]
        have hy:=zPX (l:=l) (i:=i - 1) (by omega)
        have hg:geP (zKI l i) x=decide (x≤at_ l ((i - 1:Nat):Int)):=zVF h0 (by rw [zOV h0,Int.toNat_natCast]; exact hy)
        by_cases hle:x≤at_ l ((i - 1:Nat):Int)
        · rw [zAV (dt hle),zM1 hI hx hin (by rw [hg,dt hle])]
          rfl
        · rw [zAD (df hle),zj (zAG (by omega))]
          exact ih n (i+1) (by omega) (by omega) (zKw hI hx hin (by rw [hg,df hle]))
      · rw [df (p:=0<(i:Int)) (by omega)]
        refine (zj (by rfl)).trans ((zj (by rfl)).trans ((zAD (by rfl)).trans ?_))
        rw [zj (zAG (by omega))]
        exact ih n (i+1) (by omega) (by omega) (zKw hI hx hin (zVC h0))
theorem rl5 (hz:Zk z) (hr:ranges z=true):∀ (m n k:Nat),k+m=5→m<n→zEZ z 0 z.free=zEZ z k (z.free.drop k) →
    zBD z n (k:Int)=some (zEZ z 0 z.free):=by
  intro m
  induction m with
  | zero =>
    intro n k h1 h2 hR
    obtain ⟨n,rfl⟩:∃ q,n=q+1:=⟨n - 1,by omega⟩
    show zBp _ _ _=_
    unfold zBp
    rw [zAD (df (by omega)),zOW hR (by rw [hz.len]; omega)]
    rfl
  | succ m ih =>
    intro n k h1 h2 hR
    obtain ⟨n,rfl⟩:∃ q,n=q+1:=⟨n - 1,by omega⟩
    show zBp _ _ _=_
    unfold zBp
    have hb:=hz.bd k
    have hg:=hz.get (k:=k) (by omega)
    rw [zAV (dt (by omega)),show (0:Int)=((0:Nat):Int) from rfl,rl6 hz hr (by omega) rfl (lst z k).length z9 0 (by omega) (by unfold z9; omega) rfl]
    by_cases h0:zJf z k none (lst z k)=0
    · rw [if_pos h0]
      exact ih n (k+1) (by omega) (by omega) (zNH hR hg h0)
    · rw [if_neg h0]
      have hc:zEZ z 0 z.free=zJf z k none (lst z k):=by
        obtain ⟨a1,a2⟩:=List.getElem?_eq_some_iff.1 hg
        rw [hR,List.drop_eq_getElem_cons a1,a2]
        unfold zEZ
        rw [if_neg h0]
      rw [hc]
def zIr (s:List Int) (i:Nat):Nat→List Int
  | 0=>s
  | n+1=>zIr (s.set i (s.getD i 0+1)) (i+1) n
def zHr (k:Nat):List Int→List Int→List Int
  | s,[]=>s
  | s,f::r=>zHr k (zIr s f.toNat (2 ^ k)) r
def zGv:Nat→List Int→List (List Int)→List Int
  | _,s,[]=>s
  | k,s,l::r=>zGv (k+1) (zHr k s l) r
def zON (z:zp):List Int:=zGv 0 (List.replicate 256 0) z.free
theorem zJ6:∀ (m i:Nat) (s:List Int),(zIr s i m).length=s.length
  | 0,_,_=>rfl
  | m+1,i,s=>by unfold zIr; rw [zJ6,List.length_set]
theorem zH8:∀ (l:List Int) (k:Nat) (s:List Int),(zHr k s l).length=s.length
  | [],_,_=>rfl
  | x::l,k,s=>by unfold zHr; rw [zH8 l,zJ6]
theorem zUE (l:List Int) (i g:Nat) (h:i<l.length) (x:Int):(l.set i x).getD g 0=if g=i then x else l.getD g 0:=by
  simp only [List.getD_eq_getElem?_getD,List.getElem?_set]
  by_cases hg:i=g
  · rw [if_pos hg,if_pos h,if_pos hg.symm]; rfl
  · rw [if_neg hg,if_neg (fun e=>hg e.symm)]
theorem zJs:∀ (m i:Nat) (s:List Int) (g:Nat),i+m≤s.length→(zIr s i m).getD g 0=if i≤g∧g<i+m then s.getD g 0+1 else s.getD g 0
  | 0,i,s,g,_=>by rw [if_neg (by omega)]; rfl
  | m+1,i,s,g,h=>by
    unfold zIr
    rw [zJs m (i+1) _ g (by rw [List.length_set]; omega),zUE s i g (by omega)]
    by_cases h2:g=i
    · subst h2
      rw [if_neg (by omega),if_pos rfl,if_pos (by omega)]
    · rw [if_neg h2]
      by_cases h1:i+1≤g∧g<i+1+m
      · rw [if_pos h1,if_pos (by omega)]
      · rw [if_neg h1,if_neg (by omega)]
theorem sl2 {se:Int→List Int→Option (List Int)} {i:Nat} {x:Int} (hk:k<5) (hx:at_ (lst z k) (i:Int)=x) (hil:i<(lst z k).length) (h0:0≤x) (h1:x+2 ^ k≤256) (hi:i<1000000):∀ (m n f:Nat) (s:List Int),(f:Int)+m=x+2 ^ k→m<n→s.length=256→(∀ g,f≤g→0≤s.getD g 0∧s.getD g 0≤1000000000) →
    zHY se z (k:Int) (i:Int) n (f:Int) s=se ((i+1:Nat):Int) (zIr s f m):=by
  obtain ⟨e,p1,p2⟩:=zJe (k:=k) (by omega)
  have ex:at_ (z.free.getD (k:Int).toNat []) (i:Int)=x:=hx
  have el:i<(z.free.getD (k:Int).toNat []).length:=hil
  intro m
  induction m with
  | zero =>
    intro n f s h2 h3 h4 h5
    obtain ⟨n,rfl⟩:∃ q,n=q+1:=⟨n - 1,by omega⟩
    show zFJ _ _ _ _ _ _ _=_
    unfold zFJ zIa
    rw [e,ex,zj (zAT (by omega)),zj (zAT el),zj (dt (zIP (by omega) (by omega))),zj (zNz (by omega)),zj (zAG (by omega)),zj (zAG (by omega)),zAD (df (by omega)),zj (zAG (by omega))]
    rfl
  | succ m ih =>
    intro n f s h2 h3 h4 h5
    obtain ⟨n,rfl⟩:∃ q,n=q+1:=⟨n - 1,by omega⟩
    show zFJ _ _ _ _ _ _ _=_
    unfold zFJ
    have hf:f<s.length:=by omega
    have ea:at_ s (f:Int)=s.getD f 0:=by rw [zG8 hf,List.getD_eq_getElem?_getD,List.getElem?_eq_getElem hf]; rfl
    have hb:=h5 f (Nat.le_refl _)
    rw [e,ex,zj (zAT (by omega)),zj (zAT el),zj (dt (zIP (by omega) (by omega))),zj (zNz (by omega)),zj (zAG (by omega)),zj (zAG (by omega)),zAV (dt (by omega)),zj (zAT hf),ea,zj (zAG (by omega)),zj (zAG (by omega))]
    exact ih n (f+1) (s.set f (s.getD f 0+1)) (by omega) (by omega) (by rw [List.length_set]; exact h4) (fun g hg=>by
      rw [zUE s f g hf,if_neg (by omega)]
      exact h5 g (by omega))
theorem sl1 {se:Int→List Int→Option (List Int)} (hz:Zk z) (hr:ranges z=true) (hk:k<5) (hl:lst z k=l) (hin:∀ f,f∈l→inside z f k=true):∀ (m n i c:Nat) (s:List Int),i+m=l.length→m<n→s.length=256→(∀ g,0≤s.getD g 0∧s.getD g 0≤c)→c+m≤1000000000 →
    zCo se z (k:Int) n (i:Int) s=se ((k+1:Nat):Int) (zHr k s (l.drop i)) ∧ ∀ g,0≤(zHr k s (l.drop i)).getD g 0∧(zHr k s (l.drop i)).getD g 0≤((c+m:Nat):Int):=by
  have hb:l.length≤1000000:=by rw [← hl]; exact hz.bd k
  have e:z.free.getD (k:Int).toNat []=l:=hl
  obtain ⟨e2,p1,p2⟩:=zJe (k:=k) (by omega)
  have pn:=zLs (k:=k) (by omega)
  intro m
  induction m with
  | zero =>
    intro n i c s h1 h2 h3 h4 h5
    obtain ⟨n,rfl⟩:∃ q,n=q+1:=⟨n - 1,by omega⟩
    rw [List.drop_eq_nil_of_le (by omega)]
    refine ⟨?_,h4⟩
    show zE6 _ _ _ _ _ _=_
    unfold zE6 zIX
    rw [e,zj (zAT (by omega)),zAD (df (by omega)),zj (zAG (by omega))]
    rfl
  | succ m ih =>
    intro n i c s h1 h2 h3 h4 h5
    obtain ⟨n,rfl⟩:∃ q,n=q+1:=⟨n - 1,by omega⟩
    have hi:i<l.length:=by omega
    have hbd:=zAe hr (hin _ (List.getElem_mem hi))
    have ha:at_ (lst z k) (i:Int)=l[i]:=by rw [hl]; exact zG8 hi
    obtain ⟨f,hf⟩:=Int.eq_ofNat_of_zero_le hbd.1
    rw [List.drop_eq_getElem_cons hi]
    have hbump:zHr k s (l[i]::l.drop (i+1))=zHr k (zIr s f (2 ^ k)) (l.drop (i+1)):=by
      show zHr k (zIr s l[i].toNat (2 ^ k)) (l.drop (i+1))=_
      rw [hf]
      rfl
    rw [hbump]
    have hg:∀ g,0≤(zIr s f (2 ^ k)).getD g 0∧(zIr s f (2 ^ k)).getD g 0≤((c+1:Nat):Int):=fun g=>by
      rw [zJs _ _ _ _ (by omega)]
      have:=h4 g
      split <;> omega
    obtain ⟨r1,r2⟩:=ih n (i+1) (c+1) (zIr s f (2 ^ k)) (by omega) (by omega) (by rw [zJ6]; exact h3) hg (by omega)
    refine ⟨?_,fun g=>by have:=r2 g; omega⟩
    rw [← r1]
    show zE6 _ _ _ _ _ _=_
    unfold zE6
    rw [e,zj (zAT (by omega)),zAV (dt (by omega)),zj (zAT hi),zG8 hi]
    have hc:=sl2 (se:=zCo se z (k:Int) n) hk ha (by rw [hl]; exact hi) hbd.1 hbd.2.1 (by omega) (2 ^ k) z9 f s (by omega) (by unfold z9; omega) h3 (fun g _=>by have:=h4 g; omega)
    rw [← hf] at hc
    exact hc
theorem sl0 (hz:Zk z) (hr:ranges z=true) (hin:∀ k,k<5 → ∀ f,f∈lst z k→inside z f k=true):∀ (m n k c:Nat) (s:List Int),k+m=5→m<n→s.length=256→(∀ g,0≤s.getD g 0∧s.getD g 0≤c)→c+m*1000000≤1000000000 →
    zBU z n (k:Int) s=some (zGv k s (z.free.drop k)):=by
  intro m
  induction m with
  | zero =>
    intro n k c s h1 h2 h3 h4 h5
    obtain ⟨n,rfl⟩:∃ q,n=q+1:=⟨n - 1,by omega⟩
    show zE0 _ _ _ _=_
    unfold zE0
    rw [zAD (df (by omega)),List.drop_eq_nil_of_le (by rw [hz.len]; omega)]
    rfl
  | succ m ih =>
    intro n k c s h1 h2 h3 h4 h5
    obtain ⟨n,rfl⟩:∃ q,n=q+1:=⟨n - 1,by omega⟩
    have hb:=hz.bd k
    obtain ⟨a1,a2⟩:=List.getElem?_eq_some_iff.1 (hz.get (k:=k) (by omega))
    obtain ⟨r1,r2⟩:=sl1 (se:=zBU z n) hz hr (by omega) rfl (hin k (by omega)) (lst z k).length z9 0 c s (by omega) (by unfold z9; omega) h3 h4 (by omega)
    rw [List.drop_zero] at r1 r2
    show zE0 _ _ _ _=_
    unfold zE0
    rw [zAV (dt (by omega)),show (0:Int)=((0:Nat):Int) from rfl,r1,List.drop_eq_getElem_cons a1,a2]
    exact ih n (k+1) (c+(lst z k).length) _ (by omega) (by omega) (by rw [zH8]; exact h3) r2 (by omega)
theorem zRZ (hz:Zk z) (hr:ranges z=true) (hin:∀ k,k<5 → ∀ f,f∈lst z k→inside z f k=true):zII z=some (zON z):=by
  unfold zII
  rw [zj (by rfl),show (0:Int)=((0:Nat):Int) from rfl]
  exact sl0 hz hr hin 5 z9 0 0 _ (by omega) (by unfold z9; omega) (by rw [List.length_replicate]; rfl) (fun g=>by
    rw [List.getD_eq_getElem?_getD,List.getElem?_replicate]
    split <;> simp) (by omega)
end
end Go.Proofs.YtplkliakhdkpcaaGreat
namespace Go.Proofs.YtplkliakhdkpcaaGreat
open Go Go.RowKit Go.Wk Go.Am
theorem zBo {α:Type} (l:List α) (i g:Nat) (h:i<l.length) (x d:α):(l.set i x).getD g d=if g=i then x else l.getD g d:=by
  simp only [List.getD_eq_getElem?_getD,List.getElem?_set]
  by_cases hg:i=g
  · rw [if_pos hg,if_pos h,if_pos hg.symm]; rfl
  · rw [if_neg hg,if_neg (fun e=>hg e.symm)]
structure MB (d:List Bool) (s:List Int):Prop where
  dl:d.length=256
  sl:s.length=256
  t:∀ g,d.getD g false=true→s.getD g 0=1
  f:∀ g,d.getD g false=false→s.getD g 0=0
section
variable {z:zp} {k:Nat} {l:List Int}
theorem zLx:∀ (m i:Nat) (s:List Int) (g:Nat),s.getD g 0≤(zIr s i m).getD g 0
  | 0,_,_,_=>Int.le_refl _
  | m+1,i,s,g=>by
    unfold zIr
    refine Int.le_trans ?_ (zLx m (i+1) _ g)
    rcases Nat.lt_or_ge i s.length with h | h
    · rw [zUE s i g h]
      split
      · rename_i e; rw [e]; omega
      · omega
    · rw [List.set_eq_of_length_le h]
      omega
theorem zJT:∀ (l:List Int) (k:Nat) (s:List Int) (g:Nat),s.getD g 0≤(zHr k s l).getD g 0
  | [],_,_,_=>Int.le_refl _
  | x::l,k,s,g=>by
    unfold zHr
    exact Int.le_trans (zLx _ _ _ _) (zJT l k _ g)
theorem zMY:∀ (ls:List (List Int)) (k:Nat) (s:List Int) (g:Nat),s.getD g 0≤(zGv k s ls).getD g 0
  | [],_,_,_=>Int.le_refl _
  | l::ls,k,s,g=>by
    unfold zGv
    exact Int.le_trans (zJT l k s g) (zMY ls (k+1) _ g)
theorem zVi:∀ (m f:Nat) {d:List Bool} {s:List Int},MB d s→f+m≤256→match zLR d f m with | some d'=>MB d' (zIr s f m) | none => ∃ g,1<(zIr s f m).getD g 0
  | 0,_,_,_,h,_=>h
  | m+1,f,d,s,h,hm=>by
    unfold zLR
    cases hd:d.getD f false with
    | true =>
      rw [if_pos rfl]
      refine ⟨f,?_⟩
      rw [zJs _ _ _ _ (by rw [h.sl]; exact hm),if_pos (by omega),h.t f hd]
      decide
    | false =>
      rw [if_neg (by simp)]
      unfold zIr
      have hs:=h.sl
      have hl:=h.dl
      refine zVi m (f+1) ⟨by rw [List.length_set]; exact hl,by rw [List.length_set]; exact hs,fun g hg => ?_,fun g hg => ?_⟩ (by omega)
      · rw [zUE s f g (by omega)]
        rw [zBo d f g (by omega)] at hg
        by_cases e:g=f
        · rw [if_pos e,h.f f hd]; rfl
        · rw [if_neg e]
          rw [if_neg e] at hg
          exact h.t g hg
      · rw [zBo d f g (by omega)] at hg
        by_cases e:g=f
        · rw [if_pos e] at hg; cases hg
        · rw [if_neg e] at hg
          rw [zUE s f g (by omega),if_neg e]
          exact h.f g hg
theorem zVj (hr:ranges z=true):∀ (l:List Int) {d:List Bool} {s:List Int},(∀ f,f∈l→inside z f k=true)→k<5→MB d s→match zLG k d l with | some d'=>MB d' (zHr k s l) | none => ∃ g,1<(zHr k s l).getD g 0
  | [],_,_,_,_,h=>h
  | x::l,d,s,hin,hk,h=>by
    have hbd:=zAe hr (hin x (by simp))
    have pn:=zLs (k:=k) (by omega)
    have hn:=zVi (2 ^ k) x.toNat h (by omega)
    unfold zLG zHr
    cases hm:zLR d x.toNat (2 ^ k) with
    | none =>
      rw [hm] at hn
      obtain ⟨g,hg⟩:=hn
      exact ⟨g,by have:=zJT l k (zIr s x.toNat (2 ^ k)) g; omega⟩
    | some d' =>
      rw [hm] at hn
      exact zVj hr l (fun f hf=>hin f (by simp [hf])) hk hn
theorem zU8 (hr:ranges z=true):∀ (ls:List (List Int)) (k:Nat) {d:List Bool} {s:List Int},k+ls.length=5→(∀ j l,ls[j]?=some l → ∀ f,f∈l→inside z f (k+j)=true)→MB d s→match zHt k d ls with | some d'=>MB d' (zGv k s ls) | none => ∃ g,1<(zGv k s ls).getD g 0
  | [],_,_,_,_,_,h=>h
  | l::ls,k,d,s,hk,hin,h=>by
    have hk':k+(ls.length+1)=5:=hk
    have hn:=zVj hr l (d:=d) (s:=s) (fun f hf=>by have:=hin 0 l rfl f hf; rwa [Nat.add_zero] at this) (by omega) h
    unfold zHt zGv
    cases hm:zLG k d l with
    | none =>
      rw [hm] at hn
      obtain ⟨g,hg⟩:=hn
      exact ⟨g,by have:=zMY ls (k+1) (zHr k s l) g; omega⟩
    | some d' =>
      rw [hm] at hn
      exact zU8 hr ls (k+1) (by omega) (fun j l' hj f hf=>by
        have:=hin (j+1) l' hj f hf
        rwa [show k+(j+1)=k+1+j by omega] at this) hn
theorem mb0:MB zEI (List.replicate 256 0):=⟨zIF,by rw [List.length_replicate],fun g hg=>by
    unfold zEI at hg
    rw [List.getD_eq_getElem?_getD,List.getElem?_replicate] at hg
    split at hg <;> simp at hg,fun g _=>by
    rw [List.getD_eq_getElem?_getD,List.getElem?_replicate]
    split <;> rfl⟩
theorem zVd (hz:Zk z) (hr:ranges z=true) (hin:∀ k,k<5 → ∀ f,f∈lst z k→inside z f k=true):match zHt 0 zEI z.free with | some d=>MB d (zON z) | none => ∃ g,1<(zON z).getD g 0 :=
  zU8 hr z.free 0 (by rw [hz.len]) (fun j l hj f hf=>by
    have hj5:j<5:=by rw [← hz.len]; exact (List.getElem?_eq_some_iff.1 hj).1
    rw [hz.get hj5] at hj
    cases hj
    rw [Nat.zero_add]
    exact hin j hj5 f hf) mb0
theorem zMs:∀ (ls:List (List Int)) (k:Nat) (s:List Int),(zGv k s ls).length=s.length
  | [],_,_=>rfl
  | l::ls,k,s=>by unfold zGv; rw [zMs ls,zH8]
theorem zPB:(zON z).length=256:=by unfold zON; rw [zMs,List.length_replicate]
theorem rc2 {x:List Int} (hx:x.length=256):∀ (m n i:Nat),i+m=256→m<n→(∀ g,g<i → ¬ 1<x.getD g 0) →
    ((∃ g,1<x.getD g 0)→zBl z x n (i:Int)=some 7)∧((∀ g,¬ 1<x.getD g 0)→zBl z x n (i:Int)=zEf z):=by
  intro m
  induction m with
  | zero =>
    intro n i h1 h2 h3
    obtain ⟨n,rfl⟩:∃ q,n=q+1:=⟨n - 1,by omega⟩
    have e:zBl z x (n+1) (i:Int)=zEf z:=by
      show zDZ _ _ _ _=_
      unfold zDZ
      rw [zAD (df (by omega))]
    refine ⟨fun ⟨g,hg⟩ => ?_,fun _=>e⟩
    rcases Nat.lt_or_ge g i with h | h
    · exact absurd hg (h3 g h)
    · rw [List.getD_eq_getElem?_getD,List.getElem?_eq_none (by omega)] at hg
      exact absurd hg (by decide)
  | succ m ih =>
    intro n i h1 h2 h3
    obtain ⟨n,rfl⟩:∃ q,n=q+1:=⟨n - 1,by omega⟩
    have hi:i<x.length:=by omega
    have ea:at_ x (i:Int)=x.getD i 0:=by rw [zG8 hi,List.getD_eq_getElem?_getD,List.getElem?_eq_getElem hi]; rfl
    have e:zBl z x (n+1) (i:Int)=cnd (decide (1<x.getD i 0)) (some 7) (zBl z x n ((i+1:Nat):Int)):=by
      show zDZ _ _ _ _=_
      unfold zDZ
      rw [zAV (dt (by omega)),zj (zAT hi),ea,zj (zAG (by omega))]
      rfl
    rw [e]
    by_cases h7:1<x.getD i 0
    · rw [zAV (dt h7)]
      exact ⟨fun _=>rfl,fun h=>absurd h7 (h i)⟩
    · rw [zAD (df h7)]
      exact ih n (i+1) (by omega) (by omega) (fun g hg=>by
        by_cases e:g=i
        · rw [e]; exact h7
        · exact h3 g (by omega))
def Adj (z:zp) (k:Nat) (l:List Int) (i:Nat):Prop:=0<i∧i<l.length∧at_ l (i:Int)=at_ l ((i - 1:Nat):Int)+2 ^ k∧inside z (at_ l ((i - 1:Nat):Int)) (k+1)=true
theorem zT2 (hr:ranges z=true) (hk:k<4) (hin:∀ f,f∈l→inside z f k=true) (hs:Srt l):(∃ i,Adj z k l i)↔zOv z k l l=true:=by
  have hp:=zJv k
  have hps:=zNc k
  have key:∀ r,zOv z k l r=true ↔ ∃ f,f∈r∧bud f k∈l∧inside z (min f (bud f k)) (k+1)=true:=by
    intro r
    induction r with
    | nil=>unfold zOv; simp
    | cons f r ih =>
      unfold zOv
      by_cases h:(decide (bud f k∈l)&&inside z (min f (bud f k)) (k+1))=true
      · rw [if_pos h]
        simp only [Bool.and_eq_true,decide_eq_true_eq] at h
        exact ⟨fun _=>⟨f,by simp,h.1,h.2⟩,fun _=>rfl⟩
      · rw [if_neg h,ih]
        simp only [Bool.and_eq_true,decide_eq_true_eq] at h
        constructor
        · rintro ⟨g,h1,h2⟩; exact ⟨g,by simp [h1],h2⟩
        · rintro ⟨g,h1,h2,h3⟩
          rcases List.mem_cons.1 h1 with rfl | h1
          · exact absurd ⟨h2,h3⟩ h
          · exact ⟨g,h1,h2,h3⟩
  rw [key]
  constructor
  · rintro ⟨i,h0,hi,he,hq⟩
    have hi':i - 1<l.length:=by omega
    rw [zG8 hi,zG8 hi'] at he
    rw [zG8 hi'] at hq
    have hb:=zAe hr (hin _ (List.getElem_mem hi'))
    have ha:=(zBW hr).1 (hin _ (List.getElem_mem hi'))
    have ha2:=(zBW hr).1 hq
    have hbu:bud l[i - 1] k=l[i - 1]+2 ^ k:=by
      rcases zMt hk hb.1 (by omega) ha.2.1 with ⟨_,e⟩ | ⟨e,_⟩
      · exact e
      · rw [ha2.2.1] at e; omega
    refine ⟨l[i - 1],List.getElem_mem hi',?_,?_⟩
    · rw [hbu, ← he]; exact List.getElem_mem hi
    · rw [hbu,Int.min_eq_left (by omega)]; exact hq
  · rintro ⟨f,h1,h2,h3⟩
    have main:∀ x,x∈l→x+2 ^ k∈l→inside z x (k+1)=true → ∃ i,Adj z k l i:=by
      intro x hx hy hq
      obtain ⟨p,hp1,rfl⟩:=List.getElem_of_mem hx
      obtain ⟨q,hq1,hq2⟩:=List.getElem_of_mem hy
      have hpq:p<q:=by
        rcases Nat.lt_trichotomy p q with h | h | h
        · exact h
        · subst h; omega
        · have:=zJq hs (List.getElem?_eq_getElem hq1) (List.getElem?_eq_getElem hp1) h
          omega
      have hn:p+1<l.length:=by omega
      have hlt:=zJq hs (List.getElem?_eq_getElem hp1) (List.getElem?_eq_getElem hn) (by omega)
      have hle:l[p+1]≤l[q]:=by
        by_cases e:p+1=q
        · subst e; omega
        · have:=zJq hs (List.getElem?_eq_getElem hn) (List.getElem?_eq_getElem hq1) (by omega)
          omega
      have a1:=((zBW hr).1 (hin _ (List.getElem_mem hp1))).2.1
      have a2:=((zBW hr).1 (hin _ (List.getElem_mem hn))).2.1
      have he:l[p+1]=l[p]+2 ^ k:=by
        have hk':k=0∨k=1∨k=2∨k=3:=by omega
        rcases hk' with rfl | rfl | rfl | rfl <;> simp only [pw0,pw1,pw2,pw3] at * <;> omega
      refine ⟨p+1,by omega,hn,?_,?_⟩
      · rw [zG8 hn,show p+1 - 1=p by omega,zG8 hp1]; exact he
      · rw [show p+1 - 1=p by omega,zG8 hp1]; exact hq
    have hb:=zAe hr (hin f h1)
    have ha:=(zBW hr).1 (hin f h1)
    rcases zMt hk hb.1 (by omega) ha.2.1 with ⟨_,e⟩ | ⟨_,e⟩
    · rw [e] at h2 h3
      rw [Int.min_eq_left (by omega)] at h3
      exact main f h1 h2 h3
    · rw [e] at h2 h3
      rw [Int.min_eq_right (by omega)] at h3
      exact main (f - 2 ^ k) h2 (by rw [show f - 2 ^ k+2 ^ k=f by omega]; exact h1) h3
theorem rc1 {se:Int→Option Int} (hz:Zk z) (hr:ranges z=true) (hk:k<4) (hl:lst z k=l) (hin:∀ f,f∈l→inside z f k=true):∀ (m n i:Nat),l.length≤i+m→i≤1000001→m<n→0<i→(∀ j,j<i → ¬ Adj z k l j) →
    ((∃ j,Adj z k l j)→zBj se z (k:Int) n (i:Int)=some 11)∧((∀ j,¬ Adj z k l j)→zBj se z (k:Int) n (i:Int)=se ((k+1:Nat):Int)):=by
  have hb:l.length≤1000000:=by rw [← hl]; exact hz.bd k
  have e:z.free.getD (k:Int).toNat []=l:=hl
  obtain ⟨e2,p1,p2⟩:=zJe (k:=k) (by omega)
  have hend:∀ n i:Nat,l.length≤i→(∀ j,j<i → ¬ Adj z k l j)→((∃ j,Adj z k l j)→zBj se z (k:Int) (n+1) (i:Int)=some 11)∧((∀ j,¬ Adj z k l j)→zBj se z (k:Int) (n+1) (i:Int)=se ((k+1:Nat):Int)):=by
    intro n i h1 h4
    refine ⟨fun ⟨j,hj⟩=>absurd hj (h4 j (by have:=hj.2.1; omega)),fun _ => ?_⟩
    show zDV _ _ _ _ _=_
    unfold zDV zHL
    rw [e,zj (zAT (by omega)),zAD (df (by omega)),zj (zAG (by omega))]
    rfl
  intro m
  induction m with
  | zero =>
    intro n i h1 hi6 h2 h3 h4
    obtain ⟨n,rfl⟩:∃ q,n=q+1:=⟨n - 1,by omega⟩
    exact hend n i (by omega) h4
  | succ m ih =>
    intro n i h1 hi6 h2 h3 h4
    obtain ⟨n,rfl⟩:∃ q,n=q+1:=⟨n - 1,by omega⟩
    by_cases hi:i<l.length
    · have hbd:=zAe hr (hin _ (List.getElem_mem (show i - 1<l.length by omega)))
      have hat:=zG8 (l:=l) (i:=i - 1) (by omega)
      have ee:zBj se z (k:Int) (n+1) (i:Int)=cnd (decide (at_ l (i:Int)=at_ l ((i - 1:Nat):Int)+2 ^ k)&&inside z (at_ l ((i - 1:Nat):Int)) (k+1)) (some 11) (zBj se z (k:Int) n ((i+1:Nat):Int)):=by
        show zDV _ _ _ _ _=_
        unfold zDV
        have hbl:zCG z (at_ l ((i - 1:Nat):Int)) ((k:Int)+1)=some (inside z (at_ l ((i - 1:Nat):Int)) (k+1)):=zKt (k:=k+1) hr (by omega)
        rw [e,e2,zj (zAT (by omega)),zAV (dt (by omega)),zj (zAT hi),zj (zAG (by omega)),zOV h3,zj (zAT (by omega)),zj (dt (zIP (by omega) (by omega))),zj (zNz (by omega)),zj (zAG (by omega)),zj (zAG (by rw [hat]; omega)),zj (zMd (zAG (by omega))),hbl,zj (zAG (by omega))]
        cases decide (at_ l (i:Int)=at_ l ((i - 1:Nat):Int)+2 ^ k) with
        | true=>rfl
        | false=>rfl
      rw [ee]
      by_cases ha:Adj z k l i
      · rw [dt ha.2.2.1,ha.2.2.2]
        exact ⟨fun _=>rfl,fun h=>absurd ha (h i)⟩
      · have hf:(decide (at_ l (i:Int)=at_ l ((i - 1:Nat):Int)+2 ^ k)&&inside z (at_ l ((i - 1:Nat):Int)) (k+1))=false:=by
          refine Bool.eq_false_iff.2 fun h=>ha ?_
          simp only [Bool.and_eq_true,decide_eq_true_eq] at h
          exact ⟨h3,hi,h.1,h.2⟩
        rw [zAD hf]
        exact ih n (i+1) (by omega) (by omega) (by omega) (by omega) (fun j hj=>by
          by_cases e:j=i
          · rw [e]; exact ha
          · exact h4 j (by omega))
    · exact hend n i (by omega) h4
theorem rc0 (hz:Zk z) (hr:ranges z=true) (hin:∀ k,k<5 → ∀ f,f∈lst z k→inside z f k=true) (hs:∀ k,Srt (lst z k)):∀ (m n k:Nat),k+m=4→m<n →
    zBk z n (k:Int)=if zLQ z k ((z.free.take 4).drop k)=true then some 11 else some 0:=by
  intro m
  induction m with
  | zero =>
    intro n k h1 h2
    obtain ⟨n,rfl⟩:∃ q,n=q+1:=⟨n - 1,by omega⟩
    show zDU _ _ _=_
    unfold zDU
    rw [zAD (df (by omega)),List.drop_eq_nil_of_le (by rw [List.length_take,hz.len]; omega)]
    rfl
  | succ m ih =>
    intro n k h1 h2
    obtain ⟨n,rfl⟩:∃ q,n=q+1:=⟨n - 1,by omega⟩
    show zDU _ _ _=_
    unfold zDU
    have hb:=hz.bd k
    obtain ⟨a1,a2⟩:=List.getElem?_eq_some_iff.1 (zMI (hz.get (k:=k) (by omega)) (show k<4 by omega))
    have hc:=rc1 (se:=zBk z n) hz hr (k:=k) (by omega) rfl (hin k (by omega)) (lst z k).length z9 1 (by omega) (by omega) (by unfold z9; omega) (by omega) (fun j hj h=>by have:=h.1; omega)
    rw [zAV (dt (by omega)),List.drop_eq_getElem_cons a1,a2]
    conv=>rhs; unfold zLQ
    have hab:=zT2 (l:=lst z k) hr (by omega) (hin k (by omega)) (hs k)
    by_cases hq:zOv z k (lst z k) (lst z k)=true
    · rw [if_pos hq,if_pos rfl]
      exact hc.1 (hab.2 hq)
    · rw [if_neg hq]
      refine (hc.2 (fun j hj=>hq (hab.1 ⟨j,hj⟩))).trans ?_
      exact ih n (k+1) (by omega) (by omega)
theorem zRa (hz:Zk z):zF2 z=some (zD5 z):=by
  unfold zF2 zD5
  rw [zP9,zCz]
  cases hr:ranges z with
  | false=>rfl
  | true =>
    rw [Bool.not_true,zAD rfl,if_neg (by simp)]
    unfold zGO
    rw [show (0:Int)=((0:Nat):Int) from rfl,rl5 hz hr 5 z9 0 (by omega) (by unfold z9; omega) rfl,zCz]
    show cnd (!decide (zEZ z 0 z.free=0)) _ _=some (if zEZ z 0 z.free=0 then _ else _)
    by_cases h0:zEZ z 0 z.free=0
    · rw [dt h0,if_pos h0,Bool.not_true,zAD rfl]
      have hl:=fun k=>zLt hz h0 k
      rw [zRZ hz hr (fun k _=>(hl k).1),zCz]
      have hm:=zVd hz hr (fun k _=>(hl k).1)
      have hc:=rc2 (z:=z) (zPB (z:=z)) 256 z9 0 (by omega) (by unfold z9; omega) (fun g hg=>by omega)
      show zBl z (zON z) z9 ((0:Nat):Int)=_
      cases hd:zHt 0 zEI z.free with
      | none =>
        rw [hd] at hm
        rw [hc.1 hm]
        rfl
      | some d =>
        rw [hd] at hm
        rw [hc.2 (fun g hg=>by
          cases hb:d.getD g false with
          | true=>have:=hm.t g hb; omega
          | false=>have:=hm.f g hb; omega),if_neg (by simp)]
        unfold zEf
        rw [show (0:Int)=((0:Nat):Int) from rfl,rc0 hz hr (fun k _=>(hl k).1) (fun k=>(hl k).2) 4 z9 0 (by omega) (by unfold z9; omega),List.drop_zero]
        split <;> rfl
    · rw [df h0,if_neg h0]
      rfl
end
end Go.Proofs.YtplkliakhdkpcaaGreat
namespace Go.Proofs.YtplkliakhdkpcaaGreat
open Go Go.RowKit Go.Wk Go.Am
def zJg (z:zp) (f:Int):Bool:=decide (zD5 z=0)&&inside z f 0&&decide (0<(zON z).getD f.toNat 0)
theorem zRq:∀ k:Fin 5, ∀ x:Fin 256,zLO .andNot .i64 (x.val:Int) (2 ^ k.val - 1)=((x.val/2 ^ k.val*2 ^ k.val:Nat):Int):=by decide +kernel
section
variable {z:zp} {k:Nat} {l:List Int}
theorem zHF (hz:Zk z) (h:zD5 z=0):ranges z=true∧(∀ k,k<5 → ∀ f,f∈lst z k→inside z f k=true)∧(∀ k,Srt (lst z k)):=by
  have hr:=zCm h
  have hc:zEZ z 0 z.free=0:=by
    unfold zD5 at h
    rw [if_neg (by rw [hr]; simp)] at h
    by_cases h0:zEZ z 0 z.free=0
    · exact h0
    · rw [if_neg h0] at h; exact h
  exact ⟨hr,fun k _=>(zLt hz hc k).1,fun k=>(zLt hz hc k).2⟩
theorem zPR (hz:Zk z) (h:zD5 z=0) {f:Nat} (hf:f<256):∀ (m n k:Nat),k+m=5→m<n → ∃ r,zDe z (f:Int) n (k:Int)=some r∧(0≤r.1 ↔ ∃ j,k≤j∧j<5∧((f/2 ^ j*2 ^ j:Nat):Int)∈lst z j):=by
  obtain ⟨hr,hin,hs⟩:=zHF hz h
  intro m
  induction m with
  | zero =>
    intro n k h1 h2
    obtain ⟨n,rfl⟩:∃ q,n=q+1:=⟨n - 1,by omega⟩
    refine ⟨(-1,0),?_,⟨fun hh=>absurd hh (by decide),fun ⟨j,a,b,_⟩=>by omega⟩⟩
    show zDQ _ _ _ _=_
    unfold zDQ
    rw [zAD (df (by omega))]
    rfl
  | succ m ih =>
    intro n k h1 h2
    obtain ⟨n,rfl⟩:∃ q,n=q+1:=⟨n - 1,by omega⟩
    obtain ⟨e2,p1,p2⟩:=zJe (k:=k) (by omega)
    have e:z.free.getD (k:Int).toNat []=lst z k:=rfl
    have ha:=zRq ⟨k,by omega⟩ ⟨f,hf⟩
    simp only at ha
    have ee:zDe z (f:Int) (n+1) (k:Int)=cnd (decide (((f/2 ^ k*2 ^ k:Nat):Int)∈lst z k)) (some ((k:Int),((f/2 ^ k*2 ^ k:Nat):Int))) (zDe z (f:Int) n ((k+1:Nat):Int)):=by
      show zDQ _ _ _ _=_
      unfold zDQ
      rw [zAV (dt (by omega)),zj (zNz (by omega)),e2,zj (zAG (by omega)),zj (zAG (by omega)),zj (zAT (by omega)),e,ha,zSE (hs k) (hz.bd k),zCz,zj (zAG (by omega))]
      rfl
    rw [ee]
    by_cases hm:((f/2 ^ k*2 ^ k:Nat):Int)∈lst z k
    · rw [zAV (dt hm)]
      exact ⟨_,rfl,⟨fun _=>⟨k,Nat.le_refl _,by omega,hm⟩,fun _=>Int.natCast_nonneg k⟩⟩
    · rw [zAD (df hm)]
      obtain ⟨r,r1,r2⟩:=ih n (k+1) (by omega) (by omega)
      refine ⟨r,r1,r2.trans ⟨fun ⟨j,a,b,c⟩=>⟨j,by omega,b,c⟩,fun ⟨j,a,b,c⟩=>⟨j,?_,b,c⟩⟩⟩
      by_cases hjk:j=k
      · subst hjk; exact absurd c hm
      · omega
theorem zRE {s:List Int} {i m g:Nat} (h:i+m≤s.length) (hg:0≤s.getD g 0):0<(zIr s i m).getD g 0↔0<s.getD g 0∨(i≤g∧g<i+m):=by
  rw [zJs _ _ _ _ h]
  split
  · rename_i hq
    exact ⟨fun _ => .inr hq,fun _=>by omega⟩
  · rename_i hq
    exact ⟨.inl,fun h=>h.resolve_right hq⟩
theorem zOS (hr:ranges z=true) (hk:k<5) {g:Nat}:∀ (l:List Int) {s:List Int},s.length=256→(∀ f,f∈l→inside z f k=true)→0≤s.getD g 0→(0<(zHr k s l).getD g 0↔0<s.getD g 0 ∨ ∃ x,x∈l∧x≤(g:Int)∧(g:Int)<x+2 ^ k)
  | [],s,_,_,_=>by unfold zHr; simp
  | x::l,s,hs,hin,h0=>by
    have hbd:=zAe hr (hin x (by simp))
    have pn:=zLs (k:=k) (by omega)
    have hle:=zLx (2 ^ k) x.toNat s g
    unfold zHr
    rw [zOS hr hk l (by rw [zJ6]; exact hs) (fun f hf=>hin f (by simp [hf])) (by omega),zRE (by rw [hs]; omega) h0]
    constructor
    · rintro ((h | h) | ⟨y,h1,h2⟩)
      · exact .inl h
      · exact .inr ⟨x,by simp,by omega,by omega⟩
      · exact .inr ⟨y,by simp [h1],h2⟩
    · rintro (h | ⟨y,h1,h2,h3⟩)
      · exact .inl (.inl h)
      · rcases List.mem_cons.1 h1 with rfl | h1
        · exact .inl (.inr (by omega))
        · exact .inr ⟨y,h1,h2,h3⟩
theorem zM6 (hr:ranges z=true) {g:Nat}:∀ (ls:List (List Int)) (k:Nat) {s:List Int},k+ls.length=5→s.length=256→(∀ j l,ls[j]?=some l → ∀ f,f∈l→inside z f (k+j)=true)→0≤s.getD g 0 →
    (0<(zGv k s ls).getD g 0↔0<s.getD g 0 ∨ ∃ j l x,ls[j]?=some l∧x∈l∧x≤(g:Int)∧(g:Int)<x+2 ^ (k+j))
  | [],k,s,_,_,_,_=>by unfold zGv; simp
  | l::ls,k,s,hk,hs,hin,h0=>by
    have hk':k+(ls.length+1)=5:=hk
    have hle:=zJT l k s g
    unfold zGv
    rw [zM6 hr ls (k+1) (by omega) (by rw [zH8]; exact hs) (fun j l' hj f hf=>by
        have:=hin (j+1) l' hj f hf
        rwa [show k+(j+1)=k+1+j by omega] at this) (by omega),zOS hr (by omega) l hs (fun f hf=>by have:=hin 0 l rfl f hf; rwa [Nat.add_zero] at this) h0]
    constructor
    · rintro ((h | ⟨x,h1,h2,h3⟩) | ⟨j,l',x,h1,h2,h3,h4⟩)
      · exact .inl h
      · exact .inr ⟨0,l,x,rfl,h1,h2,h3⟩
      · exact .inr ⟨j+1,l',x,h1,h2,h3,by rw [show k+(j+1)=k+1+j by omega]; exact h4⟩
    · rintro (h | ⟨j,l',x,h1,h2,h3,h4⟩)
      · exact .inl (.inl h)
      · cases j with
        | zero =>
          simp at h1
          subst h1
          exact .inl (.inr ⟨x,h2,h3,h4⟩)
        | succ j=>exact .inr ⟨j,l',x,by simpa using h1,h2,h3,by rw [show k+1+j=k+(j+1) by omega]; exact h4⟩
theorem zL9 (hz:Zk z) (hr:ranges z=true) (hin:∀ k,k<5 → ∀ f,f∈lst z k→inside z f k=true) (g:Nat):0<(zON z).getD g 0↔cov z g:=by
  unfold zON
  have h0:(List.replicate 256 (0:Int)).getD g 0=0:=by
    rw [List.getD_eq_getElem?_getD,List.getElem?_replicate]
    split <;> rfl
  rw [zM6 hr z.free 0 (by rw [hz.len]) (by rw [List.length_replicate]) (fun j l hj f hf=>by
    have hj5:j<5:=by rw [← hz.len]; exact (List.getElem?_eq_some_iff.1 hj).1
    rw [hz.get hj5] at hj
    cases hj
    rw [Nat.zero_add]
    exact hin j hj5 f hf) (by rw [h0]; decide),h0]
  constructor
  · rintro (h | ⟨j,l,x,h1,h2,h3,h4⟩)
    · exact absurd h (by decide)
    · have hj5:j<5:=by rw [← hz.len]; exact (List.getElem?_eq_some_iff.1 h1).1
      rw [hz.get hj5] at h1
      cases h1
      rw [Nat.zero_add] at h4
      exact ⟨j,x,h2,h3,h4⟩
  · rintro ⟨j,x,h2,h3,h4⟩
    rcases Nat.lt_or_ge j 5 with hj | hj
    · exact .inr ⟨j,lst z j,x,hz.get hj,h2,h3,by rw [Nat.zero_add]; exact h4⟩
    · rw [zKz hz.len hj] at h2; exact absurd h2 (by simp)
theorem zNG {f:Nat} {x:Int} (hk:k<5) (h0:0≤x) (ha:x%2 ^ k=0):(x≤(f:Int)∧(f:Int)<x+2 ^ k)↔x=((f/2 ^ k*2 ^ k:Nat):Int):=by
  have hk':k=0∨k=1∨k=2∨k=3∨k=4:=by omega
  rcases hk' with rfl | rfl | rfl | rfl | rfl <;> simp only [pw0,pw1,pw2,pw3,pw4,Nat.reducePow] at * <;> omega
theorem zUw (hz:Zk z) (f:Int):zF4 z f=some (zJg z f):=by
  unfold zF4 zJg
  rw [zRa hz,zCz]
  by_cases h:zD5 z=0
  · obtain ⟨hr,hin,_⟩:=zHF hz h
    have hbl:zCG z f 0=some (inside z f 0):=zKt (k:=0) hr (by omega)
    rw [dt h,zAV rfl,hbl,zCz]
    cases hi:inside z f 0 with
    | false=>rfl
    | true =>
      have hb:=zAe hr hi
      rw [pw0] at hb
      obtain ⟨m,rfl⟩:=Int.eq_ofNat_of_zero_le hb.1
      have hm:m<(zON z).length:=by rw [zPB]; omega
      rw [Bool.and_true,zAV rfl,zRZ hz hr hin,zCz,zj (zMd (zAT hm)),zG8 hm,Int.toNat_natCast,List.getD_eq_getElem?_getD,List.getElem?_eq_getElem hm]
      rfl
  · rw [df h]
    rfl
theorem zU9 (hz:Zk z) (hI:inI z.start=true) (f:Int):zF8 z f=some (zJg z f):=by
  unfold zF8 zJg
  rw [zRX hz hI,zCz]
  by_cases h:zD5 z=0
  · obtain ⟨hr,hin,_⟩:=zHF hz h
    have hie:zB7 z f 0=some (inside z f 0):=zJr (k:=0) hr (by omega)
    rw [dt h,Bool.not_true,Bool.not_false,zAV rfl,hie,zCz]
    cases hi:inside z f 0 with
    | false=>rfl
    | true =>
      have hb:=zAe hr hi
      rw [pw0] at hb
      obtain ⟨m,rfl⟩:=Int.eq_ofNat_of_zero_le hb.1
      refine (zAD (by rfl)).trans ?_
      unfold zG9
      obtain ⟨r,r1,r2⟩:=zPR hz h (f:=m) (by omega) 5 z9 0 (by omega) (by unfold z9; omega)
      rw [show (0:Int)=((0:Nat):Int) from rfl,r1,zCz]
      congr 1
      rw [Bool.true_and,Bool.true_and,decide_eq_decide,Int.toNat_natCast]
      refine Iff.trans r2 (Iff.trans ?_ (zL9 hz hr hin m).symm)
      constructor
      · rintro ⟨j,_,hj,hm⟩
        have hbj:=zAe hr (hin j hj _ hm)
        have haj:=(zBW hr).1 (hin j hj _ hm)
        have:=(zNG (f:=m) hj hbj.1 haj.2.1).2 rfl
        exact ⟨j,_,hm,this.1,this.2⟩
      · rintro ⟨j,x,hx,h1,h2⟩
        rcases Nat.lt_or_ge j 5 with hj | hj
        · have hbj:=zAe hr (hin j hj _ hx)
          have haj:=(zBW hr).1 (hin j hj _ hx)
          have:=(zNG (f:=m) hj hbj.1 haj.2.1).1 ⟨h1,h2⟩
          exact ⟨j,Nat.zero_le _,hj,this▸hx⟩
        · rw [zKz hz.len hj] at hx; exact absurd hx (by simp)
  · rw [df h]
    rfl
end
end Go.Proofs.YtplkliakhdkpcaaGreat
namespace Go.Proofs.YtplkliakhdkpcaaGreat
open Go Go.RowKit Go.Wk Go.Am
structure Ck (c:zL):Prop where
  n:c.lists.length≤1000
  l:∀ x,x∈c.lists→x.length≤1000
def pcR (c:zL) (zn:Int):Int :=
  if zn<1∨6<zn then 1 else if (c.lists.length:Int)=zn then (if c.lists.flatten.all zCk=true then (if c.lists.flatten.Nodup then 0 else 7) else 2) else 3
section
variable {c:zL}
theorem Ck.le (h:Ck c) {i:Nat} (hi:i<c.lists.length):c.lists[i].length≤1000:=h.l _ (List.getElem_mem hi)
theorem zNS {i:Nat} (hi:i<c.lists.length):(c.lists.drop i).flatten=c.lists[i]++(c.lists.drop (i+1)).flatten:=by
  rw [List.drop_eq_getElem_cons hi]
  rfl
theorem zN3 {i:Nat} (hi:c.lists.length≤i):(c.lists.drop i).flatten=[]:=by rw [List.drop_eq_nil_of_le hi]; rfl
theorem pl1 {se:Int→Int→Option Int} {acc:Int} {j:Nat} {l:List Int} (hc:Ck c) (hj:j<c.lists.length) (hl:c.lists[j]=l) (h0:0≤acc∧acc≤1000000000):∀ (m n i:Nat),i+m=l.length→m<n →
    zE5 se c acc (j:Int) n (i:Int)=if (l.drop i).all zCk=true then se (acc+l.length) ((j+1:Nat):Int) else some 2:=by
  have hb:l.length≤1000:=by rw [← hl]; exact hc.le hj
  have hn:=hc.n
  have e:at_ c.lists (j:Int)=l:=by rw [zG8 hj,hl]
  intro m
  induction m with
  | zero =>
    intro n i h1 h2
    obtain ⟨n,rfl⟩:∃ q,n=q+1:=⟨n - 1,by omega⟩
    show zC2 _ _ _ _ _ _=_
    unfold zC2 zGr zGI
    rw [e,zAD (df (by omega)),zj (zAG (by omega)),zj (zAG (by omega)),List.drop_eq_nil_of_le (by omega)]
    rfl
  | succ m ih =>
    intro n i h1 h2
    obtain ⟨n,rfl⟩:∃ q,n=q+1:=⟨n - 1,by omega⟩
    have hi:i<l.length:=by omega
    show zC2 _ _ _ _ _ _=_
    unfold zC2
    rw [e,zAV (dt (by omega)),zj (zAT hi),zG8 hi,List.drop_eq_getElem_cons hi,List.all_cons,zj (zAG (by omega))]
    show cnd (!zCk l[i]) _ _=_
    cases hf:zCk l[i] with
    | false=>rfl
    | true=>exact ih n (i+1) (by omega) (by omega)
theorem pl0 (hc:Ck c):∀ (m n i acc:Nat),i+m=c.lists.length→m<n→acc≤i*1000 →
    zBX c n (acc:Int) (i:Int)=if ((c.lists.drop i).flatten).all zCk=true then zFM c ((acc+(c.lists.drop i).flatten.length:Nat):Int) else some 2:=by
  have hn:=hc.n
  intro m
  induction m with
  | zero =>
    intro n i acc h1 h2 h3
    obtain ⟨n,rfl⟩:∃ q,n=q+1:=⟨n - 1,by omega⟩
    show zCu _ _ _ _=_
    unfold zCu
    rw [zAD (df (by omega)),zN3 (by omega)]
    rfl
  | succ m ih =>
    intro n i acc h1 h2 h3
    obtain ⟨n,rfl⟩:∃ q,n=q+1:=⟨n - 1,by omega⟩
    have hi:i<c.lists.length:=by omega
    have hb:=hc.le hi
    show zCu _ _ _ _=_
    unfold zCu
    rw [zAV (dt (by omega)),zj (zAT hi),show (0:Int)=((0:Nat):Int) from rfl,pl1 hc hi rfl (by omega) c.lists[i].length z9 0 (by omega) (by unfold z9; omega),List.drop_zero,zNS hi,List.all_append,List.length_append]
    cases hf:c.lists[i].all zCk with
    | false=>rfl
    | true =>
      rw [if_pos rfl,Bool.true_and]
      have:=ih n (i+1) (acc+c.lists[i].length) (by omega) (by omega) (by omega)
      rw [show acc+c.lists[i].length+((c.lists.drop (i+1)).flatten).length=acc+(c.lists[i].length+((c.lists.drop (i+1)).flatten).length) by omega] at this
      rw [← this]
      congr 1
def zLH (m:List (Int×Bool)) (l:List Int):List (Int×Bool):=l.foldl (fun q f=>zJd q f true) m
theorem fm1 {se:Int→List (Int×Bool)→Option (List (Int×Bool))} {j:Nat} {l:List Int} (hc:Ck c) (hj:j<c.lists.length) (hl:c.lists[j]=l):∀ (m n i:Nat) (q:List (Int×Bool)),i+m=l.length→m<n →
    zEa se c (j:Int) n (i:Int) q=se ((j+1:Nat):Int) (zLH q (l.drop i)):=by
  have hb:l.length≤1000:=by rw [← hl]; exact hc.le hj
  have hn:=hc.n
  have e:at_ c.lists (j:Int)=l:=by rw [zG8 hj,hl]
  intro m
  induction m with
  | zero =>
    intro n i q h1 h2
    obtain ⟨n,rfl⟩:∃ q,n=q+1:=⟨n - 1,by omega⟩
    show zCb _ _ _ _ _ _=_
    unfold zCb zFw
    rw [e,zAD (df (by omega)),zj (zAG (by omega)),List.drop_eq_nil_of_le (by omega)]
    rfl
  | succ m ih =>
    intro n i q h1 h2
    obtain ⟨n,rfl⟩:∃ q,n=q+1:=⟨n - 1,by omega⟩
    have hi:i<l.length:=by omega
    show zCb _ _ _ _ _ _=_
    unfold zCb
    rw [e,zAV (dt (by omega)),zj (zAT hi),zG8 hi,List.drop_eq_getElem_cons hi,zj (zAG (by omega))]
    exact ih n (i+1) (zJd q l[i] true) (by omega) (by omega)
theorem fm0 (hc:Ck c):∀ (m n i:Nat) (q:List (Int×Bool)),i+m=c.lists.length→m<n→zBa c n (i:Int) q=some (zLH q (c.lists.drop i).flatten):=by
  have hn:=hc.n
  intro m
  induction m with
  | zero =>
    intro n i q h1 h2
    obtain ⟨n,rfl⟩:∃ q,n=q+1:=⟨n - 1,by omega⟩
    show zCc _ _ _ _=_
    unfold zCc
    rw [zAD (df (by omega)),zN3 (by omega)]
    rfl
  | succ m ih =>
    intro n i q h1 h2
    obtain ⟨n,rfl⟩:∃ q,n=q+1:=⟨n - 1,by omega⟩
    have hi:i<c.lists.length:=by omega
    have hb:=hc.le hi
    show zCc _ _ _ _=_
    unfold zCc
    rw [zAV (dt (by omega)),zj (zAT hi),show (0:Int)=((0:Nat):Int) from rfl,fm1 hc hi rfl c.lists[i].length z9 0 q (by omega) (by unfold z9; omega),List.drop_zero,zNS hi,ih n (i+1) _ (by omega) (by omega)]
    unfold zLH
    rw [List.foldl_append]
theorem zOb (k:Int):∀ (q:List (Int×Bool)) (x:Int),x∈(zJd q k true).map (·.1)↔x=k∨x∈q.map (·.1)
  | [],x=>by simp [zJd]
  | p::q,x=>by
    unfold zJd
    by_cases h:p.1=k
    · rw [if_pos h]
      simp [h]
    · rw [if_neg h]
      simp only [List.map_cons,List.mem_cons,zOb k q x]
      constructor
      · rintro (h1 | h1 | h1)
        · exact .inr (.inl h1)
        · exact .inl h1
        · exact .inr (.inr h1)
      · rintro (h1 | h1 | h1)
        · exact .inr (.inl h1)
        · exact .inl h1
        · exact .inr (.inr h1)
theorem zPU (k:Int):∀ (q:List (Int×Bool)),(k∈q.map (·.1)→(zJd q k true).length=q.length)∧(k ∉ q.map (·.1)→(zJd q k true).length=q.length+1)
  | []=>by simp [zJd]
  | p::q=>by
    have ih:=zPU k q
    unfold zJd
    by_cases h:p.1=k
    · rw [if_pos h]
      exact ⟨fun _=>rfl,fun hn=>absurd (by simp [h]) hn⟩
    · rw [if_neg h]
      refine ⟨fun hm => ?_,fun hn => ?_⟩
      · have hm':k∈q.map (·.1):=by
          rcases List.mem_cons.1 hm with e | e
          · exact absurd e.symm h
          · exact e
        show (zJd q k true).length+1=q.length+1
        rw [ih.1 hm']
      · show (zJd q k true).length+1=q.length+1+1
        rw [ih.2 (fun hm=>hn (List.mem_cons_of_mem _ hm))]
theorem zOC:∀ (l:List Int) (q:List (Int×Bool)),(zLH q l).length≤q.length+l.length∧((zLH q l).length=q.length+l.length↔l.Nodup ∧ ∀ x,x∈l→x ∉ q.map (·.1))
  | [],q=>⟨Nat.le_refl _,by simp [zLH]⟩
  | a::l,q=>by
    obtain ⟨h1,h2⟩:=zOC l (zJd q a true)
    have e:zLH q (a::l)=zLH (zJd q a true) l:=rfl
    rw [e]
    have hk:=zOb a q
    have hl:=zPU a q
    by_cases ha:a∈q.map (·.1)
    · rw [hl.1 ha] at h1 h2
      refine ⟨by simp; omega,⟨fun h=>by simp at h; omega,fun h=>absurd ha (h.2 a (by simp))⟩⟩
    · rw [hl.2 ha] at h1 h2
      refine ⟨by simp; omega,?_⟩
      rw [show q.length+(a::l).length=q.length+1+l.length by simp; omega,h2,List.nodup_cons]
      constructor
      · rintro ⟨n1,n2⟩
        refine ⟨⟨fun hm=>n2 a hm ((hk a).2 (.inl rfl)),n1⟩,fun x hx => ?_⟩
        rcases List.mem_cons.1 hx with rfl | hx
        · exact ha
        · exact fun hq=>n2 x hx ((hk x).2 (.inr hq))
      · rintro ⟨⟨n0,n1⟩,n2⟩
        refine ⟨n1,fun x hx hq => ?_⟩
        rcases (hk x).1 hq with rfl | hq
        · exact n0 hx
        · exact n2 x (by simp [hx]) hq
theorem zSh (hc:Ck c) {zn:Int}:zF9 c zn=some (pcR c zn):=by
  unfold zF9 pcR
  by_cases h1:zn<1∨6<zn
  · rw [if_pos h1]
    refine zAV ?_
    rcases h1 with h1 | h1 <;> simp [h1]
  · have h1a:¬ zn<1:=fun h=>h1 (.inl h)
    have h1b:¬ 6<zn:=fun h=>h1 (.inr h)
    rw [if_neg h1,df h1a,df h1b]
    refine (zAD (by rfl)).trans ?_
    by_cases h2:(c.lists.length:Int)=zn
    · rw [if_pos h2,dt h2]
      refine (zAD (by rfl)).trans ?_
      have hp:=pl0 hc c.lists.length z9 0 0 (by omega) (by have:=hc.n; unfold z9; omega) (by omega)
      rw [List.drop_zero,Nat.zero_add] at hp
      refine Eq.trans hp ?_
      cases hf:c.lists.flatten.all zCk with
      | false=>rfl
      | true =>
        rw [if_pos rfl,if_pos rfl]
        unfold zFM zDM
        rw [show (0:Int)=((0:Nat):Int) from rfl,fm0 hc c.lists.length z9 0 [] (by omega) (by have:=hc.n; unfold z9; omega),zCz,List.drop_zero]
        have hm:=(zOC c.lists.flatten []).2
        simp only [List.length_nil,Nat.zero_add,List.map_nil,List.not_mem_nil,not_false_eq_true,implies_true,and_true] at hm
        by_cases hd:c.lists.flatten.Nodup
        · rw [if_pos hd,dt (by have:=hm.2 hd; omega)]
          rfl
        · rw [if_neg hd,df (fun h=>hd (hm.1 (by omega)))]
          rfl
    · rw [if_neg h2,df h2]
      rfl
def zJQ:List Bool→List Int→Option (List Bool)
  | d,[]=>some d
  | d,f::r=>if d.getD f.toNat false=true then none else zJQ (d.set f.toNat true) r
theorem zOP:∀ {l:List Int} {d d':List Bool},zJQ d l=some d'→d'.length=d.length
  | [],_,_,h=>by unfold zJQ at h; cases h; rfl
  | x::l,d,d',h=>by
    unfold zJQ at h
    split at h
    · cases h
    · rw [zOP h,List.length_set]
theorem zN1:∀ (l r:List Int) (d:List Bool),zJQ d (l++r)=(zJQ d l).bind fun d'=>zJQ d' r
  | [],_,_=>rfl
  | x::l,r,d=>by
    show (if d.getD x.toNat false=true then none else zJQ (d.set x.toNat true) (l++r))=(if d.getD x.toNat false=true then none else zJQ (d.set x.toNat true) l).bind fun d'=>zJQ d' r
    split
    · rfl
    · exact zN1 l r _
theorem zOd:∀ (l:List Int) (d:List Bool),d.length=256→(∀ f,f∈l→0≤f∧f<256)→(zJQ d l≠none↔l.Nodup ∧ ∀ f,f∈l→d.getD f.toNat false=false)
  | [],d,_,_=>by simp [zJQ]
  | x::l,d,hd,hin=>by
    have hx:=hin x (by simp)
    unfold zJQ
    cases hq:d.getD x.toNat false with
    | true =>
      rw [if_pos rfl]
      exact ⟨fun h=>absurd rfl h,fun h=>by have:=h.2 x (by simp); rw [hq] at this; cases this⟩
    | false =>
      rw [if_neg (by simp),zOd l _ (by rw [List.length_set]; exact hd) (fun f hf=>hin f (by simp [hf])),List.nodup_cons]
      constructor
      · rintro ⟨h1,h2⟩
        refine ⟨⟨fun hm => ?_,h1⟩,fun f hf => ?_⟩
        · have:=h2 x hm
          rw [zBo _ _ _ (by omega),if_pos rfl] at this
          cases this
        · rcases List.mem_cons.1 hf with rfl | hf
          · exact hq
          · have:=h2 f hf
            rw [zBo _ _ _ (by omega)] at this
            split at this
            · cases this
            · exact this
      · rintro ⟨⟨h0,h1⟩,h2⟩
        refine ⟨h1,fun f hf => ?_⟩
        have hfb:=hin f (by simp [hf])
        rw [zBo _ _ _ (by omega),if_neg]
        · exact h2 f (by simp [hf])
        · intro e
          have:f=x:=by omega
          exact h0 (this▸hf)
theorem ql3 {se:Int→Option Int} {j:Nat} {l:List Int} (hc:Ck c) (hj:j<c.lists.length) (hl:c.lists[j]=l):∀ (m n i:Nat),i+m=l.length→m<n →
    zFm se c (j:Int) n (i:Int)=if (l.drop i).all zCk=true then se ((j+1:Nat):Int) else some 2:=by
  have hb:l.length≤1000:=by rw [← hl]; exact hc.le hj
  have hn:=hc.n
  have e:at_ c.lists (j:Int)=l:=by rw [zG8 hj,hl]
  intro m
  induction m with
  | zero =>
    intro n i h1 h2
    obtain ⟨n,rfl⟩:∃ q,n=q+1:=⟨n - 1,by omega⟩
    show zDa _ _ _ _ _=_
    unfold zDa zHJ
    rw [e,zAD (df (by omega)),zj (zAG (by omega)),List.drop_eq_nil_of_le (by omega)]
    rfl
  | succ m ih =>
    intro n i h1 h2
    obtain ⟨n,rfl⟩:∃ q,n=q+1:=⟨n - 1,by omega⟩
    have hi:i<l.length:=by omega
    show zDa _ _ _ _ _=_
    unfold zDa
    have ho:zDH l[i]=some (!zCk l[i]):=by
      unfold zDH zCk
      congr 1
      rw [Bool.eq_iff_iff]
      simp only [Bool.or_eq_true,decide_eq_true_eq,Bool.not_eq_true',Bool.and_eq_false_iff,decide_eq_false_iff_not]
      omega
    rw [e,zAV (dt (by omega)),zj (zAT hi),zG8 hi,ho,zCz,List.drop_eq_getElem_cons hi,List.all_cons,zj (zAG (by omega))]
    cases hf:zCk l[i] with
    | false=>rfl
    | true=>exact ih n (i+1) (by omega) (by omega)
theorem ql2 (hc:Ck c):∀ (m n i:Nat),i+m=c.lists.length→m<n →
    zCK c n (i:Int)=if ((c.lists.drop i).flatten).all zCk=true then zFq c else some 2:=by
  have hn:=hc.n
  intro m
  induction m with
  | zero =>
    intro n i h1 h2
    obtain ⟨n,rfl⟩:∃ q,n=q+1:=⟨n - 1,by omega⟩
    show zDS _ _ _=_
    unfold zDS
    rw [zAD (df (by omega)),zN3 (by omega)]
    rfl
  | succ m ih =>
    intro n i h1 h2
    obtain ⟨n,rfl⟩:∃ q,n=q+1:=⟨n - 1,by omega⟩
    have hi:i<c.lists.length:=by omega
    have hb:=hc.le hi
    show zDS _ _ _=_
    unfold zDS
    rw [zAV (dt (by omega)),zj (zAT hi),show (0:Int)=((0:Nat):Int) from rfl,ql3 hc hi rfl c.lists[i].length z9 0 (by omega) (by unfold z9; omega),List.drop_zero,zNS hi,List.all_append]
    cases hf:c.lists[i].all zCk with
    | false=>rfl
    | true =>
      rw [if_pos rfl,Bool.true_and]
      exact ih n (i+1) (by omega) (by omega)
theorem ql1 {se:Int→List Bool→Option Int} {j:Nat} {l:List Int} (hc:Ck c) (hj:j<c.lists.length) (hl:c.lists[j]=l) (hin:∀ f,f∈l→0≤f∧f<256):∀ (m n i:Nat) (d:List Bool),i+m=l.length→m<n→d.length=256 →
    zFh se c (j:Int) n (i:Int) d=match zJQ d (l.drop i) with | none=>some 7 | some d'=>se ((j+1:Nat):Int) d':=by
  have hb:l.length≤1000:=by rw [← hl]; exact hc.le hj
  have hn:=hc.n
  have e:at_ c.lists (j:Int)=l:=by rw [zG8 hj,hl]
  intro m
  induction m with
  | zero =>
    intro n i d h1 h2 h3
    obtain ⟨n,rfl⟩:∃ q,n=q+1:=⟨n - 1,by omega⟩
    show zDd _ _ _ _ _ _=_
    unfold zDd zHN
    rw [e,zAD (df (by omega)),zj (zAG (by omega)),List.drop_eq_nil_of_le (by omega)]
    rfl
  | succ m ih =>
    intro n i d h1 h2 h3
    obtain ⟨n,rfl⟩:∃ q,n=q+1:=⟨n - 1,by omega⟩
    have hi:i<l.length:=by omega
    have hf:=hin _ (List.getElem_mem hi)
    obtain ⟨f,hf2⟩:=Int.eq_ofNat_of_zero_le hf.1
    have hfl:f<d.length:=by omega
    show zDd _ _ _ _ _ _=_
    unfold zDd
    have ed:at_ d (f:Int)=d.getD f false:=by rw [zG8 hfl,List.getD_eq_getElem?_getD,List.getElem?_eq_getElem hfl]; rfl
    rw [e,zAV (dt (by omega)),zj (zAT hi),zG8 hi,List.drop_eq_getElem_cons hi,hf2,zj (zAT hfl),ed,zj (zAG (by omega)),Int.toNat_natCast]
    unfold zJQ
    rw [Int.toNat_natCast]
    cases hd:d.getD f false with
    | true=>rfl
    | false =>
      rw [zAD rfl,if_neg (by simp)]
      exact ih n (i+1) (d.set f true) (by omega) (by omega) (by rw [List.length_set]; exact h3)
theorem ql0 (hc:Ck c) (hin:∀ f,f∈c.lists.flatten→0≤f∧f<256):∀ (m n i:Nat) (d:List Bool),i+m=c.lists.length→m<n→d.length=256 →
    zCN c n (i:Int) d=match zJQ d (c.lists.drop i).flatten with | none=>some 7 | some _=>some 0:=by
  have hn:=hc.n
  intro m
  induction m with
  | zero =>
    intro n i d h1 h2 h3
    obtain ⟨n,rfl⟩:∃ q,n=q+1:=⟨n - 1,by omega⟩
    show zDc _ _ _ _=_
    unfold zDc
    rw [zAD (df (by omega)),zN3 (by omega)]
    rfl
  | succ m ih =>
    intro n i d h1 h2 h3
    obtain ⟨n,rfl⟩:∃ q,n=q+1:=⟨n - 1,by omega⟩
    have hi:i<c.lists.length:=by omega
    have hb:=hc.le hi
    show zDc _ _ _ _=_
    unfold zDc
    rw [zAV (dt (by omega)),zj (zAT hi),show (0:Int)=((0:Nat):Int) from rfl,ql1 hc hi rfl (fun f hf=>hin f (List.mem_flatten.2 ⟨_,List.getElem_mem hi,hf⟩)) c.lists[i].length z9 0 d (by omega) (by unfold z9; omega) h3,List.drop_zero,zNS hi,zN1]
    cases hm:zJQ d c.lists[i] with
    | none=>rfl
    | some d'=>exact ih n (i+1) d' (by omega) (by omega) (by rw [zOP hm]; exact h3)
theorem zSa (hc:Ck c) {zn:Int}:zG7 c zn=some (pcR c zn):=by
  unfold zG7 pcR
  by_cases h1:zn<1∨6<zn
  · rw [if_pos h1]
    refine zAV ?_
    rcases h1 with h1 | h1 <;> simp [h1]
  · have h1a:¬ zn<1:=fun h=>h1 (.inl h)
    have h1b:¬ 6<zn:=fun h=>h1 (.inr h)
    rw [if_neg h1,df h1a,df h1b]
    refine (zAD (by rfl)).trans ?_
    by_cases h2:(c.lists.length:Int)=zn
    · rw [if_pos h2,dt h2]
      refine (zAD (by rfl)).trans ?_
      have hp:=ql2 hc c.lists.length z9 0 (by omega) (by have:=hc.n; unfold z9; omega)
      rw [List.drop_zero] at hp
      refine Eq.trans hp ?_
      cases hf:c.lists.flatten.all zCk with
      | false=>rfl
      | true =>
        rw [if_pos rfl,if_pos rfl]
        unfold zFq
        have hin:∀ f,f∈c.lists.flatten→0≤f∧f<256:=fun f hm=>by
          have:=List.all_eq_true.1 hf f hm
          unfold zCk at this
          simpa using this
        rw [zj (by rfl),show (0:Int)=((0:Nat):Int) from rfl,ql0 hc hin c.lists.length z9 0 _ (by omega) (by have:=hc.n; unfold z9; omega) (by rw [List.length_replicate]; rfl),List.drop_zero]
        have hm:=zOd c.lists.flatten (List.replicate (256:Int).toNat false) (by rw [List.length_replicate]; rfl) hin
        have hz:∀ f:Int,f∈c.lists.flatten→(List.replicate (256:Int).toNat false).getD f.toNat false=false:=fun f _=>by
          rw [List.getD_eq_getElem?_getD,List.getElem?_replicate]
          split <;> rfl
        by_cases hd:c.lists.flatten.Nodup
        · rw [if_pos hd]
          have:=hm.2 ⟨hd,hz⟩
          cases hq:zJQ (List.replicate (256:Int).toNat false) c.lists.flatten with
          | none=>exact absurd hq this
          | some d=>rfl
        · rw [if_neg hd]
          cases hq:zJQ (List.replicate (256:Int).toNat false) c.lists.flatten with
          | none=>rfl
          | some d=>exact absurd (hm.1 (by rw [hq]; simp)).1 hd
    · rw [if_neg h2,df h2]
      rfl
end
end Go.Proofs.YtplkliakhdkpcaaGreat
namespace Go.Proofs.YtplkliakhdkpcaaGreat
open Go Go.RowKit Go.Wk Go.Am
structure Al (a:zJ):Prop where
  n:a.nodes.length≤1000
  z:a.zones.length≤1000
  c:a.caches.length≤1000
  zk:∀ z,z∈a.zones→Zk z∧inI z.start=true
  ck:∀ c,c∈a.caches→Ck c
def inZ (z:zp) (f:Int):Bool:=decide (z.start≤f)&&decide (f<z.start+z.count)
def zE:Int→List zp→Int
  | _,[]=>0
  | s,z::r=>if zD5 z=0 then (if z.start=s then zE (s+z.count) r else 10) else zD5 z
def cE (h zn:Int):List zL→Int
  | []=>0
  | c::r=>if pcR c zn=0 then (if (c.lists.any fun l=>decide (h<(l.length:Int)))=true then 9 else cE h zn r) else pcR c zn
def feL (z:zp):List Bool→List Int→Int×List Bool
  | d,[]=>(0,d)
  | d,f::r=>if inZ z f=true then (if (d.getD f.toNat false||zJg z f)=true then (7,d) else feL z (d.set f.toNat true) r) else (2,d)
def feC:List Bool→List zp→List (List Int)→Int×List Bool
  | d,z::zs,l::ls=>if (feL z d l).1=0 then feC (feL z d l).2 zs ls else feL z d l
  | d,_,_=>(0,d)
def feA (zs:List zp):List Bool→List zL→Int
  | _,[]=>0
  | d,c::cs=>if (feC d zs c.lists).1=0 then feA zs (feC d zs c.lists).2 cs else (feC d zs c.lists).1
def zRy (a:zJ):Int :=
  if zSR a.nodes a.batch a.high (a.zones.length:Int)=true then
    (if zE 0 a.zones=0 then
      (if (a.caches.length:Int)=(a.nodes.length:Int) then
        (if cE a.high (a.zones.length:Int) a.caches=0 then feA a.zones zEI a.caches else cE a.high (a.zones.length:Int) a.caches) else 3)
    else zE 0 a.zones) else 2
section
variable {a:zJ}
theorem zA1 {α:Type} [Inhabited α] {l:List α} {i:Nat} (h:i<l.length):at_ l (i:Int)∈l:=by rw [zG8 h]; exact List.getElem_mem h
theorem zCX {α:Type} [Inhabited α] {l:List α} {i:Nat} (h:i<l.length):l.drop i=at_ l (i:Int)::l.drop (i+1):=by rw [zG8 h]; exact List.drop_eq_getElem_cons h
theorem zl5 (h:Al a):∀ (m n i:Nat) (s:Int),i+m=a.zones.length→m<n→0≤s∧s≤i*256 →
    zC8 a n s (i:Int)=if zE s (a.zones.drop i)=0 then zDG a else some (zE s (a.zones.drop i)):=by
  have hz:=h.z
  intro m
  induction m with
  | zero =>
    intro n i s h1 h2 h3
    obtain ⟨n,rfl⟩:∃ q,n=q+1:=⟨n - 1,by omega⟩
    show zB2 _ _ _ _=_
    unfold zB2
    rw [zAD (df (by omega)),List.drop_eq_nil_of_le (by omega)]
    rfl
  | succ m ih =>
    intro n i s h1 h2 h3
    obtain ⟨n,rfl⟩:∃ q,n=q+1:=⟨n - 1,by omega⟩
    have hi:i<a.zones.length:=by omega
    have hk:=h.zk _ (zA1 hi)
    show zB2 _ _ _ _=_
    unfold zB2
    rw [zAV (dt (by omega)),zj (zAT hi),zRX hk.1 hk.2,zCz,zCX hi]
    unfold zE
    generalize hz':at_ a.zones (i:Int)=z at *
    by_cases hc:zD5 z=0
    · have hb:=zBs (zCm hc)
      rw [dt hc,if_pos hc,Bool.not_true,zAD rfl]
      by_cases hs:z.start=s
      · rw [dt hs,if_pos hs,Bool.not_true,zAD rfl,zj (zAG (by omega)),zj (zAG (by omega))]
        exact ih n (i+1) (s+z.count) (by omega) (by omega) (by omega)
      · rw [df hs,if_neg hs]
        rfl
    · rw [df hc,if_neg hc,if_neg hc]
      rfl
theorem zr0 (h:Al a):∀ (m n i:Nat) (s:Int),i+m=a.zones.length→m<n→0≤s∧s≤i*256 →
    zFl a n s (i:Int)=if zE s (a.zones.drop i)=0 then zFd a else some (zE s (a.zones.drop i)):=by
  have hz:=h.z
  intro m
  induction m with
  | zero =>
    intro n i s h1 h2 h3
    obtain ⟨n,rfl⟩:∃ q,n=q+1:=⟨n - 1,by omega⟩
    show zDO _ _ _ _=_
    unfold zDO
    rw [zAD (df (by omega)),List.drop_eq_nil_of_le (by omega)]
    rfl
  | succ m ih =>
    intro n i s h1 h2 h3
    obtain ⟨n,rfl⟩:∃ q,n=q+1:=⟨n - 1,by omega⟩
    have hi:i<a.zones.length:=by omega
    have hk:=h.zk _ (zA1 hi)
    show zDO _ _ _ _=_
    unfold zDO
    rw [zAV (dt (by omega)),zj (zAT hi),zRa hk.1,zCz,zCX hi]
    unfold zE
    generalize hz':at_ a.zones (i:Int)=z at *
    by_cases hc:zD5 z=0
    · have hb:=zBs (zCm hc)
      rw [dt hc,if_pos hc,Bool.not_true,zAD rfl]
      by_cases hs:z.start=s
      · rw [dt hs,if_pos hs,Bool.not_true,zAD rfl,zj (zAG (by omega)),zj (zAG (by omega))]
        exact ih n (i+1) (s+z.count) (by omega) (by omega) (by omega)
      · rw [df hs,if_neg hs]
        rfl
    · rw [df hc,if_neg hc,if_neg hc]
      rfl
theorem zPT {l:List (List Int)} {h:Int} {i:Nat} (hi:i<l.length):((l.drop i).any fun q=>decide (h<(q.length:Int)))=(decide (h<((at_ l (i:Int)).length:Int))||(l.drop (i+1)).any fun q=>decide (h<(q.length:Int))):=by
  rw [zCX hi,List.any_cons]
theorem hl4 {se:Int→Option Int} {c:zL} {j:Nat} (hj:j<a.caches.length) (hc:at_ a.caches (j:Int)=c) (hk:Ck c) (ha:Al a):∀ (m n i:Nat),i+m=c.lists.length→m<n →
    zC9 se a (j:Int) n (i:Int)=if ((c.lists.drop i).any fun l=>decide (a.high<(l.length:Int)))=true then some 9 else se ((j+1:Nat):Int):=by
  have hn:=hk.n
  have hcl:=ha.c
  intro m
  induction m with
  | zero =>
    intro n i h1 h2
    obtain ⟨n,rfl⟩:∃ q,n=q+1:=⟨n - 1,by omega⟩
    show zBx _ _ _ _ _=_
    unfold zBx zEu
    rw [hc,zAD (df (by omega)),zj (zAG (by omega)),List.drop_eq_nil_of_le (by omega)]
    rfl
  | succ m ih =>
    intro n i h1 h2
    obtain ⟨n,rfl⟩:∃ q,n=q+1:=⟨n - 1,by omega⟩
    have hi:i<c.lists.length:=by omega
    show zBx _ _ _ _ _=_
    unfold zBx
    rw [hc,zAV (dt (by omega)),zj (zAT hi),zPT hi,zj (zAG (by omega))]
    cases decide (a.high<((at_ c.lists (i:Int)).length:Int)) with
    | true=>rfl
    | false=>exact ih n (i+1) (by omega) (by omega)
theorem rl4 {se:Int→Option Int} {c:zL} {j:Nat} (hj:j<a.caches.length) (hc:at_ a.caches (j:Int)=c) (hk:Ck c) (ha:Al a) (hzl:c.lists.length=a.zones.length):∀ (m n i:Nat),i+m=c.lists.length→m<n →
    zCg se a (j:Int) n (i:Int)=if ((c.lists.drop i).any fun l=>decide (a.high<(l.length:Int)))=true then some 9 else se ((j+1:Nat):Int):=by
  have hn:=hk.n
  have hcl:=ha.c
  intro m
  induction m with
  | zero =>
    intro n i h1 h2
    obtain ⟨n,rfl⟩:∃ q,n=q+1:=⟨n - 1,by omega⟩
    show zBO _ _ _ _ _=_
    unfold zBO zDu
    rw [zAD (df (by omega)),zj (zAG (by omega)),List.drop_eq_nil_of_le (by omega)]
    rfl
  | succ m ih =>
    intro n i h1 h2
    obtain ⟨n,rfl⟩:∃ q,n=q+1:=⟨n - 1,by omega⟩
    have hi:i<c.lists.length:=by omega
    show zBO _ _ _ _ _=_
    unfold zBO
    rw [hc,zAV (dt (by omega)),zj (zAT hj),zj (zAT hi),zPT hi,zj (zAG (by omega))]
    cases decide (a.high<((at_ c.lists (i:Int)).length:Int)) with
    | true=>rfl
    | false=>exact ih n (i+1) (by omega) (by omega)
theorem zQt {c:zL} {zn:Int} (h:pcR c zn=0):(c.lists.length:Int)=zn∧(∀ f,f∈c.lists.flatten→zCk f=true):=by
  unfold pcR at h
  split at h
  · cases h
  · split at h
    · rename_i h2
      split at h
      · rename_i h3
        exact ⟨h2,fun f hf=>List.all_eq_true.1 h3 f hf⟩
      · cases h
    · cases h
theorem hl3 (ha:Al a):∀ (m n i:Nat),i+m=a.caches.length→m<n →
    zBE a n (i:Int)=if cE a.high (a.zones.length:Int) (a.caches.drop i)=0 then zDL a else some (cE a.high (a.zones.length:Int) (a.caches.drop i)):=by
  have hcl:=ha.c
  intro m
  induction m with
  | zero =>
    intro n i h1 h2
    obtain ⟨n,rfl⟩:∃ q,n=q+1:=⟨n - 1,by omega⟩
    show zBv _ _ _=_
    unfold zBv
    rw [zAD (df (by omega)),List.drop_eq_nil_of_le (by omega)]
    rfl
  | succ m ih =>
    intro n i h1 h2
    obtain ⟨n,rfl⟩:∃ q,n=q+1:=⟨n - 1,by omega⟩
    have hi:i<a.caches.length:=by omega
    have hk:=ha.ck _ (zA1 hi)
    show zBv _ _ _=_
    unfold zBv
    rw [zAV (dt (by omega)),zj (zAT hi),zSh hk,zCz,zCX hi]
    unfold cE
    by_cases h0:pcR (at_ a.caches (i:Int)) (a.zones.length:Int)=0
    · rw [dt h0,if_pos h0,Bool.not_true,zAD rfl,show (0:Int)=((0:Nat):Int) from rfl,hl4 hi rfl hk ha _ z9 0 (Nat.zero_add _) (by have:=hk.n; unfold z9; omega),List.drop_zero]
      cases hq:((at_ a.caches (i:Int)).lists.any fun l=>decide (a.high<(l.length:Int))) with
      | true=>rfl
      | false =>
        rw [if_neg Bool.false_ne_true,if_neg Bool.false_ne_true]
        exact ih n (i+1) (by omega) (by omega)
    · rw [df h0,if_neg h0,if_neg h0]
      rfl
theorem rl3 (ha:Al a):∀ (m n i:Nat),i+m=a.caches.length→m<n →
    zAu a n (i:Int)=if cE a.high (a.zones.length:Int) (a.caches.drop i)=0 then zCf a else some (cE a.high (a.zones.length:Int) (a.caches.drop i)):=by
  have hcl:=ha.c
  intro m
  induction m with
  | zero =>
    intro n i h1 h2
    obtain ⟨n,rfl⟩:∃ q,n=q+1:=⟨n - 1,by omega⟩
    show zBL _ _ _=_
    unfold zBL
    rw [zAD (df (by omega)),List.drop_eq_nil_of_le (by omega)]
    rfl
  | succ m ih =>
    intro n i h1 h2
    obtain ⟨n,rfl⟩:∃ q,n=q+1:=⟨n - 1,by omega⟩
    have hi:i<a.caches.length:=by omega
    have hk:=ha.ck _ (zA1 hi)
    show zBL _ _ _=_
    unfold zBL
    rw [zAV (dt (by omega)),zj (zAT hi),zSa hk,zCz,zCX hi]
    unfold cE
    by_cases h0:pcR (at_ a.caches (i:Int)) (a.zones.length:Int)=0
    · have hlen:=(zQt h0).1
      rw [dt h0,if_pos h0,Bool.not_true,zAD rfl,show (0:Int)=((0:Nat):Int) from rfl,rl4 hi rfl hk ha (by omega) _ z9 0 (Nat.zero_add _) (by have:=hk.n; unfold z9; omega),List.drop_zero]
      cases hq:((at_ a.caches (i:Int)).lists.any fun l=>decide (a.high<(l.length:Int))) with
      | true=>rfl
      | false =>
        rw [if_neg Bool.false_ne_true,if_neg Bool.false_ne_true]
        exact ih n (i+1) (by omega) (by omega)
    · rw [df h0,if_neg h0,if_neg h0]
      rfl
def zIx (f:Int):List zp→Nat→Int
  | [],_ => -1
  | z::r,i=>if inZ z f=true then (i:Int) else zIx f r (i+1)
theorem zQf (f:Int):∀ (zs:List zp) (i:Nat),zIx f zs i = -1∨((i:Int)≤zIx f zs i∧zIx f zs i<((i+zs.length:Nat):Int))
  | [],_ => .inl rfl
  | z::r,i=>by
    unfold zIx
    split
    · exact .inr ⟨Int.le_refl _,by simp; omega⟩
    · rcases zQf f r (i+1) with h | h
      · exact .inl h
      · exact .inr ⟨by omega,by simp; omega⟩
def zRJ (zs:List zp):Prop:=zs.Pairwise fun x y => ∀ f,inZ x f=true→inZ y f=false
theorem zN8 (f:Int):∀ (zs:List zp) (i p:Nat) (hp:p<zs.length),zRJ zs→(zIx f zs i=((i+p:Nat):Int)↔inZ zs[p] f=true)
  | [],_,_,hp,_=>absurd hp (by simp)
  | z::r,i,p,hp,ha=>by
    have ha':=List.pairwise_cons.1 ha
    unfold zIx
    cases p with
    | zero =>
      show _↔inZ z f=true
      by_cases h:inZ z f=true
      · rw [if_pos h]; simp [h]
      · rw [if_neg h]
        refine ⟨fun e => ?_,fun e=>absurd e h⟩
        rcases zQf f r (i+1) with h1 | h1 <;> omega
    | succ p =>
      have hp':p<r.length:=by simpa using hp
      show _↔inZ r[p] f=true
      by_cases h:inZ z f=true
      · rw [if_pos h,ha'.1 _ (List.getElem_mem hp') f h]
        refine ⟨fun e=>by omega,fun e=>by cases e⟩
      · rw [if_neg h,show i+(p+1)=i+1+p by omega]
        exact zN8 f r (i+1) p hp' ha'.2
theorem zQL:∀ {zs:List zp} {s:Int},zE s zs=0→(∀ z,z∈zs→zD5 z=0∧s≤z.start)∧zRJ zs
  | [],_,_=>⟨fun z hz=>absurd hz (by simp),List.Pairwise.nil⟩
  | z::r,s,h=>by
    unfold zE at h
    by_cases hc:zD5 z=0
    · rw [if_pos hc] at h
      by_cases hs:z.start=s
      · rw [if_pos hs] at h
        have hb:=zBs (zCm hc)
        obtain ⟨h1,h2⟩:=zQL h
        refine ⟨fun y hy => ?_,List.pairwise_cons.2 ⟨fun y hy f hf => ?_,h2⟩⟩
        · rcases List.mem_cons.1 hy with rfl | hy
          · exact ⟨hc,by omega⟩
          · have:=h1 y hy
            exact ⟨this.1,by omega⟩
        · have:=(h1 y hy).2
          unfold inZ at hf ⊢
          simp only [Bool.and_eq_true,decide_eq_true_eq] at hf
          rw [df (by omega)]
          rfl
      · rw [if_neg hs] at h; cases h
    · rw [if_neg hc] at h; exact absurd h hc
theorem zTL {f:Int} (ha:Al a) (hv:∀ z,z∈a.zones→zD5 z=0):∀ (m n i:Nat),i+m=a.zones.length→m<n →
    zAd a.zones (fun y=>zCZ y f) n (i:Int)=some (zIx f (a.zones.drop i) i):=by
  have hzl:=ha.z
  intro m
  induction m with
  | zero =>
    intro n i h1 h2
    obtain ⟨n,rfl⟩:∃ q,n=q+1:=⟨n - 1,by omega⟩
    show zAH _ _ _ _=_
    unfold zAH
    rw [zAD (df (by omega)),List.drop_eq_nil_of_le (by omega)]
    rfl
  | succ m ih =>
    intro n i h1 h2
    obtain ⟨n,rfl⟩:∃ q,n=q+1:=⟨n - 1,by omega⟩
    have hi:i<a.zones.length:=by omega
    have hb:=zBs (zCm (hv _ (zA1 hi)))
    show zAH _ _ _ _=_
    unfold zAH
    have hz1:zCZ (at_ a.zones (i:Int)) f=some (inZ (at_ a.zones (i:Int)) f):=by
      unfold zCZ
      rw [zj (zMd (zAG (by omega)))]
      rfl
    rw [zAV (dt (by omega)),zj (zAT hi)]
    show ((zCZ (at_ a.zones (i:Int)) f).bind _)=_
    rw [hz1,zCz,zCX hi,zj (zAG (by omega))]
    unfold zIx
    cases inZ (at_ a.zones (i:Int)) f with
    | true=>rfl
    | false=>exact ih n (i+1) (by omega) (by omega)
theorem zUf {f:Int} (ha:Al a) (hv:∀ z,z∈a.zones→zD5 z=0):zCn a f=some (zIx f a.zones 0):=by
  unfold zCn zA7
  have:=zTL (f:=f) ha hv a.zones.length z9 0 (by omega) (by have:=ha.z; unfold z9; omega)
  rw [List.drop_zero] at this
  rw [show (0:Int)=((0:Nat):Int) from rfl,this]
  rfl
theorem zTV {f:Int} (ha:Al a) (hv:∀ z,z∈a.zones→zD5 z=0):∀ (m n i:Nat),i+m=a.zones.length→m<n→zGk a f n (i:Int)=some (zIx f (a.zones.drop i) i):=by
  have hzl:=ha.z
  intro m
  induction m with
  | zero =>
    intro n i h1 h2
    obtain ⟨n,rfl⟩:∃ q,n=q+1:=⟨n - 1,by omega⟩
    show zEK _ _ _ _=_
    unfold zEK
    rw [zAD (df (by omega)),List.drop_eq_nil_of_le (by omega)]
    rfl
  | succ m ih =>
    intro n i h1 h2
    obtain ⟨n,rfl⟩:∃ q,n=q+1:=⟨n - 1,by omega⟩
    have hi:i<a.zones.length:=by omega
    have hb:=zBs (zCm (hv _ (zA1 hi)))
    show zEK _ _ _ _=_
    unfold zEK
    rw [zAV (dt (by omega)),zj (zAT hi),zj (zMd (zAG (by omega))),zCX hi,zj (zAG (by omega))]
    unfold zIx
    show cnd (inZ (at_ a.zones (i:Int)) f) _ _=_
    cases inZ (at_ a.zones (i:Int)) f with
    | true=>rfl
    | false=>exact ih n (i+1) (by omega) (by omega)
theorem zVZ {f:Int} (ha:Al a) (hv:∀ z,z∈a.zones→zD5 z=0):zI0 a f=some (zIx f a.zones 0):=by
  unfold zI0
  have:=zTV (f:=f) ha hv a.zones.length z9 0 (by omega) (by have:=ha.z; unfold z9; omega)
  rw [List.drop_zero] at this
  exact this
theorem zLI (z:zp):∀ (l:List Int) (d:List Bool),(feL z d l).2.length=d.length
  | [],_=>rfl
  | f::l,d=>by
    unfold feL
    split
    · split
      · rfl
      · rw [zLI z l,List.length_set]
    · rfl
theorem zNs:∀ (zs:List zp) (ls:List (List Int)) (d:List Bool),(feC d zs ls).2.length=d.length
  | [],_,_=>by unfold feC; rfl
  | _::_,[],_=>by unfold feC; rfl
  | z::zs,l::ls,d=>by
    unfold feC
    split
    · rw [zNs zs ls,zLI]
    · exact zLI z l d
def SM (q:List (Int×Bool)) (d:List Bool):Prop := ∀ f:Nat,f<256→zLE false q (f:Int)=d.getD f false
theorem zNf (k f:Int):∀ (q:List (Int×Bool)),zLE false (zJd q k true) f=if f=k then true else zLE false q f
  | []=>by
    unfold zJd zLE
    by_cases h:f=k
    · rw [if_pos h,h]; simp
    · rw [if_neg h]
      have:¬ k=f:=fun e=>h e.symm
      simp [this]
  | p::q=>by
    have ih:=zNf k f q
    unfold zJd
    by_cases hp:p.1=k
    · rw [if_pos hp]
      unfold zLE
      by_cases h:f=k
      · rw [if_pos h,h]; simp
      · rw [if_neg h]
        have h1:¬ k=f:=fun e=>h e.symm
        have h2:¬ p.1=f:=fun e=>h (by rw [← e,hp])
        simp [h1,h2]
    · rw [if_neg hp]
      by_cases h2:p.1=f
      · have h1:¬ f=k:=fun e=>hp (by rw [h2,e])
        rw [if_neg h1]
        unfold zLE
        simp [h2]
      · have e1:∀ r:List (Int×Bool),zLE false (p::r) f=zLE false r f:=fun r=>by unfold zLE; simp [h2]
        rw [e1,e1,ih]
theorem SM.set {q:List (Int×Bool)} {d:List Bool} {k:Nat} (h:SM q d) (hd:d.length=256) (hk:k<256):SM (zJd q (k:Int) true) (d.set k true):=by
  intro f hf
  rw [zNf,zBo _ _ _ (by omega),h f hf]
  by_cases e:f=k
  · rw [if_pos e,if_pos (by omega)]
  · rw [if_neg e,if_neg (by omega)]
theorem zOB {z:zp} {f:Int} (hr:ranges z=true) (h:inZ z f=true):0≤f∧f<256:=by
  have hb:=zBs hr
  unfold inZ at h
  simp only [Bool.and_eq_true,decide_eq_true_eq] at h
  omega
theorem zVh {α:Type} {b c:Bool} {x y:Option α}:(cnd (!b) (some c) (some default)).bind (fun q=>cnd (b||q) x y)=cnd (b||c) x y:=by
  cases b <;> rfl
theorem el2 {se:Int→List (Int×Bool)→Option Int} {c:zL} {j p:Nat} {z:zp} {l:List Int} (ha:Al a) (hv:∀ z,z∈a.zones→zD5 z=0) (hap:zRJ a.zones) (hj:j<a.caches.length) (hc:at_ a.caches (j:Int)=c) (hp:p<c.lists.length) (hpz:p<a.zones.length) (hz:at_ a.zones (p:Int)=z) (hl:at_ c.lists (p:Int)=l) (hll:l.length≤1000) (hpb:p≤1000) :
    ∀ (m n i:Nat) (q:List (Int×Bool)) (d:List Bool),i+m=l.length→m<n→d.length=256→SM q d → ∃ q',SM q' (feL z d (l.drop i)).2 ∧
      zBT se a (j:Int) (p:Int) n (i:Int) q=if (feL z d (l.drop i)).1=0 then se ((p+1:Nat):Int) q' else some (feL z d (l.drop i)).1:=by
  have hkz:=ha.zk z (hz▸zA1 hpz)
  have hcz:=hv z (hz▸zA1 hpz)
  intro m
  induction m with
  | zero =>
    intro n i q d h1 h2 h3 h4
    obtain ⟨n,rfl⟩:∃ q,n=q+1:=⟨n - 1,by omega⟩
    rw [List.drop_eq_nil_of_le (by omega)]
    refine ⟨q,h4,?_⟩
    show zB4 _ _ _ _ _ _ _=_
    unfold zB4 zEy
    rw [hc,hl,zAD (df (by omega)),zj (zAG (by omega))]
    rfl
  | succ m ih =>
    intro n i q d h1 h2 h3 h4
    obtain ⟨n,rfl⟩:∃ q,n=q+1:=⟨n - 1,by omega⟩
    have hi:i<l.length:=by omega
    have hx:=zN8 (at_ l (i:Int)) a.zones 0 p hpz hap
    rw [← zG8 hpz,hz,Nat.zero_add] at hx
    have ee:zBT se a (j:Int) (p:Int) (n+1) (i:Int) q=cnd (!decide (zIx (at_ l (i:Int)) a.zones 0=(p:Int))) (some 2) (cnd (zLE false q (at_ l (i:Int))||zJg z (at_ l (i:Int))) (some 7) (zBT se a (j:Int) (p:Int) n ((i+1:Nat):Int) (zJd q (at_ l (i:Int)) true))):=by
      show zB4 _ _ _ _ _ _ _=_
      unfold zB4
      rw [hc,hl,zAV (dt (by omega)),zj (zAT hi),zUf ha hv,zCz,zj (zMd (zAT hpz)),hz,zU9 hkz.1 hkz.2,zVh,zj (zAG (by omega))]
      rfl
    rw [ee,zCX hi]
    unfold feL
    generalize at_ l (i:Int)=f at *
    cases hq:inZ z f with
    | false =>
      rw [df (fun e=>by rw [hx.1 e] at hq; cases hq)]
      exact ⟨q,h4,rfl⟩
    | true =>
      have hf:=zOB (zCm hcz) hq
      obtain ⟨g,rfl⟩:=Int.eq_ofNat_of_zero_le hf.1
      rw [dt (hx.2 hq),Bool.not_true,zAD rfl,if_pos rfl,h4 g (by omega),Int.toNat_natCast]
      cases hr:(d.getD g false||zJg z (g:Int)) with
      | true=>exact ⟨q,h4,rfl⟩
      | false =>
        rw [zAD rfl,if_neg Bool.false_ne_true]
        exact ih n (i+1) _ _ (by omega) (by omega) (by rw [List.length_set]; exact h3) (h4.set h3 (by omega))
theorem el1 {se:Int→List (Int×Bool)→Option Int} {c:zL} {j:Nat} (ha:Al a) (hv:∀ z,z∈a.zones→zD5 z=0) (hap:zRJ a.zones) (hj:j<a.caches.length) (hc:at_ a.caches (j:Int)=c) (hlen:c.lists.length=a.zones.length) :
    ∀ (m n p:Nat) (q:List (Int×Bool)) (d:List Bool),p+m=c.lists.length→m<n→d.length=256→SM q d → ∃ q',SM q' (feC d (a.zones.drop p) (c.lists.drop p)).2 ∧
      zAk se a (j:Int) n (p:Int) q=if (feC d (a.zones.drop p) (c.lists.drop p)).1=0 then se ((j+1:Nat):Int) q' else some (feC d (a.zones.drop p) (c.lists.drop p)).1:=by
  have hcl:=ha.c
  have hck:=ha.ck c (hc▸zA1 hj)
  have hn:=hck.n
  intro m
  induction m with
  | zero =>
    intro n p q d h1 h2 h3 h4
    obtain ⟨n,rfl⟩:∃ q,n=q+1:=⟨n - 1,by omega⟩
    rw [List.drop_eq_nil_of_le (show a.zones.length≤p by omega)]
    unfold feC
    refine ⟨q,h4,?_⟩
    show zBz _ _ _ _ _ _=_
    unfold zBz zEr
    rw [hc,zAD (df (by omega)),zj (zAG (by omega))]
    rfl
  | succ m ih =>
    intro n p q d h1 h2 h3 h4
    obtain ⟨n,rfl⟩:∃ q,n=q+1:=⟨n - 1,by omega⟩
    have hp:p<c.lists.length:=by omega
    have hpz:p<a.zones.length:=by omega
    have hll:=hck.l _ (zA1 hp)
    obtain ⟨q1,s1,s2⟩:=el2 (se:=zAk se a (j:Int) n) ha hv hap hj hc hp hpz rfl rfl hll (by omega) _ z9 0 q d (Nat.zero_add _) (by unfold z9; omega) h3 h4
    rw [List.drop_zero] at s1 s2
    have ee:zAk se a (j:Int) (n+1) (p:Int) q=zBT (zAk se a (j:Int) n) a (j:Int) (p:Int) z9 ((0:Nat):Int) q:=by
      show zBz _ _ _ _ _ _=_
      unfold zBz
      rw [hc,zAV (dt (by omega)),zj (zAT hp)]
      rfl
    rw [ee,s2,zCX hp,zCX hpz]
    unfold feC
    by_cases h0:(feL (at_ a.zones (p:Int)) d (at_ c.lists (p:Int))).1=0
    · rw [if_pos h0,if_pos h0]
      exact ih n (p+1) q1 _ (by omega) (by omega) (by rw [zLI]; exact h3) s1
    · rw [if_neg h0,if_neg h0]
      exact ⟨q1,s1,(if_neg h0).symm⟩
theorem el0 (ha:Al a) (hv:∀ z,z∈a.zones→zD5 z=0) (hap:zRJ a.zones) (hlen:∀ c,c∈a.caches→c.lists.length=a.zones.length) :
    ∀ (m n j:Nat) (q:List (Int×Bool)) (d:List Bool),j+m=a.caches.length→m<n→d.length=256→SM q d→zAX a n (j:Int) q=some (feA a.zones d (a.caches.drop j)):=by
  have hcl:=ha.c
  intro m
  induction m with
  | zero =>
    intro n j q d h1 h2 h3 h4
    obtain ⟨n,rfl⟩:∃ q,n=q+1:=⟨n - 1,by omega⟩
    show zB0 _ _ _ _=_
    unfold zB0
    rw [zAD (df (by omega)),List.drop_eq_nil_of_le (by omega)]
    rfl
  | succ m ih =>
    intro n j q d h1 h2 h3 h4
    obtain ⟨n,rfl⟩:∃ q,n=q+1:=⟨n - 1,by omega⟩
    have hj:j<a.caches.length:=by omega
    have hl:=hlen _ (zA1 hj)
    obtain ⟨q1,s1,s2⟩:=el1 (se:=zAX a n) ha hv hap hj rfl hl _ z9 0 q d (Nat.zero_add _) (by have:=(ha.ck _ (zA1 hj)).n; unfold z9; omega) h3 h4
    rw [List.drop_zero,List.drop_zero] at s1 s2
    show zB0 _ _ _ _=_
    unfold zB0
    rw [zAV (dt (by omega)),zj (zAT hj),show (0:Int)=((0:Nat):Int) from rfl,s2,zCX hj]
    unfold feA
    by_cases h0:(feC d a.zones (at_ a.caches (j:Int)).lists).1=0
    · rw [if_pos h0,if_pos h0]
      exact ih n (j+1) q1 _ (by omega) (by omega) (by rw [zNs]; exact h3) s1
    · rw [if_neg h0,if_neg h0]
theorem fl2 {se:Int→List Bool→Option Int} {c:zL} {j p:Nat} {z:zp} {l:List Int} (ha:Al a) (hv:∀ z,z∈a.zones→zD5 z=0) (hc:at_ a.caches (j:Int)=c) (hpz:p<a.zones.length) (hz:at_ a.zones (p:Int)=z) (hl:at_ c.lists (p:Int)=l) (hll:l.length≤1000) (hpb:p≤1000) :
    ∀ (m n i:Nat) (d:List Bool),i+m=l.length→m<n→d.length=256 →
      zB6 se a (j:Int) (p:Int) n (i:Int) d=if (feL z d (l.drop i)).1=0 then se ((p+1:Nat):Int) (feL z d (l.drop i)).2 else some (feL z d (l.drop i)).1:=by
  have hkz:=ha.zk z (hz▸zA1 hpz)
  have hcz:=hv z (hz▸zA1 hpz)
  have hb:=zBs (zCm hcz)
  intro m
  induction m with
  | zero =>
    intro n i d h1 h2 h3
    obtain ⟨n,rfl⟩:∃ q,n=q+1:=⟨n - 1,by omega⟩
    rw [List.drop_eq_nil_of_le (by omega)]
    show zBP _ _ _ _ _ _ _=_
    unfold zBP zDq
    rw [hc,hl,zAD (df (by omega)),zj (zAG (by omega))]
    rfl
  | succ m ih =>
    intro n i d h1 h2 h3
    obtain ⟨n,rfl⟩:∃ q,n=q+1:=⟨n - 1,by omega⟩
    have hi:i<l.length:=by omega
    rw [zCX hi]
    show zBP _ _ _ _ _ _ _=_
    unfold zBP
    rw [hc,hl,zAV (dt (by omega)),zj (zAT hi),zj (zAT hpz),hz,zj (zMd (zAG (by omega)))]
    unfold feL
    generalize at_ l (i:Int)=f at *
    have hin:((decide (f<z.start))||(decide ((z.start+z.count)≤f))) = !inZ z f:=by
      unfold inZ
      rw [Bool.eq_iff_iff]
      simp only [Bool.or_eq_true,decide_eq_true_eq,Bool.not_eq_true',Bool.and_eq_false_iff,decide_eq_false_iff_not]
      omega
    rw [hin]
    cases hq:inZ z f with
    | false=>rfl
    | true =>
      have hf:=zOB (zCm hcz) hq
      obtain ⟨g,rfl⟩:=Int.eq_ofNat_of_zero_le hf.1
      have hg:g<d.length:=by omega
      have ed:at_ d (g:Int)=d.getD g false:=by rw [zG8 hg,List.getD_eq_getElem?_getD,List.getElem?_eq_getElem hg]; rfl
      rw [Bool.not_true,zAD rfl,if_pos rfl,zj (zAT hg),ed,zUw hkz.1,zVh,zj (zAG (by omega)),Int.toNat_natCast]
      cases hr:(d.getD g false||zJg z (g:Int)) with
      | true=>rfl
      | false =>
        rw [zAD rfl,if_neg Bool.false_ne_true]
        exact ih n (i+1) _ (by omega) (by omega) (by rw [List.length_set]; exact h3)
theorem fl1 {se:Int→List Bool→Option Int} {c:zL} {j:Nat} (ha:Al a) (hv:∀ z,z∈a.zones→zD5 z=0) (hj:j<a.caches.length) (hc:at_ a.caches (j:Int)=c) (hlen:c.lists.length=a.zones.length) :
    ∀ (m n p:Nat) (d:List Bool),p+m=c.lists.length→m<n→d.length=256 →
      zAa se a (j:Int) n (p:Int) d=if (feC d (a.zones.drop p) (c.lists.drop p)).1=0 then se ((j+1:Nat):Int) (feC d (a.zones.drop p) (c.lists.drop p)).2 else some (feC d (a.zones.drop p) (c.lists.drop p)).1:=by
  have hcl:=ha.c
  have hck:=ha.ck c (hc▸zA1 hj)
  have hn:=hck.n
  intro m
  induction m with
  | zero =>
    intro n p d h1 h2 h3
    obtain ⟨n,rfl⟩:∃ q,n=q+1:=⟨n - 1,by omega⟩
    rw [List.drop_eq_nil_of_le (show a.zones.length≤p by omega)]
    unfold feC
    show zBN _ _ _ _ _ _=_
    unfold zBN zDs
    rw [zAD (df (by omega)),zj (zAG (by omega))]
    rfl
  | succ m ih =>
    intro n p d h1 h2 h3
    obtain ⟨n,rfl⟩:∃ q,n=q+1:=⟨n - 1,by omega⟩
    have hp:p<c.lists.length:=by omega
    have hpz:p<a.zones.length:=by omega
    have hll:=hck.l _ (zA1 hp)
    have s2:=fl2 (se:=zAa se a (j:Int) n) ha hv hc hpz rfl rfl hll (by omega) _ z9 0 d (Nat.zero_add _) (by unfold z9; omega) h3
    rw [List.drop_zero] at s2
    have ee:zAa se a (j:Int) (n+1) (p:Int) d=zB6 (zAa se a (j:Int) n) a (j:Int) (p:Int) z9 ((0:Nat):Int) d:=by
      show zBN _ _ _ _ _ _=_
      unfold zBN
      rw [hc,zAV (dt (by omega)),zj (zAT hj),zj (zAT hp)]
      rfl
    rw [ee,s2,zCX hp,zCX hpz]
    unfold feC
    by_cases h0:(feL (at_ a.zones (p:Int)) d (at_ c.lists (p:Int))).1=0
    · rw [if_pos h0,if_pos h0]
      exact ih n (p+1) _ (by omega) (by omega) (by rw [zLI]; exact h3)
    · rw [if_neg h0,if_neg h0,if_neg h0]
theorem fl0 (ha:Al a) (hv:∀ z,z∈a.zones→zD5 z=0) (hlen:∀ c,c∈a.caches→c.lists.length=a.zones.length) :
    ∀ (m n j:Nat) (d:List Bool),j+m=a.caches.length→m<n→d.length=256→zAN a n (j:Int) d=some (feA a.zones d (a.caches.drop j)):=by
  have hcl:=ha.c
  intro m
  induction m with
  | zero =>
    intro n j d h1 h2 h3
    obtain ⟨n,rfl⟩:∃ q,n=q+1:=⟨n - 1,by omega⟩
    show zBM _ _ _ _=_
    unfold zBM
    rw [zAD (df (by omega)),List.drop_eq_nil_of_le (by omega)]
    rfl
  | succ m ih =>
    intro n j d h1 h2 h3
    obtain ⟨n,rfl⟩:∃ q,n=q+1:=⟨n - 1,by omega⟩
    have hj:j<a.caches.length:=by omega
    have hl:=hlen _ (zA1 hj)
    have s2:=fl1 (se:=zAN a n) ha hv hj rfl hl _ z9 0 d (Nat.zero_add _) (by have:=(ha.ck _ (zA1 hj)).n; unfold z9; omega) h3
    rw [List.drop_zero,List.drop_zero] at s2
    show zBM _ _ _ _=_
    unfold zBM
    rw [zAV (dt (by omega)),show (0:Int)=((0:Nat):Int) from rfl,s2,zCX hj]
    unfold feA
    by_cases h0:(feC d a.zones (at_ a.caches (j:Int)).lists).1=0
    · rw [if_pos h0,if_pos h0]
      exact ih n (j+1) _ (by omega) (by omega) (by rw [zNs]; exact h3)
    · rw [if_neg h0,if_neg h0]
theorem zP6:∀ {cs:List zL} {h zn:Int},cE h zn cs=0 → ∀ c,c∈cs→(c.lists.length:Int)=zn
  | [],_,_,_,_,hc=>absurd hc (by simp)
  | c::cs,h,zn,he,x,hx=>by
    unfold cE at he
    by_cases h0:pcR c zn=0
    · rw [if_pos h0] at he
      split at he
      · cases he
      · rcases List.mem_cons.1 hx with rfl | hx
        · exact (zQt h0).1
        · exact zP6 he x hx
    · rw [if_neg h0] at he; exact absurd he h0
theorem zUb (ha:Al a):zAn a=some (zRy a):=by
  have h1:=ha.n
  have h2:=ha.z
  have h3:=ha.c
  unfold zAn zRy
  rw [zQK (by omega),zCz]
  cases zSR a.nodes a.batch a.high (a.zones.length:Int) with
  | false=>rfl
  | true =>
    have hz:=zl5 ha a.zones.length z9 0 0 (by omega) (by unfold z9; omega) (by omega)
    rw [List.drop_zero] at hz
    rw [Bool.not_true,zAD rfl,if_pos rfl]
    refine Eq.trans hz ?_
    by_cases h0:zE 0 a.zones=0
    · rw [if_pos h0,if_pos h0]
      obtain ⟨z1,z2⟩:=zQL h0
      unfold zDG
      by_cases hl:(a.caches.length:Int)=(a.nodes.length:Int)
      · rw [dt hl,if_pos hl,Bool.not_true,zAD rfl,show (0:Int)=((0:Nat):Int) from rfl,hl3 ha a.caches.length z9 0 (by omega) (by unfold z9; omega),List.drop_zero]
        show (if cE a.high (a.zones.length:Int) a.caches=0 then _ else _)=some (if cE a.high (a.zones.length:Int) a.caches=0 then _ else _)
        by_cases hc:cE a.high (a.zones.length:Int) a.caches=0
        · rw [if_pos hc,if_pos hc]
          unfold zDL
          rw [show (0:Int)=((0:Nat):Int) from rfl,el0 ha (fun z hz=>(z1 z hz).1) z2 (fun c hm=>by have:=zP6 hc c hm; omega) a.caches.length z9 0 [] zEI (by omega) (by unfold z9; omega) zIF (fun f hf=>by
            unfold zEI zLE
            rw [List.getD_eq_getElem?_getD,List.getElem?_replicate,if_pos hf]
            rfl),List.drop_zero]
        · rw [if_neg hc,if_neg hc]
      · rw [df hl,if_neg hl]
        rfl
    · rw [if_neg h0,if_neg h0]
theorem zTQ (ha:Al a):zH9 a=some (zRy a):=by
  have h1:=ha.n
  have h2:=ha.z
  have h3:=ha.c
  unfold zH9 zRy
  rw [zRx (by omega),zCz]
  cases zSR a.nodes a.batch a.high (a.zones.length:Int) with
  | false=>rfl
  | true =>
    have hz:=zr0 ha a.zones.length z9 0 0 (by omega) (by unfold z9; omega) (by omega)
    rw [List.drop_zero] at hz
    rw [Bool.not_true,zAD rfl,if_pos rfl]
    refine Eq.trans hz ?_
    by_cases h0:zE 0 a.zones=0
    · rw [if_pos h0,if_pos h0]
      obtain ⟨z1,z2⟩:=zQL h0
      unfold zFd zFV
      by_cases hl:(a.caches.length:Int)=(a.nodes.length:Int)
      · rw [dt hl,if_pos hl,Bool.not_true,zAD rfl,show (0:Int)=((0:Nat):Int) from rfl,rl3 ha a.caches.length z9 0 (by omega) (by unfold z9; omega),List.drop_zero]
        show (if cE a.high (a.zones.length:Int) a.caches=0 then (_:Option Int) else _).bind _=some (if cE a.high (a.zones.length:Int) a.caches=0 then _ else _)
        by_cases hc:cE a.high (a.zones.length:Int) a.caches=0
        · rw [if_pos hc,if_pos hc]
          unfold zCf zFR
          rw [zj (by rfl),show List.replicate (256:Int).toNat false=zEI from rfl,show (0:Int)=((0:Nat):Int) from rfl,fl0 ha (fun z hz=>(z1 z hz).1) (fun c hm=>by have:=zP6 hc c hm; omega) a.caches.length z9 0 zEI (by omega) (by unfold z9; omega) zIF,List.drop_zero]
          rfl
        · rw [if_neg hc,if_neg hc]
          rfl
      · rw [df hl,if_neg hl]
        rfl
    · rw [if_neg h0,if_neg h0]
end
end Go.Proofs.YtplkliakhdkpcaaGreat
namespace Go.Proofs.YtplkliakhdkpcaaGreat
open Go Go.RowKit Go.Wk Go.Am
section
variable {a:zJ}
structure Va (a:zJ):Prop where
  al:Al a
  z:zE 0 a.zones=0
  len:∀ c,c∈a.caches→c.lists.length=a.zones.length
  z1:1≤a.zones.length
theorem zUI (ha:Al a) (h:zRy a=0):Va a:=by
  unfold zRy at h
  split at h
  · rename_i hf
    have h16:1≤a.zones.length:=by
      unfold zSR zIU at hf
      simp at hf
      omega
    split at h
    · rename_i hz
      split at h
      · rename_i hl
        split at h
        · rename_i hc
          exact ⟨ha,hz,fun c hm=>by have:=zP6 hc c hm; omega,h16⟩
        · rename_i hc; exact absurd h hc
      · cases h
    · rename_i hz; exact absurd h hz
  · cases h
theorem Va.chk (h:Va a) {z:zp} (hz:z∈a.zones):zD5 z=0:=((zQL h.z).1 z hz).1
theorem zTi {f:Int} {l:List Int} (hl:l.length≤1000):∀ (m n i:Nat),i+m=l.length→m<n → ∃ r,zA0 l f n (i:Int)=some r∧(0≤r↔f∈l.drop i):=by
  intro m
  induction m with
  | zero =>
    intro n i h1 h2
    obtain ⟨n,rfl⟩:∃ q,n=q+1:=⟨n - 1,by omega⟩
    refine ⟨-1,?_,?_⟩
    · show zA2 _ _ _ _=_
      unfold zA2
      rw [zAD (df (by omega))]
      rfl
    · rw [List.drop_eq_nil_of_le (by omega)]
      simp
  | succ m ih =>
    intro n i h1 h2
    obtain ⟨n,rfl⟩:∃ q,n=q+1:=⟨n - 1,by omega⟩
    have hi:i<l.length:=by omega
    have ee:zA0 l f (n+1) (i:Int)=cnd (decide (f=at_ l (i:Int))) (some (i:Int)) (zA0 l f n ((i+1:Nat):Int)):=by
      show zA2 _ _ _ _=_
      unfold zA2
      rw [zAV (dt (by omega)),zj (zAT hi),zj (zAG (by omega))]
      rfl
    rw [ee,zCX hi]
    by_cases h:f=at_ l (i:Int)
    · rw [zAV (dt h)]
      exact ⟨_,rfl,⟨fun _=>by rw [h]; simp,fun _=>Int.natCast_nonneg i⟩⟩
    · rw [zAD (df h)]
      obtain ⟨r,r1,r2⟩:=ih n (i+1) (by omega) (by omega)
      exact ⟨r,r1,by rw [r2,List.mem_cons]; exact ⟨.inr,fun q=>q.resolve_left h⟩⟩
theorem contains {f:Int} {l:List Int} (hl:l.length≤1000):zBc l f=some (decide (f∈l)):=by
  unfold zBc zDA
  obtain ⟨r,r1,r2⟩:=zTi (f:=f) hl l.length z9 0 (by omega) (by unfold z9; omega)
  rw [List.drop_zero] at r2
  rw [show (0:Int)=((0:Nat):Int) from rfl,r1,zCz]
  congr 1
  rw [decide_eq_decide]
  exact r2
theorem zSy (h:Va a) {f:Int} {p:Nat} (hp:p<a.zones.length):∀ (m n j:Nat),j+m=a.caches.length→m<n → ∃ r,zAA a.caches (fun y=>zBC y (p:Int) f) n (j:Int)=some r∧(0≤r ↔ ∃ c,c∈a.caches.drop j∧f∈at_ c.lists (p:Int)):=by
  have hcl:=h.al.c
  intro m
  induction m with
  | zero =>
    intro n j h1 h2
    obtain ⟨n,rfl⟩:∃ q,n=q+1:=⟨n - 1,by omega⟩
    refine ⟨-1,?_,?_⟩
    · show zAB _ _ _ _=_
      unfold zAB
      rw [zAD (df (by omega))]
      rfl
    · rw [List.drop_eq_nil_of_le (by omega)]
      simp
  | succ m ih =>
    intro n j h1 h2
    obtain ⟨n,rfl⟩:∃ q,n=q+1:=⟨n - 1,by omega⟩
    have hj:j<a.caches.length:=by omega
    have hl:=h.len _ (zA1 hj)
    have hb:=(h.al.ck _ (zA1 hj)).l _ (zA1 (show p<(at_ a.caches (j:Int)).lists.length by omega))
    have h1c:zBC (at_ a.caches (j:Int)) (p:Int) f=some (decide (f∈at_ (at_ a.caches (j:Int)).lists (p:Int))):=by
      unfold zBC
      rw [zj (zAT (by omega)),contains hb]
      rfl
    have ee:zAA a.caches (fun y=>zBC y (p:Int) f) (n+1) (j:Int)=cnd (decide (f∈at_ (at_ a.caches (j:Int)).lists (p:Int))) (some (j:Int)) (zAA a.caches (fun y=>zBC y (p:Int) f) n ((j+1:Nat):Int)):=by
      show zAB _ _ _ _=_
      unfold zAB
      rw [zAV (dt (by omega)),zj (zAT hj)]
      show ((zBC (at_ a.caches (j:Int)) (p:Int) f).bind _)=_
      rw [h1c,zCz,zj (zAG (by omega))]
      rfl
    rw [ee,zCX hj]
    by_cases hm:f∈at_ (at_ a.caches (j:Int)).lists (p:Int)
    · rw [zAV (dt hm)]
      exact ⟨_,rfl,⟨fun _=>⟨_,by simp,hm⟩,fun _=>Int.natCast_nonneg j⟩⟩
    · rw [zAD (df hm)]
      obtain ⟨r,r1,r2⟩:=ih n (j+1) (by omega) (by omega)
      refine ⟨r,r1,r2.trans ⟨fun ⟨c,c1,c2⟩=>⟨c,by simp [c1],c2⟩,fun ⟨c,c1,c2⟩ => ?_⟩⟩
      rcases List.mem_cons.1 c1 with rfl | c1
      · exact absurd c2 hm
      · exact ⟨c,c1,c2⟩
theorem zVS {se:Int→Option Int} {f:Int} {p j:Nat} {l:List Int} (h:Va a) (hp:p<a.zones.length) (hj:j<a.caches.length) (hl:at_ (at_ a.caches (j:Int)).lists (p:Int)=l):∀ (m n i:Nat),i+m=l.length→m<n →
    (f∈l.drop i→zBy se a (p:Int) f (j:Int) n (i:Int)=some (j:Int))∧(f ∉ l.drop i→zBy se a (p:Int) f (j:Int) n (i:Int)=se ((j+1:Nat):Int)):=by
  have hcl:=h.al.c
  have hlen:=h.len _ (zA1 hj)
  have hb:=(h.al.ck _ (zA1 hj)).l _ (zA1 (show p<(at_ a.caches (j:Int)).lists.length by omega))
  rw [hl] at hb
  intro m
  induction m with
  | zero =>
    intro n i h1 h2
    obtain ⟨n,rfl⟩:∃ q,n=q+1:=⟨n - 1,by omega⟩
    rw [List.drop_eq_nil_of_le (by omega)]
    refine ⟨fun hm=>absurd hm (by simp),fun _ => ?_⟩
    show zCw _ _ _ _ _ _ _=_
    unfold zCw zGm
    rw [hl,zj (zAT hj),zj (zAT (by omega)),zAD (df (by omega)),zj (zAG (by omega))]
    rfl
  | succ m ih =>
    intro n i h1 h2
    obtain ⟨n,rfl⟩:∃ q,n=q+1:=⟨n - 1,by omega⟩
    have hi:i<l.length:=by omega
    have ee:zBy se a (p:Int) f (j:Int) (n+1) (i:Int)=cnd (decide (at_ l (i:Int)=f)) (some (j:Int)) (zBy se a (p:Int) f (j:Int) n ((i+1:Nat):Int)):=by
      show zCw _ _ _ _ _ _ _=_
      unfold zCw
      rw [hl,zj (zAT hj),zj (zAT (by omega)),zAV (dt (by omega)),zj (zAT hi),zj (zAG (by omega))]
      rfl
    rw [ee,zCX hi]
    by_cases hq:at_ l (i:Int)=f
    · rw [zAV (dt hq)]
      exact ⟨fun _=>rfl,fun hn=>absurd (by rw [hq]; simp) hn⟩
    · rw [zAD (df hq)]
      obtain ⟨r1,r2⟩:=ih n (i+1) (by omega) (by omega)
      refine ⟨fun hm=>r1 ?_,fun hn=>r2 (fun hm=>hn (by simp [hm]))⟩
      rcases List.mem_cons.1 hm with e | e
      · exact absurd e.symm hq
      · exact e
theorem zTd (h:Va a) {f:Int} {p:Nat} (hp:p<a.zones.length):∀ (m n j:Nat),j+m=a.caches.length→m<n → ∃ r,zA8 a (p:Int) f n (j:Int)=some r∧(0≤r ↔ ∃ c,c∈a.caches.drop j∧f∈at_ c.lists (p:Int)):=by
  have hcl:=h.al.c
  intro m
  induction m with
  | zero =>
    intro n j h1 h2
    obtain ⟨n,rfl⟩:∃ q,n=q+1:=⟨n - 1,by omega⟩
    refine ⟨-1,?_,?_⟩
    · show zCx _ _ _ _ _=_
      unfold zCx
      rw [zAD (df (by omega))]
      rfl
    · rw [List.drop_eq_nil_of_le (by omega)]
      simp
  | succ m ih =>
    intro n j h1 h2
    obtain ⟨n,rfl⟩:∃ q,n=q+1:=⟨n - 1,by omega⟩
    have hj:j<a.caches.length:=by omega
    have hlen:=h.len _ (zA1 hj)
    have hb:=(h.al.ck _ (zA1 hj)).l _ (zA1 (show p<(at_ a.caches (j:Int)).lists.length by omega))
    obtain ⟨i1,i2⟩:=zVS (se:=zA8 a (p:Int) f n) (f:=f) h hp hj rfl _ z9 0 (Nat.zero_add _) (by unfold z9; omega)
    rw [List.drop_zero] at i1 i2
    have ee:zA8 a (p:Int) f (n+1) (j:Int)=zBy (zA8 a (p:Int) f n) a (p:Int) f (j:Int) z9 ((0:Nat):Int):=by
      show zCx _ _ _ _ _=_
      unfold zCx
      rw [zAV (dt (by omega))]
      rfl
    rw [ee,zCX hj]
    by_cases hm:f∈at_ (at_ a.caches (j:Int)).lists (p:Int)
    · rw [i1 hm]
      exact ⟨_,rfl,⟨fun _=>⟨_,by simp,hm⟩,fun _=>Int.natCast_nonneg j⟩⟩
    · rw [i2 hm]
      obtain ⟨r,r1,r2⟩:=ih n (j+1) (by omega) (by omega)
      refine ⟨r,r1,r2.trans ⟨fun ⟨c,c1,c2⟩=>⟨c,by simp [c1],c2⟩,fun ⟨c,c1,c2⟩ => ?_⟩⟩
      rcases List.mem_cons.1 c1 with rfl | c1
      · exact absurd c2 hm
      · exact ⟨c,c1,c2⟩
def Gz (z:zp):Prop:=z.free.length=5∧inI z.start=true
theorem zVY {z:zp}:∀ (m n k:Nat),k+m=5→m<n → ∃ b,zFA z n (k:Int)=some b∧(b=true → ∀ j,k≤j→j<5→(lst z j).length≤300):=by
  intro m
  induction m with
  | zero =>
    intro n k h1 h2
    obtain ⟨n,rfl⟩:∃ q,n=q+1:=⟨n - 1,by omega⟩
    refine ⟨true,?_,fun _ j h3 h4=>by omega⟩
    show zFE _ _ _=_
    unfold zFE
    rw [zAD (df (by omega))]
    rfl
  | succ m ih =>
    intro n k h1 h2
    obtain ⟨n,rfl⟩:∃ q,n=q+1:=⟨n - 1,by omega⟩
    have ee:zFA z (n+1) (k:Int)=cnd (decide (300<((lst z k).length:Int))) (some false) (zFA z n ((k+1:Nat):Int)):=by
      show zFE _ _ _=_
      unfold zFE
      rw [zAV (dt (by omega)),zj (zAT (by omega)),zj (zAG (by omega))]
      rfl
    rw [ee]
    by_cases h:300<((lst z k).length:Int)
    · rw [zAV (dt h)]
      exact ⟨false,rfl,fun e=>by cases e⟩
    · rw [zAD (df h)]
      obtain ⟨b,b1,b2⟩:=ih n (k+1) (by omega) (by omega)
      refine ⟨b,b1,fun e j h3 h4 => ?_⟩
      by_cases hj:j=k
      · rw [hj]; omega
      · exact b2 e j (by omega) h4
theorem zVm {z:zp} (hg:Gz z):∃ b,zKp z=some b∧(b=true→Zk z):=by
  obtain ⟨b,b1,b2⟩:=zVY (z:=z) 5 z9 0 (by omega) (by unfold z9; omega)
  refine ⟨b,b1,fun e=>⟨hg.1,fun k => ?_⟩⟩
  rcases Nat.lt_or_ge k 5 with hk | hk
  · have:=b2 e k (Nat.zero_le _) hk
    omega
  · rw [zKz hg.1 hk]; simp
theorem zVX {c:zL} (hn:c.lists.length≤20):∀ (m n i:Nat),i+m=c.lists.length→m<n → ∃ b,zFN c n (i:Int)=some b∧(b=true → ∀ x,x∈c.lists.drop i→x.length≤300):=by
  intro m
  induction m with
  | zero =>
    intro n i h1 h2
    obtain ⟨n,rfl⟩:∃ q,n=q+1:=⟨n - 1,by omega⟩
    rw [List.drop_eq_nil_of_le (by omega)]
    refine ⟨true,?_,fun _ x hx=>absurd hx (by simp)⟩
    show zFD _ _ _=_
    unfold zFD
    rw [zAD (df (by omega))]
    rfl
  | succ m ih =>
    intro n i h1 h2
    obtain ⟨n,rfl⟩:∃ q,n=q+1:=⟨n - 1,by omega⟩
    have hi:i<c.lists.length:=by omega
    have ee:zFN c (n+1) (i:Int)=cnd (decide (300<((at_ c.lists (i:Int)).length:Int))) (some false) (zFN c n ((i+1:Nat):Int)):=by
      show zFD _ _ _=_
      unfold zFD
      rw [zAV (dt (by omega)),zj (zAT hi),zj (zAG (by omega))]
      rfl
    rw [ee,zCX hi]
    by_cases h:300<((at_ c.lists (i:Int)).length:Int)
    · rw [zAV (dt h)]
      exact ⟨false,rfl,fun e=>by cases e⟩
    · rw [zAD (df h)]
      obtain ⟨b,b1,b2⟩:=ih n (i+1) (by omega) (by omega)
      refine ⟨b,b1,fun e x hx => ?_⟩
      rcases List.mem_cons.1 hx with rfl | hx
      · omega
      · exact b2 e x hx
theorem zVp {c:zL}:∃ b,zJz c=some b∧(b=true→Ck c):=by
  unfold zJz
  by_cases h:20<(c.lists.length:Int)
  · rw [zAV (dt h)]
    exact ⟨false,rfl,fun e=>by cases e⟩
  · rw [zAD (df h)]
    obtain ⟨b,b1,b2⟩:=zVX (c:=c) (by omega) c.lists.length z9 0 (by omega) (by unfold z9; omega)
    rw [List.drop_zero] at b2
    exact ⟨b,b1,fun e=>⟨by omega,fun x hx=>by have:=b2 e x hx; omega⟩⟩
theorem zUv (hn:a.caches.length≤20):∀ (m n i:Nat),i+m=a.caches.length→m<n → ∃ b,zE1 a n (i:Int)=some b∧(b=true → ∀ x,x∈a.caches.drop i→Ck x):=by
  intro m
  induction m with
  | zero =>
    intro n i h1 h2
    obtain ⟨n,rfl⟩:∃ q,n=q+1:=⟨n - 1,by omega⟩
    rw [List.drop_eq_nil_of_le (by omega)]
    refine ⟨true,?_,fun _ x hx=>absurd hx (by simp)⟩
    show zFF _ _ _=_
    unfold zFF
    rw [zAD (df (by omega))]
    rfl
  | succ m ih =>
    intro n i h1 h2
    obtain ⟨n,rfl⟩:∃ q,n=q+1:=⟨n - 1,by omega⟩
    have hi:i<a.caches.length:=by omega
    obtain ⟨b0,c1,c2⟩:=zVp (c:=at_ a.caches (i:Int))
    have ee:zE1 a (n+1) (i:Int)=cnd (!b0) (some false) (zE1 a n ((i+1:Nat):Int)):=by
      show zFF _ _ _=_
      unfold zFF
      rw [zAV (dt (by omega)),zj (zAT hi),c1,zCz,zj (zAG (by omega))]
      rfl
    rw [ee,zCX hi]
    cases b0 with
    | false=>exact ⟨false,rfl,fun e=>by cases e⟩
    | true =>
      obtain ⟨b,b1,b2⟩:=ih n (i+1) (by omega) (by omega)
      refine ⟨b,b1,fun e x hx => ?_⟩
      rcases List.mem_cons.1 hx with rfl | hx
      · exact c2 rfl
      · exact b2 e x hx
theorem zUt (hg:∀ z,z∈a.zones→Gz z) (hz:a.zones.length≤20) (hn:a.caches.length≤20):∀ (m n i:Nat),i+m=a.zones.length→m<n → ∃ b,zFL a n (i:Int)=some b∧(b=true→(∀ x,x∈a.zones.drop i→Zk x) ∧ ∀ x,x∈a.caches→Ck x):=by
  intro m
  induction m with
  | zero =>
    intro n i h1 h2
    obtain ⟨n,rfl⟩:∃ q,n=q+1:=⟨n - 1,by omega⟩
    obtain ⟨b,b1,b2⟩:=zUv hn a.caches.length z9 0 (by omega) (by unfold z9; omega)
    rw [List.drop_zero] at b2
    rw [List.drop_eq_nil_of_le (by omega)]
    refine ⟨b,?_,fun e=>⟨fun x hx=>absurd hx (by simp),b2 e⟩⟩
    show zFG _ _ _=_
    unfold zFG
    rw [zAD (df (by omega))]
    exact b1
  | succ m ih =>
    intro n i h1 h2
    obtain ⟨n,rfl⟩:∃ q,n=q+1:=⟨n - 1,by omega⟩
    have hi:i<a.zones.length:=by omega
    obtain ⟨b0,c1,c2⟩:=zVm (hg _ (zA1 hi))
    have ee:zFL a (n+1) (i:Int)=cnd (!b0) (some false) (zFL a n ((i+1:Nat):Int)):=by
      show zFG _ _ _=_
      unfold zFG
      rw [zAV (dt (by omega)),zj (zAT hi),c1,zCz,zj (zAG (by omega))]
      rfl
    rw [ee,zCX hi]
    cases b0 with
    | false=>exact ⟨false,rfl,fun e=>by cases e⟩
    | true =>
      obtain ⟨b,b1,b2⟩:=ih n (i+1) (by omega) (by omega)
      refine ⟨b,b1,fun e=>⟨fun x hx => ?_,(b2 e).2⟩⟩
      rcases List.mem_cons.1 hx with rfl | hx
      · exact c2 rfl
      · exact (b2 e).1 x hx
theorem few (hg:∀ z,z∈a.zones→Gz z):∃ b,zJx a=some b∧(b=true→Al a):=by
  unfold zJx
  by_cases h:(((decide (20<(a.nodes.length:Int)))||(decide (20<(a.zones.length:Int))))||(decide (20<(a.caches.length:Int))))=true
  · rw [zAV h]
    exact ⟨false,rfl,fun e=>by cases e⟩
  · rw [zAD (Bool.eq_false_iff.2 h)]
    simp only [Bool.or_eq_true,decide_eq_true_eq] at h
    obtain ⟨b,b1,b2⟩:=zUt hg (by omega) (by omega) a.zones.length z9 0 (by omega) (by unfold z9; omega)
    rw [List.drop_zero] at b2
    exact ⟨b,b1,fun e=>⟨by omega,by omega,by omega,fun z hz=>⟨(b2 e).1 z hz,(hg z hz).2⟩,(b2 e).2⟩⟩
end
end Go.Proofs.YtplkliakhdkpcaaGreat
namespace Go.Proofs.YtplkliakhdkpcaaGreat
open Go Go.RowKit Go.Wk Go.Am
section
variable {z:zp} {k:Nat} {l:List Int}
theorem zL0 (hr:ranges z=true) (hk:k<5) {g:Nat}:∀ (l:List Int) {s:List Int},s.length=256→(∀ f,f∈l→inside z f k=true) → ∀ x,x∈l→x≤(g:Int)→(g:Int)<x+2 ^ k→s.getD g 0+1≤(zHr k s l).getD g 0
  | [],_,_,_,_,hx,_,_=>absurd hx (by simp)
  | y::l,s,hs,hin,x,hx,h1,h2=>by
    have hbd:=zAe hr (hin y (by simp))
    have pn:=zLs (k:=k) (by omega)
    have hg:=zJs (2 ^ k) y.toNat s g (by rw [hs]; omega)
    unfold zHr
    rcases List.mem_cons.1 hx with rfl | hx
    · rw [if_pos (by omega)] at hg
      have:=zJT l k (zIr s x.toNat (2 ^ k)) g
      omega
    · have hge:=zLx (2 ^ k) y.toNat s g
      have:=zL0 hr hk l (s:=zIr s y.toNat (2 ^ k)) (by rw [zJ6]; exact hs) (fun f hf=>hin f (by simp [hf])) x hx h1 h2
      omega
theorem zM3 (hr:ranges z=true) {g:Nat}:∀ (ls:List (List Int)) (k:Nat) {s:List Int},k+ls.length=5→s.length=256→(∀ j l,ls[j]?=some l → ∀ f,f∈l→inside z f (k+j)=true) → ∀ j l x,ls[j]?=some l→x∈l→x≤(g:Int)→(g:Int)<x+2 ^ (k+j)→s.getD g 0+1≤(zGv k s ls).getD g 0
  | [],_,_,_,_,_,_,_,_,hj,_,_,_=>absurd hj (by simp)
  | l0::ls,k,s,hk,hs,hin,j,l,x,hj,hx,h1,h2=>by
    have hk':k+(ls.length+1)=5:=hk
    unfold zGv
    cases j with
    | zero =>
      simp at hj
      subst hj
      have:=zL0 (k:=k) hr (by omega) l0 hs (fun f hf=>by have:=hin 0 l0 rfl f hf; rwa [Nat.add_zero] at this) x hx h1 h2
      have:=zMY ls (k+1) (zHr k s l0) g
      omega
    | succ j =>
      have hge:=zJT l0 k s g
      have:=zM3 hr ls (k+1) (s:=zHr k s l0) (by omega) (by rw [zH8]; exact hs) (fun j' l' hj' f hf=>by
        have:=hin (j'+1) l' hj' f hf
        rwa [show k+(j'+1)=k+1+j' by omega] at this) j l x (by simpa using hj) hx h1 (by rw [show k+1+j=k+(j+1) by omega]; exact h2)
      omega
theorem zNB (hr:ranges z=true) {g:Nat}:∀ (ls:List (List Int)) (k:Nat) {s:List Int},k+ls.length=5→s.length=256→(∀ j l,ls[j]?=some l → ∀ f,f∈l→inside z f (k+j)=true) → ∀ i j l m x y,i<j→ls[i]?=some l→ls[j]?=some m→x∈l→y∈m→x≤(g:Int)→(g:Int)<x+2 ^ (k+i)→y≤(g:Int)→(g:Int)<y+2 ^ (k+j)→s.getD g 0+2≤(zGv k s ls).getD g 0
  | [],_,_,_,_,_,_,_,_,_,_,_,_,hi,_,_,_,_,_,_,_=>absurd hi (by simp)
  | l0::ls,k,s,hk,hs,hin,i,j,l,m,x,y,hij,hi,hj,hx,hy,h1,h2,h3,h4=>by
    have hk':k+(ls.length+1)=5:=hk
    have hin':∀ j' l',ls[j']?=some l' → ∀ f,f∈l'→inside z f (k+1+j')=true:=fun j' l' hj' f hf=>by
      have:=hin (j'+1) l' hj' f hf
      rwa [show k+(j'+1)=k+1+j' by omega] at this
    unfold zGv
    obtain ⟨j,rfl⟩:∃ q,j=q+1:=⟨j - 1,by omega⟩
    have hj':ls[j]?=some m:=by simpa using hj
    cases i with
    | zero =>
      simp at hi
      subst hi
      have a1:=zL0 (k:=k) hr (by omega) l0 hs (fun f hf=>by have:=hin 0 l0 rfl f hf; rwa [Nat.add_zero] at this) x hx h1 h2
      have a2:=zM3 hr ls (k+1) (s:=zHr k s l0) (by omega) (by rw [zH8]; exact hs) hin' j m y hj' hy h3 (by rw [show k+1+j=k+(j+1) by omega]; exact h4)
      omega
    | succ i =>
      have hge:=zJT l0 k s g
      have:=zNB hr ls (k+1) (s:=zHr k s l0) (by omega) (by rw [zH8]; exact hs) hin' i j l m x y (by omega) (by simpa using hi) hj' hx hy h1 (by rw [show k+1+i=k+(i+1) by omega]; exact h2) h3 (by rw [show k+1+j=k+(j+1) by omega]; exact h4)
      omega
theorem zNM (l0:List Int):∀ r:List Int,zOv z k l0 r=true ↔ ∃ f,f∈r∧bud f k∈l0∧inside z (min f (bud f k)) (k+1)=true
  | []=>by unfold zOv; simp
  | f::r=>by
    unfold zOv
    by_cases h:(decide (bud f k∈l0)&&inside z (min f (bud f k)) (k+1))=true
    · rw [if_pos h]
      simp only [Bool.and_eq_true,decide_eq_true_eq] at h
      exact ⟨fun _=>⟨f,by simp,h.1,h.2⟩,fun _=>rfl⟩
    · rw [if_neg h,zNM l0 r]
      simp only [Bool.and_eq_true,decide_eq_true_eq] at h
      constructor
      · rintro ⟨g,h1,h2⟩; exact ⟨g,by simp [h1],h2⟩
      · rintro ⟨g,h1,h2,h3⟩
        rcases List.mem_cons.1 h1 with rfl | h1
        · exact absurd ⟨h2,h3⟩ h
        · exact ⟨g,h1,h2,h3⟩
theorem zPx:∀ (ls:List (List Int)) (k:Nat),zLQ z k ls=false → ∀ j l,ls[j]?=some l→zOv z (k+j) l l=false
  | [],_,_,_,_,hj=>absurd hj (by simp)
  | l0::ls,k,h,j,l,hj=>by
    unfold zLQ at h
    split at h
    · cases h
    · rename_i h0
      cases j with
      | zero =>
        simp at hj
        subst hj
        exact Bool.eq_false_iff.2 h0
      | succ j =>
        have:=zPx ls (k+1) h j l (by simpa using hj)
        rwa [show k+1+j=k+(j+1) by omega] at this
theorem zKV (hz:Zk z) (h:zD5 z=0):OkZ z ∧ ∀ g:Nat,(zON z).getD g 0=0∨(zON z).getD g 0=1:=by
  obtain ⟨hr,hin,hs⟩:=zHF hz h
  have hm:=zVd hz hr hin
  have hc:zEZ z 0 z.free=0 ∧ ¬ zHt 0 zEI z.free=none∧zLQ z 0 (z.free.take 4)=false:=by
    have h':=h
    unfold zD5 at h'
    rw [if_neg (by rw [hr]; simp)] at h'
    by_cases h0:zEZ z 0 z.free=0
    · rw [if_pos h0] at h'
      by_cases h1:zHt 0 zEI z.free=none
      · rw [if_pos h1] at h'; cases h'
      · rw [if_neg h1] at h'
        by_cases h2:zLQ z 0 (z.free.take 4)=true
        · rw [if_pos h2] at h'; cases h'
        · exact ⟨h0,h1,Bool.eq_false_iff.2 h2⟩
    · rw [if_neg h0] at h'; exact absurd h' h0
  have h01:∀ g:Nat,(zON z).getD g 0=0∨(zON z).getD g 0=1:=by
    cases hd:zHt 0 zEI z.free with
    | none=>exact absurd hd hc.2.1
    | some d =>
      rw [hd] at hm
      intro g
      cases hb:d.getD g false with
      | true=>exact .inr (hm.t g hb)
      | false=>exact .inl (hm.f g hb)
  have hin':∀ j l,z.free[j]?=some l → ∀ f,f∈l→inside z f (0+j)=true:=fun j l hj f hf=>by
    have hj5:j<5:=by rw [← hz.len]; exact (List.getElem?_eq_some_iff.1 hj).1
    rw [hz.get hj5] at hj
    cases hj
    rw [Nat.zero_add]
    exact hin j hj5 f hf
  have lt5:∀ {k x},x∈lst z k→k<5:=fun {k x} hx=>by
    rcases Nat.lt_or_ge k 5 with hk | hk
    · exact hk
    · rw [zKz hz.len hk] at hx; exact absurd hx (by simp)
  have two:∀ k j x y f,k<j→x∈lst z k→y∈lst z j→x≤f→f<x+2 ^ k→y≤f→f<y+2 ^ j→False:=by
    intro k j x y f hkj hx hy h1 h2 h3 h4
    have hb:=zAe hr (hin k (lt5 hx) x hx)
    obtain ⟨g,rfl⟩:=Int.eq_ofNat_of_zero_le (show 0≤f by omega)
    have:=zNB hr (g:=g) z.free 0 (s:=List.replicate 256 0) (by rw [hz.len]) (by rw [List.length_replicate]) hin' k j _ _ x y hkj (hz.get (lt5 hx)) (hz.get (lt5 hy)) hx hy h1 (by rw [Nat.zero_add]; exact h2) h3 (by rw [Nat.zero_add]; exact h4)
    have h0:(List.replicate 256 (0:Int)).getD g 0=0:=by
      rw [List.getD_eq_getElem?_getD,List.getElem?_replicate]
      split <;> rfl
    rw [h0] at this
    have hc2:(zON z).getD g 0=(zGv 0 (List.replicate 256 0) z.free).getD g 0:=rfl
    rcases h01 g with e | e <;> omega
  refine ⟨⟨hr,hz.len,hs,fun k x hx=>hin k (lt5 hx) x hx,fun k x j y f hx hy h1 h2 h3 h4 => ?_,fun k x hk hx hb => ?_⟩,h01⟩
  · rcases Nat.lt_trichotomy k j with hkj | hkj | hkj
    · exact (two k j x y f hkj hx hy h1 h2 h3 h4).elim
    · subst hkj
      have b1:=zAe hr (hin k (lt5 hx) x hx)
      have b2:=zAe hr (hin k (lt5 hy) y hy)
      obtain ⟨g,rfl⟩:=Int.eq_ofNat_of_zero_le (show 0≤f by omega)
      have e1:=(zNG (f:=g) (lt5 hx) b1.1 ((zBW hr).1 (hin k (lt5 hx) x hx)).2.1).1 ⟨h1,h2⟩
      have e2:=(zNG (f:=g) (lt5 hy) b2.1 ((zBW hr).1 (hin k (lt5 hy) y hy)).2.1).1 ⟨h3,h4⟩
      exact ⟨rfl,by omega⟩
    · exact (two j k y x f hkj hy hx h3 h4 h1 h2).elim
  · have hn:=zPx (z.free.take 4) 0 hc.2.2 k _ (zMI (hz.get (k:=k) (by omega)) hk)
    rw [Nat.zero_add] at hn
    refine Bool.eq_false_iff.2 fun hi => ?_
    have:=(zNM (z:=z) (k:=k) (lst z k) (lst z k)).2 ⟨x,hx,hb,hi⟩
    rw [hn] at this
    cases this
theorem zK8 (h:l.length≤1000000):zAo l=some l:=by
  unfold zAo
  rw [zj (dt (by show (0+_)*8≤_; omega))]
theorem zPC (hz:Zk z):∀ (m n i:Nat),i+m=5→m<n→zFb z n (i:Int) z.free=some z:=by
  intro m
  induction m with
  | zero =>
    intro n i h1 h2
    obtain ⟨n,rfl⟩:∃ q,n=q+1:=⟨n - 1,by omega⟩
    show zDX _ _ _ _=_
    unfold zDX zHH
    rw [zAD (df (by omega)),zj (dt (by omega))]
  | succ m ih =>
    intro n i h1 h2
    obtain ⟨n,rfl⟩:∃ q,n=q+1:=⟨n - 1,by omega⟩
    have hlen:=hz.len
    have e:z.free.getD (i:Int).toNat []=lst z i:=rfl
    have e3:zDo 5 [] z.free (i:Int).toNat (lst z i)=z.free:=by
      rw [zKe hlen (by omega)]
      exact zIY (by omega)
    show zDX _ _ _ _=_
    unfold zDX
    rw [zAV (dt (by omega)),zj (zAT (by omega)),e,zK8 (hz.bd i),zCz,zj (zAG (by omega)),e3]
    exact ih n (i+1) (by omega) (by omega)
theorem zUl (hz:Zk z):zIA z=some z:=zPC hz 5 z9 0 (by omega) (by unfold z9; omega)
theorem zTM (hz:Zk z) (h:zD5 z=0) {m:Nat} (hm:m<256):∃ r,zG9 z (m:Int)=some r∧(0≤r.1↔cov z m):=by
  obtain ⟨hr,hin,_⟩:=zHF hz h
  obtain ⟨r,r1,r2⟩:=zPR hz h hm 5 z9 0 (by omega) (by unfold z9; omega)
  refine ⟨r,r1,r2.trans ?_⟩
  constructor
  · rintro ⟨j,_,hj,hm⟩
    have hbj:=zAe hr (hin j hj _ hm)
    have haj:=(zBW hr).1 (hin j hj _ hm)
    have:=(zNG (f:=m) hj hbj.1 haj.2.1).2 rfl
    exact ⟨j,_,hm,this.1,this.2⟩
  · rintro ⟨j,x,hx,h1,h2⟩
    rcases Nat.lt_or_ge j 5 with hj | hj
    · have hbj:=zAe hr (hin j hj _ hx)
      have haj:=(zBW hr).1 (hin j hj _ hx)
      have:=(zNG (f:=m) hj hbj.1 haj.2.1).1 ⟨h1,h2⟩
      exact ⟨j,Nat.zero_le _,hj,this▸hx⟩
    · rw [zKz hz.len hj] at hx; exact absurd hx (by simp)
theorem zTa (hz:Zk z) (h:zD5 z=0) {f:Int} (hk:k≤4) (hi:inside z f k=true) (hn:∀ g,f≤g→g<f+2 ^ k → ¬ cov z g):∀ (m n i:Nat),(i:Int)+m=f+2 ^ k→m<n→f≤i →
    zGb z f (k:Int) n (i:Int)=some (zMk (4 - k) z f k,0):=by
  obtain ⟨hr,hin,_⟩:=zHF hz h
  have hb:=zAe hr hi
  obtain ⟨e,p1,p2⟩:=zJe (k:=k) (by omega)
  intro m
  induction m with
  | zero =>
    intro n i h1 h2 h3
    obtain ⟨n,rfl⟩:∃ q,n=q+1:=⟨n - 1,by omega⟩
    show zES _ _ _ _ _=_
    unfold zES zH0
    rw [e,zj (zNz (by omega)),zj (zAG (by omega)),zj (zAG (by omega)),zAD (df (by omega)),zUl hz,zCz]
    show ((zJC z f (k:Int)).bind _)=_
    rw [zU7 (zKV hz h).1.putI hk hb.1 (by omega),zCz]
  | succ m ih =>
    intro n i h1 h2 h3
    obtain ⟨n,rfl⟩:∃ q,n=q+1:=⟨n - 1,by omega⟩
    obtain ⟨r,r1,r2⟩:=zTM hz h (m:=i) (by omega)
    show zES _ _ _ _ _=_
    unfold zES
    rw [e,zj (zNz (by omega)),zj (zAG (by omega)),zj (zAG (by omega)),zAV (dt (by omega)),r1,zCz,zAD (df (fun hq=>hn i h3 (by omega) (r2.1 hq))),zj (zAG (by omega))]
    exact ih n (i+1) (by omega) (by omega) (by omega)
theorem zST (hz:Zk z) (hI:inI z.start=true) (h:zD5 z=0) {f:Int} (hk:k≤4) (hi:inside z f k=true) (hn:∀ g,f≤g→g<f+2 ^ k → ¬ cov z g):zH6 z f (k:Int)=some (zMk (4 - k) z f k,0):=by
  obtain ⟨hr,hin,_⟩:=zHF hz h
  have hb:=zAe hr hi
  obtain ⟨e,p1,p2⟩:=zJe (k:=k) (by omega)
  have pn:=zLs (k:=k) (by omega)
  obtain ⟨m,rfl⟩:=Int.eq_ofNat_of_zero_le hb.1
  unfold zH6
  rw [zRX hz hI,zCz,dt h,Bool.not_true,zAD rfl,df (p:=(k:Int)<0) (by omega),df (p:=4<(k:Int)) (by omega),zJr hr (by omega),hi]
  refine (congrArg (fun q=>Option.bind q _) (zAV (by rfl))).trans ?_
  rw [zCz]
  refine (zAD (by rfl)).trans ?_
  exact zTa hz h hk hi hn (2 ^ k) z9 m (by omega) (by unfold z9; omega) (by omega)
theorem zTG (hz:Zk z) (h:zD5 z=0) {f:Int} (hk:k≤4) (hi:inside z f k=true) (hn:∀ g,f≤g→g<f+2 ^ k → ¬ cov z g):∀ (m n i:Nat) (s:List Int),(i:Int)+m=f+2 ^ k→m<n→f≤i→s.length=256 →
    (∀ g:Nat,s.getD g 0=if f≤(g:Int)∧(g:Int)<i then 1 else (zON z).getD g 0)→zGf z f (k:Int) n (i:Int) s=some (zMk (4 - k) z f k,0):=by
  obtain ⟨hr,hin,_⟩:=zHF hz h
  have hb:=zAe hr hi
  obtain ⟨e,p1,p2⟩:=zJe (k:=k) (by omega)
  obtain ⟨ho,h01⟩:=zKV hz h
  intro m
  induction m with
  | zero =>
    intro n i s h1 h2 h3 h4 h5
    obtain ⟨n,rfl⟩:∃ q,n=q+1:=⟨n - 1,by omega⟩
    obtain ⟨q1,q2,q3⟩:=OkZ.put (4 - k) (k:=k) (by omega) ho hi hn
    have hw:=zTI (z:=z) (s:=s) h4 q1 q3 (fun g=>by
      rw [q2]
      constructor
      · intro hg
        have hgb:z.start≤g∧g<z.start+z.count∧0≤g:=by
          rcases hg with ⟨j,x,hx,x1,x2⟩ | hg
          · have:=zAe hr (ho.ins j x hx)
            omega
          · omega
        obtain ⟨q,rfl⟩:=Int.eq_ofNat_of_zero_le hgb.2.2
        refine ⟨hgb.1,hgb.2.1,?_⟩
        rw [Int.toNat_natCast,h5]
        split
        · decide
        · rename_i hne
          rcases hg with hg | hg
          · have:=(zL9 hz hr hin q).2 hg
            omega
          · exact absurd ⟨hg.1,by omega⟩ hne
      · rintro ⟨g1,g2,g3⟩
        have hrb:=zBs hr
        obtain ⟨q,rfl⟩:=Int.eq_ofNat_of_zero_le (show 0≤g by omega)
        rw [Int.toNat_natCast,h5] at g3
        split at g3
        · rename_i hq
          exact .inr ⟨hq.1,by omega⟩
        · rcases h01 q with e0 | e0
          · exact absurd e0 g3
          · exact .inl ((zL9 hz hr hin q).1 (by omega)))
    show zEP _ _ _ _ _ _=_
    unfold zEP zHz
    rw [e,zj (dt (zIP (by omega) (by omega))),zj (zNz (by omega)),zj (zAG (by omega)),zj (zAG (by omega)),zAD (df (by omega)),hw,zCz,zCz]
  | succ m ih =>
    intro n i s h1 h2 h3 h4 h5
    obtain ⟨n,rfl⟩:∃ q,n=q+1:=⟨n - 1,by omega⟩
    have hil:i<s.length:=by omega
    have ea:at_ s (i:Int)=s.getD i 0:=by rw [zG8 hil,List.getD_eq_getElem?_getD,List.getElem?_eq_getElem hil]; rfl
    have h0:s.getD i 0=0:=by
      rw [h5,if_neg (by omega)]
      rcases h01 i with e0 | e0
      · exact e0
      · exact absurd ((zL9 hz hr hin i).1 (by omega)) (hn i h3 (by omega))
    show zEP _ _ _ _ _ _=_
    unfold zEP
    rw [e,zj (dt (zIP (by omega) (by omega))),zj (zNz (by omega)),zj (zAG (by omega)),zj (zAG (by omega)),zAV (dt (by omega)),zj (zAT hil),ea,h0,zAD (by rfl),zj (zAG (by omega))]
    refine ih n (i+1) _ (by omega) (by omega) (by omega) (by rw [List.length_set]; exact h4) (fun g => ?_)
    rw [Int.toNat_natCast,zUE s i g hil,h5]
    by_cases hg:g=i
    · rw [if_pos hg,if_pos (by omega)]
    · rw [if_neg hg]
      by_cases hq:f≤(g:Int)∧(g:Int)<i
      · rw [if_pos hq,if_pos (by omega)]
      · rw [if_neg hq,if_neg (by omega)]
theorem zSL (hz:Zk z) (h:zD5 z=0) {f:Int} (hk:k≤4) (hi:inside z f k=true) (hn:∀ g,f≤g→g<f+2 ^ k → ¬ cov z g):zH4 z f (k:Int)=some (zMk (4 - k) z f k,0):=by
  obtain ⟨hr,hin,_⟩:=zHF hz h
  have hb:=zAe hr hi
  obtain ⟨e,p1,p2⟩:=zJe (k:=k) (by omega)
  have pn:=zLs (k:=k) (by omega)
  obtain ⟨m,rfl⟩:=Int.eq_ofNat_of_zero_le hb.1
  unfold zH4
  rw [zRa hz,zCz,dt h,Bool.not_true,zAD rfl,zKt hr hk,zCz,hi,Bool.not_true,zAD rfl,zRZ hz hr hin,zCz]
  exact zTG hz h hk hi hn (2 ^ k) z9 m (zON z) (by omega) (by unfold z9; omega) (by omega) zPB (fun g=>by rw [if_neg (by omega)])
end
end Go.Proofs.YtplkliakhdkpcaaGreat
namespace Go.Proofs.YtplkliakhdkpcaaGreat
open Go Go.RowKit Go.Wk Go.Am
section
variable {z:zp} {k:Nat} {l:List Int}
theorem zPt:∀ (m i:Nat) (s:List Bool),i+m≤s.length→(∀ g,i≤g→g<i+m→s.getD g false=false) → ∃ s',zLR s i m=some s'∧s'.length=s.length ∧ ∀ g,s'.getD g false=true→s.getD g false=true∨(i≤g∧g<i+m)
  | 0,i,s,_,_=>⟨s,rfl,rfl,fun g h => .inl h⟩
  | m+1,i,s,h,hf=>by
    obtain ⟨s',h1,h2,h3⟩:=zPt m (i+1) (s.set i true) (by rw [List.length_set]; omega) (fun g g1 g2=>by
      rw [zBo _ _ _ (by omega),if_neg (by omega)]; exact hf g (by omega) (by omega))
    refine ⟨s',?_,by rw [h2,List.length_set],fun g hg => ?_⟩
    · unfold zLR
      rw [if_neg (by rw [hf i (by omega) (by omega)]; simp)]
      exact h1
    · rcases h3 g hg with h4 | h4
      · rw [zBo _ _ _ (by omega)] at h4
        split at h4
        · exact .inr (by omega)
        · exact .inl h4
      · exact .inr (by omega)
theorem zPm (hk:k≤4):∀ (l:List Int) (s:List Bool),s.length=256→(∀ x,x∈l→0≤x∧x+2 ^ k≤256)→Srt l→(∀ x y f,x∈l→y∈l→x≤f→f<x+2 ^ k→y≤f→f<y+2 ^ k→x=y)→(∀ x,x∈l → ∀ g:Nat,x≤(g:Int)→(g:Int)<x+2 ^ k→s.getD g false=false) →
    ∃ s',zLG k s l=some s'∧s'.length=256 ∧ ∀ g:Nat,s'.getD g false=true→s.getD g false=true ∨ ∃ x,x∈l∧x≤(g:Int)∧(g:Int)<x+2 ^ k
  | [],s,hs,_,_,_,_=>⟨s,rfl,hs,fun g h => .inl h⟩
  | x::l,s,hs,hb,ho,hd,hf=>by
    have hx:=hb x (by simp)
    have pn:=zLs (k:=k) (by omega)
    obtain ⟨s1,h1,h2,h3⟩:=zPt (2 ^ k) x.toNat s (by omega) (fun g g1 g2=>hf x (by simp) g (by omega) (by omega))
    have hno:=List.pairwise_cons.1 ho
    obtain ⟨s2,q1,q2,q3⟩:=zPm hk l s1 (by omega) (fun y hy=>hb y (by simp [hy])) hno.2 (fun a b f ha hb'=>hd a b f (by simp [ha]) (by simp [hb'])) (fun y hy g g1 g2=>by
      cases hq:s1.getD g false with
      | false=>rfl
      | true =>
        rcases h3 g hq with h4 | h4
        · rw [hf y (by simp [hy]) g g1 g2] at h4; cases h4
        · have:=hd x y g (by simp) (by simp [hy]) (by omega) (by omega) g1 g2
          have:=hno.1 y hy
          omega)
    refine ⟨s2,?_,q2,fun g hg => ?_⟩
    · unfold zLG
      rw [h1]
      exact q1
    · rcases q3 g hg with h4 | ⟨y,hy,h4⟩
      · rcases h3 g h4 with h5 | h5
        · exact .inl h5
        · exact .inr ⟨x,by simp,by omega,by omega⟩
      · exact .inr ⟨y,by simp [hy],h4⟩
theorem zOU:∀ (ls:List (List Int)) (k:Nat) (s:List Bool),k+ls.length≤5→s.length=256→(∀ j l,ls[j]?=some l→Srt l ∧ ∀ x,x∈l→0≤x∧x+2 ^ (k+j)≤256) →
    (∀ i j l m x y f,ls[i]?=some l→ls[j]?=some m→x∈l→y∈m→x≤f→f<x+2 ^ (k+i)→y≤f→f<y+2 ^ (k+j)→i=j∧x=y) →
    (∀ j l,ls[j]?=some l → ∀ x,x∈l → ∀ g:Nat,x≤(g:Int)→(g:Int)<x+2 ^ (k+j)→s.getD g false=false)→zHt k s ls≠none
  | [],k,s,_,_,_,_,_=>by unfold zHt; simp
  | l::ls,k,s,hk,hs,hb,hd,hf=>by
    have hk':k+(ls.length+1)≤5:=hk
    have hb0:=hb 0 l rfl
    obtain ⟨s1,h1,h2,h3⟩:=zPm (k:=k) (by omega) l s hs hb0.2 hb0.1 (fun x y f hx hy a1 a2 a3 a4=>(hd 0 0 l l x y f rfl rfl hx hy a1 a2 a3 a4).2) (hf 0 l rfl)
    unfold zHt
    rw [h1]
    refine zOU ls (k+1) s1 (by omega) h2 (fun j m hj => ?_) (fun i j a b x y f hi hj hx hy a1 a2 a3 a4 => ?_) (fun j m hj x hx g g1 g2 => ?_)
    · have:=hb (j+1) m (by simpa using hj)
      rwa [show k+(j+1)=k+1+j by omega] at this
    · have:=hd (i+1) (j+1) a b x y f (by simpa using hi) (by simpa using hj) hx hy a1 (by rwa [show k+(i+1)=k+1+i by omega]) a3 (by rwa [show k+(j+1)=k+1+j by omega])
      exact ⟨by omega,this.2⟩
    · cases hq:s1.getD g false with
      | false=>rfl
      | true =>
        have g2':(g:Int)<x+2 ^ (k+(j+1)):=by rwa [show k+(j+1)=k+1+j by omega]
        rcases h3 g hq with h4 | ⟨y,hy,h4,h5⟩
        · rw [hf (j+1) m (by simpa using hj) x hx g g1 g2'] at h4; cases h4
        · have:=(hd 0 (j+1) l m y x g rfl (by simpa using hj) hy hx h4 h5 g1 g2').1
          omega
theorem zRA:∀ (l:List Int) (p:Option Int),(∀ f,f∈l→inside z f k=true)→Srt l→(∀ q f,p=some q→f∈l→q<f)→zJf z k p l=0
  | [],_,_,_,_=>by unfold zJf; rfl
  | x::l,p,hi,hs,hp=>by
    have hno:=List.pairwise_cons.1 hs
    unfold zJf
    rw [if_neg (by rw [hi x (by simp)]; simp),if_neg]
    · exact zRA l (some x) (fun f hf=>hi f (by simp [hf])) hno.2 (fun q f hq hf=>by cases hq; exact hno.1 f hf)
    · cases p with
      | none=>unfold geP; simp
      | some q =>
        have:=hp q x rfl (by simp)
        unfold geP
        simp
        omega
theorem zPv:∀ (ls:List (List Int)) (k:Nat),(∀ j l,ls[j]?=some l→(∀ f,f∈l→inside z f (k+j)=true)∧Srt l)→zEZ z k ls=0
  | [],_,_=>by unfold zEZ; rfl
  | l::ls,k,h=>by
    have h0:=h 0 l rfl
    rw [Nat.add_zero] at h0
    unfold zEZ
    rw [zRA l none h0.1 h0.2 (fun q f hq=>by cases hq),if_pos rfl]
    exact zPv ls (k+1) (fun j m hj=>by
      have:=h (j+1) m (by simpa using hj)
      rwa [show k+(j+1)=k+1+j by omega] at this)
theorem zPf:∀ (ls:List (List Int)) (k:Nat),(∀ j l,ls[j]?=some l→zOv z (k+j) l l=false)→zLQ z k ls=false
  | [],_,_=>by unfold zLQ; rfl
  | l::ls,k,h=>by
    unfold zLQ
    rw [if_neg (by have:=h 0 l rfl; rw [Nat.add_zero] at this; rw [this]; simp)]
    exact zPf ls (k+1) (fun j m hj=>by
      have:=h (j+1) m (by simpa using hj)
      rwa [show k+(j+1)=k+1+j by omega] at this)
theorem zKY (h:OkZ z):zD5 z=0:=by
  have hl:∀ (j:Nat) (l:List Int),z.free[j]?=some l→j<5∧l=lst z j:=fun j l hl=>by
    have hj:j<5:=by have:=(List.getElem?_eq_some_iff.1 hl).1; rw [h.len] at this; exact this
    rw [zJI h.len hj] at hl
    cases hl
    exact ⟨hj,rfl⟩
  unfold zD5
  rw [if_neg (by rw [h.ranges]; simp),if_pos (zPv z.free 0 fun j l hj=>by obtain ⟨_,rfl⟩:=hl j l hj; rw [Nat.zero_add]; exact ⟨h.ins j,h.srt j⟩),if_neg,if_neg]
  · rw [zPf (z.free.take 4) 0]
    · simp
    · intro j l hj
      have hj4:j<4:=by have:=(List.getElem?_eq_some_iff.1 hj).1; rw [List.length_take] at this; omega
      rw [List.getElem?_take,if_pos hj4] at hj
      obtain ⟨_,rfl⟩:=hl j l hj
      rw [Nat.zero_add]
      refine Bool.eq_false_iff.2 fun hh => ?_
      obtain ⟨f,f1,f2,f3⟩:=(zNM (lst z j) (lst z j)).1 hh
      rw [h.can j f hj4 f1 f2] at f3
      cases f3
  · refine zOU z.free 0 zEI (by rw [h.len]; omega) zIF (fun j l hj => ?_) (fun i j a b x y f hi hj hx hy a1 a2 a3 a4 => ?_) (fun j l hj x hx g _ _ => ?_)
    · obtain ⟨_,rfl⟩:=hl j l hj
      rw [Nat.zero_add]
      exact ⟨h.srt j,fun x hx=>⟨(h.bds (h.ins j x hx)).1,(h.bds (h.ins j x hx)).2.1⟩⟩
    · obtain ⟨_,rfl⟩:=hl i a hi
      obtain ⟨_,rfl⟩:=hl j b hj
      rw [Nat.zero_add] at a2 a4
      exact h.dis i x j y f hx hy a1 a2 a3 a4
    · unfold zEI
      rw [List.getD_eq_getElem?_getD,List.getElem?_replicate]
      split <;> rfl
theorem OkZ.zk (h:OkZ z):Zk z:=⟨h.len,fun k=>by have:=h.putI.len' k; omega⟩
theorem OkZ.inI (h:OkZ z):inI z.start=true:=by have:=zBs h.ranges; exact zAG (by omega)
def zKd (z:zp):List Int→zp
  | []=>z
  | f::r=>zKd (zMk 4 z f 0) r
theorem zPV:∀ (l:List Int) {z:zp},OkZ z→(∀ f,f∈l→inside z f 0=true ∧ ¬ cov z f)→l.Nodup→OkZ (zKd z l)∧(∀ g,cov (zKd z l) g↔cov z g∨g∈l)∧zIT (zKd z l) z
  | [],z,h,_,_=>⟨h,fun g=>by unfold zKd; simp,⟨rfl,rfl,rfl,rfl,rfl⟩⟩
  | f::r,z,h,hi,hn=>by
    have hf:=hi f (by simp)
    have hnd:=List.nodup_cons.1 hn
    obtain ⟨h1,h2,h3⟩:=OkZ.put 4 (k:=0) (by omega) h hf.1 (fun g g1 g2=>by
      rw [pw0] at g2
      have:g=f:=by omega
      rw [this]; exact hf.2)
    obtain ⟨q1,q2,q3⟩:=zPV r h1 (fun g hg=>by
      refine ⟨by rw [h3.inside]; exact (hi g (by simp [hg])).1,fun hc => ?_⟩
      rcases (h2 g).1 hc with hc | hc
      · exact (hi g (by simp [hg])).2 hc
      · rw [pw0] at hc
        have:g=f:=by omega
        exact hnd.1 (this▸hg)) hnd.2
    refine ⟨q1,fun g => ?_,q3.trans h3⟩
    show cov (zKd (zMk 4 z f 0) r) g↔_
    rw [q2 g,h2 g,pw0,List.mem_cons]
    constructor
    · rintro ((h | h) | h)
      · exact .inl h
      · exact .inr (.inl (by omega))
      · exact .inr (.inr h)
    · rintro (h | h | h)
      · exact .inl (.inl h)
      · exact .inl (.inr (by omega))
      · exact .inr h
end
end Go.Proofs.YtplkliakhdkpcaaGreat
namespace Go.Proofs.YtplkliakhdkpcaaGreat
open Go Go.RowKit Go.Wk Go.Am
section
variable {a:zJ}
theorem zPO {α:Type} [Inhabited α] {l:List α} {i:Nat} (h:i<l.length):l.set i (at_ l (i:Int))=l:=by
  rw [zG8 h]
  exact List.set_getElem_self h
theorem zVq {se:Int→List zp→Option zJ} {zs:List zp} {j:Nat} (hj:j<zs.length) (hl:zs.length≤1000) (hz:Zk (at_ zs (j:Int))):∀ (m n k:Nat),k+m=5→m<n→zCW se (j:Int) n (k:Int) zs=se ((j+1:Nat):Int) zs:=by
  intro m
  induction m with
  | zero =>
    intro n k h1 h2
    obtain ⟨n,rfl⟩:∃ q,n=q+1:=⟨n - 1,by omega⟩
    show zBq _ _ _ _ _=_
    unfold zBq zEs
    rw [zAD (df (by omega)),zj (zAG (by omega))]
    rfl
  | succ m ih =>
    intro n k h1 h2
    obtain ⟨n,rfl⟩:∃ q,n=q+1:=⟨n - 1,by omega⟩
    have hlen:=hz.len
    have e:(at_ zs (j:Int)).free.getD (k:Int).toNat []=lst (at_ zs (j:Int)) k:=rfl
    have e3:zDo 5 [] (at_ zs (j:Int)).free (k:Int).toNat (lst (at_ zs (j:Int)) k)=(at_ zs (j:Int)).free:=by
      rw [zKe hlen (by omega)]
      exact zIY (by omega)
    show zBq _ _ _ _ _=_
    unfold zBq
    rw [zAV (dt (by omega)),zj (zAT hj),zj (zAT (by omega)),e,zK8 (hz.bd k),zCz,zj (zAG (by omega)),e3]
    have e4:zs.set (j:Int).toNat (at_ zs (j:Int))=zs:=zPO hj
    show zCW se (j:Int) n ((k:Int)+1) (zs.set (j:Int).toNat (at_ zs (j:Int)))=_
    rw [e4]
    exact ih n (k+1) (by omega) (by omega)
theorem zVr {se:Int→List zL→Option zJ} {cs:List zL} {j:Nat} (hj:j<cs.length) (hl:cs.length≤1000) (hc:Ck (at_ cs (j:Int))):∀ (m n i:Nat),i+m=(at_ cs (j:Int)).lists.length→m<n→zDC se (j:Int) cs (at_ cs (j:Int)).lists n (i:Int) (at_ cs (j:Int)).lists=se ((j+1:Nat):Int) cs:=by
  have hn:=hc.n
  intro m
  induction m with
  | zero =>
    intro n i h1 h2
    obtain ⟨n,rfl⟩:∃ q,n=q+1:=⟨n - 1,by omega⟩
    show zBn _ _ _ _ _ _ _=_
    unfold zBn zEn zEo
    rw [zAD (df (by omega)),zj (zAT hj),zj (zAG (by omega))]
    have e4:cs.set (j:Int).toNat (at_ cs (j:Int))=cs:=zPO hj
    show se ((j:Int)+1) (cs.set (j:Int).toNat (at_ cs (j:Int)))=_
    rw [e4]
    rfl
  | succ m ih =>
    intro n i h1 h2
    obtain ⟨n,rfl⟩:∃ q,n=q+1:=⟨n - 1,by omega⟩
    have hi:i<(at_ cs (j:Int)).lists.length:=by omega
    have hb:=hc.l _ (zA1 hi)
    show zBn _ _ _ _ _ _ _=_
    unfold zBn
    have e4:(at_ cs (j:Int)).lists.set (i:Int).toNat (at_ (at_ cs (j:Int)).lists (i:Int))=(at_ cs (j:Int)).lists:=zPO hi
    rw [zAV (dt (by omega)),zj (zAT hi),zK8 (by omega),zCz,zj (zAG (by omega)),e4]
    exact ih n (i+1) (by omega) (by omega)
theorem zVt (ha:Al a) {zs:List zp} {ns:List Int}:∀ (m n j:Nat),j+m=a.caches.length→m<n→zA4 a ns a.caches zs n (j:Int) a.caches=some ⟨ns,a.batch,a.high,zs,a.caches⟩:=by
  have hc:=ha.c
  intro m
  induction m with
  | zero =>
    intro n j h1 h2
    obtain ⟨n,rfl⟩:∃ q,n=q+1:=⟨n - 1,by omega⟩
    show zB1 _ _ _ _ _ _ _=_
    unfold zB1
    rw [zAD (df (by omega))]
    rfl
  | succ m ih =>
    intro n j h1 h2
    obtain ⟨n,rfl⟩:∃ q,n=q+1:=⟨n - 1,by omega⟩
    have hj:j<a.caches.length:=by omega
    have hk:=ha.ck _ (zA1 hj)
    have hn:=hk.n
    show zB1 _ _ _ _ _ _ _=_
    unfold zB1 zC4
    rw [zAV (dt (by omega)),zj (zAT hj),zj (dt (by show (0+_)*24≤_; omega)),zCz,show (0:Int)=((0:Nat):Int) from rfl,zVr hj hc hk _ z9 0 (Nat.zero_add _) (by unfold z9; omega)]
    exact ih n (j+1) (by omega) (by omega)
theorem zVb (ha:Al a) {ns:List Int}:∀ (m n j:Nat),j+m=a.zones.length→m<n→zBG a ns a.zones a.caches n (j:Int) a.zones=some ⟨ns,a.batch,a.high,a.zones,a.caches⟩:=by
  have hz:=ha.z
  have hc:=ha.c
  intro m
  induction m with
  | zero =>
    intro n j h1 h2
    obtain ⟨n,rfl⟩:∃ q,n=q+1:=⟨n - 1,by omega⟩
    show zB5 _ _ _ _ _ _ _=_
    unfold zB5 zEt
    rw [zAD (df (by omega)),show (0:Int)=((0:Nat):Int) from rfl]
    exact zVt ha a.caches.length z9 0 (by omega) (by unfold z9; omega)
  | succ m ih =>
    intro n j h1 h2
    obtain ⟨n,rfl⟩:∃ q,n=q+1:=⟨n - 1,by omega⟩
    have hj:j<a.zones.length:=by omega
    show zB5 _ _ _ _ _ _ _=_
    unfold zB5
    rw [zAV (dt (by omega)),show (0:Int)=((0:Nat):Int) from rfl,zVq hj hz (ha.zk _ (zA1 hj)).1 5 z9 0 (by omega) (by unfold z9; omega)]
    exact ih n (j+1) (by omega) (by omega)
theorem zUu (ha:Al a):zCU a=some a:=by
  have h1:=ha.n
  have h2:=ha.z
  have h3:=ha.c
  unfold zCU zBI zAq
  rw [zK8 (by omega),zCz,zj (dt (by show (0+_)*160≤_; omega)),zCz,zj (dt (by show (0+_)*24≤_; omega)),zCz,show (0:Int)=((0:Nat):Int) from rfl]
  exact zVb ha a.zones.length z9 0 (by omega) (by unfold z9; omega)
theorem zR3 {c:zL} (hc:Ck c):∀ (m n i:Nat) (l:List (List Int)),i+m=c.lists.length→m<n→l=c.lists.take i→zFo c n (i:Int) l=some c:=by
  have hn:=hc.n
  intro m
  induction m with
  | zero =>
    intro n i l h1 h2 h3
    obtain ⟨n,rfl⟩:∃ q,n=q+1:=⟨n - 1,by omega⟩
    show zDm _ _ _ _=_
    unfold zDm
    rw [zAD (df (by omega)),h3,List.take_of_length_le (by omega)]
    rfl
  | succ m ih =>
    intro n i l h1 h2 h3
    obtain ⟨n,rfl⟩:∃ q,n=q+1:=⟨n - 1,by omega⟩
    have hi:i<c.lists.length:=by omega
    have hb:=hc.l _ (zA1 hi)
    have hl:l.length=i:=by rw [h3,List.length_take]; omega
    show zDm _ _ _ _=_
    unfold zDm
    rw [zAV (dt (by omega)),zj (zAT hi),zj (dt (by show (0+_)*8≤_; omega)),zj (dt (by show (_+1)*24≤_; omega)),zj (zAG (by omega)),List.nil_append]
    refine ih n (i+1) _ (by omega) (by omega) ?_
    rw [h3,List.take_add_one,List.getElem?_eq_getElem hi,zG8 hi]
    rfl
theorem zOj {c:zL} (hc:Ck c):zIN c=some c:=zR3 hc c.lists.length z9 0 [] (by omega) (by have:=hc.n; unfold z9; omega) rfl
theorem zVy (ha:Al a) {zs:List zp}:∀ (m n j:Nat) (l:List zL),j+m=a.caches.length→m<n→l=a.caches.take j→zFi a zs n (j:Int) l=some ⟨a.nodes,a.batch,a.high,zs,a.caches⟩:=by
  have hc:=ha.c
  intro m
  induction m with
  | zero =>
    intro n j l h1 h2 h3
    obtain ⟨n,rfl⟩:∃ q,n=q+1:=⟨n - 1,by omega⟩
    show zDj _ _ _ _ _=_
    unfold zDj
    rw [zAD (df (by omega)),h3,List.take_of_length_le (by omega)]
    rfl
  | succ m ih =>
    intro n j l h1 h2 h3
    obtain ⟨n,rfl⟩:∃ q,n=q+1:=⟨n - 1,by omega⟩
    have hj:j<a.caches.length:=by omega
    have hl:l.length=j:=by rw [h3,List.length_take]; omega
    show zDj _ _ _ _ _=_
    unfold zDj
    rw [zAV (dt (by omega)),zj (zAT hj),zOj (ha.ck _ (zA1 hj)),zCz,zj (dt (by show (_+1)*24≤_; omega)),zj (zAG (by omega))]
    refine ih n (j+1) _ (by omega) (by omega) ?_
    rw [h3,List.take_add_one,List.getElem?_eq_getElem hj,zG8 hj]
    rfl
theorem zVw {se:Int→List zp→Option zJ} (ha:Al a) {j:Nat} {l:List zp} (hj:j<a.zones.length) (hl:l.length≤1000):∀ (m n k:Nat),k+m=5→m<n→zFg se a (j:Int) l n (k:Int) (at_ a.zones (j:Int)).free=se ((j+1:Nat):Int) (l++[at_ a.zones (j:Int)]):=by
  have hzl:=ha.z
  have hz:=(ha.zk _ (zA1 hj)).1
  intro m
  induction m with
  | zero =>
    intro n k h1 h2
    obtain ⟨n,rfl⟩:∃ q,n=q+1:=⟨n - 1,by omega⟩
    show zDg _ _ _ _ _ _ _=_
    unfold zDg zHE zHD
    rw [zAD (df (by omega)),zj (dt (by show (_+1)*160≤_; omega)),zj (zAG (by omega))]
    rfl
  | succ m ih =>
    intro n k h1 h2
    obtain ⟨n,rfl⟩:∃ q,n=q+1:=⟨n - 1,by omega⟩
    have hlen:=hz.len
    have hb:=hz.bd k
    have e:(at_ a.zones (j:Int)).free.getD (k:Int).toNat []=lst (at_ a.zones (j:Int)) k:=rfl
    have e3:zDo 5 [] (at_ a.zones (j:Int)).free (k:Int).toNat (lst (at_ a.zones (j:Int)) k)=(at_ a.zones (j:Int)).free:=by
      rw [zKe hlen (by omega)]
      exact zIY (by omega)
    show zDg _ _ _ _ _ _ _=_
    unfold zDg
    rw [e,zAV (dt (by omega)),zj (zAT hj),zj (zAT (by omega)),zj (dt (by show (0+_)*8≤_; omega)),zj (zAG (by omega)),List.nil_append,e3]
    exact ih n (k+1) (by omega) (by omega)
theorem zVx (ha:Al a):∀ (m n j:Nat) (l:List zp),j+m=a.zones.length→m<n→l=a.zones.take j→zBm a n (j:Int) l=some a:=by
  have hz:=ha.z
  have hc:=ha.c
  intro m
  induction m with
  | zero =>
    intro n j l h1 h2 h3
    obtain ⟨n,rfl⟩:∃ q,n=q+1:=⟨n - 1,by omega⟩
    show zDb _ _ _ _=_
    unfold zDb zHB
    rw [zAD (df (by omega)),h3,List.take_of_length_le (by omega)]
    exact zVy ha a.caches.length z9 0 [] (by omega) (by unfold z9; omega) rfl
  | succ m ih =>
    intro n j l h1 h2 h3
    obtain ⟨n,rfl⟩:∃ q,n=q+1:=⟨n - 1,by omega⟩
    have hj:j<a.zones.length:=by omega
    have hl:l.length=j:=by rw [h3,List.length_take]; omega
    show zDb _ _ _ _=_
    unfold zDb
    rw [zAV (dt (by omega)),zj (zAT hj),show (0:Int)=((0:Nat):Int) from rfl,zVw ha hj (by omega) 5 z9 0 (by omega) (by unfold z9; omega)]
    refine ih n (j+1) _ (by omega) (by omega) ?_
    rw [h3,List.take_add_one,List.getElem?_eq_getElem hj,zG8 hj]
    rfl
theorem zUL (ha:Al a):zIL a=some a:=by
  have h1:=ha.n
  unfold zIL
  rw [zj (dt (by show (0+_)*8≤_; omega))]
  exact zVx ha a.zones.length z9 0 [] (by omega) (by have:=ha.z; unfold z9; omega) rfl
theorem zVa:Sm ⟨([]:List Int),0,0,([]:List zp),([]:List zL)⟩:=⟨by simp,by simp,by simp,by simp,by simp⟩
def Bo (x y:Option (zJ×Int)):Prop := ∃ r,x=some r∧y=some r∧Sm r.1
end
end Go.Proofs.YtplkliakhdkpcaaGreat
namespace Go.Proofs.YtplkliakhdkpcaaGreat
open Go Go.RowKit Go.Wk Go.Am
structure Pc (c:zL) (zn:Nat):Prop where
  z:1≤zn∧zn≤6
  len:c.lists.length=zn
  bd:∀ l,l∈c.lists→l.length≤400
  fr:∀ l,l∈c.lists → ∀ f,f∈l→zCk f=true
  nd:∀ l,l∈c.lists→l.Nodup
  dis:∀ (p q:Nat) (f:Int),p<zn→q<zn→f∈at_ c.lists (p:Int)→f∈at_ c.lists (q:Int)→p=q
section
variable {c:zL} {zn:Nat} {z:Nat} {l:List Int}
theorem Pc.ck (h:Pc c zn):Ck c:=⟨by have:=h.len; have:=h.z; omega,fun x hx=>by have:=h.bd x hx; omega⟩
theorem Pc.r (h:Pc c zn):pcR c (zn:Int)=0:=by
  have hz:=h.z
  unfold pcR
  rw [if_neg (by omega),if_pos (by rw [h.len]),if_pos,if_pos]
  · unfold List.Nodup
    rw [List.pairwise_flatten]
    refine ⟨h.nd,List.pairwise_iff_getElem.2 fun i j hi hj hij x hx y hy e => ?_⟩
    subst e
    have:=h.dis i j x (by rw [← h.len]; exact hi) (by rw [← h.len]; exact hj) (by rw [zG8 hi]; exact hx) (by rw [zG8 hj]; exact hy)
    omega
  · refine List.all_eq_true.2 fun f hf => ?_
    obtain ⟨l,hl,hfl⟩:=List.mem_flatten.1 hf
    exact h.fr l hl f hfl
theorem zN2 (l:List Int):zCO (List.replicate (l.length:Int).toNat 0) l=l:=by
  unfold zCO
  rw [List.length_replicate,Int.toNat_natCast,List.take_length,List.drop_replicate,Nat.sub_self]
  exact List.append_nil l
theorem zQz {n:Int} (h:n.toNat≤l.length):zCO (List.replicate n.toNat 0) l=l.take n.toNat:=by
  unfold zCO
  rw [List.length_replicate,List.drop_replicate,Nat.sub_eq_zero_of_le h]
  exact List.append_nil _
theorem zQ7 {T:List (List Int)} {i m:Nat} {x:List Int} (hi:T[i]?=some x):(T.take i++List.replicate (m+1) ([]:List Int)).set i x=T.take (i+1)++List.replicate m []:=by
  have hl:(T.take i).length=i:=by rw [List.length_take]; have:=(List.getElem?_eq_some_iff.1 hi).1; omega
  rw [List.set_append,if_neg (by omega),hl,Nat.sub_self,List.replicate_succ,List.set_cons_zero,List.take_add_one,hi]
  simp
theorem zQu (hc:Ck c) (hl:l.length≤1000):∀ (m n i:Nat),i+m=c.lists.length→m<n→zCF c (z:Int) l n (i:Int) ((c.lists.set z l).take i++List.replicate m [])=some ⟨c.lists.set z l⟩:=by
  have hn:=hc.n
  intro m
  induction m with
  | zero =>
    intro n i h1 h2
    obtain ⟨n,rfl⟩:∃ q,n=q+1:=⟨n - 1,by omega⟩
    show zCC _ _ _ _ _ _=_
    unfold zCC zFQ
    rw [zAD (df (by omega)),List.replicate_zero,List.append_nil,List.take_of_length_le (by rw [List.length_set]; omega)]
  | succ m ih =>
    intro n i h1 h2
    obtain ⟨n,rfl⟩:∃ q,n=q+1:=⟨n - 1,by omega⟩
    have hi:i<c.lists.length:=by omega
    have hll:((c.lists.set z l).take i++List.replicate (m+1) ([]:List Int)).length=c.lists.length:=by
      rw [List.length_append,List.length_take,List.length_set,List.length_replicate]; omega
    have hj:∀ d:List Int,d.length≤1000→(c.lists.set z l)[i]?=some d→zCr (zCF c (z:Int) l n) (i:Int) ((c.lists.set z l).take i++List.replicate (m+1) []) d=some ⟨c.lists.set z l⟩:=fun d hd he=>by
      unfold zCr
      rw [zj (by simp; omega),zj (zUZ (by rw [hll]; omega)),zj (zAG (by omega)),zN2,Int.toNat_natCast,zQ7 he]
      exact ih n (i+1) (by omega) (by omega)
    show zCC _ _ _ _ _ _=_
    unfold zCC
    rw [zAV (dt (by omega)),zj (zAT hi)]
    by_cases hz:i=z
    · rw [zAV (dt (by omega))]
      exact hj l hl (by rw [← hz,List.getElem?_set_self hi])
    · rw [zAD (df (by omega))]
      refine hj _ (hc.l _ (zA1 hi)) ?_
      rw [List.getElem?_set_ne (fun e=>hz e.symm),zG8 hi,List.getElem?_eq_getElem hi]
theorem zRD (hc:Ck c) (hl:l.length≤1000):zBZ c (z:Int) l=some ⟨c.lists.set z l⟩:=by
  have hn:=hc.n
  unfold zBZ
  rw [zj (by simp; omega)]
  exact zQu hc hl c.lists.length z9 0 (by omega) (by unfold z9; omega)
theorem zTu (h:Pc c zn) (hz:z<zn):zD6 c (z:Int)=some 0:=by
  have hl:=h.len
  unfold zD6
  rw [zSh h.ck,hl,h.r,zCz,dt rfl,Bool.not_true,zAD rfl,df (by omega),df (by omega)]
  rfl
theorem zTp (h:Pc c zn) (hz:z<zn):zID c (z:Int)=some 0:=by
  have hl:=h.len
  unfold zID
  rw [zSa h.ck,hl,h.r,zCz,dt rfl,Bool.not_true,zAD rfl,df (by omega),df (by omega)]
  rfl
theorem zOh (f:Int):∀ (l:List Int) (q:List (Int×Bool)),zLE false (zLH q l) f=(decide (f∈l)||zLE false q f)
  | [],q=>by simp [zLH]
  | x::l,q=>by
    have e:zLH q (x::l)=zLH (zJd q x true) l:=rfl
    rw [e,zOh f l,zNf]
    by_cases hx:f=x
    · simp [hx]
    · rw [if_neg hx]
      simp [hx]
theorem zRP (hc:Ck c):zDM c=some (zLH [] c.lists.flatten):=by
  unfold zDM
  rw [show (0:Int)=((0:Nat):Int) from rfl,fm0 hc c.lists.length z9 0 [] (by omega) (by have:=hc.n; unfold z9; omega),List.drop_zero]
theorem zVl {se:Int→Option Bool} {f:Int} {j:Nat} {l:List Int} (hc:Ck c) (hj:j<c.lists.length) (hl:at_ c.lists (j:Int)=l):∀ (m n i:Nat),i+m=l.length→m<n →
    zHZ se c f (j:Int) n (i:Int)=if f∈l.drop i then some true else se ((j+1:Nat):Int):=by
  have hb:l.length≤1000:=by rw [← hl]; exact hc.l _ (zA1 hj)
  have hn:=hc.n
  intro m
  induction m with
  | zero =>
    intro n i h1 h2
    obtain ⟨n,rfl⟩:∃ q,n=q+1:=⟨n - 1,by omega⟩
    show zE3 _ _ _ _ _ _=_
    unfold zE3 zIV
    rw [hl,zAD (df (by omega)),zj (zAG (by omega)),List.drop_eq_nil_of_le (by omega),if_neg (by simp)]
    rfl
  | succ m ih =>
    intro n i h1 h2
    obtain ⟨n,rfl⟩:∃ q,n=q+1:=⟨n - 1,by omega⟩
    have hi:i<l.length:=by omega
    show zE3 _ _ _ _ _ _=_
    unfold zE3
    rw [hl,zAV (dt (by omega)),zj (zAT hi),zCX hi]
    by_cases hf:at_ l (i:Int)=f
    · rw [zAV (dt hf),if_pos (by simp [hf])]
    · rw [zAD (df hf),zj (zAG (by omega))]
      refine (ih n (i+1) (by omega) (by omega)).trans ?_
      by_cases hm:f∈l.drop (i+1)
      · rw [if_pos hm,if_pos (List.mem_cons_of_mem _ hm)]
      · rw [if_neg hm,if_neg (fun h=>by rcases List.mem_cons.1 h with h | h; exact hf h.symm; exact hm h)]
theorem zVu {f:Int} (hc:Ck c):∀ (m n i:Nat),i+m=c.lists.length→m<n→zDD c f n (i:Int)=some (decide (f∈(c.lists.drop i).flatten)):=by
  have hn:=hc.n
  intro m
  induction m with
  | zero =>
    intro n i h1 h2
    obtain ⟨n,rfl⟩:∃ q,n=q+1:=⟨n - 1,by omega⟩
    show zFC _ _ _ _=_
    unfold zFC zIW
    rw [zAD (df (by omega)),zN3 (by omega),df (by simp)]
  | succ m ih =>
    intro n i h1 h2
    obtain ⟨n,rfl⟩:∃ q,n=q+1:=⟨n - 1,by omega⟩
    have hi:i<c.lists.length:=by omega
    have hb:=hc.l _ (zA1 hi)
    show zFC _ _ _ _=_
    unfold zFC
    rw [zAV (dt (by omega)),zj (zAT hi),show (0:Int)=((0:Nat):Int) from rfl,zVl hc hi rfl _ z9 0 (Nat.zero_add _) (by unfold z9; omega),List.drop_zero,zCX hi,List.flatten_cons]
    by_cases hm:f∈at_ c.lists (i:Int)
    · rw [if_pos hm,dt (by simp [hm])]
    · rw [if_neg hm,ih n (i+1) (by omega) (by omega)]
      congr 1
      exact decide_eq_decide.2 ⟨fun h=>List.mem_append_right _ h,fun h=>by rcases List.mem_append.1 h with h | h; exact absurd h hm; exact h⟩
theorem zUG {f:Int} (hc:Ck c):zK6 c f=some (decide (f∈c.lists.flatten)):=by
  have:=zVu (f:=f) hc c.lists.length z9 0 (by omega) (by have:=hc.n; unfold z9; omega)
  rw [List.drop_zero] at this
  exact this
def zMO (c:zL) (z:Nat) (f b h:Int):zL×List Int :=
  if ((at_ c.lists (z:Int)++[f]).length:Int)≤h then (⟨c.lists.set z (at_ c.lists (z:Int)++[f])⟩,[]) else (⟨c.lists.set z ((at_ c.lists (z:Int)++[f]).drop b.toNat)⟩,(at_ c.lists (z:Int)++[f]).take b.toNat)
theorem zVs {f b h:Int} (hp:Pc c zn) (hz:z<zn) (hf:zCk f=true) (hb:1≤b∧b≤h∧h≤64) (hn:f ∉ c.lists.flatten):zH3 c (z:Int) f b h=some ((zMO c z f b h).1,(zMO c z f b h).2,0):=by
  have hl:=hp.len
  have hzl:z<c.lists.length:=by omega
  have hbd:=hp.bd _ (zA1 hzl)
  have hff:zDh f=some true:=by
    unfold zDh
    show some (zCk f)=_
    rw [hf]
  unfold zH3 zMO
  generalize hq:at_ c.lists (z:Int)=q at hbd ⊢
  have hql:(q++[f]).length=q.length+1:=by simp
  rw [zTu hp hz,zCz,dt rfl,Bool.not_true,zAD rfl,hff,zCz,Bool.not_true,zAD rfl,df (by omega),df (by omega),Bool.or_false,zAD rfl,zRP hp.ck,zCz,zOh,df hn]
  rw [zAD (by rfl),zj (zAT hzl),zj (zAG (by omega)),zj (by simp; omega),zN2,zj (by simp; omega)]
  by_cases hh:((q++[f]).length:Int)≤h
  · rw [dt hh,if_pos hh,zAV rfl,zRD hp.ck (by omega),zCz,zCz]
  · have e1:zGB (q++[f]) b ((q++[f]).length:Int)=(q++[f]).drop b.toNat:=by
      unfold zGB
      rw [Int.toNat_natCast,List.take_length]
    rw [df hh,if_neg hh,zAD rfl,zj (by simp; omega),zj (by unfold zLB; rw [hql]; simp; omega),e1,zRD hp.ck (by rw [List.length_drop]; omega),zCz,zQz (by omega)]
theorem zVo {f b h:Int} (hp:Pc c zn) (hz:z<zn) (hf:zCk f=true) (hb:1≤b∧b≤h∧h≤64) (hn:f ∉ c.lists.flatten):zI2 c (z:Int) f b h=some ((zMO c z f b h).1,(zMO c z f b h).2,0):=by
  have hl:=hp.len
  have hzl:z<c.lists.length:=by omega
  have hbd:=hp.bd _ (zA1 hzl)
  have hff:zDH f=some false:=by
    unfold zDH
    unfold zCk at hf
    simp at hf ⊢
    omega
  unfold zI2 zMO
  rw [zTp hp hz,zCz,dt rfl,Bool.not_true,zAD rfl,hff,zCz,zAD rfl,df (by omega),df (by omega),Bool.or_false,zAD rfl,zUG hp.ck,zCz,df hn,zAD rfl,zOj hp.ck,zCz]
  generalize hq:at_ c.lists (z:Int)=q at hbd ⊢
  have hql:(q++[f]).length=q.length+1:=by simp
  rw [zj (zAT hzl),zj (by simp; omega)]
  by_cases hh:((q++[f]).length:Int)≤h
  · rw [dt hh,if_pos hh,zAV rfl,Int.toNat_natCast]
  · have e1:zGB (q++[f]) b ((q++[f]).length:Int)=(q++[f]).drop b.toNat:=by
      unfold zGB
      rw [Int.toNat_natCast,List.take_length]
    have e2:zGB (q++[f]) 0 b=(q++[f]).take b.toNat:=rfl
    rw [df hh,if_neg hh,zAD rfl,zj (by unfold zLB; rw [hql]; simp; omega),e2,zj (dt (by rw [List.length_take]; simp; omega)),zj (by unfold zLB; rw [hql]; simp; omega),e1,zj (dt (by rw [List.length_drop]; simp; omega)),List.nil_append,List.nil_append,Int.toNat_natCast]
end
end Go.Proofs.YtplkliakhdkpcaaGreat
namespace Go.Proofs.YtplkliakhdkpcaaGreat
open Go Go.RowKit Go.Wk Go.Am
theorem zUA {α:Type} [Inhabited α] {l:List α} {i:Nat} (h:i<l.length):l[i]?=some (at_ l (i:Int)):=by rw [zG8 h,List.getElem?_eq_getElem h]
theorem zQh {l:List (List Int)} {p:Nat} (h:l.length≤p):at_ l (p:Int)=[]:=by
  unfold at_
  rw [Int.toNat_natCast,List.getD_eq_getElem?_getD,List.getElem?_eq_none h]
  rfl
theorem zSm {l:List (List Int)} {p:Nat} {f:Int} (h:f∈at_ l (p:Int)):p<l.length:=by
  refine Nat.lt_of_not_le fun hn => ?_
  rw [zQh hn] at h
  cases h
theorem zP8 {f:Int} (h:0≤f):((f.toNat:Nat):Int)=f:=Int.toNat_of_nonneg h
theorem zSd {z:zp} (hr:ranges z=true):∀ (l:List Int) (d:List Bool),d.length=256→(feL z d l).1=0→(∀ f,f∈l→inZ z f=true∧zJg z f=false∧d.getD f.toNat false=false)∧l.Nodup∧(∀ g:Nat,(feL z d l).2.getD g false=true↔d.getD g false=true∨(g:Int)∈l)
  | [],d,hd,h=>⟨(fun f hf=>by cases hf),List.nodup_nil,(fun g=>by unfold feL; simp)⟩
  | f::r,d,hd,h=>by
    unfold feL at h ⊢
    by_cases hi:inZ z f=true
    · rw [if_pos hi] at h ⊢
      have hb:=zOB hr hi
      by_cases hx:(d.getD f.toNat false||zJg z f)=true
      · rw [if_pos hx] at h; cases h
      · rw [if_neg hx] at h ⊢
        simp only [Bool.or_eq_true,not_or,Bool.not_eq_true] at hx
        obtain ⟨i1,i2,i3⟩:=zSd hr r (d.set f.toNat true) (by rw [List.length_set]; exact hd) h
        have hfr:f ∉ r:=fun hm=>by
          have:=(i1 f hm).2.2
          rw [zBo _ _ _ (by omega),if_pos rfl] at this
          cases this
        refine ⟨fun g hg => ?_,List.nodup_cons.2 ⟨hfr,i2⟩,fun g => ?_⟩
        · rcases List.mem_cons.1 hg with rfl | hg
          · exact ⟨hi,hx.2,hx.1⟩
          · have h3:=i1 g hg
            refine ⟨h3.1,h3.2.1,?_⟩
            have h4:=h3.2.2
            rw [zBo _ _ _ (by omega)] at h4
            split at h4
            · cases h4
            · exact h4
        · rw [i3 g,zBo _ _ _ (by omega)]
          by_cases hg:g=f.toNat
          · rw [if_pos hg]
            exact ⟨fun _ => .inr (by rw [hg,zP8 hb.1]; simp),fun _ => .inl rfl⟩
          · rw [if_neg hg]
            constructor
            · rintro (h | h)
              · exact .inl h
              · exact .inr (List.mem_cons_of_mem _ h)
            · rintro (h | h)
              · exact .inl h
              · rcases List.mem_cons.1 h with h | h
                · omega
                · exact .inr h
    · rw [if_neg hi] at h; cases h
theorem zSZ:∀ (zs:List zp) (ls:List (List Int)) (d:List Bool),(∀ z,z∈zs→ranges z=true)→ls.length=zs.length→d.length=256→(feC d zs ls).1=0 →
    (∀ (p:Nat) z l,zs[p]?=some z→ls[p]?=some l→(∀ f,f∈l→inZ z f=true∧zJg z f=false∧d.getD f.toNat false=false)∧l.Nodup) ∧
    (∀ (p q:Nat) l m f,ls[p]?=some l→ls[q]?=some m→f∈l→f∈m→p=q)∧(∀ g:Nat,(feC d zs ls).2.getD g false=true↔d.getD g false=true ∨ ∃ l,l∈ls∧(g:Int)∈l)∧(∀ l,l∈ls → ∀ f,f∈l→0≤f)
  | [],[],d,_,_,_,_=>⟨(fun p z l h=>by simp at h),(fun p q l m f h=>by simp at h),(fun g=>by unfold feC; simp),(fun l hl=>by cases hl)⟩
  | [],_::_,_,_,hl,_,_=>by simp at hl
  | _::_,[],_,_,hl,_,_=>by simp at hl
  | z::zs,l::ls,d,hr,hl,hd,h=>by
    unfold feC at h ⊢
    have hrz:=hr z (by simp)
    by_cases h0:(feL z d l).1=0
    · rw [if_pos h0] at h ⊢
      obtain ⟨j1,j2,j3⟩:=zSd hrz l d hd h0
      obtain ⟨i1,i2,i3,i4⟩:=zSZ zs ls (feL z d l).2 (fun y hy=>hr y (by simp [hy])) (by simpa using hl) (by rw [zLI]; exact hd) h
      have hz:∀ (q:Nat) m f,ls[q]?=some m→f∈m→f ∉ l:=fun q m f hq hm hfl=>by
        have hq':q<zs.length:=by have:=(List.getElem?_eq_some_iff.1 hq).1; simp at hl; omega
        have h1:=((i1 q _ m (List.getElem?_eq_getElem hq') hq).1 f hm).2.2
        have hb:=zOB hrz (j1 f hfl).1
        have:=(j3 f.toNat).2 (.inr (by rw [zP8 hb.1]; exact hfl))
        rw [h1] at this
        cases this
      refine ⟨fun p y m hy hm => ?_,fun p q a b f ha hb hfa hfb => ?_,fun g => ?_,fun m hm f hf => ?_⟩
      · cases p with
        | zero=>simp at hy hm; subst hy; subst hm; exact ⟨j1,j2⟩
        | succ p =>
          have h1:=i1 p y m (by simpa using hy) (by simpa using hm)
          refine ⟨fun f hf => ?_,h1.2⟩
          have h2:=h1.1 f hf
          refine ⟨h2.1,h2.2.1,?_⟩
          cases hq:d.getD f.toNat false with
          | false=>rfl
          | true=>rw [(j3 f.toNat).2 (.inl hq)] at h2; cases h2.2.2
      · cases p with
        | zero =>
          simp at ha
          subst ha
          cases q with
          | zero=>rfl
          | succ q=>exact absurd hfa (hz q b f (by simpa using hb) hfb)
        | succ p =>
          cases q with
          | zero=>simp at hb; subst hb; exact absurd hfb (hz p a f (by simpa using ha) hfa)
          | succ q=>rw [i2 p q a b f (by simpa using ha) (by simpa using hb) hfa hfb]
      · rw [i3 g,j3 g]
        constructor
        · rintro ((h | h) | ⟨m,h1,h2⟩)
          · exact .inl h
          · exact .inr ⟨l,by simp,h⟩
          · exact .inr ⟨m,by simp [h1],h2⟩
        · rintro (h | ⟨m,h1,h2⟩)
          · exact .inl (.inl h)
          · rcases List.mem_cons.1 h1 with rfl | h1
            · exact .inl (.inr h2)
            · exact .inr ⟨m,h1,h2⟩
      · rcases List.mem_cons.1 hm with rfl | hm
        · exact (zOB hrz (j1 f hf).1).1
        · exact i4 m hm f hf
    · rw [if_neg h0] at h; exact absurd h h0
theorem zSo {zs:List zp} (hr:∀ z,z∈zs→ranges z=true):∀ (cs:List zL) (d:List Bool),(∀ c,c∈cs→c.lists.length=zs.length)→d.length=256→feA zs d cs=0 →
    (∀ c,c∈cs → ∀ (p:Nat) z l,zs[p]?=some z→c.lists[p]?=some l→(∀ f,f∈l→inZ z f=true∧zJg z f=false)∧l.Nodup) ∧
    (∀ c,c∈cs → ∀ (p q:Nat) l m f,c.lists[p]?=some l→c.lists[q]?=some m→f∈l→f∈m→p=q) ∧
    (∀ (i j:Nat) x y l m f,cs[i]?=some x→cs[j]?=some y→l∈x.lists→m∈y.lists→f∈l→f∈m→i=j)∧(∀ c,c∈cs → ∀ l,l∈c.lists → ∀ f,f∈l→d.getD f.toNat false=false)
  | [],_,_,_,_=>⟨(fun c hc=>by cases hc),(fun c hc=>by cases hc),(fun i j x y l m f h=>by simp at h),(fun c hc=>by cases hc)⟩
  | c::cs,d,hl,hd,h=>by
    unfold feA at h
    by_cases h0:(feC d zs c.lists).1=0
    · rw [if_pos h0] at h
      have hcl:=hl c (by simp)
      obtain ⟨j1,j2,j3,j4⟩:=zSZ zs c.lists d hr hcl hd h0
      obtain ⟨i1,i2,i3,i4⟩:=zSo hr cs (feC d zs c.lists).2 (fun x hx=>hl x (by simp [hx])) (by rw [zNs]; exact hd) h
      have hz:∀ y m f,y∈cs→m∈y.lists→f∈m → ∀ l,l∈c.lists→f ∉ l:=fun y m f hy hm hf l hl hfl=>by
        have h1:=i4 y hy m hm f hf
        have:=(j3 f.toNat).2 (.inr ⟨l,hl,by rw [zP8 (j4 l hl f hfl)]; exact hfl⟩)
        rw [h1] at this
        cases this
      refine ⟨fun x hx => ?_,fun x hx => ?_,fun i j x y l m f hi hj hlx hmy hfl hfm => ?_,fun x hx l hlx f hf => ?_⟩
      · rcases List.mem_cons.1 hx with rfl | hx
        · exact fun p z l h1 h2=>⟨fun f hf=>⟨((j1 p z l h1 h2).1 f hf).1,((j1 p z l h1 h2).1 f hf).2.1⟩,(j1 p z l h1 h2).2⟩
        · exact i1 x hx
      · rcases List.mem_cons.1 hx with rfl | hx
        · exact j2
        · exact i2 x hx
      · cases i with
        | zero =>
          simp at hi
          subst hi
          cases j with
          | zero=>rfl
          | succ j=>exact absurd hfl (hz y m f (List.mem_of_getElem? (by simpa using hj)) hmy hfm l hlx)
        | succ i =>
          cases j with
          | zero=>simp at hj; subst hj; exact absurd hfm (hz x l f (List.mem_of_getElem? (by simpa using hi)) hlx hfl m hmy)
          | succ j=>rw [i3 i j x y l m f (by simpa using hi) (by simpa using hj) hlx hmy hfl hfm]
      · rcases List.mem_cons.1 hx with rfl | hx
        · obtain ⟨p,hp,e⟩:=List.getElem_of_mem hlx
          have hpz:p<zs.length:=by omega
          exact ((j1 p _ l (List.getElem?_eq_getElem hpz) (by rw [List.getElem?_eq_getElem hp,e])).1 f hf).2.2
        · cases hq:d.getD f.toNat false with
          | false=>rfl
          | true =>
            have:=i4 x hx l hlx f hf
            rw [(j3 f.toNat).2 (.inl hq)] at this
            cases this
    · rw [if_neg h0] at h; exact absurd h h0
theorem zSf:∀ {cs:List zL} {h zn:Int},cE h zn cs=0 → ∀ c,c∈cs → ∀ l,l∈c.lists→(l.length:Int)≤h
  | [],_,_,_,_,hc=>absurd hc (by simp)
  | c::cs,h,zn,he,x,hx=>by
    unfold cE at he
    by_cases h0:pcR c zn=0
    · rw [if_pos h0] at he
      split at he
      · cases he
      · rename_i hany
        rcases List.mem_cons.1 hx with rfl | hx
        · intro l hl
          refine Int.not_lt.1 fun hlt=>hany ?_
          exact List.any_eq_true.2 ⟨l,hl,decide_eq_true hlt⟩
        · exact zSf he x hx
    · rw [if_neg h0] at he; exact absurd he h0
theorem zPz {z:zp} {f:Int} (hr:ranges z=true):inZ z f=true↔inside z f 0=true:=by
  have hb:=zBs hr
  rw [zBW hr,pw0]
  unfold inZ
  simp only [Bool.and_eq_true,decide_eq_true_eq]
  omega
theorem zPi {z:zp} {f:Int} (hz:Zk z) (h:zD5 z=0) (hi:inside z f 0=true):zJg z f=true↔cov z f:=by
  obtain ⟨hr,hin,_⟩:=zHF hz h
  have hb:=zAe hr hi
  have hc:=zL9 hz hr hin f.toNat
  rw [zP8 hb.1] at hc
  unfold zJg
  rw [dt h,hi]
  simp only [Bool.and_self,Bool.true_and,decide_eq_true_eq]
  exact hc
def Lf (a:zJ) (c p:Nat):List Int:=at_ (at_ a.caches (c:Int)).lists (p:Int)
def Zn (a:zJ) (p:Nat):zp:=at_ a.zones (p:Int)
structure Wa (a:zJ):Prop where
  n:1≤a.nodes.length∧a.nodes.length≤4
  bh:1≤a.batch∧a.batch≤a.high∧a.high≤64
  zn:1≤a.zones.length∧a.zones.length≤6
  cn:a.caches.length=a.nodes.length
  zs:∀ p,p<a.zones.length→OkZ (Zn a p)
  ap:∀ p q f,p<a.zones.length→q<a.zones.length→inside (Zn a p) f 0=true→inside (Zn a q) f 0=true→p=q
  cl:∀ c,c<a.caches.length→(at_ a.caches (c:Int)).lists.length=a.zones.length
  own:∀ c p f,c<a.caches.length→f∈Lf a c p→inside (Zn a p) f 0=true ∧ ¬ cov (Zn a p) f
  nd:∀ c p,c<a.caches.length→(Lf a c p).Nodup
  dis:∀ c d p q f,c<a.caches.length→d<a.caches.length→f∈Lf a c p→f∈Lf a d q→c=d∧p=q
  lim:∀ c p,c<a.caches.length→((Lf a c p).length:Int)≤a.high
section
variable {a:zJ}
theorem Wa.pz (h:Wa a) {c p:Nat} {f:Int} (hc:c<a.caches.length) (hf:f∈Lf a c p):p<a.zones.length:=by
  rw [← h.cl c hc]
  exact zSm hf
theorem Wa.pc (h:Wa a) {c:Nat} (hc:c<a.caches.length):Pc (at_ a.caches (c:Int)) a.zones.length:=by
  have hl:=h.cl c hc
  have hlf:∀ l,l∈(at_ a.caches (c:Int)).lists → ∃ p,p<a.zones.length∧l=Lf a c p:=fun l hm=>by
    obtain ⟨p,hp,e⟩:=List.getElem_of_mem hm
    exact ⟨p,by omega,by unfold Lf; rw [zG8 hp,e]⟩
  refine ⟨h.zn,hl,fun l hm => ?_,fun l hm f hf => ?_,fun l hm => ?_,fun p q f hp hq h1 h2=>(h.dis c c p q f hc hc h1 h2).2⟩
  · obtain ⟨p,hp,rfl⟩:=hlf l hm
    have:=h.lim c p hc
    have:=h.bh
    omega
  · obtain ⟨p,hp,rfl⟩:=hlf l hm
    have hb:=(h.zs p hp).bds (h.own c p f hc hf).1
    rw [pw0] at hb
    unfold zCk
    simp
    omega
  · obtain ⟨p,hp,rfl⟩:=hlf l hm
    exact h.nd c p hc
theorem zVP (ha:Al a) (h:zRy a=0):Wa a:=by
  have hv:=zUI ha h
  have hzc:∀ z,z∈a.zones→zD5 z=0:=fun z hz=>hv.chk hz
  have hzr:∀ z,z∈a.zones→ranges z=true:=fun z hz=>zCm (hzc z hz)
  unfold zRy at h
  split at h
  · rename_i hf
    split at h
    · rename_i hz
      split at h
      · rename_i hl
        split at h
        · rename_i hc
          obtain ⟨q1,q2,q3,_⟩:=zSo hzr a.caches zEI hv.len zIF h
          have hap:=(zQL hz).2
          unfold zSR zIU at hf
          simp only [Bool.and_eq_true,Bool.not_eq_true',Bool.or_eq_false_iff,decide_eq_false_iff_not] at hf
          have hcl:∀ c,c<a.caches.length→(at_ a.caches (c:Int)).lists.length=a.zones.length:=fun c hc=>hv.len _ (zA1 hc)
          have hpz:∀ c p f,c<a.caches.length→f∈Lf a c p→p<a.zones.length:=fun c p f hc hf=>by rw [← hcl c hc]; exact zSm hf
          have hnd:∀ c p,c<a.caches.length→p<a.zones.length→(∀ f,f∈Lf a c p→inZ (Zn a p) f=true∧zJg (Zn a p) f=false)∧(Lf a c p).Nodup:=fun c p hc hp=>q1 _ (zA1 hc) p _ _ (zUA hp) (zUA (by rw [hcl c hc]; exact hp))
          refine ⟨by omega,by omega,by omega,by omega,fun p hp => ?_,fun p q f hp hq h1 h2 => ?_,hcl,fun c p f hc hf => ?_,fun c p hc => ?_,fun c d p q f hc hd h1 h2 => ?_,fun c p hcc => ?_⟩
          · exact (zKV (ha.zk _ (zA1 hp)).1 (hzc _ (zA1 hp))).1
          · have e1:=(zPz (hzr _ (zA1 hp))).2 h1
            have e2:=(zPz (hzr _ (zA1 hq))).2 h2
            have g1:=(zN8 f a.zones 0 p hp hap).2 (by rw [← zG8 hp]; exact e1)
            have g2:=(zN8 f a.zones 0 q hq hap).2 (by rw [← zG8 hq]; exact e2)
            omega
          · have hp:=hpz c p f hc hf
            have h1:=(hnd c p hc hp).1 f hf
            have hzk:=(ha.zk _ (zA1 hp)).1
            have hi:=(zPz (hzr _ (zA1 hp))).1 h1.1
            refine ⟨hi,fun hcv => ?_⟩
            have:=(zPi hzk (hzc _ (zA1 hp)) hi).2 hcv
            rw [show zJg (at_ a.zones (p:Int)) f=false from h1.2] at this
            cases this
          · by_cases hp:p<a.zones.length
            · exact (hnd c p hc hp).2
            · unfold Lf
              rw [zQh (by rw [hcl c hc]; omega)]
              exact List.nodup_nil
          · have hp:=hpz c p f hc h1
            have hq:=hpz d q f hd h2
            have hpl:p<(at_ a.caches (c:Int)).lists.length:=by rw [hcl c hc]; exact hp
            have hql:q<(at_ a.caches (d:Int)).lists.length:=by rw [hcl d hd]; exact hq
            have e:c=d:=q3 c d _ _ _ _ f (zUA hc) (zUA hd) (zA1 hpl) (zA1 hql) h1 h2
            subst e
            exact ⟨rfl,q2 _ (zA1 hc) p q _ _ f (zUA hpl) (zUA hql) h1 h2⟩
          · by_cases hp:p<a.zones.length
            · exact zSf hc _ (zA1 hcc) _ (zA1 (by rw [hcl c hcc]; exact hp))
            · unfold Lf
              rw [zQh (by rw [hcl c hcc]; omega)]
              show ((0:Nat):Int)≤_
              omega
        · rename_i hc; exact absurd h hc
      · cases h
    · rename_i hz; exact absurd h hz
  · cases h
end
end Go.Proofs.YtplkliakhdkpcaaGreat
namespace Go.Proofs.YtplkliakhdkpcaaGreat
open Go Go.RowKit Go.Wk Go.Am
theorem zOQ {α:Type} [Inhabited α] {l:List α} {i j:Nat} {x:α} (h:i<l.length):at_ (l.set i x) (j:Int)=if j=i then x else at_ l (j:Int):=by
  unfold at_
  rw [Int.toNat_natCast,List.getD_eq_getElem?_getD,List.getElem?_set]
  by_cases hj:i=j
  · rw [if_pos hj,if_pos h,if_pos hj.symm]
    rfl
  · rw [if_neg hj,if_neg (fun e=>hj e.symm),List.getD_eq_getElem?_getD]
def upd (a:zJ) (c p:Nat) (l:List Int) (z:zp):zJ:=⟨a.nodes,a.batch,a.high,a.zones.set p z,a.caches.set c ⟨(at_ a.caches (c:Int)).lists.set p l⟩⟩
section
variable {a:zJ} {c p:Nat} {l:List Int} {z:zp}
theorem zUK (hp:p<a.zones.length) (q:Nat):Zn (upd a c p l z) q=if q=p then z else Zn a q:=zOQ hp
theorem zVE (h:Wa a) (hc:c<a.caches.length) (hp:p<a.zones.length) (d q:Nat):Lf (upd a c p l z) d q=if d=c∧q=p then l else Lf a d q:=by
  unfold Lf upd
  rw [zOQ hc]
  by_cases hd:d=c
  · subst hd
    rw [if_pos rfl,zOQ (by rw [h.cl d hc]; exact hp)]
    by_cases hq:q=p
    · rw [if_pos hq,if_pos ⟨rfl,hq⟩]
    · rw [if_neg hq,if_neg (fun e=>hq e.2)]
  · rw [if_neg hd,if_neg (fun e=>hd e.1)]
theorem zSc (h:Wa a) (hc:c<a.caches.length) (hp:p<a.zones.length) (hz:OkZ z) (h5:zIT z (Zn a p)) (hl:(l.length:Int)≤a.high) (hn:l.Nodup)
    (hi:∀ f,f∈l→inside (Zn a p) f 0=true ∧ ¬ cov z f) (hd:∀ d f,d<a.caches.length→d≠c→f∈Lf a d p→f ∉ l ∧ ¬ cov z f):Wa (upd a c p l z):=by
  have hZ:=fun q=>zUK (c:=c) (l:=l) (z:=z) hp q
  have hL:=fun d q=>zVE (l:=l) (z:=z) h hc hp d q
  have hzl:(upd a c p l z).zones.length=a.zones.length:=List.length_set
  have hcl:(upd a c p l z).caches.length=a.caches.length:=List.length_set
  have hin:∀ q f,inside (Zn (upd a c p l z) q) f 0=inside (Zn a q) f 0:=fun q f=>by
    rw [hZ q]
    by_cases hq:q=p
    · rw [if_pos hq,hq,h5.inside]
    · rw [if_neg hq]
  have hq':∀ d q f,d<a.caches.length→f∈Lf a d q→f∈l→q=p:=fun d q f hd1 hf hfl=>h.ap q p f (h.pz hd1 hf) hp (h.own d q f hd1 hf).1 (hi f hfl).1
  refine ⟨h.n,h.bh,by rw [hzl]; exact h.zn,by rw [hcl]; exact h.cn,fun q hq => ?_,fun q r f hq hr h1 h2 => ?_,fun d hd1 => ?_,fun d q f hd1 hf => ?_,fun d q hd1 => ?_,fun d e q r f hd1 he h1 h2 => ?_,fun d q hd1 => ?_⟩
  · rw [hZ q]
    by_cases e:q=p
    · rw [if_pos e]; exact hz
    · rw [if_neg e]; exact h.zs q (by rwa [hzl] at hq)
  · rw [hin] at h1 h2
    exact h.ap q r f (by rwa [hzl] at hq) (by rwa [hzl] at hr) h1 h2
  · rw [hcl] at hd1
    rw [hzl]
    show (at_ (a.caches.set c _) (d:Int)).lists.length=_
    rw [zOQ hc]
    by_cases e:d=c
    · rw [if_pos e]
      show ((at_ a.caches (c:Int)).lists.set p l).length=_
      rw [List.length_set,h.cl c hc]
    · rw [if_neg e]; exact h.cl d hd1
  · rw [hcl] at hd1
    rw [hin,hZ q]
    rw [hL d q] at hf
    by_cases e:d=c∧q=p
    · rw [if_pos e] at hf
      rw [if_pos e.2,e.2]
      exact hi f hf
    · rw [if_neg e] at hf
      refine ⟨(h.own d q f hd1 hf).1,?_⟩
      by_cases hqp:q=p
      · subst hqp
        rw [if_pos rfl]
        exact (hd d f hd1 (fun x=>e ⟨x,rfl⟩) hf).2
      · rw [if_neg hqp]; exact (h.own d q f hd1 hf).2
  · rw [hcl] at hd1
    rw [hL d q]
    by_cases e:d=c∧q=p
    · rw [if_pos e]; exact hn
    · rw [if_neg e]; exact h.nd d q hd1
  · rw [hcl] at hd1 he
    rw [hL d q] at h1
    rw [hL e r] at h2
    by_cases e1:d=c∧q=p
    · rw [if_pos e1] at h1
      by_cases e2:e=c∧r=p
      · exact ⟨e1.1.trans e2.1.symm,e1.2.trans e2.2.symm⟩
      · rw [if_neg e2] at h2
        have hr:=hq' e r f he h2 h1
        subst hr
        exact absurd h1 (hd e f he (fun x=>e2 ⟨x,rfl⟩) h2).1
    · rw [if_neg e1] at h1
      by_cases e2:e=c∧r=p
      · rw [if_pos e2] at h2
        have hr:=hq' d q f hd1 h1 h2
        subst hr
        exact absurd h2 (hd d f hd1 (fun x=>e1 ⟨x,rfl⟩) h1).1
      · rw [if_neg e2] at h2
        exact h.dis d e q r f hd1 he h1 h2
  · rw [hcl] at hd1
    rw [hL d q]
    by_cases e:d=c∧q=p
    · rw [if_pos e]; exact hl
    · rw [if_neg e]; exact h.lim d q hd1
theorem Wa.sm (h:Wa a):Sm a:=by
  refine ⟨by have:=h.n; omega,by have:=h.zn; omega,by have:=h.n; have:=h.cn; omega,fun z hz k => ?_,fun x hx => ?_⟩
  · obtain ⟨q,hq,e⟩:=List.getElem_of_mem hz
    have:=(h.zs q hq).putI.len' k
    unfold Zn at this
    rw [zG8 hq,e] at this
    unfold lst at this
    omega
  · obtain ⟨d,hd,e⟩:=List.getElem_of_mem hx
    have h1:=h.cl d hd
    have h2:=(h.pc hd).bd
    rw [zG8 hd,e] at h1 h2
    exact ⟨by have:=h.zn; omega,fun l hl=>by have:=h2 l hl; omega⟩
theorem zUr {f:Int} (h:OkZ z) (hi:inside z f 0=true) (hn:¬ cov z f):zH6 z f 0=some (zMk 4 z f 0,0) :=
  zST (k:=0) h.zk h.inI (zKY h) (by omega) hi (fun g g1 g2=>by
    rw [pw0] at g2
    have:g=f:=by omega
    rw [this]; exact hn)
theorem zUc {f:Int} (h:OkZ z) (hi:inside z f 0=true) (hn:¬ cov z f):zH4 z f 0=some (zMk 4 z f 0,0) :=
  zSL (k:=0) h.zk (zKY h) (by omega) hi (fun g g1 g2=>by
    rw [pw0] at g2
    have:g=f:=by omega
    rw [this]; exact hn)
theorem zQn {fs:List Int} (hfs:fs.length≤1000):∀ (m n i:Nat) (zs:List zp),i+m=fs.length→m<n→p<zs.length→OkZ (at_ zs (p:Int))→(∀ f,f∈fs.drop i→inside (at_ zs (p:Int)) f 0=true ∧ ¬ cov (at_ zs (p:Int)) f)→(fs.drop i).Nodup →
    zCq a (p:Int) fs n (i:Int) zs=some ⟨a.nodes,a.batch,a.high,zs.set p (zKd (at_ zs (p:Int)) (fs.drop i)),a.caches⟩ ∧
    zGh a (p:Int) fs n (i:Int) zs=some ⟨a.nodes,a.batch,a.high,zs.set p (zKd (at_ zs (p:Int)) (fs.drop i)),a.caches⟩:=by
  intro m
  induction m with
  | zero =>
    intro n i zs h1 h2 hp _ _ _
    obtain ⟨n,rfl⟩:∃ q,n=q+1:=⟨n - 1,by omega⟩
    rw [List.drop_eq_nil_of_le (by omega)]
    show zCE _ _ _ _ _ _=some (⟨_,_,_,zs.set p (at_ zs (p:Int)),_⟩:zJ)∧zEH _ _ _ _ _ _=some (⟨_,_,_,zs.set p (at_ zs (p:Int)),_⟩:zJ)
    unfold zCE zEH
    rw [zAD (df (by omega)),zAD (df (by omega)),zPO hp]
    exact ⟨rfl,rfl⟩
  | succ m ih =>
    intro n i zs h1 h2 hp ho hf hn
    obtain ⟨n,rfl⟩:∃ q,n=q+1:=⟨n - 1,by omega⟩
    have hi:i<fs.length:=by omega
    rw [zCX hi] at hf hn ⊢
    have h0:=hf (at_ fs (i:Int)) (by simp)
    have hnd:=List.nodup_cons.1 hn
    obtain ⟨q1,q2,q3⟩:=OkZ.put 4 (k:=0) (by omega) ho h0.1 (fun g g1 g2=>by
      rw [pw0] at g2
      have:g=at_ fs (i:Int):=by omega
      rw [this]; exact h0.2)
    have e1:at_ (zs.set p (zMk 4 (at_ zs (p:Int)) (at_ fs (i:Int)) 0)) (p:Int)=zMk 4 (at_ zs (p:Int)) (at_ fs (i:Int)) 0:=by rw [zOQ hp,if_pos rfl]
    have hr:=ih n (i+1) (zs.set p (zMk 4 (at_ zs (p:Int)) (at_ fs (i:Int)) 0)) (by omega) (by omega) (by rw [List.length_set]; exact hp) (by rw [e1]; exact q1) (fun g hg=>by
      rw [e1,q3.inside]
      refine ⟨(hf g (by simp [hg])).1,fun hc => ?_⟩
      rcases (q2 g).1 hc with hc | hc
      · exact (hf g (by simp [hg])).2 hc
      · rw [pw0] at hc
        have:g=at_ fs (i:Int):=by omega
        exact hnd.1 (this▸hg)) hnd.2
    rw [e1,List.set_set] at hr
    show zCE _ _ _ _ _ _=some (⟨_,_,_,zs.set p (zKd (zMk 4 (at_ zs (p:Int)) (at_ fs (i:Int)) 0) (fs.drop (i+1))),_⟩:zJ)∧zEH _ _ _ _ _ _=some (⟨_,_,_,zs.set p (zKd (zMk 4 (at_ zs (p:Int)) (at_ fs (i:Int)) 0) (fs.drop (i+1))),_⟩:zJ)
    unfold zCE zEH zD4
    rw [zAV (dt (by omega)),zAV (dt (by omega)),zj (zAT hi),zj (zAT hp),zj (zAT hp),zj (zAT hi),zUr ho h0.1 h0.2,zUc ho h0.1 h0.2,zCz,zCz,zAV (dt rfl),zj (zAG (by omega)),zj (zAG (by omega))]
    exact hr
theorem zTO {fs:List Int} (hfs:fs.length≤1000) (hp:p<a.zones.length) (ho:OkZ (Zn a p)) (hf:∀ f,f∈fs→inside (Zn a p) f 0=true ∧ ¬ cov (Zn a p) f) (hn:fs.Nodup) :
    zEe a (p:Int) fs=some ⟨a.nodes,a.batch,a.high,a.zones.set p (zKd (Zn a p) fs),a.caches⟩∧zI3 a (p:Int) fs=some ⟨a.nodes,a.batch,a.high,a.zones.set p (zKd (Zn a p) fs),a.caches⟩ :=
  zQn (a:=a) hfs fs.length z9 0 a.zones (by omega) (by unfold z9; omega) hp ho hf hn
theorem zVB (h:Va a) (hw:Wa a) {f:Int} (hp:p<a.zones.length) (hi:inside (Zn a p) f 0=true):∃ b,zEg a (p:Int) f=some b∧zIz a (p:Int) f=some b∧(b=true↔cov (Zn a p) f ∨ ∃ c,c<a.caches.length∧f∈Lf a c p):=by
  have hzk:=h.al.zk _ (zA1 hp)
  have hcl:=h.al.c
  obtain ⟨r1,q1,s1⟩:=zSy h (f:=f) hp a.caches.length z9 0 (by omega) (by unfold z9; omega)
  obtain ⟨r2,q2,s2⟩:=zTd h (f:=f) hp a.caches.length z9 0 (by omega) (by unfold z9; omega)
  have ed:decide (0≤r1)=decide (0≤r2):=decide_eq_decide.2 (s1.trans s2.symm)
  have e1:zEW a (p:Int) f=some r1:=by
    unfold zEW zAi
    rw [show (0:Int)=((0:Nat):Int) from rfl,q1]
    rfl
  have e2:zIc a (p:Int) f=some r2:=q2
  have hc:=zPi hzk.1 (zKY (hw.zs p hp)) hi
  have hs:0≤r1 ↔ ∃ c,c<a.caches.length∧f∈Lf a c p:=by
    rw [s1,List.drop_zero]
    constructor
    · rintro ⟨c,h1,h2⟩
      obtain ⟨d,hd,e⟩:=List.getElem_of_mem h1
      exact ⟨d,hd,by unfold Lf; rw [zG8 hd,e]; exact h2⟩
    · rintro ⟨c,h1,h2⟩
      exact ⟨_,zA1 h1,h2⟩
  unfold zEg zIz
  rw [zj (zAT hp),zj (zAT hp),zU9 hzk.1 hzk.2,zUw hzk.1,zCz,zCz,e1,e2]
  cases hz:zJg (at_ a.zones (p:Int)) f with
  | true=>exact ⟨true,rfl,rfl,fun _ => .inl (hc.1 hz),fun _=>rfl⟩
  | false =>
    refine ⟨decide (0≤r1),?_,?_,?_⟩
    · show some (false||decide (0≤r1))=_
      rw [Bool.false_or]
    · show some (false||decide (0≤r2))=_
      rw [Bool.false_or,ed]
    · rw [decide_eq_true_eq,hs]
      exact ⟨.inr,fun x=>x.resolve_left fun y=>by rw [show zJg (at_ a.zones (p:Int)) f=true from hc.2 y] at hz; cases hz⟩
def zTR (a:zJ) (c p:Nat) (f:Int):zJ:=⟨a.nodes,a.batch,a.high,a.zones.set p (zKd (Zn a p) (zMO (at_ a.caches (c:Int)) p f a.batch a.high).2),a.caches.set c (zMO (at_ a.caches (c:Int)) p f a.batch a.high).1⟩
theorem zUP (hw:Wa a) {f:Int} (hc:c<a.caches.length) (hp:p<a.zones.length) (hi:inside (Zn a p) f 0=true) (hn:¬ cov (Zn a p) f) (hq:∀ d,d<a.caches.length→f ∉ Lf a d p) :
    zH3 (at_ a.caches (c:Int)) (p:Int) f a.batch a.high=some ((zMO (at_ a.caches (c:Int)) p f a.batch a.high).1,(zMO (at_ a.caches (c:Int)) p f a.batch a.high).2,0) ∧
    zI2 (at_ a.caches (c:Int)) (p:Int) f a.batch a.high=some ((zMO (at_ a.caches (c:Int)) p f a.batch a.high).1,(zMO (at_ a.caches (c:Int)) p f a.batch a.high).2,0) ∧
    (∀ cs,zEe ⟨a.nodes,a.batch,a.high,a.zones,cs⟩ (p:Int) (zMO (at_ a.caches (c:Int)) p f a.batch a.high).2=some ⟨a.nodes,a.batch,a.high,a.zones.set p (zKd (Zn a p) (zMO (at_ a.caches (c:Int)) p f a.batch a.high).2),cs⟩ ∧
      zI3 ⟨a.nodes,a.batch,a.high,a.zones,cs⟩ (p:Int) (zMO (at_ a.caches (c:Int)) p f a.batch a.high).2=some ⟨a.nodes,a.batch,a.high,a.zones.set p (zKd (Zn a p) (zMO (at_ a.caches (c:Int)) p f a.batch a.high).2),cs⟩)∧Wa (zTR a c p f):=by
  have hpc:=hw.pc hc
  have hb:=(hw.zs p hp).bds hi
  rw [pw0] at hb
  have hlim:=hw.lim c p hc
  have hnd:=hw.nd c p hc
  have hbh:=hw.bh
  have hfr:zCk f=true:=by unfold zCk; simp; omega
  have hfl:f ∉ (at_ a.caches (c:Int)).lists.flatten:=fun hm=>by
    obtain ⟨l,hl,hfm⟩:=List.mem_flatten.1 hm
    obtain ⟨q,hq1,e⟩:=List.getElem_of_mem hl
    have hfq:f∈Lf a c q:=by unfold Lf; rw [zG8 hq1,e]; exact hfm
    have:=hw.ap q p f (hw.pz hc hfq) hp (hw.own c q f hc hfq).1 hi
    subst this
    exact hq c hc hfq
  have hx:∀ g,g∈Lf a c p++[f]→inside (Zn a p) g 0=true ∧ ¬ cov (Zn a p) g:=fun g hg=>by
    rcases List.mem_append.1 hg with hg | hg
    · exact hw.own c p g hc hg
    · rw [List.mem_singleton.1 hg]; exact ⟨hi,hn⟩
  have hxn:(Lf a c p++[f]).Nodup:=by
    rw [List.nodup_append]
    exact ⟨hnd,by simp,fun x hx' y hy e=>by rw [List.mem_singleton.1 hy] at e; rw [e] at hx'; exact hq c hc hx'⟩
  have hl1:(Lf a c p++[f]).length=(Lf a c p).length+1:=by simp
  have hdd:∀ d g,d<a.caches.length→d≠c→g∈Lf a d p→g ∉ Lf a c p++[f]:=fun d g hd hdc hg hm=>by
    rcases List.mem_append.1 hm with hm | hm
    · exact hdc (hw.dis d c p p g hd hc hg hm).1
    · rw [List.mem_singleton.1 hm] at hg; exact hq d hd hg
  refine ⟨zVs hpc hp hfr hbh hfl,zVo hpc hp hfr hbh hfl,fun cs => ?_,?_⟩
  · have hsp:∀ g,g∈(zMO (at_ a.caches (c:Int)) p f a.batch a.high).2→g∈Lf a c p++[f]:=fun g hg=>by
      unfold zMO at hg
      split at hg
      · cases hg
      · exact List.mem_of_mem_take hg
    have hsn:(zMO (at_ a.caches (c:Int)) p f a.batch a.high).2.Nodup:=by
      unfold zMO
      split
      · exact List.nodup_nil
      · exact hxn.sublist (List.take_sublist _ _)
    have hsl:(zMO (at_ a.caches (c:Int)) p f a.batch a.high).2.length≤1000:=by
      unfold zMO
      split
      · exact Nat.zero_le _
      · show (List.take _ (Lf a c p++[f])).length≤_
        rw [List.length_take]; omega
    exact zTO (a:=⟨a.nodes,a.batch,a.high,a.zones,cs⟩) hsl hp (hw.zs p hp) (fun g hg=>hx g (hsp g hg)) hsn
  · unfold zTR zMO
    by_cases hh:((at_ (at_ a.caches (c:Int)).lists (p:Int)++[f]).length:Int)≤a.high
    · rw [if_pos hh]
      exact zSc (z:=Zn a p) hw hc hp (hw.zs p hp) ⟨rfl,rfl,rfl,rfl,rfl⟩ hh hxn hx (fun d g hd hdc hg=>⟨hdd d g hd hdc hg,(hw.own d p g hd hg).2⟩)
    · rw [if_neg hh]
      obtain ⟨g1,g2,g3⟩:=zPV (((Lf a c p)++[f]).take a.batch.toNat) (hw.zs p hp) (fun g hg=>hx g (List.mem_of_mem_take hg)) (hxn.sublist (List.take_sublist _ _))
      have hh':a.high<((Lf a c p++[f]).length:Int):=Int.not_le.1 hh
      have hdj:∀ g,g∈(Lf a c p++[f]).drop a.batch.toNat→g ∉ (Lf a c p++[f]).take a.batch.toNat:=fun g h1 h2=>by
        have:=hxn
        rw [← List.take_append_drop a.batch.toNat (Lf a c p++[f]),List.nodup_append] at this
        exact this.2.2 g h2 g h1 rfl
      refine zSc hw hc hp g1 g3 ?_ (hxn.sublist (List.drop_sublist _ _)) (fun g hg => ?_) (fun d g hd hdc hg=>⟨fun hm=>hdd d g hd hdc hg (List.mem_of_mem_drop hm),fun hcv => ?_⟩)
      · show (((Lf a c p++[f]).drop a.batch.toNat).length:Int)≤_
        rw [List.length_drop]
        omega
      · have h1:=hx g (List.mem_of_mem_drop hg)
        refine ⟨h1.1,fun hcv => ?_⟩
        rcases (g2 g).1 hcv with h | h
        · exact h1.2 h
        · exact hdj g hg h
      · rcases (g2 g).1 hcv with h | h
        · exact (hw.own d p g hd hg).2 h
        · exact hdd d g hd hdc hg (List.mem_of_mem_take h)
theorem zQc (ha:Al a) (c f:Int):Bo (zEh a c f) (zI5 a c f):=by
  unfold zEh zI5
  rw [zUb ha,zTQ ha,zCz,zCz]
  by_cases h:zRy a=0
  · have hv:=zUI ha h
    have hw:=zVP ha h
    have hzl:=ha.z
    obtain ⟨_,hap⟩:=zQL hv.z
    rw [dt h,Bool.not_true,zAD rfl,zAD rfl,zUf ha (fun z hz=>hv.chk hz),zVZ ha (fun z hz=>hv.chk hz),zCz,zCz]
    cases hd:(((decide (c<0))||(decide ((a.nodes.length:Int)≤c)))||(decide (zIx f a.zones 0<0))) with
    | true=>exact ⟨_,rfl,rfl,zVa⟩
    | false =>
      simp only [Bool.or_eq_false_iff,decide_eq_false_iff_not] at hd
      obtain ⟨p,hp⟩:=Int.eq_ofNat_of_zero_le (show 0≤zIx f a.zones 0 by omega)
      obtain ⟨d,rfl⟩:=Int.eq_ofNat_of_zero_le (show 0≤c by omega)
      have hpl:p<a.zones.length:=by
        rcases zQf f a.zones 0 with hq | hq <;> omega
      have hdl:d<a.caches.length:=by rw [hw.cn]; omega
      have hinz:inZ (at_ a.zones (p:Int)) f=true:=by
        have:=(zN8 f a.zones 0 p hpl hap).1 (by rw [hp]; omega)
        rw [zG8 hpl]; exact this
      have hi:inside (Zn a p) f 0=true:=(zPz (hw.zs p hpl).ranges).1 hinz
      obtain ⟨b,b1,b2,b3⟩:=zVB hv hw hpl hi
      rw [zAD rfl,zAD rfl,hp,b1,b2,zCz,zCz]
      cases b with
      | true=>exact ⟨_,rfl,rfl,zVa⟩
      | false =>
        have hnf:¬ (cov (Zn a p) f ∨ ∃ c,c<a.caches.length∧f∈Lf a c p):=fun hh=>by have:=b3.2 hh; cases this
        obtain ⟨w1,w2,w3,w4⟩:=zUP hw hdl hpl hi (fun hh=>hnf (.inl hh)) (fun e he hm=>hnf (.inr ⟨e,he,hm⟩))
        rw [zAD rfl,zAD rfl,zUu ha,zUL ha,zCz,zCz,zj (zAT hdl),zj (zAT hdl),w1,w2,zCz,zCz,dt rfl,Bool.not_true,zAD rfl,(w3 _).1,(w3 _).2,zCz]
        exact ⟨(zTR a d p f,0),rfl,rfl,w4.sm⟩
  · rw [df h]
    exact ⟨_,rfl,rfl,zVa⟩
theorem zTf (hg:∀ z,z∈a.zones→Gz z) (c f:Int):zDr a c f=some true:=by
  obtain ⟨b,b1,b2⟩:=few hg
  unfold zDr
  rw [zTj,zCz,Bool.not_true,Bool.not_false,zAV rfl,b1,zCz]
  cases b with
  | false=>rfl
  | true =>
    obtain ⟨r,r1,r2,r3⟩:=zQc (b2 rfl) c f
    refine (zAD (by rfl)).trans ?_
    rw [r1,zCz,r2,zCz,dt rfl,zAV rfl,zVD r3]
    rfl
end
end Go.Proofs.YtplkliakhdkpcaaGreat
namespace Go.Proofs.YtplkliakhdkpcaaGreat
open Go Go.ChangeShapes Go.WideShapes Go.ChangeAt Go.RowKit Go.Wk Go.Am
theorem own:ownKnob Tryz.prog.godebug=none:=by kernel_rfl
theorem zS7:laidOutB Tryz.prog=true:=by kernel_rfl
theorem zUV {n:Int} (h:(Lit.int .i64 n).wf=true):inI n=true:=by
  refine zAG ?_
  simp [Lit.wf,IntKind.min,IntKind.max,IntKind.signed,IntKind.bits] at h
  omega
theorem zMo:RdC Tryz.prog 3 cI (fun n=>inI n=true):=RdC.map (zTK Tryz.underlying3) id (fun _=>rfl) (fun _ h=>zUV h)
theorem zOn:RdC Tryz.prog 22 (cS cI) (fun l=>(∀ x,x∈l→inI x=true)∧l.length≤140737488351232):=zKr Tryz.underlying22 (of_decide_eq_true (by kernel_rfl)) (of_decide_eq_true (by kernel_rfl)) zMo
theorem zU6:RdC Tryz.prog 49 (cA 5 (eS cI) ([]:List Int)) (fun l=>l.length=5 ∧ ∀ x,x∈l→(∀ y,y∈x→inI y=true)∧x.length≤140737488351232):=zTN [] Tryz.underlying49 (by kernel_rfl) (by kernel_rfl) zOn
theorem zUJ:RdC Tryz.prog 51 zO Gz :=
  RdC.map (zLX (tot:=10) Tryz.underlying51 (by kernel_rfl) (zFs (s:=1) zMo rfl (by kernel_rfl) (zFs (s:=1) zMo rfl (by kernel_rfl) (zFs (s:=1) zMo rfl (by kernel_rfl) (zFs (s:=1) zMo rfl (by kernel_rfl) (zFs (s:=1) zMo rfl (by kernel_rfl) (zFs (s:=5) zU6 rfl (by kernel_rfl) (zPG rfl))))))))
    (fun x=>⟨x.1,x.2.1,x.2.2.1,x.2.2.2.1,x.2.2.2.2.1,x.2.2.2.2.2.1⟩) (fun _=>rfl) (fun _ h=>⟨h.2.2.2.2.2.1.1,h.2.2.1⟩)
theorem zTS:RdC Tryz.prog 23 (cS zO) (fun l=>(∀ x,x∈l→Gz x)∧l.length≤140737488351232):=zKr Tryz.underlying23 (of_decide_eq_true (by kernel_rfl)) (of_decide_eq_true (by kernel_rfl)) zUJ
theorem zS6:RdC Tryz.prog 53 (cS (cS cI)) (fun l=>(∀ x,x∈l→(∀ y,y∈x→inI y=true)∧x.length≤140737488351232)∧l.length≤140737488351232):=zKr Tryz.underlying53 (of_decide_eq_true (by kernel_rfl)) (of_decide_eq_true (by kernel_rfl)) zOn
theorem zTn:RdC Tryz.prog 55 zH (fun _=>True) :=
  RdC.map (zLX (tot:=1) Tryz.underlying55 (by kernel_rfl) (zFs (s:=1) zS6 rfl (by kernel_rfl) (zPG rfl))) (fun x=>⟨x.1⟩) (fun _=>rfl) (fun _ _=>trivial)
theorem zR5:RdC Tryz.prog 24 (cS zH) (fun l=>(∀ x,x∈l→True)∧l.length≤140737488351232):=zKr Tryz.underlying24 (of_decide_eq_true (by kernel_rfl)) (of_decide_eq_true (by kernel_rfl)) zTn
theorem zTC:RdC Tryz.prog 26 zG (fun a => ∀ z,z∈a.zones→Gz z) :=
  RdC.map (zLX (tot:=5) Tryz.underlying26 (by kernel_rfl) (zFs (s:=1) zOn rfl (by kernel_rfl) (zFs (s:=1) zMo rfl (by kernel_rfl) (zFs (s:=1) zMo rfl (by kernel_rfl) (zFs (s:=1) zTS rfl (by kernel_rfl) (zFs (s:=1) zR5 rfl (by kernel_rfl) (zPG rfl)))))))
    (fun x=>⟨x.1,x.2.1,x.2.2.1,x.2.2.2.1,x.2.2.2.2.1⟩) (fun _=>rfl) (fun _ h=>h.2.2.2.1.1)
set_option maxRecDepth 100000 in
theorem zJu (os:Os) (started:os.Started) (H:Type) (enc:TypeId×Value→H) :
    ReturnsInHanded {} Tryz.checked os 6 .any (Rows.allocatorFreesSpec.pre6 enc Tryz.prog Tryz.f6 Rows.allocatorFreesRow.domain false) (Rows.allocatorFreesSpec.post enc Tryz.prog Tryz.f6 false true false false):=by
  refine returnsInHanded_of_change_sized (C:=Tryz.checked) own started (by kernel_rfl) Tryz.func6
    (ChangeSpec.witness6 (enc:=enc) (C:=Tryz.checked) false ⟨#[], #[.agg #[.slice none 0 0,.int .i64 0,.int .i64 0,.slice none 0 0,.slice none 0 0],.int .i64 0,.int .i64 0],[]⟩ 8 (by kernel_rfl) (by kernel_rfl) (by kernel_rfl) (by kernel_rfl)) ?_
  intro W base args ds gs before hval0 hW hcnd0 hsz0 _
  have hsz:(DataW.weightsEach Tryz.prog (Tryz.f6.params.toList++Rows.allocatorFreesSpec.plain.varTypes Tryz.prog) (ds++gs)).all (· ≤ reachBytes)=true:=hsz0
  have hval:∀ (j:Nat) t v,Tryz.f6.params[j]?=some t→args[j]?=some v→Value.okWide Tryz.prog W .any base t v:=hval0
  clear hcnd0 hsz0 hval0
  have hW':=hW
  obtain ⟨p,q,hA0,hV,rfl,hfz,hnd⟩:=hW
  have hA:DataW.TrodAll enc Tryz.prog W 0 (fun _=>true) true Tryz.f6.params.toList args.toList ds p:=hA0
  clear hA0
  rw [Tryz.params6] at hA hval hsz
  obtain ⟨v0,v1,v2,d0,d1,d2,p0,p1,p2,rfl,rfl,rfl,h0,h1,h2⟩:=trodAll_three hA
  obtain ⟨rfl,rfl⟩:=trodVars_none hV
  simp only [List.append_nil] at hW' hsz
  have hlt:=hW'.lt
  have hwt:∀ (j:Nat) (t:TypeId) (d:DataW H),([26,3,3]:List TypeId)[j]?=some t→[d0,d1,d2][j]?=some d → ∀ n,n∈d.weights Tryz.prog t→n≤reachBytes:=by
    intro j t d ht hd n hn
    have:=List.all_eq_true.1 hsz n (DataW.weights_mem_each (ts:=[26,3,3]++Rows.allocatorFreesSpec.plain.varTypes Tryz.prog) (by rw [List.getElem?_append_left (by have:=(List.getElem?_eq_some_iff.1 ht).1; exact this)]; exact ht) hd n hn)
    simpa using this
  obtain ⟨xs,rfl,hxs⟩:=okWide_struct Tryz.underlying26 (hval 0 26 v0 rfl rfl)
  obtain ⟨i1,rfl⟩:=okWide_int Tryz.underlying3 (hval 1 3 v1 rfl rfl)
  obtain ⟨i2,rfl⟩:=okWide_int Tryz.underlying3 (hval 2 3 v2 rfl rfl)
  obtain ⟨a,r0,hg⟩:=zTC.argA h0 (hwt 0 26 d0 rfl rfl) rfl
  obtain ⟨x1,r1,y1⟩:=zMo.arg1 (g:=eI) h1 (hwt 1 3 d1 rfl rfl) rfl
  obtain ⟨x2,r2,y2⟩:=zMo.arg1 (g:=eI) h2 (hwt 2 3 d2 rfl rfl) rfl
  have hk:∀ (W':World),Below W.heap.size W W' → ∀ (t:TypeId) (v:Value) (d:DataW H) (ps:List MemPlace),Tryz.prog.readableRec t=true→t<Tryz.prog.types.size→DataW.Trod enc Tryz.prog W 0 (fun _=>true) true t v d ps→(∀ x∈ps,x.block<W.heap.size)→DataW.Trod enc Tryz.prog W' 0 (fun b=>decide (b<W.heap.size)) true t v d ps :=
    fun W' hb t v d ps hr hs h hl=>Below.trod zS7 hr hs h hb hl
  refine (zJP (zTf hg x1 x2) W noB _ (fun x h=>h.elim) (show VRt W noB [] _ [_,_,_] [] from ?_)).mono ?_
  · unfold VRt
    refine ⟨_,_,[],[],rfl,rfl,r0,?_⟩
    unfold VRt
    refine ⟨_,_,[],[],rfl,rfl,r1,?_⟩
    unfold VRt
    refine ⟨_,_,[],[],rfl,rfl,r2,?_⟩
    unfold VRt
    exact ⟨rfl,rfl⟩
  · rintro v W' ⟨fr,hv,_,_,kp⟩
    unfold VR at hv
    obtain ⟨rfl,_⟩:=hv
    have hb:Below W.heap.size W W':=⟨kp.os,kp.tape,kp.output,kp.size,fun k hk=>kp.block k hk id⟩
    refine ⟨_,_,_,[],_,[],hW',trodAll_mk1 (shut_bool Tryz.underlying4 true),trodAll_mk3 (hk W' hb _ _ _ _ (by kernel_rfl) (of_decide_eq_true (by kernel_rfl)) h0 (fun x hx=>hlt x (by simp [hx]))) (hk W' hb _ _ _ _ (by kernel_rfl) (of_decide_eq_true (by kernel_rfl)) h1 (fun x hx=>hlt x (by simp [hx]))) (hk W' hb _ _ _ _ (by kernel_rfl) (of_decide_eq_true (by kernel_rfl)) h2 (fun x hx=>hlt x (by simp [hx]))),rfl,hb.frame _,fun h=>by cases h⟩
theorem allocatorFrees_holds:Rows.AllocatorFreesSaid :=
  OpenClaim.holds_of_wide 6 Tryz.f6 rfl rfl rfl rfl rfl rfl rfl ⟨rfl,rfl,rfl,rfl,rfl⟩ rfl rfl rfl rfl rfl (by kernel_rfl) Tryz.func6 (by kernel_rfl)
    (of_decide_eq_true (by kernel_rfl)) (by unfold Func.isWrapper; first | (rw [if_pos (by decide +kernel)]; kernel_rfl) | (rw [if_neg (by decide +kernel)]; exact ⟨rfl,rfl⟩))
    (fun os started H enc _=>zJu os started H enc)
end Go.Proofs.YtplkliakhdkpcaaGreat
