/-
  What the printed functions of the layer buddy give, in plain words: part one, up to New. No program in sight.
-/
import Derived.Test.YtplkliakhdkpcaaGreatPa
set_option linter.unusedVariables false
set_option linter.unusedSimpArgs false
namespace Go.Proofs.YtplkliakhdkpcaaGreat
open Go Go.RowKit Go.Wk Go.Am
section
variable {α β:Type} {b:Bool} {x y:Option α} {a:α} {f:α→Option β}
theorem zi (h:b=true):chk b x=x:=by subst h; rfl
theorem zAY (h:b=true):cnd b x y=x:=by subst h; rfl
theorem zAG (h:b=false):cnd b x y=y:=by subst h; rfl
theorem zD0:(some a).bind f=f a:=rfl
end
theorem zAE {a:Int} (h : -9223372036854775808≤a∧a≤9223372036854775807):inI a=true:=by simp [inI,h]
theorem zUa {i:Int} {n:Nat} (h:0≤i∧i<(n:Int)):inb i n=true:=by simp [inb,h]
theorem zAb {i n:Nat} (h:i<n):inb (i:Int) n=true:=zUa (by omega)
theorem zJ9 {a b:Bool} (h:b=true):(a||b)=true:=by rw [h,Bool.or_true]
theorem dt {p:Prop} [Decidable p] (h:p):decide p=true:=decide_eq_true h
theorem df {p:Prop} [Decidable p] (h:¬ p):decide p=false:=decide_eq_false h
theorem zII {α:Type} [Inhabited α] {l:List α} {i:Nat} (h:i<l.length):at_ l (i:Int)=l[i]:=by
  unfold at_
  rw [Int.toNat_natCast,List.getD_eq_getElem?_getD,List.getElem?_eq_getElem h]
  rfl
theorem zTY (i j:Nat):((i:Int)+(j:Int)).fdiv (2 ^ (1:Int).toNat)=(((i+j)/2:Nat):Int):=by
  show ((i:Int)+(j:Int)).fdiv 2=_
  rw [Int.fdiv_eq_ediv_of_nonneg _ (by omega)]
  omega
theorem zRP (x y:Int):zHN x y=some (decide (x<y)):=by
  unfold zHN zD5
  simp [cnd]
theorem zRx {l:List Int} {t:Int} {i:Nat} (hs:Srt l) (hi:i≤l.length) (h1:∀ p x,p<i→l[p]?=some x→x<t) (h2:∀ p x,i≤p→l[p]?=some x→t≤x) :
    zA0 l t (i:Int)=some ((lb l t:Int),decide (t∈l)):=by
  rw [zUW hi h1 h2]
  unfold zA0 zEQ
  rcases Nat.lt_or_ge i l.length with h | h
  · have hx:l[i]?=some l[i]:=List.getElem?_eq_getElem h
    have hb:inb (i:Int) l.length=true:=zAb h
    have hd:decide ((i:Int)<(l.length:Int))=true:=dt (by omega)
    have hm:decide (t∈l)=decide (l[i]=t):=by rw [decide_eq_decide]; exact zTX hs h1 h2 hx
    rw [zi (zJ9 hb),zi (zJ9 hb),zII h,hd,hm]
    cases hq:decide (l[i]=t) <;> simp [cnd]
  · have hd:decide ((i:Int)<(l.length:Int))=false:=df (by omega)
    have hm:decide (t∈l)=false:=df (fun hh=>(zUX h1 (by omega)).1 hh)
    rw [hd,hm]
    rfl
theorem zSL {l:List Int} {t:Int} (hs:Srt l) (hl:l.length≤1000000):∀ (m n i j:Nat),j - i≤m→m<n→i≤j→j≤l.length→(∀ p x,p<i→l[p]?=some x→x<t)→(∀ p x,j≤p→l[p]?=some x→t≤x) →
    zAz l t n (i:Int) (j:Int)=some ((lb l t:Int),decide (t∈l)):=by
  intro m
  induction m with
  | zero =>
    intro n i j h1 h2 h3 h4 ha hb
    obtain ⟨n,rfl⟩:∃ k,n=k+1:=⟨n - 1,by omega⟩
    show zAW _ _ _ _ _=_
    unfold zAW
    rw [zAG (df (by omega))]
    have:j=i:=by omega
    subst this
    exact zRx hs h4 ha hb
  | succ m ih =>
    intro n i j h1 h2 h3 h4 ha hb
    obtain ⟨n,rfl⟩:∃ k,n=k+1:=⟨n - 1,by omega⟩
    show zAW _ _ _ _ _=_
    unfold zAW
    by_cases hij:i<j
    · have hm:(i+j)/2<l.length:=by omega
      rw [zAY (dt (by omega)),zTY,zi (zAE (by omega)),zi (dt (zGr (by omega) (by omega))),zi (dt (zSr (by omega) (by omega))),zi (zAb hm),zRP,zD0,zII hm]
      have hx:l[(i+j)/2]?=some l[(i+j)/2]:=List.getElem?_eq_getElem hm
      by_cases hlt:l[(i+j)/2]<t
      · rw [zAY (dt hlt),zi (zAE (by omega))]
        exact ih n ((i+j)/2+1) j (by omega) (by omega) (by omega) h4 (zRa hs hx hlt) hb
      · rw [zAG (df hlt)]
        exact ih n i ((i+j)/2) (by omega) (by omega) (by omega) (by omega) ha (zRY hs hx hlt)
    · rw [zAG (df (by omega))]
      have:j=i:=by omega
      subst this
      exact zRx hs h4 ha hb
theorem zRL {l:List Int} {t:Int} (hs:Srt l) (hl:l.length≤1000000):zAT l t=some ((lb l t:Int),decide (t∈l)) :=
  zSL hs hl l.length z9 0 l.length (by omega) (by unfold z9; omega) (by omega) (by omega) (fun p x hp=>by omega) (fun p x hp hx=>by
    rw [List.getElem?_eq_none (by omega)] at hx; cases hx)
theorem zIn {k:Nat} (h:k≤5):(1:Int)*2 ^ (k:Int).toNat=2 ^ k∧(1:Int)≤2 ^ k∧(2:Int) ^ k≤32:=by
  rw [Int.one_mul,Int.toNat_natCast]
  refine ⟨rfl,?_⟩
  have:k=0∨k=1∨k=2∨k=3∨k=4∨k=5:=by omega
  rcases this with rfl | rfl | rfl | rfl | rfl | rfl <;> decide
theorem zLa {k:Nat} (h:k≤5):zLc (k:Int)=true:=by
  unfold zLc
  rw [dt (by omega),dt (by omega)]
  rfl
theorem zJg {z:zo} {f:Int} {k:Nat} (hr:ranges z=true) (hk:k≤5):zCF z f (k:Int)=some (inside z f k):=by
  have hb:=zCA hr
  obtain ⟨e,h1,h2⟩:=zIn hk
  unfold zCF inside
  rw [e,zi (zLa hk),zi (zAE (by omega)),zi (zJ9 (by rw [df (by omega)]; rfl)),zi (zJ9 (zAE (by omega))),zi (zJ9 (zAE (by omega)))]
theorem zSk:∀ k:Fin 4, ∀ x:Fin 256,zLD .xor .i64 (x.val:Int) (2 ^ k.val)=((x.val ^^^ 2 ^ k.val:Nat):Int):=by decide +kernel
theorem zRs {f:Int} {k:Nat} (h0:0≤f) (h1:f<256) (hk:k<4):zLD .xor .i64 f (2 ^ k)=bud f k:=by
  obtain ⟨m,rfl⟩:=Int.eq_ofNat_of_zero_le h0
  exact zSk ⟨k,hk⟩ ⟨m,by omega⟩
theorem zKW {l:List (List Int)} (hl:l.length=5) {i:Nat} (hi:i<5) (x:List Int):zDl 5 [] l i x=l.set i x:=by
  match l,hl with
  | [a,b,c,d,e],_ =>
    have:i=0∨i=1∨i=2∨i=3∨i=4:=by omega
    rcases this with rfl | rfl | rfl | rfl | rfl <;> rfl
theorem zIN {l:List (List Int)} {i:Nat} (hi:i<l.length):l.set i (l.getD i [])=l:=by
  apply List.ext_getElem?
  intro j
  rw [List.getElem?_set]
  split
  · rename_i h
    subst h
    simp [hi]
  · rfl
theorem zPe.srt' {z:zo} (h:zPe z) (k:Nat):Srt (lst z k):=by
  rcases Nat.lt_or_ge k 5 with hk | hk
  · exact h.srt k _ (zJZ h.len hk)
  · rw [zKu h.len hk]; exact Srt.nil
theorem zPe.len' {z:zo} (h:zPe z) (k:Nat):(lst z k).length≤256:=by
  rcases Nat.lt_or_ge k 5 with hk | hk
  · exact h.lenl (zJZ h.len hk)
  · rw [zKu h.len hk]; simp
theorem zOR {z:zo} (h:zPe z) {f:Int} {k:Nat} (hk:k<5) {a:zo} (ha:zIu a z):zF7 a f (k:Int) z.free=some (zQ6 z f k):=by
  unfold zF7
  have e:z.free.getD (k:Int).toNat []=lst z k:=rfl
  have h5:=h.len
  rw [zi (zAb hk),zi (dt (by omega)),e,zRL (h.srt' k) (by have:=h.len' k; omega),zD0]
  have hok:zPZ (lst z k) (lb (lst z k) f:Int)=true:=by
    have h1:=zUJ (lst z k) f
    have h2:=h.len' k
    unfold zPZ
    rw [dt (by omega),dt (by omega),dt (by omega)]
    rfl
  rw [zi hok]
  show some (zo.mk _ _ _ _ _ _)=_
  rw [zKW h5 (by omega),ha.1,ha.2.1,ha.2.2.1,ha.2.2.2.1,ha.2.2.2.2]
  rfl
theorem zRK:∀ (m n:Nat) {z a:zo} {f:Int} {k:Nat},m+k=4→m<n→zPe z→zIu a z→0≤f→f<256 →
    zHT a n f (k:Int) z.free=some (zOJ m z f k):=by
  intro m
  induction m with
  | zero =>
    intro n z a f k hk hn h ha h0 h1
    obtain ⟨n,rfl⟩:∃ q,n=q+1:=⟨n - 1,by omega⟩
    show zFB _ _ _ _ _=_
    unfold zFB
    rw [zAG (df (by omega))]
    exact zOR h (by omega) ha
  | succ m ih =>
    intro n z a f k hk hn h ha h0 h1
    obtain ⟨n,rfl⟩:∃ q,n=q+1:=⟨n - 1,by omega⟩
    show zFB _ _ _ _ _=_
    unfold zFB
    have e:z.free.getD (k:Int).toNat []=lst z k:=rfl
    have h5:=h.len
    obtain ⟨e1,p1,p2⟩:=zIn (k:=k) (by omega)
    have e3:zDl 5 [] z.free (k:Int).toNat (lst z k)=z.free:=by
      rw [zKW h5 (by omega)]
      exact zIN (by omega)
    have e4:(⟨a.node,a.kind,a.start,a.count,a.min,z.free⟩:zo)=z:=by rw [ha.1,ha.2.1,ha.2.2.1,ha.2.2.2.1,ha.2.2.2.2]
    rw [zAY (dt (by omega)),zi (zLa (by omega)),e1,zi (zAE (by omega)),zi (zAb (by omega)),zi (dt (by omega)),e,zRs h0 h1 (by omega),zRL (h.srt' k) (by have:=h.len' k; omega),zD0]
    rw [zi (zJ9 (zAE (by omega))),e3,e4]
    have hin:zCF z (min f (bud f k)) ((k:Int)+1)=some (inside z (min f (bud f k)) (k+1)):=zJg (k:=k+1) h.ranges (by omega)
    rw [hin]
    conv=>rhs; unfold zOJ
    by_cases hm:bud f k∈lst z k
    · have hb:=h.bd k _ (zJZ h5 (by omega)) _ hm
      show ((cnd (!!decide (bud f k∈lst z k)) _ _).bind _)=_
      rw [dt hm,Bool.not_true,Bool.not_false,zAY rfl,zD0]
      by_cases hi:inside z (min f (bud f k)) (k+1)=true
      · have hj:zLX z f k=true:=by unfold zLX; rw [hi,dt hm]; rfl
        rw [if_pos hj,hi]
        refine (zAG (by rfl)).trans ?_
        have hdel:zQb (z.free.getD (k:Int).toNat []) (lb (lst z k) (bud f k):Int) ((lb (lst z k) (bud f k):Int)+1)=true:=by
          have:=zUf hm
          rw [e]
          unfold zQb
          rw [dt (by omega),dt (by omega),dt rfl]
          rfl
        rw [zi (zAE (by have:=zUJ (lst z k) (bud f k); have:=h.len' k; omega)),zi hdel,zi (zAE (by omega))]
        have hz:(zO7 z (bud f k) k).free=zDl 5 [] z.free (k:Int).toNat (zRw (z.free.getD (k:Int).toNat []) (lb (lst z k) (bud f k):Int)):=by
          rw [zKW h5 (by omega)]
          rfl
        rw [← hz]
        exact ih n (k:=k+1) (by omega) (by omega) (h.del (zJZ h5 (by omega))) (show zIu a (zO7 z (bud f k) k) from ha) (by omega) (by omega)
      · have hj:¬ zLX z f k=true:=by unfold zLX; rw [Bool.and_eq_true]; exact fun q=>hi q.2
        have hi':inside z (min f (bud f k)) (k+1)=false:=by simpa using hi
        rw [if_neg hj,hi']
        refine (zAY (by rfl)).trans ?_
        exact zOR h (by omega) ha
    · have hj:¬ zLX z f k=true:=by unfold zLX; rw [Bool.and_eq_true,decide_eq_true_eq]; exact fun q=>hm q.1
      show ((cnd (!!decide (bud f k∈lst z k)) _ _).bind _)=_
      rw [if_neg hj,df hm,Bool.not_false,Bool.not_true,zAG rfl,zD0]
      refine (zAY (by rfl)).trans ?_
      exact zOR h (by omega) ha
theorem zTg {z:zo} {f:Int} {k:Nat} (h:zPe z) (hk:k≤4) (h0:0≤f) (h1:f<256):zI4 z f (k:Int)=some (zOJ (4 - k) z f k) :=
  zRK (4 - k) z9 (by omega) (by unfold z9; omega) h ⟨rfl,rfl,rfl,rfl,rfl⟩ h0 h1
theorem zPw (z:zo) (h:inI z.start=true):zF4 z=some (ranges z):=by
  unfold zF4 ranges
  by_cases hs:0≤z.start∧z.start<256
  · rw [zi (zJ9 (zAE (by omega)))]
  · have:(((((((decide (0≤z.node))&&(decide (z.node<4)))&&((decide (z.kind=0))||(decide (z.kind=1))))&&(decide (0≤z.start)))&&(decide (z.start<256)))&&(decide (1≤z.count))))=false:=by
      rcases Classical.not_and_iff_not_or_not.1 hs with hs | hs <;> simp [hs]
    rw [this]
    rfl
theorem zPY (z:zo):zGY z=some (ranges z):=by
  unfold zGY
  by_cases h:(((decide (z.node<0))||(decide (4≤z.node)))||((!decide (z.kind=0))&&(!decide (z.kind=1))))=true
  · rw [zAY h]
    have:ranges z=false:=by
      cases hr:ranges z with
      | false=>rfl
      | true =>
        have hb:=zCA hr
        simp at h
        omega
    rw [this]
  · have h':=Bool.eq_false_iff.2 h
    rw [zAG h']
    have hc:(!(((decide (0≤z.start))&&(decide (1≤z.count)))&&(decide (z.count≤256)))||inI (256 - z.count))=true:=by
      by_cases hq:1≤z.count∧z.count≤256
      · exact zJ9 (zAE (by omega))
      · have:(decide (0≤z.start)&&decide (1≤z.count)&&decide (z.count≤256))=false:=by
          rcases Classical.not_and_iff_not_or_not.1 hq with hq | hq <;> simp [hq]
        rw [this]
        rfl
    rw [zi hc]
    congr 1
    rw [Bool.eq_iff_iff]
    unfold ranges
    simp at h ⊢
    omega
theorem zPR {z:zo} {f:Int} {k:Nat} (hr:ranges z=true) (hk:k≤4) (h0:z.start≤f) (h1:f<z.start+z.count):zBR z f (k:Int)=some (inside z f k):=by
  have hb:=zCA hr
  obtain ⟨e,p1,p2⟩:=zIn (k:=k) (by omega)
  unfold zBR
  rw [zi (zJ9 (zAE (by omega))),df (p:=(k:Int)<0) (by omega),df (p:=4<(k:Int)) (by omega),df (p:=f<z.start) (by omega),df (p:=z.start+z.count≤f) (by omega)]
  refine (zAG (by rfl)).trans ?_
  rw [e,zi (dt (zGr (by omega) (by omega))),zi (zLa (by omega)),zi (zAE (by omega)),zi (by rw [df (by omega)]; rfl),zi (zJ9 (zAE (by omega))),zi (zJ9 (zAE (by omega)))]
  congr 1
  unfold inside
  rw [Bool.eq_iff_iff]
  simp
  omega
theorem zLW {k:Nat} (h:k≤5):(2:Int) ^ k=((2 ^ k:Nat):Int):=by norm_cast
theorem zRV {l:List Int} {f:Int→Option Bool} {p:Int→Bool} (hf:∀ x,f x=some (p x)) (hl:l.length≤1099511627776):∀ (m n i:Nat),i+m=l.length→m<n → ∃ r,zAV l f n (i:Int)=some r∧decide (0≤r)=(l.drop i).any p:=by
  intro m
  induction m with
  | zero =>
    intro n i h1 h2
    obtain ⟨n,rfl⟩:∃ q,n=q+1:=⟨n - 1,by omega⟩
    refine ⟨-1,?_,?_⟩
    · show zAh _ _ _ _=_
      unfold zAh
      rw [zAG (df (by omega))]
      rfl
    · rw [List.drop_eq_nil_of_le (by omega)]
      rfl
  | succ m ih =>
    intro n i h1 h2
    obtain ⟨n,rfl⟩:∃ q,n=q+1:=⟨n - 1,by omega⟩
    have hi:i<l.length:=by omega
    have hs:zAV l f (n+1) (i:Int)=cnd (p l[i]) (some (i:Int)) (zAV l f n ((i+1:Nat):Int)):=by
      show zAh _ _ _ _=_
      unfold zAh
      rw [zAY (dt (by omega)),zi (zAb hi),hf,zD0,zII hi,zi (zAE (by omega))]
      rfl
    rw [hs,List.drop_eq_getElem_cons hi,List.any_cons]
    cases hp:p l[i] with
    | true=>exact ⟨i,rfl,by rw [dt (by omega)]; rfl⟩
    | false=>simpa [cnd] using ih n (i+1) (by omega) (by omega)
def zL2 (n:Int):Bool:=decide (n<0)||decide (4≤n)
def zJD (k b h z:Int):Bool:=decide (k<1)||decide (4<k)||decide (64<h)||decide (b<1)||decide (h<b)||decide (z<1)||decide (6<z)
def zR2 (nodes:List Int) (b h z:Int):Bool := !zJD (nodes.length:Int) b h z && !nodes.any zL2
theorem zPo {a:zJ} (hl:a.nodes.length≤1099511627776):zCk a=some (zR2 a.nodes a.batch a.high (a.zones.length:Int)):=by
  unfold zCk zR2
  show cnd (zJD (a.nodes.length:Int) a.batch a.high (a.zones.length:Int)) _ _=_
  cases zJD (a.nodes.length:Int) a.batch a.high (a.zones.length:Int) with
  | true=>rfl
  | false =>
    obtain ⟨r,h1,h2⟩:=zRV (l:=a.nodes) (f:=fun y=>zCx y) (p:=zL2) (fun x=>rfl) hl a.nodes.length z9 0 (by omega) (by unfold z9; omega)
    unfold zBg zCK
    show (((zAV a.nodes (fun y=>zCx y) z9 ((0:Nat):Int)).bind _).bind _)=_
    rw [h1,zD0,zD0,h2]
    rfl
theorem zPX {l:List Int} (hl:l.length≤1099511627776):∀ (m n i:Nat),i+m=l.length→m<n→zER l n (i:Int)=some (!(l.drop i).any zL2):=by
  intro m
  induction m with
  | zero =>
    intro n i h1 h2
    obtain ⟨n,rfl⟩:∃ q,n=q+1:=⟨n - 1,by omega⟩
    show zCa _ _ _=_
    unfold zCa
    rw [zAG (df (by omega)),List.drop_eq_nil_of_le (by omega)]
    rfl
  | succ m ih =>
    intro n i h1 h2
    obtain ⟨n,rfl⟩:∃ q,n=q+1:=⟨n - 1,by omega⟩
    have hi:i<l.length:=by omega
    show zCa _ _ _=_
    unfold zCa
    rw [zAY (dt (by omega)),zi (zAb hi),zII hi,zi (zAE (by omega)),List.drop_eq_getElem_cons hi,List.any_cons]
    show cnd (zL2 l[i]) _ _=_
    cases zL2 l[i] with
    | true=>rfl
    | false=>exact ih n (i+1) (by omega) (by omega)
theorem zRb {nodes:List Int} {b h z:Int} (hl:nodes.length≤1099511627776):zGE nodes b h z=some (zR2 nodes b h z):=by
  unfold zGE zR2
  have e:(((((((decide ((nodes.length:Int)<1))||(decide (4<(nodes.length:Int))))||(decide (b<1)))||(decide (h<b)))||(decide (64<h)))||(decide (z<1)))||(decide (6<z)))=zJD (nodes.length:Int) b h z:=by
    rw [Bool.eq_iff_iff]
    unfold zJD
    simp only [Bool.or_eq_true,decide_eq_true_eq]
    omega
  rw [e]
  cases zJD (nodes.length:Int) b h z with
  | true=>rfl
  | false=>exact zPX hl nodes.length z9 0 (by omega) (by unfold z9; omega)
set_option maxRecDepth 100000 in
theorem zSx:zH3=some true:=by kernel_rfl
end Go.Proofs.YtplkliakhdkpcaaGreat
