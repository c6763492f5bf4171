/-
  The law AllocatorReturns on the printed functions. No program in sight.
-/
import Derived.Test.YtplkliakhdkpcaaGreatPm
import Derived.Test.YtplkliakhdkpcaaGreatPs
set_option linter.unusedVariables false
set_option linter.unusedSimpArgs false
namespace Go.Proofs.YtplkliakhdkpcaaGreat
open Go Go.RowKit Go.Wk Go.Am
section
variable {a:zJ}
theorem zQG {α:Type} [Inhabited α] {l:List α} {i:Nat} (h:i<l.length):l.set i (at_ l (i:Int))=l:=by
  rw [zII h]
  exact List.set_getElem_self h
theorem zUt {se:Int→List zo→Option zJ} {zs:List zo} {j:Nat} (hj:j<zs.length) (hl:zs.length≤1000) (hz:Zk (at_ zs (j:Int))):∀ (m n k:Nat),k+m=5→m<n→zCV se (j:Int) n (k:Int) zs=se ((j+1:Nat):Int) zs:=by
  intro m
  induction m with
  | zero =>
    intro n k h1 h2
    obtain ⟨n,rfl⟩:∃ q,n=q+1:=⟨n - 1,by omega⟩
    show zBu _ _ _ _ _=_
    unfold zBu zEo
    rw [zAG (df (by omega)),zi (zAE (by omega))]
    rfl
  | succ m ih =>
    intro n k h1 h2
    obtain ⟨n,rfl⟩:∃ q,n=q+1:=⟨n - 1,by omega⟩
    have hlen:=hz.len
    have e:(at_ zs (j:Int)).free.getD (k:Int).toNat []=lst (at_ zs (j:Int)) k:=rfl
    have e3:zDl 5 [] (at_ zs (j:Int)).free (k:Int).toNat (lst (at_ zs (j:Int)) k)=(at_ zs (j:Int)).free:=by
      rw [zKW hlen (by omega)]
      exact zIN (by omega)
    show zBu _ _ _ _ _=_
    unfold zBu
    rw [zAY (dt (by omega)),zi (zAb hj),zi (zAb (by omega)),e,zKb (hz.bd k),zD0,zi (zAE (by omega)),e3]
    have e4:zs.set (j:Int).toNat (at_ zs (j:Int))=zs:=zQG hj
    show zCV se (j:Int) n ((k:Int)+1) (zs.set (j:Int).toNat (at_ zs (j:Int)))=_
    rw [e4]
    exact ih n (k+1) (by omega) (by omega)
theorem zUz {se:Int→List zL→Option zJ} {cs:List zL} {j:Nat} (hj:j<cs.length) (hl:cs.length≤1000) (hc:Ck (at_ cs (j:Int))):∀ (m n i:Nat),i+m=(at_ cs (j:Int)).lists.length→m<n→zDD se (j:Int) cs (at_ cs (j:Int)).lists n (i:Int) (at_ cs (j:Int)).lists=se ((j+1:Nat):Int) cs:=by
  have hn:=hc.n
  intro m
  induction m with
  | zero =>
    intro n i h1 h2
    obtain ⟨n,rfl⟩:∃ q,n=q+1:=⟨n - 1,by omega⟩
    show zB5 _ _ _ _ _ _ _=_
    unfold zB5 zEk zEf
    rw [zAG (df (by omega)),zi (zAb hj),zi (zAE (by omega))]
    have e4:cs.set (j:Int).toNat (at_ cs (j:Int))=cs:=zQG hj
    show se ((j:Int)+1) (cs.set (j:Int).toNat (at_ cs (j:Int)))=_
    rw [e4]
    rfl
  | succ m ih =>
    intro n i h1 h2
    obtain ⟨n,rfl⟩:∃ q,n=q+1:=⟨n - 1,by omega⟩
    have hi:i<(at_ cs (j:Int)).lists.length:=by omega
    have hb:=hc.l _ (zBv hi)
    show zB5 _ _ _ _ _ _ _=_
    unfold zB5
    have e4:(at_ cs (j:Int)).lists.set (i:Int).toNat (at_ (at_ cs (j:Int)).lists (i:Int))=(at_ cs (j:Int)).lists:=zQG hi
    rw [zAY (dt (by omega)),zi (zAb hi),zKb (by omega),zD0,zi (zAE (by omega)),e4]
    exact ih n (i+1) (by omega) (by omega)
theorem zUr (ha:Al a) {zs:List zo} {ns:List Int}:∀ (m n j:Nat),j+m=a.caches.length→m<n→zA3 a ns a.caches zs n (j:Int) a.caches=some ⟨ns,a.batch,a.high,zs,a.caches⟩:=by
  have hc:=ha.c
  intro m
  induction m with
  | zero =>
    intro n j h1 h2
    obtain ⟨n,rfl⟩:∃ q,n=q+1:=⟨n - 1,by omega⟩
    show zCD _ _ _ _ _ _ _=_
    unfold zCD
    rw [zAG (df (by omega))]
    rfl
  | succ m ih =>
    intro n j h1 h2
    obtain ⟨n,rfl⟩:∃ q,n=q+1:=⟨n - 1,by omega⟩
    have hj:j<a.caches.length:=by omega
    have hk:=ha.ck _ (zBv hj)
    have hn:=hk.n
    show zCD _ _ _ _ _ _ _=_
    unfold zCD zC4
    rw [zAY (dt (by omega)),zi (zAb hj),zi (dt (by show (0+_)*24≤_; omega)),zD0,show (0:Int)=((0:Nat):Int) from rfl,zUz hj hc hk _ z9 0 (Nat.zero_add _) (by unfold z9; omega)]
    exact ih n (j+1) (by omega) (by omega)
theorem zUR (ha:Al a) {ns:List Int}:∀ (m n j:Nat),j+m=a.zones.length→m<n→zBG a ns a.zones a.caches n (j:Int) a.zones=some ⟨ns,a.batch,a.high,a.zones,a.caches⟩:=by
  have hz:=ha.z
  have hc:=ha.c
  intro m
  induction m with
  | zero =>
    intro n j h1 h2
    obtain ⟨n,rfl⟩:∃ q,n=q+1:=⟨n - 1,by omega⟩
    show zB7 _ _ _ _ _ _ _=_
    unfold zB7 zEm
    rw [zAG (df (by omega)),show (0:Int)=((0:Nat):Int) from rfl]
    exact zUr ha a.caches.length z9 0 (by omega) (by unfold z9; omega)
  | succ m ih =>
    intro n j h1 h2
    obtain ⟨n,rfl⟩:∃ q,n=q+1:=⟨n - 1,by omega⟩
    have hj:j<a.zones.length:=by omega
    show zB7 _ _ _ _ _ _ _=_
    unfold zB7
    rw [zAY (dt (by omega)),show (0:Int)=((0:Nat):Int) from rfl,zUt hj hz (ha.zk _ (zBv hj)).1 5 z9 0 (by omega) (by unfold z9; omega)]
    exact ih n (j+1) (by omega) (by omega)
theorem zTZ (ha:Al a):zBx a=some a:=by
  have h1:=ha.n
  have h2:=ha.z
  have h3:=ha.c
  unfold zBx zBL zAn
  rw [zKb (by omega),zD0,zi (dt (by show (0+_)*160≤_; omega)),zD0,zi (dt (by show (0+_)*24≤_; omega)),zD0,show (0:Int)=((0:Nat):Int) from rfl]
  exact zUR ha a.zones.length z9 0 (by omega) (by unfold z9; omega)
theorem zRi {c:zL} (hc:Ck c):∀ (m n i:Nat) (l:List (List Int)),i+m=c.lists.length→m<n→l=c.lists.take i→zFh c n (i:Int) l=some c:=by
  have hn:=hc.n
  intro m
  induction m with
  | zero =>
    intro n i l h1 h2 h3
    obtain ⟨n,rfl⟩:∃ q,n=q+1:=⟨n - 1,by omega⟩
    show zDc _ _ _ _=_
    unfold zDc
    rw [zAG (df (by omega)),h3,List.take_of_length_le (by omega)]
    rfl
  | succ m ih =>
    intro n i l h1 h2 h3
    obtain ⟨n,rfl⟩:∃ q,n=q+1:=⟨n - 1,by omega⟩
    have hi:i<c.lists.length:=by omega
    have hb:=hc.l _ (zBv hi)
    have hl:l.length=i:=by rw [h3,List.length_take]; omega
    show zDc _ _ _ _=_
    unfold zDc
    rw [zAY (dt (by omega)),zi (zAb hi),zi (dt (by show (0+_)*8≤_; omega)),zi (dt (by show (_+1)*24≤_; omega)),zi (zAE (by omega)),List.nil_append]
    refine ih n (i+1) _ (by omega) (by omega) ?_
    rw [h3,List.take_add_one,List.getElem?_eq_getElem hi,zII hi]
    rfl
theorem zQi {c:zL} (hc:Ck c):zI7 c=some c:=zRi hc c.lists.length z9 0 [] (by omega) (by have:=hc.n; unfold z9; omega) rfl
theorem zUq (ha:Al a) {zs:List zo}:∀ (m n j:Nat) (l:List zL),j+m=a.caches.length→m<n→l=a.caches.take j→zFi a zs n (j:Int) l=some ⟨a.nodes,a.batch,a.high,zs,a.caches⟩:=by
  have hc:=ha.c
  intro m
  induction m with
  | zero =>
    intro n j l h1 h2 h3
    obtain ⟨n,rfl⟩:∃ q,n=q+1:=⟨n - 1,by omega⟩
    show zDW _ _ _ _ _=_
    unfold zDW
    rw [zAG (df (by omega)),h3,List.take_of_length_le (by omega)]
    rfl
  | succ m ih =>
    intro n j l h1 h2 h3
    obtain ⟨n,rfl⟩:∃ q,n=q+1:=⟨n - 1,by omega⟩
    have hj:j<a.caches.length:=by omega
    have hl:l.length=j:=by rw [h3,List.length_take]; omega
    show zDW _ _ _ _ _=_
    unfold zDW
    rw [zAY (dt (by omega)),zi (zAb hj),zQi (ha.ck _ (zBv hj)),zD0,zi (dt (by show (_+1)*24≤_; omega)),zi (zAE (by omega))]
    refine ih n (j+1) _ (by omega) (by omega) ?_
    rw [h3,List.take_add_one,List.getElem?_eq_getElem hj,zII hj]
    rfl
theorem zUy {se:Int→List zo→Option zJ} (ha:Al a) {j:Nat} {l:List zo} (hj:j<a.zones.length) (hl:l.length≤1000):∀ (m n k:Nat),k+m=5→m<n→zFo se a (j:Int) l n (k:Int) (at_ a.zones (j:Int)).free=se ((j+1:Nat):Int) (l++[at_ a.zones (j:Int)]):=by
  have hzl:=ha.z
  have hz:=(ha.zk _ (zBv hj)).1
  intro m
  induction m with
  | zero =>
    intro n k h1 h2
    obtain ⟨n,rfl⟩:∃ q,n=q+1:=⟨n - 1,by omega⟩
    show zDf _ _ _ _ _ _ _=_
    unfold zDf zHJ zHA
    rw [zAG (df (by omega)),zi (dt (by show (_+1)*160≤_; omega)),zi (zAE (by omega))]
    rfl
  | succ m ih =>
    intro n k h1 h2
    obtain ⟨n,rfl⟩:∃ q,n=q+1:=⟨n - 1,by omega⟩
    have hlen:=hz.len
    have hb:=hz.bd k
    have e:(at_ a.zones (j:Int)).free.getD (k:Int).toNat []=lst (at_ a.zones (j:Int)) k:=rfl
    have e3:zDl 5 [] (at_ a.zones (j:Int)).free (k:Int).toNat (lst (at_ a.zones (j:Int)) k)=(at_ a.zones (j:Int)).free:=by
      rw [zKW hlen (by omega)]
      exact zIN (by omega)
    show zDf _ _ _ _ _ _ _=_
    unfold zDf
    rw [e,zAY (dt (by omega)),zi (zAb hj),zi (zAb (by omega)),zi (dt (by show (0+_)*8≤_; omega)),zi (zAE (by omega)),List.nil_append,e3]
    exact ih n (k+1) (by omega) (by omega)
theorem zUw (ha:Al a):∀ (m n j:Nat) (l:List zo),j+m=a.zones.length→m<n→l=a.zones.take j→zBm a n (j:Int) l=some a:=by
  have hz:=ha.z
  have hc:=ha.c
  intro m
  induction m with
  | zero =>
    intro n j l h1 h2 h3
    obtain ⟨n,rfl⟩:∃ q,n=q+1:=⟨n - 1,by omega⟩
    show zDR _ _ _ _=_
    unfold zDR zHB
    rw [zAG (df (by omega)),h3,List.take_of_length_le (by omega)]
    exact zUq ha a.caches.length z9 0 [] (by omega) (by unfold z9; omega) rfl
  | succ m ih =>
    intro n j l h1 h2 h3
    obtain ⟨n,rfl⟩:∃ q,n=q+1:=⟨n - 1,by omega⟩
    have hj:j<a.zones.length:=by omega
    have hl:l.length=j:=by rw [h3,List.length_take]; omega
    show zDR _ _ _ _=_
    unfold zDR
    rw [zAY (dt (by omega)),zi (zAb hj),show (0:Int)=((0:Nat):Int) from rfl,zUy ha hj (by omega) 5 z9 0 (by omega) (by unfold z9; omega)]
    refine ih n (j+1) _ (by omega) (by omega) ?_
    rw [h3,List.take_add_one,List.getElem?_eq_getElem hj,zII hj]
    rfl
theorem zTi (ha:Al a):zH1 a=some a:=by
  have h1:=ha.n
  unfold zH1
  rw [zi (dt (by show (0+_)*8≤_; omega))]
  exact zUw ha a.zones.length z9 0 [] (by omega) (by have:=ha.z; unfold z9; omega) rfl
theorem Al.sm (ha:Al a):Sm a:=⟨by have:=ha.n; omega,by have:=ha.z; omega,by have:=ha.c; omega,fun z hz k=>by have:=(ha.zk z hz).1.bd k; unfold lst at this; omega,fun c hc=>⟨by have:=(ha.ck c hc).n; omega,fun l hl=>by have:=(ha.ck c hc).l l hl; omega⟩⟩
theorem zTn:Sm ⟨([]:List Int),0,0,([]:List zo),([]:List zL)⟩:=⟨by simp,by simp,by simp,by simp,by simp⟩
def Bo (x y:Option (zJ×Int)):Prop := ∃ r,x=some r∧y=some r∧Sm r.1
theorem zRn {n k:Nat} {z:zo} {f:Int} (ho:OkZ (zOJ n z f k)) (j:Nat):((zOJ n z f k).free.getD j []).length≤1099511627776:=by
  have:=ho.putI.len' j
  unfold lst at this
  omega
theorem zSi (h:Va a) {p k:Nat} {f:Int} (hp:p<a.zones.length) (hk:k≤4) (hi:inside (at_ a.zones (p:Int)) f k=true):∀ (m n i:Nat),(i:Int)+m=f+2 ^ k→m<n→f≤i→(∀ g,f≤g→g<i → ¬ cov (at_ a.zones (p:Int)) g) →
    Bo (zAu a f (k:Int) (p:Int) n (i:Int)) (zBW a f (k:Int) (p:Int) n (i:Int)):=by
  have hzk:=h.al.zk _ (zBv hp)
  have hcz:=h.chk (zBv hp)
  obtain ⟨hr,hin,_⟩:=zGb hzk.1 hcz
  have hb:=zAf hr hi
  obtain ⟨e,p1,p2⟩:=zIn (k:=k) (by omega)
  intro m
  induction m with
  | zero =>
    intro n i h1 h2 h3 h4
    obtain ⟨n,rfl⟩:∃ q,n=q+1:=⟨n - 1,by omega⟩
    have hn:∀ g,f≤g→g<f+2 ^ k → ¬ cov (at_ a.zones (p:Int)) g:=fun g g1 g2=>h4 g g1 (by omega)
    obtain ⟨q1,_,_⟩:=OkZ.put (4 - k) (k:=k) (by omega) (zKR hzk.1 hcz).1 hi hn
    refine ⟨(⟨a.nodes,a.batch,a.high,a.zones.set p (zOJ (4 - k) (at_ a.zones (p:Int)) f k),a.caches⟩,0),?_,?_,?_⟩
    · show zBB _ _ _ _ _ _=_
      unfold zBB zC2
      rw [e,zi (zLa (by omega)),zi (zAE (by omega)),zi (zAE (by omega)),zAG (df (by omega)),zTZ h.al,zD0,zi (zAb hp),zRh hzk.1 hzk.2 hcz hk hi hn,zD0]
      rfl
    · show zB8 _ _ _ _ _ _=_
      unfold zB8 zEj
      rw [e,zi (dt (zGr (by omega) (by omega))),zi (zLa (by omega)),zi (zAE (by omega)),zi (zAE (by omega)),zAG (df (by omega)),zTi h.al,zD0,zi (zAb hp),zRg hzk.1 hcz hk hi hn,zD0]
      rfl
    · have hs:=h.al.sm
      refine ⟨hs.n,by show (a.zones.set p _).length≤_; rw [List.length_set]; exact hs.z,hs.c,fun z hz j => ?_,hs.l⟩
      rcases List.mem_or_eq_of_mem_set hz with hz | rfl
      · exact hs.f z hz j
      · exact zRn q1 j
  | succ m ih =>
    intro n i h1 h2 h3 h4
    obtain ⟨n,rfl⟩:∃ q,n=q+1:=⟨n - 1,by omega⟩
    obtain ⟨b,b1,b2,b3⟩:=zUd h (f:=(i:Int)) hp
    have e1:zAu a f (k:Int) (p:Int) (n+1) (i:Int)=cnd b (some (⟨[],0,0,[],[]⟩,7)) (zAu a f (k:Int) (p:Int) n ((i+1:Nat):Int)):=by
      show zBB _ _ _ _ _ _=_
      unfold zBB
      rw [e,zi (zLa (by omega)),zi (zAE (by omega)),zi (zAE (by omega)),zAY (dt (by omega)),b1,zD0,zi (zAE (by omega))]
      rfl
    have e2:zBW a f (k:Int) (p:Int) (n+1) (i:Int)=cnd b (some (⟨[],0,0,[],[]⟩,7)) (zBW a f (k:Int) (p:Int) n ((i+1:Nat):Int)):=by
      show zB8 _ _ _ _ _ _=_
      unfold zB8
      rw [e,zi (dt (zGr (by omega) (by omega))),zi (zLa (by omega)),zi (zAE (by omega)),zi (zAE (by omega)),zAY (dt (by omega)),b2,zD0,zi (zAE (by omega))]
      rfl
    rw [e1,e2]
    cases b with
    | true=>exact ⟨_,rfl,rfl,zTn⟩
    | false =>
      refine ih n (i+1) (by omega) (by omega) (by omega) (fun g g1 g2 => ?_)
      by_cases hg:g<i
      · exact h4 g g1 hg
      · have hgi:g=i:=by omega
        subst hgi
        have hf:=b3 rfl
        unfold zLl at hf
        have hii:inside (at_ a.zones (p:Int)) (i:Int) 0=true:=(zBK hr).2 (by rw [pw0]; have hrb:=zCA hr; omega)
        rw [dt hcz,hii,Int.toNat_natCast] at hf
        intro hc
        have:=(zLw hzk.1 hr hin i).2 hc
        rw [dt this] at hf
        cases hf
theorem zUV {x x' y y':Option (zJ×Int)} (h1:x=x') (h2:y=y') (h:Bo x' y'):Bo x y:=by rw [h1,h2]; exact h
theorem zSU (ha:Al a) (f o:Int) (hf:inI f=true):Bo (zCv a f o) (zFG a f o):=by
  have hf':=zKa hf
  unfold zCv zFG
  rw [zUC ha,zSj ha,zD0,zD0]
  by_cases h:zSM a=0
  · have hv:=zUP ha h
    have hzl:=ha.z
    obtain ⟨_,hap⟩:=zQC hv.z
    rw [dt h,Bool.not_true,zAG rfl,zAG rfl,zS7 ha (fun z hz=>hv.chk hz),zUQ ha (fun z hz=>hv.chk hz),zD0,zD0]
    rcases zQW f a.zones 0 with hq | hq
    · rw [hq]
      have hd:(((decide (o<0))||(decide (4<o)))||(decide ((-1:Int)<0)))=true:=by rw [Bool.or_eq_true]; exact .inr rfl
      rw [hd]
      refine ⟨(⟨[],0,0,[],[]⟩,2),?_,?_,zTn⟩
      · rfl
      · rfl
    · obtain ⟨p,hp⟩:=Int.eq_ofNat_of_zero_le (show 0≤zIx f a.zones 0 by omega)
      rw [hp] at hq ⊢
      have hpl:p<a.zones.length:=by omega
      have hzk:=ha.zk _ (zBv hpl)
      have hcz:=hv.chk (zBv hpl)
      obtain ⟨hr,_,_⟩:=zGb hzk.1 hcz
      have hrb:=zCA hr
      have hinz:inZ (at_ a.zones (p:Int)) f=true:=by
        have:=(zO2 f a.zones 0 p hpl hap).1 (by rw [hp]; omega)
        rw [zII hpl]; exact this
      have hfb:0≤f∧(at_ a.zones (p:Int)).start≤f∧f<(at_ a.zones (p:Int)).start+(at_ a.zones (p:Int)).count:=by
        unfold inZ at hinz
        simp only [Bool.and_eq_true,decide_eq_true_eq] at hinz
        omega
      rw [df (p:=(p:Int)<0) (by omega),Bool.or_false]
      by_cases ho:0≤o∧o≤4
      · obtain ⟨k,rfl⟩:=Int.eq_ofNat_of_zero_le ho.1
        have hk:k≤4:=by omega
        obtain ⟨e,p1,p2⟩:=zIn (k:=k) (by omega)
        have hx3:=zO2 (f+2 ^ k - 1) a.zones 0 p hpl hap
        rw [← zII hpl,Nat.zero_add] at hx3
        have hst:f.tmod (2 ^ k)=f%2 ^ k:=Int.tmod_eq_emod_of_nonneg hfb.1
        have hins:inside (at_ a.zones (p:Int)) f k=(decide (f.tmod (2 ^ k)=0)&&inZ (at_ a.zones (p:Int)) (f+2 ^ k - 1)):=by
          rw [Bool.eq_iff_iff,zBK hr]
          unfold inZ
          simp only [Bool.and_eq_true,decide_eq_true_eq,hst]
          omega
        rw [df (p:=(k:Int)<0) (by omega),df (p:=4<(k:Int)) (by omega),e,zJy hr hk]
        refine zUV ?_ ?_ (?_:Bo (cnd (!inside (at_ a.zones (p:Int)) f k) (some (⟨[],0,0,[],[]⟩,2)) (zAu a f (k:Int) (p:Int) z9 f)) (cnd (!inside (at_ a.zones (p:Int)) f k) (some (⟨[],0,0,[],[]⟩,2)) (zBW a f (k:Int) (p:Int) z9 f)))
        · refine (zi (zJ9 (zLa (by omega)))).trans ((zi (zJ9 (zAE (by omega)))).trans ((zi (zJ9 (by rw [df (by omega)]; rfl))).trans ((zi (zJ9 (zLa (by omega)))).trans ((zi (zJ9 (zAE (by omega)))).trans ((zi (zJ9 (zAE (by omega)))).trans ((zi (zJ9 (zAE (by omega)))).trans ?_))))))
          rw [zS7 ha (fun z hz=>hv.chk hz),hins]
          cases hd:decide (f.tmod (2 ^ k)=0) with
          | false=>rfl
          | true =>
            refine (congrArg (fun q=>Option.bind q _) (zAY (by rfl))).trans ?_
            rw [zD0]
            by_cases hz3:zIx (f+2 ^ k - 1) a.zones 0=(p:Int)
            · rw [dt hz3,hx3.1 hz3]; rfl
            · have hz4:inZ (at_ a.zones (p:Int)) (f+2 ^ k - 1)=false:=Bool.eq_false_iff.2 fun hh=>hz3 (hx3.2 hh)
              rw [df hz3,hz4]; rfl
        · refine (zi (zJ9 (zAb hpl))).trans ?_
          refine (congrArg (fun q=>Option.bind q _) (zAY (by rfl))).trans ?_
          rw [zD0]
          rfl
        · cases hi:inside (at_ a.zones (p:Int)) f k with
          | false=>exact ⟨_,rfl,rfl,zTn⟩
          | true =>
            obtain ⟨m,rfl⟩:=Int.eq_ofNat_of_zero_le hfb.1
            have pn:=zLW (k:=k) (by omega)
            exact zSi hv hpl hk hi (2 ^ k) z9 m (by omega) (by unfold z9; omega) (by omega) (fun g g1 g2=>by omega)
      · have hd:((decide (o<0))||(decide (4<o)))=true:=by
          rcases Classical.not_and_iff_not_or_not.1 ho with ho | ho
          · rw [dt (p:=o<0) (by omega)]; rfl
          · rw [dt (p:=4<o) (by omega),Bool.or_true]
        rw [hd]
        refine ⟨(⟨[],0,0,[],[]⟩,2),?_,?_,zTn⟩
        · rfl
        · refine (zi (zJ9 (zAb hpl))).trans ?_
          refine (congrArg (fun q=>Option.bind q _) (zAY (by rfl))).trans ?_
          have hbl:zBR (at_ a.zones (p:Int)) f o=some false:=by
            unfold zBR
            rw [zi (zJ9 (zAE (by omega)))]
            refine zAY ?_
            rw [hd]; rfl
          rw [hbl]
          rfl
  · rw [df h]
    exact ⟨_,rfl,rfl,zTn⟩
theorem zP5 (hg:∀ z,z∈a.zones→Gz z) (f o:Int) (hf:inI f=true):zC1 a f o=some true:=by
  obtain ⟨b,b1,b2⟩:=few hg
  unfold zC1
  rw [zSx,zD0,Bool.not_true,Bool.not_false,zAY rfl,b1,zD0]
  cases b with
  | false=>rfl
  | true =>
    obtain ⟨r,r1,r2,r3⟩:=zSU (b2 rfl) f o hf
    refine (zAG (by rfl)).trans ?_
    rw [r1,zD0,r2,zD0,dt rfl,zAY rfl,zT7 r3]
    rfl
end
end Go.Proofs.YtplkliakhdkpcaaGreat
