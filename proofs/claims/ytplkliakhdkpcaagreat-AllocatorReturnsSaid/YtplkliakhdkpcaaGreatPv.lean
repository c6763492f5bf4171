/-
  A valid allocator: cached and free frames on both sides; what Few tells. No program in sight.
-/
import Derived.Test.YtplkliakhdkpcaaGreatPk
set_option linter.unusedVariables false
set_option linter.unusedSimpArgs false
namespace Go.Proofs.YtplkliakhdkpcaaGreat
open Go Go.RowKit Go.Wk Go.Am
section
variable {a:zJ}
structure Va (a:zJ):Prop where
  al:Al a
  z:zE 0 a.zones=0
  len:∀ c,c∈a.caches→c.lists.length=a.zones.length
  z1:1≤a.zones.length
theorem zUP (ha:Al a) (h:zSM a=0):Va a:=by
  unfold zSM at h
  split at h
  · rename_i hf
    have h16:1≤a.zones.length:=by
      unfold zR2 zJD at hf
      simp at hf
      omega
    split at h
    · rename_i hz
      split at h
      · rename_i hl
        split at h
        · rename_i hc
          exact ⟨ha,hz,fun c hm=>by have:=zOl hc c hm; omega,h16⟩
        · rename_i hc; exact absurd h hc
      · cases h
    · rename_i hz; exact absurd h hz
  · cases h
theorem Va.chk (h:Va a) {z:zo} (hz:z∈a.zones):zEr z=0:=((zQC h.z).1 z hz).1
theorem zSB {f:Int} {l:List Int} (hl:l.length≤1000):∀ (m n i:Nat),i+m=l.length→m<n → ∃ r,zAy l f n (i:Int)=some r∧(0≤r↔f∈l.drop i):=by
  intro m
  induction m with
  | zero =>
    intro n i h1 h2
    obtain ⟨n,rfl⟩:∃ q,n=q+1:=⟨n - 1,by omega⟩
    refine ⟨-1,?_,?_⟩
    · show zA1 _ _ _ _=_
      unfold zA1
      rw [zAG (df (by omega))]
      rfl
    · rw [List.drop_eq_nil_of_le (by omega)]
      simp
  | succ m ih =>
    intro n i h1 h2
    obtain ⟨n,rfl⟩:∃ q,n=q+1:=⟨n - 1,by omega⟩
    have hi:i<l.length:=by omega
    have ee:zAy l f (n+1) (i:Int)=cnd (decide (f=at_ l (i:Int))) (some (i:Int)) (zAy l f n ((i+1:Nat):Int)):=by
      show zA1 _ _ _ _=_
      unfold zA1
      rw [zAY (dt (by omega)),zi (zAb hi),zi (zAE (by omega))]
      rfl
    rw [ee,zC6 hi]
    by_cases h:f=at_ l (i:Int)
    · rw [zAY (dt h)]
      exact ⟨_,rfl,⟨fun _=>by rw [h]; simp,fun _=>Int.natCast_nonneg i⟩⟩
    · rw [zAG (df h)]
      obtain ⟨r,r1,r2⟩:=ih n (i+1) (by omega) (by omega)
      exact ⟨r,r1,by rw [r2,List.mem_cons]; exact ⟨.inr,fun q=>q.resolve_left h⟩⟩
theorem contains {f:Int} {l:List Int} (hl:l.length≤1000):zBe l f=some (decide (f∈l)):=by
  unfold zBe zC8
  obtain ⟨r,r1,r2⟩:=zSB (f:=f) hl l.length z9 0 (by omega) (by unfold z9; omega)
  rw [List.drop_zero] at r2
  rw [show (0:Int)=((0:Nat):Int) from rfl,r1,zD0]
  congr 1
  rw [decide_eq_decide]
  exact r2
theorem zST (h:Va a) {f:Int} {p:Nat} (hp:p<a.zones.length):∀ (m n j:Nat),j+m=a.caches.length→m<n → ∃ r,zAA a.caches (fun y=>zBF y (p:Int) f) n (j:Int)=some r∧(0≤r ↔ ∃ c,c∈a.caches.drop j∧f∈at_ c.lists (p:Int)):=by
  have hcl:=h.al.c
  intro m
  induction m with
  | zero =>
    intro n j h1 h2
    obtain ⟨n,rfl⟩:∃ q,n=q+1:=⟨n - 1,by omega⟩
    refine ⟨-1,?_,?_⟩
    · show zAB _ _ _ _=_
      unfold zAB
      rw [zAG (df (by omega))]
      rfl
    · rw [List.drop_eq_nil_of_le (by omega)]
      simp
  | succ m ih =>
    intro n j h1 h2
    obtain ⟨n,rfl⟩:∃ q,n=q+1:=⟨n - 1,by omega⟩
    have hj:j<a.caches.length:=by omega
    have hl:=h.len _ (zBv hj)
    have hb:=(h.al.ck _ (zBv hj)).l _ (zBv (show p<(at_ a.caches (j:Int)).lists.length by omega))
    have h1c:zBF (at_ a.caches (j:Int)) (p:Int) f=some (decide (f∈at_ (at_ a.caches (j:Int)).lists (p:Int))):=by
      unfold zBF
      rw [zi (zAb (by omega)),contains hb]
      rfl
    have ee:zAA a.caches (fun y=>zBF y (p:Int) f) (n+1) (j:Int)=cnd (decide (f∈at_ (at_ a.caches (j:Int)).lists (p:Int))) (some (j:Int)) (zAA a.caches (fun y=>zBF y (p:Int) f) n ((j+1:Nat):Int)):=by
      show zAB _ _ _ _=_
      unfold zAB
      rw [zAY (dt (by omega)),zi (zAb hj)]
      show ((zBF (at_ a.caches (j:Int)) (p:Int) f).bind _)=_
      rw [h1c,zD0,zi (zAE (by omega))]
      rfl
    rw [ee,zC6 hj]
    by_cases hm:f∈at_ (at_ a.caches (j:Int)).lists (p:Int)
    · rw [zAY (dt hm)]
      exact ⟨_,rfl,⟨fun _=>⟨_,by simp,hm⟩,fun _=>Int.natCast_nonneg j⟩⟩
    · rw [zAG (df hm)]
      obtain ⟨r,r1,r2⟩:=ih n (j+1) (by omega) (by omega)
      refine ⟨r,r1,r2.trans ⟨fun ⟨c,c1,c2⟩=>⟨c,by simp [c1],c2⟩,fun ⟨c,c1,c2⟩ => ?_⟩⟩
      rcases List.mem_cons.1 c1 with rfl | c1
      · exact absurd c2 hm
      · exact ⟨c,c1,c2⟩
theorem zUb {se:Int→Option Int} {f:Int} {p j:Nat} {l:List Int} (h:Va a) (hp:p<a.zones.length) (hj:j<a.caches.length) (hl:at_ (at_ a.caches (j:Int)).lists (p:Int)=l):∀ (m n i:Nat),i+m=l.length→m<n →
    (f∈l.drop i→zB1 se a (p:Int) f (j:Int) n (i:Int)=some (j:Int))∧(f ∉ l.drop i→zB1 se a (p:Int) f (j:Int) n (i:Int)=se ((j+1:Nat):Int)):=by
  have hcl:=h.al.c
  have hlen:=h.len _ (zBv hj)
  have hb:=(h.al.ck _ (zBv hj)).l _ (zBv (show p<(at_ a.caches (j:Int)).lists.length by omega))
  rw [hl] at hb
  intro m
  induction m with
  | zero =>
    intro n i h1 h2
    obtain ⟨n,rfl⟩:∃ q,n=q+1:=⟨n - 1,by omega⟩
    rw [List.drop_eq_nil_of_le (by omega)]
    refine ⟨fun hm=>absurd hm (by simp),fun _ => ?_⟩
    show zCt _ _ _ _ _ _ _=_
    unfold zCt zGT
    rw [hl,zi (zAb hj),zi (zAb (by omega)),zAG (df (by omega)),zi (zAE (by omega))]
    rfl
  | succ m ih =>
    intro n i h1 h2
    obtain ⟨n,rfl⟩:∃ q,n=q+1:=⟨n - 1,by omega⟩
    have hi:i<l.length:=by omega
    have ee:zB1 se a (p:Int) f (j:Int) (n+1) (i:Int)=cnd (decide (at_ l (i:Int)=f)) (some (j:Int)) (zB1 se a (p:Int) f (j:Int) n ((i+1:Nat):Int)):=by
      show zCt _ _ _ _ _ _ _=_
      unfold zCt
      rw [hl,zi (zAb hj),zi (zAb (by omega)),zAY (dt (by omega)),zi (zAb hi),zi (zAE (by omega))]
      rfl
    rw [ee,zC6 hi]
    by_cases hq:at_ l (i:Int)=f
    · rw [zAY (dt hq)]
      exact ⟨fun _=>rfl,fun hn=>absurd (by rw [hq]; simp) hn⟩
    · rw [zAG (df hq)]
      obtain ⟨r1,r2⟩:=ih n (i+1) (by omega) (by omega)
      refine ⟨fun hm=>r1 ?_,fun hn=>r2 (fun hm=>hn (by simp [hm]))⟩
      rcases List.mem_cons.1 hm with e | e
      · exact absurd e.symm hq
      · exact e
theorem zTG (h:Va a) {f:Int} {p:Nat} (hp:p<a.zones.length):∀ (m n j:Nat),j+m=a.caches.length→m<n → ∃ r,zA8 a (p:Int) f n (j:Int)=some r∧(0≤r ↔ ∃ c,c∈a.caches.drop j∧f∈at_ c.lists (p:Int)):=by
  have hcl:=h.al.c
  intro m
  induction m with
  | zero =>
    intro n j h1 h2
    obtain ⟨n,rfl⟩:∃ q,n=q+1:=⟨n - 1,by omega⟩
    refine ⟨-1,?_,?_⟩
    · show zCu _ _ _ _ _=_
      unfold zCu
      rw [zAG (df (by omega))]
      rfl
    · rw [List.drop_eq_nil_of_le (by omega)]
      simp
  | succ m ih =>
    intro n j h1 h2
    obtain ⟨n,rfl⟩:∃ q,n=q+1:=⟨n - 1,by omega⟩
    have hj:j<a.caches.length:=by omega
    have hlen:=h.len _ (zBv hj)
    have hb:=(h.al.ck _ (zBv hj)).l _ (zBv (show p<(at_ a.caches (j:Int)).lists.length by omega))
    obtain ⟨i1,i2⟩:=zUb (se:=zA8 a (p:Int) f n) (f:=f) h hp hj rfl _ z9 0 (Nat.zero_add _) (by unfold z9; omega)
    rw [List.drop_zero] at i1 i2
    have ee:zA8 a (p:Int) f (n+1) (j:Int)=zB1 (zA8 a (p:Int) f n) a (p:Int) f (j:Int) z9 ((0:Nat):Int):=by
      show zCu _ _ _ _ _=_
      unfold zCu
      rw [zAY (dt (by omega))]
      rfl
    rw [ee,zC6 hj]
    by_cases hm:f∈at_ (at_ a.caches (j:Int)).lists (p:Int)
    · rw [i1 hm]
      exact ⟨_,rfl,⟨fun _=>⟨_,by simp,hm⟩,fun _=>Int.natCast_nonneg j⟩⟩
    · rw [i2 hm]
      obtain ⟨r,r1,r2⟩:=ih n (j+1) (by omega) (by omega)
      refine ⟨r,r1,r2.trans ⟨fun ⟨c,c1,c2⟩=>⟨c,by simp [c1],c2⟩,fun ⟨c,c1,c2⟩ => ?_⟩⟩
      rcases List.mem_cons.1 c1 with rfl | c1
      · exact absurd c2 hm
      · exact ⟨c,c1,c2⟩
theorem zUd (h:Va a) {f:Int} {p:Nat} (hp:p<a.zones.length):∃ b,zDN a (p:Int) f=some b∧zI2 a (p:Int) f=some b∧(b=false→zLl (at_ a.zones (p:Int)) f=false):=by
  have hzk:=h.al.zk _ (zBv hp)
  have hcl:=h.al.c
  obtain ⟨r1,q1,s1⟩:=zST h (f:=f) hp a.caches.length z9 0 (by omega) (by unfold z9; omega)
  obtain ⟨r2,q2,s2⟩:=zTG h (f:=f) hp a.caches.length z9 0 (by omega) (by unfold z9; omega)
  have ed:decide (0≤r1)=decide (0≤r2):=decide_eq_decide.2 (s1.trans s2.symm)
  have e1:zEN a (p:Int) f=some r1:=by
    unfold zEN zAi
    rw [show (0:Int)=((0:Nat):Int) from rfl,q1]
    rfl
  have e2:zIR a (p:Int) f=some r2:=q2
  unfold zDN zI2
  rw [zi (zAb hp),zi (zAb hp),zTv hzk.1 hzk.2,zTw hzk.1,zD0,zD0,e1,e2]
  cases zLl (at_ a.zones (p:Int)) f with
  | true=>exact ⟨true,rfl,rfl,fun e=>by cases e⟩
  | false =>
    refine ⟨decide (0≤r1),?_,?_,fun _=>rfl⟩
    · show some (false||decide (0≤r1))=_
      rw [Bool.false_or]
    · show some (false||decide (0≤r2))=_
      rw [Bool.false_or,ed]
def Gz (z:zo):Prop:=z.free.length=5∧inI z.start=true
theorem zUY {z:zo}:∀ (m n k:Nat),k+m=5→m<n → ∃ b,zEy z n (k:Int)=some b∧(b=true → ∀ j,k≤j→j<5→(lst z j).length≤300):=by
  intro m
  induction m with
  | zero =>
    intro n k h1 h2
    obtain ⟨n,rfl⟩:∃ q,n=q+1:=⟨n - 1,by omega⟩
    refine ⟨true,?_,fun _ j h3 h4=>by omega⟩
    show zE9 _ _ _=_
    unfold zE9
    rw [zAG (df (by omega))]
    rfl
  | succ m ih =>
    intro n k h1 h2
    obtain ⟨n,rfl⟩:∃ q,n=q+1:=⟨n - 1,by omega⟩
    have ee:zEy z (n+1) (k:Int)=cnd (decide (300<((lst z k).length:Int))) (some false) (zEy z n ((k+1:Nat):Int)):=by
      show zE9 _ _ _=_
      unfold zE9
      rw [zAY (dt (by omega)),zi (zAb (by omega)),zi (zAE (by omega))]
      rfl
    rw [ee]
    by_cases h:300<((lst z k).length:Int)
    · rw [zAY (dt h)]
      exact ⟨false,rfl,fun e=>by cases e⟩
    · rw [zAG (df h)]
      obtain ⟨b,b1,b2⟩:=ih n (k+1) (by omega) (by omega)
      refine ⟨b,b1,fun e j h3 h4 => ?_⟩
      by_cases hj:j=k
      · rw [hj]; omega
      · exact b2 e j (by omega) h4
theorem zUs {z:zo} (hg:Gz z):∃ b,zKf z=some b∧(b=true→Zk z):=by
  obtain ⟨b,b1,b2⟩:=zUY (z:=z) 5 z9 0 (by omega) (by unfold z9; omega)
  refine ⟨b,b1,fun e=>⟨hg.1,fun k => ?_⟩⟩
  rcases Nat.lt_or_ge k 5 with hk | hk
  · have:=b2 e k (Nat.zero_le _) hk
    omega
  · rw [zKu hg.1 hk]; simp
theorem zUc {c:zL} (hn:c.lists.length≤20):∀ (m n i:Nat),i+m=c.lists.length→m<n → ∃ b,zE5 c n (i:Int)=some b∧(b=true → ∀ x,x∈c.lists.drop i→x.length≤300):=by
  intro m
  induction m with
  | zero =>
    intro n i h1 h2
    obtain ⟨n,rfl⟩:∃ q,n=q+1:=⟨n - 1,by omega⟩
    rw [List.drop_eq_nil_of_le (by omega)]
    refine ⟨true,?_,fun _ x hx=>absurd hx (by simp)⟩
    show zFD _ _ _=_
    unfold zFD
    rw [zAG (df (by omega))]
    rfl
  | succ m ih =>
    intro n i h1 h2
    obtain ⟨n,rfl⟩:∃ q,n=q+1:=⟨n - 1,by omega⟩
    have hi:i<c.lists.length:=by omega
    have ee:zE5 c (n+1) (i:Int)=cnd (decide (300<((at_ c.lists (i:Int)).length:Int))) (some false) (zE5 c n ((i+1:Nat):Int)):=by
      show zFD _ _ _=_
      unfold zFD
      rw [zAY (dt (by omega)),zi (zAb hi),zi (zAE (by omega))]
      rfl
    rw [ee,zC6 hi]
    by_cases h:300<((at_ c.lists (i:Int)).length:Int)
    · rw [zAY (dt h)]
      exact ⟨false,rfl,fun e=>by cases e⟩
    · rw [zAG (df h)]
      obtain ⟨b,b1,b2⟩:=ih n (i+1) (by omega) (by omega)
      refine ⟨b,b1,fun e x hx => ?_⟩
      rcases List.mem_cons.1 hx with rfl | hx
      · omega
      · exact b2 e x hx
theorem zU0 {c:zL}:∃ b,zJS c=some b∧(b=true→Ck c):=by
  unfold zJS
  by_cases h:20<(c.lists.length:Int)
  · rw [zAY (dt h)]
    exact ⟨false,rfl,fun e=>by cases e⟩
  · rw [zAG (df h)]
    obtain ⟨b,b1,b2⟩:=zUc (c:=c) (by omega) c.lists.length z9 0 (by omega) (by unfold z9; omega)
    rw [List.drop_zero] at b2
    exact ⟨b,b1,fun e=>⟨by omega,fun x hx=>by have:=b2 e x hx; omega⟩⟩
theorem zTW (hn:a.caches.length≤20):∀ (m n i:Nat),i+m=a.caches.length→m<n → ∃ b,zEs a n (i:Int)=some b∧(b=true → ∀ x,x∈a.caches.drop i→Ck x):=by
  intro m
  induction m with
  | zero =>
    intro n i h1 h2
    obtain ⟨n,rfl⟩:∃ q,n=q+1:=⟨n - 1,by omega⟩
    rw [List.drop_eq_nil_of_le (by omega)]
    refine ⟨true,?_,fun _ x hx=>absurd hx (by simp)⟩
    show zE0 _ _ _=_
    unfold zE0
    rw [zAG (df (by omega))]
    rfl
  | succ m ih =>
    intro n i h1 h2
    obtain ⟨n,rfl⟩:∃ q,n=q+1:=⟨n - 1,by omega⟩
    have hi:i<a.caches.length:=by omega
    obtain ⟨b0,c1,c2⟩:=zU0 (c:=at_ a.caches (i:Int))
    have ee:zEs a (n+1) (i:Int)=cnd (!b0) (some false) (zEs a n ((i+1:Nat):Int)):=by
      show zE0 _ _ _=_
      unfold zE0
      rw [zAY (dt (by omega)),zi (zAb hi),c1,zD0,zi (zAE (by omega))]
      rfl
    rw [ee,zC6 hi]
    cases b0 with
    | false=>exact ⟨false,rfl,fun e=>by cases e⟩
    | true =>
      obtain ⟨b,b1,b2⟩:=ih n (i+1) (by omega) (by omega)
      refine ⟨b,b1,fun e x hx => ?_⟩
      rcases List.mem_cons.1 hx with rfl | hx
      · exact c2 rfl
      · exact b2 e x hx
theorem zT3 (hg:∀ z,z∈a.zones→Gz z) (hz:a.zones.length≤20) (hn:a.caches.length≤20):∀ (m n i:Nat),i+m=a.zones.length→m<n → ∃ b,zEt a n (i:Int)=some b∧(b=true→(∀ x,x∈a.zones.drop i→Zk x) ∧ ∀ x,x∈a.caches→Ck x):=by
  intro m
  induction m with
  | zero =>
    intro n i h1 h2
    obtain ⟨n,rfl⟩:∃ q,n=q+1:=⟨n - 1,by omega⟩
    obtain ⟨b,b1,b2⟩:=zTW hn a.caches.length z9 0 (by omega) (by unfold z9; omega)
    rw [List.drop_zero] at b2
    rw [List.drop_eq_nil_of_le (by omega)]
    refine ⟨b,?_,fun e=>⟨fun x hx=>absurd hx (by simp),b2 e⟩⟩
    show zEu _ _ _=_
    unfold zEu
    rw [zAG (df (by omega))]
    exact b1
  | succ m ih =>
    intro n i h1 h2
    obtain ⟨n,rfl⟩:∃ q,n=q+1:=⟨n - 1,by omega⟩
    have hi:i<a.zones.length:=by omega
    obtain ⟨b0,c1,c2⟩:=zUs (hg _ (zBv hi))
    have ee:zEt a (n+1) (i:Int)=cnd (!b0) (some false) (zEt a n ((i+1:Nat):Int)):=by
      show zEu _ _ _=_
      unfold zEu
      rw [zAY (dt (by omega)),zi (zAb hi),c1,zD0,zi (zAE (by omega))]
      rfl
    rw [ee,zC6 hi]
    cases b0 with
    | false=>exact ⟨false,rfl,fun e=>by cases e⟩
    | true =>
      obtain ⟨b,b1,b2⟩:=ih n (i+1) (by omega) (by omega)
      refine ⟨b,b1,fun e=>⟨fun x hx => ?_,(b2 e).2⟩⟩
      rcases List.mem_cons.1 hx with rfl | hx
      · exact c2 rfl
      · exact (b2 e).1 x hx
theorem few (hg:∀ z,z∈a.zones→Gz z):∃ b,zJs a=some b∧(b=true→Al a):=by
  unfold zJs
  by_cases h:(((decide (20<(a.nodes.length:Int)))||(decide (20<(a.zones.length:Int))))||(decide (20<(a.caches.length:Int))))=true
  · rw [zAY h]
    exact ⟨false,rfl,fun e=>by cases e⟩
  · rw [zAG (Bool.eq_false_iff.2 h)]
    simp only [Bool.or_eq_true,decide_eq_true_eq] at h
    obtain ⟨b,b1,b2⟩:=zT3 hg (by omega) (by omega) a.zones.length z9 0 (by omega) (by unfold z9; omega)
    rw [List.drop_zero] at b2
    exact ⟨b,b1,fun e=>⟨by omega,by omega,by omega,fun z hz=>⟨(b2 e).1 z hz,(hg z hz).2⟩,(b2 e).2⟩⟩
end
end Go.Proofs.YtplkliakhdkpcaaGreat
