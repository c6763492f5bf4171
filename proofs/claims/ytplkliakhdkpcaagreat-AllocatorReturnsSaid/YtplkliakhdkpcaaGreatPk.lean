/-
  The check of an allocator on both sides. No program in sight.
-/
import Derived.Test.YtplkliakhdkpcaaGreatPj
set_option linter.unusedVariables false
set_option linter.unusedSimpArgs false
namespace Go.Proofs.YtplkliakhdkpcaaGreat
open Go Go.RowKit Go.Wk Go.Am
structure Al (a:zJ):Prop where
  n:a.nodes.length≤1000
  z:a.zones.length≤1000
  c:a.caches.length≤1000
  zk:∀ z,z∈a.zones→Zk z∧inI z.start=true
  ck:∀ c,c∈a.caches→Ck c
def inZ (z:zo) (f:Int):Bool:=decide (z.start≤f)&&decide (f<z.start+z.count)
def zE:Int→List zo→Int
  | _,[]=>0
  | s,z::r=>if zEr z=0 then (if z.start=s then zE (s+z.count) r else 10) else zEr z
def cE (h zn:Int):List zL→Int
  | []=>0
  | c::r=>if pcR c zn=0 then (if (c.lists.any fun l=>decide (h<(l.length:Int)))=true then 9 else cE h zn r) else pcR c zn
def feL (z:zo):List Bool→List Int→Int×List Bool
  | d,[]=>(0,d)
  | d,f::r=>if inZ z f=true then (if (d.getD f.toNat false||zLl z f)=true then (7,d) else feL z (d.set f.toNat true) r) else (2,d)
def feC:List Bool→List zo→List (List Int)→Int×List Bool
  | d,z::zs,l::ls=>if (feL z d l).1=0 then feC (feL z d l).2 zs ls else feL z d l
  | d,_,_=>(0,d)
def feA (zs:List zo):List Bool→List zL→Int
  | _,[]=>0
  | d,c::cs=>if (feC d zs c.lists).1=0 then feA zs (feC d zs c.lists).2 cs else (feC d zs c.lists).1
def zSM (a:zJ):Int :=
  if zR2 a.nodes a.batch a.high (a.zones.length:Int)=true then
    (if zE 0 a.zones=0 then
      (if (a.caches.length:Int)=(a.nodes.length:Int) then
        (if cE a.high (a.zones.length:Int) a.caches=0 then feA a.zones zFV a.caches else cE a.high (a.zones.length:Int) a.caches) else 3)
    else zE 0 a.zones) else 2
section
variable {a:zJ}
theorem zBv {α:Type} [Inhabited α] {l:List α} {i:Nat} (h:i<l.length):at_ l (i:Int)∈l:=by rw [zII h]; exact List.getElem_mem h
theorem zC6 {α:Type} [Inhabited α] {l:List α} {i:Nat} (h:i<l.length):l.drop i=at_ l (i:Int)::l.drop (i+1):=by rw [zII h]; exact List.drop_eq_getElem_cons h
theorem zl5 (h:Al a):∀ (m n i:Nat) (s:Int),i+m=a.zones.length→m<n→0≤s∧s≤i*256 →
    zDG a n s (i:Int)=if zE s (a.zones.drop i)=0 then zC7 a else some (zE s (a.zones.drop i)):=by
  have hz:=h.z
  intro m
  induction m with
  | zero =>
    intro n i s h1 h2 h3
    obtain ⟨n,rfl⟩:∃ q,n=q+1:=⟨n - 1,by omega⟩
    show zBy _ _ _ _=_
    unfold zBy
    rw [zAG (df (by omega)),List.drop_eq_nil_of_le (by omega)]
    rfl
  | succ m ih =>
    intro n i s h1 h2 h3
    obtain ⟨n,rfl⟩:∃ q,n=q+1:=⟨n - 1,by omega⟩
    have hi:i<a.zones.length:=by omega
    have hk:=h.zk _ (zBv hi)
    show zBy _ _ _ _=_
    unfold zBy
    rw [zAY (dt (by omega)),zi (zAb hi),zQg hk.1 hk.2,zD0,zC6 hi]
    unfold zE
    generalize hz':at_ a.zones (i:Int)=z at *
    by_cases hc:zEr z=0
    · have hb:=zCA (zC9 hc)
      rw [dt hc,if_pos hc,Bool.not_true,zAG rfl]
      by_cases hs:z.start=s
      · rw [dt hs,if_pos hs,Bool.not_true,zAG rfl,zi (zAE (by omega)),zi (zAE (by omega))]
        exact ih n (i+1) (s+z.count) (by omega) (by omega) (by omega)
      · rw [df hs,if_neg hs]
        rfl
    · rw [df hc,if_neg hc,if_neg hc]
      rfl
theorem zr0 (h:Al a):∀ (m n i:Nat) (s:Int),i+m=a.zones.length→m<n→0≤s∧s≤i*256 →
    zFk a n s (i:Int)=if zE s (a.zones.drop i)=0 then zFj a else some (zE s (a.zones.drop i)):=by
  have hz:=h.z
  intro m
  induction m with
  | zero =>
    intro n i s h1 h2 h3
    obtain ⟨n,rfl⟩:∃ q,n=q+1:=⟨n - 1,by omega⟩
    show zDj _ _ _ _=_
    unfold zDj
    rw [zAG (df (by omega)),List.drop_eq_nil_of_le (by omega)]
    rfl
  | succ m ih =>
    intro n i s h1 h2 h3
    obtain ⟨n,rfl⟩:∃ q,n=q+1:=⟨n - 1,by omega⟩
    have hi:i<a.zones.length:=by omega
    have hk:=h.zk _ (zBv hi)
    show zDj _ _ _ _=_
    unfold zDj
    rw [zAY (dt (by omega)),zi (zAb hi),zP4 hk.1,zD0,zC6 hi]
    unfold zE
    generalize hz':at_ a.zones (i:Int)=z at *
    by_cases hc:zEr z=0
    · have hb:=zCA (zC9 hc)
      rw [dt hc,if_pos hc,Bool.not_true,zAG rfl]
      by_cases hs:z.start=s
      · rw [dt hs,if_pos hs,Bool.not_true,zAG rfl,zi (zAE (by omega)),zi (zAE (by omega))]
        exact ih n (i+1) (s+z.count) (by omega) (by omega) (by omega)
      · rw [df hs,if_neg hs]
        rfl
    · rw [df hc,if_neg hc,if_neg hc]
      rfl
theorem zO3 {l:List (List Int)} {h:Int} {i:Nat} (hi:i<l.length):((l.drop i).any fun q=>decide (h<(q.length:Int)))=(decide (h<((at_ l (i:Int)).length:Int))||(l.drop (i+1)).any fun q=>decide (h<(q.length:Int))):=by
  rw [zC6 hi,List.any_cons]
theorem hl4 {se:Int→Option Int} {c:zL} {j:Nat} (hj:j<a.caches.length) (hc:at_ a.caches (j:Int)=c) (hk:Ck c) (ha:Al a):∀ (m n i:Nat),i+m=c.lists.length→m<n →
    zDI se a (j:Int) n (i:Int)=if ((c.lists.drop i).any fun l=>decide (a.high<(l.length:Int)))=true then some 9 else se ((j+1:Nat):Int):=by
  have hn:=hk.n
  have hcl:=ha.c
  intro m
  induction m with
  | zero =>
    intro n i h1 h2
    obtain ⟨n,rfl⟩:∃ q,n=q+1:=⟨n - 1,by omega⟩
    show zB3 _ _ _ _ _=_
    unfold zB3 zEp
    rw [hc,zAG (df (by omega)),zi (zAE (by omega)),List.drop_eq_nil_of_le (by omega)]
    rfl
  | succ m ih =>
    intro n i h1 h2
    obtain ⟨n,rfl⟩:∃ q,n=q+1:=⟨n - 1,by omega⟩
    have hi:i<c.lists.length:=by omega
    show zB3 _ _ _ _ _=_
    unfold zB3
    rw [hc,zAY (dt (by omega)),zi (zAb hi),zO3 hi,zi (zAE (by omega))]
    cases decide (a.high<((at_ c.lists (i:Int)).length:Int)) with
    | true=>rfl
    | false=>exact ih n (i+1) (by omega) (by omega)
theorem rl4 {se:Int→Option Int} {c:zL} {j:Nat} (hj:j<a.caches.length) (hc:at_ a.caches (j:Int)=c) (hk:Ck c) (ha:Al a) (hzl:c.lists.length=a.zones.length):∀ (m n i:Nat),i+m=c.lists.length→m<n →
    zCc se a (j:Int) n (i:Int)=if ((c.lists.drop i).any fun l=>decide (a.high<(l.length:Int)))=true then some 9 else se ((j+1:Nat):Int):=by
  have hn:=hk.n
  have hcl:=ha.c
  intro m
  induction m with
  | zero =>
    intro n i h1 h2
    obtain ⟨n,rfl⟩:∃ q,n=q+1:=⟨n - 1,by omega⟩
    show zBM _ _ _ _ _=_
    unfold zBM zDp
    rw [zAG (df (by omega)),zi (zAE (by omega)),List.drop_eq_nil_of_le (by omega)]
    rfl
  | succ m ih =>
    intro n i h1 h2
    obtain ⟨n,rfl⟩:∃ q,n=q+1:=⟨n - 1,by omega⟩
    have hi:i<c.lists.length:=by omega
    show zBM _ _ _ _ _=_
    unfold zBM
    rw [hc,zAY (dt (by omega)),zi (zAb hj),zi (zAb hi),zO3 hi,zi (zAE (by omega))]
    cases decide (a.high<((at_ c.lists (i:Int)).length:Int)) with
    | true=>rfl
    | false=>exact ih n (i+1) (by omega) (by omega)
theorem zPz {c:zL} {zn:Int} (h:pcR c zn=0):(c.lists.length:Int)=zn∧(∀ f,f∈c.lists.flatten→zFS f=true):=by
  unfold pcR at h
  split at h
  · cases h
  · split at h
    · rename_i h2
      split at h
      · rename_i h3
        exact ⟨h2,fun f hf=>List.all_eq_true.1 h3 f hf⟩
      · cases h
    · cases h
theorem hl3 (ha:Al a):∀ (m n i:Nat),i+m=a.caches.length→m<n →
    zBC a n (i:Int)=if cE a.high (a.zones.length:Int) (a.caches.drop i)=0 then zDK a else some (cE a.high (a.zones.length:Int) (a.caches.drop i)):=by
  have hcl:=ha.c
  intro m
  induction m with
  | zero =>
    intro n i h1 h2
    obtain ⟨n,rfl⟩:∃ q,n=q+1:=⟨n - 1,by omega⟩
    show zBt _ _ _=_
    unfold zBt
    rw [zAG (df (by omega)),List.drop_eq_nil_of_le (by omega)]
    rfl
  | succ m ih =>
    intro n i h1 h2
    obtain ⟨n,rfl⟩:∃ q,n=q+1:=⟨n - 1,by omega⟩
    have hi:i<a.caches.length:=by omega
    have hk:=ha.ck _ (zBv hi)
    show zBt _ _ _=_
    unfold zBt
    rw [zAY (dt (by omega)),zi (zAb hi),zTr hk,zD0,zC6 hi]
    unfold cE
    by_cases h0:pcR (at_ a.caches (i:Int)) (a.zones.length:Int)=0
    · rw [dt h0,if_pos h0,Bool.not_true,zAG rfl,show (0:Int)=((0:Nat):Int) from rfl,hl4 hi rfl hk ha _ z9 0 (Nat.zero_add _) (by have:=hk.n; unfold z9; omega),List.drop_zero]
      cases hq:((at_ a.caches (i:Int)).lists.any fun l=>decide (a.high<(l.length:Int))) with
      | true=>rfl
      | false =>
        rw [if_neg Bool.false_ne_true,if_neg Bool.false_ne_true]
        exact ih n (i+1) (by omega) (by omega)
    · rw [df h0,if_neg h0,if_neg h0]
      rfl
theorem rl3 (ha:Al a):∀ (m n i:Nat),i+m=a.caches.length→m<n →
    zAw a n (i:Int)=if cE a.high (a.zones.length:Int) (a.caches.drop i)=0 then zCe a else some (cE a.high (a.zones.length:Int) (a.caches.drop i)):=by
  have hcl:=ha.c
  intro m
  induction m with
  | zero =>
    intro n i h1 h2
    obtain ⟨n,rfl⟩:∃ q,n=q+1:=⟨n - 1,by omega⟩
    show zBO _ _ _=_
    unfold zBO
    rw [zAG (df (by omega)),List.drop_eq_nil_of_le (by omega)]
    rfl
  | succ m ih =>
    intro n i h1 h2
    obtain ⟨n,rfl⟩:∃ q,n=q+1:=⟨n - 1,by omega⟩
    have hi:i<a.caches.length:=by omega
    have hk:=ha.ck _ (zBv hi)
    show zBO _ _ _=_
    unfold zBO
    rw [zAY (dt (by omega)),zi (zAb hi),zTx hk,zD0,zC6 hi]
    unfold cE
    by_cases h0:pcR (at_ a.caches (i:Int)) (a.zones.length:Int)=0
    · have hlen:=(zPz h0).1
      rw [dt h0,if_pos h0,Bool.not_true,zAG rfl,show (0:Int)=((0:Nat):Int) from rfl,rl4 hi rfl hk ha (by omega) _ z9 0 (Nat.zero_add _) (by have:=hk.n; unfold z9; omega),List.drop_zero]
      cases hq:((at_ a.caches (i:Int)).lists.any fun l=>decide (a.high<(l.length:Int))) with
      | true=>rfl
      | false =>
        rw [if_neg Bool.false_ne_true,if_neg Bool.false_ne_true]
        exact ih n (i+1) (by omega) (by omega)
    · rw [df h0,if_neg h0,if_neg h0]
      rfl
def zIx (f:Int):List zo→Nat→Int
  | [],_ => -1
  | z::r,i=>if inZ z f=true then (i:Int) else zIx f r (i+1)
theorem zQW (f:Int):∀ (zs:List zo) (i:Nat),zIx f zs i = -1∨((i:Int)≤zIx f zs i∧zIx f zs i<((i+zs.length:Nat):Int))
  | [],_ => .inl rfl
  | z::r,i=>by
    unfold zIx
    split
    · exact .inr ⟨Int.le_refl _,by simp; omega⟩
    · rcases zQW f r (i+1) with h | h
      · exact .inl h
      · exact .inr ⟨by omega,by simp; omega⟩
def zQI (zs:List zo):Prop:=zs.Pairwise fun x y => ∀ f,inZ x f=true→inZ y f=false
theorem zO2 (f:Int):∀ (zs:List zo) (i p:Nat) (hp:p<zs.length),zQI zs→(zIx f zs i=((i+p:Nat):Int)↔inZ zs[p] f=true)
  | [],_,_,hp,_=>absurd hp (by simp)
  | z::r,i,p,hp,ha=>by
    have ha':=List.pairwise_cons.1 ha
    unfold zIx
    cases p with
    | zero =>
      show _↔inZ z f=true
      by_cases h:inZ z f=true
      · rw [if_pos h]; simp [h]
      · rw [if_neg h]
        refine ⟨fun e => ?_,fun e=>absurd e h⟩
        rcases zQW f r (i+1) with h1 | h1 <;> omega
    | succ p =>
      have hp':p<r.length:=by simpa using hp
      show _↔inZ r[p] f=true
      by_cases h:inZ z f=true
      · rw [if_pos h,ha'.1 _ (List.getElem_mem hp') f h]
        refine ⟨fun e=>by omega,fun e=>by cases e⟩
      · rw [if_neg h,show i+(p+1)=i+1+p by omega]
        exact zO2 f r (i+1) p hp' ha'.2
theorem zQC:∀ {zs:List zo} {s:Int},zE s zs=0→(∀ z,z∈zs→zEr z=0∧s≤z.start)∧zQI zs
  | [],_,_=>⟨fun z hz=>absurd hz (by simp),List.Pairwise.nil⟩
  | z::r,s,h=>by
    unfold zE at h
    by_cases hc:zEr z=0
    · rw [if_pos hc] at h
      by_cases hs:z.start=s
      · rw [if_pos hs] at h
        have hb:=zCA (zC9 hc)
        obtain ⟨h1,h2⟩:=zQC h
        refine ⟨fun y hy => ?_,List.pairwise_cons.2 ⟨fun y hy f hf => ?_,h2⟩⟩
        · rcases List.mem_cons.1 hy with rfl | hy
          · exact ⟨hc,by omega⟩
          · have:=h1 y hy
            exact ⟨this.1,by omega⟩
        · have:=(h1 y hy).2
          unfold inZ at hf ⊢
          simp only [Bool.and_eq_true,decide_eq_true_eq] at hf
          rw [df (by omega)]
          rfl
      · rw [if_neg hs] at h; cases h
    · rw [if_neg hc] at h; exact absurd h hc
theorem zSh {f:Int} (ha:Al a) (hv:∀ z,z∈a.zones→zEr z=0):∀ (m n i:Nat),i+m=a.zones.length→m<n →
    zAe a.zones (fun y=>zCY y f) n (i:Int)=some (zIx f (a.zones.drop i) i):=by
  have hzl:=ha.z
  intro m
  induction m with
  | zero =>
    intro n i h1 h2
    obtain ⟨n,rfl⟩:∃ q,n=q+1:=⟨n - 1,by omega⟩
    show zAH _ _ _ _=_
    unfold zAH
    rw [zAG (df (by omega)),List.drop_eq_nil_of_le (by omega)]
    rfl
  | succ m ih =>
    intro n i h1 h2
    obtain ⟨n,rfl⟩:∃ q,n=q+1:=⟨n - 1,by omega⟩
    have hi:i<a.zones.length:=by omega
    have hb:=zCA (zC9 (hv _ (zBv hi)))
    show zAH _ _ _ _=_
    unfold zAH
    have hz1:zCY (at_ a.zones (i:Int)) f=some (inZ (at_ a.zones (i:Int)) f):=by
      unfold zCY
      rw [zi (zJ9 (zAE (by omega)))]
      rfl
    rw [zAY (dt (by omega)),zi (zAb hi)]
    show ((zCY (at_ a.zones (i:Int)) f).bind _)=_
    rw [hz1,zD0,zC6 hi,zi (zAE (by omega))]
    unfold zIx
    cases inZ (at_ a.zones (i:Int)) f with
    | true=>rfl
    | false=>exact ih n (i+1) (by omega) (by omega)
theorem zS7 {f:Int} (ha:Al a) (hv:∀ z,z∈a.zones→zEr z=0):zBq a f=some (zIx f a.zones 0):=by
  unfold zBq zA7
  have:=zSh (f:=f) ha hv a.zones.length z9 0 (by omega) (by have:=ha.z; unfold z9; omega)
  rw [List.drop_zero] at this
  rw [show (0:Int)=((0:Nat):Int) from rfl,this]
  rfl
theorem zSG {f:Int} (ha:Al a) (hv:∀ z,z∈a.zones→zEr z=0):∀ (m n i:Nat),i+m=a.zones.length→m<n→zGG a f n (i:Int)=some (zIx f (a.zones.drop i) i):=by
  have hzl:=ha.z
  intro m
  induction m with
  | zero =>
    intro n i h1 h2
    obtain ⟨n,rfl⟩:∃ q,n=q+1:=⟨n - 1,by omega⟩
    show zEH _ _ _ _=_
    unfold zEH
    rw [zAG (df (by omega)),List.drop_eq_nil_of_le (by omega)]
    rfl
  | succ m ih =>
    intro n i h1 h2
    obtain ⟨n,rfl⟩:∃ q,n=q+1:=⟨n - 1,by omega⟩
    have hi:i<a.zones.length:=by omega
    have hb:=zCA (zC9 (hv _ (zBv hi)))
    show zEH _ _ _ _=_
    unfold zEH
    rw [zAY (dt (by omega)),zi (zAb hi),zi (zJ9 (zAE (by omega))),zC6 hi,zi (zAE (by omega))]
    unfold zIx
    show cnd (inZ (at_ a.zones (i:Int)) f) _ _=_
    cases inZ (at_ a.zones (i:Int)) f with
    | true=>rfl
    | false=>exact ih n (i+1) (by omega) (by omega)
theorem zUQ {f:Int} (ha:Al a) (hv:∀ z,z∈a.zones→zEr z=0):zIo a f=some (zIx f a.zones 0):=by
  unfold zIo
  have:=zSG (f:=f) ha hv a.zones.length z9 0 (by omega) (by have:=ha.z; unfold z9; omega)
  rw [List.drop_zero] at this
  exact this
theorem zLx (z:zo):∀ (l:List Int) (d:List Bool),(feL z d l).2.length=d.length
  | [],_=>rfl
  | f::l,d=>by
    unfold feL
    split
    · split
      · rfl
      · rw [zLx z l,List.length_set]
    · rfl
theorem zOj:∀ (zs:List zo) (ls:List (List Int)) (d:List Bool),(feC d zs ls).2.length=d.length
  | [],_,_=>by unfold feC; rfl
  | _::_,[],_=>by unfold feC; rfl
  | z::zs,l::ls,d=>by
    unfold feC
    split
    · rw [zOj zs ls,zLx]
    · exact zLx z l d
def SM (q:List (Int×Bool)) (d:List Bool):Prop := ∀ f:Nat,f<256→zLQ false q (f:Int)=d.getD f false
theorem zPG (k f:Int):∀ (q:List (Int×Bool)),zLQ false (zJQ q k true) f=if f=k then true else zLQ false q f
  | []=>by
    unfold zJQ zLQ
    by_cases h:f=k
    · rw [if_pos h,h]; simp
    · rw [if_neg h]
      have:¬ k=f:=fun e=>h e.symm
      simp [this]
  | p::q=>by
    have ih:=zPG k f q
    unfold zJQ
    by_cases hp:p.1=k
    · rw [if_pos hp]
      unfold zLQ
      by_cases h:f=k
      · rw [if_pos h,h]; simp
      · rw [if_neg h]
        have h1:¬ k=f:=fun e=>h e.symm
        have h2:¬ p.1=f:=fun e=>h (by rw [← e,hp])
        simp [h1,h2]
    · rw [if_neg hp]
      by_cases h2:p.1=f
      · have h1:¬ f=k:=fun e=>hp (by rw [h2,e])
        rw [if_neg h1]
        unfold zLQ
        simp [h2]
      · have e1:∀ r:List (Int×Bool),zLQ false (p::r) f=zLQ false r f:=fun r=>by unfold zLQ; simp [h2]
        rw [e1,e1,ih]
theorem SM.set {q:List (Int×Bool)} {d:List Bool} {k:Nat} (h:SM q d) (hd:d.length=256) (hk:k<256):SM (zJQ q (k:Int) true) (d.set k true):=by
  intro f hf
  rw [zPG,zC3 _ _ _ (by omega),h f hf]
  by_cases e:f=k
  · rw [if_pos e,if_pos (by omega)]
  · rw [if_neg e,if_neg (by omega)]
theorem zRp {z:zo} {f:Int} (hr:ranges z=true) (h:inZ z f=true):0≤f∧f<256:=by
  have hb:=zCA hr
  unfold inZ at h
  simp only [Bool.and_eq_true,decide_eq_true_eq] at h
  omega
theorem zUl {α:Type} {b c:Bool} {x y:Option α}:(cnd (!b) (some c) (some default)).bind (fun q=>cnd (b||q) x y)=cnd (b||c) x y:=by
  cases b <;> rfl
theorem el2 {se:Int→List (Int×Bool)→Option Int} {c:zL} {j p:Nat} {z:zo} {l:List Int} (ha:Al a) (hv:∀ z,z∈a.zones→zEr z=0) (hap:zQI a.zones) (hj:j<a.caches.length) (hc:at_ a.caches (j:Int)=c) (hp:p<c.lists.length) (hpz:p<a.zones.length) (hz:at_ a.zones (p:Int)=z) (hl:at_ c.lists (p:Int)=l) (hll:l.length≤1000) (hpb:p≤1000) :
    ∀ (m n i:Nat) (q:List (Int×Bool)) (d:List Bool),i+m=l.length→m<n→d.length=256→SM q d → ∃ q',SM q' (feL z d (l.drop i)).2 ∧
      zBZ se a (j:Int) (p:Int) n (i:Int) q=if (feL z d (l.drop i)).1=0 then se ((p+1:Nat):Int) q' else some (feL z d (l.drop i)).1:=by
  have hkz:=ha.zk z (hz▸zBv hpz)
  have hcz:=hv z (hz▸zBv hpz)
  intro m
  induction m with
  | zero =>
    intro n i q d h1 h2 h3 h4
    obtain ⟨n,rfl⟩:∃ q,n=q+1:=⟨n - 1,by omega⟩
    rw [List.drop_eq_nil_of_le (by omega)]
    refine ⟨q,h4,?_⟩
    show zBw _ _ _ _ _ _ _=_
    unfold zBw zEd
    rw [hc,hl,zAG (df (by omega)),zi (zAE (by omega))]
    rfl
  | succ m ih =>
    intro n i q d h1 h2 h3 h4
    obtain ⟨n,rfl⟩:∃ q,n=q+1:=⟨n - 1,by omega⟩
    have hi:i<l.length:=by omega
    have hx:=zO2 (at_ l (i:Int)) a.zones 0 p hpz hap
    rw [← zII hpz,hz,Nat.zero_add] at hx
    have ee:zBZ se a (j:Int) (p:Int) (n+1) (i:Int) q=cnd (!decide (zIx (at_ l (i:Int)) a.zones 0=(p:Int))) (some 2) (cnd (zLQ false q (at_ l (i:Int))||zLl z (at_ l (i:Int))) (some 7) (zBZ se a (j:Int) (p:Int) n ((i+1:Nat):Int) (zJQ q (at_ l (i:Int)) true))):=by
      show zBw _ _ _ _ _ _ _=_
      unfold zBw
      rw [hc,hl,zAY (dt (by omega)),zi (zAb hi),zS7 ha hv,zD0,zi (zJ9 (zAb hpz)),hz,zTv hkz.1 hkz.2,zUl,zi (zAE (by omega))]
      rfl
    rw [ee,zC6 hi]
    unfold feL
    generalize at_ l (i:Int)=f at *
    cases hq:inZ z f with
    | false =>
      rw [df (fun e=>by rw [hx.1 e] at hq; cases hq)]
      exact ⟨q,h4,rfl⟩
    | true =>
      have hf:=zRp (zC9 hcz) hq
      obtain ⟨g,rfl⟩:=Int.eq_ofNat_of_zero_le hf.1
      rw [dt (hx.2 hq),Bool.not_true,zAG rfl,if_pos rfl,h4 g (by omega),Int.toNat_natCast]
      cases hr:(d.getD g false||zLl z (g:Int)) with
      | true=>exact ⟨q,h4,rfl⟩
      | false =>
        rw [zAG rfl,if_neg Bool.false_ne_true]
        exact ih n (i+1) _ _ (by omega) (by omega) (by rw [List.length_set]; exact h3) (h4.set h3 (by omega))
theorem el1 {se:Int→List (Int×Bool)→Option Int} {c:zL} {j:Nat} (ha:Al a) (hv:∀ z,z∈a.zones→zEr z=0) (hap:zQI a.zones) (hj:j<a.caches.length) (hc:at_ a.caches (j:Int)=c) (hlen:c.lists.length=a.zones.length) :
    ∀ (m n p:Nat) (q:List (Int×Bool)) (d:List Bool),p+m=c.lists.length→m<n→d.length=256→SM q d → ∃ q',SM q' (feC d (a.zones.drop p) (c.lists.drop p)).2 ∧
      zAk se a (j:Int) n (p:Int) q=if (feC d (a.zones.drop p) (c.lists.drop p)).1=0 then se ((j+1:Nat):Int) q' else some (feC d (a.zones.drop p) (c.lists.drop p)).1:=by
  have hcl:=ha.c
  have hck:=ha.ck c (hc▸zBv hj)
  have hn:=hck.n
  intro m
  induction m with
  | zero =>
    intro n p q d h1 h2 h3 h4
    obtain ⟨n,rfl⟩:∃ q,n=q+1:=⟨n - 1,by omega⟩
    rw [List.drop_eq_nil_of_le (show a.zones.length≤p by omega)]
    unfold feC
    refine ⟨q,h4,?_⟩
    show zB6 _ _ _ _ _ _=_
    unfold zB6 zEi
    rw [hc,zAG (df (by omega)),zi (zAE (by omega))]
    rfl
  | succ m ih =>
    intro n p q d h1 h2 h3 h4
    obtain ⟨n,rfl⟩:∃ q,n=q+1:=⟨n - 1,by omega⟩
    have hp:p<c.lists.length:=by omega
    have hpz:p<a.zones.length:=by omega
    have hll:=hck.l _ (zBv hp)
    obtain ⟨q1,s1,s2⟩:=el2 (se:=zAk se a (j:Int) n) ha hv hap hj hc hp hpz rfl rfl hll (by omega) _ z9 0 q d (Nat.zero_add _) (by unfold z9; omega) h3 h4
    rw [List.drop_zero] at s1 s2
    have ee:zAk se a (j:Int) (n+1) (p:Int) q=zBZ (zAk se a (j:Int) n) a (j:Int) (p:Int) z9 ((0:Nat):Int) q:=by
      show zB6 _ _ _ _ _ _=_
      unfold zB6
      rw [hc,zAY (dt (by omega)),zi (zAb hp)]
      rfl
    rw [ee,s2,zC6 hp,zC6 hpz]
    unfold feC
    by_cases h0:(feL (at_ a.zones (p:Int)) d (at_ c.lists (p:Int))).1=0
    · rw [if_pos h0,if_pos h0]
      exact ih n (p+1) q1 _ (by omega) (by omega) (by rw [zLx]; exact h3) s1
    · rw [if_neg h0,if_neg h0]
      exact ⟨q1,s1,(if_neg h0).symm⟩
theorem el0 (ha:Al a) (hv:∀ z,z∈a.zones→zEr z=0) (hap:zQI a.zones) (hlen:∀ c,c∈a.caches→c.lists.length=a.zones.length) :
    ∀ (m n j:Nat) (q:List (Int×Bool)) (d:List Bool),j+m=a.caches.length→m<n→d.length=256→SM q d→zAU a n (j:Int) q=some (feA a.zones d (a.caches.drop j)):=by
  have hcl:=ha.c
  intro m
  induction m with
  | zero =>
    intro n j q d h1 h2 h3 h4
    obtain ⟨n,rfl⟩:∃ q,n=q+1:=⟨n - 1,by omega⟩
    show zB0 _ _ _ _=_
    unfold zB0
    rw [zAG (df (by omega)),List.drop_eq_nil_of_le (by omega)]
    rfl
  | succ m ih =>
    intro n j q d h1 h2 h3 h4
    obtain ⟨n,rfl⟩:∃ q,n=q+1:=⟨n - 1,by omega⟩
    have hj:j<a.caches.length:=by omega
    have hl:=hlen _ (zBv hj)
    obtain ⟨q1,s1,s2⟩:=el1 (se:=zAU a n) ha hv hap hj rfl hl _ z9 0 q d (Nat.zero_add _) (by have:=(ha.ck _ (zBv hj)).n; unfold z9; omega) h3 h4
    rw [List.drop_zero,List.drop_zero] at s1 s2
    show zB0 _ _ _ _=_
    unfold zB0
    rw [zAY (dt (by omega)),zi (zAb hj),show (0:Int)=((0:Nat):Int) from rfl,s2,zC6 hj]
    unfold feA
    by_cases h0:(feC d a.zones (at_ a.caches (j:Int)).lists).1=0
    · rw [if_pos h0,if_pos h0]
      exact ih n (j+1) q1 _ (by omega) (by omega) (by rw [zOj]; exact h3) s1
    · rw [if_neg h0,if_neg h0]
theorem fl2 {se:Int→List Bool→Option Int} {c:zL} {j p:Nat} {z:zo} {l:List Int} (ha:Al a) (hv:∀ z,z∈a.zones→zEr z=0) (hc:at_ a.caches (j:Int)=c) (hpz:p<a.zones.length) (hz:at_ a.zones (p:Int)=z) (hl:at_ c.lists (p:Int)=l) (hll:l.length≤1000) (hpb:p≤1000) :
    ∀ (m n i:Nat) (d:List Bool),i+m=l.length→m<n→d.length=256 →
      zCE se a (j:Int) (p:Int) n (i:Int) d=if (feL z d (l.drop i)).1=0 then se ((p+1:Nat):Int) (feL z d (l.drop i)).2 else some (feL z d (l.drop i)).1:=by
  have hkz:=ha.zk z (hz▸zBv hpz)
  have hcz:=hv z (hz▸zBv hpz)
  have hb:=zCA (zC9 hcz)
  intro m
  induction m with
  | zero =>
    intro n i d h1 h2 h3
    obtain ⟨n,rfl⟩:∃ q,n=q+1:=⟨n - 1,by omega⟩
    rw [List.drop_eq_nil_of_le (by omega)]
    show zBQ _ _ _ _ _ _ _=_
    unfold zBQ zDq
    rw [hc,hl,zAG (df (by omega)),zi (zAE (by omega))]
    rfl
  | succ m ih =>
    intro n i d h1 h2 h3
    obtain ⟨n,rfl⟩:∃ q,n=q+1:=⟨n - 1,by omega⟩
    have hi:i<l.length:=by omega
    rw [zC6 hi]
    show zBQ _ _ _ _ _ _ _=_
    unfold zBQ
    rw [hc,hl,zAY (dt (by omega)),zi (zAb hi),zi (zAb hpz),hz,zi (zJ9 (zAE (by omega)))]
    unfold feL
    generalize at_ l (i:Int)=f at *
    have hin:((decide (f<z.start))||(decide ((z.start+z.count)≤f))) = !inZ z f:=by
      unfold inZ
      rw [Bool.eq_iff_iff]
      simp only [Bool.or_eq_true,decide_eq_true_eq,Bool.not_eq_true',Bool.and_eq_false_iff,decide_eq_false_iff_not]
      omega
    rw [hin]
    cases hq:inZ z f with
    | false=>rfl
    | true =>
      have hf:=zRp (zC9 hcz) hq
      obtain ⟨g,rfl⟩:=Int.eq_ofNat_of_zero_le hf.1
      have hg:g<d.length:=by omega
      have ed:at_ d (g:Int)=d.getD g false:=by rw [zII hg,List.getD_eq_getElem?_getD,List.getElem?_eq_getElem hg]; rfl
      rw [Bool.not_true,zAG rfl,if_pos rfl,zi (zAb hg),ed,zTw hkz.1,zUl,zi (zAE (by omega)),Int.toNat_natCast]
      cases hr:(d.getD g false||zLl z (g:Int)) with
      | true=>rfl
      | false =>
        rw [zAG rfl,if_neg Bool.false_ne_true]
        exact ih n (i+1) _ (by omega) (by omega) (by rw [List.length_set]; exact h3)
theorem fl1 {se:Int→List Bool→Option Int} {c:zL} {j:Nat} (ha:Al a) (hv:∀ z,z∈a.zones→zEr z=0) (hj:j<a.caches.length) (hc:at_ a.caches (j:Int)=c) (hlen:c.lists.length=a.zones.length) :
    ∀ (m n p:Nat) (d:List Bool),p+m=c.lists.length→m<n→d.length=256 →
      zAZ se a (j:Int) n (p:Int) d=if (feC d (a.zones.drop p) (c.lists.drop p)).1=0 then se ((j+1:Nat):Int) (feC d (a.zones.drop p) (c.lists.drop p)).2 else some (feC d (a.zones.drop p) (c.lists.drop p)).1:=by
  have hcl:=ha.c
  have hck:=ha.ck c (hc▸zBv hj)
  have hn:=hck.n
  intro m
  induction m with
  | zero =>
    intro n p d h1 h2 h3
    obtain ⟨n,rfl⟩:∃ q,n=q+1:=⟨n - 1,by omega⟩
    rw [List.drop_eq_nil_of_le (show a.zones.length≤p by omega)]
    unfold feC
    show zBS _ _ _ _ _ _=_
    unfold zBS zDo
    rw [zAG (df (by omega)),zi (zAE (by omega))]
    rfl
  | succ m ih =>
    intro n p d h1 h2 h3
    obtain ⟨n,rfl⟩:∃ q,n=q+1:=⟨n - 1,by omega⟩
    have hp:p<c.lists.length:=by omega
    have hpz:p<a.zones.length:=by omega
    have hll:=hck.l _ (zBv hp)
    have s2:=fl2 (se:=zAZ se a (j:Int) n) ha hv hc hpz rfl rfl hll (by omega) _ z9 0 d (Nat.zero_add _) (by unfold z9; omega) h3
    rw [List.drop_zero] at s2
    have ee:zAZ se a (j:Int) (n+1) (p:Int) d=zCE (zAZ se a (j:Int) n) a (j:Int) (p:Int) z9 ((0:Nat):Int) d:=by
      show zBS _ _ _ _ _ _=_
      unfold zBS
      rw [hc,zAY (dt (by omega)),zi (zAb hj),zi (zAb hp)]
      rfl
    rw [ee,s2,zC6 hp,zC6 hpz]
    unfold feC
    by_cases h0:(feL (at_ a.zones (p:Int)) d (at_ c.lists (p:Int))).1=0
    · rw [if_pos h0,if_pos h0]
      exact ih n (p+1) _ (by omega) (by omega) (by rw [zLx]; exact h3)
    · rw [if_neg h0,if_neg h0,if_neg h0]
theorem fl0 (ha:Al a) (hv:∀ z,z∈a.zones→zEr z=0) (hlen:∀ c,c∈a.caches→c.lists.length=a.zones.length) :
    ∀ (m n j:Nat) (d:List Bool),j+m=a.caches.length→m<n→d.length=256→zAM a n (j:Int) d=some (feA a.zones d (a.caches.drop j)):=by
  have hcl:=ha.c
  intro m
  induction m with
  | zero =>
    intro n j d h1 h2 h3
    obtain ⟨n,rfl⟩:∃ q,n=q+1:=⟨n - 1,by omega⟩
    show zBN _ _ _ _=_
    unfold zBN
    rw [zAG (df (by omega)),List.drop_eq_nil_of_le (by omega)]
    rfl
  | succ m ih =>
    intro n j d h1 h2 h3
    obtain ⟨n,rfl⟩:∃ q,n=q+1:=⟨n - 1,by omega⟩
    have hj:j<a.caches.length:=by omega
    have hl:=hlen _ (zBv hj)
    have s2:=fl1 (se:=zAM a n) ha hv hj rfl hl _ z9 0 d (Nat.zero_add _) (by have:=(ha.ck _ (zBv hj)).n; unfold z9; omega) h3
    rw [List.drop_zero,List.drop_zero] at s2
    show zBN _ _ _ _=_
    unfold zBN
    rw [zAY (dt (by omega)),show (0:Int)=((0:Nat):Int) from rfl,s2,zC6 hj]
    unfold feA
    by_cases h0:(feC d a.zones (at_ a.caches (j:Int)).lists).1=0
    · rw [if_pos h0,if_pos h0]
      exact ih n (j+1) _ (by omega) (by omega) (by rw [zOj]; exact h3)
    · rw [if_neg h0,if_neg h0]
theorem zOl:∀ {cs:List zL} {h zn:Int},cE h zn cs=0 → ∀ c,c∈cs→(c.lists.length:Int)=zn
  | [],_,_,_,_,hc=>absurd hc (by simp)
  | c::cs,h,zn,he,x,hx=>by
    unfold cE at he
    by_cases h0:pcR c zn=0
    · rw [if_pos h0] at he
      split at he
      · cases he
      · rcases List.mem_cons.1 hx with rfl | hx
        · exact (zPz h0).1
        · exact zOl he x hx
    · rw [if_neg h0] at he; exact absurd he h0
theorem zUC (ha:Al a):zAl a=some (zSM a):=by
  have h1:=ha.n
  have h2:=ha.z
  have h3:=ha.c
  unfold zAl zSM
  rw [zPo (by omega),zD0]
  cases zR2 a.nodes a.batch a.high (a.zones.length:Int) with
  | false=>rfl
  | true =>
    have hz:=zl5 ha a.zones.length z9 0 0 (by omega) (by unfold z9; omega) (by omega)
    rw [List.drop_zero] at hz
    rw [Bool.not_true,zAG rfl,if_pos rfl]
    refine Eq.trans hz ?_
    by_cases h0:zE 0 a.zones=0
    · rw [if_pos h0,if_pos h0]
      obtain ⟨z1,z2⟩:=zQC h0
      unfold zC7
      by_cases hl:(a.caches.length:Int)=(a.nodes.length:Int)
      · rw [dt hl,if_pos hl,Bool.not_true,zAG rfl,show (0:Int)=((0:Nat):Int) from rfl,hl3 ha a.caches.length z9 0 (by omega) (by unfold z9; omega),List.drop_zero]
        show (if cE a.high (a.zones.length:Int) a.caches=0 then _ else _)=some (if cE a.high (a.zones.length:Int) a.caches=0 then _ else _)
        by_cases hc:cE a.high (a.zones.length:Int) a.caches=0
        · rw [if_pos hc,if_pos hc]
          unfold zDK
          rw [show (0:Int)=((0:Nat):Int) from rfl,el0 ha (fun z hz=>(z1 z hz).1) z2 (fun c hm=>by have:=zOl hc c hm; omega) a.caches.length z9 0 [] zFV (by omega) (by unfold z9; omega) zKI (fun f hf=>by
            unfold zFV zLQ
            rw [List.getD_eq_getElem?_getD,List.getElem?_replicate,if_pos hf]
            rfl),List.drop_zero]
        · rw [if_neg hc,if_neg hc]
      · rw [df hl,if_neg hl]
        rfl
    · rw [if_neg h0,if_neg h0]
theorem zSj (ha:Al a):zIG a=some (zSM a):=by
  have h1:=ha.n
  have h2:=ha.z
  have h3:=ha.c
  unfold zIG zSM
  rw [zRb (by omega),zD0]
  cases zR2 a.nodes a.batch a.high (a.zones.length:Int) with
  | false=>rfl
  | true =>
    have hz:=zr0 ha a.zones.length z9 0 0 (by omega) (by unfold z9; omega) (by omega)
    rw [List.drop_zero] at hz
    rw [Bool.not_true,zAG rfl,if_pos rfl]
    refine Eq.trans hz ?_
    by_cases h0:zE 0 a.zones=0
    · rw [if_pos h0,if_pos h0]
      obtain ⟨z1,z2⟩:=zQC h0
      unfold zFj zFQ
      by_cases hl:(a.caches.length:Int)=(a.nodes.length:Int)
      · rw [dt hl,if_pos hl,Bool.not_true,zAG rfl,show (0:Int)=((0:Nat):Int) from rfl,rl3 ha a.caches.length z9 0 (by omega) (by unfold z9; omega),List.drop_zero]
        show (if cE a.high (a.zones.length:Int) a.caches=0 then (_:Option Int) else _).bind _=some (if cE a.high (a.zones.length:Int) a.caches=0 then _ else _)
        by_cases hc:cE a.high (a.zones.length:Int) a.caches=0
        · rw [if_pos hc,if_pos hc]
          unfold zCe zFL
          rw [zi (by rfl),show List.replicate (256:Int).toNat false=zFV from rfl,show (0:Int)=((0:Nat):Int) from rfl,fl0 ha (fun z hz=>(z1 z hz).1) (fun c hm=>by have:=zOl hc c hm; omega) a.caches.length z9 0 zFV (by omega) (by unfold z9; omega) zKI,List.drop_zero]
          rfl
        · rw [if_neg hc,if_neg hc]
          rfl
      · rw [df hl,if_neg hl]
        rfl
    · rw [if_neg h0,if_neg h0]
end
end Go.Proofs.YtplkliakhdkpcaaGreat
