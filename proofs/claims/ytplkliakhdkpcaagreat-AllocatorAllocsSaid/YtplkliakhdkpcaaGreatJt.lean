/-
 The statement AllocatorAllocs.
-/
import Derived.Test.YtplkliakhdkpcaaGreatGe
import Derived.Test.YtplkliakhdkpcaaGreatRows
set_option linter.unusedVariables false
set_option linter.unusedSimpArgs false
namespace Go.Proofs.YtplkliakhdkpcaaGreat
open Go Go.RowKit Go.Wk Go.Am
structure Sm (a:zJ):Prop where
 n:a.nodes.length≤1099511627776
 z:a.zones.length≤1099511627776
 c:a.caches.length≤1099511627776
 f:∀ z,z∈a.zones → ∀ k,(z.free.getD k []).length≤1099511627776
 l:∀ c,c∈a.caches→c.lists.length≤1099511627776 ∧ ∀ l,l∈c.lists→l.length≤1099511627776
theorem zYd {l:List Int} (hl:l.length≤1099511627776):∀ (m n i:Nat),i+m=l.length→m<n→zEm l l n (i:Int)=some true:=by
 intro m
 induction m with
 | zero =>
  intro n i h1 h2
  obtain ⟨n,rfl⟩:=ex1 ‹_<n›
  show zCb _ _ _ _=_
  unfold zCb
  rw [zw (df (by omega))]
  rfl
 | succ m ih =>
  intro n i h1 h2
  obtain ⟨n,rfl⟩:=ex1 ‹_<n›
  show zCb _ _ _ _=_
  unfold zCb
  rw [zAE (dt (by omega)),zV (zAF (by omega)),zV (zAF (by omega)),dt rfl]
  refine (zw (by rfl)).trans ?_
  rw [zV (z7 (by omega))]
  exact ih n (i+1) (by omega) (by omega)
theorem zPs {l:List Int} (hl:l.length≤1099511627776):zFU l l=some true:=by
 unfold zFU
 rw [dt rfl]
 exact zYd hl l.length zAD 0 (by omega) (by unfold zAD; omega)
theorem zYe {l:List Int} (hl:l.length≤1099511627776):∀ (m n i:Nat),i+m=l.length→m<n→zEl l l n (i:Int)=some true:=by
 intro m
 induction m with
 | zero =>
  intro n i h1 h2
  obtain ⟨n,rfl⟩:=ex1 ‹_<n›
  show zCf _ _ _ _=_
  unfold zCf
  rw [zw (df (by omega))]
  rfl
 | succ m ih =>
  intro n i h1 h2
  obtain ⟨n,rfl⟩:=ex1 ‹_<n›
  show zCf _ _ _ _=_
  unfold zCf
  rw [zAE (dt (by omega)),zV (zAF (by omega)),zV (zAF (by omega)),dt rfl]
  refine (zw (by rfl)).trans ?_
  rw [zV (z7 (by omega))]
  exact ih n (i+1) (by omega) (by omega)
theorem zTH {l:List Int} (hl:l.length≤1099511627776):zGi l l=some true:=by
 unfold zGi
 rw [dt rfl]
 exact zYe hl l.length zAD 0 (by omega) (by unfold zAD; omega)
theorem zQ1 {z:zj} (hz:∀ k,(z.free.getD k []).length≤1099511627776):∀ (m n i:Nat),i+m=5→m<n→zHO z z n (i:Int)=some true:=by
 intro m
 induction m with
 | zero =>
  intro n i h1 h2
  obtain ⟨n,rfl⟩:=ex1 ‹_<n›
  show zEv _ _ _ _=_
  unfold zEv
  rw [zw (df (by omega))]
  rfl
 | succ m ih =>
  intro n i h1 h2
  obtain ⟨n,rfl⟩:=ex1 ‹_<n›
  show zEv _ _ _ _=_
  unfold zEv
  rw [zAE (dt (by omega)),zV (zAF (by omega)),zTH (hz _),zBR]
  refine (zw (by rfl)).trans ?_
  rw [zV (z7 (by omega))]
  exact ih n (i+1) (by omega) (by omega)
theorem zXd {z:zj} (hz:∀ k,(z.free.getD k []).length≤1099511627776):zKJ z z=some true:=by
 unfold zKJ
 rw [dt rfl,dt rfl,dt rfl,dt rfl,dt rfl]
 exact zQ1 hz 5 zAD 0 (by omega) (by unfold zAD; omega)
theorem zQg {c:zL} (h1:c.lists.length≤1099511627776) (h2:∀ l,l∈c.lists→l.length≤1099511627776):∀ (m n i:Nat),i+m=c.lists.length→m<n→zHH c c n (i:Int)=some true:=by
 intro m
 induction m with
 | zero =>
  intro n i h3 h4
  obtain ⟨n,rfl⟩:=ex1 ‹_<n›
  show zE8 _ _ _ _=_
  unfold zE8
  rw [zw (df (by omega))]
  rfl
 | succ m ih =>
  intro n i h3 h4
  obtain ⟨n,rfl⟩:=ex1 ‹_<n›
  show zE8 _ _ _ _=_
  unfold zE8
  have hi:i<c.lists.length:=by omega
  rw [zAE (dt (by omega)),zV (zAF hi),zV (zAF hi),zHD hi,zPs (h2 _ (List.getElem_mem hi)),zBR]
  refine (zw (by rfl)).trans ?_
  rw [zV (z7 (by omega))]
  exact ih n (i+1) (by omega) (by omega)
theorem zXa {c:zL} (h1:c.lists.length≤1099511627776) (h2:∀ l,l∈c.lists→l.length≤1099511627776):zJ8 c c=some true:=by
 unfold zJ8
 rw [dt rfl]
 exact zQg h1 h2 c.lists.length zAD 0 (by omega) (by unfold zAD; omega)
theorem zUd {a:zJ} (h:Sm a):∀ (m n i:Nat),i+m=a.caches.length→m<n→zHQ a a n (i:Int)=some true:=by
 have hc:=h.c
 intro m
 induction m with
 | zero =>
  intro n i h3 h4
  obtain ⟨n,rfl⟩:=ex1 ‹_<n›
  show zE0 _ _ _ _=_
  unfold zE0
  rw [zw (df (by omega))]
  rfl
 | succ m ih =>
  intro n i h3 h4
  obtain ⟨n,rfl⟩:=ex1 ‹_<n›
  show zE0 _ _ _ _=_
  unfold zE0
  have hi:i<a.caches.length:=by omega
  have hl:=h.l _ (List.getElem_mem hi)
  rw [zAE (dt (by omega)),zV (zAF hi),zV (zAF hi),zHD hi,zXa hl.1 hl.2,zBR]
  refine (zw (by rfl)).trans ?_
  rw [zV (z7 (by omega))]
  exact ih n (i+1) (by omega) (by omega)
theorem zT8 {a:zJ} (h:Sm a):∀ (m n i:Nat),i+m=a.zones.length→m<n→zHa a a n (i:Int)=some true:=by
 have hc:=h.z
 intro m
 induction m with
 | zero =>
  intro n i h3 h4
  obtain ⟨n,rfl⟩:=ex1 ‹_<n›
  show zEx _ _ _ _=_
  unfold zEx
  rw [zw (df (by omega))]
  exact zUd h a.caches.length zAD 0 (by omega) (by have:=h.c; unfold zAD; omega)
 | succ m ih =>
  intro n i h3 h4
  obtain ⟨n,rfl⟩:=ex1 ‹_<n›
  show zEx _ _ _ _=_
  unfold zEx
  have hi:i<a.zones.length:=by omega
  rw [zAE (dt (by omega)),zV (zAF hi),zV (zAF hi),zHD hi,zXd (h.f _ (List.getElem_mem hi)),zBR]
  refine (zw (by rfl)).trans ?_
  rw [zV (z7 (by omega))]
  exact ih n (i+1) (by omega) (by omega)
theorem zXX {a:zJ} (h:Sm a):zJB a a=some true:=by
 unfold zJB
 rw [zPs h.n,zBR,dt rfl,dt rfl,dt rfl,dt rfl]
 exact zT8 h a.zones.length zAD 0 (by omega) (by have:=h.z; unfold zAD; omega)
end Go.Proofs.YtplkliakhdkpcaaGreat
namespace Go.Proofs.YtplkliakhdkpcaaGreat
open Go Go.RowKit Go.Am
def geP:Option Int→Int→Bool
 | some q,f=>decide (f≤q)
 | none,_=>false
def zKq (z:zj) (k:Nat):Option Int→List Int→Int
 | _,[]=>0
 | p,f::r=>if inside z f k=false then 3 else if geP p f=true then 10 else zKq z k (some f) r
def zFE (z:zj):Nat→List (List Int)→Int
 | _,[]=>0
 | k,l::r=>if zKq z k none l=0 then zFE z (k+1) r else zKq z k none l
def zMz (s:List Bool) (i:Nat):Nat→Option (List Bool)
 | 0=>some s
 | n+1=>if s.getD i false=true then none else zMz (s.set i true) (i+1) n
def zMm (k:Nat):List Bool→List Int→Option (List Bool)
 | s,[]=>some s
 | s,f::r=>match zMz s f.toNat (2 ^ k) with
  | none=>none
  | some s'=>zMm k s' r
def zI2:Nat→List Bool→List (List Int)→Option (List Bool)
 | _,s,[]=>some s
 | k,s,l::r=>match zMm k s l with
  | none=>none
  | some s'=>zI2 (k+1) s' r
def zQw (z:zj) (k:Nat) (l0:List Int):List Int→Bool
 | []=>false
 | f::r=>if (decide (bud f k∈l0)&&inside z (min f (bud f k)) (k+1))=true then true else zQw z k l0 r
def zMZ (z:zj):Nat→List (List Int)→Bool
 | _,[]=>false
 | k,l::r=>if zQw z k l l=true then true else zMZ z (k+1) r
def zE6:List Bool:=List.replicate 256 false
theorem zJV:zE6.length=256:=List.length_replicate
def zEr (z:zj):Int :=
 if ranges z=false then 2 else if zFE z 0 z.free=0 then
  (if zI2 0 zE6 z.free=none then 7 else if zMZ z 0 (z.free.take 4)=true then 11 else 0)
 else zFE z 0 z.free
theorem zTa {z:zj} {k:Nat}:∀ {l:List Int} {p:Option Int},zKq z k p l=0→(∀ f,f∈l→inside z f k=true)∧Srt l∧(∀ q f,p=some q→f∈l→q<f):=by
 intro l
 induction l with
 | nil=>intro p _; exact ⟨fun f hf=>by simp at hf,Srt.nil,fun q f _ hf=>by simp at hf⟩
 | cons a l ih =>
  intro p h
  unfold zKq at h
  split at h
  ·cases h
  ·rename_i h1
   split at h
   ·cases h
   ·rename_i h2
    obtain ⟨i1,i2,i3⟩:=ih h
    have ha:inside z a k=true:=by simpa using h1
    refine ⟨fun f hf => ?_,List.pairwise_cons.2 ⟨fun f hf=>i3 a f rfl hf,i2⟩,fun q f hq hf => ?_⟩
    ·rcases List.mem_cons.1 hf with rfl | hf
     ·exact ha
     ·exact i1 f hf
    ·subst hq
     have h2:q<a:=by simpa [geP] using h2
     rcases List.mem_cons.1 hf with rfl | hf
     ·exact h2
     ·have:=i3 a f rfl hf; omega
theorem zTs {z:zj}:∀ {ls:List (List Int)} {k:Nat},zFE z k ls=0 → ∀ (j:Nat) (l:List Int),ls[j]?=some l→(∀ f,f∈l→inside z f (k+j)=true)∧Srt l:=by
 intro ls
 induction ls with
 | nil=>intro k _ j l hl; simp at hl
 | cons a ls ih =>
  intro k h j l hl
  unfold zFE at h
  split at h
  ·rename_i h0
   cases j with
   | zero =>
    simp at hl; subst hl
    exact ⟨(zTa h0).1,(zTa h0).2.1⟩
   | succ j =>
    have:=ih h j l (by simpa using hl)
    rw [show k+(j+1)=k+1+j by omega]
    exact this
  ·rename_i h0; exact absurd h h0
theorem zDF {z:zj} (h:zEr z=0):ranges z=true:=by
 unfold zEr at h
 split at h
 ·cases h
 ·rename_i h1; simpa using h1
def zLU (l:List Int) (i:Nat):Option Int:=if i=0 then none else l[i - 1]?
section
variable {z:zj} {k i:Nat} {l:List Int} {x y:Int}
theorem zP6 (hI:zKq z k none l=zKq z k (zLU l i) (l.drop i)) (hx:l[i]?=some x) (h:inside z x k=false):zKq z k none l=3:=by
 obtain ⟨h1,h2⟩:=List.getElem?_eq_some_iff.1 hx
 rw [hI,List.drop_eq_getElem_cons h1,h2]
 unfold zKq
 simp [h]
theorem zL5 (hI:zKq z k none l=zKq z k (zLU l i) (l.drop i)) (hx:l[i]?=some x) (h:inside z x k=true) (hg:geP (zLU l i) x=false):zKq z k none l=zKq z k (zLU l (i+1)) (l.drop (i+1)):=by
 obtain ⟨h1,h2⟩:=List.getElem?_eq_some_iff.1 hx
 rw [hI,List.drop_eq_getElem_cons h1,h2]
 conv=>lhs; unfold zKq
 have:zLU l (i+1)=some x:=by unfold zLU; simpa using hx
 simp [h,hg,this]
theorem zW4 (h:¬ 0<i):geP (zLU l i) x=false:=by
 have:i=0:=by omega
 subst this
 rfl
theorem zXC (h:0<i) (hy:l[((i:Int) - 1).toNat]?=some y):geP (zLU l i) x=decide (x≤y):=by
 have e:((i:Int) - 1).toNat=i - 1:=by omega
 rw [e] at hy
 unfold zLU
 rw [if_neg (by omega),hy]
 rfl
theorem zOM (hI:zKq z k none l=zKq z k (zLU l i) (l.drop i)) (hx:l[i]?=some x) (h:inside z x k=true) (hg:geP (zLU l i) x=true):zKq z k none l=10:=by
 obtain ⟨h1,h2⟩:=List.getElem?_eq_some_iff.1 hx
 rw [hI,List.drop_eq_getElem_cons h1,h2]
 unfold zKq
 simp [h,hg]
theorem zRR (hI:zKq z k none l=zKq z k (zLU l i) (l.drop i)) (h:l.length≤i):zKq z k none l=0:=by
 rw [hI,List.drop_eq_nil_of_le h]
 rfl
theorem zOh (hR:zFE z 0 z.free=zFE z k (z.free.drop k)) (hl:z.free[k]?=some l) (e:zKq z k none l=0):zFE z 0 z.free=zFE z (k+1) (z.free.drop (k+1)):=by
 obtain ⟨h1,h2⟩:=List.getElem?_eq_some_iff.1 hl
 rw [hR,List.drop_eq_getElem_cons h1,h2]
 conv=>lhs; unfold zFE
 simp [e]
theorem zPz (hR:zFE z 0 z.free=zFE z k (z.free.drop k)) (h:z.free.length≤k):zFE z 0 z.free=0:=by
 rw [hR,List.drop_eq_nil_of_le h]
 rfl
variable {s s0 s1:List Bool} {m n:Nat}
variable {ls:List (List Int)}
variable {l0:List Int}
theorem zMF {β:Type} {l:List β} {i m:Nat} {x:β} (h:l[i]?=some x) (hm:i<m):(l.take m)[i]?=some x:=by
 rw [List.getElem?_take,if_pos hm]; exact h
end
def zP7 (k:Nat):List (List Int)→Int
 | []=>0
 | l::r=>(l.length:Int)*2 ^ k+zP7 (k+1) r
end Go.Proofs.YtplkliakhdkpcaaGreat
namespace Go.Proofs.YtplkliakhdkpcaaGreat
open Go Go.RowKit Go.Wk Go.Am
structure Zk (z:zj):Prop where
 len:z.free.length=5
 bd:∀ k,(lst z k).length≤1000000
section
variable {z:zj} {k:Nat} {l:List Int}
theorem Zk.get (h:Zk z) (hk:k<5):z.free[k]?=some (lst z k):=zKj h.len hk
theorem zRf {i:Nat} (h:i<l.length):l[i]?=some (at_ l (i:Int)):=by rw [zHD h,List.getElem?_eq_getElem h]
theorem zPh {i:Nat} (h0:0<i):(i:Int) - 1=((i - 1:Nat):Int):=by omega
theorem cl6 {se:Int→Option Int} (hz:Zk z) (hr:ranges z=true) (hk:k<5) (hl:lst z k=l):∀ (m n i:Nat),i+m=l.length→m<n→zKq z k none l=zKq z k (zLU l i) (l.drop i) →
  zGq se z (k:Int) n (i:Int)=if zKq z k none l=0 then se ((k+1:Nat):Int) else some (zKq z k none l):=by
 have hb:l.length≤1000000:=by rw [← hl]; exact hz.bd k
 have e:z.free.getD (k:Int).toNat []=l:=hl
 intro m
 induction m with
 | zero =>
  intro n i h1 h2 hI
  obtain ⟨n,rfl⟩:=ex1 ‹_<n›
  show zEM _ _ _ _ _=_
  unfold zEM zIP
  rw [e,zw (df (by omega)),zV (z7 (by omega)),if_pos (zRR hI (by omega))]
  rfl
 | succ m ih =>
  intro n i h1 h2 hI
  obtain ⟨n,rfl⟩:=ex1 ‹_<n›
  have hi:i<l.length:=by omega
  have hx:=zRf hi
  show zEM _ _ _ _ _=_
  unfold zEM
  rw [e,zAE (dt (by omega)),zV (zAF hi),zK0 hr (by omega),zBR]
  generalize at_ l (i:Int)=x at *
  cases hin:inside z x k with
  | false =>
   rw [Bool.not_false,zAE rfl,zP6 hI hx hin]
   rfl
  | true =>
   rw [Bool.not_true,zw rfl]
   by_cases h0:0<i
   ·rw [zV (zMv (z7 (by omega))),zPh h0,zV (zMv (zAF (by omega))),dt (p:=0<(i:Int)) (by omega),Bool.true_and]
    have hy:=zRf (l:=l) (i:=i - 1) (by omega)
    have hg:geP (zLU l i) x=decide (x≤at_ l ((i - 1:Nat):Int)):=zXC h0 (by rw [zPh h0,Int.toNat_natCast]; exact hy)
    by_cases hle:x≤at_ l ((i - 1:Nat):Int)
    ·rw [zAE (dt hle),zOM hI hx hin (by rw [hg,dt hle])]
     rfl
    ·rw [zw (df hle),zV (z7 (by omega))]
     exact ih n (i+1) (by omega) (by omega) (zL5 hI hx hin (by rw [hg,df hle]))
   ·rw [df (p:=0<(i:Int)) (by omega)]
    refine (zV (by rfl)).trans ((zV (by rfl)).trans ((zw (by rfl)).trans ?_))
    rw [zV (z7 (by omega))]
    exact ih n (i+1) (by omega) (by omega) (zL5 hI hx hin (zW4 h0))
theorem cl5 (hz:Zk z) (hr:ranges z=true):∀ (m n k:Nat),k+m=5→m<n→zFE z 0 z.free=zFE z k (z.free.drop k) →
  zCl z n (k:Int)=if zFE z 0 z.free=0 then zGl z else some (zFE z 0 z.free):=by
 intro m
 induction m with
 | zero =>
  intro n k h1 h2 hR
  obtain ⟨n,rfl⟩:=ex1 ‹_<n›
  show zD5 _ _ _=_
  unfold zD5
  rw [zw (df (by omega)),if_pos (zPz hR (by rw [hz.len]; omega))]
 | succ m ih =>
  intro n k h1 h2 hR
  obtain ⟨n,rfl⟩:=ex1 ‹_<n›
  show zD5 _ _ _=_
  unfold zD5
  have hb:=hz.bd k
  have hg:=hz.get (k:=k) (by omega)
  rw [zAE (dt (by omega)),zV (zAF (by omega)),z0i,cl6 hz hr (by omega) rfl (lst z k).length zAD 0 (by omega) (by unfold zAD; omega) rfl]
  by_cases h0:zKq z k none (lst z k)=0
  ·rw [if_pos h0]
   exact ih n (k+1) (by omega) (by omega) (zOh hR hg h0)
  ·rw [if_neg h0]
   have hc:zFE z 0 z.free=zKq z k none (lst z k):=by
    obtain ⟨a1,a2⟩:=List.getElem?_eq_some_iff.1 hg
    rw [hR,List.drop_eq_getElem_cons a1,a2]
    unfold zFE
    rw [if_neg h0]
   rw [if_neg (by rw [hc]; exact h0),hc]
theorem zXQ {l:List Bool} {n i:Nat} (hl:l.length=n) (hi:i<n) (x:Bool):zEc n false l i x=l.set i x:=by
 unfold zEc
 apply List.ext_getElem?
 intro j
 rw [List.getElem?_map,List.getElem?_set]
 by_cases hj:j<n
 ·rw [List.getElem?_range hj]
  by_cases hij:i=j
  ·subst hij
   rw [if_pos rfl,if_pos (by omega)]
   simp
  ·rw [if_neg hij,List.getElem?_eq_getElem (by omega)]
   simp [show ¬ j=i from fun e=>hij e.symm,List.getElem?_eq_getElem (show j<l.length by omega)]
 ·rw [List.getElem?_eq_none (by simp; omega)]
  by_cases hij:i=j
  ·omega
  ·rw [if_neg hij,List.getElem?_eq_none (by omega)]
   rfl
theorem zNy:∀ {m f:Nat} {d d':List Bool},zMz d f m=some d'→d'.length=d.length
 | 0,_,_,_,h=>by unfold zMz at h; cases h; rfl
 | m+1,f,d,d',h=>by
  unfold zMz at h
  split at h
  ·cases h
  ·rw [zNy h,List.length_set]
theorem cl4 {se:Int→List Bool→Option Int} {i:Nat} {x:Int} (hk:k<5) (hx:at_ (lst z k) (i:Int)=x) (h0:0≤x) (h1:x+2 ^ k≤256) (hi:i<1000000):∀ (m n f:Nat) (d:List Bool),(f:Int)+m=x+2 ^ k→m<n→d.length=256 →
  zGW se z (k:Int) (i:Int) n (f:Int) d=match zMz d f m with | none=>some 7 | some d'=>se ((i+1:Nat):Int) d':=by
 obtain ⟨e,p1,p2⟩:=zJw (k:=k) (by omega)
 have ex:at_ (z.free.getD (k:Int).toNat []) (i:Int)=x:=hx
 intro m
 induction m with
 | zero =>
  intro n f d h2 h3 h4
  obtain ⟨n,rfl⟩:=ex1 ‹_<n›
  show zEG _ _ _ _ _ _ _=_
  unfold zEG zH8
  rw [e,ex,zV (zNQ (by omega)),zV (z7 (by omega)),zV (z7 (by omega)),zw (df (by omega)),zV (z7 (by omega))]
  rfl
 | succ m ih =>
  intro n f d h2 h3 h4
  obtain ⟨n,rfl⟩:=ex1 ‹_<n›
  show zEG _ _ _ _ _ _ _=_
  unfold zEG
  rw [e,ex,zV (zNQ (by omega)),zV (z7 (by omega)),zV (z7 (by omega)),zAE (dt (by omega)),zV (zAF (by omega))]
  have ed:d.getD (f:Int).toNat false=d.getD f false:=rfl
  unfold zMz
  cases hd:d.getD f false with
  | true=>rw [ed,hd,zAE rfl,if_pos rfl]
  | false =>
   rw [ed,hd,zw rfl,if_neg (by simp),zV (z7 (by omega)),zXQ h4 (by omega)]
   exact ih n (f+1) (d.set f true) (by omega) (by omega) (by rw [List.length_set]; exact h4)
theorem cl3 {se:Int→List Bool→Option Int} (hz:Zk z) (hr:ranges z=true) (hk:k<5) (hl:lst z k=l) (hin:∀ f,f∈l→inside z f k=true):∀ (m n i:Nat) (d:List Bool),i+m=l.length→m<n→d.length=256 →
  zB4 se z (k:Int) n (i:Int) d=match zMm k d (l.drop i) with | none=>some 7 | some d'=>se ((k+1:Nat):Int) d':=by
 have hb:l.length≤1000000:=by rw [← hl]; exact hz.bd k
 have e:z.free.getD (k:Int).toNat []=l:=hl
 obtain ⟨e2,p1,p2⟩:=zJw (k:=k) (by omega)
 have pn:=zMb (k:=k) (by omega)
 intro m
 induction m with
 | zero =>
  intro n i d h1 h2 h3
  obtain ⟨n,rfl⟩:=ex1 ‹_<n›
  show zES _ _ _ _ _ _=_
  unfold zES zIO
  rw [e,zw (df (by omega)),zV (z7 (by omega)),List.drop_eq_nil_of_le (by omega)]
  rfl
 | succ m ih =>
  intro n i d h1 h2 h3
  obtain ⟨n,rfl⟩:=ex1 ‹_<n›
  have hi:i<l.length:=by omega
  show zES _ _ _ _ _ _=_
  unfold zES
  have hbd:=zAY hr (hin _ (List.getElem_mem hi))
  have ha:at_ (lst z k) (i:Int)=l[i]:=by rw [hl]; exact zHD hi
  obtain ⟨f,hf⟩:=Int.eq_ofNat_of_zero_le hbd.1
  rw [e,zAE (dt (by omega)),zV (zAF hi),zHD hi,List.drop_eq_getElem_cons hi]
  have hc:=cl4 (se:=zB4 se z (k:Int) n) hk ha hbd.1 hbd.2.1 (by omega) (2 ^ k) zAD f d (by omega) (by unfold zAD; omega) h3
  unfold zMm
  rw [hf,hc,show ((f:Int)).toNat=f from rfl]
  cases hm:zMz d f (2 ^ k) with
  | none=>rfl
  | some d'=>exact ih n (i+1) d' (by omega) (by omega) (by rw [zNy hm]; exact h3)
theorem zPW:∀ {l:List Int} {k:Nat} {d d':List Bool},zMm k d l=some d'→d'.length=d.length
 | [],_,_,_,h=>by unfold zMm at h; cases h; rfl
 | x::l,k,d,d',h=>by
  unfold zMm at h
  split at h
  ·cases h
  ·rename_i q hq
   rw [zPW h,zNy hq]
theorem cl2 (hz:Zk z) (hr:ranges z=true) (hin:∀ k,k<5 → ∀ f,f∈lst z k→inside z f k=true):∀ (m n k:Nat) (d:List Bool),k+m=5→m<n→d.length=256 →
  zBJ z n (k:Int) d=match zI2 k d (z.free.drop k) with | none=>some 7 | some _=>zEU z:=by
 intro m
 induction m with
 | zero =>
  intro n k d h1 h2 h3
  obtain ⟨n,rfl⟩:=ex1 ‹_<n›
  show zEZ _ _ _ _=_
  unfold zEZ
  rw [zw (df (by omega)),List.drop_eq_nil_of_le (by rw [hz.len]; omega)]
  rfl
 | succ m ih =>
  intro n k d h1 h2 h3
  obtain ⟨n,rfl⟩:=ex1 ‹_<n›
  show zEZ _ _ _ _=_
  unfold zEZ
  have hb:=hz.bd k
  obtain ⟨a1,a2⟩:=List.getElem?_eq_some_iff.1 (hz.get (k:=k) (by omega))
  rw [zAE (dt (by omega)),zV (zAF (by omega)),z0i,cl3 hz hr (by omega) rfl (hin k (by omega)) (lst z k).length zAD 0 d (by omega) (by unfold zAD; omega) h3,List.drop_eq_getElem_cons a1,a2]
  conv=>rhs; unfold zI2
  rw [List.drop_zero]
  cases hm:zMm k d (lst z k) with
  | none=>rfl
  | some d'=>exact ih n (k+1) d' (by omega) (by omega) (by rw [zPW hm]; exact h3)
theorem cl1 {se:Int→Option Int} (hz:Zk z) (hr:ranges z=true) (hk:k<4) (hl:lst z k=l) (hin:∀ f,f∈l→inside z f k=true) (hs:Srt l):∀ (m n i:Nat),i+m=l.length→m<n →
  zGZ se z (k:Int) n (i:Int)=if zQw z k l (l.drop i)=true then some 11 else se ((k+1:Nat):Int):=by
 have hb:l.length≤1000000:=by rw [← hl]; exact hz.bd k
 have e:z.free.getD (k:Int).toNat []=l:=hl
 obtain ⟨e2,p1,p2⟩:=zJw (k:=k) (by omega)
 intro m
 induction m with
 | zero =>
  intro n i h1 h2
  obtain ⟨n,rfl⟩:=ex1 ‹_<n›
  show zET _ _ _ _ _=_
  unfold zET zIF
  rw [e,zw (df (by omega)),zV (z7 (by omega)),List.drop_eq_nil_of_le (by omega)]
  rfl
 | succ m ih =>
  intro n i h1 h2
  obtain ⟨n,rfl⟩:=ex1 ‹_<n›
  have hi:i<l.length:=by omega
  show zET _ _ _ _ _=_
  unfold zET
  have hbd:=zAY hr (hin _ (List.getElem_mem hi))
  rw [e,e2,zAE (dt (by omega)),zV (zAF hi),zV (zNQ (by omega)),zV (z7 (by omega)),zV (zAF (by omega)),zHD hi,List.drop_eq_getElem_cons hi,zUp hbd.1 (by omega) hk,zTG hs hb,zBR,zV (zMv (z7 (by omega)))]
  conv=>rhs; unfold zQw
  show ((cnd (decide (bud l[i] k∈l)) _ _).bind _)=_
  have hie:zCV z (min l[i] (bud l[i] k)) ((k:Int)+1)=some (inside z (min l[i] (bud l[i] k)) (k+1)):=zK0 (k:=k+1) hr (by omega)
  rw [hie,zV (z7 (by omega))]
  cases hm:decide (bud l[i] k∈l) with
  | false =>
   rw [zw rfl,zBR,Bool.false_and,Bool.false_and,if_neg Bool.false_ne_true]
   exact ih n (i+1) (by omega) (by omega)
  | true =>
   rw [zAE rfl,zBR]
   cases hq:inside z (min l[i] (bud l[i] k)) (k+1) with
   | false =>
    rw [Bool.and_false,if_neg Bool.false_ne_true]
    exact ih n (i+1) (by omega) (by omega)
   | true=>rfl
theorem cl0 (hz:Zk z) (hr:ranges z=true) (hin:∀ k,k<5 → ∀ f,f∈lst z k→inside z f k=true) (hs:∀ k,Srt (lst z k)):∀ (m n k:Nat),k+m=4→m<n →
  zCm z n (k:Int)=if zMZ z k ((z.free.take 4).drop k)=true then some 11 else some 0:=by
 intro m
 induction m with
 | zero =>
  intro n k h1 h2
  obtain ⟨n,rfl⟩:=ex1 ‹_<n›
  show zD7 _ _ _=_
  unfold zD7
  rw [zw (df (by omega)),List.drop_eq_nil_of_le (by rw [List.length_take,hz.len]; omega)]
  rfl
 | succ m ih =>
  intro n k h1 h2
  obtain ⟨n,rfl⟩:=ex1 ‹_<n›
  show zD7 _ _ _=_
  unfold zD7
  have hb:=hz.bd k
  obtain ⟨a1,a2⟩:=List.getElem?_eq_some_iff.1 (zMF (hz.get (k:=k) (by omega)) (show k<4 by omega))
  rw [zAE (dt (by omega)),zV (zAF (by omega)),z0i,cl1 hz hr (by omega) rfl (hin k (by omega)) (hs k) (lst z k).length zAD 0 (by omega) (by unfold zAD; omega),List.drop_eq_getElem_cons a1,a2]
  conv=>rhs; unfold zMZ
  rw [List.drop_zero]
  by_cases hq:zQw z k (lst z k) (lst z k)=true
  ·rw [if_pos hq,if_pos hq,if_pos rfl]
  ·rw [if_neg hq,if_neg hq]
   exact ih n (k+1) (by omega) (by omega)
theorem zNC (hz:Zk z) (h:zFE z 0 z.free=0) (k:Nat):(∀ f,f∈lst z k→inside z f k=true)∧Srt (lst z k):=by
 rcases Nat.lt_or_ge k 5 with hk | hk
 ·have:=zTs h k _ (hz.get hk)
  rwa [Nat.zero_add] at this
 ·rw [zMR hz.len hk]
  exact ⟨fun f hf=>absurd hf (by simp),Srt.nil⟩
theorem zP3 (hz:Zk z) (hI:inI z.start=true):zEK z=some (zEr z):=by
 unfold zEK zEr
 rw [zSQ _ hI,zBR]
 cases hr:ranges z with
 | false=>rfl
 | true =>
  rw [Bool.not_true,zw rfl,if_neg (by simp),z0i,cl5 hz hr 5 zAD 0 (by omega) (by unfold zAD; omega) rfl]
  show (if zFE z 0 z.free=0 then _ else _)=some (if zFE z 0 z.free=0 then _ else _)
  by_cases h0:zFE z 0 z.free=0
  ·rw [if_pos h0,if_pos h0]
   have hl:=fun k=>zNC hz h0 k
   unfold zGl
   rw [z0i,cl2 hz hr (fun k _=>(hl k).1) 5 zAD 0 _ (by omega) (by unfold zAD; omega) (by rw [List.length_replicate]),List.drop_zero]
   show (match zI2 0 zE6 z.free with | none=>some 7 | some _=>zEU z)=_
   cases hm:zI2 0 zE6 z.free with
   | none=>rfl
   | some d =>
    rw [if_neg (by simp)]
    show zEU z=_
    unfold zEU
    rw [z0i,cl0 hz hr (fun k _=>(hl k).1) (fun k=>(hl k).2) 4 zAD 0 (by omega) (by unfold zAD; omega),List.drop_zero]
    split <;> rfl
  ·rw [if_neg h0,if_neg h0]
end
end Go.Proofs.YtplkliakhdkpcaaGreat
namespace Go.Proofs.YtplkliakhdkpcaaGreat
open Go Go.RowKit Go.Wk Go.Am
section
variable {z:zj} {k:Nat} {l:List Int}
theorem zL0 {f:Int} (hr:ranges z=true) (hk:k≤4):zCe z f (k:Int)=some (inside z f k):=by
 have hb:=zBM hr
 have hp:=zIl k
 by_cases h:z.start≤f∧f<z.start+z.count
 ·exact zRr hr hk h.1 h.2
 ·have hin:inside z f k=false:=by
   refine Bool.eq_false_iff.2 fun hi=>h ?_
   have:=zAY hr hi
   omega
  rw [hin]
  unfold zCe
  rw [zV (zMv (z7 (by omega)))]
  refine zAE ?_
  rw [df (p:=(k:Int)<0) (by omega),df (p:=4<(k:Int)) (by omega)]
  by_cases h1:f<z.start
  ·rw [dt h1]; rfl
  ·rw [df h1,dt (p:=z.start+z.count≤f) (by omega)]; rfl
theorem rl6 {se:Int→Option Int} (hz:Zk z) (hr:ranges z=true) (hk:k<5) (hl:lst z k=l):∀ (m n i:Nat),i+m=l.length→m<n→zKq z k none l=zKq z k (zLU l i) (l.drop i) →
  zDs se z (k:Int) n (i:Int)=if zKq z k none l=0 then se ((k+1:Nat):Int) else some (zKq z k none l):=by
 have hb:l.length≤1000000:=by rw [← hl]; exact hz.bd k
 have e:z.free.getD (k:Int).toNat []=l:=hl
 intro m
 induction m with
 | zero =>
  intro n i h1 h2 hI
  obtain ⟨n,rfl⟩:=ex1 ‹_<n›
  show zCJ _ _ _ _ _=_
  unfold zCJ zFe
  rw [e,zV (zAF (by omega)),zw (df (by omega)),zV (z7 (by omega)),if_pos (zRR hI (by omega))]
  rfl
 | succ m ih =>
  intro n i h1 h2 hI
  obtain ⟨n,rfl⟩:=ex1 ‹_<n›
  have hi:i<l.length:=by omega
  have hx:=zRf hi
  show zCJ _ _ _ _ _=_
  unfold zCJ
  rw [e,zV (zAF (by omega)),zAE (dt (by omega)),zV (zAF hi),zL0 hr (by omega),zBR]
  generalize at_ l (i:Int)=x at *
  cases hin:inside z x k with
  | false =>
   rw [Bool.not_false,zAE rfl,zP6 hI hx hin]
   rfl
  | true =>
   rw [Bool.not_true,zw rfl]
   by_cases h0:0<i
   ·rw [zV (zMv (z7 (by omega))),zPh h0,zV (zMv (zAF (by omega))),dt (p:=0<(i:Int)) (by omega),Bool.true_and]
    have hy:=zRf (l:=l) (i:=i - 1) (by omega)
    have hg:geP (zLU l i) x=decide (x≤at_ l ((i - 1:Nat):Int)):=zXC h0 (by rw [zPh h0,Int.toNat_natCast]; exact hy)
    by_cases hle:x≤at_ l ((i - 1:Nat):Int)
    ·rw [zAE (dt hle),zOM hI hx hin (by rw [hg,dt hle])]
     rfl
    ·rw [zw (df hle),zV (z7 (by omega))]
     exact ih n (i+1) (by omega) (by omega) (zL5 hI hx hin (by rw [hg,df hle]))
   ·rw [df (p:=0<(i:Int)) (by omega)]
    refine (zV (by rfl)).trans ((zV (by rfl)).trans ((zw (by rfl)).trans ?_))
    rw [zV (z7 (by omega))]
    exact ih n (i+1) (by omega) (by omega) (zL5 hI hx hin (zW4 h0))
theorem rl5 (hz:Zk z) (hr:ranges z=true):∀ (m n k:Nat),k+m=5→m<n→zFE z 0 z.free=zFE z k (z.free.drop k) →
  zBO z n (k:Int)=some (zFE z 0 z.free):=by
 intro m
 induction m with
 | zero =>
  intro n k h1 h2 hR
  obtain ⟨n,rfl⟩:=ex1 ‹_<n›
  show zCN _ _ _=_
  unfold zCN
  rw [zw (df (by omega)),zPz hR (by rw [hz.len]; omega)]
  rfl
 | succ m ih =>
  intro n k h1 h2 hR
  obtain ⟨n,rfl⟩:=ex1 ‹_<n›
  show zCN _ _ _=_
  unfold zCN
  have hb:=hz.bd k
  have hg:=hz.get (k:=k) (by omega)
  rw [zAE (dt (by omega)),z0i,rl6 hz hr (by omega) rfl (lst z k).length zAD 0 (by omega) (by unfold zAD; omega) rfl]
  by_cases h0:zKq z k none (lst z k)=0
  ·rw [if_pos h0]
   exact ih n (k+1) (by omega) (by omega) (zOh hR hg h0)
  ·rw [if_neg h0]
   have hc:zFE z 0 z.free=zKq z k none (lst z k):=by
    obtain ⟨a1,a2⟩:=List.getElem?_eq_some_iff.1 hg
    rw [hR,List.drop_eq_getElem_cons a1,a2]
    unfold zFE
    rw [if_neg h0]
   rw [hc]
def zJ1 (s:List Int) (i:Nat):Nat→List Int
 | 0=>s
 | n+1=>zJ1 (s.set i (s.getD i 0+1)) (i+1) n
def zI0 (k:Nat):List Int→List Int→List Int
 | s,[]=>s
 | s,f::r=>zI0 k (zJ1 s f.toNat (2 ^ k)) r
def zHu:Nat→List Int→List (List Int)→List Int
 | _,s,[]=>s
 | k,s,l::r=>zHu (k+1) (zI0 k s l) r
def zO6 (z:zj):List Int:=zHu 0 (List.replicate 256 0) z.free
theorem zK4:∀ (m i:Nat) (s:List Int),(zJ1 s i m).length=s.length
 | 0,_,_=>rfl
 | m+1,i,s=>by unfold zJ1; rw [zK4,List.length_set]
theorem zJE:∀ (l:List Int) (k:Nat) (s:List Int),(zI0 k s l).length=s.length
 | [],_,_=>rfl
 | x::l,k,s=>by unfold zI0; rw [zJE l,zK4]
theorem zV8 (l:List Int) (i g:Nat) (h:i<l.length) (x:Int):(l.set i x).getD g 0=if g=i then x else l.getD g 0:=by
 simp only [List.getD_eq_getElem?_getD,List.getElem?_set]
 by_cases hg:i=g
 ·rw [if_pos hg,if_pos h,if_pos hg.symm]; rfl
 ·rw [if_neg hg,if_neg (fun e=>hg e.symm)]
theorem zK7:∀ (m i:Nat) (s:List Int) (g:Nat),i+m≤s.length→(zJ1 s i m).getD g 0=if i≤g∧g<i+m then s.getD g 0+1 else s.getD g 0
 | 0,i,s,g,_=>by rw [if_neg (by omega)]; rfl
 | m+1,i,s,g,h=>by
  unfold zJ1
  rw [zK7 m (i+1) _ g (by rw [List.length_set]; omega),zV8 s i g (by omega)]
  by_cases h2:g=i
  ·subst h2
   rw [if_neg (by omega),if_pos rfl,if_pos (by omega)]
  ·rw [if_neg h2]
   by_cases h1:i+1≤g∧g<i+1+m
   ·rw [if_pos h1,if_pos (by omega)]
   ·rw [if_neg h1,if_neg (by omega)]
theorem sl2 {se:Int→List Int→Option (List Int)} {i:Nat} {x:Int} (hk:k<5) (hx:at_ (lst z k) (i:Int)=x) (hil:i<(lst z k).length) (h0:0≤x) (h1:x+2 ^ k≤256) (hi:i<1000000):∀ (m n f:Nat) (s:List Int),(f:Int)+m=x+2 ^ k→m<n→s.length=256→(∀ g,f≤g→0≤s.getD g 0∧s.getD g 0≤1000000000) →
  zIX se z (k:Int) (i:Int) n (f:Int) s=se ((i+1:Nat):Int) (zJ1 s f m):=by
 obtain ⟨e,p1,p2⟩:=zJw (k:=k) (by omega)
 have ex:at_ (z.free.getD (k:Int).toNat []) (i:Int)=x:=hx
 have el:i<(z.free.getD (k:Int).toNat []).length:=hil
 intro m
 induction m with
 | zero =>
  intro n f s h2 h3 h4 h5
  obtain ⟨n,rfl⟩:=ex1 ‹_<n›
  show zF4 _ _ _ _ _ _ _=_
  unfold zF4 zJl
  rw [e,ex,zV (zAF (by omega)),zV (zAF el),zV (dt (zHR (by omega) (by omega))),zV (zNQ (by omega)),zV (z7 (by omega)),zV (z7 (by omega)),zw (df (by omega)),zV (z7 (by omega))]
  rfl
 | succ m ih =>
  intro n f s h2 h3 h4 h5
  obtain ⟨n,rfl⟩:=ex1 ‹_<n›
  show zF4 _ _ _ _ _ _ _=_
  unfold zF4
  have hf:f<s.length:=by omega
  have ea:at_ s (f:Int)=s.getD f 0:=by rw [zHD hf,List.getD_eq_getElem?_getD,List.getElem?_eq_getElem hf]; rfl
  have hb:=h5 f (Nat.le_refl _)
  rw [e,ex,zV (zAF (by omega)),zV (zAF el),zV (dt (zHR (by omega) (by omega))),zV (zNQ (by omega)),zV (z7 (by omega)),zV (z7 (by omega)),zAE (dt (by omega)),zV (zAF hf),ea,zV (z7 (by omega)),zV (z7 (by omega))]
  exact ih n (f+1) (s.set f (s.getD f 0+1)) (by omega) (by omega) (by rw [List.length_set]; exact h4) (fun g hg=>by
   rw [zV8 s f g hf,if_neg (by omega)]
   exact h5 g (by omega))
theorem sl1 {se:Int→List Int→Option (List Int)} (hz:Zk z) (hr:ranges z=true) (hk:k<5) (hl:lst z k=l) (hin:∀ f,f∈l→inside z f k=true):∀ (m n i c:Nat) (s:List Int),i+m=l.length→m<n→s.length=256→(∀ g,0≤s.getD g 0∧s.getD g 0≤c)→c+m≤1000000000 →
  zDG se z (k:Int) n (i:Int) s=se ((k+1:Nat):Int) (zI0 k s (l.drop i)) ∧ ∀ g,0≤(zI0 k s (l.drop i)).getD g 0∧(zI0 k s (l.drop i)).getD g 0≤((c+m:Nat):Int):=by
 have hb:l.length≤1000000:=by rw [← hl]; exact hz.bd k
 have e:z.free.getD (k:Int).toNat []=l:=hl
 obtain ⟨e2,p1,p2⟩:=zJw (k:=k) (by omega)
 have pn:=zMb (k:=k) (by omega)
 intro m
 induction m with
 | zero =>
  intro n i c s h1 h2 h3 h4 h5
  obtain ⟨n,rfl⟩:=ex1 ‹_<n›
  rw [List.drop_eq_nil_of_le (by omega)]
  refine ⟨?_,h4⟩
  show zFn _ _ _ _ _ _=_
  unfold zFn zJj
  rw [e,zV (zAF (by omega)),zw (df (by omega)),zV (z7 (by omega))]
  rfl
 | succ m ih =>
  intro n i c s h1 h2 h3 h4 h5
  obtain ⟨n,rfl⟩:=ex1 ‹_<n›
  have hi:i<l.length:=by omega
  have hbd:=zAY hr (hin _ (List.getElem_mem hi))
  have ha:at_ (lst z k) (i:Int)=l[i]:=by rw [hl]; exact zHD hi
  obtain ⟨f,hf⟩:=Int.eq_ofNat_of_zero_le hbd.1
  rw [List.drop_eq_getElem_cons hi]
  have hbump:zI0 k s (l[i]::l.drop (i+1))=zI0 k (zJ1 s f (2 ^ k)) (l.drop (i+1)):=by
   show zI0 k (zJ1 s l[i].toNat (2 ^ k)) (l.drop (i+1))=_
   rw [hf]
   rfl
  rw [hbump]
  have hg:∀ g,0≤(zJ1 s f (2 ^ k)).getD g 0∧(zJ1 s f (2 ^ k)).getD g 0≤((c+1:Nat):Int):=fun g=>by
   rw [zK7 _ _ _ _ (by omega)]
   have:=h4 g
   split <;> omega
  obtain ⟨r1,r2⟩:=ih n (i+1) (c+1) (zJ1 s f (2 ^ k)) (by omega) (by omega) (by rw [zK4]; exact h3) hg (by omega)
  refine ⟨?_,fun g=>by have:=r2 g; omega⟩
  rw [← r1]
  show zFn _ _ _ _ _ _=_
  unfold zFn
  rw [e,zV (zAF (by omega)),zAE (dt (by omega)),zV (zAF hi),zHD hi]
  have hc:=sl2 (se:=zDG se z (k:Int) n) hk ha (by rw [hl]; exact hi) hbd.1 hbd.2.1 (by omega) (2 ^ k) zAD f s (by omega) (by unfold zAD; omega) h3 (fun g _=>by have:=h4 g; omega)
  rw [← hf] at hc
  exact hc
theorem sl0 (hz:Zk z) (hr:ranges z=true) (hin:∀ k,k<5 → ∀ f,f∈lst z k→inside z f k=true):∀ (m n k c:Nat) (s:List Int),k+m=5→m<n→s.length=256→(∀ g,0≤s.getD g 0∧s.getD g 0≤c)→c+m*1000000≤1000000000 →
  zBi z n (k:Int) s=some (zHu k s (z.free.drop k)):=by
 intro m
 induction m with
 | zero =>
  intro n k c s h1 h2 h3 h4 h5
  obtain ⟨n,rfl⟩:=ex1 ‹_<n›
  show zFm _ _ _ _=_
  unfold zFm
  rw [zw (df (by omega)),List.drop_eq_nil_of_le (by rw [hz.len]; omega)]
  rfl
 | succ m ih =>
  intro n k c s h1 h2 h3 h4 h5
  obtain ⟨n,rfl⟩:=ex1 ‹_<n›
  have hb:=hz.bd k
  obtain ⟨a1,a2⟩:=List.getElem?_eq_some_iff.1 (hz.get (k:=k) (by omega))
  obtain ⟨r1,r2⟩:=sl1 (se:=zBi z n) hz hr (by omega) rfl (hin k (by omega)) (lst z k).length zAD 0 c s (by omega) (by unfold zAD; omega) h3 h4 (by omega)
  rw [List.drop_zero] at r1 r2
  show zFm _ _ _ _=_
  unfold zFm
  rw [zAE (dt (by omega)),z0i,r1,List.drop_eq_getElem_cons a1,a2]
  exact ih n (k+1) (c+(lst z k).length) _ (by omega) (by omega) (by rw [zJE]; exact h3) r2 (by omega)
theorem zQ8 (hz:Zk z) (hr:ranges z=true) (hin:∀ k,k<5 → ∀ f,f∈lst z k→inside z f k=true):zIe z=some (zO6 z):=by
 unfold zIe
 rw [zV (by rfl),z0i]
 exact sl0 hz hr hin 5 zAD 0 0 _ (by omega) (by unfold zAD; omega) (by rw [List.length_replicate]; rfl) (fun g=>by
  rw [List.getD_eq_getElem?_getD,List.getElem?_replicate]
  split <;> simp) (by omega)
end
end Go.Proofs.YtplkliakhdkpcaaGreat
namespace Go.Proofs.YtplkliakhdkpcaaGreat
open Go Go.RowKit Go.Wk Go.Am
theorem zCE {α:Type} (l:List α) (i g:Nat) (h:i<l.length) (x d:α):(l.set i x).getD g d=if g=i then x else l.getD g d:=by
 simp only [List.getD_eq_getElem?_getD,List.getElem?_set]
 by_cases hg:i=g
 ·rw [if_pos hg,if_pos h,if_pos hg.symm]; rfl
 ·rw [if_neg hg,if_neg (fun e=>hg e.symm)]
structure MB (d:List Bool) (s:List Int):Prop where
 dl:d.length=256
 sl:s.length=256
 t:∀ g,d.getD g false=true→s.getD g 0=1
 f:∀ g,d.getD g false=false→s.getD g 0=0
section
variable {z:zj} {k:Nat} {l:List Int}
theorem zND:∀ (m i:Nat) (s:List Int) (g:Nat),s.getD g 0≤(zJ1 s i m).getD g 0
 | 0,_,_,_=>Int.le_refl _
 | m+1,i,s,g=>by
  unfold zJ1
  refine Int.le_trans ?_ (zND m (i+1) _ g)
  rcases Nat.lt_or_ge i s.length with h | h
  ·rw [zV8 s i g h]
   split
   ·rename_i e; rw [e]; omega
   ·omega
  ·rw [List.set_eq_of_length_le h]
   omega
theorem zKZ:∀ (l:List Int) (k:Nat) (s:List Int) (g:Nat),s.getD g 0≤(zI0 k s l).getD g 0
 | [],_,_,_=>Int.le_refl _
 | x::l,k,s,g=>by
  unfold zI0
  exact Int.le_trans (zND _ _ _ _) (zKZ l k _ g)
theorem zNt:∀ (ls:List (List Int)) (k:Nat) (s:List Int) (g:Nat),s.getD g 0≤(zHu k s ls).getD g 0
 | [],_,_,_=>Int.le_refl _
 | l::ls,k,s,g=>by
  unfold zHu
  exact Int.le_trans (zKZ l k s g) (zNt ls (k+1) _ g)
theorem zYS:∀ (m f:Nat) {d:List Bool} {s:List Int},MB d s→f+m≤256→match zMz d f m with | some d'=>MB d' (zJ1 s f m) | none => ∃ g,1<(zJ1 s f m).getD g 0
 | 0,_,_,_,h,_=>h
 | m+1,f,d,s,h,hm=>by
  unfold zMz
  cases hd:d.getD f false with
  | true =>
   rw [if_pos rfl]
   refine ⟨f,?_⟩
   rw [zK7 _ _ _ _ (by rw [h.sl]; exact hm),if_pos (by omega),h.t f hd]
   decide
  | false =>
   rw [if_neg (by simp)]
   unfold zJ1
   have hs:=h.sl
   have hl:=h.dl
   refine zYS m (f+1) ⟨by rw [List.length_set]; exact hl,by rw [List.length_set]; exact hs,fun g hg => ?_,fun g hg => ?_⟩ (by omega)
   ·rw [zV8 s f g (by omega)]
    rw [zCE d f g (by omega)] at hg
    by_cases e:g=f
    ·rw [if_pos e,h.f f hd]; rfl
    ·rw [if_neg e]
     rw [if_neg e] at hg
     exact h.t g hg
   ·rw [zCE d f g (by omega)] at hg
    by_cases e:g=f
    ·rw [if_pos e] at hg; cases hg
    ·rw [if_neg e] at hg
     rw [zV8 s f g (by omega),if_neg e]
     exact h.f g hg
theorem zYW (hr:ranges z=true):∀ (l:List Int) {d:List Bool} {s:List Int},(∀ f,f∈l→inside z f k=true)→k<5→MB d s→match zMm k d l with | some d'=>MB d' (zI0 k s l) | none => ∃ g,1<(zI0 k s l).getD g 0
 | [],_,_,_,_,h=>h
 | x::l,d,s,hin,hk,h=>by
  have hbd:=zAY hr (hin x (by simp))
  have pn:=zMb (k:=k) (by omega)
  have hn:=zYS (2 ^ k) x.toNat h (by omega)
  unfold zMm zI0
  cases hm:zMz d x.toNat (2 ^ k) with
  | none =>
   rw [hm] at hn
   obtain ⟨g,hg⟩:=hn
   exact ⟨g,by have:=zKZ l k (zJ1 s x.toNat (2 ^ k)) g; omega⟩
  | some d' =>
   rw [hm] at hn
   exact zYW hr l (fun f hf=>hin f (by simp [hf])) hk hn
theorem zXT (hr:ranges z=true):∀ (ls:List (List Int)) (k:Nat) {d:List Bool} {s:List Int},k+ls.length=5→(∀ j l,ls[j]?=some l → ∀ f,f∈l→inside z f (k+j)=true)→MB d s→match zI2 k d ls with | some d'=>MB d' (zHu k s ls) | none => ∃ g,1<(zHu k s ls).getD g 0
 | [],_,_,_,_,_,h=>h
 | l::ls,k,d,s,hk,hin,h=>by
  have hk':k+(ls.length+1)=5:=hk
  have hn:=zYW hr l (d:=d) (s:=s) (fun f hf=>by have:=hin 0 l rfl f hf; rwa [Nat.add_zero] at this) (by omega) h
  unfold zI2 zHu
  cases hm:zMm k d l with
  | none =>
   rw [hm] at hn
   obtain ⟨g,hg⟩:=hn
   exact ⟨g,by have:=zNt ls (k+1) (zI0 k s l) g; omega⟩
  | some d' =>
   rw [hm] at hn
   exact zXT hr ls (k+1) (by omega) (fun j l' hj f hf=>by
    have:=hin (j+1) l' hj f hf
    rwa [show k+(j+1)=k+1+j by omega] at this) hn
theorem mb0:MB zE6 (List.replicate 256 0):=⟨zJV,by rw [List.length_replicate],fun g hg=>by
  unfold zE6 at hg
  rw [List.getD_eq_getElem?_getD,List.getElem?_replicate] at hg
  split at hg <;> simp at hg,fun g _=>by
  rw [List.getD_eq_getElem?_getD,List.getElem?_replicate]
  split <;> rfl⟩
theorem zYY (hz:Zk z) (hr:ranges z=true) (hin:∀ k,k<5 → ∀ f,f∈lst z k→inside z f k=true):match zI2 0 zE6 z.free with | some d=>MB d (zO6 z) | none => ∃ g,1<(zO6 z).getD g 0 :=
 zXT hr z.free 0 (by rw [hz.len]) (fun j l hj f hf=>by
  have hj5:j<5:=by rw [← hz.len]; exact (List.getElem?_eq_some_iff.1 hj).1
  rw [hz.get hj5] at hj
  cases hj
  rw [Nat.zero_add]
  exact hin j hj5 f hf) mb0
theorem zOk:∀ (ls:List (List Int)) (k:Nat) (s:List Int),(zHu k s ls).length=s.length
 | [],_,_=>rfl
 | l::ls,k,s=>by unfold zHu; rw [zOk ls,zJE]
theorem zPB:(zO6 z).length=256:=by unfold zO6; rw [zOk,List.length_replicate]
theorem rc2 {x:List Int} (hx:x.length=256):∀ (m n i:Nat),i+m=256→m<n→(∀ g,g<i → ¬ 1<x.getD g 0) →
  ((∃ g,1<x.getD g 0)→zB5 z x n (i:Int)=some 7)∧((∀ g,¬ 1<x.getD g 0)→zB5 z x n (i:Int)=zFN z):=by
 intro m
 induction m with
 | zero =>
  intro n i h1 h2 h3
  obtain ⟨n,rfl⟩:=ex1 ‹_<n›
  have e:zB5 z x (n+1) (i:Int)=zFN z:=by
   show zER _ _ _ _=_
   unfold zER
   rw [zw (df (by omega))]
  refine ⟨fun ⟨g,hg⟩ => ?_,fun _=>e⟩
  rcases Nat.lt_or_ge g i with h | h
  ·exact absurd hg (h3 g h)
  ·rw [List.getD_eq_getElem?_getD,List.getElem?_eq_none (by omega)] at hg
   exact absurd hg (by decide)
 | succ m ih =>
  intro n i h1 h2 h3
  obtain ⟨n,rfl⟩:=ex1 ‹_<n›
  have hi:i<x.length:=by omega
  have ea:at_ x (i:Int)=x.getD i 0:=by rw [zHD hi,List.getD_eq_getElem?_getD,List.getElem?_eq_getElem hi]; rfl
  have e:zB5 z x (n+1) (i:Int)=cnd (decide (1<x.getD i 0)) (some 7) (zB5 z x n ((i+1:Nat):Int)):=by
   show zER _ _ _ _=_
   unfold zER
   rw [zAE (dt (by omega)),zV (zAF hi),ea,zV (z7 (by omega))]
   rfl
  rw [e]
  by_cases h7:1<x.getD i 0
  ·rw [zAE (dt h7)]
   exact ⟨fun _=>rfl,fun h=>absurd h7 (h i)⟩
  ·rw [zw (df h7)]
   exact ih n (i+1) (by omega) (by omega) (fun g hg=>by
    by_cases e:g=i
    ·rw [e]; exact h7
    ·exact h3 g (by omega))
def Adj (z:zj) (k:Nat) (l:List Int) (i:Nat):Prop:=0<i∧i<l.length∧at_ l (i:Int)=at_ l ((i - 1:Nat):Int)+2 ^ k∧inside z (at_ l ((i - 1:Nat):Int)) (k+1)=true
theorem zVH (hr:ranges z=true) (hk:k<4) (hin:∀ f,f∈l→inside z f k=true) (hs:Srt l):(∃ i,Adj z k l i)↔zQw z k l l=true:=by
 have hp:=zIl k
 have hps:=zLl k
 have key:∀ r,zQw z k l r=true ↔ ∃ f,f∈r∧bud f k∈l∧inside z (min f (bud f k)) (k+1)=true:=by
  intro r
  induction r with
  | nil=>unfold zQw; simp
  | cons f r ih =>
   unfold zQw
   by_cases h:(decide (bud f k∈l)&&inside z (min f (bud f k)) (k+1))=true
   ·rw [if_pos h]
    simp only [Bool.and_eq_true,decide_eq_true_eq] at h
    exact ⟨fun _=>⟨f,by simp,h.1,h.2⟩,fun _=>rfl⟩
   ·rw [if_neg h,ih]
    simp only [Bool.and_eq_true,decide_eq_true_eq] at h
    constructor
    ·rintro ⟨g,h1,h2⟩; exact ⟨g,by simp [h1],h2⟩
    ·rintro ⟨g,h1,h2,h3⟩
     rcases List.mem_cons.1 h1 with rfl | h1
     ·exact absurd ⟨h2,h3⟩ h
     ·exact ⟨g,h1,h2,h3⟩
 rw [key]
 constructor
 ·rintro ⟨i,h0,hi,he,hq⟩
  have hi':i - 1<l.length:=by omega
  rw [zHD hi,zHD hi'] at he
  rw [zHD hi'] at hq
  have hb:=zAY hr (hin _ (List.getElem_mem hi'))
  have ha:=(zBT hr).1 (hin _ (List.getElem_mem hi'))
  have ha2:=(zBT hr).1 hq
  have hbu:bud l[i - 1] k=l[i - 1]+2 ^ k:=by
   rcases zNn hk hb.1 (by omega) ha.2.1 with ⟨_,e⟩ | ⟨e,_⟩
   ·exact e
   ·rw [ha2.2.1] at e; omega
  refine ⟨l[i - 1],List.getElem_mem hi',?_,?_⟩
  ·rw [hbu, ← he]; exact List.getElem_mem hi
  ·rw [hbu,Int.min_eq_left (by omega)]; exact hq
 ·rintro ⟨f,h1,h2,h3⟩
  have main:∀ x,x∈l→x+2 ^ k∈l→inside z x (k+1)=true → ∃ i,Adj z k l i:=by
   intro x hx hy hq
   obtain ⟨p,hp1,rfl⟩:=List.getElem_of_mem hx
   obtain ⟨q,hq1,hq2⟩:=List.getElem_of_mem hy
   have hpq:p<q:=by
    rcases Nat.lt_trichotomy p q with h | h | h
    ·exact h
    ·subst h; omega
    ·have:=zKY hs (List.getElem?_eq_getElem hq1) (List.getElem?_eq_getElem hp1) h
     omega
   have hn:p+1<l.length:=by omega
   have hlt:=zKY hs (List.getElem?_eq_getElem hp1) (List.getElem?_eq_getElem hn) (by omega)
   have hle:l[p+1]≤l[q]:=by
    by_cases e:p+1=q
    ·subst e; omega
    ·have:=zKY hs (List.getElem?_eq_getElem hn) (List.getElem?_eq_getElem hq1) (by omega)
     omega
   have a1:=((zBT hr).1 (hin _ (List.getElem_mem hp1))).2.1
   have a2:=((zBT hr).1 (hin _ (List.getElem_mem hn))).2.1
   have he:l[p+1]=l[p]+2 ^ k:=by
    have hk':k=0∨k=1∨k=2∨k=3:=by omega
    rcases hk' with rfl | rfl | rfl | rfl <;> simp only [pw0,pw1,pw2,pw3] at * <;> omega
   refine ⟨p+1,by omega,hn,?_,?_⟩
   ·rw [zHD hn,show p+1 - 1=p by omega,zHD hp1]; exact he
   ·rw [show p+1 - 1=p by omega,zHD hp1]; exact hq
  have hb:=zAY hr (hin f h1)
  have ha:=(zBT hr).1 (hin f h1)
  rcases zNn hk hb.1 (by omega) ha.2.1 with ⟨_,e⟩ | ⟨_,e⟩
  ·rw [e] at h2 h3
   rw [Int.min_eq_left (by omega)] at h3
   exact main f h1 h2 h3
  ·rw [e] at h2 h3
   rw [Int.min_eq_right (by omega)] at h3
   exact main (f - 2 ^ k) h2 (by rw [show f - 2 ^ k+2 ^ k=f by omega]; exact h1) h3
theorem rc1 {se:Int→Option Int} (hz:Zk z) (hr:ranges z=true) (hk:k<4) (hl:lst z k=l) (hin:∀ f,f∈l→inside z f k=true):∀ (m n i:Nat),l.length≤i+m→i≤1000001→m<n→0<i→(∀ j,j<i → ¬ Adj z k l j) →
  ((∃ j,Adj z k l j)→zB2 se z (k:Int) n (i:Int)=some 11)∧((∀ j,¬ Adj z k l j)→zB2 se z (k:Int) n (i:Int)=se ((k+1:Nat):Int)):=by
 have hb:l.length≤1000000:=by rw [← hl]; exact hz.bd k
 have e:z.free.getD (k:Int).toNat []=l:=hl
 obtain ⟨e2,p1,p2⟩:=zJw (k:=k) (by omega)
 have hend:∀ n i:Nat,l.length≤i→(∀ j,j<i → ¬ Adj z k l j)→((∃ j,Adj z k l j)→zB2 se z (k:Int) (n+1) (i:Int)=some 11)∧((∀ j,¬ Adj z k l j)→zB2 se z (k:Int) (n+1) (i:Int)=se ((k+1:Nat):Int)):=by
  intro n i h1 h4
  refine ⟨fun ⟨j,hj⟩=>absurd hj (h4 j (by have:=hj.2.1; omega)),fun _ => ?_⟩
  show zD4 _ _ _ _ _=_
  unfold zD4 zID
  rw [e,zV (zAF (by omega)),zw (df (by omega)),zV (z7 (by omega))]
  rfl
 intro m
 induction m with
 | zero =>
  intro n i h1 hi6 h2 h3 h4
  obtain ⟨n,rfl⟩:=ex1 ‹_<n›
  exact hend n i (by omega) h4
 | succ m ih =>
  intro n i h1 hi6 h2 h3 h4
  obtain ⟨n,rfl⟩:=ex1 ‹_<n›
  by_cases hi:i<l.length
  ·have hbd:=zAY hr (hin _ (List.getElem_mem (show i - 1<l.length by omega)))
   have hat:=zHD (l:=l) (i:=i - 1) (by omega)
   have ee:zB2 se z (k:Int) (n+1) (i:Int)=cnd (decide (at_ l (i:Int)=at_ l ((i - 1:Nat):Int)+2 ^ k)&&inside z (at_ l ((i - 1:Nat):Int)) (k+1)) (some 11) (zB2 se z (k:Int) n ((i+1:Nat):Int)):=by
    show zD4 _ _ _ _ _=_
    unfold zD4
    have hbl:zCe z (at_ l ((i - 1:Nat):Int)) ((k:Int)+1)=some (inside z (at_ l ((i - 1:Nat):Int)) (k+1)):=zL0 (k:=k+1) hr (by omega)
    rw [e,e2,zV (zAF (by omega)),zAE (dt (by omega)),zV (zAF hi),zV (z7 (by omega)),zPh h3,zV (zAF (by omega)),zV (dt (zHR (by omega) (by omega))),zV (zNQ (by omega)),zV (z7 (by omega)),zV (z7 (by rw [hat]; omega)),zV (zMv (z7 (by omega))),hbl,zV (z7 (by omega))]
    cases decide (at_ l (i:Int)=at_ l ((i - 1:Nat):Int)+2 ^ k) with
    | true=>rfl
    | false=>rfl
   rw [ee]
   by_cases ha:Adj z k l i
   ·rw [dt ha.2.2.1,ha.2.2.2]
    exact ⟨fun _=>rfl,fun h=>absurd ha (h i)⟩
   ·have hf:(decide (at_ l (i:Int)=at_ l ((i - 1:Nat):Int)+2 ^ k)&&inside z (at_ l ((i - 1:Nat):Int)) (k+1))=false:=by
     refine Bool.eq_false_iff.2 fun h=>ha ?_
     simp only [Bool.and_eq_true,decide_eq_true_eq] at h
     exact ⟨h3,hi,h.1,h.2⟩
    rw [zw hf]
    exact ih n (i+1) (by omega) (by omega) (by omega) (by omega) (fun j hj=>by
     by_cases e:j=i
     ·rw [e]; exact ha
     ·exact h4 j (by omega))
  ·exact hend n i (by omega) h4
theorem rc0 (hz:Zk z) (hr:ranges z=true) (hin:∀ k,k<5 → ∀ f,f∈lst z k→inside z f k=true) (hs:∀ k,Srt (lst z k)):∀ (m n k:Nat),k+m=4→m<n →
  zB3 z n (k:Int)=if zMZ z k ((z.free.take 4).drop k)=true then some 11 else some 0:=by
 intro m
 induction m with
 | zero =>
  intro n k h1 h2
  obtain ⟨n,rfl⟩:=ex1 ‹_<n›
  show zEF _ _ _=_
  unfold zEF
  rw [zw (df (by omega)),List.drop_eq_nil_of_le (by rw [List.length_take,hz.len]; omega)]
  rfl
 | succ m ih =>
  intro n k h1 h2
  obtain ⟨n,rfl⟩:=ex1 ‹_<n›
  show zEF _ _ _=_
  unfold zEF
  have hb:=hz.bd k
  obtain ⟨a1,a2⟩:=List.getElem?_eq_some_iff.1 (zMF (hz.get (k:=k) (by omega)) (show k<4 by omega))
  have hc:=rc1 (se:=zB3 z n) hz hr (k:=k) (by omega) rfl (hin k (by omega)) (lst z k).length zAD 1 (by omega) (by omega) (by unfold zAD; omega) (by omega) (fun j hj h=>by have:=h.1; omega)
  rw [zAE (dt (by omega)),List.drop_eq_getElem_cons a1,a2]
  conv=>rhs; unfold zMZ
  have hab:=zVH (l:=lst z k) hr (by omega) (hin k (by omega)) (hs k)
  by_cases hq:zQw z k (lst z k) (lst z k)=true
  ·rw [if_pos hq,if_pos rfl]
   exact hc.1 (hab.2 hq)
  ·rw [if_neg hq]
   refine (hc.2 (fun j hj=>hq (hab.1 ⟨j,hj⟩))).trans ?_
   exact ih n (k+1) (by omega) (by omega)
theorem zRZ (hz:Zk z):zGF z=some (zEr z):=by
 unfold zGF zEr
 rw [zR2,zBR]
 cases hr:ranges z with
 | false=>rfl
 | true =>
  rw [Bool.not_true,zw rfl,if_neg (by simp)]
  unfold zHk
  rw [z0i,rl5 hz hr 5 zAD 0 (by omega) (by unfold zAD; omega) rfl,zBR]
  show cnd (!decide (zFE z 0 z.free=0)) _ _=some (if zFE z 0 z.free=0 then _ else _)
  by_cases h0:zFE z 0 z.free=0
  ·rw [dt h0,if_pos h0,Bool.not_true,zw rfl]
   have hl:=fun k=>zNC hz h0 k
   rw [zQ8 hz hr (fun k _=>(hl k).1),zBR]
   have hm:=zYY hz hr (fun k _=>(hl k).1)
   have hc:=rc2 (z:=z) (zPB (z:=z)) 256 zAD 0 (by omega) (by unfold zAD; omega) (fun g hg=>by omega)
   show zB5 z (zO6 z) zAD ((0:Nat):Int)=_
   cases hd:zI2 0 zE6 z.free with
   | none =>
    rw [hd] at hm
    rw [hc.1 hm]
    rfl
   | some d =>
    rw [hd] at hm
    rw [hc.2 (fun g hg=>by
     cases hb:d.getD g false with
     | true=>have:=hm.t g hb; omega
     | false=>have:=hm.f g hb; omega),if_neg (by simp)]
    unfold zFN
    rw [z0i,rc0 hz hr (fun k _=>(hl k).1) (fun k=>(hl k).2) 4 zAD 0 (by omega) (by unfold zAD; omega),List.drop_zero]
    split <;> rfl
  ·rw [df h0,if_neg h0]
   rfl
end
end Go.Proofs.YtplkliakhdkpcaaGreat
namespace Go.Proofs.YtplkliakhdkpcaaGreat
open Go Go.RowKit Go.Wk Go.Am
def zLX (z:zj) (f:Int):Bool:=decide (zEr z=0)&&inside z f 0&&decide (0<(zO6 z).getD f.toNat 0)
theorem zUA:∀ k:Fin 5, ∀ x:Fin 256,zKO .andNot .i64 (x.val:Int) (2 ^ k.val - 1)=((x.val/2 ^ k.val*2 ^ k.val:Nat):Int):=by decide +kernel
section
variable {z:zj} {k:Nat} {l:List Int}
theorem zGw (hz:Zk z) (h:zEr z=0):ranges z=true∧(∀ k,k<5 → ∀ f,f∈lst z k→inside z f k=true)∧(∀ k,Srt (lst z k)):=by
 have hr:=zDF h
 have hc:zFE z 0 z.free=0:=by
  unfold zEr at h
  rw [if_neg (by rw [hr]; simp)] at h
  by_cases h0:zFE z 0 z.free=0
  ·exact h0
  ·rw [if_neg h0] at h; exact h
 exact ⟨hr,fun k _=>(zNC hz hc k).1,fun k=>(zNC hz hc k).2⟩
theorem zRI (hz:Zk z) (h:zEr z=0) {f:Nat} (hf:f<256):∀ (m n k:Nat),k+m=5→m<n → ∃ r,zEI z (f:Int) n (k:Int)=some r∧(0≤r.1 ↔ ∃ j,k≤j∧j<5∧((f/2 ^ j*2 ^ j:Nat):Int)∈lst z j):=by
 obtain ⟨hr,hin,hs⟩:=zGw hz h
 intro m
 induction m with
 | zero =>
  intro n k h1 h2
  obtain ⟨n,rfl⟩:=ex1 ‹_<n›
  refine ⟨(-1,0),?_,⟨fun hh=>absurd hh (by decide),fun ⟨j,a,b,_⟩=>by omega⟩⟩
  show zDx _ _ _ _=_
  unfold zDx
  rw [zw (df (by omega))]
  rfl
 | succ m ih =>
  intro n k h1 h2
  obtain ⟨n,rfl⟩:=ex1 ‹_<n›
  obtain ⟨e2,p1,p2⟩:=zJw (k:=k) (by omega)
  have e:z.free.getD (k:Int).toNat []=lst z k:=rfl
  have ha:=zUA ⟨k,by omega⟩ ⟨f,hf⟩
  simp only at ha
  have ee:zEI z (f:Int) (n+1) (k:Int)=cnd (decide (((f/2 ^ k*2 ^ k:Nat):Int)∈lst z k)) (some ((k:Int),((f/2 ^ k*2 ^ k:Nat):Int))) (zEI z (f:Int) n ((k+1:Nat):Int)):=by
   show zDx _ _ _ _=_
   unfold zDx
   rw [zAE (dt (by omega)),zV (zNQ (by omega)),e2,zV (z7 (by omega)),zV (z7 (by omega)),zV (zAF (by omega)),e,ha,zTG (hs k) (hz.bd k),zBR,zV (z7 (by omega))]
   rfl
  rw [ee]
  by_cases hm:((f/2 ^ k*2 ^ k:Nat):Int)∈lst z k
  ·rw [zAE (dt hm)]
   exact ⟨_,rfl,⟨fun _=>⟨k,Nat.le_refl _,by omega,hm⟩,fun _=>Int.natCast_nonneg k⟩⟩
  ·rw [zw (df hm)]
   obtain ⟨r,r1,r2⟩:=ih n (k+1) (by omega) (by omega)
   refine ⟨r,r1,r2.trans ⟨fun ⟨j,a,b,c⟩=>⟨j,by omega,b,c⟩,fun ⟨j,a,b,c⟩=>⟨j,?_,b,c⟩⟩⟩
   by_cases hjk:j=k
   ·subst hjk; exact absurd c hm
   ·omega
theorem zS1 {s:List Int} {i m g:Nat} (h:i+m≤s.length) (hg:0≤s.getD g 0):0<(zJ1 s i m).getD g 0↔0<s.getD g 0∨(i≤g∧g<i+m):=by
 rw [zK7 _ _ _ _ h]
 split
 ·rename_i hq
  exact ⟨fun _ => .inr hq,fun _=>by omega⟩
 ·rename_i hq
  exact ⟨.inl,fun h=>h.resolve_right hq⟩
theorem zQE (hr:ranges z=true) (hk:k<5) {g:Nat}:∀ (l:List Int) {s:List Int},s.length=256→(∀ f,f∈l→inside z f k=true)→0≤s.getD g 0→(0<(zI0 k s l).getD g 0↔0<s.getD g 0 ∨ ∃ x,x∈l∧x≤(g:Int)∧(g:Int)<x+2 ^ k)
 | [],s,_,_,_=>by unfold zI0; simp
 | x::l,s,hs,hin,h0=>by
  have hbd:=zAY hr (hin x (by simp))
  have pn:=zMb (k:=k) (by omega)
  have hle:=zND (2 ^ k) x.toNat s g
  unfold zI0
  rw [zQE hr hk l (by rw [zK4]; exact hs) (fun f hf=>hin f (by simp [hf])) (by omega),zS1 (by rw [hs]; omega) h0]
  constructor
  ·rintro ((h | h) | ⟨y,h1,h2⟩)
   ·exact .inl h
   ·exact .inr ⟨x,by simp,by omega,by omega⟩
   ·exact .inr ⟨y,by simp [h1],h2⟩
  ·rintro (h | ⟨y,h1,h2,h3⟩)
   ·exact .inl (.inl h)
   ·rcases List.mem_cons.1 h1 with rfl | h1
    ·exact .inl (.inr (by omega))
    ·exact .inr ⟨y,h1,h2,h3⟩
theorem zOP (hr:ranges z=true) {g:Nat}:∀ (ls:List (List Int)) (k:Nat) {s:List Int},k+ls.length=5→s.length=256→(∀ j l,ls[j]?=some l → ∀ f,f∈l→inside z f (k+j)=true)→0≤s.getD g 0 →
  (0<(zHu k s ls).getD g 0↔0<s.getD g 0 ∨ ∃ j l x,ls[j]?=some l∧x∈l∧x≤(g:Int)∧(g:Int)<x+2 ^ (k+j))
 | [],k,s,_,_,_,_=>by unfold zHu; simp
 | l::ls,k,s,hk,hs,hin,h0=>by
  have hk':k+(ls.length+1)=5:=hk
  have hle:=zKZ l k s g
  unfold zHu
  rw [zOP hr ls (k+1) (by omega) (by rw [zJE]; exact hs) (fun j l' hj f hf=>by
    have:=hin (j+1) l' hj f hf
    rwa [show k+(j+1)=k+1+j by omega] at this) (by omega),zQE hr (by omega) l hs (fun f hf=>by have:=hin 0 l rfl f hf; rwa [Nat.add_zero] at this) h0]
  constructor
  ·rintro ((h | ⟨x,h1,h2,h3⟩) | ⟨j,l',x,h1,h2,h3,h4⟩)
   ·exact .inl h
   ·exact .inr ⟨0,l,x,rfl,h1,h2,h3⟩
   ·exact .inr ⟨j+1,l',x,h1,h2,h3,by rw [show k+(j+1)=k+1+j by omega]; exact h4⟩
  ·rintro (h | ⟨j,l',x,h1,h2,h3,h4⟩)
   ·exact .inl (.inl h)
   ·cases j with
    | zero =>
     simp at h1
     subst h1
     exact .inl (.inr ⟨x,h2,h3,h4⟩)
    | succ j=>exact .inr ⟨j,l',x,by simpa using h1,h2,h3,by rw [show k+1+j=k+(j+1) by omega]; exact h4⟩
theorem zLk (hz:Zk z) (hr:ranges z=true) (hin:∀ k,k<5 → ∀ f,f∈lst z k→inside z f k=true) (g:Nat):0<(zO6 z).getD g 0↔cov z g:=by
 unfold zO6
 have h0:(List.replicate 256 (0:Int)).getD g 0=0:=by
  rw [List.getD_eq_getElem?_getD,List.getElem?_replicate]
  split <;> rfl
 rw [zOP hr z.free 0 (by rw [hz.len]) (by rw [List.length_replicate]) (fun j l hj f hf=>by
  have hj5:j<5:=by rw [← hz.len]; exact (List.getElem?_eq_some_iff.1 hj).1
  rw [hz.get hj5] at hj
  cases hj
  rw [Nat.zero_add]
  exact hin j hj5 f hf) (by rw [h0]; decide),h0]
 constructor
 ·rintro (h | ⟨j,l,x,h1,h2,h3,h4⟩)
  ·exact absurd h (by decide)
  ·have hj5:j<5:=by rw [← hz.len]; exact (List.getElem?_eq_some_iff.1 h1).1
   rw [hz.get hj5] at h1
   cases h1
   rw [Nat.zero_add] at h4
   exact ⟨j,x,h2,h3,h4⟩
 ·rintro ⟨j,x,h2,h3,h4⟩
  rcases Nat.lt_or_ge j 5 with hj | hj
  ·exact .inr ⟨j,lst z j,x,hz.get hj,h2,h3,by rw [Nat.zero_add]; exact h4⟩
  ·rw [zMR hz.len hj] at h2; exact absurd h2 (by simp)
theorem zOj {f:Nat} {x:Int} (hk:k<5) (h0:0≤x) (ha:x%2 ^ k=0):(x≤(f:Int)∧(f:Int)<x+2 ^ k)↔x=((f/2 ^ k*2 ^ k:Nat):Int):=by
 have hk':k=0∨k=1∨k=2∨k=3∨k=4:=by omega
 rcases hk' with rfl | rfl | rfl | rfl | rfl <;> simp only [pw0,pw1,pw2,pw3,pw4,Nat.reducePow] at * <;> omega
theorem zX3 (hz:Zk z) (f:Int):zIW z f=some (zLX z f):=by
 unfold zIW zLX
 rw [zRZ hz,zBR]
 by_cases h:zEr z=0
 ·obtain ⟨hr,hin,_⟩:=zGw hz h
  have hbl:zCe z f 0=some (inside z f 0):=zL0 (k:=0) hr (by omega)
  rw [dt h,zAE rfl,hbl,zBR]
  cases hi:inside z f 0 with
  | false=>rfl
  | true =>
   have hb:=zAY hr hi
   rw [pw0] at hb
   obtain ⟨m,rfl⟩:=Int.eq_ofNat_of_zero_le hb.1
   have hm:m<(zO6 z).length:=by rw [zPB]; omega
   rw [Bool.and_true,zAE rfl,zQ8 hz hr hin,zBR,zV (zMv (zAF hm)),zHD hm,Int.toNat_natCast,List.getD_eq_getElem?_getD,List.getElem?_eq_getElem hm]
   rfl
 ·rw [df h]
  rfl
theorem zYE (hz:Zk z) (hI:inI z.start=true) (f:Int):zG8 z f=some (zLX z f):=by
 unfold zG8 zLX
 rw [zP3 hz hI,zBR]
 by_cases h:zEr z=0
 ·obtain ⟨hr,hin,_⟩:=zGw hz h
  have hie:zCV z f 0=some (inside z f 0):=zK0 (k:=0) hr (by omega)
  rw [dt h,Bool.not_true,Bool.not_false,zAE rfl,hie,zBR]
  cases hi:inside z f 0 with
  | false=>rfl
  | true =>
   have hb:=zAY hr hi
   rw [pw0] at hb
   obtain ⟨m,rfl⟩:=Int.eq_ofNat_of_zero_le hb.1
   refine (zw (by rfl)).trans ?_
   unfold zHw
   obtain ⟨r,r1,r2⟩:=zRI hz h (f:=m) (by omega) 5 zAD 0 (by omega) (by unfold zAD; omega)
   rw [z0i,r1,zBR]
   congr 1
   rw [Bool.true_and,Bool.true_and,decide_eq_decide,Int.toNat_natCast]
   refine Iff.trans r2 (Iff.trans ?_ (zLk hz hr hin m).symm)
   constructor
   ·rintro ⟨j,_,hj,hm⟩
    have hbj:=zAY hr (hin j hj _ hm)
    have haj:=(zBT hr).1 (hin j hj _ hm)
    have:=(zOj (f:=m) hj hbj.1 haj.2.1).2 rfl
    exact ⟨j,_,hm,this.1,this.2⟩
   ·rintro ⟨j,x,hx,h1,h2⟩
    rcases Nat.lt_or_ge j 5 with hj | hj
    ·have hbj:=zAY hr (hin j hj _ hx)
     have haj:=(zBT hr).1 (hin j hj _ hx)
     have:=(zOj (f:=m) hj hbj.1 haj.2.1).1 ⟨h1,h2⟩
     exact ⟨j,Nat.zero_le _,hj,this▸hx⟩
    ·rw [zMR hz.len hj] at hx; exact absurd hx (by simp)
 ·rw [df h]
  rfl
def zU2 (z:zj):Int:=zP7 0 z.free
theorem zVn (hk:k<5) {n:Nat} (hn:n≤1000000):0≤(n:Int)*2 ^ k∧(n:Int)*2 ^ k≤16000000:=by
 have hk':k=0∨k=1∨k=2∨k=3∨k=4:=by omega
 rcases hk' with rfl | rfl | rfl | rfl | rfl <;> simp only [pw0,pw1,pw2,pw3,pw4] <;> omega
theorem zV6 (hz:Zk z):∀ (m n k:Nat) (acc:Int),k+m=4→m<n→0≤acc∧acc≤k*16000000 → ∃ r,zEj z 4 n acc (k:Int)=some r∧r=acc+zP7 k ((z.free.take 4).drop k)∧0≤r∧r≤64000000:=by
 have hl4:(z.free.take 4).length=4:=by rw [List.length_take,hz.len]; rfl
 have hcut:zHt z.free 0 4=z.free.take 4:=rfl
 intro m
 induction m with
 | zero =>
  intro n k acc h1 h2 h3
  obtain ⟨n,rfl⟩:=ex1 ‹_<n›
  refine ⟨acc,?_,?_,by omega,by omega⟩
  ·show zCZ _ _ _ _ _=_
   unfold zCZ
   rw [hcut,zw (df (by omega))]
   rfl
  ·rw [List.drop_eq_nil_of_le (by omega)]
   show acc=acc+0
   omega
 | succ m ih =>
  intro n k acc h1 h2 h3
  obtain ⟨n,rfl⟩:=ex1 ‹_<n›
  have hk:k<(z.free.take 4).length:=by omega
  have hg:=zMF (hz.get (k:=k) (by omega)) (show k<4 by omega)
  obtain ⟨a1,a2⟩:=List.getElem?_eq_some_iff.1 hg
  have hb:=zVn (k:=k) (by omega) (hz.bd k)
  obtain ⟨r,r1,r2,r3,r4⟩:=ih n (k+1) (acc+((lst z k).length:Int)*2 ^ k) (by omega) (by omega) (by omega)
  refine ⟨r,?_,?_,r3,r4⟩
  ·rw [← r1]
   show zCZ _ _ _ _ _=_
   unfold zCZ
   rw [hcut,zAE (dt (by omega)),zV (zAF hk),zHD hk,a2,Int.toNat_natCast,zV (zNQ (by omega)),zV (z7 (by omega)),zV (z7 (by omega)),zV (z7 (by omega))]
   rfl
  ·rw [r2,List.drop_eq_getElem_cons a1,a2]
   conv=>rhs; unfold zP7
   omega
theorem zRG:∀ (ls:List (List Int)) (k:Nat) (l:List Int),zP7 k (ls++[l])=zP7 k ls+(l.length:Int)*2 ^ (k+ls.length)
 | [],k,l=>by simp [zP7]
 | a::ls,k,l=>by
  show zP7 k (a::(ls++[l]))=_
  unfold zP7
  rw [zRG ls (k+1) l,show k+1+ls.length=k+(a::ls).length by simp; omega]
  omega
theorem zXe (hz:Zk z) (hI:inI z.start=true) (h:zEr z=0):zJZ z=some (zU2 z)∧0≤zU2 z∧zU2 z≤80000000:=by
 have h4:=hz.bd 4
 have hb:=zVn (k:=4) (by omega) h4
 obtain ⟨r,r1,r2,r3,r4⟩:=zV6 hz 4 zAD 0 0 (by omega) (by unfold zAD; omega) (by omega)
 have hfr:z.free=z.free.take 4++[lst z 4]:=by
  match hq:z.free,hz.len with
  | [a,b,c,d,e],_=>unfold lst; rw [hq]; rfl
 have hnum:zU2 z=r+((lst z 4).length:Int)*2 ^ 4:=by
  unfold zU2
  rw [hfr,zRG,r2,List.length_take,hz.len]
  show _=0+zP7 0 (z.free.take 4)+_
  rw [Int.zero_add]
  rfl
 refine ⟨?_,by omega,by omega⟩
 unfold zJZ zII zLP
 rw [zP3 hz hI,zBR,zBR,dt h]
 refine (congrArg (fun q=>Option.bind q _) ((zw (by rfl)).trans ((zV (by rfl)).trans ((zV (dt hz.len)).trans r1)))).trans ?_
 rw [zBR]
 have e4:(z.free.getD (4:Int).toNat []).length=(lst z 4).length:=rfl
 have e16:(2:Int) ^ (4:Int).toNat=2 ^ 4:=rfl
 rw [e4,e16]
 refine (congrArg (fun q=>Option.bind q _) ((zw (by rfl)).trans (zV (z7 (by omega))))).trans ?_
 rw [zBR,zV (z7 (by omega)),hnum]
end
end Go.Proofs.YtplkliakhdkpcaaGreat
namespace Go.Proofs.YtplkliakhdkpcaaGreat
open Go Go.RowKit Go.Wk Go.Am
structure Ck (c:zL):Prop where
 n:c.lists.length≤1000
 l:∀ x,x∈c.lists→x.length≤1000
def pcR (c:zL) (zn:Int):Int :=
 if zn<1∨6<zn then 1 else if (c.lists.length:Int)=zn then (if c.lists.flatten.all zCp=true then (if c.lists.flatten.Nodup then 0 else 7) else 2) else 3
section
variable {c:zL}
theorem Ck.le (h:Ck c) {i:Nat} (hi:i<c.lists.length):c.lists[i].length≤1000:=h.l _ (List.getElem_mem hi)
theorem zO4 {i:Nat} (hi:i<c.lists.length):(c.lists.drop i).flatten=c.lists[i]++(c.lists.drop (i+1)).flatten:=by
 rw [List.drop_eq_getElem_cons hi]
 rfl
theorem zQH {i:Nat} (hi:c.lists.length≤i):(c.lists.drop i).flatten=[]:=by rw [List.drop_eq_nil_of_le hi]; rfl
theorem pl1 {se:Int→Int→Option Int} {acc:Int} {j:Nat} {l:List Int} (hc:Ck c) (hj:j<c.lists.length) (hl:c.lists[j]=l) (h0:0≤acc∧acc≤1000000000):∀ (m n i:Nat),i+m=l.length→m<n →
  zGH se c acc (j:Int) n (i:Int)=if (l.drop i).all zCp=true then se (acc+l.length) ((j+1:Nat):Int) else some 2:=by
 have hb:l.length≤1000:=by rw [← hl]; exact hc.le hj
 have hn:=hc.n
 have e:at_ c.lists (j:Int)=l:=by rw [zHD hj,hl]
 intro m
 induction m with
 | zero =>
  intro n i h1 h2
  obtain ⟨n,rfl⟩:=ex1 ‹_<n›
  show zDN _ _ _ _ _ _=_
  unfold zDN zHc zHG
  rw [e,zw (df (by omega)),zV (z7 (by omega)),zV (z7 (by omega)),List.drop_eq_nil_of_le (by omega)]
  rfl
 | succ m ih =>
  intro n i h1 h2
  obtain ⟨n,rfl⟩:=ex1 ‹_<n›
  have hi:i<l.length:=by omega
  show zDN _ _ _ _ _ _=_
  unfold zDN
  rw [e,zAE (dt (by omega)),zV (zAF hi),zHD hi,List.drop_eq_getElem_cons hi,List.all_cons,zV (z7 (by omega))]
  show cnd (!zCp l[i]) _ _=_
  cases hf:zCp l[i] with
  | false=>rfl
  | true=>exact ih n (i+1) (by omega) (by omega)
theorem pl0 (hc:Ck c):∀ (m n i acc:Nat),i+m=c.lists.length→m<n→acc≤i*1000 →
  zBn c n (acc:Int) (i:Int)=if ((c.lists.drop i).flatten).all zCp=true then zF8 c ((acc+(c.lists.drop i).flatten.length:Nat):Int) else some 2:=by
 have hn:=hc.n
 intro m
 induction m with
 | zero =>
  intro n i acc h1 h2 h3
  obtain ⟨n,rfl⟩:=ex1 ‹_<n›
  show zDP _ _ _ _=_
  unfold zDP
  rw [zw (df (by omega)),zQH (by omega)]
  rfl
 | succ m ih =>
  intro n i acc h1 h2 h3
  obtain ⟨n,rfl⟩:=ex1 ‹_<n›
  have hi:i<c.lists.length:=by omega
  have hb:=hc.le hi
  show zDP _ _ _ _=_
  unfold zDP
  rw [zAE (dt (by omega)),zV (zAF hi),z0i,pl1 hc hi rfl (by omega) c.lists[i].length zAD 0 (by omega) (by unfold zAD; omega),List.drop_zero,zO4 hi,List.all_append,List.length_append]
  cases hf:c.lists[i].all zCp with
  | false=>rfl
  | true =>
   rw [if_pos rfl,Bool.true_and]
   have:=ih n (i+1) (acc+c.lists[i].length) (by omega) (by omega) (by omega)
   rw [show acc+c.lists[i].length+((c.lists.drop (i+1)).flatten).length=acc+(c.lists[i].length+((c.lists.drop (i+1)).flatten).length) by omega] at this
   rw [← this]
   congr 1
def zMd (m:List (Int×Bool)) (l:List Int):List (Int×Bool):=l.foldl (fun q f=>zKn q f true) m
theorem fm1 {se:Int→List (Int×Bool)→Option (List (Int×Bool))} {j:Nat} {l:List Int} (hc:Ck c) (hj:j<c.lists.length) (hl:c.lists[j]=l):∀ (m n i:Nat) (q:List (Int×Bool)),i+m=l.length→m<n →
  zFI se c (j:Int) n (i:Int) q=se ((j+1:Nat):Int) (zMd q (l.drop i)):=by
 have hb:l.length≤1000:=by rw [← hl]; exact hc.le hj
 have hn:=hc.n
 have e:at_ c.lists (j:Int)=l:=by rw [zHD hj,hl]
 intro m
 induction m with
 | zero =>
  intro n i q h1 h2
  obtain ⟨n,rfl⟩:=ex1 ‹_<n›
  show zC0 _ _ _ _ _ _=_
  unfold zC0 zGs
  rw [e,zw (df (by omega)),zV (z7 (by omega)),List.drop_eq_nil_of_le (by omega)]
  rfl
 | succ m ih =>
  intro n i q h1 h2
  obtain ⟨n,rfl⟩:=ex1 ‹_<n›
  have hi:i<l.length:=by omega
  show zC0 _ _ _ _ _ _=_
  unfold zC0
  rw [e,zAE (dt (by omega)),zV (zAF hi),zHD hi,List.drop_eq_getElem_cons hi,zV (z7 (by omega))]
  exact ih n (i+1) (zKn q l[i] true) (by omega) (by omega)
theorem fm0 (hc:Ck c):∀ (m n i:Nat) (q:List (Int×Bool)),i+m=c.lists.length→m<n→zBp c n (i:Int) q=some (zMd q (c.lists.drop i).flatten):=by
 have hn:=hc.n
 intro m
 induction m with
 | zero =>
  intro n i q h1 h2
  obtain ⟨n,rfl⟩:=ex1 ‹_<n›
  show zC5 _ _ _ _=_
  unfold zC5
  rw [zw (df (by omega)),zQH (by omega)]
  rfl
 | succ m ih =>
  intro n i q h1 h2
  obtain ⟨n,rfl⟩:=ex1 ‹_<n›
  have hi:i<c.lists.length:=by omega
  have hb:=hc.le hi
  show zC5 _ _ _ _=_
  unfold zC5
  rw [zAE (dt (by omega)),zV (zAF hi),z0i,fm1 hc hi rfl c.lists[i].length zAD 0 q (by omega) (by unfold zAD; omega),List.drop_zero,zO4 hi,ih n (i+1) _ (by omega) (by omega)]
  unfold zMd
  rw [List.foldl_append]
theorem zPy (k:Int):∀ (q:List (Int×Bool)) (x:Int),x∈(zKn q k true).map (·.1)↔x=k∨x∈q.map (·.1)
 | [],x=>by simp [zKn]
 | p::q,x=>by
  unfold zKn
  by_cases h:p.1=k
  ·rw [if_pos h]
   simp [h]
  ·rw [if_neg h]
   simp only [List.map_cons,List.mem_cons,zPy k q x]
   constructor
   ·rintro (h1 | h1 | h1)
    ·exact .inr (.inl h1)
    ·exact .inl h1
    ·exact .inr (.inr h1)
   ·rintro (h1 | h1 | h1)
    ·exact .inr (.inl h1)
    ·exact .inl h1
    ·exact .inr (.inr h1)
theorem zRw (k:Int):∀ (q:List (Int×Bool)),(k∈q.map (·.1)→(zKn q k true).length=q.length)∧(k ∉ q.map (·.1)→(zKn q k true).length=q.length+1)
 | []=>by simp [zKn]
 | p::q=>by
  have ih:=zRw k q
  unfold zKn
  by_cases h:p.1=k
  ·rw [if_pos h]
   exact ⟨fun _=>rfl,fun hn=>absurd (by simp [h]) hn⟩
  ·rw [if_neg h]
   refine ⟨fun hm => ?_,fun hn => ?_⟩
   ·have hm':k∈q.map (·.1):=by
     rcases List.mem_cons.1 hm with e | e
     ·exact absurd e.symm h
     ·exact e
    show (zKn q k true).length+1=q.length+1
    rw [ih.1 hm']
   ·show (zKn q k true).length+1=q.length+1+1
    rw [ih.2 (fun hm=>hn (List.mem_cons_of_mem _ hm))]
theorem zQF:∀ (l:List Int) (q:List (Int×Bool)),(zMd q l).length≤q.length+l.length∧((zMd q l).length=q.length+l.length↔l.Nodup ∧ ∀ x,x∈l→x ∉ q.map (·.1))
 | [],q=>⟨Nat.le_refl _,by simp [zMd]⟩
 | a::l,q=>by
  obtain ⟨h1,h2⟩:=zQF l (zKn q a true)
  have e:zMd q (a::l)=zMd (zKn q a true) l:=rfl
  rw [e]
  have hk:=zPy a q
  have hl:=zRw a q
  by_cases ha:a∈q.map (·.1)
  ·rw [hl.1 ha] at h1 h2
   refine ⟨by simp; omega,⟨fun h=>by simp at h; omega,fun h=>absurd ha (h.2 a (by simp))⟩⟩
  ·rw [hl.2 ha] at h1 h2
   refine ⟨by simp; omega,?_⟩
   rw [show q.length+(a::l).length=q.length+1+l.length by simp; omega,h2,List.nodup_cons]
   constructor
   ·rintro ⟨n1,n2⟩
    refine ⟨⟨fun hm=>n2 a hm ((hk a).2 (.inl rfl)),n1⟩,fun x hx => ?_⟩
    rcases List.mem_cons.1 hx with rfl | hx
    ·exact ha
    ·exact fun hq=>n2 x hx ((hk x).2 (.inr hq))
   ·rintro ⟨⟨n0,n1⟩,n2⟩
    refine ⟨n1,fun x hx hq => ?_⟩
    rcases (hk x).1 hq with rfl | hq
    ·exact n0 hx
    ·exact n2 x (by simp [hx]) hq
theorem zUo (hc:Ck c) {zn:Int}:zG6 c zn=some (pcR c zn):=by
 unfold zG6 pcR
 by_cases h1:zn<1∨6<zn
 ·rw [if_pos h1]
  refine zAE ?_
  rcases h1 with h1 | h1 <;> simp [h1]
 ·have h1a:¬ zn<1:=fun h=>h1 (.inl h)
  have h1b:¬ 6<zn:=fun h=>h1 (.inr h)
  rw [if_neg h1,df h1a,df h1b]
  refine (zw (by rfl)).trans ?_
  by_cases h2:(c.lists.length:Int)=zn
  ·rw [if_pos h2,dt h2]
   refine (zw (by rfl)).trans ?_
   have hp:=pl0 hc c.lists.length zAD 0 0 (by omega) (by have:=hc.n; unfold zAD; omega) (by omega)
   rw [List.drop_zero,Nat.zero_add] at hp
   refine Eq.trans hp ?_
   cases hf:c.lists.flatten.all zCp with
   | false=>rfl
   | true =>
    rw [if_pos rfl,if_pos rfl]
    unfold zF8 zDr
    rw [z0i,fm0 hc c.lists.length zAD 0 [] (by omega) (by have:=hc.n; unfold zAD; omega),zBR,List.drop_zero]
    have hm:=(zQF c.lists.flatten []).2
    simp only [List.length_nil,Nat.zero_add,List.map_nil,List.not_mem_nil,not_false_eq_true,implies_true,and_true] at hm
    by_cases hd:c.lists.flatten.Nodup
    ·rw [if_pos hd,dt (by have:=hm.2 hd; omega)]
     rfl
    ·rw [if_neg hd,df (fun h=>hd (hm.1 (by omega)))]
     rfl
  ·rw [if_neg h2,df h2]
   rfl
def zKV:List Bool→List Int→Option (List Bool)
 | d,[]=>some d
 | d,f::r=>if d.getD f.toNat false=true then none else zKV (d.set f.toNat true) r
theorem zPY:∀ {l:List Int} {d d':List Bool},zKV d l=some d'→d'.length=d.length
 | [],_,_,h=>by unfold zKV at h; cases h; rfl
 | x::l,d,d',h=>by
  unfold zKV at h
  split at h
  ·cases h
  ·rw [zPY h,List.length_set]
theorem zPx:∀ (l r:List Int) (d:List Bool),zKV d (l++r)=(zKV d l).bind fun d'=>zKV d' r
 | [],_,_=>rfl
 | x::l,r,d=>by
  show (if d.getD x.toNat false=true then none else zKV (d.set x.toNat true) (l++r))=(if d.getD x.toNat false=true then none else zKV (d.set x.toNat true) l).bind fun d'=>zKV d' r
  split
  ·rfl
  ·exact zPx l r _
theorem zPt:∀ (l:List Int) (d:List Bool),d.length=256→(∀ f,f∈l→0≤f∧f<256)→(zKV d l≠none↔l.Nodup ∧ ∀ f,f∈l→d.getD f.toNat false=false)
 | [],d,_,_=>by simp [zKV]
 | x::l,d,hd,hin=>by
  have hx:=hin x (by simp)
  unfold zKV
  cases hq:d.getD x.toNat false with
  | true =>
   rw [if_pos rfl]
   exact ⟨fun h=>absurd rfl h,fun h=>by have:=h.2 x (by simp); rw [hq] at this; cases this⟩
  | false =>
   rw [if_neg (by simp),zPt l _ (by rw [List.length_set]; exact hd) (fun f hf=>hin f (by simp [hf])),List.nodup_cons]
   constructor
   ·rintro ⟨h1,h2⟩
    refine ⟨⟨fun hm => ?_,h1⟩,fun f hf => ?_⟩
    ·have:=h2 x hm
     rw [zCE _ _ _ (by omega),if_pos rfl] at this
     cases this
    ·rcases List.mem_cons.1 hf with rfl | hf
     ·exact hq
     ·have:=h2 f hf
      rw [zCE _ _ _ (by omega)] at this
      split at this
      ·cases this
      ·exact this
   ·rintro ⟨⟨h0,h1⟩,h2⟩
    refine ⟨h1,fun f hf => ?_⟩
    have hfb:=hin f (by simp [hf])
    rw [zCE _ _ _ (by omega),if_neg]
    ·exact h2 f (by simp [hf])
    ·intro e
     have:f=x:=by omega
     exact h0 (this▸hf)
theorem ql3 {se:Int→Option Int} {j:Nat} {l:List Int} (hc:Ck c) (hj:j<c.lists.length) (hl:c.lists[j]=l):∀ (m n i:Nat),i+m=l.length→m<n →
  zGV se c (j:Int) n (i:Int)=if (l.drop i).all zCp=true then se ((j+1:Nat):Int) else some 2:=by
 have hb:l.length≤1000:=by rw [← hl]; exact hc.le hj
 have hn:=hc.n
 have e:at_ c.lists (j:Int)=l:=by rw [zHD hj,hl]
 intro m
 induction m with
 | zero =>
  intro n i h1 h2
  obtain ⟨n,rfl⟩:=ex1 ‹_<n›
  show zEW _ _ _ _ _=_
  unfold zEW zIK
  rw [e,zw (df (by omega)),zV (z7 (by omega)),List.drop_eq_nil_of_le (by omega)]
  rfl
 | succ m ih =>
  intro n i h1 h2
  obtain ⟨n,rfl⟩:=ex1 ‹_<n›
  have hi:i<l.length:=by omega
  show zEW _ _ _ _ _=_
  unfold zEW
  have ho:zDq l[i]=some (!zCp l[i]):=by
   unfold zDq zCp
   congr 1
   rw [Bool.eq_iff_iff]
   simp only [Bool.or_eq_true,decide_eq_true_eq,Bool.not_eq_true',Bool.and_eq_false_iff,decide_eq_false_iff_not]
   omega
  rw [e,zAE (dt (by omega)),zV (zAF hi),zHD hi,ho,zBR,List.drop_eq_getElem_cons hi,List.all_cons,zV (z7 (by omega))]
  cases hf:zCp l[i] with
  | false=>rfl
  | true=>exact ih n (i+1) (by omega) (by omega)
theorem ql2 (hc:Ck c):∀ (m n i:Nat),i+m=c.lists.length→m<n →
  zCi c n (i:Int)=if ((c.lists.drop i).flatten).all zCp=true then zGe c else some 2:=by
 have hn:=hc.n
 intro m
 induction m with
 | zero =>
  intro n i h1 h2
  obtain ⟨n,rfl⟩:=ex1 ‹_<n›
  show zEN _ _ _=_
  unfold zEN
  rw [zw (df (by omega)),zQH (by omega)]
  rfl
 | succ m ih =>
  intro n i h1 h2
  obtain ⟨n,rfl⟩:=ex1 ‹_<n›
  have hi:i<c.lists.length:=by omega
  have hb:=hc.le hi
  show zEN _ _ _=_
  unfold zEN
  rw [zAE (dt (by omega)),zV (zAF hi),z0i,ql3 hc hi rfl c.lists[i].length zAD 0 (by omega) (by unfold zAD; omega),List.drop_zero,zO4 hi,List.all_append]
  cases hf:c.lists[i].all zCp with
  | false=>rfl
  | true =>
   rw [if_pos rfl,Bool.true_and]
   exact ih n (i+1) (by omega) (by omega)
theorem ql1 {se:Int→List Bool→Option Int} {j:Nat} {l:List Int} (hc:Ck c) (hj:j<c.lists.length) (hl:c.lists[j]=l) (hin:∀ f,f∈l→0≤f∧f<256):∀ (m n i:Nat) (d:List Bool),i+m=l.length→m<n→d.length=256 →
  zGk se c (j:Int) n (i:Int) d=match zKV d (l.drop i) with | none=>some 7 | some d'=>se ((j+1:Nat):Int) d':=by
 have hb:l.length≤1000:=by rw [← hl]; exact hc.le hj
 have hn:=hc.n
 have e:at_ c.lists (j:Int)=l:=by rw [zHD hj,hl]
 intro m
 induction m with
 | zero =>
  intro n i d h1 h2 h3
  obtain ⟨n,rfl⟩:=ex1 ‹_<n›
  show zED _ _ _ _ _ _=_
  unfold zED zIR
  rw [e,zw (df (by omega)),zV (z7 (by omega)),List.drop_eq_nil_of_le (by omega)]
  rfl
 | succ m ih =>
  intro n i d h1 h2 h3
  obtain ⟨n,rfl⟩:=ex1 ‹_<n›
  have hi:i<l.length:=by omega
  have hf:=hin _ (List.getElem_mem hi)
  obtain ⟨f,hf2⟩:=Int.eq_ofNat_of_zero_le hf.1
  have hfl:f<d.length:=by omega
  show zED _ _ _ _ _ _=_
  unfold zED
  have ed:at_ d (f:Int)=d.getD f false:=by rw [zHD hfl,List.getD_eq_getElem?_getD,List.getElem?_eq_getElem hfl]; rfl
  rw [e,zAE (dt (by omega)),zV (zAF hi),zHD hi,List.drop_eq_getElem_cons hi,hf2,zV (zAF hfl),ed,zV (z7 (by omega)),Int.toNat_natCast]
  unfold zKV
  rw [Int.toNat_natCast]
  cases hd:d.getD f false with
  | true=>rfl
  | false =>
   rw [zw rfl,if_neg (by simp)]
   exact ih n (i+1) (d.set f true) (by omega) (by omega) (by rw [List.length_set]; exact h3)
theorem ql0 (hc:Ck c) (hin:∀ f,f∈c.lists.flatten→0≤f∧f<256):∀ (m n i:Nat) (d:List Bool),i+m=c.lists.length→m<n→d.length=256 →
  zCk c n (i:Int) d=match zKV d (c.lists.drop i).flatten with | none=>some 7 | some _=>some 0:=by
 have hn:=hc.n
 intro m
 induction m with
 | zero =>
  intro n i d h1 h2 h3
  obtain ⟨n,rfl⟩:=ex1 ‹_<n›
  show zDy _ _ _ _=_
  unfold zDy
  rw [zw (df (by omega)),zQH (by omega)]
  rfl
 | succ m ih =>
  intro n i d h1 h2 h3
  obtain ⟨n,rfl⟩:=ex1 ‹_<n›
  have hi:i<c.lists.length:=by omega
  have hb:=hc.le hi
  show zDy _ _ _ _=_
  unfold zDy
  rw [zAE (dt (by omega)),zV (zAF hi),z0i,ql1 hc hi rfl (fun f hf=>hin f (List.mem_flatten.2 ⟨_,List.getElem_mem hi,hf⟩)) c.lists[i].length zAD 0 d (by omega) (by unfold zAD; omega) h3,List.drop_zero,zO4 hi,zPx]
  cases hm:zKV d c.lists[i] with
  | none=>rfl
  | some d'=>exact ih n (i+1) d' (by omega) (by omega) (by rw [zPY hm]; exact h3)
theorem zVA (hc:Ck c) {zn:Int}:zHz c zn=some (pcR c zn):=by
 unfold zHz pcR
 by_cases h1:zn<1∨6<zn
 ·rw [if_pos h1]
  refine zAE ?_
  rcases h1 with h1 | h1 <;> simp [h1]
 ·have h1a:¬ zn<1:=fun h=>h1 (.inl h)
  have h1b:¬ 6<zn:=fun h=>h1 (.inr h)
  rw [if_neg h1,df h1a,df h1b]
  refine (zw (by rfl)).trans ?_
  by_cases h2:(c.lists.length:Int)=zn
  ·rw [if_pos h2,dt h2]
   refine (zw (by rfl)).trans ?_
   have hp:=ql2 hc c.lists.length zAD 0 (by omega) (by have:=hc.n; unfold zAD; omega)
   rw [List.drop_zero] at hp
   refine Eq.trans hp ?_
   cases hf:c.lists.flatten.all zCp with
   | false=>rfl
   | true =>
    rw [if_pos rfl,if_pos rfl]
    unfold zGe
    have hin:∀ f,f∈c.lists.flatten→0≤f∧f<256:=fun f hm=>by
     have:=List.all_eq_true.1 hf f hm
     unfold zCp at this
     simpa using this
    rw [zV (by rfl),z0i,ql0 hc hin c.lists.length zAD 0 _ (by omega) (by have:=hc.n; unfold zAD; omega) (by rw [List.length_replicate]; rfl),List.drop_zero]
    have hm:=zPt c.lists.flatten (List.replicate (256:Int).toNat false) (by rw [List.length_replicate]; rfl) hin
    have hz:∀ f:Int,f∈c.lists.flatten→(List.replicate (256:Int).toNat false).getD f.toNat false=false:=fun f _=>by
     rw [List.getD_eq_getElem?_getD,List.getElem?_replicate]
     split <;> rfl
    by_cases hd:c.lists.flatten.Nodup
    ·rw [if_pos hd]
     have:=hm.2 ⟨hd,hz⟩
     cases hq:zKV (List.replicate (256:Int).toNat false) c.lists.flatten with
     | none=>exact absurd hq this
     | some d=>rfl
    ·rw [if_neg hd]
     cases hq:zKV (List.replicate (256:Int).toNat false) c.lists.flatten with
     | none=>rfl
     | some d=>exact absurd (hm.1 (by rw [hq]; simp)).1 hd
  ·rw [if_neg h2,df h2]
   rfl
end
end Go.Proofs.YtplkliakhdkpcaaGreat
namespace Go.Proofs.YtplkliakhdkpcaaGreat
open Go Go.RowKit Go.Wk Go.Am
structure Al (a:zJ):Prop where
 n:a.nodes.length≤1000
 z:a.zones.length≤1000
 c:a.caches.length≤1000
 zk:∀ z,z∈a.zones→Zk z∧inI z.start=true
 ck:∀ c,c∈a.caches→Ck c
def inZ (z:zj) (f:Int):Bool:=decide (z.start≤f)&&decide (f<z.start+z.count)
def zE:Int→List zj→Int
 | _,[]=>0
 | s,z::r=>if zEr z=0 then (if z.start=s then zE (s+z.count) r else 10) else zEr z
def cE (h zn:Int):List zL→Int
 | []=>0
 | c::r=>if pcR c zn=0 then (if (c.lists.any fun l=>decide (h<(l.length:Int)))=true then 9 else cE h zn r) else pcR c zn
def feL (z:zj):List Bool→List Int→Int×List Bool
 | d,[]=>(0,d)
 | d,f::r=>if inZ z f=true then (if (d.getD f.toNat false||zLX z f)=true then (7,d) else feL z (d.set f.toNat true) r) else (2,d)
def feC:List Bool→List zj→List (List Int)→Int×List Bool
 | d,z::zs,l::ls=>if (feL z d l).1=0 then feC (feL z d l).2 zs ls else feL z d l
 | d,_,_=>(0,d)
def feA (zs:List zj):List Bool→List zL→Int
 | _,[]=>0
 | d,c::cs=>if (feC d zs c.lists).1=0 then feA zs (feC d zs c.lists).2 cs else (feC d zs c.lists).1
def zT0 (a:zJ):Int :=
 if zTp a.nodes a.batch a.high (a.zones.length:Int)=true then
  (if zE 0 a.zones=0 then
   (if (a.caches.length:Int)=(a.nodes.length:Int) then
    (if cE a.high (a.zones.length:Int) a.caches=0 then feA a.zones zE6 a.caches else cE a.high (a.zones.length:Int) a.caches) else 3)
  else zE 0 a.zones) else 2
section
variable {a:zJ}
theorem zAq {α:Type} [Inhabited α] {l:List α} {i:Nat} (h:i<l.length):at_ l (i:Int)∈l:=by rw [zHD h]; exact List.getElem_mem h
theorem zC1 {α:Type} [Inhabited α] {l:List α} {i:Nat} (h:i<l.length):l.drop i=at_ l (i:Int)::l.drop (i+1):=by rw [zHD h]; exact List.drop_eq_getElem_cons h
theorem zl5 (h:Al a):∀ (m n i:Nat) (s:Int),i+m=a.zones.length→m<n→0≤s∧s≤i*256 →
  zDl a n s (i:Int)=if zE s (a.zones.drop i)=0 then zDo a else some (zE s (a.zones.drop i)):=by
 have hz:=h.z
 intro m
 induction m with
 | zero =>
  intro n i s h1 h2 h3
  obtain ⟨n,rfl⟩:=ex1 ‹_<n›
  show zCD _ _ _ _=_
  unfold zCD
  rw [zw (df (by omega)),List.drop_eq_nil_of_le (by omega)]
  rfl
 | succ m ih =>
  intro n i s h1 h2 h3
  obtain ⟨n,rfl⟩:=ex1 ‹_<n›
  have hi:i<a.zones.length:=by omega
  have hk:=h.zk _ (zAq hi)
  show zCD _ _ _ _=_
  unfold zCD
  rw [zAE (dt (by omega)),zV (zAF hi),zP3 hk.1 hk.2,zBR,zC1 hi]
  unfold zE
  generalize hz':at_ a.zones (i:Int)=z at *
  by_cases hc:zEr z=0
  ·have hb:=zBM (zDF hc)
   rw [dt hc,if_pos hc,Bool.not_true,zw rfl]
   by_cases hs:z.start=s
   ·rw [dt hs,if_pos hs,Bool.not_true,zw rfl,zV (z7 (by omega)),zV (z7 (by omega))]
    exact ih n (i+1) (s+z.count) (by omega) (by omega) (by omega)
   ·rw [df hs,if_neg hs]
    rfl
  ·rw [df hc,if_neg hc,if_neg hc]
   rfl
theorem zr0 (h:Al a):∀ (m n i:Nat) (s:Int),i+m=a.zones.length→m<n→0≤s∧s≤i*256 →
  zGr a n s (i:Int)=if zE s (a.zones.drop i)=0 then zGm a else some (zE s (a.zones.drop i)):=by
 have hz:=h.z
 intro m
 induction m with
 | zero =>
  intro n i s h1 h2 h3
  obtain ⟨n,rfl⟩:=ex1 ‹_<n›
  show zD1 _ _ _ _=_
  unfold zD1
  rw [zw (df (by omega)),List.drop_eq_nil_of_le (by omega)]
  rfl
 | succ m ih =>
  intro n i s h1 h2 h3
  obtain ⟨n,rfl⟩:=ex1 ‹_<n›
  have hi:i<a.zones.length:=by omega
  have hk:=h.zk _ (zAq hi)
  show zD1 _ _ _ _=_
  unfold zD1
  rw [zAE (dt (by omega)),zV (zAF hi),zRZ hk.1,zBR,zC1 hi]
  unfold zE
  generalize hz':at_ a.zones (i:Int)=z at *
  by_cases hc:zEr z=0
  ·have hb:=zBM (zDF hc)
   rw [dt hc,if_pos hc,Bool.not_true,zw rfl]
   by_cases hs:z.start=s
   ·rw [dt hs,if_pos hs,Bool.not_true,zw rfl,zV (z7 (by omega)),zV (z7 (by omega))]
    exact ih n (i+1) (s+z.count) (by omega) (by omega) (by omega)
   ·rw [df hs,if_neg hs]
    rfl
  ·rw [df hc,if_neg hc,if_neg hc]
   rfl
theorem zRh {l:List (List Int)} {h:Int} {i:Nat} (hi:i<l.length):((l.drop i).any fun q=>decide (h<(q.length:Int)))=(decide (h<((at_ l (i:Int)).length:Int))||(l.drop (i+1)).any fun q=>decide (h<(q.length:Int))):=by
 rw [zC1 hi,List.any_cons]
theorem hl4 {se:Int→Option Int} {c:zL} {j:Nat} (hj:j<a.caches.length) (hc:at_ a.caches (j:Int)=c) (hk:Ck c) (ha:Al a):∀ (m n i:Nat),i+m=c.lists.length→m<n →
  zDm se a (j:Int) n (i:Int)=if ((c.lists.drop i).any fun l=>decide (a.high<(l.length:Int)))=true then some 9 else se ((j+1:Nat):Int):=by
 have hn:=hk.n
 have hcl:=ha.c
 intro m
 induction m with
 | zero =>
  intro n i h1 h2
  obtain ⟨n,rfl⟩:=ex1 ‹_<n›
  show zCF _ _ _ _ _=_
  unfold zCF zFh
  rw [hc,zw (df (by omega)),zV (z7 (by omega)),List.drop_eq_nil_of_le (by omega)]
  rfl
 | succ m ih =>
  intro n i h1 h2
  obtain ⟨n,rfl⟩:=ex1 ‹_<n›
  have hi:i<c.lists.length:=by omega
  show zCF _ _ _ _ _=_
  unfold zCF
  rw [hc,zAE (dt (by omega)),zV (zAF hi),zRh hi,zV (z7 (by omega))]
  cases decide (a.high<((at_ c.lists (i:Int)).length:Int)) with
  | true=>rfl
  | false=>exact ih n (i+1) (by omega) (by omega)
theorem rl4 {se:Int→Option Int} {c:zL} {j:Nat} (hj:j<a.caches.length) (hc:at_ a.caches (j:Int)=c) (hk:Ck c) (ha:Al a) (hzl:c.lists.length=a.zones.length):∀ (m n i:Nat),i+m=c.lists.length→m<n →
  zC6 se a (j:Int) n (i:Int)=if ((c.lists.drop i).any fun l=>decide (a.high<(l.length:Int)))=true then some 9 else se ((j+1:Nat):Int):=by
 have hn:=hk.n
 have hcl:=ha.c
 intro m
 induction m with
 | zero =>
  intro n i h1 h2
  obtain ⟨n,rfl⟩:=ex1 ‹_<n›
  show zBg _ _ _ _ _=_
  unfold zBg zEi
  rw [zw (df (by omega)),zV (z7 (by omega)),List.drop_eq_nil_of_le (by omega)]
  rfl
 | succ m ih =>
  intro n i h1 h2
  obtain ⟨n,rfl⟩:=ex1 ‹_<n›
  have hi:i<c.lists.length:=by omega
  show zBg _ _ _ _ _=_
  unfold zBg
  rw [hc,zAE (dt (by omega)),zV (zAF hj),zV (zAF hi),zRh hi,zV (z7 (by omega))]
  cases decide (a.high<((at_ c.lists (i:Int)).length:Int)) with
  | true=>rfl
  | false=>exact ih n (i+1) (by omega) (by omega)
theorem zTO {c:zL} {zn:Int} (h:pcR c zn=0):(c.lists.length:Int)=zn∧(∀ f,f∈c.lists.flatten→zCp f=true):=by
 unfold pcR at h
 split at h
 ·cases h
 ·split at h
  ·rename_i h2
   split at h
   ·rename_i h3
    exact ⟨h2,fun f hf=>List.all_eq_true.1 h3 f hf⟩
   ·cases h
  ·cases h
theorem hl3 (ha:Al a):∀ (m n i:Nat),i+m=a.caches.length→m<n →
  zBN a n (i:Int)=if cE a.high (a.zones.length:Int) (a.caches.drop i)=0 then zDp a else some (cE a.high (a.zones.length:Int) (a.caches.drop i)):=by
 have hcl:=ha.c
 intro m
 induction m with
 | zero =>
  intro n i h1 h2
  obtain ⟨n,rfl⟩:=ex1 ‹_<n›
  show zCG _ _ _=_
  unfold zCG
  rw [zw (df (by omega)),List.drop_eq_nil_of_le (by omega)]
  rfl
 | succ m ih =>
  intro n i h1 h2
  obtain ⟨n,rfl⟩:=ex1 ‹_<n›
  have hi:i<a.caches.length:=by omega
  have hk:=ha.ck _ (zAq hi)
  show zCG _ _ _=_
  unfold zCG
  rw [zAE (dt (by omega)),zV (zAF hi),zUo hk,zBR,zC1 hi]
  unfold cE
  by_cases h0:pcR (at_ a.caches (i:Int)) (a.zones.length:Int)=0
  ·rw [dt h0,if_pos h0,Bool.not_true,zw rfl,z0i,hl4 hi rfl hk ha _ zAD 0 (Nat.zero_add _) (by have:=hk.n; unfold zAD; omega),List.drop_zero]
   cases hq:((at_ a.caches (i:Int)).lists.any fun l=>decide (a.high<(l.length:Int))) with
   | true=>rfl
   | false =>
    rw [if_neg Bool.false_ne_true,if_neg Bool.false_ne_true]
    exact ih n (i+1) (by omega) (by omega)
  ·rw [df h0,if_neg h0,if_neg h0]
   rfl
theorem rl3 (ha:Al a):∀ (m n i:Nat),i+m=a.caches.length→m<n →
  zA5 a n (i:Int)=if cE a.high (a.zones.length:Int) (a.caches.drop i)=0 then zC8 a else some (cE a.high (a.zones.length:Int) (a.caches.drop i)):=by
 have hcl:=ha.c
 intro m
 induction m with
 | zero =>
  intro n i h1 h2
  obtain ⟨n,rfl⟩:=ex1 ‹_<n›
  show zBd _ _ _=_
  unfold zBd
  rw [zw (df (by omega)),List.drop_eq_nil_of_le (by omega)]
  rfl
 | succ m ih =>
  intro n i h1 h2
  obtain ⟨n,rfl⟩:=ex1 ‹_<n›
  have hi:i<a.caches.length:=by omega
  have hk:=ha.ck _ (zAq hi)
  show zBd _ _ _=_
  unfold zBd
  rw [zAE (dt (by omega)),zV (zAF hi),zVA hk,zBR,zC1 hi]
  unfold cE
  by_cases h0:pcR (at_ a.caches (i:Int)) (a.zones.length:Int)=0
  ·have hlen:=(zTO h0).1
   rw [dt h0,if_pos h0,Bool.not_true,zw rfl,z0i,rl4 hi rfl hk ha (by omega) _ zAD 0 (Nat.zero_add _) (by have:=hk.n; unfold zAD; omega),List.drop_zero]
   cases hq:((at_ a.caches (i:Int)).lists.any fun l=>decide (a.high<(l.length:Int))) with
   | true=>rfl
   | false =>
    rw [if_neg Bool.false_ne_true,if_neg Bool.false_ne_true]
    exact ih n (i+1) (by omega) (by omega)
  ·rw [df h0,if_neg h0,if_neg h0]
   rfl
def zIx (f:Int):List zj→Nat→Int
 | [],_ => -1
 | z::r,i=>if inZ z f=true then (i:Int) else zIx f r (i+1)
theorem zU3 (f:Int):∀ (zs:List zj) (i:Nat),zIx f zs i = -1∨((i:Int)≤zIx f zs i∧zIx f zs i<((i+zs.length:Nat):Int))
 | [],_ => .inl rfl
 | z::r,i=>by
  unfold zIx
  split
  ·exact .inr ⟨Int.le_refl _,by simp; omega⟩
  ·rcases zU3 f r (i+1) with h | h
   ·exact .inl h
   ·exact .inr ⟨by omega,by simp; omega⟩
def zSc (zs:List zj):Prop:=zs.Pairwise fun x y => ∀ f,inZ x f=true→inZ y f=false
theorem zRD (f:Int):∀ (zs:List zj) (i p:Nat) (hp:p<zs.length),zSc zs→(zIx f zs i=((i+p:Nat):Int)↔inZ zs[p] f=true)
 | [],_,_,hp,_=>absurd hp (by simp)
 | z::r,i,p,hp,ha=>by
  have ha':=List.pairwise_cons.1 ha
  unfold zIx
  cases p with
  | zero =>
   show _↔inZ z f=true
   by_cases h:inZ z f=true
   ·rw [if_pos h]; simp [h]
   ·rw [if_neg h]
    refine ⟨fun e => ?_,fun e=>absurd e h⟩
    rcases zU3 f r (i+1) with h1 | h1 <;> omega
  | succ p =>
   have hp':p<r.length:=by simpa using hp
   show _↔inZ r[p] f=true
   by_cases h:inZ z f=true
   ·rw [if_pos h,ha'.1 _ (List.getElem_mem hp') f h]
    refine ⟨fun e=>by omega,fun e=>by cases e⟩
   ·rw [if_neg h,show i+(p+1)=i+1+p by omega]
    exact zRD f r (i+1) p hp' ha'.2
theorem zTY:∀ {zs:List zj} {s:Int},zE s zs=0→(∀ z,z∈zs→zEr z=0∧s≤z.start)∧zSc zs
 | [],_,_=>⟨fun z hz=>absurd hz (by simp),List.Pairwise.nil⟩
 | z::r,s,h=>by
  unfold zE at h
  by_cases hc:zEr z=0
  ·rw [if_pos hc] at h
   by_cases hs:z.start=s
   ·rw [if_pos hs] at h
    have hb:=zBM (zDF hc)
    obtain ⟨h1,h2⟩:=zTY h
    refine ⟨fun y hy => ?_,List.pairwise_cons.2 ⟨fun y hy f hf => ?_,h2⟩⟩
    ·rcases List.mem_cons.1 hy with rfl | hy
     ·exact ⟨hc,by omega⟩
     ·have:=h1 y hy
      exact ⟨this.1,by omega⟩
    ·have:=(h1 y hy).2
     unfold inZ at hf ⊢
     simp only [Bool.and_eq_true,decide_eq_true_eq] at hf
     rw [df (by omega)]
     rfl
   ·rw [if_neg hs] at h; cases h
  ·rw [if_neg hc] at h; exact absurd h hc
theorem zVL {f:Int} (ha:Al a) (hv:∀ z,z∈a.zones→zEr z=0):∀ (m n i:Nat),i+m=a.zones.length→m<n →
  zAg a.zones (fun y=>zC4 y f) n (i:Int)=some (zIx f (a.zones.drop i) i):=by
 have hzl:=ha.z
 intro m
 induction m with
 | zero =>
  intro n i h1 h2
  obtain ⟨n,rfl⟩:=ex1 ‹_<n›
  show zAI _ _ _ _=_
  unfold zAI
  rw [zw (df (by omega)),List.drop_eq_nil_of_le (by omega)]
  rfl
 | succ m ih =>
  intro n i h1 h2
  obtain ⟨n,rfl⟩:=ex1 ‹_<n›
  have hi:i<a.zones.length:=by omega
  have hb:=zBM (zDF (hv _ (zAq hi)))
  show zAI _ _ _ _=_
  unfold zAI
  have hz1:zC4 (at_ a.zones (i:Int)) f=some (inZ (at_ a.zones (i:Int)) f):=by
   unfold zC4
   rw [zV (zMv (z7 (by omega)))]
   rfl
  rw [zAE (dt (by omega)),zV (zAF hi)]
  show ((zC4 (at_ a.zones (i:Int)) f).bind _)=_
  rw [hz1,zBR,zC1 hi,zV (z7 (by omega))]
  unfold zIx
  cases inZ (at_ a.zones (i:Int)) f with
  | true=>rfl
  | false=>exact ih n (i+1) (by omega) (by omega)
theorem zYF {f:Int} (ha:Al a) (hv:∀ z,z∈a.zones→zEr z=0):zDE a f=some (zIx f a.zones 0):=by
 unfold zDE zBH
 have:=zVL (f:=f) ha hv a.zones.length zAD 0 (by omega) (by have:=ha.z; unfold zAD; omega)
 rw [List.drop_zero] at this
 rw [z0i,this]
 rfl
theorem zMh (z:zj):∀ (l:List Int) (d:List Bool),(feL z d l).2.length=d.length
 | [],_=>rfl
 | f::l,d=>by
  unfold feL
  split
  ·split
   ·rfl
   ·rw [zMh z l,List.length_set]
  ·rfl
theorem zPC:∀ (zs:List zj) (ls:List (List Int)) (d:List Bool),(feC d zs ls).2.length=d.length
 | [],_,_=>by unfold feC; rfl
 | _::_,[],_=>by unfold feC; rfl
 | z::zs,l::ls,d=>by
  unfold feC
  split
  ·rw [zPC zs ls,zMh]
  ·exact zMh z l d
def SM (q:List (Int×Bool)) (d:List Bool):Prop := ∀ f:Nat,f<256→zMS false q (f:Int)=d.getD f false
theorem zNE (k f:Int):∀ (q:List (Int×Bool)),zMS false (zKn q k true) f=if f=k then true else zMS false q f
 | []=>by
  unfold zKn zMS
  by_cases h:f=k
  ·rw [if_pos h,h]; simp
  ·rw [if_neg h]
   have:¬ k=f:=fun e=>h e.symm
   simp [this]
 | p::q=>by
  have ih:=zNE k f q
  unfold zKn
  by_cases hp:p.1=k
  ·rw [if_pos hp]
   unfold zMS
   by_cases h:f=k
   ·rw [if_pos h,h]; simp
   ·rw [if_neg h]
    have h1:¬ k=f:=fun e=>h e.symm
    have h2:¬ p.1=f:=fun e=>h (by rw [← e,hp])
    simp [h1,h2]
  ·rw [if_neg hp]
   by_cases h2:p.1=f
   ·have h1:¬ f=k:=fun e=>hp (by rw [h2,e])
    rw [if_neg h1]
    unfold zMS
    simp [h2]
   ·have e1:∀ r:List (Int×Bool),zMS false (p::r) f=zMS false r f:=fun r=>by unfold zMS; simp [h2]
    rw [e1,e1,ih]
theorem SM.set {q:List (Int×Bool)} {d:List Bool} {k:Nat} (h:SM q d) (hd:d.length=256) (hk:k<256):SM (zKn q (k:Int) true) (d.set k true):=by
 intro f hf
 rw [zNE,zCE _ _ _ (by omega),h f hf]
 by_cases e:f=k
 ·rw [if_pos e,if_pos (by omega)]
 ·rw [if_neg e,if_neg (by omega)]
theorem zQI {z:zj} {f:Int} (hr:ranges z=true) (h:inZ z f=true):0≤f∧f<256:=by
 have hb:=zBM hr
 unfold inZ at h
 simp only [Bool.and_eq_true,decide_eq_true_eq] at h
 omega
theorem zYV {α:Type} {b c:Bool} {x y:Option α}:(cnd (!b) (some c) (some default)).bind (fun q=>cnd (b||q) x y)=cnd (b||c) x y:=by
 cases b <;> rfl
theorem el2 {se:Int→List (Int×Bool)→Option Int} {c:zL} {j p:Nat} {z:zj} {l:List Int} (ha:Al a) (hv:∀ z,z∈a.zones→zEr z=0) (hap:zSc a.zones) (hj:j<a.caches.length) (hc:at_ a.caches (j:Int)=c) (hp:p<c.lists.length) (hpz:p<a.zones.length) (hz:at_ a.zones (p:Int)=z) (hl:at_ c.lists (p:Int)=l) (hll:l.length≤1000) (hpb:p≤1000) :
  ∀ (m n i:Nat) (q:List (Int×Bool)) (d:List Bool),i+m=l.length→m<n→d.length=256→SM q d → ∃ q',SM q' (feL z d (l.drop i)).2 ∧
   zBk se a (j:Int) (p:Int) n (i:Int) q=if (feL z d (l.drop i)).1=0 then se ((p+1:Nat):Int) q' else some (feL z d (l.drop i)).1:=by
 have hkz:=ha.zk z (hz▸zAq hpz)
 have hcz:=hv z (hz▸zAq hpz)
 intro m
 induction m with
 | zero =>
  intro n i q d h1 h2 h3 h4
  obtain ⟨n,rfl⟩:=ex1 ‹_<n›
  rw [List.drop_eq_nil_of_le (by omega)]
  refine ⟨q,h4,?_⟩
  show zCI _ _ _ _ _ _ _=_
  unfold zCI zFk
  rw [hc,hl,zw (df (by omega)),zV (z7 (by omega))]
  rfl
 | succ m ih =>
  intro n i q d h1 h2 h3 h4
  obtain ⟨n,rfl⟩:=ex1 ‹_<n›
  have hi:i<l.length:=by omega
  have hx:=zRD (at_ l (i:Int)) a.zones 0 p hpz hap
  rw [← zHD hpz,hz,Nat.zero_add] at hx
  have ee:zBk se a (j:Int) (p:Int) (n+1) (i:Int) q=cnd (!decide (zIx (at_ l (i:Int)) a.zones 0=(p:Int))) (some 2) (cnd (zMS false q (at_ l (i:Int))||zLX z (at_ l (i:Int))) (some 7) (zBk se a (j:Int) (p:Int) n ((i+1:Nat):Int) (zKn q (at_ l (i:Int)) true))):=by
   show zCI _ _ _ _ _ _ _=_
   unfold zCI
   rw [hc,hl,zAE (dt (by omega)),zV (zAF hi),zYF ha hv,zBR,zV (zMv (zAF hpz)),hz,zYE hkz.1 hkz.2,zYV,zV (z7 (by omega))]
   rfl
  rw [ee,zC1 hi]
  unfold feL
  generalize at_ l (i:Int)=f at *
  cases hq:inZ z f with
  | false =>
   rw [df (fun e=>by rw [hx.1 e] at hq; cases hq)]
   exact ⟨q,h4,rfl⟩
  | true =>
   have hf:=zQI (zDF hcz) hq
   obtain ⟨g,rfl⟩:=Int.eq_ofNat_of_zero_le hf.1
   rw [dt (hx.2 hq),Bool.not_true,zw rfl,if_pos rfl,h4 g (by omega),Int.toNat_natCast]
   cases hr:(d.getD g false||zLX z (g:Int)) with
   | true=>exact ⟨q,h4,rfl⟩
   | false =>
    rw [zw rfl,if_neg Bool.false_ne_true]
    exact ih n (i+1) _ _ (by omega) (by omega) (by rw [List.length_set]; exact h3) (h4.set h3 (by omega))
theorem el1 {se:Int→List (Int×Bool)→Option Int} {c:zL} {j:Nat} (ha:Al a) (hv:∀ z,z∈a.zones→zEr z=0) (hap:zSc a.zones) (hj:j<a.caches.length) (hc:at_ a.caches (j:Int)=c) (hlen:c.lists.length=a.zones.length) :
  ∀ (m n p:Nat) (q:List (Int×Bool)) (d:List Bool),p+m=c.lists.length→m<n→d.length=256→SM q d → ∃ q',SM q' (feC d (a.zones.drop p) (c.lists.drop p)).2 ∧
   zAp se a (j:Int) n (p:Int) q=if (feC d (a.zones.drop p) (c.lists.drop p)).1=0 then se ((j+1:Nat):Int) q' else some (feC d (a.zones.drop p) (c.lists.drop p)).1:=by
 have hcl:=ha.c
 have hck:=ha.ck c (hc▸zAq hj)
 have hn:=hck.n
 intro m
 induction m with
 | zero =>
  intro n p q d h1 h2 h3 h4
  obtain ⟨n,rfl⟩:=ex1 ‹_<n›
  rw [List.drop_eq_nil_of_le (show a.zones.length≤p by omega)]
  unfold feC
  refine ⟨q,h4,?_⟩
  show zCC _ _ _ _ _ _=_
  unfold zCC zFg
  rw [hc,zw (df (by omega)),zV (z7 (by omega))]
  rfl
 | succ m ih =>
  intro n p q d h1 h2 h3 h4
  obtain ⟨n,rfl⟩:=ex1 ‹_<n›
  have hp:p<c.lists.length:=by omega
  have hpz:p<a.zones.length:=by omega
  have hll:=hck.l _ (zAq hp)
  obtain ⟨q1,s1,s2⟩:=el2 (se:=zAp se a (j:Int) n) ha hv hap hj hc hp hpz rfl rfl hll (by omega) _ zAD 0 q d (Nat.zero_add _) (by unfold zAD; omega) h3 h4
  rw [List.drop_zero] at s1 s2
  have ee:zAp se a (j:Int) (n+1) (p:Int) q=zBk (zAp se a (j:Int) n) a (j:Int) (p:Int) zAD ((0:Nat):Int) q:=by
   show zCC _ _ _ _ _ _=_
   unfold zCC
   rw [hc,zAE (dt (by omega)),zV (zAF hp)]
   rfl
  rw [ee,s2,zC1 hp,zC1 hpz]
  unfold feC
  by_cases h0:(feL (at_ a.zones (p:Int)) d (at_ c.lists (p:Int))).1=0
  ·rw [if_pos h0,if_pos h0]
   exact ih n (p+1) q1 _ (by omega) (by omega) (by rw [zMh]; exact h3) s1
  ·rw [if_neg h0,if_neg h0]
   exact ⟨q1,s1,(if_neg h0).symm⟩
theorem el0 (ha:Al a) (hv:∀ z,z∈a.zones→zEr z=0) (hap:zSc a.zones) (hlen:∀ c,c∈a.caches→c.lists.length=a.zones.length) :
  ∀ (m n j:Nat) (q:List (Int×Bool)) (d:List Bool),j+m=a.caches.length→m<n→d.length=256→SM q d→zAW a n (j:Int) q=some (feA a.zones d (a.caches.drop j)):=by
 have hcl:=ha.c
 intro m
 induction m with
 | zero =>
  intro n j q d h1 h2 h3 h4
  obtain ⟨n,rfl⟩:=ex1 ‹_<n›
  show zCR _ _ _ _=_
  unfold zCR
  rw [zw (df (by omega)),List.drop_eq_nil_of_le (by omega)]
  rfl
 | succ m ih =>
  intro n j q d h1 h2 h3 h4
  obtain ⟨n,rfl⟩:=ex1 ‹_<n›
  have hj:j<a.caches.length:=by omega
  have hl:=hlen _ (zAq hj)
  obtain ⟨q1,s1,s2⟩:=el1 (se:=zAW a n) ha hv hap hj rfl hl _ zAD 0 q d (Nat.zero_add _) (by have:=(ha.ck _ (zAq hj)).n; unfold zAD; omega) h3 h4
  rw [List.drop_zero,List.drop_zero] at s1 s2
  show zCR _ _ _ _=_
  unfold zCR
  rw [zAE (dt (by omega)),zV (zAF hj),z0i,s2,zC1 hj]
  unfold feA
  by_cases h0:(feC d a.zones (at_ a.caches (j:Int)).lists).1=0
  ·rw [if_pos h0,if_pos h0]
   exact ih n (j+1) q1 _ (by omega) (by omega) (by rw [zPC]; exact h3) s1
  ·rw [if_neg h0,if_neg h0]
theorem fl2 {se:Int→List Bool→Option Int} {c:zL} {j p:Nat} {z:zj} {l:List Int} (ha:Al a) (hv:∀ z,z∈a.zones→zEr z=0) (hc:at_ a.caches (j:Int)=c) (hpz:p<a.zones.length) (hz:at_ a.zones (p:Int)=z) (hl:at_ c.lists (p:Int)=l) (hll:l.length≤1000) (hpb:p≤1000) :
  ∀ (m n i:Nat) (d:List Bool),i+m=l.length→m<n→d.length=256 →
   zCT se a (j:Int) (p:Int) n (i:Int) d=if (feL z d (l.drop i)).1=0 then se ((p+1:Nat):Int) (feL z d (l.drop i)).2 else some (feL z d (l.drop i)).1:=by
 have hkz:=ha.zk z (hz▸zAq hpz)
 have hcz:=hv z (hz▸zAq hpz)
 have hb:=zBM (zDF hcz)
 intro m
 induction m with
 | zero =>
  intro n i d h1 h2 h3
  obtain ⟨n,rfl⟩:=ex1 ‹_<n›
  rw [List.drop_eq_nil_of_le (by omega)]
  show zBe _ _ _ _ _ _ _=_
  unfold zBe zEg
  rw [hc,hl,zw (df (by omega)),zV (z7 (by omega))]
  rfl
 | succ m ih =>
  intro n i d h1 h2 h3
  obtain ⟨n,rfl⟩:=ex1 ‹_<n›
  have hi:i<l.length:=by omega
  rw [zC1 hi]
  show zBe _ _ _ _ _ _ _=_
  unfold zBe
  rw [hc,hl,zAE (dt (by omega)),zV (zAF hi),zV (zAF hpz),hz,zV (zMv (z7 (by omega)))]
  unfold feL
  generalize at_ l (i:Int)=f at *
  have hin:((decide (f<z.start))||(decide ((z.start+z.count)≤f))) = !inZ z f:=by
   unfold inZ
   rw [Bool.eq_iff_iff]
   simp only [Bool.or_eq_true,decide_eq_true_eq,Bool.not_eq_true',Bool.and_eq_false_iff,decide_eq_false_iff_not]
   omega
  rw [hin]
  cases hq:inZ z f with
  | false=>rfl
  | true =>
   have hf:=zQI (zDF hcz) hq
   obtain ⟨g,rfl⟩:=Int.eq_ofNat_of_zero_le hf.1
   have hg:g<d.length:=by omega
   have ed:at_ d (g:Int)=d.getD g false:=by rw [zHD hg,List.getD_eq_getElem?_getD,List.getElem?_eq_getElem hg]; rfl
   rw [Bool.not_true,zw rfl,if_pos rfl,zV (zAF hg),ed,zX3 hkz.1,zYV,zV (z7 (by omega)),Int.toNat_natCast]
   cases hr:(d.getD g false||zLX z (g:Int)) with
   | true=>rfl
   | false =>
    rw [zw rfl,if_neg Bool.false_ne_true]
    exact ih n (i+1) _ (by omega) (by omega) (by rw [List.length_set]; exact h3)
theorem fl1 {se:Int→List Bool→Option Int} {c:zL} {j:Nat} (ha:Al a) (hv:∀ z,z∈a.zones→zEr z=0) (hj:j<a.caches.length) (hc:at_ a.caches (j:Int)=c) (hlen:c.lists.length=a.zones.length) :
  ∀ (m n p:Nat) (d:List Bool),p+m=c.lists.length→m<n→d.length=256 →
   zAZ se a (j:Int) n (p:Int) d=if (feC d (a.zones.drop p) (c.lists.drop p)).1=0 then se ((j+1:Nat):Int) (feC d (a.zones.drop p) (c.lists.drop p)).2 else some (feC d (a.zones.drop p) (c.lists.drop p)).1:=by
 have hcl:=ha.c
 have hck:=ha.ck c (hc▸zAq hj)
 have hn:=hck.n
 intro m
 induction m with
 | zero =>
  intro n p d h1 h2 h3
  obtain ⟨n,rfl⟩:=ex1 ‹_<n›
  rw [List.drop_eq_nil_of_le (show a.zones.length≤p by omega)]
  unfold feC
  show zBf _ _ _ _ _ _=_
  unfold zBf zEf
  rw [zw (df (by omega)),zV (z7 (by omega))]
  rfl
 | succ m ih =>
  intro n p d h1 h2 h3
  obtain ⟨n,rfl⟩:=ex1 ‹_<n›
  have hp:p<c.lists.length:=by omega
  have hpz:p<a.zones.length:=by omega
  have hll:=hck.l _ (zAq hp)
  have s2:=fl2 (se:=zAZ se a (j:Int) n) ha hv hc hpz rfl rfl hll (by omega) _ zAD 0 d (Nat.zero_add _) (by unfold zAD; omega) h3
  rw [List.drop_zero] at s2
  have ee:zAZ se a (j:Int) (n+1) (p:Int) d=zCT (zAZ se a (j:Int) n) a (j:Int) (p:Int) zAD ((0:Nat):Int) d:=by
   show zBf _ _ _ _ _ _=_
   unfold zBf
   rw [hc,zAE (dt (by omega)),zV (zAF hj),zV (zAF hp)]
   rfl
  rw [ee,s2,zC1 hp,zC1 hpz]
  unfold feC
  by_cases h0:(feL (at_ a.zones (p:Int)) d (at_ c.lists (p:Int))).1=0
  ·rw [if_pos h0,if_pos h0]
   exact ih n (p+1) _ (by omega) (by omega) (by rw [zMh]; exact h3)
  ·rw [if_neg h0,if_neg h0,if_neg h0]
theorem fl0 (ha:Al a) (hv:∀ z,z∈a.zones→zEr z=0) (hlen:∀ c,c∈a.caches→c.lists.length=a.zones.length) :
  ∀ (m n j:Nat) (d:List Bool),j+m=a.caches.length→m<n→d.length=256→zAP a n (j:Int) d=some (feA a.zones d (a.caches.drop j)):=by
 have hcl:=ha.c
 intro m
 induction m with
 | zero =>
  intro n j d h1 h2 h3
  obtain ⟨n,rfl⟩:=ex1 ‹_<n›
  show zBc _ _ _ _=_
  unfold zBc
  rw [zw (df (by omega)),List.drop_eq_nil_of_le (by omega)]
  rfl
 | succ m ih =>
  intro n j d h1 h2 h3
  obtain ⟨n,rfl⟩:=ex1 ‹_<n›
  have hj:j<a.caches.length:=by omega
  have hl:=hlen _ (zAq hj)
  have s2:=fl1 (se:=zAP a n) ha hv hj rfl hl _ zAD 0 d (Nat.zero_add _) (by have:=(ha.ck _ (zAq hj)).n; unfold zAD; omega) h3
  rw [List.drop_zero,List.drop_zero] at s2
  show zBc _ _ _ _=_
  unfold zBc
  rw [zAE (dt (by omega)),z0i,s2,zC1 hj]
  unfold feA
  by_cases h0:(feC d a.zones (at_ a.caches (j:Int)).lists).1=0
  ·rw [if_pos h0,if_pos h0]
   exact ih n (j+1) _ (by omega) (by omega) (by rw [zPC]; exact h3)
  ·rw [if_neg h0,if_neg h0]
theorem zRU:∀ {cs:List zL} {h zn:Int},cE h zn cs=0 → ∀ c,c∈cs→(c.lists.length:Int)=zn
 | [],_,_,_,_,hc=>absurd hc (by simp)
 | c::cs,h,zn,he,x,hx=>by
  unfold cE at he
  by_cases h0:pcR c zn=0
  ·rw [if_pos h0] at he
   split at he
   ·cases he
   ·rcases List.mem_cons.1 hx with rfl | hx
    ·exact (zTO h0).1
    ·exact zRU he x hx
  ·rw [if_neg h0] at he; exact absurd he h0
theorem zWw (ha:Al a):zAy a=some (zT0 a):=by
 have h1:=ha.n
 have h2:=ha.z
 have h3:=ha.c
 unfold zAy zT0
 rw [zR8 (by omega),zBR]
 cases zTp a.nodes a.batch a.high (a.zones.length:Int) with
 | false=>rfl
 | true =>
  have hz:=zl5 ha a.zones.length zAD 0 0 (by omega) (by unfold zAD; omega) (by omega)
  rw [List.drop_zero] at hz
  rw [Bool.not_true,zw rfl,if_pos rfl]
  refine Eq.trans hz ?_
  by_cases h0:zE 0 a.zones=0
  ·rw [if_pos h0,if_pos h0]
   obtain ⟨z1,z2⟩:=zTY h0
   unfold zDo
   by_cases hl:(a.caches.length:Int)=(a.nodes.length:Int)
   ·rw [dt hl,if_pos hl,Bool.not_true,zw rfl,z0i,hl3 ha a.caches.length zAD 0 (by omega) (by unfold zAD; omega),List.drop_zero]
    show (if cE a.high (a.zones.length:Int) a.caches=0 then _ else _)=some (if cE a.high (a.zones.length:Int) a.caches=0 then _ else _)
    by_cases hc:cE a.high (a.zones.length:Int) a.caches=0
    ·rw [if_pos hc,if_pos hc]
     unfold zDp
     rw [z0i,el0 ha (fun z hz=>(z1 z hz).1) z2 (fun c hm=>by have:=zRU hc c hm; omega) a.caches.length zAD 0 [] zE6 (by omega) (by unfold zAD; omega) zJV (fun f hf=>by
      unfold zE6 zMS
      rw [List.getD_eq_getElem?_getD,List.getElem?_replicate,if_pos hf]
      rfl),List.drop_zero]
    ·rw [if_neg hc,if_neg hc]
   ·rw [df hl,if_neg hl]
    rfl
  ·rw [if_neg h0,if_neg h0]
theorem zVQ (ha:Al a):zJT a=some (zT0 a):=by
 have h1:=ha.n
 have h2:=ha.z
 have h3:=ha.c
 unfold zJT zT0
 rw [zTu (by omega),zBR]
 cases zTp a.nodes a.batch a.high (a.zones.length:Int) with
 | false=>rfl
 | true =>
  have hz:=zr0 ha a.zones.length zAD 0 0 (by omega) (by unfold zAD; omega) (by omega)
  rw [List.drop_zero] at hz
  rw [Bool.not_true,zw rfl,if_pos rfl]
  refine Eq.trans hz ?_
  by_cases h0:zE 0 a.zones=0
  ·rw [if_pos h0,if_pos h0]
   obtain ⟨z1,z2⟩:=zTY h0
   unfold zGm zGM
   by_cases hl:(a.caches.length:Int)=(a.nodes.length:Int)
   ·rw [dt hl,if_pos hl,Bool.not_true,zw rfl,z0i,rl3 ha a.caches.length zAD 0 (by omega) (by unfold zAD; omega),List.drop_zero]
    show (if cE a.high (a.zones.length:Int) a.caches=0 then (_:Option Int) else _).bind _=some (if cE a.high (a.zones.length:Int) a.caches=0 then _ else _)
    by_cases hc:cE a.high (a.zones.length:Int) a.caches=0
    ·rw [if_pos hc,if_pos hc]
     unfold zC8 zGK
     rw [zV (by rfl),show List.replicate (256:Int).toNat false=zE6 from rfl,z0i,fl0 ha (fun z hz=>(z1 z hz).1) (fun c hm=>by have:=zRU hc c hm; omega) a.caches.length zAD 0 zE6 (by omega) (by unfold zAD; omega) zJV,List.drop_zero]
     rfl
    ·rw [if_neg hc,if_neg hc]
     rfl
   ·rw [df hl,if_neg hl]
    rfl
  ·rw [if_neg h0,if_neg h0]
end
end Go.Proofs.YtplkliakhdkpcaaGreat
namespace Go.Proofs.YtplkliakhdkpcaaGreat
open Go Go.RowKit Go.Wk Go.Am
section
variable {a:zJ}
structure Va (a:zJ):Prop where
 al:Al a
 z:zE 0 a.zones=0
 len:∀ c,c∈a.caches→c.lists.length=a.zones.length
 z1:1≤a.zones.length
theorem zWx (ha:Al a) (h:zT0 a=0):Va a:=by
 unfold zT0 at h
 split at h
 ·rename_i hf
  have h16:1≤a.zones.length:=by
   unfold zTp zJb at hf
   simp at hf
   omega
  split at h
  ·rename_i hz
   split at h
   ·rename_i hl
    split at h
    ·rename_i hc
     exact ⟨ha,hz,fun c hm=>by have:=zRU hc c hm; omega,h16⟩
    ·rename_i hc; exact absurd h hc
   ·cases h
  ·rename_i hz; exact absurd h hz
 ·cases h
theorem Va.chk (h:Va a) {z:zj} (hz:z∈a.zones):zEr z=0:=((zTY h.z).1 z hz).1
theorem zVR {f:Int} {l:List Int} (hl:l.length≤1000):∀ (m n i:Nat),i+m=l.length→m<n → ∃ r,zBA l f n (i:Int)=some r∧(0≤r↔f∈l.drop i):=by
 intro m
 induction m with
 | zero =>
  intro n i h1 h2
  obtain ⟨n,rfl⟩:=ex1 ‹_<n›
  refine ⟨-1,?_,?_⟩
  ·show zA8 _ _ _ _=_
   unfold zA8
   rw [zw (df (by omega))]
   rfl
  ·rw [List.drop_eq_nil_of_le (by omega)]
   simp
 | succ m ih =>
  intro n i h1 h2
  obtain ⟨n,rfl⟩:=ex1 ‹_<n›
  have hi:i<l.length:=by omega
  have ee:zBA l f (n+1) (i:Int)=cnd (decide (f=at_ l (i:Int))) (some (i:Int)) (zBA l f n ((i+1:Nat):Int)):=by
   show zA8 _ _ _ _=_
   unfold zA8
   rw [zAE (dt (by omega)),zV (zAF hi),zV (z7 (by omega))]
   rfl
  rw [ee,zC1 hi]
  by_cases h:f=at_ l (i:Int)
  ·rw [zAE (dt h)]
   exact ⟨_,rfl,⟨fun _=>by rw [h]; simp,fun _=>Int.natCast_nonneg i⟩⟩
  ·rw [zw (df h)]
   obtain ⟨r,r1,r2⟩:=ih n (i+1) (by omega) (by omega)
   exact ⟨r,r1,by rw [r2,List.mem_cons]; exact ⟨.inr,fun q=>q.resolve_left h⟩⟩
theorem contains {f:Int} {l:List Int} (hl:l.length≤1000):zBw l f=some (decide (f∈l)):=by
 unfold zBw zDk
 obtain ⟨r,r1,r2⟩:=zVR (f:=f) hl l.length zAD 0 (by omega) (by unfold zAD; omega)
 rw [List.drop_zero] at r2
 rw [z0i,r1,zBR]
 congr 1
 rw [decide_eq_decide]
 exact r2
def Gz (z:zj):Prop:=z.free.length=5∧inI z.start=true
theorem zX7 {z:zj}:∀ (m n k:Nat),k+m=5→m<n → ∃ b,zF5 z n (k:Int)=some b∧(b=true → ∀ j,k≤j→j<5→(lst z j).length≤300):=by
 intro m
 induction m with
 | zero =>
  intro n k h1 h2
  obtain ⟨n,rfl⟩:=ex1 ‹_<n›
  refine ⟨true,?_,fun _ j h3 h4=>by omega⟩
  show zFt _ _ _=_
  unfold zFt
  rw [zw (df (by omega))]
  rfl
 | succ m ih =>
  intro n k h1 h2
  obtain ⟨n,rfl⟩:=ex1 ‹_<n›
  have ee:zF5 z (n+1) (k:Int)=cnd (decide (300<((lst z k).length:Int))) (some false) (zF5 z n ((k+1:Nat):Int)):=by
   show zFt _ _ _=_
   unfold zFt
   rw [zAE (dt (by omega)),zV (zAF (by omega)),zV (z7 (by omega))]
   rfl
  rw [ee]
  by_cases h:300<((lst z k).length:Int)
  ·rw [zAE (dt h)]
   exact ⟨false,rfl,fun e=>by cases e⟩
  ·rw [zw (df h)]
   obtain ⟨b,b1,b2⟩:=ih n (k+1) (by omega) (by omega)
   refine ⟨b,b1,fun e j h3 h4 => ?_⟩
   by_cases hj:j=k
   ·rw [hj]; omega
   ·exact b2 e j (by omega) h4
theorem zYf {z:zj} (hg:Gz z):∃ b,zL8 z=some b∧(b=true→Zk z):=by
 obtain ⟨b,b1,b2⟩:=zX7 (z:=z) 5 zAD 0 (by omega) (by unfold zAD; omega)
 refine ⟨b,b1,fun e=>⟨hg.1,fun k => ?_⟩⟩
 rcases Nat.lt_or_ge k 5 with hk | hk
 ·have:=b2 e k (Nat.zero_le _) hk
  omega
 ·rw [zMR hg.1 hk]; simp
theorem zYA {c:zL} (hn:c.lists.length≤20):∀ (m n i:Nat),i+m=c.lists.length→m<n → ∃ b,zGG c n (i:Int)=some b∧(b=true → ∀ x,x∈c.lists.drop i→x.length≤300):=by
 intro m
 induction m with
 | zero =>
  intro n i h1 h2
  obtain ⟨n,rfl⟩:=ex1 ‹_<n›
  rw [List.drop_eq_nil_of_le (by omega)]
  refine ⟨true,?_,fun _ x hx=>absurd hx (by simp)⟩
  show zFo _ _ _=_
  unfold zFo
  rw [zw (df (by omega))]
  rfl
 | succ m ih =>
  intro n i h1 h2
  obtain ⟨n,rfl⟩:=ex1 ‹_<n›
  have hi:i<c.lists.length:=by omega
  have ee:zGG c (n+1) (i:Int)=cnd (decide (300<((at_ c.lists (i:Int)).length:Int))) (some false) (zGG c n ((i+1:Nat):Int)):=by
   show zFo _ _ _=_
   unfold zFo
   rw [zAE (dt (by omega)),zV (zAF hi),zV (z7 (by omega))]
   rfl
  rw [ee,zC1 hi]
  by_cases h:300<((at_ c.lists (i:Int)).length:Int)
  ·rw [zAE (dt h)]
   exact ⟨false,rfl,fun e=>by cases e⟩
  ·rw [zw (df h)]
   obtain ⟨b,b1,b2⟩:=ih n (i+1) (by omega) (by omega)
   refine ⟨b,b1,fun e x hx => ?_⟩
   rcases List.mem_cons.1 hx with rfl | hx
   ·omega
   ·exact b2 e x hx
theorem zYg {c:zL}:∃ b,zK9 c=some b∧(b=true→Ck c):=by
 unfold zK9
 by_cases h:20<(c.lists.length:Int)
 ·rw [zAE (dt h)]
  exact ⟨false,rfl,fun e=>by cases e⟩
 ·rw [zw (df h)]
  obtain ⟨b,b1,b2⟩:=zYA (c:=c) (by omega) c.lists.length zAD 0 (by omega) (by unfold zAD; omega)
  rw [List.drop_zero] at b2
  exact ⟨b,b1,fun e=>⟨by omega,fun x hx=>by have:=b2 e x hx; omega⟩⟩
theorem zXM (hn:a.caches.length≤20):∀ (m n i:Nat),i+m=a.caches.length→m<n → ∃ b,zFz a n (i:Int)=some b∧(b=true → ∀ x,x∈a.caches.drop i→Ck x):=by
 intro m
 induction m with
 | zero =>
  intro n i h1 h2
  obtain ⟨n,rfl⟩:=ex1 ‹_<n›
  rw [List.drop_eq_nil_of_le (by omega)]
  refine ⟨true,?_,fun _ x hx=>absurd hx (by simp)⟩
  show zFy _ _ _=_
  unfold zFy
  rw [zw (df (by omega))]
  rfl
 | succ m ih =>
  intro n i h1 h2
  obtain ⟨n,rfl⟩:=ex1 ‹_<n›
  have hi:i<a.caches.length:=by omega
  obtain ⟨b0,c1,c2⟩:=zYg (c:=at_ a.caches (i:Int))
  have ee:zFz a (n+1) (i:Int)=cnd (!b0) (some false) (zFz a n ((i+1:Nat):Int)):=by
   show zFy _ _ _=_
   unfold zFy
   rw [zAE (dt (by omega)),zV (zAF hi),c1,zBR,zV (z7 (by omega))]
   rfl
  rw [ee,zC1 hi]
  cases b0 with
  | false=>exact ⟨false,rfl,fun e=>by cases e⟩
  | true =>
   obtain ⟨b,b1,b2⟩:=ih n (i+1) (by omega) (by omega)
   refine ⟨b,b1,fun e x hx => ?_⟩
   rcases List.mem_cons.1 hx with rfl | hx
   ·exact c2 rfl
   ·exact b2 e x hx
theorem zWu (hg:∀ z,z∈a.zones→Gz z) (hz:a.zones.length≤20) (hn:a.caches.length≤20):∀ (m n i:Nat),i+m=a.zones.length→m<n → ∃ b,zF9 a n (i:Int)=some b∧(b=true→(∀ x,x∈a.zones.drop i→Zk x) ∧ ∀ x,x∈a.caches→Ck x):=by
 intro m
 induction m with
 | zero =>
  intro n i h1 h2
  obtain ⟨n,rfl⟩:=ex1 ‹_<n›
  obtain ⟨b,b1,b2⟩:=zXM hn a.caches.length zAD 0 (by omega) (by unfold zAD; omega)
  rw [List.drop_zero] at b2
  rw [List.drop_eq_nil_of_le (by omega)]
  refine ⟨b,?_,fun e=>⟨fun x hx=>absurd hx (by simp),b2 e⟩⟩
  show zGA _ _ _=_
  unfold zGA
  rw [zw (df (by omega))]
  exact b1
 | succ m ih =>
  intro n i h1 h2
  obtain ⟨n,rfl⟩:=ex1 ‹_<n›
  have hi:i<a.zones.length:=by omega
  obtain ⟨b0,c1,c2⟩:=zYf (hg _ (zAq hi))
  have ee:zF9 a (n+1) (i:Int)=cnd (!b0) (some false) (zF9 a n ((i+1:Nat):Int)):=by
   show zGA _ _ _=_
   unfold zGA
   rw [zAE (dt (by omega)),zV (zAF hi),c1,zBR,zV (z7 (by omega))]
   rfl
  rw [ee,zC1 hi]
  cases b0 with
  | false=>exact ⟨false,rfl,fun e=>by cases e⟩
  | true =>
   obtain ⟨b,b1,b2⟩:=ih n (i+1) (by omega) (by omega)
   refine ⟨b,b1,fun e=>⟨fun x hx => ?_,(b2 e).2⟩⟩
   rcases List.mem_cons.1 hx with rfl | hx
   ·exact c2 rfl
   ·exact (b2 e).1 x hx
theorem few (hg:∀ z,z∈a.zones→Gz z):∃ b,zK8 a=some b∧(b=true→Al a):=by
 unfold zK8
 by_cases h:(((decide (20<(a.nodes.length:Int)))||(decide (20<(a.zones.length:Int))))||(decide (20<(a.caches.length:Int))))=true
 ·rw [zAE h]
  exact ⟨false,rfl,fun e=>by cases e⟩
 ·rw [zw (Bool.eq_false_iff.2 h)]
  simp only [Bool.or_eq_true,decide_eq_true_eq] at h
  obtain ⟨b,b1,b2⟩:=zWu hg (by omega) (by omega) a.zones.length zAD 0 (by omega) (by unfold zAD; omega)
  rw [List.drop_zero] at b2
  exact ⟨b,b1,fun e=>⟨by omega,by omega,by omega,fun z hz=>⟨(b2 e).1 z hz,(hg z hz).2⟩,(b2 e).2⟩⟩
end
end Go.Proofs.YtplkliakhdkpcaaGreat
namespace Go.Proofs.YtplkliakhdkpcaaGreat
open Go Go.RowKit Go.Wk Go.Am
section
variable {z:zj} {k:Nat} {l:List Int}
theorem zNr (hr:ranges z=true) (hk:k<5) {g:Nat}:∀ (l:List Int) {s:List Int},s.length=256→(∀ f,f∈l→inside z f k=true) → ∀ x,x∈l→x≤(g:Int)→(g:Int)<x+2 ^ k→s.getD g 0+1≤(zI0 k s l).getD g 0
 | [],_,_,_,_,hx,_,_=>absurd hx (by simp)
 | y::l,s,hs,hin,x,hx,h1,h2=>by
  have hbd:=zAY hr (hin y (by simp))
  have pn:=zMb (k:=k) (by omega)
  have hg:=zK7 (2 ^ k) y.toNat s g (by rw [hs]; omega)
  unfold zI0
  rcases List.mem_cons.1 hx with rfl | hx
  ·rw [if_pos (by omega)] at hg
   have:=zKZ l k (zJ1 s x.toNat (2 ^ k)) g
   omega
  ·have hge:=zND (2 ^ k) y.toNat s g
   have:=zNr hr hk l (s:=zJ1 s y.toNat (2 ^ k)) (by rw [zK4]; exact hs) (fun f hf=>hin f (by simp [hf])) x hx h1 h2
   omega
theorem zOc (hr:ranges z=true) {g:Nat}:∀ (ls:List (List Int)) (k:Nat) {s:List Int},k+ls.length=5→s.length=256→(∀ j l,ls[j]?=some l → ∀ f,f∈l→inside z f (k+j)=true) → ∀ j l x,ls[j]?=some l→x∈l→x≤(g:Int)→(g:Int)<x+2 ^ (k+j)→s.getD g 0+1≤(zHu k s ls).getD g 0
 | [],_,_,_,_,_,_,_,_,hj,_,_,_=>absurd hj (by simp)
 | l0::ls,k,s,hk,hs,hin,j,l,x,hj,hx,h1,h2=>by
  have hk':k+(ls.length+1)=5:=hk
  unfold zHu
  cases j with
  | zero =>
   simp at hj
   subst hj
   have:=zNr (k:=k) hr (by omega) l0 hs (fun f hf=>by have:=hin 0 l0 rfl f hf; rwa [Nat.add_zero] at this) x hx h1 h2
   have:=zNt ls (k+1) (zI0 k s l0) g
   omega
  | succ j =>
   have hge:=zKZ l0 k s g
   have:=zOc hr ls (k+1) (s:=zI0 k s l0) (by omega) (by rw [zJE]; exact hs) (fun j' l' hj' f hf=>by
    have:=hin (j'+1) l' hj' f hf
    rwa [show k+(j'+1)=k+1+j' by omega] at this) j l x (by simpa using hj) hx h1 (by rw [show k+1+j=k+(j+1) by omega]; exact h2)
   omega
theorem zOd (hr:ranges z=true) {g:Nat}:∀ (ls:List (List Int)) (k:Nat) {s:List Int},k+ls.length=5→s.length=256→(∀ j l,ls[j]?=some l → ∀ f,f∈l→inside z f (k+j)=true) → ∀ i j l m x y,i<j→ls[i]?=some l→ls[j]?=some m→x∈l→y∈m→x≤(g:Int)→(g:Int)<x+2 ^ (k+i)→y≤(g:Int)→(g:Int)<y+2 ^ (k+j)→s.getD g 0+2≤(zHu k s ls).getD g 0
 | [],_,_,_,_,_,_,_,_,_,_,_,_,hi,_,_,_,_,_,_,_=>absurd hi (by simp)
 | l0::ls,k,s,hk,hs,hin,i,j,l,m,x,y,hij,hi,hj,hx,hy,h1,h2,h3,h4=>by
  have hk':k+(ls.length+1)=5:=hk
  have hin':∀ j' l',ls[j']?=some l' → ∀ f,f∈l'→inside z f (k+1+j')=true:=fun j' l' hj' f hf=>by
   have:=hin (j'+1) l' hj' f hf
   rwa [show k+(j'+1)=k+1+j' by omega] at this
  unfold zHu
  obtain ⟨j,rfl⟩:∃ q,j=q+1:=⟨j - 1,by omega⟩
  have hj':ls[j]?=some m:=by simpa using hj
  cases i with
  | zero =>
   simp at hi
   subst hi
   have a1:=zNr (k:=k) hr (by omega) l0 hs (fun f hf=>by have:=hin 0 l0 rfl f hf; rwa [Nat.add_zero] at this) x hx h1 h2
   have a2:=zOc hr ls (k+1) (s:=zI0 k s l0) (by omega) (by rw [zJE]; exact hs) hin' j m y hj' hy h3 (by rw [show k+1+j=k+(j+1) by omega]; exact h4)
   omega
  | succ i =>
   have hge:=zKZ l0 k s g
   have:=zOd hr ls (k+1) (s:=zI0 k s l0) (by omega) (by rw [zJE]; exact hs) hin' i j l m x y (by omega) (by simpa using hi) hj' hx hy h1 (by rw [show k+1+i=k+(i+1) by omega]; exact h2) h3 (by rw [show k+1+j=k+(j+1) by omega]; exact h4)
   omega
theorem zPN (l0:List Int):∀ r:List Int,zQw z k l0 r=true ↔ ∃ f,f∈r∧bud f k∈l0∧inside z (min f (bud f k)) (k+1)=true
 | []=>by unfold zQw; simp
 | f::r=>by
  unfold zQw
  by_cases h:(decide (bud f k∈l0)&&inside z (min f (bud f k)) (k+1))=true
  ·rw [if_pos h]
   simp only [Bool.and_eq_true,decide_eq_true_eq] at h
   exact ⟨fun _=>⟨f,by simp,h.1,h.2⟩,fun _=>rfl⟩
  ·rw [if_neg h,zPN l0 r]
   simp only [Bool.and_eq_true,decide_eq_true_eq] at h
   constructor
   ·rintro ⟨g,h1,h2⟩; exact ⟨g,by simp [h1],h2⟩
   ·rintro ⟨g,h1,h2,h3⟩
    rcases List.mem_cons.1 h1 with rfl | h1
    ·exact absurd ⟨h2,h3⟩ h
    ·exact ⟨g,h1,h2,h3⟩
theorem zRV:∀ (ls:List (List Int)) (k:Nat),zMZ z k ls=false → ∀ j l,ls[j]?=some l→zQw z (k+j) l l=false
 | [],_,_,_,_,hj=>absurd hj (by simp)
 | l0::ls,k,h,j,l,hj=>by
  unfold zMZ at h
  split at h
  ·cases h
  ·rename_i h0
   cases j with
   | zero =>
    simp at hj
    subst hj
    exact Bool.eq_false_iff.2 h0
   | succ j =>
    have:=zRV ls (k+1) h j l (by simpa using hj)
    rwa [show k+1+j=k+(j+1) by omega] at this
theorem zKU (hz:Zk z) (h:zEr z=0):OkZ z ∧ ∀ g:Nat,(zO6 z).getD g 0=0∨(zO6 z).getD g 0=1:=by
 obtain ⟨hr,hin,hs⟩:=zGw hz h
 have hm:=zYY hz hr hin
 have hc:zFE z 0 z.free=0 ∧ ¬ zI2 0 zE6 z.free=none∧zMZ z 0 (z.free.take 4)=false:=by
  have h':=h
  unfold zEr at h'
  rw [if_neg (by rw [hr]; simp)] at h'
  by_cases h0:zFE z 0 z.free=0
  ·rw [if_pos h0] at h'
   by_cases h1:zI2 0 zE6 z.free=none
   ·rw [if_pos h1] at h'; cases h'
   ·rw [if_neg h1] at h'
    by_cases h2:zMZ z 0 (z.free.take 4)=true
    ·rw [if_pos h2] at h'; cases h'
    ·exact ⟨h0,h1,Bool.eq_false_iff.2 h2⟩
  ·rw [if_neg h0] at h'; exact absurd h' h0
 have h01:∀ g:Nat,(zO6 z).getD g 0=0∨(zO6 z).getD g 0=1:=by
  cases hd:zI2 0 zE6 z.free with
  | none=>exact absurd hd hc.2.1
  | some d =>
   rw [hd] at hm
   intro g
   cases hb:d.getD g false with
   | true=>exact .inr (hm.t g hb)
   | false=>exact .inl (hm.f g hb)
 have hin':∀ j l,z.free[j]?=some l → ∀ f,f∈l→inside z f (0+j)=true:=fun j l hj f hf=>by
  have hj5:j<5:=by rw [← hz.len]; exact (List.getElem?_eq_some_iff.1 hj).1
  rw [hz.get hj5] at hj
  cases hj
  rw [Nat.zero_add]
  exact hin j hj5 f hf
 have lt5:∀ {k x},x∈lst z k→k<5:=fun {k x} hx=>by
  rcases Nat.lt_or_ge k 5 with hk | hk
  ·exact hk
  ·rw [zMR hz.len hk] at hx; exact absurd hx (by simp)
 have two:∀ k j x y f,k<j→x∈lst z k→y∈lst z j→x≤f→f<x+2 ^ k→y≤f→f<y+2 ^ j→False:=by
  intro k j x y f hkj hx hy h1 h2 h3 h4
  have hb:=zAY hr (hin k (lt5 hx) x hx)
  obtain ⟨g,rfl⟩:=Int.eq_ofNat_of_zero_le (show 0≤f by omega)
  have:=zOd hr (g:=g) z.free 0 (s:=List.replicate 256 0) (by rw [hz.len]) (by rw [List.length_replicate]) hin' k j _ _ x y hkj (hz.get (lt5 hx)) (hz.get (lt5 hy)) hx hy h1 (by rw [Nat.zero_add]; exact h2) h3 (by rw [Nat.zero_add]; exact h4)
  have h0:(List.replicate 256 (0:Int)).getD g 0=0:=by
   rw [List.getD_eq_getElem?_getD,List.getElem?_replicate]
   split <;> rfl
  rw [h0] at this
  have hc2:(zO6 z).getD g 0=(zHu 0 (List.replicate 256 0) z.free).getD g 0:=rfl
  rcases h01 g with e | e <;> omega
 refine ⟨⟨hr,hz.len,hs,fun k x hx=>hin k (lt5 hx) x hx,fun k x j y f hx hy h1 h2 h3 h4 => ?_,fun k x hk hx hb => ?_⟩,h01⟩
 ·rcases Nat.lt_trichotomy k j with hkj | hkj | hkj
  ·exact (two k j x y f hkj hx hy h1 h2 h3 h4).elim
  ·subst hkj
   have b1:=zAY hr (hin k (lt5 hx) x hx)
   have b2:=zAY hr (hin k (lt5 hy) y hy)
   obtain ⟨g,rfl⟩:=Int.eq_ofNat_of_zero_le (show 0≤f by omega)
   have e1:=(zOj (f:=g) (lt5 hx) b1.1 ((zBT hr).1 (hin k (lt5 hx) x hx)).2.1).1 ⟨h1,h2⟩
   have e2:=(zOj (f:=g) (lt5 hy) b2.1 ((zBT hr).1 (hin k (lt5 hy) y hy)).2.1).1 ⟨h3,h4⟩
   exact ⟨rfl,by omega⟩
  ·exact (two j k y x f hkj hy hx h3 h4 h1 h2).elim
 ·have hn:=zRV (z.free.take 4) 0 hc.2.2 k _ (zMF (hz.get (k:=k) (by omega)) hk)
  rw [Nat.zero_add] at hn
  refine Bool.eq_false_iff.2 fun hi => ?_
  have:=(zPN (z:=z) (k:=k) (lst z k) (lst z k)).2 ⟨x,hx,hb,hi⟩
  rw [hn] at this
  cases this
theorem zLw (h:l.length≤1000000):zA0 l=some l:=by
 unfold zA0
 rw [zV (dt (by show (0+_)*8≤_; omega))]
theorem zQP (hz:Zk z):∀ (m n i:Nat),i+m=5→m<n→zGn z n (i:Int) z.free=some z:=by
 intro m
 induction m with
 | zero =>
  intro n i h1 h2
  obtain ⟨n,rfl⟩:=ex1 ‹_<n›
  show zEX _ _ _ _=_
  unfold zEX zIB
  rw [zw (df (by omega)),zV (dt (by omega))]
 | succ m ih =>
  intro n i h1 h2
  obtain ⟨n,rfl⟩:=ex1 ‹_<n›
  have hlen:=hz.len
  have e:z.free.getD (i:Int).toNat []=lst z i:=rfl
  have e3:zEc 5 [] z.free (i:Int).toNat (lst z i)=z.free:=by
   rw [zKc hlen (by omega)]
   exact zJf (by omega)
  show zEX _ _ _ _=_
  unfold zEX
  rw [zAE (dt (by omega)),zV (zAF (by omega)),e,zLw (hz.bd i),zBR,zV (z7 (by omega)),e3]
  exact ih n (i+1) (by omega) (by omega)
theorem zUt (hz:Zk z):zJR z=some z:=zQP hz 5 zAD 0 (by omega) (by unfold zAD; omega)
theorem zWf (hz:Zk z) (h:zEr z=0) {m:Nat} (hm:m<256):∃ r,zHw z (m:Int)=some r∧(0≤r.1↔cov z m):=by
 obtain ⟨hr,hin,_⟩:=zGw hz h
 obtain ⟨r,r1,r2⟩:=zRI hz h hm 5 zAD 0 (by omega) (by unfold zAD; omega)
 refine ⟨r,r1,r2.trans ?_⟩
 constructor
 ·rintro ⟨j,_,hj,hm⟩
  have hbj:=zAY hr (hin j hj _ hm)
  have haj:=(zBT hr).1 (hin j hj _ hm)
  have:=(zOj (f:=m) hj hbj.1 haj.2.1).2 rfl
  exact ⟨j,_,hm,this.1,this.2⟩
 ·rintro ⟨j,x,hx,h1,h2⟩
  rcases Nat.lt_or_ge j 5 with hj | hj
  ·have hbj:=zAY hr (hin j hj _ hx)
   have haj:=(zBT hr).1 (hin j hj _ hx)
   have:=(zOj (f:=m) hj hbj.1 haj.2.1).1 ⟨h1,h2⟩
   exact ⟨j,Nat.zero_le _,hj,this▸hx⟩
  ·rw [zMR hz.len hj] at hx; exact absurd hx (by simp)
theorem zVX (hz:Zk z) (h:zEr z=0) {f:Int} (hk:k≤4) (hi:inside z f k=true) (hn:∀ g,f≤g→g<f+2 ^ k → ¬ cov z g):∀ (m n i:Nat),(i:Int)+m=f+2 ^ k→m<n→f≤i →
  zHM z f (k:Int) n (i:Int)=some (zOD (4 - k) z f k,0):=by
 obtain ⟨hr,hin,_⟩:=zGw hz h
 have hb:=zAY hr hi
 obtain ⟨e,p1,p2⟩:=zJw (k:=k) (by omega)
 intro m
 induction m with
 | zero =>
  intro n i h1 h2 h3
  obtain ⟨n,rfl⟩:=ex1 ‹_<n›
  show zEw _ _ _ _ _=_
  unfold zEw zI8
  rw [e,zV (zNQ (by omega)),zV (z7 (by omega)),zV (z7 (by omega)),zw (df (by omega)),zUt hz,zBR]
  show ((zKH z f (k:Int)).bind _)=_
  rw [zW8 (zKU hz h).1.putI hk hb.1 (by omega),zBR]
 | succ m ih =>
  intro n i h1 h2 h3
  obtain ⟨n,rfl⟩:=ex1 ‹_<n›
  obtain ⟨r,r1,r2⟩:=zWf hz h (m:=i) (by omega)
  show zEw _ _ _ _ _=_
  unfold zEw
  rw [e,zV (zNQ (by omega)),zV (z7 (by omega)),zV (z7 (by omega)),zAE (dt (by omega)),r1,zBR,zw (df (fun hq=>hn i h3 (by omega) (r2.1 hq))),zV (z7 (by omega))]
  exact ih n (i+1) (by omega) (by omega) (by omega)
theorem zUe (hz:Zk z) (hI:inI z.start=true) (h:zEr z=0) {f:Int} (hk:k≤4) (hi:inside z f k=true) (hn:∀ g,f≤g→g<f+2 ^ k → ¬ cov z g):zI9 z f (k:Int)=some (zOD (4 - k) z f k,0):=by
 obtain ⟨hr,hin,_⟩:=zGw hz h
 have hb:=zAY hr hi
 obtain ⟨e,p1,p2⟩:=zJw (k:=k) (by omega)
 have pn:=zMb (k:=k) (by omega)
 obtain ⟨m,rfl⟩:=Int.eq_ofNat_of_zero_le hb.1
 unfold zI9
 rw [zP3 hz hI,zBR,dt h,Bool.not_true,zw rfl,df (p:=(k:Int)<0) (by omega),df (p:=4<(k:Int)) (by omega),zK0 hr (by omega),hi]
 refine (congrArg (fun q=>Option.bind q _) (zAE (by rfl))).trans ?_
 rw [zBR]
 refine (zw (by rfl)).trans ?_
 exact zVX hz h hk hi hn (2 ^ k) zAD m (by omega) (by unfold zAD; omega) (by omega)
theorem zWC (hz:Zk z) (h:zEr z=0) {f:Int} (hk:k≤4) (hi:inside z f k=true) (hn:∀ g,f≤g→g<f+2 ^ k → ¬ cov z g):∀ (m n i:Nat) (s:List Int),(i:Int)+m=f+2 ^ k→m<n→f≤i→s.length=256 →
  (∀ g:Nat,s.getD g 0=if f≤(g:Int)∧(g:Int)<i then 1 else (zO6 z).getD g 0)→zHS z f (k:Int) n (i:Int) s=some (zOD (4 - k) z f k,0):=by
 obtain ⟨hr,hin,_⟩:=zGw hz h
 have hb:=zAY hr hi
 obtain ⟨e,p1,p2⟩:=zJw (k:=k) (by omega)
 obtain ⟨ho,h01⟩:=zKU hz h
 intro m
 induction m with
 | zero =>
  intro n i s h1 h2 h3 h4 h5
  obtain ⟨n,rfl⟩:=ex1 ‹_<n›
  obtain ⟨q1,q2,q3⟩:=OkZ.put (4 - k) (k:=k) (by omega) ho hi hn
  have hw:=zTM (z:=z) (s:=s) h4 q1 q3 (fun g=>by
   rw [q2]
   constructor
   ·intro hg
    have hgb:z.start≤g∧g<z.start+z.count∧0≤g:=by
     rcases hg with ⟨j,x,hx,x1,x2⟩ | hg
     ·have:=zAY hr (ho.ins j x hx)
      omega
     ·omega
    obtain ⟨q,rfl⟩:=Int.eq_ofNat_of_zero_le hgb.2.2
    refine ⟨hgb.1,hgb.2.1,?_⟩
    rw [Int.toNat_natCast,h5]
    split
    ·decide
    ·rename_i hne
     rcases hg with hg | hg
     ·have:=(zLk hz hr hin q).2 hg
      omega
     ·exact absurd ⟨hg.1,by omega⟩ hne
   ·rintro ⟨g1,g2,g3⟩
    have hrb:=zBM hr
    obtain ⟨q,rfl⟩:=Int.eq_ofNat_of_zero_le (show 0≤g by omega)
    rw [Int.toNat_natCast,h5] at g3
    split at g3
    ·rename_i hq
     exact .inr ⟨hq.1,by omega⟩
    ·rcases h01 q with e0 | e0
     ·exact absurd e0 g3
     ·exact .inl ((zLk hz hr hin q).1 (by omega)))
  show zFB _ _ _ _ _ _=_
  unfold zFB zI6
  rw [e,zV (dt (zHR (by omega) (by omega))),zV (zNQ (by omega)),zV (z7 (by omega)),zV (z7 (by omega)),zw (df (by omega)),hw,zBR,zBR]
 | succ m ih =>
  intro n i s h1 h2 h3 h4 h5
  obtain ⟨n,rfl⟩:=ex1 ‹_<n›
  have hil:i<s.length:=by omega
  have ea:at_ s (i:Int)=s.getD i 0:=by rw [zHD hil,List.getD_eq_getElem?_getD,List.getElem?_eq_getElem hil]; rfl
  have h0:s.getD i 0=0:=by
   rw [h5,if_neg (by omega)]
   rcases h01 i with e0 | e0
   ·exact e0
   ·exact absurd ((zLk hz hr hin i).1 (by omega)) (hn i h3 (by omega))
  show zFB _ _ _ _ _ _=_
  unfold zFB
  rw [e,zV (dt (zHR (by omega) (by omega))),zV (zNQ (by omega)),zV (z7 (by omega)),zV (z7 (by omega)),zAE (dt (by omega)),zV (zAF hil),ea,h0,zw (by rfl),zV (z7 (by omega))]
  refine ih n (i+1) _ (by omega) (by omega) (by omega) (by rw [List.length_set]; exact h4) (fun g => ?_)
  rw [Int.toNat_natCast,zV8 s i g hil,h5]
  by_cases hg:g=i
  ·rw [if_pos hg,if_pos (by omega)]
  ·rw [if_neg hg]
   by_cases hq:f≤(g:Int)∧(g:Int)<i
   ·rw [if_pos hq,if_pos (by omega)]
   ·rw [if_neg hq,if_neg (by omega)]
theorem zT6 (hz:Zk z) (h:zEr z=0) {f:Int} (hk:k≤4) (hi:inside z f k=true) (hn:∀ g,f≤g→g<f+2 ^ k → ¬ cov z g):zJA z f (k:Int)=some (zOD (4 - k) z f k,0):=by
 obtain ⟨hr,hin,_⟩:=zGw hz h
 have hb:=zAY hr hi
 obtain ⟨e,p1,p2⟩:=zJw (k:=k) (by omega)
 have pn:=zMb (k:=k) (by omega)
 obtain ⟨m,rfl⟩:=Int.eq_ofNat_of_zero_le hb.1
 unfold zJA
 rw [zRZ hz,zBR,dt h,Bool.not_true,zw rfl,zL0 hr hk,zBR,hi,Bool.not_true,zw rfl,zQ8 hz hr hin,zBR]
 exact zWC hz h hk hi hn (2 ^ k) zAD m (zO6 z) (by omega) (by unfold zAD; omega) (by omega) zPB (fun g=>by rw [if_neg (by omega)])
end
end Go.Proofs.YtplkliakhdkpcaaGreat
namespace Go.Proofs.YtplkliakhdkpcaaGreat
open Go Go.RowKit Go.Wk Go.Am
section
variable {z:zj} {k:Nat} {l:List Int}
theorem zRF:∀ (m i:Nat) (s:List Bool),i+m≤s.length→(∀ g,i≤g→g<i+m→s.getD g false=false) → ∃ s',zMz s i m=some s'∧s'.length=s.length ∧ ∀ g,s'.getD g false=true→s.getD g false=true∨(i≤g∧g<i+m)
 | 0,i,s,_,_=>⟨s,rfl,rfl,fun g h => .inl h⟩
 | m+1,i,s,h,hf=>by
  obtain ⟨s',h1,h2,h3⟩:=zRF m (i+1) (s.set i true) (by rw [List.length_set]; omega) (fun g g1 g2=>by
   rw [zCE _ _ _ (by omega),if_neg (by omega)]; exact hf g (by omega) (by omega))
  refine ⟨s',?_,by rw [h2,List.length_set],fun g hg => ?_⟩
  ·unfold zMz
   rw [if_neg (by rw [hf i (by omega) (by omega)]; simp)]
   exact h1
  ·rcases h3 g hg with h4 | h4
   ·rw [zCE _ _ _ (by omega)] at h4
    split at h4
    ·exact .inr (by omega)
    ·exact .inl h4
   ·exact .inr (by omega)
theorem zRi (hk:k≤4):∀ (l:List Int) (s:List Bool),s.length=256→(∀ x,x∈l→0≤x∧x+2 ^ k≤256)→Srt l→(∀ x y f,x∈l→y∈l→x≤f→f<x+2 ^ k→y≤f→f<y+2 ^ k→x=y)→(∀ x,x∈l → ∀ g:Nat,x≤(g:Int)→(g:Int)<x+2 ^ k→s.getD g false=false) →
  ∃ s',zMm k s l=some s'∧s'.length=256 ∧ ∀ g:Nat,s'.getD g false=true→s.getD g false=true ∨ ∃ x,x∈l∧x≤(g:Int)∧(g:Int)<x+2 ^ k
 | [],s,hs,_,_,_,_=>⟨s,rfl,hs,fun g h => .inl h⟩
 | x::l,s,hs,hb,ho,hd,hf=>by
  have hx:=hb x (by simp)
  have pn:=zMb (k:=k) (by omega)
  obtain ⟨s1,h1,h2,h3⟩:=zRF (2 ^ k) x.toNat s (by omega) (fun g g1 g2=>hf x (by simp) g (by omega) (by omega))
  have hno:=List.pairwise_cons.1 ho
  obtain ⟨s2,q1,q2,q3⟩:=zRi hk l s1 (by omega) (fun y hy=>hb y (by simp [hy])) hno.2 (fun a b f ha hb'=>hd a b f (by simp [ha]) (by simp [hb'])) (fun y hy g g1 g2=>by
   cases hq:s1.getD g false with
   | false=>rfl
   | true =>
    rcases h3 g hq with h4 | h4
    ·rw [hf y (by simp [hy]) g g1 g2] at h4; cases h4
    ·have:=hd x y g (by simp) (by simp [hy]) (by omega) (by omega) g1 g2
     have:=hno.1 y hy
     omega)
  refine ⟨s2,?_,q2,fun g hg => ?_⟩
  ·unfold zMm
   rw [h1]
   exact q1
  ·rcases q3 g hg with h4 | ⟨y,hy,h4⟩
   ·rcases h3 g h4 with h5 | h5
    ·exact .inl h5
    ·exact .inr ⟨x,by simp,by omega,by omega⟩
   ·exact .inr ⟨y,by simp [hy],h4⟩
theorem zPn:∀ (ls:List (List Int)) (k:Nat) (s:List Bool),k+ls.length≤5→s.length=256→(∀ j l,ls[j]?=some l→Srt l ∧ ∀ x,x∈l→0≤x∧x+2 ^ (k+j)≤256) →
  (∀ i j l m x y f,ls[i]?=some l→ls[j]?=some m→x∈l→y∈m→x≤f→f<x+2 ^ (k+i)→y≤f→f<y+2 ^ (k+j)→i=j∧x=y) →
  (∀ j l,ls[j]?=some l → ∀ x,x∈l → ∀ g:Nat,x≤(g:Int)→(g:Int)<x+2 ^ (k+j)→s.getD g false=false)→zI2 k s ls≠none
 | [],k,s,_,_,_,_,_=>by unfold zI2; simp
 | l::ls,k,s,hk,hs,hb,hd,hf=>by
  have hk':k+(ls.length+1)≤5:=hk
  have hb0:=hb 0 l rfl
  obtain ⟨s1,h1,h2,h3⟩:=zRi (k:=k) (by omega) l s hs hb0.2 hb0.1 (fun x y f hx hy a1 a2 a3 a4=>(hd 0 0 l l x y f rfl rfl hx hy a1 a2 a3 a4).2) (hf 0 l rfl)
  unfold zI2
  rw [h1]
  refine zPn ls (k+1) s1 (by omega) h2 (fun j m hj => ?_) (fun i j a b x y f hi hj hx hy a1 a2 a3 a4 => ?_) (fun j m hj x hx g g1 g2 => ?_)
  ·have:=hb (j+1) m (by simpa using hj)
   rwa [show k+(j+1)=k+1+j by omega] at this
  ·have:=hd (i+1) (j+1) a b x y f (by simpa using hi) (by simpa using hj) hx hy a1 (by rwa [show k+(i+1)=k+1+i by omega]) a3 (by rwa [show k+(j+1)=k+1+j by omega])
   exact ⟨by omega,this.2⟩
  ·cases hq:s1.getD g false with
   | false=>rfl
   | true =>
    have g2':(g:Int)<x+2 ^ (k+(j+1)):=by rwa [show k+(j+1)=k+1+j by omega]
    rcases h3 g hq with h4 | ⟨y,hy,h4,h5⟩
    ·rw [hf (j+1) m (by simpa using hj) x hx g g1 g2'] at h4; cases h4
    ·have:=(hd 0 (j+1) l m y x g rfl (by simpa using hj) hy hx h4 h5 g1 g2').1
     omega
theorem zTh:∀ (l:List Int) (p:Option Int),(∀ f,f∈l→inside z f k=true)→Srt l→(∀ q f,p=some q→f∈l→q<f)→zKq z k p l=0
 | [],_,_,_,_=>by unfold zKq; rfl
 | x::l,p,hi,hs,hp=>by
  have hno:=List.pairwise_cons.1 hs
  unfold zKq
  rw [if_neg (by rw [hi x (by simp)]; simp),if_neg]
  ·exact zTh l (some x) (fun f hf=>hi f (by simp [hf])) hno.2 (fun q f hq hf=>by cases hq; exact hno.1 f hf)
  ·cases p with
   | none=>unfold geP; simp
   | some q =>
    have:=hp q x rfl (by simp)
    unfold geP
    simp
    omega
theorem zRe:∀ (ls:List (List Int)) (k:Nat),(∀ j l,ls[j]?=some l→(∀ f,f∈l→inside z f (k+j)=true)∧Srt l)→zFE z k ls=0
 | [],_,_=>by unfold zFE; rfl
 | l::ls,k,h=>by
  have h0:=h 0 l rfl
  rw [Nat.add_zero] at h0
  unfold zFE
  rw [zTh l none h0.1 h0.2 (fun q f hq=>by cases hq),if_pos rfl]
  exact zRe ls (k+1) (fun j m hj=>by
   have:=h (j+1) m (by simpa using hj)
   rwa [show k+(j+1)=k+1+j by omega] at this)
theorem zRY:∀ (ls:List (List Int)) (k:Nat),(∀ j l,ls[j]?=some l→zQw z (k+j) l l=false)→zMZ z k ls=false
 | [],_,_=>by unfold zMZ; rfl
 | l::ls,k,h=>by
  unfold zMZ
  rw [if_neg (by have:=h 0 l rfl; rw [Nat.add_zero] at this; rw [this]; simp)]
  exact zRY ls (k+1) (fun j m hj=>by
   have:=h (j+1) m (by simpa using hj)
   rwa [show k+(j+1)=k+1+j by omega] at this)
theorem zFv (h:OkZ z):zEr z=0:=by
 have hl:∀ (j:Nat) (l:List Int),z.free[j]?=some l→j<5∧l=lst z j:=fun j l hl=>by
  have hj:j<5:=by have:=(List.getElem?_eq_some_iff.1 hl).1; rw [h.len] at this; exact this
  rw [zKj h.len hj] at hl
  cases hl
  exact ⟨hj,rfl⟩
 unfold zEr
 rw [if_neg (by rw [h.ranges]; simp),if_pos (zRe z.free 0 fun j l hj=>by obtain ⟨_,rfl⟩:=hl j l hj; rw [Nat.zero_add]; exact ⟨h.ins j,h.srt j⟩),if_neg,if_neg]
 ·rw [zRY (z.free.take 4) 0]
  ·simp
  ·intro j l hj
   have hj4:j<4:=by have:=(List.getElem?_eq_some_iff.1 hj).1; rw [List.length_take] at this; omega
   rw [List.getElem?_take,if_pos hj4] at hj
   obtain ⟨_,rfl⟩:=hl j l hj
   rw [Nat.zero_add]
   refine Bool.eq_false_iff.2 fun hh => ?_
   obtain ⟨f,f1,f2,f3⟩:=(zPN (lst z j) (lst z j)).1 hh
   rw [h.can j f hj4 f1 f2] at f3
   cases f3
 ·refine zPn z.free 0 zE6 (by rw [h.len]; omega) zJV (fun j l hj => ?_) (fun i j a b x y f hi hj hx hy a1 a2 a3 a4 => ?_) (fun j l hj x hx g _ _ => ?_)
  ·obtain ⟨_,rfl⟩:=hl j l hj
   rw [Nat.zero_add]
   exact ⟨h.srt j,fun x hx=>⟨(h.bds (h.ins j x hx)).1,(h.bds (h.ins j x hx)).2.1⟩⟩
  ·obtain ⟨_,rfl⟩:=hl i a hi
   obtain ⟨_,rfl⟩:=hl j b hj
   rw [Nat.zero_add] at a2 a4
   exact h.dis i x j y f hx hy a1 a2 a3 a4
  ·unfold zE6
   rw [List.getD_eq_getElem?_getD,List.getElem?_replicate]
   split <;> rfl
theorem OkZ.zk (h:OkZ z):Zk z:=⟨h.len,fun k=>by have:=h.putI.len' k; omega⟩
theorem OkZ.inI (h:OkZ z):inI z.start=true:=by have:=zBM h.ranges; exact z7 (by omega)
def zMI (z:zj):List Int→zj
 | []=>z
 | f::r=>zMI (zOD 4 z f 0) r
theorem zPK:∀ (l:List Int) {z:zj},OkZ z→(∀ f,f∈l→inside z f 0=true ∧ ¬ cov z f)→l.Nodup→OkZ (zMI z l)∧(∀ g,cov (zMI z l) g↔cov z g∨g∈l)∧zHB (zMI z l) z
 | [],z,h,_,_=>⟨h,fun g=>by unfold zMI; simp,⟨rfl,rfl,rfl,rfl,rfl⟩⟩
 | f::r,z,h,hi,hn=>by
  have hf:=hi f (by simp)
  have hnd:=List.nodup_cons.1 hn
  obtain ⟨h1,h2,h3⟩:=OkZ.put 4 (k:=0) (by omega) h hf.1 (fun g g1 g2=>by
   rw [pw0] at g2
   have:g=f:=by omega
   rw [this]; exact hf.2)
  obtain ⟨q1,q2,q3⟩:=zPK r h1 (fun g hg=>by
   refine ⟨by rw [h3.inside]; exact (hi g (by simp [hg])).1,fun hc => ?_⟩
   rcases (h2 g).1 hc with hc | hc
   ·exact (hi g (by simp [hg])).2 hc
   ·rw [pw0] at hc
    have:g=f:=by omega
    exact hnd.1 (this▸hg)) hnd.2
  refine ⟨q1,fun g => ?_,q3.trans h3⟩
  show cov (zMI (zOD 4 z f 0) r) g↔_
  rw [q2 g,h2 g,pw0,List.mem_cons]
  constructor
  ·rintro ((h | h) | h)
   ·exact .inl h
   ·exact .inr (.inl (by omega))
   ·exact .inr (.inr h)
  ·rintro (h | h | h)
   ·exact .inl (.inl h)
   ·exact .inl (.inr (by omega))
   ·exact .inr h
end
end Go.Proofs.YtplkliakhdkpcaaGreat
namespace Go.Proofs.YtplkliakhdkpcaaGreat
open Go Go.RowKit Go.Wk Go.Am
section
variable {a:zJ}
theorem zKu {α:Type} [Inhabited α] {l:List α} {i:Nat} (h:i<l.length):l.set i (at_ l (i:Int))=l:=by
 rw [zHD h]
 exact List.set_getElem_self h
theorem zYj {se:Int→List zj→Option zJ} {zs:List zj} {j:Nat} (hj:j<zs.length) (hl:zs.length≤1000) (hz:Zk (at_ zs (j:Int))):∀ (m n k:Nat),k+m=5→m<n→zCv se (j:Int) n (k:Int) zs=se ((j+1:Nat):Int) zs:=by
 intro m
 induction m with
 | zero =>
  intro n k h1 h2
  obtain ⟨n,rfl⟩:=ex1 ‹_<n›
  show zCS _ _ _ _ _=_
  unfold zCS zFZ
  rw [zw (df (by omega)),zV (z7 (by omega))]
  rfl
 | succ m ih =>
  intro n k h1 h2
  obtain ⟨n,rfl⟩:=ex1 ‹_<n›
  have hlen:=hz.len
  have e:(at_ zs (j:Int)).free.getD (k:Int).toNat []=lst (at_ zs (j:Int)) k:=rfl
  have e3:zEc 5 [] (at_ zs (j:Int)).free (k:Int).toNat (lst (at_ zs (j:Int)) k)=(at_ zs (j:Int)).free:=by
   rw [zKc hlen (by omega)]
   exact zJf (by omega)
  show zCS _ _ _ _ _=_
  unfold zCS
  rw [zAE (dt (by omega)),zV (zAF hj),zV (zAF (by omega)),e,zLw (hz.bd k),zBR,zV (z7 (by omega)),e3]
  have e4:zs.set (j:Int).toNat (at_ zs (j:Int))=zs:=zKu hj
  show zCv se (j:Int) n ((k:Int)+1) (zs.set (j:Int).toNat (at_ zs (j:Int)))=_
  rw [e4]
  exact ih n (k+1) (by omega) (by omega)
theorem zYi {se:Int→List zL→Option zJ} {cs:List zL} {j:Nat} (hj:j<cs.length) (hl:cs.length≤1000) (hc:Ck (at_ cs (j:Int))):∀ (m n i:Nat),i+m=(at_ cs (j:Int)).lists.length→m<n→zDu se (j:Int) cs (at_ cs (j:Int)).lists n (i:Int) (at_ cs (j:Int)).lists=se ((j+1:Nat):Int) cs:=by
 have hn:=hc.n
 intro m
 induction m with
 | zero =>
  intro n i h1 h2
  obtain ⟨n,rfl⟩:=ex1 ‹_<n›
  show zB6 _ _ _ _ _ _ _=_
  unfold zB6 zFj zFd
  rw [zw (df (by omega)),zV (zAF hj),zV (z7 (by omega))]
  have e4:cs.set (j:Int).toNat (at_ cs (j:Int))=cs:=zKu hj
  show se ((j:Int)+1) (cs.set (j:Int).toNat (at_ cs (j:Int)))=_
  rw [e4]
  rfl
 | succ m ih =>
  intro n i h1 h2
  obtain ⟨n,rfl⟩:=ex1 ‹_<n›
  have hi:i<(at_ cs (j:Int)).lists.length:=by omega
  have hb:=hc.l _ (zAq hi)
  show zB6 _ _ _ _ _ _ _=_
  unfold zB6
  have e4:(at_ cs (j:Int)).lists.set (i:Int).toNat (at_ (at_ cs (j:Int)).lists (i:Int))=(at_ cs (j:Int)).lists:=zKu hi
  rw [zAE (dt (by omega)),zV (zAF hi),zLw (by omega),zBR,zV (z7 (by omega)),e4]
  exact ih n (i+1) (by omega) (by omega)
theorem zYk (ha:Al a) {zs:List zj} {ns:List Int}:∀ (m n j:Nat),j+m=a.caches.length→m<n→zBC a ns a.caches zs n (j:Int) a.caches=some ⟨ns,a.batch,a.high,zs,a.caches⟩:=by
 have hc:=ha.c
 intro m
 induction m with
 | zero =>
  intro n j h1 h2
  obtain ⟨n,rfl⟩:=ex1 ‹_<n›
  show zB7 _ _ _ _ _ _ _=_
  unfold zB7
  rw [zw (df (by omega))]
  rfl
 | succ m ih =>
  intro n j h1 h2
  obtain ⟨n,rfl⟩:=ex1 ‹_<n›
  have hj:j<a.caches.length:=by omega
  have hk:=ha.ck _ (zAq hj)
  have hn:=hk.n
  show zB7 _ _ _ _ _ _ _=_
  unfold zB7 zDb
  rw [zAE (dt (by omega)),zV (zAF hj),zV (dt (by show (0+_)*24≤_; omega)),zBR,z0i,zYi hj hc hk _ zAD 0 (Nat.zero_add _) (by unfold zAD; omega)]
  exact ih n (j+1) (by omega) (by omega)
theorem zYL (ha:Al a) {ns:List Int}:∀ (m n j:Nat),j+m=a.zones.length→m<n→zBP a ns a.zones a.caches n (j:Int) a.zones=some ⟨ns,a.batch,a.high,a.zones,a.caches⟩:=by
 have hz:=ha.z
 have hc:=ha.c
 intro m
 induction m with
 | zero =>
  intro n j h1 h2
  obtain ⟨n,rfl⟩:=ex1 ‹_<n›
  show zCQ _ _ _ _ _ _ _=_
  unfold zCQ zFf
  rw [zw (df (by omega)),z0i]
  exact zYk ha a.caches.length zAD 0 (by omega) (by unfold zAD; omega)
 | succ m ih =>
  intro n j h1 h2
  obtain ⟨n,rfl⟩:=ex1 ‹_<n›
  have hj:j<a.zones.length:=by omega
  show zCQ _ _ _ _ _ _ _=_
  unfold zCQ
  rw [zAE (dt (by omega)),z0i,zYj hj hz (ha.zk _ (zAq hj)).1 5 zAD 0 (by omega) (by unfold zAD; omega)]
  exact ih n (j+1) (by omega) (by omega)
theorem zUj (ha:Al a):zCn a=some a:=by
 have h1:=ha.n
 have h2:=ha.z
 have h3:=ha.c
 unfold zCn zBb zA2
 rw [zLw (by omega),zBR,zV (dt (by show (0+_)*160≤_; omega)),zBR,zV (dt (by show (0+_)*24≤_; omega)),zBR,z0i]
 exact zYL ha a.zones.length zAD 0 (by omega) (by unfold zAD; omega)
theorem zUR {c:zL} (hc:Ck c):∀ (m n i:Nat) (l:List (List Int)),i+m=c.lists.length→m<n→l=c.lists.take i→zGT c n (i:Int) l=some c:=by
 have hn:=hc.n
 intro m
 induction m with
 | zero =>
  intro n i l h1 h2 h3
  obtain ⟨n,rfl⟩:=ex1 ‹_<n›
  show zEV _ _ _ _=_
  unfold zEV
  rw [zw (df (by omega)),h3,List.take_of_length_le (by omega)]
  rfl
 | succ m ih =>
  intro n i l h1 h2 h3
  obtain ⟨n,rfl⟩:=ex1 ‹_<n›
  have hi:i<c.lists.length:=by omega
  have hb:=hc.l _ (zAq hi)
  have hl:l.length=i:=by rw [h3,List.length_take]; omega
  show zEV _ _ _ _=_
  unfold zEV
  rw [zAE (dt (by omega)),zV (zAF hi),zV (dt (by show (0+_)*8≤_; omega)),zV (dt (by show (_+1)*24≤_; omega)),zV (z7 (by omega)),List.nil_append]
  refine ih n (i+1) _ (by omega) (by omega) ?_
  rw [h3,List.take_add_one,List.getElem?_eq_getElem hi,zHD hi]
  rfl
theorem zMJ {c:zL} (hc:Ck c):zG1 c=some c:=zUR hc c.lists.length zAD 0 [] (by omega) (by have:=hc.n; unfold zAD; omega) rfl
theorem zYm (ha:Al a) {zs:List zj}:∀ (m n j:Nat) (l:List zL),j+m=a.caches.length→m<n→l=a.caches.take j→zGf a zs n (j:Int) l=some ⟨a.nodes,a.batch,a.high,zs,a.caches⟩:=by
 have hc:=ha.c
 intro m
 induction m with
 | zero =>
  intro n j l h1 h2 h3
  obtain ⟨n,rfl⟩:=ex1 ‹_<n›
  show zEE _ _ _ _ _=_
  unfold zEE
  rw [zw (df (by omega)),h3,List.take_of_length_le (by omega)]
  rfl
 | succ m ih =>
  intro n j l h1 h2 h3
  obtain ⟨n,rfl⟩:=ex1 ‹_<n›
  have hj:j<a.caches.length:=by omega
  have hl:l.length=j:=by rw [h3,List.length_take]; omega
  show zEE _ _ _ _ _=_
  unfold zEE
  rw [zAE (dt (by omega)),zV (zAF hj),zMJ (ha.ck _ (zAq hj)),zBR,zV (dt (by show (_+1)*24≤_; omega)),zV (z7 (by omega))]
  refine ih n (j+1) _ (by omega) (by omega) ?_
  rw [h3,List.take_add_one,List.getElem?_eq_getElem hj,zHD hj]
  rfl
theorem zYl {se:Int→List zj→Option zJ} (ha:Al a) {j:Nat} {l:List zj} (hj:j<a.zones.length) (hl:l.length≤1000):∀ (m n k:Nat),k+m=5→m<n→zGg se a (j:Int) l n (k:Int) (at_ a.zones (j:Int)).free=se ((j+1:Nat):Int) (l++[at_ a.zones (j:Int)]):=by
 have hzl:=ha.z
 have hz:=(ha.zk _ (zAq hj)).1
 intro m
 induction m with
 | zero =>
  intro n k h1 h2
  obtain ⟨n,rfl⟩:=ex1 ‹_<n›
  show zDz _ _ _ _ _ _ _=_
  unfold zDz zIV zIE
  rw [zw (df (by omega)),zV (dt (by show (_+1)*160≤_; omega)),zV (z7 (by omega))]
  rfl
 | succ m ih =>
  intro n k h1 h2
  obtain ⟨n,rfl⟩:=ex1 ‹_<n›
  have hlen:=hz.len
  have hb:=hz.bd k
  have e:(at_ a.zones (j:Int)).free.getD (k:Int).toNat []=lst (at_ a.zones (j:Int)) k:=rfl
  have e3:zEc 5 [] (at_ a.zones (j:Int)).free (k:Int).toNat (lst (at_ a.zones (j:Int)) k)=(at_ a.zones (j:Int)).free:=by
   rw [zKc hlen (by omega)]
   exact zJf (by omega)
  show zDz _ _ _ _ _ _ _=_
  unfold zDz
  rw [e,zAE (dt (by omega)),zV (zAF hj),zV (zAF (by omega)),zV (dt (by show (0+_)*8≤_; omega)),zV (z7 (by omega)),List.nil_append,e3]
  exact ih n (k+1) (by omega) (by omega)
theorem zYn (ha:Al a):∀ (m n j:Nat) (l:List zj),j+m=a.zones.length→m<n→l=a.zones.take j→zB1 a n (j:Int) l=some a:=by
 have hz:=ha.z
 have hc:=ha.c
 intro m
 induction m with
 | zero =>
  intro n j l h1 h2 h3
  obtain ⟨n,rfl⟩:=ex1 ‹_<n›
  show zEb _ _ _ _=_
  unfold zEb zIQ
  rw [zw (df (by omega)),h3,List.take_of_length_le (by omega)]
  exact zYm ha a.caches.length zAD 0 [] (by omega) (by unfold zAD; omega) rfl
 | succ m ih =>
  intro n j l h1 h2 h3
  obtain ⟨n,rfl⟩:=ex1 ‹_<n›
  have hj:j<a.zones.length:=by omega
  have hl:l.length=j:=by rw [h3,List.length_take]; omega
  show zEb _ _ _ _=_
  unfold zEb
  rw [zAE (dt (by omega)),zV (zAF hj),z0i,zYl ha hj (by omega) 5 zAD 0 (by omega) (by unfold zAD; omega)]
  refine ih n (j+1) _ (by omega) (by omega) ?_
  rw [h3,List.take_add_one,List.getElem?_eq_getElem hj,zHD hj]
  rfl
theorem zXY (ha:Al a):zJK a=some a:=by
 have h1:=ha.n
 unfold zJK
 rw [zV (dt (by show (0+_)*8≤_; omega))]
 exact zYn ha a.zones.length zAD 0 [] (by omega) (by have:=ha.z; unfold zAD; omega) rfl
theorem zYD:Sm ⟨([]:List Int),0,0,([]:List zj),([]:List zL)⟩:=⟨by simp,by simp,by simp,by simp,by simp⟩
end
end Go.Proofs.YtplkliakhdkpcaaGreat
namespace Go.Proofs.YtplkliakhdkpcaaGreat
open Go Go.RowKit Go.Wk Go.Am
structure Pc (c:zL) (zn:Nat):Prop where
 z:1≤zn∧zn≤6
 len:c.lists.length=zn
 bd:∀ l,l∈c.lists→l.length≤400
 fr:∀ l,l∈c.lists → ∀ f,f∈l→zCp f=true
 nd:∀ l,l∈c.lists→l.Nodup
 dis:∀ (p q:Nat) (f:Int),p<zn→q<zn→f∈at_ c.lists (p:Int)→f∈at_ c.lists (q:Int)→p=q
section
variable {c:zL} {zn:Nat} {z:Nat} {l:List Int}
theorem Pc.ck (h:Pc c zn):Ck c:=⟨by have:=h.len; have:=h.z; omega,fun x hx=>by have:=h.bd x hx; omega⟩
theorem Pc.r (h:Pc c zn):pcR c (zn:Int)=0:=by
 have hz:=h.z
 unfold pcR
 rw [if_neg (by omega),if_pos (by rw [h.len]),if_pos,if_pos]
 ·unfold List.Nodup
  rw [List.pairwise_flatten]
  refine ⟨h.nd,List.pairwise_iff_getElem.2 fun i j hi hj hij x hx y hy e => ?_⟩
  subst e
  have:=h.dis i j x (by rw [← h.len]; exact hi) (by rw [← h.len]; exact hj) (by rw [zHD hi]; exact hx) (by rw [zHD hj]; exact hy)
  omega
 ·refine List.all_eq_true.2 fun f hf => ?_
  obtain ⟨l,hl,hfl⟩:=List.mem_flatten.1 hf
  exact h.fr l hl f hfl
theorem zNR (l:List Int):zC9 (List.replicate (l.length:Int).toNat 0) l=l:=by
 unfold zC9
 rw [List.length_replicate,Int.toNat_natCast,List.take_length,List.drop_replicate,Nat.sub_self]
 exact List.append_nil l
theorem zSi {T:List (List Int)} {i m:Nat} {x:List Int} (hi:T[i]?=some x):(T.take i++List.replicate (m+1) ([]:List Int)).set i x=T.take (i+1)++List.replicate m []:=by
 have hl:(T.take i).length=i:=by rw [List.length_take]; have:=(List.getElem?_eq_some_iff.1 hi).1; omega
 rw [List.set_append,if_neg (by omega),hl,Nat.sub_self,List.replicate_succ,List.set_cons_zero,List.take_add_one,hi]
 simp
theorem zSR (hc:Ck c) (hl:l.length≤1000):∀ (m n i:Nat),i+m=c.lists.length→m<n→zCa c (z:Int) l n (i:Int) ((c.lists.set z l).take i++List.replicate m [])=some ⟨c.lists.set z l⟩:=by
 have hn:=hc.n
 intro m
 induction m with
 | zero =>
  intro n i h1 h2
  obtain ⟨n,rfl⟩:=ex1 ‹_<n›
  show zCc _ _ _ _ _ _=_
  unfold zCc zGO
  rw [zw (df (by omega)),List.replicate_zero,List.append_nil,List.take_of_length_le (by rw [List.length_set]; omega)]
 | succ m ih =>
  intro n i h1 h2
  obtain ⟨n,rfl⟩:=ex1 ‹_<n›
  have hi:i<c.lists.length:=by omega
  have hll:((c.lists.set z l).take i++List.replicate (m+1) ([]:List Int)).length=c.lists.length:=by
   rw [List.length_append,List.length_take,List.length_set,List.length_replicate]; omega
  have hj:∀ d:List Int,d.length≤1000→(c.lists.set z l)[i]?=some d→zDJ (zCa c (z:Int) l n) (i:Int) ((c.lists.set z l).take i++List.replicate (m+1) []) d=some ⟨c.lists.set z l⟩:=fun d hd he=>by
   unfold zDJ
   rw [zV (by simp; omega),zV (zQR (by rw [hll]; omega)),zV (z7 (by omega)),zNR,Int.toNat_natCast,zSi he]
   exact ih n (i+1) (by omega) (by omega)
  show zCc _ _ _ _ _ _=_
  unfold zCc
  rw [zAE (dt (by omega)),zV (zAF hi)]
  by_cases hz:i=z
  ·rw [zAE (dt (by omega))]
   exact hj l hl (by rw [← hz,List.getElem?_set_self hi])
  ·rw [zw (df (by omega))]
   refine hj _ (hc.l _ (zAq hi)) ?_
   rw [List.getElem?_set_ne (fun e=>hz e.symm),zHD hi,List.getElem?_eq_getElem hi]
theorem zQz (hc:Ck c) (hl:l.length≤1000):zBo c (z:Int) l=some ⟨c.lists.set z l⟩:=by
 have hn:=hc.n
 unfold zBo
 rw [zV (by simp; omega)]
 exact zSR hc hl c.lists.length zAD 0 (by omega) (by unfold zAD; omega)
theorem zQU (h:Pc c zn) (hz:z<zn):zEu c (z:Int)=some 0:=by
 have hl:=h.len
 unfold zEu
 rw [zUo h.ck,hl,h.r,zBR,dt rfl,Bool.not_true,zw rfl,df (by omega),df (by omega)]
 rfl
theorem zQa (h:Pc c zn) (hz:z<zn):zG2 c (z:Int)=some 0:=by
 have hl:=h.len
 unfold zG2
 rw [zVA h.ck,hl,h.r,zBR,dt rfl,Bool.not_true,zw rfl,df (by omega),df (by omega)]
 rfl
theorem zPo (f:Int):∀ (l:List Int) (q:List (Int×Bool)),zMS false (zMd q l) f=(decide (f∈l)||zMS false q f)
 | [],q=>by simp [zMd]
 | x::l,q=>by
  have e:zMd q (x::l)=zMd (zKn q x true) l:=rfl
  rw [e,zPo f l,zNE]
  by_cases hx:f=x
  ·simp [hx]
  ·rw [if_neg hx]
   simp [hx]
theorem zTd (hc:Ck c):zDr c=some (zMd [] c.lists.flatten):=by
 unfold zDr
 rw [z0i,fm0 hc c.lists.length zAD 0 [] (by omega) (by have:=hc.n; unfold zAD; omega),List.drop_zero]
theorem zYZ {se:Int→Option Bool} {f:Int} {j:Nat} {l:List Int} (hc:Ck c) (hj:j<c.lists.length) (hl:at_ c.lists (j:Int)=l):∀ (m n i:Nat),i+m=l.length→m<n →
  zIf se c f (j:Int) n (i:Int)=if f∈l.drop i then some true else se ((j+1:Nat):Int):=by
 have hb:l.length≤1000:=by rw [← hl]; exact hc.l _ (zAq hj)
 have hn:=hc.n
 intro m
 induction m with
 | zero =>
  intro n i h1 h2
  obtain ⟨n,rfl⟩:=ex1 ‹_<n›
  show zF3 _ _ _ _ _ _=_
  unfold zF3 zJi
  rw [hl,zw (df (by omega)),zV (z7 (by omega)),List.drop_eq_nil_of_le (by omega),if_neg (by simp)]
  rfl
 | succ m ih =>
  intro n i h1 h2
  obtain ⟨n,rfl⟩:=ex1 ‹_<n›
  have hi:i<l.length:=by omega
  show zF3 _ _ _ _ _ _=_
  unfold zF3
  rw [hl,zAE (dt (by omega)),zV (zAF hi),zC1 hi]
  by_cases hf:at_ l (i:Int)=f
  ·rw [zAE (dt hf),if_pos (by simp [hf])]
  ·rw [zw (df hf),zV (z7 (by omega))]
   refine (ih n (i+1) (by omega) (by omega)).trans ?_
   by_cases hm:f∈l.drop (i+1)
   ·rw [if_pos hm,if_pos (List.mem_cons_of_mem _ hm)]
   ·rw [if_neg hm,if_neg (fun h=>by rcases List.mem_cons.1 h with h | h; exact hf h.symm; exact hm h)]
theorem zYh {f:Int} (hc:Ck c):∀ (m n i:Nat),i+m=c.lists.length→m<n→zDt c f n (i:Int)=some (decide (f∈(c.lists.drop i).flatten)):=by
 have hn:=hc.n
 intro m
 induction m with
 | zero =>
  intro n i h1 h2
  obtain ⟨n,rfl⟩:=ex1 ‹_<n›
  show zFl _ _ _ _=_
  unfold zFl zJg
  rw [zw (df (by omega)),zQH (by omega),df (by simp)]
 | succ m ih =>
  intro n i h1 h2
  obtain ⟨n,rfl⟩:=ex1 ‹_<n›
  have hi:i<c.lists.length:=by omega
  have hb:=hc.l _ (zAq hi)
  show zFl _ _ _ _=_
  unfold zFl
  rw [zAE (dt (by omega)),zV (zAF hi),z0i,zYZ hc hi rfl _ zAD 0 (Nat.zero_add _) (by unfold zAD; omega),List.drop_zero,zC1 hi,List.flatten_cons]
  by_cases hm:f∈at_ c.lists (i:Int)
  ·rw [if_pos hm,dt (by simp [hm])]
  ·rw [if_neg hm,ih n (i+1) (by omega) (by omega)]
   congr 1
   exact decide_eq_decide.2 ⟨fun h=>List.mem_append_right _ h,fun h=>by rcases List.mem_append.1 h with h | h; exact absurd h hm; exact h⟩
theorem zXI {f:Int} (hc:Ck c):zLv c f=some (decide (f∈c.lists.flatten)):=by
 have:=zYh (f:=f) hc c.lists.length zAD 0 (by omega) (by have:=hc.n; unfold zAD; omega)
 rw [List.drop_zero] at this
 exact this
theorem zXo (hp:Pc c zn) (hz:z<zn):zIa c (z:Int)=some (⟨c.lists.set z []⟩,at_ c.lists (z:Int),0):=by
 have hl:=hp.len
 have hzl:z<c.lists.length:=by omega
 have hbd:=hp.bd _ (zAq hzl)
 unfold zIa
 rw [zQU hp hz,zBR,dt rfl,Bool.not_true,zw rfl,zV (zAF hzl),zV (by simp; omega),zQz hp.ck (by simp),zBR,zNR]
theorem zWs (hp:Pc c zn) (hz:z<zn):zJH c (z:Int)=some (⟨c.lists.set z []⟩,at_ c.lists (z:Int),0):=by
 have hl:=hp.len
 have hzl:z<c.lists.length:=by omega
 have hbd:=hp.bd _ (zAq hzl)
 unfold zJH
 rw [zQa hp hz,zBR,dt rfl,Bool.not_true,zw rfl,zMJ hp.ck,zBR,zV (zAF hzl),zV (by simp; omega),Int.toNat_natCast,List.nil_append]
def zSZ (c:zL) (z:Nat):zL:=⟨c.lists.set z ((at_ c.lists (z:Int)).take ((at_ c.lists (z:Int)).length - 1))⟩
def zQh (c:zL) (z:Nat):Int:=at_ (at_ c.lists (z:Int)) (((at_ c.lists (z:Int)).length:Int) - 1)
theorem zYK (hp:Pc c zn) (hz:z<zn) (hne:at_ c.lists (z:Int)≠[]):zJO c (z:Int)=some (zSZ c z,zQh c z,0):=by
 have hl:=hp.len
 have hzl:z<c.lists.length:=by omega
 have hbd:=hp.bd _ (zAq hzl)
 unfold zJO zSZ zQh
 generalize hq:at_ c.lists (z:Int)=q at hbd hne ⊢
 have h1:0<q.length:=List.length_pos_iff.2 hne
 have e1:zHt q 0 ((q.length:Int) - 1)=q.take (q.length - 1):=by
  unfold zHt
  rw [show ((q.length:Int) - 1).toNat=q.length - 1 by omega]
  rfl
 rw [zQU hp hz,zBR,dt rfl,Bool.not_true,zw rfl,zV (zAF hzl),zw (df (by omega)),zV (z7 (by omega)),zV (by unfold zLs; simp; omega),e1,zQz hp.ck (by rw [List.length_take]; omega),zBR,zV (zQR (by omega))]
theorem zYI (hp:Pc c zn) (hz:z<zn) (hne:at_ c.lists (z:Int)≠[]):zKC c (z:Int)=some (zSZ c z,zQh c z,0):=by
 have hl:=hp.len
 have hzl:z<c.lists.length:=by omega
 have hbd:=hp.bd _ (zAq hzl)
 unfold zKC zSZ zQh
 rw [zMJ hp.ck]
 generalize hq:at_ c.lists (z:Int)=q at hbd hne ⊢
 have h1:0<q.length:=List.length_pos_iff.2 hne
 have e1:zHt q 0 ((q.length:Int) - 1)=q.take (q.length - 1):=by
  unfold zHt
  rw [show ((q.length:Int) - 1).toNat=q.length - 1 by omega]
  rfl
 rw [zQa hp hz,zBR,dt rfl,Bool.not_true,zw rfl,zV (zAF hzl),zw (df (by omega)),zBR,hq,zV (zAF hzl),zV (z7 (by omega)),zV (zQR (by omega)),zV (by unfold zLs; simp; omega),e1,Int.toNat_natCast]
end
end Go.Proofs.YtplkliakhdkpcaaGreat
namespace Go.Proofs.YtplkliakhdkpcaaGreat
open Go Go.RowKit Go.Wk Go.Am
theorem zYb {α:Type} [Inhabited α] {l:List α} {i:Nat} {x:α} (h:l[i]?=some x):at_ l (i:Int)=x:=by
 obtain ⟨hi,e⟩:=List.getElem?_eq_some_iff.1 h
 rw [zHD hi]
 exact e
theorem zWL {α:Type} [Inhabited α] {l:List α} {i:Nat} (h:i<l.length):l[i]?=some (at_ l (i:Int)):=by rw [zHD h,List.getElem?_eq_getElem h]
theorem zTg {l:List (List Int)} {p:Nat} (h:l.length≤p):at_ l (p:Int)=[]:=by
 unfold at_
 rw [Int.toNat_natCast,List.getD_eq_getElem?_getD,List.getElem?_eq_none h]
 rfl
theorem zU0 {l:List (List Int)} {p:Nat} {f:Int} (h:f∈at_ l (p:Int)):p<l.length:=by
 refine Nat.lt_of_not_le fun hn => ?_
 rw [zTg hn] at h
 cases h
theorem zRM {f:Int} (h:0≤f):((f.toNat:Nat):Int)=f:=Int.toNat_of_nonneg h
theorem zUq {z:zj} (hr:ranges z=true):∀ (l:List Int) (d:List Bool),d.length=256→(feL z d l).1=0→(∀ f,f∈l→inZ z f=true∧zLX z f=false∧d.getD f.toNat false=false)∧l.Nodup∧(∀ g:Nat,(feL z d l).2.getD g false=true↔d.getD g false=true∨(g:Int)∈l)
 | [],d,hd,h=>⟨(fun f hf=>by cases hf),List.nodup_nil,(fun g=>by unfold feL; simp)⟩
 | f::r,d,hd,h=>by
  unfold feL at h ⊢
  by_cases hi:inZ z f=true
  ·rw [if_pos hi] at h ⊢
   have hb:=zQI hr hi
   by_cases hx:(d.getD f.toNat false||zLX z f)=true
   ·rw [if_pos hx] at h; cases h
   ·rw [if_neg hx] at h ⊢
    simp only [Bool.or_eq_true,not_or,Bool.not_eq_true] at hx
    obtain ⟨i1,i2,i3⟩:=zUq hr r (d.set f.toNat true) (by rw [List.length_set]; exact hd) h
    have hfr:f ∉ r:=fun hm=>by
     have:=(i1 f hm).2.2
     rw [zCE _ _ _ (by omega),if_pos rfl] at this
     cases this
    refine ⟨fun g hg => ?_,List.nodup_cons.2 ⟨hfr,i2⟩,fun g => ?_⟩
    ·rcases List.mem_cons.1 hg with rfl | hg
     ·exact ⟨hi,hx.2,hx.1⟩
     ·have h3:=i1 g hg
      refine ⟨h3.1,h3.2.1,?_⟩
      have h4:=h3.2.2
      rw [zCE _ _ _ (by omega)] at h4
      split at h4
      ·cases h4
      ·exact h4
    ·rw [i3 g,zCE _ _ _ (by omega)]
     by_cases hg:g=f.toNat
     ·rw [if_pos hg]
      exact ⟨fun _ => .inr (by rw [hg,zRM hb.1]; simp),fun _ => .inl rfl⟩
     ·rw [if_neg hg]
      constructor
      ·rintro (h | h)
       ·exact .inl h
       ·exact .inr (List.mem_cons_of_mem _ h)
      ·rintro (h | h)
       ·exact .inl h
       ·rcases List.mem_cons.1 h with h | h
        ·omega
        ·exact .inr h
  ·rw [if_neg hi] at h; cases h
theorem zUn:∀ (zs:List zj) (ls:List (List Int)) (d:List Bool),(∀ z,z∈zs→ranges z=true)→ls.length=zs.length→d.length=256→(feC d zs ls).1=0 →
  (∀ (p:Nat) z l,zs[p]?=some z→ls[p]?=some l→(∀ f,f∈l→inZ z f=true∧zLX z f=false∧d.getD f.toNat false=false)∧l.Nodup) ∧
  (∀ (p q:Nat) l m f,ls[p]?=some l→ls[q]?=some m→f∈l→f∈m→p=q)∧(∀ g:Nat,(feC d zs ls).2.getD g false=true↔d.getD g false=true ∨ ∃ l,l∈ls∧(g:Int)∈l)∧(∀ l,l∈ls → ∀ f,f∈l→0≤f)
 | [],[],d,_,_,_,_=>⟨(fun p z l h=>by simp at h),(fun p q l m f h=>by simp at h),(fun g=>by unfold feC; simp),(fun l hl=>by cases hl)⟩
 | [],_::_,_,_,hl,_,_=>by simp at hl
 | _::_,[],_,_,hl,_,_=>by simp at hl
 | z::zs,l::ls,d,hr,hl,hd,h=>by
  unfold feC at h ⊢
  have hrz:=hr z (by simp)
  by_cases h0:(feL z d l).1=0
  ·rw [if_pos h0] at h ⊢
   obtain ⟨j1,j2,j3⟩:=zUq hrz l d hd h0
   obtain ⟨i1,i2,i3,i4⟩:=zUn zs ls (feL z d l).2 (fun y hy=>hr y (by simp [hy])) (by simpa using hl) (by rw [zMh]; exact hd) h
   have hz:∀ (q:Nat) m f,ls[q]?=some m→f∈m→f ∉ l:=fun q m f hq hm hfl=>by
    have hq':q<zs.length:=by have:=(List.getElem?_eq_some_iff.1 hq).1; simp at hl; omega
    have h1:=((i1 q _ m (List.getElem?_eq_getElem hq') hq).1 f hm).2.2
    have hb:=zQI hrz (j1 f hfl).1
    have:=(j3 f.toNat).2 (.inr (by rw [zRM hb.1]; exact hfl))
    rw [h1] at this
    cases this
   refine ⟨fun p y m hy hm => ?_,fun p q a b f ha hb hfa hfb => ?_,fun g => ?_,fun m hm f hf => ?_⟩
   ·cases p with
    | zero=>simp at hy hm; subst hy; subst hm; exact ⟨j1,j2⟩
    | succ p =>
     have h1:=i1 p y m (by simpa using hy) (by simpa using hm)
     refine ⟨fun f hf => ?_,h1.2⟩
     have h2:=h1.1 f hf
     refine ⟨h2.1,h2.2.1,?_⟩
     cases hq:d.getD f.toNat false with
     | false=>rfl
     | true=>rw [(j3 f.toNat).2 (.inl hq)] at h2; cases h2.2.2
   ·cases p with
    | zero =>
     simp at ha
     subst ha
     cases q with
     | zero=>rfl
     | succ q=>exact absurd hfa (hz q b f (by simpa using hb) hfb)
    | succ p =>
     cases q with
     | zero=>simp at hb; subst hb; exact absurd hfb (hz p a f (by simpa using ha) hfa)
     | succ q=>rw [i2 p q a b f (by simpa using ha) (by simpa using hb) hfa hfb]
   ·rw [i3 g,j3 g]
    constructor
    ·rintro ((h | h) | ⟨m,h1,h2⟩)
     ·exact .inl h
     ·exact .inr ⟨l,by simp,h⟩
     ·exact .inr ⟨m,by simp [h1],h2⟩
    ·rintro (h | ⟨m,h1,h2⟩)
     ·exact .inl (.inl h)
     ·rcases List.mem_cons.1 h1 with rfl | h1
      ·exact .inl (.inr h2)
      ·exact .inr ⟨m,h1,h2⟩
   ·rcases List.mem_cons.1 hm with rfl | hm
    ·exact (zQI hrz (j1 f hf).1).1
    ·exact i4 m hm f hf
  ·rw [if_neg h0] at h; exact absurd h h0
theorem zUg {zs:List zj} (hr:∀ z,z∈zs→ranges z=true):∀ (cs:List zL) (d:List Bool),(∀ c,c∈cs→c.lists.length=zs.length)→d.length=256→feA zs d cs=0 →
  (∀ c,c∈cs → ∀ (p:Nat) z l,zs[p]?=some z→c.lists[p]?=some l→(∀ f,f∈l→inZ z f=true∧zLX z f=false)∧l.Nodup) ∧
  (∀ c,c∈cs → ∀ (p q:Nat) l m f,c.lists[p]?=some l→c.lists[q]?=some m→f∈l→f∈m→p=q) ∧
  (∀ (i j:Nat) x y l m f,cs[i]?=some x→cs[j]?=some y→l∈x.lists→m∈y.lists→f∈l→f∈m→i=j)∧(∀ c,c∈cs → ∀ l,l∈c.lists → ∀ f,f∈l→d.getD f.toNat false=false)
 | [],_,_,_,_=>⟨(fun c hc=>by cases hc),(fun c hc=>by cases hc),(fun i j x y l m f h=>by simp at h),(fun c hc=>by cases hc)⟩
 | c::cs,d,hl,hd,h=>by
  unfold feA at h
  by_cases h0:(feC d zs c.lists).1=0
  ·rw [if_pos h0] at h
   have hcl:=hl c (by simp)
   obtain ⟨j1,j2,j3,j4⟩:=zUn zs c.lists d hr hcl hd h0
   obtain ⟨i1,i2,i3,i4⟩:=zUg hr cs (feC d zs c.lists).2 (fun x hx=>hl x (by simp [hx])) (by rw [zPC]; exact hd) h
   have hz:∀ y m f,y∈cs→m∈y.lists→f∈m → ∀ l,l∈c.lists→f ∉ l:=fun y m f hy hm hf l hl hfl=>by
    have h1:=i4 y hy m hm f hf
    have:=(j3 f.toNat).2 (.inr ⟨l,hl,by rw [zRM (j4 l hl f hfl)]; exact hfl⟩)
    rw [h1] at this
    cases this
   refine ⟨fun x hx => ?_,fun x hx => ?_,fun i j x y l m f hi hj hlx hmy hfl hfm => ?_,fun x hx l hlx f hf => ?_⟩
   ·rcases List.mem_cons.1 hx with rfl | hx
    ·exact fun p z l h1 h2=>⟨fun f hf=>⟨((j1 p z l h1 h2).1 f hf).1,((j1 p z l h1 h2).1 f hf).2.1⟩,(j1 p z l h1 h2).2⟩
    ·exact i1 x hx
   ·rcases List.mem_cons.1 hx with rfl | hx
    ·exact j2
    ·exact i2 x hx
   ·cases i with
    | zero =>
     simp at hi
     subst hi
     cases j with
     | zero=>rfl
     | succ j=>exact absurd hfl (hz y m f (List.mem_of_getElem? (by simpa using hj)) hmy hfm l hlx)
    | succ i =>
     cases j with
     | zero=>simp at hj; subst hj; exact absurd hfm (hz x l f (List.mem_of_getElem? (by simpa using hi)) hlx hfl m hmy)
     | succ j=>rw [i3 i j x y l m f (by simpa using hi) (by simpa using hj) hlx hmy hfl hfm]
   ·rcases List.mem_cons.1 hx with rfl | hx
    ·obtain ⟨p,hp,e⟩:=List.getElem_of_mem hlx
     have hpz:p<zs.length:=by omega
     exact ((j1 p _ l (List.getElem?_eq_getElem hpz) (by rw [List.getElem?_eq_getElem hp,e])).1 f hf).2.2
    ·cases hq:d.getD f.toNat false with
     | false=>rfl
     | true =>
      have:=i4 x hx l hlx f hf
      rw [(j3 f.toNat).2 (.inl hq)] at this
      cases this
  ·rw [if_neg h0] at h; exact absurd h h0
theorem zUu:∀ {cs:List zL} {h zn:Int},cE h zn cs=0 → ∀ c,c∈cs → ∀ l,l∈c.lists→(l.length:Int)≤h
 | [],_,_,_,_,hc=>absurd hc (by simp)
 | c::cs,h,zn,he,x,hx=>by
  unfold cE at he
  by_cases h0:pcR c zn=0
  ·rw [if_pos h0] at he
   split at he
   ·cases he
   ·rename_i hany
    rcases List.mem_cons.1 hx with rfl | hx
    ·intro l hl
     refine Int.not_lt.1 fun hlt=>hany ?_
     exact List.any_eq_true.2 ⟨l,hl,decide_eq_true hlt⟩
    ·exact zUu he x hx
  ·rw [if_neg h0] at he; exact absurd he h0
theorem zSs {z:zj} {f:Int} (hr:ranges z=true):inZ z f=true↔inside z f 0=true:=by
 have hb:=zBM hr
 rw [zBT hr,pw0]
 unfold inZ
 simp only [Bool.and_eq_true,decide_eq_true_eq]
 omega
theorem zUE {z:zj} {f:Int} (hz:Zk z) (h:zEr z=0) (hi:inside z f 0=true):zLX z f=true↔cov z f:=by
 obtain ⟨hr,hin,_⟩:=zGw hz h
 have hb:=zAY hr hi
 have hc:=zLk hz hr hin f.toNat
 rw [zRM hb.1] at hc
 unfold zLX
 rw [dt h,hi]
 simp only [Bool.and_self,Bool.true_and,decide_eq_true_eq]
 exact hc
def Lf (a:zJ) (c p:Nat):List Int:=at_ (at_ a.caches (c:Int)).lists (p:Int)
def Zn (a:zJ) (p:Nat):zj:=at_ a.zones (p:Int)
structure Wa (a:zJ):Prop where
 n:1≤a.nodes.length∧a.nodes.length≤4
 nr:∀ v,v∈a.nodes→0≤v∧v<4
 se:zE 0 a.zones=0
 bh:1≤a.batch∧a.batch≤a.high∧a.high≤64
 zn:1≤a.zones.length∧a.zones.length≤6
 cn:a.caches.length=a.nodes.length
 zs:∀ p,p<a.zones.length→OkZ (Zn a p)
 ap:∀ p q f,p<a.zones.length→q<a.zones.length→inside (Zn a p) f 0=true→inside (Zn a q) f 0=true→p=q
 cl:∀ c,c<a.caches.length→(at_ a.caches (c:Int)).lists.length=a.zones.length
 own:∀ c p f,c<a.caches.length→f∈Lf a c p→inside (Zn a p) f 0=true ∧ ¬ cov (Zn a p) f
 nd:∀ c p,c<a.caches.length→(Lf a c p).Nodup
 dis:∀ c d p q f,c<a.caches.length→d<a.caches.length→f∈Lf a c p→f∈Lf a d q→c=d∧p=q
 lim:∀ c p,c<a.caches.length→((Lf a c p).length:Int)≤a.high
section
variable {a:zJ}
theorem Wa.pz (h:Wa a) {c p:Nat} {f:Int} (hc:c<a.caches.length) (hf:f∈Lf a c p):p<a.zones.length:=by
 rw [← h.cl c hc]
 exact zU0 hf
theorem Wa.pc (h:Wa a) {c:Nat} (hc:c<a.caches.length):Pc (at_ a.caches (c:Int)) a.zones.length:=by
 have hl:=h.cl c hc
 have hlf:∀ l,l∈(at_ a.caches (c:Int)).lists → ∃ p,p<a.zones.length∧l=Lf a c p:=fun l hm=>by
  obtain ⟨p,hp,e⟩:=List.getElem_of_mem hm
  exact ⟨p,by omega,by unfold Lf; rw [zHD hp,e]⟩
 refine ⟨h.zn,hl,fun l hm => ?_,fun l hm f hf => ?_,fun l hm => ?_,fun p q f hp hq h1 h2=>(h.dis c c p q f hc hc h1 h2).2⟩
 ·obtain ⟨p,hp,rfl⟩:=hlf l hm
  have:=h.lim c p hc
  have:=h.bh
  omega
 ·obtain ⟨p,hp,rfl⟩:=hlf l hm
  have hb:=(h.zs p hp).bds (h.own c p f hc hf).1
  rw [pw0] at hb
  unfold zCp
  simp
  omega
 ·obtain ⟨p,hp,rfl⟩:=hlf l hm
  exact h.nd c p hc
theorem zX2 (ha:Al a) (h:zT0 a=0):Wa a:=by
 have hv:=zWx ha h
 have hzc:∀ z,z∈a.zones→zEr z=0:=fun z hz=>hv.chk hz
 have hzr:∀ z,z∈a.zones→ranges z=true:=fun z hz=>zDF (hzc z hz)
 unfold zT0 at h
 split at h
 ·rename_i hf
  split at h
  ·rename_i hz
   split at h
   ·rename_i hl
    split at h
    ·rename_i hc
     obtain ⟨q1,q2,q3,_⟩:=zUg hzr a.caches zE6 hv.len zJV h
     have hap:=(zTY hz).2
     have hnr:∀ v,v∈a.nodes→0≤v∧v<4:=fun v hv=>by
      unfold zTp at hf
      simp only [Bool.and_eq_true,Bool.not_eq_true'] at hf
      have:=List.any_eq_false.1 hf.2 v hv
      unfold zMq at this
      simp at this
      omega
     unfold zTp zJb at hf
     simp only [Bool.and_eq_true,Bool.not_eq_true',Bool.or_eq_false_iff,decide_eq_false_iff_not] at hf
     have hcl:∀ c,c<a.caches.length→(at_ a.caches (c:Int)).lists.length=a.zones.length:=fun c hc=>hv.len _ (zAq hc)
     have hpz:∀ c p f,c<a.caches.length→f∈Lf a c p→p<a.zones.length:=fun c p f hc hf=>by rw [← hcl c hc]; exact zU0 hf
     have hnd:∀ c p,c<a.caches.length→p<a.zones.length→(∀ f,f∈Lf a c p→inZ (Zn a p) f=true∧zLX (Zn a p) f=false)∧(Lf a c p).Nodup:=fun c p hc hp=>q1 _ (zAq hc) p _ _ (zWL hp) (zWL (by rw [hcl c hc]; exact hp))
     refine ⟨by omega,hnr,hz,by omega,by omega,by omega,fun p hp => ?_,fun p q f hp hq h1 h2 => ?_,hcl,fun c p f hc hf => ?_,fun c p hc => ?_,fun c d p q f hc hd h1 h2 => ?_,fun c p hcc => ?_⟩
     ·exact (zKU (ha.zk _ (zAq hp)).1 (hzc _ (zAq hp))).1
     ·have e1:=(zSs (hzr _ (zAq hp))).2 h1
      have e2:=(zSs (hzr _ (zAq hq))).2 h2
      have g1:=(zRD f a.zones 0 p hp hap).2 (by rw [← zHD hp]; exact e1)
      have g2:=(zRD f a.zones 0 q hq hap).2 (by rw [← zHD hq]; exact e2)
      omega
     ·have hp:=hpz c p f hc hf
      have h1:=(hnd c p hc hp).1 f hf
      have hzk:=(ha.zk _ (zAq hp)).1
      have hi:=(zSs (hzr _ (zAq hp))).1 h1.1
      refine ⟨hi,fun hcv => ?_⟩
      have:=(zUE hzk (hzc _ (zAq hp)) hi).2 hcv
      rw [show zLX (at_ a.zones (p:Int)) f=false from h1.2] at this
      cases this
     ·by_cases hp:p<a.zones.length
      ·exact (hnd c p hc hp).2
      ·unfold Lf
       rw [zTg (by rw [hcl c hc]; omega)]
       exact List.nodup_nil
     ·have hp:=hpz c p f hc h1
      have hq:=hpz d q f hd h2
      have hpl:p<(at_ a.caches (c:Int)).lists.length:=by rw [hcl c hc]; exact hp
      have hql:q<(at_ a.caches (d:Int)).lists.length:=by rw [hcl d hd]; exact hq
      have e:c=d:=q3 c d _ _ _ _ f (zWL hc) (zWL hd) (zAq hpl) (zAq hql) h1 h2
      subst e
      exact ⟨rfl,q2 _ (zAq hc) p q _ _ f (zWL hpl) (zWL hql) h1 h2⟩
     ·by_cases hp:p<a.zones.length
      ·exact zUu hc _ (zAq hcc) _ (zAq (by rw [hcl c hcc]; exact hp))
      ·unfold Lf
       rw [zTg (by rw [hcl c hcc]; omega)]
       show ((0:Nat):Int)≤_
       omega
    ·rename_i hc; exact absurd h hc
   ·cases h
  ·rename_i hz; exact absurd h hz
 ·cases h
end
end Go.Proofs.YtplkliakhdkpcaaGreat
namespace Go.Proofs.YtplkliakhdkpcaaGreat
open Go Go.RowKit Go.Wk Go.Am
theorem zNc {α:Type} [Inhabited α] {l:List α} {i j:Nat} {x:α} (h:i<l.length):at_ (l.set i x) (j:Int)=if j=i then x else at_ l (j:Int):=by
 unfold at_
 rw [Int.toNat_natCast,List.getD_eq_getElem?_getD,List.getElem?_set]
 by_cases hj:i=j
 ·rw [if_pos hj,if_pos h,if_pos hj.symm]
  rfl
 ·rw [if_neg hj,if_neg (fun e=>hj e.symm),List.getD_eq_getElem?_getD]
theorem zU4 {z:zj}:∀ (zs:List zj) (s:Int) (p:Nat),zE s zs=0→p<zs.length→zEr z=0→zHB z (at_ zs (p:Int))→zE s (zs.set p z)=0
 | [],_,_,_,hp,_,_=>by simp at hp
 | y::zs,s,p,h,hp,hc,h5=>by
  unfold zE at h
  by_cases hy:zEr y=0
  ·rw [if_pos hy] at h
   by_cases hs:y.start=s
   ·rw [if_pos hs] at h
    cases p with
    | zero =>
     have h5':zHB z y:=h5
     show zE s (z::zs)=0
     unfold zE
     rw [if_pos hc,if_pos (h5'.2.2.1.trans hs),h5'.2.2.2.1]
     exact h
    | succ p =>
     show zE s (y::zs.set p z)=0
     unfold zE
     rw [if_pos hy,if_pos hs]
     refine zU4 zs _ p h (by simpa using hp) hc ?_
     have e:at_ (y::zs) ((p+1:Nat):Int)=at_ zs (p:Int):=rfl
     rw [e] at h5
     exact h5
   ·rw [if_neg hs] at h; cases h
  ·rw [if_neg hy] at h; exact absurd h hy
def upd (a:zJ) (c p:Nat) (l:List Int) (z:zj):zJ:=⟨a.nodes,a.batch,a.high,a.zones.set p z,a.caches.set c ⟨(at_ a.caches (c:Int)).lists.set p l⟩⟩
section
variable {a:zJ} {c p:Nat} {l:List Int} {z:zj}
theorem zS5 (hp:p<a.zones.length) (q:Nat):Zn (upd a c p l z) q=if q=p then z else Zn a q:=zNc hp
theorem zTb (h:Wa a) (hc:c<a.caches.length) (hp:p<a.zones.length) (d q:Nat):Lf (upd a c p l z) d q=if d=c∧q=p then l else Lf a d q:=by
 unfold Lf upd
 rw [zNc hc]
 by_cases hd:d=c
 ·subst hd
  rw [if_pos rfl,zNc (by rw [h.cl d hc]; exact hp)]
  by_cases hq:q=p
  ·rw [if_pos hq,if_pos ⟨rfl,hq⟩]
  ·rw [if_neg hq,if_neg (fun e=>hq e.2)]
 ·rw [if_neg hd,if_neg (fun e=>hd e.1)]
theorem zST (h:Wa a) (hc:c<a.caches.length) (hp:p<a.zones.length) (hz:OkZ z) (h5:zHB z (Zn a p)) (hl:(l.length:Int)≤a.high) (hn:l.Nodup)
  (hi:∀ f,f∈l→inside (Zn a p) f 0=true ∧ ¬ cov z f) (hd:∀ d f,d<a.caches.length→d≠c→f∈Lf a d p→f ∉ l ∧ ¬ cov z f):Wa (upd a c p l z):=by
 have hZ:=fun q=>zS5 (c:=c) (l:=l) (z:=z) hp q
 have hL:=fun d q=>zTb (l:=l) (z:=z) h hc hp d q
 have hzl:(upd a c p l z).zones.length=a.zones.length:=List.length_set
 have hcl:(upd a c p l z).caches.length=a.caches.length:=List.length_set
 have hin:∀ q f,inside (Zn (upd a c p l z) q) f 0=inside (Zn a q) f 0:=fun q f=>by
  rw [hZ q]
  by_cases hq:q=p
  ·rw [if_pos hq,hq,h5.inside]
  ·rw [if_neg hq]
 have hq':∀ d q f,d<a.caches.length→f∈Lf a d q→f∈l→q=p:=fun d q f hd1 hf hfl=>h.ap q p f (h.pz hd1 hf) hp (h.own d q f hd1 hf).1 (hi f hfl).1
 refine ⟨h.n,h.nr,zU4 a.zones 0 p h.se hp (zFv hz) h5,h.bh,by rw [hzl]; exact h.zn,by rw [hcl]; exact h.cn,fun q hq => ?_,fun q r f hq hr h1 h2 => ?_,fun d hd1 => ?_,fun d q f hd1 hf => ?_,fun d q hd1 => ?_,fun d e q r f hd1 he h1 h2 => ?_,fun d q hd1 => ?_⟩
 ·rw [hZ q]
  by_cases e:q=p
  ·rw [if_pos e]; exact hz
  ·rw [if_neg e]; exact h.zs q (by rwa [hzl] at hq)
 ·rw [hin] at h1 h2
  exact h.ap q r f (by rwa [hzl] at hq) (by rwa [hzl] at hr) h1 h2
 ·rw [hcl] at hd1
  rw [hzl]
  show (at_ (a.caches.set c _) (d:Int)).lists.length=_
  rw [zNc hc]
  by_cases e:d=c
  ·rw [if_pos e]
   show ((at_ a.caches (c:Int)).lists.set p l).length=_
   rw [List.length_set,h.cl c hc]
  ·rw [if_neg e]; exact h.cl d hd1
 ·rw [hcl] at hd1
  rw [hin,hZ q]
  rw [hL d q] at hf
  by_cases e:d=c∧q=p
  ·rw [if_pos e] at hf
   rw [if_pos e.2,e.2]
   exact hi f hf
  ·rw [if_neg e] at hf
   refine ⟨(h.own d q f hd1 hf).1,?_⟩
   by_cases hqp:q=p
   ·subst hqp
    rw [if_pos rfl]
    exact (hd d f hd1 (fun x=>e ⟨x,rfl⟩) hf).2
   ·rw [if_neg hqp]; exact (h.own d q f hd1 hf).2
 ·rw [hcl] at hd1
  rw [hL d q]
  by_cases e:d=c∧q=p
  ·rw [if_pos e]; exact hn
  ·rw [if_neg e]; exact h.nd d q hd1
 ·rw [hcl] at hd1 he
  rw [hL d q] at h1
  rw [hL e r] at h2
  by_cases e1:d=c∧q=p
  ·rw [if_pos e1] at h1
   by_cases e2:e=c∧r=p
   ·exact ⟨e1.1.trans e2.1.symm,e1.2.trans e2.2.symm⟩
   ·rw [if_neg e2] at h2
    have hr:=hq' e r f he h2 h1
    subst hr
    exact absurd h1 (hd e f he (fun x=>e2 ⟨x,rfl⟩) h2).1
  ·rw [if_neg e1] at h1
   by_cases e2:e=c∧r=p
   ·rw [if_pos e2] at h2
    have hr:=hq' d q f hd1 h1 h2
    subst hr
    exact absurd h2 (hd d f hd1 (fun x=>e1 ⟨x,rfl⟩) h1).1
   ·rw [if_neg e2] at h2
    exact h.dis d e q r f hd1 he h1 h2
 ·rw [hcl] at hd1
  rw [hL d q]
  by_cases e:d=c∧q=p
  ·rw [if_pos e]; exact hl
  ·rw [if_neg e]; exact h.lim d q hd1
theorem Wa.sm (h:Wa a):Sm a:=by
 refine ⟨by have:=h.n; omega,by have:=h.zn; omega,by have:=h.n; have:=h.cn; omega,fun z hz k => ?_,fun x hx => ?_⟩
 ·obtain ⟨q,hq,e⟩:=List.getElem_of_mem hz
  have:=(h.zs q hq).putI.len' k
  unfold Zn at this
  rw [zHD hq,e] at this
  unfold lst at this
  omega
 ·obtain ⟨d,hd,e⟩:=List.getElem_of_mem hx
  have h1:=h.cl d hd
  have h2:=(h.pc hd).bd
  rw [zHD hd,e] at h1 h2
  exact ⟨by have:=h.zn; omega,fun l hl=>by have:=h2 l hl; omega⟩
theorem zXk {f:Int} (h:OkZ z) (hi:inside z f 0=true) (hn:¬ cov z f):zI9 z f 0=some (zOD 4 z f 0,0) :=
 zUe (k:=0) h.zk h.inI (zFv h) (by omega) hi (fun g g1 g2=>by
  rw [pw0] at g2
  have:g=f:=by omega
  rw [this]; exact hn)
theorem zXK {f:Int} (h:OkZ z) (hi:inside z f 0=true) (hn:¬ cov z f):zJA z f 0=some (zOD 4 z f 0,0) :=
 zT6 (k:=0) h.zk (zFv h) (by omega) hi (fun g g1 g2=>by
  rw [pw0] at g2
  have:g=f:=by omega
  rw [this]; exact hn)
theorem zSt {fs:List Int} (hfs:fs.length≤1000):∀ (m n i:Nat) (zs:List zj),i+m=fs.length→m<n→p<zs.length→OkZ (at_ zs (p:Int))→(∀ f,f∈fs.drop i→inside (at_ zs (p:Int)) f 0=true ∧ ¬ cov (at_ zs (p:Int)) f)→(fs.drop i).Nodup →
  zDL a (p:Int) fs n (i:Int) zs=some ⟨a.nodes,a.batch,a.high,zs.set p (zMI (at_ zs (p:Int)) (fs.drop i)),a.caches⟩ ∧
  zHs a (p:Int) fs n (i:Int) zs=some ⟨a.nodes,a.batch,a.high,zs.set p (zMI (at_ zs (p:Int)) (fs.drop i)),a.caches⟩:=by
 intro m
 induction m with
 | zero =>
  intro n i zs h1 h2 hp _ _ _
  obtain ⟨n,rfl⟩:=ex1 ‹_<n›
  rw [List.drop_eq_nil_of_le (by omega)]
  show zCd _ _ _ _ _ _=some (⟨_,_,_,zs.set p (at_ zs (p:Int)),_⟩:zJ)∧zE9 _ _ _ _ _ _=some (⟨_,_,_,zs.set p (at_ zs (p:Int)),_⟩:zJ)
  unfold zCd zE9
  rw [zw (df (by omega)),zw (df (by omega)),zKu hp]
  exact ⟨rfl,rfl⟩
 | succ m ih =>
  intro n i zs h1 h2 hp ho hf hn
  obtain ⟨n,rfl⟩:=ex1 ‹_<n›
  have hi:i<fs.length:=by omega
  rw [zC1 hi] at hf hn ⊢
  have h0:=hf (at_ fs (i:Int)) (by simp)
  have hnd:=List.nodup_cons.1 hn
  obtain ⟨q1,q2,q3⟩:=OkZ.put 4 (k:=0) (by omega) ho h0.1 (fun g g1 g2=>by
   rw [pw0] at g2
   have:g=at_ fs (i:Int):=by omega
   rw [this]; exact h0.2)
  have e1:at_ (zs.set p (zOD 4 (at_ zs (p:Int)) (at_ fs (i:Int)) 0)) (p:Int)=zOD 4 (at_ zs (p:Int)) (at_ fs (i:Int)) 0:=by rw [zNc hp,if_pos rfl]
  have hr:=ih n (i+1) (zs.set p (zOD 4 (at_ zs (p:Int)) (at_ fs (i:Int)) 0)) (by omega) (by omega) (by rw [List.length_set]; exact hp) (by rw [e1]; exact q1) (fun g hg=>by
   rw [e1,q3.inside]
   refine ⟨(hf g (by simp [hg])).1,fun hc => ?_⟩
   rcases (q2 g).1 hc with hc | hc
   ·exact (hf g (by simp [hg])).2 hc
   ·rw [pw0] at hc
    have:g=at_ fs (i:Int):=by omega
    exact hnd.1 (this▸hg)) hnd.2
  rw [e1,List.set_set] at hr
  show zCd _ _ _ _ _ _=some (⟨_,_,_,zs.set p (zMI (zOD 4 (at_ zs (p:Int)) (at_ fs (i:Int)) 0) (fs.drop (i+1))),_⟩:zJ)∧zE9 _ _ _ _ _ _=some (⟨_,_,_,zs.set p (zMI (zOD 4 (at_ zs (p:Int)) (at_ fs (i:Int)) 0) (fs.drop (i+1))),_⟩:zJ)
  unfold zCd zE9 zEt
  rw [zAE (dt (by omega)),zAE (dt (by omega)),zV (zAF hi),zV (zAF hp),zV (zAF hp),zV (zAF hi),zXk ho h0.1 h0.2,zXK ho h0.1 h0.2,zBR,zBR,zAE (dt rfl),zV (z7 (by omega)),zV (z7 (by omega))]
  exact hr
theorem zWa {fs:List Int} (hfs:fs.length≤1000) (hp:p<a.zones.length) (ho:OkZ (Zn a p)) (hf:∀ f,f∈fs→inside (Zn a p) f 0=true ∧ ¬ cov (Zn a p) f) (hn:fs.Nodup) :
  zFT a (p:Int) fs=some ⟨a.nodes,a.batch,a.high,a.zones.set p (zMI (Zn a p) fs),a.caches⟩∧zJ9 a (p:Int) fs=some ⟨a.nodes,a.batch,a.high,a.zones.set p (zMI (Zn a p) fs),a.caches⟩ :=
 zSt (a:=a) hfs fs.length zAD 0 a.zones (by omega) (by unfold zAD; omega) hp ho hf hn
end
end Go.Proofs.YtplkliakhdkpcaaGreat
namespace Go.Proofs.YtplkliakhdkpcaaGreat
open Go Go.RowKit Go.Wk Go.Am
def zMN (z:zj) (f:Int) (k:Nat):Nat→zj
 | 0=>z
 | m+1=>zMN (zPZ z (f+2 ^ (k+m)) (k+m)) f k m
structure zXF (z:zj) (f:Int) (q:Nat):Prop where
 al:f%2 ^ q=0
 lo:z.start≤f
 hi:f+2 ^ q≤z.start+z.count
 no:∀ g,f≤g→g<f+2 ^ q → ¬ cov z g
section
variable {z:zj} {f:Int} {k j:Nat}
theorem zON {q:Nat} (ho:OkZ z) (hq:q<4) (h:zXF z f (q+1)):OkZ (zPZ z (f+2 ^ q) q)∧(∀ g,cov (zPZ z (f+2 ^ q) q) g↔cov z g∨(f+2 ^ q≤g∧g<f+2 ^ (q+1)))∧zHB (zPZ z (f+2 ^ q) q) z∧zXF (zPZ z (f+2 ^ q) q) f q:=by
 obtain ⟨h1,h2,h3,h4⟩:=h
 have hp:=zIl q
 have hs:=zLl q
 have hr:=zBM ho.ranges
 obtain ⟨a1,a2⟩:=zTV h1
 have hin:inside z (f+2 ^ q) q=true:=(zBT ho.ranges).2 ⟨by omega,a2,by omega,by omega⟩
 have hfn:f ∉ lst z q:=fun hm=>h4 f (by omega) (by omega) ⟨q,f,hm,by omega,by omega⟩
 have hj:zL9 z (f+2 ^ q) q=false:=by
  have hb:bud (f+2 ^ q) q=f:=by
   rcases zNn hq (show 0≤f+2 ^ q by omega) (by omega) a2 with ⟨e,_⟩ | ⟨_,e⟩
   ·exfalso
    rcases (show q=0∨q=1∨q=2∨q=3 by omega) with rfl | rfl | rfl | rfl
    ·have e':(f+1)%2=0:=e
     have h':f%2=0:=h1
     omega
    ·have e':(f+2)%4=0:=e
     have h':f%4=0:=h1
     omega
    ·have e':(f+4)%8=0:=e
     have h':f%8=0:=h1
     omega
    ·have e':(f+8)%16=0:=e
     have h':f%16=0:=h1
     omega
   ·rw [e]; omega
  unfold zL9
  rw [hb,df hfn]
  rfl
 obtain ⟨q1,q2,q3⟩:=ho.insert (by omega) hin (fun g g1 g2=>h4 g (by omega) (by omega)) (fun _=>hj)
 refine ⟨q1,fun g => ?_,q3,a1,?_,?_,fun g g1 g2 hc => ?_⟩
 ·rw [q2 g]
  constructor
  ·rintro (h | h)
   ·exact .inl h
   ·exact .inr (by omega)
  ·rintro (h | h)
   ·exact .inl h
   ·exact .inr (by omega)
 ·rw [q3.2.2.1]; exact h2
 ·rw [q3.2.2.1,q3.2.2.2.1]; omega
 ·rcases (q2 g).1 hc with h | h
  ·exact h4 g g1 (by omega) h
  ·omega
theorem zQ5 (k:Nat):∀ m:Nat,(2:Int) ^ k≤2 ^ (k+m)
 | 0=>Int.le_refl _
 | m+1=>by
  have h1:=zQ5 k m
  have h2:=zLl (k+m)
  have h3:=zIl (k+m)
  rw [show k+(m+1)=k+m+1 by omega]
  omega
theorem zQ6:∀ (m:Nat) {z:zj},k+m≤4→OkZ z→zXF z f (k+m)→OkZ (zMN z f k m)∧(∀ g,cov (zMN z f k m) g↔cov z g∨(f+2 ^ k≤g∧g<f+2 ^ (k+m)))∧zHB (zMN z f k m) z
 | 0,z,_,ho,_=>⟨ho,fun g=>⟨.inl,fun h=>h.elim id (fun h=>by rw [Nat.add_zero] at h; omega)⟩,⟨rfl,rfl,rfl,rfl,rfl⟩⟩
 | m+1,z,hk,ho,h=>by
  obtain ⟨q1,q2,q3,q4⟩:=zON ho (q:=k+m) (by omega) h
  obtain ⟨r1,r2,r3⟩:=zQ6 m (by omega) q1 q4
  refine ⟨r1,fun g => ?_,r3.trans q3⟩
  show cov (zMN (zPZ z (f+2 ^ (k+m)) (k+m)) f k m) g↔_
  have hle:=zQ5 k m
  have hs:=zLl (k+m)
  have hp:=zIl (k+m)
  rw [r2 g,q2 g,show k+(m+1)=k+m+1 by omega]
  constructor
  ·rintro ((h | h) | h)
   ·exact .inl h
   ·exact .inr (by omega)
   ·exact .inr (by omega)
  ·rintro (h | h)
   ·exact .inl (.inl h)
   ·by_cases hg:f+2 ^ (k+m)≤g
    ·exact .inl (.inr (by omega))
    ·exact .inr (by omega)
theorem zWU (hj:j≤4) (hf:at_ (lst z j) (0:Int)=f):∀ (m n:Nat) (y:zj),k+m≤j→m<n→OkZ y→zHB y z→zXF y f (k+m)→zFS (k:Int) (j:Int) z n ((k+m:Nat):Int) y.free=some (zMN y f k m,f,0):=by
 intro m
 induction m with
 | zero =>
  intro n y h1 h2 ho h5 hh
  obtain ⟨n,rfl⟩:=ex1 ‹_<n›
  show zEH _ _ _ _ _ _=_
  unfold zEH zH9
  rw [zw (df (by omega)), ← h5.1, ← h5.2.1, ← h5.2.2.1, ← h5.2.2.2.1, ← h5.2.2.2.2]
  show some (_,at_ (lst z j) (0:Int),0)=_
  rw [hf]
  rfl
 | succ m ih =>
  intro n y h1 h2 ho h5 hh
  obtain ⟨n,rfl⟩:=ex1 ‹_<n›
  obtain ⟨q1,q2,q3,q4⟩:=zON ho (q:=k+m) (by omega) hh
  obtain ⟨e1,p1,p2⟩:=zJw (k:=k+m) (by omega)
  have hb:=zBM ho.ranges
  have hlo:=hh.lo
  have hhi:=hh.hi
  have hpp:=zIl (k+(m+1))
  have hP:=ho.putI
  have h5l:=ho.len
  have hi2:((k+(m+1):Nat):Int) - 1=((k+m:Nat):Int):=by omega
  have hfe:at_ (z.free.getD (j:Int).toNat []) (0:Int)=f:=hf
  have hl:y.free.getD ((k+m:Nat):Int).toNat []=lst y (k+m):=rfl
  have hok:zPr (lst y (k+m)) (lb (lst y (k+m)) (f+2 ^ (k+m)):Int)=true:=by
   have h1:=zVo (lst y (k+m)) (f+2 ^ (k+m))
   have h2:=hP.len' (k+m)
   unfold zPr
   rw [dt (by omega),dt (by omega),dt (by omega)]
   rfl
  show zEH _ _ _ _ _ _=_
  unfold zEH
  rw [zAE (dt (by omega)),zV (z7 (by omega)),hi2,zV (zNQ (by omega)),e1,hfe,zV (z7 (by omega)),zV (z7 (by omega)),zV (zAF (by omega)),zV (dt (by omega)),hl,zTG (hP.srt' _) (by have:=hP.len' (k+m); omega),zBR,zV hok]
  show zFS (k:Int) (j:Int) z n ((k+m:Nat):Int) (zEc 5 [] y.free (k+m) (zSp (lst y (k+m)) (f+2 ^ (k+m))))=_
  rw [zKc h5l (by omega)]
  exact ih n (zPZ y (f+2 ^ (k+m)) (k+m)) (by omega) (by omega) q1 (q3.trans h5) q4
def zNG (z:zj):Nat→Nat→Option Nat
 | _,0=>none
 | i,m+1=>if lst z i=[] then zNG z (i+1) m else some i
theorem zP1:∀ {m i j:Nat},zNG z i m=some j→i≤j∧j<i+m∧lst z j≠[] ∧ ∀ q,i≤q→q<j→lst z q=[]
 | 0,_,_,h=>by cases h
 | m+1,i,j,h=>by
  unfold zNG at h
  by_cases h0:lst z i=[]
  ·rw [if_pos h0] at h
   obtain ⟨h1,h2,h3,h4⟩:=zP1 h
   refine ⟨by omega,by omega,h3,fun q q1 q2 => ?_⟩
   by_cases e:q=i
   ·rw [e]; exact h0
   ·exact h4 q (by omega) q2
  ·rw [if_neg h0] at h
   cases h
   exact ⟨Nat.le_refl _,by omega,h0,fun q q1 q2=>by omega⟩
theorem zPf:∀ {m i:Nat},zNG z i m=none → ∀ q,i≤q→q<i+m→lst z q=[]
 | 0,_,_,q,_,_=>by omega
 | m+1,i,h,q,q1,q2=>by
  unfold zNG at h
  by_cases h0:lst z i=[]
  ·rw [if_pos h0] at h
   by_cases e:q=i
   ·rw [e]; exact h0
   ·exact zPf h q (by omega) (by omega)
  ·rw [if_neg h0] at h; cases h
def zC7 (z:zj) (k:Nat):zj×Int×Int:=match zNG z k (5 - k) with
 | none=>(⟨0,0,0,0,0,List.replicate 5 []⟩,0,16)
 | some j=>(zMN (zNB z (at_ (lst z j) (0:Int)) j) (at_ (lst z j) (0:Int)) k (j - k),at_ (lst z j) (0:Int),0)
theorem zWk {l:List Int} (h:l≠[]):∃ x r,l=x::r∧at_ l (0:Int)=x:=by
 cases l with
 | nil=>exact absurd rfl h
 | cons x r=>exact ⟨x,r,rfl,rfl⟩
theorem zW1 (ho:OkZ z) (h:lst z j≠[]):zNB z (at_ (lst z j) (0:Int)) j=zTS z j ((lst z j).drop 1):=by
 obtain ⟨x,r,e1,e2⟩:=zWk h
 have hs:=ho.srt j
 unfold zNB
 rw [e2]
 rw [e1] at hs ⊢
 rw [zQm (fun y hy=>by
  rcases List.mem_cons.1 hy with rfl | hy
  ·exact Int.le_refl _
  ·exact Int.le_of_lt ((List.pairwise_cons.1 hs).1 y hy))]
 rfl
theorem zRd (ho:OkZ z) (hj:j≤4) (h:f∈lst z j):OkZ (zNB z f j)∧(∀ g,cov (zNB z f j) g↔cov z g ∧ ¬ (f≤g∧g<f+2 ^ j))∧zHB (zNB z f j) z∧zXF (zNB z f j) f j:=by
 obtain ⟨q1,q2,q3⟩:=ho.del h
 have hb:=ho.bds (ho.ins j f h)
 refine ⟨q1,q2,q3,hb.2.2.2.2,?_,?_,fun g g1 g2 hc=>((q2 g).1 hc).2 ⟨g1,g2⟩⟩
 ·rw [q3.2.2.1]; exact hb.2.2.1
 ·rw [q3.2.2.1,q3.2.2.2.1]; exact hb.2.2.2.1
theorem zNw (ho:OkZ z) (hj:zNG z k (5 - k)=some j):(zC7 z k).2.2=0∧OkZ (zC7 z k).1∧zHB (zC7 z k).1 z∧inside z (zC7 z k).2.1 k=true∧(∀ g,cov (zC7 z k).1 g↔cov z g ∧ ¬ ((zC7 z k).2.1≤g∧g<(zC7 z k).2.1+2 ^ k))∧(∀ g,(zC7 z k).2.1≤g→g<(zC7 z k).2.1+2 ^ k→cov z g):=by
 obtain ⟨h1,h2,h3,_⟩:=zP1 hj
 unfold zC7
 rw [hj]
 dsimp only
 obtain ⟨x,r,e1,e2⟩:=zWk h3
 have hx:at_ (lst z j) (0:Int)∈lst z j:=by rw [e2,e1]; simp
 obtain ⟨q1,q2,q3,q4⟩:=zRd ho (by omega) hx
 have e:k+(j - k)=j:=by omega
 obtain ⟨r1,r2,r3⟩:=zQ6 (f:=at_ (lst z j) (0:Int)) (k:=k) (j - k) (by omega) q1 (by rw [e]; exact q4)
 have hpk:=zIl k
 have hle:=zQ5 k (j - k)
 rw [e] at hle
 have hb:=ho.bds (ho.ins j _ hx)
 have hcv:∀ g,at_ (lst z j) (0:Int)≤g→g<at_ (lst z j) (0:Int)+2 ^ j→cov z g:=fun g g1 g2=>⟨j,_,hx,g1,g2⟩
 refine ⟨rfl,r1,r3.trans q3,?_,fun g => ?_,fun g g1 g2=>hcv g g1 (by omega)⟩
 ·refine (zBT ho.ranges).2 ⟨hb.2.2.1,?_,?_,?_⟩
  ·have h9:=hb.2.2.2.2
   have h10:(2:Int) ^ j=2 ^ k*2 ^ (j - k):=by rw [← Int.pow_add,e]
   rw [h10] at h9
   exact Int.emod_eq_zero_of_dvd (Int.dvd_trans ⟨_,rfl⟩ (Int.dvd_of_emod_eq_zero h9))
  ·omega
  ·omega
 ·rw [r2 g,q2 g,e]
  constructor
  ·rintro (⟨h,h'⟩ | h)
   ·exact ⟨h,fun hh=>h' ⟨hh.1,by have:=hh.2; omega⟩⟩
   ·exact ⟨hcv g (by omega) h.2,fun hh=>by have:=hh.2; omega⟩
  ·rintro ⟨h,h'⟩
   by_cases hg:at_ (lst z j) (0:Int)≤g∧g<at_ (lst z j) (0:Int)+2 ^ j
   ·refine .inr ⟨?_,hg.2⟩
    by_cases hh:at_ (lst z j) (0:Int)+2 ^ k≤g
    ·exact hh
    ·exact absurd ⟨hg.1,by omega⟩ h'
   ·exact .inl ⟨h,hg⟩
theorem zWD (ho:OkZ z) (hk:k≤4):∀ (m n i:Nat),i+m=5→m<n→k≤i→zGp z (k:Int) n (i:Int)=match zNG z i m with
  | none=>some (⟨0,0,0,0,0,List.replicate 5 []⟩,0,16)
  | some j=>some (zMN (zNB z (at_ (lst z j) (0:Int)) j) (at_ (lst z j) (0:Int)) k (j - k),at_ (lst z j) (0:Int),0):=by
 intro m
 induction m with
 | zero =>
  intro n i h1 h2 h3
  obtain ⟨n,rfl⟩:=ex1 ‹_<n›
  show zD3 _ _ _ _=some (⟨0,0,0,0,0,List.replicate 5 []⟩,0,16)
  unfold zD3 zGb
  rw [df (p:=(i:Int)≤4) (by omega),zV (by rfl),zw (by rfl),zAE (dt (by omega))]
 | succ m ih =>
  intro n i h1 h2 h3
  obtain ⟨n,rfl⟩:=ex1 ‹_<n›
  have hll:=ho.putI.len' i
  have hl:z.free.getD (i:Int).toNat []=lst z i:=rfl
  show zD3 _ _ _ _=_
  unfold zD3 zNG
  rw [hl,dt (p:=(i:Int)≤4) (by omega),zV (zMv (zAF (by omega)))]
  by_cases h0:lst z i=[]
  ·rw [if_pos h0,zAE (by rw [h0]; rfl),zV (z7 (by omega))]
   exact ih n (i+1) (by omega) (by omega) (by omega)
  ·obtain ⟨x,r,e1,e2⟩:=zWk h0
   have hlen:(lst z i).length=r.length+1:=by rw [e1]; rfl
   have hx:at_ (lst z i) (0:Int)∈lst z i:=by rw [e2,e1]; simp
   obtain ⟨q1,q2,q3,q4⟩:=zRd ho (by omega) hx
   have ecut:zHt (lst z i) 1 ((lst z i).length:Int)=(lst z i).drop 1:=by
    unfold zHt
    rw [Int.toNat_natCast,List.take_length]
    rfl
   rw [if_neg h0,zw (by rw [df (by omega)]; rfl)]
   unfold zGb
   rw [zw (df (by omega)),zUt ho.zk,zBR,hl,zV (zAF (by omega)),zV (dt (by omega)),zV (zQR (by omega)),zV (by unfold zLs; simp; omega),zV (dt (by omega)),ecut,Int.toNat_natCast,zKc ho.len (by omega)]
   have e:k+(i - k)=i:=by omega
   have:=zWU (z:=z) (f:=at_ (lst z i) (0:Int)) (k:=k) (j:=i) (by omega) rfl (i - k) zAD (zNB z (at_ (lst z i) (0:Int)) i) (by omega) (by unfold zAD; omega) q1 q3 (by rw [e]; exact q4)
   rw [e,zW1 ho h0] at this
   show _=some (zMN (zNB z (at_ (lst z i) (0:Int)) i) (at_ (lst z i) (0:Int)) k (i - k),at_ (lst z i) (0:Int),0)
   rw [zW1 ho h0]
   exact this
theorem zXZ (ho:OkZ z) (hk:k≤4):zH2 z (k:Int)=some (zC7 z k):=by
 unfold zH2 zC7
 rw [zP3 ho.zk ho.inI,zFv ho,zBR,dt rfl,Bool.not_true,zw rfl,df (by omega),df (by omega),zw (by rfl),zWD ho hk (5 - k) zAD k (by omega) (by unfold zAD; omega) (Nat.le_refl _)]
 cases zNG z k (5 - k) <;> rfl
theorem zVE (ho:OkZ z) (hk:k≤4) (hj:zNG z k (5 - k)=some j):∀ (m n i:Nat) (s:List Int),(i:Int)+m=at_ (lst z j) (0:Int)+2 ^ k→m<n→at_ (lst z j) (0:Int)≤i→s.length=256 →
  (∀ g:Nat,s.getD g 0=if at_ (lst z j) (0:Int)≤(g:Int)∧(g:Int)<i then 0 else (zO6 z).getD g 0)→zGh z (k:Int) (j:Int) n (i:Int) s=some (zC7 z k):=by
 obtain ⟨hr,hin,_⟩:=zGw ho.zk (zFv ho)
 obtain ⟨w1,w2,w3,w4,w5,w6⟩:=zNw ho hj
 have ef:(zC7 z k).2.1=at_ (lst z j) (0:Int):=by unfold zC7; rw [hj]
 have er:zC7 z k=((zC7 z k).1,at_ (lst z j) (0:Int),0):=by rw [← ef, ← w1]
 have hb:=zAY hr w4
 rw [ef] at w5 w6 hb
 obtain ⟨e,p1,p2⟩:=zJw (k:=k) (by omega)
 obtain ⟨_,h01⟩:=zKU ho.zk (zFv ho)
 have ell:at_ (z.free.getD (j:Int).toNat []) (0:Int)=at_ (lst z j) (0:Int):=rfl
 intro m
 induction m with
 | zero =>
  intro n i s h1 h2 h3 h4 h5
  obtain ⟨n,rfl⟩:=ex1 ‹_<n›
  have hw:=zTM (z:=z) (s:=s) h4 w2 w3 (fun g=>by
   rw [w5]
   constructor
   ·rintro ⟨⟨q,x,hx,x1,x2⟩,hg⟩
    have:=zAY hr (ho.ins q x hx)
    obtain ⟨g,rfl⟩:=Int.eq_ofNat_of_zero_le (show 0≤g by omega)
    refine ⟨by omega,by omega,?_⟩
    rw [Int.toNat_natCast,h5,if_neg (fun hh=>hg ⟨hh.1,by omega⟩)]
    have:=(zLk ho.zk hr hin g).2 ⟨q,x,hx,x1,x2⟩
    omega
   ·rintro ⟨g1,g2,g3⟩
    have hrb:=zBM hr
    obtain ⟨q,rfl⟩:=Int.eq_ofNat_of_zero_le (show 0≤g by omega)
    rw [Int.toNat_natCast,h5] at g3
    split at g3
    ·exact absurd rfl g3
    ·rename_i hq
     refine ⟨?_,fun hh=>hq ⟨hh.1,by omega⟩⟩
     rcases h01 q with e0 | e0
     ·exact absurd e0 g3
     ·exact (zLk ho.zk hr hin q).1 (by omega))
  show zD0 _ _ _ _ _ _=_
  unfold zD0 zIG
  rw [e,ell,zV (dt (zHR (by omega) (by omega))),zV (zNQ (by omega)),zV (z7 (by omega)),zV (z7 (by omega)),zw (df (by omega)),hw,zBR,zBR, ← er]
 | succ m ih =>
  intro n i s h1 h2 h3 h4 h5
  obtain ⟨n,rfl⟩:=ex1 ‹_<n›
  have hil:i<s.length:=by omega
  show zD0 _ _ _ _ _ _=_
  unfold zD0
  rw [e,ell,zV (dt (zHR (by omega) (by omega))),zV (zNQ (by omega)),zV (z7 (by omega)),zV (z7 (by omega)),zAE (dt (by omega)),zV (zAF hil),zV (z7 (by omega))]
  refine ih n (i+1) _ (by omega) (by omega) (by omega) (by rw [List.length_set]; exact h4) (fun g => ?_)
  rw [Int.toNat_natCast,zV8 s i g hil,h5]
  by_cases hg:g=i
  ·rw [if_pos hg,if_pos (by omega)]
  ·rw [if_neg hg]
   by_cases hq:at_ (lst z j) (0:Int)≤(g:Int)∧(g:Int)<i
   ·rw [if_pos hq,if_pos (by omega)]
   ·rw [if_neg hq,if_neg (by omega)]
theorem zVs (ho:OkZ z) (hk:k≤4):∀ (m n i:Nat),i+m=5→m<n→k≤i→zNG z k (5 - k)=zNG z i m→zFM z (k:Int) n (i:Int)=some (zC7 z k):=by
 obtain ⟨hr,hin,_⟩:=zGw ho.zk (zFv ho)
 intro m
 induction m with
 | zero =>
  intro n i h1 h2 h3 h4
  obtain ⟨n,rfl⟩:=ex1 ‹_<n›
  show zEB _ _ _ _=_
  unfold zEB zIU zC7
  rw [zw (df (by omega)),h4]
  rfl
 | succ m ih =>
  intro n i h1 h2 h3 h4
  obtain ⟨n,rfl⟩:=ex1 ‹_<n›
  have hl:z.free.getD (i:Int).toNat []=lst z i:=rfl
  show zEB _ _ _ _=_
  unfold zEB zIN
  rw [hl,zAE (dt (by omega)),zV (zAF (by omega))]
  by_cases h0:lst z i=[]
  ·rw [zw (by rw [h0]; rfl),zV (z7 (by omega))]
   refine ih n (i+1) (by omega) (by omega) (by omega) ?_
   rw [h4]
   show (if lst z i=[] then _ else _)=_
   rw [if_pos h0]
  ·obtain ⟨x,r,e1,e2⟩:=zWk h0
   have hlen:(lst z i).length=r.length+1:=by rw [e1]; rfl
   have hj:zNG z k (5 - k)=some i:=by
    rw [h4]
    show (if lst z i=[] then _ else _)=_
    rw [if_neg h0]
   have hx:at_ (lst z i) (0:Int)∈lst z i:=by rw [e2,e1]; simp
   have hb:=ho.bds (ho.ins i _ hx)
   obtain ⟨q,hq⟩:=Int.eq_ofNat_of_zero_le hb.1
   have pn:=zMb (k:=k) (by omega)
   obtain ⟨e,p1,p2⟩:=zJw (k:=k) (by omega)
   rw [zAE (dt (by omega)),zV (zQR (by omega)),zQ8 ho.zk hr hin,zBR,hq]
   exact zVE ho hk hj (2 ^ k) zAD q (zO6 z) (by omega) (by unfold zAD; omega) (by omega) zPB (fun g=>by rw [if_neg (by omega)])
theorem zXu (ho:OkZ z) (hk:k≤4):zJG z (k:Int)=some (zC7 z k):=by
 unfold zJG
 rw [zRZ ho.zk,zFv ho,zBR,dt rfl,Bool.not_true,zw rfl,df (by omega),df (by omega),zw (by rfl)]
 exact zVs ho hk (5 - k) zAD k (by omega) (by unfold zAD; omega) (Nat.le_refl _) rfl
theorem zQ2 (h:zNG z k (5 - k)=none):zC7 z k=(⟨0,0,0,0,0,List.replicate 5 []⟩,0,16):=by
 unfold zC7
 rw [h]
theorem zYQ (ho:OkZ z) (h:zNG z 0 (5 - 0)=none):∀ g,¬ cov z g:=by
 rintro g ⟨q,x,hx,_⟩
 have hq:=ho.le4 hx
 rw [zPf h q (Nat.zero_le _) (by omega)] at hx
 cases hx
end
end Go.Proofs.YtplkliakhdkpcaaGreat
namespace Go.Proofs.YtplkliakhdkpcaaGreat
open Go Go.RowKit Go.Wk Go.Am
section
variable {a:zJ}
def zSL (cs:List zL) (i:Int):Int:=match cs with
 | []=>0
 | c::r=>((at_ c.lists i).length:Int)+zSL r i
def zMT (a:zJ) (i:Nat):Int:=zU2 (at_ a.zones (i:Int))+zSL a.caches (i:Int)
theorem zSv (h:Va a) {p:Nat} (hp:p<a.zones.length):∀ (m n j:Nat) (acc:Int),j+m=a.caches.length→m<n→0≤acc∧acc≤80000000+j*1000 →
  (zDw a (p:Int) n acc (j:Int)=some (acc+zSL (a.caches.drop j) (p:Int))∧zGd a (p:Int) n acc (j:Int)=some (acc+zSL (a.caches.drop j) (p:Int)))∧0≤acc+zSL (a.caches.drop j) (p:Int)∧acc+zSL (a.caches.drop j) (p:Int)≤90000000:=by
 have hcl:=h.al.c
 intro m
 induction m with
 | zero =>
  intro n j acc h1 h2 h3
  obtain ⟨n,rfl⟩:=ex1 ‹_<n›
  rw [List.drop_eq_nil_of_le (by omega)]
  have e:acc+zSL [] (p:Int)=acc:=by unfold zSL; omega
  rw [e]
  refine ⟨⟨?_,?_⟩,by omega,by omega⟩
  ·show zCO _ _ _ _ _=_
   unfold zCO
   rw [zw (df (by omega))]
   rfl
  ·show zEJ _ _ _ _ _=_
   unfold zEJ
   rw [zw (df (by omega))]
   rfl
 | succ m ih =>
  intro n j acc h1 h2 h3
  obtain ⟨n,rfl⟩:=ex1 ‹_<n›
  have hj:j<a.caches.length:=by omega
  have hl:=h.len _ (zAq hj)
  have hck:=h.al.ck _ (zAq hj)
  have hb:=hck.l _ (zAq (show p<(at_ a.caches (j:Int)).lists.length by omega))
  have:=ih n (j+1) (acc+((at_ (at_ a.caches (j:Int)).lists (p:Int)).length:Int)) (by omega) (by omega) (by omega)
  rw [zC1 hj]
  unfold zSL
  rw [← Int.add_assoc]
  refine ⟨⟨?_,?_⟩,this.2⟩
  ·rw [← this.1.1]
   show zCO _ _ _ _ _=_
   unfold zCO
   rw [zAE (dt (by omega)),zV (zAF hj),zV (zAF (by omega)),zV (z7 (by omega)),zV (z7 (by omega))]
   rfl
  ·rw [← this.1.2]
   show zEJ _ _ _ _ _=_
   unfold zEJ
   rw [zAE (dt (by omega)),zV (zAF hj),zV (zAF (by omega)),zV (z7 (by omega)),zV (z7 (by omega))]
   rfl
theorem zTf (h:Va a) {p:Nat} (hp:p<a.zones.length):∀ (m n k:Nat) (acc:Int),k+m=5→m<n→0≤acc∧acc≤k*16000000 →
  zGS a (p:Int) n acc (k:Int)=zIM a (p:Int) (acc+zP7 k ((at_ a.zones (p:Int)).free.drop k)):=by
 have hzk:=(h.al.zk _ (zAq hp)).1
 intro m
 induction m with
 | zero =>
  intro n k acc h1 h2 h3
  obtain ⟨n,rfl⟩:=ex1 ‹_<n›
  rw [List.drop_eq_nil_of_le (by rw [hzk.len]; omega)]
  show zEO _ _ _ _ _=_
  unfold zEO
  rw [zw (df (by omega)),show acc+zP7 k []=acc by unfold zP7; omega]
 | succ m ih =>
  intro n k acc h1 h2 h3
  obtain ⟨n,rfl⟩:=ex1 ‹_<n›
  have hb:=zVn (k:=k) (by omega) (hzk.bd k)
  obtain ⟨a1,a2⟩:=List.getElem?_eq_some_iff.1 (hzk.get (k:=k) (by omega))
  have hi:=ih n (k+1) (acc+((lst (at_ a.zones (p:Int)) k).length:Int)*2 ^ k) (by omega) (by omega) (by omega)
  rw [List.drop_eq_getElem_cons a1,a2]
  unfold zP7
  rw [← Int.add_assoc, ← hi]
  show zEO _ _ _ _ _=_
  unfold zEO
  have e:(at_ a.zones (p:Int)).free.getD (k:Int).toNat []=lst (at_ a.zones (p:Int)) k:=rfl
  rw [e,Int.toNat_natCast,zAE (dt (by omega)),zV (zAF hp),zV (zAF (by omega)),zV (dt (zHR (by omega) (by omega))),zV (zNQ (by omega)),zV (z7 (by omega)),zV (z7 (by omega)),zV (z7 (by omega))]
  rfl
theorem zXs (h:Va a) {p:Nat} (hp:p<a.zones.length):zDW a (p:Int)=some (zMT a p)∧zJJ a (p:Int)=some (zMT a p)∧0≤zMT a p∧zMT a p≤90000000:=by
 have hzk:=h.al.zk _ (zAq hp)
 have hcl:=h.al.c
 obtain ⟨b1,b2,b3⟩:=zXe hzk.1 hzk.2 (h.chk (zAq hp))
 have hc:=zSv h hp a.caches.length zAD 0 (zU2 (at_ a.zones (p:Int))) (by omega) (by unfold zAD; omega) (by omega)
 rw [List.drop_zero] at hc
 refine ⟨?_,?_,hc.2⟩
 ·unfold zDW
  rw [zV (zAF hp),b1,zBR]
  exact hc.1.1
 ·unfold zJJ
  have hr:=zTf h hp 5 zAD 0 0 (by omega) (by unfold zAD; omega) (by omega)
  rw [List.drop_zero,Int.zero_add] at hr
  refine Eq.trans hr ?_
  exact hc.1.2
theorem zXg (h:Va a) {p:Nat} (hp:p<a.zones.length):0≤(at_ a.zones (p:Int)).min∧(at_ a.zones (p:Int)).min≤256:=by
 have:=zBM (zDF (h.chk (zAq hp)))
 omega
end
end Go.Proofs.YtplkliakhdkpcaaGreat
namespace Go.Proofs.YtplkliakhdkpcaaGreat
open Go Go.RowKit Go.Wk Go.Am
def zNI (v w:Int):Int:=if w<v then 2*(v - w) else 2*(w - v)+1
def zKX (zs:List zj) (v i:Int):Int:=if (at_ zs i).kind=0 then 2*zNI v (at_ zs i).node+1 else 2*zNI v (at_ zs i).node
def gK (zs:List zj) (v i:Int):Int:=8*zKX zs v i+i
structure Gn (zs:List zj):Prop where
 n:zs.length≤6
 nd:∀ z,z∈zs→0≤z.node∧z.node<4
 kd:∀ z,z∈zs→z.kind=0∨z.kind=1
theorem zKS {A B:List Int}:Srt (A++B)↔Srt A∧Srt B ∧ ∀ a,a∈A → ∀ b,b∈B→a<b:=List.pairwise_append
theorem zLg (a:Int):Srt [a]:=List.pairwise_singleton ..
theorem zUw {A C:List Int} {b:Int} {i:Nat} (h:A.length=i):at_ (A++b::C) (i:Int)=b:=zYb (zG0 h)
section
variable {zs:List zj} {v:Int}
theorem zXV (hv:0≤v∧v<4) {w:Int} (hw:0≤w∧w<4):zIm v w=some (zNI v w)∧0≤zNI v w∧zNI v w≤8:=by
 unfold zIm zNI
 by_cases h:w<v
 ·rw [zAE (dt h),if_pos h,zV (z7 (by omega)),zV (z7 (by omega))]
  exact ⟨rfl,by omega⟩
 ·rw [zw (df h),if_neg h,zV (z7 (by omega)),zV (z7 (by omega)),zV (z7 (by omega))]
  exact ⟨rfl,by omega⟩
theorem zQM (h:Gn zs) (hv:0≤v∧v<4) {i:Nat} (hi:i<zs.length):zAn (i:Int) v zs=some (zKX zs v (i:Int))∧0≤zKX zs v (i:Int)∧zKX zs v (i:Int)≤17:=by
 obtain ⟨k1,k2,k3⟩:=zXV hv (h.nd _ (zAq hi))
 unfold zAn zKX zDX
 rw [zV (zAF hi),k1,zBR,zV (z7 (by omega))]
 by_cases hk:(at_ zs (i:Int)).kind=0
 ·rw [zAE (dt hk),if_pos hk,zV (z7 (by omega))]
  exact ⟨rfl,by omega⟩
 ·rw [zw (df hk),if_neg hk]
  exact ⟨rfl,by omega⟩
def Ix (zs:List zj) (i:Int):Prop := ∃ k:Nat,i=(k:Int)∧k<zs.length
theorem zUP (h:Gn zs) {i j:Int} (hi:Ix zs i) (hj:Ix zs j) (hr:zKX zs v i<zKX zs v j):gK zs v i<gK zs v j:=by
 obtain ⟨a,rfl,ha⟩:=hi
 obtain ⟨b,rfl,hb⟩:=hj
 have:=h.n
 unfold gK
 omega
theorem zW5 (h:Gn zs) (hv:0≤v∧v<4) {x y:Int} (hx:Ix zs x) (hy:Ix zs y) (hyx:y<x):∃ r,zAw x y (fun y0=>zAn y0 v zs)=some r∧(r<0↔gK zs v x<gK zs v y):=by
 have hlt:=zUP (v:=v) h hx hy
 have hgt:=zUP (v:=v) h hy hx
 obtain ⟨a,rfl,ha⟩:=hx
 obtain ⟨b,rfl,hb⟩:=hy
 unfold zAw
 dsimp only
 rw [(zQM h hv ha).1,(zQM h hv hb).1,zBR,zBR]
 unfold zHo zDn
 rw [dt rfl,dt rfl,Bool.not_true,zBR,zBR,zw rfl,zw rfl]
 by_cases h1:zKX zs v (a:Int)<zKX zs v (b:Int)
 ·rw [zAE (dt h1)]
  exact ⟨-1,rfl,fun _=>hlt h1,fun _=>by decide⟩
 ·rw [zw (df h1)]
  by_cases h2:zKX zs v (b:Int)<zKX zs v (a:Int)
  ·rw [zAE (dt h2)]
   have:=hgt h2
   exact ⟨1,rfl,fun x=>absurd x (by decide),fun x=>by omega⟩
  ·rw [zw (df h2)]
   exact ⟨0,rfl,fun x=>absurd x (by decide),fun x=>by unfold gK at x; omega⟩
theorem zXG (h:Gn zs) (hv:0≤v∧v<4) {i:Int} {se:Int→List Int→Option (List Int)} {x:Int} (hx:Ix zs x) (hi:0≤i∧i≤1000):∀ (m n:Nat) (P R:List Int),P.length=m→m<n→m≤1000→(∀ y,y∈P→Ix zs y∧y<x)→Srt (P.map (gK zs v)) →
  ∃ P',P'.length=m+1∧Srt (P'.map (gK zs v))∧(∀ z,z∈P'↔z=x∨z∈P)∧zAR se 0 (fun y0 y1=>zAw y0 y1 (fun y0=>zAn y0 v zs)) i n (m:Int) (P++x::R)=se (i+1) (P'++R):=by
 intro m
 induction m with
 | zero =>
  intro n P R h1 h2 h3 h4 h5
  obtain ⟨n,rfl⟩:=ex1 ‹_<n›
  obtain rfl:=List.length_eq_zero_iff.1 h1
  refine ⟨[x],rfl,zLg _,fun z=>by simp,?_⟩
  show zAQ _ _ _ _ _ _ _=_
  unfold zAQ zAu
  rw [df (p:=(0:Int)<((0:Nat):Int)) (by omega),zV (by rfl),zV (by rfl),zV (by rfl),zw rfl,zBR,zw (by rfl),zV (z7 (by omega))]
  rfl
 | succ m ih =>
  intro n P R h1 h2 h3 h4 h5
  obtain ⟨n,rfl⟩:=ex1 ‹_<n›
  have hne:P≠[]:=fun e=>by rw [e] at h1; simp at h1
  obtain ⟨Q,y,rfl⟩:∃ Q y,P=Q++[y]:=⟨P.dropLast,P.getLast hne,(List.dropLast_concat_getLast hne).symm⟩
  have hQ:Q.length=m:=by simp at h1; exact h1
  have hy:=h4 y (by simp)
  have e0:Q++[y]++x::R=Q++y::(x::R):=by simp
  have ex:at_ (Q++[y]++x::R) ((m+1:Nat):Int)=x:=zUw h1
  have ey:at_ (Q++[y]++x::R) (m:Int)=y:=by rw [e0]; exact zUw hQ
  have hm:((m+1:Nat):Int) - 1=(m:Int):=by omega
  have hlen:(Q++[y]++x::R).length=m+2+R.length:=by simp; omega
  obtain ⟨r,r1,r2⟩:=zW5 h hv hx hy.1 hy.2
  rw [List.map_append,zKS] at h5
  have hlast:∀ q,q∈Q→gK zs v q<gK zs v y:=fun q hq=>h5.2.2 _ (List.mem_map_of_mem hq) _ (by simp)
  have hne2:gK zs v y≠gK zs v x:=fun e=>by
   obtain ⟨a,rfl,ha⟩:=hx
   obtain ⟨b,rfl,hb⟩:=hy.1
   have:=h.n
   have:=hy.2
   unfold gK at e
   omega
  have step:∀ (R':Option (List Int)),(gK zs v x<gK zs v y→zAR se 0 (fun y0 y1=>zAw y0 y1 (fun y0=>zAn y0 v zs)) i n (m:Int) (Q++x::(y::R))=R')→(¬ gK zs v x<gK zs v y→se (i+1) (Q++[y]++x::R)=R') →
    zAR se 0 (fun y0 y1=>zAw y0 y1 (fun y0=>zAn y0 v zs)) i (n+1) ((m+1:Nat):Int) (Q++[y]++x::R)=R':=fun R' k1 k2=>by
   show zAQ _ _ _ _ _ _ _=_
   unfold zAQ zAu
   rw [dt (p:=(0:Int)<((m+1:Nat):Int)) (by omega),zV (zMv (zAF (by omega))),zV (zMv (z7 (by omega))),hm,zV (zMv (zAF (by omega))),zAE rfl,ex,ey]
   dsimp only
   rw [r1,zBR]
   by_cases hlt:gK zs v x<gK zs v y
   ·have es:((Q++[y]++x::R).set ((m+1:Nat):Int).toNat y).set (m:Int).toNat x=Q++x::(y::R):=by
     rw [Int.toNat_natCast,Int.toNat_natCast,zKw h1]
     have:Q++[y]++y::R=Q++y::(y::R):=by simp
     rw [this,zKw hQ]
    rw [zAE (by rw [dt (r2.2 hlt)]; rfl),zV (z7 (by omega)),zV (zAF (by omega)),zV (zAF (by omega)),zV (zAF (by rw [List.length_set]; omega)),es]
    exact k1 hlt
   ·rw [zw (by rw [df (fun hh=>hlt (r2.1 hh))]; rfl),zV (z7 (by omega))]
    exact k2 hlt
  by_cases hlt:gK zs v x<gK zs v y
  ·obtain ⟨P',p1,p2,p3,p4⟩:=ih n Q (y::R) hQ (by omega) (by omega) (fun q hq=>h4 q (by simp [hq])) h5.1
   refine ⟨P'++[y],by simp [p1],?_,fun z => ?_,step _ (fun _ => ?_) (fun hh=>absurd hlt hh)⟩
   ·rw [List.map_append,zKS]
    refine ⟨p2,zLg _,fun a ha b hb => ?_⟩
    simp only [List.map_cons,List.map_nil,List.mem_singleton] at hb
    subst hb
    obtain ⟨q,hq,rfl⟩:=List.mem_map.1 ha
    rcases (p3 q).1 hq with rfl | hq
    ·exact hlt
    ·exact hlast q hq
   ·rw [List.mem_append,p3,List.mem_append]
    constructor
    ·rintro ((h | h) | h)
     ·exact .inl h
     ·exact .inr (.inl h)
     ·exact .inr (.inr h)
    ·rintro (h | h | h)
     ·exact .inl (.inl h)
     ·exact .inl (.inr h)
     ·exact .inr h
   ·rw [p4]; simp
  ·refine ⟨Q++[y]++[x],by simp; omega,?_,fun z => ?_,step _ (fun hh=>absurd hh hlt) (fun _=>by simp)⟩
   ·rw [List.map_append,zKS,List.map_append,zKS]
    refine ⟨⟨h5.1,h5.2.1,h5.2.2⟩,zLg _,fun a ha b hb => ?_⟩
    simp only [List.map_cons,List.map_nil,List.mem_singleton] at hb
    subst hb
    rcases List.mem_append.1 ha with ha | ha
    ·obtain ⟨q,hq,rfl⟩:=List.mem_map.1 ha
     have:=hlast q hq
     omega
    ·simp only [List.map_cons,List.map_nil,List.mem_singleton] at ha
     subst ha
     omega
   ·rw [List.mem_append,List.mem_singleton]
    exact ⟨fun h=>h.elim .inr .inl,fun h=>h.elim .inr .inl⟩
theorem zVO (h:Gn zs) (hv:0≤v∧v<4):∀ (m n:Nat) (S T:List Int),T.length=m→m<n→S.length+m≤6→(∀ y,y∈S→Ix zs y)→(∀ y,y∈T→Ix zs y)→(∀ y,y∈S → ∀ x,x∈T→y<x)→Srt T→Srt (S.map (gK zs v)) →
  ∃ L,Srt (L.map (gK zs v))∧(∀ z,z∈L↔z∈S∨z∈T)∧zAB 0 ((S.length+m:Nat):Int) (fun y0 y1=>zAw y0 y1 (fun y0=>zAn y0 v zs)) n (S.length:Int) (S++T)=some L:=by
 intro m
 induction m with
 | zero =>
  intro n S T h1 h2 h3 h4 h5 h6 h7 h8
  obtain ⟨n,rfl⟩:=ex1 ‹_<n›
  obtain rfl:=List.length_eq_zero_iff.1 h1
  refine ⟨S,h8,fun z=>by simp,?_⟩
  show zAG _ _ _ _ _ _=_
  unfold zAG
  rw [zw (df (by omega)),List.append_nil]
 | succ m ih =>
  intro n S T h1 h2 h3 h4 h5 h6 h7 h8
  obtain ⟨n,rfl⟩:=ex1 ‹_<n›
  obtain ⟨x,T',rfl⟩:∃ x T',T=x::T':=by cases T with | nil=>simp at h1 | cons x T'=>exact ⟨x,T',rfl⟩
  have h7':=List.pairwise_cons.1 h7
  obtain ⟨P',p1,p2,p3,p4⟩:=zXG h hv (i:=(S.length:Int)) (se:=zAB 0 ((S.length+(m+1):Nat):Int) (fun y0 y1=>zAw y0 y1 (fun y0=>zAn y0 v zs)) n) (h5 x (by simp)) (by omega) S.length zAD S T' rfl (by unfold zAD; omega) (by omega) (fun y hy=>⟨h4 y hy,h6 y hy x (by simp)⟩) h8
  obtain ⟨L,l1,l2,l3⟩:=ih n P' T' (by simpa using h1) (by omega) (by omega) (fun y hy=>by
   rcases (p3 y).1 hy with rfl | hy
   ·exact h5 y (by simp)
   ·exact h4 y hy) (fun y hy=>h5 y (by simp [hy])) (fun y hy z hz=>by
   rcases (p3 y).1 hy with rfl | hy
   ·exact h7'.1 z hz
   ·exact h6 y hy z (by simp [hz])) h7'.2 p2
  refine ⟨L,l1,fun z => ?_,?_⟩
  ·rw [l2,p3,List.mem_cons]
   constructor
   ·rintro ((h | h) | h)
    ·exact .inr (.inl h)
    ·exact .inl h
    ·exact .inr (.inr h)
   ·rintro (h | h | h)
    ·exact .inl (.inr h)
    ·exact .inl (.inl h)
    ·exact .inr h
  ·show zAG _ _ _ _ _ _=_
   unfold zAG
   rw [zAE (dt (by omega)),p4, ← l3,p1,show S.length+(m+1)=S.length+1+m by omega]
   rfl
theorem zWV (h:Gn zs) (hv:0≤v∧v<4) {T:List Int} (hT:T.length≤6) (hi:∀ y,y∈T→Ix zs y) (hs:Srt T):∃ L,Srt (L.map (gK zs v))∧(∀ z,z∈L↔z∈T)∧zBF T (fun y0 y1=>zAw y0 y1 (fun y0=>zAn y0 v zs))=some L:=by
 have key:∃ L,Srt (L.map (gK zs v))∧(∀ z,z∈L↔z∈T)∧zAm T 0 (T.length:Int) (fun y0 y1=>zAw y0 y1 (fun y0=>zAn y0 v zs))=some L:=by
  unfold zAm
  rw [zV (z7 (by omega))]
  cases T with
  | nil=>exact ⟨[],Srt.nil,fun z=>Iff.rfl,by
    rw [show zAD=(zAD - 1)+1 from rfl]
    show zAG _ _ _ _ _ _=_
    unfold zAG
    rw [zw (by rfl)]⟩
  | cons x T =>
   have hs':=List.pairwise_cons.1 hs
   obtain ⟨L,l1,l2,l3⟩:=zVO h hv T.length zAD [x] T rfl (by simp at hT; unfold zAD; omega) (by simp at hT ⊢; omega) (fun y hy=>hi y (by simp at hy; simp [hy])) (fun y hy=>hi y (by simp [hy])) (fun y hy z hz=>by simp at hy; subst hy; exact hs'.1 z hz) hs'.2 (zLg _)
   refine ⟨L,l1,fun z=>by rw [l2]; simp,?_⟩
   rw [← l3,show ((x::T).length:Int)=(([x].length+T.length:Nat):Int) by rw [List.length_cons]; show _=((1+T.length:Nat):Int); omega]
   rfl
 obtain ⟨L,l1,l2,l3⟩:=key
 refine ⟨L,l1,l2,?_⟩
 unfold zBF zCs
 have e1:zBW (T.length:Int) (fun y0 y1=>zAw y0 y1 (fun y0=>zAn y0 v zs)) zAD 0 20 T=some L:=by
  rw [show zAD=(zAD - 1)+1 from rfl]
  show zBX _ _ _ _ _ _=_
  unfold zBX zB8
  rw [zw (df (by omega)),l3,zBR]
  rw [show zAD=(zAD - 1)+1 from rfl]
  show zBV _ _ _ _=_
  unfold zBV
  rw [zw (df (by omega))]
 rw [e1]
 rfl
def zTq (zs:List zj) (kern:Bool) (i:Int):Bool := !kern||decide ((at_ zs i).kind=0)
theorem zRO (h:Gn zs):∀ (m n i:Nat),i+m=zs.length→m<n→zEo zs n (i:Int)=some 0∧zGU zs n (i:Int)=some 0:=by
 have hn:=h.n
 intro m
 induction m with
 | zero =>
  intro n i h1 h2
  obtain ⟨n,rfl⟩:=ex1 ‹_<n›
  show zCY _ _ _=_∧zEQ _ _ _=_
  unfold zCY zEQ
  rw [zw (df (by omega)),zw (df (by omega))]
  exact ⟨rfl,rfl⟩
 | succ m ih =>
  intro n i h1 h2
  obtain ⟨n,rfl⟩:=ex1 ‹_<n›
  have hi:i<zs.length:=by omega
  have h3:=h.nd _ (zAq hi)
  have h4:=h.kd _ (zAq hi)
  have h5:((!decide ((at_ zs (i:Int)).kind=0))&&(!decide ((at_ zs (i:Int)).kind=1)))=false:=by
   rcases h4 with e | e <;> rw [e] <;> rfl
  show zCY _ _ _=_∧zEQ _ _ _=_
  unfold zCY zEQ
  rw [zAE (dt (by omega)),zAE (dt (by omega)),zV (zAF hi),zV (zAF hi),df (by omega),df (by omega),h5,Bool.or_false,zw rfl,zw rfl,zw rfl,zw rfl,zV (z7 (by omega)),zV (z7 (by omega))]
  exact ih n (i+1) (by omega) (by omega)
theorem zVf (h:Gn zs) (hv:0≤v∧v<4) {kern:Bool}:∀ (m n i:Nat) (l:List Int),i+m=zs.length→m<n→l.length≤i→Srt l→(∀ z,z∈l ↔ ∃ k:Nat,z=(k:Int)∧k<i∧zTq zs kern z=true) →
  ∃ L,Srt (L.map (gK zs v))∧(∀ z,z∈L↔Ix zs z∧zTq zs kern z=true)∧zDH zs v kern n (i:Int) l=some (L,0):=by
 have hn:=h.n
 intro m
 induction m with
 | zero =>
  intro n i l h1 h2 h3 h4 h5
  obtain ⟨n,rfl⟩:=ex1 ‹_<n›
  obtain ⟨L,l1,l2,l3⟩:=zWV h hv (T:=l) (by omega) (fun y hy=>by
   obtain ⟨k,e,hk,_⟩:=(h5 y).1 hy
   exact ⟨k,e,by omega⟩) h4
  refine ⟨L,l1,fun z => ?_,?_⟩
  ·rw [l2,h5]
   constructor
   ·rintro ⟨k,e,hk,hs⟩; exact ⟨⟨k,e,by omega⟩,hs⟩
   ·rintro ⟨⟨k,e,hk⟩,hs⟩; exact ⟨k,e,by omega,hs⟩
  ·show zBa _ _ _ _ _ _=_
   unfold zBa zGJ
   rw [zw (df (by omega)),l3,zBR]
 | succ m ih =>
  intro n i l h1 h2 h3 h4 h5
  obtain ⟨n,rfl⟩:=ex1 ‹_<n›
  have hi:i<zs.length:=by omega
  have hcur:zTq zs kern (i:Int)=((!kern)||decide ((at_ zs (i:Int)).kind=0)):=rfl
  cases hs:zTq zs kern (i:Int) with
  | true =>
   obtain ⟨L,l1,l2,l3⟩:=ih n (i+1) (l++[(i:Int)]) (by omega) (by omega) (by simp; omega) (by
    rw [zKS]
    refine ⟨h4,zLg _,fun a ha b hb => ?_⟩
    obtain ⟨k,e,hk,_⟩:=(h5 a).1 ha
    simp at hb
    omega) (fun z=>by
    rw [List.mem_append,h5]
    constructor
    ·rintro (⟨k,e,hk,hs'⟩ | hz)
     ·exact ⟨k,e,by omega,hs'⟩
     ·simp at hz
      subst hz
      exact ⟨i,rfl,by omega,hs⟩
    ·rintro ⟨k,e,hk,hs'⟩
     by_cases hki:k<i
     ·exact .inl ⟨k,e,hki,hs'⟩
     ·exact .inr (by simp; omega))
   refine ⟨L,l1,l2,?_⟩
   show zBa _ _ _ _ _ _=_
   unfold zBa zDI
   rw [zAE (dt (by omega)),zV (zAF hi), ← hcur,hs,zAE rfl,zV (dt (by simp; omega)),zV (z7 (by omega))]
   exact l3
  | false =>
   obtain ⟨L,l1,l2,l3⟩:=ih n (i+1) l (by omega) (by omega) (by omega) h4 (fun z=>by
    rw [h5]
    constructor
    ·rintro ⟨k,e,hk,hs'⟩; exact ⟨k,e,by omega,hs'⟩
    ·rintro ⟨k,e,hk,hs'⟩
     refine ⟨k,e,?_,hs'⟩
     refine Nat.lt_of_not_le fun hki => ?_
     have:k=i:=by omega
     subst this
     rw [e,hs] at hs'
     cases hs')
   refine ⟨L,l1,l2,?_⟩
   show zBa _ _ _ _ _ _=_
   unfold zBa zDI
   rw [zAE (dt (by omega)),zV (zAF hi), ← hcur,hs,zw rfl,zV (z7 (by omega))]
   exact l3
theorem zWz (h:Gn zs) (hv:0≤v∧v<4) (kern:Bool):∃ L,Srt (L.map (gK zs v))∧(∀ z,z∈L↔Ix zs z∧zTq zs kern z=true)∧zEA zs v kern=some (L,0):=by
 have hn:=h.n
 obtain ⟨L,l1,l2,l3⟩:=zVf h hv (kern:=kern) zs.length zAD 0 [] (by omega) (by unfold zAD; omega) (Nat.le_refl _) Srt.nil (fun z=>⟨fun hz=>(by cases hz),fun ⟨k,_,hk,_⟩=>by omega⟩)
 refine ⟨L,l1,l2,?_⟩
 unfold zEA zH6 zH7
 rw [zw (df (by omega)),z0i,(zRO h zs.length zAD 0 (by omega) (by unfold zAD; omega)).1,zBR]
 rw [zw (by rfl),df (by omega),df (by omega),zw (by rfl),zBR,zw (by rfl)]
 exact l3
theorem zXr (h:Gn zs) {q:Int}:∀ (m n i:Nat),i+m=zs.length→m<n → ∃ b,zId zs q n (i:Int)=some b∧(b=true ↔ ∃ k:Nat,i≤k∧k<zs.length∧(at_ zs (k:Int)).node=q):=by
 have hn:=h.n
 intro m
 induction m with
 | zero =>
  intro n i h1 h2
  obtain ⟨n,rfl⟩:=ex1 ‹_<n›
  refine ⟨false,?_,fun e=>(by cases e),fun ⟨k,k1,k2,_⟩=>by omega⟩
  show zDj _ _ _ _=_
  unfold zDj
  rw [zw (df (by omega))]
  rfl
 | succ m ih =>
  intro n i h1 h2
  obtain ⟨n,rfl⟩:=ex1 ‹_<n›
  have hi:i<zs.length:=by omega
  by_cases hq:(at_ zs (i:Int)).node=q
  ·refine ⟨true,?_,fun _=>⟨i,Nat.le_refl _,hi,hq⟩,fun _=>rfl⟩
   show zDj _ _ _ _=_
   unfold zDj
   rw [zAE (dt (by omega)),zV (zAF hi),zAE (dt hq)]
  ·obtain ⟨b,b1,b2⟩:=ih n (i+1) (by omega) (by omega)
   refine ⟨b,?_,b2.trans ⟨fun ⟨k,k1,k2,k3⟩=>⟨k,by omega,k2,k3⟩,fun ⟨k,k1,k2,k3⟩=>⟨k,?_,k2,k3⟩⟩⟩
   ·show zDj _ _ _ _=_
    unfold zDj
    rw [zAE (dt (by omega)),zV (zAF hi),zw (df hq),zV (z7 (by omega))]
    exact b1
   ·refine Nat.lt_of_not_le fun hk => ?_
    have:k=i:=by omega
    subst this
    exact hq k3
def zWp (zs:List zj) (q:Int):Prop := ∃ k:Nat,k<zs.length∧(at_ zs (k:Int)).node=q
theorem zSf (h:Gn zs) (hv:0≤v∧v<4):∀ (m n d:Nat) (l:List Int),d+m=4→m<n→Srt (l.map (zNI v))→l.length≤2*d→(∀ q,q∈l↔zWp zs q ∧ -(d:Int)<q - v∧q - v<d) →
  ∃ ns,Srt (ns.map (zNI v))∧ns.length≤8∧(∀ q,q∈ns↔zWp zs q)∧zBK zs v n (d:Int) l=some (ns,0):=by
 have hn:=h.n
 intro m
 induction m with
 | zero =>
  intro n d l h1 h2 h3 h4 h5
  obtain ⟨n,rfl⟩:=ex1 ‹_<n›
  refine ⟨l,h3,by omega,fun q => ?_,?_⟩
  ·rw [h5]
   refine ⟨And.left,fun hq=>⟨hq,?_⟩⟩
   obtain ⟨k,k1,k2⟩:=hq
   have:=h.nd _ (zAq k1)
   omega
  ·show zEY _ _ _ _ _=_
   unfold zEY zIS
   rw [zw (df (by omega))]
 | succ m ih =>
  intro n d l h1 h2 h3 h4 h5
  obtain ⟨n,rfl⟩:=ex1 ‹_<n›
  obtain ⟨b1,e1,g1⟩:=zXr h (q:=v - d) zs.length zAD 0 (by omega) (by unfold zAD; omega)
  obtain ⟨b2,e2,g2⟩:=zXr h (q:=v+d) zs.length zAD 0 (by omega) (by unfold zAD; omega)
  have g1':b1=true↔zWp zs (v - d):=g1.trans ⟨fun ⟨k,_,k2,k3⟩=>⟨k,k2,k3⟩,fun ⟨k,k2,k3⟩=>⟨k,Nat.zero_le _,k2,k3⟩⟩
  have g2':b2=true↔zWp zs (v+d):=g2.trans ⟨fun ⟨k,_,k2,k3⟩=>⟨k,k2,k3⟩,fun ⟨k,k2,k3⟩=>⟨k,Nat.zero_le _,k2,k3⟩⟩
  have hk:∀ q,q∈l→zNI v q<2*d:=fun q hq=>by
   obtain ⟨_,q1,q2⟩:=(h5 q).1 hq
   unfold zNI
   split <;> omega
  have hadd:∀ (c1 c2:Bool),(c1=true↔b1=true)→(c2=true↔0<d∧b2=true) → ∃ ns,Srt (ns.map (zNI v))∧ns.length≤8∧(∀ q,q∈ns↔zWp zs q)∧zBK zs v n ((d+1:Nat):Int) (l++(if c1 then [v - (d:Int)] else [])++(if c2 then [v+(d:Int)] else []))=some (ns,0):=fun c1 c2 i1 i2=>by
   refine ih n (d+1) _ (by omega) (by omega) ?_ ?_ (fun q => ?_)
   ·rw [List.map_append,List.map_append,zKS,zKS]
    refine ⟨⟨h3,?_,fun a ha b hb => ?_⟩,?_,fun a ha b hb => ?_⟩
    ·cases c1
     ·exact Srt.nil
     ·exact zLg _
    ·obtain ⟨q,hq,rfl⟩:=List.mem_map.1 ha
     have:=hk q hq
     cases c1
     ·cases hb
     ·simp at hb
      subst hb
      unfold zNI at this ⊢
      split <;> split at this <;> omega
    ·cases c2
     ·exact Srt.nil
     ·exact zLg _
    ·cases c2 with
     | false=>cases hb
     | true =>
      have hd:=(i2.1 rfl).1
      simp at hb
      subst hb
      rcases List.mem_append.1 ha with ha | ha
      ·obtain ⟨q,hq,rfl⟩:=List.mem_map.1 ha
       have:=hk q hq
       unfold zNI at this ⊢
       split <;> split at this <;> omega
      ·cases c1
       ·cases ha
       ·simp at ha
        subst ha
        unfold zNI
        split <;> split <;> omega
   ·rw [List.length_append,List.length_append]
    cases c1 <;> cases c2 <;> simp <;> omega
   ·rw [List.mem_append,List.mem_append,h5]
    have m1:q∈(if c1 then [v - (d:Int)] else [])↔c1=true∧q=v - d:=by cases c1 <;> simp
    have m2:q∈(if c2 then [v+(d:Int)] else [])↔c2=true∧q=v+d:=by cases c2 <;> simp
    rw [m1,m2,i1,i2,g1',g2']
    constructor
    ·rintro ((⟨h1,h2,h3⟩ | ⟨h1,rfl⟩) | ⟨⟨h0,h1⟩,rfl⟩)
     ·exact ⟨h1,by omega⟩
     ·exact ⟨h1,by omega⟩
     ·exact ⟨h1,by omega⟩
    ·rintro ⟨h1,h2,h3⟩
     by_cases e1:q=v - d
     ·exact .inl (.inr ⟨e1▸h1,e1⟩)
     ·by_cases e2:q=v+d
      ·exact .inr ⟨⟨by omega,e2▸h1⟩,e2⟩
      ·exact .inl (.inl ⟨h1,by omega⟩)
  have hlen:l.length≤8:=by omega
  have hj:∀ (l':List Int),l'.length≤9→zFP (zBK zs v n) zs v (d:Int) l'=zBK zs v n ((d+1:Nat):Int) (l'++(if (decide (0<(d:Int))&&b2) then [v+(d:Int)] else [])):=fun l' hl'=>by
   unfold zFP zGc zKE
   rw [zV (zMv (z7 (by omega)))]
   by_cases hd:0<d
   ·rw [dt (p:=(0:Int)<(d:Int)) (by omega),zAE rfl,z0i,e2,zBR]
    cases b2 with
    | true =>
     rw [zAE (by rfl),zV (z7 (by omega)),zV (dt (by simp; omega)),zV (z7 (by omega))]
     rfl
    | false =>
     rw [zw (by rfl),zV (z7 (by omega))]
     show _=zBK zs v n _ (l'++[])
     rw [List.append_nil]
     rfl
   ·rw [df (p:=(0:Int)<(d:Int)) (by omega),zw rfl,zBR,zw (by rfl),zV (z7 (by omega))]
    show _=zBK zs v n _ (l'++[])
    rw [List.append_nil]
    rfl
  obtain ⟨ns,n1,n2,n3,n4⟩:=hadd b1 (decide (0<(d:Int))&&b2) Iff.rfl (by rw [Bool.and_eq_true,decide_eq_true_eq]; exact ⟨fun ⟨a,b⟩=>⟨by omega,b⟩,fun ⟨a,b⟩=>⟨by omega,b⟩⟩)
  refine ⟨ns,n1,n2,n3,?_⟩
  rw [← n4]
  show zEY _ _ _ _ _=_
  unfold zEY zKE
  rw [zAE (dt (by omega)),zV (z7 (by omega)),z0i,e1,zBR]
  cases b1 with
  | true =>
   rw [zAE rfl,zV (dt (by simp; omega)),hj _ (by simp; omega)]
   rfl
  | false =>
   rw [zw rfl,hj _ (by omega)]
   show _=zBK zs v n _ (l++[]++_)
   rw [List.append_nil]
   rfl
theorem zTx (h:Gn zs) (hv:0≤v∧v<4):∃ ns,Srt (ns.map (zNI v))∧ns.length≤8∧(∀ q,q∈ns↔zWp zs q)∧zJF zs v=some (ns,0):=by
 have hn:=h.n
 obtain ⟨ns,n1,n2,n3,n4⟩:=zSf h hv 4 zAD 0 [] (by omega) (by unfold zAD; omega) Srt.nil (Nat.le_refl _) (fun q=>⟨fun hq=>(by cases hq),fun ⟨_,h1,h2⟩=>by omega⟩)
 refine ⟨ns,n1,n2,n3,?_⟩
 unfold zJF zKR
 rw [zw (df (by omega)),z0i,(zRO h zs.length zAD 0 (by omega) (by unfold zAD; omega)).2,zBR]
 rw [zw (by rfl),df (by omega),df (by omega),zw (by rfl)]
 exact n4
end
end Go.Proofs.YtplkliakhdkpcaaGreat
namespace Go.Proofs.YtplkliakhdkpcaaGreat
open Go Go.RowKit Go.Wk Go.Am
def zPU (zs:List zj) (q K:Int):Nat→Nat→List Int
 | 0,_=>[]
 | m+1,i=>if ((at_ zs (i:Int)).node=q∧(at_ zs (i:Int)).kind=K) then (i:Int)::zPU zs q K m (i+1) else zPU zs q K m (i+1)
section
variable {zs:List zj} {v q K:Int}
theorem zJd:∀ {m i:Nat} {z:Int},z∈zPU zs q K m i ↔ ∃ k:Nat,z=(k:Int)∧i≤k∧k<i+m∧(at_ zs (k:Int)).node=q∧(at_ zs (k:Int)).kind=K
 | 0,i,z=>⟨fun h=>(by cases h),fun ⟨k,_,h1,h2,_⟩=>by omega⟩
 | m+1,i,z=>by
  unfold zPU
  by_cases h:(at_ zs (i:Int)).node=q∧(at_ zs (i:Int)).kind=K
  ·rw [if_pos h,List.mem_cons,zJd]
   constructor
   ·rintro (rfl | ⟨k,e,h1,h2,h3⟩)
    ·exact ⟨i,rfl,Nat.le_refl _,by omega,h⟩
    ·exact ⟨k,e,by omega,by omega,h3⟩
   ·rintro ⟨k,e,h1,h2,h3⟩
    by_cases hk:k=i
    ·subst hk; exact .inl e
    ·exact .inr ⟨k,e,by omega,by omega,h3⟩
  ·rw [if_neg h,zJd]
   constructor
   ·rintro ⟨k,e,h1,h2,h3⟩; exact ⟨k,e,by omega,by omega,h3⟩
   ·rintro ⟨k,e,h1,h2,h3⟩
    refine ⟨k,e,?_,by omega,h3⟩
    refine Nat.lt_of_not_le fun hk => ?_
    have:k=i:=by omega
    subst this
    exact h h3
theorem zNJ:∀ {m i:Nat},Srt (zPU zs q K m i)
 | 0,_=>Srt.nil
 | m+1,i=>by
  unfold zPU
  by_cases h:(at_ zs (i:Int)).node=q∧(at_ zs (i:Int)).kind=K
  ·rw [if_pos h]
   refine List.pairwise_cons.2 ⟨fun z hz => ?_,zNJ⟩
   obtain ⟨k,e,h1,_⟩:=zJd.1 hz
   omega
  ·rw [if_neg h]; exact zNJ
theorem zO3:∀ {m i:Nat},(zPU zs q K m i).length≤m
 | 0,_=>Nat.le_refl _
 | m+1,i=>by
  have:=zO3 (m:=m) (i:=i+1)
  unfold zPU
  split
  ·simp; omega
  ·omega
theorem zSz {a b:Prop} [Decidable a] [Decidable b]:(decide a&&decide b)=decide (a∧b):=by simp
theorem zTo (h:Gn zs) {ns:List Int} {t:Nat} (ht:t<ns.length) (hns:ns.length≤8) (hq:at_ ns (t:Int)=q) {se:Int→List Int→Option (List Int×Int)}:∀ (m n i:Nat) (l:List Int),i+m=zs.length→m<n→l.length+m≤1000 →
  zFQ se zs (ns,0) (t:Int) n (i:Int) l=se ((t+1:Nat):Int) (l++zPU zs q 0 m i):=by
 have hn:=h.n
 intro m
 induction m with
 | zero =>
  intro n i l h1 h2 h3
  obtain ⟨n,rfl⟩:=ex1 ‹_<n›
  show zEa _ _ _ _ _ _ _=_
  unfold zEa zIC zPU
  rw [zw (df (by omega)),zV (z7 (by omega)),List.append_nil]
  rfl
 | succ m ih =>
  intro n i l h1 h2 h3
  obtain ⟨n,rfl⟩:=ex1 ‹_<n›
  have hi:i<zs.length:=by omega
  show zEa _ _ _ _ _ _ _=_
  unfold zEa zGY zPU
  rw [zAE (dt (by omega)),zV (zAF hi),zV (zAF ht),hq,zSz]
  by_cases hh:(at_ zs (i:Int)).node=q∧(at_ zs (i:Int)).kind=0
  ·rw [zAE (dt hh),if_pos hh,zV (dt (by simp; omega)),zV (z7 (by omega))]
   refine (ih n (i+1) (l++[(i:Int)]) (by omega) (by omega) (by simp; omega)).trans ?_
   rw [List.append_assoc]
   rfl
  ·rw [zw (df hh),if_neg hh,zV (z7 (by omega))]
   exact ih n (i+1) l (by omega) (by omega) (by omega)
theorem zWB (h:Gn zs) {ns:List Int} {t:Nat} (ht:t<ns.length) (hns:ns.length≤8) (hq:at_ ns (t:Int)=q) {se:Int→List Int→Option (List Int×Int)}:∀ (m n i:Nat) (l:List Int),i+m=zs.length→m<n→l.length+m≤1000 →
  zEL se zs false (ns,0) (t:Int) n (i:Int) l=zGa se zs (ns,0) (t:Int) (l++zPU zs q 1 m i):=by
 have hn:=h.n
 intro m
 induction m with
 | zero =>
  intro n i l h1 h2 h3
  obtain ⟨n,rfl⟩:=ex1 ‹_<n›
  show zCj _ _ _ _ _ _ _ _=_
  unfold zCj zPU
  rw [df (p:=(i:Int)<(zs.length:Int)) (by omega),zw (by rfl),List.append_nil]
 | succ m ih =>
  intro n i l h1 h2 h3
  obtain ⟨n,rfl⟩:=ex1 ‹_<n›
  have hi:i<zs.length:=by omega
  show zCj _ _ _ _ _ _ _ _=_
  unfold zCj zGj zPU
  rw [dt (p:=(i:Int)<(zs.length:Int)) (by omega),zAE (by rfl),zV (zAF hi),zV (zAF ht),hq,zSz]
  by_cases hh:(at_ zs (i:Int)).node=q∧(at_ zs (i:Int)).kind=1
  ·rw [zAE (dt hh),if_pos hh,zV (dt (by simp; omega)),zV (z7 (by omega))]
   refine (ih n (i+1) (l++[(i:Int)]) (by omega) (by omega) (by simp; omega)).trans ?_
   rw [List.append_assoc]
   rfl
  ·rw [zw (df hh),if_neg hh,zV (z7 (by omega))]
   exact ih n (i+1) l (by omega) (by omega) (by omega)
def zVI (zs:List zj) (kern:Bool) (q:Int):List Int:=(if kern then [] else zPU zs q 1 zs.length 0)++zPU zs q 0 zs.length 0
theorem zRJ (h:Gn zs) {kern:Bool} {z:Int}:z∈zVI zs kern q↔Ix zs z∧zTq zs kern z=true∧(at_ zs z).node=q:=by
 unfold zVI zTq
 rw [List.mem_append,zJd]
 constructor
 ·rintro (hz | ⟨k,e,_,h2,h3,h4⟩)
  ·cases kern with
   | true=>cases hz
   | false =>
    obtain ⟨k,e,_,h2,h3,h4⟩:=zJd.1 hz
    subst e
    exact ⟨⟨k,rfl,by omega⟩,rfl,h3⟩
  ·subst e
   exact ⟨⟨k,rfl,by omega⟩,by rw [dt h4,Bool.or_true],h3⟩
 ·rintro ⟨⟨k,e,hk⟩,hs,hq⟩
  subst e
  rcases h.kd _ (zAq hk) with e0 | e1
  ·exact .inr ⟨k,rfl,Nat.zero_le _,by omega,hq,e0⟩
  ·cases kern with
   | true =>
    rw [df (p:=(at_ zs (k:Int)).kind=0) (by omega)] at hs
    cases hs
   | false=>exact .inl (zJd.2 ⟨k,rfl,Nat.zero_le _,by omega,hq,e1⟩)
theorem zSl {l:List Int} {r:Int} (hs:Srt l) (hr:∀ z,z∈l→zKX zs v z=r):Srt (l.map (gK zs v)):=by
 refine List.pairwise_map.2 (hs.imp_of_mem fun {a b} ha hb hab => ?_)
 unfold gK
 rw [hr a ha,hr b hb]
 omega
theorem zUY (h:Gn zs) {kern:Bool}:Srt ((zVI zs kern q).map (gK zs v)):=by
 have h0:∀ z,z∈zPU zs q 0 zs.length 0→Ix zs z∧zKX zs v z=2*zNI v q+1:=fun z hz=>by
  obtain ⟨k,e,_,h2,h3,h4⟩:=zJd.1 hz
  subst e
  exact ⟨⟨k,rfl,by omega⟩,by unfold zKX; rw [if_pos h4,h3]⟩
 have h1:∀ z,z∈zPU zs q 1 zs.length 0→Ix zs z∧zKX zs v z=2*zNI v q:=fun z hz=>by
  obtain ⟨k,e,_,h2,h3,h4⟩:=zJd.1 hz
  subst e
  exact ⟨⟨k,rfl,by omega⟩,by unfold zKX; rw [if_neg (by omega),h3]⟩
 unfold zVI
 rw [List.map_append,zKS]
 refine ⟨?_,zSl zNJ (fun z hz=>(h0 z hz).2),fun a ha b hb => ?_⟩
 ·cases kern with
  | true=>exact Srt.nil
  | false=>exact zSl zNJ (fun z hz=>(h1 z hz).2)
 ·obtain ⟨y,hy,rfl⟩:=List.mem_map.1 hb
  cases kern with
  | true=>cases ha
  | false =>
   obtain ⟨x,hx,rfl⟩:=List.mem_map.1 ha
   exact zUP h (h1 x hx).1 (h0 y hy).1 (by rw [(h1 x hx).2,(h0 y hy).2]; omega)
theorem zRX (z:Int):2*zNI v (at_ zs z).node≤zKX zs v z∧zKX zs v z≤2*zNI v (at_ zs z).node+1:=by
 unfold zKX
 split <;> omega
theorem zVg (h:Gn zs) {kern:Bool} {ns:List Int} (hns:ns.length≤8) (hks:Srt (ns.map (zNI v))):∀ (m n t:Nat) (l:List Int),t+m=ns.length→m<n→l.length≤12*t→Srt (l.map (gK zs v))→(∀ z,z∈l↔Ix zs z∧zTq zs kern z=true∧(at_ zs z).node∈ns.take t) →
  ∃ L,Srt (L.map (gK zs v))∧(∀ z,z∈L↔Ix zs z∧zTq zs kern z=true∧(at_ zs z).node∈ns)∧zAa zs kern (ns,0) n (t:Int) l=some (L,0):=by
 have hn:=h.n
 intro m
 induction m with
 | zero =>
  intro n t l h1 h2 h3 h4 h5
  obtain ⟨n,rfl⟩:=ex1 ‹_<n›
  refine ⟨l,h4,fun z=>by rw [h5,List.take_of_length_le (by omega)],?_⟩
  show zEP _ _ _ _ _ _=_
  unfold zEP zIT
  rw [zw (df (show ¬ (t:Int)<(ns.length:Int) by omega))]
 | succ m ih =>
  intro n t l h1 h2 h3 h4 h5
  obtain ⟨n,rfl⟩:=ex1 ‹_<n›
  have ht:t<ns.length:=by omega
  have hl1:=zO3 (zs:=zs) (q:=at_ ns (t:Int)) (K:=1) (m:=zs.length) (i:=0)
  have hl0:=zO3 (zs:=zs) (q:=at_ ns (t:Int)) (K:=0) (m:=zs.length) (i:=0)
  have hstep:zAa zs kern (ns,0) (n+1) (t:Int) l=zAa zs kern (ns,0) n ((t+1:Nat):Int) (l++zVI zs kern (at_ ns (t:Int))):=by
   show zEP _ _ _ _ _ _=_
   unfold zEP zVI
   rw [zAE (dt (show (t:Int)<(ns.length:Int) by omega))]
   cases kern with
   | true =>
    rw [show zEL (zAa zs true (ns,0) n) zs true (ns,0) (t:Int) zAD 0 l=zGa (zAa zs true (ns,0) n) zs (ns,0) (t:Int) l by
     rw [show zAD=(zAD - 1)+1 from rfl]
     show zCj _ _ _ _ _ _ _ _=_
     unfold zCj
     rw [zw (by rw [Bool.not_true,Bool.and_false])]]
    exact zTo h ht hns rfl zs.length zAD 0 l (by omega) (by unfold zAD; omega) (by omega)
   | false =>
    refine (zWB h ht hns rfl zs.length zAD 0 l (by omega) (by unfold zAD; omega) (by omega)).trans ?_
    refine (zTo h ht hns rfl zs.length zAD 0 _ (by omega) (by unfold zAD; omega) (by rw [List.length_append]; omega)).trans ?_
    rw [List.append_assoc]
    rfl
  rw [hstep]
  refine ih n (t+1) _ (by omega) (by omega) ?_ ?_ (fun z => ?_)
  ·unfold zVI
   rw [List.length_append,List.length_append]
   cases kern <;> simp <;> omega
  ·rw [List.map_append,zKS]
   refine ⟨h4,zUY h,fun a ha b hb => ?_⟩
   obtain ⟨x,hx,rfl⟩:=List.mem_map.1 ha
   obtain ⟨y,hy,rfl⟩:=List.mem_map.1 hb
   have hx':=(h5 x).1 hx
   have hy':=(zRJ h).1 hy
   have hk:zNI v (at_ zs x).node<zNI v (at_ ns (t:Int)):=by
    obtain ⟨i,hi,e⟩:=List.getElem_of_mem hx'.2.2
    rw [List.length_take] at hi
    rw [List.getElem_take] at e
    have:=zKY hks (i:=i) (j:=t) (x:=zNI v ns[i]) (y:=zNI v ns[t]) (by rw [List.getElem?_map,List.getElem?_eq_getElem (by omega)]; rfl) (by rw [List.getElem?_map,List.getElem?_eq_getElem ht]; rfl) (by omega)
    rw [← e,zHD ht]
    exact this
   refine zUP h hx'.1 hy'.1 ?_
   have r1:=(zRX (zs:=zs) (v:=v) x).2
   have r2:=(zRX (zs:=zs) (v:=v) y).1
   rw [hy'.2.2] at r2
   omega
  ·rw [List.mem_append,h5,zRJ h,List.take_add_one,List.mem_append,zWL ht]
   simp only [Option.toList_some,List.mem_singleton]
   constructor
   ·rintro (⟨h1,h2,h3⟩ | ⟨h1,h2,h3⟩)
    ·exact ⟨h1,h2,.inl h3⟩
    ·exact ⟨h1,h2,.inr h3⟩
   ·rintro ⟨h1,h2,h3 | h3⟩
    ·exact .inl ⟨h1,h2,h3⟩
    ·exact .inr ⟨h1,h2,h3⟩
theorem zUm {g:Int→Int}:∀ {l m:List Int},l.map g=m.map g→(∀ a b,a∈l→b∈m→g a=g b→a=b)→l=m
 | [],[],_,_=>rfl
 | [],_::_,h,_=>by cases h
 | _::_,[],h,_=>by cases h
 | a::l,b::m,h,hi=>by
  simp only [List.map_cons,List.cons.injEq] at h
  rw [hi a b (by simp) (by simp) h.1,zUm h.2 (fun x y hx hy=>hi x y (by simp [hx]) (by simp [hy]))]
theorem zXq (h:Gn zs) (hv:0≤v∧v<4) (kern:Bool):∃ L,(∀ z,z∈L↔Ix zs z∧zTq zs kern z=true)∧L.length≤256∧zEA zs v kern=some (L,0)∧zJQ zs v kern=some (L,0):=by
 have hn:=h.n
 obtain ⟨L,l1,l2,l3⟩:=zWz h hv kern
 obtain ⟨ns,n1,n2,n3,n4⟩:=zTx h hv
 obtain ⟨M,m1,m2,m3⟩:=zVg h (kern:=kern) (ns:=ns) n2 n1 ns.length zAD 0 [] (by omega) (by unfold zAD; omega) (Nat.le_refl _) Srt.nil (fun z=>⟨fun hz=>(by cases hz),fun ⟨_,_,hz⟩=>by simp at hz⟩)
 have hm:∀ z,z∈M↔z∈L:=fun z=>by
  rw [m2,l2]
  constructor
  ·rintro ⟨a,b,_⟩; exact ⟨a,b⟩
  ·rintro ⟨a,b⟩
   obtain ⟨k,e,hk⟩:=a
   subst e
   exact ⟨⟨k,rfl,hk⟩,b,(n3 _).2 ⟨k,hk,rfl⟩⟩
 have e:L=M:=by
  refine zUm (g:=gK zs v) (zQY l1 m1 (fun x => ?_)) (fun a b ha hb hg => ?_)
  ·constructor
   ·intro hx
    obtain ⟨z,hz,rfl⟩:=List.mem_map.1 hx
    exact List.mem_map_of_mem ((hm z).2 hz)
   ·intro hx
    obtain ⟨z,hz,rfl⟩:=List.mem_map.1 hx
    exact List.mem_map_of_mem ((hm z).1 hz)
  ·obtain ⟨i,rfl,hi⟩:=((l2 a).1 ha).1
   obtain ⟨j,rfl,hj⟩:=((l2 b).1 ((hm b).1 hb)).1
   unfold gK at hg
   omega
 have hlen:L.length≤256:=by
  have:=zQq l1 (fun f hf=>by
   obtain ⟨z,hz,rfl⟩:=List.mem_map.1 hf
   obtain ⟨⟨k,rfl,hk⟩,_⟩:=(l2 z).1 hz
   have:=zQM h hv hk
   unfold gK
   omega)
  rwa [List.length_map] at this
 refine ⟨L,l2,hlen,l3,?_⟩
 unfold zJQ
 rw [n4,zBR]
 rw [zw (by rfl)]
 rw [e]
 exact m3
end
end Go.Proofs.YtplkliakhdkpcaaGreat
namespace Go.Proofs.YtplkliakhdkpcaaGreat
open Go Go.RowKit Go.Wk Go.Am
section
variable {c:zL} {zn z:Nat} {add:List Int}
theorem zX0 (hl:add.length≤1000):∀ (m n i:Nat) (q:List (Int×Bool)),i+m=add.length→m<n→(∀ f,f∈add.drop i→zCp f=true∧zMS false q f=false)→(add.drop i).Nodup→zFJ c (z:Int) add n (i:Int) q=zFG c (z:Int) add:=by
 intro m
 induction m with
 | zero =>
  intro n i q h1 h2 _ _
  obtain ⟨n,rfl⟩:=ex1 ‹_<n›
  show zCy _ _ _ _ _ _=_
  unfold zCy
  rw [zw (df (by omega))]
 | succ m ih =>
  intro n i q h1 h2 h3 h4
  obtain ⟨n,rfl⟩:=ex1 ‹_<n›
  have hi:i<add.length:=by omega
  rw [zC1 hi] at h3 h4
  have h0:=h3 (at_ add (i:Int)) (by simp)
  have hn:=List.nodup_cons.1 h4
  have hff:zD6 (at_ add (i:Int))=some true:=by
   unfold zD6
   show some (zCp _)=_
   rw [h0.1]
  show zCy _ _ _ _ _ _=_
  unfold zCy
  rw [zAE (dt (by omega)),zV (zAF hi),hff,zBR,Bool.not_true,zw rfl,h0.2,zw rfl,zV (z7 (by omega))]
  refine ih n (i+1) _ (by omega) (by omega) (fun f hf=>⟨(h3 f (by simp [hf])).1,?_⟩) hn.2
  rw [zNE,if_neg (fun e=>hn.1 (by rw [← e]; exact hf))]
  exact (h3 f (by simp [hf])).2
theorem zXL {i:Nat} (hi:i<add.length):at_ add (((add.length:Int) - 1) - (i:Int))=at_ add.reverse (i:Int):=by
 rw [show ((add.length:Int) - 1) - (i:Int)=((add.length - 1 - i:Nat):Int) by omega,zHD (by omega),zHD (by rw [List.length_reverse]; exact hi),List.getElem_reverse]
theorem zYM (hl:add.length≤1000):∀ (m n i:Nat) (l:List Int),i+m=add.length→m<n→l.length+m≤2000→zFL c (z:Int) add n (i:Int) l=zFD c (z:Int) (l++add.reverse.drop i):=by
 intro m
 induction m with
 | zero =>
  intro n i l h1 h2 _
  obtain ⟨n,rfl⟩:=ex1 ‹_<n›
  show zC3 _ _ _ _ _ _=_
  unfold zC3
  rw [zw (df (by omega)),List.drop_eq_nil_of_le (by rw [List.length_reverse]; omega),List.append_nil]
 | succ m ih =>
  intro n i l h1 h2 h3
  obtain ⟨n,rfl⟩:=ex1 ‹_<n›
  have hi:i<add.length:=by omega
  show zC3 _ _ _ _ _ _=_
  unfold zC3
  rw [zAE (dt (by omega)),zV (z7 (by omega)),zV (z7 (by omega)),zV (zQR (by omega)),zXL hi,zV (dt (by simp; omega)),zV (z7 (by omega)),zC1 (by rw [List.length_reverse]; exact hi)]
  refine (ih n (i+1) _ (by omega) (by omega) (by simp; omega)).trans ?_
  rw [List.append_assoc]
  rfl
theorem zVY (hp:Pc c zn) (hz:z<zn) (hl:add.length≤100) (hf:∀ f,f∈add→zCp f=true∧f ∉ c.lists.flatten) (hn:add.Nodup):zGP c (z:Int) add=some (⟨c.lists.set z (at_ c.lists (z:Int)++add.reverse)⟩,0):=by
 have hll:=hp.len
 have hzl:z<c.lists.length:=by omega
 have hbd:=hp.bd _ (zAq hzl)
 unfold zGP
 rw [zQU hp hz,zBR,dt rfl,Bool.not_true,zw rfl,zTd hp.ck,zBR]
 refine (zX0 (by omega) add.length zAD 0 _ (by omega) (by unfold zAD; omega) (fun f h=>⟨(hf f h).1,?_⟩) hn).trans ?_
 ·rw [zPo,df (hf f h).2]
  rfl
 ·unfold zFG
  rw [zV (zAF hzl),zV (by simp; omega),zNR]
  refine (zYM (by omega) add.length zAD 0 _ (by omega) (by unfold zAD; omega) (by omega)).trans ?_
  unfold zFD
  rw [List.drop_zero,zQz hp.ck (by rw [List.length_append,List.length_reverse]; omega),zBR,zBR]
theorem zYO {se:Int→Option (zL×Int)} {i:Nat} (hl:add.length≤1000) (hi:i<add.length) (hn:add.Nodup):∀ (m n j:Nat),j+m=i→m<n→zFw se add (i:Int) n (j:Int)=se ((i+1:Nat):Int):=by
 have hc:zHt add 0 (i:Int)=add.take i:=rfl
 intro m
 induction m with
 | zero =>
  intro n j h1 h2
  obtain ⟨n,rfl⟩:=ex1 ‹_<n›
  show zDS _ _ _ _ _=_
  unfold zDS zHi
  rw [hc,zw (df (by rw [List.length_take]; omega)),zV (z7 (by omega))]
  rfl
 | succ m ih =>
  intro n j h1 h2
  obtain ⟨n,rfl⟩:=ex1 ‹_<n›
  have hj:j<(add.take i).length:=by rw [List.length_take]; omega
  have hne:at_ add (i:Int)≠at_ (add.take i) (j:Int):=by
   rw [zHD hi,zHD hj,List.getElem_take]
   rw [List.length_take] at hj
   exact fun e=>(List.pairwise_iff_getElem.1 hn j i (by omega) hi (by omega)) e.symm
  show zDS _ _ _ _ _=_
  unfold zDS
  rw [hc,zAE (dt (by omega)),zV (zAF hj),zw (df hne),zV (z7 (by omega))]
  exact ih n (j+1) (by omega) (by omega)
theorem zX1 (hp:Pc c zn) (hl:add.length≤1000) (hf:∀ f,f∈add→zCp f=true∧f ∉ c.lists.flatten) (hn:add.Nodup):∀ (m n i:Nat),i+m=add.length→m<n→zCA c (z:Int) add n (i:Int)=zF0 c (z:Int) add:=by
 intro m
 induction m with
 | zero =>
  intro n i h1 h2
  obtain ⟨n,rfl⟩:=ex1 ‹_<n›
  show zDO _ _ _ _ _=_
  unfold zDO
  rw [zw (df (by omega))]
 | succ m ih =>
  intro n i h1 h2
  obtain ⟨n,rfl⟩:=ex1 ‹_<n›
  have hi:i<add.length:=by omega
  have h0:=hf _ (zAq hi)
  have hff:zDq (at_ add (i:Int))=some false:=by
   have:=h0.1
   unfold zDq
   unfold zCp at this
   simp at this ⊢
   omega
  show zDO _ _ _ _ _=_
  unfold zDO
  rw [zAE (dt (by omega)),zV (zAF hi),hff,zBR,zw rfl,zXI hp.ck,zBR,df h0.2,zw rfl,zV (by unfold zLs; simp; omega),z0i,zYO hl hi hn i zAD 0 (by omega) (by unfold zAD; omega)]
  exact ih n (i+1) (by omega) (by omega)
theorem zYG (hzl:z<c.lists.length) (hl:add.length≤1000) (hb:(at_ c.lists (z:Int)).length≤1000):∀ (m n:Nat),m≤add.length→m<n→zGD (z:Int) add n ((m:Int) - 1) (c.lists.set z (at_ c.lists (z:Int)++(add.drop m).reverse))=some (⟨c.lists.set z (at_ c.lists (z:Int)++add.reverse)⟩,0):=by
 intro m
 induction m with
 | zero =>
  intro n h1 h2
  obtain ⟨n,rfl⟩:=ex1 ‹_<n›
  show zDY _ _ _ _ _=_
  unfold zDY zHK
  rw [zw (df (by omega)),List.drop_zero]
 | succ m ih =>
  intro n h1 h2
  obtain ⟨n,rfl⟩:=ex1 ‹_<n›
  have hi:m<add.length:=by omega
  have e:at_ (c.lists.set z (at_ c.lists (z:Int)++(add.drop (m+1)).reverse)) (z:Int)=at_ c.lists (z:Int)++(add.drop (m+1)).reverse:=by rw [zNc hzl,if_pos rfl]
  show zDY _ _ _ _ _=_
  unfold zDY
  rw [zAE (dt (by omega)),zV (zAF (by rw [List.length_set]; exact hzl)),show ((m+1:Nat):Int) - 1=(m:Int) by omega,zV (zAF hi),e,zV (dt (by simp; omega)),zV (z7 (by omega)),Int.toNat_natCast,List.set_set, ← ih n (by omega) (by omega),List.append_assoc,zC1 hi,List.reverse_cons]
theorem zWF (hp:Pc c zn) (hz:z<zn) (hl:add.length≤100) (hf:∀ f,f∈add→zCp f=true∧f ∉ c.lists.flatten) (hn:add.Nodup):zIi c (z:Int) add=some (⟨c.lists.set z (at_ c.lists (z:Int)++add.reverse)⟩,0):=by
 have hll:=hp.len
 have hzl:z<c.lists.length:=by omega
 have hbd:=hp.bd _ (zAq hzl)
 unfold zIi
 rw [zQa hp hz,zBR,dt rfl,Bool.not_true,zw rfl]
 refine (zX1 hp (by omega) hf hn add.length zAD 0 (by omega) (by unfold zAD; omega)).trans ?_
 unfold zF0
 rw [zMJ hp.ck,zBR,zV (z7 (by omega))]
 have:=zYG (c:=c) (z:=z) (add:=add) hzl (by omega) (by omega) add.length zAD (Nat.le_refl _) (by unfold zAD; omega)
 rw [List.drop_length,List.reverse_nil,List.append_nil,zKu hzl] at this
 exact this
end
def refl:Nat→zj→zj×List Int
 | 0,z=>(z,[])
 | m+1,z=>if zNG z 0 5=none then (z,[]) else ((refl m (zC7 z 0).1).1,(zC7 z 0).2.1::(refl m (zC7 z 0).1).2)
theorem zTc:∀ (m:Nat) {z:zj},OkZ z→OkZ (refl m z).1∧zHB (refl m z).1 z∧(refl m z).2.Nodup∧(refl m z).2.length≤m∧(∀ f,f∈(refl m z).2→inside z f 0=true∧cov z f)∧(∀ g,cov (refl m z).1 g↔cov z g∧g ∉ (refl m z).2)
 | 0,z,h=>⟨h,⟨rfl,rfl,rfl,rfl,rfl⟩,List.nodup_nil,Nat.le_refl _,(fun f hf=>by cases hf),fun g=>⟨fun x=>⟨x,by simp [refl]⟩,And.left⟩⟩
 | m+1,z,h=>by
  unfold refl
  by_cases hf:zNG z 0 5=none
  ·rw [if_pos hf]
   exact ⟨h,⟨rfl,rfl,rfl,rfl,rfl⟩,List.nodup_nil,Nat.zero_le _,(fun f hf=>by cases hf),fun g=>⟨fun x=>⟨x,by simp⟩,And.left⟩⟩
  ·rw [if_neg hf]
   obtain ⟨j,hj⟩:∃ j,zNG z 0 (5 - 0)=some j:=by
    cases h':zNG z 0 5 with
    | none=>exact absurd h' hf
    | some j=>exact ⟨j,rfl⟩
   obtain ⟨w1,w2,w3,w4,w5,w6⟩:=zNw h hj
   obtain ⟨i1,i2,i3,i4,i5,i6⟩:=zTc m w2
   rw [pw0] at w5 w6
   have hc0:cov z (zC7 z 0).2.1:=w6 _ (by omega) (by omega)
   have hn0:(zC7 z 0).2.1 ∉ (refl m (zC7 z 0).1).2:=fun hm=>((w5 _).1 (i5 _ hm).2).2 ⟨by omega,by omega⟩
   refine ⟨i1,i2.trans w3,List.nodup_cons.2 ⟨hn0,i3⟩,by simp; omega,fun f hf' => ?_,fun g => ?_⟩
   ·rcases List.mem_cons.1 hf' with rfl | hf'
    ·exact ⟨w4,hc0⟩
    ·have:=i5 f hf'
     exact ⟨by rw [← w3.inside]; exact this.1,((w5 f).1 this.2).1⟩
   ·rw [i6,w5,List.mem_cons]
    constructor
    ·rintro ⟨⟨h1,h2⟩,h3⟩
     exact ⟨h1,fun h4=>h4.elim (fun e=>h2 (by omega)) h3⟩
    ·rintro ⟨h1,h2⟩
     exact ⟨⟨h1,fun h4=>h2 (.inl (by omega))⟩,fun h4=>h2 (.inr h4)⟩
theorem zUI {m:Nat} {z:zj} (ho:OkZ z) (h:(refl (m+1) z).2=[]):∀ g,¬ cov z g:=by
 unfold refl at h
 by_cases hf:zNG z 0 5=none
 ·exact zYQ ho hf
 ·rw [if_neg hf] at h; cases h
section
variable {a:zJ} {c p:Nat}
theorem zV1 {b:Nat} (hb:(b:Int)=a.batch) (hbb:b≤64):∀ (m n:Nat) (zs:List zj) (l:List Int),l.length+m=b→m<n→p<zs.length→OkZ (at_ zs (p:Int)) →
  zDa a (c:Int) (p:Int) n (l.length:Int) zs l=zBr a (c:Int) (p:Int) (zs.set p (refl m (at_ zs (p:Int))).1) (l++(refl m (at_ zs (p:Int))).2) ∧
  zGE a (c:Int) (p:Int) n zs l=zDV a (c:Int) (p:Int) (zs.set p (refl m (at_ zs (p:Int))).1) (l++(refl m (at_ zs (p:Int))).2):=by
 intro m
 induction m with
 | zero =>
  intro n zs l h1 h2 hp ho
  obtain ⟨n,rfl⟩:=ex1 ‹_<n›
  show zBt _ _ _ _ _ _ _=zBr _ _ _ (zs.set p (at_ zs (p:Int))) (l++[])∧zDT _ _ _ _ _ _=zDV _ _ _ (zs.set p (at_ zs (p:Int))) (l++[])
  unfold zBt zDT
  rw [zw (df (by omega)),zw (df (by omega)),zKu hp,List.append_nil]
  exact ⟨rfl,rfl⟩
 | succ m ih =>
  intro n zs l h1 h2 hp ho
  obtain ⟨n,rfl⟩:=ex1 ‹_<n›
  show zBt _ _ _ _ _ _ _=_∧zDT _ _ _ _ _ _=_
  unfold zBt zDT refl
  rw [zAE (dt (by omega)),zAE (dt (by omega)),zV (zAF hp),zV (zAF hp),z0i,zXZ ho (Nat.zero_le _),zXu ho (Nat.zero_le _),zBR,zBR]
  by_cases hf:zNG (at_ zs (p:Int)) 0 5=none
  ·rw [if_pos hf,zQ2 (k:=0) hf]
   rw [zAE (by rfl),zAE (by rfl),zKu hp,List.append_nil]
   exact ⟨rfl,rfl⟩
  ·rw [if_neg hf]
   obtain ⟨j,hj⟩:∃ j,zNG (at_ zs (p:Int)) 0 (5 - 0)=some j:=by
    cases h':zNG (at_ zs (p:Int)) 0 5 with
    | none=>exact absurd h' hf
    | some j=>exact ⟨j,rfl⟩
   obtain ⟨w1,w2,w3,w4,w5,w6⟩:=zNw ho hj
   have e1:at_ (zs.set p (zC7 (at_ zs (p:Int)) 0).1) (p:Int)=(zC7 (at_ zs (p:Int)) 0).1:=by rw [zNc hp,if_pos rfl]
   have hl:(l++[(zC7 (at_ zs (p:Int)) 0).2.1]).length=l.length+1:=by simp
   have hi:=ih n (zs.set p (zC7 (at_ zs (p:Int)) 0).1) (l++[(zC7 (at_ zs (p:Int)) 0).2.1]) (by omega) (by omega) (by rw [List.length_set]; exact hp) (by rw [e1]; exact w2)
   rw [e1,List.set_set,hl,List.append_assoc] at hi
   rw [zw (by rw [w1]; rfl),zw (by rw [w1]; rfl),zV (dt (by simp; omega)),zV (dt (by simp; omega)),zV (z7 (by omega))]
   exact hi
def zQt (a:zJ) (c p:Nat):zJ:=upd a c p (Lf a c p++(refl a.batch.toNat (Zn a p)).2.reverse) (refl a.batch.toNat (Zn a p)).1
theorem zVN (h:Wa a) (hc:c<a.caches.length) {f:Int}:f∈(at_ a.caches (c:Int)).lists.flatten ↔ ∃ q,f∈Lf a c q:=by
 rw [List.mem_flatten]
 constructor
 ·rintro ⟨l,hl,hf⟩
  obtain ⟨q,hq,e⟩:=List.getElem_of_mem hl
  exact ⟨q,by unfold Lf; rw [zHD hq,e]; exact hf⟩
 ·rintro ⟨q,hf⟩
  have hq:=h.pz hc hf
  exact ⟨_,zAq (by rw [h.cl c hc]; exact hq),hf⟩
theorem zU6 (h:Wa a) (hc:c<a.caches.length) (hp:p<a.zones.length) {f:Int} (hi:inside (Zn a p) f 0=true) (hv:cov (Zn a p) f):∀ q,f ∉ Lf a c q:=fun q hf=>by
 have hq:=h.pz hc hf
 have e:=h.ap q p f hq hp (h.own c q f hc hf).1 hi
 subst e
 exact (h.own c q f hc hf).2 hv
theorem zH5 (h:Wa a) (hc:c<a.caches.length) (hp:p<a.zones.length) (hl:Lf a c p=[]) :
  zC2 a (c:Int) (p:Int)=some (zQt a c p,decide (0<(((refl a.batch.toNat (Zn a p)).2).length:Int)))∧zG7 a (c:Int) (p:Int)=some (zQt a c p)∧Wa (zQt a c p):=by
 have hbh:=h.bh
 have hbe:((a.batch.toNat:Nat):Int)=a.batch:=Int.toNat_of_nonneg (by omega)
 obtain ⟨r1,r2,r3,r4,r5,r6⟩:=zTc a.batch.toNat (h.zs p hp)
 obtain ⟨f1,f2⟩:=zV1 (a:=a) (c:=c) (p:=p) hbe (by omega) a.batch.toNat zAD a.zones [] (by simp) (by unfold zAD; omega) hp (h.zs p hp)
 have hpc:=h.pc hc
 have hfr:∀ f,f∈(refl a.batch.toNat (Zn a p)).2→zCp f=true∧f ∉ (at_ a.caches (c:Int)).lists.flatten:=fun f hf=>by
  have h5:=r5 f hf
  have hb:=(h.zs p hp).bds h5.1
  rw [pw0] at hb
  refine ⟨by unfold zCp; simp; omega,fun hm => ?_⟩
  obtain ⟨q,hq⟩:=(zVN h hc).1 hm
  exact zU6 h hc hp h5.1 h5.2 q hq
 have e1:=zVY hpc hp (show (refl a.batch.toNat (Zn a p)).2.length≤100 by omega) hfr r3
 have e2:=zWF hpc hp (show (refl a.batch.toNat (Zn a p)).2.length≤100 by omega) hfr r3
 refine ⟨?_,?_,?_⟩
 ·unfold zC2
  refine f1.trans ?_
  unfold zBr zDM
  rw [List.nil_append,zV (zAF hc),show at_ a.zones (p:Int)=Zn a p from rfl,e1,zBR,zBR,zAE (by rfl)]
  rfl
 ·unfold zG7
  refine f2.trans ?_
  unfold zDV
  rw [List.nil_append,zV (zAF hc),show at_ a.zones (p:Int)=Zn a p from rfl,e2,zBR]
  rfl
 ·unfold zQt
  rw [hl,List.nil_append]
  refine zST h hc hp r1 r2 ?_ (List.pairwise_reverse.2 (List.Pairwise.imp (fun h=>Ne.symm h) r3)) (fun f hf => ?_) (fun d f hd hdc hf=>⟨fun hm => ?_,fun hcv => ?_⟩)
  ·rw [List.length_reverse]; omega
  ·have hf':=List.mem_reverse.1 hf
   exact ⟨(r5 f hf').1,fun hcv=>((r6 f).1 hcv).2 hf'⟩
  ·have h5:=r5 f (List.mem_reverse.1 hm)
   exact zU6 h hd hp h5.1 h5.2 p hf
  ·exact (h.own d p f hd hf).2 ((r6 f).1 hcv).1
def zHI (a:zJ) (c p:Nat):zJ:=upd a c p [] (zMI (Zn a p) (Lf a c p))
theorem zMp (h:Wa a) (hc:c<a.caches.length) (hp:p<a.zones.length):zDR a (c:Int) (p:Int)=some (zHI a c p)∧zJX a (c:Int) (p:Int)=some (zHI a c p)∧Wa (zHI a c p):=by
 have hpc:=h.pc hc
 have hlim:=h.lim c p hc
 have hbh:=h.bh
 obtain ⟨g1,g2,g3⟩:=zPK (Lf a c p) (h.zs p hp) (fun f hf=>h.own c p f hc hf) (h.nd c p hc)
 have hg:=fun cs=>zWa (a:=⟨a.nodes,a.batch,a.high,a.zones,cs⟩) (fs:=Lf a c p) (by omega) hp (h.zs p hp) (fun f hf=>h.own c p f hc hf) (h.nd c p hc)
 refine ⟨?_,?_,?_⟩
 ·unfold zDR
  rw [zV (zAF hc),zXo hpc hp,zBR,zAE (by rfl)]
  show ((zFT ⟨a.nodes,a.batch,a.high,a.zones,a.caches.set c ⟨(at_ a.caches (c:Int)).lists.set p []⟩⟩ (p:Int) (Lf a c p)).bind _)=_
  rw [(hg _).1,zBR]
  rfl
 ·unfold zJX
  rw [zV (zAF hc),zWs hpc hp,zBR]
  show ((zJ9 ⟨a.nodes,a.batch,a.high,a.zones,a.caches.set c ⟨(at_ a.caches (c:Int)).lists.set p []⟩⟩ (p:Int) (Lf a c p)).bind _)=_
  rw [(hg _).2,zBR]
  rfl
 ·refine zST h hc hp g1 g3 (by show ((0:Nat):Int)≤_; omega) List.nodup_nil (fun f hf=>by cases hf) (fun d f hd hdc hf=>⟨by simp,fun hcv => ?_⟩)
  rcases (g2 f).1 hcv with h1 | h1
  ·exact (h.own d p f hd hf).2 h1
  ·exact hdc (h.dis d c p p f hd hc hf h1).1
theorem zR4 (h:Wa a) (hc:c<a.caches.length) (hp:p<a.zones.length) (hl:Lf a c p=[]):zHI a c p=a:=by
 unfold zHI upd
 rw [hl]
 have e1:(at_ a.caches (c:Int)).lists.set p ([]:List Int)=(at_ a.caches (c:Int)).lists:=by
  rw [← hl]
  exact zKu (by rw [h.cl c hc]; exact hp)
 rw [e1]
 show (⟨a.nodes,a.batch,a.high,a.zones.set p (at_ a.zones (p:Int)),a.caches.set c (at_ a.caches (c:Int))⟩:zJ)=a
 rw [zKu hp,zKu hc]
def zAL (p:Nat):Nat→Nat→zJ→zJ
 | 0,_,a=>a
 | m+1,c,a=>zAL p m (c+1) (zHI a c p)
theorem zRy (h:Wa a) (hc:c<a.caches.length) (hp:p<a.zones.length) (d q:Nat):Lf (zHI a c p) d q=if d=c∧q=p then [] else Lf a d q:=zTb h hc hp d q
theorem zLN:(zHI a c p).caches.length=a.caches.length∧(zHI a c p).zones.length=a.zones.length:=⟨List.length_set,List.length_set⟩
end
end Go.Proofs.YtplkliakhdkpcaaGreat
namespace Go.Proofs.YtplkliakhdkpcaaGreat
open Go Go.RowKit Go.Wk Go.Am
section
variable {a:zJ} {c p:Nat}
theorem zJk:∀ (m i:Nat) {a:zJ},Wa a→i+m≤a.caches.length→p<a.zones.length →
  Wa (zAL p m i a)∧(zAL p m i a).caches.length=a.caches.length∧(zAL p m i a).zones.length=a.zones.length∧(zAL p m i a).batch=a.batch∧(∀ d q,Lf (zAL p m i a) d q=if i≤d∧d<i+m∧q=p then [] else Lf a d q)∧(∀ q,q≠p→Zn (zAL p m i a) q=Zn a q) ∧
  (∀ g,cov (Zn (zAL p m i a) p) g↔cov (Zn a p) g ∨ ∃ d,i≤d∧d<i+m∧g∈Lf a d p)
 | 0,i,a,h,_,_=>⟨h,rfl,rfl,rfl,fun d q=>by rw [if_neg (by omega)]; rfl,fun q _=>rfl,fun g=>⟨.inl,fun x=>x.elim id (fun ⟨d,h1,h2,_⟩=>by omega)⟩⟩
 | m+1,i,a,h,hm,hp=>by
  have hi:i<a.caches.length:=by omega
  obtain ⟨_,_,hw⟩:=zMp h hi hp
  obtain ⟨s1,s2⟩:=zLN (a:=a) (c:=i) (p:=p)
  have hL:=zRy h hi hp
  obtain ⟨_,g2,_⟩:=zPK (Lf a i p) (h.zs p hp) (fun f hf=>h.own i p f hi hf) (h.nd i p hi)
  obtain ⟨r1,r2,r3,r4,r5,r6,r7⟩:=zJk m (i+1) hw (by rw [s1]; omega) (by rw [s2]; exact hp)
  have hZ:Zn (zHI a i p) p=zMI (Zn a p) (Lf a i p):=by
   unfold zHI
   rw [zS5 hp,if_pos rfl]
  refine ⟨r1,r2.trans s1,r3.trans s2,r4,fun d q => ?_,fun q hq => ?_,fun g => ?_⟩
  ·show Lf (zAL p m (i+1) (zHI a i p)) d q=_
   rw [r5,hL]
   by_cases h1:i+1≤d∧d<i+1+m∧q=p
   ·rw [if_pos h1,if_pos (by omega)]
   ·rw [if_neg h1]
    by_cases h2:d=i∧q=p
    ·rw [if_pos h2,if_pos (by omega)]
    ·rw [if_neg h2,if_neg (by omega)]
  ·show Zn (zAL p m (i+1) (zHI a i p)) q=_
   rw [r6 q hq]
   unfold zHI
   rw [zS5 hp,if_neg hq]
  ·show cov (Zn (zAL p m (i+1) (zHI a i p)) p) g↔_
   rw [r7,hZ,g2]
   constructor
   ·rintro ((h1 | h1) | ⟨d,h1,h2,h3⟩)
    ·exact .inl h1
    ·exact .inr ⟨i,Nat.le_refl _,by omega,h1⟩
    ·rw [hL,if_neg (by omega)] at h3
     exact .inr ⟨d,by omega,by omega,h3⟩
   ·rintro (h1 | ⟨d,h1,h2,h3⟩)
    ·exact .inl (.inl h1)
    ·by_cases hd:d=i
     ·subst hd; exact .inl (.inr h3)
     ·exact .inr ⟨d,by omega,by omega,by rw [hL,if_neg (by omega)]; exact h3⟩
theorem zVm {K:Nat} {x2:List Int×Int} {i1:Int} {x7:zJ×Bool} (hx:at_ x2.1 i1=(p:Int)) (hx7:x7.1.caches.length=K) (hc:c<K) (hK:K≤1000):∀ (m n i:Nat) (b:zJ),i+m=K→m<n→Wa b→b.caches.length=K→p<b.zones.length→Lf b c p=[] →
  zCK (c:Int) x2 i1 x7 n (i:Int) b.nodes b.batch b.high b.zones b.caches=zCw (c:Int) x2 i1 (zAL p m i b).nodes (zAL p m i b).batch (zAL p m i b).high (zAL p m i b).zones (zAL p m i b).caches:=by
 intro m
 induction m with
 | zero =>
  intro n i b h1 h2 hw hb hp hl
  obtain ⟨n,rfl⟩:=ex1 ‹_<n›
  show zCH _ _ _ _ _ _ _ _ _ _ _=_
  unfold zCH
  rw [hx7,zw (df (by omega))]
  rfl
 | succ m ih =>
  intro n i b h1 h2 hw hb hp hl
  obtain ⟨n,rfl⟩:=ex1 ‹_<n›
  show zCH _ _ _ _ _ _ _ _ _ _ _=_
  unfold zCH zDv
  rw [hx7,zAE (dt (by omega))]
  by_cases hi:i=c
  ·subst hi
   rw [dt rfl,Bool.not_true,zw rfl,zV (z7 (by omega))]
   show _=zCw _ _ _ (zAL p m (i+1) (zHI b i p)).nodes _ _ _ _
   rw [show zAL p (m+1) i b=zAL p m (i+1) (zHI b i p) from rfl,zR4 hw (by omega) hp hl]
   exact ih n (i+1) b (by omega) (by omega) hw hb hp hl
  ·obtain ⟨d1,_,d3⟩:=zMp hw (c:=i) (by omega) hp
   rw [df (by omega),zAE (by rfl),hx,show (⟨b.nodes,b.batch,b.high,b.zones,b.caches⟩:zJ)=b from rfl,d1,zBR,zV (z7 (by omega))]
   exact ih n (i+1) (zHI b i p) (by omega) (by omega) d3 (zLN.1.trans hb) (by rw [zLN.2]; exact hp) (by rw [zRy hw (by omega) hp]; split; rfl; exact hl)
theorem zXm {K:Nat} (hK:K≤1000):∀ (m n i:Nat) (b:zJ),i+m=K→m<n→Wa b→b.caches.length=K→p<b.zones.length →
  zIZ (c:Int) (p:Int) n (i:Int) b.nodes b.batch b.high b.zones b.caches=zIb (c:Int) (p:Int) (zAL p m i b).nodes (zAL p m i b).batch (zAL p m i b).high (zAL p m i b).zones (zAL p m i b).caches:=by
 intro m
 induction m with
 | zero =>
  intro n i b h1 h2 hw hb hp
  obtain ⟨n,rfl⟩:=ex1 ‹_<n›
  show zFu _ _ _ _ _ _ _ _ _=_
  unfold zFu
  rw [zw (df (by omega))]
  rfl
 | succ m ih =>
  intro n i b h1 h2 hw hb hp
  obtain ⟨n,rfl⟩:=ex1 ‹_<n›
  obtain ⟨_,d2,d3⟩:=zMp hw (c:=i) (by omega) hp
  show zFu _ _ _ _ _ _ _ _ _=_
  unfold zFu
  rw [zAE (dt (by omega)),show (⟨b.nodes,b.batch,b.high,b.zones,b.caches⟩:zJ)=b from rfl,d2,zBR,zV (z7 (by omega))]
  exact ih n (i+1) (zHI b i p) (by omega) (by omega) d3 (zLN.1.trans hb) (by rw [zLN.2]; exact hp)
def zSI (a:zJ) (c p:Nat):zJ:=⟨a.nodes,a.batch,a.high,a.zones,a.caches.set c (zSZ (at_ a.caches (c:Int)) p)⟩
theorem zSq (hp:p<a.zones.length):zSI a c p=upd a c p ((Lf a c p).take ((Lf a c p).length - 1)) (Zn a p):=by
 unfold zSI upd Zn
 rw [zKu hp]
 rfl
theorem zV4 (h:Wa a) (hc:c<a.caches.length) (hp:p<a.zones.length):Wa (zSI a c p):=by
 rw [zSq hp]
 have hm:∀ f,f∈(Lf a c p).take ((Lf a c p).length - 1)→f∈Lf a c p:=fun f hf=>List.mem_of_mem_take hf
 have:=h.lim c p hc
 refine zST h hc hp (h.zs p hp) ⟨rfl,rfl,rfl,rfl,rfl⟩ (by rw [List.length_take]; omega) ((h.nd c p hc).sublist (List.take_sublist _ _)) (fun f hf=>h.own c p f hc (hm f hf)) (fun d f hd hdc hf=>⟨fun hh=>hdc (h.dis d c p p f hd hc hf (hm f hh)).1,(h.own d p f hd hf).2⟩)
def a1A (a:zJ) (c p:Nat):zJ:=if Lf a c p=[] then zQt a c p else a
def a2A (a:zJ) (c p:Nat):zJ:=if Lf (a1A a c p) c p=[] then zQt (zAL p (a1A a c p).caches.length 0 (a1A a c p)) c p else a1A a c p
def zLx (a:zJ) (c p:Nat):zJ×Int:=(zSI (a2A a c p) c p,zQh (at_ (a2A a c p).caches (c:Int)) p)
theorem zPD:(zQt a c p).caches.length=a.caches.length∧(zQt a c p).zones.length=a.zones.length:=⟨List.length_set,List.length_set⟩
theorem zSY (h:Wa a) (hc:c<a.caches.length) (hp:p<a.zones.length) (d q:Nat):Lf (zQt a c p) d q=if d=c∧q=p then Lf a c p++(refl a.batch.toNat (Zn a p)).2.reverse else Lf a d q:=zTb h hc hp d q
theorem zRN:∀ (ls:List (List Int)) (k:Nat),0<zP7 k ls → ∃ (j:Nat) (l:List Int),ls[j]?=some l∧l≠[]
 | [],k,h=>by unfold zP7 at h; omega
 | l::ls,k,h=>by
  by_cases hl:l=[]
  ·unfold zP7 at h
   rw [hl] at h
   obtain ⟨j,m,h1,h2⟩:=zRN ls (k+1) (by simpa using h)
   exact ⟨j+1,m,by simpa using h1,h2⟩
  ·exact ⟨0,l,rfl,hl⟩
theorem zRa:∀ (cs:List zL) (i:Int),0<zSL cs i → ∃ d,d<cs.length∧at_ (at_ cs (d:Int)).lists i≠[]
 | [],i,h=>by unfold zSL at h; omega
 | x::cs,i,h=>by
  unfold zSL at h
  by_cases hx:at_ x.lists i=[]
  ·rw [hx] at h
   obtain ⟨d,h1,h2⟩:=zRa cs i (by simpa using h)
   exact ⟨d+1,by simp; omega,h2⟩
  ·exact ⟨0,by simp,hx⟩
theorem zVv (h:0<zMT a p):(∃ g,cov (Zn a p) g) ∨ ∃ d,d<a.caches.length∧Lf a d p≠[]:=by
 unfold zMT at h
 by_cases hn:0<zU2 (at_ a.zones (p:Int))
 ·obtain ⟨j,l,h1,h2⟩:=zRN _ _ hn
  obtain ⟨x,r,e,_⟩:=zWk h2
  refine .inl ⟨x,j,x,?_,by omega,by have:=zIl j; omega⟩
  show x∈lst (at_ a.zones (p:Int)) j
  rw [zU7 h1,e]
  simp
 ·exact .inr (zRa _ _ (by omega))
theorem zVe (h:Wa a) (hc:c<a.caches.length) (hp:p<a.zones.length):Wa (a1A a c p)∧(a1A a c p).caches.length=a.caches.length∧(a1A a c p).zones.length=a.zones.length:=by
 unfold a1A
 by_cases hl:Lf a c p=[]
 ·rw [if_pos hl]
  exact ⟨(zH5 h hc hp hl).2.2,zPD.1,zPD.2⟩
 ·rw [if_neg hl]
  exact ⟨h,rfl,rfl⟩
theorem zUy (h:Wa a) (hc:c<a.caches.length) (hp:p<a.zones.length) (hg:∃ g,cov (Zn a p) g):Lf (zQt a c p) c p≠[]:=by
 rw [zSY h hc hp,if_pos ⟨rfl,rfl⟩]
 intro e
 have hbh:=h.bh
 have e2:=(List.append_eq_nil_iff.1 e).2
 rw [List.reverse_eq_nil_iff,show a.batch.toNat=(a.batch.toNat - 1)+1 by omega] at e2
 obtain ⟨g,hg⟩:=hg
 exact zUI (h.zs p hp) e2 g hg
theorem zVS (h:Wa a) (hc:c<a.caches.length) (hp:p<a.zones.length) (hn:0<zMT a p):Wa (a2A a c p)∧(a2A a c p).caches.length=a.caches.length∧(a2A a c p).zones.length=a.zones.length∧Lf (a2A a c p) c p≠[]:=by
 obtain ⟨w1,w2,w3⟩:=zVe h hc hp
 unfold a2A
 by_cases hl:Lf (a1A a c p) c p=[]
 ·rw [if_pos hl]
  obtain ⟨r1,r2,r3,r4,r5,r6,r7⟩:=zJk (p:=p) (a1A a c p).caches.length 0 w1 (by omega) (by rw [w3]; exact hp)
  have hl2:Lf (zAL p (a1A a c p).caches.length 0 (a1A a c p)) c p=[]:=by
   rw [r5]
   split
   ·rfl
   ·exact hl
  have hc2:c<(zAL p (a1A a c p).caches.length 0 (a1A a c p)).caches.length:=by rw [r2,w2]; exact hc
  have hp2:p<(zAL p (a1A a c p).caches.length 0 (a1A a c p)).zones.length:=by rw [r3,w3]; exact hp
  refine ⟨(zH5 r1 hc2 hp2 hl2).2.2,zPD.1.trans (r2.trans w2),zPD.2.trans (r3.trans w3),zUy r1 hc2 hp2 ?_⟩
  have hl0:Lf a c p=[]:=by
   by_cases h0:Lf a c p=[]
   ·exact h0
   ·unfold a1A at hl
    rw [if_neg h0] at hl
    exact hl
  have ea:a1A a c p=zQt a c p:=by unfold a1A; rw [if_pos hl0]
  have hng:¬ ∃ g,cov (Zn a p) g:=fun hg=>by
   have:=zUy h hc hp hg
   rw [← ea] at this
   exact this hl
  rcases zVv hn with hg | ⟨d,hd,hne⟩
  ·exact absurd hg hng
  ·obtain ⟨x,r,e,_⟩:=zWk hne
   refine ⟨x,(r7 x).2 (.inr ⟨d,Nat.zero_le _,by rw [w2]; omega,?_⟩)⟩
   have hdc:d≠c:=fun e'=>by subst e'; exact hne hl0
   rw [ea,zSY h hc hp,if_neg (fun e'=>hdc e'.1),e]
   simp
 ·rw [if_neg hl]
  exact ⟨w1,w2,w3,hl⟩
theorem zVz (h:Wa a) (hc:c<a.caches.length) (hp:p<a.zones.length) (hn:0<zMT a p):zLG a (c:Int) (p:Int)=some (zLx a c p):=by
 obtain ⟨w1,w2,w3⟩:=zVe h hc hp
 obtain ⟨v1,v2,v3,v4⟩:=zVS h hc hp hn
 have hcn:=h.n
 have hcl:=h.cl c hc
 have key:∀ b:zJ,Wa b→b.caches.length=a.caches.length→b.zones.length=a.zones.length→Lf b c p≠[]→zG4 (c:Int) (p:Int) b.nodes b.batch b.high b.zones b.caches=some (zSI b c p,zQh (at_ b.caches (c:Int)) p):=fun b hb h1 h2 h3=>by
  unfold zG4
  rw [zV (zAF (by rw [h1]; exact hc)),zYI (hb.pc (by rw [h1]; exact hc)) (by rw [h2]; exact hp) h3,zBR]
  rfl
 have j0:zG5 (c:Int) (p:Int) (a1A a c p).nodes (a1A a c p).batch (a1A a c p).high (a1A a c p).zones (a1A a c p).caches=some (zLx a c p):=by
  unfold zG5
  rw [zV (zAF (by rw [w2]; exact hc)),zV (zAF (by rw [w1.cl c (by rw [w2]; exact hc),w3]; exact hp))]
  by_cases hl:Lf (a1A a c p) c p=[]
  ·have e2:a2A a c p=zQt (zAL p (a1A a c p).caches.length 0 (a1A a c p)) c p:=by unfold a2A; rw [if_pos hl]
   obtain ⟨r1,r2,r3,r4,r5,r6,r7⟩:=zJk (p:=p) (a1A a c p).caches.length 0 w1 (by omega) (by rw [w3]; exact hp)
   have hl2:Lf (zAL p (a1A a c p).caches.length 0 (a1A a c p)) c p=[]:=by
    rw [r5]
    split
    ·rfl
    ·exact hl
   have hr:=(zH5 r1 (c:=c) (by rw [r2,w2]; exact hc) (by rw [r3,w3]; exact hp) hl2).2.1
   rw [zAE (dt (by show ((Lf (a1A a c p) c p).length:Int)=0; rw [hl]; rfl)),z0i,zXm (K:=(a1A a c p).caches.length) (by have:=h.cn; omega) (a1A a c p).caches.length zAD 0 (a1A a c p) (by omega) (by have:=h.cn; unfold zAD; omega) w1 rfl (by rw [w3]; exact hp)]
   unfold zIb
   rw [show (⟨(zAL p (a1A a c p).caches.length 0 (a1A a c p)).nodes,(zAL p (a1A a c p).caches.length 0 (a1A a c p)).batch,(zAL p (a1A a c p).caches.length 0 (a1A a c p)).high,(zAL p (a1A a c p).caches.length 0 (a1A a c p)).zones,(zAL p (a1A a c p).caches.length 0 (a1A a c p)).caches⟩:zJ)=zAL p (a1A a c p).caches.length 0 (a1A a c p) from rfl,hr,zBR, ← e2]
   exact key _ v1 v2 v3 v4
  ·have e2:a2A a c p=a1A a c p:=by unfold a2A; rw [if_neg hl]
   rw [zw (df (fun e=>hl (List.length_eq_zero_iff.1 (by show (Lf (a1A a c p) c p).length=0; have e':((Lf (a1A a c p) c p).length:Int)=0:=e; omega))))]
   rw [← e2]
   exact key _ v1 v2 v3 v4
 unfold zLG
 rw [zV (zAF hc),zV (zAF (by rw [hcl]; exact hp))]
 by_cases hl:Lf a c p=[]
 ·have e1:a1A a c p=zQt a c p:=by unfold a1A; rw [if_pos hl]
  rw [zAE (dt (by show ((Lf a c p).length:Int)=0; rw [hl]; rfl)),show (⟨a.nodes,a.batch,a.high,a.zones,a.caches⟩:zJ)=a from rfl,(zH5 h hc hp hl).2.1,zBR, ← e1]
  exact j0
 ·have e1:a1A a c p=a:=by unfold a1A; rw [if_neg hl]
  rw [zw (df (fun e=>hl (List.length_eq_zero_iff.1 (by show (Lf a c p).length=0; have e':((Lf a c p).length:Int)=0:=e; omega))))]
  rw [e1] at j0
  exact j0
theorem zRs (h:Wa a) (hc:c<a.caches.length) (hp:p<a.zones.length) (hn:0<zMT a p) {x2:List Int×Int} {i1:Int} (hx:at_ x2.1 i1=(p:Int)) :
  (chk (inb (c:Int) a.caches.length)<|chk (inb (at_ x2.1 i1) ((at_ a.caches (c:Int)).lists).length) <|
   (cnd (decide (((at_ ((at_ a.caches (c:Int)).lists) (at_ x2.1 i1)).length:Int)=0)) (zC2 (⟨a.nodes,a.batch,a.high,a.zones,a.caches⟩:zJ) (c:Int) (at_ x2.1 i1)) (some ((⟨a.nodes,a.batch,a.high,a.zones,a.caches⟩:zJ),default))).bind fun x7 =>
   cnd ((decide (((at_ ((at_ a.caches (c:Int)).lists) (at_ x2.1 i1)).length:Int)=0))&&(!x7.2)) (
    zCK (c:Int) x2 i1 x7 zAD 0 x7.1.nodes x7.1.batch x7.1.high x7.1.zones x7.1.caches) (
    zB9 (c:Int) x2 i1 x7.1.nodes x7.1.batch x7.1.high x7.1.zones x7.1.caches))=some ((zLx a c p).1,(zLx a c p).2,0):=by
 obtain ⟨w1,w2,w3⟩:=zVe h hc hp
 obtain ⟨v1,v2,v3,v4⟩:=zVS h hc hp hn
 have hcn:=h.n
 have hcn2:=h.cn
 have hcl:=h.cl c hc
 have key:∀ b:zJ,Wa b→b.caches.length=a.caches.length→b.zones.length=a.zones.length→Lf b c p≠[]→zB9 (c:Int) x2 i1 b.nodes b.batch b.high b.zones b.caches=some (zSI b c p,zQh (at_ b.caches (c:Int)) p,0):=fun b hb h1 h2 h3=>by
  unfold zB9
  rw [hx,zV (zAF (by rw [h1]; exact hc)),zYK (hb.pc (by rw [h1]; exact hc)) (by rw [h2]; exact hp) h3,zBR,zw (by rfl)]
  rfl
 rw [hx,zV (zAF hc),zV (zAF (by rw [hcl]; exact hp))]
 by_cases hl:Lf a c p=[]
 ·have e1:a1A a c p=zQt a c p:=by unfold a1A; rw [if_pos hl]
  rw [dt (show ((at_ (at_ a.caches (c:Int)).lists (p:Int)).length:Int)=0 by show ((Lf a c p).length:Int)=0; rw [hl]; rfl),zAE rfl,show (⟨a.nodes,a.batch,a.high,a.zones,a.caches⟩:zJ)=a from rfl,(zH5 h hc hp hl).1,zBR, ← e1]
  have hlr:Lf (a1A a c p) c p=(refl a.batch.toNat (Zn a p)).2.reverse:=by rw [e1,zSY h hc hp,if_pos ⟨rfl,rfl⟩,hl,List.nil_append]
  by_cases hr:(refl a.batch.toNat (Zn a p)).2=[]
  ·have hl1:Lf (a1A a c p) c p=[]:=by rw [hlr,hr]; rfl
   have e2:a2A a c p=zQt (zAL p (a1A a c p).caches.length 0 (a1A a c p)) c p:=by unfold a2A; rw [if_pos hl1]
   obtain ⟨r1,r2,r3,r4,r5,r6,r7⟩:=zJk (p:=p) (a1A a c p).caches.length 0 w1 (by omega) (by rw [w3]; exact hp)
   have hl2:Lf (zAL p (a1A a c p).caches.length 0 (a1A a c p)) c p=[]:=by
    rw [r5]
    split
    ·rfl
    ·exact hl1
   have hq:=(zH5 r1 (c:=c) (by rw [r2,w2]; exact hc) (by rw [r3,w3]; exact hp) hl2).1
   rw [zAE (by rw [hr]; rfl)]
   refine (zVm (x7:=(a1A a c p,decide (0<(((refl a.batch.toNat (Zn a p)).2).length:Int)))) hx (K:=(a1A a c p).caches.length) rfl (by rw [w2]; exact hc) (by omega) (a1A a c p).caches.length zAD 0 (a1A a c p) (by omega) (by unfold zAD; omega) w1 rfl (by rw [w3]; exact hp) hl1).trans ?_
   unfold zCw
   rw [hx,show (⟨(zAL p (a1A a c p).caches.length 0 (a1A a c p)).nodes,(zAL p (a1A a c p).caches.length 0 (a1A a c p)).batch,(zAL p (a1A a c p).caches.length 0 (a1A a c p)).high,(zAL p (a1A a c p).caches.length 0 (a1A a c p)).zones,(zAL p (a1A a c p).caches.length 0 (a1A a c p)).caches⟩:zJ)=zAL p (a1A a c p).caches.length 0 (a1A a c p) from rfl,hq,zBR, ← e2]
   exact key _ v1 v2 v3 v4
  ·have hl1:Lf (a1A a c p) c p≠[]:=by rw [hlr]; exact fun e=>hr (List.reverse_eq_nil_iff.1 e)
   have e2:a2A a c p=a1A a c p:=by unfold a2A; rw [if_neg hl1]
   have hpos:0<(refl a.batch.toNat (Zn a p)).2.length:=List.length_pos_iff.2 hr
   rw [zw (by rw [dt (show (0:Int)<((refl a.batch.toNat (Zn a p)).2.length:Int) by omega)]; rfl), ← e2]
   exact key _ v1 v2 v3 v4
 ·have e1:a1A a c p=a:=by unfold a1A; rw [if_neg hl]
  have e2:a2A a c p=a:=by unfold a2A; rw [e1,if_neg hl]
  have hne:¬ ((at_ (at_ a.caches (c:Int)).lists (p:Int)).length:Int)=0:=fun e=>hl (List.length_eq_zero_iff.1 (by show (Lf a c p).length=0; have e':((Lf a c p).length:Int)=0:=e; omega))
  rw [df hne,zw rfl,zBR,zw (by rfl)]
  have:=key a h rfl rfl hl
  unfold zLx
  rw [e2]
  exact this
def BoG {β:Type} (x y:Option (zJ×β)):Prop := ∃ r,x=some r∧y=some r∧Sm r.1
theorem Wa.gn (h:Wa a):Gn a.zones:=by
 have hz:∀ z,z∈a.zones→ranges z=true:=fun z hz=>by
  obtain ⟨q,hq,e⟩:=List.getElem_of_mem hz
  have:=(h.zs q hq).ranges
  unfold Zn at this
  rw [zHD hq,e] at this
  exact this
 exact ⟨h.zn.2,fun z hm=>by have:=zBM (hz z hm); omega,fun z hm=>(zBM (hz z hm)).2.2.1⟩
theorem Wa.vn (h:Wa a) (hc:c<a.nodes.length):0≤at_ a.nodes (c:Int)∧at_ a.nodes (c:Int)<4:=h.nr _ (zAq hc)
theorem zWP (ha:Al a) (hv:Va a) (h:Wa a) (hc:c<a.caches.length) {kern res:Bool} {L:List Int} (hL:∀ z,z∈L→Ix a.zones z) (hLl:L.length≤256):∀ (m n i:Nat),i+m=L.length→m<n →
  BoG (zBh a (c:Int) res (L,0) n (i:Int)) (zD2 a (c:Int) res (L,0) n (i:Int)):=by
 intro m
 induction m with
 | zero =>
  intro n i h1 h2
  obtain ⟨n,rfl⟩:=ex1 ‹_<n›
  refine ⟨(⟨[],0,0,[],[]⟩,0,16),?_,?_,zYD⟩
  ·show zCM _ _ _ _ _ _=_
   unfold zCM
   rw [zw (df (show ¬ (i:Int)<(L.length:Int) by omega))]
   rfl
  ·show zD8 _ _ _ _ _ _=_
   unfold zD8
   rw [zw (df (show ¬ (i:Int)<(L.length:Int) by omega))]
   rfl
 | succ m ih =>
  intro n i h1 h2
  obtain ⟨n,rfl⟩:=ex1 ‹_<n›
  have hi:i<L.length:=by omega
  obtain ⟨p,ep,hp⟩:=hL _ (zAq hi)
  obtain ⟨k1,k2,k3,k4⟩:=zXs hv hp
  have hmin:=zXg hv hp
  have hroom:zEC a (p:Int)=some (zMT a p - (at_ a.zones (p:Int)).min):=by
   unfold zEC
   rw [k1,zBR,zV (zAF hp),zV (z7 (by omega))]
  have hskip:(zBh a (c:Int) res (L,0) (n+1) (i:Int)=if (0<zMT a p∧(res=true∨(at_ a.zones (p:Int)).min<zMT a p)) then some ((zLx a c p).1,(zLx a c p).2,0) else zBh a (c:Int) res (L,0) n ((i+1:Nat):Int)) ∧
    (zD2 a (c:Int) res (L,0) (n+1) (i:Int)=if (0<zMT a p∧(res=true∨(at_ a.zones (p:Int)).min<zMT a p)) then some ((zLx a c p).1,(zLx a c p).2,0) else zD2 a (c:Int) res (L,0) n ((i+1:Nat):Int)):=by
   have hx:at_ (L,(0:Int)).1 (i:Int)=(p:Int):=ep
   constructor
   ·show zCM _ _ _ _ _ _=_
    unfold zCM zFa
    rw [zAE (dt (show (i:Int)<(L.length:Int) by omega)),zV (show inb (i:Int) L.length=true from zAF hi),hx,k1,hroom]
    cases res with
    | true =>
     rw [zAE rfl,zBR,zw (by rw [Bool.not_true,Bool.and_false]),zBR]
     by_cases h0:zMT a p=0
     ·rw [zAE (by rw [dt h0]; rfl),if_neg (by omega),zV (z7 (by omega))]
      rfl
     ·rw [zw (by rw [df h0]; rfl),if_pos ⟨by omega,.inl rfl⟩,zUj ha,zBR]
      have:=zRs h hc hp (show 0<zMT a p by omega) hx
      rw [hx] at this
      exact this
    | false =>
     rw [zw rfl,zBR,zAE (by rfl),zBR]
     by_cases h0:zMT a p - (at_ a.zones (p:Int)).min<1
     ·rw [zAE (by rw [dt h0]; rfl),if_neg (fun hh=>by rcases hh.2 with h' | h'; cases h'; omega),zV (z7 (by omega))]
      rfl
     ·rw [zw (by rw [df h0]; rfl),if_pos ⟨by omega,.inr (by omega)⟩,zUj ha,zBR]
      have:=zRs h hc hp (show 0<zMT a p by omega) hx
      rw [hx] at this
      exact this
   ·show zD8 _ _ _ _ _ _=_
    unfold zD8
    rw [zAE (dt (show (i:Int)<(L.length:Int) by omega)),zV (show inb (i:Int) L.length=true from zAF hi),hx,k2,zBR,zV (zAF hp)]
    by_cases ht:0<zMT a p∧(res=true∨(at_ a.zones (p:Int)).min<zMT a p)
    ·have hb:(decide ((at_ a.zones (p:Int)).min<zMT a p)||(res&&decide (0<zMT a p)))=true:=by
      rcases ht.2 with e | e
      ·rw [e,dt ht.1,Bool.and_self,Bool.or_true]
      ·rw [dt e]; rfl
     rw [if_pos ht,zAE hb,zXY ha,zBR,show (⟨a.nodes,a.batch,a.high,a.zones,a.caches⟩:zJ)=a from rfl,zVz h hc hp ht.1,zBR]
    ·have hb:(decide ((at_ a.zones (p:Int)).min<zMT a p)||(res&&decide (0<zMT a p)))=false:=by
      cases res with
      | true=>rw [df (p:=0<zMT a p) (fun e=>ht ⟨e,.inl rfl⟩),df (p:=(at_ a.zones (p:Int)).min<zMT a p) (by omega)]; rfl
      | false=>rw [df (p:=(at_ a.zones (p:Int)).min<zMT a p) (fun e=>ht ⟨by omega,.inr e⟩)]; rfl
     rw [if_neg ht,zw hb,zV (z7 (by omega))]
     rfl
  rw [hskip.1,hskip.2]
  by_cases ht:0<zMT a p∧(res=true∨(at_ a.zones (p:Int)).min<zMT a p)
  ·rw [if_pos ht,if_pos ht]
   obtain ⟨v1,v2,v3,v4⟩:=zVS h hc hp ht.1
   exact ⟨_,rfl,rfl,(zV4 v1 (by rw [v2]; exact hc) (by rw [v3]; exact hp)).sm⟩
  ·rw [if_neg ht,if_neg ht]
   exact ih n (i+1) (by omega) (by omega)
theorem zSF (ha:Al a) (c:Int) (kern res:Bool):BoG (zEq a c kern res) (zJa a c kern res):=by
 unfold zEq zJa
 rw [zWw ha,zVQ ha,zBR,zBR]
 by_cases h:zT0 a=0
 ·have hv:=zWx ha h
  have hw:=zX2 ha h
  rw [dt h,Bool.not_true,zw rfl,zw rfl]
  cases hd:((decide (c<0))||(decide ((a.nodes.length:Int)≤c))) with
  | true=>exact ⟨_,rfl,rfl,zYD⟩
  | false =>
   simp only [Bool.or_eq_false_iff,decide_eq_false_iff_not] at hd
   obtain ⟨d,rfl⟩:=Int.eq_ofNat_of_zero_le (show 0≤c by omega)
   have hdn:d<a.nodes.length:=by omega
   obtain ⟨L,l1,l2,l3,l4⟩:=zXq hw.gn (hw.vn hdn) kern
   rw [zw rfl,zw rfl,zV (zAF hdn),zV (zAF hdn),l3,l4,zBR,zBR]
   exact zWP ha hv hw (by rw [hw.cn]; exact hdn) (kern:=kern) (fun z hz=>((l1 z).1 hz).1) l2 L.length zAD 0 (by omega) (by unfold zAD; omega)
 ·rw [df h]
  exact ⟨_,rfl,rfl,zYD⟩
theorem zUM (hg:∀ z,z∈a.zones→Gz z) (c f:Int):zDg a c f=some true:=by
 obtain ⟨b,b1,b2⟩:=few hg
 unfold zDg
 rw [zV5,zBR,Bool.not_true,Bool.not_false,zAE rfl,b1,zBR]
 cases b with
 | false=>rfl
 | true =>
  obtain ⟨r,r1,r2,r3⟩:=zSF (b2 rfl) c (!decide ((zKO .and .u8 f 1)=0)) (!decide ((zKO .and .u8 f 2)=0))
  refine (zw (by rfl)).trans ?_
  rw [r1,zBR,r2,zBR,dt rfl,dt rfl,Bool.and_self,zAE rfl,zXX r3]
  rfl
end
end Go.Proofs.YtplkliakhdkpcaaGreat
namespace Go.Proofs.YtplkliakhdkpcaaGreat
open Go Go.ChangeShapes Go.WideShapes Go.ChangeAt Go.RowKit Go.Wk Go.Am
theorem own:ownKnob Tryz.prog.godebug=none:=by kernel_rfl
theorem zWT:laidOutB Tryz.prog=true:=by kernel_rfl
theorem zW2 {n:Int} (h:(Lit.int .i64 n).wf=true):inI n=true:=by
 refine z7 ?_
 simp [Lit.wf,IntKind.min,IntKind.max,IntKind.signed,IntKind.bits] at h
 omega
theorem zO1:RdC Tryz.prog 3 cI (fun n=>inI n=true):=RdC.map (zTX Tryz.underlying3) id (fun _=>rfl) (fun _ h=>zW2 h)
theorem rd8:RdC Tryz.prog 5 (cK .u8) (fun n=>(Lit.int .u8 n).wf=true):=zTX Tryz.underlying5
theorem zQk:RdC Tryz.prog 22 (cS cI) (fun l=>(∀ x,x∈l→inI x=true)∧l.length≤140737488351232):=zMW Tryz.underlying22 (of_decide_eq_true (by kernel_rfl)) (of_decide_eq_true (by kernel_rfl)) zO1
theorem zXU:RdC Tryz.prog 49 (cA 5 (eS cI) ([]:List Int)) (fun l=>l.length=5 ∧ ∀ x,x∈l→(∀ y,y∈x→inI y=true)∧x.length≤140737488351232):=zV9 [] Tryz.underlying49 (by kernel_rfl) (by kernel_rfl) zQk
theorem zXc:RdC Tryz.prog 51 zO Gz :=
 RdC.map (zMw (tot:=10) Tryz.underlying51 (by kernel_rfl) (zGu (s:=1) zO1 rfl (by kernel_rfl) (zGu (s:=1) zO1 rfl (by kernel_rfl) (zGu (s:=1) zO1 rfl (by kernel_rfl) (zGu (s:=1) zO1 rfl (by kernel_rfl) (zGu (s:=1) zO1 rfl (by kernel_rfl) (zGu (s:=5) zXU rfl (by kernel_rfl) (zQN rfl))))))))
  (fun x=>⟨x.1,x.2.1,x.2.2.1,x.2.2.2.1,x.2.2.2.2.1,x.2.2.2.2.2.1⟩) (fun _=>rfl) (fun _ h=>⟨h.2.2.2.2.2.1.1,h.2.2.1⟩)
theorem zVD:RdC Tryz.prog 23 (cS zO) (fun l=>(∀ x,x∈l→Gz x)∧l.length≤140737488351232):=zMW Tryz.underlying23 (of_decide_eq_true (by kernel_rfl)) (of_decide_eq_true (by kernel_rfl)) zXc
theorem zVT:RdC Tryz.prog 53 (cS (cS cI)) (fun l=>(∀ x,x∈l→(∀ y,y∈x→inI y=true)∧x.length≤140737488351232)∧l.length≤140737488351232):=zMW Tryz.underlying53 (of_decide_eq_true (by kernel_rfl)) (of_decide_eq_true (by kernel_rfl)) zQk
theorem zVw:RdC Tryz.prog 55 zG (fun _=>True) :=
 RdC.map (zMw (tot:=1) Tryz.underlying55 (by kernel_rfl) (zGu (s:=1) zVT rfl (by kernel_rfl) (zQN rfl))) (fun x=>⟨x.1⟩) (fun _=>rfl) (fun _ _=>trivial)
theorem zUQ:RdC Tryz.prog 24 (cS zG) (fun l=>(∀ x,x∈l→True)∧l.length≤140737488351232):=zMW Tryz.underlying24 (of_decide_eq_true (by kernel_rfl)) (of_decide_eq_true (by kernel_rfl)) zVw
theorem zVh:RdC Tryz.prog 26 zI (fun a => ∀ z,z∈a.zones→Gz z) :=
 RdC.map (zMw (tot:=5) Tryz.underlying26 (by kernel_rfl) (zGu (s:=1) zQk rfl (by kernel_rfl) (zGu (s:=1) zO1 rfl (by kernel_rfl) (zGu (s:=1) zO1 rfl (by kernel_rfl) (zGu (s:=1) zVD rfl (by kernel_rfl) (zGu (s:=1) zUQ rfl (by kernel_rfl) (zQN rfl)))))))
  (fun x=>⟨x.1,x.2.1,x.2.2.1,x.2.2.2.1,x.2.2.2.2.1⟩) (fun _=>rfl) (fun _ h=>h.2.2.2.1.1)
set_option maxRecDepth 100000 in
theorem zKp (os:Os) (started:os.Started) (H:Type) (enc:TypeId×Value→H) :
  ReturnsInHanded {} Tryz.checked os 4 .any (Rows.allocatorAllocsSpec.pre6 enc Tryz.prog Tryz.f4 Rows.allocatorAllocsRow.domain false) (Rows.allocatorAllocsSpec.post enc Tryz.prog Tryz.f4 false true false false):=by
 refine returnsInHanded_of_change_sized (C:=Tryz.checked) own started (by kernel_rfl) Tryz.func4
  (ChangeSpec.witness6 (enc:=enc) (C:=Tryz.checked) false ⟨#[], #[.agg #[.slice none 0 0,.int .i64 0,.int .i64 0,.slice none 0 0,.slice none 0 0],.int .i64 0,.int .u8 0],[]⟩ 8 (by kernel_rfl) (by kernel_rfl) (by kernel_rfl) (by kernel_rfl)) ?_
 intro W base args ds gs before hval0 hW hcnd0 hsz0 _
 have hsz:(DataW.weightsEach Tryz.prog (Tryz.f4.params.toList++Rows.allocatorAllocsSpec.plain.varTypes Tryz.prog) (ds++gs)).all (· ≤ reachBytes)=true:=hsz0
 have hval:∀ (j:Nat) t v,Tryz.f4.params[j]?=some t→args[j]?=some v→Value.okWide Tryz.prog W .any base t v:=hval0
 clear hcnd0 hsz0 hval0
 have hW':=hW
 obtain ⟨p,q,hA0,hV,rfl,hfz,hnd⟩:=hW
 have hA:DataW.TrodAll enc Tryz.prog W 0 (fun _=>true) true Tryz.f4.params.toList args.toList ds p:=hA0
 clear hA0
 rw [Tryz.params4] at hA hval hsz
 obtain ⟨v0,v1,v2,d0,d1,d2,p0,p1,p2,rfl,rfl,rfl,h0,h1,h2⟩:=trodAll_three hA
 obtain ⟨rfl,rfl⟩:=trodVars_none hV
 simp only [List.append_nil] at hW' hsz
 have hlt:=hW'.lt
 have hwt:∀ (j:Nat) (t:TypeId) (d:DataW H),([26,3,5]:List TypeId)[j]?=some t→[d0,d1,d2][j]?=some d → ∀ n,n∈d.weights Tryz.prog t→n≤reachBytes:=by
  intro j t d ht hd n hn
  have:=List.all_eq_true.1 hsz n (DataW.weights_mem_each (ts:=[26,3,5]++Rows.allocatorAllocsSpec.plain.varTypes Tryz.prog) (by rw [List.getElem?_append_left (by have:=(List.getElem?_eq_some_iff.1 ht).1; exact this)]; exact ht) hd n hn)
  simpa using this
 obtain ⟨xs,rfl,hxs⟩:=okWide_struct Tryz.underlying26 (hval 0 26 v0 rfl rfl)
 obtain ⟨i1,rfl⟩:=okWide_int Tryz.underlying3 (hval 1 3 v1 rfl rfl)
 obtain ⟨i2,rfl⟩:=okWide_int Tryz.underlying5 (hval 2 5 v2 rfl rfl)
 obtain ⟨a,r0,hg⟩:=zVh.argA h0 (hwt 0 26 d0 rfl rfl) rfl
 obtain ⟨x1,r1,y1⟩:=zO1.arg1 (g:=eI) h1 (hwt 1 3 d1 rfl rfl) rfl
 obtain ⟨x2,r2,y2⟩:=rd8.arg1 (g:=eK .u8) h2 (hwt 2 5 d2 rfl rfl) rfl
 have hk:∀ (W':World),Below W.heap.size W W' → ∀ (t:TypeId) (v:Value) (d:DataW H) (ps:List MemPlace),Tryz.prog.readableRec t=true→t<Tryz.prog.types.size→DataW.Trod enc Tryz.prog W 0 (fun _=>true) true t v d ps→(∀ x∈ps,x.block<W.heap.size)→DataW.Trod enc Tryz.prog W' 0 (fun b=>decide (b<W.heap.size)) true t v d ps :=
  fun W' hb t v d ps hr hs h hl=>Below.trod zWT hr hs h hb hl
 refine (zKM (zUM hg x1 x2) W noB _ (fun x h=>h.elim) (show VRt W noB [] _ [_,_,_] [] from ?_)).mono ?_
 ·unfold VRt
  refine ⟨_,_,[],[],rfl,rfl,r0,?_⟩
  unfold VRt
  refine ⟨_,_,[],[],rfl,rfl,r1,?_⟩
  unfold VRt
  refine ⟨_,_,[],[],rfl,rfl,r2,?_⟩
  unfold VRt
  exact ⟨rfl,rfl⟩
 ·rintro v W' ⟨fr,hv,_,_,kp⟩
  unfold VR at hv
  obtain ⟨rfl,_⟩:=hv
  have hb:Below W.heap.size W W':=⟨kp.os,kp.tape,kp.output,kp.size,fun k hk=>kp.block k hk id⟩
  refine ⟨_,_,_,[],_,[],hW',trodAll_mk1 (shut_bool Tryz.underlying4 true),trodAll_mk3 (hk W' hb _ _ _ _ (by kernel_rfl) (of_decide_eq_true (by kernel_rfl)) h0 (fun x hx=>hlt x (by simp [hx]))) (hk W' hb _ _ _ _ (by kernel_rfl) (of_decide_eq_true (by kernel_rfl)) h1 (fun x hx=>hlt x (by simp [hx]))) (hk W' hb _ _ _ _ (by kernel_rfl) (of_decide_eq_true (by kernel_rfl)) h2 (fun x hx=>hlt x (by simp [hx]))),rfl,hb.frame _,fun h=>by cases h⟩
theorem allocatorAllocs_holds:Rows.AllocatorAllocsSaid :=
 OpenClaim.holds_of_wide 4 Tryz.f4 rfl rfl rfl rfl rfl rfl rfl ⟨rfl,rfl,rfl,rfl,rfl⟩ rfl rfl rfl rfl rfl (by kernel_rfl) Tryz.func4 (by kernel_rfl)
  (of_decide_eq_true (by kernel_rfl)) (by unfold Func.isWrapper; first | (rw [if_pos (by decide +kernel)]; kernel_rfl) | (rw [if_neg (by decide +kernel)]; exact ⟨rfl,rfl⟩))
  (fun os started H enc _=>zKp os started H enc)
end Go.Proofs.YtplkliakhdkpcaaGreat
