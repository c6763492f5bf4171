/-
  The reference's Check of a zone gives 'check' too. No program in sight.
-/
import Derived.Test.YtplkliakhdkpcaaGreatPf
set_option linter.unusedVariables false
set_option linter.unusedSimpArgs false
namespace Go.Proofs.YtplkliakhdkpcaaGreat
open Go Go.RowKit Go.Wk Go.Am
section
variable {z:zo} {k:Nat} {l:List Int}
theorem zJy {f:Int} (hr:ranges z=true) (hk:k≤4):zBR z f (k:Int)=some (inside z f k):=by
  have hb:=zCA hr
  have hp:=zJb k
  by_cases h:z.start≤f∧f<z.start+z.count
  · exact zPR hr hk h.1 h.2
  · have hin:inside z f k=false:=by
      refine Bool.eq_false_iff.2 fun hi=>h ?_
      have:=zAf hr hi
      omega
    rw [hin]
    unfold zBR
    rw [zi (zJ9 (zAE (by omega)))]
    refine zAY ?_
    rw [df (p:=(k:Int)<0) (by omega),df (p:=4<(k:Int)) (by omega)]
    by_cases h1:f<z.start
    · rw [dt h1]; rfl
    · rw [df h1,dt (p:=z.start+z.count≤f) (by omega)]; rfl
theorem rl6 {se:Int→Option Int} (hz:Zk z) (hr:ranges z=true) (hk:k<5) (hl:lst z k=l):∀ (m n i:Nat),i+m=l.length→m<n→zJ4 z k none l=zJ4 z k (zJ7 l i) (l.drop i) →
    zDA se z (k:Int) n (i:Int)=if zJ4 z k none l=0 then se ((k+1:Nat):Int) else some (zJ4 z k none l):=by
  have hb:l.length≤1000000:=by rw [← hl]; exact hz.bd k
  have e:z.free.getD (k:Int).toNat []=l:=hl
  intro m
  induction m with
  | zero =>
    intro n i h1 h2 hI
    obtain ⟨n,rfl⟩:∃ q,n=q+1:=⟨n - 1,by omega⟩
    show zCC _ _ _ _ _=_
    unfold zCC zEq
    rw [e,zi (zAb (by omega)),zAG (df (by omega)),zi (zAE (by omega)),if_pos (zPV hI (by omega))]
    rfl
  | succ m ih =>
    intro n i h1 h2 hI
    obtain ⟨n,rfl⟩:∃ q,n=q+1:=⟨n - 1,by omega⟩
    have hi:i<l.length:=by omega
    have hx:=zO8 hi
    show zCC _ _ _ _ _=_
    unfold zCC
    rw [e,zi (zAb (by omega)),zAY (dt (by omega)),zi (zAb hi),zJy hr (by omega),zD0]
    generalize at_ l (i:Int)=x at *
    cases hin:inside z x k with
    | false =>
      rw [Bool.not_false,zAY rfl,zOD hI hx hin]
      rfl
    | true =>
      rw [Bool.not_true,zAG rfl]
      by_cases h0:0<i
      · rw [zi (zJ9 (zAE (by omega))),zNt h0,zi (zJ9 (zAb (by omega))),dt (p:=0<(i:Int)) (by omega),Bool.true_and]
        have hy:=zO8 (l:=l) (i:=i - 1) (by omega)
        have hg:geP (zJ7 l i) x=decide (x≤at_ l ((i - 1:Nat):Int)):=zUA h0 (by rw [zNt h0,Int.toNat_natCast]; exact hy)
        by_cases hle:x≤at_ l ((i - 1:Nat):Int)
        · rw [zAY (dt hle),zMg hI hx hin (by rw [hg,dt hle])]
          rfl
        · rw [zAG (df hle),zi (zAE (by omega))]
          exact ih n (i+1) (by omega) (by omega) (zKi hI hx hin (by rw [hg,df hle]))
      · rw [df (p:=0<(i:Int)) (by omega)]
        refine (zi (by rfl)).trans ((zi (by rfl)).trans ((zAG (by rfl)).trans ?_))
        rw [zi (zAE (by omega))]
        exact ih n (i+1) (by omega) (by omega) (zKi hI hx hin (zTT h0))
theorem rl5 (hz:Zk z) (hr:ranges z=true):∀ (m n k:Nat),k+m=5→m<n→zEw z 0 z.free=zEw z k (z.free.drop k) →
    zBD z n (k:Int)=some (zEw z 0 z.free):=by
  intro m
  induction m with
  | zero =>
    intro n k h1 h2 hR
    obtain ⟨n,rfl⟩:∃ q,n=q+1:=⟨n - 1,by omega⟩
    show zB4 _ _ _=_
    unfold zB4
    rw [zAG (df (by omega)),zNz hR (by rw [hz.len]; omega)]
    rfl
  | succ m ih =>
    intro n k h1 h2 hR
    obtain ⟨n,rfl⟩:∃ q,n=q+1:=⟨n - 1,by omega⟩
    show zB4 _ _ _=_
    unfold zB4
    have hb:=hz.bd k
    have hg:=hz.get (k:=k) (by omega)
    rw [zAY (dt (by omega)),show (0:Int)=((0:Nat):Int) from rfl,rl6 hz hr (by omega) rfl (lst z k).length z9 0 (by omega) (by unfold z9; omega) rfl]
    by_cases h0:zJ4 z k none (lst z k)=0
    · rw [if_pos h0]
      exact ih n (k+1) (by omega) (by omega) (zMk hR hg h0)
    · rw [if_neg h0]
      have hc:zEw z 0 z.free=zJ4 z k none (lst z k):=by
        obtain ⟨a1,a2⟩:=List.getElem?_eq_some_iff.1 hg
        rw [hR,List.drop_eq_getElem_cons a1,a2]
        unfold zEw
        rw [if_neg h0]
      rw [hc]
def zIf (s:List Int) (i:Nat):Nat→List Int
  | 0=>s
  | n+1=>zIf (s.set i (s.getD i 0+1)) (i+1) n
def zHd (k:Nat):List Int→List Int→List Int
  | s,[]=>s
  | s,f::r=>zHd k (zIf s f.toNat (2 ^ k)) r
def zGn:Nat→List Int→List (List Int)→List Int
  | _,s,[]=>s
  | k,s,l::r=>zGn (k+1) (zHd k s l) r
def zNr (z:zo):List Int:=zGn 0 (List.replicate 256 0) z.free
theorem zJX:∀ (m i:Nat) (s:List Int),(zIf s i m).length=s.length
  | 0,_,_=>rfl
  | m+1,i,s=>by unfold zIf; rw [zJX,List.length_set]
theorem zIC:∀ (l:List Int) (k:Nat) (s:List Int),(zHd k s l).length=s.length
  | [],_,_=>rfl
  | x::l,k,s=>by unfold zHd; rw [zIC l,zJX]
theorem zTK (l:List Int) (i g:Nat) (h:i<l.length) (x:Int):(l.set i x).getD g 0=if g=i then x else l.getD g 0:=by
  simp only [List.getD_eq_getElem?_getD,List.getElem?_set]
  by_cases hg:i=g
  · rw [if_pos hg,if_pos h,if_pos hg.symm]; rfl
  · rw [if_neg hg,if_neg (fun e=>hg e.symm)]
theorem zJc:∀ (m i:Nat) (s:List Int) (g:Nat),i+m≤s.length→(zIf s i m).getD g 0=if i≤g∧g<i+m then s.getD g 0+1 else s.getD g 0
  | 0,i,s,g,_=>by rw [if_neg (by omega)]; rfl
  | m+1,i,s,g,h=>by
    unfold zIf
    rw [zJc m (i+1) _ g (by rw [List.length_set]; omega),zTK s i g (by omega)]
    by_cases h2:g=i
    · subst h2
      rw [if_neg (by omega),if_pos rfl,if_pos (by omega)]
    · rw [if_neg h2]
      by_cases h1:i+1≤g∧g<i+1+m
      · rw [if_pos h1,if_pos (by omega)]
      · rw [if_neg h1,if_neg (by omega)]
theorem sl2 {se:Int→List Int→Option (List Int)} {i:Nat} {x:Int} (hk:k<5) (hx:at_ (lst z k) (i:Int)=x) (hil:i<(lst z k).length) (h0:0≤x) (h1:x+2 ^ k≤256) (hi:i<1000000):∀ (m n f:Nat) (s:List Int),(f:Int)+m=x+2 ^ k→m<n→s.length=256→(∀ g,f≤g→0≤s.getD g 0∧s.getD g 0≤1000000000) →
    zHQ se z (k:Int) (i:Int) n (f:Int) s=se ((i+1:Nat):Int) (zIf s f m):=by
  obtain ⟨e,p1,p2⟩:=zIn (k:=k) (by omega)
  have ex:at_ (z.free.getD (k:Int).toNat []) (i:Int)=x:=hx
  have el:i<(z.free.getD (k:Int).toNat []).length:=hil
  intro m
  induction m with
  | zero =>
    intro n f s h2 h3 h4 h5
    obtain ⟨n,rfl⟩:∃ q,n=q+1:=⟨n - 1,by omega⟩
    show zFH _ _ _ _ _ _ _=_
    unfold zFH zIO
    rw [e,ex,zi (zAb (by omega)),zi (zAb el),zi (dt (zGr (by omega) (by omega))),zi (zLa (by omega)),zi (zAE (by omega)),zi (zAE (by omega)),zAG (df (by omega)),zi (zAE (by omega))]
    rfl
  | succ m ih =>
    intro n f s h2 h3 h4 h5
    obtain ⟨n,rfl⟩:∃ q,n=q+1:=⟨n - 1,by omega⟩
    show zFH _ _ _ _ _ _ _=_
    unfold zFH
    have hf:f<s.length:=by omega
    have ea:at_ s (f:Int)=s.getD f 0:=by rw [zII hf,List.getD_eq_getElem?_getD,List.getElem?_eq_getElem hf]; rfl
    have hb:=h5 f (Nat.le_refl _)
    rw [e,ex,zi (zAb (by omega)),zi (zAb el),zi (dt (zGr (by omega) (by omega))),zi (zLa (by omega)),zi (zAE (by omega)),zi (zAE (by omega)),zAY (dt (by omega)),zi (zAb hf),ea,zi (zAE (by omega)),zi (zAE (by omega))]
    exact ih n (f+1) (s.set f (s.getD f 0+1)) (by omega) (by omega) (by rw [List.length_set]; exact h4) (fun g hg=>by
      rw [zTK s f g hf,if_neg (by omega)]
      exact h5 g (by omega))
theorem sl1 {se:Int→List Int→Option (List Int)} (hz:Zk z) (hr:ranges z=true) (hk:k<5) (hl:lst z k=l) (hin:∀ f,f∈l→inside z f k=true):∀ (m n i c:Nat) (s:List Int),i+m=l.length→m<n→s.length=256→(∀ g,0≤s.getD g 0∧s.getD g 0≤c)→c+m≤1000000000 →
    zCi se z (k:Int) n (i:Int) s=se ((k+1:Nat):Int) (zHd k s (l.drop i)) ∧ ∀ g,0≤(zHd k s (l.drop i)).getD g 0∧(zHd k s (l.drop i)).getD g 0≤((c+m:Nat):Int):=by
  have hb:l.length≤1000000:=by rw [← hl]; exact hz.bd k
  have e:z.free.getD (k:Int).toNat []=l:=hl
  obtain ⟨e2,p1,p2⟩:=zIn (k:=k) (by omega)
  have pn:=zLW (k:=k) (by omega)
  intro m
  induction m with
  | zero =>
    intro n i c s h1 h2 h3 h4 h5
    obtain ⟨n,rfl⟩:∃ q,n=q+1:=⟨n - 1,by omega⟩
    rw [List.drop_eq_nil_of_le (by omega)]
    refine ⟨?_,h4⟩
    show zFA _ _ _ _ _ _=_
    unfold zFA zIM
    rw [e,zi (zAb (by omega)),zAG (df (by omega)),zi (zAE (by omega))]
    rfl
  | succ m ih =>
    intro n i c s h1 h2 h3 h4 h5
    obtain ⟨n,rfl⟩:∃ q,n=q+1:=⟨n - 1,by omega⟩
    have hi:i<l.length:=by omega
    have hbd:=zAf hr (hin _ (List.getElem_mem hi))
    have ha:at_ (lst z k) (i:Int)=l[i]:=by rw [hl]; exact zII hi
    obtain ⟨f,hf⟩:=Int.eq_ofNat_of_zero_le hbd.1
    rw [List.drop_eq_getElem_cons hi]
    have hbump:zHd k s (l[i]::l.drop (i+1))=zHd k (zIf s f (2 ^ k)) (l.drop (i+1)):=by
      show zHd k (zIf s l[i].toNat (2 ^ k)) (l.drop (i+1))=_
      rw [hf]
      rfl
    rw [hbump]
    have hg:∀ g,0≤(zIf s f (2 ^ k)).getD g 0∧(zIf s f (2 ^ k)).getD g 0≤((c+1:Nat):Int):=fun g=>by
      rw [zJc _ _ _ _ (by omega)]
      have:=h4 g
      split <;> omega
    obtain ⟨r1,r2⟩:=ih n (i+1) (c+1) (zIf s f (2 ^ k)) (by omega) (by omega) (by rw [zJX]; exact h3) hg (by omega)
    refine ⟨?_,fun g=>by have:=r2 g; omega⟩
    rw [← r1]
    show zFA _ _ _ _ _ _=_
    unfold zFA
    rw [e,zi (zAb (by omega)),zAY (dt (by omega)),zi (zAb hi),zII hi]
    have hc:=sl2 (se:=zCi se z (k:Int) n) hk ha (by rw [hl]; exact hi) hbd.1 hbd.2.1 (by omega) (2 ^ k) z9 f s (by omega) (by unfold z9; omega) h3 (fun g _=>by have:=h4 g; omega)
    rw [← hf] at hc
    exact hc
theorem sl0 (hz:Zk z) (hr:ranges z=true) (hin:∀ k,k<5 → ∀ f,f∈lst z k→inside z f k=true):∀ (m n k c:Nat) (s:List Int),k+m=5→m<n→s.length=256→(∀ g,0≤s.getD g 0∧s.getD g 0≤c)→c+m*1000000≤1000000000 →
    zBU z n (k:Int) s=some (zGn k s (z.free.drop k)):=by
  intro m
  induction m with
  | zero =>
    intro n k c s h1 h2 h3 h4 h5
    obtain ⟨n,rfl⟩:∃ q,n=q+1:=⟨n - 1,by omega⟩
    show zE7 _ _ _ _=_
    unfold zE7
    rw [zAG (df (by omega)),List.drop_eq_nil_of_le (by rw [hz.len]; omega)]
    rfl
  | succ m ih =>
    intro n k c s h1 h2 h3 h4 h5
    obtain ⟨n,rfl⟩:∃ q,n=q+1:=⟨n - 1,by omega⟩
    have hb:=hz.bd k
    obtain ⟨a1,a2⟩:=List.getElem?_eq_some_iff.1 (hz.get (k:=k) (by omega))
    obtain ⟨r1,r2⟩:=sl1 (se:=zBU z n) hz hr (by omega) rfl (hin k (by omega)) (lst z k).length z9 0 c s (by omega) (by unfold z9; omega) h3 h4 (by omega)
    rw [List.drop_zero] at r1 r2
    show zE7 _ _ _ _=_
    unfold zE7
    rw [zAY (dt (by omega)),show (0:Int)=((0:Nat):Int) from rfl,r1,List.drop_eq_getElem_cons a1,a2]
    exact ih n (k+1) (c+(lst z k).length) _ (by omega) (by omega) (by rw [zIC]; exact h3) r2 (by omega)
theorem zPv (hz:Zk z) (hr:ranges z=true) (hin:∀ k,k<5 → ∀ f,f∈lst z k→inside z f k=true):zIB z=some (zNr z):=by
  unfold zIB
  rw [zi (by rfl),show (0:Int)=((0:Nat):Int) from rfl]
  exact sl0 hz hr hin 5 z9 0 0 _ (by omega) (by unfold z9; omega) (by rw [List.length_replicate]; rfl) (fun g=>by
    rw [List.getD_eq_getElem?_getD,List.getElem?_replicate]
    split <;> simp) (by omega)
end
end Go.Proofs.YtplkliakhdkpcaaGreat
