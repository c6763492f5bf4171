/-
  The program's Check of a zone gives 'check'. No program in sight.
-/
import Derived.Test.YtplkliakhdkpcaaGreatPe
set_option linter.unusedVariables false
set_option linter.unusedSimpArgs false
namespace Go.Proofs.YtplkliakhdkpcaaGreat
open Go Go.RowKit Go.Wk Go.Am
structure Zk (z:zo):Prop where
  len:z.free.length=5
  bd:∀ k,(lst z k).length≤1000000
section
variable {z:zo} {k:Nat} {l:List Int}
theorem Zk.get (h:Zk z) (hk:k<5):z.free[k]?=some (lst z k):=zJZ h.len hk
theorem zO8 {i:Nat} (h:i<l.length):l[i]?=some (at_ l (i:Int)):=by rw [zII h,List.getElem?_eq_getElem h]
theorem zNt {i:Nat} (h0:0<i):(i:Int) - 1=((i - 1:Nat):Int):=by omega
theorem cl6 {se:Int→Option Int} (hz:Zk z) (hr:ranges z=true) (hk:k<5) (hl:lst z k=l):∀ (m n i:Nat),i+m=l.length→m<n→zJ4 z k none l=zJ4 z k (zJ7 l i) (l.drop i) →
    zFe se z (k:Int) n (i:Int)=if zJ4 z k none l=0 then se ((k+1:Nat):Int) else some (zJ4 z k none l):=by
  have hb:l.length≤1000000:=by rw [← hl]; exact hz.bd k
  have e:z.free.getD (k:Int).toNat []=l:=hl
  intro m
  induction m with
  | zero =>
    intro n i h1 h2 hI
    obtain ⟨n,rfl⟩:∃ q,n=q+1:=⟨n - 1,by omega⟩
    show zDa _ _ _ _ _=_
    unfold zDa zHH
    rw [e,zAG (df (by omega)),zi (zAE (by omega)),if_pos (zPV hI (by omega))]
    rfl
  | succ m ih =>
    intro n i h1 h2 hI
    obtain ⟨n,rfl⟩:∃ q,n=q+1:=⟨n - 1,by omega⟩
    have hi:i<l.length:=by omega
    have hx:=zO8 hi
    show zDa _ _ _ _ _=_
    unfold zDa
    rw [e,zAY (dt (by omega)),zi (zAb hi),zJg hr (by omega),zD0]
    generalize at_ l (i:Int)=x at *
    cases hin:inside z x k with
    | false =>
      rw [Bool.not_false,zAY rfl,zOD hI hx hin]
      rfl
    | true =>
      rw [Bool.not_true,zAG rfl]
      by_cases h0:0<i
      · rw [zi (zJ9 (zAE (by omega))),zNt h0,zi (zJ9 (zAb (by omega))),dt (p:=0<(i:Int)) (by omega),Bool.true_and]
        have hy:=zO8 (l:=l) (i:=i - 1) (by omega)
        have hg:geP (zJ7 l i) x=decide (x≤at_ l ((i - 1:Nat):Int)):=zUA h0 (by rw [zNt h0,Int.toNat_natCast]; exact hy)
        by_cases hle:x≤at_ l ((i - 1:Nat):Int)
        · rw [zAY (dt hle),zMg hI hx hin (by rw [hg,dt hle])]
          rfl
        · rw [zAG (df hle),zi (zAE (by omega))]
          exact ih n (i+1) (by omega) (by omega) (zKi hI hx hin (by rw [hg,df hle]))
      · rw [df (p:=0<(i:Int)) (by omega)]
        refine (zi (by rfl)).trans ((zi (by rfl)).trans ((zAG (by rfl)).trans ?_))
        rw [zi (zAE (by omega))]
        exact ih n (i+1) (by omega) (by omega) (zKi hI hx hin (zTT h0))
theorem cl5 (hz:Zk z) (hr:ranges z=true):∀ (m n k:Nat),k+m=5→m<n→zEw z 0 z.free=zEw z k (z.free.drop k) →
    zCM z n (k:Int)=if zEw z 0 z.free=0 then zFl z else some (zEw z 0 z.free):=by
  intro m
  induction m with
  | zero =>
    intro n k h1 h2 hR
    obtain ⟨n,rfl⟩:∃ q,n=q+1:=⟨n - 1,by omega⟩
    show zDd _ _ _=_
    unfold zDd
    rw [zAG (df (by omega)),if_pos (zNz hR (by rw [hz.len]; omega))]
  | succ m ih =>
    intro n k h1 h2 hR
    obtain ⟨n,rfl⟩:∃ q,n=q+1:=⟨n - 1,by omega⟩
    show zDd _ _ _=_
    unfold zDd
    have hb:=hz.bd k
    have hg:=hz.get (k:=k) (by omega)
    rw [zAY (dt (by omega)),zi (zAb (by omega)),show (0:Int)=((0:Nat):Int) from rfl,cl6 hz hr (by omega) rfl (lst z k).length z9 0 (by omega) (by unfold z9; omega) rfl]
    by_cases h0:zJ4 z k none (lst z k)=0
    · rw [if_pos h0]
      exact ih n (k+1) (by omega) (by omega) (zMk hR hg h0)
    · rw [if_neg h0]
      have hc:zEw z 0 z.free=zJ4 z k none (lst z k):=by
        obtain ⟨a1,a2⟩:=List.getElem?_eq_some_iff.1 hg
        rw [hR,List.drop_eq_getElem_cons a1,a2]
        unfold zEw
        rw [if_neg h0]
      rw [if_neg (by rw [hc]; exact h0),hc]
theorem zUF {l:List Bool} {n i:Nat} (hl:l.length=n) (hi:i<n) (x:Bool):zDl n false l i x=l.set i x:=by
  unfold zDl
  apply List.ext_getElem?
  intro j
  rw [List.getElem?_map,List.getElem?_set]
  by_cases hj:j<n
  · rw [List.getElem?_range hj]
    by_cases hij:i=j
    · subst hij
      rw [if_pos rfl,if_pos (by omega)]
      simp
    · rw [if_neg hij,List.getElem?_eq_getElem (by omega)]
      simp [show ¬ j=i from fun e=>hij e.symm,List.getElem?_eq_getElem (show j<l.length by omega)]
  · rw [List.getElem?_eq_none (by simp; omega)]
    by_cases hij:i=j
    · omega
    · rw [if_neg hij,List.getElem?_eq_none (by omega)]
      rfl
theorem zL6:∀ {m f:Nat} {d d':List Bool},zMK d f m=some d'→d'.length=d.length
  | 0,_,_,_,h=>by unfold zMK at h; cases h; rfl
  | m+1,f,d,d',h=>by
    unfold zMK at h
    split at h
    · cases h
    · rw [zL6 h,List.length_set]
theorem cl4 {se:Int→List Bool→Option Int} {i:Nat} {x:Int} (hk:k<5) (hx:at_ (lst z k) (i:Int)=x) (h0:0≤x) (h1:x+2 ^ k≤256) (hi:i<1000000):∀ (m n f:Nat) (d:List Bool),(f:Int)+m=x+2 ^ k→m<n→d.length=256 →
    zFX se z (k:Int) (i:Int) n (f:Int) d=match zMK d f m with | none=>some 7 | some d'=>se ((i+1:Nat):Int) d':=by
  obtain ⟨e,p1,p2⟩:=zIn (k:=k) (by omega)
  have ex:at_ (z.free.getD (k:Int).toNat []) (i:Int)=x:=hx
  intro m
  induction m with
  | zero =>
    intro n f d h2 h3 h4
    obtain ⟨n,rfl⟩:∃ q,n=q+1:=⟨n - 1,by omega⟩
    show zDP _ _ _ _ _ _ _=_
    unfold zDP zHM
    rw [e,ex,zi (zLa (by omega)),zi (zAE (by omega)),zi (zAE (by omega)),zAG (df (by omega)),zi (zAE (by omega))]
    rfl
  | succ m ih =>
    intro n f d h2 h3 h4
    obtain ⟨n,rfl⟩:∃ q,n=q+1:=⟨n - 1,by omega⟩
    show zDP _ _ _ _ _ _ _=_
    unfold zDP
    rw [e,ex,zi (zLa (by omega)),zi (zAE (by omega)),zi (zAE (by omega)),zAY (dt (by omega)),zi (zAb (by omega))]
    have ed:d.getD (f:Int).toNat false=d.getD f false:=rfl
    unfold zMK
    cases hd:d.getD f false with
    | true=>rw [ed,hd,zAY rfl,if_pos rfl]
    | false =>
      rw [ed,hd,zAG rfl,if_neg (by simp),zi (zAE (by omega)),zUF h4 (by omega)]
      exact ih n (f+1) (d.set f true) (by omega) (by omega) (by rw [List.length_set]; exact h4)
theorem cl3 {se:Int→List Bool→Option Int} (hz:Zk z) (hr:ranges z=true) (hk:k<5) (hl:lst z k=l) (hin:∀ f,f∈l→inside z f k=true):∀ (m n i:Nat) (d:List Bool),i+m=l.length→m<n→d.length=256 →
    zBp se z (k:Int) n (i:Int) d=match zMG k d (l.drop i) with | none=>some 7 | some d'=>se ((k+1:Nat):Int) d':=by
  have hb:l.length≤1000000:=by rw [← hl]; exact hz.bd k
  have e:z.free.getD (k:Int).toNat []=l:=hl
  obtain ⟨e2,p1,p2⟩:=zIn (k:=k) (by omega)
  have pn:=zLW (k:=k) (by omega)
  intro m
  induction m with
  | zero =>
    intro n i d h1 h2 h3
    obtain ⟨n,rfl⟩:∃ q,n=q+1:=⟨n - 1,by omega⟩
    show zDM _ _ _ _ _ _=_
    unfold zDM zHF
    rw [e,zAG (df (by omega)),zi (zAE (by omega)),List.drop_eq_nil_of_le (by omega)]
    rfl
  | succ m ih =>
    intro n i d h1 h2 h3
    obtain ⟨n,rfl⟩:∃ q,n=q+1:=⟨n - 1,by omega⟩
    have hi:i<l.length:=by omega
    show zDM _ _ _ _ _ _=_
    unfold zDM
    have hbd:=zAf hr (hin _ (List.getElem_mem hi))
    have ha:at_ (lst z k) (i:Int)=l[i]:=by rw [hl]; exact zII hi
    obtain ⟨f,hf⟩:=Int.eq_ofNat_of_zero_le hbd.1
    rw [e,zAY (dt (by omega)),zi (zAb hi),zII hi,List.drop_eq_getElem_cons hi]
    have hc:=cl4 (se:=zBp se z (k:Int) n) hk ha hbd.1 hbd.2.1 (by omega) (2 ^ k) z9 f d (by omega) (by unfold z9; omega) h3
    unfold zMG
    rw [hf,hc,show ((f:Int)).toNat=f from rfl]
    cases hm:zMK d f (2 ^ k) with
    | none=>rfl
    | some d'=>exact ih n (i+1) d' (by omega) (by omega) (by rw [zL6 hm]; exact h3)
theorem zNk:∀ {l:List Int} {k:Nat} {d d':List Bool},zMG k d l=some d'→d'.length=d.length
  | [],_,_,_,h=>by unfold zMG at h; cases h; rfl
  | x::l,k,d,d',h=>by
    unfold zMG at h
    split at h
    · cases h
    · rename_i q hq
      rw [zNk h,zL6 hq]
theorem cl2 (hz:Zk z) (hr:ranges z=true) (hin:∀ k,k<5 → ∀ f,f∈lst z k→inside z f k=true):∀ (m n k:Nat) (d:List Bool),k+m=5→m<n→d.length=256 →
    zBA z n (k:Int) d=match zIv k d (z.free.drop k) with | none=>some 7 | some _=>zDO z:=by
  intro m
  induction m with
  | zero =>
    intro n k d h1 h2 h3
    obtain ⟨n,rfl⟩:∃ q,n=q+1:=⟨n - 1,by omega⟩
    show zDi _ _ _ _=_
    unfold zDi
    rw [zAG (df (by omega)),List.drop_eq_nil_of_le (by rw [hz.len]; omega)]
    rfl
  | succ m ih =>
    intro n k d h1 h2 h3
    obtain ⟨n,rfl⟩:∃ q,n=q+1:=⟨n - 1,by omega⟩
    show zDi _ _ _ _=_
    unfold zDi
    have hb:=hz.bd k
    obtain ⟨a1,a2⟩:=List.getElem?_eq_some_iff.1 (hz.get (k:=k) (by omega))
    rw [zAY (dt (by omega)),zi (zAb (by omega)),show (0:Int)=((0:Nat):Int) from rfl,cl3 hz hr (by omega) rfl (hin k (by omega)) (lst z k).length z9 0 d (by omega) (by unfold z9; omega) h3,List.drop_eq_getElem_cons a1,a2]
    conv=>rhs; unfold zIv
    rw [List.drop_zero]
    cases hm:zMG k d (lst z k) with
    | none=>rfl
    | some d'=>exact ih n (k+1) d' (by omega) (by omega) (by rw [zNk hm]; exact h3)
theorem cl1 {se:Int→Option Int} (hz:Zk z) (hr:ranges z=true) (hk:k<4) (hl:lst z k=l) (hin:∀ f,f∈l→inside z f k=true) (hs:Srt l):∀ (m n i:Nat),i+m=l.length→m<n →
    zFa se z (k:Int) n (i:Int)=if zPN z k l (l.drop i)=true then some 11 else se ((k+1:Nat):Int):=by
  have hb:l.length≤1000000:=by rw [← hl]; exact hz.bd k
  have e:z.free.getD (k:Int).toNat []=l:=hl
  obtain ⟨e2,p1,p2⟩:=zIn (k:=k) (by omega)
  intro m
  induction m with
  | zero =>
    intro n i h1 h2
    obtain ⟨n,rfl⟩:∃ q,n=q+1:=⟨n - 1,by omega⟩
    show zDQ _ _ _ _ _=_
    unfold zDQ zG8
    rw [e,zAG (df (by omega)),zi (zAE (by omega)),List.drop_eq_nil_of_le (by omega)]
    rfl
  | succ m ih =>
    intro n i h1 h2
    obtain ⟨n,rfl⟩:∃ q,n=q+1:=⟨n - 1,by omega⟩
    have hi:i<l.length:=by omega
    show zDQ _ _ _ _ _=_
    unfold zDQ
    have hbd:=zAf hr (hin _ (List.getElem_mem hi))
    rw [e,e2,zAY (dt (by omega)),zi (zAb hi),zi (zLa (by omega)),zi (zAE (by omega)),zi (zAb (by omega)),zII hi,List.drop_eq_getElem_cons hi,zRs hbd.1 (by omega) hk,zRL hs hb,zD0,zi (zJ9 (zAE (by omega)))]
    conv=>rhs; unfold zPN
    show ((cnd (decide (bud l[i] k∈l)) _ _).bind _)=_
    have hie:zCF z (min l[i] (bud l[i] k)) ((k:Int)+1)=some (inside z (min l[i] (bud l[i] k)) (k+1)):=zJg (k:=k+1) hr (by omega)
    rw [hie,zi (zAE (by omega))]
    cases hm:decide (bud l[i] k∈l) with
    | false =>
      rw [zAG rfl,zD0,Bool.false_and,Bool.false_and,if_neg Bool.false_ne_true]
      exact ih n (i+1) (by omega) (by omega)
    | true =>
      rw [zAY rfl,zD0]
      cases hq:inside z (min l[i] (bud l[i] k)) (k+1) with
      | false =>
        rw [Bool.and_false,if_neg Bool.false_ne_true]
        exact ih n (i+1) (by omega) (by omega)
      | true=>rfl
theorem cl0 (hz:Zk z) (hr:ranges z=true) (hin:∀ k,k<5 → ∀ f,f∈lst z k→inside z f k=true) (hs:∀ k,Srt (lst z k)):∀ (m n k:Nat),k+m=4→m<n →
    zCQ z n (k:Int)=if zMP z k ((z.free.take 4).drop k)=true then some 11 else some 0:=by
  intro m
  induction m with
  | zero =>
    intro n k h1 h2
    obtain ⟨n,rfl⟩:∃ q,n=q+1:=⟨n - 1,by omega⟩
    show zDb _ _ _=_
    unfold zDb
    rw [zAG (df (by omega)),List.drop_eq_nil_of_le (by rw [List.length_take,hz.len]; omega)]
    rfl
  | succ m ih =>
    intro n k h1 h2
    obtain ⟨n,rfl⟩:∃ q,n=q+1:=⟨n - 1,by omega⟩
    show zDb _ _ _=_
    unfold zDb
    have hb:=hz.bd k
    obtain ⟨a1,a2⟩:=List.getElem?_eq_some_iff.1 (zMB (hz.get (k:=k) (by omega)) (show k<4 by omega))
    rw [zAY (dt (by omega)),zi (zAb (by omega)),show (0:Int)=((0:Nat):Int) from rfl,cl1 hz hr (by omega) rfl (hin k (by omega)) (hs k) (lst z k).length z9 0 (by omega) (by unfold z9; omega),List.drop_eq_getElem_cons a1,a2]
    conv=>rhs; unfold zMP
    rw [List.drop_zero]
    by_cases hq:zPN z k (lst z k) (lst z k)=true
    · rw [if_pos hq,if_pos hq,if_pos rfl]
    · rw [if_neg hq,if_neg hq]
      exact ih n (k+1) (by omega) (by omega)
theorem zLb (hz:Zk z) (h:zEw z 0 z.free=0) (k:Nat):(∀ f,f∈lst z k→inside z f k=true)∧Srt (lst z k):=by
  rcases Nat.lt_or_ge k 5 with hk | hk
  · have:=zRU h k _ (hz.get hk)
    rwa [Nat.zero_add] at this
  · rw [zKu hz.len hk]
    exact ⟨fun f hf=>absurd hf (by simp),Srt.nil⟩
theorem zQg (hz:Zk z) (hI:inI z.start=true):zDT z=some (zEr z):=by
  unfold zDT zEr
  rw [zPw _ hI,zD0]
  cases hr:ranges z with
  | false=>rfl
  | true =>
    rw [Bool.not_true,zAG rfl,if_neg (by simp),show (0:Int)=((0:Nat):Int) from rfl,cl5 hz hr 5 z9 0 (by omega) (by unfold z9; omega) rfl]
    show (if zEw z 0 z.free=0 then _ else _)=some (if zEw z 0 z.free=0 then _ else _)
    by_cases h0:zEw z 0 z.free=0
    · rw [if_pos h0,if_pos h0]
      have hl:=fun k=>zLb hz h0 k
      unfold zFl
      rw [show (0:Int)=((0:Nat):Int) from rfl,cl2 hz hr (fun k _=>(hl k).1) 5 z9 0 _ (by omega) (by unfold z9; omega) (by rw [List.length_replicate]),List.drop_zero]
      show (match zIv 0 zFV z.free with | none=>some 7 | some _=>zDO z)=_
      cases hm:zIv 0 zFV z.free with
      | none=>rfl
      | some d =>
        rw [if_neg (by simp)]
        show zDO z=_
        unfold zDO
        rw [show (0:Int)=((0:Nat):Int) from rfl,cl0 hz hr (fun k _=>(hl k).1) (fun k=>(hl k).2) 4 z9 0 (by omega) (by unfold z9; omega),List.drop_zero]
        split <;> rfl
    · rw [if_neg h0,if_neg h0]
end
end Go.Proofs.YtplkliakhdkpcaaGreat
