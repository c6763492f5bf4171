/-
  Arrays of lists in variables, of which the first are the variable's own.
  Conditions: none: plain theorems over whatever program P.
-/
import Derived.Test.YtplkliakhdkpcaaGreatAmR
set_option linter.unusedVariables false
set_option linter.unusedSimpArgs false
namespace Go.Am
open Go Go.RowKit Go.Wk
def cMB (N T:Nat) (b:Nat→Bool) (l:List (List Int)):List AV:=(List.range N).map fun q=>bif b q then .osl T 1 ((l.getD q []).map cI) else .sl false ((l.getD q []).map cI)
def cM (N T:Nat) (K:Int) (l:List (List Int)):List AV:=(List.range N).map fun (q:Nat)=>bif decide ((q:Int)<K) then .osl T 1 ((l.getD q []).map cI) else .sl false ((l.getD q []).map cI)
theorem zMi {a b:Nat} (h:¬ a=b):Nat.beq a b=false:=by
  cases hb:Nat.beq a b with
  | true=>exact absurd (Nat.eq_of_beq_eq_true hb) h
  | false=>rfl
theorem zTQ {N T:Nat} {K:Int} {l:List (List Int)}:cM N T K l=cMB N T (fun (q:Nat)=>decide ((q:Int)<K)) l:=rfl
theorem zIY {N T:Nat} {b:Nat→Bool} {l:List (List Int)}:(cMB N T b l).length=N:=by simp [cMB]
theorem zOz {N T:Nat} {K:Int} {l:List (List Int)}:(cM N T K l).length=N:=by simp [cM]
theorem zKG {N T:Nat} {b:Nat→Bool} {l:List (List Int)} {q:Nat} (h:q<N):(cMB N T b l)[q]?=some (bif b q then .osl T 1 ((l.getD q []).map cI) else .sl false ((l.getD q []).map cI)):=by simp [cMB,h]
theorem zLu {hd X tl:List AV} {q:Nat} (h:q<X.length):(hd++(X++tl))[hd.length+q]?=X[q]?:=by
  rw [List.getElem?_append_right (by omega),Nat.add_sub_cancel_left,List.getElem?_append_left h]
theorem zNK {hd X tl:List AV} {q:Nat} {a:AV} (h:q<X.length):(hd++(X++tl)).set (hd.length+q) a=hd++(X.set q a++tl):=by
  rw [List.set_append_right _ _ (by omega),Nat.add_sub_cancel_left,List.set_append_left _ _ h]
theorem zMJ {N T:Nat} {b b':Nat→Bool} {l l':List (List Int)} (h:∀ q,q<N→b q=b' q∧l.getD q []=l'.getD q []):cMB N T b l=cMB N T b' l':=by
  unfold cMB
  apply List.map_congr_left
  intro q hq
  obtain ⟨h1,h2⟩:=h q (List.mem_range.1 hq)
  simp only [h1,h2]
theorem zLg {N:Nat} {l:List (List Int)} {i q:Nat} {x:List Int} (hq:q<N):(zDl N [] l i x).getD q []=if q=i then x else l.getD q []:=by
  simp [zDl,List.getD_eq_getElem?_getD,hq]
theorem zRD {N T:Nat} {b:Nat→Bool} {l:List (List Int)} {i:Nat} {x:List Int}:(cMB N T b l).set i (.osl T 1 (x.map cI))=cMB N T (fun q=>b q||Nat.beq q i) (zDl N [] l i x):=by
  apply List.ext_getElem?
  intro q
  by_cases hq:q<N
  · rw [zKG hq,zLg hq,List.getElem?_set]
    by_cases h:i=q
    · subst h
      simp [zIY,hq]
    · have h2:Nat.beq q i=false:=zMi fun h'=>h h'.symm
      rw [if_neg h,zKG hq,if_neg (fun h':q=i=>h h'.symm),h2,Bool.or_false]
  · rw [List.getElem?_eq_none (by simp [zIY]; omega),List.getElem?_eq_none (by simp [zIY]; omega)]
theorem zPJ {N T:Nat} {b:Nat→Bool} {l:List (List Int)} {i:Nat} {x:List Int}:(cMB N T b l).set i (.sl false (x.map cI))=cMB N T (fun q=>b q && !Nat.beq q i) (zDl N [] l i x):=by
  apply List.ext_getElem?
  intro q
  by_cases hq:q<N
  · rw [zKG hq,zLg hq,List.getElem?_set]
    by_cases h:i=q
    · subst h
      simp [zIY,hq]
    · have h2:Nat.beq q i=false:=zMi fun h'=>h h'.symm
      rw [if_neg h,zKG hq,if_neg (fun h':q=i=>h h'.symm),h2,Bool.not_false,Bool.and_true]
  · rw [List.getElem?_eq_none (by simp [zIY]; omega),List.getElem?_eq_none (by simp [zIY]; omega)]
theorem zIN {H:zAQ} {k:Nat} {en:zIJ} (h:H[k]?=some en):H.set k en=H:=by
  apply List.ext_getElem?
  intro i
  rw [List.getElem?_set]
  split
  · rename_i hi
    subst hi
    rw [if_pos (zAS h),h]
  · rfl
section
variable {P:Program} {n m:Nat} {e:zCH} {H:zAQ} {x y:Operand} {k j o:Nat} {t T:TypeId} {cs hd tl:List AV} {N:Nat} {K i:Int} {l:List (List Int)}
theorem zIr (hk:H[k]?=some (.box t cs)) (hcs:cs=hd++(cM N T K l++tl)) (hi:inb i N=true) (hK:decide (i<K)=true) :
    Rep n m e H e (H.set k (.box t (hd++((cM N T K l).set i.toNat (.hd H.length)++tl)))++[.vec T 1 (List.map cI (l.getD i.toNat []))]):=by
  subst hcs
  obtain ⟨h0,hN⟩:=zBT hi
  have hK':=of_decide_eq_true hK
  have:=zBE (n:=n) (m:=m) (e:=e) (o:=hd.length+i.toNat) (t':=T) (sz:=1) (rows:=List.map cI (l.getD i.toNat [])) hk (by
    rw [zLu (by rw [zOz]; exact hN),zTQ,zKG hN,show decide (((i.toNat:Nat):Int)<K)=true from decide_eq_true (by omega)]; rfl)
  rw [zNK (by rw [zOz]; exact hN)] at this
  exact this
theorem zEX {s:List AV} (ha:∀ w,(isAgg t).run P w = .ok false w) (hx:aev n e x = .ptr k o) (hk:H[k]?=some (.box T cs)) (hcs:cs=hd++(s.set i.toNat (.hd j)++tl)) (ho:o=hd.length+i.toNat) (hi:Nat.blt i.toNat s.length=true):zt P n e H (.load t x) (.hd j):=by
  refine zN ha hx hk ?_ rfl
  rw [hcs,ho,zLu (by simpa [Nat.blt_eq] using hi),List.getElem?_set,if_pos rfl,if_pos (by simpa [Nat.blt_eq] using hi)]
theorem zOi {T':Nat} (ha:∀ w,(isAgg t).run P w = .ok false w) (hx:aev n e x = .ptr k o) (hk:H[k]?=some (.box T cs)) (hcs:cs=hd++(cM N T' K l++tl)) (ho:o=hd.length+i.toNat) (hi:inb i N=true) (hK:decide (K≤i)=true):zt P n e H (.load t x) (.sl false (List.map cI (l.getD i.toNat []))):=by
  obtain ⟨h0,hN⟩:=zBT hi
  have hK':=of_decide_eq_true hK
  refine zN ha hx hk ?_ rfl
  rw [hcs,ho,zLu (by rw [zOz]; exact hN),zTQ,zKG hN,show decide (((i.toNat:Nat):Int)<K)=false from decide_eq_false (by omega)]; rfl
theorem zL7 {s:List AV} {a:AV} (hz:∀ w,(sizeOf t).run P w = .ok 1 w) (hx:aev n e x = .ptr k o) (hk:H[k]?=some (.box T cs)) (hcs:cs=hd++(s++tl)) (ho:o=hd.length+i.toNat) (hi:Nat.blt i.toNat s.length=true) (hy:aev n e y=a) (hc:zQO H a=true) :
    zPE P n e H (.store t x y) (H.set k (.box T (hd++(s.set i.toNat a++tl)))):=by
  have hN:i.toNat<s.length:=by simpa [Nat.blt_eq] using hi
  have:=zCZ (T:=T) (cs:=cs) hz hx hk (by rw [hcs,ho]; simp [Nat.blt_eq]; omega) hy hc
  rw [hcs,ho,zNK hN] at this
  exact this
theorem zMH {q:Nat} {b:Nat→Bool} {l':List Int} (hk:H[k]?=some (.box t (hd++((cMB N T b l).set q (.hd j)++tl)))) (hq:q<N) (hj:H[j]?=some (.vec T 1 (List.map cI l'))) (hjk:Nat.beq j k=false) :
    Rep n m e H e ((H.set k (.box t (hd++(cMB N T (fun r=>b r||Nat.beq r q) (zDl N [] l q l')++tl)))).set j .dead):=by
  have hl:((cMB N T b l).set q (.hd j)).length=N:=by rw [List.length_set,zIY]
  have:=zAK (n:=n) (m:=m) (e:=e) (o:=hd.length+q) hk (by rw [zLu (by rw [hl]; exact hq),List.getElem?_set,if_pos rfl,if_pos (by rw [zIY]; exact hq)]) hj hjk
  rw [zNK (by rw [hl]; exact hq),List.set_set,zRD] at this
  exact this
theorem zIq {l':List Int} (hk:H[k]?=some (.box t cs)) (hcs:cs=hd++((cM N T K l).set i.toNat (.hd j)++tl)) (hi:inb i N=true) (hK:decide (i<K)=true) (hj:H[j]?=some (.vec T 1 (List.map cI l'))) (hjk:Nat.beq j k=false) :
    Rep n m e H e ((H.set k (.box t (hd++(cM N T K (zDl N [] l i.toNat l')++tl)))).set j .dead):=by
  subst hcs
  obtain ⟨h0,hN⟩:=zBT hi
  have hK':=of_decide_eq_true hK
  rw [zTQ] at hk
  have:=zMH (n:=n) (m:=m) (e:=e) hk hN hj hjk
  rw [zMJ (b':=fun (q:Nat)=>decide ((q:Int)<K)) (l':=zDl N [] l i.toNat l') (fun q hq=>⟨by
    by_cases h:q=i.toNat
    · subst h; simp; omega
    · have:Nat.beq q i.toNat=false:=zMi h
      simp [this],rfl⟩)] at this
  exact this
theorem zOO {K':Int} {l':List Int} (hk:H[k]?=some (.box t cs)) (hcs:cs=hd++((cM N T K l).set i.toNat (.hd j)++tl)) (hi:inb i N=true) (hK:decide (i=K)=true) (hK':K'=i+1) (hj:H[j]?=some (.vec T 1 (List.map cI l'))) (hjk:Nat.beq j k=false) :
    Rep n m e H e ((H.set k (.box t (hd++(cM N T K' (zDl N [] l i.toNat l')++tl)))).set j .dead):=by
  subst hcs
  subst hK'
  obtain ⟨h0,hN⟩:=zBT hi
  have hK':=of_decide_eq_true hK
  subst hK'
  rw [zTQ] at hk
  have:=zMH (n:=n) (m:=m) (e:=e) hk hN hj hjk
  rw [zMJ (b':=fun (q:Nat)=>decide ((q:Int)<i+1)) (l':=zDl N [] l i.toNat l') (fun q hq=>⟨by
    by_cases h:q=i.toNat
    · subst h; simp; omega
    · have h2:Nat.beq q i.toNat=false:=zMi h
      simp only [h2,Bool.or_false]
      exact decide_eq_decide.2 (by omega),rfl⟩)] at this
  exact this
theorem zKY:∀ (L:List Nat) {b:Nat→Bool} {l:List (List Int)} {H:zAQ},H[k]?=some (.box t (hd++(cMB N T b l++tl))) →
    Rep n m e H e (H.set k (.box t (hd++(cMB N T (fun r=>b r && !L.contains r) l++tl))))
  | [],b,l,H,hk=>by
    have:(fun r=>b r && !([]:List Nat).contains r)=b:=by funext r; simp
    rw [this,zIN hk]
    exact Rep.env fun t _=>Sub.refl _
  | q::L,b,l,H,hk=>by
    by_cases hq:q<N∧b q=true
    · have h1:=zBV (n:=n) (m:=m) (e:=e) (o:=hd.length+q) (t':=T) (sz:=1) (rows:=(l.getD q []).map cI) (rows':=(l.getD q []).map cI) hk (by rw [zLu (by rw [zIY]; exact hq.1),zKG hq.1,hq.2]; rfl) (zAL (fun _=>rfl))
      rw [zNK (by rw [zIY]; exact hq.1),zPJ] at h1
      have h2:=zKY L (List.getElem?_set_self (zAS hk) (a:=zIJ.box t (hd++(cMB N T (fun r=>b r && !Nat.beq r q) (zDl N [] l q (l.getD q []))++tl))))
      have h3:=h1.trans h2
      rw [List.set_set] at h3
      rw [zMJ (b':=fun r=>b r && !(q::L).contains r) (l':=l) (fun r hr=>⟨by
        by_cases h:r=q
        · subst h; simp
        · have:Nat.beq r q=false:=zMi h
          simp [this,h],by rw [zLg hr]; split <;> simp_all⟩)] at h3
      exact h3
    · have h2:=zKY L hk
      rw [zMJ (b':=fun r=>b r && !(q::L).contains r) (l':=l) (fun r hr=>⟨by
        by_cases h:r=q
        · subst h
          have:b r=false:=by
            cases hb:b r with
            | true=>exact absurd ⟨hr,hb⟩ hq
            | false=>rfl
          simp [this]
        · simp [h],rfl⟩)] at h2
      exact h2
theorem zQR {l':List Int} (hk:H[k]?=some (.box t cs)) (hcs:cs=hd++((cM N T K l).set i.toNat (.sl false (List.map cI l'))++tl)) (hi:inb i N=true) (hK:decide (i≤K)=true) :
    Rep n m e H e (H.set k (.box t (hd++(cM N T i (zDl N [] l i.toNat l')++tl)))):=by
  subst hcs
  obtain ⟨h0,hN⟩:=zBT hi
  have hK':=of_decide_eq_true hK
  rw [zTQ,zPJ] at hk
  have h2:=zKY (n:=n) (m:=m) (e:=e) ((List.range N).filter fun (q:Nat)=>decide (i≤(q:Int))) hk
  rw [zMJ (b':=fun (q:Nat)=>decide ((q:Int)<i)) (l':=zDl N [] l i.toNat l') (fun r hr=>⟨by
    by_cases h:(r:Int)<i
    · have h3:Nat.beq r i.toNat=false:=zMi (by omega)
      have h4:((List.range N).filter fun (q:Nat)=>decide (i≤(q:Int))).contains r=false:=by
        simp
        omega
      rw [h3,h4,decide_eq_true h,decide_eq_true (show (r:Int)<K by omega)]
      rfl
    · have h4:((List.range N).filter fun (q:Nat)=>decide (i≤(q:Int))).contains r=true:=by
        simp
        omega
      rw [h4,decide_eq_false h,Bool.not_true,Bool.and_false],rfl⟩)] at h2
  exact h2
theorem zJT (hk:H[k]?=some (.box t cs)) (hcs:cs=hd++(cM N T K l++tl)):Rep n m e H e (H.set k (.box t (hd++(cA N (eS cI) [] l++tl)))):=by
  subst hcs
  rw [zTQ] at hk
  have h2:=zKY (n:=n) (m:=m) (e:=e) (List.range N) hk
  have:cMB N T (fun r=>decide ((r:Int)<K) && !(List.range N).contains r) l=cA N (eS cI) [] l:=by
    unfold cMB cA
    apply List.map_congr_left
    intro q hq
    have:(List.range N).contains q=true:=by simpa using List.mem_range.1 hq
    simp only [this,Bool.not_true,Bool.and_false]
    rfl
  rw [this] at h2
  exact h2
theorem zQe {σ:List Nat} (h1:hd.all (zTN σ)=true) (h2:tl.all (zTN σ)=true) (hcs:cs=hd++(cM N T K l++tl)):okR σ (.box t cs)=true:=by
  subst hcs
  simp only [okR,List.all_append,h1,h2,Bool.true_and,Bool.and_true]
  unfold cM
  rw [List.all_map,List.all_eq_true]
  intro q _
  simp only [Function.comp]
  cases decide ((q:Int)<K) <;> rfl
end
end Go.Am
