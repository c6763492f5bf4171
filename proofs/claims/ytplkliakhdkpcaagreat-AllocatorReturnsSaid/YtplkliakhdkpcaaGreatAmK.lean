/-
  Regions that draw their order, on abstract values.
  Conditions: none: plain theorems over whatever program P.
-/
import Derived.Test.YtplkliakhdkpcaaGreatAmJ
set_option linter.unusedVariables false
set_option linter.unusedSimpArgs false
namespace Go.Am
open Go Go.RowKit Go.Wk
section
variable {P:Program} {n:Nat} {l:List Oper}
theorem zQa {id:Nat} {K:zTM} {F:Env} {w:World} (Inv:Array Bool→Env→World→Prop) (hm:P.follows .mixedOrders=true)
    (hdown:∀ (i:Nat) (o:Oper),l[i]?=some o → ∀ e∈o.after.toList,Region.binds .any e=true→e.on<i)
    (h0:Inv (Array.replicate l.length false) F { w with drawn:=w.drawn+1 })
    (step:∀ listed i o F w,zLM l listed→listed.size=l.length→l[i]?=some o→listed.getD i false=false→(∀ e∈o.after.toList,Region.binds .any e=true→listed.getD e.on false=true)→Inv listed F w →
      LW P n l.toArray [o] (fun F' w'=>Inv (listed.setIfInBounds i true) F' w') F w)
    (hend:∀ listed F w,(∀ i,i<l.length→listed.getD i false=true)→Inv listed F w→K.norm F w):W P n (.region id l.toArray true) K F w:=by
  unfold W
  refine wp_region_any hm ?_
  have key:∀ (fuel:Nat) (listed:Array Bool) (F':Env) (w':World),listed.size=l.length→cnt listed=fuel→zLM l listed→Inv listed F' w' →
      wpAny P .any l.toArray (Lf n K) fuel listed (fr n F') w':=by
    intro fuel
    induction fuel with
    | zero =>
      intro listed F' w' hsz hc hcl hI
      have hall:∀ i,i<l.length→listed.getD i false=true:=fun i hi=>zRN hc (by omega)
      have hnil:Region.ready .any l.toArray listed=[]:=by
        rw [List.eq_nil_iff_forall_not_mem]
        intro i hi
        obtain ⟨o,ho,h1,_⟩:=(zLj hsz).1 hi
        rw [hall i (zAS ho)] at h1; cases h1
      exact ⟨hnil,F',rfl,hend listed F' w' hall hI⟩
    | succ fuel ih =>
      intro listed F' w' hsz hc hcl hI
      refine ⟨fun hnil => ?_,fun i hi => ?_⟩
      · exfalso
        have hall:∀ i,i<l.length→listed.getD i false=true:=by
          intro i
          induction i using Nat.strongRecOn with
          | _ i ihi =>
            intro hlt
            cases hb:listed.getD i false with
            | true=>rfl
            | false =>
              have ho:=List.getElem?_eq_getElem hlt
              have hr:i∈Region.ready .any l.toArray listed:=(zLj hsz).2 ⟨_,ho,hb,fun e he hbd=>by
                have:=hdown i _ ho e he hbd
                exact ihi e.on this (by omega)⟩
              rw [hnil] at hr
              cases hr
        have:cnt listed=0:=by
          unfold cnt
          rw [List.countP_eq_zero]
          intro b hb
          obtain ⟨i,hi,rfl⟩:=List.getElem_of_mem hb
          have hi':i<listed.size:=by simpa using hi
          have:=hall i (by omega)
          simp only [Array.getD,hi',dif_pos] at this
          simpa using this
        omega
      · obtain ⟨o,ho,h1,h2⟩:=(zLj hsz).1 hi
        have hil:=zAS ho
        have hlt:i<listed.size:=by omega
        have hclosed:zLM l (listed.setIfInBounds i true):=by
          intro j oj hoj hj e he hb
          rw [zC3 hlt] at hj ⊢
          split
          · rfl
          · rename_i hne
            split at hj
            · rename_i hji; subst hji
              rw [ho] at hoj; cases hoj
              exact h2 e he hb
            · exact hcl j oj hoj hj e he hb
        exact zPi ho (step listed i o F' w' hcl hsz ho h1 h2 hI) (fun F'' w'' hI'=>ih _ _ _ (by simpa using hsz) (by have:=zSb hlt h1; omega) hclosed hI')
  refine key _ _ F _ (by simp) ?_ ?_ h0
  · unfold cnt
    simp [List.countP_replicate]
  · intro i o _ hl
    exfalso
    simp [Array.getD] at hl
end
inductive Tg where
  | head (lo hi:Nat)
  | tail (k:Nat)
deriving DecidableEq
def zPk (l:List Oper) (s:Nat):Bool:=(List.range l.length).any fun i=>Nat.beq (zA6 l i) s
def zUT (l:List Oper) (i j:Nat):Bool:=match l[i]? with
  | none=>false
  | some o=>o.after.toList.any fun e=>Region.binds .any e&&Nat.beq e.on j
def zPd (l:List Oper) (i s:Nat):Bool:=(List.range l.length).all fun j => !Nat.beq (zA6 l j) s||Nat.beq j i||zUT l j i
def zSu (l:List Oper) (ts:List Tg) (c:List Nat):Bool :=
  decide (ts.length=l.length) &&
  (List.range l.length).all (fun i=>match l[i]? with | none=>true | some o=>o.after.toList.all fun e => !Region.binds .any e||decide (e.on<i)) &&
  (List.range l.length).all (fun i=>match ts[i]? with
    | some (.head lo hi)=>(Nat.beq hi c.length||(match c[hi]? with | none=>false | some t=>reach l l.length t i))&&(Nat.beq lo 0||(match c[lo - 1]? with | none=>false | some t=>reach l l.length i t))
    | some (.tail k)=>decide (c[k]?=some i)&&(decide (k=0)||(match c[k - 1]? with | none=>false | some t=>reach l l.length i t))
    | none=>false) &&
  (List.range l.length).all (fun i=>(List.range i).all fun j=>zA6 l i == 1000000||zA6 l j != zA6 l i) &&
  l.all (fun o=>match o.dst with | none=>true | some d=>d != 1000000) &&
  (List.range c.length).all (fun k=>match c[k]? with | none=>false | some i=>decide (ts[i]?=some (Tg.tail k)))
structure FD (l:List Oper) (ts:List Tg) (c:List Nat):Prop where
  len:ts.length=l.length
  down:∀ (i:Nat) (o:Oper),l[i]?=some o → ∀ e∈o.after.toList,Region.binds .any e=true→e.on<i
  head:∀ (i lo hi:Nat),i<l.length→ts[i]?=some (Tg.head lo hi)→(hi=c.length ∨ ∃ t,c[hi]?=some t∧reach l l.length t i=true)∧(0<lo → ∃ t,c[lo - 1]?=some t∧reach l l.length i t=true)
  tail:∀ (i:Nat) (k:Nat),i<l.length→ts[i]?=some (Tg.tail k)→c[k]?=some i∧(0<k → ∃ t,c[k - 1]?=some t∧reach l l.length i t=true)
  dst:∀ (i j:Nat),i<l.length→j<i→zA6 l i≠1000000→zA6 l j≠zA6 l i
  small:∀ (i:Nat) (o:Oper) (d:Nat),l[i]?=some o→o.dst=some d→d≠1000000
  chain:∀ (k i:Nat),c[k]?=some i→ts[i]?=some (Tg.tail k)
theorem FD.of {l:List Oper} {ts:List Tg} {c:List Nat} (h:zSu l ts c=true):FD l ts c:=by
  unfold zSu at h
  simp only [Bool.and_eq_true,decide_eq_true_eq,List.all_eq_true,List.mem_range] at h
  obtain ⟨⟨⟨⟨⟨h1,h2⟩,h3⟩,h4⟩,h6⟩,h5⟩:=h
  refine ⟨h1,?_,?_,?_,?_,?_,?_⟩
  · intro i o hi e he hb
    have:=h2 i (zAS hi)
    rw [hi] at this
    simp only [List.all_eq_true] at this
    have:=this e he
    simpa [hb] using this
  · intro i lo hi hil ht
    have:=h3 i hil
    rw [ht] at this
    simp only [Bool.or_eq_true,Bool.and_eq_true] at this
    refine ⟨?_,fun hlo => ?_⟩
    · rcases this.1 with h | h
      · exact .inl (Nat.eq_of_beq_eq_true h)
      · right
        cases hc:c[hi]? with
        | none=>rw [hc] at h; cases h
        | some t=>rw [hc] at h; exact ⟨t,rfl,h⟩
    · rcases this.2 with h | h
      · have:=Nat.eq_of_beq_eq_true h; omega
      · cases hc:c[lo - 1]? with
        | none=>rw [hc] at h; cases h
        | some t=>rw [hc] at h; exact ⟨t,rfl,h⟩
  · intro i k hi ht
    have:=h3 i hi
    rw [ht] at this
    simp only [Bool.and_eq_true,Bool.or_eq_true,decide_eq_true_eq] at this
    refine ⟨this.1,fun hk => ?_⟩
    rcases this.2 with h | h
    · omega
    · cases hc:c[k - 1]? with
      | none=>rw [hc] at h; cases h
      | some t=>rw [hc] at h; exact ⟨t,rfl,h⟩
  · intro i j hi hj hd
    have:=h4 i hi j hj
    simp only [Bool.or_eq_true,beq_iff_eq,bne_iff_ne] at this
    rcases this with h | h
    · exact absurd h hd
    · exact h
  · intro i o d hi hd
    have:=h6 o (List.mem_of_getElem? hi)
    rw [hd] at this
    simpa using this
  · intro k i hc
    have:=h5 k (zAS hc)
    rw [hc] at this
    simpa using this
theorem zMl {l:List Oper} {listed:Array Bool} (h:zLM l listed) {i j:Nat} (hd:zUT l i j=true) (hi:listed.getD i false=true):listed.getD j false=true:=by
  unfold zUT at hd
  split at hd
  · cases hd
  · rename_i o ho
    simp only [List.any_eq_true,Bool.and_eq_true] at hd
    obtain ⟨e,he,hb,hj⟩:=hd
    have:=Nat.eq_of_beq_eq_true hj
    subst this
    exact h i o ho hi e he hb
def zQ8 (l:List Oper) (la:List AV) (e':zCH):List Edge→Prop
  | []=>True
  | e::r=>(cond (Region.binds .any e && !Nat.beq (zA6 l e.on) 1000000) (e' (zA6 l e.on)=la.getD e.on .any) True)∧zQ8 l la e' r
theorem zQ8.of {l:List Oper} {la:List AV} {e':zCH}:∀ {es:List Edge},(∀ e∈es,Region.binds .any e=true→zA6 l e.on≠1000000→e' (zA6 l e.on)=la.getD e.on .any)→zQ8 l la e' es
  | [],_=>trivial
  | e::r,h=>⟨by
      cases hb:Region.binds .any e with
      | false=>trivial
      | true =>
        cases hd:Nat.beq (zA6 l e.on) 1000000 with
        | true=>trivial
        | false=>exact h e (by simp) hb (fun x=>by rw [x] at hd; simp at hd),zQ8.of (fun e' he' hb'=>h e' (by simp [he']) hb')⟩
abbrev zRu (P:Program) (n m:Nat) (l:List Oper) (la:List AV) (e:zCH) (i:Nat) (o:Oper) (H H':zAQ):Prop :=
  ∀ e',(∀ s,zPd l i s=true→e' s=e s)→zQ8 l la e' o.after.toList →
    ALW P n m l.toArray [o] (fun e'' H''=>(∀ s,e'' s=(match o.dst with | some d=>zHr e' d (la.getD i .any) | none=>e') s)∧H''=H') e' H
def zTJ (P:Program) (n m:Nat) (l:List Oper) (la:List AV) (e:zCH) (Hs:List zAQ) (i:Nat) (o:Oper) (lo:Nat):Nat→Prop
  | 0=>zRu P n m l la e i o (Hs.getD lo []) (Hs.getD lo [])
  | k+1=>zRu P n m l la e i o (Hs.getD (lo+(k+1)) []) (Hs.getD (lo+(k+1)) [])∧zTJ P n m l la e Hs i o lo k
theorem zTJ.get {P:Program} {n m:Nat} {l:List Oper} {la:List AV} {e:zCH} {Hs:List zAQ} {i:Nat} {o:Oper} {lo:Nat}:∀ {hi:Nat},zTJ P n m l la e Hs i o lo hi → ∀ k,lo≤k→k≤lo+hi→zRu P n m l la e i o (Hs.getD k []) (Hs.getD k [])
  | 0,h,k,hl,hk=>by
    have:k=lo:=by omega
    subst this
    exact h
  | hi+1,h,k,hl,hk=>by
    rcases Nat.lt_or_ge (lo+hi) k with h1 | h1
    · have:k=lo+(hi+1):=by omega
      subst this
      exact h.1
    · exact zTJ.get h.2 k hl h1
def zPp (P:Program) (n m:Nat) (l:List Oper) (la:List AV) (e:zCH) (Hs:List zAQ):Nat→List Tg→List Oper→Prop
  | _,[],[]=>True
  | i,.head lo hi::ts,o::os=>zTJ P n m l la e Hs i o lo (hi - lo)∧zPp P n m l la e Hs (i+1) ts os
  | i,.tail k::ts,o::os=>zRu P n m l la e i o (Hs.getD k []) (Hs.getD (k+1) [])∧zPp P n m l la e Hs (i+1) ts os
  | _,_,_=>False
def zUo (P:Program) (n m:Nat) (l:List Oper) (la:List AV) (e:zCH) (Hs:List zAQ) (i:Nat) (o:Oper):Tg→Prop
  | .head lo hi=>zTJ P n m l la e Hs i o lo (hi - lo)
  | .tail k=>zRu P n m l la e i o (Hs.getD k []) (Hs.getD (k+1) [])
theorem zPp.get {P:Program} {n m:Nat} {l:List Oper} {la:List AV} {e:zCH} {Hs:List zAQ}:∀ {ts:List Tg} {os:List Oper} {i0:Nat},zPp P n m l la e Hs i0 ts os → ∀ i t o,ts[i]?=some t→os[i]?=some o→zUo P n m l la e Hs (i0+i) o t
  | [],_,_,_,i,t,o,ht,_=>by simp at ht
  | _::_,[],_,_,i,t,o,_,ho=>by simp at ho
  | t0::ts,o0::os,i0,h,i,t,o,ht,ho=>by
    have h1:zUo P n m l la e Hs i0 o0 t0∧zPp P n m l la e Hs (i0+1) ts os:=by
      cases t0 with
      | head a b=>exact h
      | tail k=>exact h
    cases i with
    | zero=>simp at ht ho; subst ht; subst ho; exact h1.1
    | succ i =>
      have:=zPp.get h1.2 i t o (by simpa using ht) (by simpa using ho)
      rw [show i0+1+i=i0+(i+1) by omega] at this
      exact this
def zT8 (e:zCH):List (Nat×AV)→Prop
  | []=>True
  | (t,a)::l=>e t=a∧zT8 e l
theorem zT8.get {e:zCH}:∀ {l:List (Nat×AV)},zT8 e l → ∀ i,Sub (e i) (mkE l i)
  | [],_,i=>Sub.any _
  | (t,a)::l,h,i=>by
    unfold mkE
    cases hb:Nat.beq i t with
    | true =>
      have:i=t:=Nat.eq_of_beq_eq_true hb
      subst this
      rw [h.1]
      exact Sub.refl _
    | false=>exact zT8.get h.2 i
theorem zBa {n m:Nat} {e:zCH} {H:zAQ} {l:List (Nat×AV)} (h:zT8 e l):Rep n m e H (mkE l) H:=Rep.env fun t _=>h.get t
def zKP (c:List Nat) (listed:Array Bool) (k:Nat):Prop:=k≤c.length ∧ ∀ m t,c[m]?=some t→(listed.getD t false=true↔m<k)
theorem zA2 {P:Program} {n m id:Nat} {l:List Oper} {K:zLT} {e:zCH} (ts:List Tg) (c:List Nat) (la:List AV) (Hs:List zAQ) (hm:P.follows .mixedOrders=true) (hB:zSu l ts c=true)
    (hops:zPp P n m l la e Hs 0 ts l)
    (hend:∀ e',(∀ s,zPk l s=false→e' s=e s)→(∀ i,i<l.length→zA6 l i≠1000000→e' (zA6 l i)=la.getD i .any)→K.norm e' (Hs.getD c.length [])) :
    AW P n m (.region id l.toArray true) K e (Hs.getD 0 []):=by
  have hT:=FD.of hB
  intro w A0 κ fp F h1 h2
  refine zQa (l:=l) (fun listed F' w' => ∃ e' κ' fp' k,zKP c listed k∧SH w' A0 (Hs.getD k []) κ' fp'∧zJz w' (avd A0 fp') κ' n e' F'∧zHi m w fp κ w' fp' κ' ∧
    (∀ s,(∀ i,i<l.length→zA6 l i=s→listed.getD i false=false)→e' s=e s)∧(∀ i,i<l.length→listed.getD i false=true→zA6 l i≠1000000→e' (zA6 l i)=la.getD i .any)) hm hT.down ?_ ?_ ?_
  ·
    have hkp:Kp [] w { w with drawn:=w.drawn+1 }:=Kp.drawn _ _
    have hs:zKE w fp κ { w with drawn:=w.drawn+1 } fp κ:=⟨KpS.of hkp (fun b hb=>by cases hb),fun i x hx => .inl ⟨i,hx⟩,fun _ _ h=>h⟩
    refine ⟨e,κ,fp,0,⟨Nat.zero_le _,fun q t _=>by simp [Array.getD]⟩,?_,h2.mv (hs.mv A0),hs.m m,fun _ _=>rfl,fun i _ hl=>by simp [Array.getD] at hl⟩
    exact h1.gen h1.len hs h1.nd h1.dj h1.out (fun i en v g1 g2 => .inl ⟨g1,rfl,fun b hb=>rfl⟩)
  · rintro listed i o F' w' hcl hsz ho hli hpre ⟨e',κ',fp',k,hst,g1,g2,g3,g4,g5⟩
    have hil:=zAS ho
    have hlt:i<listed.size:=by omega
    have hold:∀ s,zPd l i s=true→e' s=e s:=by
      intro s hs
      refine g4 s (fun j hj hd => ?_)
      unfold zPd at hs
      have:=List.all_eq_true.1 hs j (List.mem_range.2 hj)
      rw [hd] at this
      simp only [Nat.beq_refl,Bool.not_true,Bool.false_or,Bool.or_eq_true] at this
      cases hb:listed.getD j false with
      | false=>rfl
      | true =>
        exfalso
        rcases this with h | h
        · have:=Nat.eq_of_beq_eq_true h
          subst this
          rw [hli] at hb; cases hb
        · have:=zMl hcl h hb
          rw [hli] at this; cases this
    have hp:zQ8 l la e' o.after.toList:=zQ8.of (fun ed hed hb hd=>by
      have h3:=hpre ed hed hb
      have h4:=hT.down i o ho ed hed hb
      exact g5 ed.on (by omega) h3 hd)
    have hne:∀ j,j<l.length→j≠i→zA6 l i≠1000000→zA6 l j≠zA6 l i:=fun j hj hji hd=>by
      rcases Nat.lt_or_gt_of_ne hji with h | h
      · exact hT.dst i j hil h hd
      · intro e
        exact hT.dst j i hj h (by rw [e]; exact hd) e.symm
    have hslot:∀ e'':zCH,(∀ s,e'' s=(match o.dst with | some d=>zHr e' d (la.getD i .any) | none=>e') s) →
        (∀ s,(∀ j,j<l.length→zA6 l j=s→(listed.setIfInBounds i true).getD j false=false)→e'' s=e s)∧(∀ j,j<l.length→(listed.setIfInBounds i true).getD j false=true→zA6 l j≠1000000→e'' (zA6 l j)=la.getD j .any):=by
      intro e'' he
      constructor
      · intro s hs
        have h3:∀ j,j<l.length→zA6 l j=s→listed.getD j false=false:=fun j hj hd=>by
          have:=hs j hj hd
          rw [zC3 hlt] at this
          split at this
          · cases this
          · exact this
        rw [he s]
        cases hd:o.dst with
        | none=>exact g4 s h3
        | some d =>
          have hdi:zA6 l i=d:=by unfold zA6; rw [ho]; simp [hd]
          have hsd:s≠d:=by
            rintro rfl
            have:=hs i hil hdi
            rw [zC3 hlt] at this
            simp at this
          show zHr e' d _ s=e s
          unfold zHr
          have hb:Nat.beq s d=false:=by
            cases hb:Nat.beq s d with
            | false=>rfl
            | true=>exact absurd (Nat.eq_of_beq_eq_true hb) hsd
          rw [hb]
          exact g4 s h3
      · intro j hj hlj hdj
        rw [he]
        rw [zC3 hlt] at hlj
        by_cases hji:j=i
        · subst hji
          cases hd:o.dst with
          | none=>exact absurd (by unfold zA6; rw [ho]; simp [hd]) hdj
          | some d =>
            have hdi:zA6 l j=d:=by unfold zA6; rw [ho]; simp [hd]
            show zHr e' d _ (zA6 l j)=_
            rw [hdi]
            unfold zHr
            rw [Nat.beq_refl]
            rfl
        · rw [if_neg hji] at hlj
          have hold2:=g5 j hj hlj hdj
          cases hd:o.dst with
          | none=>exact hold2
          | some d =>
            have hdi:zA6 l i=d:=by unfold zA6; rw [ho]; simp [hd]
            have hdn:zA6 l i≠1000000:=by rw [hdi]; exact hT.small i o d ho hd
            have:=hne j hj hji hdn
            rw [hdi] at this
            show zHr e' d _ (zA6 l j)=_
            unfold zHr
            have hb:Nat.beq (zA6 l j) d=false:=by
              cases hb:Nat.beq (zA6 l j) d with
              | false=>rfl
              | true=>exact absurd (Nat.eq_of_beq_eq_true hb) this
            rw [hb]
            exact hold2
    have hti:i<ts.length:=by rw [hT.len]; exact hil
    have htg:=List.getElem?_eq_getElem hti
    have hone:=zPp.get hops i _ o htg ho
    rw [Nat.zero_add] at hone
    have fin:∀ (H':zAQ) (k':Nat),H'=Hs.getD k' []→zKP c (listed.setIfInBounds i true) k'→zRu P n m l la e i o (Hs.getD k []) H' →
        LW P n l.toArray [o] (fun F' w' => ∃ e' κ' fp' k,zKP c (listed.setIfInBounds i true) k∧SH w' A0 (Hs.getD k []) κ' fp'∧zJz w' (avd A0 fp') κ' n e' F'∧zHi m w fp κ w' fp' κ' ∧
          (∀ s,(∀ j,j<l.length→zA6 l j=s→(listed.setIfInBounds i true).getD j false=false)→e' s=e s)∧(∀ j,j<l.length→(listed.setIfInBounds i true).getD j false=true→zA6 l j≠1000000→e' (zA6 l j)=la.getD j .any)) F' w':=by
      intro H' k' hH hst' hD
      refine zCW (hD e' hold hp w' A0 κ' fp' F' g1 g2) ?_
      rintro F2 w2 ⟨e2,H2,κ2,fp2,q1,q2,q3,q4,q5⟩
      obtain ⟨r1,r2⟩:=hslot e2 q4
      subst q5
      subst hH
      exact ⟨e2,κ2,fp2,k',hst',q1,q2,g3.trans q3,r1,r2⟩
    cases htag:ts[i] with
    | head lo b =>
      rw [htag] at htg hone
      have hst':zKP c (listed.setIfInBounds i true) k:=⟨hst.1,fun q t hqt=>by
        rw [zC3 hlt]
        have:t≠i:=by
          rintro rfl
          rw [hT.chain q t hqt] at htg
          cases htg
        rw [if_neg this]
        exact hst.2 q t hqt⟩
      have hkb:k≤b:=by
        rcases Nat.lt_or_ge b k with h | h
        · exfalso
          rcases (hT.head i lo b hil htg).1 with h3 | ⟨t,ht,hr⟩
          · have:=hst.1; omega
          · have hl0:=(hst.2 b _ ht).2 h
            have:=hcl.reach _ _ _ hr hl0
            rw [this] at hli; cases hli
        · exact h
      have hlo:lo≤k:=by
        rcases Nat.lt_or_ge k lo with h | h
        · exfalso
          obtain ⟨t,ht,hr⟩:=(hT.head i lo b hil htg).2 (by omega)
          have ht2:listed.getD t false=true:=by
            cases hlen:l.length with
            | zero=>omega
            | succ fu =>
              rw [hlen] at hr
              unfold Wk.reach at hr
              rw [ho] at hr
              simp only [List.any_eq_true,Bool.and_eq_true,Bool.or_eq_true,beq_iff_eq] at hr
              obtain ⟨ed,hed,hb,hj⟩:=hr
              rcases hj with rfl | hj
              · exact hpre ed hed hb
              · exact hcl.reach fu _ _ hj (hpre ed hed hb)
          have:=(hst.2 _ _ ht).1 ht2
          omega
        · exact h
      exact fin _ k rfl hst' (hone.get k hlo (by omega))
    | tail q =>
      rw [htag] at htg hone
      obtain ⟨hcq,hprev⟩:=hT.tail i q hil htg
      have hqk:q=k:=by
        have h3:¬ q<k:=fun h=>by rw [(hst.2 q i hcq).2 h] at hli; cases hli
        rcases Nat.eq_zero_or_pos q with h | h
        · omega
        · obtain ⟨t,ht,hr⟩:=hprev h
          have ht2:listed.getD t false=true:=by
            cases hlen:l.length with
            | zero=>omega
            | succ fu =>
              rw [hlen] at hr
              unfold Wk.reach at hr
              rw [ho] at hr
              simp only [List.any_eq_true,Bool.and_eq_true,Bool.or_eq_true,beq_iff_eq] at hr
              obtain ⟨ed,hed,hb,hj⟩:=hr
              rcases hj with rfl | hj
              · exact hpre ed hed hb
              · exact hcl.reach fu _ _ hj (hpre ed hed hb)
          have:=(hst.2 _ _ ht).1 ht2
          omega
      subst hqk
      refine fin _ (q+1) rfl ⟨by have:=zAS hcq; omega,fun r t hrt => ?_⟩ hone
      rw [zC3 hlt]
      by_cases hti':t=i
      · subst hti'
        have:=hT.chain r t hrt
        rw [htg] at this
        cases this
        simp
      · rw [if_neg hti',hst.2 r t hrt]
        have:r≠q:=by
          rintro rfl
          rw [hcq] at hrt
          cases hrt
          exact hti' rfl
        omega
  · rintro listed F' w' hall ⟨e',κ',fp',k,hst,g1,g2,g3,g4,g5⟩
    have hkc:k=c.length:=by
      rcases Nat.lt_or_ge k c.length with h | h
      · exfalso
        have ht:=List.getElem?_eq_getElem h
        have h3:=hT.chain k _ ht
        have h4:c[k]<l.length:=by rw [← hT.len]; exact zAS h3
        have:=(hst.2 k _ ht).1 (hall _ h4)
        omega
      · have:=hst.1; omega
    subst hkc
    refine ⟨e',Hs.getD c.length [],κ',fp',g1,g2,g3,hend e' (fun s hs=>g4 s (fun j hj hd => ?_)) (fun i hi hd=>g5 i hi (hall i hi) hd)⟩
    exfalso
    unfold zPk at hs
    rw [List.any_eq_false] at hs
    have h3:=hs j (List.mem_range.2 hj)
    rw [hd] at h3
    simp at h3
end Go.Am
