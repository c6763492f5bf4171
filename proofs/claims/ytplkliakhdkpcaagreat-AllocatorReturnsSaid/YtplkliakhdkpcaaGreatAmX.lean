/-
  Regions that draw their order, whose first two acting operations do not wait for each other.
  Conditions: none: plain theorems over whatever program P.
-/
import Derived.Test.YtplkliakhdkpcaaGreatAmW
set_option linter.unusedVariables false
set_option linter.unusedSimpArgs false
namespace Go.Am
open Go Go.RowKit Go.Wk
@[reducible] def li (x:Int):AV := .lit (.int .i64 x)
def zPC (l:List Oper) (ts:List Tg) (c:List Nat):Bool :=
  decide (ts.length=l.length) &&
  (List.range l.length).all (fun i=>match l[i]? with | none=>true | some o=>o.after.toList.all fun e => !Region.binds .any e||decide (e.on<i)) &&
  (List.range l.length).all (fun i=>match ts[i]? with
    | some (.head lo hi)=>(Nat.beq hi c.length||(match c[hi]? with | none=>false | some t=>reach l l.length t i))&&(Nat.beq lo 0||(match c[lo - 1]? with | none=>false | some t=>reach l l.length i t))
    | some (.tail k)=>decide (c[k]?=some i)&&(decide (k≤1)||(match c[k - 1]? with | none=>false | some t=>reach l l.length i t))
    | none=>false) &&
  (List.range l.length).all (fun i=>(List.range i).all fun j=>zA6 l i == 1000000||zA6 l j != zA6 l i) &&
  l.all (fun o=>match o.dst with | none=>true | some d=>d != 1000000) &&
  (List.range c.length).all (fun k=>match c[k]? with | none=>false | some i=>decide (ts[i]?=some (Tg.tail k)))
structure FD2 (l:List Oper) (ts:List Tg) (c:List Nat):Prop where
  len:ts.length=l.length
  down:∀ (i:Nat) (o:Oper),l[i]?=some o → ∀ e∈o.after.toList,Region.binds .any e=true→e.on<i
  head:∀ (i lo hi:Nat),i<l.length→ts[i]?=some (Tg.head lo hi)→(hi=c.length ∨ ∃ t,c[hi]?=some t∧reach l l.length t i=true)∧(0<lo → ∃ t,c[lo - 1]?=some t∧reach l l.length i t=true)
  tail:∀ (i:Nat) (k:Nat),i<l.length→ts[i]?=some (Tg.tail k)→c[k]?=some i∧(1<k → ∃ t,c[k - 1]?=some t∧reach l l.length i t=true)
  dst:∀ (i j:Nat),i<l.length→j<i→zA6 l i≠1000000→zA6 l j≠zA6 l i
  small:∀ (i:Nat) (o:Oper) (d:Nat),l[i]?=some o→o.dst=some d→d≠1000000
  chain:∀ (k i:Nat),c[k]?=some i→ts[i]?=some (Tg.tail k)
theorem FD2.of {l:List Oper} {ts:List Tg} {c:List Nat} (h:zPC l ts c=true):FD2 l ts c:=by
  unfold zPC at h
  simp only [Bool.and_eq_true,decide_eq_true_eq,List.all_eq_true,List.mem_range] at h
  obtain ⟨⟨⟨⟨⟨h1,h2⟩,h3⟩,h4⟩,h6⟩,h5⟩:=h
  refine ⟨h1,?_,?_,?_,?_,?_,?_⟩
  · intro i o hi e he hb
    have:=h2 i (zAS hi)
    rw [hi] at this
    simp only [List.all_eq_true] at this
    have:=this e he
    simpa [hb] using this
  · intro i lo hi hil ht
    have:=h3 i hil
    rw [ht] at this
    simp only [Bool.or_eq_true,Bool.and_eq_true] at this
    refine ⟨?_,fun hlo => ?_⟩
    · rcases this.1 with h | h
      · exact .inl (Nat.eq_of_beq_eq_true h)
      · right
        cases hc:c[hi]? with
        | none=>rw [hc] at h; cases h
        | some t=>rw [hc] at h; exact ⟨t,rfl,h⟩
    · rcases this.2 with h | h
      · have:=Nat.eq_of_beq_eq_true h; omega
      · cases hc:c[lo - 1]? with
        | none=>rw [hc] at h; cases h
        | some t=>rw [hc] at h; exact ⟨t,rfl,h⟩
  · intro i k hi ht
    have:=h3 i hi
    rw [ht] at this
    simp only [Bool.and_eq_true,Bool.or_eq_true,decide_eq_true_eq] at this
    refine ⟨this.1,fun hk => ?_⟩
    rcases this.2 with h | h
    · omega
    · cases hc:c[k - 1]? with
      | none=>rw [hc] at h; cases h
      | some t=>rw [hc] at h; exact ⟨t,rfl,h⟩
  · intro i j hi hj hd
    have:=h4 i hi j hj
    simp only [Bool.or_eq_true,beq_iff_eq,bne_iff_ne] at this
    rcases this with h | h
    · exact absurd h hd
    · exact h
  · intro i o d hi hd
    have:=h6 o (List.mem_of_getElem? hi)
    rw [hd] at this
    simpa using this
  · intro k i hc
    have:=h5 k (zAS hc)
    rw [hc] at this
    simpa using this
def zNd (n m:Nat) (l:List Oper) (c:List Nat) (la:List AV) (Hs:List zAQ) (e:zCH) (w:World) (A0:Nat→Prop) (κ:List Value) (fp:Nat→List Nat) (k:Nat) (listed:Array Bool) (F':Env) (w':World):Prop :=
  ∃ e' κ' fp',zKP c listed k∧SH w' A0 (Hs.getD k []) κ' fp'∧zJz w' (avd A0 fp') κ' n e' F'∧zHi m w fp κ w' fp' κ' ∧
    (∀ s,(∀ i,i<l.length→zA6 l i=s→listed.getD i false=false)→e' s=e s)∧(∀ i,i<l.length→listed.getD i false=true→zA6 l i≠1000000→e' (zA6 l i)=la.getD i .any)
theorem zNd.step {P:Program} {n m:Nat} {l:List Oper} {ts:List Tg} {c:List Nat} {la:List AV} {Hs:List zAQ} {e:zCH} {w:World} {A0:Nat→Prop} {κ:List Value} {fp:Nat→List Nat} {k:Nat} {listed:Array Bool} {i:Nat} {o:Oper} {F':Env} {w':World}
    (hT:FD2 l ts c) (hops:zPp P n m l la e Hs 0 ts l) (hcl:zLM l listed) (hsz:listed.size=l.length) (ho:l[i]?=some o) (hli:listed.getD i false=false) (hpre:∀ e∈o.after.toList,Region.binds .any e=true→listed.getD e.on false=true)
    (hI:zNd n m l c la Hs e w A0 κ fp k listed F' w') (hq:∀ q,ts[i]?=some (Tg.tail q)→q=k) :
    LW P n l.toArray [o] (fun F' w' => ∃ k',zNd n m l c la Hs e w A0 κ fp k' (listed.setIfInBounds i true) F' w') F' w':=by
  obtain ⟨e',κ',fp',hst,g1,g2,g3,g4,g5⟩:=hI
  have hil:=zAS ho
  have hlt:i<listed.size:=by omega
  have hold:∀ s,zPd l i s=true→e' s=e s:=by
    intro s hs
    refine g4 s (fun j hj hd => ?_)
    unfold zPd at hs
    have:=List.all_eq_true.1 hs j (List.mem_range.2 hj)
    rw [hd] at this
    simp only [Nat.beq_refl,Bool.not_true,Bool.false_or,Bool.or_eq_true] at this
    cases hb:listed.getD j false with
    | false=>rfl
    | true =>
      exfalso
      rcases this with h | h
      · have:=Nat.eq_of_beq_eq_true h
        subst this
        rw [hli] at hb; cases hb
      · have:=zMl hcl h hb
        rw [hli] at this; cases this
  have hp:zQ8 l la e' o.after.toList:=zQ8.of (fun ed hed hb hd=>by
    have h3:=hpre ed hed hb
    have h4:=hT.down i o ho ed hed hb
    exact g5 ed.on (by omega) h3 hd)
  have hne:∀ j,j<l.length→j≠i→zA6 l i≠1000000→zA6 l j≠zA6 l i:=fun j hj hji hd=>by
    rcases Nat.lt_or_gt_of_ne hji with h | h
    · exact hT.dst i j hil h hd
    · intro e
      exact hT.dst j i hj h (by rw [e]; exact hd) e.symm
  have hslot:∀ e'':zCH,(∀ s,e'' s=(match o.dst with | some d=>zHr e' d (la.getD i .any) | none=>e') s) →
      (∀ s,(∀ j,j<l.length→zA6 l j=s→(listed.setIfInBounds i true).getD j false=false)→e'' s=e s)∧(∀ j,j<l.length→(listed.setIfInBounds i true).getD j false=true→zA6 l j≠1000000→e'' (zA6 l j)=la.getD j .any):=by
    intro e'' he
    constructor
    · intro s hs
      have h3:∀ j,j<l.length→zA6 l j=s→listed.getD j false=false:=fun j hj hd=>by
        have:=hs j hj hd
        rw [zC3 hlt] at this
        split at this
        · cases this
        · exact this
      rw [he s]
      cases hd:o.dst with
      | none=>exact g4 s h3
      | some d =>
        have hdi:zA6 l i=d:=by unfold zA6; rw [ho]; simp [hd]
        have hsd:s≠d:=by
          rintro rfl
          have:=hs i hil hdi
          rw [zC3 hlt] at this
          simp at this
        show zHr e' d _ s=e s
        unfold zHr
        have hb:Nat.beq s d=false:=by
          cases hb:Nat.beq s d with
          | false=>rfl
          | true=>exact absurd (Nat.eq_of_beq_eq_true hb) hsd
        rw [hb]
        exact g4 s h3
    · intro j hj hlj hdj
      rw [he]
      rw [zC3 hlt] at hlj
      by_cases hji:j=i
      · subst hji
        cases hd:o.dst with
        | none=>exact absurd (by unfold zA6; rw [ho]; simp [hd]) hdj
        | some d =>
          have hdi:zA6 l j=d:=by unfold zA6; rw [ho]; simp [hd]
          show zHr e' d _ (zA6 l j)=_
          rw [hdi]
          unfold zHr
          rw [Nat.beq_refl]
          rfl
      · rw [if_neg hji] at hlj
        have hold2:=g5 j hj hlj hdj
        cases hd:o.dst with
        | none=>exact hold2
        | some d =>
          have hdi:zA6 l i=d:=by unfold zA6; rw [ho]; simp [hd]
          have hdn:zA6 l i≠1000000:=by rw [hdi]; exact hT.small i o d ho hd
          have:=hne j hj hji hdn
          rw [hdi] at this
          show zHr e' d _ (zA6 l j)=_
          unfold zHr
          have hb:Nat.beq (zA6 l j) d=false:=by
            cases hb:Nat.beq (zA6 l j) d with
            | false=>rfl
            | true=>exact absurd (Nat.eq_of_beq_eq_true hb) this
          rw [hb]
          exact hold2
  have hti:i<ts.length:=by rw [hT.len]; exact hil
  have htg:=List.getElem?_eq_getElem hti
  have hone:=zPp.get hops i _ o htg ho
  rw [Nat.zero_add] at hone
  have fin:∀ (H':zAQ) (k':Nat),H'=Hs.getD k' []→zKP c (listed.setIfInBounds i true) k'→zRu P n m l la e i o (Hs.getD k []) H' →
      LW P n l.toArray [o] (fun F' w' => ∃ k',zNd n m l c la Hs e w A0 κ fp k' (listed.setIfInBounds i true) F' w') F' w':=by
    intro H' k' hH hst' hD
    refine zCW (hD e' hold hp w' A0 κ' fp' F' g1 g2) ?_
    rintro F2 w2 ⟨e2,H2,κ2,fp2,q1,q2,q3,q4,q5⟩
    obtain ⟨r1,r2⟩:=hslot e2 q4
    subst q5
    subst hH
    exact ⟨k',e2,κ2,fp2,hst',q1,q2,g3.trans q3,r1,r2⟩
  cases htag:ts[i] with
  | head lo b =>
    rw [htag] at htg hone
    have hst':zKP c (listed.setIfInBounds i true) k:=⟨hst.1,fun q t hqt=>by
      rw [zC3 hlt]
      have:t≠i:=by
        rintro rfl
        rw [hT.chain q t hqt] at htg
        cases htg
      rw [if_neg this]
      exact hst.2 q t hqt⟩
    have hkb:k≤b:=by
      rcases Nat.lt_or_ge b k with h | h
      · exfalso
        rcases (hT.head i lo b hil htg).1 with h3 | ⟨t,ht,hr⟩
        · have:=hst.1; omega
        · have hl0:=(hst.2 b _ ht).2 h
          have:=hcl.reach _ _ _ hr hl0
          rw [this] at hli; cases hli
      · exact h
    have hlo:lo≤k:=by
      rcases Nat.lt_or_ge k lo with h | h
      · exfalso
        obtain ⟨t,ht,hr⟩:=(hT.head i lo b hil htg).2 (by omega)
        have ht2:listed.getD t false=true:=by
          cases hlen:l.length with
          | zero=>omega
          | succ fu =>
            rw [hlen] at hr
            unfold Wk.reach at hr
            rw [ho] at hr
            simp only [List.any_eq_true,Bool.and_eq_true,Bool.or_eq_true,beq_iff_eq] at hr
            obtain ⟨ed,hed,hb,hj⟩:=hr
            rcases hj with rfl | hj
            · exact hpre ed hed hb
            · exact hcl.reach fu _ _ hj (hpre ed hed hb)
        have:=(hst.2 _ _ ht).1 ht2
        omega
      · exact h
    exact fin _ k rfl hst' (hone.get k hlo (by omega))
  | tail q =>
    rw [htag] at htg hone
    obtain ⟨hcq,_⟩:=hT.tail i q hil htg
    have hqk:q=k:=hq q htg
    subst hqk
    refine fin _ (q+1) rfl ⟨by have:=zAS hcq; omega,fun r t hrt => ?_⟩ hone
    rw [zC3 hlt]
    by_cases hti':t=i
    · subst hti'
      have:=hT.chain r t hrt
      rw [htg] at this
      cases this
      simp
    · rw [if_neg hti',hst.2 r t hrt]
      have:r≠q:=by
        rintro rfl
        rw [hcq] at hrt
        cases hrt
        exact hti' rfl
      omega
theorem zNd.done {n m:Nat} {l:List Oper} {ts:List Tg} {c:List Nat} {la:List AV} {Hs:List zAQ} {e:zCH} {w:World} {A0:Nat→Prop} {κ:List Value} {fp:Nat→List Nat} {k:Nat} {listed:Array Bool} {F':Env} {w':World} {Q:zCH→zAQ→Prop}
    (hT:FD2 l ts c) (hall:∀ i,i<l.length→listed.getD i false=true) (hI:zNd n m l c la Hs e w A0 κ fp k listed F' w')
    (hend:∀ e',(∀ s,zPk l s=false→e' s=e s)→(∀ i,i<l.length→zA6 l i≠1000000→e' (zA6 l i)=la.getD i .any)→Q e' (Hs.getD c.length [])):conc n m w A0 κ fp Q F' w':=by
  obtain ⟨e',κ',fp',hst,g1,g2,g3,g4,g5⟩:=hI
  have hkc:k=c.length:=by
    rcases Nat.lt_or_ge k c.length with h | h
    · exfalso
      have ht:=List.getElem?_eq_getElem h
      have h3:=hT.chain k _ ht
      have h4:c[k]<l.length:=by rw [← hT.len]; exact zAS h3
      have:=(hst.2 k _ ht).1 (hall _ h4)
      omega
    · have:=hst.1; omega
  subst hkc
  refine ⟨e',Hs.getD c.length [],κ',fp',g1,g2,g3,hend e' (fun s hs=>g4 s (fun j hj hd => ?_)) (fun i hi hd=>g5 i hi (hall i hi) hd)⟩
  exfalso
  unfold zPk at hs
  rw [List.any_eq_false] at hs
  have h3:=hs j (List.mem_range.2 hj)
  rw [hd] at h3
  simp at h3
def AgD (D:List Nat):Nat→List AV→List AV→Prop
  | _,[],[]=>True
  | i,a::la,b::lb=>(D.contains i=true∨a=b)∧AgD D (i+1) la lb
  | _,_,_=>False
theorem AgD.get {D:List Nat}:∀ {la lb:List AV} {i0:Nat},AgD D i0 la lb → ∀ i,D.contains (i0+i)=false→la.getD i .any=lb.getD i .any
  | [],[],_,_,i,_=>rfl
  | [],_::_,_,h,_,_=>h.elim
  | _::_,[],_,h,_,_=>h.elim
  | a::la,b::lb,i0,h,i,hi=>by
    cases i with
    | zero =>
      rcases h.1 with h1 | h1
      · rw [Nat.add_zero,h1] at hi; cases hi
      · simpa using h1
    | succ i =>
      have:=AgD.get h.2 i (by rw [show i0+1+i=i0+(i+1) by omega]; exact hi)
      simpa using this
theorem zNd.switch {n m:Nat} {l:List Oper} {c c':List Nat} {la la':List AV} {Hs Hs':List zAQ} {e:zCH} {w:World} {A0:Nat→Prop} {κ:List Value} {fp:Nat→List Nat} {D:List Nat} {listed:Array Bool} {F':Env} {w':World}
    (hcl:zLM l listed) (hc:(c'.all fun t=>c.contains t)=true) (hH:Hs.getD 0 []=Hs'.getD 0 []) (hag:∀ i,D.contains i=false→la.getD i .any=la'.getD i .any) (hD:(D.all fun i=>c.contains i||c.any fun t=>reach l l.length i t)=true)
    (hI:zNd n m l c la Hs e w A0 κ fp 0 listed F' w'):zNd n m l c' la' Hs' e w A0 κ fp 0 listed F' w':=by
  obtain ⟨e',κ',fp',hst,g1,g2,g3,g4,g5⟩:=hI
  have hun:∀ t,t∈c→listed.getD t false=false:=by
    intro t ht
    obtain ⟨q,hq,rfl⟩:=List.getElem_of_mem ht
    cases hb:listed.getD c[q] false with
    | false=>rfl
    | true=>have:=(hst.2 q _ (List.getElem?_eq_getElem hq)).1 hb; omega
  refine ⟨e',κ',fp',⟨Nat.zero_le _,fun q t hqt => ?_⟩,by rw [← hH]; exact g1,g2,g3,g4,fun i hi hl hd => ?_⟩
  · have h1:=List.all_eq_true.1 hc t (List.mem_of_getElem? hqt)
    have h2:=hun t (by simpa using h1)
    rw [h2]
    simp
  · rw [g5 i hi hl hd]
    refine hag i ?_
    cases hDi:D.contains i with
    | false=>rfl
    | true =>
      exfalso
      have h1:=List.all_eq_true.1 hD i (by simpa using hDi)
      rw [Bool.or_eq_true] at h1
      rcases h1 with h1 | h1
      · have:=hun i (by simpa using h1)
        rw [this] at hl; cases hl
      · obtain ⟨t,ht,hr⟩:=List.any_eq_true.1 h1
        have:=hcl.reach _ _ _ hr hl
        rw [hun t ht] at this; cases this
theorem zRf {P:Program} {n m id:Nat} {l:List Oper} {K:zLT} {e:zCH} {H0:zAQ} (a b:Nat) (rest:List Nat) (D:List Nat) (ts1 ts2:List Tg) (la1 la2:List AV) (Hs1 Hs2:List zAQ) (hm:P.follows .mixedOrders=true) (hB1:zPC l ts1 (a::b::rest)=true) (hB2:zPC l ts2 (b::a::rest)=true)
    (hag:AgD D 0 la1 la2) (hD:(D.all fun i=>(a::b::rest).contains i||(a::b::rest).any fun t=>reach l l.length i t)=true) (hH1:Hs1.getD 0 []=H0) (hH2:Hs2.getD 0 []=H0)
    (hops1:zPp P n m l la1 e Hs1 0 ts1 l) (hops2:zPp P n m l la2 e Hs2 0 ts2 l)
    (hend1:∀ e',(∀ s,zPk l s=false→e' s=e s)→(∀ i,i<l.length→zA6 l i≠1000000→e' (zA6 l i)=la1.getD i .any)→K.norm e' (Hs1.getD (a::b::rest).length []))
    (hend2:∀ e',(∀ s,zPk l s=false→e' s=e s)→(∀ i,i<l.length→zA6 l i≠1000000→e' (zA6 l i)=la2.getD i .any)→K.norm e' (Hs2.getD (b::a::rest).length [])) :
    AW P n m (.region id l.toArray true) K e H0:=by
  have hT1:=FD2.of hB1
  have hT2:=FD2.of hB2
  have hp12:((b::a::rest).all fun t=>(a::b::rest).contains t)=true:=by
    rw [List.all_eq_true]; intro t ht; simp at ht ⊢; rcases ht with h | h | h <;> simp [h]
  have hp21:((a::b::rest).all fun t=>(b::a::rest).contains t)=true:=by
    rw [List.all_eq_true]; intro t ht; simp at ht ⊢; rcases ht with h | h | h <;> simp [h]
  have hag1:∀ i,D.contains i=false→la1.getD i .any=la2.getD i .any:=fun i hi=>hag.get i (by rw [Nat.zero_add]; exact hi)
  have hD2:(D.all fun i=>(b::a::rest).contains i||(b::a::rest).any fun t=>reach l l.length i t)=true:=by
    rw [List.all_eq_true] at hD ⊢
    intro i hi
    have:=hD i hi
    rw [Bool.or_eq_true] at this ⊢
    rcases this with h | h
    · left; simp at h ⊢; rcases h with h | h | h <;> simp [h]
    · right
      obtain ⟨t,ht,hr⟩:=List.any_eq_true.1 h
      refine List.any_eq_true.2 ⟨t,?_,hr⟩
      simp at ht ⊢
      rcases ht with h | h | h <;> simp [h]
  intro w A0 κ fp F h1 h2
  refine zQa (l:=l) (fun listed F' w'=>(∃ k,zNd n m l (a::b::rest) la1 Hs1 e w A0 κ fp k listed F' w')∨(∃ k,zNd n m l (b::a::rest) la2 Hs2 e w A0 κ fp k listed F' w')) hm hT1.down ?_ ?_ ?_
  · have hkp:Kp [] w { w with drawn:=w.drawn+1 }:=Kp.drawn _ _
    have hs:zKE w fp κ { w with drawn:=w.drawn+1 } fp κ:=⟨KpS.of hkp (fun b hb=>by cases hb),fun i x hx => .inl ⟨i,hx⟩,fun _ _ h=>h⟩
    refine .inl ⟨0,e,κ,fp,⟨Nat.zero_le _,fun q t _=>by simp [Array.getD]⟩,?_,h2.mv (hs.mv A0),hs.m m,fun _ _=>rfl,fun i _ hl=>by simp [Array.getD] at hl⟩
    rw [hH1]
    exact h1.gen h1.len hs h1.nd h1.dj h1.out (fun i en v g1 g2 => .inl ⟨g1,rfl,fun b hb=>rfl⟩)
  · intro listed i o F' w' hcl hsz ho hli hpre hI
    have hil:=zAS ho
    have place:∀ (ts:List Tg) (c:List Nat) (la:List AV) (Hs:List zAQ) (k q:Nat),FD2 l ts c→zNd n m l c la Hs e w A0 κ fp k listed F' w'→ts[i]?=some (Tg.tail q)→q=k∨(k=0∧q=1):=by
      intro ts c la Hs k q hT hI ht
      obtain ⟨_,_,_,hst,_⟩:=hI
      obtain ⟨hcq,hprev⟩:=hT.tail i q hil ht
      have h3:¬ q<k:=fun h=>by rw [(hst.2 q i hcq).2 h] at hli; cases hli
      rcases Nat.lt_or_ge 1 q with h | h
      · left
        obtain ⟨t,ht',hr⟩:=hprev h
        have ht2:listed.getD t false=true:=by
          cases hlen:l.length with
          | zero=>omega
          | succ fu =>
            rw [hlen] at hr
            unfold Wk.reach at hr
            rw [ho] at hr
            simp only [List.any_eq_true,Bool.and_eq_true,Bool.or_eq_true,beq_iff_eq] at hr
            obtain ⟨ed,hed,hb,hj⟩:=hr
            rcases hj with rfl | hj
            · exact hpre ed hed hb
            · exact hcl.reach fu _ _ hj (hpre ed hed hb)
        have:=(hst.2 _ _ ht').1 ht2
        omega
      · omega
    have go1:∀ k,zNd n m l (a::b::rest) la1 Hs1 e w A0 κ fp k listed F' w'→(∀ q,ts1[i]?=some (Tg.tail q)→q=k)→LW P n l.toArray [o] (fun F' w'=>(∃ k,zNd n m l (a::b::rest) la1 Hs1 e w A0 κ fp k (listed.setIfInBounds i true) F' w')∨(∃ k,zNd n m l (b::a::rest) la2 Hs2 e w A0 κ fp k (listed.setIfInBounds i true) F' w')) F' w' :=
      fun k hI hq=>zCW (hI.step hT1 hops1 hcl hsz ho hli hpre hq) (fun _ _ h => .inl h)
    have go2:∀ k,zNd n m l (b::a::rest) la2 Hs2 e w A0 κ fp k listed F' w'→(∀ q,ts2[i]?=some (Tg.tail q)→q=k)→LW P n l.toArray [o] (fun F' w'=>(∃ k,zNd n m l (a::b::rest) la1 Hs1 e w A0 κ fp k (listed.setIfInBounds i true) F' w')∨(∃ k,zNd n m l (b::a::rest) la2 Hs2 e w A0 κ fp k (listed.setIfInBounds i true) F' w')) F' w' :=
      fun k hI hq=>zCW (hI.step hT2 hops2 hcl hsz ho hli hpre hq) (fun _ _ h => .inr h)
    rcases hI with ⟨k,hI⟩ | ⟨k,hI⟩
    · by_cases hq:∀ q,ts1[i]?=some (Tg.tail q)→q=k
      · exact go1 k hI hq
      · obtain ⟨q,hq⟩:=Classical.not_forall.1 hq
        obtain ⟨ht,hne⟩:=Classical.not_imp.1 hq
        rcases place _ _ _ _ k q hT1 hI ht with h | ⟨rfl,rfl⟩
        · exact absurd h hne
        · have hib:i=b:=by
            have:=(hT1.tail i 1 hil ht).1
            simpa using this.symm
          subst hib
          have ht2:=hT2.chain 0 i rfl
          exact go2 0 (hI.switch hcl hp12 (hH1.trans hH2.symm) hag1 hD) (fun q hq=>by rw [ht2] at hq; cases hq; rfl)
    · by_cases hq:∀ q,ts2[i]?=some (Tg.tail q)→q=k
      · exact go2 k hI hq
      · obtain ⟨q,hq⟩:=Classical.not_forall.1 hq
        obtain ⟨ht,hne⟩:=Classical.not_imp.1 hq
        rcases place _ _ _ _ k q hT2 hI ht with h | ⟨rfl,rfl⟩
        · exact absurd h hne
        · have hib:i=a:=by
            have:=(hT2.tail i 1 hil ht).1
            simpa using this.symm
          subst hib
          have ht2:=hT1.chain 0 i rfl
          exact go1 0 (hI.switch hcl hp21 (hH2.trans hH1.symm) (fun i hi=>(hag1 i hi).symm) hD2) (fun q hq=>by rw [ht2] at hq; cases hq; rfl)
  · intro listed F' w' hall hI
    rcases hI with ⟨k,hI⟩ | ⟨k,hI⟩
    · exact hI.done hT1 hall hend1
    · exact hI.done hT2 hall hend2
end Go.Am
