/-
  A list whose element is being filled; variables that are only read from now on; slices of arrays.
  Conditions: none: plain theorems over whatever program P.
-/
import Derived.Test.YtplkliakhdkpcaaGreatAmO
set_option linter.unusedVariables false
set_option linter.unusedSimpArgs false
namespace Go.Am
open Go Go.RowKit Go.Wk
section
variable {P:Program} {n m:Nat} {e e':zCH} {H G:zAQ} {x y z:Operand} {k j o:Nat} {t T:TypeId}
theorem zLh {i:Nat} {rows:List (List AV)} {t' s':Nat} {rows':List (List AV)} (hz:∀ w,(sizeOf t).run P w = .ok 1 w) (hx:aev n e x = .ptr k o) (hk:H[k]?=some (.vec T 1 rows)) (ho:o=i*1) (hi:i<rows.length) (hy:aev n e y = .hd j) (hj:H[j]?=some (.vec t' s' rows')) :
    zPE P n e H (.store t x y) (H.set k (.vopen T 1 rows i [.hd j])):=by
  intro w A0 κ fp F h1 h2
  have hv:=h2.ev x
  rw [hx] at hv
  unfold VR at hv
  obtain ⟨_,u,b,g1,g2,hv⟩:=hv
  obtain ⟨vr,cap,sp,f',hO,h6,h7,h8,h9,h10,h3,h4,h5,hls⟩:=zLn h1 hk g1 g2
  have hyv:=h2.ev y
  rw [hy] at hyv
  have hyκ:=hyv
  unfold VR at hyκ
  have hone:(ev n F y).oneCell'=true:=by
    obtain ⟨g,vr2,f2,ho2,_⟩:=h1.ent j _ _ hj hyκ.1
    exact zNZ ho2
  obtain ⟨v1,r,v2,f1,f2,f3,rfl,hl1,rfl,q1,q2,q3⟩:=zK1 h3 (List.getElem?_eq_getElem hi)
  have hrl:=hls _ (List.mem_of_getElem? (zG5 hl1))
  obtain ⟨pv,rfl⟩:∃ pv,r=[pv]:=by
    cases r with
    | nil=>simp at hrl
    | cons a r=>cases r with
      | nil=>exact ⟨a,rfl⟩
      | cons b r=>simp at hrl
  have hil:i<(v1++[pv]::v2).length:=by simp; omega
  have hfl:=zQz (j:=0) hls hil (by omega)
  rw [Nat.mul_one] at ho
  subst ho
  have hkp:Kp [b] w (w.setCell ⟨b,o,none⟩ (ev n F y)):=Kp.setCell w ⟨b,o,none⟩ (ev n F y)
  have hnd:=h1.nd k
  rw [h4] at hnd
  have hsub:(b::(f1++([]++f3))).Sublist (b::(f1++(f2++f3))):=(zJF (List.nil_sublist _)).cons_cons b
  have hs:=h1.set1 (k:=k) (e1 := .vopen T 1 rows o [.hd j]) (f1:=b::(f1++([]++f3))) (zAS hk) (KpS.of hkp (fun x hx=>by simp at hx; subst hx; rw [h4]; simp)) (fun x hx => .inl (by rw [h4]; exact hsub.mem hx)) (hnd.sublist hsub) (fun v' hv' mv=>by
    rw [g1] at hv'
    cases hv'
    have hne:∀ q,q∈f1++(f2++f3)→(w.setCell ⟨b,o,none⟩ (ev n F y)).heap[q]?=w.heap[q]?:=fun q hq=>by
      have hql:q<w.heap.size:=h1.lt k q (by rw [h4]; exact List.mem_cons_of_mem _ hq)
      exact hkp.block q hql (by simp; rintro rfl; exact (List.nodup_cons.1 hnd).1 hq)
    refine ⟨some b,v1,[ev n F y],v2,f1,[],f3,?_,hl1,hi,VRr.mv mv.nil _ _ _ (fun q hq=>hne q (by simp [hq])) q1,?_,VRr.mv mv.nil _ _ _ (fun q hq=>hne q (by simp [hq])) q3,rfl⟩
    · refine zJ3 h6 h7 h8 ?_ h10 hls (fun r hr => ?_) (by simp)
      · have:=h9.set (j:=o) (v:=ev n F y)
        have e1:=zPA hls (zG5 hl1) (j:=0) (by omega) (ev n F y)
        simp only [Nat.mul_one,Nat.add_zero] at e1 hfl
        rw [zQD hfl,e1,zLy hl1] at this
        exact this
      · simp only [List.mem_append,List.mem_cons] at hr
        rcases hr with hr | rfl | hr
        · exact hls r (by simp [hr])
        · rfl
        · exact hls r (by simp [hr])
    · unfold VRs
      exact ⟨ev n F y,[],[],[],rfl,rfl,hone,VR.mv mv _ _ _ (fun q hq=>by cases hq) hyv,by unfold VRs; exact ⟨rfl,rfl⟩⟩)
  exact ⟨_,_,_,zKT hz h9 (by simp only [Nat.mul_one,Nat.add_zero] at hfl; simp only [List.length_append]; omega) hone hv rfl,hs.1,hs.2⟩
theorem zQf {el:TypeId} {kd:IntKind} {t' s q:Nat} {i:Int} {rows row:List (List AV)} {rw_:List AV} (ht:P.underlying t=some (.slice el)) (hs:∀ w,(sizeOf el).run P w = .ok s w) (hx:aev n e x = .hd k) (hk:H[k]?=some (.vopen t' s rows q rw_)) (hy:aev n e y = .lit (.int kd i)) (hi:inb i rows.length=true) :
    zt P n e H (.indexAddr t x y) (.ptr k (i.toNat*s)):=by
  intro w A0 κ fp F h1 h2
  have hv:=h2.ev x
  rw [hx] at hv
  unfold VR at hv
  obtain ⟨g,v1,r,v2,f1,f2,f3,h3,h4,h5,h6,h7,h8,h9⟩:=h1.ent k _ _ hk hv.1
  have hy':=zAg h2 hy
  rw [← zMn hi] at hy'
  have hlt:=(zBT hi).2
  have hlen:(v1++r::v2).length=rows.length:=by
    have a1:=zE6 h8
    simp only [List.length_append,List.length_cons,List.length_drop] at a1 ⊢
    omega
  obtain ⟨b,cap,sp,rfl,hv',_,_,_,_⟩:=zLO h3 (by rw [hlen]; exact hlt)
  rw [hlen] at hv'
  have hv1:=hv.1
  rw [hv'] at hv hv1
  refine ⟨_,zNI ht hs hv' hy' hlt,?_⟩
  unfold VR
  exact ⟨rfl,_,b,hv1,rfl,by rw [Nat.zero_add]⟩
theorem zPj {i:Nat} {rows:List (List AV)} {a:AV} (ha:∀ w,(isAgg t).run P w = .ok false w) (hx:aev n e x = .ptr k o) (hk:H[k]?=some (.vopen T 1 rows i [a])) (ho:o=i*1) (hE:isE a=true):zt P n e H (.load t x) a:=by
  intro w A0 κ fp F h1 h2
  have hv:=h2.ev x
  rw [hx] at hv
  unfold VR at hv
  obtain ⟨_,u,b,g1,g2,hv⟩:=hv
  obtain ⟨g,v1,r,v2,f1,f2,f3,h3,h4,h5,h6,h7,h8,h9⟩:=h1.ent k _ _ hk g1
  unfold VRs at h7
  obtain ⟨v,vs',q1,q2,rfl,rfl,q3,q4,q5⟩:=h7
  unfold VRs at q5
  obtain ⟨rfl,rfl⟩:=q5
  have:=zSp hE q4
  subst this
  obtain ⟨b',cap,sp,rfl,hv',_,_,h13,_⟩:=zLO h3 (i:=0) (by simp; omega)
  rw [hv'] at g2
  cases g2
  rw [Nat.mul_one] at ho
  subst ho
  have hc:=zM0 h3.1 (zG5 h4) h13.cells
  rw [Nat.zero_add,Nat.mul_one] at hc
  exact ⟨v,zKp (j:=0) ha hv hc rfl,q4⟩
theorem zPb {i:Nat} {rows:List (List AV)} {t' s':Nat} {rows' rf:List (List AV)} (hk:H[k]?=some (.vopen T 1 rows i [.hd j])) (hj:H[j]?=some (.vec t' s' rows')) (hjk:Nat.beq j k=false) (hr:zO1 rows'=rf) :
    Rep n m e H e ((H.set k (.vec T 1 (rows.set i [.sl false rf]))).set j .dead):=by
  intro w A0 κ fp F h1 h2
  have hjk':j≠k:=fun h=>by subst h; simp at hjk
  have hkl:k<κ.length:=by rw [h1.len]; exact zAS hk
  have hκ:=List.getElem?_eq_getElem hkl
  obtain ⟨g,v1,r,v2,f1,f2,f3,h3,h4,h5,h6,h7,h8,h9⟩:=h1.ent k _ _ hk hκ
  unfold VRs at h7
  obtain ⟨v,vs',q1,q2,rfl,rfl,q3,q4,q5⟩:=h7
  unfold VRs at q5
  obtain ⟨rfl,rfl⟩:=q5
  unfold VR at q4
  obtain ⟨q4,rfl⟩:=q4
  have hjr:VR w (avd A0 fp) [] (.osl t' s' rows') v (fp j):=by
    have:=h1.ent j _ _ hj q4
    unfold VR
    exact this
  have hnd:=h1.nd k
  rw [h9] at hnd
  simp only [List.nil_append] at hnd h9
  have hs:=h1.set2 (w':=w) (k:=k) (j:=j) (e1 := .vec T 1 (rows.set i [.sl false rf])) (f1:=g.toList++(f1++([]++f3))) (zAS hk) (zAS hj) hjk' (KpS.refl _ _) (fun x hx => .inl (by rw [h9]; simpa using hx)) (by simpa using hnd) (fun v' hv' mv=>by
    rw [hκ] at hv'
    cases hv'
    refine ⟨g,v1++[v]::v2,f1++([]++f3),h3,?_,rfl⟩
    rw [zIK _ h5]
    refine zNN (VRr.mv mv.nil _ _ _ (fun _ _=>rfl) h6) ?_ (VRr.mv mv.nil _ _ _ (fun _ _=>rfl) h8)
    unfold VRs
    refine ⟨v,[],[],[],rfl,rfl,q3,?_,by unfold VRs; exact ⟨rfl,rfl⟩⟩
    have:=VR.frz (fun q hq=>(mv.av q hq).elim id (fun h=>absurd h (by
      rcases hq with hq | ⟨i',hq⟩
      · exact Nat.not_le.2 (h1.old q hq)
      · unfold zEv at hq
        split at hq
        · cases hq
        · split at hq
          · exact Nat.not_le.2 (h1.lt k q (by rw [h9]; simpa using hq))
          · exact Nat.not_le.2 (h1.lt i' q hq)))) _ _ _ (fun q hq hA=>by
      rcases hA with hA | ⟨i',hA⟩
      · exact h1.na j q hq hA
      · unfold zEv at hA
        split at hA
        · cases hA
        · rename_i hne
          split at hA
          · exact hjk' (h1.dj j k q hq (by rw [h9]; simpa using hA))
          · exact hne (h1.dj i' j q hA hq)) hjr
    unfold Go.Am.frz at this
    rw [hr] at this
    exact this)
  exact ⟨_,_,hs.1,h2.mv (hs.2.mv A0),hs.2.m m⟩
def zQT (e:zCH) (k:Nat):List (Nat×Nat)→Prop
  | []=>True
  | (d,o)::ds=>e d = .ptr k o∧zQT e k ds
def zUD (e:zCH) (cs:List AV):List (Nat×Nat)→zCH
  | []=>e
  | (d,o)::ds=>fun i=>bif Nat.beq i d then .rp cs o else zUD e cs ds i
theorem zOo {e:zCH} {cs:List AV} {k:Nat}:∀ {ds:List (Nat×Nat)},zQT e k ds → ∀ i,zUD e cs ds i=e i ∨ ∃ o,e i = .ptr k o∧zUD e cs ds i = .rp cs o
  | [],_,i => .inl rfl
  | (d,o)::ds,h,i=>by
    unfold zUD
    cases hb:Nat.beq i d with
    | true =>
      have:=Nat.eq_of_beq_eq_true hb
      subst this
      exact .inr ⟨o,h.1,rfl⟩
    | false=>exact zOo h.2 i
theorem zRm {cs cs':List AV} (hk:H[k]?=some (.box T cs)) (hn:cs.all nr=true) (hf:zOF cs=cs') {ds:List (Nat×Nat)} (hd:zQT e k ds):Rep n m e H (zUD e cs' ds) (H.set k .dead):=by
  intro w A0 κ fp F h1 h2
  have hs:=h1.set1 (w':=w) (k:=k) (e1 := .dead) (f1:=[]) (zAS hk) (KpS.refl _ _) (by simp) (by simp) (fun _ _ _=>rfl)
  refine ⟨_,_,hs.1,fun i hi => ?_,hs.2.m m⟩
  have h3:=(h2.mv (hs.2.mv A0)) i hi
  rcases zOo (cs:=cs') hd i with hq | ⟨o,hq1,hq2⟩
  · rw [hq]; exact h3
  · have h6:=h2 i hi
    rw [hq1] at h6
    unfold VR at h6
    obtain ⟨_,u,b,g1,g2,hv⟩:=h6
    obtain ⟨b',vs,f',rfl,hblk,hvs,hfp⟩:=h1.ent k _ u hk g1
    cases g2
    rw [hq2]
    unfold VR
    have h4:=VRs.frz (A':=avd A0 (zEv fp k [])) (fun b hb=>((hs.2.mv A0).av b hb).elim id (fun h=>absurd h (by
      rcases hb with hb | ⟨i,hb⟩
      · exact Nat.not_le.2 (h1.old b hb)
      · exact Nat.not_le.2 (hs.1.lt i b hb)))) _ _ _ (fun q hq hA=>by
        rcases hA with hA | ⟨i,hA⟩
        · exact h1.na k q (by rw [hfp]; exact List.mem_cons_of_mem _ hq) hA
        · unfold zEv at hA
          split at hA
          · cases hA
          · rename_i hne; exact hne (h1.dj i k q hA (by rw [hfp]; exact List.mem_cons_of_mem _ hq))) (zKv (κ':=[]) hn hvs)
    rw [hf] at h4
    refine ⟨rfl,b,0,vs,by rw [Nat.zero_add]; exact hv,fun hA => ?_,hblk.lt,h4,hblk.cells⟩
    rcases hA with hA | ⟨i,hA⟩
    · exact h1.na k b (by rw [hfp]; exact List.mem_cons_self ..) hA
    · unfold zEv at hA
      split at hA
      · cases hA
      · rename_i hne; exact hne (h1.dj i k b hA (by rw [hfp]; exact List.mem_cons_self ..))
theorem zLk {α:Type} {f:α→List AV} {l:List (List α)} {l':List α} {i t' s':Nat} (hf:∀ x,zOF (f x)=f x) (hk:H[k]?=some (.vopen T 1 (l.map (cS f)) i [.hd j])) (hj:H[j]?=some (.vec t' s' (l'.map f))) (hjk:Nat.beq j k=false) :
    Rep n m e H e ((H.set k (.vec T 1 ((l.set i l').map (cS f)))).set j .dead):=by
  have:=zPb (n:=n) (m:=m) (e:=e) hk hj hjk (zAL hf)
  rw [List.map_set]
  exact this
theorem zMz {α:Type} {g:α→AV} {d0:α} {l:List α} {hd tl cs:List AV} {N:Nat} {el:TypeId} {kd:IntKind} {hi:Int} {f:α→List AV} (ht:P.underlying t=some (.array N el)) (hs:∀ w,(sizeOf el).run P w = .ok 1 w) (hx:aev n e x = .rp cs o) (hcs:cs=hd++(cA N g d0 l++tl)) (ho:o=hd.length) (hf:∀ x,[g x]=f x) (hy:aev n e y = .lit (.int kd hi)) (hb:zNc 0 hi N=true) (hl:decide (l.length=N)=true) (hN:Nat.ble N 1000000=true) :
    zt P n e H (.slice t x none (some y) none) (.sl false ((zKK l 0 hi).map f)):=by
  intro w A0 κ fp F h1 h2
  have hv:=h2.ev x
  rw [hx] at hv
  unfold VR at hv
  obtain ⟨_,b,o',vs,hv,hA,hbl,hvs,hc⟩:=hv
  have hlN:=of_decide_eq_true hl
  have hN':=Nat.le_of_ble_eq_true hN
  have bd:=zNS hb
  rw [hcs] at hvs
  obtain ⟨v1,v2,f1,f2,rfl,hf0,s1,s2⟩:=zFC.1 hvs
  obtain ⟨v3,v4,f3,f4,rfl,hf1,s3,s4⟩:=zFC.1 s2
  obtain ⟨rfl,rfl⟩:=List.append_eq_nil_iff.1 hf0.symm
  obtain ⟨rfl,rfl⟩:=List.append_eq_nil_iff.1 hf1.symm
  have l1:=zEY s1
  have e1:cA N g d0 l=l.map g:=by
    apply List.ext_getElem?
    intro i
    by_cases hi:i<N
    · have:i<l.length:=by omega
      simp [cA,hi,this]
    · rw [List.getElem?_eq_none (by simp [cA]; omega),List.getElem?_eq_none (by simp; omega)]
  rw [e1] at s3
  have l3:=zEY s3
  rw [List.length_map] at l3
  refine ⟨.slice (some ⟨b,o'+o,none⟩) hi.toNat N,⟨fun d t' p af g' => ?_⟩,?_⟩
  · have h0:hi≤(N:Int):=by omega
    simp [execOp,hv,zAg h2 hy,Instr.sliceAt,run_underlying ht,Instr.sureAddr,Instr.sliceBounds,zIc bd.2.1 h0,hs,Addr.add]
  · unfold VR
    have hml:((zKK l 0 hi).map f).length=hi.toNat:=by unfold zKK; simp; omega
    refine ⟨rfl,_,_,by rw [hml],by rw [hml]; omega,⟨by rw [hml]; omega,by unfold maxLen; omega⟩,by simp,?_⟩
    by_cases h0:hi.toNat=0
    · left
      exact List.length_eq_zero_iff.1 (by rw [hml]; exact h0)
    · right
      have hrows:∀ (l:List α) (vs:List Value),VRs w (avd A0 fp) [] (l.map g) vs []→VRr w (avd A0 fp) [] (l.map f) (vs.map fun v=>[v]) []:=by
        intro l
        induction l with
        | nil =>
          intro vs h
          simp only [List.map_nil] at h ⊢
          unfold VRs at h
          rw [h.1]
          unfold VRr
          exact ⟨rfl,rfl⟩
        | cons a l ih =>
          intro vs h
          simp only [List.map_cons] at h ⊢
          unfold VRs at h
          obtain ⟨u,vs',g1,g2,rfl,hg,q3,q4,q5⟩:=h
          obtain ⟨rfl,rfl⟩:=List.append_eq_nil_iff.1 hg.symm
          unfold VRr
          refine ⟨[u],vs'.map fun v=>[v],[],[],rfl,rfl,?_,ih vs' q5⟩
          rw [← hf a]
          unfold VRs
          exact ⟨u,[],[],[],rfl,rfl,q3,q4,by unfold VRs; exact ⟨rfl,rfl⟩⟩
      have hall:=hrows l v3 s3
      have e2:(l.map f)=(l.map f).take hi.toNat++(l.map f).drop hi.toNat:=(List.take_append_drop _ _).symm
      rw [e2] at hall
      obtain ⟨u1,u2,f5,f6,hu,hf2,t1,t2⟩:=zH9.1 hall
      obtain ⟨rfl,rfl⟩:=List.append_eq_nil_iff.1 hf2.symm
      have l5:=zE6 t1
      rw [List.length_take,List.length_map] at l5
      have e3:u1=(v3.take hi.toNat).map fun v=>[v]:=by
        have:u1=(v3.map fun v=>[v]).take hi.toNat:=by
          rw [hu,List.take_append_of_le_length (by omega),List.take_of_length_le (by omega)]
        rw [this,List.map_take]
      have e4:(u1).flatten=v3.take hi.toNat:=by
        rw [e3]
        generalize v3.take hi.toNat=q
        induction q with
        | nil=>rfl
        | cons a q ih=>simp [ih]
      refine ⟨b,o'+o,1,u1,rfl,hA,hbl,?_,fun r hr => ?_,?_⟩
      · have:(zKK l 0 hi).map f=(l.map f).take hi.toNat:=by unfold zKK; simp [List.map_take]
        rw [this]
        exact t1
      · rw [e3] at hr
        obtain ⟨q,_,rfl⟩:=List.mem_map.1 hr
        rfl
      · rw [e4]
        intro q u hu2
        have hq:q<hi.toNat:=by have:=zAS hu2; simp at this; omega
        have:=hc (v1.length+q) u (by
          rw [List.getElem?_append_right (by omega),Nat.add_sub_cancel_left,List.getElem?_append_left (by omega)]
          rw [List.getElem?_take_of_lt hq] at hu2
          exact hu2)
        rw [← Nat.add_assoc] at this
        rw [ho, ← l1]
        exact this
end
end Go.Am
