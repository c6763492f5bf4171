/-
  New variables, stores; lists opened, closed, frozen, forgotten.
  Conditions: none: plain theorems over whatever program P.
-/
import Derived.Test.YtplkliakhdkpcaaGreatAmE
set_option linter.unusedVariables false
set_option linter.unusedSimpArgs false
namespace Go.Am
open Go Go.RowKit Go.Wk
def zf (a a':AV):Prop := ∀ w A κ v fp,VR w A κ a v fp→VR w A κ a' v fp
theorem zf.refl (a:AV):zf a a:=fun _ _ _ _ _ h=>h
theorem zf.nils {f:Bool}:zf (.lit (.slice none 0 0)) (.sl f []):=by
  intro w A κ v fp h
  unfold VR at *
  obtain ⟨rfl,rfl⟩:=h
  exact ⟨rfl,none,0,rfl,Nat.le_refl _,⟨by simp,by unfold maxLen; omega⟩,fun _=>rfl,.inl rfl⟩
theorem zf.nilo {t sz:Nat}:zf (.lit (.slice none 0 0)) (.osl t sz []):=by
  intro w A κ v fp h
  unfold VR at *
  obtain ⟨rfl,rfl⟩:=h
  exact ⟨none,[],[],zQF w t sz,by unfold VRr; exact ⟨rfl,rfl⟩,rfl⟩
def zFR:List AV→List AV→Prop
  | [],[]=>True
  | a::la,b::bs=>zf a b∧zFR la bs
  | _,_=>False
theorem zFR.vrs {w:World} {A:Nat→Prop} {κ:List Value}:∀ {la bs:List AV} {vs:List Value} {fp:List Nat},zFR la bs→VRs w A κ la vs fp→VRs w A κ bs vs fp
  | [],[],_,_,_,h=>h
  | [],_::_,_,_,h,_=>h.elim
  | _::_,[],_,_,h,_=>h.elim
  | a::la,b::bs,vs,fp,h,hv=>by
    unfold VRs at hv ⊢
    obtain ⟨u,vs',f1,f2,rfl,rfl,h3,h4,h5⟩:=hv
    exact ⟨u,vs',f1,f2,rfl,rfl,h3,h.1 _ _ _ _ _ h4,zFR.vrs h.2 h5⟩
theorem zFR.refl:∀ (la:List AV),zFR la la
  | []=>trivial
  | a::la=>⟨zf.refl a,zFR.refl la⟩
theorem zLK {w:World} {A:Nat→Prop} {κ:List Value}:∀ (vs:List Value),vs.all (·.oneCell')=true→VRs w A κ (vs.map .lit) vs []
  | [],_=>by unfold VRs; exact ⟨rfl,rfl⟩
  | v::vs,h=>by
    simp only [List.all_cons,Bool.and_eq_true] at h
    simp only [List.map_cons]
    unfold VRs
    exact ⟨v,vs,[],[],rfl,rfl,h.1,zHS _ _ _ _,zLK vs h.2⟩
section
variable {P:Program} {n m:Nat} {e e':zCH} {H:zAQ} {x y:Operand} {k j o:Nat} {ty t:TypeId}
def zQO (H:zAQ) (a:AV):Bool:=isC a||match a with
  | .hd k=>match H[k]? with
    | some (.vec ..) | some (.vopen ..)=>true
    | _=>false
  | .clo .. => true
  | _=>false
theorem zNZ {w:World} {T sz:Nat} {g:Option Nat} {v:Value} {rows:List (List Value)} (h:zJN w T sz g v rows):v.oneCell'=true:=by
  obtain ⟨a,c,rfl,_⟩:=zJ2 h; rfl
theorem zTE {w:World} {A0:Nat→Prop} {κ:List Value} {fp:Nat→List Nat} (h1:SH w A0 H κ fp) {a:AV} {v:Value} (h:zQO H a=true) (hv:VR w (avd A0 fp) κ a v []):v.oneCell'=true:=by
  unfold zQO at h
  rw [Bool.or_eq_true] at h
  rcases h with h | h
  · exact zUN h hv
  · split at h
    · rename_i k
      unfold VR at hv
      split at h
      · rename_i hk
        obtain ⟨g,vr,f',ho,_⟩:=h1.ent k _ v hk hv.1
        exact zNZ ho
      · rename_i hk
        obtain ⟨g,v1,r,v2,f1,f2,f3,ho,_⟩:=h1.ent k _ v hk hv.1
        exact zNZ ho
      · cases h
    · unfold VR at hv
      obtain ⟨vs,rfl,_⟩:=hv
      rfl
    · cases h
theorem zOI {w:World} {A0:Nat→Prop} {κ:List Value} {fp:Nat→List Nat} {F:Env} (h1:SH w A0 H κ fp) {vs:List Value} {cs:List AV} {op:Op} (hv:Val P n F w op (.pointer (some ⟨w.heap.size,0,none⟩)) (w.alloc (.cells vs.toArray t)))
    (hvs:VRs w (avd A0 fp) κ cs vs []):∃ v w' κ' fp',Val P n F w op v w'∧SH w' A0 (H++[.box t cs]) κ' fp'∧VR w' (avd A0 fp') κ' (.ptr H.length 0) v []∧zKE w fp κ w' fp' κ':=by
  have hb:=zJU w t vs
  have hs:=h1.push (e2 := .box t cs) (v2 := .pointer (some ⟨w.heap.size,0,none⟩)) (f2:=[w.heap.size]) (KpS.of (Kp.alloc w (.cells vs.toArray t)) (fun b hb=>by cases hb)) (by simp) (by simp)
    (fun mv=>⟨w.heap.size,vs,[],rfl,hb,VRs.mv mv cs vs [] (fun b hb=>by cases hb) hvs,rfl⟩)
  refine ⟨_,_,_,_,hv,hs.1,?_,hs.2⟩
  unfold VR
  refine ⟨rfl,.pointer (some ⟨w.heap.size,0,none⟩),w.heap.size,?_,rfl,rfl⟩
  rw [← h1.len,List.getElem?_append_right (Nat.le_refl _)]
  simp
theorem zu {z:Value} {vs:List Value} {cs:List AV} (hz:∀ w,(zeroValue t).run P w = .ok z w) (hc:z.cells=vs.toArray) (h1:vs.all (·.oneCell')=true) (hs:zFR (vs.map .lit) cs):zLE P n e H (.alloc t) (.ptr H.length 0) (H++[.box t cs]) :=
  fun w A0 κ fp F g1 g2=>zOI g1 (zQr hz hc) (hs.vrs (zLK vs h1))
theorem zw {cs:List AV} (hx:aev n e x = .agg cs):zLE P n e H (.box t x) (.ptr H.length 0) (H++[.box t cs]):=by
  intro w A0 κ fp F g1 g2
  have hv:=g2.ev x
  rw [hx] at hv
  unfold VR at hv
  obtain ⟨vs,hv,hr⟩:=hv
  exact zOI g1 (zRH hv) hr
theorem zJR {v:Value} (h:v.oneCell'=true):v.cells = #[v]:=by cases v <;> first | rfl | cases h
theorem zI3 {a:AV} (hx:aev n e x=a) (hc:zQO H a=true):zLE P n e H (.box t x) (.ptr H.length 0) (H++[.box t [a]]):=by
  intro w A0 κ fp F g1 g2
  have hv:=g2.ev x
  rw [hx] at hv
  have h1:=zTE g1 hc hv
  exact zOI g1 (vs:=[ev n F x]) (zRG (zJR h1) rfl) (by unfold VRs; exact ⟨_,[],[],[],rfl,rfl,h1,hv,by unfold VRs; exact ⟨rfl,rfl⟩⟩)
theorem zKS {w:World} {F:Env} {T:TypeId} {b j:Nat} {cs vs:List Value} (hz:∀ w,(sizeOf t).run P w = .ok vs.length w) (h:Blk w b T cs) (hj:j+vs.length≤cs.length) (h1:∀ v∈vs,v.oneCell'=true) (hx:ev n F x = .pointer (some ⟨b,j,none⟩)) (hy:ev n F y = .agg vs.toArray) :
    ∃ w',zUM P n F w (.store t x y) w'∧Kp [b] w w'∧w'.heap.size=w.heap.size∧Blk w' b T (zDF cs j vs):=by
  obtain ⟨w',r1,r2,r3,r4⟩:=zGV (P:=P) vs 0 cs w h (by omega) h1
  refine ⟨w',⟨fun d t' p af g => ?_⟩,r2,r3,r4⟩
  simp [execOp,hx,hy,Instr.storeAt,Instr.sureAddr,storeVar,Value.cells,hz,r1]
theorem zJF {a b b' c:List Nat} (h:b'.Sublist b):(a++(b'++c)).Sublist (a++(b++c)) :=
  (List.Sublist.refl a).append (h.append (List.Sublist.refl c))
theorem zCZ {T:TypeId} {cs:List AV} {a:AV} (hz:∀ w,(sizeOf t).run P w = .ok 1 w) (hx:aev n e x = .ptr k o) (hk:H[k]?=some (.box T cs)) (ho0:Nat.blt o cs.length=true) (hy:aev n e y=a) (hc:zQO H a=true):zPE P n e H (.store t x y) (H.set k (.box T (cs.set o a))):=by
  have ho:o<cs.length:=by simpa [Nat.blt_eq] using ho0
  intro w A0 κ fp F h1 h2
  have hv:=h2.ev x
  rw [hx] at hv
  unfold VR at hv
  obtain ⟨_,u,b,g1,g2,hv⟩:=hv
  obtain ⟨b',vs,f',rfl,hb,hvs,hfp⟩:=h1.ent k _ u hk g1
  cases g2
  have hyv:=h2.ev y
  rw [hy] at hyv
  have hone:=zTE h1 hc hyv
  have hco:=List.getElem?_eq_getElem ho
  obtain ⟨v1,v,v2,f1,f2,f3,rfl,hl,rfl,ho',q1,q2,q3⟩:=zJA hvs hco
  have hlen:o<(v1++v::v2).length:=by simp; omega
  have hnd:=h1.nd k
  rw [hfp] at hnd
  have hsub:(b::(f1++([]++f3))).Sublist (b::(f1++(f2++f3))):=(zJF (List.nil_sublist _)).cons_cons b
  have hkp:Kp [b] w (w.setCell ⟨b,o,none⟩ (ev n F y)):=Kp.setCell w ⟨b,o,none⟩ (ev n F y)
  have hs:=h1.set1 (k:=k) (e1 := .box T (cs.set o a)) (f1:=b::(f1++([]++f3))) (zAS hk) (KpS.of hkp (fun x hx=>by simp at hx; subst hx; rw [hfp]; simp)) (fun x hx => .inl (by rw [hfp]; exact hsub.mem hx)) (hnd.sublist hsub) (fun v' hv' mv=>by
    rw [g1] at hv'
    cases hv'
    have hne:∀ q,q∈f1++(f2++f3)→(w.setCell ⟨b,o,none⟩ (ev n F y)).heap[q]?=w.heap[q]?:=fun q hq=>by
      have hql:q<w.heap.size:=h1.lt k q (by rw [hfp]; exact List.mem_cons_of_mem _ hq)
      exact hkp.block q hql (by simp; rintro rfl; exact (List.nodup_cons.1 hnd).1 hq)
    refine ⟨b,v1++ev n F y::v2,_,rfl,?_,?_,rfl⟩
    · have:=hb.set (j:=o) (v:=ev n F y)
      rw [zLy hl] at this
      exact this
    · rw [zIK a ho]
      exact zK0 (VRs.mv mv _ _ _ (fun q hq=>hne q (by simp [hq])) q1) (VR.mv mv _ _ _ (fun q hq=>by cases hq) hyv) hone (VRs.mv mv _ _ _ (fun q hq=>hne q (by simp [hq])) q3))
  exact ⟨_,_,_,zKT hz hb hlen hone hv rfl,hs.1,hs.2⟩
theorem zL8 {v1 v v2 vs:List Value} {o:Nat} (h:v1.length=o) (hl:v.length=vs.length):zDF (v1++(v++v2)) o vs=v1++(vs++v2):=by
  subst h
  unfold zDF
  rw [List.take_left', ← hl, ← List.append_assoc v1 v v2,List.drop_left' (by simp),List.append_assoc]
  rfl
theorem zX {T:TypeId} {cs la:List AV} (hz:∀ w,(sizeOf t).run P w = .ok la.length w) (hx:aev n e x = .ptr k o) (hk:H[k]?=some (.box T cs)) (ho0:Nat.ble (o+la.length) cs.length=true) (hy:aev n e y = .agg la):zPE P n e H (.store t x y) (H.set k (.box T (zMw cs o la))):=by
  have ho:=Nat.le_of_ble_eq_true ho0
  intro w A0 κ fp F h1 h2
  have hv:=h2.ev x
  rw [hx] at hv
  unfold VR at hv
  obtain ⟨_,u,b,g1,g2,hv⟩:=hv
  obtain ⟨b',vs,f',rfl,hb,hvs,hfp⟩:=h1.ent k _ u hk g1
  cases g2
  have hyv:=h2.ev y
  rw [hy] at hyv
  unfold VR at hyv
  obtain ⟨ys,hy',hyr⟩:=hyv
  have hyl:=zEY hyr
  obtain ⟨v1,v,v2,f1,f2,f3,rfl,hl,hlm,rfl,q1,q2,q3⟩:=zKN hvs ho
  have hnd:=h1.nd k
  rw [hfp] at hnd
  have hsub:(b::(f1++([]++f3))).Sublist (b::(f1++(f2++f3))):=(zJF (List.nil_sublist _)).cons_cons b
  obtain ⟨w',r1,hkp,_,r4⟩:=zKS (P:=P) (by rw [hyl]; exact hz) hb (by simp; omega) (zLs hyr) hv hy'
  have hs:=h1.set1 (k:=k) (e1 := .box T (zMw cs o la)) (f1:=b::(f1++([]++f3))) (zAS hk) (KpS.of hkp (fun x hx=>by simp at hx; subst hx; rw [hfp]; simp)) (fun x hx => .inl (by rw [hfp]; exact hsub.mem hx)) (hnd.sublist hsub) (fun v' hv' mv=>by
    rw [g1] at hv'
    cases hv'
    have hne:∀ q,q∈f1++(f2++f3)→w'.heap[q]?=w.heap[q]?:=fun q hq=>by
      have hql:q<w.heap.size:=h1.lt k q (by rw [hfp]; exact List.mem_cons_of_mem _ hq)
      exact hkp.block q hql (by simp; rintro rfl; exact (List.nodup_cons.1 hnd).1 hq)
    refine ⟨b,v1++(ys++v2),_,rfl,?_,?_,rfl⟩
    · rw [zL8 hl (by omega)] at r4
      exact r4
    · exact zFC.2 ⟨v1,ys++v2,f1,[]++f3,rfl,rfl,VRs.mv mv _ _ _ (fun q hq=>hne q (by simp [hq])) q1,zFC.2 ⟨ys,v2,[],f3,rfl,rfl,VRs.mv mv _ _ _ (fun q hq=>by cases hq) hyr,VRs.mv mv _ _ _ (fun q hq=>hne q (by simp [hq])) q3⟩⟩)
  exact ⟨_,_,_,r1,hs.1,hs.2⟩
theorem zCs {T:TypeId} {cs la:List AV} (hz:∀ w,(sizeOf t).run P w = .ok la.length w) (hx:aev n e x = .ptr k o) (hk:H[k]?=some (.box T cs)) (ho0:Nat.ble (o+la.length) cs.length=true) (hy:aev n e y = .hd j) (hj:H[j]?=some (.val (.agg la))) (hjk:j≠k) :
    zPE P n e H (.store t x y) ((H.set k (.box T (zMw cs o la))).set j .dead):=by
  have ho:=Nat.le_of_ble_eq_true ho0
  intro w A0 κ fp F h1 h2
  have hv:=h2.ev x
  rw [hx] at hv
  unfold VR at hv
  obtain ⟨_,u,b,g1,g2,hv⟩:=hv
  obtain ⟨b',vs,f',rfl,hb,hvs,hfp⟩:=h1.ent k _ u hk g1
  cases g2
  have hyv:=h2.ev y
  rw [hy] at hyv
  unfold VR at hyv
  have hjv:VR w (avd A0 fp) κ (.agg la) (ev n F y) (fp j):=h1.ent j _ _ hj hyv.1
  unfold VR at hjv
  obtain ⟨ys,hy',hyr⟩:=hjv
  have hyl:=zEY hyr
  obtain ⟨v1,v,v2,f1,f2,f3,rfl,hl,hlm,rfl,q1,q2,q3⟩:=zKN hvs ho
  have hnd:=h1.nd k
  rw [hfp] at hnd
  obtain ⟨w',r1,hkp,_,r4⟩:=zKS (P:=P) (by rw [hyl]; exact hz) hb (by simp; omega) (zLs hyr) hv hy'
  have hdis:∀ x,x∈fp j→x ∉ b::(f1++(f2++f3)):=fun x hx hm=>hjk (h1.dj j k x hx (by rw [hfp]; exact hm))
  have hs:=h1.set2 (k:=k) (j:=j) (e1 := .box T (zMw cs o la)) (f1:=b::(f1++(fp j++f3))) (zAS hk) (zAS hj) hjk (KpS.of hkp (fun x hx=>by simp at hx; subst hx; rw [hfp]; simp))
    (fun x hx=>by
      simp only [List.mem_cons,List.mem_append] at hx
      rcases hx with rfl | hx | hx | hx
      · left; rw [hfp]; simp
      · left; rw [hfp]; simp [hx]
      · exact .inr (.inl hx)
      · left; rw [hfp]; simp [hx])
    (by
      have hnj:=h1.nd j
      simp only [List.nodup_cons,List.nodup_append,List.mem_append] at hnd ⊢
      simp only [List.mem_cons,List.mem_append] at hdis
      refine ⟨fun hm => ?_,hnd.2.1,⟨hnj,hnd.2.2.1.2.1,fun a ha b hb=>by rintro rfl; exact hdis a ha (by simp [hb])⟩,fun a ha b hb => ?_⟩
      · rcases hm with hm | hm | hm
        · exact hnd.1 (.inl hm)
        · exact hdis b hm (by simp)
        · exact hnd.1 (.inr (.inr hm))
      · rcases hb with hb | hb
        · rintro rfl; exact hdis a hb (by simp [ha])
        · exact hnd.2.2.2 a ha b (.inr hb))
    (fun v' hv' mv=>by
      rw [g1] at hv'
      cases hv'
      have hne:∀ q,q∈f1++(f2++f3)→w'.heap[q]?=w.heap[q]?:=fun q hq=>by
        have hql:q<w.heap.size:=h1.lt k q (by rw [hfp]; exact List.mem_cons_of_mem _ hq)
        exact hkp.block q hql (by simp; rintro rfl; exact (List.nodup_cons.1 hnd).1 hq)
      have hne2:∀ q,q∈fp j→w'.heap[q]?=w.heap[q]?:=fun q hq=>hkp.block q (h1.lt j q hq) (by simp; rintro rfl; exact hdis _ hq (by simp))
      refine ⟨b,v1++(ys++v2),_,rfl,?_,?_,rfl⟩
      · rw [zL8 hl (by omega)] at r4
        exact r4
      · exact zFC.2 ⟨v1,ys++v2,f1,fp j++f3,rfl,rfl,VRs.mv mv _ _ _ (fun q hq=>hne q (by simp [hq])) q1,zFC.2 ⟨ys,v2,fp j,f3,rfl,rfl,VRs.mv mv _ _ _ hne2 hyr,VRs.mv mv _ _ _ (fun q hq=>hne q (by simp [hq])) q3⟩⟩)
  exact ⟨_,_,_,r1,hs.1,hs.2⟩
end
end Go.Am
