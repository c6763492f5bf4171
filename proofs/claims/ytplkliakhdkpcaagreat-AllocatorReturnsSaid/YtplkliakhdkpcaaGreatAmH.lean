/-
  Lists of the call's own: made, appended to, stored into; read-only slices cut.
  Conditions: none: plain theorems over whatever program P.
-/
import Derived.Test.YtplkliakhdkpcaaGreatAmG
set_option linter.unusedVariables false
set_option linter.unusedSimpArgs false
namespace Go.Am
open Go Go.RowKit Go.Wk
section
variable {w:World} {A:Nat→Prop} {κ:List Value}
theorem zQc {r:List AV} {v:List Value} (h:VRs w A κ r v []):∀ (c:Nat),VRr w A κ (List.replicate c r) (List.replicate c v) []
  | 0=>by unfold VRr; exact ⟨rfl,rfl⟩
  | c+1=>by
    rw [List.replicate_succ,List.replicate_succ]
    unfold VRr
    exact ⟨v,_,[],[],rfl,rfl,h,zQc h c⟩
theorem zNV:∀ {rows:List (List AV)} {vr:List (List Value)} {fp:List Nat},VRr w A κ rows vr fp → ∀ r,r∈vr → ∀ u,u∈r→u.oneCell'=true
  | [],_,_,h=>by unfold VRr at h; rw [h.1]; simp
  | r::rs,_,_,h=>by
    unfold VRr at h
    obtain ⟨u,vs',f1,f2,rfl,rfl,h4,h5⟩:=h
    intro x hx
    rcases List.mem_cons.1 hx with rfl | hx
    · exact zLs h4
    · exact zNV h5 x hx
theorem zND {sz:Nat}:∀ {rows:List (List AV)} {vr:List (List Value)} {fp:List Nat},VRr w A κ rows vr fp→(∀ r,r∈rows→r.length=sz) → ∀ r,r∈vr→r.length=sz
  | [],_,_,h,_=>by unfold VRr at h; rw [h.1]; simp
  | r::rs,_,_,h,hl=>by
    unfold VRr at h
    obtain ⟨u,vs',f1,f2,rfl,rfl,h4,h5⟩:=h
    intro x hx
    rcases List.mem_cons.1 hx with rfl | hx
    · rw [zEY h4]; exact hl r (by simp)
    · exact zND h5 (fun r hr=>hl r (by simp [hr])) x hx
theorem zRy {full:Bool} {rows:List (List AV)} {v:Value} {sz:Nat} (h:VR w A κ (.sl full rows) v []) (hl:∀ r,r∈rows→r.length=sz):∃ vr,Src w sz v vr∧VRr w A [] rows vr []:=by
  unfold VR at h
  obtain ⟨_,a,c,rfl,h3,h4,h5,h6⟩:=h
  rcases h6 with rfl | ⟨b,o,sz',vr,rfl,hA,hb,h7,h8,h9⟩
  · exact ⟨[],⟨a,c,rfl,Nat.zero_le _,fun r hr=>by simp at hr,fun r hr=>by simp at hr,.inl rfl⟩,by unfold VRr; exact ⟨rfl,rfl⟩⟩
  · have hlen:=zE6 h7
    exact ⟨vr,⟨some ⟨b,o,none⟩,c,by rw [hlen],by omega,zND h7 hl,zNV h7,.inr ⟨b,o,rfl,h9⟩⟩,h7⟩
end
section
variable {P:Program} {n m:Nat} {e e':zCH} {H G:zAQ} {x y:Operand} {k j o:Nat} {ty t:TypeId} {ops:Array Oper} {rest:List Oper} {kk:zCH→zAQ→Prop} {d tt:Nat} {p:String} {af:Array Edge}
theorem zRS {el sz bytes:Nat} {z:Value} {kx ky:IntKind} {a c:Int} {zr:List AV} (hE:zKZ P el sz z bytes) (hzr:zFR (z.cells.toList.map .lit) zr) (hz1:z.cells.toList.all (·.oneCell')=true) (ht:P.underlying t=some (.slice el)) (hx:aev n e x = .lit (.int kx a)) (hy:aev n e y = .lit (.int ky c))
    (hb:(decide (0≤a)&&decide (a≤c)&&decide (c*(bytes:Int)≤4294967296))=true) (hk:ALW P n m ops rest kk (zHr e d (.hd H.length)) (H++[.vec el sz (List.replicate a.toNat zr)])) :
    ALW P n m ops (⟨some d,.makeSlice t x y,tt,p,af,none⟩::rest) kk e H:=by
  intro w A0 κ fp F h1 h2
  simp only [Bool.and_eq_true,decide_eq_true_eq] at hb
  have hx':=zAg h2 hx
  have hy':=zAg h2 hy
  rw [← Int.toNat_of_nonneg hb.1.1] at hx'
  rw [← Int.toNat_of_nonneg (show 0≤c by omega)] at hy'
  refine zSl hE ht hx' hy' (by omega) ?_ ?_
  · have h3:((c.toNat:Nat):Int)=c:=Int.toNat_of_nonneg (by omega)
    have h4:=hb.2
    rw [← h3] at h4
    have:((c.toNat*bytes:Nat):Int)≤4294967296:=by rw [Int.natCast_mul]; exact h4
    omega
  · intro b w' hb1 hb2 hkp hO
    have hvz:=hzr.vrs (zLK (w:=w') (A:=fun _=>False) (κ:=[]) _ hz1)
    have hs:=h1.push (e2 := .vec el sz (List.replicate a.toNat zr)) (v2 := .slice (some ⟨b,0,none⟩) a.toNat c.toNat) (f2:=[b]) (w':=w') (KpS.of hkp (fun q hq=>by cases hq)) (by simp; omega) (by simp)
      (fun mv=>⟨some b,_,[],hO,zQc (hzr.vrs (zLK _ hz1)) _,rfl⟩)
    refine zCW (hk w' A0 _ _ _ hs.1 ((h2.mv (hs.2.mv A0)).upd ?_)) (fun _ _=>zAr (hs.2.m m))
    unfold VR
    exact ⟨by rw [← h1.len,List.getElem?_append_right (Nat.le_refl _)]; simp,rfl⟩
theorem zLe {el sz bytes:Nat} {z:Value} (hE:zKZ P el sz z bytes) (ht:P.underlying t=some (.slice el)) (hk:ALW P n m ops rest kk (zHr e d (.hd H.length)) (H++[.vec el sz []])) :
    ALW P n m ops (⟨some d,.buildSlice t 0 #[],tt,p,af,none⟩::rest) kk e H:=by
  intro w A0 κ fp F h1 h2
  refine zS1 hE ht ?_
  intro b w' hb1 hb2 hkp hO
  have hs:=h1.push (e2 := .vec el sz []) (v2 := .slice (some ⟨b,0,none⟩) 0 0) (f2:=[b]) (w':=w') (KpS.of hkp (fun q hq=>by cases hq)) (by simp; omega) (by simp)
    (fun mv=>⟨some b,_,[],hO,by unfold VRr; exact ⟨rfl,rfl⟩,rfl⟩)
  refine zCW (hk w' A0 _ _ _ hs.1 ((h2.mv (hs.2.mv A0)).upd ?_)) (fun _ _=>zAr (hs.2.m m))
  unfold VR
  exact ⟨by rw [← h1.len,List.getElem?_append_right (Nat.le_refl _)]; simp,rfl⟩
def zJM:AV→List AV
  | .agg cs=>cs
  | a=>[a]
def nrE (a:AV):Bool:=match a with
  | .lit _ | .sl .. | .rp .. => true
  | _=>false
def nrP (a:AV):Bool:=match a with
  | .lit u=>u.oneCell'
  | .sl .. | .rp .. => true
  | .agg cs=>cs.all nrE
  | _=>false
theorem zTp {w:World} {A:Nat→Prop} {κ κ':List Value} {a:AV} {v:Value} (h:nrP a=true) (hv:VR w A κ a v []):∃ r,v.cells=r.toArray∧VRs w A κ' (zJM a) r []:=by
  cases a with
  | agg cs =>
    unfold VR at hv
    obtain ⟨vs,rfl,hv⟩:=hv
    refine ⟨vs,rfl,zKv ?_ hv⟩
    simp only [nrP] at h
    refine List.all_eq_true.2 (fun a ha => ?_)
    have:=List.all_eq_true.1 h a ha
    cases a <;> simp_all [nrE,nr]
  | lit u =>
    have h1:v=u:=zQ0 hv
    subst h1
    exact ⟨[v],zJR h,by unfold zJM VRs; exact ⟨v,[],[],[],rfl,rfl,h,zHS _ _ _ _,by unfold VRs; exact ⟨rfl,rfl⟩⟩⟩
  | sl f rows =>
    have h1:=zUN (a := .sl f rows) rfl hv
    exact ⟨[v],zJR h1,by unfold zJM VRs; exact ⟨v,[],[],[],rfl,rfl,h1,zM8 (a := .sl f rows) rfl hv,by unfold VRs; exact ⟨rfl,rfl⟩⟩⟩
  | rp f rows =>
    have h1:=zUN (a := .rp f rows) rfl hv
    exact ⟨[v],zJR h1,by unfold zJM VRs; exact ⟨v,[],[],[],rfl,rfl,h1,zM8 (a := .rp f rows) rfl hv,by unfold VRs; exact ⟨rfl,rfl⟩⟩⟩
  | _=>simp [nrP] at h
theorem zGR {el sz bytes:Nat} {z:Value} {a:AV} (hE:zKZ P el sz z bytes) (ht:P.underlying t=some (.slice el)) (hx:aev n e x=a) (ha:nrP a=true) (hl:(zJM a).length=sz) (hsz:Nat.ble sz 16=true) (hk:ALW P n m ops rest kk (zHr e d (.hd H.length)) (H++[.vec el sz [zJM a]])) :
    ALW P n m ops (⟨some d,.buildSlice t 1 #[(0,x)],tt,p,af,none⟩::rest) kk e H:=by
  intro w A0 κ fp F h1 h2
  have hv:=h2.ev x
  rw [hx] at hv
  obtain ⟨r,hr1,hr2⟩:=zTp (κ':=[]) ha hv
  refine zSI hE ht rfl hr1 (by rw [zEY hr2,hl]) (Nat.le_of_ble_eq_true hsz) ?_
  intro b w' hb1 hb2 hkp hO
  have hs:=h1.push (e2 := .vec el sz [zJM a]) (v2 := .slice (some ⟨b,0,none⟩) 1 1) (f2:=[b]) (w':=w') (KpS.of hkp (fun q hq=>by cases hq)) (by simp; omega) (by simp)
    (fun mv=>⟨some b,_,[],hO,by unfold VRr; exact ⟨r,[],[],[],rfl,rfl,VRs.mv mv.nil _ _ _ (fun _ hq=>by cases hq) hr2,by unfold VRr; exact ⟨rfl,rfl⟩⟩,rfl⟩)
  refine zCW (hk w' A0 _ _ _ hs.1 ((h2.mv (hs.2.mv A0)).upd ?_)) (fun _ _=>zAr (hs.2.m m))
  unfold VR
  exact ⟨by rw [← h1.len,List.getElem?_append_right (Nat.le_refl _)]; simp,rfl⟩
theorem zLt {w:World} {A0:Nat→Prop} {κ:List Value} {fp:Nat→List Nat} {F:Env} {el sz bytes:Nat} {z:Value} {rows ns:List (List AV)} (h1:SH w A0 H κ fp) (h2:zJz w (avd A0 fp) κ n e F) (hE:zKZ P el sz z bytes) (ht:P.underlying t=some (.slice el))
    (hx:aev n e x = .hd k) (hkk:H[k]?=some (.vec el sz rows)) {xv:Value} (hy:ev n F y=xv) {vn:List (List Value)} (hsrc:Src w sz xv vn) (hvn:VRr w (avd A0 fp) [] ns vn []) (hb:decide ((rows.length+ns.length)*bytes≤4294967296)=true)
    (hk:ALW P n m ops rest kk (zHr e d (.hd H.length)) (H.set k .dead++[.vec el sz (rows++ns)])) :
    LW P n ops (⟨some d,.call { callee := .builtin .append,args := #[x,y],argTypes := #[t,t] },tt,p,af,none⟩::rest) (conc n m w A0 κ fp kk) F w:=by
  have hv:=h2.ev x
  rw [hx] at hv
  unfold VR at hv
  obtain ⟨g,vr,f',hO,hr,hfp,hlen⟩:=zIP h1 hkk hv.1
  have hnl:=zE6 hvn
  refine zQt hE ht rfl hy hO hsrc (by rw [hlen,hnl]; exact of_decide_eq_true hb) ?_
  intro v' g' w' hO' hkp hg'
  have hnd:=h1.nd k
  rw [hfp] at hnd
  have hgl:∀ q,q∈g'.toList→q∈g.toList∨w.heap.size≤q:=fun q hq=>by
    rcases hg' with rfl | ⟨b,rfl,hb⟩
    · exact .inl hq
    · simp at hq; subst hq; exact .inr hb
  have hs:=h1.setpush (w':=w') (k:=k) (e1 := .dead) (e2 := .vec el sz (rows++ns)) (v2:=v') (f1:=[]) (f2:=g'.toList++f') (zAS hkk) (KpS.of hkp (fun q hq=>by rw [hfp]; exact List.mem_append_left _ hq)) (by simp)
    (fun q hq=>by
      rcases List.mem_append.1 hq with hq | hq
      · rcases hgl q hq with h | h
        · exact .inl (by rw [hfp]; exact List.mem_append_left _ h)
        · exact .inr h
      · exact .inl (by rw [hfp]; exact List.mem_append_right _ hq)) (by simp)
    (by
      rw [List.nodup_append] at hnd ⊢
      refine ⟨by cases g' <;> simp,hnd.2.1,fun a ha b hb => ?_⟩
      rintro rfl
      rcases hgl a ha with h | h
      · exact hnd.2.2 a h a hb rfl
      · have:=h1.lt k a (by rw [hfp]; exact List.mem_append_right _ hb); omega) (by simp)
    (fun _ _ _=>rfl)
    (fun mv=>⟨g',vr++vn,f',hO',by
      have hsame:∀ q,q∈f'→w'.heap[q]?=w.heap[q]?:=fun q hq=>hkp.block q (h1.lt k q (by rw [hfp]; exact List.mem_append_right _ hq)) (fun hm=>by
        rw [List.nodup_append] at hnd; exact hnd.2.2 q hm q hq rfl)
      have:=zH9.2 ⟨vr,vn,f',[],rfl,rfl,VRr.mv mv.nil _ _ _ hsame hr,VRr.mv mv.nil _ _ _ (fun _ hq=>by cases hq) hvn⟩
      rwa [List.append_nil] at this,rfl⟩)
  refine zCW (hk w' A0 _ _ _ hs.1 ((h2.mv (hs.2.mv A0)).upd ?_)) (fun _ _=>zAr (hs.2.m m))
  unfold VR
  exact ⟨by rw [← h1.len,List.getElem?_append_right (Nat.le_refl _)]; simp,rfl⟩
theorem zPn {el sz bytes:Nat} {z:Value} {rows ns:List (List AV)} {full:Bool} (hE:zKZ P el sz z bytes) (ht:P.underlying t=some (.slice el)) (hx:aev n e x = .hd k) (hkk:H[k]?=some (.vec el sz rows)) (hy:aev n e y = .sl full ns) (hl:∀ r,r∈ns→r.length=sz) (hb:decide ((rows.length+ns.length)*bytes≤4294967296)=true)
    (hk:ALW P n m ops rest kk (zHr e d (.hd H.length)) (H.set k .dead++[.vec el sz (rows++ns)])) :
    ALW P n m ops (⟨some d,.call { callee := .builtin .append,args := #[x,y],argTypes := #[t,t] },tt,p,af,none⟩::rest) kk e H:=by
  intro w A0 κ fp F h1 h2
  have hyv:=h2.ev y
  rw [hy] at hyv
  obtain ⟨vn,hs1,hs2⟩:=zRy hyv hl
  exact zLt h1 h2 hE ht hx hkk rfl hs1 hs2 hb hk
theorem zSD:∀ {w:World} {A:Nat→Prop} {κ:List Value} {rows:List (List AV)} {vr:List (List Value)} {fp:List Nat},(rows.all fun r=>r.all isE)=true→VRr w A κ rows vr fp→fp=[]
  | _,_,_,[],_,_,_,h=>by unfold VRr at h; exact h.2
  | _,_,_,a::la,_,_,hE,h=>by
    simp only [List.all_cons,Bool.and_eq_true] at hE
    unfold VRr at h
    obtain ⟨u,vs',f1,f2,rfl,rfl,h4,h5⟩:=h
    rw [zQQ hE.1 h4,zSD hE.2 h5]; rfl
theorem zOe {el sz bytes:Nat} {z:Value} {rows ns:List (List AV)} {el':Nat} (hE:zKZ P el sz z bytes) (ht:P.underlying t=some (.slice el)) (hx:aev n e x = .hd k) (hkk:H[k]?=some (.vec el sz rows)) (hy:aev n e y = .hd j) (hj:H[j]?=some (.vec el' sz ns)) (hEE:(ns.all fun r=>r.all isE)=true) (hb:decide ((rows.length+ns.length)*bytes≤4294967296)=true)
    (hk:ALW P n m ops rest kk (zHr e d (.hd H.length)) (H.set k .dead++[.vec el sz (rows++ns)])) :
    ALW P n m ops (⟨some d,.call { callee := .builtin .append,args := #[x,y],argTypes := #[t,t] },tt,p,af,none⟩::rest) kk e H:=by
  intro w A0 κ fp F h1 h2
  have hyv:=h2.ev y
  rw [hy] at hyv
  unfold VR at hyv
  obtain ⟨g,vn,f',hO,hr,hfp,hlen⟩:=zIP h1 hj hyv.1
  have:=zSD hEE hr
  subst this
  exact zLt h1 h2 hE ht hx hkk rfl (zPs hO (zNV hr)) hr hb hk
theorem zNT {el sz:Nat} (hd:e d = .lit (.slice none 0 0)):Rep n m e H (zHr e d (.hd H.length)) (H++[.vec el sz []]):=by
  intro w A0 κ fp F h1 h2
  have hs:=h1.push (e2 := .vec el sz []) (v2 := .slice none 0 0) (f2:=[]) (w':=w) (KpS.refl _ _) (by simp) (by simp) (fun _=>⟨none,[],[],zQF w el sz,by unfold VRr; exact ⟨rfl,rfl⟩,rfl⟩)
  refine ⟨_,_,hs.1,fun i hi => ?_,hs.2.m m⟩
  have h3:=(h2.mv (hs.2.mv A0)) i hi
  unfold zHr
  cases hb:Nat.beq i d with
  | false=>exact h3
  | true =>
    have hid:i=d:=Nat.eq_of_beq_eq_true hb
    subst hid
    have h4:=h2 i hi
    rw [hd] at h4
    have h5:=zQ0 h4
    show VR _ _ _ (.hd H.length) _ _
    unfold VR
    exact ⟨by rw [h5, ← h1.len,List.getElem?_append_right (Nat.le_refl _)]; simp,rfl⟩
theorem zQD {cs sp:List Value} {j:Nat} {v:Value} (h:j<cs.length):(cs++sp).set j v=cs.set j v++sp:=List.set_append_left _ _ h
theorem zQz {rows:List (List Value)} {sz i j:Nat} (h:∀ r,r∈rows→r.length=sz) (hi:i<rows.length) (hj:j<sz):i*sz+j<rows.flatten.length:=by
  rw [zDn h]
  have:(i+1)*sz≤rows.length*sz:=Nat.mul_le_mul_right _ hi
  rw [Nat.succ_mul] at this
  omega
theorem zJ3 {w':World} {T sz b cap:Nat} {v:Value} {vr vr':List (List Value)} {sp:List Value} (hv:v = .slice (some ⟨b,0,none⟩) vr.length cap) (h3:vr.length≤cap) (h4:vr.length≤140737488355328∧cap≤maxLen) (h5:Blk w' b T (vr'.flatten++sp)) (h6:(vr.flatten++sp).length=cap*sz) (hl:∀ r,r∈vr→r.length=sz) (hl':∀ r,r∈vr'→r.length=sz) (hn:vr'.length=vr.length):zJN w' T sz (some b) v vr':=by
  refine ⟨hl',.inr ⟨b,cap,sp,rfl,by rw [hn]; exact hv,by omega,by rw [hn]; exact h4,h5,?_⟩⟩
  have e1:=zDn hl
  have e2:=zDn hl'
  rw [hn] at e2
  simp only [List.length_append] at h6 ⊢
  omega
theorem zNm {s i c:Nat} {T:TypeId} {rows:List (List AV)} {row:List AV} {a:AV} (hz:∀ w,(sizeOf t).run P w = .ok 1 w) (hx:aev n e x = .ptr k o) (hk:H[k]?=some (.vec T s rows)) (ho:o=i*s+c) (hr:rows[i]?=some row) (hc:c<row.length) (hy:aev n e y=a) (ha:isC a=true) (hn:nr a=true) :
    zPE P n e H (.store t x y) (H.set k (.vec T s (rows.set i (row.set c a)))):=by
  intro w A0 κ fp F h1 h2
  have hv:=h2.ev x
  rw [hx] at hv
  unfold VR at hv
  obtain ⟨_,u,b,g1,g2,hv⟩:=hv
  obtain ⟨vr,cap,sp,f',hO,h6,h7,h8,h9,h10,h3,h4,h5,hls⟩:=zLn h1 hk g1 g2
  have hyv:=h2.ev y
  rw [hy] at hyv
  have hone:=zUN ha hyv
  obtain ⟨v1,r,v2,f1,f2,f3,rfl,hl1,rfl,q1,q2,q3⟩:=zK1 h3 hr
  have hco:=List.getElem?_eq_getElem hc
  obtain ⟨p1,pv,p2,f4,f5,f6,rfl,hl2,rfl,_,q4,q5,q6⟩:=zJA q2 hco
  have hrl:=hls _ (List.mem_of_getElem? (zG5 hl1))
  have hcs:c<s:=by rw [← hrl]; simp; omega
  have hil:i<(v1++(p1++pv::p2)::v2).length:=by simp; omega
  have hfl:=zQz hls hil hcs
  subst ho
  have hkp:Kp [b] w (w.setCell ⟨b,i*s+c,none⟩ (ev n F y)):=Kp.setCell w ⟨b,i*s+c,none⟩ (ev n F y)
  have hnd:=h1.nd k
  rw [h4] at hnd
  have hsub:(b::(f1++((f4++([]++f6))++f3))).Sublist (b::(f1++((f4++(f5++f6))++f3))):=(zJF (zJF (List.nil_sublist _))).cons_cons b
  have hs:=h1.set1 (k:=k) (e1 := .vec T s (rows.set i (row.set c a))) (f1:=b::(f1++((f4++([]++f6))++f3))) (zAS hk) (KpS.of hkp (fun x hx=>by simp at hx; subst hx; rw [h4]; simp)) (fun x hx => .inl (by rw [h4]; exact hsub.mem hx)) (hnd.sublist hsub) (fun v' hv' mv=>by
    rw [g1] at hv'
    cases hv'
    have hne:∀ q,q∈f1++((f4++(f5++f6))++f3)→(w.setCell ⟨b,i*s+c,none⟩ (ev n F y)).heap[q]?=w.heap[q]?:=fun q hq=>by
      have hql:q<w.heap.size:=h1.lt k q (by rw [h4]; exact List.mem_cons_of_mem _ hq)
      exact hkp.block q hql (by simp; rintro rfl; exact (List.nodup_cons.1 hnd).1 hq)
    refine ⟨some b,v1++(p1++ev n F y::p2)::v2,_,?_,?_,rfl⟩
    · refine zJ3 h6 h7 h8 ?_ h10 hls (fun r hr => ?_) (by simp)
      · have:=h9.set (j:=i*s+c) (v:=ev n F y)
        rw [zQD hfl,zPA hls (zG5 hl1) hcs,zLy hl2,zLy hl1] at this
        exact this
      · simp only [List.mem_append,List.mem_cons] at hr
        rcases hr with hr | rfl | hr
        · exact hls r (by simp [hr])
        · rw [← hrl]; simp
        · exact hls r (by simp [hr])
    · rw [zIK _ (zAS hr),zIK _ hc]
      exact zNN (VRr.mv mv.nil _ _ _ (fun q hq=>hne q (by simp [hq])) q1) (zK0 (VRs.mv mv.nil _ _ _ (fun q hq=>hne q (by simp [hq])) q4) (zM8 hn (VR.mv mv _ _ _ (fun q hq=>by cases hq) hyv)) hone (VRs.mv mv.nil _ _ _ (fun q hq=>hne q (by simp [hq])) q6)) (VRr.mv mv.nil _ _ _ (fun q hq=>hne q (by simp [hq])) q3))
  exact ⟨_,_,_,zKT hz h9 (by simp only [List.length_append]; omega) hone hv rfl,hs.1,hs.2⟩
theorem zOA {s i:Nat} {T:TypeId} {rows:List (List AV)} {la:List AV} (hz:∀ w,(sizeOf t).run P w = .ok s w) (hx:aev n e x = .ptr k o) (hk:H[k]?=some (.vec T s rows)) (ho:o=i*s) (hi:i<rows.length) (hy:aev n e y = .agg la) (hl:la.length=s) (hn:la.all nr=true) :
    zPE P n e H (.store t x y) (H.set k (.vec T s (rows.set i la))):=by
  intro w A0 κ fp F h1 h2
  have hv:=h2.ev x
  rw [hx] at hv
  unfold VR at hv
  obtain ⟨_,u,b,g1,g2,hv⟩:=hv
  obtain ⟨vr,cap,sp,f',hO,h6,h7,h8,h9,h10,h3,h4,h5,hls⟩:=zLn h1 hk g1 g2
  have hyv:=h2.ev y
  rw [hy] at hyv
  unfold VR at hyv
  obtain ⟨ys,hy',hyr⟩:=hyv
  have hyl:=zEY hyr
  obtain ⟨v1,r,v2,f1,f2,f3,rfl,hl1,rfl,q1,q2,q3⟩:=zK1 h3 (List.getElem?_eq_getElem hi)
  have hrl:=hls _ (List.mem_of_getElem? (zG5 hl1))
  have hil:i<(v1++r::v2).length:=by simp; omega
  subst ho
  have hfl:i*s+ys.length≤(v1++r::v2).flatten.length:=by
    rw [zDn hls,hyl,hl, ← Nat.succ_mul]
    exact Nat.mul_le_mul_right _ hil
  obtain ⟨w',r1,hkp,_,r4⟩:=zKS (P:=P) (by rw [hyl,hl]; exact hz) h9 (by simp only [List.length_append] at hfl ⊢; omega) (zLs hyr) hv hy'
  have hnd:=h1.nd k
  rw [h4] at hnd
  have hsub:(b::(f1++([]++f3))).Sublist (b::(f1++(f2++f3))):=(zJF (List.nil_sublist _)).cons_cons b
  have hs:=h1.set1 (k:=k) (e1 := .vec T s (rows.set i la)) (f1:=b::(f1++([]++f3))) (zAS hk) (KpS.of hkp (fun x hx=>by simp at hx; subst hx; rw [h4]; simp)) (fun x hx => .inl (by rw [h4]; exact hsub.mem hx)) (hnd.sublist hsub) (fun v' hv' mv=>by
    rw [g1] at hv'
    cases hv'
    have hne:∀ q,q∈f1++(f2++f3)→w'.heap[q]?=w.heap[q]?:=fun q hq=>by
      have hql:q<w.heap.size:=h1.lt k q (by rw [h4]; exact List.mem_cons_of_mem _ hq)
      exact hkp.block q hql (by simp; rintro rfl; exact (List.nodup_cons.1 hnd).1 hq)
    refine ⟨some b,v1++ys::v2,_,?_,?_,rfl⟩
    · refine zJ3 h6 h7 h8 ?_ h10 hls (fun r hr => ?_) (by simp)
      · have e1:zDF ((v1++r::v2).flatten++sp) (i*s) ys=(v1++ys::v2).flatten++sp:=by
          have:=zPa hls (i:=i) (vs:=ys) hil (by rw [hyl,hl])
          rw [zLy hl1] at this
          rw [← this]
          unfold zDF
          rw [List.take_append_of_le_length (by omega),List.drop_append_of_le_length hfl]
          simp
        rw [e1] at r4
        exact r4
      · simp only [List.mem_append,List.mem_cons] at hr
        rcases hr with hr | rfl | hr
        · exact hls r (by simp [hr])
        · rw [hyl,hl]
        · exact hls r (by simp [hr])
    · rw [zIK _ hi]
      exact zNN (VRr.mv mv.nil _ _ _ (fun q hq=>hne q (by simp [hq])) q1) (zKv hn (VRs.mv mv _ _ _ (fun q hq=>by cases hq) hyr)) (VRr.mv mv.nil _ _ _ (fun q hq=>hne q (by simp [hq])) q3))
  exact ⟨_,_,_,r1,hs.1,hs.2⟩
end
end Go.Am
