/-
  Operations on abstract values: tuples, lengths, addresses, loads, new variables, stores.
  Conditions: none: plain theorems over whatever program P.
-/
import Derived.Test.YtplkliakhdkpcaaGreatAmD
set_option linter.unusedVariables false
set_option linter.unusedSimpArgs false
namespace Go.Am
open Go Go.RowKit Go.Wk
def isE:AV→Bool
  | .any | .lit _ | .sl .. | .hd _ | .ptr .. | .rp .. => true
  | _=>false
def isC:AV→Bool
  | .lit u=>u.oneCell'
  | .sl .. | .ptr .. | .rp .. => true
  | _=>false
def zMw (cs:List AV) (o:Nat) (la:List AV):List AV:=cs.take o++(la++cs.drop (o+la.length))
theorem zQv (w:World) (A:Nat→Prop) (κ:List Value):Mv w A [] w A κ:=⟨Nat.le_refl _,fun _ _ _=>rfl,fun _ h => .inl h,fun _ _ h=>by simp at h⟩
theorem zUK {β:Type} {a b c:List β} (h : []=a++(b++c)):a=[]∧b=[]∧c=[]:=by
  have:=h.symm
  simpa using this
section
variable {w w':World} {A A':Nat→Prop} {κ κ':List Value}
theorem zSp {a:AV} {v:Value} {fp:List Nat} (h:isE a=true) (hv:VR w A κ a v fp):fp=[]:=by
  cases a <;> (unfold VR at hv; simp [isE] at h) <;> first | exact hv.1 | exact hv.2 | exact hv
theorem zUN {a:AV} {v:Value} {fp:List Nat} (h:isC a=true) (hv:VR w A κ a v fp):v.oneCell'=true:=by
  cases a <;> (unfold VR at hv; simp only [isC,Bool.false_eq_true] at h)
  · rw [hv.1]; exact h
  · obtain ⟨_,a,c,rfl,_⟩:=hv; rfl
  · obtain ⟨_,u,b,_,_,rfl⟩:=hv; rfl
  · obtain ⟨_,b,o,vs,rfl,_⟩:=hv; rfl
theorem zQQ:∀ {la:List AV} {vs:List Value} {fp:List Nat},la.all isE=true→VRs w A κ la vs fp→fp=[]
  | [],_,_,_,h=>by unfold VRs at h; exact h.2
  | a::la,_,_,hE,h=>by
    simp only [List.all_cons,Bool.and_eq_true] at hE
    unfold VRs at h
    obtain ⟨u,vs',f1,f2,rfl,rfl,_,h4,h5⟩:=h
    rw [zSp hE.1 h4,zQQ hE.2 h5]; rfl
theorem zOP:∀ {la:List AV} {vs:List Value} {i:Nat} {a:AV},VRt w A κ la vs []→la[i]?=some a → ∃ v,vs[i]?=some v∧VR w A κ a v []
  | [],_,_,_,_,h=>by simp at h
  | x::la,vs,i,a,h,hi=>by
    unfold VRt at h
    obtain ⟨u,vs',f1,f2,rfl,hf,h4,h5⟩:=h
    obtain ⟨rfl,rfl⟩:=List.append_eq_nil_iff.1 hf.symm
    cases i with
    | zero=>simp at hi; subst hi; exact ⟨u,rfl,h4⟩
    | succ i =>
      obtain ⟨v,g1,g2⟩:=zOP (i:=i) h5 (by simpa using hi)
      exact ⟨v,by simpa using g1,g2⟩
theorem zJA {cs:List AV} {vs:List Value} {fp:List Nat} (h:VRs w A κ cs vs fp) {i:Nat} {a:AV} (ha:cs[i]?=some a) :
    ∃ v1 v v2 f1 f2 f3,vs=v1++v::v2∧v1.length=i∧fp=f1++(f2++f3)∧v.oneCell'=true∧VRs w A κ (cs.take i) v1 f1∧VR w A κ a v f2∧VRs w A κ (cs.drop (i+1)) v2 f3:=by
  have hi:=zAS ha
  rw [zMZ ha] at h
  obtain ⟨v1,v2,f1,f2,rfl,rfl,h1,h2⟩:=zFC.1 h
  unfold VRs at h2
  obtain ⟨u,vs',g1,g2,rfl,rfl,h3,h4,h5⟩:=h2
  exact ⟨v1,u,vs',f1,g1,g2,rfl,by rw [zEY h1,List.length_take]; omega,rfl,h3,h1,h4,h5⟩
theorem zK0 {xs ys:List AV} {a:AV} {v1 v2:List Value} {v:Value} {f1 f2 f3:List Nat} (h1:VRs w A κ xs v1 f1) (h:VR w A κ a v f2) (hv:v.oneCell'=true) (h2:VRs w A κ ys v2 f3):VRs w A κ (xs++a::ys) (v1++v::v2) (f1++(f2++f3)):=by
  refine zFC.2 ⟨v1,v::v2,f1,f2++f3,rfl,rfl,h1,?_⟩
  unfold VRs
  exact ⟨v,v2,f2,f3,rfl,rfl,hv,h,h2⟩
theorem zKN {cs:List AV} {vs:List Value} {fp:List Nat} (h:VRs w A κ cs vs fp) {o m:Nat} (hm:o+m≤cs.length) :
    ∃ v1 v v2 f1 f2 f3,vs=v1++(v++v2)∧v1.length=o∧v.length=m∧fp=f1++(f2++f3)∧VRs w A κ (cs.take o) v1 f1∧VRs w A κ ((cs.drop o).take m) v f2∧VRs w A κ (cs.drop (o+m)) v2 f3:=by
  have e1:cs=cs.take o++((cs.drop o).take m++cs.drop (o+m)):=by
    rw [← List.drop_drop,List.take_append_drop,List.take_append_drop]
  rw [e1] at h
  obtain ⟨v1,v2,f1,f2,rfl,rfl,h1,h2⟩:=zFC.1 h
  obtain ⟨v3,v4,f3,f4,rfl,rfl,h3,h4⟩:=zFC.1 h2
  exact ⟨v1,v3,v4,f1,f3,f4,rfl,by rw [zEY h1,List.length_take]; omega,by rw [zEY h3,List.length_take,List.length_drop]; omega,rfl,h1,h3,h4⟩
theorem zK1 {cs:List (List AV)} {vs:List (List Value)} {fp:List Nat} (h:VRr w A κ cs vs fp) {i:Nat} {a:List AV} (ha:cs[i]?=some a) :
    ∃ v1 v v2 f1 f2 f3,vs=v1++v::v2∧v1.length=i∧fp=f1++(f2++f3)∧VRr w A κ (cs.take i) v1 f1∧VRs w A κ a v f2∧VRr w A κ (cs.drop (i+1)) v2 f3:=by
  have hi:=zAS ha
  rw [zMZ ha] at h
  obtain ⟨v1,v2,f1,f2,rfl,rfl,h1,h2⟩:=zH9.1 h
  unfold VRr at h2
  obtain ⟨u,vs',g1,g2,rfl,rfl,h4,h5⟩:=h2
  exact ⟨v1,u,vs',f1,g1,g2,rfl,by rw [zE6 h1,List.length_take]; omega,rfl,h1,h4,h5⟩
theorem zNN {xs ys:List (List AV)} {a:List AV} {v1 v2:List (List Value)} {v:List Value} {f1 f2 f3:List Nat} (h1:VRr w A κ xs v1 f1) (h:VRs w A κ a v f2) (h2:VRr w A κ ys v2 f3):VRr w A κ (xs++a::ys) (v1++v::v2) (f1++(f2++f3)):=by
  refine zH9.2 ⟨v1,v::v2,f1,f2++f3,rfl,rfl,h1,?_⟩
  unfold VRr
  exact ⟨v,v2,f2,f3,rfl,rfl,h,h2⟩
theorem zG5 {β:Type} {v1 v2:List β} {v:β} {i:Nat} (h:v1.length=i):(v1++v::v2)[i]?=some v:=by
  subst h; simp
theorem zLy {β:Type} {v1 v2:List β} {v v':β} {i:Nat} (h:v1.length=i):(v1++v::v2).set i v'=v1++v'::v2:=by
  subst h; simp
theorem zM0 {vr:List (List Value)} {sz i:Nat} {r:List Value} (hl:∀ r,r∈vr→r.length=sz) (hr:vr[i]?=some r) {b o:Nat} {tl:List Value} (h:Cells w b o (vr.flatten++tl)):Cells w b (o+i*sz) r:=by
  intro j u hu
  have hrl:=hl r (List.mem_of_getElem? hr)
  have hj:j<sz:=by have:=zAS hu; omega
  have:=h (i*sz+j) u ?_
  · rw [← Nat.add_assoc] at this; exact this
  · have hf:=zDn hl
    have hi:=zAS hr
    have hb:i*sz+j<vr.flatten.length:=by
      rw [hf]
      have:(i+1)*sz≤vr.length*sz:=Nat.mul_le_mul_right _ hi
      rw [Nat.succ_mul] at this
      omega
    rw [List.getElem?_append_left hb,zNb hl hr hj]
    exact hu
end
section
variable {P:Program} {n:Nat} {e:zCH} {H:zAQ} {x y:Operand} {k o:Nat} {ty:TypeId}
theorem zj {la:List AV} {i:Nat} {a:AV} (hx:aev n e x = .tup la) (hi:la[i]?=some a):zt P n e H (.extract x i) a:=by
  intro w A0 κ fp F h1 h2
  have hv:=h2.ev x
  rw [hx] at hv
  unfold VR at hv
  obtain ⟨vs,hv,hr⟩:=hv
  obtain ⟨v,g1,g2⟩:=zOP hr hi
  exact ⟨v,zOh hv (by simpa using g1),g2⟩
theorem zRo {t el:TypeId} {full:Bool} {rows:List (List AV)} (ht:P.underlying t=some (.slice el)) (hx:aev n e x = .sl full rows):zt P n e H (.call { callee := .builtin .len,args := #[x],argTypes := #[t] }) (.lit (.int .i64 (rows.length:Int))) :=
  zB9 fun w A0 κ fp F _ h2=>by
    have hv:=h2.ev x
    rw [hx] at hv
    unfold VR at hv
    obtain ⟨_,a,c,hv,_⟩:=hv
    exact zP0 ht hv
theorem zIP {w:World} {A0:Nat→Prop} {κ:List Value} {fp:Nat→List Nat} (h1:SH w A0 H κ fp) {t sz:Nat} {rows:List (List AV)} (hk:H[k]?=some (.vec t sz rows)) {v:Value} (hv:κ[k]?=some v) :
    ∃ g vr f',zJN w t sz g v vr∧VRr w (avd A0 fp) [] rows vr f'∧fp k=g.toList++f'∧vr.length=rows.length:=by
  obtain ⟨g,vr,f',h2,h3,h4⟩:=h1.ent k _ v hk hv
  exact ⟨g,vr,f',h2,h3,h4,zE6 h3⟩
theorem zQs {t el:TypeId} {t' sz:Nat} {rows:List (List AV)} (ht:P.underlying t=some (.slice el)) (hx:aev n e x = .hd k) (hk:H[k]?=some (.vec t' sz rows)):zt P n e H (.call { callee := .builtin .len,args := #[x],argTypes := #[t] }) (.lit (.int .i64 (rows.length:Int))) :=
  zB9 fun w A0 κ fp F h1 h2=>by
    have hv:=h2.ev x
    rw [hx] at hv
    unfold VR at hv
    obtain ⟨g,vr,f',h3,h4,h5,h6⟩:=zIP h1 hk hv.1
    obtain ⟨a,c,hv',_⟩:=zJ2 h3
    rw [h6] at hv'
    exact zP0 ht hv'
theorem zAd (hx:aev n e x = .ptr k o):zt P n e H (.nilCheck x) (.ptr k o):=by
  intro w A0 κ fp F h1 h2
  have hv:=h2.ev x
  rw [hx] at hv
  have hv':=hv
  unfold VR at hv
  obtain ⟨_,u,b,_,_,hv⟩:=hv
  rw [hv] at hv'
  exact ⟨_,zNi hv,hv'⟩
theorem zK {s:TypeId} {i off:Nat} {fs:Array Field} {f:Field} {z:Nat} (hs:P.underlying s=some (.struct fs)) (hf:fs[i]?=some f) (ho:f.offset=off) (hz:∀ w,(sizeOf f.type).run P w = .ok (z+1) w) (hx:aev n e x = .ptr k o) :
    zt P n e H (.fieldAddr s x i) (.ptr k (o+off)):=by
  intro w A0 κ fp F h1 h2
  have hv:=h2.ev x
  rw [hx] at hv
  unfold VR at hv
  obtain ⟨_,u,b,g1,g2,hv⟩:=hv
  exact ⟨_,zMp hs hf ho hz hv,by unfold VR; exact ⟨rfl,u,b,g1,g2,rfl⟩⟩
theorem zBP {s:TypeId} {i off:Nat} {fs:Array Field} {f:Field} {z:Nat} {row:List AV} (hs:P.underlying s=some (.struct fs)) (hf:fs[i]?=some f) (ho:f.offset=off) (hz:∀ w,(sizeOf f.type).run P w = .ok (z+1) w) (hx:aev n e x = .rp row o) :
    zt P n e H (.fieldAddr s x i) (.rp row (o+off)):=by
  intro w A0 κ fp F h1 h2
  have hv:=h2.ev x
  rw [hx] at hv
  unfold VR at hv
  obtain ⟨_,b,o',vs,hv,g⟩:=hv
  exact ⟨_,zMp hs hf ho hz hv,by unfold VR; exact ⟨rfl,b,o',vs,by rw [Nat.add_assoc],g⟩⟩
theorem zAN {t el:TypeId} {kd:IntKind} {m s:Nat} {i:Int} (ht:P.underlying t=some (.array m el)) (hs:∀ w,(sizeOf el).run P w = .ok s w) (hx:aev n e x = .ptr k o) (hy:aev n e y = .lit (.int kd i)) (hi:inb i m=true) :
    zt P n e H (.indexAddr t x y) (.ptr k (o+i.toNat*s)):=by
  intro w A0 κ fp F h1 h2
  have hv:=h2.ev x
  rw [hx] at hv
  unfold VR at hv
  obtain ⟨_,u,b,g1,g2,hv⟩:=hv
  have h3:=zAg h2 hy
  rw [← zMn hi] at h3
  exact ⟨_,zPM ht hs hv h3 (zBT hi).2,by unfold VR; exact ⟨rfl,u,b,g1,g2,rfl⟩⟩
theorem zPf {t el:TypeId} {kd:IntKind} {m s:Nat} {i:Int} {row:List AV} (ht:P.underlying t=some (.array m el)) (hs:∀ w,(sizeOf el).run P w = .ok s w) (hx:aev n e x = .rp row o) (hy:aev n e y = .lit (.int kd i)) (hi:inb i m=true) :
    zt P n e H (.indexAddr t x y) (.rp row (o+i.toNat*s)):=by
  intro w A0 κ fp F h1 h2
  have hv:=h2.ev x
  rw [hx] at hv
  unfold VR at hv
  obtain ⟨_,b,o',vs,hv,g⟩:=hv
  have h3:=zAg h2 hy
  rw [← zMn hi] at h3
  exact ⟨_,zPM ht hs hv h3 (zBT hi).2,by unfold VR; exact ⟨rfl,b,o',vs,by rw [Nat.add_assoc],g⟩⟩
theorem zQ3 {t el:TypeId} {kd:IntKind} {s:Nat} {i:Int} {full:Bool} {rows:List (List AV)} {row:List AV} (ht:P.underlying t=some (.slice el)) (hs:∀ w,(sizeOf el).run P w = .ok s w) (hx:aev n e x = .sl full rows) (hy:aev n e y = .lit (.int kd i))
    (hi:inb i rows.length=true) (hr:rows[i.toNat]?=some row) (hl:row.length=s):zt P n e H (.indexAddr t x y) (.rp row 0):=by
  intro w A0 κ fp F h1 h2
  have hv:=h2.ev x
  rw [hx] at hv
  unfold VR at hv
  obtain ⟨_,a,c,hv,h3,h4,h5,h6⟩:=hv
  have hy':=zAg h2 hy
  rw [← zMn hi] at hy'
  have hlt:=(zBT hi).2
  rcases h6 with h6 | ⟨b,o',sz,vr,rfl,hA,hb,h7,h8,h9⟩
  · rw [h6] at hlt; simp at hlt
  · obtain ⟨v1,r,v2,f1,f2,f3,rfl,hl1,hfp,g1,g2,g3⟩:=zK1 h7 hr
    obtain ⟨rfl,rfl,rfl⟩:=zUK hfp
    have hrl:r.length=s:=by rw [zEY g2,hl]
    have hsz:sz=s:=by rw [← hrl]; exact (h8 r (by simp)).symm
    subst hsz
    refine ⟨_,zNI ht hs hv hy' hlt,?_⟩
    unfold VR
    refine ⟨rfl,b,o'+i.toNat*sz,r,by rw [Nat.add_zero],hA,hb,?_,?_⟩
    · exact VRs.mv ⟨Nat.le_refl _,fun _ _ _=>rfl,fun _ h => .inl h,fun _ _ h=>by simp at h⟩ _ _ _ (fun _ _=>rfl) g2
    · exact zM0 (tl:=[]) h8 (zG5 hl1) (by simpa using h9)
theorem zP6 {t el:TypeId} {kd:IntKind} {t' s:Nat} {i:Int} {rows:List (List AV)} (ht:P.underlying t=some (.slice el)) (hs:∀ w,(sizeOf el).run P w = .ok s w) (hx:aev n e x = .hd k) (hk:H[k]?=some (.vec t' s rows)) (hy:aev n e y = .lit (.int kd i))
    (hi:inb i rows.length=true):zt P n e H (.indexAddr t x y) (.ptr k (i.toNat*s)):=by
  intro w A0 κ fp F h1 h2
  have hv:=h2.ev x
  rw [hx] at hv
  unfold VR at hv
  obtain ⟨g,vr,f',h3,h4,h5,h6⟩:=zIP h1 hk hv.1
  have hy':=zAg h2 hy
  rw [← zMn hi] at hy'
  have hlt:=(zBT hi).2
  obtain ⟨b,cap,sp,rfl,hv',_,_,_,_⟩:=zLO h3 (by rw [h6]; exact hlt)
  rw [h6] at hv'
  have hv1:=hv.1
  rw [hv'] at hv hv1
  refine ⟨_,zNI ht hs hv' hy' hlt,?_⟩
  unfold VR
  exact ⟨rfl,_,b,hv1,rfl,by rw [Nat.zero_add]⟩
theorem zN {t t':TypeId} {cs:List AV} {a:AV} (ha:∀ w,(isAgg t).run P w = .ok false w) (hx:aev n e x = .ptr k o) (hk:H[k]?=some (.box t' cs)) (hc:cs[o]?=some a) (hE:isE a=true):zt P n e H (.load t x) a:=by
  intro w A0 κ fp F h1 h2
  have hv:=h2.ev x
  rw [hx] at hv
  unfold VR at hv
  obtain ⟨_,u,b,g1,g2,hv⟩:=hv
  obtain ⟨b',vs,f',rfl,hb,hvs,hfp⟩:=h1.ent k _ u hk g1
  cases g2
  obtain ⟨v1,v,v2,f1,f2,f3,rfl,hl,rfl,ho,q1,q2,q3⟩:=zJA hvs hc
  have:=zSp hE q2
  subst this
  exact ⟨v,zP2 ha hv hb (zG5 hl),q2⟩
theorem zS {t t':TypeId} {cs la:List AV} {m:Nat} (ha:∀ w,(isAgg t).run P w = .ok true w) (hs:∀ w,(sizeOf t).run P w = .ok m w) (hx:aev n e x = .ptr k o) (hk:H[k]?=some (.box t' cs)) (hm0:Nat.ble (o+m) cs.length=true) (hc:(cs.drop o).take m=la) (hE:la.all isE=true):zt P n e H (.load t x) (.agg la):=by
  have hm:=Nat.le_of_ble_eq_true hm0
  intro w A0 κ fp F h1 h2
  have hv:=h2.ev x
  rw [hx] at hv
  unfold VR at hv
  obtain ⟨_,u,b,g1,g2,hv⟩:=hv
  obtain ⟨b',vs,f',rfl,hb,hvs,hfp⟩:=h1.ent k _ u hk g1
  cases g2
  obtain ⟨v1,v,v2,f1,f2,f3,rfl,hl,hlm,rfl,q1,q2,q3⟩:=zKN hvs hm
  rw [hc] at q2
  have:=zQQ hE q2
  subst this
  subst hlm
  refine ⟨_,zJm ha hs hv (cs:=v) ?_,by unfold VR; exact ⟨v,rfl,q2⟩⟩
  intro j u hu
  refine hb.cells (o+j) u ?_ |> fun h=>by rw [Nat.zero_add] at h; exact h
  rw [List.getElem?_append_right (by omega),hl,Nat.add_sub_cancel_left,List.getElem?_append_left (zAS hu)]
  exact hu
theorem zW {t:TypeId} {row:List AV} {a:AV} (ha:∀ w,(isAgg t).run P w = .ok false w) (hx:aev n e x = .rp row o) (hc:row[o]?=some a):zt P n e H (.load t x) a:=by
  intro w A0 κ fp F h1 h2
  have hv:=h2.ev x
  rw [hx] at hv
  unfold VR at hv
  obtain ⟨_,b,o',vs,hv,hA,hb,hvs,hcl⟩:=hv
  obtain ⟨v1,v,v2,f1,f2,f3,rfl,hl,hfp,ho,q1,q2,q3⟩:=zJA hvs hc
  obtain ⟨rfl,rfl,rfl⟩:=zUK hfp
  exact ⟨v,zKp ha hv hcl (zG5 hl),VR.mv ⟨Nat.le_refl _,fun _ _ _=>rfl,fun _ h => .inl h,fun _ _ h=>by simp at h⟩ _ _ _ (fun _ _=>rfl) q2⟩
theorem zAX {t:TypeId} {row la:List AV} {m:Nat} (ha:∀ w,(isAgg t).run P w = .ok true w) (hs:∀ w,(sizeOf t).run P w = .ok m w) (hx:aev n e x = .rp row o) (hm0:Nat.ble (o+m) row.length=true) (hc:(row.drop o).take m=la):zt P n e H (.load t x) (.agg la):=by
  have hm:=Nat.le_of_ble_eq_true hm0
  intro w A0 κ fp F h1 h2
  have hv:=h2.ev x
  rw [hx] at hv
  unfold VR at hv
  obtain ⟨_,b,o',vs,hv,hA,hb,hvs,hcl⟩:=hv
  obtain ⟨v1,v,v2,f1,f2,f3,rfl,hl,hlm,hfp,q1,q2,q3⟩:=zKN hvs hm
  obtain ⟨rfl,rfl,rfl⟩:=zUK hfp
  rw [hc] at q2
  subst hlm
  refine ⟨_,zJm ha hs hv (cs:=v) ?_,?_⟩
  · intro j u hu
    refine hcl (o+j) u ?_ |> fun h=>by rw [← Nat.add_assoc] at h; exact h
    rw [List.getElem?_append_right (by omega),hl,Nat.add_sub_cancel_left,List.getElem?_append_left (zAS hu)]
    exact hu
  · exact VR.mv (κ:=[]) (w:=w) (A:=avd A0 fp) ⟨Nat.le_refl _,fun _ _ _=>rfl,fun _ h => .inl h,fun _ _ h=>by simp at h⟩ (.agg la) (.agg v.toArray) [] (fun _ _=>rfl) (by unfold VR; exact ⟨v,rfl,q2⟩)
theorem zLn {w:World} {A0:Nat→Prop} {κ:List Value} {fp:Nat→List Nat} (h1:SH w A0 H κ fp) {t sz:Nat} {rows:List (List AV)} (hk:H[k]?=some (.vec t sz rows)) {v:Value} (hv:κ[k]?=some v) {b:Nat} (hb:zTj v=some b) :
    ∃ vr cap sp f',zJN w t sz (some b) v vr∧v = .slice (some ⟨b,0,none⟩) vr.length cap∧vr.length≤cap∧(vr.length≤140737488355328∧cap≤maxLen)∧Blk w b t (vr.flatten++sp)∧(vr.flatten++sp).length=cap*sz∧VRr w (avd A0 fp) [] rows vr f'∧fp k=b::f'∧vr.length=rows.length∧(∀ r,r∈vr→r.length=sz):=by
  obtain ⟨g,vr,f',h2,h3,h4,h5⟩:=zIP h1 hk hv
  have ho:=h2
  rcases h2.2 with ⟨_,h6,_⟩ | ⟨b',cap,sp,rfl,h6,h7,h8,h9,h10⟩
  · rw [h6] at hb; cases hb
  · rw [h6] at hb; cases hb
    exact ⟨vr,cap,sp,f',ho,h6,h7,h8,h9,h10,h3,by rw [h4]; rfl,h5,h2.1⟩
theorem zOb {t t' s i j:Nat} {rows:List (List AV)} {row:List AV} {a:AV} (ha:∀ w,(isAgg t).run P w = .ok false w) (hx:aev n e x = .ptr k o) (hk:H[k]?=some (.vec t' s rows)) (ho:o=i*s+j) (hr:rows[i]?=some row) (hc:row[j]?=some a) (hE:isE a=true):zt P n e H (.load t x) a:=by
  intro w A0 κ fp F h1 h2
  have hv:=h2.ev x
  rw [hx] at hv
  unfold VR at hv
  obtain ⟨_,u,b,g1,g2,hv⟩:=hv
  obtain ⟨vr,cap,sp,f',hO,h6,h7,h8,h9,h10,h3,h4,h5,hls⟩:=zLn h1 hk g1 g2
  obtain ⟨v1,r,v2,f1,f2,f3,rfl,hl1,rfl,q1,q2,q3⟩:=zK1 h3 hr
  obtain ⟨p1,v,p2,f4,f5,f6,rfl,hl2,rfl,_,q4,q5,q6⟩:=zJA q2 hc
  have:=zSp hE q5
  subst this
  subst ho
  refine ⟨v,zKp ha hv (zM0 hls (zG5 hl1) h9.cells |> fun h=>by rw [Nat.zero_add] at h; exact h) (zG5 hl2),VR.mv (zQv w (avd A0 fp) κ) _ _ _ (fun _ _=>rfl) q5⟩
theorem zOg {t t' s i j m:Nat} {rows:List (List AV)} {row la:List AV} (ha:∀ w,(isAgg t).run P w = .ok true w) (hs:∀ w,(sizeOf t).run P w = .ok m w) (hx:aev n e x = .ptr k o) (hk:H[k]?=some (.vec t' s rows)) (ho:o=i*s+j) (hr:rows[i]?=some row) (hm0:Nat.ble (j+m) row.length=true) (hc:(row.drop j).take m=la) (hE:la.all isE=true):zt P n e H (.load t x) (.agg la):=by
  have hm:=Nat.le_of_ble_eq_true hm0
  intro w A0 κ fp F h1 h2
  have hv:=h2.ev x
  rw [hx] at hv
  unfold VR at hv
  obtain ⟨_,u,b,g1,g2,hv⟩:=hv
  obtain ⟨vr,cap,sp,f',hO,h6,h7,h8,h9,h10,h3,h4,h5,hls⟩:=zLn h1 hk g1 g2
  obtain ⟨v1,r,v2,f1,f2,f3,rfl,hl1,rfl,q1,q2,q3⟩:=zK1 h3 hr
  obtain ⟨p1,v,p2,f4,f5,f6,rfl,hl2,hlm,rfl,q4,q5,q6⟩:=zKN q2 hm
  rw [hc] at q5
  have:=zQQ hE q5
  subst this
  subst ho
  subst hlm
  have hcl:=zM0 hls (zG5 hl1) h9.cells
  rw [Nat.zero_add] at hcl
  refine ⟨_,zJm ha hs hv (cs:=v) ?_,by unfold VR; exact ⟨v,rfl,VRs.mv (zQv w (avd A0 fp) κ) _ _ _ (fun _ _=>rfl) q5⟩⟩
  intro j' u hu
  refine hcl (j+j') u ?_ |> fun h=>by rw [← Nat.add_assoc] at h; exact h
  rw [List.getElem?_append_right (by omega),hl2,Nat.add_sub_cancel_left,List.getElem?_append_left (zAS hu)]
  exact hu
theorem zLz {t el:TypeId} {kd:IntKind} {m:Nat} {i:Int} {la:List AV} {a:AV} (ht:P.underlying t=some (.array m el)) (hs:∀ w,(sizeOf el).run P w = .ok 1 w) (ha:∀ w,(isAgg el).run P w = .ok false w) (hx:aev n e x = .agg la) (hy:aev n e y = .lit (.int kd i)) (hi:inb i m=true) (hc:la[i.toNat]?=some a) (hE:isE a=true) :
    zt P n e H (.index t x y) a:=by
  intro w A0 κ fp F h1 h2
  have hv:=h2.ev x
  rw [hx] at hv
  unfold VR at hv
  obtain ⟨vs,hv,hr⟩:=hv
  have hy':=zAg h2 hy
  rw [← zMn hi] at hy'
  obtain ⟨v1,v,v2,f1,f2,f3,rfl,hl,hfp,ho,q1,q2,q3⟩:=zJA hr hc
  have:=zSp hE q2
  subst this
  exact ⟨v,zPc ht hs ha hv hy' (zBT hi).2 (zG5 hl),q2⟩
end
end Go.Am
