/-
  Structs of which only a part is looked at.
  Conditions: none: plain theorems over whatever program P.
-/
import Derived.Test.YtplkliakhdkpcaaGreatAmS
set_option linter.unusedVariables false
set_option linter.unusedSimpArgs false
namespace Go.Am
open Go Go.RowKit Go.Wk
def zUO (cs:List AV):List AV:=cs.map fun a=>bif isE a then a else .any
section
variable {w:World} {A:Nat→Prop} {κ:List Value}
theorem zR0 {v:Value}:VR w A κ .any v []:=by unfold VR; rfl
theorem zPK:∀ {cs:List AV} {vs:List Value} {fp:List Nat},VRs w A κ cs vs fp→VRs w A κ (zUO cs) vs []
  | [],_,_,h=>by unfold VRs at h; unfold zUO; simp only [List.map_nil]; unfold VRs; exact ⟨h.1,rfl⟩
  | a::la,_,_,h=>by
    unfold VRs at h
    obtain ⟨u,vs',f1,f2,rfl,rfl,h3,h4,h5⟩:=h
    have:=zPK h5
    unfold zUO at this ⊢
    simp only [List.map_cons]
    unfold VRs
    refine ⟨u,vs',[],[],rfl,rfl,h3,?_,this⟩
    cases hE:isE a with
    | true =>
      have hf:f1=[]:=by
        have h6:VRs w A κ [a] [u] f1:=by
          unfold VRs
          exact ⟨u,[],f1,[],rfl,by simp,h3,h4,by unfold VRs; exact ⟨rfl,rfl⟩⟩
        exact zQQ (by simp [hE]) h6
      subst hf
      exact h4
    | false=>exact zR0
theorem zQu {κ':List Value}:∀ {cs:List AV} {vs:List Value} {fp:List Nat},VRs w A κ cs vs fp→VRs w A κ' (List.replicate cs.length .any) vs []
  | [],_,_,h=>by unfold VRs at h; simp only [List.length_nil,List.replicate_zero]; unfold VRs; exact ⟨h.1,rfl⟩
  | a::la,_,_,h=>by
    unfold VRs at h
    obtain ⟨u,vs',f1,f2,rfl,rfl,h3,h4,h5⟩:=h
    simp only [List.length_cons,List.replicate_succ]
    unfold VRs
    exact ⟨u,vs',[],[],rfl,rfl,h3,zR0,zQu h5⟩
end
section
variable {P:Program} {n m:Nat} {e:zCH} {H:zAQ} {x y:Operand} {k j o:Nat} {t:TypeId} {S:List Nat}
theorem zKd {hd tl:List AV} (hn:hd.all nr=true):zAs H S (.agg (hd++tl)) (.agg (hd++List.replicate tl.length .any)):=by
  intro w A0 κ fp v h1 hv
  have hv':=VR.mv (zNP w A0 fp κ S) _ _ _ (fun _ _=>rfl) hv
  unfold VR at hv' ⊢
  obtain ⟨vs,h2,h3⟩:=hv'
  obtain ⟨v1,v2,f1,f2,rfl,hf,h4,h5⟩:=zFC.1 h3
  obtain ⟨rfl,rfl⟩:=List.append_eq_nil_iff.1 hf.symm
  exact ⟨v1++v2,h2,zFC.2 ⟨v1,v2,[],[],rfl,rfl,zKv hn h4,zQu h5⟩⟩
theorem zMr {t':TypeId} {cs la:List AV} {m:Nat} (ha:∀ w,(isAgg t).run P w = .ok true w) (hs:∀ w,(sizeOf t).run P w = .ok m w) (hx:aev n e x = .ptr k o) (hk:H[k]?=some (.box t' cs)) (hm0:Nat.ble (o+m) cs.length=true) (hc:zUO ((cs.drop o).take m)=la):zt P n e H (.load t x) (.agg la):=by
  have hm:=Nat.le_of_ble_eq_true hm0
  intro w A0 κ fp F h1 h2
  have hv:=h2.ev x
  rw [hx] at hv
  unfold VR at hv
  obtain ⟨_,u,b,g1,g2,hv⟩:=hv
  obtain ⟨b',vs,f',rfl,hb,hvs,hfp⟩:=h1.ent k _ u hk g1
  cases g2
  obtain ⟨v1,v,v2,f1,f2,f3,rfl,hl,hlm,rfl,q1,q2,q3⟩:=zKN hvs hm
  have q2':=zPK q2
  rw [hc] at q2'
  subst hlm
  refine ⟨_,zJm ha hs hv (cs:=v) ?_,by unfold VR; exact ⟨v,rfl,q2'⟩⟩
  intro j u hu
  refine hb.cells (o+j) u ?_ |> fun h=>by rw [Nat.zero_add] at h; exact h
  rw [List.getElem?_append_right (by omega),hl,Nat.add_sub_cancel_left,List.getElem?_append_left (zAS hu)]
  exact hu
theorem zHo {N T:Nat} {K i:Int} {l:List (List Int)} (h:inb i N=true):Nat.blt i.toNat (cM N T K l).length=true:=by
  rw [zOz]
  simpa [Nat.blt_eq] using (zBT h).2
theorem zHU {T:TypeId} {s cs hd tl:List AV} {i:Int} {a b:AV} (hz:∀ w,(sizeOf t).run P w = .ok 1 w) (hx:aev n e x = .ptr k o) (hk:H[k]?=some (.box T cs)) (hcs:cs=hd++(s.set i.toNat b++tl)) (ho:o=hd.length+i.toNat) (hi:Nat.blt i.toNat s.length=true) (hy:aev n e y=a) (hc:zQO H a=true) :
    zPE P n e H (.store t x y) (H.set k (.box T (hd++(s.set i.toNat a++tl)))):=by
  have:=zL7 (T:=T) hz hx hk hcs ho (by rw [List.length_set]; exact hi) hy hc
  rw [List.set_set] at this
  exact this
theorem zKF {t':TypeId} {cs:List AV} {m:Nat} (ha:∀ w,(isAgg t).run P w = .ok true w) (hs:∀ w,(sizeOf t).run P w = .ok m w) (hx:aev n e x = .ptr k 0) (hk:H[k]?=some (.box t' cs)) (hm:cs.length=m) :
    zLE P n e H (.load t x) (.hd H.length) (H.set k .dead++[.val (.agg cs)]):=by
  intro w A0 κ fp F h1 h2
  have hv:=h2.ev x
  rw [hx] at hv
  unfold VR at hv
  obtain ⟨_,u,b,g1,g2,hv⟩:=hv
  obtain ⟨b',vs,f',rfl,hb,hvs,hfp⟩:=h1.ent k _ u hk g1
  cases g2
  have hnd:=h1.nd k
  rw [hfp] at hnd
  have hs1:=h1.setpush (w':=w) (k:=k) (e1 := .dead) (e2 := .val (.agg cs)) (v2 := .agg vs.toArray) (f1:=[]) (f2:=f') (zAS hk) (KpS.refl _ _) (by simp) (fun q hq => .inl (by rw [hfp]; exact List.mem_cons_of_mem _ hq)) (by simp) (List.nodup_cons.1 hnd).2 (by simp) (fun _ _ _=>rfl)
    (fun mv=>by
      show VR _ _ _ (.agg cs) _ _
      unfold VR
      exact ⟨vs,rfl,VRs.mv mv _ _ _ (fun _ _=>rfl) hvs⟩)
  subst hm
  rw [← zEY hvs] at hs
  refine ⟨.agg vs.toArray,w,_,_,zJm ha hs hv (cs:=vs) ?_ , hs1.1,?_,hs1.2⟩
  · intro j u hu
    refine hb.cells j u ?_ |> fun h=>by rw [Nat.zero_add] at h; rw [Nat.zero_add]; exact h
    exact hu
  · unfold VR
    exact ⟨by rw [← h1.len,List.getElem?_append_right (Nat.le_refl _)]; simp,rfl⟩
def zP9 (P:Program) (n m:Nat) (rs:Array ResultVar) (r:AV) (H':zAQ) (e:zCH) (H:zAQ):Prop :=
  ∃ e2 H2,Rep n m e H e2 H2∧zUS P n rs r H' e2 H2
theorem zG2 {f:FuncId} {fn:Func} {code:Code} {args:List AV} {r:AV} {H H':zAQ} {rs:Array ResultVar} (hf:P.funcs[f]?=some fn) (hb:fn.body=some code) (hn:fn.ntmps=n) (hr:fn.results=rs) (ha:Nat.ble args.length n=true)
    (h:AW P n H.length code ⟨zP9 P n H.length rs r H',zP9 P n H.length rs r H',[]⟩ (zUH args) H):AFn P f args H r H':=by
  intro w A0 κ fp cargs h1 hargs
  have hl:=zNX hargs
  refine zOE hf hb hn hr (by simp [hl]; exact Nat.le_of_ble_eq_true ha) ?_
  have key:∀ F w',conc n H.length w A0 κ fp (zP9 P n H.length rs r H') F w' → ∃ v,Res P rs n F w' v ∧ ∃ κ' fp',SH w' A0 H' κ' fp'∧VR w' (avd A0 fp') κ' r v []∧zHi H.length w fp κ w' fp' κ':=by
    rintro F w' ⟨e',H2,κ',fp',g1,g2,g3,e3,H3,hrep,rfl,g4⟩
    obtain ⟨κ2,fp2,q1,q2,q3⟩:=hrep w' A0 κ' fp' F g1 g2
    obtain ⟨v,h1,h2⟩:=g4 w' A0 κ2 fp2 F q1 q2
    exact ⟨v,h1,κ2,fp2,q1,h2,g3.trans q3⟩
  refine zK2 (h w A0 κ fp _ h1 (zPT hargs)) key key (fun id F w h => ?_)
  simp [zLT.conc,Wk.look] at h
theorem zP8 {cs hd tl:List AV} {N T:Nat} {K:Int} {l:List (List Int)} (hk:H[k]?=some (.box t cs)) (hcs:cs=hd++(cM N T K l++tl)) (hK:decide ((N:Int)≤K)=true):Rep n m e H e (H.set k (.box t (hd++(cM N T N l++tl)))):=by
  have hK':=of_decide_eq_true hK
  have:cM N T K l=cM N T N l:=by
    unfold cM
    apply List.map_congr_left
    intro q hq
    have:=List.mem_range.1 hq
    rw [show decide ((q:Int)<K)=true from decide_eq_true (by omega),show decide ((q:Int)<(N:Int))=true from decide_eq_true (by omega)]
  rw [← this, ← hcs,zIN hk]
  exact Rep.env fun t _=>Sub.refl _
end
end Go.Am
