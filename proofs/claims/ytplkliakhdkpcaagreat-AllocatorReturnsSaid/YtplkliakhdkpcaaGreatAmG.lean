/-
  Lists opened, closed, frozen, forgotten; lists made, appended to, cut, stored into.
  Conditions: none: plain theorems over whatever program P.
-/
import Derived.Test.YtplkliakhdkpcaaGreatAmF
set_option linter.unusedVariables false
set_option linter.unusedSimpArgs false
namespace Go.Am
open Go Go.RowKit Go.Wk
def nr:AV→Bool
  | .any | .lit _ | .sl .. | .osl .. | .rp .. => true
  | _=>false
section
variable {w:World} {A:Nat→Prop} {κ κ':List Value}
theorem zM8 {a:AV} {v:Value} {fp:List Nat} (h:nr a=true) (hv:VR w A κ a v fp):VR w A κ' a v fp:=by
  cases a <;> simp only [nr,Bool.false_eq_true] at h <;> (unfold VR at *; exact hv)
theorem zKv:∀ {la:List AV} {vs:List Value} {fp:List Nat},la.all nr=true→VRs w A κ la vs fp→VRs w A κ' la vs fp
  | [],_,_,_,h=>by unfold VRs at *; exact h
  | a::la,_,_,hE,h=>by
    simp only [List.all_cons,Bool.and_eq_true] at hE
    unfold VRs at *
    obtain ⟨u,vs',f1,f2,rfl,rfl,h3,h4,h5⟩:=h
    exact ⟨u,vs',f1,f2,rfl,rfl,h3,zM8 hE.1 h4,zKv hE.2 h5⟩
end
def mkE:List (Nat×AV)→zCH
  | []=>fun _ => .any
  | (t,a)::l=>fun i=>bif Nat.beq i t then a else mkE l i
section
variable {P:Program} {n m:Nat} {e e':zCH} {H G:zAQ} {x y:Operand} {k j o:Nat} {ty t:TypeId}
theorem zBE {cs:List AV} {t' sz:Nat} {rows:List (List AV)} (hk:H[k]?=some (.box t cs)) (hc:cs[o]?=some (.osl t' sz rows)) :
    Rep n m e H e (H.set k (.box t (cs.set o (.hd H.length)))++[.vec t' sz rows]):=by
  intro w A0 κ fp F h1 h2
  have hkl:k<κ.length:=by rw [h1.len]; exact zAS hk
  have hκ:=List.getElem?_eq_getElem hkl
  obtain ⟨b,vs,f',hv,hb,hvs,hfp⟩:=h1.ent k _ _ hk hκ
  obtain ⟨v1,v,v2,f1,f2,f3,rfl,hl,rfl,ho,q1,q2,q3⟩:=zJA hvs hc
  have hnd:=h1.nd k
  rw [hfp] at hnd
  have hs:=h1.setpush (w':=w) (k:=k) (e1 := .box t (cs.set o (.hd H.length))) (e2 := .vec t' sz rows) (v2:=v) (f1:=b::(f1++([]++f3))) (f2:=f2) (zAS hk) (KpS.refl _ _)
    (fun z hz => .inl (by rw [hfp]; exact ((zJF (List.nil_sublist _)).cons_cons b).mem hz)) (fun z hz => .inl (by rw [hfp]; simp [hz]))
    (hnd.sublist ((zJF (List.nil_sublist _)).cons_cons b)) (by
      simp only [List.nodup_cons,List.nodup_append] at hnd; exact hnd.2.2.1.1) (by
      intro z hz hz2
      simp only [List.nodup_cons,List.nodup_append,List.mem_append,List.mem_cons,List.nil_append] at hnd hz
      rcases hz with rfl | hz | hz
      · exact hnd.1 (.inr (.inl hz2))
      · exact hnd.2.2.2 z hz z (.inl hz2) rfl
      · exact hnd.2.2.1.2.2 z hz2 z hz rfl)
    (fun v' hv' mv=>by
      rw [hκ] at hv'
      cases hv'
      refine ⟨b,v1++v::v2,f1++([]++f3),hv,hb,?_,rfl⟩
      rw [zIK _ (zAS hc)]
      exact zK0 (VRs.mv mv _ _ _ (fun _ _=>rfl) q1) (by unfold VR; exact ⟨by rw [List.getElem?_append_right (by rw [h1.len]; omega),h1.len]; simp,rfl⟩) ho (VRs.mv mv _ _ _ (fun _ _=>rfl) q3))
    (fun mv=>by
      have:=VR.mv mv _ _ _ (fun _ _=>rfl) q2
      unfold VR at this
      exact this)
  exact ⟨_,_,hs.1,h2.mv (hs.2.mv A0),hs.2.m m⟩
theorem zAK {cs:List AV} {t' sz:Nat} {rows:List (List AV)} (hk:H[k]?=some (.box t cs)) (hc:cs[o]?=some (.hd j)) (hj:H[j]?=some (.vec t' sz rows)) (hjk:Nat.beq j k=false) :
    Rep n m e H e ((H.set k (.box t (cs.set o (.osl t' sz rows)))).set j .dead):=by
  intro w A0 κ fp F h1 h2
  have hjk':j≠k:=fun h=>by subst h; simp at hjk
  have hkl:k<κ.length:=by rw [h1.len]; exact zAS hk
  have hκ:=List.getElem?_eq_getElem hkl
  obtain ⟨b,vs,f',hv,hb,hvs,hfp⟩:=h1.ent k _ _ hk hκ
  obtain ⟨v1,v,v2,f1,f2,f3,rfl,hl,rfl,ho,q1,q2,q3⟩:=zJA hvs hc
  unfold VR at q2
  obtain ⟨q2,rfl⟩:=q2
  have hjr:=h1.ent j _ _ hj q2
  have hnd:=h1.nd k
  rw [hfp] at hnd
  have hnj:=h1.nd j
  have hdis:∀ x,x∈fp j→x ∉ b::(f1++([]++f3)):=fun x hx hm=>hjk' (h1.dj j k x hx (by rw [hfp]; exact hm))
  have hs:=h1.set2 (w':=w) (k:=k) (j:=j) (e1 := .box t (cs.set o (.osl t' sz rows))) (f1:=b::(f1++(fp j++f3))) (zAS hk) (zAS hj) hjk' (KpS.refl _ _)
    (fun x hx=>by
      simp only [List.mem_cons,List.mem_append] at hx
      rcases hx with rfl | hx | hx | hx
      · left; rw [hfp]; simp
      · left; rw [hfp]; simp [hx]
      · exact .inr (.inl hx)
      · left; rw [hfp]; simp [hx])
    (by
      simp only [List.nodup_cons,List.nodup_append,List.mem_append,List.nil_append] at hnd ⊢
      simp only [List.mem_cons,List.mem_append,List.nil_append] at hdis
      refine ⟨fun hm => ?_,hnd.2.1,⟨hnj,hnd.2.2.1,fun a ha b hb=>by rintro rfl; exact hdis a ha (by simp [hb])⟩,fun a ha b hb => ?_⟩
      · rcases hm with hm | hm | hm
        · exact hnd.1 (.inl hm)
        · exact hdis b hm (by simp)
        · exact hnd.1 (.inr hm)
      · rcases hb with hb | hb
        · rintro rfl; exact hdis a hb (by simp [ha])
        · exact hnd.2.2.2 a ha b hb)
    (fun v' hv' mv=>by
      rw [hκ] at hv'
      cases hv'
      refine ⟨b,v1++v::v2,f1++(fp j++f3),hv,hb,?_,rfl⟩
      rw [zIK _ (zAS hc)]
      refine zK0 (VRs.mv mv _ _ _ (fun _ _=>rfl) q1) ?_ ho (VRs.mv mv _ _ _ (fun _ _=>rfl) q3)
      have:=ER.mv mv (fun _ _=>rfl) hjr
      unfold VR
      exact this)
  exact ⟨_,_,hs.1,h2.mv (hs.2.mv A0),hs.2.m m⟩
theorem zSF {t' sz:Nat} {rows:List (List AV)} (hj:H[j]?=some (.vec t' sz rows)) (he:∀ i,e' i=e i∨(e i = .hd j∧e' i = .sl false (zO1 rows))):Rep n m e H e' (H.set j .dead):=by
  intro w A0 κ fp F h1 h2
  have hs:=h1.set1 (w':=w) (k:=j) (e1 := .dead) (f1:=[]) (zAS hj) (KpS.refl _ _) (by simp) (by simp) (fun _ _ _=>rfl)
  refine ⟨_,_,hs.1,fun i hi => ?_,hs.2.m m⟩
  have h3:=(h2.mv (hs.2.mv A0)) i hi
  rcases he i with h | ⟨h4,h5⟩
  · rw [h]; exact h3
  · have h6:=h2 i hi
    rw [h4] at h6
    unfold VR at h6
    have hjr:VR w (avd A0 fp) κ (.osl t' sz rows) (F i) (fp j):=by
      have:=h1.ent j _ _ hj h6.1
      unfold VR
      exact this
    rw [h5]
    have:=VR.frz (A':=avd A0 (zEv fp j [])) (fun b hb=>((hs.2.mv A0).av b hb).elim id (fun h=>absurd h (by
      rcases hb with hb | ⟨i,hb⟩
      · exact Nat.not_le.2 (h1.old b hb)
      · exact Nat.not_le.2 (hs.1.lt i b hb)))) _ _ _ (fun b hb hA=>by
        rcases hA with hA | ⟨i,hA⟩
        · exact h1.na j b hb hA
        · unfold zEv at hA
          split at hA
          · cases hA
          · rename_i hne; exact hne (h1.dj i j b hA hb)) hjr
    unfold Go.Am.frz at this
    exact this
def zPu (e:zCH) (j:Nat):List Nat→Prop
  | []=>True
  | d::ds=>e d = .hd j∧zPu e j ds
theorem zPu.get {e:zCH} {j:Nat}:∀ {ds:List Nat},zPu e j ds → ∀ i,ds.any (Nat.beq i)=true→e i = .hd j
  | [],_,i,h=>by simp at h
  | d::ds,hd,i,h=>by
    simp only [List.any_cons,Bool.or_eq_true] at h
    rcases h with h | h
    · have:=Nat.eq_of_beq_eq_true h
      subst this
      exact hd.1
    · exact zPu.get hd.2 i h
def zUi (e:zCH) (ds:List Nat) (a:AV):zCH:=fun i=>bif ds.any (Nat.beq i) then a else e i
theorem zEl {t' sz:Nat} {rows rows':List (List AV)} (hj:H[j]?=some (.vec t' sz rows)) (hr:zO1 rows=rows') {ds:List Nat} (hd:zPu e j ds):Rep n m e H (zUi e ds (.sl false rows')) (H.set j .dead) :=
  zSF hj fun i=>by
    unfold zUi
    cases hb:ds.any (Nat.beq i) with
    | false=>exact .inl rfl
    | true=>exact .inr ⟨hd.get i hb,by rw [hr]; rfl⟩
end
end Go.Am
