/-
  Places where ways meet: entries in a new order.
  Conditions: none: plain theorems over whatever program P.
-/
import Derived.Test.YtplkliakhdkpcaaGreatAmP
set_option linter.unusedVariables false
set_option linter.unusedSimpArgs false
namespace Go.Am
open Go Go.RowKit Go.Wk
def zRd (σ:List Nat):AV→AV
  | .hd k => .hd (σ.getD k 0)
  | .ptr k o => .ptr (σ.getD k 0) o
  | a=>a
def zR1 (σ:List Nat):AV→AV
  | .clo f caps => .clo f (caps.map (zRd σ))
  | a=>zRd σ a
def okL (N:Nat) (a:AV):Bool:=match a with
  | .hd k=>Nat.blt k N
  | .ptr k _=>Nat.blt k N
  | a=>nr a
def okA (N:Nat) (a:AV):Bool:=match a with
  | .clo _ caps=>caps.all (okL N)
  | .agg cs=>cs.all nr
  | .hd k=>Nat.blt k N
  | .ptr k _=>Nat.blt k N
  | a=>nr a
def zTe (σ:List Nat) (k:Nat):Bool:=match σ[k]? with
  | some q=>Nat.beq q k
  | none=>false
def zTN (σ:List Nat) (a:AV):Bool:=match a with
  | .hd k=>zTe σ k
  | .ptr k _=>zTe σ k
  | a=>nr a
def okR (σ:List Nat):zIJ→Bool
  | .box _ cs=>cs.all (zTN σ)
  | .vec .. => true
  | .val a=>nrA a
  | .vopen _ _ _ _ row=>row.all (zTN σ)
  | .map _=>true
  | .dead=>true
section
variable {w:World} {A:Nat→Prop} {κ κ':List Value} {σ:List Nat}
theorem zOM {k:Nat} (h:zTe σ k=true):σ[k]?=some k:=by
  unfold zTe at h
  split at h
  · rename_i q hq
    rw [hq,Nat.eq_of_beq_eq_true h]
  · cases h
theorem zJj (hσ:∀ (i s:Nat),σ[i]?=some s→κ'[i]?=κ[s]?) {a:AV} {v:Value} {fp:List Nat} (hok:okL σ.length a=true) (h:VR w A κ (zRd σ a) v fp):VR w A κ' a v fp:=by
  cases a with
  | hd k =>
    simp only [okL,Nat.blt_eq] at hok
    unfold zRd at h
    unfold VR at *
    have h1:=List.getElem?_eq_getElem hok
    rw [hσ k _ h1]
    rw [List.getD_eq_getElem?_getD,h1] at h
    exact h
  | ptr k o =>
    simp only [okL,Nat.blt_eq] at hok
    unfold zRd at h
    unfold VR at *
    have h1:=List.getElem?_eq_getElem hok
    rw [List.getD_eq_getElem?_getD,h1] at h
    obtain ⟨h2,u,b,h3,h4⟩:=h
    exact ⟨h2,u,b,by rw [hσ k _ h1]; exact h3,h4⟩
  | _=>exact zM8 hok h
theorem zPQ (hσ:∀ (i s:Nat),σ[i]?=some s→κ'[i]?=κ[s]?):∀ {caps:List AV} {vs:List Value} {fp:List Nat},caps.all (okL σ.length)=true→VRt w A κ (caps.map (zRd σ)) vs fp→VRt w A κ' caps vs fp
  | [],_,_,_,h=>by
    simp only [List.map_nil] at h
    unfold VRt at *
    exact h
  | a::la,_,_,hok,h=>by
    simp only [List.all_cons,Bool.and_eq_true] at hok
    simp only [List.map_cons] at h
    unfold VRt at *
    obtain ⟨u,vs',f1,f2,h1,h2,h4,h5⟩:=h
    exact ⟨u,vs',f1,f2,h1,h2,zJj hσ hok.1 h4,zPQ hσ hok.2 h5⟩
theorem zSc (hσ:∀ (i s:Nat),σ[i]?=some s→κ'[i]?=κ[s]?) {a:AV} {v:Value} {fp:List Nat} (hok:okA σ.length a=true) (h:VR w A κ (zR1 σ a) v fp):VR w A κ' a v fp:=by
  cases a with
  | clo f caps =>
    unfold zR1 at h
    unfold VR at *
    obtain ⟨vs,h1,h2⟩:=h
    exact ⟨vs,h1,zPQ hσ hok h2⟩
  | agg cs =>
    have h2:VR w A κ (.agg cs) v fp:=h
    exact zMa (a := .agg cs) hok h2
  | hd k=>exact zJj hσ hok h
  | ptr k o=>exact zJj hσ hok h
  | tup vs=>simp [okA,nr] at hok
  | omap es=>simp [okA,nr] at hok
  | any=>exact zJj hσ hok h
  | lit u=>exact zJj hσ hok h
  | sl f r=>exact zJj hσ hok h
  | osl t s r=>exact zJj hσ hok h
  | rp r o=>exact zJj hσ hok h
theorem zTI (hσ:∀ (i s:Nat),σ[i]?=some s→κ'[i]?=κ[s]?) {a:AV} {v:Value} {fp:List Nat} (hok:zTN σ a=true) (h:VR w A κ a v fp):VR w A κ' a v fp:=by
  cases a with
  | hd k =>
    unfold VR at *
    rw [hσ k k (zOM hok)]
    exact h
  | ptr k o =>
    unfold VR at *
    obtain ⟨h2,u,b,h3,h4⟩:=h
    exact ⟨h2,u,b,by rw [hσ k k (zOM hok)]; exact h3,h4⟩
  | _=>exact zM8 hok h
theorem zM9 (hσ:∀ (i s:Nat),σ[i]?=some s→κ'[i]?=κ[s]?):∀ {cs:List AV} {vs:List Value} {fp:List Nat},cs.all (zTN σ)=true→VRs w A κ cs vs fp→VRs w A κ' cs vs fp
  | [],_,_,_,h=>by unfold VRs at *; exact h
  | a::la,_,_,hok,h=>by
    simp only [List.all_cons,Bool.and_eq_true] at hok
    unfold VRs at *
    obtain ⟨u,vs',f1,f2,h1,h2,h3,h4,h5⟩:=h
    exact ⟨u,vs',f1,f2,h1,h2,h3,zTI hσ hok.1 h4,zM9 hσ hok.2 h5⟩
theorem zPr (hσ:∀ (i s:Nat),σ[i]?=some s→κ'[i]?=κ[s]?) {en:zIJ} {v:Value} {fp:List Nat} (hok:okR σ en=true) (h:ER w A κ en v fp):ER w A κ' en v fp:=by
  cases en with
  | box t cs =>
    obtain ⟨b,vs,f',h1,h2,h3,h4⟩:=h
    exact ⟨b,vs,f',h1,h2,zM9 hσ hok h3,h4⟩
  | vec t sz rows=>exact h
  | val a=>exact zMa hok h
  | vopen t sz rows i row =>
    obtain ⟨g,v1,r,v2,f1,f2,f3,h1,h2,h3,h4,h5,h6,h7⟩:=h
    exact ⟨g,v1,r,v2,f1,f2,f3,h1,h2,h3,h4,zM9 hσ hok h5,h6,h7⟩
  | map es=>exact h
  | dead=>exact h
end
def zTO (σ:List Nat) (e:zCH):List (Nat×AV)→Prop
  | []=>True
  | (t,a)::l=>(Sub (e t) (zR1 σ a)∧okA σ.length a=true)∧zTO σ e l
theorem zTO.get {σ:List Nat} {e:zCH}:∀ {l:List (Nat×AV)},zTO σ e l → ∀ i,mkE l i = .any∨(Sub (e i) (zR1 σ (mkE l i))∧okA σ.length (mkE l i)=true)
  | [],_,i => .inl rfl
  | (t,a)::l,h,i=>by
    unfold mkE
    cases hb:Nat.beq i t with
    | true =>
      have:i=t:=Nat.eq_of_beq_eq_true hb
      subst this
      exact .inr h.1
    | false=>exact zTO.get h.2 i
def zTL (σ:List Nat) (H:zAQ):List Nat→zAQ→Prop
  | [],[]=>True
  | s::ss,en::ens=>(H[s]?=some en∧okR σ en=true)∧zTL σ H ss ens
  | _,_=>False
theorem zTL.get {σ:List Nat} {H:zAQ}:∀ {ss:List Nat} {H0:zAQ},zTL σ H ss H0→ss.length=H0.length ∧ ∀ (i:Nat) (en:zIJ),H0[i]?=some en → ∃ s,ss[i]?=some s∧H[s]?=some en∧okR σ en=true
  | [],[],_=>⟨rfl,fun i en h=>by simp at h⟩
  | [],_::_,h=>h.elim
  | _::_,[],h=>h.elim
  | s::ss,en::ens,h=>by
    obtain ⟨h1,h2⟩:=zTL.get h.2
    refine ⟨by simp [h1],fun i en' hi => ?_⟩
    cases i with
    | zero=>simp at hi; subst hi; exact ⟨s,rfl,h.1⟩
    | succ i =>
      obtain ⟨s',a1,a2⟩:=h2 i en' (by simpa using hi)
      exact ⟨s',by simpa using a1,a2⟩
def zRz (m:Nat) (σ:List Nat):Bool:=(List.range m).all fun i=>zTe σ i
def zN8:List Nat→Bool
  | []=>true
  | s::ss => !ss.any (Nat.beq s)&&zN8 ss
theorem zNl:∀ {ss:List Nat},zN8 ss=true→ss.Nodup
  | [],_=>List.nodup_nil
  | s::ss,h=>by
    simp only [zN8,Bool.and_eq_true,Bool.not_eq_true',List.any_eq_false] at h
    exact List.nodup_cons.2 ⟨fun hm=>by have:=h.1 s hm; simp at this,zNl h.2⟩
theorem zQV {ss:List Nat} (h:ss.Nodup) {i j s:Nat} (hi:ss[i]?=some s) (hj:ss[j]?=some s):i=j:=by
  exact (List.getElem?_inj (zAS hi) h).1 (hi.trans hj.symm)
theorem zBh {n m:Nat} {e:zCH} {H H0:zAQ} (σ:List Nat) {l:List (Nat×AV)} (hl:zTO σ e l) (hn:zN8 σ=true) (hm:zRz m σ=true) (hH:zTL σ H σ H0):Rep n m e H (mkE l) H0:=by
  intro w A0 κ fp F h1 h2
  have hnd:=zNl hn
  obtain ⟨hlen,hent⟩:=hH.get
  have hsrc:∀ (i s:Nat),σ[i]?=some s→s<κ.length:=fun i s hi=>by
    have hil:i<H0.length:=by rw [← hlen]; exact zAS hi
    obtain ⟨s',a1,a2,_⟩:=hent i _ (List.getElem?_eq_getElem hil)
    rw [hi] at a1
    cases a1
    rw [h1.len]
    exact zAS a2
  have hκ:∀ (i s:Nat),σ[i]?=some s→(σ.map fun s=>κ.getD s undef)[i]?=κ[s]?:=fun i s hi=>by
    have:=hsrc i s hi
    simp [hi,this]
  let fp':Nat→List Nat:=fun i=>match σ[i]? with
    | some s=>fp s
    | none=>[]
  have hfp:∀ i x,x∈fp' i → ∃ s,σ[i]?=some s∧x∈fp s:=by
    intro i x hx
    show ∃ s,σ[i]?=some s∧x∈fp s
    cases hs:σ[i]? with
    | none =>
      have:fp' i=[]:=by show (match σ[i]? with | some s=>fp s | none=>[])=[]; rw [hs]
      rw [this] at hx; cases hx
    | some s =>
      have:fp' i=fp s:=by show (match σ[i]? with | some s=>fp s | none=>[])=fp s; rw [hs]
      rw [this] at hx
      exact ⟨s,rfl,hx⟩
  have hav:∀ b,avd A0 fp' b→avd A0 fp b:=by
    rintro b (h | ⟨i,hi⟩)
    · exact .inl h
    · obtain ⟨s,_,hs⟩:=hfp i b hi
      exact .inr ⟨s,hs⟩
  have mv:Mv w (avd A0 fp) κ w (avd A0 fp') κ:=⟨Nat.le_refl _,fun _ _ _=>rfl,fun b hb => .inl (hav b hb),fun _ _ h=>h⟩
  refine ⟨σ.map fun s=>κ.getD s undef,fp',⟨by simp [hlen],?_,?_,?_,?_,?_,h1.old⟩,?_,?_⟩
  · intro i en v g1 g2
    obtain ⟨s,a1,a2,a3⟩:=hent i en g1
    rw [hκ i s a1] at g2
    have e1:fp' i=fp s:=by show (match σ[i]? with | some s=>fp s | none=>[])=fp s; rw [a1]
    rw [e1]
    exact zPr hκ a3 (ER.mv mv (fun _ _=>rfl) (h1.ent s en v a2 g2))
  · intro i hi
    show (match σ[i]? with | some s=>fp s | none=>[])=[]
    rw [List.getElem?_eq_none (by rw [hlen]; exact hi)]
  · intro i
    show (match σ[i]? with | some s=>fp s | none=>[]).Nodup
    split
    · exact h1.nd _
    · simp
  · intro i j x hi hj
    obtain ⟨s,a1,a2⟩:=hfp i x hi
    obtain ⟨s',b1,b2⟩:=hfp j x hj
    have:=h1.dj s s' x a2 b2
    subst this
    exact zQV hnd a1 b1
  · intro i x hi
    obtain ⟨s,_,a2⟩:=hfp i x hi
    exact h1.na s x a2
  · intro t ht
    rcases hl.get t with h | ⟨h,h'⟩
    · rw [h]; unfold VR; rfl
    · exact zSc hκ h' (h _ _ _ _ (VR.mv mv _ _ [] (fun _ _=>rfl) (h2 t ht)))
  · refine ⟨KpS.refl _ _,fun i x hx => ?_,fun i v hi hv => ?_⟩
    · obtain ⟨s,_,a2⟩:=hfp i x hx
      exact .inl ⟨s,a2⟩
    · have:=List.all_eq_true.1 hm i (List.mem_range.2 hi)
      rw [hκ i i (zOM this)]
      exact hv
end Go.Am
