/-
  Functions as values.
  Conditions: none: plain theorems over whatever program P.
-/
import Derived.Test.YtplkliakhdkpcaaGreatAmT
set_option linter.unusedVariables false
set_option linter.unusedSimpArgs false
namespace Go.Am
open Go Go.RowKit Go.Wk
theorem zSX {σ:List Nat} {a:AV} (h:nr a=true):zRd σ a=a:=by cases a <;> first | rfl | simp [nr] at h
theorem zO5 {σ:List Nat}:∀ {caps:List AV},caps.all nr=true→caps.map (zRd σ)=caps
  | [],_=>rfl
  | a::la,h=>by
    simp only [List.all_cons,Bool.and_eq_true] at h
    rw [List.map_cons,zSX h.1,zO5 h.2]
theorem zEZ {σ:List Nat} {f:FuncId} {caps:List AV} (h:caps.all nr=true):Sub (.clo f caps) (zR1 σ (.clo f caps)):=by
  have:zR1 σ (.clo f caps) = .clo f caps:=by
    show AV.clo f (caps.map (zRd σ))=_
    rw [zO5 h]
  rw [this]
  exact Sub.refl _
theorem zEa {N:Nat} {f:FuncId} {caps:List AV} (h:caps.all nr=true):okA N (.clo f caps)=true:=by
  show caps.all (okL N)=true
  rw [List.all_eq_true] at h ⊢
  intro a ha
  have:=h a ha
  cases a <;> first | exact this | simp [nr] at this
def zUL (a:AV):Bool:=isE a||match a with
  | .clo _ caps=>caps.all isE
  | _=>false
section
variable {w:World} {A:Nat→Prop} {κ:List Value}
theorem zTs:∀ {la:List AV} {vs:List Value} {fp:List Nat},la.all isE=true→VRt w A κ la vs fp→fp=[]
  | [],_,_,_,h=>by unfold VRt at h; exact h.2
  | a::la,_,_,hE,h=>by
    simp only [List.all_cons,Bool.and_eq_true] at hE
    unfold VRt at h
    obtain ⟨u,vs',f1,f2,rfl,rfl,h4,h5⟩:=h
    rw [zSp hE.1 h4,zTs hE.2 h5]; rfl
theorem zUg {a:AV} {v:Value} {fp:List Nat} (h:zUL a=true) (hv:VR w A κ a v fp):fp=[]:=by
  unfold zUL at h
  rw [Bool.or_eq_true] at h
  rcases h with h | h
  · exact zSp h hv
  · split at h
    · unfold VR at hv
      obtain ⟨vs,_,h2⟩:=hv
      exact zTs h h2
    · cases h
theorem zR4:∀ {la:List AV} {vs:List Value} {fp:List Nat},la.all zUL=true→VRs w A κ la vs fp→fp=[]
  | [],_,_,_,h=>by unfold VRs at h; exact h.2
  | a::la,_,_,hE,h=>by
    simp only [List.all_cons,Bool.and_eq_true] at hE
    unfold VRs at h
    obtain ⟨u,vs',f1,f2,rfl,rfl,_,h4,h5⟩:=h
    rw [zUg hE.1 h4,zR4 hE.2 h5]; rfl
end
section
variable {H:zAQ} {S:List Nat}
theorem zAs.ptrV {k t o:Nat} {cs cs':List AV} (hk:H[k]?=some (.box t cs)) (hS:S.contains k=true) (hE:cs.all zUL=true) (hv:zDh H S cs cs'):zAs H S (.ptr k o) (.rp cs' o):=by
  intro w A0 κ fp v h1 hvv
  unfold VR at hvv ⊢
  obtain ⟨_,u,b,g1,g2,rfl⟩:=hvv
  obtain ⟨b',vs,f',rfl,hb,hvs,hfp⟩:=h1.ent k _ u hk g1
  cases g2
  obtain rfl:=zR4 hE hvs
  exact ⟨rfl,b,0,vs,by rw [Nat.zero_add],fun hA=>hA.2 k (by simpa using hS) (by rw [hfp]; exact List.mem_cons_self ..),hb.lt,hv.vrs h1 hvs,hb.cells⟩
end
theorem zQJ {T:Nat} {l:List Int}:zUB (.vec T 1 (List.map cI l))=true:=by
  show ((List.map cI l).all fun r=>r.all zMN)=true
  rw [List.all_map,List.all_eq_true]
  intro x _
  rfl
end Go.Am
