/-
  Abstract values and how they stand for values of the model.
  Conditions: none: plain theorems.
-/
import Derived.Test.YtplkliakhdkpcaaGreatWkG
set_option linter.unusedVariables false
set_option linter.unusedSimpArgs false
namespace Go.Am
open Go Go.RowKit Go.Wk
inductive AV where
  | any
  | lit (v:Value)
  | sl (full:Bool) (rows:List (List AV))
  | osl (t sz:Nat) (rows:List (List AV))
  | hd (k:Nat)
  | ptr (k off:Nat)
  | rp (row:List AV) (off:Nat)
  | agg (cs:List AV)
  | tup (vs:List AV)
  | clo (f:FuncId) (caps:List AV)
  | omap (es:List (Value×Value))
def zRq (w:World) (es:List (Value×Value)) (v:Value) (r:Nat):Prop := ∃ en clock,v = .map (some r)∧w.heap[r]?=some (.map en clock)∧en.toList.map (fun e=>(e.key,e.val))=es
theorem zRq.same {w w':World} {es:List (Value×Value)} {v:Value} {r:Nat} (h:zRq w es v r) (hs:w'.heap[r]?=w.heap[r]?):zRq w' es v r:=by
  obtain ⟨en,c,h1,h2,h3⟩:=h
  exact ⟨en,c,h1,hs.trans h2,h3⟩
theorem zRq.lt {w:World} {es:List (Value×Value)} {v:Value} {r:Nat} (h:zRq w es v r):r<w.heap.size:=by
  obtain ⟨en,c,h1,h2,h3⟩:=h
  exact zK6 h2
def zTj:Value→Option Nat
  | .pointer (some ⟨b,0,none⟩)=>some b
  | .slice (some ⟨b,0,none⟩) _ _=>some b
  | _=>none
mutual
def VR (w:World) (A:Nat→Prop) (κ:List Value):AV→Value→List Nat→Prop
  | .any,_,fp=>fp=[]
  | .lit u,v,fp=>v=u∧fp=[]
  | .sl full rows,v,fp=>fp=[] ∧ ∃ a c,v = .slice a rows.length c∧rows.length≤c∧(rows.length≤140737488355328∧c≤maxLen)∧(full=true→c=rows.length) ∧
      (rows=[] ∨ ∃ b o sz vr,a=some ⟨b,o,none⟩ ∧ ¬ A b∧b<w.heap.size∧VRr w A [] rows vr []∧(∀ r,r∈vr→r.length=sz)∧Cells w b o vr.flatten)
  | .osl t sz rows,v,fp => ∃ g vr fp',zJN w t sz g v vr∧VRr w A [] rows vr fp'∧fp=g.toList++fp'
  | .hd k,v,fp=>κ[k]?=some v∧fp=[]
  | .ptr k off,v,fp=>fp=[] ∧ ∃ u b,κ[k]?=some u∧zTj u=some b∧v = .pointer (some ⟨b,off,none⟩)
  | .rp row off,v,fp=>fp=[] ∧ ∃ b o vs,v = .pointer (some ⟨b,o+off,none⟩) ∧ ¬ A b∧b<w.heap.size∧VRs w A [] row vs []∧Cells w b o vs
  | .agg cs,v,fp => ∃ vs,v = .agg vs.toArray∧VRs w A κ cs vs fp
  | .tup la,v,fp => ∃ vs,v = .tuple vs.toArray∧VRt w A κ la vs fp
  | .clo f caps,v,fp => ∃ vs,v = .func (.func f) #[] vs.toArray∧VRt w A κ caps vs fp
  | .omap es,v,fp => ∃ r,zRq w es v r∧fp=[r]
def VRs (w:World) (A:Nat→Prop) (κ:List Value):List AV→List Value→List Nat→Prop
  | [],vs,fp=>vs=[]∧fp=[]
  | a::la,vs,fp => ∃ v vs' f1 f2,vs=v::vs'∧fp=f1++f2∧v.oneCell'=true∧VR w A κ a v f1∧VRs w A κ la vs' f2
def VRt (w:World) (A:Nat→Prop) (κ:List Value):List AV→List Value→List Nat→Prop
  | [],vs,fp=>vs=[]∧fp=[]
  | a::la,vs,fp => ∃ v vs' f1 f2,vs=v::vs'∧fp=f1++f2∧VR w A κ a v f1∧VRt w A κ la vs' f2
def VRr (w:World) (A:Nat→Prop) (κ:List Value):List (List AV)→List (List Value)→List Nat→Prop
  | [],vr,fp=>vr=[]∧fp=[]
  | r::rs,vr,fp => ∃ v vr' f1 f2,vr=v::vr'∧fp=f1++f2∧VRs w A κ r v f1∧VRr w A κ rs vr' f2
end
structure Mv (w:World) (A:Nat→Prop) (κ:List Value) (w':World) (A':Nat→Prop) (κ':List Value):Prop where
  size:w.heap.size≤w'.heap.size
  same:∀ b,¬ A b→b<w.heap.size→w'.heap[b]?=w.heap[b]?
  av:∀ b,A' b→A b∨w.heap.size≤b
  kk:∀ (k:Nat) (v:Value),κ[k]?=some v→κ'[k]?=some v
theorem Mv.nil {w w':World} {A A':Nat→Prop} {κ κ':List Value} (m:Mv w A κ w' A' κ'):Mv w A [] w' A' []:=⟨m.size,m.same,m.av,fun _ _ h=>h⟩
theorem zNY {w w':World} {T sz:Nat} {g:Option Nat} {v:Value} {rows:List (List Value)} (h:zJN w T sz g v rows) (hs:∀ b,b∈g.toList→w'.heap[b]?=w.heap[b]?):zJN w' T sz g v rows:=by
  refine ⟨h.1,?_⟩
  rcases h.2 with h1 | ⟨b,cap,sp,rfl,h2,h3,h4,h5,h6⟩
  · exact .inl h1
  · exact .inr ⟨b,cap,sp,rfl,h2,h3,h4,(hs b (by simp)).trans h5,h6⟩
mutual
theorem VR.mv {w w':World} {A A':Nat→Prop} {κ κ':List Value} (m:Mv w A κ w' A' κ'):∀ (a:AV) (v:Value) (fp:List Nat),(∀ b,b∈fp→w'.heap[b]?=w.heap[b]?)→VR w A κ a v fp→VR w' A' κ' a v fp
  | .any,_,_,_,h=>by unfold VR at *; exact h
  | .lit _,_,_,_,h=>by unfold VR at *; exact h
  | .sl full rows,v,fp,hs,h=>by
    unfold VR at *
    obtain ⟨hf,a,c,h1,h2,h3,h4,h5⟩:=h
    refine ⟨hf,a,c,h1,h2,h3,h4,?_⟩
    rcases h5 with h5 | ⟨b,o,sz,vr,ha,hA,hb,hr,hl,hc⟩
    · exact .inl h5
    · exact .inr ⟨b,o,sz,vr,ha,fun x=>by rcases m.av b x with y | y; exact hA y; omega,Nat.lt_of_lt_of_le hb m.size,VRr.mv m.nil rows vr [] (fun b hb=>by simp at hb) hr,hl,hc.agree (m.same b hA hb)⟩
  | .osl t sz rows,v,fp,hs,h=>by
    unfold VR at *
    obtain ⟨g,vr,fp',ho,hr,rfl⟩:=h
    exact ⟨g,vr,fp',zNY ho (fun b hb=>hs b (List.mem_append_left _ hb)),VRr.mv m.nil rows vr fp' (fun b hb=>hs b (List.mem_append_right _ hb)) hr,rfl⟩
  | .hd k,v,fp,hs,h=>by
    unfold VR at *
    exact ⟨m.kk k v h.1,h.2⟩
  | .ptr k off,v,fp,hs,h=>by
    unfold VR at *
    obtain ⟨h1,u,b,h2,h3⟩:=h
    exact ⟨h1,u,b,m.kk k u h2,h3⟩
  | .rp row off,v,fp,hs,h=>by
    unfold VR at *
    obtain ⟨h1,b,o,vs,h2,hA,hb,h3,h4⟩:=h
    exact ⟨h1,b,o,vs,h2,fun x=>by rcases m.av b x with y | y; exact hA y; omega,Nat.lt_of_lt_of_le hb m.size,VRs.mv m.nil row vs [] (fun b hb=>by simp at hb) h3,h4.agree (m.same b hA hb)⟩
  | .agg cs,v,fp,hs,h=>by
    unfold VR at *
    obtain ⟨vs,h1,h2⟩:=h
    exact ⟨vs,h1,VRs.mv m cs vs fp hs h2⟩
  | .tup cs,v,fp,hs,h=>by
    unfold VR at *
    obtain ⟨vs,h1,h2⟩:=h
    exact ⟨vs,h1,VRt.mv m cs vs fp hs h2⟩
  | .clo f cs,v,fp,hs,h=>by
    unfold VR at *
    obtain ⟨vs,h1,h2⟩:=h
    exact ⟨vs,h1,VRt.mv m cs vs fp hs h2⟩
  | .omap es,v,fp,hs,h=>by
    unfold VR at *
    obtain ⟨r,h1,rfl⟩:=h
    exact ⟨r,h1.same (hs r (by simp)),rfl⟩
theorem VRs.mv {w w':World} {A A':Nat→Prop} {κ κ':List Value} (m:Mv w A κ w' A' κ'):∀ (a:List AV) (v:List Value) (fp:List Nat),(∀ b,b∈fp→w'.heap[b]?=w.heap[b]?)→VRs w A κ a v fp→VRs w' A' κ' a v fp
  | [],_,_,_,h=>by unfold VRs at *; exact h
  | a::la,v,fp,hs,h=>by
    unfold VRs at *
    obtain ⟨u,vs',f1,f2,h1,rfl,h3,h4,h5⟩:=h
    exact ⟨u,vs',f1,f2,h1,rfl,h3,VR.mv m a u f1 (fun b hb=>hs b (List.mem_append_left _ hb)) h4,VRs.mv m la vs' f2 (fun b hb=>hs b (List.mem_append_right _ hb)) h5⟩
theorem VRt.mv {w w':World} {A A':Nat→Prop} {κ κ':List Value} (m:Mv w A κ w' A' κ'):∀ (a:List AV) (v:List Value) (fp:List Nat),(∀ b,b∈fp→w'.heap[b]?=w.heap[b]?)→VRt w A κ a v fp→VRt w' A' κ' a v fp
  | [],_,_,_,h=>by unfold VRt at *; exact h
  | a::la,v,fp,hs,h=>by
    unfold VRt at *
    obtain ⟨u,vs',f1,f2,h1,rfl,h4,h5⟩:=h
    exact ⟨u,vs',f1,f2,h1,rfl,VR.mv m a u f1 (fun b hb=>hs b (List.mem_append_left _ hb)) h4,VRt.mv m la vs' f2 (fun b hb=>hs b (List.mem_append_right _ hb)) h5⟩
theorem VRr.mv {w w':World} {A A':Nat→Prop} {κ κ':List Value} (m:Mv w A κ w' A' κ'):∀ (a:List (List AV)) (v:List (List Value)) (fp:List Nat),(∀ b,b∈fp→w'.heap[b]?=w.heap[b]?)→VRr w A κ a v fp→VRr w' A' κ' a v fp
  | [],_,_,_,h=>by unfold VRr at *; exact h
  | a::la,v,fp,hs,h=>by
    unfold VRr at *
    obtain ⟨u,vs',f1,f2,h1,rfl,h4,h5⟩:=h
    exact ⟨u,vs',f1,f2,h1,rfl,VRs.mv m a u f1 (fun b hb=>hs b (List.mem_append_left _ hb)) h4,VRr.mv m la vs' f2 (fun b hb=>hs b (List.mem_append_right _ hb)) h5⟩
end
mutual
theorem VR.lt {w:World} {A:Nat→Prop} {κ:List Value}:∀ (a:AV) (v:Value) (fp:List Nat),VR w A κ a v fp → ∀ b,b∈fp→b<w.heap.size
  | .any,_,_,h=>by unfold VR at h; subst h; simp
  | .lit _,_,_,h=>by unfold VR at h; rw [h.2]; simp
  | .sl _ _,v,fp,h=>by unfold VR at h; rw [h.1]; simp
  | .osl t sz rows,v,fp,h=>by
    unfold VR at h
    obtain ⟨g,vr,fp',ho,hr,rfl⟩:=h
    intro b hb
    rcases List.mem_append.1 hb with hb | hb
    · exact zQy ho (by simpa using hb)
    · exact VRr.lt rows vr fp' hr b hb
  | .hd k,v,fp,h=>by unfold VR at h; rw [h.2]; simp
  | .ptr k off,v,fp,h=>by unfold VR at h; rw [h.1]; simp
  | .rp row off,v,fp,h=>by unfold VR at h; rw [h.1]; simp
  | .agg cs,v,fp,h=>by unfold VR at h; obtain ⟨vs,_,h⟩:=h; exact VRs.lt cs vs fp h
  | .tup cs,v,fp,h=>by unfold VR at h; obtain ⟨vs,_,h⟩:=h; exact VRt.lt cs vs fp h
  | .clo f cs,v,fp,h=>by unfold VR at h; obtain ⟨vs,_,h⟩:=h; exact VRt.lt cs vs fp h
  | .omap es,v,fp,h=>by
    unfold VR at h
    obtain ⟨r,h1,rfl⟩:=h
    intro b hb
    simp at hb
    subst hb
    exact h1.lt
theorem VRs.lt {w:World} {A:Nat→Prop} {κ:List Value}:∀ (a:List AV) (v:List Value) (fp:List Nat),VRs w A κ a v fp → ∀ b,b∈fp→b<w.heap.size
  | [],_,_,h=>by unfold VRs at h; rw [h.2]; simp
  | a::la,v,fp,h=>by
    unfold VRs at h
    obtain ⟨u,vs',f1,f2,h1,rfl,h3,h4,h5⟩:=h
    intro b hb
    rcases List.mem_append.1 hb with hb | hb
    · exact VR.lt a u f1 h4 b hb
    · exact VRs.lt la vs' f2 h5 b hb
theorem VRt.lt {w:World} {A:Nat→Prop} {κ:List Value}:∀ (a:List AV) (v:List Value) (fp:List Nat),VRt w A κ a v fp → ∀ b,b∈fp→b<w.heap.size
  | [],_,_,h=>by unfold VRt at h; rw [h.2]; simp
  | a::la,v,fp,h=>by
    unfold VRt at h
    obtain ⟨u,vs',f1,f2,h1,rfl,h4,h5⟩:=h
    intro b hb
    rcases List.mem_append.1 hb with hb | hb
    · exact VR.lt a u f1 h4 b hb
    · exact VRt.lt la vs' f2 h5 b hb
theorem VRr.lt {w:World} {A:Nat→Prop} {κ:List Value}:∀ (a:List (List AV)) (v:List (List Value)) (fp:List Nat),VRr w A κ a v fp → ∀ b,b∈fp→b<w.heap.size
  | [],_,_,h=>by unfold VRr at h; rw [h.2]; simp
  | a::la,v,fp,h=>by
    unfold VRr at h
    obtain ⟨u,vs',f1,f2,h1,rfl,h4,h5⟩:=h
    intro b hb
    rcases List.mem_append.1 hb with hb | hb
    · exact VRs.lt a u f1 h4 b hb
    · exact VRr.lt la vs' f2 h5 b hb
end
mutual
def frz:AV→AV
  | .any => .any
  | .lit u => .lit u
  | .sl f rows => .sl f rows
  | .osl _ _ rows => .sl false (zO1 rows)
  | .hd k => .hd k
  | .ptr k o => .ptr k o
  | .rp r o => .rp r o
  | .agg cs => .agg (zOF cs)
  | .tup cs => .tup (zOF cs)
  | .clo f cs => .clo f (zOF cs)
  | .omap _ => .any
def zOF:List AV→List AV
  | []=>[]
  | a::la=>frz a::zOF la
def zO1:List (List AV)→List (List AV)
  | []=>[]
  | r::rs=>zOF r::zO1 rs
end
theorem zOn:∀ (rows:List (List AV)),(zO1 rows).length=rows.length
  | []=>rfl
  | r::rs=>by simp [zO1,zOn rs]
theorem zE6 {w:World} {A:Nat→Prop} {κ:List Value}:∀ {rows:List (List AV)} {vr:List (List Value)} {fp:List Nat},VRr w A κ rows vr fp→vr.length=rows.length
  | [],_,_,h=>by unfold VRr at h; rw [h.1]; rfl
  | r::rs,_,_,h=>by
    unfold VRr at h
    obtain ⟨u,vs',f1,f2,rfl,rfl,h4,h5⟩:=h
    simp [zE6 h5]
theorem zEY {w:World} {A:Nat→Prop} {κ:List Value}:∀ {rows:List AV} {vr:List Value} {fp:List Nat},VRs w A κ rows vr fp→vr.length=rows.length
  | [],_,_,h=>by unfold VRs at h; rw [h.1]; rfl
  | r::rs,_,_,h=>by
    unfold VRs at h
    obtain ⟨u,vs',f1,f2,rfl,rfl,_,h4,h5⟩:=h
    simp [zEY h5]
theorem zLs {w:World} {A:Nat→Prop} {κ:List Value}:∀ {rows:List AV} {vr:List Value} {fp:List Nat},VRs w A κ rows vr fp → ∀ u,u∈vr→u.oneCell'=true
  | [],_,_,h=>by unfold VRs at h; rw [h.1]; simp
  | r::rs,_,_,h=>by
    unfold VRs at h
    obtain ⟨u,vs',f1,f2,rfl,rfl,h3,h4,h5⟩:=h
    intro x hx
    rcases List.mem_cons.1 hx with rfl | hx
    · exact h3
    · exact zLs h5 x hx
mutual
theorem VR.frz {w:World} {A A':Nat→Prop} {κ:List Value} (hA:∀ b,A' b→A b):∀ (a:AV) (v:Value) (fp:List Nat),(∀ b,b∈fp → ¬ A' b)→VR w A κ a v fp→VR w A' κ (frz a) v []
  | .any,_,_,_,h=>by unfold Go.Am.frz; unfold VR at *; rfl
  | .lit _,_,_,_,h=>by unfold Go.Am.frz; unfold VR at *; exact ⟨h.1,rfl⟩
  | .sl full rows,v,fp,hn,h=>by
    unfold Go.Am.frz
    have h0:fp=[]:=by unfold VR at h; exact h.1
    subst h0
    exact VR.mv ⟨Nat.le_refl _,fun _ _ _=>rfl,fun b hb => .inl (hA b hb),fun _ _ h=>h⟩ _ _ _ (fun _ _=>rfl) h
  | .osl t sz rows,v,fp,hn,h=>by
    unfold Go.Am.frz
    unfold VR at *
    obtain ⟨g,vr,fp',ho,hr,rfl⟩:=h
    obtain ⟨a,c,h1,h2,h3⟩:=zJ2 ho
    have hl:=zE6 hr
    have hfl:=zOn rows
    refine ⟨rfl,a,c,by rw [h1,hfl,hl],by omega,by omega,by simp,?_⟩
    rcases ho.2 with ⟨_,h5,h6⟩ | ⟨b,cap,sp,rfl,h2',h3',h4,h5,h6⟩
    · left
      rw [h6] at hl
      exact List.length_eq_zero_iff.1 (by rw [hfl]; simpa using hl.symm)
    · right
      rw [h2'] at h1
      injection h1 with h1 _ _
      refine ⟨b,0,sz,vr,h1.symm,hn b (by simp),h5.lt,VRr.frz hA rows vr fp' (fun b hb=>hn b (List.mem_append_right _ hb)) hr,ho.1,?_⟩
      intro j u hu
      exact h5.cells j u (by rw [List.getElem?_append_left (zAS hu)]; exact hu)
  | .hd k,v,fp,hn,h=>by unfold Go.Am.frz; unfold VR at *; exact ⟨h.1,rfl⟩
  | .ptr k off,v,fp,hn,h=>by unfold Go.Am.frz; unfold VR at *; exact ⟨rfl,h.2⟩
  | .rp row off,v,fp,hn,h=>by
    unfold Go.Am.frz
    have h0:fp=[]:=by unfold VR at h; exact h.1
    subst h0
    exact VR.mv ⟨Nat.le_refl _,fun _ _ _=>rfl,fun b hb => .inl (hA b hb),fun _ _ h=>h⟩ _ _ _ (fun _ _=>rfl) h
  | .agg cs,v,fp,hn,h=>by
    unfold Go.Am.frz
    unfold VR at *
    obtain ⟨vs,h1,h2⟩:=h
    exact ⟨vs,h1,VRs.frz hA cs vs fp hn h2⟩
  | .tup cs,v,fp,hn,h=>by
    unfold Go.Am.frz
    unfold VR at *
    obtain ⟨vs,h1,h2⟩:=h
    exact ⟨vs,h1,VRt.frz hA cs vs fp hn h2⟩
  | .clo f cs,v,fp,hn,h=>by
    unfold Go.Am.frz
    unfold VR at *
    obtain ⟨vs,h1,h2⟩:=h
    exact ⟨vs,h1,VRt.frz hA cs vs fp hn h2⟩
  | .omap es,v,fp,hn,h=>by unfold Go.Am.frz; unfold VR; rfl
theorem VRs.frz {w:World} {A A':Nat→Prop} {κ:List Value} (hA:∀ b,A' b→A b):∀ (a:List AV) (v:List Value) (fp:List Nat),(∀ b,b∈fp → ¬ A' b)→VRs w A κ a v fp→VRs w A' κ (zOF a) v []
  | [],_,_,_,h=>by unfold Go.Am.zOF; unfold VRs at *; exact ⟨h.1,rfl⟩
  | a::la,v,fp,hn,h=>by
    unfold Go.Am.zOF
    unfold VRs at *
    obtain ⟨u,vs',f1,f2,h1,rfl,h3,h4,h5⟩:=h
    exact ⟨u,vs',[],[],h1,rfl,h3,VR.frz hA a u f1 (fun b hb=>hn b (List.mem_append_left _ hb)) h4,VRs.frz hA la vs' f2 (fun b hb=>hn b (List.mem_append_right _ hb)) h5⟩
theorem VRt.frz {w:World} {A A':Nat→Prop} {κ:List Value} (hA:∀ b,A' b→A b):∀ (a:List AV) (v:List Value) (fp:List Nat),(∀ b,b∈fp → ¬ A' b)→VRt w A κ a v fp→VRt w A' κ (zOF a) v []
  | [],_,_,_,h=>by unfold Go.Am.zOF; unfold VRt at *; exact ⟨h.1,rfl⟩
  | a::la,v,fp,hn,h=>by
    unfold Go.Am.zOF
    unfold VRt at *
    obtain ⟨u,vs',f1,f2,h1,rfl,h4,h5⟩:=h
    exact ⟨u,vs',[],[],h1,rfl,VR.frz hA a u f1 (fun b hb=>hn b (List.mem_append_left _ hb)) h4,VRt.frz hA la vs' f2 (fun b hb=>hn b (List.mem_append_right _ hb)) h5⟩
theorem VRr.frz {w:World} {A A':Nat→Prop} {κ:List Value} (hA:∀ b,A' b→A b):∀ (a:List (List AV)) (v:List (List Value)) (fp:List Nat),(∀ b,b∈fp → ¬ A' b)→VRr w A κ a v fp→VRr w A' κ (zO1 a) v []
  | [],_,_,_,h=>by unfold Go.Am.zO1; unfold VRr at *; exact ⟨h.1,rfl⟩
  | a::la,v,fp,hn,h=>by
    unfold Go.Am.zO1
    unfold VRr at *
    obtain ⟨u,vs',f1,f2,h1,rfl,h4,h5⟩:=h
    exact ⟨u,vs',[],[],h1,rfl,VRs.frz hA a u f1 (fun b hb=>hn b (List.mem_append_left _ hb)) h4,VRr.frz hA la vs' f2 (fun b hb=>hn b (List.mem_append_right _ hb)) h5⟩
end
section
variable {w:World} {A:Nat→Prop} {κ:List Value}
theorem zFC:∀ {xs ys:List AV} {vs:List Value} {fp:List Nat},VRs w A κ (xs++ys) vs fp ↔ ∃ v1 v2 f1 f2,vs=v1++v2∧fp=f1++f2∧VRs w A κ xs v1 f1∧VRs w A κ ys v2 f2
  | [],ys,vs,fp=>by
    constructor
    · intro h
      exact ⟨[],vs,[],fp,rfl,rfl,by unfold VRs; exact ⟨rfl,rfl⟩,h⟩
    · rintro ⟨v1,v2,f1,f2,rfl,rfl,h1,h2⟩
      unfold VRs at h1
      rw [h1.1,h1.2]
      exact h2
  | x::xs,ys,vs,fp=>by
    constructor
    · intro h
      rw [List.cons_append] at h
      unfold VRs at h
      obtain ⟨u,vs',f1,f2,rfl,rfl,h3,h4,h5⟩:=h
      obtain ⟨v1,v2,g1,g2,rfl,rfl,h6,h7⟩:=zFC.1 h5
      refine ⟨u::v1,v2,f1++g1,g2,rfl,by rw [List.append_assoc],?_,h7⟩
      unfold VRs
      exact ⟨u,v1,f1,g1,rfl,rfl,h3,h4,h6⟩
    · rintro ⟨v1,v2,f1,f2,rfl,rfl,h1,h2⟩
      rw [List.cons_append]
      unfold VRs at h1 ⊢
      obtain ⟨u,vs',g1,g2,rfl,rfl,h3,h4,h5⟩:=h1
      exact ⟨u,vs'++v2,g1,g2++f2,rfl,by rw [List.append_assoc],h3,h4,zFC.2 ⟨vs',v2,g2,f2,rfl,rfl,h5,h2⟩⟩
theorem zH9:∀ {xs ys:List (List AV)} {vs:List (List Value)} {fp:List Nat},VRr w A κ (xs++ys) vs fp ↔ ∃ v1 v2 f1 f2,vs=v1++v2∧fp=f1++f2∧VRr w A κ xs v1 f1∧VRr w A κ ys v2 f2
  | [],ys,vs,fp=>by
    constructor
    · intro h
      exact ⟨[],vs,[],fp,rfl,rfl,by unfold VRr; exact ⟨rfl,rfl⟩,h⟩
    · rintro ⟨v1,v2,f1,f2,rfl,rfl,h1,h2⟩
      unfold VRr at h1
      rw [h1.1,h1.2]
      exact h2
  | x::xs,ys,vs,fp=>by
    constructor
    · intro h
      rw [List.cons_append] at h
      unfold VRr at h
      obtain ⟨u,vs',f1,f2,rfl,rfl,h4,h5⟩:=h
      obtain ⟨v1,v2,g1,g2,rfl,rfl,h6,h7⟩:=zH9.1 h5
      refine ⟨u::v1,v2,f1++g1,g2,rfl,by rw [List.append_assoc],?_,h7⟩
      unfold VRr
      exact ⟨u,v1,f1,g1,rfl,rfl,h4,h6⟩
    · rintro ⟨v1,v2,f1,f2,rfl,rfl,h1,h2⟩
      rw [List.cons_append]
      unfold VRr at h1 ⊢
      obtain ⟨u,vs',g1,g2,rfl,rfl,h4,h5⟩:=h1
      exact ⟨u,vs'++v2,g1,g2++f2,rfl,by rw [List.append_assoc],h4,zH9.2 ⟨vs',v2,g2,f2,rfl,rfl,h5,h2⟩⟩
theorem zMZ {β:Type} {l:List β} {i:Nat} {x:β} (h:l[i]?=some x):l=l.take i++x::l.drop (i+1):=by
  rw [← zQ9 h,List.take_append_drop]
theorem zIK {β:Type} {l:List β} {i:Nat} (x:β) (h:i<l.length):l.set i x=l.take i++x::l.drop (i+1):=by
  rw [List.set_eq_take_append_cons_drop,if_pos h]
end
end Go.Am
