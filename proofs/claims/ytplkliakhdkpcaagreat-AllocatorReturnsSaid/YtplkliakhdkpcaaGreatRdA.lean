/-
  Arguments that are read as data are abstract values: from the form's reading of memory to the relation that the contracts ask.
-/
import Derived.Test.YtplkliakhdkpcaaGreatAmX
import Derived.ProofKit
import Derived.SizedLaws
import Derived.Deep.Slices
import Derived.OpenShut
set_option linter.unusedVariables false
set_option linter.unusedSimpArgs false
namespace Go.Am
open Go Go.RowKit Go.Wk Go.ChangeShapes Go.WideShapes Go.Deep
def noB:Nat→Prop:=fun _=>False
def RdC (P:Program) (t:TypeId) {α:Type} (f:α→List AV) (G:α→Prop):Prop :=
  ∀ {H:Type} (enc:TypeId×Value→H) (w:World) (fuel:Nat) (cs:List Value) (x:DataW H×List MemPlace),
    DataW.trod enc P w 0 (fun _=>true) true fuel t cs=some x→(∀ n,n∈x.1.weights P t→n≤reachBytes) → ∃ a,VRs w noB [] (f a) cs []∧G a
section
variable {P:Program} {t e:TypeId} {α β:Type} {f:α→List AV} {G:α→Prop}
theorem zRF {w:World} {A:Nat→Prop} {κ:List Value} {a:AV} {v:Value} (h:VR w A κ a v []) (ho:v.oneCell'=true):VRs w A κ [a] [v] []:=by
  unfold VRs
  exact ⟨v,[],[],[],rfl,rfl,ho,h,by unfold VRs; exact ⟨rfl,rfl⟩⟩
theorem zTV {w:World} {A:Nat→Prop} {κ:List Value} {a:AV} {v:Value} (h:VRs w A κ [a] [v] []):VR w A κ a v []:=by
  unfold VRs at h
  obtain ⟨v',vs',f1,f2,e1,e2,_,h1,h2⟩:=h
  simp only [List.cons.injEq] at e1
  obtain ⟨rfl,rfl⟩:=e1
  have e3:=List.append_eq_nil_iff.1 e2.symm
  rw [e3.1] at h1
  exact h1
theorem zTA {w:World} {A:Nat→Prop} {κ:List Value}:∀ {la lb:List AV} {u v:List Value},VRs w A κ la u []→VRs w A κ lb v []→VRs w A κ (la++lb) (u++v) []
  | [],lb,u,v,h1,h2=>by
    unfold VRs at h1
    obtain ⟨rfl,_⟩:=h1
    exact h2
  | a::la,lb,u,v,h1,h2=>by
    unfold VRs at h1
    obtain ⟨v',vs',f1,f2,rfl,e2,ho,h3,h4⟩:=h1
    have e3:=List.append_eq_nil_iff.1 e2.symm
    rw [e3.1] at h3
    rw [e3.2] at h4
    show VRs w A κ (a::(la++lb)) _ _
    unfold VRs
    exact ⟨v',vs'++v,[],[],rfl,rfl,ho,h3,zTA h4 h2⟩
theorem RdC.map (h:RdC P t f G) {f':β→List AV} {G':β→Prop} (φ:α→β) (hf:∀ a,f' (φ a)=f a) (hG:∀ a,G a→G' (φ a)):RdC P t f' G':=by
  intro H enc w fuel cs x hx hw
  obtain ⟨a,h1,h2⟩:=h enc w fuel cs x hx hw
  exact ⟨φ a,by rw [hf]; exact h1,hG a h2⟩
theorem zS4 {k:IntKind} (ht:P.underlying t=some (.int k)):RdC P t (cK k) (fun n=>(Lit.int k n).wf=true):=by
  intro H enc w fuel cs x hx _
  obtain ⟨n,rfl,rfl,hn⟩:=DataW.trod_int ht hx
  exact ⟨n,zRF (by unfold VR; exact ⟨rfl,rfl⟩) rfl,hn⟩
theorem zH5 {H:Type}:∀ {l:List (DataW H)} {d:DataW H},d∈l → ∀ n∈d.weights P e,n∈DataW.weightsAll P e l
  | [],_,h,_,_=>by cases h
  | d0::l,d,h,n,hn=>by
    unfold DataW.weightsAll
    rcases List.mem_cons.1 h with rfl | h
    · exact List.mem_append_left _ hn
    · exact List.mem_append_right _ (zH5 h n hn)
theorem zUk (b o i:Nat):(⟨b,o,none⟩:Addr).add i=⟨b,o+i,none⟩:=by
  unfold Addr.add
  split
  · rename_i h
    have h:i=0:=by simpa using h
    rw [h]
    rfl
  · rfl
theorem zTz (w:World) (b off i s:Nat) {cs:List Value} (h:w.cells? 0 ((⟨b,off,none⟩:Addr).add (i*s)) s=some cs):cs.length=s∧Cells w b (off+i*s) cs:=by
  obtain ⟨_,hl,hc⟩:=World.cells?_some h
  refine ⟨hl,fun j v hv => ?_⟩
  have hj:j<s:=by rw [← hl]; exact (List.getElem?_eq_some_iff.1 hv).1
  have:=hc j hj
  rw [hv] at this
  rw [zUk,zUk] at this
  exact this
theorem zKk (ht:P.underlying t=some (.slice e)) (hb:1≤P.bytesOf e) (hc:1≤P.cellsOf e) (h:RdC P e f G):RdC P t (cS f) (fun l=>(∀ x,x∈l→G x)∧l.length≤140737488351232):=by
  intro H enc w fuel cs x hx hw
  rcases open_slice ht hx with ⟨rfl,rfl⟩ | ⟨a,len,cap,m,n,D,Pl,rfl,_,hl,hm,hmm,rfl,hall⟩
  · refine ⟨[],zRF ?_ rfl,fun x hx=>absurd hx (by simp),by simp⟩
    unfold VR
    exact ⟨rfl,none,0,rfl,by simp,by simp [maxLen],fun _=>rfl,.inl rfl⟩
  · rw [if_pos rfl] at hmm
    subst hmm
    have hreach:m≤140737488351232:=by
      have:=hw ((((List.range len).map D).length+((List.range (m - len)).map fun j=>D (len+j)).length)*P.bytesOf e) (by simp [DataW.weights,ht])
      simp only [List.length_map,List.length_range] at this
      unfold reachBytes at this
      have h2:(len+(m - len))*1≤(len+(m - len))*P.bytesOf e:=Nat.mul_le_mul_left _ hb
      omega
    have hone:∀ i,i<len → ∃ cs',w.cells? 0 (a.add (i*P.cellsOf e)) (P.cellsOf e)=some cs' ∧ ∃ y,VRs w noB [] (f y) cs' []∧G y:=by
      intro i hi
      obtain ⟨cs',h1,h2⟩:=hall i (by omega)
      obtain ⟨y,h3⟩:=h enc w n cs' _ h2 (fun k hk=>hw k (by
        simp only [DataW.weights,ht]
        exact List.mem_cons_of_mem _ (List.mem_append_left _ (zH5 (List.mem_map.2 ⟨i,List.mem_range.2 hi,rfl⟩) k hk))))
      exact ⟨cs',h1,y,h3⟩
    by_cases h0:len=0
    · subst h0
      refine ⟨[],zRF ?_ rfl,fun x hx=>absurd hx (by simp),by simp⟩
      unfold VR
      exact ⟨rfl,some a,m,rfl,by simp,⟨by simp,hm⟩,fun h=>absurd h (by simp),.inl rfl⟩
    · obtain ⟨b,off,spot⟩:=a
      obtain ⟨c0,hc0,_⟩:=hone 0 (by omega)
      obtain ⟨_,hl0,hcell⟩:=World.cells?_some hc0
      have hne:∃ v,w.cell? ((⟨b,off,spot⟩:Addr).add 0)=some v:=by
        have:=hcell 0 hc
        rw [List.getElem?_eq_getElem (by omega)] at this
        simp only [Nat.zero_mul] at this
        exact ⟨_,this⟩
      obtain ⟨v0,hv0⟩:=hne
      have hspot:spot=none:=by simpa [Addr.add] using World.cell?_spot hv0
      subst hspot
      have hblt:b<w.heap.size:=World.block_lt_of_cell? _ _ hv0
      have main:∀ k i,i+k=len → ∃ (la:List α) (vr:List (List Value)),la.length=k∧VRr w noB [] (la.map f) vr []∧(∀ r,r∈vr→r.length=P.cellsOf e)∧Cells w b (off+i*P.cellsOf e) vr.flatten ∧ ∀ y,y∈la→G y:=by
        intro k
        induction k with
        | zero=>exact fun i _=>⟨[],[],rfl,by unfold VRr; exact ⟨rfl,rfl⟩,fun r hr=>absurd hr (by simp),fun j v hv=>by simp at hv,fun y hy=>absurd hy (by simp)⟩
        | succ k ih =>
          intro i hi
          obtain ⟨la,vr,h1,h2,h3,h4,h5⟩:=ih (i+1) (by omega)
          obtain ⟨cs',c1,y,c2,c3⟩:=hone i (by omega)
          obtain ⟨q1,q2⟩:=zTz w b off i (P.cellsOf e) c1
          refine ⟨y::la,cs'::vr,by simp [h1],?_,?_,?_,?_⟩
          · show VRr w noB [] (f y::la.map f) _ _
            unfold VRr
            exact ⟨cs',vr,[],[],rfl,rfl,c2,h2⟩
          · intro r hr
            rcases List.mem_cons.1 hr with rfl | hr
            · exact q1
            · exact h3 r hr
          · intro j v hv
            rw [List.flatten_cons] at hv
            by_cases hj:j<cs'.length
            · rw [List.getElem?_append_left hj] at hv
              exact q2 j v hv
            · rw [List.getElem?_append_right (by omega)] at hv
              have:=h4 (j - cs'.length) v hv
              rw [Nat.add_mul,Nat.one_mul,show off+(i*P.cellsOf e+P.cellsOf e)+(j - cs'.length)=off+i*P.cellsOf e+j by omega] at this
              exact this
          · intro z hz
            rcases List.mem_cons.1 hz with rfl | hz
            · exact c3
            · exact h5 z hz
      obtain ⟨la,vr,h1,h2,h3,h4,h5⟩:=main len 0 (by omega)
      refine ⟨la,zRF ?_ rfl,h5,by omega⟩
      unfold VR
      refine ⟨rfl,some ⟨b,off,none⟩,m,by rw [List.length_map,h1],by rw [List.length_map,h1]; exact hl,⟨by rw [List.length_map]; omega,hm⟩,fun h=>absurd h (by simp),.inr ⟨b,off,P.cellsOf e,vr,rfl,id,hblt,h2,h3,?_⟩⟩
      rw [Nat.zero_mul,Nat.add_zero] at h4
      exact h4
theorem zSP {n:Nat} {g:α→AV} (d:α) (ht:P.underlying t=some (.array n e)) (hc:P.cellsOf e=1) (hn:P.cellsOf t=n) (h:RdC P e (fun a=>[g a]) G):RdC P t (cA n g d) (fun l=>l.length=n ∧ ∀ x,x∈l→G x):=by
  intro H enc w fuel cs x hx hw
  obtain ⟨xs,m,_,rfl,hl,hxl,hall⟩:=DataW.trod_array ht hx
  rw [hn] at hl
  have hone:∀ i,i<n → ∃ v,cs[i]?=some v ∧ ∃ y,VRs w noB [] [g y] [v] []∧G y:=by
    intro i hi
    have h1:=hall i hi
    rw [hc,Nat.mul_one,List.getElem?_eq_getElem (by omega)] at h1
    have hv:cs[i]?=some cs[i]:=List.getElem?_eq_getElem (by omega)
    have hd:(cs.drop i).take 1=[cs[i]]:=by rw [List.drop_eq_getElem_cons (by omega)]; rfl
    rw [hd] at h1
    obtain ⟨y,h2⟩:=h enc w m _ _ h1 (fun k hk=>hw k (by
      simp only [DataW.weights,ht]
      exact zH5 (List.mem_map.2 ⟨xs[i],List.getElem_mem _,rfl⟩) k hk))
    exact ⟨cs[i],hv,y,h2⟩
  have main:∀ k i,i+k=n → ∃ la:List α,la.length=k∧VRs w noB [] (la.map g) (cs.drop i) [] ∧ ∀ y,y∈la→G y:=by
    intro k
    induction k with
    | zero=>exact fun i hi=>⟨[],rfl,by rw [List.drop_eq_nil_of_le (by omega)]; show VRs w noB [] [] [] []; unfold VRs; exact ⟨rfl,rfl⟩,fun y hy=>absurd hy (by simp)⟩
    | succ k ih =>
      intro i hi
      obtain ⟨la,h1,h2,h3⟩:=ih (i+1) (by omega)
      obtain ⟨v,hv,y,h4,h5⟩:=hone i (by omega)
      refine ⟨y::la,by simp [h1],?_,?_⟩
      · obtain ⟨hlt,rfl⟩:=List.getElem?_eq_some_iff.1 hv
        rw [List.drop_eq_getElem_cons hlt]
        exact zTA (la:=[g y]) (u:=[cs[i]]) h4 h2
      · intro z hz
        rcases List.mem_cons.1 hz with rfl | hz
        · exact h5
        · exact h3 z hz
  obtain ⟨la,h1,h2,h3⟩:=main n 0 (by omega)
  refine ⟨la,?_,h1,h3⟩
  have e1:cA n g d la=la.map g:=by
    unfold cA
    apply List.ext_getElem?
    intro i
    rw [List.getElem?_map,List.getElem?_map]
    by_cases hi:i<n
    · rw [List.getElem?_range hi,List.getElem?_eq_getElem (by omega)]
      simp [List.getD_eq_getElem?_getD,List.getElem?_eq_getElem (show i<la.length by omega)]
    · rw [List.getElem?_eq_none (by simp; omega),List.getElem?_eq_none (by omega)]
      rfl
  rw [e1]
  exact h2
def RdF (P:Program) (tot o:Nat) (fs:List Field) {α:Type} (f:α→List AV) (G:α→Prop):Prop :=
  ∀ {H:Type} (enc:TypeId×Value→H) (w:World) (n:Nat) (cs:List Value) (xs:List (DataW H×List MemPlace)),cs.length=tot→xs.length=fs.length →
    (∀ (i:Nat) (fl:Field),fs[i]?=some fl→DataW.trod enc P w 0 (fun _=>true) true n fl.type ((cs.drop fl.offset).take (P.cellsOf fl.type))=xs[i]?) →
    (∀ k,k∈DataW.weightsEach P (fs.map (·.type)) (xs.map (·.1))→k≤reachBytes) → ∃ a,VRs w noB [] (f a) (cs.drop o) []∧G a
theorem zOd {tot o:Nat} (ho:Nat.beq o tot=true):RdF P tot o [] (fun _:Unit=>([]:List AV)) (fun _=>True):=by
  intro H enc w n cs xs h1 h2 h3 h4
  have:=Nat.eq_of_beq_eq_true ho
  refine ⟨(),?_,trivial⟩
  rw [List.drop_eq_nil_of_le (by omega)]
  unfold VRs
  exact ⟨rfl,rfl⟩
theorem zFr {tot o s:Nat} {fl:Field} {fs:List Field} {f':β→List AV} {G':β→Prop} (h:RdC P fl.type f G) (ho:Nat.beq fl.offset o=true) (hs:P.cellsOf fl.type=s) (r:RdF P tot (o+s) fs f' G') :
    RdF P tot o (fl::fs) (fun x:α×β=>f x.1++f' x.2) (fun x=>G x.1∧G' x.2):=by
  intro H enc w n cs xs h1 h2 h3 h4
  have ho':=Nat.eq_of_beq_eq_true ho
  match xs,h2 with
  | x::xs,h2 =>
    have h5:=h3 0 fl rfl
    rw [hs,ho'] at h5
    obtain ⟨a,a1,a2⟩:=h enc w n _ _ h5 (fun k hk=>h4 k (by
      show k∈DataW.weightsEach P (fl.type::fs.map (·.type)) (x.1::xs.map (·.1))
      unfold DataW.weightsEach
      exact List.mem_append_left _ hk))
    obtain ⟨b,b1,b2⟩:=r enc w n cs xs h1 (by simpa using h2) (fun i fl' hf=>h3 (i+1) fl' (by simpa using hf)) (fun k hk=>h4 k (by
      show k∈DataW.weightsEach P (fl.type::fs.map (·.type)) (x.1::xs.map (·.1))
      unfold DataW.weightsEach
      exact List.mem_append_right _ hk))
    refine ⟨(a,b),?_,a2,b2⟩
    have e1:cs.drop o=(cs.drop o).take s++cs.drop (o+s):=by
      rw [← List.drop_drop]
      exact (List.take_append_drop s (cs.drop o)).symm
    rw [e1]
    exact zTA a1 b1
theorem zLJ {fs:Array Field} {tot:Nat} (ht:P.underlying t=some (.struct fs)) (hn:P.cellsOf t=tot) (r:RdF P tot 0 fs.toList f G):RdC P t f G:=by
  intro H enc w fuel cs x hx hw
  obtain ⟨xs,n,_,rfl,hl,hxl,hall⟩:=DataW.trod_struct ht hx
  exact r enc w n cs xs (by rw [hl,hn]) (by rw [hxl]; simp) (fun i fl hf=>hall i fl (by simpa using hf)) (fun k hk=>hw k (by
    simp only [DataW.weights,ht]
    exact hk))
theorem RdC.arg1 {g:α→AV} (h:RdC P t (fun a=>[g a]) G) {H:Type} {enc:TypeId×Value→H} {w:World} {v:Value} {d:DataW H} {ps:List MemPlace} (hd:DataW.Trod enc P w 0 (fun _=>true) true t v d ps) (hw:∀ n,n∈d.weights P t→n≤reachBytes) (hv:v.cells.toList=[v]) :
    ∃ a,VR w noB [] (g a) v []∧G a:=by
  obtain ⟨fuel,hd⟩:=hd
  rw [hv] at hd
  obtain ⟨a,h1,h2⟩:=h enc w fuel _ _ hd hw
  exact ⟨a,zTV h1,h2⟩
theorem RdC.argA (h:RdC P t f G) {H:Type} {enc:TypeId×Value→H} {w:World} {xs:Array Value} {d:DataW H} {ps:List MemPlace} (hd:DataW.Trod enc P w 0 (fun _=>true) true t (.agg xs) d ps) (hw:∀ n,n∈d.weights P t→n≤reachBytes) (hxs:(Value.agg xs).cells=xs) :
    ∃ a,VR w noB [] (.agg (f a)) (.agg xs) []∧G a:=by
  obtain ⟨fuel,hd⟩:=hd
  rw [hxs] at hd
  obtain ⟨a,h1,h2⟩:=h enc w fuel _ _ hd hw
  refine ⟨a,?_,h2⟩
  unfold VR
  exact ⟨xs.toList,by simp,h1⟩
end
end Go.Am
