/-
  Functions on abstract values: contracts, entering, results, calls.
  Conditions: none: plain theorems over whatever program P.
-/
import Derived.Test.YtplkliakhdkpcaaGreatAmH
set_option linter.unusedVariables false
set_option linter.unusedSimpArgs false
namespace Go.Am
open Go Go.RowKit Go.Wk
def PFn (P:Program) (f:FuncId) (args:List AV) (r:AV):Prop :=
  ∀ (w:World) (A:Nat→Prop) (cargs:List Value),(∀ x,A x→x<w.heap.size)→VRt w A [] args cargs [] →
    FnC P f cargs.toArray w (fun v w' => ∃ fr,VR w' (fun b=>A b∨b∈fr) [] r v fr∧fr.Nodup∧(∀ x,x∈fr→w.heap.size≤x)∧KpS (fun _=>False) w w')
def AFn (P:Program) (f:FuncId) (args:List AV) (H:zAQ) (r:AV) (H':zAQ):Prop :=
  ∀ (w:World) (A0:Nat→Prop) (κ:List Value) (fp:Nat→List Nat) (cargs:List Value),SH w A0 H κ fp→VRt w (avd A0 fp) κ args cargs [] →
    FnC P f cargs.toArray w (fun v w' => ∃ κ' fp',SH w' A0 H' κ' fp'∧VR w' (avd A0 fp') κ' r v []∧zHi H.length w fp κ w' fp' κ')
def zUH (args:List AV):zCH:=fun i=>args.getD i (.lit undef)
theorem zNX {w:World} {A:Nat→Prop} {κ:List Value}:∀ {la:List AV} {vs:List Value} {fp:List Nat},VRt w A κ la vs fp→vs.length=la.length
  | [],_,_,h=>by unfold VRt at h; rw [h.1]; rfl
  | r::rs,_,_,h=>by
    unfold VRt at h
    obtain ⟨u,vs',f1,f2,rfl,rfl,h4,h5⟩:=h
    simp [zNX h5]
theorem zPT {w:World} {A:Nat→Prop} {κ:List Value} {args:List AV} {cargs:List Value} {n:Nat} (h:VRt w A κ args cargs []):zJz w A κ n (zUH args) (zMI cargs.toArray):=by
  intro t _
  unfold zUH zMI
  have hl:=zNX h
  rcases Nat.lt_or_ge t args.length with ht | ht
  · obtain ⟨v,h1,h2⟩:=zOP h (List.getElem?_eq_getElem ht)
    have e1:args.getD t (.lit undef)=args[t]:=by rw [List.getD_eq_getElem?_getD,List.getElem?_eq_getElem ht]; rfl
    have e2:cargs.toArray.getD t undef=v:=by
      have:t<cargs.length:=by omega
      simp [Array.getD,this]
      rw [List.getElem?_eq_getElem this] at h1
      simpa using h1
    rw [e1,e2]
    exact h2
  · have e1:args.getD t (.lit undef) = .lit undef:=by rw [List.getD_eq_getElem?_getD,List.getElem?_eq_none ht]; rfl
    have e2:cargs.toArray.getD t undef=undef:=by
      have:¬ t<cargs.length:=by omega
      simp [Array.getD,this]
    rw [e1,e2]
    exact zHS _ _ _ _
section
theorem zQL {P:Program} {w:World} {ty b T:Nat} {cs:List Value} (ha:∀ w,(isAgg ty).run P w = .ok true w) (hs:∀ w,(sizeOf ty).run P w = .ok cs.length w) (hb:Blk w b T cs):(loadVar ty ⟨b,0,none⟩).run P w = .ok (.agg cs.toArray) w:=by
  have hl:(loadCells ⟨b,0,none⟩ cs.length).run P w = .ok cs.toArray w:=run_loadCells_list w ⟨b,0,none⟩ cs (fun j v hv=>by
    rw [Addr.add_lit]
    exact hb.cells j v hv)
  simp only [loadVar,Sem.run_bind,ha,hs,hl,Result.andThen_ok,if_true,Sem.run_pure]
theorem zOx {n t:Nat} {F:Env} {v:Value} (h:ev n F (.tmp t)=v):(fr n F).tmps[t]?.getD undef=v:=by
  have:=congrFun (zJq n F) (.tmp t)
  rw [← h, ← this]
  exact (Array.getD_eq_getD_getElem? ..).symm
end
section
variable {P:Program} {n:Nat}
def zOH (tmps:Array Value) (rv:ResultVar):Sem Value :=
  match rv with
    | .tmp t=>pure (tmps.getD t undef)
    | .cell a t=>do loadVar t (← asAddr (tmps.getD a undef))
def zK4 (P:Program) (n:Nat) (F:Env) (w:World) (rv:ResultVar) (v:Value):Prop:=(zOH (fr n F).tmps rv).run P w = .ok v w
theorem zLA (fn:Func) (tmps:Array Value):results fn tmps=(do
    let vs ← fn.results.mapM (zOH tmps)
    pure (if h:vs.size=1 then vs[0] else .tuple vs)):=by
  unfold results
  have:(fun x=>zOH tmps x)=(fun x=>match x with
    | .tmp t=>pure (tmps.getD t undef)
    | .cell a t=>do loadVar t (← asAddr (tmps.getD a undef))):=by funext x; rfl
  rw [show zOH tmps=(fun x=>zOH tmps x) from rfl,this]
  rfl
theorem zQl {F:Env} {w:World} {a:ResultVar} {v:Value} (h:zK4 P n F w a v):Res P #[a] n F w v:=by
  intro fn hr
  unfold zK4 at h
  rw [zLA,hr]
  simp [h]
theorem zSf {F:Env} {w:World} {a b:ResultVar} {v u:Value} (h:zK4 P n F w a v) (h2:zK4 P n F w b u):Res P #[a,b] n F w (.tuple #[v,u]):=by
  intro fn hr
  unfold zK4 at h h2
  rw [zLA,hr]
  simp [h,h2]
theorem zSV {F:Env} {w:World} {a b c:ResultVar} {v u s:Value} (h:zK4 P n F w a v) (h2:zK4 P n F w b u) (h3:zK4 P n F w c s):Res P #[a,b,c] n F w (.tuple #[v,u,s]):=by
  intro fn hr
  unfold zK4 at h h2 h3
  rw [zLA,hr]
  simp [h,h2,h3]
def R1 (P:Program) (n:Nat) (e:zCH) (H:zAQ) (rv:ResultVar) (r:AV) (own:Option Nat):Prop :=
  ∀ w A0 κ fp F,SH w A0 H κ fp→zJz w (avd A0 fp) κ n e F → ∃ v fr,zK4 P n F w rv v∧VR w (avd A0 fp) [] r v fr∧fr.Nodup ∧ ∀ x,x∈fr → ∃ k,own=some k∧x∈fp k
def zAP (P:Program) (n:Nat) (rs:Array ResultVar) (r:AV) (e:zCH) (H:zAQ):Prop :=
  ∀ w A0 κ fp F,SH w A0 H κ fp→zJz w (avd A0 fp) κ n e F → ∃ v fr,Res P rs n F w v∧VR w (avd A0 fp) [] r v fr∧fr.Nodup ∧ ∀ x,x∈fr → ∃ k,x∈fp k
def djO:Option Nat→Option Nat→Bool
  | some a,some b => !Nat.beq a b
  | _,_=>true
theorem zR3 {a b:Nat} (h:djO (some a) (some b)=true):a≠b:=by
  rintro rfl
  simp [djO] at h
variable {e:zCH} {H:zAQ} {a b c:ResultVar} {r1 r2 r3:AV} {o1 o2 o3:Option Nat}
theorem zv (h:R1 P n e H a r1 o1):zAP P n #[a] r1 e H:=by
  intro w A0 κ fp F g1 g2
  obtain ⟨v,fr,h1,h2,h3,h4⟩:=h w A0 κ fp F g1 g2
  exact ⟨v,fr,zQl h1,h2,h3,fun x hx=>by obtain ⟨k,_,hk⟩:=h4 x hx; exact ⟨k,hk⟩⟩
theorem zBl (h:R1 P n e H a r1 o1) (k:R1 P n e H b r2 o2) (hd:djO o1 o2=true):zAP P n #[a,b] (.tup [r1,r2]) e H:=by
  intro w A0 κ fp F g1 g2
  obtain ⟨v,f1,h1,h2,h3,h4⟩:=h w A0 κ fp F g1 g2
  obtain ⟨u,f2,k1,k2,k3,k4⟩:=k w A0 κ fp F g1 g2
  refine ⟨.tuple #[v,u],f1++(f2++[]),zSf h1 k1,?_,?_,?_⟩
  · unfold VR
    refine ⟨[v,u],rfl,?_⟩
    unfold VRt
    refine ⟨v,[u],f1,f2++[],rfl,rfl,h2,?_⟩
    unfold VRt
    exact ⟨u,[],f2,[],rfl,rfl,k2,by unfold VRt; exact ⟨rfl,rfl⟩⟩
  · rw [List.append_nil,List.nodup_append]
    refine ⟨h3,k3,fun x hx y hy => ?_⟩
    rintro rfl
    obtain ⟨i,hi,hxi⟩:=h4 x hx
    obtain ⟨j,hj,hxj⟩:=k4 x hy
    subst hi; subst hj
    exact zR3 hd (g1.dj i j x hxi hxj)
  · intro x hx
    rw [List.append_nil,List.mem_append] at hx
    rcases hx with hx | hx
    · obtain ⟨i,_,hi⟩:=h4 x hx; exact ⟨i,hi⟩
    · obtain ⟨i,_,hi⟩:=k4 x hx; exact ⟨i,hi⟩
theorem zEh (h:R1 P n e H a r1 o1) (k:R1 P n e H b r2 o2) (l:R1 P n e H c r3 o3) (hd:(djO o1 o2&&djO o1 o3&&djO o2 o3)=true):zAP P n #[a,b,c] (.tup [r1,r2,r3]) e H:=by
  intro w A0 κ fp F g1 g2
  simp only [Bool.and_eq_true] at hd
  obtain ⟨v,f1,h1,h2,h3,h4⟩:=h w A0 κ fp F g1 g2
  obtain ⟨u,f2,k1,k2,k3,k4⟩:=k w A0 κ fp F g1 g2
  obtain ⟨s,f3,l1,l2,l3,l4⟩:=l w A0 κ fp F g1 g2
  refine ⟨.tuple #[v,u,s],f1++(f2++(f3++[])),zSV h1 k1 l1,?_,?_,?_⟩
  · unfold VR
    refine ⟨[v,u,s],rfl,?_⟩
    unfold VRt
    refine ⟨v,[u,s],f1,f2++(f3++[]),rfl,rfl,h2,?_⟩
    unfold VRt
    refine ⟨u,[s],f2,f3++[],rfl,rfl,k2,?_⟩
    unfold VRt
    exact ⟨s,[],f3,[],rfl,rfl,l2,by unfold VRt; exact ⟨rfl,rfl⟩⟩
  · rw [List.append_nil,List.nodup_append,List.nodup_append]
    have hx2:∀ {oo oo':Option Nat} {f f':List Nat},djO oo oo'=true→(∀ x,x∈f → ∃ k,oo=some k∧x∈fp k)→(∀ x,x∈f' → ∃ k,oo'=some k∧x∈fp k) → ∀ x,x∈f → ∀ y,y∈f'→x≠y:=by
      intro oo oo' f f' hd hf hf' x hx y hy
      rintro rfl
      obtain ⟨i,hi,hxi⟩:=hf x hx
      obtain ⟨j,hj,hxj⟩:=hf' x hy
      subst hi; subst hj
      exact zR3 hd (g1.dj i j x hxi hxj)
    refine ⟨h3,⟨k3,l3,hx2 hd.2 k4 l4⟩,fun x hx y hy => ?_⟩
    rcases List.mem_append.1 hy with hy | hy
    · exact hx2 hd.1.1 h4 k4 x hx y hy
    · exact hx2 hd.1.2 h4 l4 x hx y hy
  · intro x hx
    rw [List.append_nil,List.mem_append,List.mem_append] at hx
    rcases hx with hx | hx | hx
    · obtain ⟨i,_,hi⟩:=h4 x hx; exact ⟨i,hi⟩
    · obtain ⟨i,_,hi⟩:=k4 x hx; exact ⟨i,hi⟩
    · obtain ⟨i,_,hi⟩:=l4 x hx; exact ⟨i,hi⟩
def nrA:AV→Bool
  | .agg cs=>cs.all nr
  | a=>nr a
theorem zMa {w:World} {A:Nat→Prop} {κ κ':List Value} {a:AV} {v:Value} {fp:List Nat} (h:nrA a=true) (hv:VR w A κ a v fp):VR w A κ' a v fp:=by
  cases a with
  | agg cs =>
    unfold VR at *
    obtain ⟨vs,h1,h2⟩:=hv
    exact ⟨vs,h1,zKv h h2⟩
  | _=>exact zM8 h hv
theorem zPF {F:Env} {w:World} {t:Nat} {v:Value} (h:ev n F (.tmp t)=v):zK4 P n F w (.tmp t) v:=by
  unfold zK4 zOH
  have:=zOx h
  rw [← Array.getD_eq_getD_getElem?] at this
  simp [this]
theorem zAO {t:Nat} (h:aev n e (.tmp t)=r1) (hn:nrA r1=true):R1 P n e H (.tmp t) r1 none:=by
  intro w A0 κ fp F g1 g2
  have hv:=g2.ev (.tmp t)
  rw [h] at hv
  exact ⟨_,[],zPF rfl,zMa hn hv,by simp,by simp⟩
theorem zJx {rv:ResultVar} {r r':AV} {oo:Option Nat} (h:R1 P n e H rv r oo) (hs:zf r r'):R1 P n e H rv r' oo:=by
  intro w A0 κ fp F g1 g2
  obtain ⟨v,fr,h1,h2,h3⟩:=h w A0 κ fp F g1 g2
  exact ⟨v,fr,h1,hs _ _ _ _ _ h2,h3⟩
theorem zUI {t k T sz:Nat} {rows:List (List AV)} (h:aev n e (.tmp t) = .hd k) (hk:H[k]?=some (.vec T sz rows)):R1 P n e H (.tmp t) (.osl T sz rows) (some k):=by
  intro w A0 κ fp F g1 g2
  have hv:=g2.ev (.tmp t)
  rw [h] at hv
  unfold VR at hv
  refine ⟨_,fp k,zPF rfl,?_,g1.nd k,fun x hx=>⟨k,rfl,hx⟩⟩
  have:=g1.ent k _ _ hk hv.1
  unfold VR
  exact this
theorem zFZ {t k T ty m:Nat} {cs:List AV} (ha:∀ w,(isAgg ty).run P w = .ok true w) (hs:∀ w,(sizeOf ty).run P w = .ok m w) (hm:cs.length=m) (h:aev n e (.tmp t) = .ptr k 0) (hk:H[k]?=some (.box T cs)) (hn:cs.all nr=true):R1 P n e H (.cell t ty) (.agg cs) (some k):=by
  intro w A0 κ fp F g1 g2
  have hv:=g2.ev (.tmp t)
  rw [h] at hv
  unfold VR at hv
  obtain ⟨_,u,b,h1,h2,hv⟩:=hv
  obtain ⟨b',vs,f',rfl,hb,hvs,hfp⟩:=g1.ent k _ u hk h1
  cases h2
  have hnd:=g1.nd k
  rw [hfp] at hnd
  refine ⟨.agg vs.toArray,f',?_,by unfold VR; exact ⟨vs,rfl,zKv hn hvs⟩,(List.nodup_cons.1 hnd).2,fun x hx=>⟨k,rfl,by rw [hfp]; exact List.mem_cons_of_mem _ hx⟩⟩
  have hr:=zQL (P:=P) ha (fun w=>by rw [zEY hvs,hm]; exact hs w) hb
  unfold zK4 zOH
  have ht:=zOx hv
  rw [← Array.getD_eq_getD_getElem?] at ht
  simp [ht,asAddr,hr]
theorem zTb {w:World} {A0:Nat→Prop} (h:∀ x,A0 x→x<w.heap.size):SH w A0 [] [] (fun _=>[]) :=
  ⟨rfl,fun i e v h=>by simp at h,fun _ _=>rfl,by simp,(fun i j x h=>by cases h),(fun i x h=>by cases h),h⟩
theorem zq {f:FuncId} {fn:Func} {code:Code} {args:List AV} {r:AV} {rs:Array ResultVar} (hf:P.funcs[f]?=some fn) (hb:fn.body=some code) (hn:fn.ntmps=n) (hr:fn.results=rs) (ha:Nat.ble args.length n=true)
    (h:AW P n 0 code ⟨zAP P n rs r,zAP P n rs r,[]⟩ (zUH args) []):PFn P f args r:=by
  intro w A cargs hA hargs
  have hl:=zNX hargs
  refine zOE hf hb hn hr (by simp [hl]; exact Nat.le_of_ble_eq_true ha) ?_
  have hav:∀ b,avd A (fun _=>[]) b↔A b:=fun b=>⟨(fun h=>by rcases h with h | ⟨i,h⟩; exact h; cases h),.inl⟩
  have hE:zJz w (avd A (fun _=>[])) [] n (zUH args) (zMI cargs.toArray) :=
    zPT (by
      have mv:Mv w A [] w (avd A (fun _=>[])) []:=⟨Nat.le_refl _,fun _ _ _=>rfl,fun b hb => .inl ((hav b).1 hb),fun _ _ h=>h⟩
      exact VRt.mv mv _ _ _ (fun _ _=>rfl) hargs)
  have key:∀ F w',conc n 0 w A [] (fun _=>[]) (zAP P n rs r) F w' → ∃ v,Res P rs n F w' v ∧ ∃ fr,VR w' (fun b=>A b∨b∈fr) [] r v fr∧fr.Nodup∧(∀ x,x∈fr→w.heap.size≤x)∧KpS (fun _=>False) w w':=by
    rintro F w' ⟨e',H',κ',fp',g1,g2,g3,g4⟩
    obtain ⟨v,fr,h1,h2,h3,h4⟩:=g4 w' A κ' fp' F g1 g2
    refine ⟨v,h1,fr,VR.mv ⟨Nat.le_refl _,fun _ _ _=>rfl,fun b hb => .inl ?_,fun _ _ h=>h⟩ _ _ _ (fun _ _=>rfl) h2,h3,?_,⟨g3.kp.os,g3.kp.tape,g3.kp.output,g3.kp.size,fun b hb _=>g3.kp.block b hb (fun ⟨i,hi⟩=>by cases hi)⟩⟩
    · rcases hb with hb | hb
      · exact .inl hb
      · obtain ⟨k,hk⟩:=h4 b hb; exact .inr ⟨k,hk⟩
    · intro x hx
      obtain ⟨k,hk⟩:=h4 x hx
      rcases g3.new k x hk with ⟨j,hj⟩ | h
      · cases hj
      · exact h
  refine zK2 (h w A [] (fun _=>[]) _ (zTb hA) hE) key key (fun id F w h => ?_)
  simp [zLT.conc,Wk.look] at h
def zUS (P:Program) (n:Nat) (rs:Array ResultVar) (r:AV) (H':zAQ) (e:zCH) (H:zAQ):Prop :=
  H=H' ∧ ∀ w A0 κ fp F,SH w A0 H κ fp→zJz w (avd A0 fp) κ n e F → ∃ v,Res P rs n F w v∧VR w (avd A0 fp) κ r v []
theorem zMD {H':zAQ} (hH:H=H'):zUS P n #[] (.tup []) H' e H:=⟨hH,fun w A0 κ fp F _ _=>⟨_,zUU,by unfold VR; exact ⟨[],rfl,by unfold VRt; exact ⟨rfl,rfl⟩⟩⟩⟩
theorem zTt {H':zAQ} {t:Nat} (hH:H=H') (h:aev n e (.tmp t)=r1):zUS P n #[.tmp t] r1 H' e H:=⟨hH,fun w A0 κ fp F _ g2=>⟨_,zQl (zPF rfl),by have:=g2.ev (.tmp t); rw [h] at this; exact this⟩⟩
end
end Go.Am
