/-
  Calls on abstract values.
  Conditions: none: plain theorems over whatever program P.
-/
import Derived.Test.YtplkliakhdkpcaaGreatAmI
set_option linter.unusedVariables false
set_option linter.unusedSimpArgs false
namespace Go.Am
open Go Go.RowKit Go.Wk
def zAs (H:zAQ) (S:List Nat) (a a':AV):Prop :=
  ∀ w A0 κ fp v,SH w A0 H κ fp→VR w (avd A0 fp) κ a v []→VR w (fun b=>avd A0 fp b ∧ ∀ k,k∈S→b ∉ fp k) [] a' v []
def zDh (H:zAQ) (S:List Nat):List AV→List AV→Prop
  | [],[]=>True
  | a::la,b::bs=>zAs H S a b∧zDh H S la bs
  | _,_=>False
section
variable {H:zAQ} {S:List Nat}
theorem zNP (w:World) (A0:Nat→Prop) (fp:Nat→List Nat) (κ:List Value) (S:List Nat):Mv w (avd A0 fp) κ w (fun b=>avd A0 fp b ∧ ∀ k,k∈S→b ∉ fp k) κ:=⟨Nat.le_refl _,fun _ _ _=>rfl,fun _ h => .inl h.1,fun _ _ h=>h⟩
theorem zAs.nr {a:AV} (h:nrA a=true):zAs H S a a:=fun w A0 κ fp v _ hv=>zMa h (VR.mv (zNP w A0 fp κ S) _ _ _ (fun _ _=>rfl) hv)
theorem zAs.hd {k t sz:Nat} {rows:List (List AV)} (hk:H[k]?=some (.vec t sz rows)) (hS:S.contains k=true):zAs H S (.hd k) (.sl false (zO1 rows)):=by
  intro w A0 κ fp v h1 hv
  unfold VR at hv
  have h2:=h1.ent k _ v hk hv.1
  have h3:VR w (avd A0 fp) [] (.osl t sz rows) v (fp k):=by unfold VR; exact h2
  have h4:=VR.frz (A':=fun b=>avd A0 fp b ∧ ∀ k,k∈S→b ∉ fp k) (fun b hb=>hb.1) _ _ _ (fun b hb hA=>hA.2 k (by simpa using hS) hb) h3
  unfold Go.Am.frz at h4
  exact h4
theorem zDh.vrs {w:World} {A0:Nat→Prop} {κ:List Value} {fp:Nat→List Nat} (h1:SH w A0 H κ fp):∀ {la bs:List AV} {vs:List Value},zDh H S la bs→VRs w (avd A0 fp) κ la vs []→VRs w (fun b=>avd A0 fp b ∧ ∀ k,k∈S→b ∉ fp k) [] bs vs []
  | [],[],_,_,h=>by unfold VRs at *; exact h
  | [],_::_,_,h,_=>h.elim
  | _::_,[],_,h,_=>h.elim
  | a::la,b::bs,vs,h,hv=>by
    unfold VRs at hv ⊢
    obtain ⟨u,vs',f1,f2,rfl,hf,h3,h4,h5⟩:=hv
    obtain ⟨rfl,rfl⟩:=List.append_eq_nil_iff.1 hf.symm
    exact ⟨u,vs',[],[],rfl,rfl,h3,h.1 _ _ _ _ _ h1 h4,zDh.vrs h1 h.2 h5⟩
theorem zAs.sub {a a':AV} (h:zf a a') (hn:nrA a'=true):zAs H S a a':=fun w A0 κ fp v _ hv=>zMa hn (VR.mv (zNP w A0 fp κ S) _ _ _ (fun _ _=>rfl) (h _ _ _ _ _ hv))
theorem zDh.vrt {w:World} {A0:Nat→Prop} {κ:List Value} {fp:Nat→List Nat} (h1:SH w A0 H κ fp):∀ {la bs:List AV} {vs:List Value},zDh H S la bs→VRt w (avd A0 fp) κ la vs []→VRt w (fun b=>avd A0 fp b ∧ ∀ k,k∈S→b ∉ fp k) [] bs vs []
  | [],[],_,_,h=>by unfold VRt at *; exact h
  | [],_::_,_,h,_=>h.elim
  | _::_,[],_,h,_=>h.elim
  | a::la,b::bs,vs,h,hv=>by
    unfold VRt at hv ⊢
    obtain ⟨u,vs',f1,f2,rfl,hf,h4,h5⟩:=hv
    obtain ⟨rfl,rfl⟩:=List.append_eq_nil_iff.1 hf.symm
    exact ⟨u,vs',[],[],rfl,rfl,h.1 _ _ _ _ _ h1 h4,zDh.vrt h1 h.2 h5⟩
theorem zDh.c {a b:AV} {la bs:List AV} (h:zAs H S a b) (k:zDh H S la bs):zDh H S (a::la) (b::bs):=⟨h,k⟩
theorem zDh.nrs:∀ {la:List AV},la.all Go.Am.nr=true→zDh H S la la
  | [],_=>trivial
  | a::la,h=>by
    simp only [List.all_cons,Bool.and_eq_true] at h
    refine ⟨fun w A0 κ fp v h1 hv => ?_,zDh.nrs h.2⟩
    exact zM8 h.1 (VR.mv (zNP w A0 fp κ S) _ _ _ (fun _ _=>rfl) hv)
theorem zAs.agg {la bs:List AV} (h:zDh H S la bs):zAs H S (.agg la) (.agg bs):=by
  intro w A0 κ fp v h1 hv
  unfold VR at *
  obtain ⟨vs,h2,h3⟩:=hv
  exact ⟨vs,h2,h.vrs h1 h3⟩
theorem zAs.clo {f:FuncId} {la bs:List AV} (h:zDh H S la bs):zAs H S (.clo f la) (.clo f bs):=by
  intro w A0 κ fp v h1 hv
  unfold VR at *
  obtain ⟨vs,h2,h3⟩:=hv
  exact ⟨vs,h2,h.vrt h1 h3⟩
theorem zAs.ptr {k t o:Nat} {cs:List AV} (hk:H[k]?=some (.box t cs)) (hS:S.contains k=true) (hn:cs.all Go.Am.nr=true):zAs H S (.ptr k o) (.rp (zOF cs) o):=by
  intro w A0 κ fp v h1 hv
  unfold VR at hv ⊢
  obtain ⟨_,u,b,g1,g2,rfl⟩:=hv
  obtain ⟨b',vs,f',rfl,hb,hvs,hfp⟩:=h1.ent k _ u hk g1
  cases g2
  have h4:=VRs.frz (A':=fun b=>avd A0 fp b ∧ ∀ k,k∈S→b ∉ fp k) (fun b hb=>hb.1) _ _ _ (fun q hq hA=>hA.2 k (by simpa using hS) (by rw [hfp]; exact List.mem_cons_of_mem _ hq)) (zKv (κ':=[]) hn hvs)
  exact ⟨rfl,b,0,vs,by rw [Nat.zero_add],fun hA=>hA.2 k (by simpa using hS) (by rw [hfp]; exact List.mem_cons_self ..),hb.lt,h4,hb.cells⟩
end
def zMN:AV→Bool
  | .lit _=>true
  | _=>false
def CL:AV→Prop
  | .lit _=>True
  | .osl _ _ rows => ∀ r,r∈rows → ∀ a,a∈r→zMN a=true
  | .agg cs=>cs.all zMN=true
  | .tup la=>la.all zMN=true
  | _=>False
section
variable {w:World} {A A':Nat→Prop} {κ κ':List Value}
theorem zNC:∀ {cs:List AV} {vs:List Value} {fp:List Nat},(∀ a,a∈cs→zMN a=true)→VRs w A κ cs vs fp→VRs w A' κ' cs vs fp
  | [],_,_,_,h=>by unfold VRs at *; exact h
  | a::la,_,_,hE,h=>by
    unfold VRs at *
    obtain ⟨u,vs',f1,f2,rfl,rfl,h3,h4,h5⟩:=h
    refine ⟨u,vs',f1,f2,rfl,rfl,h3,?_,zNC (fun a ha=>hE a (by simp [ha])) h5⟩
    have:=hE a (by simp)
    cases a <;> simp [zMN] at this
    unfold VR at *
    exact h4
theorem zOu:∀ {cs:List AV} {vs:List Value} {fp:List Nat},(∀ a,a∈cs→zMN a=true)→VRt w A κ cs vs fp→VRt w A' κ' cs vs fp
  | [],_,_,_,h=>by unfold VRt at *; exact h
  | a::la,_,_,hE,h=>by
    unfold VRt at *
    obtain ⟨u,vs',f1,f2,rfl,rfl,h4,h5⟩:=h
    refine ⟨u,vs',f1,f2,rfl,rfl,?_,zOu (fun a ha=>hE a (by simp [ha])) h5⟩
    have:=hE a (by simp)
    cases a <;> simp [zMN] at this
    unfold VR at *
    exact h4
theorem zNQ:∀ {rows:List (List AV)} {vr:List (List Value)} {fp:List Nat},(∀ r,r∈rows → ∀ a,a∈r→zMN a=true)→VRr w A κ rows vr fp→VRr w A' κ' rows vr fp
  | [],_,_,_,h=>by unfold VRr at *; exact h
  | a::la,_,_,hE,h=>by
    unfold VRr at *
    obtain ⟨u,vs',f1,f2,rfl,rfl,h4,h5⟩:=h
    exact ⟨u,vs',f1,f2,rfl,rfl,zNC (hE a (by simp)) h4,zNQ (fun r hr=>hE r (by simp [hr])) h5⟩
theorem zTm {a:AV} {v:Value} {fp:List Nat} (h:CL a) (hv:VR w A κ a v fp):VR w A' κ' a v fp:=by
  cases a <;> simp only [CL] at h
  · unfold VR at *; exact hv
  · unfold VR at *
    obtain ⟨g,vr,f',h1,h2,h3⟩:=hv
    exact ⟨g,vr,f',h1,zNQ h h2,h3⟩
  · unfold VR at *
    obtain ⟨vs,h1,h2⟩:=hv
    exact ⟨vs,h1,zNC (fun a ha=>List.all_eq_true.1 h a ha) h2⟩
  · unfold VR at *
    obtain ⟨vs,h1,h2⟩:=hv
    exact ⟨vs,h1,zOu (fun a ha=>List.all_eq_true.1 h a ha) h2⟩
end
section
variable {P:Program} {n m:Nat} {e e':zCH} {H G:zAQ} {x y:Operand} {k j o:Nat} {ops:Array Oper} {rest:List Oper} {kk:zCH→zAQ→Prop} {d tt:Nat} {p:String} {af:Array Edge} {f:FuncId} {fn:Func} {code:Code} {xs:Array Operand} {tys:Array TypeId} {la la':List AV} {r r':AV} {S:List Nat}
theorem zNa {w:World} {A:Nat→Prop} {κ:List Value} {F:Env} (h2:zJz w A κ n e F):∀ (l:List Operand),VRt w A κ (l.map (aev n e)) (l.map (ev n F)) []
  | []=>by unfold VRt; exact ⟨rfl,rfl⟩
  | x::l=>by
    simp only [List.map_cons]
    unfold VRt
    exact ⟨_,_,[],[],rfl,rfl,h2.ev x,zNa h2 l⟩
inductive zHq (n:Nat) (e:zCH):Operand→FuncId→List AV→Prop
  | fn (f:FuncId):zHq n e (.func f) f []
  | clo {x:Operand} {f:FuncId} {caps:List AV} (h:aev n e x = .clo f caps):zHq n e x f caps
theorem zQ4 {w:World} {A:Nat→Prop} {κ:List Value}:∀ {la bs:List AV} {vs us:List Value},VRt w A κ la vs []→VRt w A κ bs us []→VRt w A κ (la++bs) (vs++us) []
  | [],_,_,_,h,k=>by unfold VRt at h; rw [h.1]; exact k
  | a::la,bs,vs,us,h,k=>by
    rw [List.cons_append]
    unfold VRt at h ⊢
    obtain ⟨u,vs',f1,f2,rfl,hf,h4,h5⟩:=h
    obtain ⟨rfl,rfl⟩:=List.append_eq_nil_iff.1 hf.symm
    exact ⟨u,vs'++us,[],[],rfl,rfl,h4,zQ4 h5 k⟩
theorem zOZ {α β:Type} (f:α→β) (xs:Array α):xs.map f=(xs.toList.map f).toArray:=by
  apply Array.ext'
  simp
theorem zM5 {caps : List AV} (hf : P.funcs[f]? = some fn) (hb : fn.body = some code) (hn : (fn.name == "runtime.NumGoroutine") = false) (hc : zHq n e x f caps) (has : xs.toList.map (aev n e) ++ caps = la)
    {w:World} {A:Nat→Prop} {κ:List Value} {F:Env} (h2:zJz w A κ n e F) :
    ∃ cargs:List Value,Ent P n F w (.call { callee := .value x,args:=xs,argTypes:=tys }) f cargs.toArray∧VRt w A κ la cargs []:=by
  cases hc with
  | fn =>
    refine ⟨xs.toList.map (ev n F),zQE hf hb hn (zOZ _ _),?_⟩
    rw [List.append_nil] at has
    rw [← has]
    exact zNa h2 _
  | clo h =>
    have hv:=h2.ev x
    rw [h] at hv
    unfold VR at hv
    obtain ⟨vs,hv,hr⟩:=hv
    refine ⟨xs.toList.map (ev n F)++vs,?_,?_⟩
    · have:=zSC (P:=P) (w:=w) (tys:=tys) hf hb hn (xs:=xs) (zOZ _ _) hv
      rw [List.append_toArray] at this
      exact this
    · rw [← has]
      exact zQ4 (zNa h2 _) hr
def okS (S:List Nat) (r:AV):Prop:=S=[]∨CL r
theorem zJh {caps : List AV} (hf : P.funcs[f]? = some fn) (hb : fn.body = some code) (hn : (fn.name == "runtime.NumGoroutine") = false) (hc : zHq n e x f caps) (has : xs.toList.map (aev n e) ++ caps = la) (hview : zDh H S la la') (hp : PFn P f la' r) (hS : okS S r)
    {w:World} {A0:Nat→Prop} {κ:List Value} {fp:Nat→List Nat} {F:Env} (h1:SH w A0 H κ fp) (h2:zJz w (avd A0 fp) κ n e F) :
    ∃ cargs:List Value,Ent P n F w (.call { callee := .value x,args:=xs,argTypes:=tys }) f cargs.toArray∧FnC P f cargs.toArray w (fun v w' => ∃ fr,VR w' (fun b=>avd A0 fp b∨b∈fr) [] r v fr∧fr.Nodup∧(∀ x,x∈fr→w.heap.size≤x)∧KpS (fun _=>False) w w'):=by
  obtain ⟨cargs,g1,g2⟩:=zM5 (tys:=tys) hf hb hn hc has h2
  refine ⟨cargs,g1,FnC.mono (hp w (fun b=>avd A0 fp b ∧ ∀ k,k∈S→b ∉ fp k) cargs ?_ (hview.vrt h1 g2)) ?_⟩
  · rintro x ⟨hx | ⟨i,hx⟩,_⟩
    · exact h1.old x hx
    · exact h1.lt i x hx
  · rintro v w' ⟨fr,q1,q2,q3,q4⟩
    refine ⟨fr,?_,q2,q3,q4⟩
    rcases hS with rfl | hS
    · exact VR.mv ⟨Nat.le_refl _,fun _ _ _=>rfl,fun b hb => .inl (by
        rcases hb with hb | hb
        · exact .inl ⟨hb,fun k hk=>by cases hk⟩
        · exact .inr hb),fun _ _ h=>h⟩ _ _ _ (fun _ _=>rfl) q1
    · exact zTm hS q1
theorem zNR {w w':World} {A0:Nat→Prop} {κ:List Value} {fp:Nat→List Nat} (h1:SH w A0 H κ fp) (hk:KpS (fun _=>False) w w') {fr:List Nat} {v:Value} (q1:VR w' (fun b=>avd A0 fp b∨b∈fr) [] r v fr) (q3:∀ x,x∈fr→w.heap.size≤x) (hr:frz r=r') :
    SH w' A0 H κ fp∧VR w' (avd A0 fp) κ r' v []∧zKE w fp κ w' fp κ:=by
  have hs:zKE w fp κ w' fp κ:=⟨⟨hk.os,hk.tape,hk.output,hk.size,fun b hb _=>hk.block b hb (fun h=>h)⟩,fun i x hx => .inl ⟨i,hx⟩,fun _ _ h=>h⟩
  refine ⟨h1.gen h1.len hs h1.nd h1.dj h1.out (fun i en v' g1 g2 => .inl ⟨g1,rfl,fun b hb=>hk.block b (h1.lt i b hb) (fun h=>h)⟩),?_,hs⟩
  have:=VR.frz (A':=avd A0 fp) (fun b hb => .inl hb) _ _ _ (fun b hb hA=>by
    have:=q3 b hb
    rcases hA with hA | ⟨i,hA⟩
    · have:=h1.old b hA; omega
    · have:=h1.lt i b hA; omega) q1
  rw [hr] at this
  exact VR.mv (zQv w' (avd A0 fp) κ) _ _ _ (fun _ _=>rfl) this
theorem zA5 {caps : List AV} (hf : P.funcs[f]? = some fn) (hb : fn.body = some code) (hn : (fn.name == "runtime.NumGoroutine") = false) (hc : zHq n e x f caps) (has : xs.toList.map (aev n e) ++ caps = la) (hview : zDh H S la la') (hp : PFn P f la' r) (hS : okS S r) (hr : frz r = r')
    (hk:ALW P n m ops rest kk (zHr e d r') H):ALW P n m ops (⟨some d,.call { callee := .value x,args:=xs,argTypes:=tys },tt,p,af,none⟩::rest) kk e H:=by
  intro w A0 κ fp F h1 h2
  obtain ⟨cargs,g1,g2⟩:=zJh (tys:=tys) hf hb hn hc has hview hp hS h1 h2
  refine zKM g1 g2 ?_
  rintro v w' ⟨fr,q1,q2,q3,q4⟩
  obtain ⟨s1,s2,s3⟩:=zNR h1 q4 q1 q3 hr
  exact zCW (hk w' A0 κ fp _ s1 ((h2.mv (s3.mv A0)).upd s2)) (fun _ _=>zAr (s3.m m))
theorem zCl {jj g : Nat} {s : Bool} (hj : (ops[jj]?).bind (·.dst) = some g) (hg : aev n e (.tmp g) = .lit (.bool s)) (hcall : s = true → ∃ (f : FuncId) (fn : Func) (code : Code) (caps la la' : List AV) (r : AV) (S : List Nat), P.funcs[f]? = some fn ∧ fn.body = some code ∧ (fn.name == "runtime.NumGoroutine") = false ∧ zHq n e x f caps ∧ xs.toList.map (aev n e) ++ caps = la ∧ zDh H S la la' ∧ PFn P f la' r ∧ okS S r ∧ frz r = r')
    (hk:ALW P n m ops rest kk (zHr e d (bif s then r' else .lit undef)) H):ALW P n m ops (⟨some d,.call { callee := .value x,args:=xs,argTypes:=tys },tt,p,af,some (jj,true)⟩::rest) kk e H:=by
  intro w A0 κ fp F h1 h2
  cases hs:s with
  | true =>
    obtain ⟨f,fn,code,caps,la,la',r,S,hf,hb,hn,hc,has,hview,hp,hS,hr⟩:=hcall hs
    rw [hs] at hk hg
    obtain ⟨cargs,g1,g2⟩:=zJh (tys:=tys) hf hb hn hc has hview hp hS h1 h2
    refine zNU hj (zAg h2 hg) g1 g2 ?_
    rintro v w' ⟨fr,q1,q2,q3,q4⟩
    obtain ⟨s1,s2,s3⟩:=zNR h1 q4 q1 q3 hr
    exact zCW (hk w' A0 κ fp _ s1 ((h2.mv (s3.mv A0)).upd s2)) (fun _ _=>zAr (s3.m m))
  | false =>
    rw [hs] at hk hg
    exact zKj hj (zAg h2 hg) (hk w A0 κ fp _ h1 (h2.upd (zHS _ _ _ _)))
theorem zBf {jj g : Nat} {s : Bool} (hj : (ops[jj]?).bind (·.dst) = some g) (hg : aev n e (.tmp g) = .lit (.bool s)) (hcall : (!s) = true → ∃ (f : FuncId) (fn : Func) (code : Code) (caps la la' : List AV) (r : AV) (S : List Nat), P.funcs[f]? = some fn ∧ fn.body = some code ∧ (fn.name == "runtime.NumGoroutine") = false ∧ zHq n e x f caps ∧ xs.toList.map (aev n e) ++ caps = la ∧ zDh H S la la' ∧ PFn P f la' r ∧ okS S r ∧ frz r = r')
    (hk:ALW P n m ops rest kk (zHr e d (bif !s then r' else .lit undef)) H):ALW P n m ops (⟨some d,.call { callee := .value x,args:=xs,argTypes:=tys },tt,p,af,some (jj,false)⟩::rest) kk e H:=by
  intro w A0 κ fp F h1 h2
  cases hs:s with
  | false =>
    rw [hs] at hk hg hcall
    obtain ⟨f,fn,code,caps,la,la',r,S,hf,hb,hn,hc,has,hview,hp,hS,hr⟩:=hcall rfl
    obtain ⟨cargs,g1,g2⟩:=zJh (tys:=tys) hf hb hn hc has hview hp hS h1 h2
    refine zNU hj (zAg h2 hg) g1 g2 ?_
    rintro v w' ⟨fr,q1,q2,q3,q4⟩
    obtain ⟨s1,s2,s3⟩:=zNR h1 q4 q1 q3 hr
    exact zCW (hk w' A0 κ fp _ s1 ((h2.mv (s3.mv A0)).upd s2)) (fun _ _=>zAr (s3.m m))
  | true =>
    rw [hs] at hk hg
    exact zKj hj (zAg h2 hg) (hk w A0 κ fp _ h1 (h2.upd (zHS _ _ _ _)))
theorem zHO {caps : List AV} {T sz : Nat} {rows : List (List AV)} (hf : P.funcs[f]? = some fn) (hb : fn.body = some code) (hn : (fn.name == "runtime.NumGoroutine") = false) (hc : zHq n e x f caps) (has : xs.toList.map (aev n e) ++ caps = la) (hview : zDh H S la la') (hp : PFn P f la' (.osl T sz rows)) (hS : okS S (.osl T sz rows))
    (hk:ALW P n m ops rest kk (zHr e d (.hd H.length)) (H++[.vec T sz rows])):ALW P n m ops (⟨some d,.call { callee := .value x,args:=xs,argTypes:=tys },tt,p,af,none⟩::rest) kk e H:=by
  intro w A0 κ fp F h1 h2
  obtain ⟨cargs,g1,g2⟩:=zJh (tys:=tys) hf hb hn hc has hview hp hS h1 h2
  refine zKM g1 g2 ?_
  rintro v w' ⟨fr,q1,q2,q3,q4⟩
  have hs:=h1.push (w':=w') (e2 := .vec T sz rows) (v2:=v) (f2:=fr) q4 q3 q2 (fun mv=>by
    have:=VR.mv (A':=avd A0 (zEv fp H.length fr)) (κ':=[]) ⟨Nat.le_refl _,fun _ _ _=>rfl,fun b hb => .inl (by
      rcases hb with hb | ⟨i,hb⟩
      · exact .inl (.inl hb)
      · unfold zEv at hb
        split at hb
        · exact .inr hb
        · exact .inl (.inr ⟨i,hb⟩)),fun _ _ h=>h⟩ _ _ _ (fun _ _=>rfl) q1
    unfold VR at this
    exact this)
  refine zCW (hk w' A0 _ _ _ hs.1 ((h2.mv (hs.2.mv A0)).upd ?_)) (fun _ _=>zAr (hs.2.m m))
  unfold VR
  exact ⟨by rw [← h1.len,List.getElem?_append_right (Nat.le_refl _)]; simp,rfl⟩
theorem zHP {caps : List AV} {cs : List AV} (hf : P.funcs[f]? = some fn) (hb : fn.body = some code) (hn : (fn.name == "runtime.NumGoroutine") = false) (hc : zHq n e x f caps) (has : xs.toList.map (aev n e) ++ caps = la) (hview : zDh H S la la') (hp : PFn P f la' (.agg cs)) (hS : okS S (.agg cs))
    (hk:ALW P n m ops rest kk (zHr e d (.hd H.length)) (H++[.val (.agg cs)])):ALW P n m ops (⟨some d,.call { callee := .value x,args:=xs,argTypes:=tys },tt,p,af,none⟩::rest) kk e H:=by
  intro w A0 κ fp F h1 h2
  obtain ⟨cargs,g1,g2⟩:=zJh (tys:=tys) hf hb hn hc has hview hp hS h1 h2
  refine zKM g1 g2 ?_
  rintro v w' ⟨fr,q1,q2,q3,q4⟩
  have hs:=h1.push (w':=w') (e2 := .val (.agg cs)) (v2:=v) (f2:=fr) q4 q3 q2 (fun mv=>by
    have:=VR.mv (A':=avd A0 (zEv fp H.length fr)) (κ':=κ++[v]) ⟨Nat.le_refl _,fun _ _ _=>rfl,fun b hb => .inl (by
      rcases hb with hb | ⟨i,hb⟩
      · exact .inl (.inl hb)
      · unfold zEv at hb
        split at hb
        · exact .inr hb
        · exact .inl (.inr ⟨i,hb⟩)),fun _ _ h=>by simp at h⟩ _ _ _ (fun _ _=>rfl) q1
    exact this)
  refine zCW (hk w' A0 _ _ _ hs.1 ((h2.mv (hs.2.mv A0)).upd ?_)) (fun _ _=>zAr (hs.2.m m))
  unfold VR
  exact ⟨by rw [← h1.len,List.getElem?_append_right (Nat.le_refl _)]; simp,rfl⟩
end
end Go.Am
