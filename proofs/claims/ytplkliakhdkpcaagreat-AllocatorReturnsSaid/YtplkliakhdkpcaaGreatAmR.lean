/-
  Calls of functions that work on one entry of the caller's; the library's Insert and Delete.
  Conditions: none: plain theorems over whatever program P.
-/
import Derived.Test.YtplkliakhdkpcaaGreatAmQ
import Derived.Test.YtplkliakhdkpcaaGreatWkH
set_option linter.unusedVariables false
set_option linter.unusedSimpArgs false
namespace Go.Am
open Go Go.RowKit Go.Wk
def zCz (H:zAQ) (S:List Nat) (k:Nat) (a a':AV):Prop :=
  ∀ w A0 κ fp v v0,SH w A0 H κ fp→κ[k]?=some v0→VR w (avd A0 fp) κ a v []→VR w (fun b=>avd A0 fp b ∧ ∀ s,s∈S→b ∉ fp s) [v0] a' v []
def zL4 (H:zAQ) (S:List Nat) (k:Nat):List AV→List AV→Prop
  | [],[]=>True
  | a::la,b::bs=>zCz H S k a b∧zL4 H S k la bs
  | _,_=>False
section
variable {H:zAQ} {S:List Nat} {k:Nat}
theorem zCz.of {a a':AV} (h:zAs H S a a'):zCz H S k a a':=fun w A0 κ fp v v0 h1 _ hv =>
  VR.mv ⟨Nat.le_refl _,fun _ _ _=>rfl,fun _ h => .inl h,fun _ _ h=>by simp at h⟩ _ _ _ (fun _ _=>rfl) (h w A0 κ fp v h1 hv)
theorem zCz.hd:zCz H S k (.hd k) (.hd 0):=fun w A0 κ fp v v0 h1 hk hv=>by
  unfold VR at *
  rw [hk] at hv
  exact ⟨by simpa using hv.1,rfl⟩
theorem zCz.ptr {o:Nat}:zCz H S k (.ptr k o) (.ptr 0 o):=fun w A0 κ fp v v0 h1 hk hv=>by
  unfold VR at *
  rw [hk] at hv
  obtain ⟨_,u,b,g1,g2⟩:=hv
  exact ⟨rfl,u,b,by simpa using g1,g2⟩
theorem zL4.vrt {w:World} {A0:Nat→Prop} {κ:List Value} {fp:Nat→List Nat} {v0:Value} (h1:SH w A0 H κ fp) (hk:κ[k]?=some v0):∀ {la bs:List AV} {vs:List Value},zL4 H S k la bs→VRt w (avd A0 fp) κ la vs []→VRt w (fun b=>avd A0 fp b ∧ ∀ s,s∈S→b ∉ fp s) [v0] bs vs []
  | [],[],_,_,h=>by unfold VRt at *; exact h
  | [],_::_,_,h,_=>h.elim
  | _::_,[],_,h,_=>h.elim
  | a::la,b::bs,vs,h,hv=>by
    unfold VRt at hv ⊢
    obtain ⟨u,vs',f1,f2,rfl,hf,h4,h5⟩:=hv
    obtain ⟨rfl,rfl⟩:=List.append_eq_nil_iff.1 hf.symm
    exact ⟨u,vs',[],[],rfl,rfl,h.1 _ _ _ _ _ _ h1 hk h4,zL4.vrt h1 hk h.2 h5⟩
end
def zUB:zIJ→Bool
  | .vec _ _ rows=>rows.all fun r=>r.all zMN
  | _=>false
theorem zUZ {w:World} {A A':Nat→Prop} {κ κ':List Value} {en:zIJ} {v:Value} {fp:List Nat} (h:zUB en=true) (hv:ER w A κ en v fp):ER w A' κ' en v fp:=by
  cases en with
  | vec t sz rows =>
    obtain ⟨g,vr,f',h1,h2,h3⟩:=hv
    exact ⟨g,vr,f',h1,zNQ (fun r hr a ha=>List.all_eq_true.1 (List.all_eq_true.1 h r hr) a ha) h2,h3⟩
  | _=>simp [zUB] at h
def zTP (en:zIJ):Bool:=okR [] en
def nrT (r:AV):Bool:=match r with
  | .tup la=>la.all nr
  | a=>nrA a
theorem zRt {w:World} {A:Nat→Prop} {κ κ':List Value}:∀ {la:List AV} {vs:List Value} {fp:List Nat},la.all nr=true→VRt w A κ la vs fp→VRt w A κ' la vs fp
  | [],_,_,_,h=>by unfold VRt at *; exact h
  | a::la,_,_,hE,h=>by
    simp only [List.all_cons,Bool.and_eq_true] at hE
    unfold VRt at *
    obtain ⟨u,vs',f1,f2,h1,h2,h4,h5⟩:=h
    exact ⟨u,vs',f1,f2,h1,h2,zM8 hE.1 h4,zRt hE.2 h5⟩
theorem zTS {w:World} {A:Nat→Prop} {κ κ':List Value} {a:AV} {v:Value} {fp:List Nat} (h:nrT a=true) (hv:VR w A κ a v fp):VR w A κ' a v fp:=by
  cases a with
  | tup la =>
    unfold VR at *
    obtain ⟨vs,h1,h2⟩:=hv
    exact ⟨vs,h1,zRt h h2⟩
  | _=>exact zMa h hv
section
variable {P:Program} {n m:Nat} {e:zCH} {H:zAQ} {x:Operand} {k:Nat} {ops:Array Oper} {rest:List Oper} {kk:zCH→zAQ→Prop} {d tt:Nat} {p:String} {af:Array Edge} {f:FuncId} {fn:Func} {code:Code} {xs:Array Operand} {tys:Array TypeId} {la la':List AV} {r:AV} {S:List Nat} {en en':zIJ}
theorem zMv {caps : List AV} (hf : P.funcs[f]? = some fn) (hb : fn.body = some code) (hn : (fn.name == "runtime.NumGoroutine") = false) (hc : zHq n e x f caps) (has : xs.toList.map (aev n e) ++ caps = la) (hview : zL4 H S k la la') (hk : H[k]? = some en) (hkS : S.contains k = false) (hen : zTP en = true) (hen' : zTP en' = true)
    (hp:AFn P f la' [en] r [en']) (hr:nrT r=true) (hS:S=[]∨(CL r∧zUB en'=true))
    {w:World} {A0:Nat→Prop} {κ:List Value} {fp:Nat→List Nat} {F:Env} (h1:SH w A0 H κ fp) (h2:zJz w (avd A0 fp) κ n e F) :
    ∃ cargs:List Value,Ent P n F w (.call { callee := .value x,args:=xs,argTypes:=tys }) f cargs.toArray∧FnC P f cargs.toArray w (fun v w' => ∃ f1,SH w' A0 (H.set k en') κ (zEv fp k f1)∧VR w' (avd A0 (zEv fp k f1)) κ r v []∧zKE w fp κ w' (zEv fp k f1) κ):=by
  obtain ⟨cargs,g1,g2⟩:=zM5 (tys:=tys) hf hb hn hc has h2
  have hkl:k<κ.length:=by rw [h1.len]; exact zAS hk
  have hκ:=List.getElem?_eq_getElem hkl
  have hkS':∀ s,s∈S→s≠k:=by
    rintro s hs rfl
    simp [hs] at hkS
  let A1:Nat→Prop:=fun b=>(avd A0 fp b ∧ ∀ s,s∈S→b ∉ fp s)∧b ∉ fp k
  let fp1:Nat→List Nat:=fun i=>if i=0 then fp k else []
  have f10:fp1 0=fp k:=rfl
  have f1x:∀ i x,x∈fp1 i→i=0∧x∈fp k:=by
    intro i x hx
    show i=0∧x∈fp k
    by_cases h:i=0
    · subst h; exact ⟨rfl,hx⟩
    · have:fp1 i=[]:=if_neg h
      rw [this] at hx; cases hx
  have hav:∀ b,avd A1 fp1 b→avd A0 fp b ∧ ∀ s,s∈S→b ∉ fp s:=by
    rintro b (h | ⟨i,hi⟩)
    · exact h.1
    · have:=(f1x i b hi).2
      exact ⟨.inr ⟨k,this⟩,fun s hs hb=>hkS' s hs (h1.dj s k b hb this)⟩
  have hSH:SH w A1 [en] [κ[k]] fp1:=by
    refine ⟨rfl,?_,?_,?_,?_,?_,?_⟩
    · intro i e1 v e2 e3
      cases i with
      | zero =>
        simp at e2 e3
        subst e2; subst e3
        rw [f10]
        have q1:=h1.ent k en _ hk hκ
        have q2:ER w (avd A1 fp1) κ en κ[k] (fp k):=ER.mv (κ':=κ) ⟨Nat.le_refl _,fun _ _ _=>rfl,fun b hb => .inl (hav b hb).1,fun _ _ h=>h⟩ (fun _ _=>rfl) q1
        exact zPr (σ:=[]) (κ':=[κ[k]]) (fun i s h=>by simp at h) hen q2
      | succ i=>simp at e2
    · intro i hi
      exact if_neg (by simp at hi; omega)
    · intro i
      by_cases h:i=0
      · subst h; rw [f10]; exact h1.nd k
      · have:fp1 i=[]:=if_neg h
        rw [this]; simp
    · intro i j x hi hj
      rw [(f1x i x hi).1,(f1x j x hj).1]
    · intro i x hi hx
      exact hx.2 (f1x i x hi).2
    · rintro x ⟨⟨hx | ⟨i,hx⟩,_⟩,_⟩
      · exact h1.old x hx
      · exact h1.lt i x hx
  have hargs:VRt w (avd A1 fp1) [κ[k]] la' cargs []:=VRt.mv ⟨Nat.le_refl _,fun _ _ _=>rfl,fun b hb => .inl (hav b hb),fun _ _ h=>h⟩ _ _ _ (fun _ _=>rfl) (hview.vrt h1 hκ g2)
  refine ⟨cargs,g1,FnC.mono (hp w A1 [κ[k]] fp1 cargs hSH hargs) ?_⟩
  rintro v w' ⟨κ',fp',q1,q2,q3⟩
  have hκ':κ'=[κ[k]]:=by
    have:=q3.kk 0 _ (by simp) rfl
    have hl:=q1.len
    simp at hl
    match κ',hl with
    | [u],_=>simpa using this
  subst hκ'
  have hkp:KpS (fun b=>b∈fp k) w w':=⟨q3.kp.os,q3.kp.tape,q3.kp.output,q3.kp.size,fun b hb hn=>q3.kp.block b hb (fun ⟨i,hi⟩=>hn (f1x i b hi).2)⟩
  have hnew:∀ x,x∈fp' 0→x∈fp k∨w.heap.size≤x:=fun x hx=>by
    rcases q3.new 0 x hx with ⟨j,hj⟩ | h
    · exact .inl (f1x j x hj).2
    · exact .inr h
  have hback:S=[] → ∀ b,avd A0 (zEv fp k (fp' 0)) b→avd A1 fp' b:=by
    rintro rfl b (hb | ⟨i,hb⟩)
    · refine .inl ⟨⟨.inl hb,by simp⟩,fun h=>h1.na k b h hb⟩
    · unfold zEv at hb
      split at hb
      · exact .inr ⟨0,hb⟩
      · rename_i hne
        exact .inl ⟨⟨.inr ⟨i,hb⟩,by simp⟩,fun h=>hne (h1.dj i k b hb h)⟩
  have hs:=h1.set1 (w':=w') (k:=k) (e1:=en') (f1:=fp' 0) (zAS hk) hkp hnew (q1.nd 0) (fun u hu _=>by
    rw [hκ] at hu
    cases hu
    have e1:=q1.ent 0 en' _ rfl rfl
    rcases hS with hS | ⟨_,hS⟩
    · have e2:ER w' (avd A0 (zEv fp k (fp' 0))) [κ[k]] en' κ[k] (fp' 0):=ER.mv ⟨Nat.le_refl _,fun _ _ _=>rfl,fun b hb => .inl (hback hS b hb),fun _ _ h=>h⟩ (fun _ _=>rfl) e1
      exact zPr (σ:=[]) (κ':=κ) (fun i s h=>by simp at h) hen' e2
    · exact zUZ hS e1)
  refine ⟨fp' 0,hs.1,?_,hs.2⟩
  rcases hS with hS | ⟨hS,_⟩
  · exact zTS (κ':=κ) hr (VR.mv (κ':=[κ[k]]) ⟨Nat.le_refl _,fun _ _ _=>rfl,fun b hb => .inl (hback hS b hb),fun _ _ h=>h⟩ _ _ _ (fun _ _=>rfl) q2)
  · exact zTm hS q2
theorem zEO {caps : List AV} (hf : P.funcs[f]? = some fn) (hb : fn.body = some code) (hn : (fn.name == "runtime.NumGoroutine") = false) (hc : zHq n e x f caps) (has : xs.toList.map (aev n e) ++ caps = la) (hview : zL4 H S k la la') (hk : H[k]? = some en) (hkS : S.contains k = false) (hen : zTP en = true) (hen' : zTP en' = true)
    (hp:AFn P f la' [en] r [en']) (hr:nrT r=true) (hS:S=[]∨(CL r∧zUB en'=true)) (hkk:ALW P n m ops rest kk (zHr e d r) (H.set k en')) :
    ALW P n m ops (⟨some d,.call { callee := .value x,args:=xs,argTypes:=tys },tt,p,af,none⟩::rest) kk e H:=by
  intro w A0 κ fp F h1 h2
  obtain ⟨cargs,g1,g2⟩:=zMv (tys:=tys) hf hb hn hc has hview hk hkS hen hen' hp hr hS h1 h2
  refine zKM g1 g2 ?_
  rintro v w' ⟨f1,q1,q2,q3⟩
  exact zCW (hkk w' A0 κ _ _ q1 ((h2.mv (q3.mv A0)).upd q2)) (fun _ _=>zAr (q3.m m))
theorem zOs {w:World} {A:Nat→Prop} {κ:List Value}:∀ {l:List Int} {vr:List (List Value)} {fp:List Nat},VRr w A κ (l.map cI) vr fp→vr=zL1 l∧fp=[]
  | [],_,_,h=>by
    simp only [List.map_nil] at h
    unfold VRr at h
    exact ⟨h.1,h.2⟩
  | x::l,_,_,h=>by
    simp only [List.map_cons] at h
    unfold VRr at h
    obtain ⟨u,vs',f1,f2,rfl,rfl,h4,h5⟩:=h
    obtain ⟨rfl,rfl⟩:=zOs h5
    unfold cI VRs at h4
    obtain ⟨u',vs'',g1,g2,rfl,rfl,h6,h7,h8⟩:=h4
    unfold VRs at h8
    obtain ⟨rfl,rfl⟩:=h8
    unfold VR at h7
    obtain ⟨rfl,rfl⟩:=h7
    exact ⟨rfl,rfl⟩
theorem zPI (w:World) (A:Nat→Prop) (κ:List Value):∀ (l:List Int),VRr w A κ (l.map cI) (zL1 l) []
  | []=>by
    simp only [List.map_nil]
    unfold VRr
    exact ⟨rfl,rfl⟩
  | x::l=>by
    simp only [List.map_cons]
    unfold VRr
    refine ⟨[.int .i64 x],zL1 l,[],[],rfl,rfl,?_,zPI w A κ l⟩
    unfold cI VRs
    exact ⟨_,[],[],[],rfl,rfl,rfl,zHS _ _ _ _,by unfold VRs; exact ⟨rfl,rfl⟩⟩
theorem zNG {T:Nat} {l:List Int} {w:World} {A0:Nat→Prop} {κ:List Value} {fp:Nat→List Nat} {v:Value} (h1:SH w A0 H κ fp) (hk:H[k]?=some (.vec T 1 (l.map cI))) (hv:κ[k]?=some v):∃ g,zJN w T 1 g v (zL1 l)∧fp k=g.toList:=by
  obtain ⟨g,vr,f',h2,h3,h4,_⟩:=zIP h1 hk hv
  obtain ⟨rfl,rfl⟩:=zOs h3
  exact ⟨g,h2,by rw [h4,List.append_nil]⟩
theorem zO9 {T T':Nat} {en:zIJ} {ys:List Int} {w w':World} {A0:Nat→Prop} {κ:List Value} {fp:Nat→List Nat} {g:Option Nat} {v':Value} (h1:SH w A0 H κ fp) (hk:H[k]?=some en) (hg:fp k=g.toList) (hI:zSH T w g ys v' w') :
    ∃ fp',SH w' A0 (H.set k .dead++[.vec T 1 (ys.map cI)]) (κ++[v']) fp'∧zKE w fp κ w' fp' (κ++[v']):=by
  obtain ⟨g',hO,hkp,hg'⟩:=hI
  have hgl:∀ q,q∈g'.toList→q∈g.toList∨w.heap.size≤q:=fun q hq=>by
    rcases hg' with rfl | ⟨b,rfl,hb⟩
    · exact .inl hq
    · simp at hq; subst hq; exact .inr hb
  exact ⟨_,h1.setpush (w':=w') (k:=k) (e1 := .dead) (e2 := .vec T 1 (ys.map cI)) (v2:=v') (f1:=[]) (f2:=g'.toList) (zAS hk) (KpS.of hkp (fun q hq=>by rw [hg]; exact hq)) (by simp)
    (fun q hq=>by rw [hg]; exact hgl q hq) (by simp) (by cases g' <;> simp) (by simp) (fun _ _ _=>rfl) (fun mv=>⟨g',zL1 ys,[],hO,zPI _ _ _ ys,by simp⟩)⟩
def zPZ (l:List Int) (i:Int):Bool:=decide (0≤i)&&decide (i≤l.length)&&decide (l.length≤1000000)
def zPq (l:List Int) (i x:Int):List Int:=l.take i.toNat++x::l.drop i.toNat
def zQb (l:List Int) (i j:Int):Bool:=decide (0≤i)&&decide (i<l.length)&&decide (j=i+1)
def zRw (l:List Int) (i:Int):List Int:=l.eraseIdx i.toNat
theorem zMe {T j:Nat} {l:List Int} {i q:Int} {y z:Operand}
    (hins:∀ {w:World} {g:Option Nat} {v:Value} {xs:List Int} {i vb vc:Nat} {x:Int},zJN w T 1 g v (zL1 xs)→zJN w T 1 (some vb) (.slice (some ⟨vb,0,none⟩) 1 vc) (zL1 [x])→g≠some vb→i≤xs.length→xs.length≤1000000→FnC P f #[v,.int .i64 (i:Int),.slice (some ⟨vb,0,none⟩) 1 vc] w (zSH T w g (xs.take i++x::xs.drop i)))
    (hf : P.funcs[f]? = some fn) (hb : fn.body = some code) (hn : (fn.name == "runtime.NumGoroutine") = false)
    (hx:aev n e x = .hd k) (hk:H[k]?=some (.vec T 1 (l.map cI))) (hy:aev n e y = .lit (.int .i64 i)) (hz:aev n e z = .hd j) (hj:H[j]?=some (.vec T 1 (List.map cI [q]))) (hjk:Nat.beq j k=false) (hh:zPZ l i=true)
    (hkk:ALW P n m ops rest kk (zHr e d (.hd H.length)) (H.set k .dead++[.vec T 1 ((zPq l i q).map cI)])) :
    ALW P n m ops (⟨some d,.call { callee := .value (.func f),args := #[x,y,z],argTypes:=tys },tt,p,af,none⟩::rest) kk e H:=by
  intro w A0 κ fp F h1 h2
  have hv:=h2.ev x
  rw [hx] at hv
  unfold VR at hv
  have hu:=h2.ev z
  rw [hz] at hu
  unfold VR at hu
  obtain ⟨g,o1,o2⟩:=zNG h1 hk hv.1
  obtain ⟨g',p1,p2⟩:=zNG h1 hj hu.1
  have hi:=zAg h2 hy
  simp only [zPZ,Bool.and_eq_true,decide_eq_true_eq] at hh
  have hjk':j≠k:=fun h=>by subst h; simp at hjk
  rcases p1.2 with ⟨_,_,h0⟩ | ⟨vb,cap,sp,rfl,hzv,h3,h4,h5,h6⟩
  · cases h0
  · have hzv':ev n F z = .slice (some ⟨vb,0,none⟩) 1 cap:=hzv
    have hne:g≠some vb:=by
      rintro rfl
      exact hjk' (h1.dj j k vb (by rw [p2]; simp) (by rw [o2]; simp))
    have hiN:((i.toNat:Nat):Int)=i:=by omega
    have hE:Ent P n F w (.call { callee := .value (.func f),args := #[x,y,z],argTypes:=tys }) f #[ev n F x,.int .i64 ((i.toNat:Nat):Int),.slice (some ⟨vb,0,none⟩) 1 cap]:=by
      refine zQE hf hb hn ?_
      rw [hiN, ← hi, ← hzv']
      simp
    refine zKM hE (hins o1 (by rw [← hzv']; exact p1) hne (by omega) (by omega)) ?_
    intro v' w' hI
    obtain ⟨fp',s1,s2⟩:=zO9 (T':=T) h1 hk o2 hI
    refine zCW (hkk w' A0 _ _ _ s1 ((h2.mv (s2.mv A0)).upd ?_)) (fun _ _=>zAr (s2.m m))
    unfold VR
    exact ⟨by rw [← h1.len,List.getElem?_append_right (Nat.le_refl _)]; simp,rfl⟩
theorem zPW {T:Nat} {l:List Int} {i q:Int} {y z:Operand}
    (hdel:∀ {w:World} {g:Option Nat} {v:Value} {xs:List Int} {i:Nat},zJN w T 1 g v (zL1 xs)→i<xs.length→FnC P f #[v,.int .i64 (i:Int),.int .i64 ((i+1:Nat):Int)] w (zSH T w g (xs.eraseIdx i)))
    (hf : P.funcs[f]? = some fn) (hb : fn.body = some code) (hn : (fn.name == "runtime.NumGoroutine") = false)
    (hx:aev n e x = .hd k) (hk:H[k]?=some (.vec T 1 (l.map cI))) (hy:aev n e y = .lit (.int .i64 i)) (hz:aev n e z = .lit (.int .i64 q)) (hh:zQb l i q=true)
    (hkk:ALW P n m ops rest kk (zHr e d (.hd H.length)) (H.set k .dead++[.vec T 1 ((zRw l i).map cI)])) :
    ALW P n m ops (⟨some d,.call { callee := .value (.func f),args := #[x,y,z],argTypes:=tys },tt,p,af,none⟩::rest) kk e H:=by
  intro w A0 κ fp F h1 h2
  have hv:=h2.ev x
  rw [hx] at hv
  unfold VR at hv
  obtain ⟨g,o1,o2⟩:=zNG h1 hk hv.1
  have hi:=zAg h2 hy
  have hq:=zAg h2 hz
  simp only [zQb,Bool.and_eq_true,decide_eq_true_eq] at hh
  have hiN:((i.toNat:Nat):Int)=i:=by omega
  have hqN:((i.toNat+1:Nat):Int)=q:=by omega
  have hE:Ent P n F w (.call { callee := .value (.func f),args := #[x,y,z],argTypes:=tys }) f #[ev n F x,.int .i64 ((i.toNat:Nat):Int),.int .i64 ((i.toNat+1:Nat):Int)]:=by
    refine zQE hf hb hn ?_
    rw [hiN,hqN, ← hi, ← hq]
    simp
  refine zKM hE (hdel o1 (by omega)) ?_
  intro v' w' hI
  obtain ⟨fp',s1,s2⟩:=zO9 (T':=T) h1 hk o2 hI
  refine zCW (hkk w' A0 _ _ _ s1 ((h2.mv (s2.mv A0)).upd ?_)) (fun _ _=>zAr (s2.m m))
  unfold VR
  exact ⟨by rw [← h1.len,List.getElem?_append_right (Nat.le_refl _)]; simp,rfl⟩
end
end Go.Am
