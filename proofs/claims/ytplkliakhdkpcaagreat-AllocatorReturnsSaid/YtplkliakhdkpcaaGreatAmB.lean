/-
  The abstract heap, its relation to the model's memory, weakest preconditions over environment and abstract heap: the rules of control.
  Conditions: none: plain theorems over whatever program P.
-/
import Derived.Test.YtplkliakhdkpcaaGreatAmA
set_option linter.unusedVariables false
set_option linter.unusedSimpArgs false
namespace Go.Am
open Go Go.RowKit Go.Wk
inductive zIJ where
  | box (t:TypeId) (cs:List AV)
  | vec (t sz:Nat) (rows:List (List AV))
  | val (a:AV)
  | vopen (t sz:Nat) (rows:List (List AV)) (i:Nat) (row:List AV)
  | map (es:List (Value×Value))
  | dead
abbrev zCH:=Nat→AV
abbrev zAQ:=List zIJ
def zHr (e:zCH) (d:Nat) (a:AV):zCH:=fun i=>bif Nat.beq i d then a else e i
def ER (w:World) (A:Nat→Prop) (κ:List Value):zIJ→Value→List Nat→Prop
  | .box t cs,v,fp => ∃ b vs fp',v = .pointer (some ⟨b,0,none⟩)∧Blk w b t vs∧VRs w A κ cs vs fp'∧fp=b::fp'
  | .vec t sz rows,v,fp => ∃ g vr fp',zJN w t sz g v vr∧VRr w A [] rows vr fp'∧fp=g.toList++fp'
  | .val a,v,fp=>VR w A κ a v fp
  | .vopen t sz rows i row,v,fp => ∃ g v1 r v2 f1 f2 f3,zJN w t sz g v (v1++r::v2)∧v1.length=i∧i<rows.length∧VRr w A [] (rows.take i) v1 f1∧VRs w A κ row r f2∧VRr w A [] (rows.drop (i+1)) v2 f3∧fp=g.toList++(f1++(f2++f3))
  | .map es,v,fp => ∃ r,zRq w es v r∧fp=[r]
  | .dead,_,fp=>fp=[]
structure KpS (S:Nat→Prop) (w w':World):Prop where
  os:w'.os=w.os
  tape:w'.tape=w.tape
  output:w'.output=w.output
  size:w.heap.size≤w'.heap.size
  block:∀ b,b<w.heap.size → ¬ S b→w'.heap[b]?=w.heap[b]?
theorem KpS.refl (S:Nat→Prop) (w:World):KpS S w w:=⟨rfl,rfl,rfl,Nat.le_refl _,fun _ _ _=>rfl⟩
theorem KpS.of {D:List Nat} {S:Nat→Prop} {w w':World} (h:Kp D w w') (hs:∀ b,b∈D→S b):KpS S w w' :=
  ⟨h.os,h.tape,h.output,h.size,fun b hb hn=>h.block b hb (fun hm=>hn (hs b hm))⟩
def avd (A0:Nat→Prop) (fp:Nat→List Nat) (b:Nat):Prop:=A0 b ∨ ∃ i,b∈fp i
structure SH (w:World) (A0:Nat→Prop) (H:zAQ) (κ:List Value) (fp:Nat→List Nat):Prop where
  len:κ.length=H.length
  ent:∀ (i:Nat) (e:zIJ) (v:Value),H[i]?=some e→κ[i]?=some v→ER w (avd A0 fp) κ e v (fp i)
  out:∀ i,H.length≤i→fp i=[]
  nd:∀ i,(fp i).Nodup
  dj:∀ i j x,x∈fp i→x∈fp j→i=j
  na:∀ i x,x∈fp i → ¬ A0 x
  old:∀ x,A0 x→x<w.heap.size
structure zKE (w:World) (fp:Nat→List Nat) (κ:List Value) (w':World) (fp':Nat→List Nat) (κ':List Value):Prop where
  kp:KpS (fun b => ∃ i,b∈fp i) w w'
  new:∀ i x,x∈fp' i→(∃ j,x∈fp j)∨w.heap.size≤x
  kk:∀ (k:Nat) (v:Value),κ[k]?=some v→κ'[k]?=some v
theorem zKE.refl (w:World) (fp:Nat→List Nat) (κ:List Value):zKE w fp κ w fp κ:=⟨KpS.refl _ _,fun i x h => .inl ⟨i,h⟩,fun _ _ h=>h⟩
theorem zKE.trans {w w' w'':World} {fp fp' fp'':Nat→List Nat} {κ κ' κ'':List Value} (h:zKE w fp κ w' fp' κ') (k:zKE w' fp' κ' w'' fp'' κ''):zKE w fp κ w'' fp'' κ'':=by
  refine ⟨⟨k.kp.os.trans h.kp.os,k.kp.tape.trans h.kp.tape,k.kp.output.trans h.kp.output,Nat.le_trans h.kp.size k.kp.size,?_⟩,?_,fun i v x=>k.kk i v (h.kk i v x)⟩
  · intro b hb hn
    have h1:=h.kp.block b hb hn
    have h2:=k.kp.block b (Nat.lt_of_lt_of_le hb h.kp.size) (fun ⟨i,hi⟩=>by
      rcases h.new i b hi with x | x
      · exact hn x
      · omega)
    exact h2.trans h1
  · intro i x hx
    rcases k.new i x hx with ⟨j,hj⟩ | h2
    · exact h.new j x hj
    · exact .inr (Nat.le_trans h.kp.size h2)
theorem zKE.mv {w w':World} {fp fp':Nat→List Nat} {κ κ':List Value} (h:zKE w fp κ w' fp' κ') (A0:Nat→Prop):Mv w (avd A0 fp) κ w' (avd A0 fp') κ' :=
  ⟨h.kp.size,fun b hb hl=>h.kp.block b hl (fun x=>hb (.inr x)),fun b hb=>by
    rcases hb with hb | ⟨i,hb⟩
    · exact .inl (.inl hb)
    · rcases h.new i b hb with x | x
      · exact .inl (.inr x)
      · exact .inr x,h.kk⟩
structure zHi (m:Nat) (w:World) (fp:Nat→List Nat) (κ:List Value) (w':World) (fp':Nat→List Nat) (κ':List Value):Prop where
  kp:KpS (fun b => ∃ i,b∈fp i) w w'
  new:∀ i x,x∈fp' i→(∃ j,x∈fp j)∨w.heap.size≤x
  kk:∀ (k:Nat) (v:Value),k<m→κ[k]?=some v→κ'[k]?=some v
theorem zKE.m {w w':World} {fp fp':Nat→List Nat} {κ κ':List Value} (h:zKE w fp κ w' fp' κ') (m:Nat):zHi m w fp κ w' fp' κ':=⟨h.kp,h.new,fun k v _=>h.kk k v⟩
theorem zHi.refl (m:Nat) (w:World) (fp:Nat→List Nat) (κ:List Value):zHi m w fp κ w fp κ:=(zKE.refl w fp κ).m m
theorem zHi.trans {m:Nat} {w w' w'':World} {fp fp' fp'':Nat→List Nat} {κ κ' κ'':List Value} (h:zHi m w fp κ w' fp' κ') (k:zHi m w' fp' κ' w'' fp'' κ''):zHi m w fp κ w'' fp'' κ'':=by
  refine ⟨⟨k.kp.os.trans h.kp.os,k.kp.tape.trans h.kp.tape,k.kp.output.trans h.kp.output,Nat.le_trans h.kp.size k.kp.size,?_⟩,?_,fun i v l x=>k.kk i v l (h.kk i v l x)⟩
  · intro b hb hn
    have h1:=h.kp.block b hb hn
    have h2:=k.kp.block b (Nat.lt_of_lt_of_le hb h.kp.size) (fun ⟨i,hi⟩=>by
      rcases h.new i b hi with x | x
      · exact hn x
      · omega)
    exact h2.trans h1
  · intro i x hx
    rcases k.new i x hx with ⟨j,hj⟩ | h2
    · exact h.new j x hj
    · exact .inr (Nat.le_trans h.kp.size h2)
theorem ER.mv {w w':World} {A A':Nat→Prop} {κ κ':List Value} (m:Mv w A κ w' A' κ') {e:zIJ} {v:Value} {fp:List Nat} (hs:∀ b,b∈fp→w'.heap[b]?=w.heap[b]?) (h:ER w A κ e v fp):ER w' A' κ' e v fp:=by
  cases e with
  | box t cs =>
    obtain ⟨b,vs,fp',h1,h2,h3,rfl⟩:=h
    exact ⟨b,vs,fp',h1,(hs b (List.mem_cons_self ..)).trans h2,VRs.mv m cs vs fp' (fun x hx=>hs x (List.mem_cons_of_mem _ hx)) h3,rfl⟩
  | vec t sz rows =>
    obtain ⟨g,vr,fp',h1,h2,rfl⟩:=h
    exact ⟨g,vr,fp',zNY h1 (fun b hb=>hs b (List.mem_append_left _ hb)),VRr.mv m.nil rows vr fp' (fun b hb=>hs b (List.mem_append_right _ hb)) h2,rfl⟩
  | val a=>exact VR.mv m a v fp hs h
  | vopen t sz rows i row =>
    obtain ⟨g,v1,r,v2,f1,f2,f3,h1,h2,h3,h4,h5,h6,rfl⟩:=h
    exact ⟨g,v1,r,v2,f1,f2,f3,zNY h1 (fun b hb=>hs b (List.mem_append_left _ hb)),h2,h3,VRr.mv m.nil _ _ _ (fun b hb=>hs b (by simp [hb])) h4,VRs.mv m _ _ _ (fun b hb=>hs b (by simp [hb])) h5,VRr.mv m.nil _ _ _ (fun b hb=>hs b (by simp [hb])) h6,rfl⟩
  | map es =>
    obtain ⟨r,h1,rfl⟩:=h
    exact ⟨r,h1.same (hs r (by simp)),rfl⟩
  | dead=>exact h
theorem ER.lt {w:World} {A:Nat→Prop} {κ:List Value} {e:zIJ} {v:Value} {fp:List Nat} (h:ER w A κ e v fp):∀ b,b∈fp→b<w.heap.size:=by
  cases e with
  | box t cs =>
    obtain ⟨b,vs,fp',h1,h2,h3,rfl⟩:=h
    intro x hx
    rcases List.mem_cons.1 hx with rfl | hx
    · exact h2.lt
    · exact VRs.lt cs vs fp' h3 x hx
  | vec t sz rows =>
    obtain ⟨g,vr,fp',h1,h2,rfl⟩:=h
    intro x hx
    rcases List.mem_append.1 hx with hx | hx
    · exact zQy h1 (by simpa using hx)
    · exact VRr.lt rows vr fp' h2 x hx
  | val a=>exact VR.lt a v fp h
  | vopen t sz rows i row =>
    obtain ⟨g,v1,r,v2,f1,f2,f3,h1,h2,h3,h4,h5,h6,rfl⟩:=h
    intro x hx
    simp only [List.mem_append] at hx
    rcases hx with hx | hx | hx | hx
    · exact zQy h1 (by simpa using hx)
    · exact VRr.lt _ _ _ h4 x hx
    · exact VRs.lt _ _ _ h5 x hx
    · exact VRr.lt _ _ _ h6 x hx
  | map es =>
    obtain ⟨r,h1,rfl⟩:=h
    intro b hb
    simp at hb
    subst hb
    exact h1.lt
  | dead=>have:fp=[]:=h; subst this; simp
theorem SH.lt {w:World} {A0:Nat→Prop} {H:zAQ} {κ:List Value} {fp:Nat→List Nat} (h:SH w A0 H κ fp):∀ i x,x∈fp i→x<w.heap.size:=by
  intro i x hx
  rcases Nat.lt_or_ge i H.length with hi | hi
  · exact ER.lt (h.ent i (H[i]) (κ[i]'(by rw [h.len]; exact hi)) (List.getElem?_eq_getElem hi) (List.getElem?_eq_getElem _)) x hx
  · rw [h.out i hi] at hx; cases hx
def aev (n:Nat) (e:zCH):Operand→AV
  | .tmp t=>bif Nat.blt t n then e t else .lit undef
  | .const v => .lit v
  | .global _ => .any
  | .func f => .clo f []
def zJz (w:World) (A:Nat→Prop) (κ:List Value) (n:Nat) (e:zCH) (F:Env):Prop := ∀ t,t<n→VR w A κ (e t) (F t) []
theorem zJz.ev {w:World} {A:Nat→Prop} {κ:List Value} {n:Nat} {e:zCH} {F:Env} (h:zJz w A κ n e F) (x:Operand):VR w A κ (aev n e x) (ev n F x) []:=by
  cases x with
  | tmp t =>
    show VR w A κ (bif Nat.blt t n then e t else .lit undef) (bif Nat.blt t n then F t else undef) []
    cases hb:Nat.blt t n with
    | true=>exact h t (by simpa [Nat.blt_eq] using hb)
    | false=>show VR w A κ (.lit undef) undef []; unfold VR; exact ⟨rfl,rfl⟩
  | const v=>show VR w A κ (.lit v) v []; unfold VR; exact ⟨rfl,rfl⟩
  | global g=>show VR w A κ .any _ []; unfold VR; rfl
  | func f=>show VR w A κ (.clo f []) (.func (.func f) #[] #[]) []; unfold VR; exact ⟨[],rfl,by unfold VRt; exact ⟨rfl,rfl⟩⟩
theorem zJz.mv {w w':World} {A A':Nat→Prop} {κ κ':List Value} {n:Nat} {e:zCH} {F:Env} (m:Mv w A κ w' A' κ') (h:zJz w A κ n e F):zJz w' A' κ' n e F :=
  fun t ht=>VR.mv m _ _ [] (fun b hb=>by cases hb) (h t ht)
theorem zJz.upd {w:World} {A:Nat→Prop} {κ:List Value} {n:Nat} {e:zCH} {F:Env} (h:zJz w A κ n e F) {d:Nat} {a:AV} {v:Value} (ha:VR w A κ a v []):zJz w A κ n (zHr e d a) (upd F d v):=by
  intro t ht
  unfold zHr Go.Wk.upd
  cases Nat.beq t d with
  | true=>exact ha
  | false=>exact h t ht
structure zLT where
  norm:zCH→zAQ→Prop
  ret:zCH→zAQ→Prop
  exits:List (Nat×(zCH→zAQ→Prop))
def zRW (id:Nat):List (Nat×(zCH→zAQ→Prop))→zCH→zAQ→Prop
  | [],_,_=>False
  | (j,k)::rest,e,H=>bif Nat.beq id j then k e H else zRW id rest e H
def conc (n m:Nat) (w:World) (A0:Nat→Prop) (κ:List Value) (fp:Nat→List Nat) (Φ:zCH→zAQ→Prop):Env→World→Prop:=fun F' w' =>
  ∃ e' H' κ' fp',SH w' A0 H' κ' fp'∧zJz w' (avd A0 fp') κ' n e' F'∧zHi m w fp κ w' fp' κ'∧Φ e' H'
def zLT.conc (K:zLT) (n m:Nat) (w:World) (A0:Nat→Prop) (κ:List Value) (fp:Nat→List Nat):zTM :=
  ⟨Am.conc n m w A0 κ fp K.norm,Am.conc n m w A0 κ fp K.ret,K.exits.map fun p=>(p.1,Am.conc n m w A0 κ fp p.2)⟩
def AW (P:Program) (n m:Nat) (c:Code) (K:zLT) (e:zCH) (H:zAQ):Prop :=
  ∀ w A0 κ fp F,SH w A0 H κ fp→zJz w (avd A0 fp) κ n e F→W P n c (K.conc n m w A0 κ fp) F w
section
variable {P:Program} {n m:Nat}
theorem zAr {w w':World} {A0:Nat→Prop} {κ κ':List Value} {fp fp':Nat→List Nat} {Φ:zCH→zAQ→Prop} (s:zHi m w fp κ w' fp' κ') {F:Env} {u:World} (h:conc n m w' A0 κ' fp' Φ F u):conc n m w A0 κ fp Φ F u:=by
  obtain ⟨e',H',κ2,fp2,h1,h2,h3,h4⟩:=h
  exact ⟨e',H',κ2,fp2,h1,h2,s.trans h3,h4⟩
theorem zK2 {c:Code} {K K':zTM} {F:Env} {w:World} (h:W P n c K F w) (hn:∀ F w,K.norm F w→K'.norm F w) (hr:∀ F w,K.ret F w→K'.ret F w) (he:∀ id F w,Wk.look id K.exits F w→Wk.look id K'.exits F w):W P n c K' F w:=by
  unfold W at *
  refine Code.wp_mono ?_ h
  intro e a w h
  cases e with
  | normal=>obtain ⟨F,rfl,hk⟩:=h; exact ⟨F,rfl,hn _ _ hk⟩
  | ret=>obtain ⟨F,rfl,hk⟩:=h; exact ⟨F,rfl,hr _ _ hk⟩
  | exit id=>obtain ⟨F,rfl,hk⟩:=h; exact ⟨F,rfl,he _ _ _ hk⟩
  | goto l=>exact h
  | panic c=>exact h
  | outgrown=>exact h
theorem zNv {w w':World} {A0:Nat→Prop} {κ κ':List Value} {fp fp':Nat→List Nat} (s:zHi m w fp κ w' fp' κ'):∀ (ex:List (Nat×(zCH→zAQ→Prop))) (id:Nat) (F:Env) (u:World),
    Wk.look id (ex.map fun p=>(p.1,conc n m w' A0 κ' fp' p.2)) F u→Wk.look id (ex.map fun p=>(p.1,conc n m w A0 κ fp p.2)) F u
  | [],_,_,_,h=>h
  | (j,k)::rest,id,F,u,h=>by
    simp only [List.map_cons,Wk.look] at h ⊢
    cases hb:Nat.beq id j with
    | true=>rw [hb] at h; exact zAr s h
    | false=>rw [hb] at h; exact zNv s rest id F u h
theorem zMh {w w':World} {A0:Nat→Prop} {κ κ':List Value} {fp fp':Nat→List Nat} {F:Env} {e:zCH} {H:zAQ} (h1:SH w' A0 H κ' fp') (h2:zJz w' (avd A0 fp') κ' n e F) (s:zHi m w fp κ w' fp' κ'):∀ (ex:List (Nat×(zCH→zAQ→Prop))) (id:Nat),zRW id ex e H →
    Wk.look id (ex.map fun p=>(p.1,conc n m w A0 κ fp p.2)) F w'
  | [],_,h=>h
  | (j,k)::rest,id,h=>by
    simp only [List.map_cons,Wk.look,zRW] at h ⊢
    cases hb:Nat.beq id j with
    | true=>rw [hb] at h; exact ⟨e,H,κ',fp',h1,h2,s,h⟩
    | false=>rw [hb] at h; exact zMh h1 h2 s rest id h
theorem zQP {c:Code} {K:zLT} {w w':World} {A0:Nat→Prop} {κ κ':List Value} {fp fp':Nat→List Nat} {F:Env} (s:zHi m w fp κ w' fp' κ') (h:W P n c (K.conc n m w' A0 κ' fp') F w'):W P n c (K.conc n m w A0 κ fp) F w' :=
  zK2 h (fun _ _=>zAr s) (fun _ _=>zAr s) (fun _ _ _=>zNv s K.exits _ _ _)
variable {K:zLT} {e:zCH} {H:zAQ}
theorem zP (h:K.norm e H):AW P n m .skip K e H:=fun w A0 κ fp F h1 h2=>zTk ⟨e,H,κ,fp,h1,h2,zHi.refl _ _ _ _,h⟩
theorem zd (h:K.ret e H):AW P n m .ret K e H:=fun w A0 κ fp F h1 h2=>zUe ⟨e,H,κ,fp,h1,h2,zHi.refl _ _ _ _,h⟩
theorem zy {id:Nat} (h:zRW id K.exits e H):AW P n m (.exit id) K e H:=fun w A0 κ fp F h1 h2=>zTR (zMh h1 h2 (zHi.refl _ _ _ _) K.exits id h)
theorem zH {x y:Code} (h:AW P n m x ⟨fun e H=>AW P n m y K e H,K.ret,K.exits⟩ e H):AW P n m (.seq x y) K e H:=by
  intro w A0 κ fp F h1 h2
  refine zUh (zK2 (h w A0 κ fp F h1 h2) ?_ (fun _ _ h=>h) (fun _ _ _ h=>h))
  rintro F1 w1 ⟨e1,H1,κ1,fp1,g1,g2,g3,g4⟩
  exact zQP g3 (g4 w1 A0 κ1 fp1 F1 g1 g2)
theorem zQ {id:Nat} {c:Code} (h:AW P n m c ⟨K.norm,K.ret,(id,K.norm)::K.exits⟩ e H):AW P n m (.block id c) K e H :=
  fun w A0 κ fp F h1 h2=>zSo (h w A0 κ fp F h1 h2)
theorem zML {c:Operand} {x y:Code} (b:Bool) (hc:aev n e c = .lit (.bool b)) (ht:b=true→AW P n m x K e H) (hf:b=false→AW P n m y K e H):AW P n m (.cond c x y) K e H:=by
  intro w A0 κ fp F h1 h2
  have hv:=h2.ev c
  rw [hc] at hv
  unfold VR at hv
  exact zTc hv.1 (fun hb=>ht hb w A0 κ fp F h1 h2) (fun hb=>hf hb w A0 κ fp F h1 h2)
theorem z6 {c:Code} {σ:Sort _} (ms:σ→Nat) (Inv:σ→zCH→zAQ→Prop) (s0:σ) (h0:Inv s0 e H)
    (round:∀ s e H,Inv s e H→AW P n m c ⟨fun e' H' => ∃ s',ms s'<ms s∧Inv s' e' H',K.ret,K.exits⟩ e H):AW P n m (.loop c) K e H:=by
  intro w A0 κ fp F h1 h2
  refine zTf ms (fun s=>conc n m w A0 κ fp (Inv s)) s0 ⟨e,H,κ,fp,h1,h2,zHi.refl _ _ _ _,h0⟩ ?_
  rintro s F1 w1 ⟨e1,H1,κ1,fp1,g1,g2,g3,g4⟩
  refine zK2 (zQP g3 (round s e1 H1 g4 w1 A0 κ1 fp1 F1 g1 g2)) ?_ (fun _ _ h=>h) (fun _ _ _ h=>h)
  rintro F2 w2 ⟨e2,H2,κ2,fp2,f1,f2,f3,s',hlt,f4⟩
  exact ⟨s',hlt,e2,H2,κ2,fp2,f1,f2,f3,f4⟩
theorem zSn {c:Code} {K':zLT} (h:AW P n m c K e H) (hn:∀ e H,K.norm e H→K'.norm e H) (hr:∀ e H,K.ret e H→K'.ret e H) (he:K.exits=K'.exits):AW P n m c K' e H:=by
  intro w A0 κ fp F h1 h2
  refine zK2 (h w A0 κ fp F h1 h2) ?_ ?_ ?_
  · rintro F1 w1 ⟨e1,H1,κ1,fp1,g1,g2,g3,g4⟩
    exact ⟨e1,H1,κ1,fp1,g1,g2,g3,hn _ _ g4⟩
  · rintro F1 w1 ⟨e1,H1,κ1,fp1,g1,g2,g3,g4⟩
    exact ⟨e1,H1,κ1,fp1,g1,g2,g3,hr _ _ g4⟩
  · intro id F1 w1 hl
    show Wk.look id (K'.exits.map _) F1 w1
    rw [← he]
    exact hl
def Rep (n m:Nat) (e:zCH) (H:zAQ) (e':zCH) (H':zAQ):Prop :=
  ∀ w A0 κ fp F,SH w A0 H κ fp→zJz w (avd A0 fp) κ n e F → ∃ κ' fp',SH w A0 H' κ' fp'∧zJz w (avd A0 fp') κ' n e' F∧zHi m w fp κ w fp' κ'
theorem zV {c:Code} {e':zCH} {H':zAQ} (r:Rep n m e H e' H') (h:AW P n m c K e' H'):AW P n m c K e H:=by
  intro w A0 κ fp F h1 h2
  obtain ⟨κ',fp',g1,g2,g3⟩:=r w A0 κ fp F h1 h2
  exact zQP g3 (h w A0 κ' fp' F g1 g2)
theorem Rep.trans {e1 e2:zCH} {H1 H2:zAQ} (r:Rep n m e H e1 H1) (s:Rep n m e1 H1 e2 H2):Rep n m e H e2 H2:=by
  intro w A0 κ fp F h1 h2
  obtain ⟨κ',fp',g1,g2,g3⟩:=r w A0 κ fp F h1 h2
  obtain ⟨κ2,fp2,f1,f2,f3⟩:=s w A0 κ' fp' F g1 g2
  exact ⟨κ2,fp2,f1,f2,g3.trans f3⟩
def Sub (a a':AV):Prop := ∀ w A κ v,VR w A κ a v []→VR w A κ a' v []
theorem Sub.refl (a:AV):Sub a a:=fun _ _ _ _ h=>h
theorem Sub.any (a:AV):Sub a .any:=fun _ _ _ _ _=>by unfold VR; rfl
theorem Rep.env {e':zCH} (h:∀ t,t<n→Sub (e t) (e' t)):Rep n m e H e' H :=
  fun w A0 κ fp F h1 h2=>⟨κ,fp,h1,fun t ht=>h t ht _ _ _ _ (h2 t ht),zHi.refl _ _ _ _⟩
def ALW (P:Program) (n m:Nat) (ops:Array Oper) (l:List Oper) (k:zCH→zAQ→Prop) (e:zCH) (H:zAQ):Prop :=
  ∀ w A0 κ fp F,SH w A0 H κ fp→zJz w (avd A0 fp) κ n e F→LW P n ops l (conc n m w A0 κ fp k) F w
theorem zCW {ops:Array Oper} {l:List Oper} {k k':Env→World→Prop} {F:Env} {w:World} (h:LW P n ops l k F w) (hk:∀ F w,k F w→k' F w):LW P n ops l k' F w:=by
  unfold LW at *
  exact fun Q hq=>h Q (fun F w x=>hq F w (hk F w x))
theorem zC {id:Nat} {l:List Oper} (h:ALW P n m l.toArray l K.norm e H):AW P n m (.region id l.toArray false) K e H :=
  fun w A0 κ fp F h1 h2=>zRO (h w A0 κ fp F h1 h2)
theorem zF {ops:Array Oper} {k:zCH→zAQ→Prop} (h:k e H):ALW P n m ops [] k e H :=
  fun w A0 κ fp F h1 h2=>zTl ⟨e,H,κ,fp,h1,h2,zHi.refl _ _ _ _,h⟩
theorem zAF {ops:Array Oper} {l:List Oper} {k:zCH→zAQ→Prop} {e':zCH} {H':zAQ} (r:Rep n m e H e' H') (h:ALW P n m ops l k e' H'):ALW P n m ops l k e H:=by
  intro w A0 κ fp F h1 h2
  obtain ⟨κ',fp',g1,g2,g3⟩:=r w A0 κ fp F h1 h2
  exact zCW (h w A0 κ' fp' F g1 g2) (fun _ _=>zAr g3)
variable {ops:Array Oper} {rest:List Oper} {k:zCH→zAQ→Prop}
def zt (P:Program) (n:Nat) (e:zCH) (H:zAQ) (o:Op) (a:AV):Prop :=
  ∀ w A0 κ fp F,SH w A0 H κ fp→zJz w (avd A0 fp) κ n e F → ∃ v,Val P n F w o v w∧VR w (avd A0 fp) κ a v []
def zLE (P:Program) (n:Nat) (e:zCH) (H:zAQ) (o:Op) (a:AV) (H':zAQ):Prop :=
  ∀ w A0 κ fp F,SH w A0 H κ fp→zJz w (avd A0 fp) κ n e F → ∃ v w' κ' fp',Val P n F w o v w'∧SH w' A0 H' κ' fp'∧VR w' (avd A0 fp') κ' a v []∧zKE w fp κ w' fp' κ'
def zPE (P:Program) (n:Nat) (e:zCH) (H:zAQ) (o:Op) (H':zAQ):Prop :=
  ∀ w A0 κ fp F,SH w A0 H κ fp→zJz w (avd A0 fp) κ n e F → ∃ w' κ' fp',zUM P n F w o w'∧SH w' A0 H' κ' fp'∧zKE w fp κ w' fp' κ'
theorem zt.step {o:Op} {a:AV} (h:zt P n e H o a):zLE P n e H o a H:=by
  intro w A0 κ fp F h1 h2
  obtain ⟨v,g1,g2⟩:=h w A0 κ fp F h1 h2
  exact ⟨v,w,κ,fp,g1,h1,g2,zKE.refl _ _ _⟩
theorem za {d:Nat} {op:Op} {t:Nat} {p:String} {af:Array Edge} {a:AV} {H':zAQ} (h:zLE P n e H op a H') (hk:ALW P n m ops rest k (zHr e d a) H') :
    ALW P n m ops (⟨some d,op,t,p,af,none⟩::rest) k e H:=by
  intro w A0 κ fp F h1 h2
  obtain ⟨v,w',κ',fp',g1,g2,g3,g4⟩:=h w A0 κ fp F h1 h2
  exact zLi g1 (zCW (hk w' A0 κ' fp' _ g2 ((h2.mv (g4.mv A0)).upd g3)) (fun _ _=>zAr (g4.m m)))
theorem zA {d:Nat} {op:Op} {t:Nat} {p:String} {af:Array Edge} {a:AV} (h:zt P n e H op a) (hk:ALW P n m ops rest k (zHr e d a) H) :
    ALW P n m ops (⟨some d,op,t,p,af,none⟩::rest) k e H:=za h.step hk
theorem zp {op:Op} {t:Nat} {p:String} {af:Array Edge} {H':zAQ} (h:zPE P n e H op H') (hk:ALW P n m ops rest k e H') :
    ALW P n m ops (⟨none,op,t,p,af,none⟩::rest) k e H:=by
  intro w A0 κ fp F h1 h2
  obtain ⟨w',κ',fp',g1,g2,g4⟩:=h w A0 κ fp F h1 h2
  exact zUE g1 (zCW (hk w' A0 κ' fp' _ g2 (h2.mv (g4.mv A0))) (fun _ _=>zAr (g4.m m)))
end
end Go.Am
