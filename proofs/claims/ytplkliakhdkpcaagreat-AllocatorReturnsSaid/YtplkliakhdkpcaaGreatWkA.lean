/-
  The walker's own rules, part A: a frame as a function of the slots, the weakest precondition over it, the rules of control (sequence, test, block, loop, return, entry of a function).
  Conditions: none: plain theorems over whatever program P.
-/
import Derived.Tactics
import Derived.Below
import Derived.Orders
set_option linter.unusedVariables false
set_option linter.unusedSimpArgs false
namespace Go.Wk
open Go Go.RowKit
abbrev Env:=Nat→Value
def upd (F:Env) (d:Nat) (v:Value):Env:=fun i=>bif Nat.beq i d then v else F i
def fr (n:Nat) (F:Env):Act:=⟨Array.ofFn (fun i:Fin n=>F i.val),[]⟩
theorem zTC (n:Nat) (F:Env):(fr n F).tmps.size=n:=by simp [fr]
theorem zTu {n t:Nat} (F:Env) (h:t<n):(fr n F).tmps[t]?=some (F t):=by simp [fr,h]
theorem zS5 {n t:Nat} (F:Env) (h:t<n):(fr n F).tmps.getD t undef=F t:=by simp [Array.getD,fr,h]
theorem zMt (n:Nat) (F:Env) (d:Nat) (v:Value):(fr n F).put (some d) v=fr n (upd F d v):=by
  unfold Act.put fr
  simp only
  congr 1
  apply Array.ext
  · simp
  · intro i h1 h2
    simp at h1 h2
    by_cases hd:d=i
    · subst hd
      simp [upd]
    · have:Nat.beq i d=false:=by
        cases hb:Nat.beq i d with
        | false=>rfl
        | true=>exact absurd (Nat.eq_of_beq_eq_true hb).symm hd
      rw [Array.getElem_setIfInBounds (by simpa using h1),if_neg hd]
      simp [upd,this]
def ev (n:Nat) (F:Env):Operand→Value
  | .tmp t=>bif Nat.blt t n then F t else undef
  | .const v=>v
  | .global g => .pointer (some ⟨g,0,none⟩)
  | .func f => .func (.func f) #[] #[]
theorem zJq (n:Nat) (F:Env):(fr n F).eval=ev n F:=by
  funext x
  cases x with
  | tmp t =>
    show (fr n F).tmps.getD t undef=bif Nat.blt t n then F t else undef
    by_cases h:t<n
    · have hb:Nat.blt t n=true:=by simpa [Nat.blt_eq] using h
      rw [hb]
      exact zS5 F h
    · have hb:Nat.blt t n=false:=by
        cases hb:Nat.blt t n with
        | false=>rfl
        | true=>exact absurd (by simpa [Nat.blt_eq] using hb) h
      rw [hb]
      have:¬ t<(fr n F).tmps.size:=by rw [zTC]; exact h
      simp only [Array.getD,this,dif_neg,not_false_iff]
      rfl
  | _=>rfl
structure zTM where
  norm:Env→World→Prop
  ret:Env→World→Prop
  exits:List (Nat×(Env→World→Prop))
def look (id:Nat):List (Nat×(Env→World→Prop))→Env→World→Prop
  | [],_,_=>False
  | (j,k)::rest,F,w=>bif Nat.beq id j then k F w else look id rest F w
def Lf (n:Nat) (K:zTM):Exit→Act→World→Prop
  | .normal,a,w => ∃ F,a=fr n F∧K.norm F w
  | .ret,a,w => ∃ F,a=fr n F∧K.ret F w
  | .exit id,a,w => ∃ F,a=fr n F∧look id K.exits F w
  | _,_,_=>False
def W (P:Program) (n:Nat) (c:Code) (K:zTM) (F:Env) (w:World):Prop:=c.wp P (Lf n K) (fr n F) w
section
variable {P:Program} {n:Nat} {K:zTM} {F:Env} {w:World}
theorem zUh {x y:Code} (h:W P n x ⟨fun F w=>W P n y K F w,K.ret,K.exits⟩ F w):W P n (.seq x y) K F w:=by
  refine wp_seq (Code.wp_mono ?_ h)
  intro e a w h
  cases e with
  | normal=>obtain ⟨F,rfl,hk⟩:=h; exact hk
  | ret=>exact h
  | exit id=>exact h
  | goto l=>exact h
  | panic c=>exact h
  | outgrown=>exact h
theorem zTk (h:K.norm F w):W P n .skip K F w:=wp_skip ⟨F,rfl,h⟩
theorem zUe (h:K.ret F w):W P n .ret K F w:=wp_ret ⟨F,rfl,h⟩
theorem zTR {id:Nat} (h:look id K.exits F w):W P n (.exit id) K F w:=wp_exit ⟨F,rfl,h⟩
theorem zSo {id:Nat} {c:Code} (h:W P n c ⟨K.norm,K.ret,(id,K.norm)::K.exits⟩ F w):W P n (.block id c) K F w:=by
  refine wp_block (Code.wp_mono ?_ h)
  intro e a w h
  cases e with
  | normal=>exact h
  | ret=>exact h
  | exit j =>
    obtain ⟨F,rfl,hk⟩:=h
    unfold look at hk
    unfold Exit.inBlock
    by_cases hj:j=id
    · subst hj
      simp only [if_true]
      have:Nat.beq j j=true:=Nat.beq_refl j
      rw [this] at hk
      exact ⟨F,rfl,hk⟩
    · have:Nat.beq j id=false:=by
        cases hb:Nat.beq j id with
        | false=>rfl
        | true=>exact absurd (Nat.eq_of_beq_eq_true hb) hj
      rw [this] at hk
      simp only [hj,if_false]
      exact ⟨F,rfl,hk⟩
  | goto l=>exact h
  | panic c=>exact h
  | outgrown=>exact h
theorem zTc {c:Operand} {x y:Code} {b:Bool} (hc:ev n F c = .bool b) (ht:b=true→W P n x K F w) (hf:b=false→W P n y K F w):W P n (.cond c x y) K F w:=by
  have hc':(fr n F).eval c = .bool b:=by rw [zJq]; exact hc
  exact wp_cond_split hc' ht hf
theorem zTf {c:Code} {σ:Sort _} (m:σ→Nat) (Inv:σ→Env→World→Prop) (s0:σ) (h0:Inv s0 F w)
    (round:∀ s F w,Inv s F w→W P n c ⟨fun F' w' => ∃ s',m s'<m s∧Inv s' F' w',K.ret,K.exits⟩ F w):W P n (.loop c) K F w:=by
  intro b k cs
  have key:∀ N s F w,m s=N→Inv s F w →
      ∃ e a' w',Lf n K e a' w'∧Arrives P (lone (b.at (fr n F) (.code c :: .inLoop c::k)) cs w) b k cs e a' w':=by
    intro N
    induction N using Nat.strongRecOn with
    | _ N ih =>
      intro s F w hN hI
      obtain ⟨e,a1,w1,hq,harr⟩:=round s F w hI b (.inLoop c::k) cs
      cases e with
      | normal =>
        obtain ⟨F1,rfl,s',hlt,hI1⟩:=hq
        obtain ⟨e2,a2,w2,hq2,harr2⟩:=ih (m s') (hN▸hlt) s' F1 w1 rfl hI1
        exact ⟨e2,a2,w2,hq2,.of_steps (Steps.trans harr (.one step_inLoop)) harr2⟩
      | exit id=>exact ⟨.exit id,a1,w1,hq,.pass (x := .inLoop c) rfl (fun _ _ => .inl (by simp)) harr⟩
      | goto l=>exact ⟨.goto l,a1,w1,hq,.pass (x := .inLoop c) rfl (fun _ _ => .inl (by simp)) harr⟩
      | ret=>exact ⟨.ret,a1,w1,hq,.pass (x := .inLoop c) rfl (fun _ _ => .inl (by simp)) harr⟩
      | panic ch=>exact ⟨.panic ch,a1,w1,hq,.pass (x := .inLoop c) rfl (fun _ _ => .inl (by simp)) harr⟩
      | outgrown=>exact ⟨.outgrown,a1,w1,hq,.pass (x := .inLoop c) rfl (fun _ _ => .inl (by simp)) harr⟩
  obtain ⟨e,a',w',hq,harr⟩:=key _ s0 F w rfl h0
  exact ⟨e,a',w',hq,.of_steps (.one step_loop) harr⟩
def LW (P:Program) (n:Nat) (ops:Array Oper) (l:List Oper) (k:Env→World→Prop) (F:Env) (w:World):Prop :=
  ∀ Q:Exit→Act→World→Prop,(∀ F w,k F w→Q .normal (fr n F) w)→wpList P ops Q l (fr n F) w
theorem zRO {id:Nat} {l:List Oper} (h:LW P n l.toArray l K.norm F w):W P n (.region id l.toArray false) K F w :=
  wp_region_lit (h _ (fun F _ hk=>⟨F,rfl,hk⟩))
theorem zTl {ops:Array Oper} {k:Env→World→Prop} (h:k F w):LW P n ops [] k F w:=fun _ hq=>hq _ _ h
end
section
variable {P:Program} {n:Nat} {ops:Array Oper} {rest:List Oper} {k:Env→World→Prop} {F:Env} {w w':World} {o:Oper} {v:Value}
structure Val (P:Program) (n:Nat) (F:Env) (w:World) (o:Op) (v:Value) (w':World):Prop where
  run:∀ (d:Option Nat) (t:Nat) (p:String) (af:Array Edge) (g:Option (Nat×Bool)),(execOp (ev n F) ⟨d,o,t,p,af,g⟩).run P w = .ok (.value v) w'
structure zUM (P:Program) (n:Nat) (F:Env) (w:World) (o:Op) (w':World):Prop where
  run:∀ (d:Option Nat) (t:Nat) (p:String) (af:Array Edge) (g:Option (Nat×Bool)),(execOp (ev n F) ⟨d,o,t,p,af,g⟩).run P w = .ok .skip w'
theorem zLi {d:Nat} {op:Op} {t:Nat} {p:String} {af:Array Edge} (h:Val P n F w op v w') (hk:LW P n ops rest k (upd F d v) w') :
    LW P n ops (⟨some d,op,t,p,af,none⟩::rest) k F w:=by
  intro Q hq
  refine wpList_plain rfl (fun K hK => ?_)
  unfold Oper.wp
  rw [zJq,h.run]
  show K ((fr n F).put (some d) v) w'
  rw [zMt]
  exact hK _ _ (hk Q hq)
theorem zUE {op:Op} {t:Nat} {p:String} {af:Array Edge} (h:zUM P n F w op w') (hk:LW P n ops rest k F w') :
    LW P n ops (⟨none,op,t,p,af,none⟩::rest) k F w:=by
  intro Q hq
  refine wpList_plain rfl (fun K hK => ?_)
  unfold Oper.wp
  rw [zJq,h.run]
  exact hK _ _ (hk Q hq)
theorem zLI {j g:Nat} {b:Bool} (hj:(ops[j]?).bind (·.dst)=some g) (hg:ev n F (.tmp g) = .bool b):yielded ops (fr n F).tmps j=some b:=by
  unfold yielded
  rw [hj]
  replace hg:(bif Nat.blt g n then F g else undef) = .bool b:=hg
  by_cases h:g<n
  · have hb:Nat.blt g n=true:=by simpa [Nat.blt_eq] using h
    rw [hb] at hg
    simp only [Option.bind_some]
    rw [zTu F h]
    have hg':F g = .bool b:=hg
    rw [hg']
  · have hb:Nat.blt g n=false:=by
      cases hb:Nat.blt g n with
      | false=>rfl
      | true=>exact absurd (by simpa [Nat.blt_eq] using hb) h
    rw [hb] at hg
    cases hg
theorem zNA {d:Nat} {op:Op} {t j g:Nat} {p:String} {af:Array Edge} {want:Bool} (hj:(ops[j]?).bind (·.dst)=some g) (hg:¬ ∃ b,ev n F (.tmp g) = .bool b) (hk:LW P n ops rest k (upd F d undef) w) :
    LW P n ops (⟨some d,op,t,p,af,some (j,want)⟩::rest) k F w:=by
  intro Q hq
  refine wpList_step (fun K hK => ?_)
  have hy:yielded ops (fr n F).tmps j=none:=by
    unfold yielded
    rw [hj]
    simp only [Option.bind_some]
    have he:=zJq n F
    have hg':∀ b,(fr n F).tmps[g]?≠some (.bool b):=by
      intro b hb
      apply hg
      refine ⟨b,?_⟩
      rw [← he]
      show (fr n F).tmps.getD g undef=_
      rw [Array.getD_eq_getD_getElem?,hb]
      rfl
    split
    · rename_i b hb; exact absurd hb (hg' b)
    · rfl
  have hw:Region.wanted ⟨some d,op,t,p,af,some (j,want)⟩ (yielded ops (fr n F).tmps)=false:=by
    unfold Region.wanted
    simp only
    rw [hy]
    rfl
  rw [hw]
  simp only [Bool.false_eq_true,if_false]
  rw [zMt]
  exact hK _ _ (hk Q hq)
theorem zKj {d:Nat} {op:Op} {t j g:Nat} {p:String} {af:Array Edge} {want:Bool} (hj:(ops[j]?).bind (·.dst)=some g) (hg:ev n F (.tmp g) = .bool (!want)) (hk:LW P n ops rest k (upd F d undef) w) :
    LW P n ops (⟨some d,op,t,p,af,some (j,want)⟩::rest) k F w:=by
  intro Q hq
  refine wpList_step (fun K hK => ?_)
  have hw:Region.wanted ⟨some d,op,t,p,af,some (j,want)⟩ (yielded ops (fr n F).tmps)=false:=by
    unfold Region.wanted
    simp only
    rw [zLI hj hg]
    cases want <;> rfl
  rw [hw]
  simp only [Bool.false_eq_true,if_false]
  rw [zMt]
  exact hK _ _ (hk Q hq)
theorem zO4 {d:Nat} {op:Op} {t j g:Nat} {p:String} {af:Array Edge} {want:Bool} (hj:(ops[j]?).bind (·.dst)=some g) (hg:ev n F (.tmp g) = .bool want) (h:Val P n F w op v w') (hk:LW P n ops rest k (upd F d v) w') :
    LW P n ops (⟨some d,op,t,p,af,some (j,want)⟩::rest) k F w:=by
  intro Q hq
  refine wpList_step (fun K hK => ?_)
  have hw:Region.wanted ⟨some d,op,t,p,af,some (j,want)⟩ (yielded ops (fr n F).tmps)=true:=by
    unfold Region.wanted
    simp only
    rw [zLI hj hg]
    cases want <;> rfl
  rw [hw]
  simp only [if_true]
  unfold Oper.wp
  rw [zJq,h.run]
  show K ((fr n F).put (some d) v) w'
  rw [zMt]
  exact hK _ _ (hk Q hq)
end
def FnC (P:Program) (f:FuncId) (args:Array Value) (w:World) (R:Value→World→Prop):Prop :=
  Calls P f args w (fun e w' => ∃ v,e = .returned v∧R v w')
theorem FnC.mono {P:Program} {f:FuncId} {args:Array Value} {w:World} {R R':Value→World→Prop} (h:FnC P f args w R) (hr:∀ v w',R v w'→R' v w'):FnC P f args w R' :=
  Calls.mono h (fun _ _ ⟨v,he,hR⟩=>⟨v,he,hr _ _ hR⟩)
section
variable {P:Program} {n:Nat} {ops:Array Oper} {rest:List Oper} {k:Env→World→Prop} {F:Env} {w w':World}
structure Ent (P:Program) (n:Nat) (F:Env) (w:World) (o:Op) (f:FuncId) (args:Array Value):Prop where
  run:∀ (d:Option Nat) (t:Nat) (p:String) (af:Array Edge) (g:Option (Nat×Bool)),(execOp (ev n F) ⟨d,o,t,p,af,g⟩).run P w = .ok (.enter f args) w
theorem zKM {d:Nat} {op:Op} {t:Nat} {p:String} {af:Array Edge} {f:FuncId} {args:Array Value} {R:Value→World→Prop} (h:Ent P n F w op f args) (hf:FnC P f args w R)
    (hk:∀ v w',R v w'→LW P n ops rest k (upd F d v) w'):LW P n ops (⟨some d,op,t,p,af,none⟩::rest) k F w:=by
  intro Q hq
  refine wpList_plain rfl (fun K hK => ?_)
  unfold Oper.wp
  rw [zJq,h.run]
  refine Calls.mono hf ?_
  rintro e w' ⟨v,rfl,hR⟩
  show K ((fr n F).put (some d) v) w'
  rw [zMt]
  exact hK _ _ (hk v w' hR Q hq)
theorem zNU {d:Nat} {op:Op} {t j g:Nat} {p:String} {af:Array Edge} {want:Bool} {f:FuncId} {args:Array Value} {R:Value→World→Prop} (hj:(ops[j]?).bind (·.dst)=some g) (hg:ev n F (.tmp g) = .bool want)
    (h:Ent P n F w op f args) (hf:FnC P f args w R) (hk:∀ v w',R v w'→LW P n ops rest k (upd F d v) w'):LW P n ops (⟨some d,op,t,p,af,some (j,want)⟩::rest) k F w:=by
  intro Q hq
  refine wpList_step (fun K hK => ?_)
  have hw:Region.wanted ⟨some d,op,t,p,af,some (j,want)⟩ (yielded ops (fr n F).tmps)=true:=by
    unfold Region.wanted
    simp only
    rw [zLI hj hg]
    cases want <;> rfl
  rw [hw]
  simp only [if_true]
  unfold Oper.wp
  rw [zJq,h.run]
  refine Calls.mono hf ?_
  rintro e w' ⟨v,rfl,hR⟩
  show K ((fr n F).put (some d) v) w'
  rw [zMt]
  exact hK _ _ (hk v w' hR Q hq)
end
def zMI (args:Array Value):Env:=fun i=>args.getD i undef
def Res (P:Program) (rs:Array ResultVar) (n:Nat) (F:Env) (w:World) (v:Value):Prop :=
  ∀ fn:Func,fn.results=rs→(results fn (fr n F).tmps).run P w = .ok v w
theorem zOE {P:Program} {f:FuncId} {fn:Func} {c:Code} {args:Array Value} {w:World} {R:Value→World→Prop} {n:Nat} {rs:Array ResultVar}
    (hf:P.funcs[f]?=some fn) (hb:fn.body=some c) (hn:fn.ntmps=n) (hr:fn.results=rs) (ha:args.size≤n)
    (h:W P n c ⟨fun F w => ∃ v,Res P rs n F w v∧R v w,fun F w => ∃ v,Res P rs n F w v∧R v w,[]⟩ (zMI args) w):FnC P f args w R:=by
  refine calls_of_wp hf hb ?_
  have he:({ tmps:=args++Array.replicate (fn.ntmps - args.size) undef,defers:=[] }:Act)=fr n (zMI args):=by
    unfold fr
    congr 1
    rw [hn]
    apply Array.ext
    · simp; omega
    · intro i h1 h2
      simp at h2
      by_cases hi:i<args.size
      · simp [hi,zMI,Array.getD]
      · simp [Array.getElem_append,hi,zMI,Array.getD]
  rw [he]
  refine Code.wp_mono ?_ h
  intro e a w h
  cases e with
  | normal=>obtain ⟨F,rfl,v,hv,hR⟩:=h; exact ⟨rfl,v,hv fn hr,v,rfl,hR⟩
  | ret=>obtain ⟨F,rfl,v,hv,hR⟩:=h; exact ⟨rfl,v,hv fn hr,v,rfl,hR⟩
  | exit id=>obtain ⟨F,rfl,hk⟩:=h; exact hk
  | goto l=>exact h
  | panic c=>exact h.elim
  | outgrown=>exact h.elim
theorem zUU {P:Program} {n:Nat} {F:Env} {w:World}:Res P #[] n F w (.tuple #[]):=by
  intro fn hr
  rw [results_none hr]
attribute [irreducible] W LW
end Go.Wk
