/-
  Rules, functions and laws for the last text, part a.
-/
import Derived.Tactics
import Derived.Below
import Derived.Orders
import Derived.Laws.CopyRow
import Derived.Laws.Cells
import Derived.WalkKit
import Derived.Maps.AppendAt
import Derived.Laws.MakeOwn
import Derived.Carry
set_option linter.unusedVariables false
set_option linter.unusedSimpArgs false
namespace Go.Wk
open Go Go.RowKit
abbrev Env:=Nat→Value
def upd (F:Env) (d:Nat) (v:Value):Env:=fun i=>bif Nat.beq i d then v else F i
def fr (n:Nat) (F:Env):Act:=⟨Array.ofFn (fun i:Fin n=>F i.val),[]⟩
theorem zW9 (n:Nat) (F:Env):(fr n F).tmps.size=n:=by simp [fr]
theorem zZD {n t:Nat} (F:Env) (h:t<n):(fr n F).tmps[t]?=some (F t):=by simp [fr,h]
theorem zWW {n t:Nat} (F:Env) (h:t<n):(fr n F).tmps.getD t undef=F t:=by simp [Array.getD,fr,h]
theorem zO8 (n:Nat) (F:Env) (d:Nat) (v:Value):(fr n F).put (some d) v=fr n (upd F d v):=by
 unfold Act.put fr
 simp only
 congr 1
 apply Array.ext
 ·simp
 ·intro i h1 h2
  simp at h1 h2
  by_cases hd:d=i
  ·subst hd
   simp [upd]
  ·have:Nat.beq i d=false:=by
    cases hb:Nat.beq i d with
    | false=>rfl
    | true=>exact absurd (Nat.eq_of_beq_eq_true hb).symm hd
   rw [Array.getElem_setIfInBounds (by simpa using h1),if_neg hd]
   simp [upd,this]
def ev (n:Nat) (F:Env):Operand→Value
 | .tmp t=>bif Nat.blt t n then F t else undef
 | .const v=>v
 | .global g => .pointer (some ⟨g,0,none⟩)
 | .func f => .func (.func f) #[] #[]
theorem zKD (n:Nat) (F:Env):(fr n F).eval=ev n F:=by
 funext x
 cases x with
 | tmp t =>
  show (fr n F).tmps.getD t undef=bif Nat.blt t n then F t else undef
  by_cases h:t<n
  ·have hb:Nat.blt t n=true:=by simpa [Nat.blt_eq] using h
   rw [hb]
   exact zWW F h
  ·have hb:Nat.blt t n=false:=by
    cases hb:Nat.blt t n with
    | false=>rfl
    | true=>exact absurd (by simpa [Nat.blt_eq] using hb) h
   rw [hb]
   have:¬ t<(fr n F).tmps.size:=by rw [zW9]; exact h
   simp only [Array.getD,this,dif_neg,not_false_iff]
   rfl
 | _=>rfl
structure zXw where
 norm:Env→World→Prop
 ret:Env→World→Prop
 exits:List (Nat×(Env→World→Prop))
def look (id:Nat):List (Nat×(Env→World→Prop))→Env→World→Prop
 | [],_,_=>False
 | (j,k)::rest,F,w=>bif Nat.beq id j then k F w else look id rest F w
def Lf (n:Nat) (K:zXw):Exit→Act→World→Prop
 | .normal,a,w => ∃ F,a=fr n F∧K.norm F w
 | .ret,a,w => ∃ F,a=fr n F∧K.ret F w
 | .exit id,a,w => ∃ F,a=fr n F∧look id K.exits F w
 | _,_,_=>False
def W (P:Program) (n:Nat) (c:Code) (K:zXw) (F:Env) (w:World):Prop:=c.wp P (Lf n K) (fr n F) w
section
variable {P:Program} {n:Nat} {K:zXw} {F:Env} {w:World}
theorem zZn {x y:Code} (h:W P n x ⟨fun F w=>W P n y K F w,K.ret,K.exits⟩ F w):W P n (.seq x y) K F w:=by
 refine wp_seq (Code.wp_mono ?_ h)
 intro e a w h
 cases e with
 | normal=>obtain ⟨F,rfl,hk⟩:=h; exact hk
 | ret=>exact h
 | exit id=>exact h
 | goto l=>exact h
 | panic c=>exact h
 | outgrown=>exact h
theorem zYI (h:K.norm F w):W P n .skip K F w:=wp_skip ⟨F,rfl,h⟩
theorem zZm (h:K.ret F w):W P n .ret K F w:=wp_ret ⟨F,rfl,h⟩
theorem zY4 {id:Nat} (h:look id K.exits F w):W P n (.exit id) K F w:=wp_exit ⟨F,rfl,h⟩
theorem zXE {id:Nat} {c:Code} (h:W P n c ⟨K.norm,K.ret,(id,K.norm)::K.exits⟩ F w):W P n (.block id c) K F w:=by
 refine wp_block (Code.wp_mono ?_ h)
 intro e a w h
 cases e with
 | normal=>exact h
 | ret=>exact h
 | exit j =>
  obtain ⟨F,rfl,hk⟩:=h
  unfold look at hk
  unfold Exit.inBlock
  by_cases hj:j=id
  ·subst hj
   simp only [if_true]
   have:Nat.beq j j=true:=Nat.beq_refl j
   rw [this] at hk
   exact ⟨F,rfl,hk⟩
  ·have:Nat.beq j id=false:=by
    cases hb:Nat.beq j id with
    | false=>rfl
    | true=>exact absurd (Nat.eq_of_beq_eq_true hb) hj
   rw [this] at hk
   simp only [hj,if_false]
   exact ⟨F,rfl,hk⟩
 | goto l=>exact h
 | panic c=>exact h
 | outgrown=>exact h
theorem zYP {c:Operand} {x y:Code} {b:Bool} (hc:ev n F c = .bool b) (ht:b=true→W P n x K F w) (hf:b=false→W P n y K F w):W P n (.cond c x y) K F w:=by
 have hc':(fr n F).eval c = .bool b:=by rw [zKD]; exact hc
 exact wp_cond_split hc' ht hf
theorem zY3 {c:Code} {σ:Sort _} (m:σ→Nat) (Inv:σ→Env→World→Prop) (s0:σ) (h0:Inv s0 F w)
  (round:∀ s F w,Inv s F w→W P n c ⟨fun F' w' => ∃ s',m s'<m s∧Inv s' F' w',K.ret,K.exits⟩ F w):W P n (.loop c) K F w:=by
 intro b k cs
 have key:∀ N s F w,m s=N→Inv s F w →
   ∃ e a' w',Lf n K e a' w'∧Arrives P (lone (b.at (fr n F) (.code c :: .inLoop c::k)) cs w) b k cs e a' w':=by
  intro N
  induction N using Nat.strongRecOn with
  | _ N ih =>
   intro s F w hN hI
   obtain ⟨e,a1,w1,hq,harr⟩:=round s F w hI b (.inLoop c::k) cs
   cases e with
   | normal =>
    obtain ⟨F1,rfl,s',hlt,hI1⟩:=hq
    obtain ⟨e2,a2,w2,hq2,harr2⟩:=ih (m s') (hN▸hlt) s' F1 w1 rfl hI1
    exact ⟨e2,a2,w2,hq2,.of_steps (Steps.trans harr (.one step_inLoop)) harr2⟩
   | exit id=>exact ⟨.exit id,a1,w1,hq,.pass (x := .inLoop c) rfl (fun _ _ => .inl (by simp)) harr⟩
   | goto l=>exact ⟨.goto l,a1,w1,hq,.pass (x := .inLoop c) rfl (fun _ _ => .inl (by simp)) harr⟩
   | ret=>exact ⟨.ret,a1,w1,hq,.pass (x := .inLoop c) rfl (fun _ _ => .inl (by simp)) harr⟩
   | panic ch=>exact ⟨.panic ch,a1,w1,hq,.pass (x := .inLoop c) rfl (fun _ _ => .inl (by simp)) harr⟩
   | outgrown=>exact ⟨.outgrown,a1,w1,hq,.pass (x := .inLoop c) rfl (fun _ _ => .inl (by simp)) harr⟩
 obtain ⟨e,a',w',hq,harr⟩:=key _ s0 F w rfl h0
 exact ⟨e,a',w',hq,.of_steps (.one step_loop) harr⟩
def LW (P:Program) (n:Nat) (ops:Array Oper) (l:List Oper) (k:Env→World→Prop) (F:Env) (w:World):Prop :=
 ∀ Q:Exit→Act→World→Prop,(∀ F w,k F w→Q .normal (fr n F) w)→wpList P ops Q l (fr n F) w
theorem zVV {id:Nat} {l:List Oper} (h:LW P n l.toArray l K.norm F w):W P n (.region id l.toArray false) K F w :=
 wp_region_lit (h _ (fun F _ hk=>⟨F,rfl,hk⟩))
theorem zY5 {ops:Array Oper} {k:Env→World→Prop} (h:k F w):LW P n ops [] k F w:=fun _ hq=>hq _ _ h
end
section
variable {P:Program} {n:Nat} {ops:Array Oper} {rest:List Oper} {k:Env→World→Prop} {F:Env} {w w':World} {o:Oper} {v:Value}
structure Val (P:Program) (n:Nat) (F:Env) (w:World) (o:Op) (v:Value) (w':World):Prop where
 run:∀ (d:Option Nat) (t:Nat) (p:String) (af:Array Edge) (g:Option (Nat×Bool)),(execOp (ev n F) ⟨d,o,t,p,af,g⟩).run P w = .ok (.value v) w'
structure zZH (P:Program) (n:Nat) (F:Env) (w:World) (o:Op) (w':World):Prop where
 run:∀ (d:Option Nat) (t:Nat) (p:String) (af:Array Edge) (g:Option (Nat×Bool)),(execOp (ev n F) ⟨d,o,t,p,af,g⟩).run P w = .ok .skip w'
theorem zMZ {d:Nat} {op:Op} {t:Nat} {p:String} {af:Array Edge} (h:Val P n F w op v w') (hk:LW P n ops rest k (upd F d v) w') :
  LW P n ops (⟨some d,op,t,p,af,none⟩::rest) k F w:=by
 intro Q hq
 refine wpList_plain rfl (fun K hK => ?_)
 unfold Oper.wp
 rw [zKD,h.run]
 show K ((fr n F).put (some d) v) w'
 rw [zO8]
 exact hK _ _ (hk Q hq)
theorem zYb {op:Op} {t:Nat} {p:String} {af:Array Edge} (h:zZH P n F w op w') (hk:LW P n ops rest k F w') :
  LW P n ops (⟨none,op,t,p,af,none⟩::rest) k F w:=by
 intro Q hq
 refine wpList_plain rfl (fun K hK => ?_)
 unfold Oper.wp
 rw [zKD,h.run]
 exact hK _ _ (hk Q hq)
theorem zMt {j g:Nat} {b:Bool} (hj:(ops[j]?).bind (·.dst)=some g) (hg:ev n F (.tmp g) = .bool b):yielded ops (fr n F).tmps j=some b:=by
 unfold yielded
 rw [hj]
 replace hg:(bif Nat.blt g n then F g else undef) = .bool b:=hg
 by_cases h:g<n
 ·have hb:Nat.blt g n=true:=by simpa [Nat.blt_eq] using h
  rw [hb] at hg
  simp only [Option.bind_some]
  rw [zZD F h]
  have hg':F g = .bool b:=hg
  rw [hg']
 ·have hb:Nat.blt g n=false:=by
   cases hb:Nat.blt g n with
   | false=>rfl
   | true=>exact absurd (by simpa [Nat.blt_eq] using hb) h
  rw [hb] at hg
  cases hg
theorem zPU {d:Nat} {op:Op} {t j g:Nat} {p:String} {af:Array Edge} {want:Bool} (hj:(ops[j]?).bind (·.dst)=some g) (hg:¬ ∃ b,ev n F (.tmp g) = .bool b) (hk:LW P n ops rest k (upd F d undef) w) :
  LW P n ops (⟨some d,op,t,p,af,some (j,want)⟩::rest) k F w:=by
 intro Q hq
 refine wpList_step (fun K hK => ?_)
 have hy:yielded ops (fr n F).tmps j=none:=by
  unfold yielded
  rw [hj]
  simp only [Option.bind_some]
  have he:=zKD n F
  have hg':∀ b,(fr n F).tmps[g]?≠some (.bool b):=by
   intro b hb
   apply hg
   refine ⟨b,?_⟩
   rw [← he]
   show (fr n F).tmps.getD g undef=_
   rw [Array.getD_eq_getD_getElem?,hb]
   rfl
  split
  ·rename_i b hb; exact absurd hb (hg' b)
  ·rfl
 have hw:Region.wanted ⟨some d,op,t,p,af,some (j,want)⟩ (yielded ops (fr n F).tmps)=false:=by
  unfold Region.wanted
  simp only
  rw [hy]
  rfl
 rw [hw]
 simp only [Bool.false_eq_true,if_false]
 rw [zO8]
 exact hK _ _ (hk Q hq)
theorem zMW {d:Nat} {op:Op} {t j g:Nat} {p:String} {af:Array Edge} {want:Bool} (hj:(ops[j]?).bind (·.dst)=some g) (hg:ev n F (.tmp g) = .bool (!want)) (hk:LW P n ops rest k (upd F d undef) w) :
  LW P n ops (⟨some d,op,t,p,af,some (j,want)⟩::rest) k F w:=by
 intro Q hq
 refine wpList_step (fun K hK => ?_)
 have hw:Region.wanted ⟨some d,op,t,p,af,some (j,want)⟩ (yielded ops (fr n F).tmps)=false:=by
  unfold Region.wanted
  simp only
  rw [zMt hj hg]
  cases want <;> rfl
 rw [hw]
 simp only [Bool.false_eq_true,if_false]
 rw [zO8]
 exact hK _ _ (hk Q hq)
theorem zRl {d:Nat} {op:Op} {t j g:Nat} {p:String} {af:Array Edge} {want:Bool} (hj:(ops[j]?).bind (·.dst)=some g) (hg:ev n F (.tmp g) = .bool want) (h:Val P n F w op v w') (hk:LW P n ops rest k (upd F d v) w') :
  LW P n ops (⟨some d,op,t,p,af,some (j,want)⟩::rest) k F w:=by
 intro Q hq
 refine wpList_step (fun K hK => ?_)
 have hw:Region.wanted ⟨some d,op,t,p,af,some (j,want)⟩ (yielded ops (fr n F).tmps)=true:=by
  unfold Region.wanted
  simp only
  rw [zMt hj hg]
  cases want <;> rfl
 rw [hw]
 simp only [if_true]
 unfold Oper.wp
 rw [zKD,h.run]
 show K ((fr n F).put (some d) v) w'
 rw [zO8]
 exact hK _ _ (hk Q hq)
end
def FnC (P:Program) (f:FuncId) (args:Array Value) (w:World) (R:Value→World→Prop):Prop :=
 Calls P f args w (fun e w' => ∃ v,e = .returned v∧R v w')
theorem FnC.mono {P:Program} {f:FuncId} {args:Array Value} {w:World} {R R':Value→World→Prop} (h:FnC P f args w R) (hr:∀ v w',R v w'→R' v w'):FnC P f args w R' :=
 Calls.mono h (fun _ _ ⟨v,he,hR⟩=>⟨v,he,hr _ _ hR⟩)
section
variable {P:Program} {n:Nat} {ops:Array Oper} {rest:List Oper} {k:Env→World→Prop} {F:Env} {w w':World}
structure Ent (P:Program) (n:Nat) (F:Env) (w:World) (o:Op) (f:FuncId) (args:Array Value):Prop where
 run:∀ (d:Option Nat) (t:Nat) (p:String) (af:Array Edge) (g:Option (Nat×Bool)),(execOp (ev n F) ⟨d,o,t,p,af,g⟩).run P w = .ok (.enter f args) w
theorem zK0 {d:Nat} {op:Op} {t:Nat} {p:String} {af:Array Edge} {f:FuncId} {args:Array Value} {R:Value→World→Prop} (h:Ent P n F w op f args) (hf:FnC P f args w R)
  (hk:∀ v w',R v w'→LW P n ops rest k (upd F d v) w'):LW P n ops (⟨some d,op,t,p,af,none⟩::rest) k F w:=by
 intro Q hq
 refine wpList_plain rfl (fun K hK => ?_)
 unfold Oper.wp
 rw [zKD,h.run]
 refine Calls.mono hf ?_
 rintro e w' ⟨v,rfl,hR⟩
 show K ((fr n F).put (some d) v) w'
 rw [zO8]
 exact hK _ _ (hk v w' hR Q hq)
theorem zPq {d:Nat} {op:Op} {t j g:Nat} {p:String} {af:Array Edge} {want:Bool} {f:FuncId} {args:Array Value} {R:Value→World→Prop} (hj:(ops[j]?).bind (·.dst)=some g) (hg:ev n F (.tmp g) = .bool want)
  (h:Ent P n F w op f args) (hf:FnC P f args w R) (hk:∀ v w',R v w'→LW P n ops rest k (upd F d v) w'):LW P n ops (⟨some d,op,t,p,af,some (j,want)⟩::rest) k F w:=by
 intro Q hq
 refine wpList_step (fun K hK => ?_)
 have hw:Region.wanted ⟨some d,op,t,p,af,some (j,want)⟩ (yielded ops (fr n F).tmps)=true:=by
  unfold Region.wanted
  simp only
  rw [zMt hj hg]
  cases want <;> rfl
 rw [hw]
 simp only [if_true]
 unfold Oper.wp
 rw [zKD,h.run]
 refine Calls.mono hf ?_
 rintro e w' ⟨v,rfl,hR⟩
 show K ((fr n F).put (some d) v) w'
 rw [zO8]
 exact hK _ _ (hk v w' hR Q hq)
end
def zOF (args:Array Value):Env:=fun i=>args.getD i undef
def Res (P:Program) (rs:Array ResultVar) (n:Nat) (F:Env) (w:World) (v:Value):Prop :=
 ∀ fn:Func,fn.results=rs→(results fn (fr n F).tmps).run P w = .ok v w
theorem zQk {P:Program} {f:FuncId} {fn:Func} {c:Code} {args:Array Value} {w:World} {R:Value→World→Prop} {n:Nat} {rs:Array ResultVar}
  (hf:P.funcs[f]?=some fn) (hb:fn.body=some c) (hn:fn.ntmps=n) (hr:fn.results=rs) (ha:args.size≤n)
  (h:W P n c ⟨fun F w => ∃ v,Res P rs n F w v∧R v w,fun F w => ∃ v,Res P rs n F w v∧R v w,[]⟩ (zOF args) w):FnC P f args w R:=by
 refine calls_of_wp hf hb ?_
 have he:({ tmps:=args++Array.replicate (fn.ntmps - args.size) undef,defers:=[] }:Act)=fr n (zOF args):=by
  unfold fr
  congr 1
  rw [hn]
  apply Array.ext
  ·simp; omega
  ·intro i h1 h2
   simp at h2
   by_cases hi:i<args.size
   ·simp [hi,zOF,Array.getD]
   ·simp [Array.getElem_append,hi,zOF,Array.getD]
 rw [he]
 refine Code.wp_mono ?_ h
 intro e a w h
 cases e with
 | normal=>obtain ⟨F,rfl,v,hv,hR⟩:=h; exact ⟨rfl,v,hv fn hr,v,rfl,hR⟩
 | ret=>obtain ⟨F,rfl,v,hv,hR⟩:=h; exact ⟨rfl,v,hv fn hr,v,rfl,hR⟩
 | exit id=>obtain ⟨F,rfl,hk⟩:=h; exact hk
 | goto l=>exact h
 | panic c=>exact h.elim
 | outgrown=>exact h.elim
theorem zZc {P:Program} {n:Nat} {F:Env} {w:World}:Res P #[] n F w (.tuple #[]):=by
 intro fn hr
 rw [results_none hr]
attribute [irreducible] W LW
end Go.Wk
namespace Go.Wk
open Go Go.RowKit
structure Kp (D:List Nat) (w w':World):Prop where
 os:w'.os=w.os
 tape:w'.tape=w.tape
 output:w'.output=w.output
 size:w.heap.size≤w'.heap.size
 block:∀ b,b<w.heap.size→b ∉ D→w'.heap[b]?=w.heap[b]?
theorem Kp.refl (D:List Nat) (w:World):Kp D w w:=⟨rfl,rfl,rfl,Nat.le_refl _,fun _ _ _=>rfl⟩
theorem Kp.trans {D:List Nat} {a b c:World} (h:Kp D a b) (k:Kp D b c):Kp D a c :=
 ⟨k.os.trans h.os,k.tape.trans h.tape,k.output.trans h.output,Nat.le_trans h.size k.size,fun i hi hn=>(k.block i (Nat.lt_of_lt_of_le hi h.size) hn).trans (h.block i hi hn)⟩
theorem Kp.mono {D D':List Nat} {a b:World} (h:Kp D a b) (hD:∀ x,x∈D→x∈D'):Kp D' a b :=
 ⟨h.os,h.tape,h.output,h.size,fun i hi hn=>h.block i hi (fun hm=>hn (hD i hm))⟩
theorem Kp.to {a b:World} (D:List Nat) (h:Kp [] a b):Kp D a b:=h.mono (fun _ hx=>by cases hx)
theorem Kp.newer {D D':List Nat} {a b c:World} (h:Kp D a b) (k:Kp D' b c) (hn:∀ x,x∈D'→x∈D∨a.heap.size≤x):Kp D a c :=
 ⟨k.os.trans h.os,k.tape.trans h.tape,k.output.trans h.output,Nat.le_trans h.size k.size,fun i hi hd=>(k.block i (Nat.lt_of_lt_of_le hi h.size) (fun hm=>by
  rcases hn i hm with hx | hx
  ·exact hd hx
  ·omega)).trans (h.block i hi hd)⟩
theorem Kp.new1 {D:List Nat} {g:Nat} {a b c:World} (h:Kp D a b) (k:Kp [g] b c) (hn:a.heap.size≤g):Kp D a c :=
 h.newer k (fun x hx => .inr (by simp at hx; omega))
theorem Kp.alloc (w:World) (o:Obj):Kp [] w (w.alloc o):=⟨rfl,rfl,rfl,by simp,fun b hb _=>Below.heap_alloc w o b hb⟩
theorem Kp.drew (w:World):Kp [] w w.drew:=⟨rfl,rfl,rfl,Nat.le_refl _,fun _ _ _=>rfl⟩
theorem Kp.drawn (w:World) (k:Nat):Kp [] w { w with drawn:=k }:=⟨rfl,rfl,rfl,Nat.le_refl _,fun _ _ _=>rfl⟩
theorem Kp.setCell (w:World) (a:Addr) (v:Value):Kp [a.block] w (w.setCell a v) :=
 ⟨rfl,rfl,rfl,by simp [World.setCell],fun b _ hn=>Below.heap_setCell w a v b (by simpa using hn)⟩
theorem zMx {w:World} {b:Nat} {o:Obj} (h:w.heap[b]?=some o):b<w.heap.size:=by
 rcases Nat.lt_or_ge b w.heap.size with hlt | hge
 ·exact hlt
 ·rw [Array.getElem?_eq_none hge] at h; cases h
def Blk (w:World) (b:Nat) (t:TypeId) (cs:List Value):Prop:=w.heap[b]?=some (.cells cs.toArray t (0,0))
theorem Blk.lt {w:World} {b:Nat} {t:TypeId} {cs:List Value} (h:Blk w b t cs):b<w.heap.size:=zMx h
def Cells (w:World) (b o:Nat) (cs:List Value):Prop := ∀ j v,cs[j]?=some v→w.cell? ⟨b,o+j,none⟩=some v
theorem Blk.cells {w:World} {b:Nat} {t:TypeId} {cs:List Value} (h:Blk w b t cs):Cells w b 0 cs:=by
 intro j v hv
 unfold Blk at h
 simp [World.cell?,h,hv]
theorem Cells.agree {w w':World} {b o:Nat} {cs:List Value} (h:Cells w b o cs) (hb:w'.heap[b]?=w.heap[b]?):Cells w' b o cs :=
 fun j v hv=>(World.cell?_of_block (w:=w) (a:=⟨b,o+j,none⟩) hb).trans (h j v hv)
theorem zAO {β:Type} {l:List β} {i:Nat} {x:β} (h:l[i]?=some x):i<l.length:=(List.getElem?_eq_some_iff.1 h).1
theorem zVD {β:Type} {l:List β} {i:Nat} {x:β} (h:l[i]?=some x):l.drop i=x::l.drop (i+1):=by
 obtain ⟨h1,h2⟩:=List.getElem?_eq_some_iff.1 h
 rw [List.drop_eq_getElem_cons h1,h2]
end Go.Wk
namespace Go.Wk
open Go Go.RowKit
section
variable {P:Program} {n:Nat} {F:Env} {w:World}
theorem zP0 (v:Value):ev n F (.const v)=v:=rfl
theorem zXa (f:FuncId):ev n F (.func f) = .func (.func f) #[] #[]:=rfl
theorem zVJ {x:Operand} {v:Value} (h:ev n F x=v):Val P n F w (.move x) v w:=by
 refine ⟨fun d t p af g => ?_⟩; subst h; rfl
theorem zSp {x:Operand} {v:Value} (h:ev n F x=v):Val P n F w (.assign x) v w:=by
 refine ⟨fun d t p af g => ?_⟩; subst h; rfl
theorem zQj {c x:Operand} {b q:Bool} (hc:ev n F c = .bool b) (hx:b=true→ev n F x = .bool q):Val P n F w (.pick c x (.const (.bool false))) (.bool (b&&q)) w:=by
 refine ⟨fun d t p af g => ?_⟩
 cases b with
 | false=>simp [execOp,hc,asBool,zP0]
 | true=>simp [execOp,hc,hx rfl,asBool]
theorem zRM {c x:Operand} {b q:Bool} (hc:ev n F c = .bool b) (hx:b=false→ev n F x = .bool q):Val P n F w (.pick c (.const (.bool true)) x) (.bool (b||q)) w:=by
 refine ⟨fun d t p af g => ?_⟩
 cases b with
 | false=>simp [execOp,hc,hx rfl,asBool]
 | true=>simp [execOp,hc,asBool,zP0]
theorem zXg {ty:TypeId} {x:Operand} {b:Bool} (h:ev n F x = .bool b):Val P n F w (.unOp .not ty x) (.bool (!b)) w:=by
 refine ⟨fun d t p af g => ?_⟩; simp [execOp,h,Op.unary]
section
variable {ty ty2:TypeId} {x y:Operand} {k:IntKind} {a b:Int}
theorem zWs (hx:ev n F x = .int k a) (hy:ev n F y = .int k b):Val P n F w (.binOp .lss ty x y ty2) (.bool (decide (a<b))) w:=by
 refine ⟨fun d t p af g => ?_⟩; simp [execOp,hx,hy,go_sem]
theorem zWt (hx:ev n F x = .int k a) (hy:ev n F y = .int k b):Val P n F w (.binOp .leq ty x y ty2) (.bool (decide (a≤b))) w:=by
 refine ⟨fun d t p af g => ?_⟩; simp [execOp,hx,hy,go_sem]
theorem zWL (hx:ev n F x = .int k a) (hy:ev n F y = .int k b):Val P n F w (.binOp .gtr ty x y ty2) (.bool (decide (b<a))) w:=by
 refine ⟨fun d t p af g => ?_⟩; simp [execOp,hx,hy,go_sem]
theorem zWH (hx:ev n F x = .int k a) (hy:ev n F y = .int k b):Val P n F w (.binOp .geq ty x y ty2) (.bool (decide (b≤a))) w:=by
 refine ⟨fun d t p af g => ?_⟩; simp [execOp,hx,hy,go_sem]
theorem zWl (hx:ev n F x = .int k a) (hy:ev n F y = .int k b):Val P n F w (.binOp .eql ty x y ty2) (.bool (decide (a=b))) w:=by
 refine ⟨fun d t p af g => ?_⟩
 have:(a == b)=decide (a=b):=by rw [Bool.eq_iff_iff]; simp
 simp [execOp,hx,hy,go_sem,this]
theorem zXL (hx:ev n F x = .int k a) (hy:ev n F y = .int k b):Val P n F w (.binOp .neq ty x y ty2) (.bool (!decide (a=b))) w:=by
 refine ⟨fun d t p af g => ?_⟩
 have:(a != b) = !decide (a=b):=by rw [Bool.eq_iff_iff]; simp
 simp [execOp,hx,hy,go_sem,this]
theorem zXb (hx:ev n F x = .int .i64 a) (hy:ev n F y = .int .i64 b) (h1 : -9223372036854775808≤a+b) (h2:a+b≤9223372036854775807):Val P n F w (.binOp .add ty x y ty2) (.int .i64 (a+b)) w:=by
 refine ⟨fun d t p af g => ?_⟩
 have:IntKind.i64.wrap (a+b)=a+b:=by rw [IntKind.wrap_i64]; omega
 simp [execOp,hx,hy,go_sem,this]
theorem zWo (hx:ev n F x = .int .i64 a) (hy:ev n F y = .int .i64 b) (h1 : -9223372036854775808≤a - b) (h2:a - b≤9223372036854775807):Val P n F w (.binOp .sub ty x y ty2) (.int .i64 (a - b)) w:=by
 refine ⟨fun d t p af g => ?_⟩
 have:IntKind.i64.wrap (a - b)=a - b:=by rw [IntKind.wrap_i64]; omega
 simp [execOp,hx,hy,go_sem,this]
theorem zWk (hx:ev n F x = .int .i64 a) (hy:ev n F y = .int .i64 b) (h1 : -9223372036854775808≤a*b) (h2:a*b≤9223372036854775807):Val P n F w (.binOp .mul ty x y ty2) (.int .i64 (a*b)) w:=by
 refine ⟨fun d t p af g => ?_⟩
 have:IntKind.i64.wrap (a*b)=a*b:=by rw [IntKind.wrap_i64]; omega
 simp [execOp,hx,hy,go_sem,this]
theorem zXI (hx:ev n F x = .int k a) (hy:ev n F y = .int k b) (h:b≠0):Val P n F w (.binOp .rem ty x y ty2) (.int k (a.tmod b)) w:=by
 refine ⟨fun d t p af g => ?_⟩; simp [execOp,hx,hy,go_sem,h]
end
theorem zXd {ty ty2:TypeId} {x y:Operand} {ky:IntKind} {a:Int} {s:Nat} (hx:ev n F x = .int .i64 a) (hy:ev n F y = .int ky (s:Int)) (hs:s≤62) (h1 : -9223372036854775808≤a*2 ^ s) (h2:a*2 ^ s≤9223372036854775807) :
  Val P n F w (.binOp .shl ty x y ty2) (.int .i64 (a*2 ^ s)) w:=by
 refine ⟨fun d t p af g => ?_⟩
 have hm:min s IntKind.i64.bits=s:=by show min s 64=s; omega
 have:IntKind.i64.wrap (a*2 ^ s)=a*2 ^ s:=by rw [IntKind.wrap_i64]; omega
 have hn:¬ ((s:Int)<0):=by omega
 have hb:(binOp .shl ty (.int .i64 a) (.int ky (s:Int))).run P w = .ok (.int .i64 (a*2 ^ s)) w:=by
  rw [binOp_shl]
  simp only [Op.shift,hn,if_false,Int.toNat_natCast,hm,this]
  rfl
 simp only [execOp,hx,hy,Sem.run_bind,eqGuard_shl,Sem.run_pure,Result.andThen_ok,hb]
theorem zXB {ty ty2:TypeId} {x y:Operand} {k ky:IntKind} {a:Int} {s:Nat} (hx:ev n F x = .int k a) (hy:ev n F y = .int ky (s:Int)) (hs:s≤k.bits) :
  Val P n F w (.binOp .shr ty x y ty2) (.int k (a.fdiv (2 ^ s))) w:=by
 refine ⟨fun d t p af g => ?_⟩
 have hm:min s k.bits=s:=by omega
 have hn:¬ ((s:Int)<0):=by omega
 have hb:(binOp .shr ty (.int k a) (.int ky (s:Int))).run P w = .ok (.int k (a.fdiv (2 ^ s))) w:=by
  rw [binOp_shr]
  simp only [Op.shift,hn,if_false,Int.toNat_natCast,hm]
  rfl
 simp only [execOp,hx,hy,Sem.run_bind,eqGuard_shr,Sem.run_pure,Result.andThen_ok,hb]
theorem zU5 {src dst:TypeId} {x:Operand} {k k':IntKind} {a:Int} {sd:TypeDesc} (hs:P.underlying src=some sd) (hd:P.underlying dst=some (.int k')) (hx:ev n F x = .int k a) (hw:k'.wrap a=a) :
  Val P n F w (.convert src dst x) (.int k' a) w:=by
 refine ⟨fun d t p af g => ?_⟩
 simp [execOp,hx,convert,run_underlying hs,run_underlying hd,Conv.intToInt,hw]
theorem zW4 {x y:Operand} {tys:Array TypeId} {a b:Int} (hx:ev n F x = .int .i64 a) (hy:ev n F y = .int .i64 b):Val P n F w (.call { callee := .builtin .min,args := #[x,y],argTypes:=tys }) (.int .i64 (min a b)) w:=by
 refine ⟨fun d t p af g => ?_⟩
 have:(if b<a then b else a)=min a b:=by omega
 simp [execOp,hx,hy,resolve,invoke,builtin,Builtin.min_,Builtin.min2,this]
theorem zQ7 {x:Operand} {vs:Array Value} {i:Nat} {v:Value} (hx:ev n F x = .tuple vs) (hv:vs[i]?=some v):Val P n F w (.extract x i) v w:=by
 refine ⟨fun d t p af g => ?_⟩
 simp [execOp,hx,Instr.extract,hv]
theorem zTW {t:TypeId} {x:Operand} {e:TypeId} {a:Option Addr} {m c:Nat} (ht:P.underlying t=some (.slice e)) (hx:ev n F x = .slice a m c):Val P n F w (.call { callee := .builtin .len,args := #[x],argTypes := #[t] }) (.int .i64 (m:Int)) w:=by
 refine ⟨fun d t p af g => ?_⟩
 simp [execOp,hx,resolve,invoke,builtin,Builtin.len_,run_underlying ht,goInt]
theorem zQE {x:Operand} {a:Addr} (hx:ev n F x = .pointer (some a)):Val P n F w (.nilCheck x) (.pointer (some a)) w:=by
 refine ⟨fun d t p af g => ?_⟩
 simp [execOp,hx]
theorem zT1 {s:TypeId} {x:Operand} {i b o:Nat} {fs:Array Field} {f:Field} {z:Nat} (hs:P.underlying s=some (.struct fs)) (hf:fs[i]?=some f) (hz:∀ w,(sizeOf f.type).run P w = .ok (z+1) w) (hx:ev n F x = .pointer (some ⟨b,o,none⟩)) :
  Val P n F w (.fieldAddr s x i) (.pointer (some ⟨b,o+f.offset,none⟩)) w:=by
 refine ⟨fun d t p af g => ?_⟩
 have ha:Addr.add ⟨b,o,none⟩ f.offset=⟨b,o+f.offset,none⟩:=Addr.add_lit b o f.offset
 simp [execOp,hx,Instr.fieldAt,run_underlying hs,hf,Instr.sureAddr,fieldPlace,hz,ha]
theorem zPN {t e:TypeId} {x y:Operand} {k:IntKind} {b o m c s i:Nat} (ht:P.underlying t=some (.slice e)) (hs:∀ w,(sizeOf e).run P w = .ok s w) (hx:ev n F x = .slice (some ⟨b,o,none⟩) m c) (hy:ev n F y = .int k (i:Int)) (hi:i<m) :
  Val P n F w (.indexAddr t x y) (.pointer (some ⟨b,o+i*s,none⟩)) w:=by
 refine ⟨fun d t p af g => ?_⟩
 have ha:Addr.add ⟨b,o,none⟩ (i*s)=⟨b,o+i*s,none⟩:=Addr.add_lit b o _
 simp [execOp,hx,hy,Instr.indexAt,asIntOf,run_underlying ht,hi,hs,ha]
theorem zVG {t e:TypeId} {x y:Operand} {k:IntKind} {b o m s i:Nat} (ht:P.underlying t=some (.array m e)) (hs:∀ w,(sizeOf e).run P w = .ok s w) (hx:ev n F x = .pointer (some ⟨b,o,none⟩)) (hy:ev n F y = .int k (i:Int)) (hi:i<m) :
  Val P n F w (.indexAddr t x y) (.pointer (some ⟨b,o+i*s,none⟩)) w:=by
 refine ⟨fun d t p af g => ?_⟩
 have ha:Addr.add ⟨b,o,none⟩ (i*s)=⟨b,o+i*s,none⟩:=Addr.add_lit b o _
 simp [execOp,hx,hy,Instr.indexAt,asIntOf,run_underlying ht,Instr.sureAddr,hi,hs,ha]
theorem zS0 {t e:TypeId} {x y:Operand} {k:IntKind} {m i:Nat} {cs:List Value} {v:Value} (ht:P.underlying t=some (.array m e)) (hs:∀ w,(sizeOf e).run P w = .ok 1 w) (ha:∀ w,(isAgg e).run P w = .ok false w) (hx:ev n F x = .agg cs.toArray) (hy:ev n F y = .int k (i:Int)) (hi:i<m) (hv:cs[i]?=some v) :
  Val P n F w (.index t x y) v w:=by
 refine ⟨fun d t p af g => ?_⟩
 simp [execOp,hx,hy,Instr.index,asIntOf,run_underlying ht,hi,part,hs,ha,hv]
theorem zVE {a:Addr} {v:Value} {m:Mode} (h:w.cell? a=some v):(load a m).run P w = .ok v w:=by
 simp [load,Sem.run,h]
theorem zMK {t:TypeId} {x:Operand} {b o j:Nat} {cs:List Value} {v:Value} (ha:∀ w,(isAgg t).run P w = .ok false w) (hx:ev n F x = .pointer (some ⟨b,o+j,none⟩)) (hc:Cells w b o cs) (hv:cs[j]?=some v):Val P n F w (.load t x) v w:=by
 refine ⟨fun d t' p af g => ?_⟩
 have hl:(loadVar t ⟨b,o+j,none⟩).run P w = .ok v w:=by
  simp only [loadVar,Sem.run_bind,ha,Result.andThen_ok,Bool.false_eq_true,if_false]
  exact zVE (hc j v hv)
 simp only [execOp,hx,Instr.loadAt,Instr.sureAddr,Sem.run_bind,Sem.run_pure,Result.andThen_ok,hl]
theorem zK3 {t:TypeId} {x:Operand} {b o:Nat} {cs:List Value} (ha:∀ w,(isAgg t).run P w = .ok true w) (hs:∀ w,(sizeOf t).run P w = .ok cs.length w) (hx:ev n F x = .pointer (some ⟨b,o,none⟩)) (hc:Cells w b o cs):Val P n F w (.load t x) (.agg cs.toArray) w:=by
 refine ⟨fun d t' p af g => ?_⟩
 have hl:(loadCells ⟨b,o,none⟩ cs.length).run P w = .ok cs.toArray w:=run_loadCells_list w ⟨b,o,none⟩ cs (fun j v hv=>by
  rw [Addr.add_lit]
  exact hc j v hv)
 have hv:(loadVar t ⟨b,o,none⟩).run P w = .ok (.agg cs.toArray) w:=by
  simp only [loadVar,Sem.run_bind,ha,hs,hl,Result.andThen_ok,if_true,Sem.run_pure]
 simp only [execOp,hx,Instr.loadAt,Instr.sureAddr,Sem.run_bind,Sem.run_pure,Result.andThen_ok,hv]
theorem zTQ {f : FuncId} {fn : Func} {c : Code} {xs : Array Operand} {tys : Array TypeId} {args : Array Value} (hf : P.funcs[f]? = some fn) (hb : fn.body = some c) (hn : (fn.name == "runtime.NumGoroutine") = false) (hx : xs.map (ev n F) = args) :
  Ent P n F w (.call { callee := .value (.func f),args:=xs,argTypes:=tys }) f args:=by
 refine ⟨fun d t p af g => ?_⟩
 have hn' : ¬ fn.name = "runtime.NumGoroutine" := by simpa using hn
 simp [execOp,resolve,Deferred.ofValue,invoke,callFunc,hf,hb,hn',hx,zXa]
theorem zWh {x : Operand} {f : FuncId} {fn : Func} {c : Code} {cap : Array Value} {xs : Array Operand} {tys : Array TypeId} {args : Array Value} (hf : P.funcs[f]? = some fn) (hb : fn.body = some c) (hn : (fn.name == "runtime.NumGoroutine") = false) (hx : xs.map (ev n F) = args)
  (hc:ev n F x = .func (.func f) #[] cap):Ent P n F w (.call { callee := .value x,args:=xs,argTypes:=tys }) f (args++cap):=by
 refine ⟨fun d t p af g => ?_⟩
 have hn' : ¬ fn.name = "runtime.NumGoroutine" := by simpa using hn
 simp [execOp,resolve,Deferred.ofValue,invoke,callFunc,hf,hb,hn',hx,hc]
end
section
variable {P:Program} {n:Nat} {ops:Array Oper} {rest:List Oper} {k:Env→World→Prop} {F:Env} {w:World}
theorem zKl (w:World) (t:TypeId) (cs:List Value):Blk (w.alloc (.cells cs.toArray t)) w.heap.size t cs:=heap_alloc_new w _
theorem zVY {e:TypeId} {x:Operand} {cs:List Value} (hx:ev n F x = .agg cs.toArray):Val P n F w (.box e x) (.pointer (some ⟨w.heap.size,0,none⟩)) (w.alloc (.cells cs.toArray e)):=by
 refine ⟨fun d t p af g => ?_⟩
 simp [execOp,hx,Instr.box,newVar,newRow,Value.cells]
theorem zVA {e:TypeId} {x:Operand} {v:Value} (h1:v.cells = #[v]) (hx:ev n F x=v):Val P n F w (.box e x) (.pointer (some ⟨w.heap.size,0,none⟩)) (w.alloc (.cells [v].toArray e)):=by
 refine ⟨fun d t p af g => ?_⟩
 simp [execOp,hx,Instr.box,newVar,newRow,h1]
theorem zTB {e:TypeId} {cs:List Value} {z:Value} (hz:∀ w,(zeroValue e).run P w = .ok z w) (hc:z.cells=cs.toArray):Val P n F w (.alloc e) (.pointer (some ⟨w.heap.size,0,none⟩)) (w.alloc (.cells cs.toArray e)):=by
 refine ⟨fun d t p af g => ?_⟩
 simp [execOp,Instr.alloc,hz,newVar,newRow,hc]
theorem Blk.set {w:World} {b j:Nat} {t:TypeId} {cs:List Value} {v:Value} (h:Blk w b t cs):Blk (w.setCell ⟨b,j,none⟩ v) b t (cs.set j v):=by
 unfold Blk at h ⊢
 simp [World.setCell,Array.getElem?_modify,h]
theorem zMG {w:World} {b j:Nat} {t:TypeId} {cs:List Value} {v:Value} {m:Mode} (h:Blk w b t cs) (hj:j<cs.length) (h1:v.oneCell'=true):(store ⟨b,j,none⟩ v m).run P w = .ok () (w.setCell ⟨b,j,none⟩ v):=by
 have hc:w.cell? ⟨b,j,none⟩=some cs[j]:=by
  have:=h.cells j cs[j] (List.getElem?_eq_getElem hj)
  simpa using this
 have hf:w.frozen? ⟨b,j,none⟩=false:=by
  unfold Blk at h
  simp [World.frozen?,h]
 rw [run_store P w _ v m h1]
 simp [hc,hf]
theorem zJ3 {t e:TypeId} {x y:Operand} {b j:Nat} {cs:List Value} {v:Value} (hz:∀ w,(sizeOf e).run P w = .ok 1 w) (h:Blk w b t cs) (hj:j<cs.length) (h1:v.oneCell'=true) (hx:ev n F x = .pointer (some ⟨b,j,none⟩)) (hy:ev n F y=v) :
  zZH P n F w (.store e x y) (w.setCell ⟨b,j,none⟩ v):=by
 refine ⟨fun d t p af g => ?_⟩
 have hc:v.cells = #[v]:=by cases v <;> first | rfl | cases h1
 have ha:Addr.add ⟨b,j,none⟩ 0=⟨b,j,none⟩:=by simp [Addr.add]
 simp [execOp,hx,hy,Instr.storeAt,Instr.sureAddr,storeVar,hc,hz,storeCells,ha,zMG h hj h1]
def zDx (cs:List Value) (j:Nat) (vs:List Value):List Value:=cs.take j++vs++cs.drop (j+vs.length)
theorem zNI {cs vs:List Value} {j:Nat} (h:j+vs.length≤cs.length):(zDx cs j vs).length=cs.length:=by
 simp [zDx]; omega
theorem zMj {cs vs:List Value} {j:Nat} {v:Value} (h:j+(v::vs).length≤cs.length):zDx cs j (v::vs)=zDx (cs.set j v) (j+1) vs:=by
 simp only [List.length_cons] at h
 have hj:j<cs.length:=by omega
 unfold zDx
 have h1:(cs.set j v).take (j+1)=cs.take j++[v]:=by
  rw [List.take_succ_eq_append_getElem (by simpa using hj)]
  rw [List.take_set,List.set_eq_of_length_le (by simp; omega)]
  simp
 have h2:(cs.set j v).drop (j+1+vs.length)=cs.drop (j+(v::vs).length):=by
  rw [List.drop_set_of_lt (by omega)]
  congr 1
  simp; omega
 rw [h1,h2]
 simp
theorem zN0 (cs:List Value) (j:Nat):zDx cs j []=cs:=by simp [zDx]
theorem zFM {t:TypeId} {b o:Nat}:∀ (vs:List Value) (i:Nat) (cs:List Value) (w:World),Blk w b t cs→o+i+vs.length≤cs.length→(∀ v∈vs,v.oneCell'=true) →
  ∃ w',(storeCells ⟨b,o,none⟩ vs i).run P w = .ok () w'∧Kp [b] w w'∧w'.heap.size=w.heap.size∧Blk w' b t (zDx cs (o+i) vs)
 | [],i,cs,w,h,_,_=>⟨w,by simp [storeCells],Kp.refl _ _,rfl,by rw [zN0]; exact h⟩
 | v::vs,i,cs,w,h,hl,h1=>by
  simp only [List.length_cons] at hl
  have hr:=zMG (P:=P) (m := .plain) (j:=o+i) (v:=v) h (by omega) (h1 v (by simp))
  obtain ⟨w',r1,r2,r3,r4⟩:=zFM (o:=o) vs (i+1) (cs.set (o+i) v) _ (h.set (j:=o+i) (v:=v)) (by simp; omega) (fun u hu=>h1 u (by simp [hu]))
  have ha:Addr.add ⟨b,o,none⟩ i=⟨b,o+i,none⟩:=Addr.add_lit b o i
  refine ⟨w',by simp [storeCells,ha,hr,r1],(Kp.setCell w ⟨b,o+i,none⟩ v).trans r2,by rw [r3]; simp [World.setCell],?_⟩
  rw [zMj (by simp; omega)]
  exact r4
end
end Go.Wk
namespace Go.Wk
open Go Go.RowKit
structure zW where
 node:Int
 kind:Int
 start:Int
 count:Int
 min:Int
 free:List (List Int)
deriving DecidableEq
end Go.Wk
namespace Go.Wk
open Go Go.RowKit
section
variable {P:Program} {n:Nat} {F:Env} {w w':World}
theorem zPA {s:TypeId} {x:Operand} {i b o off:Nat} {fs:Array Field} {f:Field} {z:Nat} (hs:P.underlying s=some (.struct fs)) (hf:fs[i]?=some f) (ho:f.offset=off) (hz:∀ w,(sizeOf f.type).run P w = .ok (z+1) w) (hx:ev n F x = .pointer (some ⟨b,o,none⟩)) :
  Val P n F w (.fieldAddr s x i) (.pointer (some ⟨b,o+off,none⟩)) w:=by
 subst ho
 exact zT1 hs hf hz hx
structure Pl (w:World) (D:List Nat) (b o:Nat) (cs:List Value):Prop where
 c:Cells w b o cs
 nd:b ∉ D
 lt:b<w.heap.size
theorem zT7 {t ty:TypeId} {x:Operand} {b j:Nat} {cs:List Value} {v:Value} (ha:∀ w,(isAgg t).run P w = .ok false w) (hx:ev n F x = .pointer (some ⟨b,j,none⟩)) (hb:Blk w b ty cs) (hv:cs[j]?=some v):Val P n F w (.load t x) v w:=by
 refine zMK (o:=0) (j:=j) ha ?_ hb.cells hv
 rw [hx,Nat.zero_add]
theorem zF3 {a:Int} (h0:0≤a) (h1:a≤18446744073709551615):IntKind.u64.wrap a=a:=by
 unfold IntKind.wrap
 simp only [IntKind.bits,IntKind.signed,Bool.false_and,Bool.false_eq_true,if_false]
 omega
theorem zKn {a:Int} (h0 : -9223372036854775808≤a) (h1:a≤9223372036854775807):IntKind.i64.wrap a=a:=by
 rw [IntKind.wrap_i64]; omega
end
end Go.Wk
namespace Go.Wk
open Go Go.RowKit
section
variable {P:Program} {n:Nat}
theorem zUB {o:Oper} {a:Act} {K:Act→World→Prop} {Q:Exit→Act→World→Prop} {K':Act→World→Prop} {r:Result Next} (h:o.upon P a K (Exit.then K' Q) r):o.upon P a K Q r:=by
 cases r with
 | ok x w =>
  cases x <;> exact h
 | halt x w=>cases x <;> exact h
theorem zSz {l:List Oper} {i:Nat} {o:Oper} {F:Env} {w:World} {k:Env→World→Prop} {Q:Exit→Act→World→Prop} {K:Act→World→Prop}
  (hi:l[i]?=some o) (h:LW P n l.toArray [o] k F w) (hk:∀ F w,k F w→K (fr n F) w):wpOp P l.toArray Q i K (fr n F) w:=by
 unfold LW at h
 have h1:=h (Exit.then K Q) (fun F w hh=>hk F w hh)
 unfold wpOp
 have hi':l.toArray[i]?=some o:=by simpa using hi
 rw [hi']
 simp only
 unfold wpList at h1
 split
 ·rename_i hw
  rw [if_pos hw] at h1
  rcases h1 with h1 | h1
  ·left
   unfold Oper.wp at h1 ⊢
   have h2:=zUB h1
   exact h2
  ·right
   exact h1
 ·rename_i hw
  rw [if_neg hw] at h1
  exact h1
end
def reach (l:List Oper):Nat→Nat→Nat→Bool
 | 0,_,_=>false
 | f+1,i,j=>match l[i]? with
  | none=>false
  | some o=>o.after.toList.any fun e=>Region.binds .any e&&(e.on == j||reach l f e.on j)
def zBZ (l:List Oper) (i:Nat):Nat:=match l[i]? with
 | some o=>o.dst.getD 1000000
 | none=>1000000
section
variable {P:Program} {n:Nat} {l:List Oper} {p:Nat}
def zM8 (l:List Oper) (listed:Array Bool):Prop := ∀ i o,l[i]?=some o→listed.getD i false=true → ∀ e∈o.after.toList,Region.binds .any e=true→listed.getD e.on false=true
theorem zM8.reach {listed:Array Bool} (h:zM8 l listed):∀ (f i j:Nat),reach l f i j=true→listed.getD i false=true→listed.getD j false=true:=by
 intro f
 induction f with
 | zero=>intro i j hr; simp [Wk.reach] at hr
 | succ f ih =>
  intro i j hr hl
  unfold Wk.reach at hr
  split at hr
  ·cases hr
  ·rename_i o ho
   simp only [List.any_eq_true,Bool.and_eq_true,Bool.or_eq_true,beq_iff_eq] at hr
   obtain ⟨e,he,hb,hj⟩:=hr
   have hon:=h i o ho hl e he hb
   rcases hj with rfl | hj
   ·exact hon
   ·exact ih _ _ hj hon
theorem zNn {listed:Array Bool} {i:Nat} (hsz:listed.size=l.length):i∈Region.ready .any l.toArray listed ↔ ∃ o,l[i]?=some o∧listed.getD i false=false ∧ ∀ e∈o.after.toList,Region.binds .any e=true→listed.getD e.on false=true:=by
 unfold Region.ready
 simp only [List.size_toArray,List.mem_filter,List.mem_range,Bool.and_eq_true,Bool.not_eq_true']
 constructor
 ·rintro ⟨hi,h1,h2⟩
  have ho:=List.getElem?_eq_getElem hi
  refine ⟨l[i],ho,?_,?_⟩
  ·have hlt:i<listed.size:=by omega
   simp [Array.getD,hlt] at h1 ⊢
   exact h1
  ·intro e he hb
   have h3:(Option.map (fun x:Oper=>x.after.all fun e => !Region.binds .any e||listed.getD e.on false) l[i]?).getD false=true:=by simpa using h2
   rw [ho] at h3
   simp only [Option.map_some,Option.getD_some] at h3
   rw [← Array.all_toList,List.all_eq_true] at h3
   have:=h3 e he
   simpa [hb] using this
 ·rintro ⟨o,ho,h1,h2⟩
  have hi:=zAO ho
  refine ⟨hi,?_,?_⟩
  ·have hlt:i<listed.size:=by omega
   simp [Array.getD,hlt] at h1 ⊢
   exact h1
  ·have h3:(Option.map (fun x:Oper=>x.after.all fun e => !Region.binds .any e||listed.getD e.on false) l[i]?).getD false=true:=by
    rw [ho]
    simp only [Option.map_some,Option.getD_some]
    rw [← Array.all_toList,List.all_eq_true]
    intro e he
    cases hb:Region.binds .any e with
    | false=>rfl
    | true=>simpa using h2 e he hb
   simpa using h3
def cnt (listed:Array Bool):Nat:=listed.toList.countP (fun b => !b)
theorem zWv {listed:Array Bool} {i:Nat} (hi:i<listed.size) (h:listed.getD i false=false):cnt (listed.setIfInBounds i true)+1=cnt listed:=by
 unfold cnt
 rw [Array.toList_setIfInBounds]
 have hl:listed.toList[i]'(by simpa using hi)=false:=by simpa [Array.getD,hi] using h
 have hlen:i<listed.toList.length:=by simpa using hi
 have hset:=List.countP_set (p:=fun b:Bool => !b) (a:=true) hlen
 simp only [hl,Bool.not_true,Bool.not_false,Bool.false_eq_true,if_false,if_true] at hset
 rw [hset]
 have hpos:0<listed.toList.countP (fun b => !b):=by
  rw [List.countP_pos_iff]
  exact ⟨false,by rw [← hl]; exact List.getElem_mem hlen,rfl⟩
 omega
theorem zVX {listed:Array Bool} (h:cnt listed=0) {i:Nat} (hi:i<listed.size):listed.getD i false=true:=by
 unfold cnt at h
 rw [List.countP_eq_zero] at h
 have hm:listed[i]∈listed.toList:=by
  rw [Array.mem_toList_iff]
  exact Array.getElem_mem hi
 have:=h _ hm
 simpa [Array.getD,hi] using this
theorem zB8 {listed:Array Bool} {i j:Nat} (hi:i<listed.size):(listed.setIfInBounds i true).getD j false=if j=i then true else listed.getD j false:=by
 by_cases h:j=i
 ·subst h
  simp [Array.getD,hi]
 ·have h':i≠j:=fun e=>h e.symm
  simp only [h,if_false]
  unfold Array.getD
  simp only [Array.size_setIfInBounds]
  split
  ·rename_i hj
   show (listed.setIfInBounds i true)[j]'(by simpa using hj)=listed[j]
   rw [Array.getElem_setIfInBounds (by simpa using hj),if_neg h']
  ·rfl
end
end Go.Wk
namespace Go.Wk
open Go Go.RowKit
def zKO (w:World) (T sz:Nat) (g:Option Nat) (v:Value) (rows:List (List Value)):Prop :=
 (∀ r,r∈rows→r.length=sz) ∧
 ((g=none∧v = .slice none 0 0∧rows=[]) ∨
  ∃ b cap sp,g=some b∧v = .slice (some ⟨b,0,none⟩) rows.length cap∧rows.length≤cap∧(rows.length≤140737488355328∧cap≤maxLen)∧Blk w b T (rows.flatten++sp)∧(rows.flatten++sp).length=cap*sz)
def zNJ (xs:List Int):List (List Value):=xs.map (fun x=>[Value.int .i64 x])
theorem zEf (xs:List Int):(zNJ xs).length=xs.length:=by simp [zNJ]
theorem zJm (xs:List Int):(zNJ xs).flatten=xs.map (Value.int .i64):=by
 induction xs with
 | nil=>rfl
 | cons x xs ih=>simpa [zNJ] using ih
theorem zR2 {xs:List Int} {r:List Value} (h:r∈zNJ xs):r.length=1:=by
 simp [zNJ] at h
 obtain ⟨x,_,rfl⟩:=h
 rfl
theorem zEe {rows:List (List Value)} {sz:Nat} (h:∀ r,r∈rows→r.length=sz):rows.flatten.length=rows.length*sz:=by
 induction rows with
 | nil=>simp
 | cons r rows ih =>
  rw [List.flatten_cons,List.length_append,ih (fun r hr=>h r (by simp [hr])),h r (by simp),List.length_cons,Nat.succ_mul]
  omega
theorem zPp {rows:List (List Value)} {sz:Nat} (h:∀ r,r∈rows→r.length=sz) {i j:Nat} {r:List Value} (hr:rows[i]?=some r) (hj:j<sz):rows.flatten[i*sz+j]?=r[j]?:=by
 induction rows generalizing i with
 | nil=>simp at hr
 | cons a rows ih =>
  rw [List.flatten_cons]
  have ha:a.length=sz:=h a (by simp)
  cases i with
  | zero =>
   simp at hr; subst hr
   rw [Nat.zero_mul,Nat.zero_add,List.getElem?_append_left (by omega)]
  | succ i =>
   rw [List.getElem?_append_right (by rw [ha,Nat.succ_mul]; omega),ha]
   rw [show (i+1)*sz+j - sz=i*sz+j by rw [Nat.succ_mul]; omega]
   exact ih (fun r hr=>h r (by simp [hr])) (by simpa using hr)
theorem zPl {rows:List (List Value)} {sz:Nat} (h:∀ r,r∈rows→r.length=sz) {i j:Nat} {r:List Value} (hr:rows[i]?=some r) (hj:j<sz) (v:Value):(rows.flatten).set (i*sz+j) v=(rows.set i (r.set j v)).flatten:=by
 induction rows generalizing i with
 | nil=>simp at hr
 | cons a rows ih =>
  rw [List.flatten_cons]
  have ha:a.length=sz:=h a (by simp)
  cases i with
  | zero =>
   simp at hr; subst hr
   rw [Nat.zero_mul,Nat.zero_add,List.set_append_left _ _ (by omega)]
   rfl
  | succ i =>
   rw [List.set_append_right _ _ (by rw [ha,Nat.succ_mul]; omega),ha]
   rw [show (i+1)*sz+j - sz=i*sz+j by rw [Nat.succ_mul]; omega]
   rw [ih (fun r hr=>h r (by simp [hr])) (by simpa using hr)]
   rfl
theorem zSo {rows:List (List Value)} {sz:Nat} (h:∀ r,r∈rows→r.length=sz) {i:Nat} {vs:List Value} (hi:i<rows.length) (hv:vs.length=sz):zDx rows.flatten (i*sz) vs=(rows.set i vs).flatten:=by
 induction rows generalizing i with
 | nil=>simp at hi
 | cons a rows ih =>
  have ha:a.length=sz:=h a (by simp)
  cases i with
  | zero=>simp [zDx,hv, ← ha]
  | succ i =>
   have h1:=ih (fun r hr=>h r (by simp [hr])) (i:=i) (by simpa using hi)
   unfold zDx at h1 ⊢
   rw [List.flatten_cons,List.set_cons_succ,List.flatten_cons, ← h1]
   have e:(i+1)*sz=a.length+i*sz:=by rw [ha,Nat.succ_mul]; omega
   rw [e,List.take_length_add_append,Nat.add_assoc,List.drop_length_add_append]
   simp
section
variable {w w':World} {T sz:Nat} {g:Option Nat} {v:Value} {rows:List (List Value)}
theorem zUC (w:World) (T sz:Nat):zKO w T sz none (.slice none 0 0) []:=⟨fun r hr=>by simp at hr,.inl ⟨rfl,rfl,rfl⟩⟩
theorem zTh (h:zKO w T sz g v rows) {b:Nat} (hb:g=some b):b<w.heap.size:=by
 rcases h.2 with ⟨h1,_⟩ | ⟨b',cap,sp,h1,h2,h3,h4,h5,h6⟩
 ·rw [h1] at hb; cases hb
 ·rw [h1] at hb; cases hb; exact h5.lt
theorem zI2 (h:zKO w T sz g v rows):∃ a c,v = .slice a rows.length c∧rows.length≤c∧(rows.length≤140737488355328∧c≤maxLen):=by
 rcases h.2 with ⟨_,h2,h3⟩ | ⟨b,cap,sp,h1,h2,h3,h4,h5,h6⟩
 ·exact ⟨none,0,by rw [h2,h3]; rfl,by rw [h3]; simp,by rw [h3]; simp,by unfold maxLen; omega⟩
 ·exact ⟨_,cap,h2,h3,h4⟩
theorem zLl (h:zKO w T sz g v rows) {i:Nat} (hi:i<rows.length):∃ b cap sp,g=some b∧v = .slice (some ⟨b,0,none⟩) rows.length cap∧rows.length≤cap∧(rows.length≤140737488355328∧cap≤maxLen)∧Blk w b T (rows.flatten++sp)∧(rows.flatten++sp).length=cap*sz:=by
 rcases h.2 with ⟨_,h2,h3⟩ | h
 ·rw [h3] at hi; simp at hi
 ·exact h
theorem zTT (h:zKO w T sz g v rows) {i:Nat} {r:List Value} (hr:rows[i]?=some r) {b:Nat} (hb:g=some b):Cells w b (i*sz) r:=by
 obtain ⟨b',cap,sp,h1,h2,h3,h4,h5,h6⟩:=zLl h (zAO hr)
 rw [h1] at hb; cases hb
 intro j u hu
 have hl:r.length=sz:=h.1 r (List.mem_of_getElem? hr)
 have hj:j<sz:=by have:=zAO hu; omega
 have:=h5.cells (i*sz+j) u ?_
 ·rw [Nat.zero_add] at this; exact this
 ·have hf:=zEe h.1
  have hi:=zAO hr
  have hb:i*sz+j<rows.flatten.length:=by
   rw [hf]
   have:(i+1)*sz≤rows.length*sz:=Nat.mul_le_mul_right _ hi
   rw [Nat.succ_mul] at this
   omega
  rw [List.getElem?_append_left hb,zPp h.1 hr hj]
  exact hu
theorem zQ2 {b:Nat} (h:Blk w b T rows.flatten) (hr:∀ r,r∈rows→r.length=sz) (hn:rows.length≤140737488355328):zKO w T sz (some b) (.slice (some ⟨b,0,none⟩) rows.length rows.length) rows :=
 ⟨hr,.inr ⟨b,rows.length,[],rfl,rfl,Nat.le_refl _,⟨hn,by unfold maxLen; omega⟩,by simpa using h,by rw [List.append_nil,zEe hr]⟩⟩
end
section
variable {P:Program} {w:World} {T sz:Nat} {g:Option Nat} {v:Value} {rows:List (List Value)}
theorem zRE {base:Nat} (h:zKO w T sz g v rows) (hb:∀ b,g=some b→base≤b):w.ownsRow base T sz v rows.length rows.flatten:=by
 refine ⟨zEe h.1,?_⟩
 rcases h.2 with ⟨h1,h2,h3⟩ | ⟨b,cap,sp,h1,h2,h3,h4,h5,h6⟩
 ·exact .inl ⟨h2,by rw [h3]; rfl⟩
 ·refine .inr ⟨b,cap,(rows.flatten++sp).toArray,h2,hb b h1,h5,h3,h4.2,by simpa using h6,?_⟩
  have:=zEe h.1
  simp [← this]
theorem zRe {base n:Nat} {xs:List Value} {rows':List (List Value)} (h:w.ownsRow base T sz v n xs) (hx:rows'.flatten=xs) (hn:rows'.length=n) (hr:∀ r,r∈rows'→r.length=sz) (hc:n≤140737488355328):zKO w T sz v.ownBlock v rows':=by
 refine ⟨hr,?_⟩
 rcases h.2 with ⟨rfl,h2⟩ | ⟨b,cap,cur,rfl,hb,hh,h3,h4,h5,h6⟩
 ·refine .inl ⟨rfl,rfl,?_⟩
  rw [h2] at hn
  exact List.length_eq_zero_iff.1 hn
 ·refine .inr ⟨b,cap,cur.toList.drop (n*sz),rfl,by rw [hn],by omega,⟨by omega,h4⟩,?_,?_⟩
  ·unfold Blk
   rw [hx, ← h6,List.take_append_drop]
   simpa using hh
  ·rw [hx, ← h6,List.take_append_drop]
   simpa using h5
theorem zQR {t ty e:TypeId} {i:TypeInfo} {z:Value} {bytes:Nat} (ht:P.underlying t=some (.slice e)) (hi:P.info? e=some i) (hz:i.zero=some z) (hsize:i.size=sz) (hby:i.bytes=bytes) (hzs:z.cells.size=sz) (hsz:0<sz)
  (hown:zKO w e sz g v rows) {a:Option Addr} {m c:Nat} {ns:List (List Value)} (hm:ns.length=m) (hns:∀ r,r∈ns→r.length=sz) (h1:∀ r,r∈ns → ∀ u,u∈r→u.oneCell'=true)
  (hsrc:m=0 ∨ ∃ b o,a=some ⟨b,o,none⟩∧Cells w b o ns.flatten) (hbd:(rows.length+m)*bytes≤4294967296) (hb1:1≤bytes) :
  ∃ v' g' w',(Builtin.append_ #[t,t] ty #[v,.slice a m c]).run P w = .ok v' w'∧zKO w' e sz g' v' (rows++ns)∧Kp g.toList w w'∧(g'=g ∨ ∃ b,g'=some b∧w.heap.size≤b):=by
 have hlen:ns.flatten.length=m*sz:=by rw [zEe hns,hm]
 have hbb:rows.length+m≤4294967296:=by
  have:(rows.length+m)*1≤(rows.length+m)*bytes:=Nat.mul_le_mul_left _ hb1
  omega
 have hone:∀ u,u∈ns.flatten→u.oneCell'=true:=fun u hu=>by
  obtain ⟨r,hr,hu⟩:=List.mem_flatten.1 hu
  exact h1 r hr u hu
 have hob:∀ b,g=some b→v.ownBlock=some b:=fun b hb=>by
  rcases hown.2 with ⟨h,_⟩ | ⟨b',cap,sp,h1',h2',_⟩
  ·rw [h] at hb; cases hb
  ·rw [h1'] at hb; cases hb; rw [h2']; rfl
 have hon:g=none→v = .slice none 0 0∧rows=[]:=fun hg=>by
  rcases hown.2 with ⟨_,h2,h3⟩ | ⟨b',cap,sp,h1',_⟩
  ·exact ⟨h2,h3⟩
  ·rw [h1'] at hg; cases hg
 have hgO:v.ownBlock=g:=by
  cases g with
  | none=>rw [(hon rfl).1]; rfl
  | some b=>exact hob b rfl
 rcases Nat.eq_zero_or_pos m with h0 | h0
 ·
  have hnil:ns=[]:=List.length_eq_zero_iff.1 (by omega)
  subst hnil
  refine ⟨v,g,w,?_,by rw [List.append_nil]; exact hown,Kp.refl _ _,.inl rfl⟩
  subst h0
  obtain ⟨a',c',hv,hc1,hc2⟩:=zI2 hown
  have hfc:∀ x:Option Addr,(Builtin.firstCells i.size 0 (.slice x 0 c)).run P w = .ok #[] w:=fun x=>by
   cases x with
   | none=>simp [Builtin.firstCells]
   | some x=>simp [Builtin.firstCells,loadCells,loadCellsFrom]
  subst hv
  have hfa:=hfc a
  cases a' with
  | none=>simp [Builtin.append_,run_underlying ht,sizeOf,typeInfo,hi,Builtin.lenOf,hc1,hfa]
  | some x=>simp [Builtin.append_,run_underlying ht,sizeOf,typeInfo,hi,Builtin.lenOf,hc1,hfa,storeCells]
 ·rcases hsrc with h | ⟨b,o,rfl,hcell⟩
  ·omega
  ·obtain ⟨v',w',hrun,how,hgr,_,hbl⟩:=run_append_own_at (P:=P) w 0 t ty e i z sz bytes ht hi hz hsize hby hzs hsz v rows.length rows.flatten (zRE hown (fun _ _=>Nat.zero_le _)) ⟨b,o,none⟩ m c ns.flatten hlen
    (fun j u hu=>by rw [Addr.add_lit]; exact hcell j u hu) hone (by unfold maxLen; omega) (by omega) (Nat.zero_le _)
   refine ⟨v',v'.ownBlock,w',hrun,zRe how (by rw [List.flatten_append]) (by rw [List.length_append,hm]) (fun r hr=>by
    rcases List.mem_append.1 hr with h | h
    ·exact hown.1 r h
    ·exact hns r h) (by omega),?_,?_⟩
   ·refine ⟨hgr.os,hgr.tape,hgr.output,hgr.size,fun b hb hn=>hgr.block b hb ?_⟩
    rw [hgO]
    cases g with
    | none=>simp
    | some y=>simp at hn; intro e; cases e; exact hn rfl
   ·rcases hbl with h | h
    ·exact .inl (by rw [h,hgO])
    ·exact .inr ⟨_,h,Nat.le_refl _⟩
end
end Go.Wk
namespace Go.Wk
open Go Go.RowKit
structure zMm (P:Program) (e sz:Nat) (z:Value) (bytes:Nat):Prop where
 info:∃ i,P.info? e=some i∧i.zero=some z∧i.size=sz∧i.bytes=bytes
 cells:z.cells.size=sz
 pos:0<sz
 bpos:1≤bytes
theorem zMm.of {P:Program} {e sz bytes:Nat} {z:Value} (h:(P.info? e).map (fun i=>(i.zero,i.size,i.bytes))=some (some z,sz,bytes)) (hc:z.cells.size=sz) (hp:0<sz) (hb:1≤bytes):zMm P e sz z bytes:=⟨info_parts h,hc,hp,hb⟩
def Src (w:World) (sz:Nat) (v:Value) (rows:List (List Value)):Prop :=
 ∃ (a:Option Addr) (c:Nat),v = .slice a rows.length c∧rows.length≤c∧(∀ r,r∈rows→r.length=sz)∧(∀ r,r∈rows → ∀ u,u∈r→u.oneCell'=true)∧(rows.length=0 ∨ ∃ b o,a=some ⟨b,o,none⟩∧Cells w b o rows.flatten)
theorem zUI {w:World} {T sz:Nat} {g:Option Nat} {v:Value} {rows:List (List Value)} (h:zKO w T sz g v rows) (h1:∀ r,r∈rows → ∀ u,u∈r→u.oneCell'=true):Src w sz v rows:=by
 obtain ⟨a,c,hv,h2,h3⟩:=zI2 h
 refine ⟨a,c,hv,h2,h.1,h1,?_⟩
 rcases Nat.eq_zero_or_pos rows.length with h0 | h0
 ·exact .inl h0
 ·obtain ⟨b,cap,sp,_,h2',_,_,h5,_⟩:=zLl h h0
  refine .inr ⟨b,0,?_,?_⟩
  ·rw [h2'] at hv; injection hv with hv; exact hv.symm
  ·intro j u hu
   have:=h5.cells j u (by rw [List.getElem?_append_left (zAO hu)]; exact hu)
   exact this
def zSO:Value→Bool
 | .slice none _ _=>true
 | _=>false
section
variable {P:Program} {n:Nat} {F:Env} {w:World}
theorem zTn {t e ty2:TypeId} {x:Operand} {v:Value} {a:Option Addr} {m c:Nat} (ht:P.underlying t=some (.slice e)) (hx:ev n F x=v) (hv:v = .slice a m c):Val P n F w (.binOp .eql t x (.const (.slice none 0 0)) ty2) (.bool (zSO v)) w:=by
 refine ⟨fun d t' p af g => ?_⟩
 subst hv
 have h1:(Op.equalIn (9999+1) t (.slice a m c) (.slice none 0 0)).run P w = .ok (zSO (.slice a m c)) w:=by
  unfold Op.equalIn
  simp only [Sem.run_bind,run_underlying ht,Result.andThen_ok]
  cases a <;> rfl
 have h:(binOp .eql t (.slice a m c) (.slice none 0 0)).run P w = .ok (.bool (zSO (.slice a m c))) w:=by
  simp only [binOp,Op.equal,Op.maxDepth,Sem.run_bind,h1,Result.andThen_ok,Sem.run_pure]
 simp only [execOp,hx,zP0,Sem.run_bind,eqGuard_at_slice,Sem.run_pure,Result.andThen_ok,h]
end
section
variable {P:Program} {n:Nat} {ops:Array Oper} {rest:List Oper} {k:Env→World→Prop} {F:Env} {w:World} {d:Nat} {ty:Nat} {p:String} {af:Array Edge}
theorem zUb {t e sz bytes:Nat} {z:Value} {s x:Operand} {v xv:Value} {g:Option Nat} {rows ns:List (List Value)} (hE:zMm P e sz z bytes) (ht:P.underlying t=some (.slice e)) (hs:ev n F s=v) (hx:ev n F x=xv) (hown:zKO w e sz g v rows) (hsrc:Src w sz xv ns) (hbd:(rows.length+ns.length)*bytes≤4294967296)
  (hk:∀ v' g' w',zKO w' e sz g' v' (rows++ns)→Kp g.toList w w'→(g'=g ∨ ∃ b,g'=some b∧w.heap.size≤b)→LW P n ops rest k (upd F d v') w') :
  LW P n ops (⟨some d,.call { callee := .builtin .append,args := #[s,x],argTypes := #[t,t] },ty,p,af,none⟩::rest) k F w:=by
 obtain ⟨i,hi,hz,hsz,hby⟩:=hE.info
 obtain ⟨a,c,rfl,_,hr,h1,hc⟩:=hsrc
 obtain ⟨v',g',w',hrun,h2,h3,h4⟩:=zQR (P:=P) (ty:=ty) ht hi hz hsz hby hE.cells hE.pos hown (a:=a) (m:=ns.length) (c:=c) rfl hr h1 hc hbd hE.bpos
 refine zMZ (v:=v') (w':=w') ⟨fun d t' p af g => ?_⟩ (hk v' g' w' h2 h3 h4)
 have hrun':(Builtin.append_ #[t,t] t' #[v,.slice a ns.length c]).run P w = .ok v' w':=hrun
 simp [execOp,hs,hx,resolve,invoke,builtin,hrun']
theorem zOn (z:Array Value) (c:Nat):madeCells z (c*z.size)=(List.replicate c z.toList).flatten.toArray:=by
 apply Array.ext
 ·rw [size_madeCells]
  simp [List.length_flatten]
 ·intro i h1 h2
  rw [size_madeCells] at h1
  have hz:0<z.size:=by
   rcases Nat.eq_zero_or_pos z.size with h | h
   ·rw [h] at h1; simp at h1
   ·exact h
  have hd:i/z.size<c:=by rw [Nat.div_lt_iff_lt_mul hz]; exact h1
  have hm:i%z.size<z.size:=Nat.mod_lt _ hz
  have hf:=zPp (rows:=List.replicate c z.toList) (sz:=z.size) (fun r hr=>by rw [List.eq_of_mem_replicate hr]; simp) (i:=i/z.size) (j:=i%z.size) (r:=z.toList) (by rw [List.getElem?_replicate,if_pos hd]) hm
  rw [Nat.div_add_mod'] at hf
  have e1:(madeCells z (c*z.size))[i]=z[i%z.size]:=by
   simp [madeCells,hm]
  have e2:(List.replicate c z.toList).flatten[i]?=some z[i%z.size]:=by rw [hf]; simp [hm]
  have e3:(List.replicate c z.toList).flatten.toArray[i]=(List.replicate c z.toList).flatten[i]'(by simpa using h2):=by simp
  rw [e1,e3]
  exact (List.getElem_eq_iff _).2 e2 |>.symm
theorem zWX {t e sz bytes:Nat} {z:Value} {x y:Operand} {kx ky:IntKind} {m c:Nat} (hE:zMm P e sz z bytes) (ht:P.underlying t=some (.slice e)) (hx:ev n F x = .int kx (m:Int)) (hy:ev n F y = .int ky (c:Int)) (hmc:m≤c) (hbd:c*bytes≤4294967296)
  (hk:∀ b w',w.heap.size≤b→b<w'.heap.size→Kp [] w w'→zKO w' e sz (some b) (.slice (some ⟨b,0,none⟩) m c) (List.replicate m z.cells.toList)→LW P n ops rest k (upd F d (.slice (some ⟨b,0,none⟩) m c)) w') :
  LW P n ops (⟨some d,.makeSlice t x y,ty,p,af,none⟩::rest) k F w:=by
 obtain ⟨i,hi,hz,hsz,hby⟩:=hE.info
 have hc2:c≤4294967296:=by
  have:c*1≤c*bytes:=Nat.mul_le_mul_left _ hE.bpos
  omega
 have hb1:(i.bytes:Int)*(c:Int)≤281474976710656:=by
  rw [hby]
  have:((c*bytes:Nat):Int)≤4294967296:=by omega
  rw [Int.natCast_mul,Int.mul_comm] at this
  omega
 have hrun:=run_make (P:=P) w t e i z ht hi hz kx ky (m:Int) (c:Int) (by omega) (by omega) hb1 (by omega)
 simp only [Int.toNat_natCast] at hrun
 rw [hsz, ← hE.cells,zOn] at hrun
 have hzl:z.cells.toList.length=sz:=by simpa using hE.cells
 have hsplit:(List.replicate c z.cells.toList).flatten=(List.replicate m z.cells.toList).flatten++(List.replicate (c - m) z.cells.toList).flatten:=by
  rw [← List.flatten_append,List.replicate_append_replicate,Nat.add_sub_cancel' hmc]
 refine zMZ (w':=w.alloc (.cells (List.replicate c z.cells.toList).flatten.toArray e)) (v := .slice (some ⟨w.heap.size,0,none⟩) m c) ⟨fun d t' p af g => ?_⟩ (hk w.heap.size _ (Nat.le_refl _) (by simp) (Kp.alloc _ _) ?_)
 ·simp [execOp,hx,hy,hrun]
 ·refine ⟨fun r hr=>by rw [List.eq_of_mem_replicate hr]; exact hzl,.inr ⟨w.heap.size,c,(List.replicate (c - m) z.cells.toList).flatten,rfl,by rw [List.length_replicate],by rw [List.length_replicate]; exact hmc,⟨by rw [List.length_replicate]; omega,by unfold maxLen; omega⟩,?_,?_⟩⟩
  ·rw [← hsplit]
   exact zKl w e _
  ·rw [← hsplit,zEe (sz:=sz) (fun r hr=>by rw [List.eq_of_mem_replicate hr]; exact hzl),List.length_replicate]
theorem zWM {t e sz bytes:Nat} {z:Value} (hE:zMm P e sz z bytes) (ht:P.underlying t=some (.slice e))
  (hk:∀ b w',w.heap.size≤b→b<w'.heap.size→Kp [] w w'→zKO w' e sz (some b) (.slice (some ⟨b,0,none⟩) 0 0) []→LW P n ops rest k (upd F d (.slice (some ⟨b,0,none⟩) 0 0)) w') :
  LW P n ops (⟨some d,.buildSlice t 0 #[],ty,p,af,none⟩::rest) k F w:=by
 obtain ⟨i,hi,hz,hsz,hby⟩:=hE.info
 have hrun:(Instr.buildSlice t 0 #[]).run P w = .ok (.slice (some ⟨w.heap.size,0,none⟩) 0 0) (w.alloc (.cells ([]:List Value).toArray e)):=by
  simp [Instr.buildSlice,run_underlying ht,sizeOf,typeInfo,hi,Instr.fill,newRow]
  congr 2
  simp [Array.range]
 refine zMZ (w':=w.alloc (.cells ([]:List Value).toArray e)) (v := .slice (some ⟨w.heap.size,0,none⟩) 0 0) ⟨fun d t' p af g => ?_⟩ (hk w.heap.size _ (Nat.le_refl _) (by simp) (Kp.alloc _ _) (zQ2 (rows:=[]) (by simpa using zKl w e []) (fun r hr=>by simp at hr) (by simp)))
 simp [execOp,hrun]
theorem zXP {t e sz bytes:Nat} {z:Value} {x:Operand} {v:Value} {r:List Value} (hE:zMm P e sz z bytes) (ht:P.underlying t=some (.slice e)) (hx:ev n F x=v) (hv:v.cells=r.toArray) (hr:r.length=sz) (hs:sz≤16)
  (hk:∀ b w',w.heap.size≤b→b<w'.heap.size→Kp [] w w'→zKO w' e sz (some b) (.slice (some ⟨b,0,none⟩) 1 1) [r]→LW P n ops rest k (upd F d (.slice (some ⟨b,0,none⟩) 1 1)) w') :
  LW P n ops (⟨some d,.buildSlice t 1 #[(0,x)],ty,p,af,none⟩::rest) k F w:=by
 obtain ⟨i,hi,hz,hsz,hby⟩:=hE.info
 have hpos:=hE.pos
 have hzc:=hE.cells
 have hrun:(Instr.buildSlice t 1 #[(0,v)]).run P w = .ok (.slice (some ⟨w.heap.size,0,none⟩) 1 1) (w.alloc (.cells r.toArray e)):=by
  have h0:¬ (sz=0):=by omega
  have hle:¬ (16777216<sz):=by omega
  have hfold:∀ (l:List Value) (k:Nat) (cs:Array Value),k+l.length=cs.size→(∀ j,j<k→cs[j]?=r[j]?)→(∀ j,l[j]?=r[k+j]?)→r.length=cs.size→(l.zipIdx k).foldl (fun cs (c,j)=>cs.setIfInBounds (0+j) c) cs=r.toArray:=by
   intro l
   induction l with
   | nil =>
    intro k cs hk h1 _ hrl
    simp only [List.zipIdx_nil,List.foldl_nil]
    apply Array.ext_getElem?
    intro j
    rcases Nat.lt_or_ge j k with hj | hj
    ·rw [h1 j hj]; simp
    ·simp at hk
     rw [Array.getElem?_eq_none (by omega),Array.getElem?_eq_none (by simp; omega)]
   | cons a l ih =>
    intro k cs hk h1 h2 hrl
    simp only [List.zipIdx_cons,List.foldl_cons]
    simp only [List.length_cons] at hk
    refine ih (k+1) _ (by simp; omega) ?_ ?_ (by simpa using hrl)
    ·intro j hj
     rw [Array.getElem?_setIfInBounds]
     by_cases hjk:0+k=j
     ·rw [if_pos hjk,if_pos (by omega)]
      have:=h2 0
      simp at this
      rw [← hjk,Nat.zero_add, ← this]
     ·rw [if_neg hjk]
      exact h1 j (by omega)
    ·intro j
     have:=h2 (j+1)
     simp only [List.getElem?_cons_succ] at this
     rw [this]
     congr 1
     omega
  have hf:=hfold r 0 ((Array.range sz).map (z.cells[· % z.cells.size]!)) (by simp [hr]) (fun j hj=>by omega) (fun j=>by simp) (by simp [hr])
  have hf2:r.zipIdx.foldl (fun cs (x:Value×Nat)=>cs.setIfInBounds x.2 x.1) ((Array.range sz).map (z.cells[· % z.cells.size]!))=r.toArray:=by
   simpa using hf
  simp [Instr.buildSlice,run_underlying ht,sizeOf,typeInfo,hi,hz,zeroValue,Instr.fill,newRow,hv,hr,hsz,h0,hle]
  rw [hf2]
 refine zMZ (w':=w.alloc (.cells r.toArray e)) (v := .slice (some ⟨w.heap.size,0,none⟩) 1 1) ⟨fun d t' p af g => ?_⟩ (hk w.heap.size _ (Nat.le_refl _) (by simp) (Kp.alloc _ _) (zQ2 (rows:=[r]) (by simpa using zKl w e r) (fun q hq=>by simp at hq; subst hq; exact hr) (by simp)))
 simp [execOp,hx,hrun]
end
end Go.Wk
namespace Go.Am
open Go Go.RowKit Go.Wk
inductive AV where
 | any
 | lit (v:Value)
 | sl (full:Bool) (rows:List (List AV))
 | osl (t sz:Nat) (rows:List (List AV))
 | hd (k:Nat)
 | ptr (k off:Nat)
 | rp (row:List AV) (off:Nat)
 | agg (cs:List AV)
 | tup (vs:List AV)
 | clo (f:FuncId) (caps:List AV)
 | omap (es:List (Value×Value))
def zVz (w:World) (es:List (Value×Value)) (v:Value) (r:Nat):Prop := ∃ en clock,v = .map (some r)∧w.heap[r]?=some (.map en clock)∧en.toList.map (fun e=>(e.key,e.val))=es
theorem zVz.same {w w':World} {es:List (Value×Value)} {v:Value} {r:Nat} (h:zVz w es v r) (hs:w'.heap[r]?=w.heap[r]?):zVz w' es v r:=by
 obtain ⟨en,c,h1,h2,h3⟩:=h
 exact ⟨en,c,h1,hs.trans h2,h3⟩
theorem zVz.lt {w:World} {es:List (Value×Value)} {v:Value} {r:Nat} (h:zVz w es v r):r<w.heap.size:=by
 obtain ⟨en,c,h1,h2,h3⟩:=h
 exact zMx h2
def zX4:Value→Option Nat
 | .pointer (some ⟨b,0,none⟩)=>some b
 | .slice (some ⟨b,0,none⟩) _ _=>some b
 | _=>none
mutual
def VR (w:World) (A:Nat→Prop) (κ:List Value):AV→Value→List Nat→Prop
 | .any,_,fp=>fp=[]
 | .lit u,v,fp=>v=u∧fp=[]
 | .sl full rows,v,fp=>fp=[] ∧ ∃ a c,v = .slice a rows.length c∧rows.length≤c∧(rows.length≤140737488355328∧c≤maxLen)∧(full=true→c=rows.length) ∧
   (rows=[] ∨ ∃ b o sz vr,a=some ⟨b,o,none⟩ ∧ ¬ A b∧b<w.heap.size∧VRr w A [] rows vr []∧(∀ r,r∈vr→r.length=sz)∧Cells w b o vr.flatten)
 | .osl t sz rows,v,fp => ∃ g vr fp',zKO w t sz g v vr∧VRr w A [] rows vr fp'∧fp=g.toList++fp'
 | .hd k,v,fp=>κ[k]?=some v∧fp=[]
 | .ptr k off,v,fp=>fp=[] ∧ ∃ u b,κ[k]?=some u∧zX4 u=some b∧v = .pointer (some ⟨b,off,none⟩)
 | .rp row off,v,fp=>fp=[] ∧ ∃ b o vs,v = .pointer (some ⟨b,o+off,none⟩) ∧ ¬ A b∧b<w.heap.size∧VRs w A [] row vs []∧Cells w b o vs
 | .agg cs,v,fp => ∃ vs,v = .agg vs.toArray∧VRs w A κ cs vs fp
 | .tup la,v,fp => ∃ vs,v = .tuple vs.toArray∧VRt w A κ la vs fp
 | .clo f caps,v,fp => ∃ vs,v = .func (.func f) #[] vs.toArray∧VRt w A κ caps vs fp
 | .omap es,v,fp => ∃ r,zVz w es v r∧fp=[r]
def VRs (w:World) (A:Nat→Prop) (κ:List Value):List AV→List Value→List Nat→Prop
 | [],vs,fp=>vs=[]∧fp=[]
 | a::la,vs,fp => ∃ v vs' f1 f2,vs=v::vs'∧fp=f1++f2∧v.oneCell'=true∧VR w A κ a v f1∧VRs w A κ la vs' f2
def VRt (w:World) (A:Nat→Prop) (κ:List Value):List AV→List Value→List Nat→Prop
 | [],vs,fp=>vs=[]∧fp=[]
 | a::la,vs,fp => ∃ v vs' f1 f2,vs=v::vs'∧fp=f1++f2∧VR w A κ a v f1∧VRt w A κ la vs' f2
def VRr (w:World) (A:Nat→Prop) (κ:List Value):List (List AV)→List (List Value)→List Nat→Prop
 | [],vr,fp=>vr=[]∧fp=[]
 | r::rs,vr,fp => ∃ v vr' f1 f2,vr=v::vr'∧fp=f1++f2∧VRs w A κ r v f1∧VRr w A κ rs vr' f2
end
structure Mv (w:World) (A:Nat→Prop) (κ:List Value) (w':World) (A':Nat→Prop) (κ':List Value):Prop where
 size:w.heap.size≤w'.heap.size
 same:∀ b,¬ A b→b<w.heap.size→w'.heap[b]?=w.heap[b]?
 av:∀ b,A' b→A b∨w.heap.size≤b
 kk:∀ (k:Nat) (v:Value),κ[k]?=some v→κ'[k]?=some v
theorem Mv.nil {w w':World} {A A':Nat→Prop} {κ κ':List Value} (m:Mv w A κ w' A' κ'):Mv w A [] w' A' []:=⟨m.size,m.same,m.av,fun _ _ h=>h⟩
theorem zNh {w w':World} {T sz:Nat} {g:Option Nat} {v:Value} {rows:List (List Value)} (h:zKO w T sz g v rows) (hs:∀ b,b∈g.toList→w'.heap[b]?=w.heap[b]?):zKO w' T sz g v rows:=by
 refine ⟨h.1,?_⟩
 rcases h.2 with h1 | ⟨b,cap,sp,rfl,h2,h3,h4,h5,h6⟩
 ·exact .inl h1
 ·exact .inr ⟨b,cap,sp,rfl,h2,h3,h4,(hs b (by simp)).trans h5,h6⟩
mutual
theorem VR.mv {w w':World} {A A':Nat→Prop} {κ κ':List Value} (m:Mv w A κ w' A' κ'):∀ (a:AV) (v:Value) (fp:List Nat),(∀ b,b∈fp→w'.heap[b]?=w.heap[b]?)→VR w A κ a v fp→VR w' A' κ' a v fp
 | .any,_,_,_,h=>by unfold VR at *; exact h
 | .lit _,_,_,_,h=>by unfold VR at *; exact h
 | .sl full rows,v,fp,hs,h=>by
  unfold VR at *
  obtain ⟨hf,a,c,h1,h2,h3,h4,h5⟩:=h
  refine ⟨hf,a,c,h1,h2,h3,h4,?_⟩
  rcases h5 with h5 | ⟨b,o,sz,vr,ha,hA,hb,hr,hl,hc⟩
  ·exact .inl h5
  ·exact .inr ⟨b,o,sz,vr,ha,fun x=>by rcases m.av b x with y | y; exact hA y; omega,Nat.lt_of_lt_of_le hb m.size,VRr.mv m.nil rows vr [] (fun b hb=>by simp at hb) hr,hl,hc.agree (m.same b hA hb)⟩
 | .osl t sz rows,v,fp,hs,h=>by
  unfold VR at *
  obtain ⟨g,vr,fp',ho,hr,rfl⟩:=h
  exact ⟨g,vr,fp',zNh ho (fun b hb=>hs b (List.mem_append_left _ hb)),VRr.mv m.nil rows vr fp' (fun b hb=>hs b (List.mem_append_right _ hb)) hr,rfl⟩
 | .hd k,v,fp,hs,h=>by
  unfold VR at *
  exact ⟨m.kk k v h.1,h.2⟩
 | .ptr k off,v,fp,hs,h=>by
  unfold VR at *
  obtain ⟨h1,u,b,h2,h3⟩:=h
  exact ⟨h1,u,b,m.kk k u h2,h3⟩
 | .rp row off,v,fp,hs,h=>by
  unfold VR at *
  obtain ⟨h1,b,o,vs,h2,hA,hb,h3,h4⟩:=h
  exact ⟨h1,b,o,vs,h2,fun x=>by rcases m.av b x with y | y; exact hA y; omega,Nat.lt_of_lt_of_le hb m.size,VRs.mv m.nil row vs [] (fun b hb=>by simp at hb) h3,h4.agree (m.same b hA hb)⟩
 | .agg cs,v,fp,hs,h=>by
  unfold VR at *
  obtain ⟨vs,h1,h2⟩:=h
  exact ⟨vs,h1,VRs.mv m cs vs fp hs h2⟩
 | .tup cs,v,fp,hs,h=>by
  unfold VR at *
  obtain ⟨vs,h1,h2⟩:=h
  exact ⟨vs,h1,VRt.mv m cs vs fp hs h2⟩
 | .clo f cs,v,fp,hs,h=>by
  unfold VR at *
  obtain ⟨vs,h1,h2⟩:=h
  exact ⟨vs,h1,VRt.mv m cs vs fp hs h2⟩
 | .omap es,v,fp,hs,h=>by
  unfold VR at *
  obtain ⟨r,h1,rfl⟩:=h
  exact ⟨r,h1.same (hs r (by simp)),rfl⟩
theorem VRs.mv {w w':World} {A A':Nat→Prop} {κ κ':List Value} (m:Mv w A κ w' A' κ'):∀ (a:List AV) (v:List Value) (fp:List Nat),(∀ b,b∈fp→w'.heap[b]?=w.heap[b]?)→VRs w A κ a v fp→VRs w' A' κ' a v fp
 | [],_,_,_,h=>by unfold VRs at *; exact h
 | a::la,v,fp,hs,h=>by
  unfold VRs at *
  obtain ⟨u,vs',f1,f2,h1,rfl,h3,h4,h5⟩:=h
  exact ⟨u,vs',f1,f2,h1,rfl,h3,VR.mv m a u f1 (fun b hb=>hs b (List.mem_append_left _ hb)) h4,VRs.mv m la vs' f2 (fun b hb=>hs b (List.mem_append_right _ hb)) h5⟩
theorem VRt.mv {w w':World} {A A':Nat→Prop} {κ κ':List Value} (m:Mv w A κ w' A' κ'):∀ (a:List AV) (v:List Value) (fp:List Nat),(∀ b,b∈fp→w'.heap[b]?=w.heap[b]?)→VRt w A κ a v fp→VRt w' A' κ' a v fp
 | [],_,_,_,h=>by unfold VRt at *; exact h
 | a::la,v,fp,hs,h=>by
  unfold VRt at *
  obtain ⟨u,vs',f1,f2,h1,rfl,h4,h5⟩:=h
  exact ⟨u,vs',f1,f2,h1,rfl,VR.mv m a u f1 (fun b hb=>hs b (List.mem_append_left _ hb)) h4,VRt.mv m la vs' f2 (fun b hb=>hs b (List.mem_append_right _ hb)) h5⟩
theorem VRr.mv {w w':World} {A A':Nat→Prop} {κ κ':List Value} (m:Mv w A κ w' A' κ'):∀ (a:List (List AV)) (v:List (List Value)) (fp:List Nat),(∀ b,b∈fp→w'.heap[b]?=w.heap[b]?)→VRr w A κ a v fp→VRr w' A' κ' a v fp
 | [],_,_,_,h=>by unfold VRr at *; exact h
 | a::la,v,fp,hs,h=>by
  unfold VRr at *
  obtain ⟨u,vs',f1,f2,h1,rfl,h4,h5⟩:=h
  exact ⟨u,vs',f1,f2,h1,rfl,VRs.mv m a u f1 (fun b hb=>hs b (List.mem_append_left _ hb)) h4,VRr.mv m la vs' f2 (fun b hb=>hs b (List.mem_append_right _ hb)) h5⟩
end
mutual
theorem VR.lt {w:World} {A:Nat→Prop} {κ:List Value}:∀ (a:AV) (v:Value) (fp:List Nat),VR w A κ a v fp → ∀ b,b∈fp→b<w.heap.size
 | .any,_,_,h=>by unfold VR at h; subst h; simp
 | .lit _,_,_,h=>by unfold VR at h; rw [h.2]; simp
 | .sl _ _,v,fp,h=>by unfold VR at h; rw [h.1]; simp
 | .osl t sz rows,v,fp,h=>by
  unfold VR at h
  obtain ⟨g,vr,fp',ho,hr,rfl⟩:=h
  intro b hb
  rcases List.mem_append.1 hb with hb | hb
  ·exact zTh ho (by simpa using hb)
  ·exact VRr.lt rows vr fp' hr b hb
 | .hd k,v,fp,h=>by unfold VR at h; rw [h.2]; simp
 | .ptr k off,v,fp,h=>by unfold VR at h; rw [h.1]; simp
 | .rp row off,v,fp,h=>by unfold VR at h; rw [h.1]; simp
 | .agg cs,v,fp,h=>by unfold VR at h; obtain ⟨vs,_,h⟩:=h; exact VRs.lt cs vs fp h
 | .tup cs,v,fp,h=>by unfold VR at h; obtain ⟨vs,_,h⟩:=h; exact VRt.lt cs vs fp h
 | .clo f cs,v,fp,h=>by unfold VR at h; obtain ⟨vs,_,h⟩:=h; exact VRt.lt cs vs fp h
 | .omap es,v,fp,h=>by
  unfold VR at h
  obtain ⟨r,h1,rfl⟩:=h
  intro b hb
  simp at hb
  subst hb
  exact h1.lt
theorem VRs.lt {w:World} {A:Nat→Prop} {κ:List Value}:∀ (a:List AV) (v:List Value) (fp:List Nat),VRs w A κ a v fp → ∀ b,b∈fp→b<w.heap.size
 | [],_,_,h=>by unfold VRs at h; rw [h.2]; simp
 | a::la,v,fp,h=>by
  unfold VRs at h
  obtain ⟨u,vs',f1,f2,h1,rfl,h3,h4,h5⟩:=h
  intro b hb
  rcases List.mem_append.1 hb with hb | hb
  ·exact VR.lt a u f1 h4 b hb
  ·exact VRs.lt la vs' f2 h5 b hb
theorem VRt.lt {w:World} {A:Nat→Prop} {κ:List Value}:∀ (a:List AV) (v:List Value) (fp:List Nat),VRt w A κ a v fp → ∀ b,b∈fp→b<w.heap.size
 | [],_,_,h=>by unfold VRt at h; rw [h.2]; simp
 | a::la,v,fp,h=>by
  unfold VRt at h
  obtain ⟨u,vs',f1,f2,h1,rfl,h4,h5⟩:=h
  intro b hb
  rcases List.mem_append.1 hb with hb | hb
  ·exact VR.lt a u f1 h4 b hb
  ·exact VRt.lt la vs' f2 h5 b hb
theorem VRr.lt {w:World} {A:Nat→Prop} {κ:List Value}:∀ (a:List (List AV)) (v:List (List Value)) (fp:List Nat),VRr w A κ a v fp → ∀ b,b∈fp→b<w.heap.size
 | [],_,_,h=>by unfold VRr at h; rw [h.2]; simp
 | a::la,v,fp,h=>by
  unfold VRr at h
  obtain ⟨u,vs',f1,f2,h1,rfl,h4,h5⟩:=h
  intro b hb
  rcases List.mem_append.1 hb with hb | hb
  ·exact VRs.lt a u f1 h4 b hb
  ·exact VRr.lt la vs' f2 h5 b hb
end
mutual
def frz:AV→AV
 | .any => .any
 | .lit u => .lit u
 | .sl f rows => .sl f rows
 | .osl _ _ rows => .sl false (zPL rows)
 | .hd k => .hd k
 | .ptr k o => .ptr k o
 | .rp r o => .rp r o
 | .agg cs => .agg (zNV cs)
 | .tup cs => .tup (zNV cs)
 | .clo f cs => .clo f (zNV cs)
 | .omap _ => .any
def zNV:List AV→List AV
 | []=>[]
 | a::la=>frz a::zNV la
def zPL:List (List AV)→List (List AV)
 | []=>[]
 | r::rs=>zNV r::zPL rs
end
theorem zSZ:∀ (rows:List (List AV)),(zPL rows).length=rows.length
 | []=>rfl
 | r::rs=>by simp [zPL,zSZ rs]
theorem zFo {w:World} {A:Nat→Prop} {κ:List Value}:∀ {rows:List (List AV)} {vr:List (List Value)} {fp:List Nat},VRr w A κ rows vr fp→vr.length=rows.length
 | [],_,_,h=>by unfold VRr at h; rw [h.1]; rfl
 | r::rs,_,_,h=>by
  unfold VRr at h
  obtain ⟨u,vs',f1,f2,rfl,rfl,h4,h5⟩:=h
  simp [zFo h5]
theorem zFH {w:World} {A:Nat→Prop} {κ:List Value}:∀ {rows:List AV} {vr:List Value} {fp:List Nat},VRs w A κ rows vr fp→vr.length=rows.length
 | [],_,_,h=>by unfold VRs at h; rw [h.1]; rfl
 | r::rs,_,_,h=>by
  unfold VRs at h
  obtain ⟨u,vs',f1,f2,rfl,rfl,_,h4,h5⟩:=h
  simp [zFH h5]
theorem zOO {w:World} {A:Nat→Prop} {κ:List Value}:∀ {rows:List AV} {vr:List Value} {fp:List Nat},VRs w A κ rows vr fp → ∀ u,u∈vr→u.oneCell'=true
 | [],_,_,h=>by unfold VRs at h; rw [h.1]; simp
 | r::rs,_,_,h=>by
  unfold VRs at h
  obtain ⟨u,vs',f1,f2,rfl,rfl,h3,h4,h5⟩:=h
  intro x hx
  rcases List.mem_cons.1 hx with rfl | hx
  ·exact h3
  ·exact zOO h5 x hx
mutual
theorem VR.frz {w:World} {A A':Nat→Prop} {κ:List Value} (hA:∀ b,A' b→A b):∀ (a:AV) (v:Value) (fp:List Nat),(∀ b,b∈fp → ¬ A' b)→VR w A κ a v fp→VR w A' κ (frz a) v []
 | .any,_,_,_,h=>by unfold Go.Am.frz; unfold VR at *; rfl
 | .lit _,_,_,_,h=>by unfold Go.Am.frz; unfold VR at *; exact ⟨h.1,rfl⟩
 | .sl full rows,v,fp,hn,h=>by
  unfold Go.Am.frz
  have h0:fp=[]:=by unfold VR at h; exact h.1
  subst h0
  exact VR.mv ⟨Nat.le_refl _,fun _ _ _=>rfl,fun b hb => .inl (hA b hb),fun _ _ h=>h⟩ _ _ _ (fun _ _=>rfl) h
 | .osl t sz rows,v,fp,hn,h=>by
  unfold Go.Am.frz
  unfold VR at *
  obtain ⟨g,vr,fp',ho,hr,rfl⟩:=h
  obtain ⟨a,c,h1,h2,h3⟩:=zI2 ho
  have hl:=zFo hr
  have hfl:=zSZ rows
  refine ⟨rfl,a,c,by rw [h1,hfl,hl],by omega,by omega,by simp,?_⟩
  rcases ho.2 with ⟨_,h5,h6⟩ | ⟨b,cap,sp,rfl,h2',h3',h4,h5,h6⟩
  ·left
   rw [h6] at hl
   exact List.length_eq_zero_iff.1 (by rw [hfl]; simpa using hl.symm)
  ·right
   rw [h2'] at h1
   injection h1 with h1 _ _
   refine ⟨b,0,sz,vr,h1.symm,hn b (by simp),h5.lt,VRr.frz hA rows vr fp' (fun b hb=>hn b (List.mem_append_right _ hb)) hr,ho.1,?_⟩
   intro j u hu
   exact h5.cells j u (by rw [List.getElem?_append_left (zAO hu)]; exact hu)
 | .hd k,v,fp,hn,h=>by unfold Go.Am.frz; unfold VR at *; exact ⟨h.1,rfl⟩
 | .ptr k off,v,fp,hn,h=>by unfold Go.Am.frz; unfold VR at *; exact ⟨rfl,h.2⟩
 | .rp row off,v,fp,hn,h=>by
  unfold Go.Am.frz
  have h0:fp=[]:=by unfold VR at h; exact h.1
  subst h0
  exact VR.mv ⟨Nat.le_refl _,fun _ _ _=>rfl,fun b hb => .inl (hA b hb),fun _ _ h=>h⟩ _ _ _ (fun _ _=>rfl) h
 | .agg cs,v,fp,hn,h=>by
  unfold Go.Am.frz
  unfold VR at *
  obtain ⟨vs,h1,h2⟩:=h
  exact ⟨vs,h1,VRs.frz hA cs vs fp hn h2⟩
 | .tup cs,v,fp,hn,h=>by
  unfold Go.Am.frz
  unfold VR at *
  obtain ⟨vs,h1,h2⟩:=h
  exact ⟨vs,h1,VRt.frz hA cs vs fp hn h2⟩
 | .clo f cs,v,fp,hn,h=>by
  unfold Go.Am.frz
  unfold VR at *
  obtain ⟨vs,h1,h2⟩:=h
  exact ⟨vs,h1,VRt.frz hA cs vs fp hn h2⟩
 | .omap es,v,fp,hn,h=>by unfold Go.Am.frz; unfold VR; rfl
theorem VRs.frz {w:World} {A A':Nat→Prop} {κ:List Value} (hA:∀ b,A' b→A b):∀ (a:List AV) (v:List Value) (fp:List Nat),(∀ b,b∈fp → ¬ A' b)→VRs w A κ a v fp→VRs w A' κ (zNV a) v []
 | [],_,_,_,h=>by unfold Go.Am.zNV; unfold VRs at *; exact ⟨h.1,rfl⟩
 | a::la,v,fp,hn,h=>by
  unfold Go.Am.zNV
  unfold VRs at *
  obtain ⟨u,vs',f1,f2,h1,rfl,h3,h4,h5⟩:=h
  exact ⟨u,vs',[],[],h1,rfl,h3,VR.frz hA a u f1 (fun b hb=>hn b (List.mem_append_left _ hb)) h4,VRs.frz hA la vs' f2 (fun b hb=>hn b (List.mem_append_right _ hb)) h5⟩
theorem VRt.frz {w:World} {A A':Nat→Prop} {κ:List Value} (hA:∀ b,A' b→A b):∀ (a:List AV) (v:List Value) (fp:List Nat),(∀ b,b∈fp → ¬ A' b)→VRt w A κ a v fp→VRt w A' κ (zNV a) v []
 | [],_,_,_,h=>by unfold Go.Am.zNV; unfold VRt at *; exact ⟨h.1,rfl⟩
 | a::la,v,fp,hn,h=>by
  unfold Go.Am.zNV
  unfold VRt at *
  obtain ⟨u,vs',f1,f2,h1,rfl,h4,h5⟩:=h
  exact ⟨u,vs',[],[],h1,rfl,VR.frz hA a u f1 (fun b hb=>hn b (List.mem_append_left _ hb)) h4,VRt.frz hA la vs' f2 (fun b hb=>hn b (List.mem_append_right _ hb)) h5⟩
theorem VRr.frz {w:World} {A A':Nat→Prop} {κ:List Value} (hA:∀ b,A' b→A b):∀ (a:List (List AV)) (v:List (List Value)) (fp:List Nat),(∀ b,b∈fp → ¬ A' b)→VRr w A κ a v fp→VRr w A' κ (zPL a) v []
 | [],_,_,_,h=>by unfold Go.Am.zPL; unfold VRr at *; exact ⟨h.1,rfl⟩
 | a::la,v,fp,hn,h=>by
  unfold Go.Am.zPL
  unfold VRr at *
  obtain ⟨u,vs',f1,f2,h1,rfl,h4,h5⟩:=h
  exact ⟨u,vs',[],[],h1,rfl,VRs.frz hA a u f1 (fun b hb=>hn b (List.mem_append_left _ hb)) h4,VRr.frz hA la vs' f2 (fun b hb=>hn b (List.mem_append_right _ hb)) h5⟩
end
section
variable {w:World} {A:Nat→Prop} {κ:List Value}
theorem zFY:∀ {xs ys:List AV} {vs:List Value} {fp:List Nat},VRs w A κ (xs++ys) vs fp ↔ ∃ v1 v2 f1 f2,vs=v1++v2∧fp=f1++f2∧VRs w A κ xs v1 f1∧VRs w A κ ys v2 f2
 | [],ys,vs,fp=>by
  constructor
  ·intro h
   exact ⟨[],vs,[],fp,rfl,rfl,by unfold VRs; exact ⟨rfl,rfl⟩,h⟩
  ·rintro ⟨v1,v2,f1,f2,rfl,rfl,h1,h2⟩
   unfold VRs at h1
   rw [h1.1,h1.2]
   exact h2
 | x::xs,ys,vs,fp=>by
  constructor
  ·intro h
   rw [List.cons_append] at h
   unfold VRs at h
   obtain ⟨u,vs',f1,f2,rfl,rfl,h3,h4,h5⟩:=h
   obtain ⟨v1,v2,g1,g2,rfl,rfl,h6,h7⟩:=zFY.1 h5
   refine ⟨u::v1,v2,f1++g1,g2,rfl,by rw [List.append_assoc],?_,h7⟩
   unfold VRs
   exact ⟨u,v1,f1,g1,rfl,rfl,h3,h4,h6⟩
  ·rintro ⟨v1,v2,f1,f2,rfl,rfl,h1,h2⟩
   rw [List.cons_append]
   unfold VRs at h1 ⊢
   obtain ⟨u,vs',g1,g2,rfl,rfl,h3,h4,h5⟩:=h1
   exact ⟨u,vs'++v2,g1,g2++f2,rfl,by rw [List.append_assoc],h3,h4,zFY.2 ⟨vs',v2,g2,f2,rfl,rfl,h5,h2⟩⟩
theorem zIw:∀ {xs ys:List (List AV)} {vs:List (List Value)} {fp:List Nat},VRr w A κ (xs++ys) vs fp ↔ ∃ v1 v2 f1 f2,vs=v1++v2∧fp=f1++f2∧VRr w A κ xs v1 f1∧VRr w A κ ys v2 f2
 | [],ys,vs,fp=>by
  constructor
  ·intro h
   exact ⟨[],vs,[],fp,rfl,rfl,by unfold VRr; exact ⟨rfl,rfl⟩,h⟩
  ·rintro ⟨v1,v2,f1,f2,rfl,rfl,h1,h2⟩
   unfold VRr at h1
   rw [h1.1,h1.2]
   exact h2
 | x::xs,ys,vs,fp=>by
  constructor
  ·intro h
   rw [List.cons_append] at h
   unfold VRr at h
   obtain ⟨u,vs',f1,f2,rfl,rfl,h4,h5⟩:=h
   obtain ⟨v1,v2,g1,g2,rfl,rfl,h6,h7⟩:=zIw.1 h5
   refine ⟨u::v1,v2,f1++g1,g2,rfl,by rw [List.append_assoc],?_,h7⟩
   unfold VRr
   exact ⟨u,v1,f1,g1,rfl,rfl,h4,h6⟩
  ·rintro ⟨v1,v2,f1,f2,rfl,rfl,h1,h2⟩
   rw [List.cons_append]
   unfold VRr at h1 ⊢
   obtain ⟨u,vs',g1,g2,rfl,rfl,h4,h5⟩:=h1
   exact ⟨u,vs'++v2,g1,g2++f2,rfl,by rw [List.append_assoc],h4,zIw.2 ⟨vs',v2,g2,f2,rfl,rfl,h5,h2⟩⟩
theorem zO6 {β:Type} {l:List β} {i:Nat} {x:β} (h:l[i]?=some x):l=l.take i++x::l.drop (i+1):=by
 rw [← zVD h,List.take_append_drop]
theorem zHh {β:Type} {l:List β} {i:Nat} (x:β) (h:i<l.length):l.set i x=l.take i++x::l.drop (i+1):=by
 rw [List.set_eq_take_append_cons_drop,if_pos h]
end
end Go.Am
namespace Go.Am
open Go Go.RowKit Go.Wk
inductive zIz where
 | box (t:TypeId) (cs:List AV)
 | vec (t sz:Nat) (rows:List (List AV))
 | val (a:AV)
 | vopen (t sz:Nat) (rows:List (List AV)) (i:Nat) (row:List AV)
 | map (es:List (Value×Value))
 | dead
abbrev zBv:=Nat→AV
abbrev zAM:=List zIz
def zHQ (e:zBv) (d:Nat) (a:AV):zBv:=fun i=>bif Nat.beq i d then a else e i
def ER (w:World) (A:Nat→Prop) (κ:List Value):zIz→Value→List Nat→Prop
 | .box t cs,v,fp => ∃ b vs fp',v = .pointer (some ⟨b,0,none⟩)∧Blk w b t vs∧VRs w A κ cs vs fp'∧fp=b::fp'
 | .vec t sz rows,v,fp => ∃ g vr fp',zKO w t sz g v vr∧VRr w A [] rows vr fp'∧fp=g.toList++fp'
 | .val a,v,fp=>VR w A κ a v fp
 | .vopen t sz rows i row,v,fp => ∃ g v1 r v2 f1 f2 f3,zKO w t sz g v (v1++r::v2)∧v1.length=i∧i<rows.length∧VRr w A [] (rows.take i) v1 f1∧VRs w A κ row r f2∧VRr w A [] (rows.drop (i+1)) v2 f3∧fp=g.toList++(f1++(f2++f3))
 | .map es,v,fp => ∃ r,zVz w es v r∧fp=[r]
 | .dead,_,fp=>fp=[]
structure KpS (S:Nat→Prop) (w w':World):Prop where
 os:w'.os=w.os
 tape:w'.tape=w.tape
 output:w'.output=w.output
 size:w.heap.size≤w'.heap.size
 block:∀ b,b<w.heap.size → ¬ S b→w'.heap[b]?=w.heap[b]?
theorem KpS.refl (S:Nat→Prop) (w:World):KpS S w w:=⟨rfl,rfl,rfl,Nat.le_refl _,fun _ _ _=>rfl⟩
theorem KpS.of {D:List Nat} {S:Nat→Prop} {w w':World} (h:Kp D w w') (hs:∀ b,b∈D→S b):KpS S w w' :=
 ⟨h.os,h.tape,h.output,h.size,fun b hb hn=>h.block b hb (fun hm=>hn (hs b hm))⟩
def avd (A0:Nat→Prop) (fp:Nat→List Nat) (b:Nat):Prop:=A0 b ∨ ∃ i,b∈fp i
structure SH (w:World) (A0:Nat→Prop) (H:zAM) (κ:List Value) (fp:Nat→List Nat):Prop where
 len:κ.length=H.length
 ent:∀ (i:Nat) (e:zIz) (v:Value),H[i]?=some e→κ[i]?=some v→ER w (avd A0 fp) κ e v (fp i)
 out:∀ i,H.length≤i→fp i=[]
 nd:∀ i,(fp i).Nodup
 dj:∀ i j x,x∈fp i→x∈fp j→i=j
 na:∀ i x,x∈fp i → ¬ A0 x
 old:∀ x,A0 x→x<w.heap.size
structure zLe (w:World) (fp:Nat→List Nat) (κ:List Value) (w':World) (fp':Nat→List Nat) (κ':List Value):Prop where
 kp:KpS (fun b => ∃ i,b∈fp i) w w'
 new:∀ i x,x∈fp' i→(∃ j,x∈fp j)∨w.heap.size≤x
 kk:∀ (k:Nat) (v:Value),κ[k]?=some v→κ'[k]?=some v
theorem zLe.refl (w:World) (fp:Nat→List Nat) (κ:List Value):zLe w fp κ w fp κ:=⟨KpS.refl _ _,fun i x h => .inl ⟨i,h⟩,fun _ _ h=>h⟩
theorem zLe.trans {w w' w'':World} {fp fp' fp'':Nat→List Nat} {κ κ' κ'':List Value} (h:zLe w fp κ w' fp' κ') (k:zLe w' fp' κ' w'' fp'' κ''):zLe w fp κ w'' fp'' κ'':=by
 refine ⟨⟨k.kp.os.trans h.kp.os,k.kp.tape.trans h.kp.tape,k.kp.output.trans h.kp.output,Nat.le_trans h.kp.size k.kp.size,?_⟩,?_,fun i v x=>k.kk i v (h.kk i v x)⟩
 ·intro b hb hn
  have h1:=h.kp.block b hb hn
  have h2:=k.kp.block b (Nat.lt_of_lt_of_le hb h.kp.size) (fun ⟨i,hi⟩=>by
   rcases h.new i b hi with x | x
   ·exact hn x
   ·omega)
  exact h2.trans h1
 ·intro i x hx
  rcases k.new i x hx with ⟨j,hj⟩ | h2
  ·exact h.new j x hj
  ·exact .inr (Nat.le_trans h.kp.size h2)
theorem zLe.mv {w w':World} {fp fp':Nat→List Nat} {κ κ':List Value} (h:zLe w fp κ w' fp' κ') (A0:Nat→Prop):Mv w (avd A0 fp) κ w' (avd A0 fp') κ' :=
 ⟨h.kp.size,fun b hb hl=>h.kp.block b hl (fun x=>hb (.inr x)),fun b hb=>by
  rcases hb with hb | ⟨i,hb⟩
  ·exact .inl (.inl hb)
  ·rcases h.new i b hb with x | x
   ·exact .inl (.inr x)
   ·exact .inr x,h.kk⟩
structure zHp (m:Nat) (w:World) (fp:Nat→List Nat) (κ:List Value) (w':World) (fp':Nat→List Nat) (κ':List Value):Prop where
 kp:KpS (fun b => ∃ i,b∈fp i) w w'
 new:∀ i x,x∈fp' i→(∃ j,x∈fp j)∨w.heap.size≤x
 kk:∀ (k:Nat) (v:Value),k<m→κ[k]?=some v→κ'[k]?=some v
theorem zLe.m {w w':World} {fp fp':Nat→List Nat} {κ κ':List Value} (h:zLe w fp κ w' fp' κ') (m:Nat):zHp m w fp κ w' fp' κ':=⟨h.kp,h.new,fun k v _=>h.kk k v⟩
theorem zHp.refl (m:Nat) (w:World) (fp:Nat→List Nat) (κ:List Value):zHp m w fp κ w fp κ:=(zLe.refl w fp κ).m m
theorem zHp.trans {m:Nat} {w w' w'':World} {fp fp' fp'':Nat→List Nat} {κ κ' κ'':List Value} (h:zHp m w fp κ w' fp' κ') (k:zHp m w' fp' κ' w'' fp'' κ''):zHp m w fp κ w'' fp'' κ'':=by
 refine ⟨⟨k.kp.os.trans h.kp.os,k.kp.tape.trans h.kp.tape,k.kp.output.trans h.kp.output,Nat.le_trans h.kp.size k.kp.size,?_⟩,?_,fun i v l x=>k.kk i v l (h.kk i v l x)⟩
 ·intro b hb hn
  have h1:=h.kp.block b hb hn
  have h2:=k.kp.block b (Nat.lt_of_lt_of_le hb h.kp.size) (fun ⟨i,hi⟩=>by
   rcases h.new i b hi with x | x
   ·exact hn x
   ·omega)
  exact h2.trans h1
 ·intro i x hx
  rcases k.new i x hx with ⟨j,hj⟩ | h2
  ·exact h.new j x hj
  ·exact .inr (Nat.le_trans h.kp.size h2)
theorem ER.mv {w w':World} {A A':Nat→Prop} {κ κ':List Value} (m:Mv w A κ w' A' κ') {e:zIz} {v:Value} {fp:List Nat} (hs:∀ b,b∈fp→w'.heap[b]?=w.heap[b]?) (h:ER w A κ e v fp):ER w' A' κ' e v fp:=by
 cases e with
 | box t cs =>
  obtain ⟨b,vs,fp',h1,h2,h3,rfl⟩:=h
  exact ⟨b,vs,fp',h1,(hs b (List.mem_cons_self ..)).trans h2,VRs.mv m cs vs fp' (fun x hx=>hs x (List.mem_cons_of_mem _ hx)) h3,rfl⟩
 | vec t sz rows =>
  obtain ⟨g,vr,fp',h1,h2,rfl⟩:=h
  exact ⟨g,vr,fp',zNh h1 (fun b hb=>hs b (List.mem_append_left _ hb)),VRr.mv m.nil rows vr fp' (fun b hb=>hs b (List.mem_append_right _ hb)) h2,rfl⟩
 | val a=>exact VR.mv m a v fp hs h
 | vopen t sz rows i row =>
  obtain ⟨g,v1,r,v2,f1,f2,f3,h1,h2,h3,h4,h5,h6,rfl⟩:=h
  exact ⟨g,v1,r,v2,f1,f2,f3,zNh h1 (fun b hb=>hs b (List.mem_append_left _ hb)),h2,h3,VRr.mv m.nil _ _ _ (fun b hb=>hs b (by simp [hb])) h4,VRs.mv m _ _ _ (fun b hb=>hs b (by simp [hb])) h5,VRr.mv m.nil _ _ _ (fun b hb=>hs b (by simp [hb])) h6,rfl⟩
 | map es =>
  obtain ⟨r,h1,rfl⟩:=h
  exact ⟨r,h1.same (hs r (by simp)),rfl⟩
 | dead=>exact h
theorem ER.lt {w:World} {A:Nat→Prop} {κ:List Value} {e:zIz} {v:Value} {fp:List Nat} (h:ER w A κ e v fp):∀ b,b∈fp→b<w.heap.size:=by
 cases e with
 | box t cs =>
  obtain ⟨b,vs,fp',h1,h2,h3,rfl⟩:=h
  intro x hx
  rcases List.mem_cons.1 hx with rfl | hx
  ·exact h2.lt
  ·exact VRs.lt cs vs fp' h3 x hx
 | vec t sz rows =>
  obtain ⟨g,vr,fp',h1,h2,rfl⟩:=h
  intro x hx
  rcases List.mem_append.1 hx with hx | hx
  ·exact zTh h1 (by simpa using hx)
  ·exact VRr.lt rows vr fp' h2 x hx
 | val a=>exact VR.lt a v fp h
 | vopen t sz rows i row =>
  obtain ⟨g,v1,r,v2,f1,f2,f3,h1,h2,h3,h4,h5,h6,rfl⟩:=h
  intro x hx
  simp only [List.mem_append] at hx
  rcases hx with hx | hx | hx | hx
  ·exact zTh h1 (by simpa using hx)
  ·exact VRr.lt _ _ _ h4 x hx
  ·exact VRs.lt _ _ _ h5 x hx
  ·exact VRr.lt _ _ _ h6 x hx
 | map es =>
  obtain ⟨r,h1,rfl⟩:=h
  intro b hb
  simp at hb
  subst hb
  exact h1.lt
 | dead=>have:fp=[]:=h; subst this; simp
theorem SH.lt {w:World} {A0:Nat→Prop} {H:zAM} {κ:List Value} {fp:Nat→List Nat} (h:SH w A0 H κ fp):∀ i x,x∈fp i→x<w.heap.size:=by
 intro i x hx
 rcases Nat.lt_or_ge i H.length with hi | hi
 ·exact ER.lt (h.ent i (H[i]) (κ[i]'(by rw [h.len]; exact hi)) (List.getElem?_eq_getElem hi) (List.getElem?_eq_getElem _)) x hx
 ·rw [h.out i hi] at hx; cases hx
def aev (n:Nat) (e:zBv):Operand→AV
 | .tmp t=>bif Nat.blt t n then e t else .lit undef
 | .const v => .lit v
 | .global _ => .any
 | .func f => .clo f []
def zKd (w:World) (A:Nat→Prop) (κ:List Value) (n:Nat) (e:zBv) (F:Env):Prop := ∀ t,t<n→VR w A κ (e t) (F t) []
theorem zKd.ev {w:World} {A:Nat→Prop} {κ:List Value} {n:Nat} {e:zBv} {F:Env} (h:zKd w A κ n e F) (x:Operand):VR w A κ (aev n e x) (ev n F x) []:=by
 cases x with
 | tmp t =>
  show VR w A κ (bif Nat.blt t n then e t else .lit undef) (bif Nat.blt t n then F t else undef) []
  cases hb:Nat.blt t n with
  | true=>exact h t (by simpa [Nat.blt_eq] using hb)
  | false=>show VR w A κ (.lit undef) undef []; unfold VR; exact ⟨rfl,rfl⟩
 | const v=>show VR w A κ (.lit v) v []; unfold VR; exact ⟨rfl,rfl⟩
 | global g=>show VR w A κ .any _ []; unfold VR; rfl
 | func f=>show VR w A κ (.clo f []) (.func (.func f) #[] #[]) []; unfold VR; exact ⟨[],rfl,by unfold VRt; exact ⟨rfl,rfl⟩⟩
theorem zKd.mv {w w':World} {A A':Nat→Prop} {κ κ':List Value} {n:Nat} {e:zBv} {F:Env} (m:Mv w A κ w' A' κ') (h:zKd w A κ n e F):zKd w' A' κ' n e F :=
 fun t ht=>VR.mv m _ _ [] (fun b hb=>by cases hb) (h t ht)
theorem zKd.upd {w:World} {A:Nat→Prop} {κ:List Value} {n:Nat} {e:zBv} {F:Env} (h:zKd w A κ n e F) {d:Nat} {a:AV} {v:Value} (ha:VR w A κ a v []):zKd w A κ n (zHQ e d a) (upd F d v):=by
 intro t ht
 unfold zHQ Go.Wk.upd
 cases Nat.beq t d with
 | true=>exact ha
 | false=>exact h t ht
structure zMr where
 norm:zBv→zAM→Prop
 ret:zBv→zAM→Prop
 exits:List (Nat×(zBv→zAM→Prop))
def zVH (id:Nat):List (Nat×(zBv→zAM→Prop))→zBv→zAM→Prop
 | [],_,_=>False
 | (j,k)::rest,e,H=>bif Nat.beq id j then k e H else zVH id rest e H
def conc (n m:Nat) (w:World) (A0:Nat→Prop) (κ:List Value) (fp:Nat→List Nat) (Φ:zBv→zAM→Prop):Env→World→Prop:=fun F' w' =>
 ∃ e' H' κ' fp',SH w' A0 H' κ' fp'∧zKd w' (avd A0 fp') κ' n e' F'∧zHp m w fp κ w' fp' κ'∧Φ e' H'
def zMr.conc (K:zMr) (n m:Nat) (w:World) (A0:Nat→Prop) (κ:List Value) (fp:Nat→List Nat):zXw :=
 ⟨Am.conc n m w A0 κ fp K.norm,Am.conc n m w A0 κ fp K.ret,K.exits.map fun p=>(p.1,Am.conc n m w A0 κ fp p.2)⟩
def AW (P:Program) (n m:Nat) (c:Code) (K:zMr) (e:zBv) (H:zAM):Prop :=
 ∀ w A0 κ fp F,SH w A0 H κ fp→zKd w (avd A0 fp) κ n e F→W P n c (K.conc n m w A0 κ fp) F w
section
variable {P:Program} {n m:Nat}
theorem zAy {w w':World} {A0:Nat→Prop} {κ κ':List Value} {fp fp':Nat→List Nat} {Φ:zBv→zAM→Prop} (s:zHp m w fp κ w' fp' κ') {F:Env} {u:World} (h:conc n m w' A0 κ' fp' Φ F u):conc n m w A0 κ fp Φ F u:=by
 obtain ⟨e',H',κ2,fp2,h1,h2,h3,h4⟩:=h
 exact ⟨e',H',κ2,fp2,h1,h2,s.trans h3,h4⟩
theorem zMs {c:Code} {K K':zXw} {F:Env} {w:World} (h:W P n c K F w) (hn:∀ F w,K.norm F w→K'.norm F w) (hr:∀ F w,K.ret F w→K'.ret F w) (he:∀ id F w,Wk.look id K.exits F w→Wk.look id K'.exits F w):W P n c K' F w:=by
 unfold W at *
 refine Code.wp_mono ?_ h
 intro e a w h
 cases e with
 | normal=>obtain ⟨F,rfl,hk⟩:=h; exact ⟨F,rfl,hn _ _ hk⟩
 | ret=>obtain ⟨F,rfl,hk⟩:=h; exact ⟨F,rfl,hr _ _ hk⟩
 | exit id=>obtain ⟨F,rfl,hk⟩:=h; exact ⟨F,rfl,he _ _ _ hk⟩
 | goto l=>exact h
 | panic c=>exact h
 | outgrown=>exact h
theorem zP6 {w w':World} {A0:Nat→Prop} {κ κ':List Value} {fp fp':Nat→List Nat} (s:zHp m w fp κ w' fp' κ'):∀ (ex:List (Nat×(zBv→zAM→Prop))) (id:Nat) (F:Env) (u:World),
  Wk.look id (ex.map fun p=>(p.1,conc n m w' A0 κ' fp' p.2)) F u→Wk.look id (ex.map fun p=>(p.1,conc n m w A0 κ fp p.2)) F u
 | [],_,_,_,h=>h
 | (j,k)::rest,id,F,u,h=>by
  simp only [List.map_cons,Wk.look] at h ⊢
  cases hb:Nat.beq id j with
  | true=>rw [hb] at h; exact zAy s h
  | false=>rw [hb] at h; exact zP6 s rest id F u h
theorem zPK {w w':World} {A0:Nat→Prop} {κ κ':List Value} {fp fp':Nat→List Nat} {F:Env} {e:zBv} {H:zAM} (h1:SH w' A0 H κ' fp') (h2:zKd w' (avd A0 fp') κ' n e F) (s:zHp m w fp κ w' fp' κ'):∀ (ex:List (Nat×(zBv→zAM→Prop))) (id:Nat),zVH id ex e H →
  Wk.look id (ex.map fun p=>(p.1,conc n m w A0 κ fp p.2)) F w'
 | [],_,h=>h
 | (j,k)::rest,id,h=>by
  simp only [List.map_cons,Wk.look,zVH] at h ⊢
  cases hb:Nat.beq id j with
  | true=>rw [hb] at h; exact ⟨e,H,κ',fp',h1,h2,s,h⟩
  | false=>rw [hb] at h; exact zPK h1 h2 s rest id h
theorem zTj {c:Code} {K:zMr} {w w':World} {A0:Nat→Prop} {κ κ':List Value} {fp fp':Nat→List Nat} {F:Env} (s:zHp m w fp κ w' fp' κ') (h:W P n c (K.conc n m w' A0 κ' fp') F w'):W P n c (K.conc n m w A0 κ fp) F w' :=
 zMs h (fun _ _=>zAy s) (fun _ _=>zAy s) (fun _ _ _=>zP6 s K.exits _ _ _)
variable {K:zMr} {e:zBv} {H:zAM}
theorem zS (h:K.norm e H):AW P n m .skip K e H:=fun w A0 κ fp F h1 h2=>zYI ⟨e,H,κ,fp,h1,h2,zHp.refl _ _ _ _,h⟩
theorem zd (h:K.ret e H):AW P n m .ret K e H:=fun w A0 κ fp F h1 h2=>zZm ⟨e,H,κ,fp,h1,h2,zHp.refl _ _ _ _,h⟩
theorem zAC {id:Nat} (h:zVH id K.exits e H):AW P n m (.exit id) K e H:=fun w A0 κ fp F h1 h2=>zY4 (zPK h1 h2 (zHp.refl _ _ _ _) K.exits id h)
theorem zI {x y:Code} (h:AW P n m x ⟨fun e H=>AW P n m y K e H,K.ret,K.exits⟩ e H):AW P n m (.seq x y) K e H:=by
 intro w A0 κ fp F h1 h2
 refine zZn (zMs (h w A0 κ fp F h1 h2) ?_ (fun _ _ h=>h) (fun _ _ _ h=>h))
 rintro F1 w1 ⟨e1,H1,κ1,fp1,g1,g2,g3,g4⟩
 exact zTj g3 (g4 w1 A0 κ1 fp1 F1 g1 g2)
theorem zV {id:Nat} {c:Code} (h:AW P n m c ⟨K.norm,K.ret,(id,K.norm)::K.exits⟩ e H):AW P n m (.block id c) K e H :=
 fun w A0 κ fp F h1 h2=>zXE (h w A0 κ fp F h1 h2)
theorem zNy {c:Operand} {x y:Code} (b:Bool) (hc:aev n e c = .lit (.bool b)) (ht:b=true→AW P n m x K e H) (hf:b=false→AW P n m y K e H):AW P n m (.cond c x y) K e H:=by
 intro w A0 κ fp F h1 h2
 have hv:=h2.ev c
 rw [hc] at hv
 unfold VR at hv
 exact zYP hv.1 (fun hb=>ht hb w A0 κ fp F h1 h2) (fun hb=>hf hb w A0 κ fp F h1 h2)
theorem zOU {c:Code} {σ:Sort _} (ms:σ→Nat) (Inv:σ→zBv→zAM→Prop) (s0:σ) (h0:Inv s0 e H)
  (round:∀ s e H,Inv s e H→AW P n m c ⟨fun e' H' => ∃ s',ms s'<ms s∧Inv s' e' H',K.ret,K.exits⟩ e H):AW P n m (.loop c) K e H:=by
 intro w A0 κ fp F h1 h2
 refine zY3 ms (fun s=>conc n m w A0 κ fp (Inv s)) s0 ⟨e,H,κ,fp,h1,h2,zHp.refl _ _ _ _,h0⟩ ?_
 rintro s F1 w1 ⟨e1,H1,κ1,fp1,g1,g2,g3,g4⟩
 refine zMs (zTj g3 (round s e1 H1 g4 w1 A0 κ1 fp1 F1 g1 g2)) ?_ (fun _ _ h=>h) (fun _ _ _ h=>h)
 rintro F2 w2 ⟨e2,H2,κ2,fp2,f1,f2,f3,s',hlt,f4⟩
 exact ⟨s',hlt,e2,H2,κ2,fp2,f1,f2,f3,f4⟩
theorem zUD {c:Code} {K':zMr} (h:AW P n m c K e H) (hn:∀ e H,K.norm e H→K'.norm e H) (hr:∀ e H,K.ret e H→K'.ret e H) (he:K.exits=K'.exits):AW P n m c K' e H:=by
 intro w A0 κ fp F h1 h2
 refine zMs (h w A0 κ fp F h1 h2) ?_ ?_ ?_
 ·rintro F1 w1 ⟨e1,H1,κ1,fp1,g1,g2,g3,g4⟩
  exact ⟨e1,H1,κ1,fp1,g1,g2,g3,hn _ _ g4⟩
 ·rintro F1 w1 ⟨e1,H1,κ1,fp1,g1,g2,g3,g4⟩
  exact ⟨e1,H1,κ1,fp1,g1,g2,g3,hr _ _ g4⟩
 ·intro id F1 w1 hl
  show Wk.look id (K'.exits.map _) F1 w1
  rw [← he]
  exact hl
def Rep (n m:Nat) (e:zBv) (H:zAM) (e':zBv) (H':zAM):Prop :=
 ∀ w A0 κ fp F,SH w A0 H κ fp→zKd w (avd A0 fp) κ n e F → ∃ κ' fp',SH w A0 H' κ' fp'∧zKd w (avd A0 fp') κ' n e' F∧zHp m w fp κ w fp' κ'
theorem zA5 {c:Code} {e':zBv} {H':zAM} (r:Rep n m e H e' H') (h:AW P n m c K e' H'):AW P n m c K e H:=by
 intro w A0 κ fp F h1 h2
 obtain ⟨κ',fp',g1,g2,g3⟩:=r w A0 κ fp F h1 h2
 exact zTj g3 (h w A0 κ' fp' F g1 g2)
theorem Rep.trans {e1 e2:zBv} {H1 H2:zAM} (r:Rep n m e H e1 H1) (s:Rep n m e1 H1 e2 H2):Rep n m e H e2 H2:=by
 intro w A0 κ fp F h1 h2
 obtain ⟨κ',fp',g1,g2,g3⟩:=r w A0 κ fp F h1 h2
 obtain ⟨κ2,fp2,f1,f2,f3⟩:=s w A0 κ' fp' F g1 g2
 exact ⟨κ2,fp2,f1,f2,g3.trans f3⟩
def Sub (a a':AV):Prop := ∀ w A κ v,VR w A κ a v []→VR w A κ a' v []
theorem Sub.refl (a:AV):Sub a a:=fun _ _ _ _ h=>h
theorem Sub.any (a:AV):Sub a .any:=fun _ _ _ _ _=>by unfold VR; rfl
theorem Rep.env {e':zBv} (h:∀ t,t<n→Sub (e t) (e' t)):Rep n m e H e' H :=
 fun w A0 κ fp F h1 h2=>⟨κ,fp,h1,fun t ht=>h t ht _ _ _ _ (h2 t ht),zHp.refl _ _ _ _⟩
def ALW (P:Program) (n m:Nat) (ops:Array Oper) (l:List Oper) (k:zBv→zAM→Prop) (e:zBv) (H:zAM):Prop :=
 ∀ w A0 κ fp F,SH w A0 H κ fp→zKd w (avd A0 fp) κ n e F→LW P n ops l (conc n m w A0 κ fp k) F w
theorem zCe {ops:Array Oper} {l:List Oper} {k k':Env→World→Prop} {F:Env} {w:World} (h:LW P n ops l k F w) (hk:∀ F w,k F w→k' F w):LW P n ops l k' F w:=by
 unfold LW at *
 exact fun Q hq=>h Q (fun F w x=>hq F w (hk F w x))
theorem zC {id:Nat} {l:List Oper} (h:ALW P n m l.toArray l K.norm e H):AW P n m (.region id l.toArray false) K e H :=
 fun w A0 κ fp F h1 h2=>zVV (h w A0 κ fp F h1 h2)
theorem zG {ops:Array Oper} {k:zBv→zAM→Prop} (h:k e H):ALW P n m ops [] k e H :=
 fun w A0 κ fp F h1 h2=>zY5 ⟨e,H,κ,fp,h1,h2,zHp.refl _ _ _ _,h⟩
theorem zAJ {ops:Array Oper} {l:List Oper} {k:zBv→zAM→Prop} {e':zBv} {H':zAM} (r:Rep n m e H e' H') (h:ALW P n m ops l k e' H'):ALW P n m ops l k e H:=by
 intro w A0 κ fp F h1 h2
 obtain ⟨κ',fp',g1,g2,g3⟩:=r w A0 κ fp F h1 h2
 exact zCe (h w A0 κ' fp' F g1 g2) (fun _ _=>zAy g3)
variable {ops:Array Oper} {rest:List Oper} {k:zBv→zAM→Prop}
def zv (P:Program) (n:Nat) (e:zBv) (H:zAM) (o:Op) (a:AV):Prop :=
 ∀ w A0 κ fp F,SH w A0 H κ fp→zKd w (avd A0 fp) κ n e F → ∃ v,Val P n F w o v w∧VR w (avd A0 fp) κ a v []
def zIs (P:Program) (n:Nat) (e:zBv) (H:zAM) (o:Op) (a:AV) (H':zAM):Prop :=
 ∀ w A0 κ fp F,SH w A0 H κ fp→zKd w (avd A0 fp) κ n e F → ∃ v w' κ' fp',Val P n F w o v w'∧SH w' A0 H' κ' fp'∧VR w' (avd A0 fp') κ' a v []∧zLe w fp κ w' fp' κ'
def zR3 (P:Program) (n:Nat) (e:zBv) (H:zAM) (o:Op) (H':zAM):Prop :=
 ∀ w A0 κ fp F,SH w A0 H κ fp→zKd w (avd A0 fp) κ n e F → ∃ w' κ' fp',zZH P n F w o w'∧SH w' A0 H' κ' fp'∧zLe w fp κ w' fp' κ'
theorem zv.step {o:Op} {a:AV} (h:zv P n e H o a):zIs P n e H o a H:=by
 intro w A0 κ fp F h1 h2
 obtain ⟨v,g1,g2⟩:=h w A0 κ fp F h1 h2
 exact ⟨v,w,κ,fp,g1,h1,g2,zLe.refl _ _ _⟩
theorem zX {d:Nat} {op:Op} {t:Nat} {p:String} {af:Array Edge} {a:AV} {H':zAM} (h:zIs P n e H op a H') (hk:ALW P n m ops rest k (zHQ e d a) H') :
  ALW P n m ops (⟨some d,op,t,p,af,none⟩::rest) k e H:=by
 intro w A0 κ fp F h1 h2
 obtain ⟨v,w',κ',fp',g1,g2,g3,g4⟩:=h w A0 κ fp F h1 h2
 exact zMZ g1 (zCe (hk w' A0 κ' fp' _ g2 ((h2.mv (g4.mv A0)).upd g3)) (fun _ _=>zAy (g4.m m)))
theorem zA {d:Nat} {op:Op} {t:Nat} {p:String} {af:Array Edge} {a:AV} (h:zv P n e H op a) (hk:ALW P n m ops rest k (zHQ e d a) H) :
  ALW P n m ops (⟨some d,op,t,p,af,none⟩::rest) k e H:=zX h.step hk
theorem za {op:Op} {t:Nat} {p:String} {af:Array Edge} {H':zAM} (h:zR3 P n e H op H') (hk:ALW P n m ops rest k e H') :
  ALW P n m ops (⟨none,op,t,p,af,none⟩::rest) k e H:=by
 intro w A0 κ fp F h1 h2
 obtain ⟨w',κ',fp',g1,g2,g4⟩:=h w A0 κ fp F h1 h2
 exact zYb g1 (zCe (hk w' A0 κ' fp' _ g2 (h2.mv (g4.mv A0))) (fun _ _=>zAy (g4.m m)))
end
end Go.Am
namespace Go.Am
open Go Go.RowKit Go.Wk
def inI (a:Int):Bool:=decide (-9223372036854775808≤a)&&decide (a≤9223372036854775807)
theorem zNF {a:Int} (h:inI a=true) : -9223372036854775808≤a∧a≤9223372036854775807:=by simpa [inI] using h
def inb (i:Int) (n:Nat):Bool:=decide (0≤i)&&decide (i<(n:Int))
theorem zBt {i:Int} {n:Nat} (h:inb i n=true):0≤i∧i.toNat<n:=by simp [inb] at h; omega
theorem zQq {i:Int} {n:Nat} (h:inb i n=true):((i.toNat:Nat):Int)=i:=Int.toNat_of_nonneg (zBt h).1
theorem zVq {β:Type} {b:Bool} (h:b=true) {x y:β}:(bif b then x else y)=x:=by rw [h]; rfl
def zMk (op:BinOp) (k:IntKind) (x y:Int):Int :=
 let a:=BitVec.ofInt k.bits x
 let b:=BitVec.ofInt k.bits y
 match op with
 | .and=>k.wrap ((a &&& b).toNat:Int)
 | .or=>k.wrap ((a ||| b).toNat:Int)
 | .xor=>k.wrap ((a ^^^ b).toNat:Int)
 | .andNot=>k.wrap ((a &&& ~~~b).toNat:Int)
 | _=>0
section
variable {P:Program} {n:Nat} {e:zBv} {H:zAM} {x y z c:Operand} {a b:Int} {k:IntKind} {ty ty2:TypeId}
theorem zTR {w:World} {A:Nat→Prop} {κ:List Value} {u v:Value} (h:VR w A κ (.lit u) v []):v=u:=by unfold VR at h; exact h.1
theorem zH2 (w:World) (A:Nat→Prop) (κ:List Value) (u:Value):VR w A κ (.lit u) u []:=by unfold VR; exact ⟨rfl,rfl⟩
theorem zAo {w:World} {A:Nat→Prop} {κ:List Value} {F:Env} {v:Value} (h:zKd w A κ n e F) (hx:aev n e x = .lit v):ev n F x=v:=by
 have:=h.ev x
 rw [hx] at this
 exact zTR this
theorem zB5 {o:Op} {v:Value} (h:∀ w A0 κ fp F,SH w A0 H κ fp→zKd w (avd A0 fp) κ n e F→Val P n F w o v w):zv P n e H o (.lit v) :=
 fun w A0 κ fp F h1 h2=>⟨v,h w A0 κ fp F h1 h2,zH2 _ _ _ _⟩
theorem zB {av:AV} (hx:aev n e x=av):zv P n e H (.move x) av:=fun w A0 κ fp F _ h2=>⟨_,zVJ rfl,hx▸h2.ev x⟩
theorem zD {av:AV} (hx:aev n e x=av):zv P n e H (.assign x) av:=fun w A0 κ fp F _ h2=>⟨_,zSp rfl,hx▸h2.ev x⟩
theorem zBf {t:Bool} (hx:aev n e x = .lit (.bool t)):zv P n e H (.unOp .not ty x) (.lit (.bool (!t))):=zB5 fun w A0 κ fp F _ h2=>zXg (zAo h2 hx)
section
variable (hx:aev n e x = .lit (.int k a)) (hy:aev n e y = .lit (.int k b))
include hx hy
theorem zi:zv P n e H (.binOp .lss ty x y ty2) (.lit (.bool (decide (a<b)))):=zB5 fun w A0 κ fp F _ h2=>zWs (zAo h2 hx) (zAo h2 hy)
theorem zIQ:zv P n e H (.binOp .leq ty x y ty2) (.lit (.bool (decide (a≤b)))):=zB5 fun w A0 κ fp F _ h2=>zWt (zAo h2 hx) (zAo h2 hy)
theorem zCf:zv P n e H (.binOp .gtr ty x y ty2) (.lit (.bool (decide (b<a)))):=zB5 fun w A0 κ fp F _ h2=>zWL (zAo h2 hx) (zAo h2 hy)
theorem zBp:zv P n e H (.binOp .geq ty x y ty2) (.lit (.bool (decide (b≤a)))):=zB5 fun w A0 κ fp F _ h2=>zWH (zAo h2 hx) (zAo h2 hy)
theorem zBe:zv P n e H (.binOp .eql ty x y ty2) (.lit (.bool (decide (a=b)))):=zB5 fun w A0 κ fp F _ h2=>zWl (zAo h2 hx) (zAo h2 hy)
theorem z7:zv P n e H (.binOp .neq ty x y ty2) (.lit (.bool (!decide (a=b)))):=zB5 fun w A0 κ fp F _ h2=>zXL (zAo h2 hx) (zAo h2 hy)
theorem zGq (h:(!decide (b=0))=true):zv P n e H (.binOp .rem ty x y ty2) (.lit (.int k (a.tmod b))):=zB5 fun w A0 κ fp F _ h2=>zXI (zAo h2 hx) (zAo h2 hy) (by simpa using h)
theorem zTf (h:(!decide (b=0))=true):zv P n e H (.binOp .quo ty x y ty2) (.lit (.int k (k.wrap (a.tdiv b)))):=zB5 fun w A0 κ fp F _ h2=>by
 refine ⟨fun d t p af g => ?_⟩
 have hb:b≠0:=by simpa using h
 simp [execOp,zAo h2 hx,zAo h2 hy,go_sem,hb]
theorem zRk:zv P n e H (.binOp .xor ty x y ty2) (.lit (.int k (zMk .xor k a b))):=zB5 fun w A0 κ fp F _ h2=>by
 refine ⟨fun d t p af g => ?_⟩
 have h4:(binOp .xor ty (.int k a) (.int k b)).run P w = .ok (.int k (zMk .xor k a b)) w:=by rw [binOp_xor]; rfl
 simp only [execOp,zAo h2 hx,zAo h2 hy,Sem.run_bind,eqGuard_xor,Sem.run_pure,Result.andThen_ok,h4]
theorem zRT:zv P n e H (.binOp .andNot ty x y ty2) (.lit (.int k (zMk .andNot k a b))):=zB5 fun w A0 κ fp F _ h2=>by
 refine ⟨fun d t p af g => ?_⟩
 have h4:(binOp .andNot ty (.int k a) (.int k b)).run P w = .ok (.int k (zMk .andNot k a b)) w:=by rw [binOp_andNot]; rfl
 simp only [execOp,zAo h2 hx,zAo h2 hy,Sem.run_bind,eqGuard_andNot,Sem.run_pure,Result.andThen_ok,h4]
end
section
variable (hx:aev n e x = .lit (.int .i64 a)) (hy:aev n e y = .lit (.int .i64 b))
include hx hy
theorem zg (h:inI (a+b)=true):zv P n e H (.binOp .add ty x y ty2) (.lit (.int .i64 (a+b))):=zB5 fun w A0 κ fp F _ h2=>zXb (zAo h2 hx) (zAo h2 hy) (zNF h).1 (zNF h).2
theorem zDv (h:inI (a - b)=true):zv P n e H (.binOp .sub ty x y ty2) (.lit (.int .i64 (a - b))):=zB5 fun w A0 κ fp F _ h2=>zWo (zAo h2 hx) (zAo h2 hy) (zNF h).1 (zNF h).2
theorem zMT (h:inI (a*b)=true):zv P n e H (.binOp .mul ty x y ty2) (.lit (.int .i64 (a*b))):=zB5 fun w A0 κ fp F _ h2=>zWk (zAo h2 hx) (zAo h2 hy) (zNF h).1 (zNF h).2
theorem zPa {tys:Array TypeId}:zv P n e H (.call { callee := .builtin .min,args := #[x,y],argTypes:=tys }) (.lit (.int .i64 (min a b))):=zB5 fun w A0 κ fp F _ h2=>zW4 (zAo h2 hx) (zAo h2 hy)
end
def zNf (b:Int):Bool:=decide (0≤b)&&decide (b≤62)
theorem zTU {b:Int} (h:zNf b=true):0≤b∧b.toNat≤62:=by simp [zNf] at h; omega
theorem zGW {ky:IntKind} (hx:aev n e x = .lit (.int .i64 a)) (hy:aev n e y = .lit (.int ky b)) (hs:zNf b=true) (h:inI (a*2 ^ b.toNat)=true):zv P n e H (.binOp .shl ty x y ty2) (.lit (.int .i64 (a*2 ^ b.toNat))):=zB5 fun w A0 κ fp F _ h2=>by
 have h3:=zAo h2 hy
 rw [← Int.toNat_of_nonneg (zTU hs).1] at h3
 exact zXd (zAo h2 hx) h3 (zTU hs).2 (zNF h).1 (zNF h).2
theorem zVb {ky:IntKind} (hx:aev n e x = .lit (.int k a)) (hy:aev n e y = .lit (.int ky b)) (hs:(decide (0≤b)&&decide (b≤(k.bits:Int)))=true):zv P n e H (.binOp .shr ty x y ty2) (.lit (.int k (a.fdiv (2 ^ b.toNat)))):=zB5 fun w A0 κ fp F _ h2=>by
 have h3:=zAo h2 hy
 simp only [Bool.and_eq_true,decide_eq_true_eq] at hs
 rw [← Int.toNat_of_nonneg hs.1] at h3
 exact zXB (zAo h2 hx) h3 (by omega)
theorem zFr {src dst:TypeId} {k':IntKind} {sd:TypeDesc} (hs:P.underlying src=some sd) (hd:P.underlying dst=some (.int k')) (hx:aev n e x = .lit (.int k a)) (h:decide (k'.wrap a=a)=true):zv P n e H (.convert src dst x) (.lit (.int k' a)) :=
 zB5 fun w A0 κ fp F _ h2=>zU5 hs hd (zAo h2 hx) (of_decide_eq_true h)
theorem zAL {s q:Bool} {j:AV} (hc:aev n e c = .lit (.bool s)) (hx:aev n e x=bif s then .lit (.bool q) else j):zv P n e H (.pick c x (.const (.bool false))) (.lit (.bool (s&&q))) :=
 zB5 fun w A0 κ fp F _ h2=>zQj (zAo h2 hc) (fun hs=>zAo h2 (hx.trans (zVq hs)))
theorem zh {s q:Bool} {j:AV} (hc:aev n e c = .lit (.bool s)) (hx:aev n e x=bif !s then .lit (.bool q) else j):zv P n e H (.pick c (.const (.bool true)) x) (.lit (.bool (s||q))) :=
 zB5 fun w A0 κ fp F _ h2=>zRM (zAo h2 hc) (fun hs=>zAo h2 (hx.trans (zVq (by rw [hs]; rfl))))
section
variable {ops:Array Oper} {rest:List Oper} {kk:zBv→zAM→Prop} {op:Op} {m d t j g:Nat} {p:String} {af:Array Edge} {av:AV} {s s':Bool}
theorem z9 (hj:(ops[j]?).bind (·.dst)=some g) (hg:aev n e (.tmp g) = .lit (.bool s)) (h:s=true→zIs P n e H op av H) (hk:ALW P n m ops rest kk (zHQ e d (bif s then av else .lit undef)) H) :
  ALW P n m ops (⟨some d,op,t,p,af,some (j,true)⟩::rest) kk e H:=by
 intro w A0 κ fp F h1 h2
 cases hs:s with
 | true =>
  rw [hs] at hk hg
  obtain ⟨v,w',κ',fp',g1,g2,g3,g4⟩:=h hs w A0 κ fp F h1 h2
  exact zRl hj (zAo h2 hg) g1 (zCe (hk w' A0 κ' fp' _ g2 ((h2.mv (g4.mv A0)).upd g3)) (fun _ _=>zAy (g4.m m)))
 | false =>
  rw [hs] at hk hg
  exact zMW hj (zAo h2 hg) (hk w A0 κ fp _ h1 (h2.upd (zH2 _ _ _ _)))
theorem zZ (hj:(ops[j]?).bind (·.dst)=some g) (hg:aev n e (.tmp g) = .lit (.bool s)) (h:(!s)=true→zIs P n e H op av H) (hk:ALW P n m ops rest kk (zHQ e d (bif !s then av else .lit undef)) H) :
  ALW P n m ops (⟨some d,op,t,p,af,some (j,false)⟩::rest) kk e H:=by
 intro w A0 κ fp F h1 h2
 cases hs:s with
 | false =>
  rw [hs] at hk hg h
  obtain ⟨v,w',κ',fp',g1,g2,g3,g4⟩:=h rfl w A0 κ fp F h1 h2
  exact zRl hj (zAo h2 hg) g1 (zCe (hk w' A0 κ' fp' _ g2 ((h2.mv (g4.mv A0)).upd g3)) (fun _ _=>zAy (g4.m m)))
 | true =>
  rw [hs] at hk hg
  exact zMW hj (zAo h2 hg) (hk w A0 κ fp _ h1 (h2.upd (zH2 _ _ _ _)))
theorem zPe (hj:(ops[j]?).bind (·.dst)=some g) (hg:aev n e (.tmp g)=bif s' then .lit (.bool s) else .lit undef) (h:(s'&&s)=true→zIs P n e H op av H) (hk:ALW P n m ops rest kk (zHQ e d (bif (s'&&s) then av else .lit undef)) H) :
  ALW P n m ops (⟨some d,op,t,p,af,some (j,true)⟩::rest) kk e H:=by
 cases hs:s' with
 | true=>rw [hs] at hg hk h; exact z9 hj hg (by simpa using h) (by simpa using hk)
 | false =>
  rw [hs] at hg hk
  intro w A0 κ fp F h1 h2
  exact zPU hj (fun ⟨b,hb⟩=>by rw [zAo h2 hg] at hb; cases hb) (hk w A0 κ fp _ h1 (h2.upd (zH2 _ _ _ _)))
theorem zKQ (hj:(ops[j]?).bind (·.dst)=some g) (hg:aev n e (.tmp g)=bif s' then .lit (.bool s) else .lit undef) (h:(s' && !s)=true→zIs P n e H op av H) (hk:ALW P n m ops rest kk (zHQ e d (bif (s' && !s) then av else .lit undef)) H) :
  ALW P n m ops (⟨some d,op,t,p,af,some (j,false)⟩::rest) kk e H:=by
 cases hs:s' with
 | true=>rw [hs] at hg hk h; exact zZ hj hg (by simpa using h) (by simpa using hk)
 | false =>
  rw [hs] at hg hk
  intro w A0 κ fp F h1 h2
  exact zPU hj (fun ⟨b,hb⟩=>by rw [zAo h2 hg] at hb; cases hb) (hk w A0 κ fp _ h1 (h2.upd (zH2 _ _ _ _)))
end
end
end Go.Am
namespace Go.Am
open Go Go.RowKit Go.Wk
section
variable {w w':World} {A0:Nat→Prop} {H H':zAM} {κ κ':List Value} {fp fp':Nat→List Nat}
theorem SH.gen (h:SH w A0 H κ fp) (hlen:κ'.length=H'.length) (s:zLe w fp κ w' fp' κ') (nd:∀ i,(fp' i).Nodup) (dj:∀ i j x,x∈fp' i→x∈fp' j→i=j) (out:∀ i,H'.length≤i→fp' i=[])
  (ent:∀ (i:Nat) (e:zIz) (v:Value),H'[i]?=some e→κ'[i]?=some v→(H[i]?=some e∧fp' i=fp i ∧ ∀ b,b∈fp i→w'.heap[b]?=w.heap[b]?)∨ER w' (avd A0 fp') κ' e v (fp' i)):SH w' A0 H' κ' fp':=by
 refine ⟨hlen,?_,out,nd,dj,?_,fun x hx=>Nat.lt_of_lt_of_le (h.old x hx) s.kp.size⟩
 ·intro i e v h1 h2
  rcases ent i e v h1 h2 with ⟨g1,g2,g3⟩ | g
  ·rw [g2]
   have hi:i<κ.length:=by rw [h.len]; exact zAO g1
   have h3:=List.getElem?_eq_getElem hi
   have h4:=s.kk i _ h3
   rw [h4] at h2
   cases h2
   exact ER.mv (s.mv A0) g3 (h.ent i e _ g1 h3)
  ·exact g
 ·intro i x hx hA
  rcases s.new i x hx with ⟨j,hj⟩ | hx
  ·exact h.na j x hj hA
  ·have:=h.old x hA; omega
def zFV (fp:Nat→List Nat) (k:Nat) (f:List Nat):Nat→List Nat:=fun i=>if i=k then f else fp i
theorem zJv (fp:Nat→List Nat) (k:Nat) (f:List Nat):zFV fp k f k=f:=by simp [zFV]
theorem zH8 (fp:Nat→List Nat) {k i:Nat} (f:List Nat) (h:i≠k):zFV fp k f i=fp i:=by simp [zFV,h]
theorem SH.setpush (h:SH w A0 H κ fp) {k:Nat} {e1 e2:zIz} {v2:Value} {f1 f2:List Nat} (hk:k<H.length) (kp:KpS (fun b=>b∈fp k) w w')
  (hf1:∀ x,x∈f1→x∈fp k∨w.heap.size≤x) (hf2:∀ x,x∈f2→x∈fp k∨w.heap.size≤x) (n1:f1.Nodup) (n2:f2.Nodup) (n12:∀ x,x∈f1→x ∉ f2)
  (r1:∀ v,κ[k]?=some v→Mv w (avd A0 fp) κ w' (avd A0 (zFV (zFV fp k f1) H.length f2)) (κ++[v2])→ER w' (avd A0 (zFV (zFV fp k f1) H.length f2)) (κ++[v2]) e1 v f1)
  (r2:Mv w (avd A0 fp) κ w' (avd A0 (zFV (zFV fp k f1) H.length f2)) (κ++[v2])→ER w' (avd A0 (zFV (zFV fp k f1) H.length f2)) (κ++[v2]) e2 v2 f2) :
  SH w' A0 (H.set k e1++[e2]) (κ++[v2]) (zFV (zFV fp k f1) H.length f2)∧zLe w fp κ w' (zFV (zFV fp k f1) H.length f2) (κ++[v2]):=by
 have hne:k≠H.length:=by omega
 have hget:∀ i x,x∈zFV (zFV fp k f1) H.length f2 i→(i=H.length∧x∈f2)∨(i=k∧x∈f1)∨(i≠H.length∧i≠k∧x∈fp i):=by
  intro i x hx
  unfold zFV at hx
  by_cases h1:i=H.length
  ·rw [if_pos h1] at hx; exact .inl ⟨h1,hx⟩
  ·rw [if_neg h1] at hx
   by_cases h2:i=k
   ·rw [if_pos h2] at hx; exact .inr (.inl ⟨h2,hx⟩)
   ·rw [if_neg h2] at hx; exact .inr (.inr ⟨h1,h2,hx⟩)
 have hold:∀ i x,x∈fp i→x<w.heap.size:=h.lt
 have s:zLe w fp κ w' (zFV (zFV fp k f1) H.length f2) (κ++[v2]):=by
  refine ⟨⟨kp.os,kp.tape,kp.output,kp.size,fun b hb hn=>kp.block b hb (fun hm=>hn ⟨k,hm⟩)⟩,?_,?_⟩
  ·intro i x hx
   rcases hget i x hx with ⟨_,h1⟩ | ⟨_,h1⟩ | ⟨_,_,h1⟩
   ·rcases hf2 x h1 with y | y
    ·exact .inl ⟨k,y⟩
    ·exact .inr y
   ·rcases hf1 x h1 with y | y
    ·exact .inl ⟨k,y⟩
    ·exact .inr y
   ·exact .inl ⟨i,h1⟩
  ·intro i v hv
   rw [List.getElem?_append_left (zAO hv)]; exact hv
 refine ⟨h.gen (by simp [h.len]) s ?_ ?_ ?_ ?_,s⟩
 ·intro i
  unfold zFV
  split
  ·exact n2
  ·split
   ·exact n1
   ·exact h.nd i
 ·intro i j x hi hj
  rcases hget i x hi with ⟨a,h1⟩ | ⟨a,h1⟩ | ⟨a,b,h1⟩ <;> rcases hget j x hj with ⟨c,h2⟩ | ⟨c,h2⟩ | ⟨c,d,h2⟩
  ·omega
  ·exact absurd h1 (n12 x h2)
  ·rcases hf2 x h1 with y | y
   ·exact absurd (h.dj j k x h2 y) d
   ·have:=hold j x h2; omega
  ·exact absurd h2 (n12 x h1)
  ·omega
  ·rcases hf1 x h1 with y | y
   ·exact absurd (h.dj j k x h2 y) d
   ·have:=hold j x h2; omega
  ·rcases hf2 x h2 with y | y
   ·exact absurd (h.dj i k x h1 y) b
   ·have:=hold i x h1; omega
  ·rcases hf1 x h2 with y | y
   ·exact absurd (h.dj i k x h1 y) b
   ·have:=hold i x h1; omega
  ·exact h.dj i j x h1 h2
 ·intro i hi
  simp at hi
  rw [zH8 _ _ (by omega),zH8 _ _ (by omega)]
  exact h.out i (by omega)
 ·intro i e v h1 h2
  by_cases hi:i=H.length
  ·subst hi
   right
   rw [List.getElem?_append_right (by simp)] at h1
   rw [List.getElem?_append_right (by rw [h.len]; omega)] at h2
   simp [h.len] at h1 h2
   rw [zJv, ← h1, ← h2]
   exact r2 (s.mv A0)
  ·have hi2:i<H.length:=by
    have:=zAO h1
    simp at this
    omega
   rw [List.getElem?_append_left (by simpa using hi2)] at h1
   rw [List.getElem?_append_left (by rw [h.len]; exact hi2)] at h2
   rw [zH8 _ _ hi]
   by_cases hik:i=k
   ·subst hik
    right
    rw [List.getElem?_set_self hk] at h1
    cases h1
    rw [zJv]
    exact r1 v h2 (s.mv A0)
   ·left
    rw [List.getElem?_set_ne (fun x=>hik x.symm)] at h1
    rw [zH8 _ _ hik]
    refine ⟨h1,rfl,fun b hb=>kp.block b (hold i b hb) (fun hm=>hik (h.dj i k b hb hm))⟩
theorem SH.set2 (h:SH w A0 H κ fp) {k j:Nat} {e1:zIz} {f1:List Nat} (hk:k<H.length) (hj:j<H.length) (hjk:j≠k) (kp:KpS (fun b=>b∈fp k) w w')
  (hf1:∀ x,x∈f1→x∈fp k∨x∈fp j∨w.heap.size≤x) (n1:f1.Nodup)
  (r1:∀ v,κ[k]?=some v→Mv w (avd A0 fp) κ w' (avd A0 (zFV (zFV fp k f1) j [])) κ→ER w' (avd A0 (zFV (zFV fp k f1) j [])) κ e1 v f1) :
  SH w' A0 ((H.set k e1).set j .dead) κ (zFV (zFV fp k f1) j [])∧zLe w fp κ w' (zFV (zFV fp k f1) j []) κ:=by
 have hget:∀ i x,x∈zFV (zFV fp k f1) j [] i→(i=k∧x∈f1)∨(i≠j∧i≠k∧x∈fp i):=by
  intro i x hx
  unfold zFV at hx
  by_cases h1:i=j
  ·rw [if_pos h1] at hx; cases hx
  ·rw [if_neg h1] at hx
   by_cases h2:i=k
   ·rw [if_pos h2] at hx; exact .inl ⟨h2,hx⟩
   ·rw [if_neg h2] at hx; exact .inr ⟨h1,h2,hx⟩
 have hold:∀ i x,x∈fp i→x<w.heap.size:=h.lt
 have s:zLe w fp κ w' (zFV (zFV fp k f1) j []) κ:=by
  refine ⟨⟨kp.os,kp.tape,kp.output,kp.size,fun b hb hn=>kp.block b hb (fun hm=>hn ⟨k,hm⟩)⟩,?_,fun _ _ h=>h⟩
  intro i x hx
  rcases hget i x hx with ⟨_,h1⟩ | ⟨_,_,h1⟩
  ·rcases hf1 x h1 with y | y | y
   ·exact .inl ⟨k,y⟩
   ·exact .inl ⟨j,y⟩
   ·exact .inr y
  ·exact .inl ⟨i,h1⟩
 refine ⟨h.gen (by simp [h.len]) s ?_ ?_ ?_ ?_,s⟩
 ·intro i
  unfold zFV
  split
  ·simp
  ·split
   ·exact n1
   ·exact h.nd i
 ·intro i i' x hi hi'
  rcases hget i x hi with ⟨a,h1⟩ | ⟨a,b,h1⟩ <;> rcases hget i' x hi' with ⟨c,h2⟩ | ⟨c,d,h2⟩
  ·omega
  ·rcases hf1 x h1 with y | y | y
   ·exact absurd (h.dj i' k x h2 y) d
   ·exact absurd (h.dj i' j x h2 y) c
   ·have:=hold i' x h2; omega
  ·rcases hf1 x h2 with y | y | y
   ·exact absurd (h.dj i k x h1 y) b
   ·exact absurd (h.dj i j x h1 y) a
   ·have:=hold i x h1; omega
  ·exact h.dj i i' x h1 h2
 ·intro i hi
  simp at hi
  rw [zH8 _ _ (by omega),zH8 _ _ (by omega)]
  exact h.out i hi
 ·intro i e v h1 h2
  have hi2:i<H.length:=by
   have:=zAO h1
   simpa using this
  by_cases hij:i=j
  ·subst hij
   right
   rw [List.getElem?_set_self (by simpa using hi2)] at h1
   cases h1
   rw [zJv]
   rfl
  ·rw [List.getElem?_set_ne (fun x=>hij x.symm)] at h1
   rw [zH8 _ _ hij]
   by_cases hik:i=k
   ·subst hik
    right
    rw [List.getElem?_set_self hk] at h1
    cases h1
    rw [zJv]
    exact r1 v h2 (s.mv A0)
   ·left
    rw [List.getElem?_set_ne (fun x=>hik x.symm)] at h1
    rw [zH8 _ _ hik]
    exact ⟨h1,rfl,fun b hb=>kp.block b (hold i b hb) (fun hm=>hik (h.dj i k b hb hm))⟩
theorem SH.set1 (h:SH w A0 H κ fp) {k:Nat} {e1:zIz} {f1:List Nat} (hk:k<H.length) (kp:KpS (fun b=>b∈fp k) w w')
  (hf1:∀ x,x∈f1→x∈fp k∨w.heap.size≤x) (n1:f1.Nodup)
  (r1:∀ v,κ[k]?=some v→Mv w (avd A0 fp) κ w' (avd A0 (zFV fp k f1)) κ→ER w' (avd A0 (zFV fp k f1)) κ e1 v f1) :
  SH w' A0 (H.set k e1) κ (zFV fp k f1)∧zLe w fp κ w' (zFV fp k f1) κ:=by
 have hget:∀ i x,x∈zFV fp k f1 i→(i=k∧x∈f1)∨(i≠k∧x∈fp i):=by
  intro i x hx
  unfold zFV at hx
  by_cases h2:i=k
  ·rw [if_pos h2] at hx; exact .inl ⟨h2,hx⟩
  ·rw [if_neg h2] at hx; exact .inr ⟨h2,hx⟩
 have hold:∀ i x,x∈fp i→x<w.heap.size:=h.lt
 have s:zLe w fp κ w' (zFV fp k f1) κ:=by
  refine ⟨⟨kp.os,kp.tape,kp.output,kp.size,fun b hb hn=>kp.block b hb (fun hm=>hn ⟨k,hm⟩)⟩,?_,fun _ _ h=>h⟩
  intro i x hx
  rcases hget i x hx with ⟨_,h1⟩ | ⟨_,h1⟩
  ·rcases hf1 x h1 with y | y
   ·exact .inl ⟨k,y⟩
   ·exact .inr y
  ·exact .inl ⟨i,h1⟩
 refine ⟨h.gen (by simp [h.len]) s ?_ ?_ ?_ ?_,s⟩
 ·intro i
  unfold zFV
  split
  ·exact n1
  ·exact h.nd i
 ·intro i i' x hi hi'
  rcases hget i x hi with ⟨a,h1⟩ | ⟨b,h1⟩ <;> rcases hget i' x hi' with ⟨c,h2⟩ | ⟨d,h2⟩
  ·omega
  ·rcases hf1 x h1 with y | y
   ·exact absurd (h.dj i' k x h2 y) d
   ·have:=hold i' x h2; omega
  ·rcases hf1 x h2 with y | y
   ·exact absurd (h.dj i k x h1 y) b
   ·have:=hold i x h1; omega
  ·exact h.dj i i' x h1 h2
 ·intro i hi
  simp at hi
  rw [zH8 _ _ (by omega)]
  exact h.out i hi
 ·intro i e v h1 h2
  by_cases hik:i=k
  ·subst hik
   right
   rw [List.getElem?_set_self hk] at h1
   cases h1
   rw [zJv]
   exact r1 v h2 (s.mv A0)
  ·left
   rw [List.getElem?_set_ne (fun x=>hik x.symm)] at h1
   rw [zH8 _ _ hik]
   exact ⟨h1,rfl,fun b hb=>kp.block b (hold i b hb) (fun hm=>hik (h.dj i k b hb hm))⟩
theorem SH.push (h:SH w A0 H κ fp) {e2:zIz} {v2:Value} {f2:List Nat} (kp:KpS (fun _=>False) w w') (hf2:∀ x,x∈f2→w.heap.size≤x) (n2:f2.Nodup)
  (r2:Mv w (avd A0 fp) κ w' (avd A0 (zFV fp H.length f2)) (κ++[v2])→ER w' (avd A0 (zFV fp H.length f2)) (κ++[v2]) e2 v2 f2) :
  SH w' A0 (H++[e2]) (κ++[v2]) (zFV fp H.length f2)∧zLe w fp κ w' (zFV fp H.length f2) (κ++[v2]):=by
 have hget:∀ i x,x∈zFV fp H.length f2 i→(i=H.length∧x∈f2)∨(i≠H.length∧x∈fp i):=by
  intro i x hx
  unfold zFV at hx
  by_cases h2:i=H.length
  ·rw [if_pos h2] at hx; exact .inl ⟨h2,hx⟩
  ·rw [if_neg h2] at hx; exact .inr ⟨h2,hx⟩
 have hold:∀ i x,x∈fp i→x<w.heap.size:=h.lt
 have s:zLe w fp κ w' (zFV fp H.length f2) (κ++[v2]):=by
  refine ⟨⟨kp.os,kp.tape,kp.output,kp.size,fun b hb hn=>kp.block b hb (fun hm=>hm)⟩,?_,?_⟩
  ·intro i x hx
   rcases hget i x hx with ⟨_,h1⟩ | ⟨_,h1⟩
   ·exact .inr (hf2 x h1)
   ·exact .inl ⟨i,h1⟩
  ·intro i v hv
   rw [List.getElem?_append_left (zAO hv)]; exact hv
 refine ⟨h.gen (by simp [h.len]) s ?_ ?_ ?_ ?_,s⟩
 ·intro i
  unfold zFV
  split
  ·exact n2
  ·exact h.nd i
 ·intro i i' x hi hi'
  rcases hget i x hi with ⟨a,h1⟩ | ⟨b,h1⟩ <;> rcases hget i' x hi' with ⟨c,h2⟩ | ⟨d,h2⟩
  ·omega
  ·have:=hf2 x h1; have:=hold i' x h2; omega
  ·have:=hf2 x h2; have:=hold i x h1; omega
  ·exact h.dj i i' x h1 h2
 ·intro i hi
  simp at hi
  rw [zH8 _ _ (by omega)]
  exact h.out i (by omega)
 ·intro i e v h1 h2
  by_cases hi:i=H.length
  ·subst hi
   right
   rw [List.getElem?_append_right (by simp)] at h1
   rw [List.getElem?_append_right (by rw [h.len]; omega)] at h2
   simp [h.len] at h1 h2
   rw [zJv, ← h1, ← h2]
   exact r2 (s.mv A0)
  ·have hi2:i<H.length:=by
    have:=zAO h1
    simp at this
    omega
   left
   rw [List.getElem?_append_left (by simpa using hi2)] at h1
   rw [zH8 _ _ hi]
   exact ⟨h1,rfl,fun b hb=>kp.block b (hold i b hb) (fun hm=>hm)⟩
end
end Go.Am
namespace Go.Am
open Go Go.RowKit Go.Wk
def isE:AV→Bool
 | .any | .lit _ | .sl .. | .hd _ | .ptr .. | .rp .. => true
 | _=>false
def isC:AV→Bool
 | .lit u=>u.oneCell'
 | .sl .. | .ptr .. | .rp .. => true
 | _=>false
def zO7 (cs:List AV) (o:Nat) (la:List AV):List AV:=cs.take o++(la++cs.drop (o+la.length))
theorem zTt (w:World) (A:Nat→Prop) (κ:List Value):Mv w A [] w A κ:=⟨Nat.le_refl _,fun _ _ _=>rfl,fun _ h => .inl h,fun _ _ h=>by simp at h⟩
theorem zZJ {β:Type} {a b c:List β} (h : []=a++(b++c)):a=[]∧b=[]∧c=[]:=by
 have:=h.symm
 simpa using this
section
variable {w w':World} {A A':Nat→Prop} {κ κ':List Value}
theorem zWe {a:AV} {v:Value} {fp:List Nat} (h:isE a=true) (hv:VR w A κ a v fp):fp=[]:=by
 cases a <;> (unfold VR at hv; simp [isE] at h) <;> first | exact hv.1 | exact hv.2 | exact hv
theorem zZL {a:AV} {v:Value} {fp:List Nat} (h:isC a=true) (hv:VR w A κ a v fp):v.oneCell'=true:=by
 cases a <;> (unfold VR at hv; simp only [isC,Bool.false_eq_true] at h)
 ·rw [hv.1]; exact h
 ·obtain ⟨_,a,c,rfl,_⟩:=hv; rfl
 ·obtain ⟨_,u,b,_,_,rfl⟩:=hv; rfl
 ·obtain ⟨_,b,o,vs,rfl,_⟩:=hv; rfl
theorem zUh:∀ {la:List AV} {vs:List Value} {fp:List Nat},la.all isE=true→VRs w A κ la vs fp→fp=[]
 | [],_,_,_,h=>by unfold VRs at h; exact h.2
 | a::la,_,_,hE,h=>by
  simp only [List.all_cons,Bool.and_eq_true] at hE
  unfold VRs at h
  obtain ⟨u,vs',f1,f2,rfl,rfl,_,h4,h5⟩:=h
  rw [zWe hE.1 h4,zUh hE.2 h5]; rfl
theorem zRj:∀ {la:List AV} {vs:List Value} {i:Nat} {a:AV},VRt w A κ la vs []→la[i]?=some a → ∃ v,vs[i]?=some v∧VR w A κ a v []
 | [],_,_,_,_,h=>by simp at h
 | x::la,vs,i,a,h,hi=>by
  unfold VRt at h
  obtain ⟨u,vs',f1,f2,rfl,hf,h4,h5⟩:=h
  obtain ⟨rfl,rfl⟩:=List.append_eq_nil_iff.1 hf.symm
  cases i with
  | zero=>simp at hi; subst hi; exact ⟨u,rfl,h4⟩
  | succ i =>
   obtain ⟨v,g1,g2⟩:=zRj (i:=i) h5 (by simpa using hi)
   exact ⟨v,by simpa using g1,g2⟩
theorem zJa {cs:List AV} {vs:List Value} {fp:List Nat} (h:VRs w A κ cs vs fp) {i:Nat} {a:AV} (ha:cs[i]?=some a) :
  ∃ v1 v v2 f1 f2 f3,vs=v1++v::v2∧v1.length=i∧fp=f1++(f2++f3)∧v.oneCell'=true∧VRs w A κ (cs.take i) v1 f1∧VR w A κ a v f2∧VRs w A κ (cs.drop (i+1)) v2 f3:=by
 have hi:=zAO ha
 rw [zO6 ha] at h
 obtain ⟨v1,v2,f1,f2,rfl,rfl,h1,h2⟩:=zFY.1 h
 unfold VRs at h2
 obtain ⟨u,vs',g1,g2,rfl,rfl,h3,h4,h5⟩:=h2
 exact ⟨v1,u,vs',f1,g1,g2,rfl,by rw [zFH h1,List.length_take]; omega,rfl,h3,h1,h4,h5⟩
theorem zLC {xs ys:List AV} {a:AV} {v1 v2:List Value} {v:Value} {f1 f2 f3:List Nat} (h1:VRs w A κ xs v1 f1) (h:VR w A κ a v f2) (hv:v.oneCell'=true) (h2:VRs w A κ ys v2 f3):VRs w A κ (xs++a::ys) (v1++v::v2) (f1++(f2++f3)):=by
 refine zFY.2 ⟨v1,v::v2,f1,f2++f3,rfl,rfl,h1,?_⟩
 unfold VRs
 exact ⟨v,v2,f2,f3,rfl,rfl,hv,h,h2⟩
theorem zLq {cs:List AV} {vs:List Value} {fp:List Nat} (h:VRs w A κ cs vs fp) {o m:Nat} (hm:o+m≤cs.length) :
  ∃ v1 v v2 f1 f2 f3,vs=v1++(v++v2)∧v1.length=o∧v.length=m∧fp=f1++(f2++f3)∧VRs w A κ (cs.take o) v1 f1∧VRs w A κ ((cs.drop o).take m) v f2∧VRs w A κ (cs.drop (o+m)) v2 f3:=by
 have e1:cs=cs.take o++((cs.drop o).take m++cs.drop (o+m)):=by
  rw [← List.drop_drop,List.take_append_drop,List.take_append_drop]
 rw [e1] at h
 obtain ⟨v1,v2,f1,f2,rfl,rfl,h1,h2⟩:=zFY.1 h
 obtain ⟨v3,v4,f3,f4,rfl,rfl,h3,h4⟩:=zFY.1 h2
 exact ⟨v1,v3,v4,f1,f3,f4,rfl,by rw [zFH h1,List.length_take]; omega,by rw [zFH h3,List.length_take,List.length_drop]; omega,rfl,h1,h3,h4⟩
theorem zLr {cs:List (List AV)} {vs:List (List Value)} {fp:List Nat} (h:VRr w A κ cs vs fp) {i:Nat} {a:List AV} (ha:cs[i]?=some a) :
  ∃ v1 v v2 f1 f2 f3,vs=v1++v::v2∧v1.length=i∧fp=f1++(f2++f3)∧VRr w A κ (cs.take i) v1 f1∧VRs w A κ a v f2∧VRr w A κ (cs.drop (i+1)) v2 f3:=by
 have hi:=zAO ha
 rw [zO6 ha] at h
 obtain ⟨v1,v2,f1,f2,rfl,rfl,h1,h2⟩:=zIw.1 h
 unfold VRr at h2
 obtain ⟨u,vs',g1,g2,rfl,rfl,h4,h5⟩:=h2
 exact ⟨v1,u,vs',f1,g1,g2,rfl,by rw [zFo h1,List.length_take]; omega,rfl,h1,h4,h5⟩
theorem zNT {xs ys:List (List AV)} {a:List AV} {v1 v2:List (List Value)} {v:List Value} {f1 f2 f3:List Nat} (h1:VRr w A κ xs v1 f1) (h:VRs w A κ a v f2) (h2:VRr w A κ ys v2 f3):VRr w A κ (xs++a::ys) (v1++v::v2) (f1++(f2++f3)):=by
 refine zIw.2 ⟨v1,v::v2,f1,f2++f3,rfl,rfl,h1,?_⟩
 unfold VRr
 exact ⟨v,v2,f2,f3,rfl,rfl,h,h2⟩
theorem zGZ {β:Type} {v1 v2:List β} {v:β} {i:Nat} (h:v1.length=i):(v1++v::v2)[i]?=some v:=by
 subst h; simp
theorem zKy {β:Type} {v1 v2:List β} {v v':β} {i:Nat} (h:v1.length=i):(v1++v::v2).set i v'=v1++v'::v2:=by
 subst h; simp
theorem zPw {vr:List (List Value)} {sz i:Nat} {r:List Value} (hl:∀ r,r∈vr→r.length=sz) (hr:vr[i]?=some r) {b o:Nat} {tl:List Value} (h:Cells w b o (vr.flatten++tl)):Cells w b (o+i*sz) r:=by
 intro j u hu
 have hrl:=hl r (List.mem_of_getElem? hr)
 have hj:j<sz:=by have:=zAO hu; omega
 have:=h (i*sz+j) u ?_
 ·rw [← Nat.add_assoc] at this; exact this
 ·have hf:=zEe hl
  have hi:=zAO hr
  have hb:i*sz+j<vr.flatten.length:=by
   rw [hf]
   have:(i+1)*sz≤vr.length*sz:=Nat.mul_le_mul_right _ hi
   rw [Nat.succ_mul] at this
   omega
  rw [List.getElem?_append_left hb,zPp hl hr hj]
  exact hu
end
section
variable {P:Program} {n:Nat} {e:zBv} {H:zAM} {x y:Operand} {k o:Nat} {ty:TypeId}
theorem zU {la:List AV} {i:Nat} {a:AV} (hx:aev n e x = .tup la) (hi:la[i]?=some a):zv P n e H (.extract x i) a:=by
 intro w A0 κ fp F h1 h2
 have hv:=h2.ev x
 rw [hx] at hv
 unfold VR at hv
 obtain ⟨vs,hv,hr⟩:=hv
 obtain ⟨v,g1,g2⟩:=zRj hr hi
 exact ⟨v,zQ7 hv (by simpa using g1),g2⟩
theorem zU1 {t el:TypeId} {full:Bool} {rows:List (List AV)} (ht:P.underlying t=some (.slice el)) (hx:aev n e x = .sl full rows):zv P n e H (.call { callee := .builtin .len,args := #[x],argTypes := #[t] }) (.lit (.int .i64 (rows.length:Int))) :=
 zB5 fun w A0 κ fp F _ h2=>by
  have hv:=h2.ev x
  rw [hx] at hv
  unfold VR at hv
  obtain ⟨_,a,c,hv,_⟩:=hv
  exact zTW ht hv
theorem zIK {w:World} {A0:Nat→Prop} {κ:List Value} {fp:Nat→List Nat} (h1:SH w A0 H κ fp) {t sz:Nat} {rows:List (List AV)} (hk:H[k]?=some (.vec t sz rows)) {v:Value} (hv:κ[k]?=some v) :
  ∃ g vr f',zKO w t sz g v vr∧VRr w (avd A0 fp) [] rows vr f'∧fp k=g.toList++f'∧vr.length=rows.length:=by
 obtain ⟨g,vr,f',h2,h3,h4⟩:=h1.ent k _ v hk hv
 exact ⟨g,vr,f',h2,h3,h4,zFo h3⟩
theorem zTO {t el:TypeId} {t' sz:Nat} {rows:List (List AV)} (ht:P.underlying t=some (.slice el)) (hx:aev n e x = .hd k) (hk:H[k]?=some (.vec t' sz rows)):zv P n e H (.call { callee := .builtin .len,args := #[x],argTypes := #[t] }) (.lit (.int .i64 (rows.length:Int))) :=
 zB5 fun w A0 κ fp F h1 h2=>by
  have hv:=h2.ev x
  rw [hx] at hv
  unfold VR at hv
  obtain ⟨g,vr,f',h3,h4,h5,h6⟩:=zIK h1 hk hv.1
  obtain ⟨a,c,hv',_⟩:=zI2 h3
  rw [h6] at hv'
  exact zTW ht hv'
theorem zAd (hx:aev n e x = .ptr k o):zv P n e H (.nilCheck x) (.ptr k o):=by
 intro w A0 κ fp F h1 h2
 have hv:=h2.ev x
 rw [hx] at hv
 have hv':=hv
 unfold VR at hv
 obtain ⟨_,u,b,_,_,hv⟩:=hv
 rw [hv] at hv'
 exact ⟨_,zQE hv,hv'⟩
theorem zM {s:TypeId} {i off:Nat} {fs:Array Field} {f:Field} {z:Nat} (hs:P.underlying s=some (.struct fs)) (hf:fs[i]?=some f) (ho:f.offset=off) (hz:∀ w,(sizeOf f.type).run P w = .ok (z+1) w) (hx:aev n e x = .ptr k o) :
  zv P n e H (.fieldAddr s x i) (.ptr k (o+off)):=by
 intro w A0 κ fp F h1 h2
 have hv:=h2.ev x
 rw [hx] at hv
 unfold VR at hv
 obtain ⟨_,u,b,g1,g2,hv⟩:=hv
 exact ⟨_,zPA hs hf ho hz hv,by unfold VR; exact ⟨rfl,u,b,g1,g2,rfl⟩⟩
theorem zLo {s:TypeId} {i off:Nat} {fs:Array Field} {f:Field} {z:Nat} {row:List AV} (hs:P.underlying s=some (.struct fs)) (hf:fs[i]?=some f) (ho:f.offset=off) (hz:∀ w,(sizeOf f.type).run P w = .ok (z+1) w) (hx:aev n e x = .rp row o) :
  zv P n e H (.fieldAddr s x i) (.rp row (o+off)):=by
 intro w A0 κ fp F h1 h2
 have hv:=h2.ev x
 rw [hx] at hv
 unfold VR at hv
 obtain ⟨_,b,o',vs,hv,g⟩:=hv
 exact ⟨_,zPA hs hf ho hz hv,by unfold VR; exact ⟨rfl,b,o',vs,by rw [Nat.add_assoc],g⟩⟩
theorem zAP {t el:TypeId} {kd:IntKind} {m s:Nat} {i:Int} (ht:P.underlying t=some (.array m el)) (hs:∀ w,(sizeOf el).run P w = .ok s w) (hx:aev n e x = .ptr k o) (hy:aev n e y = .lit (.int kd i)) (hi:inb i m=true) :
  zv P n e H (.indexAddr t x y) (.ptr k (o+i.toNat*s)):=by
 intro w A0 κ fp F h1 h2
 have hv:=h2.ev x
 rw [hx] at hv
 unfold VR at hv
 obtain ⟨_,u,b,g1,g2,hv⟩:=hv
 have h3:=zAo h2 hy
 rw [← zQq hi] at h3
 exact ⟨_,zVG ht hs hv h3 (zBt hi).2,by unfold VR; exact ⟨rfl,u,b,g1,g2,rfl⟩⟩
theorem zUL {t el:TypeId} {kd:IntKind} {s:Nat} {i:Int} {full:Bool} {rows:List (List AV)} {row:List AV} (ht:P.underlying t=some (.slice el)) (hs:∀ w,(sizeOf el).run P w = .ok s w) (hx:aev n e x = .sl full rows) (hy:aev n e y = .lit (.int kd i))
  (hi:inb i rows.length=true) (hr:rows[i.toNat]?=some row) (hl:row.length=s):zv P n e H (.indexAddr t x y) (.rp row 0):=by
 intro w A0 κ fp F h1 h2
 have hv:=h2.ev x
 rw [hx] at hv
 unfold VR at hv
 obtain ⟨_,a,c,hv,h3,h4,h5,h6⟩:=hv
 have hy':=zAo h2 hy
 rw [← zQq hi] at hy'
 have hlt:=(zBt hi).2
 rcases h6 with h6 | ⟨b,o',sz,vr,rfl,hA,hb,h7,h8,h9⟩
 ·rw [h6] at hlt; simp at hlt
 ·obtain ⟨v1,r,v2,f1,f2,f3,rfl,hl1,hfp,g1,g2,g3⟩:=zLr h7 hr
  obtain ⟨rfl,rfl,rfl⟩:=zZJ hfp
  have hrl:r.length=s:=by rw [zFH g2,hl]
  have hsz:sz=s:=by rw [← hrl]; exact (h8 r (by simp)).symm
  subst hsz
  refine ⟨_,zPN ht hs hv hy' hlt,?_⟩
  unfold VR
  refine ⟨rfl,b,o'+i.toNat*sz,r,by rw [Nat.add_zero],hA,hb,?_,?_⟩
  ·exact VRs.mv ⟨Nat.le_refl _,fun _ _ _=>rfl,fun _ h => .inl h,fun _ _ h=>by simp at h⟩ _ _ _ (fun _ _=>rfl) g2
  ·exact zPw (tl:=[]) h8 (zGZ hl1) (by simpa using h9)
theorem zLA {t el:TypeId} {kd:IntKind} {t' s:Nat} {i:Int} {rows:List (List AV)} (ht:P.underlying t=some (.slice el)) (hs:∀ w,(sizeOf el).run P w = .ok s w) (hx:aev n e x = .hd k) (hk:H[k]?=some (.vec t' s rows)) (hy:aev n e y = .lit (.int kd i))
  (hi:inb i rows.length=true):zv P n e H (.indexAddr t x y) (.ptr k (i.toNat*s)):=by
 intro w A0 κ fp F h1 h2
 have hv:=h2.ev x
 rw [hx] at hv
 unfold VR at hv
 obtain ⟨g,vr,f',h3,h4,h5,h6⟩:=zIK h1 hk hv.1
 have hy':=zAo h2 hy
 rw [← zQq hi] at hy'
 have hlt:=(zBt hi).2
 obtain ⟨b,cap,sp,rfl,hv',_,_,_,_⟩:=zLl h3 (by rw [h6]; exact hlt)
 rw [h6] at hv'
 have hv1:=hv.1
 rw [hv'] at hv hv1
 refine ⟨_,zPN ht hs hv' hy' hlt,?_⟩
 unfold VR
 exact ⟨rfl,_,b,hv1,rfl,by rw [Nat.zero_add]⟩
theorem zN {t t':TypeId} {cs:List AV} {a:AV} (ha:∀ w,(isAgg t).run P w = .ok false w) (hx:aev n e x = .ptr k o) (hk:H[k]?=some (.box t' cs)) (hc:cs[o]?=some a) (hE:isE a=true):zv P n e H (.load t x) a:=by
 intro w A0 κ fp F h1 h2
 have hv:=h2.ev x
 rw [hx] at hv
 unfold VR at hv
 obtain ⟨_,u,b,g1,g2,hv⟩:=hv
 obtain ⟨b',vs,f',rfl,hb,hvs,hfp⟩:=h1.ent k _ u hk g1
 cases g2
 obtain ⟨v1,v,v2,f1,f2,f3,rfl,hl,rfl,ho,q1,q2,q3⟩:=zJa hvs hc
 have:=zWe hE q2
 subst this
 exact ⟨v,zT7 ha hv hb (zGZ hl),q2⟩
theorem zR {t t':TypeId} {cs la:List AV} {m:Nat} (ha:∀ w,(isAgg t).run P w = .ok true w) (hs:∀ w,(sizeOf t).run P w = .ok m w) (hx:aev n e x = .ptr k o) (hk:H[k]?=some (.box t' cs)) (hm0:Nat.ble (o+m) cs.length=true) (hc:(cs.drop o).take m=la) (hE:la.all isE=true):zv P n e H (.load t x) (.agg la):=by
 have hm:=Nat.le_of_ble_eq_true hm0
 intro w A0 κ fp F h1 h2
 have hv:=h2.ev x
 rw [hx] at hv
 unfold VR at hv
 obtain ⟨_,u,b,g1,g2,hv⟩:=hv
 obtain ⟨b',vs,f',rfl,hb,hvs,hfp⟩:=h1.ent k _ u hk g1
 cases g2
 obtain ⟨v1,v,v2,f1,f2,f3,rfl,hl,hlm,rfl,q1,q2,q3⟩:=zLq hvs hm
 rw [hc] at q2
 have:=zUh hE q2
 subst this
 subst hlm
 refine ⟨_,zK3 ha hs hv (cs:=v) ?_,by unfold VR; exact ⟨v,rfl,q2⟩⟩
 intro j u hu
 refine hb.cells (o+j) u ?_ |> fun h=>by rw [Nat.zero_add] at h; exact h
 rw [List.getElem?_append_right (by omega),hl,Nat.add_sub_cancel_left,List.getElem?_append_left (zAO hu)]
 exact hu
theorem zo {t:TypeId} {row:List AV} {a:AV} (ha:∀ w,(isAgg t).run P w = .ok false w) (hx:aev n e x = .rp row o) (hc:row[o]?=some a):zv P n e H (.load t x) a:=by
 intro w A0 κ fp F h1 h2
 have hv:=h2.ev x
 rw [hx] at hv
 unfold VR at hv
 obtain ⟨_,b,o',vs,hv,hA,hb,hvs,hcl⟩:=hv
 obtain ⟨v1,v,v2,f1,f2,f3,rfl,hl,hfp,ho,q1,q2,q3⟩:=zJa hvs hc
 obtain ⟨rfl,rfl,rfl⟩:=zZJ hfp
 exact ⟨v,zMK ha hv hcl (zGZ hl),VR.mv ⟨Nat.le_refl _,fun _ _ _=>rfl,fun _ h => .inl h,fun _ _ h=>by simp at h⟩ _ _ _ (fun _ _=>rfl) q2⟩
theorem zBB {t:TypeId} {row la:List AV} {m:Nat} (ha:∀ w,(isAgg t).run P w = .ok true w) (hs:∀ w,(sizeOf t).run P w = .ok m w) (hx:aev n e x = .rp row o) (hm0:Nat.ble (o+m) row.length=true) (hc:(row.drop o).take m=la):zv P n e H (.load t x) (.agg la):=by
 have hm:=Nat.le_of_ble_eq_true hm0
 intro w A0 κ fp F h1 h2
 have hv:=h2.ev x
 rw [hx] at hv
 unfold VR at hv
 obtain ⟨_,b,o',vs,hv,hA,hb,hvs,hcl⟩:=hv
 obtain ⟨v1,v,v2,f1,f2,f3,rfl,hl,hlm,hfp,q1,q2,q3⟩:=zLq hvs hm
 obtain ⟨rfl,rfl,rfl⟩:=zZJ hfp
 rw [hc] at q2
 subst hlm
 refine ⟨_,zK3 ha hs hv (cs:=v) ?_,?_⟩
 ·intro j u hu
  refine hcl (o+j) u ?_ |> fun h=>by rw [← Nat.add_assoc] at h; exact h
  rw [List.getElem?_append_right (by omega),hl,Nat.add_sub_cancel_left,List.getElem?_append_left (zAO hu)]
  exact hu
 ·exact VR.mv (κ:=[]) (w:=w) (A:=avd A0 fp) ⟨Nat.le_refl _,fun _ _ _=>rfl,fun _ h => .inl h,fun _ _ h=>by simp at h⟩ (.agg la) (.agg v.toArray) [] (fun _ _=>rfl) (by unfold VR; exact ⟨v,rfl,q2⟩)
theorem zNw {w:World} {A0:Nat→Prop} {κ:List Value} {fp:Nat→List Nat} (h1:SH w A0 H κ fp) {t sz:Nat} {rows:List (List AV)} (hk:H[k]?=some (.vec t sz rows)) {v:Value} (hv:κ[k]?=some v) {b:Nat} (hb:zX4 v=some b) :
  ∃ vr cap sp f',zKO w t sz (some b) v vr∧v = .slice (some ⟨b,0,none⟩) vr.length cap∧vr.length≤cap∧(vr.length≤140737488355328∧cap≤maxLen)∧Blk w b t (vr.flatten++sp)∧(vr.flatten++sp).length=cap*sz∧VRr w (avd A0 fp) [] rows vr f'∧fp k=b::f'∧vr.length=rows.length∧(∀ r,r∈vr→r.length=sz):=by
 obtain ⟨g,vr,f',h2,h3,h4,h5⟩:=zIK h1 hk hv
 have ho:=h2
 rcases h2.2 with ⟨_,h6,_⟩ | ⟨b',cap,sp,rfl,h6,h7,h8,h9,h10⟩
 ·rw [h6] at hb; cases hb
 ·rw [h6] at hb; cases hb
  exact ⟨vr,cap,sp,f',ho,h6,h7,h8,h9,h10,h3,by rw [h4]; rfl,h5,h2.1⟩
theorem zL4 {t t' s i j:Nat} {rows:List (List AV)} {row:List AV} {a:AV} (ha:∀ w,(isAgg t).run P w = .ok false w) (hx:aev n e x = .ptr k o) (hk:H[k]?=some (.vec t' s rows)) (ho:o=i*s+j) (hr:rows[i]?=some row) (hc:row[j]?=some a) (hE:isE a=true):zv P n e H (.load t x) a:=by
 intro w A0 κ fp F h1 h2
 have hv:=h2.ev x
 rw [hx] at hv
 unfold VR at hv
 obtain ⟨_,u,b,g1,g2,hv⟩:=hv
 obtain ⟨vr,cap,sp,f',hO,h6,h7,h8,h9,h10,h3,h4,h5,hls⟩:=zNw h1 hk g1 g2
 obtain ⟨v1,r,v2,f1,f2,f3,rfl,hl1,rfl,q1,q2,q3⟩:=zLr h3 hr
 obtain ⟨p1,v,p2,f4,f5,f6,rfl,hl2,rfl,_,q4,q5,q6⟩:=zJa q2 hc
 have:=zWe hE q5
 subst this
 subst ho
 refine ⟨v,zMK ha hv (zPw hls (zGZ hl1) h9.cells |> fun h=>by rw [Nat.zero_add] at h; exact h) (zGZ hl2),VR.mv (zTt w (avd A0 fp) κ) _ _ _ (fun _ _=>rfl) q5⟩
theorem zRI {t t' s i j m:Nat} {rows:List (List AV)} {row la:List AV} (ha:∀ w,(isAgg t).run P w = .ok true w) (hs:∀ w,(sizeOf t).run P w = .ok m w) (hx:aev n e x = .ptr k o) (hk:H[k]?=some (.vec t' s rows)) (ho:o=i*s+j) (hr:rows[i]?=some row) (hm0:Nat.ble (j+m) row.length=true) (hc:(row.drop j).take m=la) (hE:la.all isE=true):zv P n e H (.load t x) (.agg la):=by
 have hm:=Nat.le_of_ble_eq_true hm0
 intro w A0 κ fp F h1 h2
 have hv:=h2.ev x
 rw [hx] at hv
 unfold VR at hv
 obtain ⟨_,u,b,g1,g2,hv⟩:=hv
 obtain ⟨vr,cap,sp,f',hO,h6,h7,h8,h9,h10,h3,h4,h5,hls⟩:=zNw h1 hk g1 g2
 obtain ⟨v1,r,v2,f1,f2,f3,rfl,hl1,rfl,q1,q2,q3⟩:=zLr h3 hr
 obtain ⟨p1,v,p2,f4,f5,f6,rfl,hl2,hlm,rfl,q4,q5,q6⟩:=zLq q2 hm
 rw [hc] at q5
 have:=zUh hE q5
 subst this
 subst ho
 subst hlm
 have hcl:=zPw hls (zGZ hl1) h9.cells
 rw [Nat.zero_add] at hcl
 refine ⟨_,zK3 ha hs hv (cs:=v) ?_,by unfold VR; exact ⟨v,rfl,VRs.mv (zTt w (avd A0 fp) κ) _ _ _ (fun _ _=>rfl) q5⟩⟩
 intro j' u hu
 refine hcl (j+j') u ?_ |> fun h=>by rw [← Nat.add_assoc] at h; exact h
 rw [List.getElem?_append_right (by omega),hl2,Nat.add_sub_cancel_left,List.getElem?_append_left (zAO hu)]
 exact hu
theorem zNr {t el:TypeId} {kd:IntKind} {m:Nat} {i:Int} {la:List AV} {a:AV} (ht:P.underlying t=some (.array m el)) (hs:∀ w,(sizeOf el).run P w = .ok 1 w) (ha:∀ w,(isAgg el).run P w = .ok false w) (hx:aev n e x = .agg la) (hy:aev n e y = .lit (.int kd i)) (hi:inb i m=true) (hc:la[i.toNat]?=some a) (hE:isE a=true) :
  zv P n e H (.index t x y) a:=by
 intro w A0 κ fp F h1 h2
 have hv:=h2.ev x
 rw [hx] at hv
 unfold VR at hv
 obtain ⟨vs,hv,hr⟩:=hv
 have hy':=zAo h2 hy
 rw [← zQq hi] at hy'
 obtain ⟨v1,v,v2,f1,f2,f3,rfl,hl,hfp,ho,q1,q2,q3⟩:=zJa hr hc
 have:=zWe hE q2
 subst this
 exact ⟨v,zS0 ht hs ha hv hy' (zBt hi).2 (zGZ hl),q2⟩
end
end Go.Am
namespace Go.Am
open Go Go.RowKit Go.Wk
def zBC (a a':AV):Prop := ∀ w A κ v fp,VR w A κ a v fp→VR w A κ a' v fp
theorem zBC.refl (a:AV):zBC a a:=fun _ _ _ _ _ h=>h
theorem zBC.nils {f:Bool}:zBC (.lit (.slice none 0 0)) (.sl f []):=by
 intro w A κ v fp h
 unfold VR at *
 obtain ⟨rfl,rfl⟩:=h
 exact ⟨rfl,none,0,rfl,Nat.le_refl _,⟨by simp,by unfold maxLen; omega⟩,fun _=>rfl,.inl rfl⟩
theorem zBC.nilo {t sz:Nat}:zBC (.lit (.slice none 0 0)) (.osl t sz []):=by
 intro w A κ v fp h
 unfold VR at *
 obtain ⟨rfl,rfl⟩:=h
 exact ⟨none,[],[],zUC w t sz,by unfold VRr; exact ⟨rfl,rfl⟩,rfl⟩
def zLh:List AV→List AV→Prop
 | [],[]=>True
 | a::la,b::bs=>zBC a b∧zLh la bs
 | _,_=>False
theorem zLh.vrs {w:World} {A:Nat→Prop} {κ:List Value}:∀ {la bs:List AV} {vs:List Value} {fp:List Nat},zLh la bs→VRs w A κ la vs fp→VRs w A κ bs vs fp
 | [],[],_,_,_,h=>h
 | [],_::_,_,_,h,_=>h.elim
 | _::_,[],_,_,h,_=>h.elim
 | a::la,b::bs,vs,fp,h,hv=>by
  unfold VRs at hv ⊢
  obtain ⟨u,vs',f1,f2,rfl,rfl,h3,h4,h5⟩:=hv
  exact ⟨u,vs',f1,f2,rfl,rfl,h3,h.1 _ _ _ _ _ h4,zLh.vrs h.2 h5⟩
theorem zLh.refl:∀ (la:List AV),zLh la la
 | []=>trivial
 | a::la=>⟨zBC.refl a,zLh.refl la⟩
theorem zM5 {w:World} {A:Nat→Prop} {κ:List Value}:∀ (vs:List Value),vs.all (·.oneCell')=true→VRs w A κ (vs.map .lit) vs []
 | [],_=>by unfold VRs; exact ⟨rfl,rfl⟩
 | v::vs,h=>by
  simp only [List.all_cons,Bool.and_eq_true] at h
  simp only [List.map_cons]
  unfold VRs
  exact ⟨v,vs,[],[],rfl,rfl,h.1,zH2 _ _ _ _,zM5 vs h.2⟩
section
variable {P:Program} {n m:Nat} {e e':zBv} {H:zAM} {x y:Operand} {k j o:Nat} {ty t:TypeId}
def zUj (H:zAM) (a:AV):Bool:=isC a||match a with
 | .hd k=>match H[k]? with
  | some (.vec ..) | some (.vopen ..)=>true
  | _=>false
 | .clo .. => true
 | _=>false
theorem zNd {w:World} {T sz:Nat} {g:Option Nat} {v:Value} {rows:List (List Value)} (h:zKO w T sz g v rows):v.oneCell'=true:=by
 obtain ⟨a,c,rfl,_⟩:=zI2 h; rfl
theorem zXS {w:World} {A0:Nat→Prop} {κ:List Value} {fp:Nat→List Nat} (h1:SH w A0 H κ fp) {a:AV} {v:Value} (h:zUj H a=true) (hv:VR w (avd A0 fp) κ a v []):v.oneCell'=true:=by
 unfold zUj at h
 rw [Bool.or_eq_true] at h
 rcases h with h | h
 ·exact zZL h hv
 ·split at h
  ·rename_i k
   unfold VR at hv
   split at h
   ·rename_i hk
    obtain ⟨g,vr,f',ho,_⟩:=h1.ent k _ v hk hv.1
    exact zNd ho
   ·rename_i hk
    obtain ⟨g,v1,r,v2,f1,f2,f3,ho,_⟩:=h1.ent k _ v hk hv.1
    exact zNd ho
   ·cases h
  ·unfold VR at hv
   obtain ⟨vs,rfl,_⟩:=hv
   rfl
  ·cases h
theorem zRS {w:World} {A0:Nat→Prop} {κ:List Value} {fp:Nat→List Nat} {F:Env} (h1:SH w A0 H κ fp) {vs:List Value} {cs:List AV} {op:Op} (hv:Val P n F w op (.pointer (some ⟨w.heap.size,0,none⟩)) (w.alloc (.cells vs.toArray t)))
  (hvs:VRs w (avd A0 fp) κ cs vs []):∃ v w' κ' fp',Val P n F w op v w'∧SH w' A0 (H++[.box t cs]) κ' fp'∧VR w' (avd A0 fp') κ' (.ptr H.length 0) v []∧zLe w fp κ w' fp' κ':=by
 have hb:=zKl w t vs
 have hs:=h1.push (e2 := .box t cs) (v2 := .pointer (some ⟨w.heap.size,0,none⟩)) (f2:=[w.heap.size]) (KpS.of (Kp.alloc w (.cells vs.toArray t)) (fun b hb=>by cases hb)) (by simp) (by simp)
  (fun mv=>⟨w.heap.size,vs,[],rfl,hb,VRs.mv mv cs vs [] (fun b hb=>by cases hb) hvs,rfl⟩)
 refine ⟨_,_,_,_,hv,hs.1,?_,hs.2⟩
 unfold VR
 refine ⟨rfl,.pointer (some ⟨w.heap.size,0,none⟩),w.heap.size,?_,rfl,rfl⟩
 rw [← h1.len,List.getElem?_append_right (Nat.le_refl _)]
 simp
theorem zEW {z:Value} {vs:List Value} {cs:List AV} (hz:∀ w,(zeroValue t).run P w = .ok z w) (hc:z.cells=vs.toArray) (h1:vs.all (·.oneCell')=true) (hs:zLh (vs.map .lit) cs):zIs P n e H (.alloc t) (.ptr H.length 0) (H++[.box t cs]) :=
 fun w A0 κ fp F g1 g2=>zRS g1 (zTB hz hc) (hs.vrs (zM5 vs h1))
theorem z8 {cs:List AV} (hx:aev n e x = .agg cs):zIs P n e H (.box t x) (.ptr H.length 0) (H++[.box t cs]):=by
 intro w A0 κ fp F g1 g2
 have hv:=g2.ev x
 rw [hx] at hv
 unfold VR at hv
 obtain ⟨vs,hv,hr⟩:=hv
 exact zRS g1 (zVY hv) hr
theorem zK8 {v:Value} (h:v.oneCell'=true):v.cells = #[v]:=by cases v <;> first | rfl | cases h
theorem zIU {a:AV} (hx:aev n e x=a) (hc:zUj H a=true):zIs P n e H (.box t x) (.ptr H.length 0) (H++[.box t [a]]):=by
 intro w A0 κ fp F g1 g2
 have hv:=g2.ev x
 rw [hx] at hv
 have h1:=zXS g1 hc hv
 exact zRS g1 (vs:=[ev n F x]) (zVA (zK8 h1) rfl) (by unfold VRs; exact ⟨_,[],[],[],rfl,rfl,h1,hv,by unfold VRs; exact ⟨rfl,rfl⟩⟩)
theorem zLv {w:World} {F:Env} {T:TypeId} {b j:Nat} {cs vs:List Value} (hz:∀ w,(sizeOf t).run P w = .ok vs.length w) (h:Blk w b T cs) (hj:j+vs.length≤cs.length) (h1:∀ v∈vs,v.oneCell'=true) (hx:ev n F x = .pointer (some ⟨b,j,none⟩)) (hy:ev n F y = .agg vs.toArray) :
  ∃ w',zZH P n F w (.store t x y) w'∧Kp [b] w w'∧w'.heap.size=w.heap.size∧Blk w' b T (zDx cs j vs):=by
 obtain ⟨w',r1,r2,r3,r4⟩:=zFM (P:=P) vs 0 cs w h (by omega) h1
 refine ⟨w',⟨fun d t' p af g => ?_⟩,r2,r3,r4⟩
 simp [execOp,hx,hy,Instr.storeAt,Instr.sureAddr,storeVar,Value.cells,hz,r1]
theorem zJW {a b b' c:List Nat} (h:b'.Sublist b):(a++(b'++c)).Sublist (a++(b++c)) :=
 (List.Sublist.refl a).append (h.append (List.Sublist.refl c))
theorem zGY {T:TypeId} {cs:List AV} {a:AV} (hz:∀ w,(sizeOf t).run P w = .ok 1 w) (hx:aev n e x = .ptr k o) (hk:H[k]?=some (.box T cs)) (ho0:Nat.blt o cs.length=true) (hy:aev n e y=a) (hc:zUj H a=true):zR3 P n e H (.store t x y) (H.set k (.box T (cs.set o a))):=by
 have ho:o<cs.length:=by simpa [Nat.blt_eq] using ho0
 intro w A0 κ fp F h1 h2
 have hv:=h2.ev x
 rw [hx] at hv
 unfold VR at hv
 obtain ⟨_,u,b,g1,g2,hv⟩:=hv
 obtain ⟨b',vs,f',rfl,hb,hvs,hfp⟩:=h1.ent k _ u hk g1
 cases g2
 have hyv:=h2.ev y
 rw [hy] at hyv
 have hone:=zXS h1 hc hyv
 have hco:=List.getElem?_eq_getElem ho
 obtain ⟨v1,v,v2,f1,f2,f3,rfl,hl,rfl,ho',q1,q2,q3⟩:=zJa hvs hco
 have hlen:o<(v1++v::v2).length:=by simp; omega
 have hnd:=h1.nd k
 rw [hfp] at hnd
 have hsub:(b::(f1++([]++f3))).Sublist (b::(f1++(f2++f3))):=(zJW (List.nil_sublist _)).cons_cons b
 have hkp:Kp [b] w (w.setCell ⟨b,o,none⟩ (ev n F y)):=Kp.setCell w ⟨b,o,none⟩ (ev n F y)
 have hs:=h1.set1 (k:=k) (e1 := .box T (cs.set o a)) (f1:=b::(f1++([]++f3))) (zAO hk) (KpS.of hkp (fun x hx=>by simp at hx; subst hx; rw [hfp]; simp)) (fun x hx => .inl (by rw [hfp]; exact hsub.mem hx)) (hnd.sublist hsub) (fun v' hv' mv=>by
  rw [g1] at hv'
  cases hv'
  have hne:∀ q,q∈f1++(f2++f3)→(w.setCell ⟨b,o,none⟩ (ev n F y)).heap[q]?=w.heap[q]?:=fun q hq=>by
   have hql:q<w.heap.size:=h1.lt k q (by rw [hfp]; exact List.mem_cons_of_mem _ hq)
   exact hkp.block q hql (by simp; rintro rfl; exact (List.nodup_cons.1 hnd).1 hq)
  refine ⟨b,v1++ev n F y::v2,_,rfl,?_,?_,rfl⟩
  ·have:=hb.set (j:=o) (v:=ev n F y)
   rw [zKy hl] at this
   exact this
  ·rw [zHh a ho]
   exact zLC (VRs.mv mv _ _ _ (fun q hq=>hne q (by simp [hq])) q1) (VR.mv mv _ _ _ (fun q hq=>by cases hq) hyv) hone (VRs.mv mv _ _ _ (fun q hq=>hne q (by simp [hq])) q3))
 exact ⟨_,_,_,zJ3 hz hb hlen hone hv rfl,hs.1,hs.2⟩
theorem zN4 {v1 v v2 vs:List Value} {o:Nat} (h:v1.length=o) (hl:v.length=vs.length):zDx (v1++(v++v2)) o vs=v1++(vs++v2):=by
 subst h
 unfold zDx
 rw [List.take_left', ← hl, ← List.append_assoc v1 v v2,List.drop_left' (by simp),List.append_assoc]
 rfl
theorem zT {T:TypeId} {cs la:List AV} (hz:∀ w,(sizeOf t).run P w = .ok la.length w) (hx:aev n e x = .ptr k o) (hk:H[k]?=some (.box T cs)) (ho0:Nat.ble (o+la.length) cs.length=true) (hy:aev n e y = .agg la):zR3 P n e H (.store t x y) (H.set k (.box T (zO7 cs o la))):=by
 have ho:=Nat.le_of_ble_eq_true ho0
 intro w A0 κ fp F h1 h2
 have hv:=h2.ev x
 rw [hx] at hv
 unfold VR at hv
 obtain ⟨_,u,b,g1,g2,hv⟩:=hv
 obtain ⟨b',vs,f',rfl,hb,hvs,hfp⟩:=h1.ent k _ u hk g1
 cases g2
 have hyv:=h2.ev y
 rw [hy] at hyv
 unfold VR at hyv
 obtain ⟨ys,hy',hyr⟩:=hyv
 have hyl:=zFH hyr
 obtain ⟨v1,v,v2,f1,f2,f3,rfl,hl,hlm,rfl,q1,q2,q3⟩:=zLq hvs ho
 have hnd:=h1.nd k
 rw [hfp] at hnd
 have hsub:(b::(f1++([]++f3))).Sublist (b::(f1++(f2++f3))):=(zJW (List.nil_sublist _)).cons_cons b
 obtain ⟨w',r1,hkp,_,r4⟩:=zLv (P:=P) (by rw [hyl]; exact hz) hb (by simp; omega) (zOO hyr) hv hy'
 have hs:=h1.set1 (k:=k) (e1 := .box T (zO7 cs o la)) (f1:=b::(f1++([]++f3))) (zAO hk) (KpS.of hkp (fun x hx=>by simp at hx; subst hx; rw [hfp]; simp)) (fun x hx => .inl (by rw [hfp]; exact hsub.mem hx)) (hnd.sublist hsub) (fun v' hv' mv=>by
  rw [g1] at hv'
  cases hv'
  have hne:∀ q,q∈f1++(f2++f3)→w'.heap[q]?=w.heap[q]?:=fun q hq=>by
   have hql:q<w.heap.size:=h1.lt k q (by rw [hfp]; exact List.mem_cons_of_mem _ hq)
   exact hkp.block q hql (by simp; rintro rfl; exact (List.nodup_cons.1 hnd).1 hq)
  refine ⟨b,v1++(ys++v2),_,rfl,?_,?_,rfl⟩
  ·rw [zN4 hl (by omega)] at r4
   exact r4
  ·exact zFY.2 ⟨v1,ys++v2,f1,[]++f3,rfl,rfl,VRs.mv mv _ _ _ (fun q hq=>hne q (by simp [hq])) q1,zFY.2 ⟨ys,v2,[],f3,rfl,rfl,VRs.mv mv _ _ _ (fun q hq=>by cases hq) hyr,VRs.mv mv _ _ _ (fun q hq=>hne q (by simp [hq])) q3⟩⟩)
 exact ⟨_,_,_,r1,hs.1,hs.2⟩
theorem zEN {T:TypeId} {cs la:List AV} (hz:∀ w,(sizeOf t).run P w = .ok la.length w) (hx:aev n e x = .ptr k o) (hk:H[k]?=some (.box T cs)) (ho0:Nat.ble (o+la.length) cs.length=true) (hy:aev n e y = .hd j) (hj:H[j]?=some (.val (.agg la))) (hjk:j≠k) :
  zR3 P n e H (.store t x y) ((H.set k (.box T (zO7 cs o la))).set j .dead):=by
 have ho:=Nat.le_of_ble_eq_true ho0
 intro w A0 κ fp F h1 h2
 have hv:=h2.ev x
 rw [hx] at hv
 unfold VR at hv
 obtain ⟨_,u,b,g1,g2,hv⟩:=hv
 obtain ⟨b',vs,f',rfl,hb,hvs,hfp⟩:=h1.ent k _ u hk g1
 cases g2
 have hyv:=h2.ev y
 rw [hy] at hyv
 unfold VR at hyv
 have hjv:VR w (avd A0 fp) κ (.agg la) (ev n F y) (fp j):=h1.ent j _ _ hj hyv.1
 unfold VR at hjv
 obtain ⟨ys,hy',hyr⟩:=hjv
 have hyl:=zFH hyr
 obtain ⟨v1,v,v2,f1,f2,f3,rfl,hl,hlm,rfl,q1,q2,q3⟩:=zLq hvs ho
 have hnd:=h1.nd k
 rw [hfp] at hnd
 obtain ⟨w',r1,hkp,_,r4⟩:=zLv (P:=P) (by rw [hyl]; exact hz) hb (by simp; omega) (zOO hyr) hv hy'
 have hdis:∀ x,x∈fp j→x ∉ b::(f1++(f2++f3)):=fun x hx hm=>hjk (h1.dj j k x hx (by rw [hfp]; exact hm))
 have hs:=h1.set2 (k:=k) (j:=j) (e1 := .box T (zO7 cs o la)) (f1:=b::(f1++(fp j++f3))) (zAO hk) (zAO hj) hjk (KpS.of hkp (fun x hx=>by simp at hx; subst hx; rw [hfp]; simp))
  (fun x hx=>by
   simp only [List.mem_cons,List.mem_append] at hx
   rcases hx with rfl | hx | hx | hx
   ·left; rw [hfp]; simp
   ·left; rw [hfp]; simp [hx]
   ·exact .inr (.inl hx)
   ·left; rw [hfp]; simp [hx])
  (by
   have hnj:=h1.nd j
   simp only [List.nodup_cons,List.nodup_append,List.mem_append] at hnd ⊢
   simp only [List.mem_cons,List.mem_append] at hdis
   refine ⟨fun hm => ?_,hnd.2.1,⟨hnj,hnd.2.2.1.2.1,fun a ha b hb=>by rintro rfl; exact hdis a ha (by simp [hb])⟩,fun a ha b hb => ?_⟩
   ·rcases hm with hm | hm | hm
    ·exact hnd.1 (.inl hm)
    ·exact hdis b hm (by simp)
    ·exact hnd.1 (.inr (.inr hm))
   ·rcases hb with hb | hb
    ·rintro rfl; exact hdis a hb (by simp [ha])
    ·exact hnd.2.2.2 a ha b (.inr hb))
  (fun v' hv' mv=>by
   rw [g1] at hv'
   cases hv'
   have hne:∀ q,q∈f1++(f2++f3)→w'.heap[q]?=w.heap[q]?:=fun q hq=>by
    have hql:q<w.heap.size:=h1.lt k q (by rw [hfp]; exact List.mem_cons_of_mem _ hq)
    exact hkp.block q hql (by simp; rintro rfl; exact (List.nodup_cons.1 hnd).1 hq)
   have hne2:∀ q,q∈fp j→w'.heap[q]?=w.heap[q]?:=fun q hq=>hkp.block q (h1.lt j q hq) (by simp; rintro rfl; exact hdis _ hq (by simp))
   refine ⟨b,v1++(ys++v2),_,rfl,?_,?_,rfl⟩
   ·rw [zN4 hl (by omega)] at r4
    exact r4
   ·exact zFY.2 ⟨v1,ys++v2,f1,fp j++f3,rfl,rfl,VRs.mv mv _ _ _ (fun q hq=>hne q (by simp [hq])) q1,zFY.2 ⟨ys,v2,fp j,f3,rfl,rfl,VRs.mv mv _ _ _ hne2 hyr,VRs.mv mv _ _ _ (fun q hq=>hne q (by simp [hq])) q3⟩⟩)
 exact ⟨_,_,_,r1,hs.1,hs.2⟩
end
end Go.Am
namespace Go.Am
open Go Go.RowKit Go.Wk
def nr:AV→Bool
 | .any | .lit _ | .sl .. | .osl .. | .rp .. => true
 | _=>false
section
variable {w:World} {A:Nat→Prop} {κ κ':List Value}
theorem zPV {a:AV} {v:Value} {fp:List Nat} (h:nr a=true) (hv:VR w A κ a v fp):VR w A κ' a v fp:=by
 cases a <;> simp only [nr,Bool.false_eq_true] at h <;> (unfold VR at *; exact hv)
theorem zMY:∀ {la:List AV} {vs:List Value} {fp:List Nat},la.all nr=true→VRs w A κ la vs fp→VRs w A κ' la vs fp
 | [],_,_,_,h=>by unfold VRs at *; exact h
 | a::la,_,_,hE,h=>by
  simp only [List.all_cons,Bool.and_eq_true] at hE
  unfold VRs at *
  obtain ⟨u,vs',f1,f2,rfl,rfl,h3,h4,h5⟩:=h
  exact ⟨u,vs',f1,f2,rfl,rfl,h3,zPV hE.1 h4,zMY hE.2 h5⟩
end
def mkE:List (Nat×AV)→zBv
 | []=>fun _ => .any
 | (t,a)::l=>fun i=>bif Nat.beq i t then a else mkE l i
section
variable {P:Program} {n m:Nat} {e e':zBv} {H G:zAM} {x y:Operand} {k j o:Nat} {ty t:TypeId}
theorem zBz {cs:List AV} {t' sz:Nat} {rows:List (List AV)} (hk:H[k]?=some (.box t cs)) (hc:cs[o]?=some (.osl t' sz rows)) :
  Rep n m e H e (H.set k (.box t (cs.set o (.hd H.length)))++[.vec t' sz rows]):=by
 intro w A0 κ fp F h1 h2
 have hkl:k<κ.length:=by rw [h1.len]; exact zAO hk
 have hκ:=List.getElem?_eq_getElem hkl
 obtain ⟨b,vs,f',hv,hb,hvs,hfp⟩:=h1.ent k _ _ hk hκ
 obtain ⟨v1,v,v2,f1,f2,f3,rfl,hl,rfl,ho,q1,q2,q3⟩:=zJa hvs hc
 have hnd:=h1.nd k
 rw [hfp] at hnd
 have hs:=h1.setpush (w':=w) (k:=k) (e1 := .box t (cs.set o (.hd H.length))) (e2 := .vec t' sz rows) (v2:=v) (f1:=b::(f1++([]++f3))) (f2:=f2) (zAO hk) (KpS.refl _ _)
  (fun z hz => .inl (by rw [hfp]; exact ((zJW (List.nil_sublist _)).cons_cons b).mem hz)) (fun z hz => .inl (by rw [hfp]; simp [hz]))
  (hnd.sublist ((zJW (List.nil_sublist _)).cons_cons b)) (by
   simp only [List.nodup_cons,List.nodup_append] at hnd; exact hnd.2.2.1.1) (by
   intro z hz hz2
   simp only [List.nodup_cons,List.nodup_append,List.mem_append,List.mem_cons,List.nil_append] at hnd hz
   rcases hz with rfl | hz | hz
   ·exact hnd.1 (.inr (.inl hz2))
   ·exact hnd.2.2.2 z hz z (.inl hz2) rfl
   ·exact hnd.2.2.1.2.2 z hz2 z hz rfl)
  (fun v' hv' mv=>by
   rw [hκ] at hv'
   cases hv'
   refine ⟨b,v1++v::v2,f1++([]++f3),hv,hb,?_,rfl⟩
   rw [zHh _ (zAO hc)]
   exact zLC (VRs.mv mv _ _ _ (fun _ _=>rfl) q1) (by unfold VR; exact ⟨by rw [List.getElem?_append_right (by rw [h1.len]; omega),h1.len]; simp,rfl⟩) ho (VRs.mv mv _ _ _ (fun _ _=>rfl) q3))
  (fun mv=>by
   have:=VR.mv mv _ _ _ (fun _ _=>rfl) q2
   unfold VR at this
   exact this)
 exact ⟨_,_,hs.1,h2.mv (hs.2.mv A0),hs.2.m m⟩
theorem zAT {cs:List AV} {t' sz:Nat} {rows:List (List AV)} (hk:H[k]?=some (.box t cs)) (hc:cs[o]?=some (.hd j)) (hj:H[j]?=some (.vec t' sz rows)) (hjk:Nat.beq j k=false) :
  Rep n m e H e ((H.set k (.box t (cs.set o (.osl t' sz rows)))).set j .dead):=by
 intro w A0 κ fp F h1 h2
 have hjk':j≠k:=fun h=>by subst h; simp at hjk
 have hkl:k<κ.length:=by rw [h1.len]; exact zAO hk
 have hκ:=List.getElem?_eq_getElem hkl
 obtain ⟨b,vs,f',hv,hb,hvs,hfp⟩:=h1.ent k _ _ hk hκ
 obtain ⟨v1,v,v2,f1,f2,f3,rfl,hl,rfl,ho,q1,q2,q3⟩:=zJa hvs hc
 unfold VR at q2
 obtain ⟨q2,rfl⟩:=q2
 have hjr:=h1.ent j _ _ hj q2
 have hnd:=h1.nd k
 rw [hfp] at hnd
 have hnj:=h1.nd j
 have hdis:∀ x,x∈fp j→x ∉ b::(f1++([]++f3)):=fun x hx hm=>hjk' (h1.dj j k x hx (by rw [hfp]; exact hm))
 have hs:=h1.set2 (w':=w) (k:=k) (j:=j) (e1 := .box t (cs.set o (.osl t' sz rows))) (f1:=b::(f1++(fp j++f3))) (zAO hk) (zAO hj) hjk' (KpS.refl _ _)
  (fun x hx=>by
   simp only [List.mem_cons,List.mem_append] at hx
   rcases hx with rfl | hx | hx | hx
   ·left; rw [hfp]; simp
   ·left; rw [hfp]; simp [hx]
   ·exact .inr (.inl hx)
   ·left; rw [hfp]; simp [hx])
  (by
   simp only [List.nodup_cons,List.nodup_append,List.mem_append,List.nil_append] at hnd ⊢
   simp only [List.mem_cons,List.mem_append,List.nil_append] at hdis
   refine ⟨fun hm => ?_,hnd.2.1,⟨hnj,hnd.2.2.1,fun a ha b hb=>by rintro rfl; exact hdis a ha (by simp [hb])⟩,fun a ha b hb => ?_⟩
   ·rcases hm with hm | hm | hm
    ·exact hnd.1 (.inl hm)
    ·exact hdis b hm (by simp)
    ·exact hnd.1 (.inr hm)
   ·rcases hb with hb | hb
    ·rintro rfl; exact hdis a hb (by simp [ha])
    ·exact hnd.2.2.2 a ha b hb)
  (fun v' hv' mv=>by
   rw [hκ] at hv'
   cases hv'
   refine ⟨b,v1++v::v2,f1++(fp j++f3),hv,hb,?_,rfl⟩
   rw [zHh _ (zAO hc)]
   refine zLC (VRs.mv mv _ _ _ (fun _ _=>rfl) q1) ?_ ho (VRs.mv mv _ _ _ (fun _ _=>rfl) q3)
   have:=ER.mv mv (fun _ _=>rfl) hjr
   unfold VR
   exact this)
 exact ⟨_,_,hs.1,h2.mv (hs.2.mv A0),hs.2.m m⟩
theorem zW3 {t' sz:Nat} {rows:List (List AV)} (hj:H[j]?=some (.vec t' sz rows)) (he:∀ i,e' i=e i∨(e i = .hd j∧e' i = .sl false (zPL rows))):Rep n m e H e' (H.set j .dead):=by
 intro w A0 κ fp F h1 h2
 have hs:=h1.set1 (w':=w) (k:=j) (e1 := .dead) (f1:=[]) (zAO hj) (KpS.refl _ _) (by simp) (by simp) (fun _ _ _=>rfl)
 refine ⟨_,_,hs.1,fun i hi => ?_,hs.2.m m⟩
 have h3:=(h2.mv (hs.2.mv A0)) i hi
 rcases he i with h | ⟨h4,h5⟩
 ·rw [h]; exact h3
 ·have h6:=h2 i hi
  rw [h4] at h6
  unfold VR at h6
  have hjr:VR w (avd A0 fp) κ (.osl t' sz rows) (F i) (fp j):=by
   have:=h1.ent j _ _ hj h6.1
   unfold VR
   exact this
  rw [h5]
  have:=VR.frz (A':=avd A0 (zFV fp j [])) (fun b hb=>((hs.2.mv A0).av b hb).elim id (fun h=>absurd h (by
   rcases hb with hb | ⟨i,hb⟩
   ·exact Nat.not_le.2 (h1.old b hb)
   ·exact Nat.not_le.2 (hs.1.lt i b hb)))) _ _ _ (fun b hb hA=>by
    rcases hA with hA | ⟨i,hA⟩
    ·exact h1.na j b hb hA
    ·unfold zFV at hA
     split at hA
     ·cases hA
     ·rename_i hne; exact hne (h1.dj i j b hA hb)) hjr
  unfold Go.Am.frz at this
  exact this
def zUA (e:zBv) (j:Nat):List Nat→Prop
 | []=>True
 | d::ds=>e d = .hd j∧zUA e j ds
theorem zUA.get {e:zBv} {j:Nat}:∀ {ds:List Nat},zUA e j ds → ∀ i,ds.any (Nat.beq i)=true→e i = .hd j
 | [],_,i,h=>by simp at h
 | d::ds,hd,i,h=>by
  simp only [List.any_cons,Bool.or_eq_true] at h
  rcases h with h | h
  ·have:=Nat.eq_of_beq_eq_true h
   subst this
   exact hd.1
  ·exact zUA.get hd.2 i h
def zZq (e:zBv) (ds:List Nat) (a:AV):zBv:=fun i=>bif ds.any (Nat.beq i) then a else e i
theorem zFP {t' sz:Nat} {rows rows':List (List AV)} (hj:H[j]?=some (.vec t' sz rows)) (hr:zPL rows=rows') {ds:List Nat} (hd:zUA e j ds):Rep n m e H (zZq e ds (.sl false rows')) (H.set j .dead) :=
 zW3 hj fun i=>by
  unfold zZq
  cases hb:ds.any (Nat.beq i) with
  | false=>exact .inl rfl
  | true=>exact .inr ⟨hd.get i hb,by rw [hr]; rfl⟩
end
end Go.Am
namespace Go.Am
open Go Go.RowKit Go.Wk
section
variable {w:World} {A:Nat→Prop} {κ:List Value}
theorem zT6 {r:List AV} {v:List Value} (h:VRs w A κ r v []):∀ (c:Nat),VRr w A κ (List.replicate c r) (List.replicate c v) []
 | 0=>by unfold VRr; exact ⟨rfl,rfl⟩
 | c+1=>by
  rw [List.replicate_succ,List.replicate_succ]
  unfold VRr
  exact ⟨v,_,[],[],rfl,rfl,h,zT6 h c⟩
theorem zPg:∀ {rows:List (List AV)} {vr:List (List Value)} {fp:List Nat},VRr w A κ rows vr fp → ∀ r,r∈vr → ∀ u,u∈r→u.oneCell'=true
 | [],_,_,h=>by unfold VRr at h; rw [h.1]; simp
 | r::rs,_,_,h=>by
  unfold VRr at h
  obtain ⟨u,vs',f1,f2,rfl,rfl,h4,h5⟩:=h
  intro x hx
  rcases List.mem_cons.1 hx with rfl | hx
  ·exact zOO h4
  ·exact zPg h5 x hx
theorem zPZ {sz:Nat}:∀ {rows:List (List AV)} {vr:List (List Value)} {fp:List Nat},VRr w A κ rows vr fp→(∀ r,r∈rows→r.length=sz) → ∀ r,r∈vr→r.length=sz
 | [],_,_,h,_=>by unfold VRr at h; rw [h.1]; simp
 | r::rs,_,_,h,hl=>by
  unfold VRr at h
  obtain ⟨u,vs',f1,f2,rfl,rfl,h4,h5⟩:=h
  intro x hx
  rcases List.mem_cons.1 hx with rfl | hx
  ·rw [zFH h4]; exact hl r (by simp)
  ·exact zPZ h5 (fun r hr=>hl r (by simp [hr])) x hx
theorem zVx {full:Bool} {rows:List (List AV)} {v:Value} {sz:Nat} (h:VR w A κ (.sl full rows) v []) (hl:∀ r,r∈rows→r.length=sz):∃ vr,Src w sz v vr∧VRr w A [] rows vr []:=by
 unfold VR at h
 obtain ⟨_,a,c,rfl,h3,h4,h5,h6⟩:=h
 rcases h6 with rfl | ⟨b,o,sz',vr,rfl,hA,hb,h7,h8,h9⟩
 ·exact ⟨[],⟨a,c,rfl,Nat.zero_le _,fun r hr=>by simp at hr,fun r hr=>by simp at hr,.inl rfl⟩,by unfold VRr; exact ⟨rfl,rfl⟩⟩
 ·have hlen:=zFo h7
  exact ⟨vr,⟨some ⟨b,o,none⟩,c,by rw [hlen],by omega,zPZ h7 hl,zPg h7,.inr ⟨b,o,rfl,h9⟩⟩,h7⟩
end
section
variable {P:Program} {n m:Nat} {e e':zBv} {H G:zAM} {x y:Operand} {k j o:Nat} {ty t:TypeId} {ops:Array Oper} {rest:List Oper} {kk:zBv→zAM→Prop} {d tt:Nat} {p:String} {af:Array Edge}
theorem zUw {el sz bytes:Nat} {z:Value} {kx ky:IntKind} {a c:Int} {zr:List AV} (hE:zMm P el sz z bytes) (hzr:zLh (z.cells.toList.map .lit) zr) (hz1:z.cells.toList.all (·.oneCell')=true) (ht:P.underlying t=some (.slice el)) (hx:aev n e x = .lit (.int kx a)) (hy:aev n e y = .lit (.int ky c))
  (hb:(decide (0≤a)&&decide (a≤c)&&decide (c*(bytes:Int)≤4294967296))=true) (hk:ALW P n m ops rest kk (zHQ e d (.hd H.length)) (H++[.vec el sz (List.replicate a.toNat zr)])) :
  ALW P n m ops (⟨some d,.makeSlice t x y,tt,p,af,none⟩::rest) kk e H:=by
 intro w A0 κ fp F h1 h2
 simp only [Bool.and_eq_true,decide_eq_true_eq] at hb
 have hx':=zAo h2 hx
 have hy':=zAo h2 hy
 rw [← Int.toNat_of_nonneg hb.1.1] at hx'
 rw [← Int.toNat_of_nonneg (show 0≤c by omega)] at hy'
 refine zWX hE ht hx' hy' (by omega) ?_ ?_
 ·have h3:((c.toNat:Nat):Int)=c:=Int.toNat_of_nonneg (by omega)
  have h4:=hb.2
  rw [← h3] at h4
  have:((c.toNat*bytes:Nat):Int)≤4294967296:=by rw [Int.natCast_mul]; exact h4
  omega
 ·intro b w' hb1 hb2 hkp hO
  have hvz:=hzr.vrs (zM5 (w:=w') (A:=fun _=>False) (κ:=[]) _ hz1)
  have hs:=h1.push (e2 := .vec el sz (List.replicate a.toNat zr)) (v2 := .slice (some ⟨b,0,none⟩) a.toNat c.toNat) (f2:=[b]) (w':=w') (KpS.of hkp (fun q hq=>by cases hq)) (by simp; omega) (by simp)
   (fun mv=>⟨some b,_,[],hO,zT6 (hzr.vrs (zM5 _ hz1)) _,rfl⟩)
  refine zCe (hk w' A0 _ _ _ hs.1 ((h2.mv (hs.2.mv A0)).upd ?_)) (fun _ _=>zAy (hs.2.m m))
  unfold VR
  exact ⟨by rw [← h1.len,List.getElem?_append_right (Nat.le_refl _)]; simp,rfl⟩
theorem zMV {el sz bytes:Nat} {z:Value} (hE:zMm P el sz z bytes) (ht:P.underlying t=some (.slice el)) (hk:ALW P n m ops rest kk (zHQ e d (.hd H.length)) (H++[.vec el sz []])) :
  ALW P n m ops (⟨some d,.buildSlice t 0 #[],tt,p,af,none⟩::rest) kk e H:=by
 intro w A0 κ fp F h1 h2
 refine zWM hE ht ?_
 intro b w' hb1 hb2 hkp hO
 have hs:=h1.push (e2 := .vec el sz []) (v2 := .slice (some ⟨b,0,none⟩) 0 0) (f2:=[b]) (w':=w') (KpS.of hkp (fun q hq=>by cases hq)) (by simp; omega) (by simp)
  (fun mv=>⟨some b,_,[],hO,by unfold VRr; exact ⟨rfl,rfl⟩,rfl⟩)
 refine zCe (hk w' A0 _ _ _ hs.1 ((h2.mv (hs.2.mv A0)).upd ?_)) (fun _ _=>zAy (hs.2.m m))
 unfold VR
 exact ⟨by rw [← h1.len,List.getElem?_append_right (Nat.le_refl _)]; simp,rfl⟩
def zKX:AV→List AV
 | .agg cs=>cs
 | a=>[a]
def nrE (a:AV):Bool:=match a with
 | .lit _ | .sl .. | .rp .. => true
 | _=>false
def nrP (a:AV):Bool:=match a with
 | .lit u=>u.oneCell'
 | .sl .. | .rp .. => true
 | .agg cs=>cs.all nrE
 | _=>false
theorem zYX {w:World} {A:Nat→Prop} {κ κ':List Value} {a:AV} {v:Value} (h:nrP a=true) (hv:VR w A κ a v []):∃ r,v.cells=r.toArray∧VRs w A κ' (zKX a) r []:=by
 cases a with
 | agg cs =>
  unfold VR at hv
  obtain ⟨vs,rfl,hv⟩:=hv
  refine ⟨vs,rfl,zMY ?_ hv⟩
  simp only [nrP] at h
  refine List.all_eq_true.2 (fun a ha => ?_)
  have:=List.all_eq_true.1 h a ha
  cases a <;> simp_all [nrE,nr]
 | lit u =>
  have h1:v=u:=zTR hv
  subst h1
  exact ⟨[v],zK8 h,by unfold zKX VRs; exact ⟨v,[],[],[],rfl,rfl,h,zH2 _ _ _ _,by unfold VRs; exact ⟨rfl,rfl⟩⟩⟩
 | sl f rows =>
  have h1:=zZL (a := .sl f rows) rfl hv
  exact ⟨[v],zK8 h1,by unfold zKX VRs; exact ⟨v,[],[],[],rfl,rfl,h1,zPV (a := .sl f rows) rfl hv,by unfold VRs; exact ⟨rfl,rfl⟩⟩⟩
 | rp f rows =>
  have h1:=zZL (a := .rp f rows) rfl hv
  exact ⟨[v],zK8 h1,by unfold zKX VRs; exact ⟨v,[],[],[],rfl,rfl,h1,zPV (a := .rp f rows) rfl hv,by unfold VRs; exact ⟨rfl,rfl⟩⟩⟩
 | _=>simp [nrP] at h
theorem zHF {el sz bytes:Nat} {z:Value} {a:AV} (hE:zMm P el sz z bytes) (ht:P.underlying t=some (.slice el)) (hx:aev n e x=a) (ha:nrP a=true) (hl:(zKX a).length=sz) (hsz:Nat.ble sz 16=true) (hk:ALW P n m ops rest kk (zHQ e d (.hd H.length)) (H++[.vec el sz [zKX a]])) :
  ALW P n m ops (⟨some d,.buildSlice t 1 #[(0,x)],tt,p,af,none⟩::rest) kk e H:=by
 intro w A0 κ fp F h1 h2
 have hv:=h2.ev x
 rw [hx] at hv
 obtain ⟨r,hr1,hr2⟩:=zYX (κ':=[]) ha hv
 refine zXP hE ht rfl hr1 (by rw [zFH hr2,hl]) (Nat.le_of_ble_eq_true hsz) ?_
 intro b w' hb1 hb2 hkp hO
 have hs:=h1.push (e2 := .vec el sz [zKX a]) (v2 := .slice (some ⟨b,0,none⟩) 1 1) (f2:=[b]) (w':=w') (KpS.of hkp (fun q hq=>by cases hq)) (by simp; omega) (by simp)
  (fun mv=>⟨some b,_,[],hO,by unfold VRr; exact ⟨r,[],[],[],rfl,rfl,VRs.mv mv.nil _ _ _ (fun _ hq=>by cases hq) hr2,by unfold VRr; exact ⟨rfl,rfl⟩⟩,rfl⟩)
 refine zCe (hk w' A0 _ _ _ hs.1 ((h2.mv (hs.2.mv A0)).upd ?_)) (fun _ _=>zAy (hs.2.m m))
 unfold VR
 exact ⟨by rw [← h1.len,List.getElem?_append_right (Nat.le_refl _)]; simp,rfl⟩
theorem zNz {w:World} {A0:Nat→Prop} {κ:List Value} {fp:Nat→List Nat} {F:Env} {el sz bytes:Nat} {z:Value} {rows ns:List (List AV)} (h1:SH w A0 H κ fp) (h2:zKd w (avd A0 fp) κ n e F) (hE:zMm P el sz z bytes) (ht:P.underlying t=some (.slice el))
  (hx:aev n e x = .hd k) (hkk:H[k]?=some (.vec el sz rows)) {xv:Value} (hy:ev n F y=xv) {vn:List (List Value)} (hsrc:Src w sz xv vn) (hvn:VRr w (avd A0 fp) [] ns vn []) (hb:decide ((rows.length+ns.length)*bytes≤4294967296)=true)
  (hk:ALW P n m ops rest kk (zHQ e d (.hd H.length)) (H.set k .dead++[.vec el sz (rows++ns)])) :
  LW P n ops (⟨some d,.call { callee := .builtin .append,args := #[x,y],argTypes := #[t,t] },tt,p,af,none⟩::rest) (conc n m w A0 κ fp kk) F w:=by
 have hv:=h2.ev x
 rw [hx] at hv
 unfold VR at hv
 obtain ⟨g,vr,f',hO,hr,hfp,hlen⟩:=zIK h1 hkk hv.1
 have hnl:=zFo hvn
 refine zUb hE ht rfl hy hO hsrc (by rw [hlen,hnl]; exact of_decide_eq_true hb) ?_
 intro v' g' w' hO' hkp hg'
 have hnd:=h1.nd k
 rw [hfp] at hnd
 have hgl:∀ q,q∈g'.toList→q∈g.toList∨w.heap.size≤q:=fun q hq=>by
  rcases hg' with rfl | ⟨b,rfl,hb⟩
  ·exact .inl hq
  ·simp at hq; subst hq; exact .inr hb
 have hs:=h1.setpush (w':=w') (k:=k) (e1 := .dead) (e2 := .vec el sz (rows++ns)) (v2:=v') (f1:=[]) (f2:=g'.toList++f') (zAO hkk) (KpS.of hkp (fun q hq=>by rw [hfp]; exact List.mem_append_left _ hq)) (by simp)
  (fun q hq=>by
   rcases List.mem_append.1 hq with hq | hq
   ·rcases hgl q hq with h | h
    ·exact .inl (by rw [hfp]; exact List.mem_append_left _ h)
    ·exact .inr h
   ·exact .inl (by rw [hfp]; exact List.mem_append_right _ hq)) (by simp)
  (by
   rw [List.nodup_append] at hnd ⊢
   refine ⟨by cases g' <;> simp,hnd.2.1,fun a ha b hb => ?_⟩
   rintro rfl
   rcases hgl a ha with h | h
   ·exact hnd.2.2 a h a hb rfl
   ·have:=h1.lt k a (by rw [hfp]; exact List.mem_append_right _ hb); omega) (by simp)
  (fun _ _ _=>rfl)
  (fun mv=>⟨g',vr++vn,f',hO',by
   have hsame:∀ q,q∈f'→w'.heap[q]?=w.heap[q]?:=fun q hq=>hkp.block q (h1.lt k q (by rw [hfp]; exact List.mem_append_right _ hq)) (fun hm=>by
    rw [List.nodup_append] at hnd; exact hnd.2.2 q hm q hq rfl)
   have:=zIw.2 ⟨vr,vn,f',[],rfl,rfl,VRr.mv mv.nil _ _ _ hsame hr,VRr.mv mv.nil _ _ _ (fun _ hq=>by cases hq) hvn⟩
   rwa [List.append_nil] at this,rfl⟩)
 refine zCe (hk w' A0 _ _ _ hs.1 ((h2.mv (hs.2.mv A0)).upd ?_)) (fun _ _=>zAy (hs.2.m m))
 unfold VR
 exact ⟨by rw [← h1.len,List.getElem?_append_right (Nat.le_refl _)]; simp,rfl⟩
theorem zSu {el sz bytes:Nat} {z:Value} {rows ns:List (List AV)} {full:Bool} (hE:zMm P el sz z bytes) (ht:P.underlying t=some (.slice el)) (hx:aev n e x = .hd k) (hkk:H[k]?=some (.vec el sz rows)) (hy:aev n e y = .sl full ns) (hl:∀ r,r∈ns→r.length=sz) (hb:decide ((rows.length+ns.length)*bytes≤4294967296)=true)
  (hk:ALW P n m ops rest kk (zHQ e d (.hd H.length)) (H.set k .dead++[.vec el sz (rows++ns)])) :
  ALW P n m ops (⟨some d,.call { callee := .builtin .append,args := #[x,y],argTypes := #[t,t] },tt,p,af,none⟩::rest) kk e H:=by
 intro w A0 κ fp F h1 h2
 have hyv:=h2.ev y
 rw [hy] at hyv
 obtain ⟨vn,hs1,hs2⟩:=zVx hyv hl
 exact zNz h1 h2 hE ht hx hkk rfl hs1 hs2 hb hk
theorem zWn:∀ {w:World} {A:Nat→Prop} {κ:List Value} {rows:List (List AV)} {vr:List (List Value)} {fp:List Nat},(rows.all fun r=>r.all isE)=true→VRr w A κ rows vr fp→fp=[]
 | _,_,_,[],_,_,_,h=>by unfold VRr at h; exact h.2
 | _,_,_,a::la,_,_,hE,h=>by
  simp only [List.all_cons,Bool.and_eq_true] at hE
  unfold VRr at h
  obtain ⟨u,vs',f1,f2,rfl,rfl,h4,h5⟩:=h
  rw [zUh hE.1 h4,zWn hE.2 h5]; rfl
theorem zQ9 {el sz bytes:Nat} {z:Value} {rows ns:List (List AV)} {el':Nat} (hE:zMm P el sz z bytes) (ht:P.underlying t=some (.slice el)) (hx:aev n e x = .hd k) (hkk:H[k]?=some (.vec el sz rows)) (hy:aev n e y = .hd j) (hj:H[j]?=some (.vec el' sz ns)) (hEE:(ns.all fun r=>r.all isE)=true) (hb:decide ((rows.length+ns.length)*bytes≤4294967296)=true)
  (hk:ALW P n m ops rest kk (zHQ e d (.hd H.length)) (H.set k .dead++[.vec el sz (rows++ns)])) :
  ALW P n m ops (⟨some d,.call { callee := .builtin .append,args := #[x,y],argTypes := #[t,t] },tt,p,af,none⟩::rest) kk e H:=by
 intro w A0 κ fp F h1 h2
 have hyv:=h2.ev y
 rw [hy] at hyv
 unfold VR at hyv
 obtain ⟨g,vn,f',hO,hr,hfp,hlen⟩:=zIK h1 hj hyv.1
 have:=zWn hEE hr
 subst this
 exact zNz h1 h2 hE ht hx hkk rfl (zUI hO (zPg hr)) hr hb hk
theorem zPo {el sz:Nat} (hd:e d = .lit (.slice none 0 0)):Rep n m e H (zHQ e d (.hd H.length)) (H++[.vec el sz []]):=by
 intro w A0 κ fp F h1 h2
 have hs:=h1.push (e2 := .vec el sz []) (v2 := .slice none 0 0) (f2:=[]) (w':=w) (KpS.refl _ _) (by simp) (by simp) (fun _=>⟨none,[],[],zUC w el sz,by unfold VRr; exact ⟨rfl,rfl⟩,rfl⟩)
 refine ⟨_,_,hs.1,fun i hi => ?_,hs.2.m m⟩
 have h3:=(h2.mv (hs.2.mv A0)) i hi
 unfold zHQ
 cases hb:Nat.beq i d with
 | false=>exact h3
 | true =>
  have hid:i=d:=Nat.eq_of_beq_eq_true hb
  subst hid
  have h4:=h2 i hi
  rw [hd] at h4
  have h5:=zTR h4
  show VR _ _ _ (.hd H.length) _ _
  unfold VR
  exact ⟨by rw [h5, ← h1.len,List.getElem?_append_right (Nat.le_refl _)]; simp,rfl⟩
theorem zRU {cs sp:List Value} {j:Nat} {v:Value} (h:j<cs.length):(cs++sp).set j v=cs.set j v++sp:=List.set_append_left _ _ h
theorem zRd {rows:List (List Value)} {sz i j:Nat} (h:∀ r,r∈rows→r.length=sz) (hi:i<rows.length) (hj:j<sz):i*sz+j<rows.flatten.length:=by
 rw [zEe h]
 have:(i+1)*sz≤rows.length*sz:=Nat.mul_le_mul_right _ hi
 rw [Nat.succ_mul] at this
 omega
theorem zJq {w':World} {T sz b cap:Nat} {v:Value} {vr vr':List (List Value)} {sp:List Value} (hv:v = .slice (some ⟨b,0,none⟩) vr.length cap) (h3:vr.length≤cap) (h4:vr.length≤140737488355328∧cap≤maxLen) (h5:Blk w' b T (vr'.flatten++sp)) (h6:(vr.flatten++sp).length=cap*sz) (hl:∀ r,r∈vr→r.length=sz) (hl':∀ r,r∈vr'→r.length=sz) (hn:vr'.length=vr.length):zKO w' T sz (some b) v vr':=by
 refine ⟨hl',.inr ⟨b,cap,sp,rfl,by rw [hn]; exact hv,by omega,by rw [hn]; exact h4,h5,?_⟩⟩
 have e1:=zEe hl
 have e2:=zEe hl'
 rw [hn] at e2
 simp only [List.length_append] at h6 ⊢
 omega
theorem zQs {s i c:Nat} {T:TypeId} {rows:List (List AV)} {row:List AV} {a:AV} (hz:∀ w,(sizeOf t).run P w = .ok 1 w) (hx:aev n e x = .ptr k o) (hk:H[k]?=some (.vec T s rows)) (ho:o=i*s+c) (hr:rows[i]?=some row) (hc:c<row.length) (hy:Sub (aev n e y) a) (ha:isC a=true) (hn:nr a=true) :
  zR3 P n e H (.store t x y) (H.set k (.vec T s (rows.set i (row.set c a)))):=by
 intro w A0 κ fp F h1 h2
 have hv:=h2.ev x
 rw [hx] at hv
 unfold VR at hv
 obtain ⟨_,u,b,g1,g2,hv⟩:=hv
 obtain ⟨vr,cap,sp,f',hO,h6,h7,h8,h9,h10,h3,h4,h5,hls⟩:=zNw h1 hk g1 g2
 have hyv:=hy _ _ _ _ (h2.ev y)
 have hone:=zZL ha hyv
 obtain ⟨v1,r,v2,f1,f2,f3,rfl,hl1,rfl,q1,q2,q3⟩:=zLr h3 hr
 have hco:=List.getElem?_eq_getElem hc
 obtain ⟨p1,pv,p2,f4,f5,f6,rfl,hl2,rfl,_,q4,q5,q6⟩:=zJa q2 hco
 have hrl:=hls _ (List.mem_of_getElem? (zGZ hl1))
 have hcs:c<s:=by rw [← hrl]; simp; omega
 have hil:i<(v1++(p1++pv::p2)::v2).length:=by simp; omega
 have hfl:=zRd hls hil hcs
 subst ho
 have hkp:Kp [b] w (w.setCell ⟨b,i*s+c,none⟩ (ev n F y)):=Kp.setCell w ⟨b,i*s+c,none⟩ (ev n F y)
 have hnd:=h1.nd k
 rw [h4] at hnd
 have hsub:(b::(f1++((f4++([]++f6))++f3))).Sublist (b::(f1++((f4++(f5++f6))++f3))):=(zJW (zJW (List.nil_sublist _))).cons_cons b
 have hs:=h1.set1 (k:=k) (e1 := .vec T s (rows.set i (row.set c a))) (f1:=b::(f1++((f4++([]++f6))++f3))) (zAO hk) (KpS.of hkp (fun x hx=>by simp at hx; subst hx; rw [h4]; simp)) (fun x hx => .inl (by rw [h4]; exact hsub.mem hx)) (hnd.sublist hsub) (fun v' hv' mv=>by
  rw [g1] at hv'
  cases hv'
  have hne:∀ q,q∈f1++((f4++(f5++f6))++f3)→(w.setCell ⟨b,i*s+c,none⟩ (ev n F y)).heap[q]?=w.heap[q]?:=fun q hq=>by
   have hql:q<w.heap.size:=h1.lt k q (by rw [h4]; exact List.mem_cons_of_mem _ hq)
   exact hkp.block q hql (by simp; rintro rfl; exact (List.nodup_cons.1 hnd).1 hq)
  refine ⟨some b,v1++(p1++ev n F y::p2)::v2,_,?_,?_,rfl⟩
  ·refine zJq h6 h7 h8 ?_ h10 hls (fun r hr => ?_) (by simp)
   ·have:=h9.set (j:=i*s+c) (v:=ev n F y)
    rw [zRU hfl,zPl hls (zGZ hl1) hcs,zKy hl2,zKy hl1] at this
    exact this
   ·simp only [List.mem_append,List.mem_cons] at hr
    rcases hr with hr | rfl | hr
    ·exact hls r (by simp [hr])
    ·rw [← hrl]; simp
    ·exact hls r (by simp [hr])
  ·rw [zHh _ (zAO hr),zHh _ hc]
   exact zNT (VRr.mv mv.nil _ _ _ (fun q hq=>hne q (by simp [hq])) q1) (zLC (VRs.mv mv.nil _ _ _ (fun q hq=>hne q (by simp [hq])) q4) (zPV hn (VR.mv mv _ _ _ (fun q hq=>by cases hq) hyv)) hone (VRs.mv mv.nil _ _ _ (fun q hq=>hne q (by simp [hq])) q6)) (VRr.mv mv.nil _ _ _ (fun q hq=>hne q (by simp [hq])) q3))
 exact ⟨_,_,_,zJ3 hz h9 (by simp only [List.length_append]; omega) hone hv rfl,hs.1,hs.2⟩
theorem zQP {s i:Nat} {T:TypeId} {rows:List (List AV)} {la:List AV} (hz:∀ w,(sizeOf t).run P w = .ok s w) (hx:aev n e x = .ptr k o) (hk:H[k]?=some (.vec T s rows)) (ho:o=i*s) (hi:i<rows.length) (hy:aev n e y = .agg la) (hl:la.length=s) (hn:la.all nr=true) :
  zR3 P n e H (.store t x y) (H.set k (.vec T s (rows.set i la))):=by
 intro w A0 κ fp F h1 h2
 have hv:=h2.ev x
 rw [hx] at hv
 unfold VR at hv
 obtain ⟨_,u,b,g1,g2,hv⟩:=hv
 obtain ⟨vr,cap,sp,f',hO,h6,h7,h8,h9,h10,h3,h4,h5,hls⟩:=zNw h1 hk g1 g2
 have hyv:=h2.ev y
 rw [hy] at hyv
 unfold VR at hyv
 obtain ⟨ys,hy',hyr⟩:=hyv
 have hyl:=zFH hyr
 obtain ⟨v1,r,v2,f1,f2,f3,rfl,hl1,rfl,q1,q2,q3⟩:=zLr h3 (List.getElem?_eq_getElem hi)
 have hrl:=hls _ (List.mem_of_getElem? (zGZ hl1))
 have hil:i<(v1++r::v2).length:=by simp; omega
 subst ho
 have hfl:i*s+ys.length≤(v1++r::v2).flatten.length:=by
  rw [zEe hls,hyl,hl, ← Nat.succ_mul]
  exact Nat.mul_le_mul_right _ hil
 obtain ⟨w',r1,hkp,_,r4⟩:=zLv (P:=P) (by rw [hyl,hl]; exact hz) h9 (by simp only [List.length_append] at hfl ⊢; omega) (zOO hyr) hv hy'
 have hnd:=h1.nd k
 rw [h4] at hnd
 have hsub:(b::(f1++([]++f3))).Sublist (b::(f1++(f2++f3))):=(zJW (List.nil_sublist _)).cons_cons b
 have hs:=h1.set1 (k:=k) (e1 := .vec T s (rows.set i la)) (f1:=b::(f1++([]++f3))) (zAO hk) (KpS.of hkp (fun x hx=>by simp at hx; subst hx; rw [h4]; simp)) (fun x hx => .inl (by rw [h4]; exact hsub.mem hx)) (hnd.sublist hsub) (fun v' hv' mv=>by
  rw [g1] at hv'
  cases hv'
  have hne:∀ q,q∈f1++(f2++f3)→w'.heap[q]?=w.heap[q]?:=fun q hq=>by
   have hql:q<w.heap.size:=h1.lt k q (by rw [h4]; exact List.mem_cons_of_mem _ hq)
   exact hkp.block q hql (by simp; rintro rfl; exact (List.nodup_cons.1 hnd).1 hq)
  refine ⟨some b,v1++ys::v2,_,?_,?_,rfl⟩
  ·refine zJq h6 h7 h8 ?_ h10 hls (fun r hr => ?_) (by simp)
   ·have e1:zDx ((v1++r::v2).flatten++sp) (i*s) ys=(v1++ys::v2).flatten++sp:=by
     have:=zSo hls (i:=i) (vs:=ys) hil (by rw [hyl,hl])
     rw [zKy hl1] at this
     rw [← this]
     unfold zDx
     rw [List.take_append_of_le_length (by omega),List.drop_append_of_le_length hfl]
     simp
    rw [e1] at r4
    exact r4
   ·simp only [List.mem_append,List.mem_cons] at hr
    rcases hr with hr | rfl | hr
    ·exact hls r (by simp [hr])
    ·rw [hyl,hl]
    ·exact hls r (by simp [hr])
  ·rw [zHh _ hi]
   exact zNT (VRr.mv mv.nil _ _ _ (fun q hq=>hne q (by simp [hq])) q1) (zMY hn (VRs.mv mv _ _ _ (fun q hq=>by cases hq) hyr)) (VRr.mv mv.nil _ _ _ (fun q hq=>hne q (by simp [hq])) q3))
 exact ⟨_,_,_,r1,hs.1,hs.2⟩
end
end Go.Am
namespace Go.Am
open Go Go.RowKit Go.Wk
def PFn (P:Program) (f:FuncId) (args:List AV) (r:AV):Prop :=
 ∀ (w:World) (A:Nat→Prop) (cargs:List Value),(∀ x,A x→x<w.heap.size)→VRt w A [] args cargs [] →
  FnC P f cargs.toArray w (fun v w' => ∃ fr,VR w' (fun b=>A b∨b∈fr) [] r v fr∧fr.Nodup∧(∀ x,x∈fr→w.heap.size≤x)∧KpS (fun _=>False) w w')
def AFn (P:Program) (f:FuncId) (args:List AV) (H:zAM) (r:AV) (H':zAM):Prop :=
 ∀ (w:World) (A0:Nat→Prop) (κ:List Value) (fp:Nat→List Nat) (cargs:List Value),SH w A0 H κ fp→VRt w (avd A0 fp) κ args cargs [] →
  FnC P f cargs.toArray w (fun v w' => ∃ κ' fp',SH w' A0 H' κ' fp'∧VR w' (avd A0 fp') κ' r v []∧zHp H.length w fp κ w' fp' κ')
def zY0 (args:List AV):zBv:=fun i=>args.getD i (.lit undef)
theorem zPQ {w:World} {A:Nat→Prop} {κ:List Value}:∀ {la:List AV} {vs:List Value} {fp:List Nat},VRt w A κ la vs fp→vs.length=la.length
 | [],_,_,h=>by unfold VRt at h; rw [h.1]; rfl
 | r::rs,_,_,h=>by
  unfold VRt at h
  obtain ⟨u,vs',f1,f2,rfl,rfl,h4,h5⟩:=h
  simp [zPQ h5]
theorem zRr {w:World} {A:Nat→Prop} {κ:List Value} {args:List AV} {cargs:List Value} {n:Nat} (h:VRt w A κ args cargs []):zKd w A κ n (zY0 args) (zOF cargs.toArray):=by
 intro t _
 unfold zY0 zOF
 have hl:=zPQ h
 rcases Nat.lt_or_ge t args.length with ht | ht
 ·obtain ⟨v,h1,h2⟩:=zRj h (List.getElem?_eq_getElem ht)
  have e1:args.getD t (.lit undef)=args[t]:=by rw [List.getD_eq_getElem?_getD,List.getElem?_eq_getElem ht]; rfl
  have e2:cargs.toArray.getD t undef=v:=by
   have:t<cargs.length:=by omega
   simp [Array.getD,this]
   rw [List.getElem?_eq_getElem this] at h1
   simpa using h1
  rw [e1,e2]
  exact h2
 ·have e1:args.getD t (.lit undef) = .lit undef:=by rw [List.getD_eq_getElem?_getD,List.getElem?_eq_none ht]; rfl
  have e2:cargs.toArray.getD t undef=undef:=by
   have:¬ t<cargs.length:=by omega
   simp [Array.getD,this]
  rw [e1,e2]
  exact zH2 _ _ _ _
section
theorem zUd {P:Program} {w:World} {ty b T:Nat} {cs:List Value} (ha:∀ w,(isAgg ty).run P w = .ok true w) (hs:∀ w,(sizeOf ty).run P w = .ok cs.length w) (hb:Blk w b T cs):(loadVar ty ⟨b,0,none⟩).run P w = .ok (.agg cs.toArray) w:=by
 have hl:(loadCells ⟨b,0,none⟩ cs.length).run P w = .ok cs.toArray w:=run_loadCells_list w ⟨b,0,none⟩ cs (fun j v hv=>by
  rw [Addr.add_lit]
  exact hb.cells j v hv)
 simp only [loadVar,Sem.run_bind,ha,hs,hl,Result.andThen_ok,if_true,Sem.run_pure]
theorem zSG {n t:Nat} {F:Env} {v:Value} (h:ev n F (.tmp t)=v):(fr n F).tmps[t]?.getD undef=v:=by
 have:=congrFun (zKD n F) (.tmp t)
 rw [← h, ← this]
 exact (Array.getD_eq_getD_getElem? ..).symm
end
section
variable {P:Program} {n:Nat}
def zRG (tmps:Array Value) (rv:ResultVar):Sem Value :=
 match rv with
  | .tmp t=>pure (tmps.getD t undef)
  | .cell a t=>do loadVar t (← asAddr (tmps.getD a undef))
def zMp (P:Program) (n:Nat) (F:Env) (w:World) (rv:ResultVar) (v:Value):Prop:=(zRG (fr n F).tmps rv).run P w = .ok v w
theorem zMv (fn:Func) (tmps:Array Value):results fn tmps=(do
  let vs ← fn.results.mapM (zRG tmps)
  pure (if h:vs.size=1 then vs[0] else .tuple vs)):=by
 unfold results
 have:(fun x=>zRG tmps x)=(fun x=>match x with
  | .tmp t=>pure (tmps.getD t undef)
  | .cell a t=>do loadVar t (← asAddr (tmps.getD a undef))):=by funext x; rfl
 rw [show zRG tmps=(fun x=>zRG tmps x) from rfl,this]
 rfl
theorem zTk {F:Env} {w:World} {a:ResultVar} {v:Value} (h:zMp P n F w a v):Res P #[a] n F w v:=by
 intro fn hr
 unfold zMp at h
 rw [zMv,hr]
 simp [h]
theorem zWg {F:Env} {w:World} {a b:ResultVar} {v u:Value} (h:zMp P n F w a v) (h2:zMp P n F w b u):Res P #[a,b] n F w (.tuple #[v,u]):=by
 intro fn hr
 unfold zMp at h h2
 rw [zMv,hr]
 simp [h,h2]
theorem zWC {F:Env} {w:World} {a b c:ResultVar} {v u s:Value} (h:zMp P n F w a v) (h2:zMp P n F w b u) (h3:zMp P n F w c s):Res P #[a,b,c] n F w (.tuple #[v,u,s]):=by
 intro fn hr
 unfold zMp at h h2 h3
 rw [zMv,hr]
 simp [h,h2,h3]
def R1 (P:Program) (n:Nat) (e:zBv) (H:zAM) (rv:ResultVar) (r:AV) (own:Option Nat):Prop :=
 ∀ w A0 κ fp F,SH w A0 H κ fp→zKd w (avd A0 fp) κ n e F → ∃ v fr,zMp P n F w rv v∧VR w (avd A0 fp) [] r v fr∧fr.Nodup ∧ ∀ x,x∈fr → ∃ k,own=some k∧x∈fp k
def zXv (P:Program) (n:Nat) (rs:Array ResultVar) (r:AV) (e:zBv) (H:zAM):Prop :=
 ∀ w A0 κ fp F,SH w A0 H κ fp→zKd w (avd A0 fp) κ n e F → ∃ v fr,Res P rs n F w v∧VR w (avd A0 fp) [] r v fr∧fr.Nodup ∧ ∀ x,x∈fr → ∃ k,x∈fp k
def djO:Option Nat→Option Nat→Bool
 | some a,some b => !Nat.beq a b
 | _,_=>true
theorem zVt {a b:Nat} (h:djO (some a) (some b)=true):a≠b:=by
 rintro rfl
 simp [djO] at h
variable {e:zBv} {H:zAM} {a b c:ResultVar} {r1 r2 r3:AV} {o1 o2 o3:Option Nat}
theorem zy (h:R1 P n e H a r1 o1):zXv P n #[a] r1 e H:=by
 intro w A0 κ fp F g1 g2
 obtain ⟨v,fr,h1,h2,h3,h4⟩:=h w A0 κ fp F g1 g2
 exact ⟨v,fr,zTk h1,h2,h3,fun x hx=>by obtain ⟨k,_,hk⟩:=h4 x hx; exact ⟨k,hk⟩⟩
theorem zCF (h:R1 P n e H a r1 o1) (k:R1 P n e H b r2 o2) (hd:djO o1 o2=true):zXv P n #[a,b] (.tup [r1,r2]) e H:=by
 intro w A0 κ fp F g1 g2
 obtain ⟨v,f1,h1,h2,h3,h4⟩:=h w A0 κ fp F g1 g2
 obtain ⟨u,f2,k1,k2,k3,k4⟩:=k w A0 κ fp F g1 g2
 refine ⟨.tuple #[v,u],f1++(f2++[]),zWg h1 k1,?_,?_,?_⟩
 ·unfold VR
  refine ⟨[v,u],rfl,?_⟩
  unfold VRt
  refine ⟨v,[u],f1,f2++[],rfl,rfl,h2,?_⟩
  unfold VRt
  exact ⟨u,[],f2,[],rfl,rfl,k2,by unfold VRt; exact ⟨rfl,rfl⟩⟩
 ·rw [List.append_nil,List.nodup_append]
  refine ⟨h3,k3,fun x hx y hy => ?_⟩
  rintro rfl
  obtain ⟨i,hi,hxi⟩:=h4 x hx
  obtain ⟨j,hj,hxj⟩:=k4 x hy
  subst hi; subst hj
  exact zVt hd (g1.dj i j x hxi hxj)
 ·intro x hx
  rw [List.append_nil,List.mem_append] at hx
  rcases hx with hx | hx
  ·obtain ⟨i,_,hi⟩:=h4 x hx; exact ⟨i,hi⟩
  ·obtain ⟨i,_,hi⟩:=k4 x hx; exact ⟨i,hi⟩
theorem zEb (h:R1 P n e H a r1 o1) (k:R1 P n e H b r2 o2) (l:R1 P n e H c r3 o3) (hd:(djO o1 o2&&djO o1 o3&&djO o2 o3)=true):zXv P n #[a,b,c] (.tup [r1,r2,r3]) e H:=by
 intro w A0 κ fp F g1 g2
 simp only [Bool.and_eq_true] at hd
 obtain ⟨v,f1,h1,h2,h3,h4⟩:=h w A0 κ fp F g1 g2
 obtain ⟨u,f2,k1,k2,k3,k4⟩:=k w A0 κ fp F g1 g2
 obtain ⟨s,f3,l1,l2,l3,l4⟩:=l w A0 κ fp F g1 g2
 refine ⟨.tuple #[v,u,s],f1++(f2++(f3++[])),zWC h1 k1 l1,?_,?_,?_⟩
 ·unfold VR
  refine ⟨[v,u,s],rfl,?_⟩
  unfold VRt
  refine ⟨v,[u,s],f1,f2++(f3++[]),rfl,rfl,h2,?_⟩
  unfold VRt
  refine ⟨u,[s],f2,f3++[],rfl,rfl,k2,?_⟩
  unfold VRt
  exact ⟨s,[],f3,[],rfl,rfl,l2,by unfold VRt; exact ⟨rfl,rfl⟩⟩
 ·rw [List.append_nil,List.nodup_append,List.nodup_append]
  have hx2:∀ {oo oo':Option Nat} {f f':List Nat},djO oo oo'=true→(∀ x,x∈f → ∃ k,oo=some k∧x∈fp k)→(∀ x,x∈f' → ∃ k,oo'=some k∧x∈fp k) → ∀ x,x∈f → ∀ y,y∈f'→x≠y:=by
   intro oo oo' f f' hd hf hf' x hx y hy
   rintro rfl
   obtain ⟨i,hi,hxi⟩:=hf x hx
   obtain ⟨j,hj,hxj⟩:=hf' x hy
   subst hi; subst hj
   exact zVt hd (g1.dj i j x hxi hxj)
  refine ⟨h3,⟨k3,l3,hx2 hd.2 k4 l4⟩,fun x hx y hy => ?_⟩
  rcases List.mem_append.1 hy with hy | hy
  ·exact hx2 hd.1.1 h4 k4 x hx y hy
  ·exact hx2 hd.1.2 h4 l4 x hx y hy
 ·intro x hx
  rw [List.append_nil,List.mem_append,List.mem_append] at hx
  rcases hx with hx | hx | hx
  ·obtain ⟨i,_,hi⟩:=h4 x hx; exact ⟨i,hi⟩
  ·obtain ⟨i,_,hi⟩:=k4 x hx; exact ⟨i,hi⟩
  ·obtain ⟨i,_,hi⟩:=l4 x hx; exact ⟨i,hi⟩
def nrA:AV→Bool
 | .agg cs=>cs.all nr
 | a=>nr a
theorem zPG {w:World} {A:Nat→Prop} {κ κ':List Value} {a:AV} {v:Value} {fp:List Nat} (h:nrA a=true) (hv:VR w A κ a v fp):VR w A κ' a v fp:=by
 cases a with
 | agg cs =>
  unfold VR at *
  obtain ⟨vs,h1,h2⟩:=hv
  exact ⟨vs,h1,zMY h h2⟩
 | _=>exact zPV h hv
theorem zRs {F:Env} {w:World} {t:Nat} {v:Value} (h:ev n F (.tmp t)=v):zMp P n F w (.tmp t) v:=by
 unfold zMp zRG
 have:=zSG h
 rw [← Array.getD_eq_getD_getElem?] at this
 simp [this]
theorem zAl {t:Nat} (h:aev n e (.tmp t)=r1) (hn:nrA r1=true):R1 P n e H (.tmp t) r1 none:=by
 intro w A0 κ fp F g1 g2
 have hv:=g2.ev (.tmp t)
 rw [h] at hv
 exact ⟨_,[],zRs rfl,zPG hn hv,by simp,by simp⟩
theorem zI6 {rv:ResultVar} {r r':AV} {oo:Option Nat} (h:R1 P n e H rv r oo) (hs:zBC r r'):R1 P n e H rv r' oo:=by
 intro w A0 κ fp F g1 g2
 obtain ⟨v,fr,h1,h2,h3⟩:=h w A0 κ fp F g1 g2
 exact ⟨v,fr,h1,hs _ _ _ _ _ h2,h3⟩
theorem zZI {t k T sz:Nat} {rows:List (List AV)} (h:aev n e (.tmp t) = .hd k) (hk:H[k]?=some (.vec T sz rows)):R1 P n e H (.tmp t) (.osl T sz rows) (some k):=by
 intro w A0 κ fp F g1 g2
 have hv:=g2.ev (.tmp t)
 rw [h] at hv
 unfold VR at hv
 refine ⟨_,fp k,zRs rfl,?_,g1.nd k,fun x hx=>⟨k,rfl,hx⟩⟩
 have:=g1.ent k _ _ hk hv.1
 unfold VR
 exact this
theorem zGO {t k T ty m:Nat} {cs:List AV} (ha:∀ w,(isAgg ty).run P w = .ok true w) (hs:∀ w,(sizeOf ty).run P w = .ok m w) (hm:cs.length=m) (h:aev n e (.tmp t) = .ptr k 0) (hk:H[k]?=some (.box T cs)) (hn:cs.all nr=true):R1 P n e H (.cell t ty) (.agg cs) (some k):=by
 intro w A0 κ fp F g1 g2
 have hv:=g2.ev (.tmp t)
 rw [h] at hv
 unfold VR at hv
 obtain ⟨_,u,b,h1,h2,hv⟩:=hv
 obtain ⟨b',vs,f',rfl,hb,hvs,hfp⟩:=g1.ent k _ u hk h1
 cases h2
 have hnd:=g1.nd k
 rw [hfp] at hnd
 refine ⟨.agg vs.toArray,f',?_,by unfold VR; exact ⟨vs,rfl,zMY hn hvs⟩,(List.nodup_cons.1 hnd).2,fun x hx=>⟨k,rfl,by rw [hfp]; exact List.mem_cons_of_mem _ hx⟩⟩
 have hr:=zUd (P:=P) ha (fun w=>by rw [zFH hvs,hm]; exact hs w) hb
 unfold zMp zRG
 have ht:=zSG hv
 rw [← Array.getD_eq_getD_getElem?] at ht
 simp [ht,asAddr,hr]
theorem zYm {w:World} {A0:Nat→Prop} (h:∀ x,A0 x→x<w.heap.size):SH w A0 [] [] (fun _=>[]) :=
 ⟨rfl,fun i e v h=>by simp at h,fun _ _=>rfl,by simp,(fun i j x h=>by cases h),(fun i x h=>by cases h),h⟩
theorem zq {f:FuncId} {fn:Func} {code:Code} {args:List AV} {r:AV} {rs:Array ResultVar} (hf:P.funcs[f]?=some fn) (hb:fn.body=some code) (hn:fn.ntmps=n) (hr:fn.results=rs) (ha:Nat.ble args.length n=true)
  (h:AW P n 0 code ⟨zXv P n rs r,zXv P n rs r,[]⟩ (zY0 args) []):PFn P f args r:=by
 intro w A cargs hA hargs
 have hl:=zPQ hargs
 refine zQk hf hb hn hr (by simp [hl]; exact Nat.le_of_ble_eq_true ha) ?_
 have hav:∀ b,avd A (fun _=>[]) b↔A b:=fun b=>⟨(fun h=>by rcases h with h | ⟨i,h⟩; exact h; cases h),.inl⟩
 have hE:zKd w (avd A (fun _=>[])) [] n (zY0 args) (zOF cargs.toArray) :=
  zRr (by
   have mv:Mv w A [] w (avd A (fun _=>[])) []:=⟨Nat.le_refl _,fun _ _ _=>rfl,fun b hb => .inl ((hav b).1 hb),fun _ _ h=>h⟩
   exact VRt.mv mv _ _ _ (fun _ _=>rfl) hargs)
 have key:∀ F w',conc n 0 w A [] (fun _=>[]) (zXv P n rs r) F w' → ∃ v,Res P rs n F w' v ∧ ∃ fr,VR w' (fun b=>A b∨b∈fr) [] r v fr∧fr.Nodup∧(∀ x,x∈fr→w.heap.size≤x)∧KpS (fun _=>False) w w':=by
  rintro F w' ⟨e',H',κ',fp',g1,g2,g3,g4⟩
  obtain ⟨v,fr,h1,h2,h3,h4⟩:=g4 w' A κ' fp' F g1 g2
  refine ⟨v,h1,fr,VR.mv ⟨Nat.le_refl _,fun _ _ _=>rfl,fun b hb => .inl ?_,fun _ _ h=>h⟩ _ _ _ (fun _ _=>rfl) h2,h3,?_,⟨g3.kp.os,g3.kp.tape,g3.kp.output,g3.kp.size,fun b hb _=>g3.kp.block b hb (fun ⟨i,hi⟩=>by cases hi)⟩⟩
  ·rcases hb with hb | hb
   ·exact .inl hb
   ·obtain ⟨k,hk⟩:=h4 b hb; exact .inr ⟨k,hk⟩
  ·intro x hx
   obtain ⟨k,hk⟩:=h4 x hx
   rcases g3.new k x hk with ⟨j,hj⟩ | h
   ·cases hj
   ·exact h
 refine zMs (h w A [] (fun _=>[]) _ (zYm hA) hE) key key (fun id F w h => ?_)
 simp [zMr.conc,Wk.look] at h
def zZa (P:Program) (n:Nat) (rs:Array ResultVar) (r:AV) (H':zAM) (e:zBv) (H:zAM):Prop :=
 H=H' ∧ ∀ w A0 κ fp F,SH w A0 H κ fp→zKd w (avd A0 fp) κ n e F → ∃ v,Res P rs n F w v∧VR w (avd A0 fp) κ r v []
theorem zON {H':zAM} (hH:H=H'):zZa P n #[] (.tup []) H' e H:=⟨hH,fun w A0 κ fp F _ _=>⟨_,zZc,by unfold VR; exact ⟨[],rfl,by unfold VRt; exact ⟨rfl,rfl⟩⟩⟩⟩
theorem zUg {H':zAM} {t:Nat} (hH:H=H') (h:aev n e (.tmp t)=r1):zZa P n #[.tmp t] r1 H' e H:=⟨hH,fun w A0 κ fp F _ g2=>⟨_,zTk (zRs rfl),by have:=g2.ev (.tmp t); rw [h] at this; exact this⟩⟩
end
end Go.Am
namespace Go.Am
open Go Go.RowKit Go.Wk
def zBI (H:zAM) (S:List Nat) (a a':AV):Prop :=
 ∀ w A0 κ fp v,SH w A0 H κ fp→VR w (avd A0 fp) κ a v []→VR w (fun b=>avd A0 fp b ∧ ∀ k,k∈S→b ∉ fp k) [] a' v []
def zDw (H:zAM) (S:List Nat):List AV→List AV→Prop
 | [],[]=>True
 | a::la,b::bs=>zBI H S a b∧zDw H S la bs
 | _,_=>False
section
variable {H:zAM} {S:List Nat}
theorem zPT (w:World) (A0:Nat→Prop) (fp:Nat→List Nat) (κ:List Value) (S:List Nat):Mv w (avd A0 fp) κ w (fun b=>avd A0 fp b ∧ ∀ k,k∈S→b ∉ fp k) κ:=⟨Nat.le_refl _,fun _ _ _=>rfl,fun _ h => .inl h.1,fun _ _ h=>h⟩
theorem zBI.nr {a:AV} (h:nrA a=true):zBI H S a a:=fun w A0 κ fp v _ hv=>zPG h (VR.mv (zPT w A0 fp κ S) _ _ _ (fun _ _=>rfl) hv)
theorem zBI.hd {k t sz:Nat} {rows:List (List AV)} (hk:H[k]?=some (.vec t sz rows)) (hS:S.contains k=true):zBI H S (.hd k) (.sl false (zPL rows)):=by
 intro w A0 κ fp v h1 hv
 unfold VR at hv
 have h2:=h1.ent k _ v hk hv.1
 have h3:VR w (avd A0 fp) [] (.osl t sz rows) v (fp k):=by unfold VR; exact h2
 have h4:=VR.frz (A':=fun b=>avd A0 fp b ∧ ∀ k,k∈S→b ∉ fp k) (fun b hb=>hb.1) _ _ _ (fun b hb hA=>hA.2 k (by simpa using hS) hb) h3
 unfold Go.Am.frz at h4
 exact h4
theorem zDw.vrs {w:World} {A0:Nat→Prop} {κ:List Value} {fp:Nat→List Nat} (h1:SH w A0 H κ fp):∀ {la bs:List AV} {vs:List Value},zDw H S la bs→VRs w (avd A0 fp) κ la vs []→VRs w (fun b=>avd A0 fp b ∧ ∀ k,k∈S→b ∉ fp k) [] bs vs []
 | [],[],_,_,h=>by unfold VRs at *; exact h
 | [],_::_,_,h,_=>h.elim
 | _::_,[],_,h,_=>h.elim
 | a::la,b::bs,vs,h,hv=>by
  unfold VRs at hv ⊢
  obtain ⟨u,vs',f1,f2,rfl,hf,h3,h4,h5⟩:=hv
  obtain ⟨rfl,rfl⟩:=List.append_eq_nil_iff.1 hf.symm
  exact ⟨u,vs',[],[],rfl,rfl,h3,h.1 _ _ _ _ _ h1 h4,zDw.vrs h1 h.2 h5⟩
theorem zBI.sub {a a':AV} (h:zBC a a') (hn:nrA a'=true):zBI H S a a':=fun w A0 κ fp v _ hv=>zPG hn (VR.mv (zPT w A0 fp κ S) _ _ _ (fun _ _=>rfl) (h _ _ _ _ _ hv))
theorem zDw.vrt {w:World} {A0:Nat→Prop} {κ:List Value} {fp:Nat→List Nat} (h1:SH w A0 H κ fp):∀ {la bs:List AV} {vs:List Value},zDw H S la bs→VRt w (avd A0 fp) κ la vs []→VRt w (fun b=>avd A0 fp b ∧ ∀ k,k∈S→b ∉ fp k) [] bs vs []
 | [],[],_,_,h=>by unfold VRt at *; exact h
 | [],_::_,_,h,_=>h.elim
 | _::_,[],_,h,_=>h.elim
 | a::la,b::bs,vs,h,hv=>by
  unfold VRt at hv ⊢
  obtain ⟨u,vs',f1,f2,rfl,hf,h4,h5⟩:=hv
  obtain ⟨rfl,rfl⟩:=List.append_eq_nil_iff.1 hf.symm
  exact ⟨u,vs',[],[],rfl,rfl,h.1 _ _ _ _ _ h1 h4,zDw.vrt h1 h.2 h5⟩
theorem zDw.c {a b:AV} {la bs:List AV} (h:zBI H S a b) (k:zDw H S la bs):zDw H S (a::la) (b::bs):=⟨h,k⟩
theorem zDw.nrs:∀ {la:List AV},la.all Go.Am.nr=true→zDw H S la la
 | [],_=>trivial
 | a::la,h=>by
  simp only [List.all_cons,Bool.and_eq_true] at h
  refine ⟨fun w A0 κ fp v h1 hv => ?_,zDw.nrs h.2⟩
  exact zPV h.1 (VR.mv (zPT w A0 fp κ S) _ _ _ (fun _ _=>rfl) hv)
theorem zBI.agg {la bs:List AV} (h:zDw H S la bs):zBI H S (.agg la) (.agg bs):=by
 intro w A0 κ fp v h1 hv
 unfold VR at *
 obtain ⟨vs,h2,h3⟩:=hv
 exact ⟨vs,h2,h.vrs h1 h3⟩
theorem zBI.clo {f:FuncId} {la bs:List AV} (h:zDw H S la bs):zBI H S (.clo f la) (.clo f bs):=by
 intro w A0 κ fp v h1 hv
 unfold VR at *
 obtain ⟨vs,h2,h3⟩:=hv
 exact ⟨vs,h2,h.vrt h1 h3⟩
theorem zBI.ptr {k t o:Nat} {cs:List AV} (hk:H[k]?=some (.box t cs)) (hS:S.contains k=true) (hn:cs.all Go.Am.nr=true):zBI H S (.ptr k o) (.rp (zNV cs) o):=by
 intro w A0 κ fp v h1 hv
 unfold VR at hv ⊢
 obtain ⟨_,u,b,g1,g2,rfl⟩:=hv
 obtain ⟨b',vs,f',rfl,hb,hvs,hfp⟩:=h1.ent k _ u hk g1
 cases g2
 have h4:=VRs.frz (A':=fun b=>avd A0 fp b ∧ ∀ k,k∈S→b ∉ fp k) (fun b hb=>hb.1) _ _ _ (fun q hq hA=>hA.2 k (by simpa using hS) (by rw [hfp]; exact List.mem_cons_of_mem _ hq)) (zMY (κ':=[]) hn hvs)
 exact ⟨rfl,b,0,vs,by rw [Nat.zero_add],fun hA=>hA.2 k (by simpa using hS) (by rw [hfp]; exact List.mem_cons_self ..),hb.lt,h4,hb.cells⟩
end
def zOb:AV→Bool
 | .lit _=>true
 | _=>false
def CL:AV→Prop
 | .lit _=>True
 | .osl _ _ rows => ∀ r,r∈rows → ∀ a,a∈r→zOb a=true
 | .agg cs=>cs.all zOb=true
 | .tup la=>la.all zOb=true
 | _=>False
section
variable {w:World} {A A':Nat→Prop} {κ κ':List Value}
theorem zPy:∀ {cs:List AV} {vs:List Value} {fp:List Nat},(∀ a,a∈cs→zOb a=true)→VRs w A κ cs vs fp→VRs w A' κ' cs vs fp
 | [],_,_,_,h=>by unfold VRs at *; exact h
 | a::la,_,_,hE,h=>by
  unfold VRs at *
  obtain ⟨u,vs',f1,f2,rfl,rfl,h3,h4,h5⟩:=h
  refine ⟨u,vs',f1,f2,rfl,rfl,h3,?_,zPy (fun a ha=>hE a (by simp [ha])) h5⟩
  have:=hE a (by simp)
  cases a <;> simp [zOb] at this
  unfold VR at *
  exact h4
theorem zSH:∀ {cs:List AV} {vs:List Value} {fp:List Nat},(∀ a,a∈cs→zOb a=true)→VRt w A κ cs vs fp→VRt w A' κ' cs vs fp
 | [],_,_,_,h=>by unfold VRt at *; exact h
 | a::la,_,_,hE,h=>by
  unfold VRt at *
  obtain ⟨u,vs',f1,f2,rfl,rfl,h4,h5⟩:=h
  refine ⟨u,vs',f1,f2,rfl,rfl,?_,zSH (fun a ha=>hE a (by simp [ha])) h5⟩
  have:=hE a (by simp)
  cases a <;> simp [zOb] at this
  unfold VR at *
  exact h4
theorem zPY:∀ {rows:List (List AV)} {vr:List (List Value)} {fp:List Nat},(∀ r,r∈rows → ∀ a,a∈r→zOb a=true)→VRr w A κ rows vr fp→VRr w A' κ' rows vr fp
 | [],_,_,_,h=>by unfold VRr at *; exact h
 | a::la,_,_,hE,h=>by
  unfold VRr at *
  obtain ⟨u,vs',f1,f2,rfl,rfl,h4,h5⟩:=h
  exact ⟨u,vs',f1,f2,rfl,rfl,zPy (hE a (by simp)) h4,zPY (fun r hr=>hE r (by simp [hr])) h5⟩
theorem zYC {a:AV} {v:Value} {fp:List Nat} (h:CL a) (hv:VR w A κ a v fp):VR w A' κ' a v fp:=by
 cases a <;> simp only [CL] at h
 ·unfold VR at *; exact hv
 ·unfold VR at *
  obtain ⟨g,vr,f',h1,h2,h3⟩:=hv
  exact ⟨g,vr,f',h1,zPY h h2,h3⟩
 ·unfold VR at *
  obtain ⟨vs,h1,h2⟩:=hv
  exact ⟨vs,h1,zPy (fun a ha=>List.all_eq_true.1 h a ha) h2⟩
 ·unfold VR at *
  obtain ⟨vs,h1,h2⟩:=hv
  exact ⟨vs,h1,zSH (fun a ha=>List.all_eq_true.1 h a ha) h2⟩
end
section
variable {P:Program} {n m:Nat} {e e':zBv} {H G:zAM} {x y:Operand} {k j o:Nat} {ops:Array Oper} {rest:List Oper} {kk:zBv→zAM→Prop} {d tt:Nat} {p:String} {af:Array Edge} {f:FuncId} {fn:Func} {code:Code} {xs:Array Operand} {tys:Array TypeId} {la la':List AV} {r r':AV} {S:List Nat}
theorem zPS {w:World} {A:Nat→Prop} {κ:List Value} {F:Env} (h2:zKd w A κ n e F):∀ (l:List Operand),VRt w A κ (l.map (aev n e)) (l.map (ev n F)) []
 | []=>by unfold VRt; exact ⟨rfl,rfl⟩
 | x::l=>by
  simp only [List.map_cons]
  unfold VRt
  exact ⟨_,_,[],[],rfl,rfl,h2.ev x,zPS h2 l⟩
inductive zHw (n:Nat) (e:zBv):Operand→FuncId→List AV→Prop
 | fn (f:FuncId):zHw n e (.func f) f []
 | clo {x:Operand} {f:FuncId} {caps:List AV} (h:aev n e x = .clo f caps):zHw n e x f caps
theorem zTV {w:World} {A:Nat→Prop} {κ:List Value}:∀ {la bs:List AV} {vs us:List Value},VRt w A κ la vs []→VRt w A κ bs us []→VRt w A κ (la++bs) (vs++us) []
 | [],_,_,_,h,k=>by unfold VRt at h; rw [h.1]; exact k
 | a::la,bs,vs,us,h,k=>by
  rw [List.cons_append]
  unfold VRt at h ⊢
  obtain ⟨u,vs',f1,f2,rfl,hf,h4,h5⟩:=h
  obtain ⟨rfl,rfl⟩:=List.append_eq_nil_iff.1 hf.symm
  exact ⟨u,vs'++us,[],[],rfl,rfl,h4,zTV h5 k⟩
theorem zQ3 {α β:Type} (f:α→β) (xs:Array α):xs.map f=(xs.toList.map f).toArray:=by
 apply Array.ext'
 simp
theorem zNg {caps : List AV} (hf : P.funcs[f]? = some fn) (hb : fn.body = some code) (hn : (fn.name == "runtime.NumGoroutine") = false) (hc : zHw n e x f caps) (has : xs.toList.map (aev n e) ++ caps = la)
  {w:World} {A:Nat→Prop} {κ:List Value} {F:Env} (h2:zKd w A κ n e F) :
  ∃ cargs:List Value,Ent P n F w (.call { callee := .value x,args:=xs,argTypes:=tys }) f cargs.toArray∧VRt w A κ la cargs []:=by
 cases hc with
 | fn =>
  refine ⟨xs.toList.map (ev n F),zTQ hf hb hn (zQ3 _ _),?_⟩
  rw [List.append_nil] at has
  rw [← has]
  exact zPS h2 _
 | clo h =>
  have hv:=h2.ev x
  rw [h] at hv
  unfold VR at hv
  obtain ⟨vs,hv,hr⟩:=hv
  refine ⟨xs.toList.map (ev n F)++vs,?_,?_⟩
  ·have:=zWh (P:=P) (w:=w) (tys:=tys) hf hb hn (xs:=xs) (zQ3 _ _) hv
   rw [List.append_toArray] at this
   exact this
  ·rw [← has]
   exact zTV (zPS h2 _) hr
def okS (S:List Nat) (r:AV):Prop:=S=[]∨CL r
theorem zKp {caps : List AV} (hf : P.funcs[f]? = some fn) (hb : fn.body = some code) (hn : (fn.name == "runtime.NumGoroutine") = false) (hc : zHw n e x f caps) (has : xs.toList.map (aev n e) ++ caps = la) (hview : zDw H S la la') (hp : PFn P f la' r) (hS : okS S r)
  {w:World} {A0:Nat→Prop} {κ:List Value} {fp:Nat→List Nat} {F:Env} (h1:SH w A0 H κ fp) (h2:zKd w (avd A0 fp) κ n e F) :
  ∃ cargs:List Value,Ent P n F w (.call { callee := .value x,args:=xs,argTypes:=tys }) f cargs.toArray∧FnC P f cargs.toArray w (fun v w' => ∃ fr,VR w' (fun b=>avd A0 fp b∨b∈fr) [] r v fr∧fr.Nodup∧(∀ x,x∈fr→w.heap.size≤x)∧KpS (fun _=>False) w w'):=by
 obtain ⟨cargs,g1,g2⟩:=zNg (tys:=tys) hf hb hn hc has h2
 refine ⟨cargs,g1,FnC.mono (hp w (fun b=>avd A0 fp b ∧ ∀ k,k∈S→b ∉ fp k) cargs ?_ (hview.vrt h1 g2)) ?_⟩
 ·rintro x ⟨hx | ⟨i,hx⟩,_⟩
  ·exact h1.old x hx
  ·exact h1.lt i x hx
 ·rintro v w' ⟨fr,q1,q2,q3,q4⟩
  refine ⟨fr,?_,q2,q3,q4⟩
  rcases hS with rfl | hS
  ·exact VR.mv ⟨Nat.le_refl _,fun _ _ _=>rfl,fun b hb => .inl (by
    rcases hb with hb | hb
    ·exact .inl ⟨hb,fun k hk=>by cases hk⟩
    ·exact .inr hb),fun _ _ h=>h⟩ _ _ _ (fun _ _=>rfl) q1
  ·exact zYC hS q1
theorem zPm {w w':World} {A0:Nat→Prop} {κ:List Value} {fp:Nat→List Nat} (h1:SH w A0 H κ fp) (hk:KpS (fun _=>False) w w') {fr:List Nat} {v:Value} (q1:VR w' (fun b=>avd A0 fp b∨b∈fr) [] r v fr) (q3:∀ x,x∈fr→w.heap.size≤x) (hr:frz r=r') :
  SH w' A0 H κ fp∧VR w' (avd A0 fp) κ r' v []∧zLe w fp κ w' fp κ:=by
 have hs:zLe w fp κ w' fp κ:=⟨⟨hk.os,hk.tape,hk.output,hk.size,fun b hb _=>hk.block b hb (fun h=>h)⟩,fun i x hx => .inl ⟨i,hx⟩,fun _ _ h=>h⟩
 refine ⟨h1.gen h1.len hs h1.nd h1.dj h1.out (fun i en v' g1 g2 => .inl ⟨g1,rfl,fun b hb=>hk.block b (h1.lt i b hb) (fun h=>h)⟩),?_,hs⟩
 have:=VR.frz (A':=avd A0 fp) (fun b hb => .inl hb) _ _ _ (fun b hb hA=>by
  have:=q3 b hb
  rcases hA with hA | ⟨i,hA⟩
  ·have:=h1.old b hA; omega
  ·have:=h1.lt i b hA; omega) q1
 rw [hr] at this
 exact VR.mv (zTt w' (avd A0 fp) κ) _ _ _ (fun _ _=>rfl) this
theorem zAx {caps : List AV} (hf : P.funcs[f]? = some fn) (hb : fn.body = some code) (hn : (fn.name == "runtime.NumGoroutine") = false) (hc : zHw n e x f caps) (has : xs.toList.map (aev n e) ++ caps = la) (hview : zDw H S la la') (hp : PFn P f la' r) (hS : okS S r) (hr : frz r = r')
  (hk:ALW P n m ops rest kk (zHQ e d r') H):ALW P n m ops (⟨some d,.call { callee := .value x,args:=xs,argTypes:=tys },tt,p,af,none⟩::rest) kk e H:=by
 intro w A0 κ fp F h1 h2
 obtain ⟨cargs,g1,g2⟩:=zKp (tys:=tys) hf hb hn hc has hview hp hS h1 h2
 refine zK0 g1 g2 ?_
 rintro v w' ⟨fr,q1,q2,q3,q4⟩
 obtain ⟨s1,s2,s3⟩:=zPm h1 q4 q1 q3 hr
 exact zCe (hk w' A0 κ fp _ s1 ((h2.mv (s3.mv A0)).upd s2)) (fun _ _=>zAy (s3.m m))
theorem zGc {jj g : Nat} {s : Bool} (hj : (ops[jj]?).bind (·.dst) = some g) (hg : aev n e (.tmp g) = .lit (.bool s)) (hcall : s = true → ∃ (f : FuncId) (fn : Func) (code : Code) (caps la la' : List AV) (r : AV) (S : List Nat), P.funcs[f]? = some fn ∧ fn.body = some code ∧ (fn.name == "runtime.NumGoroutine") = false ∧ zHw n e x f caps ∧ xs.toList.map (aev n e) ++ caps = la ∧ zDw H S la la' ∧ PFn P f la' r ∧ okS S r ∧ frz r = r')
  (hk:ALW P n m ops rest kk (zHQ e d (bif s then r' else .lit undef)) H):ALW P n m ops (⟨some d,.call { callee := .value x,args:=xs,argTypes:=tys },tt,p,af,some (jj,true)⟩::rest) kk e H:=by
 intro w A0 κ fp F h1 h2
 cases hs:s with
 | true =>
  obtain ⟨f,fn,code,caps,la,la',r,S,hf,hb,hn,hc,has,hview,hp,hS,hr⟩:=hcall hs
  rw [hs] at hk hg
  obtain ⟨cargs,g1,g2⟩:=zKp (tys:=tys) hf hb hn hc has hview hp hS h1 h2
  refine zPq hj (zAo h2 hg) g1 g2 ?_
  rintro v w' ⟨fr,q1,q2,q3,q4⟩
  obtain ⟨s1,s2,s3⟩:=zPm h1 q4 q1 q3 hr
  exact zCe (hk w' A0 κ fp _ s1 ((h2.mv (s3.mv A0)).upd s2)) (fun _ _=>zAy (s3.m m))
 | false =>
  rw [hs] at hk hg
  exact zMW hj (zAo h2 hg) (hk w A0 κ fp _ h1 (h2.upd (zH2 _ _ _ _)))
theorem zDa {jj g : Nat} {s : Bool} (hj : (ops[jj]?).bind (·.dst) = some g) (hg : aev n e (.tmp g) = .lit (.bool s)) (hcall : (!s) = true → ∃ (f : FuncId) (fn : Func) (code : Code) (caps la la' : List AV) (r : AV) (S : List Nat), P.funcs[f]? = some fn ∧ fn.body = some code ∧ (fn.name == "runtime.NumGoroutine") = false ∧ zHw n e x f caps ∧ xs.toList.map (aev n e) ++ caps = la ∧ zDw H S la la' ∧ PFn P f la' r ∧ okS S r ∧ frz r = r')
  (hk:ALW P n m ops rest kk (zHQ e d (bif !s then r' else .lit undef)) H):ALW P n m ops (⟨some d,.call { callee := .value x,args:=xs,argTypes:=tys },tt,p,af,some (jj,false)⟩::rest) kk e H:=by
 intro w A0 κ fp F h1 h2
 cases hs:s with
 | false =>
  rw [hs] at hk hg hcall
  obtain ⟨f,fn,code,caps,la,la',r,S,hf,hb,hn,hc,has,hview,hp,hS,hr⟩:=hcall rfl
  obtain ⟨cargs,g1,g2⟩:=zKp (tys:=tys) hf hb hn hc has hview hp hS h1 h2
  refine zPq hj (zAo h2 hg) g1 g2 ?_
  rintro v w' ⟨fr,q1,q2,q3,q4⟩
  obtain ⟨s1,s2,s3⟩:=zPm h1 q4 q1 q3 hr
  exact zCe (hk w' A0 κ fp _ s1 ((h2.mv (s3.mv A0)).upd s2)) (fun _ _=>zAy (s3.m m))
 | true =>
  rw [hs] at hk hg
  exact zMW hj (zAo h2 hg) (hk w A0 κ fp _ h1 (h2.upd (zH2 _ _ _ _)))
theorem zJo {caps : List AV} {T sz : Nat} {rows : List (List AV)} (hf : P.funcs[f]? = some fn) (hb : fn.body = some code) (hn : (fn.name == "runtime.NumGoroutine") = false) (hc : zHw n e x f caps) (has : xs.toList.map (aev n e) ++ caps = la) (hview : zDw H S la la') (hp : PFn P f la' (.osl T sz rows)) (hS : okS S (.osl T sz rows))
  (hk:ALW P n m ops rest kk (zHQ e d (.hd H.length)) (H++[.vec T sz rows])):ALW P n m ops (⟨some d,.call { callee := .value x,args:=xs,argTypes:=tys },tt,p,af,none⟩::rest) kk e H:=by
 intro w A0 κ fp F h1 h2
 obtain ⟨cargs,g1,g2⟩:=zKp (tys:=tys) hf hb hn hc has hview hp hS h1 h2
 refine zK0 g1 g2 ?_
 rintro v w' ⟨fr,q1,q2,q3,q4⟩
 have hs:=h1.push (w':=w') (e2 := .vec T sz rows) (v2:=v) (f2:=fr) q4 q3 q2 (fun mv=>by
  have:=VR.mv (A':=avd A0 (zFV fp H.length fr)) (κ':=[]) ⟨Nat.le_refl _,fun _ _ _=>rfl,fun b hb => .inl (by
   rcases hb with hb | ⟨i,hb⟩
   ·exact .inl (.inl hb)
   ·unfold zFV at hb
    split at hb
    ·exact .inr hb
    ·exact .inl (.inr ⟨i,hb⟩)),fun _ _ h=>h⟩ _ _ _ (fun _ _=>rfl) q1
  unfold VR at this
  exact this)
 refine zCe (hk w' A0 _ _ _ hs.1 ((h2.mv (hs.2.mv A0)).upd ?_)) (fun _ _=>zAy (hs.2.m m))
 unfold VR
 exact ⟨by rw [← h1.len,List.getElem?_append_right (Nat.le_refl _)]; simp,rfl⟩
theorem zH3 {caps : List AV} {cs : List AV} (hf : P.funcs[f]? = some fn) (hb : fn.body = some code) (hn : (fn.name == "runtime.NumGoroutine") = false) (hc : zHw n e x f caps) (has : xs.toList.map (aev n e) ++ caps = la) (hview : zDw H S la la') (hp : PFn P f la' (.agg cs)) (hS : okS S (.agg cs))
  (hk:ALW P n m ops rest kk (zHQ e d (.hd H.length)) (H++[.val (.agg cs)])):ALW P n m ops (⟨some d,.call { callee := .value x,args:=xs,argTypes:=tys },tt,p,af,none⟩::rest) kk e H:=by
 intro w A0 κ fp F h1 h2
 obtain ⟨cargs,g1,g2⟩:=zKp (tys:=tys) hf hb hn hc has hview hp hS h1 h2
 refine zK0 g1 g2 ?_
 rintro v w' ⟨fr,q1,q2,q3,q4⟩
 have hs:=h1.push (w':=w') (e2 := .val (.agg cs)) (v2:=v) (f2:=fr) q4 q3 q2 (fun mv=>by
  have:=VR.mv (A':=avd A0 (zFV fp H.length fr)) (κ':=κ++[v]) ⟨Nat.le_refl _,fun _ _ _=>rfl,fun b hb => .inl (by
   rcases hb with hb | ⟨i,hb⟩
   ·exact .inl (.inl hb)
   ·unfold zFV at hb
    split at hb
    ·exact .inr hb
    ·exact .inl (.inr ⟨i,hb⟩)),fun _ _ h=>by simp at h⟩ _ _ _ (fun _ _=>rfl) q1
  exact this)
 refine zCe (hk w' A0 _ _ _ hs.1 ((h2.mv (hs.2.mv A0)).upd ?_)) (fun _ _=>zAy (hs.2.m m))
 unfold VR
 exact ⟨by rw [← h1.len,List.getElem?_append_right (Nat.le_refl _)]; simp,rfl⟩
end
end Go.Am
namespace Go.Am
open Go Go.RowKit Go.Wk
section
variable {P:Program} {n:Nat} {l:List Oper}
theorem zTb {id:Nat} {K:zXw} {F:Env} {w:World} (Inv:Array Bool→Env→World→Prop) (hm:P.follows .mixedOrders=true)
  (hdown:∀ (i:Nat) (o:Oper),l[i]?=some o → ∀ e∈o.after.toList,Region.binds .any e=true→e.on<i)
  (h0:Inv (Array.replicate l.length false) F { w with drawn:=w.drawn+1 })
  (step:∀ listed i o F w,zM8 l listed→listed.size=l.length→l[i]?=some o→listed.getD i false=false→(∀ e∈o.after.toList,Region.binds .any e=true→listed.getD e.on false=true)→Inv listed F w →
   LW P n l.toArray [o] (fun F' w'=>Inv (listed.setIfInBounds i true) F' w') F w)
  (hend:∀ listed F w,(∀ i,i<l.length→listed.getD i false=true)→Inv listed F w→K.norm F w):W P n (.region id l.toArray true) K F w:=by
 unfold W
 refine wp_region_any hm ?_
 have key:∀ (fuel:Nat) (listed:Array Bool) (F':Env) (w':World),listed.size=l.length→cnt listed=fuel→zM8 l listed→Inv listed F' w' →
   wpAny P .any l.toArray (Lf n K) fuel listed (fr n F') w':=by
  intro fuel
  induction fuel with
  | zero =>
   intro listed F' w' hsz hc hcl hI
   have hall:∀ i,i<l.length→listed.getD i false=true:=fun i hi=>zVX hc (by omega)
   have hnil:Region.ready .any l.toArray listed=[]:=by
    rw [List.eq_nil_iff_forall_not_mem]
    intro i hi
    obtain ⟨o,ho,h1,_⟩:=(zNn hsz).1 hi
    rw [hall i (zAO ho)] at h1; cases h1
   exact ⟨hnil,F',rfl,hend listed F' w' hall hI⟩
  | succ fuel ih =>
   intro listed F' w' hsz hc hcl hI
   refine ⟨fun hnil => ?_,fun i hi => ?_⟩
   ·exfalso
    have hall:∀ i,i<l.length→listed.getD i false=true:=by
     intro i
     induction i using Nat.strongRecOn with
     | _ i ihi =>
      intro hlt
      cases hb:listed.getD i false with
      | true=>rfl
      | false =>
       have ho:=List.getElem?_eq_getElem hlt
       have hr:i∈Region.ready .any l.toArray listed:=(zNn hsz).2 ⟨_,ho,hb,fun e he hbd=>by
        have:=hdown i _ ho e he hbd
        exact ihi e.on this (by omega)⟩
       rw [hnil] at hr
       cases hr
    have:cnt listed=0:=by
     unfold cnt
     rw [List.countP_eq_zero]
     intro b hb
     obtain ⟨i,hi,rfl⟩:=List.getElem_of_mem hb
     have hi':i<listed.size:=by simpa using hi
     have:=hall i (by omega)
     simp only [Array.getD,hi',dif_pos] at this
     simpa using this
    omega
   ·obtain ⟨o,ho,h1,h2⟩:=(zNn hsz).1 hi
    have hil:=zAO ho
    have hlt:i<listed.size:=by omega
    have hclosed:zM8 l (listed.setIfInBounds i true):=by
     intro j oj hoj hj e he hb
     rw [zB8 hlt] at hj ⊢
     split
     ·rfl
     ·rename_i hne
      split at hj
      ·rename_i hji; subst hji
       rw [ho] at hoj; cases hoj
       exact h2 e he hb
      ·exact hcl j oj hoj hj e he hb
    exact zSz ho (step listed i o F' w' hcl hsz ho h1 h2 hI) (fun F'' w'' hI'=>ih _ _ _ (by simpa using hsz) (by have:=zWv hlt h1; omega) hclosed hI')
 refine key _ _ F _ (by simp) ?_ ?_ h0
 ·unfold cnt
  simp [List.countP_replicate]
 ·intro i o _ hl
  exfalso
  simp [Array.getD] at hl
end
inductive Tg where
 | head (lo hi:Nat)
 | tail (k:Nat)
deriving DecidableEq
def zS3 (l:List Oper) (s:Nat):Bool:=(List.range l.length).any fun i=>Nat.beq (zBZ l i) s
def zZj (l:List Oper) (i j:Nat):Bool:=match l[i]? with
 | none=>false
 | some o=>o.after.toList.any fun e=>Region.binds .any e&&Nat.beq e.on j
def zSt (l:List Oper) (i s:Nat):Bool:=(List.range l.length).all fun j => !Nat.beq (zBZ l j) s||Nat.beq j i||zZj l j i
def zXj (l:List Oper) (ts:List Tg) (c:List Nat):Bool :=
 decide (ts.length=l.length) &&
 (List.range l.length).all (fun i=>match l[i]? with | none=>true | some o=>o.after.toList.all fun e => !Region.binds .any e||decide (e.on<i)) &&
 (List.range l.length).all (fun i=>match ts[i]? with
  | some (.head lo hi)=>(Nat.beq hi c.length||(match c[hi]? with | none=>false | some t=>reach l l.length t i))&&(Nat.beq lo 0||(match c[lo - 1]? with | none=>false | some t=>reach l l.length i t))
  | some (.tail k)=>decide (c[k]?=some i)&&(decide (k=0)||(match c[k - 1]? with | none=>false | some t=>reach l l.length i t))
  | none=>false) &&
 (List.range l.length).all (fun i=>(List.range i).all fun j=>zBZ l i == 1000000||zBZ l j != zBZ l i) &&
 l.all (fun o=>match o.dst with | none=>true | some d=>d != 1000000) &&
 (List.range c.length).all (fun k=>match c[k]? with | none=>false | some i=>decide (ts[i]?=some (Tg.tail k)))
structure FD (l:List Oper) (ts:List Tg) (c:List Nat):Prop where
 len:ts.length=l.length
 down:∀ (i:Nat) (o:Oper),l[i]?=some o → ∀ e∈o.after.toList,Region.binds .any e=true→e.on<i
 head:∀ (i lo hi:Nat),i<l.length→ts[i]?=some (Tg.head lo hi)→(hi=c.length ∨ ∃ t,c[hi]?=some t∧reach l l.length t i=true)∧(0<lo → ∃ t,c[lo - 1]?=some t∧reach l l.length i t=true)
 tail:∀ (i:Nat) (k:Nat),i<l.length→ts[i]?=some (Tg.tail k)→c[k]?=some i∧(0<k → ∃ t,c[k - 1]?=some t∧reach l l.length i t=true)
 dst:∀ (i j:Nat),i<l.length→j<i→zBZ l i≠1000000→zBZ l j≠zBZ l i
 small:∀ (i:Nat) (o:Oper) (d:Nat),l[i]?=some o→o.dst=some d→d≠1000000
 chain:∀ (k i:Nat),c[k]?=some i→ts[i]?=some (Tg.tail k)
theorem FD.of {l:List Oper} {ts:List Tg} {c:List Nat} (h:zXj l ts c=true):FD l ts c:=by
 unfold zXj at h
 simp only [Bool.and_eq_true,decide_eq_true_eq,List.all_eq_true,List.mem_range] at h
 obtain ⟨⟨⟨⟨⟨h1,h2⟩,h3⟩,h4⟩,h6⟩,h5⟩:=h
 refine ⟨h1,?_,?_,?_,?_,?_,?_⟩
 ·intro i o hi e he hb
  have:=h2 i (zAO hi)
  rw [hi] at this
  simp only [List.all_eq_true] at this
  have:=this e he
  simpa [hb] using this
 ·intro i lo hi hil ht
  have:=h3 i hil
  rw [ht] at this
  simp only [Bool.or_eq_true,Bool.and_eq_true] at this
  refine ⟨?_,fun hlo => ?_⟩
  ·rcases this.1 with h | h
   ·exact .inl (Nat.eq_of_beq_eq_true h)
   ·right
    cases hc:c[hi]? with
    | none=>rw [hc] at h; cases h
    | some t=>rw [hc] at h; exact ⟨t,rfl,h⟩
  ·rcases this.2 with h | h
   ·have:=Nat.eq_of_beq_eq_true h; omega
   ·cases hc:c[lo - 1]? with
    | none=>rw [hc] at h; cases h
    | some t=>rw [hc] at h; exact ⟨t,rfl,h⟩
 ·intro i k hi ht
  have:=h3 i hi
  rw [ht] at this
  simp only [Bool.and_eq_true,Bool.or_eq_true,decide_eq_true_eq] at this
  refine ⟨this.1,fun hk => ?_⟩
  rcases this.2 with h | h
  ·omega
  ·cases hc:c[k - 1]? with
   | none=>rw [hc] at h; cases h
   | some t=>rw [hc] at h; exact ⟨t,rfl,h⟩
 ·intro i j hi hj hd
  have:=h4 i hi j hj
  simp only [Bool.or_eq_true,beq_iff_eq,bne_iff_ne] at this
  rcases this with h | h
  ·exact absurd h hd
  ·exact h
 ·intro i o d hi hd
  have:=h6 o (List.mem_of_getElem? hi)
  rw [hd] at this
  simpa using this
 ·intro k i hc
  have:=h5 k (zAO hc)
  rw [hc] at this
  simpa using this
theorem zO5 {l:List Oper} {listed:Array Bool} (h:zM8 l listed) {i j:Nat} (hd:zZj l i j=true) (hi:listed.getD i false=true):listed.getD j false=true:=by
 unfold zZj at hd
 split at hd
 ·cases hd
 ·rename_i o ho
  simp only [List.any_eq_true,Bool.and_eq_true] at hd
  obtain ⟨e,he,hb,hj⟩:=hd
  have:=Nat.eq_of_beq_eq_true hj
  subst this
  exact h i o ho hi e he hb
def zUi (l:List Oper) (la:List AV) (e':zBv):List Edge→Prop
 | []=>True
 | e::r=>(cond (Region.binds .any e && !Nat.beq (zBZ l e.on) 1000000) (e' (zBZ l e.on)=la.getD e.on .any) True)∧zUi l la e' r
theorem zUi.of {l:List Oper} {la:List AV} {e':zBv}:∀ {es:List Edge},(∀ e∈es,Region.binds .any e=true→zBZ l e.on≠1000000→e' (zBZ l e.on)=la.getD e.on .any)→zUi l la e' es
 | [],_=>trivial
 | e::r,h=>⟨by
   cases hb:Region.binds .any e with
   | false=>trivial
   | true =>
    cases hd:Nat.beq (zBZ l e.on) 1000000 with
    | true=>trivial
    | false=>exact h e (by simp) hb (fun x=>by rw [x] at hd; simp at hd),zUi.of (fun e' he' hb'=>h e' (by simp [he']) hb')⟩
abbrev zVk (P:Program) (n m:Nat) (l:List Oper) (la:List AV) (e:zBv) (i:Nat) (o:Oper) (H H':zAM):Prop :=
 ∀ e',(∀ s,zSt l i s=true→e' s=e s)→zUi l la e' o.after.toList →
  ALW P n m l.toArray [o] (fun e'' H''=>(∀ s,e'' s=(match o.dst with | some d=>zHQ e' d (la.getD i .any) | none=>e') s)∧H''=H') e' H
def zXr (P:Program) (n m:Nat) (l:List Oper) (la:List AV) (e:zBv) (Hs:List zAM) (i:Nat) (o:Oper) (lo:Nat):Nat→Prop
 | 0=>zVk P n m l la e i o (Hs.getD lo []) (Hs.getD lo [])
 | k+1=>zVk P n m l la e i o (Hs.getD (lo+(k+1)) []) (Hs.getD (lo+(k+1)) [])∧zXr P n m l la e Hs i o lo k
theorem zXr.get {P:Program} {n m:Nat} {l:List Oper} {la:List AV} {e:zBv} {Hs:List zAM} {i:Nat} {o:Oper} {lo:Nat}:∀ {hi:Nat},zXr P n m l la e Hs i o lo hi → ∀ k,lo≤k→k≤lo+hi→zVk P n m l la e i o (Hs.getD k []) (Hs.getD k [])
 | 0,h,k,hl,hk=>by
  have:k=lo:=by omega
  subst this
  exact h
 | hi+1,h,k,hl,hk=>by
  rcases Nat.lt_or_ge (lo+hi) k with h1 | h1
  ·have:k=lo+(hi+1):=by omega
   subst this
   exact h.1
  ·exact zXr.get h.2 k hl h1
def zS5 (P:Program) (n m:Nat) (l:List Oper) (la:List AV) (e:zBv) (Hs:List zAM):Nat→List Tg→List Oper→Prop
 | _,[],[]=>True
 | i,.head lo hi::ts,o::os=>zXr P n m l la e Hs i o lo (hi - lo)∧zS5 P n m l la e Hs (i+1) ts os
 | i,.tail k::ts,o::os=>zVk P n m l la e i o (Hs.getD k []) (Hs.getD (k+1) [])∧zS5 P n m l la e Hs (i+1) ts os
 | _,_,_=>False
def zZw (P:Program) (n m:Nat) (l:List Oper) (la:List AV) (e:zBv) (Hs:List zAM) (i:Nat) (o:Oper):Tg→Prop
 | .head lo hi=>zXr P n m l la e Hs i o lo (hi - lo)
 | .tail k=>zVk P n m l la e i o (Hs.getD k []) (Hs.getD (k+1) [])
theorem zS5.get {P:Program} {n m:Nat} {l:List Oper} {la:List AV} {e:zBv} {Hs:List zAM}:∀ {ts:List Tg} {os:List Oper} {i0:Nat},zS5 P n m l la e Hs i0 ts os → ∀ i t o,ts[i]?=some t→os[i]?=some o→zZw P n m l la e Hs (i0+i) o t
 | [],_,_,_,i,t,o,ht,_=>by simp at ht
 | _::_,[],_,_,i,t,o,_,ho=>by simp at ho
 | t0::ts,o0::os,i0,h,i,t,o,ht,ho=>by
  have h1:zZw P n m l la e Hs i0 o0 t0∧zS5 P n m l la e Hs (i0+1) ts os:=by
   cases t0 with
   | head a b=>exact h
   | tail k=>exact h
  cases i with
  | zero=>simp at ht ho; subst ht; subst ho; exact h1.1
  | succ i =>
   have:=zS5.get h1.2 i t o (by simpa using ht) (by simpa using ho)
   rw [show i0+1+i=i0+(i+1) by omega] at this
   exact this
def zYy (e:zBv):List (Nat×AV)→Prop
 | []=>True
 | (t,a)::l=>e t=a∧zYy e l
theorem zYy.get {e:zBv}:∀ {l:List (Nat×AV)},zYy e l → ∀ i,Sub (e i) (mkE l i)
 | [],_,i=>Sub.any _
 | (t,a)::l,h,i=>by
  unfold mkE
  cases hb:Nat.beq i t with
  | true =>
   have:i=t:=Nat.eq_of_beq_eq_true hb
   subst this
   rw [h.1]
   exact Sub.refl _
  | false=>exact zYy.get h.2 i
theorem zCy {n m:Nat} {e:zBv} {H:zAM} {l:List (Nat×AV)} (h:zYy e l):Rep n m e H (mkE l) H:=Rep.env fun t _=>h.get t
def zLz (c:List Nat) (listed:Array Bool) (k:Nat):Prop:=k≤c.length ∧ ∀ m t,c[m]?=some t→(listed.getD t false=true↔m<k)
theorem zBr {P:Program} {n m id:Nat} {l:List Oper} {K:zMr} {e:zBv} (ts:List Tg) (c:List Nat) (la:List AV) (Hs:List zAM) (hm:P.follows .mixedOrders=true) (hB:zXj l ts c=true)
  (hops:zS5 P n m l la e Hs 0 ts l)
  (hend:∀ e',(∀ s,zS3 l s=false→e' s=e s)→(∀ i,i<l.length→zBZ l i≠1000000→e' (zBZ l i)=la.getD i .any)→K.norm e' (Hs.getD c.length [])) :
  AW P n m (.region id l.toArray true) K e (Hs.getD 0 []):=by
 have hT:=FD.of hB
 intro w A0 κ fp F h1 h2
 refine zTb (l:=l) (fun listed F' w' => ∃ e' κ' fp' k,zLz c listed k∧SH w' A0 (Hs.getD k []) κ' fp'∧zKd w' (avd A0 fp') κ' n e' F'∧zHp m w fp κ w' fp' κ' ∧
  (∀ s,(∀ i,i<l.length→zBZ l i=s→listed.getD i false=false)→e' s=e s)∧(∀ i,i<l.length→listed.getD i false=true→zBZ l i≠1000000→e' (zBZ l i)=la.getD i .any)) hm hT.down ?_ ?_ ?_
 ·
  have hkp:Kp [] w { w with drawn:=w.drawn+1 }:=Kp.drawn _ _
  have hs:zLe w fp κ { w with drawn:=w.drawn+1 } fp κ:=⟨KpS.of hkp (fun b hb=>by cases hb),fun i x hx => .inl ⟨i,hx⟩,fun _ _ h=>h⟩
  refine ⟨e,κ,fp,0,⟨Nat.zero_le _,fun q t _=>by simp [Array.getD]⟩,?_,h2.mv (hs.mv A0),hs.m m,fun _ _=>rfl,fun i _ hl=>by simp [Array.getD] at hl⟩
  exact h1.gen h1.len hs h1.nd h1.dj h1.out (fun i en v g1 g2 => .inl ⟨g1,rfl,fun b hb=>rfl⟩)
 ·rintro listed i o F' w' hcl hsz ho hli hpre ⟨e',κ',fp',k,hst,g1,g2,g3,g4,g5⟩
  have hil:=zAO ho
  have hlt:i<listed.size:=by omega
  have hold:∀ s,zSt l i s=true→e' s=e s:=by
   intro s hs
   refine g4 s (fun j hj hd => ?_)
   unfold zSt at hs
   have:=List.all_eq_true.1 hs j (List.mem_range.2 hj)
   rw [hd] at this
   simp only [Nat.beq_refl,Bool.not_true,Bool.false_or,Bool.or_eq_true] at this
   cases hb:listed.getD j false with
   | false=>rfl
   | true =>
    exfalso
    rcases this with h | h
    ·have:=Nat.eq_of_beq_eq_true h
     subst this
     rw [hli] at hb; cases hb
    ·have:=zO5 hcl h hb
     rw [hli] at this; cases this
  have hp:zUi l la e' o.after.toList:=zUi.of (fun ed hed hb hd=>by
   have h3:=hpre ed hed hb
   have h4:=hT.down i o ho ed hed hb
   exact g5 ed.on (by omega) h3 hd)
  have hne:∀ j,j<l.length→j≠i→zBZ l i≠1000000→zBZ l j≠zBZ l i:=fun j hj hji hd=>by
   rcases Nat.lt_or_gt_of_ne hji with h | h
   ·exact hT.dst i j hil h hd
   ·intro e
    exact hT.dst j i hj h (by rw [e]; exact hd) e.symm
  have hslot:∀ e'':zBv,(∀ s,e'' s=(match o.dst with | some d=>zHQ e' d (la.getD i .any) | none=>e') s) →
    (∀ s,(∀ j,j<l.length→zBZ l j=s→(listed.setIfInBounds i true).getD j false=false)→e'' s=e s)∧(∀ j,j<l.length→(listed.setIfInBounds i true).getD j false=true→zBZ l j≠1000000→e'' (zBZ l j)=la.getD j .any):=by
   intro e'' he
   constructor
   ·intro s hs
    have h3:∀ j,j<l.length→zBZ l j=s→listed.getD j false=false:=fun j hj hd=>by
     have:=hs j hj hd
     rw [zB8 hlt] at this
     split at this
     ·cases this
     ·exact this
    rw [he s]
    cases hd:o.dst with
    | none=>exact g4 s h3
    | some d =>
     have hdi:zBZ l i=d:=by unfold zBZ; rw [ho]; simp [hd]
     have hsd:s≠d:=by
      rintro rfl
      have:=hs i hil hdi
      rw [zB8 hlt] at this
      simp at this
     show zHQ e' d _ s=e s
     unfold zHQ
     have hb:Nat.beq s d=false:=by
      cases hb:Nat.beq s d with
      | false=>rfl
      | true=>exact absurd (Nat.eq_of_beq_eq_true hb) hsd
     rw [hb]
     exact g4 s h3
   ·intro j hj hlj hdj
    rw [he]
    rw [zB8 hlt] at hlj
    by_cases hji:j=i
    ·subst hji
     cases hd:o.dst with
     | none=>exact absurd (by unfold zBZ; rw [ho]; simp [hd]) hdj
     | some d =>
      have hdi:zBZ l j=d:=by unfold zBZ; rw [ho]; simp [hd]
      show zHQ e' d _ (zBZ l j)=_
      rw [hdi]
      unfold zHQ
      rw [Nat.beq_refl]
      rfl
    ·rw [if_neg hji] at hlj
     have hold2:=g5 j hj hlj hdj
     cases hd:o.dst with
     | none=>exact hold2
     | some d =>
      have hdi:zBZ l i=d:=by unfold zBZ; rw [ho]; simp [hd]
      have hdn:zBZ l i≠1000000:=by rw [hdi]; exact hT.small i o d ho hd
      have:=hne j hj hji hdn
      rw [hdi] at this
      show zHQ e' d _ (zBZ l j)=_
      unfold zHQ
      have hb:Nat.beq (zBZ l j) d=false:=by
       cases hb:Nat.beq (zBZ l j) d with
       | false=>rfl
       | true=>exact absurd (Nat.eq_of_beq_eq_true hb) this
      rw [hb]
      exact hold2
  have hti:i<ts.length:=by rw [hT.len]; exact hil
  have htg:=List.getElem?_eq_getElem hti
  have hone:=zS5.get hops i _ o htg ho
  rw [Nat.zero_add] at hone
  have fin:∀ (H':zAM) (k':Nat),H'=Hs.getD k' []→zLz c (listed.setIfInBounds i true) k'→zVk P n m l la e i o (Hs.getD k []) H' →
    LW P n l.toArray [o] (fun F' w' => ∃ e' κ' fp' k,zLz c (listed.setIfInBounds i true) k∧SH w' A0 (Hs.getD k []) κ' fp'∧zKd w' (avd A0 fp') κ' n e' F'∧zHp m w fp κ w' fp' κ' ∧
     (∀ s,(∀ j,j<l.length→zBZ l j=s→(listed.setIfInBounds i true).getD j false=false)→e' s=e s)∧(∀ j,j<l.length→(listed.setIfInBounds i true).getD j false=true→zBZ l j≠1000000→e' (zBZ l j)=la.getD j .any)) F' w':=by
   intro H' k' hH hst' hD
   refine zCe (hD e' hold hp w' A0 κ' fp' F' g1 g2) ?_
   rintro F2 w2 ⟨e2,H2,κ2,fp2,q1,q2,q3,q4,q5⟩
   obtain ⟨r1,r2⟩:=hslot e2 q4
   subst q5
   subst hH
   exact ⟨e2,κ2,fp2,k',hst',q1,q2,g3.trans q3,r1,r2⟩
  cases htag:ts[i] with
  | head lo b =>
   rw [htag] at htg hone
   have hst':zLz c (listed.setIfInBounds i true) k:=⟨hst.1,fun q t hqt=>by
    rw [zB8 hlt]
    have:t≠i:=by
     rintro rfl
     rw [hT.chain q t hqt] at htg
     cases htg
    rw [if_neg this]
    exact hst.2 q t hqt⟩
   have hkb:k≤b:=by
    rcases Nat.lt_or_ge b k with h | h
    ·exfalso
     rcases (hT.head i lo b hil htg).1 with h3 | ⟨t,ht,hr⟩
     ·have:=hst.1; omega
     ·have hl0:=(hst.2 b _ ht).2 h
      have:=hcl.reach _ _ _ hr hl0
      rw [this] at hli; cases hli
    ·exact h
   have hlo:lo≤k:=by
    rcases Nat.lt_or_ge k lo with h | h
    ·exfalso
     obtain ⟨t,ht,hr⟩:=(hT.head i lo b hil htg).2 (by omega)
     have ht2:listed.getD t false=true:=by
      cases hlen:l.length with
      | zero=>omega
      | succ fu =>
       rw [hlen] at hr
       unfold Wk.reach at hr
       rw [ho] at hr
       simp only [List.any_eq_true,Bool.and_eq_true,Bool.or_eq_true,beq_iff_eq] at hr
       obtain ⟨ed,hed,hb,hj⟩:=hr
       rcases hj with rfl | hj
       ·exact hpre ed hed hb
       ·exact hcl.reach fu _ _ hj (hpre ed hed hb)
     have:=(hst.2 _ _ ht).1 ht2
     omega
    ·exact h
   exact fin _ k rfl hst' (hone.get k hlo (by omega))
  | tail q =>
   rw [htag] at htg hone
   obtain ⟨hcq,hprev⟩:=hT.tail i q hil htg
   have hqk:q=k:=by
    have h3:¬ q<k:=fun h=>by rw [(hst.2 q i hcq).2 h] at hli; cases hli
    rcases Nat.eq_zero_or_pos q with h | h
    ·omega
    ·obtain ⟨t,ht,hr⟩:=hprev h
     have ht2:listed.getD t false=true:=by
      cases hlen:l.length with
      | zero=>omega
      | succ fu =>
       rw [hlen] at hr
       unfold Wk.reach at hr
       rw [ho] at hr
       simp only [List.any_eq_true,Bool.and_eq_true,Bool.or_eq_true,beq_iff_eq] at hr
       obtain ⟨ed,hed,hb,hj⟩:=hr
       rcases hj with rfl | hj
       ·exact hpre ed hed hb
       ·exact hcl.reach fu _ _ hj (hpre ed hed hb)
     have:=(hst.2 _ _ ht).1 ht2
     omega
   subst hqk
   refine fin _ (q+1) rfl ⟨by have:=zAO hcq; omega,fun r t hrt => ?_⟩ hone
   rw [zB8 hlt]
   by_cases hti':t=i
   ·subst hti'
    have:=hT.chain r t hrt
    rw [htg] at this
    cases this
    simp
   ·rw [if_neg hti',hst.2 r t hrt]
    have:r≠q:=by
     rintro rfl
     rw [hcq] at hrt
     cases hrt
     exact hti' rfl
    omega
 ·rintro listed F' w' hall ⟨e',κ',fp',k,hst,g1,g2,g3,g4,g5⟩
  have hkc:k=c.length:=by
   rcases Nat.lt_or_ge k c.length with h | h
   ·exfalso
    have ht:=List.getElem?_eq_getElem h
    have h3:=hT.chain k _ ht
    have h4:c[k]<l.length:=by rw [← hT.len]; exact zAO h3
    have:=(hst.2 k _ ht).1 (hall _ h4)
    omega
   ·have:=hst.1; omega
  subst hkc
  refine ⟨e',Hs.getD c.length [],κ',fp',g1,g2,g3,hend e' (fun s hs=>g4 s (fun j hj hd => ?_)) (fun i hi hd=>g5 i hi (hall i hi) hd)⟩
  exfalso
  unfold zS3 at hs
  rw [List.any_eq_false] at hs
  have h3:=hs j (List.mem_range.2 hj)
  rw [hd] at h3
  simp at h3
end Go.Am
namespace Go.Am
open Go Go.RowKit Go.Wk
def eI (x:Int):AV := .lit (.int .i64 x)
def eB (b:Bool):AV := .lit (.bool b)
def eK (k:IntKind) (x:Int):AV := .lit (.int k x)
def cI (x:Int):List AV:=[.lit (.int .i64 x)]
def cB (b:Bool):List AV:=[.lit (.bool b)]
def cK (k:IntKind) (x:Int):List AV:=[.lit (.int k x)]
def eS {α:Type} (f:α→List AV) (l:List α):AV := .sl false (l.map f)
def cS {α:Type} (f:α→List AV) (l:List α):List AV:=[.sl false (l.map f)]
def cA {α:Type} (n:Nat) (g:α→AV) (d:α) (l:List α):List AV:=(List.range n).map fun i=>g (l.getD i d)
def zDY {α:Type} (n:Nat) (d:α) (l:List α) (i:Nat) (x:α):List α:=(List.range n).map fun j=>if j=i then x else l.getD j d
def at_ {α:Type} [Inhabited α] (l:List α) (i:Int):α:=l.getD i.toNat default
def chk {α:Type} (b:Bool) (x:Option α):Option α:=match b with
 | true=>x
 | false=>none
def cnd {α:Type} (b:Bool) (x y:Option α):Option α:=match b with
 | true=>x
 | false=>y
theorem zRm {α:Type} {b:Bool} {x:Option α} {r:α} (h:chk b x=some r):b=true∧x=some r:=by
 cases b with
 | true=>exact ⟨rfl,h⟩
 | false=>cases h
theorem zIL {α:Type} {b:Bool} {x y:Option α} {r:α} (hb:b=true) (h:cnd b x y=some r):x=some r:=by subst hb; exact h
theorem zYg {α:Type} {b:Bool} {x y:Option α} {r:α} (hb:b=false) (h:cnd b x y=some r):y=some r:=by subst hb; exact h
theorem zVL {α β:Type} {x:Option α} {f:α→Option β} {r:β} (h:x.bind f=some r):∃ a,x=some a∧f a=some r:=by
 cases x with
 | none=>cases h
 | some a=>exact ⟨a,rfl,h⟩
section
variable {α:Type} {f:α→List AV} {l l':List α}
theorem zW7 {d:α} {i:Int} (h:inb i l.length=true):(l.map f)[i.toNat]?=some (f (l.getD i.toNat d)):=by
 have:=(zBt h).2
 simp [this]
theorem zQB [Inhabited α] {i:Int} (h:inb i l.length=true):(l.map f)[i.toNat]?=some (f (at_ l i)):=zW7 h
theorem zAb (hf:∀ x,zNV (f x)=f x):zPL (l.map f)=l.map f:=by
 induction l with
 | nil=>rfl
 | cons a l ih=>simp [zPL,hf,ih]
theorem zNc {s:Nat} (hl:∀ x,(f x).length=s):∀ r,r∈l.map f→r.length=s:=by
 intro r hr
 obtain ⟨x,_,rfl⟩:=List.mem_map.1 hr
 exact hl x
theorem zTY (hf:∀ x,(f x).all isE=true):((l.map f).all fun r=>r.all isE)=true:=by
 simp only [List.all_map,List.all_eq_true,Function.comp]
 intro x _
 exact List.all_eq_true.1 (hf x)
end
theorem zUQ {α:Type} {n:Nat} {g:α→AV} {d:α} {l:List α}:(cA n g d l).length=n:=by simp [cA]
theorem zVu {α:Type} {n:Nat} {g:α→AV} {d:α} {l:List α} {i:Nat} (h:i<n) (hd tl:List AV):(hd++(cA n g d l++tl))[hd.length+i]?=some (g (l.getD i d)):=by
 rw [List.getElem?_append_right (by omega),Nat.add_sub_cancel_left,List.getElem?_append_left (by rw [zUQ]; exact h)]
 simp [cA,h]
theorem zV9 {α:Type} {n:Nat} {g:α→AV} {d:α} {l:List α} {i:Nat} {x:α} (h:i<n) (hd tl:List AV):(hd++(cA n g d l++tl)).set (hd.length+i) (g x)=hd++(cA n g d (zDY n d l i x)++tl):=by
 rw [List.set_append_right _ _ (by omega),Nat.add_sub_cancel_left,List.set_append_left _ _ (by rw [zUQ]; exact h)]
 congr 2
 apply List.ext_getElem?
 intro j
 by_cases hj:j<n
 ·by_cases hij:i=j
  ·subst hij
   rw [List.getElem?_set_self (by rw [zUQ]; exact h)]
   simp [cA,zDY,hj]
  ·rw [List.getElem?_set_ne hij]
   have:¬ j=i:=fun e=>hij e.symm
   simp [cA,zDY,hj,this]
 ·rw [List.getElem?_eq_none (by simp [cA]; omega),List.getElem?_eq_none (by simp [cA]; omega)]
theorem zQ6 {α:Type} {n:Nat} {g:α→AV} {d:α} {l:List α} {i:Nat} (h:i<n):(cA n g d l)[i]?=some (g (l.getD i d)):=by simp [cA,h]
theorem zAQ {n:Nat} {e:zBv} {x:Operand} {s:Bool} {a j:AV} (h:aev n e x=bif s then a else j) (hs:s=true):aev n e x=a:=by rw [hs] at h; exact h
theorem zRu {n:Nat} {e:zBv} {x:Operand} {c d:Bool} {a j:AV} (h:aev n e x=bif (c&&d) then a else j) (hc:c=true):aev n e x=bif d then a else j:=by rw [hc] at h; exact h
theorem zKB {c q:Bool} (h:(!c||q)=true) (hc:c=true):q=true:=by rw [hc] at h; exact h
def z5:Nat:=9223372036854775808
section
variable {P:Program} {n m:Nat} {e e':zBv} {H G:zAM} {x y:Operand} {k j o:Nat} {t:TypeId} {ops:Array Oper} {rest:List Oper} {kk:zBv→zAM→Prop} {d tt:Nat} {p:String} {af:Array Edge}
variable {α:Type} {f:α→List AV} {l l':List α} {full:Bool}
theorem ze {el:TypeId} (ht:P.underlying t=some (.slice el)) (hx:aev n e x = .sl full (l.map f)):zv P n e H (.call { callee := .builtin .len,args := #[x],argTypes := #[t] }) (eI (l.length:Int)):=by
 have:=zU1 (H:=H) ht hx
 rw [List.length_map] at this
 exact this
theorem zD1 {el t' sz:Nat} (ht:P.underlying t=some (.slice el)) (hx:aev n e x = .hd k) (hk:H[k]?=some (.vec t' sz (l.map f))):zv P n e H (.call { callee := .builtin .len,args := #[x],argTypes := #[t] }) (eI (l.length:Int)):=by
 have:=zTO ht hx hk
 rw [List.length_map] at this
 exact this
theorem zm [Inhabited α] {el:TypeId} {kd:IntKind} {s:Nat} {i:Int} (ht:P.underlying t=some (.slice el)) (hs:∀ w,(sizeOf el).run P w = .ok s w) (hl:∀ x,(f x).length=s) (hx:aev n e x = .sl full (l.map f)) (hy:aev n e y = .lit (.int kd i)) (hi:inb i l.length=true) :
  zv P n e H (.indexAddr t x y) (.rp (f (at_ l i)) 0) :=
 zUL ht hs hx hy (by rw [List.length_map]; exact hi) (zQB hi) (hl _)
theorem zAR {el:TypeId} {kd:IntKind} {t' s:Nat} {i:Int} (ht:P.underlying t=some (.slice el)) (hs:∀ w,(sizeOf el).run P w = .ok s w) (hx:aev n e x = .hd k) (hk:H[k]?=some (.vec t' s (l.map f))) (hy:aev n e y = .lit (.int kd i)) (hi:inb i l.length=true) :
  zv P n e H (.indexAddr t x y) (.ptr k (i.toNat*s)) :=
 zLA ht hs hx hk hy (by rw [List.length_map]; exact hi)
theorem zDX [Inhabited α] {t' s c:Nat} {i:Int} {a:AV} (ha:∀ w,(isAgg t).run P w = .ok false w) (hx:aev n e x = .ptr k o) (hk:H[k]?=some (.vec t' s (l.map f))) (ho:o=i.toNat*s+c) (hi:inb i l.length=true) (hc:(f (at_ l i))[c]?=some a) (hE:isE a=true):zv P n e H (.load t x) a :=
 zL4 ha hx hk ho (zQB hi) hc hE
theorem zDW [Inhabited α] {t' s c q:Nat} {i:Int} {la:List AV} (ha:∀ w,(isAgg t).run P w = .ok true w) (hs:∀ w,(sizeOf t).run P w = .ok q w) (hx:aev n e x = .ptr k o) (hk:H[k]?=some (.vec t' s (l.map f))) (ho:o=i.toNat*s+c) (hi:inb i l.length=true) (hm:Nat.ble (c+q) (f (at_ l i)).length=true) (hc:((f (at_ l i)).drop c).take q=la) (hE:la.all isE=true):zv P n e H (.load t x) (.agg la) :=
 zRI ha hs hx hk ho (zQB hi) hm hc hE
theorem zIP [Inhabited α] {s c:Nat} {T:TypeId} {i:Int} {a:AV} {z:α} (hz:∀ w,(sizeOf t).run P w = .ok 1 w) (hx:aev n e x = .ptr k o) (hk:H[k]?=some (.vec T s (l.map f))) (ho:o=i.toNat*s+c) (hi:inb i l.length=true) (hc:Nat.blt c (f (at_ l i)).length=true) (hy:aev n e y=a) (ha:isC a=true) (hn:nr a=true) (hset:(f (at_ l i)).set c a=f z) :
  zR3 P n e H (.store t x y) (H.set k (.vec T s ((l.set i.toNat z).map f))):=by
 have:=zQs hz hx hk ho (zQB hi) (by simpa [Nat.blt_eq] using hc) (by rw [hy]; exact Sub.refl _) ha hn
 rw [hset, ← List.map_set] at this
 exact this
theorem zDS [Inhabited α] {s:Nat} {T:TypeId} {i:Int} {z:α} (hz:∀ w,(sizeOf t).run P w = .ok s w) (hl:∀ x,(f x).length=s) (hx:aev n e x = .ptr k o) (hk:H[k]?=some (.vec T s (l.map f))) (ho:o=i.toNat*s) (hi:inb i l.length=true) (hy:aev n e y = .agg (f z)) (hn:(f z).all nr=true) :
  zR3 P n e H (.store t x y) (H.set k (.vec T s ((l.set i.toNat z).map f))):=by
 have:=zQP hz hx hk ho (by rw [List.length_map]; exact (zBt hi).2) hy (hl z) hn
 rw [← List.map_set] at this
 exact this
theorem zGs {el sz bytes:Nat} {z:Value} {kx ky:IntKind} {a c:Int} {d0:α} (hE:zMm P el sz z bytes) (hzr:zLh (z.cells.toList.map .lit) (f d0)) (hz1:z.cells.toList.all (·.oneCell')=true) (ht:P.underlying t=some (.slice el)) (hx:aev n e x = .lit (.int kx a)) (hy:aev n e y = .lit (.int ky c))
  (hb:(decide (0≤a)&&decide (a≤c)&&decide (c*(bytes:Int)≤4294967296))=true) (hk:ALW P n m ops rest kk (zHQ e d (.hd H.length)) (H++[.vec el sz ((List.replicate a.toNat d0).map f)])) :
  ALW P n m ops (⟨some d,.makeSlice t x y,tt,p,af,none⟩::rest) kk e H:=by
 rw [List.map_replicate] at hk
 exact zUw hE hzr hz1 ht hx hy hb hk
theorem zHM {el sz bytes:Nat} {z:Value} (hE:zMm P el sz z bytes) (hl:∀ x,(f x).length=sz) (ht:P.underlying t=some (.slice el)) (hx:aev n e x = .hd k) (hkk:H[k]?=some (.vec el sz (l.map f))) (hy:aev n e y = .sl full (l'.map f)) (hb:decide ((l.length+l'.length)*bytes≤4294967296)=true)
  (hk:ALW P n m ops rest kk (zHQ e d (.hd H.length)) (H.set k .dead++[.vec el sz ((l++l').map f)])) :
  ALW P n m ops (⟨some d,.call { callee := .builtin .append,args := #[x,y],argTypes := #[t,t] },tt,p,af,none⟩::rest) kk e H:=by
 rw [List.map_append] at hk
 exact zSu hE ht hx hkk hy (zNc hl) (by rw [List.length_map,List.length_map]; exact hb) hk
theorem zEq {el el' sz bytes:Nat} {z:Value} (hE:zMm P el sz z bytes) (hf:∀ x,(f x).all isE=true) (ht:P.underlying t=some (.slice el)) (hx:aev n e x = .hd k) (hkk:H[k]?=some (.vec el sz (l.map f))) (hy:aev n e y = .hd j) (hj:H[j]?=some (.vec el' sz (l'.map f))) (hb:decide ((l.length+l'.length)*bytes≤4294967296)=true)
  (hk:ALW P n m ops rest kk (zHQ e d (.hd H.length)) (H.set k .dead++[.vec el sz ((l++l').map f)])) :
  ALW P n m ops (⟨some d,.call { callee := .builtin .append,args := #[x,y],argTypes := #[t,t] },tt,p,af,none⟩::rest) kk e H:=by
 rw [List.map_append] at hk
 exact zQ9 hE ht hx hkk hy hj (zTY hf) (by rw [List.length_map,List.length_map]; exact hb) hk
theorem zGz {S:List Nat} {t' sz:Nat} (hf:∀ x,zNV (f x)=f x) (hk:H[k]?=some (.vec t' sz (l.map f))) (hS:S.contains k=true):zBI H S (.hd k) (.sl false (l.map f)):=by
 have:=zBI.hd hk hS
 rw [zAb hf] at this
 exact this
theorem zL9 {el ty2:TypeId} {rows:List (List AV)} (ht:P.underlying t=some (.slice el)) (hx:aev n e x = .sl full rows) (hk:∀ b:Bool,(b=true→rows=[])→ALW P n m ops rest kk (zHQ e d (.lit (.bool b))) H) :
  ALW P n m ops (⟨some d,.binOp .eql t x (.const (.slice none 0 0)) ty2,tt,p,af,none⟩::rest) kk e H:=by
 intro w A0 κ fp F h1 h2
 have hv:=h2.ev x
 rw [hx] at hv
 unfold VR at hv
 obtain ⟨_,a,c,hv,h3,h4,h5,h6⟩:=hv
 refine zMZ (zTn ht hv rfl) (zCe (hk (zSO (.slice a rows.length c)) (fun hb => ?_) w A0 κ fp _ h1 (h2.upd (zH2 _ _ _ _))) (fun _ _=>zAy (zHp.refl _ _ _ _)))
 rcases h6 with h6 | ⟨b,o,sz,vr,rfl,_⟩
 ·exact h6
 ·cases hb
theorem zMq {K:zMr} {xc yc:Code} (Inv:zBv→zAM→Prop) (h1:AW P n m xc ⟨Inv,K.ret,K.exits⟩ e H) (h2:∀ e H,Inv e H→AW P n m yc K e H):AW P n m (.seq xc yc) K e H :=
 zI (zUD h1 h2 (fun _ _ h=>h) rfl)
end
end Go.Am
namespace Go.Am
open Go Go.RowKit Go.Wk
theorem zAe {α:Type} {a b:α} {l l':List α} (h:a=b) (k:l=l'):a::l=b::l':=by rw [h,k]
theorem zOT:∀ (l:List Value) (k off:Nat) (cs:List Value),off+k+l.length≤cs.length→(l.zipIdx k).foldl (fun (cs:Array Value) (x:Value×Nat)=>cs.setIfInBounds (off+x.2) x.1) cs.toArray=(zDx cs (off+k) l).toArray
 | [],k,off,cs,_=>by simp [zN0]
 | v::l,k,off,cs,h=>by
  simp only [List.length_cons] at h
  simp only [List.zipIdx_cons,List.foldl_cons]
  rw [zMj (by simp; omega)]
  have:=zOT l (k+1) off (cs.set (off+k) v) (by simp; omega)
  rw [← Nat.add_assoc] at this
  rw [← this]
  simp
theorem zUc {place:Nat→Option (Nat×Nat)} {cells:List Value} {i off sz:Nat} {v:Value} {r:List Value} {rest:List (Nat×Value)} (hp:place i=some (off,sz)) (hv:v.cells=r.toArray) (hl:r.length=sz) (hb:off+sz≤cells.length) :
  Instr.fill place cells.toArray ((i,v)::rest)=Instr.fill place (zDx cells off r).toArray rest:=by
 have h1:=zOT r 0 off cells (by omega)
 rw [Nat.add_zero] at h1
 rw [Instr.fill,hp]
 have h2:¬ (cells.length<off+sz):=by omega
 have h3:(r.zipIdx.foldl (fun (cs:Array Value) (x:Value×Nat)=>cs.setIfInBounds (off+x.2) x.1) cells.toArray)=(zDx cells off r).toArray:=by simpa using h1
 simp [hv,hl,h2,h3]
section
variable {P:Program} {n m:Nat} {e e':zBv} {H G:zAM} {x y:Operand} {k j o:Nat} {t ty:TypeId} {ops:Array Oper} {rest:List Oper} {kk:zBv→zAM→Prop} {d tt:Nat} {p:String} {af:Array Edge}
def zSY (n:Nat) (e:zBv) (H:zAM) (pl:List (Nat×Nat)):List AV→List (Nat×Operand)→List AV→Prop
 | cells,[],res=>zLh cells res
 | cells,(i,x)::rest,res => ∃ (a:AV) (off sz:Nat),pl[i]?=some (off,sz)∧aev n e x=a∧((match a with | .agg _=>true | _=>zUj H a)=true)∧(zKX a).length=sz∧Nat.ble (off+sz) cells.length=true∧zSY n e H pl (zO7 cells off (zKX a)) rest res
theorem zU0 {w:World} {A0:Nat→Prop} {κ:List Value} {fp:Nat→List Nat} (h1:SH w A0 H κ fp) {a:AV} {v:Value} (h:(match a with | .agg _=>true | _=>zUj H a)=true) (hv:VR w (avd A0 fp) κ a v []):∃ r,v.cells=r.toArray∧VRs w (avd A0 fp) κ (zKX a) r []:=by
 have one:zUj H a=true→zKX a=[a] → ∃ r,v.cells=r.toArray∧VRs w (avd A0 fp) κ (zKX a) r []:=by
  intro h hc
  have h2:=zXS h1 h hv
  refine ⟨[v],zK8 h2,?_⟩
  rw [hc]
  unfold VRs
  exact ⟨v,[],[],[],rfl,rfl,h2,hv,by unfold VRs; exact ⟨rfl,rfl⟩⟩
 cases a with
 | agg cs =>
  unfold VR at hv
  obtain ⟨vs,rfl,hv⟩:=hv
  exact ⟨vs,rfl,hv⟩
 | _=>exact one h rfl
theorem zS9 {w:World} {A:Nat→Prop} {κ:List Value} {cs la:List AV} {vs rs:List Value} {off:Nat} (h:VRs w A κ cs vs []) (k:VRs w A κ la rs []) (hb:off+la.length≤cs.length):VRs w A κ (zO7 cs off la) (zDx vs off rs) []:=by
 obtain ⟨v1,v,v2,f1,f2,f3,rfl,hl,hlm,hfp,q1,q2,q3⟩:=zLq h hb
 obtain ⟨rfl,rfl,rfl⟩:=zZJ hfp
 rw [zN4 hl (by rw [zFH k]; exact hlm)]
 exact zFY.2 ⟨v1,rs++v2,[],[],rfl,rfl,q1,zFY.2 ⟨rs,v2,[],[],rfl,rfl,k,q3⟩⟩
theorem zNp {w:World} {A0:Nat→Prop} {κ:List Value} {fp:Nat→List Nat} {F:Env} (h1:SH w A0 H κ fp) (h2:zKd w (avd A0 fp) κ n e F) {pl:List (Nat×Nat)}:∀ {ps:List (Nat×Operand)} {cells res:List AV} {vs:List Value},zSY n e H pl cells ps res→VRs w (avd A0 fp) κ cells vs [] →
  ∃ us,Instr.fill (pl.toArray[·]?) vs.toArray (ps.map fun q=>(q.1,ev n F q.2))=some us.toArray∧VRs w (avd A0 fp) κ res us []
 | [],cells,res,vs,hB,hv=>⟨vs,rfl,hB.vrs hv⟩
 | (i,x)::rest,cells,res,vs,hB,hv=>by
  obtain ⟨a,off,sz,g1,g2,g3,g4,g5,g6⟩:=hB
  have hx:=h2.ev x
  rw [g2] at hx
  obtain ⟨r,r1,r2⟩:=zU0 h1 g3 hx
  have hle:=Nat.le_of_ble_eq_true g5
  obtain ⟨us,u1,u2⟩:=zNp h1 h2 g6 (zS9 hv r2 (by omega))
  refine ⟨us,?_,u2⟩
  simp only [List.map_cons]
  rw [zUc (off:=off) (sz:=sz) (by simpa using g1) r1 (by rw [zFH r2,g4]) (by rw [zFH hv]; exact hle)]
  exact u1
theorem zCm {parts:Array (Nat×Operand)} {pl:List (Nat×Nat)} {zs:List Value} {zc res:List AV} (hB:∀ ps,P.built ty ps=Instr.fill (pl.toArray[·]?) zs.toArray ps) (hz:zs.all (·.oneCell')=true) (hzc:zLh (zs.map .lit) zc) (hp:zSY n e H pl zc parts.toList res):zv P n e H (.build ty parts) (.agg res):=by
 intro w A0 κ fp F h1 h2
 obtain ⟨us,u1,u2⟩:=zNp h1 h2 hp (hzc.vrs (zM5 zs hz))
 refine ⟨.agg us.toArray,?_,by unfold VR; exact ⟨us,rfl,u2⟩⟩
 refine ⟨fun d t' p af g => ?_⟩
 have hr:=run_build (P:=P) w ty (parts.map fun (i,x)=>(i,ev n F x)) us.toArray (by
  rw [hB]
  have:(parts.map fun (i,x)=>(i,ev n F x)).toList=parts.toList.map fun q=>(q.1,ev n F q.2):=by simp
  rw [this]
  exact u1)
 simp only [execOp,Sem.run_bind,hr,Result.andThen_ok]
 rfl
theorem zKg {f:FuncId} {cs:Array Operand} {la:List AV} (h:cs.toList.map (aev n e)=la):zv P n e H (.makeFunc (.func f) #[] cs) (.clo f la):=by
 intro w A0 κ fp F h1 h2
 refine ⟨.func (.func f) #[] (cs.toList.map (ev n F)).toArray,?_,?_⟩
 ·refine ⟨fun d t p af g => ?_⟩
  simp [execOp,Instr.makeFunc,zQ3]
 ·unfold VR
  refine ⟨cs.toList.map (ev n F),rfl,?_⟩
  rw [← h]
  exact zPS h2 _
theorem zN1 {xs : Array Operand} {tys : Array TypeId} {r' : AV} {jj g : Nat} {s s' : Bool} (hj : (ops[jj]?).bind (·.dst) = some g) (hg : aev n e (.tmp g) = bif s' then .lit (.bool s) else .lit undef) (hcall : (s' && s) = true → ∃ (f : FuncId) (fn : Func) (code : Code) (caps la la' : List AV) (r : AV) (S : List Nat), P.funcs[f]? = some fn ∧ fn.body = some code ∧ (fn.name == "runtime.NumGoroutine") = false ∧ zHw n e x f caps ∧ xs.toList.map (aev n e) ++ caps = la ∧ zDw H S la la' ∧ PFn P f la' r ∧ okS S r ∧ frz r = r')
  (hk:ALW P n m ops rest kk (zHQ e d (bif (s'&&s) then r' else .lit undef)) H):ALW P n m ops (⟨some d,.call { callee := .value x,args:=xs,argTypes:=tys },tt,p,af,some (jj,true)⟩::rest) kk e H:=by
 cases hs:s' with
 | true=>rw [hs] at hg hk hcall; exact zGc hj hg (by simpa using hcall) (by simpa using hk)
 | false =>
  rw [hs] at hg hk
  intro w A0 κ fp F h1 h2
  exact zPU hj (fun ⟨b,hb⟩=>by rw [zAo h2 hg] at hb; cases hb) (hk w A0 κ fp _ h1 (h2.upd (zH2 _ _ _ _)))
theorem zRf {xs : Array Operand} {tys : Array TypeId} {r' : AV} {jj g : Nat} {s s' : Bool} (hj : (ops[jj]?).bind (·.dst) = some g) (hg : aev n e (.tmp g) = bif s' then .lit (.bool s) else .lit undef) (hcall : (s' && !s) = true → ∃ (f : FuncId) (fn : Func) (code : Code) (caps la la' : List AV) (r : AV) (S : List Nat), P.funcs[f]? = some fn ∧ fn.body = some code ∧ (fn.name == "runtime.NumGoroutine") = false ∧ zHw n e x f caps ∧ xs.toList.map (aev n e) ++ caps = la ∧ zDw H S la la' ∧ PFn P f la' r ∧ okS S r ∧ frz r = r')
  (hk:ALW P n m ops rest kk (zHQ e d (bif (s' && !s) then r' else .lit undef)) H):ALW P n m ops (⟨some d,.call { callee := .value x,args:=xs,argTypes:=tys },tt,p,af,some (jj,false)⟩::rest) kk e H:=by
 cases hs:s' with
 | true=>rw [hs] at hg hk hcall; exact zDa hj hg (by simpa using hcall) (by simpa using hk)
 | false =>
  rw [hs] at hg hk
  intro w A0 κ fp F h1 h2
  exact zPU hj (fun ⟨b,hb⟩=>by rw [zAo h2 hg] at hb; cases hb) (hk w A0 κ fp _ h1 (h2.upd (zH2 _ _ _ _)))
theorem zB7 {cs:List AV} {t' sz:Nat} {rows rows':List (List AV)} (hk:H[k]?=some (.box t cs)) (hc:cs[o]?=some (.osl t' sz rows)) (hr:zPL rows=rows'):Rep n m e H e (H.set k (.box t (cs.set o (.sl false rows')))):=by
 intro w A0 κ fp F h1 h2
 have hkl:k<κ.length:=by rw [h1.len]; exact zAO hk
 have hκ:=List.getElem?_eq_getElem hkl
 obtain ⟨b,vs,f',hv,hb,hvs,hfp⟩:=h1.ent k _ _ hk hκ
 obtain ⟨v1,v,v2,f1,f2,f3,rfl,hl,rfl,ho,q1,q2,q3⟩:=zJa hvs hc
 have hnd:=h1.nd k
 rw [hfp] at hnd
 have hsub:(b::(f1++([]++f3))).Sublist (b::(f1++(f2++f3))):=(zJW (List.nil_sublist _)).cons_cons b
 have hs:=h1.set1 (w':=w) (k:=k) (e1 := .box t (cs.set o (.sl false rows'))) (f1:=b::(f1++([]++f3))) (zAO hk) (KpS.refl _ _) (fun x hx => .inl (by rw [hfp]; exact hsub.mem hx)) (hnd.sublist hsub) (fun v' hv' mv=>by
  rw [hκ] at hv'
  cases hv'
  refine ⟨b,v1++v::v2,_,hv,hb,?_,rfl⟩
  rw [zHh _ (zAO hc)]
  refine zLC (VRs.mv mv _ _ _ (fun _ _=>rfl) q1) ?_ ho (VRs.mv mv _ _ _ (fun _ _=>rfl) q3)
  have:=VR.frz (fun q hq=>(mv.av q hq).elim id (fun h=>absurd h (by
   rcases hq with hq | ⟨i,hq⟩
   ·exact Nat.not_le.2 (h1.old q hq)
   ·unfold zFV at hq
    split at hq
    ·exact Nat.not_le.2 (h1.lt k q (by rw [hfp]; exact hsub.mem hq))
    ·exact Nat.not_le.2 (h1.lt i q hq)))) _ _ _ (fun q hq hA=>by
   rcases hA with hA | ⟨i,hA⟩
   ·exact h1.na k q (by rw [hfp]; simp [hq]) hA
   ·unfold zFV at hA
    split at hA
    ·simp only [List.nodup_cons,List.nodup_append,List.mem_append,List.mem_cons,List.nil_append] at hnd hA
     rcases hA with rfl | hA | hA
     ·exact hnd.1 (.inr (.inl hq))
     ·exact hnd.2.2.2 q hA q (.inl hq) rfl
     ·exact hnd.2.2.1.2.2 q hq q hA rfl
    ·rename_i hne; exact hne (h1.dj i k q hA (by rw [hfp]; simp [hq]))) q2
  unfold Go.Am.frz at this
  rw [hr] at this
  exact this)
 exact ⟨_,_,hs.1,h2.mv (hs.2.mv A0),hs.2.m m⟩
end
end Go.Am
namespace Go.Am
open Go Go.RowKit Go.Wk
def mI {α:Type} (g:α→Value) (l:List (Int×α)):List (Value×Value):=l.map fun p=>(.int .i64 p.1,g p.2)
def zMB {α:Type} (d:α) (l:List (Int×α)) (k:Int):α:=match l.find? (fun p=>p.1 == k) with
 | some p=>p.2
 | none=>d
def zKa {α:Type}:List (Int×α)→Int→α→List (Int×α)
 | [],k,v=>[(k,v)]
 | p::l,k,v=>if p.1=k then (k,v)::l else p::zKa l k v
section
variable {α:Type} {g:α→Value}
theorem zM6 (k:Int):∀ (en:List MapEntry) (l:List (Int×α)) (i:Nat),en.map (fun e=>(e.key,e.val))=mI g l →
  (Instr.findNow (.int .i64) (.int .i64 k) en i=some none∧l.find? (fun p=>p.1 == k)=none) ∨
  (∃ j p,Instr.findNow (.int .i64) (.int .i64 k) en i=some (some (i+j,g p.2))∧l.find? (fun p=>p.1 == k)=some p∧l[j]?=some p∧p.1=k ∧ ∀ q,q<j → ∀ p',l[q]?=some p'→p'.1≠k)
 | [],l,i,h=>by
  have:l=[]:=by simpa [mI] using h.symm
  subst this
  exact .inl ⟨rfl,rfl⟩
 | e::en,[],i,h=>by simp [mI] at h
 | e::en,p::l,i,h=>by
  simp only [mI,List.map_cons,List.cons.injEq,Prod.mk.injEq] at h
  obtain ⟨⟨h1,h2⟩,h3⟩:=h
  unfold Instr.findNow
  rw [h1]
  simp only [Instr.sameNow,if_true]
  by_cases hk:k=p.1
  ·have e1:(k == p.1)=true:=by simpa using hk
   rw [e1]
   refine .inr ⟨0,p,by simp [h2],by simp [List.find?,hk],rfl,hk.symm,fun q hq=>by omega⟩
  ·have e1:(k == p.1)=false:=by simpa using hk
   rw [e1]
   have e2:(p.1 == k)=false:=by simpa using fun h=>hk h.symm
   rcases zM6 k en l (i+1) h3 with ⟨q1,q2⟩ | ⟨j,p',q1,q2,q3,q4,q5⟩
   ·exact .inl ⟨q1,by simp [List.find?,e2,q2]⟩
   ·refine .inr ⟨j+1,p',by rw [q1,Nat.add_assoc,Nat.add_comm 1 j],by simp [List.find?,e2,q2],by simpa using q3,q4,fun q hq p'' hp => ?_⟩
    cases q with
    | zero=>simp at hp; subst hp; exact fun h=>hk h.symm
    | succ q=>exact q5 q (by omega) p'' (by simpa using hp)
theorem zP7 {k:Int} {v:α}:∀ {l:List (Int×α)},l.find? (fun p=>p.1 == k)=none→zKa l k v=l++[(k,v)]
 | [],_=>rfl
 | p::l,h=>by
  simp only [List.find?] at h
  split at h
  ·cases h
  ·rename_i hb
   have:p.1≠k:=by simpa using hb
   unfold zKa
   rw [if_neg this,zP7 h]
   rfl
theorem zQL {k:Int} {v:α}:∀ {l:List (Int×α)} {j:Nat} {p:Int×α},l[j]?=some p→p.1=k→(∀ q,q<j → ∀ p',l[q]?=some p'→p'.1≠k)→zKa l k v=l.set j (k,v)
 | [],j,p,h,_,_=>by simp at h
 | x::l,0,p,h,hp,_=>by
  simp at h
  subst h
  unfold zKa
  rw [if_pos hp]
  rfl
 | x::l,j+1,p,h,hp,hq=>by
  have h0:=hq 0 (by omega) x rfl
  unfold zKa
  rw [if_neg h0,zQL (l:=l) (j:=j) (by simpa using h) hp (fun q hlt p' hp'=>hq (q+1) (by omega) p' (by simpa using hp'))]
  rfl
end
section
variable {P:Program} {n m:Nat} {e e':zBv} {H G:zAM} {x y z:Operand} {k j o:Nat} {t kt et:TypeId} {ops:Array Oper} {rest:List Oper} {kk:zBv→zAM→Prop} {d tt:Nat} {p:String} {af:Array Edge}
theorem zMC {t:TypeId}:zIs P n e H (.makeMap t none) (.hd H.length) (H++[.map []]):=by
 intro w A0 κ fp F h1 h2
 have hs:=h1.push (w':=w.alloc (.map #[] 0)) (e2 := .map []) (v2 := .map (some w.heap.size)) (f2:=[w.heap.size]) (KpS.of (Kp.alloc _ _) (fun q hq=>by cases hq)) (by simp) (by simp)
  (fun mv=>⟨w.heap.size,⟨#[],0,rfl,heap_alloc_new w _,rfl⟩,rfl⟩)
 refine ⟨.map (some w.heap.size),_,_,_,⟨fun d t' p af g => ?_⟩,hs.1,?_,hs.2⟩
 ·have:=run_makeMap (P:=P) t w
  simp [execOp,this]
 ·unfold VR
  exact ⟨by rw [← h1.len,List.getElem?_append_right (Nat.le_refl _)]; simp,rfl⟩
theorem zOS {w:World} {A0:Nat→Prop} {κ:List Value} {fp:Nat→List Nat} {F:Env} (h1:SH w A0 H κ fp) (h2:zKd w (avd A0 fp) κ n e F) {es:List (Value×Value)} (hx:aev n e x = .hd k) (hk:H[k]?=some (.map es)) :
  ∃ r,zVz w es (ev n F x) r∧fp k=[r]∧κ[k]?=some (ev n F x):=by
 have hv:=h2.ev x
 rw [hx] at hv
 unfold VR at hv
 obtain ⟨r,h3,h4⟩:=h1.ent k _ _ hk hv.1
 exact ⟨r,h3,h4,hv.1⟩
theorem zGU {w:World} {b:Bool} {q:Int} (hkt:P.underlying kt=some (.int .i64)):(Instr.checkKey b 10000 kt (.int .i64 q)).run P w = .ok () w:=by
 show (Instr.checkKey b (9999+1) kt (.int .i64 q)).run P w = .ok () w
 unfold Instr.checkKey
 simp only [Sem.run_bind,run_underlying hkt,Result.andThen_ok]
 rfl
theorem zN5 {α:Type} {g:α→Value} {q:Int} {l:List (Int×α)} {dflt:α} {a:AV} (ht:P.underlying t=some (.map kt et)) (hkt:P.underlying kt=some (.int .i64)) (hz:∀ w,(zeroValue et).run P w = .ok (g dflt) w) (hx:aev n e x = .hd k) (hk:H[k]?=some (.map (mI g l))) (hy:aev n e y = .lit (.int .i64 q)) (ha : .lit (g (zMB dflt l q))=a) :
  zv P n e H (.lookup t x y false) a:=by
 subst ha
 refine zB5 fun w A0 κ fp F h1 h2 => ?_
 obtain ⟨r,⟨en,clock,hv,hb,hes⟩,_,_⟩:=zOS h1 h2 hx hk
 have hy':=zAo h2 hy
 refine ⟨fun d t' p af g' => ?_⟩
 have hget:(getObj r).run P w = .ok (.map en clock) w:=by simp [getObj,Sem.run,hb]
 have hrun:(Instr.lookup t (.map (some r)) (.int .i64 q) false).run P w = .ok (g (zMB dflt l q)) w:=by
  unfold Instr.lookup Instr.findKey
  rcases zM6 (g:=g) q en.toList l 0 hes with ⟨q1,q2⟩ | ⟨j,p',q1,q2,_⟩
  ·have e1:zMB dflt l q=dflt:=by unfold zMB; rw [q2]
   simp [run_underlying ht,hget,zGU hkt,run_underlying hkt,q1,hz,e1]
  ·have e1:zMB dflt l q=p'.2:=by unfold zMB; rw [q2]
   simp [run_underlying ht,hget,zGU hkt,run_underlying hkt,q1,e1]
 simp [execOp,hv,hy',hrun]
theorem zTA {α:Type} {g:α→Value} {l:List (Int×α)} (ht:P.underlying t=some (.map kt et)) (hx:aev n e x = .hd k) (hk:H[k]?=some (.map (mI g l))):zv P n e H (.call { callee := .builtin .len,args := #[x],argTypes := #[t] }) (.lit (.int .i64 (l.length:Int))):=by
 refine zB5 fun w A0 κ fp F h1 h2 => ?_
 obtain ⟨r,⟨en,clock,hv,hb,hes⟩,_,_⟩:=zOS h1 h2 hx hk
 have hl:en.size=l.length:=by
  have:=congrArg List.length hes
  simpa [mI] using this
 refine ⟨fun d t' p af g' => ?_⟩
 have hget:(getObj r).run P w = .ok (.map en clock) w:=by simp [getObj,Sem.run,hb]
 simp [execOp,hv,resolve,invoke,builtin,Builtin.len_,run_underlying ht,hget,goInt,hl]
theorem zOG {α:Type} {g:α→Value} {q:Int} {l:List (Int×α)} {v:α} (ht:P.underlying t=some (.map kt et)) (hkt:P.underlying kt=some (.int .i64)) (hx:aev n e x = .hd k) (hk:H[k]?=some (.map (mI g l))) (hy:aev n e y = .lit (.int .i64 q)) (hz:aev n e z = .lit (g v)) :
  zR3 P n e H (.mapUpdate t x y z) (H.set k (.map (mI g (zKa l q v)))):=by
 intro w A0 κ fp F h1 h2
 obtain ⟨r,⟨en,clock,hv,hb,hes⟩,hfp,hκ⟩:=zOS h1 h2 hx hk
 have hy':=zAo h2 hy
 have hz':=zAo h2 hz
 have hget:(getObj r).run P w = .ok (.map en clock) w:=by simp [getObj,Sem.run,hb]
 have hrl:=zMx hb
 have hset:∀ o:Obj,(setObj r o).run P w = .ok () { w with heap:=w.heap.setIfInBounds r o }:=fun o=>MapKept.run_setObj_map o hb
 have key:∃ en' clock',(Instr.mapUpdate t (.map (some r)) (.int .i64 q) (g v)).run P w = .ok () { w with heap:=w.heap.setIfInBounds r (.map en' clock') }∧en'.toList.map (fun e=>(e.key,e.val))=mI g (zKa l q v):=by
  unfold Instr.mapUpdate Instr.findKey
  rcases zM6 (g:=g) q en.toList l 0 hes with ⟨q1,q2⟩ | ⟨j,p',q1,q2,q3,q4,q5⟩
  ·refine ⟨en.push { key := .int .i64 q,val:=g v,born:=clock },clock+1,?_,?_⟩
   ·simp [run_underlying ht,hget,zGU hkt,run_underlying hkt,q1,hset]
   ·rw [zP7 q2]
    simp [mI,hes]
  ·have hjl:j<en.size:=by
    have:=zAO q3
    have h3:=congrArg List.length hes
    simp [mI] at h3
    omega
   have hkey:en[j].key = .int .i64 q:=by
    have h3:=congrArg (fun l=>l[j]?) hes
    simp [mI,q3,hjl] at h3
    rw [h3.1,q4]
   refine ⟨en.modify j fun e=>{ e with key := .int .i64 q,val:=g v },clock,?_,?_⟩
   ·have hk2:(Instr.keyThatStays (.int .i64 q) (.int .i64 q)).run P w = .ok (.int .i64 q) w:=by
     unfold Instr.keyThatStays
     simp [Instr.sameBits]
    simp [run_underlying ht,hget,zGU hkt,run_underlying hkt,q1,hset,hjl,hkey,hk2]
   ·rw [zQL q3 q4 q5]
    unfold mI
    rw [List.map_set]
    have:(en.modify j fun e=>{ e with key := .int .i64 q,val:=g v }).toList=en.toList.modify j fun e=>{ e with key := .int .i64 q,val:=g v }:=by simp
    rw [this]
    have hes':en.toList.map (fun e=>(e.key,e.val))=l.map fun p=>(Value.int .i64 p.1,g p.2):=hes
    rw [← hes']
    apply List.ext_getElem?
    intro i
    by_cases hij:j=i
    ·subst hij
     simp [List.getElem?_modify,hjl]
    ·simp [List.getElem?_modify,List.getElem?_set,hij]
 obtain ⟨en',clock',hrun,hes'⟩:=key
 have hkp:KpS (fun b=>b∈fp k) w { w with heap:=w.heap.setIfInBounds r (.map en' clock') }:=⟨rfl,rfl,rfl,by simp,fun b hbl hn=>by
  rw [hfp] at hn
  simp at hn
  show (w.heap.setIfInBounds r _)[b]?=_
  rw [Array.getElem?_setIfInBounds,if_neg (fun h=>hn h.symm)]⟩
 have hs:=h1.set1 (k:=k) (e1 := .map (mI g (zKa l q v))) (f1:=[r]) (zAO hk) hkp (fun x hx => .inl (by rw [hfp]; exact hx)) (by simp) (fun v' hv' mv=>by
  rw [hκ] at hv'
  cases hv'
  refine ⟨r,⟨en',clock',hv,?_,hes'⟩,rfl⟩
  show (w.heap.setIfInBounds r _)[r]?=_
  rw [Array.getElem?_setIfInBounds,if_pos rfl,if_pos hrl])
 refine ⟨_,_,_,⟨fun d t' p af g' => ?_⟩,hs.1,hs.2⟩
 simp [execOp,hv,hy',hz',hrun]
theorem zZ2 {t k:Nat} {es:List (Value×Value)} (h:aev n e (.tmp t) = .hd k) (hk:H[k]?=some (.map es)):R1 P n e H (.tmp t) (.omap es) (some k):=by
 intro w A0 κ fp F g1 g2
 have hv:=g2.ev (.tmp t)
 rw [h] at hv
 unfold VR at hv
 refine ⟨_,fp k,zRs rfl,?_,g1.nd k,fun x hx=>⟨k,rfl,hx⟩⟩
 have:=g1.ent k _ _ hk hv.1
 unfold VR
 exact this
theorem zNt {f : FuncId} {fn : Func} {code : Code} {xs : Array Operand} {tys : Array TypeId} {la la' : List AV} {S : List Nat} {caps : List AV} {es : List (Value × Value)} (hf : P.funcs[f]? = some fn) (hb : fn.body = some code) (hn : (fn.name == "runtime.NumGoroutine") = false) (hc : zHw n e x f caps) (has : xs.toList.map (aev n e) ++ caps = la) (hview : zDw H S la la') (hp : PFn P f la' (.omap es))
  (hk:ALW P n m ops rest kk (zHQ e d (.hd H.length)) (H++[.map es])):ALW P n m ops (⟨some d,.call { callee := .value x,args:=xs,argTypes:=tys },tt,p,af,none⟩::rest) kk e H:=by
 intro w A0 κ fp F h1 h2
 obtain ⟨cargs,g1,g2⟩:=zNg (tys:=tys) hf hb hn hc has h2
 refine zK0 g1 (hp w (fun b=>avd A0 fp b ∧ ∀ k,k∈S→b ∉ fp k) cargs ?_ (hview.vrt h1 g2)) ?_
 ·rintro x ⟨hx | ⟨i,hx⟩,_⟩
  ·exact h1.old x hx
  ·exact h1.lt i x hx
 rintro v w' ⟨fr,q1,q2,q3,q4⟩
 unfold VR at q1
 have hs:=h1.push (w':=w') (e2 := .map es) (v2:=v) (f2:=fr) q4 q3 q2 (fun mv=>q1)
 refine zCe (hk w' A0 _ _ _ hs.1 ((h2.mv (hs.2.mv A0)).upd ?_)) (fun _ _=>zAy (hs.2.m m))
 unfold VR
 exact ⟨by rw [← h1.len,List.getElem?_append_right (Nat.le_refl _)]; simp,rfl⟩
end
end Go.Am
namespace Go.Am
open Go Go.RowKit Go.Wk
def zC0 {α:Type} (l l2:List α):List α:=l2.take l.length++l.drop l2.length
def zFX {α:Type} (l:List α) (lo hi:Int):List α:=(l.take hi.toNat).drop lo.toNat
def zHG (lo hi:Int) (n:Nat):Bool:=decide (0≤lo)&&decide (lo≤hi)&&decide (hi≤(n:Int))
theorem zMH {lo hi:Int} {n:Nat} (h:zHG lo hi n=true):0≤lo∧lo≤hi∧hi≤(n:Int)∧lo.toNat≤hi.toNat∧hi.toNat≤n:=by
 simp [zHG] at h; omega
section
variable {P:Program} {n m:Nat} {e e':zBv} {H G:zAM} {x y z:Operand} {k j o:Nat} {t T:TypeId} {ops:Array Oper} {rest:List Oper} {kk:zBv→zAM→Prop} {d tt:Nat} {p:String} {af:Array Edge}
variable {α:Type} {g:α→AV} {d0:α} {l:List α} {hd tl cs:List AV} {N i:Nat}
theorem zCx {a:AV} (ha:∀ w,(isAgg t).run P w = .ok false w) (hx:aev n e x = .ptr k o) (hk:H[k]?=some (.box T cs)) (hcs:cs=hd++(cA N g d0 l++tl)) (ho:o=hd.length+i) (hi:i<N) (hg:g (l.getD i d0)=a) (hE:isE a=true):zv P n e H (.load t x) a:=by
 subst hg
 exact zN ha hx hk (by rw [hcs,ho]; exact zVu hi hd tl) hE
theorem zG0 {a:AV} (ha:∀ w,(isAgg t).run P w = .ok false w) (hx:aev n e x = .ptr k o) (hk:H[k]?=some (.box T (cA N g d0 l))) (ho:o=0+i) (hi:i<N) (hg:g (l.getD i d0)=a) (hE:isE a=true):zv P n e H (.load t x) a:=by
 subst hg
 exact zN ha hx hk (by rw [ho,Nat.zero_add]; exact zQ6 hi) hE
theorem zHl {v:α} {a:AV} (hz:∀ w,(sizeOf t).run P w = .ok 1 w) (hx:aev n e x = .ptr k o) (hk:H[k]?=some (.box T (cA N g d0 l))) (ho:o=0+i) (hi:i<N) (hy:aev n e y=a) (hg:g v=a) (hc:zUj H a=true) :
  zR3 P n e H (.store t x y) (H.set k (.box T (cA N g d0 (zDY N d0 l i v)))):=by
 subst hg
 rw [Nat.zero_add] at ho
 subst ho
 have:=zGY hz hx hk (by simp [cA,Nat.blt_eq]; exact hi) hy hc
 have e1:=zV9 (g:=g) (d:=d0) (l:=l) (x:=v) hi [] []
 simp only [List.nil_append,List.append_nil,List.length_nil,Nat.zero_add] at e1
 rw [e1] at this
 exact this
theorem zRz {v:Value} (h:zBC (.lit v) (g d0)):zLh ((List.replicate N v).map .lit) (cA N g d0 (List.replicate N d0)):=by
 have e1:cA N g d0 (List.replicate N d0)=List.replicate N (g d0):=by
  apply List.ext_getElem?
  intro i
  by_cases hi:i<N
  ·simp [cA,hi,List.getElem?_replicate]
  ·rw [List.getElem?_eq_none (by simp [cA]; omega),List.getElem?_eq_none (by simp; omega)]
 rw [e1,List.map_replicate]
 clear e1
 induction N with
 | zero=>exact trivial
 | succ N ih=>exact ⟨h,ih⟩
end
section
variable {P:Program} {n m:Nat} {e e':zBv} {H G:zAM} {x y z:Operand} {k j o:Nat} {t T:TypeId} {ops:Array Oper} {rest:List Oper} {kk:zBv→zAM→Prop} {d tt:Nat} {p:String} {af:Array Edge}
theorem zMS {F:Env} {w:World} {el s:TypeId} {a:Option Addr} {len cap lo hi mx:Nat} {low high max:Option Operand} (ht:P.underlying t=some (.slice el)) (hs:∀ w,(sizeOf el).run P w = .ok s w) (hx:ev n F x = .slice a len cap)
  (hb:(Instr.sliceBounds true len cap (low.map (ev n F)) (high.map (ev n F)) (max.map (ev n F))).run P w = .ok (lo,hi,mx) w) :
  Val P n F w (.slice t x low high max) (.slice (if mx=lo then a else a.map (·.add (lo*s))) (hi - lo) (mx - lo)) w:=by
 refine ⟨fun d t' p af g => ?_⟩
 have h:(Instr.slice t (.slice a len cap) (low.map (ev n F)) (high.map (ev n F)) (max.map (ev n F))).run P w = .ok (.slice (if mx=lo then a else a.map (·.add (lo*s))) (hi - lo) (mx - lo)) w:=by
  unfold Instr.slice
  simp only [Sem.run_bind,run_underlying ht,Result.andThen_ok,hb,hs,Sem.run_pure]
 cases low <;> cases high <;> cases max <;> simp_all [execOp,Instr.sliceAt,run_underlying ht]
theorem zGC {w:World} {kd:IntKind} {i:Int} {y:Nat} {code:BoundsCode} (h0:0≤i) (h1:i≤(y:Int)):(Instr.sliceBound (.int kd i) y code).run P w = .ok i.toNat w:=by
 unfold Instr.sliceBound
 simp [asIntOf,h0,h1]
theorem zTZ {w:World} {A:Nat→Prop} {κ:List Value} {full:Bool} {rows:List (List AV)} {a:Option Addr} {c s lo hi mx:Nat} (hv:VR w A κ (.sl full rows) (.slice a rows.length c) []) (hlen:∀ r,r∈rows→r.length=s) (h1:lo≤hi) (h2:hi≤rows.length) (h3:hi≤mx) (h4:mx≤c) (f':Bool) (hf:f'=true→mx=hi) :
  VR w A κ (.sl f' ((rows.take hi).drop lo)) (.slice (if mx=lo then a else a.map (·.add (lo*s))) (hi - lo) (mx - lo)) []:=by
 unfold VR at hv ⊢
 obtain ⟨_,a',c',hv,q1,q2,q3,q4⟩:=hv
 injection hv with e1 e2 e3
 subst e1; subst e3
 have hl:((rows.take hi).drop lo).length=hi - lo:=by simp; omega
 refine ⟨rfl,_,_,by rw [hl],by omega,by omega,fun h=>by have:=hf h; omega,?_⟩
 by_cases hlo:hi=lo
 ·left
  apply List.eq_nil_of_length_eq_zero
  omega
 ·right
  rcases q4 with q4 | ⟨b,o',sz,vr,rfl,hA,hb,r1,r2,r3⟩
  ·rw [q4] at h2; simp at h2; omega
  ·have hm:mx≠lo:=by omega
   rw [if_neg hm]
   have hvl:=zFo r1
   have e1:rows=rows.take lo++((rows.take hi).drop lo++rows.drop hi):=by
    have h5:(rows.take hi).take lo=rows.take lo:=by rw [List.take_take]; congr 1; omega
    rw [← List.append_assoc, ← h5,List.take_append_drop,List.take_append_drop]
   rw [e1] at r1
   obtain ⟨v1,v2,f1,f2,rfl,hf0,s1,s2⟩:=zIw.1 r1
   obtain ⟨v3,v4,f3,f4,rfl,hf1,s3,s4⟩:=zIw.1 s2
   obtain ⟨rfl,rfl⟩:=List.append_eq_nil_iff.1 hf0.symm
   obtain ⟨rfl,rfl⟩:=List.append_eq_nil_iff.1 hf1.symm
   have l1:=zFo s1
   have l3:=zFo s3
   have hl1:v1.length=lo:=by rw [l1,List.length_take]; omega
   have hsz:sz=s:=by
    have h6:0<v3.length:=by rw [l3,hl]; omega
    have h7:=zPZ s3 (fun r hr=>hlen r (List.mem_of_mem_take (List.mem_of_mem_drop hr))) v3[0] (List.getElem_mem h6)
    have h8:=r2 v3[0] (by simp)
    omega
   subst hsz
   refine ⟨b,o'+lo*sz,sz,v3,by simp [Addr.add_lit],hA,hb,s3,fun r hr=>r2 r (by simp [hr]),?_⟩
   intro q u hu
   have hf2:v1.flatten.length=lo*sz:=by rw [zEe (fun r hr=>r2 r (by simp [hr])),hl1]
   have:=r3 (lo*sz+q) u (by
    rw [List.flatten_append,List.flatten_append,List.getElem?_append_right (by omega),hf2,Nat.add_sub_cancel_left,List.getElem?_append_left (zAO hu)]
    exact hu)
   rw [← Nat.add_assoc] at this
   exact this
section
variable {α:Type} {f:α→List AV} {l l2:List α} {full:Bool} {el s:TypeId}
theorem zOR {kh:IntKind} {hi:Int} (ht:P.underlying t=some (.slice el)) (hs:∀ w,(sizeOf el).run P w = .ok s w) (hl:∀ x,(f x).length=s) (hx:aev n e x = .sl full (l.map f)) (hz:aev n e z = .lit (.int kh hi)) (hb:zHG 0 hi l.length=true) :
  zv P n e H (.slice t x none (some z) none) (.sl false ((zFX l 0 hi).map f)):=by
 intro w A0 κ fp F h1 h2
 have hv:=h2.ev x
 rw [hx] at hv
 have hv0:=hv
 unfold VR at hv
 obtain ⟨_,a,c,hv,h3,h4,h5,h6⟩:=hv
 rw [hv] at hv0
 rw [List.length_map] at hv h3 hv0
 have bd:=zMH hb
 refine ⟨_,zMS ht hs hv (lo:=0) (hi:=hi.toNat) (mx:=c) ?_,?_⟩
 ·simp only [Option.map_some,Option.map_none,zAo h2 hz,Instr.sliceBounds,Sem.run_bind,Sem.run_pure,Result.andThen_ok]
  rw [zGC (by omega) (by omega)]
  rfl
 ·have:=zTZ (full:=full) (rows:=l.map f) (s:=s) (lo:=0) (hi:=hi.toNat) (mx:=c) (by rw [List.length_map]; exact hv0) (zNc hl) (by omega) (by rw [List.length_map]; exact bd.2.2.2.2) (by omega) (Nat.le_refl _) false (by simp)
  unfold zFX
  rw [List.map_drop,List.map_take]
  exact this
theorem zKf {kl:IntKind} {lo:Int} (ht:P.underlying t=some (.slice el)) (hs:∀ w,(sizeOf el).run P w = .ok s w) (hl:∀ x,(f x).length=s) (hx:aev n e x = .sl full (l.map f)) (hy:aev n e y = .lit (.int kl lo)) (hb:zHG lo (l.length:Int) l.length=true) :
  zv P n e H (.slice t x (some y) none none) (.sl false ((zFX l lo (l.length:Int)).map f)):=by
 intro w A0 κ fp F h1 h2
 have hv:=h2.ev x
 rw [hx] at hv
 have hv0:=hv
 unfold VR at hv
 obtain ⟨_,a,c,hv,h3,h4,h5,h6⟩:=hv
 rw [hv] at hv0
 rw [List.length_map] at hv h3 hv0
 have bd:=zMH hb
 refine ⟨_,zMS ht hs hv (lo:=lo.toNat) (hi:=l.length) (mx:=c) ?_,?_⟩
 ·simp only [Option.map_some,Option.map_none,zAo h2 hy,Instr.sliceBounds,Sem.run_bind,Sem.run_pure,Result.andThen_ok]
  rw [zGC (by omega) (by omega)]
  rfl
 ·have:=zTZ (full:=full) (rows:=l.map f) (s:=s) (lo:=lo.toNat) (hi:=l.length) (mx:=c) (by rw [List.length_map]; exact hv0) (zNc hl) (by omega) (by rw [List.length_map]; exact Nat.le_refl _) (by omega) (Nat.le_refl _) false (by simp)
  unfold zFX
  rw [List.map_drop,List.map_take,Int.toNat_natCast]
  exact this
end
theorem zOi {w:World} {s q:Nat} {v:Value} {rows:List (List Value)} (h:Src w s v rows) (hq:q≤rows.length):(Builtin.firstCells s q v).run P w = .ok (rows.take q).flatten.toArray w:=by
 obtain ⟨a,c,rfl,h1,h2,h3,h4⟩:=h
 rcases Nat.eq_zero_or_pos q with h0 | h0
 ·subst h0
  cases a with
  | none=>simp [Builtin.firstCells]
  | some x=>simp [Builtin.firstCells,loadCells,loadCellsFrom]
 ·rcases h4 with h4 | ⟨b,o,rfl,hc⟩
  ·omega
  ·have hl:(rows.take q).flatten.length=q*s:=by
    rw [zEe (sz:=s) (fun r hr=>h2 r (List.mem_of_mem_take hr)),List.length_take]
    congr 1
    omega
   have:=run_loadCells_list (P:=P) w ⟨b,o,none⟩ (rows.take q).flatten (fun i u hu=>by
    rw [Addr.add_lit]
    refine hc i u ?_
    have e1:rows.flatten=(rows.take q).flatten++(rows.drop q).flatten:=by rw [← List.flatten_append,List.take_append_drop]
    rw [e1,List.getElem?_append_left (zAO hu)]
    exact hu)
   rw [hl] at this
   simp [Builtin.firstCells,this]
theorem zWD {w:World} {s:Nat} {v:Value} {rows:List (List Value)} (h:Src w s v rows):(Builtin.lenOf v).run P w = .ok rows.length w:=by
 obtain ⟨a,c,rfl,_⟩:=h
 simp [Builtin.lenOf]
theorem zQI {w:World} {A0:Nat→Prop} {κ:List Value} {fp:Nat→List Nat} {F:Env} {el s:TypeId} {ty:TypeId} {rows ns:List (List AV)} (h1:SH w A0 H κ fp) (h2:zKd w (avd A0 fp) κ n e F) (ht:P.underlying t=some (.slice el)) (hs:∀ w,(sizeOf el).run P w = .ok s w)
  (hx:aev n e x = .hd k) (hk:H[k]?=some (.vec el s rows)) {yv:Value} (hy:ev n F y=yv) {vn:List (List Value)} (hsrc:Src w s yv vn) (hvn:VRr w (avd A0 fp) [] ns vn []) :
  ∃ w' κ' fp',Val P n F w (.call { callee := .builtin .copy,args := #[x,y],argTypes := #[t,ty] }) (.int .i64 ((min ns.length rows.length:Nat):Int)) w'∧SH w' A0 (H.set k (.vec el s (ns.take rows.length++rows.drop ns.length))) κ' fp'∧zLe w fp κ w' fp' κ':=by
 have hv:=h2.ev x
 rw [hx] at hv
 unfold VR at hv
 obtain ⟨g,vr,f',hO,hr,hfp,hlen⟩:=zIK h1 hk hv.1
 have hnl:=zFo hvn
 obtain ⟨a,c,hform,_,_⟩:=zI2 hO
 have hq:min vn.length vr.length≤vn.length:=Nat.min_le_left _ _
 have hfc:=zOi (P:=P) hsrc hq
 have hlo:=zWD (P:=P) hsrc
 rcases Nat.eq_zero_or_pos (min vn.length vr.length) with h0 | h0
 ·
  have hrows:ns.take rows.length++rows.drop ns.length=rows:=by
   rw [hnl,hlen] at h0
   rcases Nat.eq_zero_or_pos ns.length with q | q
   ·have:ns=[]:=List.length_eq_zero_iff.1 q
    subst this; simp
   ·have q2:rows.length=0:=by omega
    have:rows=[]:=List.length_eq_zero_iff.1 q2
    subst this; simp
  refine ⟨w,κ,fp,⟨fun d t' p af g' => ?_⟩,?_,zLe.refl _ _ _⟩
  ·have hrun:(Builtin.copy_ #[t,ty] t' #[ev n F x,yv]).run P w = .ok (.int .i64 ((min ns.length rows.length:Nat):Int)) w:=by
    unfold Builtin.copy_
    rw [hform]
    have e1:Nat.min vn.length vr.length=0:=h0
    have e2:min ns.length rows.length=0:=by rw [← hnl, ← hlen]; exact h0
    rw [h0] at hfc
    cases a with
    | none=>simp [run_underlying ht,hlo,hs,e1,hfc,e2,goInt]
    | some b=>simp [run_underlying ht,hlo,hs,e1,hfc,e2,goInt,storeCells]
   simp [execOp,hy,resolve,invoke,builtin,hrun]
  ·rw [hrows]
   have:H.set k (.vec el s rows)=H:=by
    apply List.ext_getElem?
    intro i
    by_cases hi:k=i
    ·subst hi
     rw [List.getElem?_set_self (zAO hk),hk]
    ·rw [List.getElem?_set_ne hi]
   rw [this]
   exact h1
 ·obtain ⟨b,cap,sp,rfl,hv',h7,h8,h9,h10⟩:=zLl hO (i:=0) (by omega)
  have hls:=hO.1
  have hfl:(vn.take (min vn.length vr.length)).flatten.length=min vn.length vr.length*s:=by
   rw [zEe (sz:=s) (fun r hr=>by
    obtain ⟨_,_,_,_,h3,_⟩:=hsrc
    exact h3 r (List.mem_of_mem_take hr)),List.length_take]
   congr 1
   omega
  have hle:(vn.take (min vn.length vr.length)).flatten.length≤vr.flatten.length:=by
   rw [hfl,zEe hls]
   exact Nat.mul_le_mul_right _ (Nat.min_le_right _ _)
  have hone:∀ v∈(vn.take (min vn.length vr.length)).flatten,v.oneCell'=true:=fun v hv=>by
   obtain ⟨r,hr,hv⟩:=List.mem_flatten.1 hv
   obtain ⟨_,_,_,_,_,h3,_⟩:=hsrc
   exact h3 r (List.mem_of_mem_take hr) v hv
  obtain ⟨w',r1,hkp,_,r4⟩:=zFM (P:=P) (b:=b) (o:=0) (vn.take (min vn.length vr.length)).flatten 0 (vr.flatten++sp) w h9 (by simp only [List.length_append]; omega) hone
  have e3:zDx (vr.flatten++sp) (0+0) (vn.take (min vn.length vr.length)).flatten=(vn.take vr.length++vr.drop vn.length).flatten++sp:=by
   have q1:vn.take (min vn.length vr.length)=vn.take vr.length:=by
    rcases Nat.le_total vn.length vr.length with q | q
    ·rw [Nat.min_eq_left q,List.take_of_length_le (Nat.le_refl _),List.take_of_length_le q]
    ·rw [Nat.min_eq_right q]
   have q2:(vr.flatten).drop (vn.take (min vn.length vr.length)).flatten.length=(vr.drop vn.length).flatten:=by
    rw [hfl]
    have q3:vr.flatten=(vr.take (min vn.length vr.length)).flatten++(vr.drop (min vn.length vr.length)).flatten:=by rw [← List.flatten_append,List.take_append_drop]
    have q4:(vr.take (min vn.length vr.length)).flatten.length=min vn.length vr.length*s:=by
     rw [zEe (sz:=s) (fun r hr=>hls r (List.mem_of_mem_take hr)),List.length_take]; congr 1; omega
    rw [q3, ← q4,List.drop_left]
    rcases Nat.le_total vn.length vr.length with q | q
    ·rw [Nat.min_eq_left q]
    ·rw [Nat.min_eq_right q,List.drop_of_length_le (Nat.le_refl _),List.drop_of_length_le q]
   unfold zDx
   rw [List.drop_append_of_le_length (by omega)]
   simp only [Nat.add_zero,List.take_zero,List.nil_append,Nat.zero_add]
   rw [q2,List.flatten_append,q1,List.append_assoc]
  rw [e3] at r4
  have hnd:=h1.nd k
  rw [hfp] at hnd
  have hvr':∃ f'',VRr w (avd A0 fp) [] (rows.drop ns.length) (vr.drop vn.length) f''∧f''.Sublist f':=by
   have q1:rows=rows.take ns.length++rows.drop ns.length:=(List.take_append_drop _ _).symm
   rw [q1] at hr
   obtain ⟨v1,v2,f1,f2,q2,q3,q4,q5⟩:=zIw.1 hr
   have q6:=zFo q4
   rw [List.length_take] at q6
   refine ⟨f2,?_,by rw [q3]; exact List.sublist_append_right _ _⟩
   have q7:vr.drop vn.length=v2:=by
    rw [q2]
    rcases Nat.le_total ns.length rows.length with q | q
    ·have:v1.length=vn.length:=by rw [hnl]; omega
     rw [← this,List.drop_left]
    ·have q8:=zFo q5
     rw [List.length_drop] at q8
     have:v2=[]:=List.length_eq_zero_iff.1 (by omega)
     rw [this,List.append_nil,List.drop_of_length_le (by omega)]
   rw [q7]
   exact q5
  obtain ⟨f'',hvr',hsub'⟩:=hvr'
  have hsub:(b::f'').Sublist (b::f'):=hsub'.cons_cons b
  have hfp':fp k=b::f':=hfp
  have hnd':(b::f').Nodup:=hnd
  have hs1:=h1.set1 (w':=w') (k:=k) (e1 := .vec el s (ns.take rows.length++rows.drop ns.length)) (f1:=b::f'') (zAO hk) (KpS.of hkp (fun q hq=>by simp at hq; subst hq; rw [hfp']; simp)) (fun q hq => .inl (by rw [hfp']; exact hsub.mem hq)) (hnd'.sublist hsub) (fun v hv2 mv=>by
   rw [hv.1] at hv2
   cases hv2
   refine ⟨some b,vn.take vr.length++vr.drop vn.length,[]++f'',?_,?_,rfl⟩
   ·refine zJq hv' h7 h8 r4 h10 hls (fun r hr => ?_) (by simp; omega)
    rcases List.mem_append.1 hr with hr | hr
    ·obtain ⟨_,_,_,_,h3,_⟩:=hsrc
     exact h3 r (List.mem_of_mem_take hr)
    ·exact hls r (List.mem_of_mem_drop hr)
   ·refine zIw.2 ⟨_,_,[],f'',rfl,rfl,?_,VRr.mv mv.nil _ _ _ (fun q hq=>hkp.block q (h1.lt k q (by rw [hfp']; exact hsub.mem (List.mem_cons_of_mem _ hq))) (by
     simp
     rintro rfl
     exact (List.nodup_cons.1 hnd').1 (hsub'.mem hq))) hvr'⟩
    rw [hlen]
    have q1:ns=ns.take rows.length++ns.drop rows.length:=(List.take_append_drop _ _).symm
    have hvn2:=VRr.mv mv.nil _ _ _ (fun _ hq=>by cases hq) hvn
    rw [q1] at hvn2
    obtain ⟨v1,v2,f1,f2,q2,q3,q4,q5⟩:=zIw.1 hvn2
    obtain ⟨rfl,rfl⟩:=List.append_eq_nil_iff.1 q3.symm
    have q6:=zFo q4
    rw [List.length_take] at q6
    have q7:vn.take rows.length=v1:=by
     rw [q2]
     rcases Nat.le_total rows.length ns.length with q | q
     ·have:v1.length=rows.length:=by omega
      rw [← this,List.take_left]
     ·have q8:=zFo q5
      rw [List.length_drop] at q8
      have:v2=[]:=List.length_eq_zero_iff.1 (by omega)
      rw [this,List.append_nil,List.take_of_length_le (by omega)]
    rw [q7]
    exact q4)
  refine ⟨w',κ,_,⟨fun d t' p af g' => ?_⟩,hs1.1,hs1.2⟩
  have hrun:(Builtin.copy_ #[t,ty] t' #[ev n F x,yv]).run P w = .ok (.int .i64 ((min ns.length rows.length:Nat):Int)) w':=by
   unfold Builtin.copy_
   rw [hv']
   have e1:Nat.min vn.length vr.length=min vn.length vr.length:=rfl
   have e2:min ns.length rows.length=min vn.length vr.length:=by rw [← hnl, ← hlen]
   rw [e2]
   simp [run_underlying ht,hlo,hs,e1,hfc,goInt,r1]
  simp [execOp,hy,resolve,invoke,builtin,hrun]
section
variable {α:Type} {f:α→List AV} {l l2:List α} {full:Bool} {el s ty:TypeId}
theorem zO2 {rows ns:List α}:(ns.map f).take (rows.map f).length++(rows.map f).drop (ns.map f).length=(zC0 rows ns).map f:=by
 unfold zC0
 rw [List.map_append,List.map_take,List.map_drop,List.length_map,List.length_map]
theorem zLH (ht:P.underlying t=some (.slice el)) (hs:∀ w,(sizeOf el).run P w = .ok s w) (hl:∀ x,(f x).length=s) (hx:aev n e x = .hd k) (hk:H[k]?=some (.vec el s (l.map f))) (hy:aev n e y = .sl full (l2.map f)) :
  zIs P n e H (.call { callee := .builtin .copy,args := #[x,y],argTypes := #[t,ty] }) (eI ((min l2.length l.length:Nat):Int)) (H.set k (.vec el s ((zC0 l l2).map f))):=by
 intro w A0 κ fp F h1 h2
 have hyv:=h2.ev y
 rw [hy] at hyv
 obtain ⟨vn,hs1,hs2⟩:=zVx hyv (zNc hl)
 obtain ⟨w',κ',fp',r1,r2,r3⟩:=zQI (ty:=ty) h1 h2 ht hs hx hk rfl hs1 hs2
 rw [zO2] at r2
 rw [List.length_map,List.length_map] at r1
 exact ⟨_,w',κ',fp',r1,r2,zH2 _ _ _ _,r3⟩
theorem zRB {el':TypeId} (ht:P.underlying t=some (.slice el)) (hs:∀ w,(sizeOf el).run P w = .ok s w) (hf:∀ x,(f x).all isE=true) (hx:aev n e x = .hd k) (hk:H[k]?=some (.vec el s (l.map f))) (hy:aev n e y = .hd j) (hj:H[j]?=some (.vec el' s (l2.map f))) :
  zIs P n e H (.call { callee := .builtin .copy,args := #[x,y],argTypes := #[t,ty] }) (eI ((min l2.length l.length:Nat):Int)) (H.set k (.vec el s ((zC0 l l2).map f))):=by
 intro w A0 κ fp F h1 h2
 have hyv:=h2.ev y
 rw [hy] at hyv
 unfold VR at hyv
 obtain ⟨g,vn,f',hO,hr,hfp,hlen⟩:=zIK h1 hj hyv.1
 have:=zWn (zTY hf) hr
 subst this
 obtain ⟨w',κ',fp',r1,r2,r3⟩:=zQI (ty:=ty) h1 h2 ht hs hx hk rfl (zUI hO (zPg hr)) hr
 rw [zO2] at r2
 rw [List.length_map,List.length_map] at r1
 exact ⟨_,w',κ',fp',r1,r2,zH2 _ _ _ _,r3⟩
end
end
end Go.Am
namespace Go.Am
open Go Go.RowKit Go.Wk
section
variable {P:Program} {n m:Nat} {e e':zBv} {H G:zAM} {x y z:Operand} {k j o:Nat} {t T:TypeId}
theorem zLs {i:Nat} {rows:List (List AV)} {t' s':Nat} {rows':List (List AV)} (hz:∀ w,(sizeOf t).run P w = .ok 1 w) (hx:aev n e x = .ptr k o) (hk:H[k]?=some (.vec T 1 rows)) (ho:o=i*1) (hi:i<rows.length) (hy:aev n e y = .hd j) (hj:H[j]?=some (.vec t' s' rows')) :
  zR3 P n e H (.store t x y) (H.set k (.vopen T 1 rows i [.hd j])):=by
 intro w A0 κ fp F h1 h2
 have hv:=h2.ev x
 rw [hx] at hv
 unfold VR at hv
 obtain ⟨_,u,b,g1,g2,hv⟩:=hv
 obtain ⟨vr,cap,sp,f',hO,h6,h7,h8,h9,h10,h3,h4,h5,hls⟩:=zNw h1 hk g1 g2
 have hyv:=h2.ev y
 rw [hy] at hyv
 have hyκ:=hyv
 unfold VR at hyκ
 have hone:(ev n F y).oneCell'=true:=by
  obtain ⟨g,vr2,f2,ho2,_⟩:=h1.ent j _ _ hj hyκ.1
  exact zNd ho2
 obtain ⟨v1,r,v2,f1,f2,f3,rfl,hl1,rfl,q1,q2,q3⟩:=zLr h3 (List.getElem?_eq_getElem hi)
 have hrl:=hls _ (List.mem_of_getElem? (zGZ hl1))
 obtain ⟨pv,rfl⟩:∃ pv,r=[pv]:=by
  cases r with
  | nil=>simp at hrl
  | cons a r=>cases r with
   | nil=>exact ⟨a,rfl⟩
   | cons b r=>simp at hrl
 have hil:i<(v1++[pv]::v2).length:=by simp; omega
 have hfl:=zRd (j:=0) hls hil (by omega)
 rw [Nat.mul_one] at ho
 subst ho
 have hkp:Kp [b] w (w.setCell ⟨b,o,none⟩ (ev n F y)):=Kp.setCell w ⟨b,o,none⟩ (ev n F y)
 have hnd:=h1.nd k
 rw [h4] at hnd
 have hsub:(b::(f1++([]++f3))).Sublist (b::(f1++(f2++f3))):=(zJW (List.nil_sublist _)).cons_cons b
 have hs:=h1.set1 (k:=k) (e1 := .vopen T 1 rows o [.hd j]) (f1:=b::(f1++([]++f3))) (zAO hk) (KpS.of hkp (fun x hx=>by simp at hx; subst hx; rw [h4]; simp)) (fun x hx => .inl (by rw [h4]; exact hsub.mem hx)) (hnd.sublist hsub) (fun v' hv' mv=>by
  rw [g1] at hv'
  cases hv'
  have hne:∀ q,q∈f1++(f2++f3)→(w.setCell ⟨b,o,none⟩ (ev n F y)).heap[q]?=w.heap[q]?:=fun q hq=>by
   have hql:q<w.heap.size:=h1.lt k q (by rw [h4]; exact List.mem_cons_of_mem _ hq)
   exact hkp.block q hql (by simp; rintro rfl; exact (List.nodup_cons.1 hnd).1 hq)
  refine ⟨some b,v1,[ev n F y],v2,f1,[],f3,?_,hl1,hi,VRr.mv mv.nil _ _ _ (fun q hq=>hne q (by simp [hq])) q1,?_,VRr.mv mv.nil _ _ _ (fun q hq=>hne q (by simp [hq])) q3,rfl⟩
  ·refine zJq h6 h7 h8 ?_ h10 hls (fun r hr => ?_) (by simp)
   ·have:=h9.set (j:=o) (v:=ev n F y)
    have e1:=zPl hls (zGZ hl1) (j:=0) (by omega) (ev n F y)
    simp only [Nat.mul_one,Nat.add_zero] at e1 hfl
    rw [zRU hfl,e1,zKy hl1] at this
    exact this
   ·simp only [List.mem_append,List.mem_cons] at hr
    rcases hr with hr | rfl | hr
    ·exact hls r (by simp [hr])
    ·rfl
    ·exact hls r (by simp [hr])
  ·unfold VRs
   exact ⟨ev n F y,[],[],[],rfl,rfl,hone,VR.mv mv _ _ _ (fun q hq=>by cases hq) hyv,by unfold VRs; exact ⟨rfl,rfl⟩⟩)
 exact ⟨_,_,_,zJ3 hz h9 (by simp only [Nat.mul_one,Nat.add_zero] at hfl; simp only [List.length_append]; omega) hone hv rfl,hs.1,hs.2⟩
theorem zTy {el:TypeId} {kd:IntKind} {t' s q:Nat} {i:Int} {rows row:List (List AV)} {rw_:List AV} (ht:P.underlying t=some (.slice el)) (hs:∀ w,(sizeOf el).run P w = .ok s w) (hx:aev n e x = .hd k) (hk:H[k]?=some (.vopen t' s rows q rw_)) (hy:aev n e y = .lit (.int kd i)) (hi:inb i rows.length=true) :
  zv P n e H (.indexAddr t x y) (.ptr k (i.toNat*s)):=by
 intro w A0 κ fp F h1 h2
 have hv:=h2.ev x
 rw [hx] at hv
 unfold VR at hv
 obtain ⟨g,v1,r,v2,f1,f2,f3,h3,h4,h5,h6,h7,h8,h9⟩:=h1.ent k _ _ hk hv.1
 have hy':=zAo h2 hy
 rw [← zQq hi] at hy'
 have hlt:=(zBt hi).2
 have hlen:(v1++r::v2).length=rows.length:=by
  have a1:=zFo h8
  simp only [List.length_append,List.length_cons,List.length_drop] at a1 ⊢
  omega
 obtain ⟨b,cap,sp,rfl,hv',_,_,_,_⟩:=zLl h3 (by rw [hlen]; exact hlt)
 rw [hlen] at hv'
 have hv1:=hv.1
 rw [hv'] at hv hv1
 refine ⟨_,zPN ht hs hv' hy' hlt,?_⟩
 unfold VR
 exact ⟨rfl,_,b,hv1,rfl,by rw [Nat.zero_add]⟩
theorem zMi {i:Nat} {rows:List (List AV)} {a:AV} (ha:∀ w,(isAgg t).run P w = .ok false w) (hx:aev n e x = .ptr k o) (hk:H[k]?=some (.vopen T 1 rows i [a])) (ho:o=i*1) (hE:isE a=true):zv P n e H (.load t x) a:=by
 intro w A0 κ fp F h1 h2
 have hv:=h2.ev x
 rw [hx] at hv
 unfold VR at hv
 obtain ⟨_,u,b,g1,g2,hv⟩:=hv
 obtain ⟨g,v1,r,v2,f1,f2,f3,h3,h4,h5,h6,h7,h8,h9⟩:=h1.ent k _ _ hk g1
 unfold VRs at h7
 obtain ⟨v,vs',q1,q2,rfl,rfl,q3,q4,q5⟩:=h7
 unfold VRs at q5
 obtain ⟨rfl,rfl⟩:=q5
 have:=zWe hE q4
 subst this
 obtain ⟨b',cap,sp,rfl,hv',_,_,h13,_⟩:=zLl h3 (i:=0) (by simp; omega)
 rw [hv'] at g2
 cases g2
 rw [Nat.mul_one] at ho
 subst ho
 have hc:=zPw h3.1 (zGZ h4) h13.cells
 rw [Nat.zero_add,Nat.mul_one] at hc
 exact ⟨v,zMK (j:=0) ha hv hc rfl,q4⟩
theorem zS1 {i:Nat} {rows:List (List AV)} {t' s':Nat} {rows' rf:List (List AV)} (hk:H[k]?=some (.vopen T 1 rows i [.hd j])) (hj:H[j]?=some (.vec t' s' rows')) (hjk:Nat.beq j k=false) (hr:zPL rows'=rf) :
  Rep n m e H e ((H.set k (.vec T 1 (rows.set i [.sl false rf]))).set j .dead):=by
 intro w A0 κ fp F h1 h2
 have hjk':j≠k:=fun h=>by subst h; simp at hjk
 have hkl:k<κ.length:=by rw [h1.len]; exact zAO hk
 have hκ:=List.getElem?_eq_getElem hkl
 obtain ⟨g,v1,r,v2,f1,f2,f3,h3,h4,h5,h6,h7,h8,h9⟩:=h1.ent k _ _ hk hκ
 unfold VRs at h7
 obtain ⟨v,vs',q1,q2,rfl,rfl,q3,q4,q5⟩:=h7
 unfold VRs at q5
 obtain ⟨rfl,rfl⟩:=q5
 unfold VR at q4
 obtain ⟨q4,rfl⟩:=q4
 have hjr:VR w (avd A0 fp) [] (.osl t' s' rows') v (fp j):=by
  have:=h1.ent j _ _ hj q4
  unfold VR
  exact this
 have hnd:=h1.nd k
 rw [h9] at hnd
 simp only [List.nil_append] at hnd h9
 have hs:=h1.set2 (w':=w) (k:=k) (j:=j) (e1 := .vec T 1 (rows.set i [.sl false rf])) (f1:=g.toList++(f1++([]++f3))) (zAO hk) (zAO hj) hjk' (KpS.refl _ _) (fun x hx => .inl (by rw [h9]; simpa using hx)) (by simpa using hnd) (fun v' hv' mv=>by
  rw [hκ] at hv'
  cases hv'
  refine ⟨g,v1++[v]::v2,f1++([]++f3),h3,?_,rfl⟩
  rw [zHh _ h5]
  refine zNT (VRr.mv mv.nil _ _ _ (fun _ _=>rfl) h6) ?_ (VRr.mv mv.nil _ _ _ (fun _ _=>rfl) h8)
  unfold VRs
  refine ⟨v,[],[],[],rfl,rfl,q3,?_,by unfold VRs; exact ⟨rfl,rfl⟩⟩
  have:=VR.frz (fun q hq=>(mv.av q hq).elim id (fun h=>absurd h (by
   rcases hq with hq | ⟨i',hq⟩
   ·exact Nat.not_le.2 (h1.old q hq)
   ·unfold zFV at hq
    split at hq
    ·cases hq
    ·split at hq
     ·exact Nat.not_le.2 (h1.lt k q (by rw [h9]; simpa using hq))
     ·exact Nat.not_le.2 (h1.lt i' q hq)))) _ _ _ (fun q hq hA=>by
   rcases hA with hA | ⟨i',hA⟩
   ·exact h1.na j q hq hA
   ·unfold zFV at hA
    split at hA
    ·cases hA
    ·rename_i hne
     split at hA
     ·exact hjk' (h1.dj j k q hq (by rw [h9]; simpa using hA))
     ·exact hne (h1.dj i' j q hA hq)) hjr
  unfold Go.Am.frz at this
  rw [hr] at this
  exact this)
 exact ⟨_,_,hs.1,h2.mv (hs.2.mv A0),hs.2.m m⟩
def zUE (e:zBv) (k:Nat):List (Nat×Nat)→Prop
 | []=>True
 | (d,o)::ds=>e d = .ptr k o∧zUE e k ds
def zYw (e:zBv) (cs:List AV):List (Nat×Nat)→zBv
 | []=>e
 | (d,o)::ds=>fun i=>bif Nat.beq i d then .rp cs o else zYw e cs ds i
theorem zSg {e:zBv} {cs:List AV} {k:Nat}:∀ {ds:List (Nat×Nat)},zUE e k ds → ∀ i,zYw e cs ds i=e i ∨ ∃ o,e i = .ptr k o∧zYw e cs ds i = .rp cs o
 | [],_,i => .inl rfl
 | (d,o)::ds,h,i=>by
  unfold zYw
  cases hb:Nat.beq i d with
  | true =>
   have:=Nat.eq_of_beq_eq_true hb
   subst this
   exact .inr ⟨o,h.1,rfl⟩
  | false=>exact zSg h.2 i
theorem zVa {cs cs':List AV} (hk:H[k]?=some (.box T cs)) (hn:cs.all nr=true) (hf:zNV cs=cs') {ds:List (Nat×Nat)} (hd:zUE e k ds):Rep n m e H (zYw e cs' ds) (H.set k .dead):=by
 intro w A0 κ fp F h1 h2
 have hs:=h1.set1 (w':=w) (k:=k) (e1 := .dead) (f1:=[]) (zAO hk) (KpS.refl _ _) (by simp) (by simp) (fun _ _ _=>rfl)
 refine ⟨_,_,hs.1,fun i hi => ?_,hs.2.m m⟩
 have h3:=(h2.mv (hs.2.mv A0)) i hi
 rcases zSg (cs:=cs') hd i with hq | ⟨o,hq1,hq2⟩
 ·rw [hq]; exact h3
 ·have h6:=h2 i hi
  rw [hq1] at h6
  unfold VR at h6
  obtain ⟨_,u,b,g1,g2,hv⟩:=h6
  obtain ⟨b',vs,f',rfl,hblk,hvs,hfp⟩:=h1.ent k _ u hk g1
  cases g2
  rw [hq2]
  unfold VR
  have h4:=VRs.frz (A':=avd A0 (zFV fp k [])) (fun b hb=>((hs.2.mv A0).av b hb).elim id (fun h=>absurd h (by
   rcases hb with hb | ⟨i,hb⟩
   ·exact Nat.not_le.2 (h1.old b hb)
   ·exact Nat.not_le.2 (hs.1.lt i b hb)))) _ _ _ (fun q hq hA=>by
    rcases hA with hA | ⟨i,hA⟩
    ·exact h1.na k q (by rw [hfp]; exact List.mem_cons_of_mem _ hq) hA
    ·unfold zFV at hA
     split at hA
     ·cases hA
     ·rename_i hne; exact hne (h1.dj i k q hA (by rw [hfp]; exact List.mem_cons_of_mem _ hq))) (zMY (κ':=[]) hn hvs)
  rw [hf] at h4
  refine ⟨rfl,b,0,vs,by rw [Nat.zero_add]; exact hv,fun hA => ?_,hblk.lt,h4,hblk.cells⟩
  rcases hA with hA | ⟨i,hA⟩
  ·exact h1.na k b (by rw [hfp]; exact List.mem_cons_self ..) hA
  ·unfold zFV at hA
   split at hA
   ·cases hA
   ·rename_i hne; exact hne (h1.dj i k b hA (by rw [hfp]; exact List.mem_cons_self ..))
theorem zRA {α:Type} {f:α→List AV} {l:List (List α)} {l':List α} {i t' s':Nat} (hf:∀ x,zNV (f x)=f x) (hk:H[k]?=some (.vopen T 1 (l.map (cS f)) i [.hd j])) (hj:H[j]?=some (.vec t' s' (l'.map f))) (hjk:Nat.beq j k=false) :
  Rep n m e H e ((H.set k (.vec T 1 ((l.set i l').map (cS f)))).set j .dead):=by
 have:=zS1 (n:=n) (m:=m) (e:=e) hk hj hjk (zAb hf)
 rw [List.map_set]
 exact this
theorem zP2 {α:Type} {g:α→AV} {d0:α} {l:List α} {hd tl cs:List AV} {N:Nat} {el:TypeId} {kd:IntKind} {hi:Int} {f:α→List AV} (ht:P.underlying t=some (.array N el)) (hs:∀ w,(sizeOf el).run P w = .ok 1 w) (hx:aev n e x = .rp cs o) (hcs:cs=hd++(cA N g d0 l++tl)) (ho:o=hd.length) (hf:∀ x,[g x]=f x) (hy:aev n e y = .lit (.int kd hi)) (hb:zHG 0 hi N=true) (hl:decide (l.length=N)=true) (hN:Nat.ble N 1000000=true) :
  zv P n e H (.slice t x none (some y) none) (.sl false ((zFX l 0 hi).map f)):=by
 intro w A0 κ fp F h1 h2
 have hv:=h2.ev x
 rw [hx] at hv
 unfold VR at hv
 obtain ⟨_,b,o',vs,hv,hA,hbl,hvs,hc⟩:=hv
 have hlN:=of_decide_eq_true hl
 have hN':=Nat.le_of_ble_eq_true hN
 have bd:=zMH hb
 rw [hcs] at hvs
 obtain ⟨v1,v2,f1,f2,rfl,hf0,s1,s2⟩:=zFY.1 hvs
 obtain ⟨v3,v4,f3,f4,rfl,hf1,s3,s4⟩:=zFY.1 s2
 obtain ⟨rfl,rfl⟩:=List.append_eq_nil_iff.1 hf0.symm
 obtain ⟨rfl,rfl⟩:=List.append_eq_nil_iff.1 hf1.symm
 have l1:=zFH s1
 have e1:cA N g d0 l=l.map g:=by
  apply List.ext_getElem?
  intro i
  by_cases hi:i<N
  ·have:i<l.length:=by omega
   simp [cA,hi,this]
  ·rw [List.getElem?_eq_none (by simp [cA]; omega),List.getElem?_eq_none (by simp; omega)]
 rw [e1] at s3
 have l3:=zFH s3
 rw [List.length_map] at l3
 refine ⟨.slice (some ⟨b,o'+o,none⟩) hi.toNat N,⟨fun d t' p af g' => ?_⟩,?_⟩
 ·have h0:hi≤(N:Int):=by omega
  simp [execOp,hv,zAo h2 hy,Instr.sliceAt,run_underlying ht,Instr.sureAddr,Instr.sliceBounds,zGC bd.2.1 h0,hs,Addr.add]
 ·unfold VR
  have hml:((zFX l 0 hi).map f).length=hi.toNat:=by unfold zFX; simp; omega
  refine ⟨rfl,_,_,by rw [hml],by rw [hml]; omega,⟨by rw [hml]; omega,by unfold maxLen; omega⟩,by simp,?_⟩
  by_cases h0:hi.toNat=0
  ·left
   exact List.length_eq_zero_iff.1 (by rw [hml]; exact h0)
  ·right
   have hrows:∀ (l:List α) (vs:List Value),VRs w (avd A0 fp) [] (l.map g) vs []→VRr w (avd A0 fp) [] (l.map f) (vs.map fun v=>[v]) []:=by
    intro l
    induction l with
    | nil =>
     intro vs h
     simp only [List.map_nil] at h ⊢
     unfold VRs at h
     rw [h.1]
     unfold VRr
     exact ⟨rfl,rfl⟩
    | cons a l ih =>
     intro vs h
     simp only [List.map_cons] at h ⊢
     unfold VRs at h
     obtain ⟨u,vs',g1,g2,rfl,hg,q3,q4,q5⟩:=h
     obtain ⟨rfl,rfl⟩:=List.append_eq_nil_iff.1 hg.symm
     unfold VRr
     refine ⟨[u],vs'.map fun v=>[v],[],[],rfl,rfl,?_,ih vs' q5⟩
     rw [← hf a]
     unfold VRs
     exact ⟨u,[],[],[],rfl,rfl,q3,q4,by unfold VRs; exact ⟨rfl,rfl⟩⟩
   have hall:=hrows l v3 s3
   have e2:(l.map f)=(l.map f).take hi.toNat++(l.map f).drop hi.toNat:=(List.take_append_drop _ _).symm
   rw [e2] at hall
   obtain ⟨u1,u2,f5,f6,hu,hf2,t1,t2⟩:=zIw.1 hall
   obtain ⟨rfl,rfl⟩:=List.append_eq_nil_iff.1 hf2.symm
   have l5:=zFo t1
   rw [List.length_take,List.length_map] at l5
   have e3:u1=(v3.take hi.toNat).map fun v=>[v]:=by
    have:u1=(v3.map fun v=>[v]).take hi.toNat:=by
     rw [hu,List.take_append_of_le_length (by omega),List.take_of_length_le (by omega)]
    rw [this,List.map_take]
   have e4:(u1).flatten=v3.take hi.toNat:=by
    rw [e3]
    generalize v3.take hi.toNat=q
    induction q with
    | nil=>rfl
    | cons a q ih=>simp [ih]
   refine ⟨b,o'+o,1,u1,rfl,hA,hbl,?_,fun r hr => ?_,?_⟩
   ·have:(zFX l 0 hi).map f=(l.map f).take hi.toNat:=by unfold zFX; simp [List.map_take]
    rw [this]
    exact t1
   ·rw [e3] at hr
    obtain ⟨q,_,rfl⟩:=List.mem_map.1 hr
    rfl
   ·rw [e4]
    intro q u hu2
    have hq:q<hi.toNat:=by have:=zAO hu2; simp at this; omega
    have:=hc (v1.length+q) u (by
     rw [List.getElem?_append_right (by omega),Nat.add_sub_cancel_left,List.getElem?_append_left (by omega)]
     rw [List.getElem?_take_of_lt hq] at hu2
     exact hu2)
    rw [← Nat.add_assoc] at this
    rw [ho, ← l1]
    exact this
end
end Go.Am
namespace Go.Am
open Go Go.RowKit Go.Wk
def zVK (σ:List Nat):AV→AV
 | .hd k => .hd (σ.getD k 0)
 | .ptr k o => .ptr (σ.getD k 0) o
 | a=>a
def zVh (σ:List Nat):AV→AV
 | .clo f caps => .clo f (caps.map (zVK σ))
 | a=>zVK σ a
def okL (N:Nat) (a:AV):Bool:=match a with
 | .hd k=>Nat.blt k N
 | .ptr k _=>Nat.blt k N
 | a=>nr a
def okA (N:Nat) (a:AV):Bool:=match a with
 | .clo _ caps=>caps.all (okL N)
 | .agg cs=>cs.all nr
 | .hd k=>Nat.blt k N
 | .ptr k _=>Nat.blt k N
 | a=>nr a
def zYn (σ:List Nat) (k:Nat):Bool:=match σ[k]? with
 | some q=>Nat.beq q k
 | none=>false
def zXz (σ:List Nat) (a:AV):Bool:=match a with
 | .hd k=>zYn σ k
 | .ptr k _=>zYn σ k
 | a=>nr a
def okR (σ:List Nat):zIz→Bool
 | .box _ cs=>cs.all (zXz σ)
 | .vec .. => true
 | .val a=>nrA a
 | .vopen _ _ _ _ row=>row.all (zXz σ)
 | .map _=>true
 | .dead=>true
section
variable {w:World} {A:Nat→Prop} {κ κ':List Value} {σ:List Nat}
theorem zRR {k:Nat} (h:zYn σ k=true):σ[k]?=some k:=by
 unfold zYn at h
 split at h
 ·rename_i q hq
  rw [hq,Nat.eq_of_beq_eq_true h]
 ·cases h
theorem zKz (hσ:∀ (i s:Nat),σ[i]?=some s→κ'[i]?=κ[s]?) {a:AV} {v:Value} {fp:List Nat} (hok:okL σ.length a=true) (h:VR w A κ (zVK σ a) v fp):VR w A κ' a v fp:=by
 cases a with
 | hd k =>
  simp only [okL,Nat.blt_eq] at hok
  unfold zVK at h
  unfold VR at *
  have h1:=List.getElem?_eq_getElem hok
  rw [hσ k _ h1]
  rw [List.getD_eq_getElem?_getD,h1] at h
  exact h
 | ptr k o =>
  simp only [okL,Nat.blt_eq] at hok
  unfold zVK at h
  unfold VR at *
  have h1:=List.getElem?_eq_getElem hok
  rw [List.getD_eq_getElem?_getD,h1] at h
  obtain ⟨h2,u,b,h3,h4⟩:=h
  exact ⟨h2,u,b,by rw [hσ k _ h1]; exact h3,h4⟩
 | _=>exact zPV hok h
theorem zSj (hσ:∀ (i s:Nat),σ[i]?=some s→κ'[i]?=κ[s]?):∀ {caps:List AV} {vs:List Value} {fp:List Nat},caps.all (okL σ.length)=true→VRt w A κ (caps.map (zVK σ)) vs fp→VRt w A κ' caps vs fp
 | [],_,_,_,h=>by
  simp only [List.map_nil] at h
  unfold VRt at *
  exact h
 | a::la,_,_,hok,h=>by
  simp only [List.all_cons,Bool.and_eq_true] at hok
  simp only [List.map_cons] at h
  unfold VRt at *
  obtain ⟨u,vs',f1,f2,h1,h2,h4,h5⟩:=h
  exact ⟨u,vs',f1,f2,h1,h2,zKz hσ hok.1 h4,zSj hσ hok.2 h5⟩
theorem zXc (hσ:∀ (i s:Nat),σ[i]?=some s→κ'[i]?=κ[s]?) {a:AV} {v:Value} {fp:List Nat} (hok:okA σ.length a=true) (h:VR w A κ (zVh σ a) v fp):VR w A κ' a v fp:=by
 cases a with
 | clo f caps =>
  unfold zVh at h
  unfold VR at *
  obtain ⟨vs,h1,h2⟩:=h
  exact ⟨vs,h1,zSj hσ hok h2⟩
 | agg cs =>
  have h2:VR w A κ (.agg cs) v fp:=h
  exact zPG (a := .agg cs) hok h2
 | hd k=>exact zKz hσ hok h
 | ptr k o=>exact zKz hσ hok h
 | tup vs=>simp [okA,nr] at hok
 | omap es=>simp [okA,nr] at hok
 | any=>exact zKz hσ hok h
 | lit u=>exact zKz hσ hok h
 | sl f r=>exact zKz hσ hok h
 | osl t s r=>exact zKz hσ hok h
 | rp r o=>exact zKz hσ hok h
theorem zWK (hσ:∀ (i s:Nat),σ[i]?=some s→κ'[i]?=κ[s]?) {a:AV} {v:Value} {fp:List Nat} (hok:zXz σ a=true) (h:VR w A κ a v fp):VR w A κ' a v fp:=by
 cases a with
 | hd k =>
  unfold VR at *
  rw [hσ k k (zRR hok)]
  exact h
 | ptr k o =>
  unfold VR at *
  obtain ⟨h2,u,b,h3,h4⟩:=h
  exact ⟨h2,u,b,by rw [hσ k k (zRR hok)]; exact h3,h4⟩
 | _=>exact zPV hok h
theorem zPj (hσ:∀ (i s:Nat),σ[i]?=some s→κ'[i]?=κ[s]?):∀ {cs:List AV} {vs:List Value} {fp:List Nat},cs.all (zXz σ)=true→VRs w A κ cs vs fp→VRs w A κ' cs vs fp
 | [],_,_,_,h=>by unfold VRs at *; exact h
 | a::la,_,_,hok,h=>by
  simp only [List.all_cons,Bool.and_eq_true] at hok
  unfold VRs at *
  obtain ⟨u,vs',f1,f2,h1,h2,h3,h4,h5⟩:=h
  exact ⟨u,vs',f1,f2,h1,h2,h3,zWK hσ hok.1 h4,zPj hσ hok.2 h5⟩
theorem zTr (hσ:∀ (i s:Nat),σ[i]?=some s→κ'[i]?=κ[s]?) {en:zIz} {v:Value} {fp:List Nat} (hok:okR σ en=true) (h:ER w A κ en v fp):ER w A κ' en v fp:=by
 cases en with
 | box t cs =>
  obtain ⟨b,vs,f',h1,h2,h3,h4⟩:=h
  exact ⟨b,vs,f',h1,h2,zPj hσ hok h3,h4⟩
 | vec t sz rows=>exact h
 | val a=>exact zPG hok h
 | vopen t sz rows i row =>
  obtain ⟨g,v1,r,v2,f1,f2,f3,h1,h2,h3,h4,h5,h6,h7⟩:=h
  exact ⟨g,v1,r,v2,f1,f2,f3,h1,h2,h3,h4,zPj hσ hok h5,h6,h7⟩
 | map es=>exact h
 | dead=>exact h
end
def zXs (σ:List Nat) (e:zBv):List (Nat×AV)→Prop
 | []=>True
 | (t,a)::l=>(Sub (e t) (zVh σ a)∧okA σ.length a=true)∧zXs σ e l
theorem zXs.get {σ:List Nat} {e:zBv}:∀ {l:List (Nat×AV)},zXs σ e l → ∀ i,mkE l i = .any∨(Sub (e i) (zVh σ (mkE l i))∧okA σ.length (mkE l i)=true)
 | [],_,i => .inl rfl
 | (t,a)::l,h,i=>by
  unfold mkE
  cases hb:Nat.beq i t with
  | true =>
   have:i=t:=Nat.eq_of_beq_eq_true hb
   subst this
   exact .inr h.1
  | false=>exact zXs.get h.2 i
def zXq (σ:List Nat) (H:zAM):List Nat→zAM→Prop
 | [],[]=>True
 | s::ss,en::ens=>(H[s]?=some en∧okR σ en=true)∧zXq σ H ss ens
 | _,_=>False
theorem zXq.get {σ:List Nat} {H:zAM}:∀ {ss:List Nat} {H0:zAM},zXq σ H ss H0→ss.length=H0.length ∧ ∀ (i:Nat) (en:zIz),H0[i]?=some en → ∃ s,ss[i]?=some s∧H[s]?=some en∧okR σ en=true
 | [],[],_=>⟨rfl,fun i en h=>by simp at h⟩
 | [],_::_,h=>h.elim
 | _::_,[],h=>h.elim
 | s::ss,en::ens,h=>by
  obtain ⟨h1,h2⟩:=zXq.get h.2
  refine ⟨by simp [h1],fun i en' hi => ?_⟩
  cases i with
  | zero=>simp at hi; subst hi; exact ⟨s,rfl,h.1⟩
  | succ i =>
   obtain ⟨s',a1,a2⟩:=h2 i en' (by simpa using hi)
   exact ⟨s',by simpa using a1,a2⟩
def zVo (m:Nat) (σ:List Nat):Bool:=(List.range m).all fun i=>zYn σ i
def zQT:List Nat→Bool
 | []=>true
 | s::ss => !ss.any (Nat.beq s)&&zQT ss
theorem zQQ:∀ {ss:List Nat},zQT ss=true→ss.Nodup
 | [],_=>List.nodup_nil
 | s::ss,h=>by
  simp only [zQT,Bool.and_eq_true,Bool.not_eq_true',List.any_eq_false] at h
  exact List.nodup_cons.2 ⟨fun hm=>by have:=h.1 s hm; simp at this,zQQ h.2⟩
theorem zTJ {ss:List Nat} (h:ss.Nodup) {i j s:Nat} (hi:ss[i]?=some s) (hj:ss[j]?=some s):i=j:=by
 exact (List.getElem?_inj (zAO hi) h).1 (hi.trans hj.symm)
theorem zBg {n m:Nat} {e:zBv} {H H0:zAM} (σ:List Nat) {l:List (Nat×AV)} (hl:zXs σ e l) (hn:zQT σ=true) (hm:zVo m σ=true) (hH:zXq σ H σ H0):Rep n m e H (mkE l) H0:=by
 intro w A0 κ fp F h1 h2
 have hnd:=zQQ hn
 obtain ⟨hlen,hent⟩:=hH.get
 have hsrc:∀ (i s:Nat),σ[i]?=some s→s<κ.length:=fun i s hi=>by
  have hil:i<H0.length:=by rw [← hlen]; exact zAO hi
  obtain ⟨s',a1,a2,_⟩:=hent i _ (List.getElem?_eq_getElem hil)
  rw [hi] at a1
  cases a1
  rw [h1.len]
  exact zAO a2
 have hκ:∀ (i s:Nat),σ[i]?=some s→(σ.map fun s=>κ.getD s undef)[i]?=κ[s]?:=fun i s hi=>by
  have:=hsrc i s hi
  simp [hi,this]
 let fp':Nat→List Nat:=fun i=>match σ[i]? with
  | some s=>fp s
  | none=>[]
 have hfp:∀ i x,x∈fp' i → ∃ s,σ[i]?=some s∧x∈fp s:=by
  intro i x hx
  show ∃ s,σ[i]?=some s∧x∈fp s
  cases hs:σ[i]? with
  | none =>
   have:fp' i=[]:=by show (match σ[i]? with | some s=>fp s | none=>[])=[]; rw [hs]
   rw [this] at hx; cases hx
  | some s =>
   have:fp' i=fp s:=by show (match σ[i]? with | some s=>fp s | none=>[])=fp s; rw [hs]
   rw [this] at hx
   exact ⟨s,rfl,hx⟩
 have hav:∀ b,avd A0 fp' b→avd A0 fp b:=by
  rintro b (h | ⟨i,hi⟩)
  ·exact .inl h
  ·obtain ⟨s,_,hs⟩:=hfp i b hi
   exact .inr ⟨s,hs⟩
 have mv:Mv w (avd A0 fp) κ w (avd A0 fp') κ:=⟨Nat.le_refl _,fun _ _ _=>rfl,fun b hb => .inl (hav b hb),fun _ _ h=>h⟩
 refine ⟨σ.map fun s=>κ.getD s undef,fp',⟨by simp [hlen],?_,?_,?_,?_,?_,h1.old⟩,?_,?_⟩
 ·intro i en v g1 g2
  obtain ⟨s,a1,a2,a3⟩:=hent i en g1
  rw [hκ i s a1] at g2
  have e1:fp' i=fp s:=by show (match σ[i]? with | some s=>fp s | none=>[])=fp s; rw [a1]
  rw [e1]
  exact zTr hκ a3 (ER.mv mv (fun _ _=>rfl) (h1.ent s en v a2 g2))
 ·intro i hi
  show (match σ[i]? with | some s=>fp s | none=>[])=[]
  rw [List.getElem?_eq_none (by rw [hlen]; exact hi)]
 ·intro i
  show (match σ[i]? with | some s=>fp s | none=>[]).Nodup
  split
  ·exact h1.nd _
  ·simp
 ·intro i j x hi hj
  obtain ⟨s,a1,a2⟩:=hfp i x hi
  obtain ⟨s',b1,b2⟩:=hfp j x hj
  have:=h1.dj s s' x a2 b2
  subst this
  exact zTJ hnd a1 b1
 ·intro i x hi
  obtain ⟨s,_,a2⟩:=hfp i x hi
  exact h1.na s x a2
 ·intro t ht
  rcases hl.get t with h | ⟨h,h'⟩
  ·rw [h]; unfold VR; rfl
  ·exact zXc hκ h' (h _ _ _ _ (VR.mv mv _ _ [] (fun _ _=>rfl) (h2 t ht)))
 ·refine ⟨KpS.refl _ _,fun i x hx => ?_,fun i v hi hv => ?_⟩
  ·obtain ⟨s,_,a2⟩:=hfp i x hx
   exact .inl ⟨s,a2⟩
  ·have:=List.all_eq_true.1 hm i (List.mem_range.2 hi)
   rw [hκ i i (zRR this)]
   exact hv
end Go.Am
