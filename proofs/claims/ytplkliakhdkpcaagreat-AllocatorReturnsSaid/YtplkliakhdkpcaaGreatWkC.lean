/-
  The walker's own rules, part C: what each kind of operation gives.
  Conditions: none: plain theorems over whatever program P.
-/
import Derived.Test.YtplkliakhdkpcaaGreatWkB
import Derived.WalkKit
set_option linter.unusedVariables false
set_option linter.unusedSimpArgs false
namespace Go.Wk
open Go Go.RowKit
section
variable {P:Program} {n:Nat} {F:Env} {w:World}
theorem zM6 (v:Value):ev n F (.const v)=v:=rfl
theorem zR7 (f:FuncId):ev n F (.func f) = .func (.func f) #[] #[]:=rfl
theorem zRk {x:Operand} {v:Value} (h:ev n F x=v):Val P n F w (.move x) v w:=by
  refine ⟨fun d t p af g => ?_⟩; subst h; rfl
theorem zPl {x:Operand} {v:Value} (h:ev n F x=v):Val P n F w (.assign x) v w:=by
  refine ⟨fun d t p af g => ?_⟩; subst h; rfl
theorem zN0 {c x:Operand} {b q:Bool} (hc:ev n F c = .bool b) (hx:b=true→ev n F x = .bool q):Val P n F w (.pick c x (.const (.bool false))) (.bool (b&&q)) w:=by
  refine ⟨fun d t p af g => ?_⟩
  cases b with
  | false=>simp [execOp,hc,asBool,zM6]
  | true=>simp [execOp,hc,hx rfl,asBool]
theorem zOW {c x:Operand} {b q:Bool} (hc:ev n F c = .bool b) (hx:b=false→ev n F x = .bool q):Val P n F w (.pick c (.const (.bool true)) x) (.bool (b||q)) w:=by
  refine ⟨fun d t p af g => ?_⟩
  cases b with
  | false=>simp [execOp,hc,hx rfl,asBool]
  | true=>simp [execOp,hc,asBool,zM6]
theorem zSO {ty:TypeId} {x:Operand} {b:Bool} (h:ev n F x = .bool b):Val P n F w (.unOp .not ty x) (.bool (!b)) w:=by
  refine ⟨fun d t p af g => ?_⟩; simp [execOp,h,Op.unary]
section
variable {ty ty2:TypeId} {x y:Operand} {k:IntKind} {a b:Int}
theorem zSE (hx:ev n F x = .int k a) (hy:ev n F y = .int k b):Val P n F w (.binOp .lss ty x y ty2) (.bool (decide (a<b))) w:=by
  refine ⟨fun d t p af g => ?_⟩; simp [execOp,hx,hy,go_sem]
theorem zSa (hx:ev n F x = .int k a) (hy:ev n F y = .int k b):Val P n F w (.binOp .leq ty x y ty2) (.bool (decide (a≤b))) w:=by
  refine ⟨fun d t p af g => ?_⟩; simp [execOp,hx,hy,go_sem]
theorem zSZ (hx:ev n F x = .int k a) (hy:ev n F y = .int k b):Val P n F w (.binOp .gtr ty x y ty2) (.bool (decide (b<a))) w:=by
  refine ⟨fun d t p af g => ?_⟩; simp [execOp,hx,hy,go_sem]
theorem zSe (hx:ev n F x = .int k a) (hy:ev n F y = .int k b):Val P n F w (.binOp .geq ty x y ty2) (.bool (decide (b≤a))) w:=by
  refine ⟨fun d t p af g => ?_⟩; simp [execOp,hx,hy,go_sem]
theorem zSJ (hx:ev n F x = .int k a) (hy:ev n F y = .int k b):Val P n F w (.binOp .eql ty x y ty2) (.bool (decide (a=b))) w:=by
  refine ⟨fun d t p af g => ?_⟩
  have:(a == b)=decide (a=b):=by rw [Bool.eq_iff_iff]; simp
  simp [execOp,hx,hy,go_sem,this]
theorem zSW (hx:ev n F x = .int k a) (hy:ev n F y = .int k b):Val P n F w (.binOp .neq ty x y ty2) (.bool (!decide (a=b))) w:=by
  refine ⟨fun d t p af g => ?_⟩
  have:(a != b) = !decide (a=b):=by rw [Bool.eq_iff_iff]; simp
  simp [execOp,hx,hy,go_sem,this]
theorem zS0 (hx:ev n F x = .int .i64 a) (hy:ev n F y = .int .i64 b) (h1 : -9223372036854775808≤a+b) (h2:a+b≤9223372036854775807):Val P n F w (.binOp .add ty x y ty2) (.int .i64 (a+b)) w:=by
  refine ⟨fun d t p af g => ?_⟩
  have:IntKind.i64.wrap (a+b)=a+b:=by rw [IntKind.wrap_i64]; omega
  simp [execOp,hx,hy,go_sem,this]
theorem zSt (hx:ev n F x = .int .i64 a) (hy:ev n F y = .int .i64 b) (h1 : -9223372036854775808≤a - b) (h2:a - b≤9223372036854775807):Val P n F w (.binOp .sub ty x y ty2) (.int .i64 (a - b)) w:=by
  refine ⟨fun d t p af g => ?_⟩
  have:IntKind.i64.wrap (a - b)=a - b:=by rw [IntKind.wrap_i64]; omega
  simp [execOp,hx,hy,go_sem,this]
theorem zSK (hx:ev n F x = .int .i64 a) (hy:ev n F y = .int .i64 b) (h1 : -9223372036854775808≤a*b) (h2:a*b≤9223372036854775807):Val P n F w (.binOp .mul ty x y ty2) (.int .i64 (a*b)) w:=by
  refine ⟨fun d t p af g => ?_⟩
  have:IntKind.i64.wrap (a*b)=a*b:=by rw [IntKind.wrap_i64]; omega
  simp [execOp,hx,hy,go_sem,this]
theorem zR6 (hx:ev n F x = .int k a) (hy:ev n F y = .int k b) (h:b≠0):Val P n F w (.binOp .rem ty x y ty2) (.int k (a.tmod b)) w:=by
  refine ⟨fun d t p af g => ?_⟩; simp [execOp,hx,hy,go_sem,h]
end
theorem zS9 {ty ty2:TypeId} {x y:Operand} {ky:IntKind} {a:Int} {s:Nat} (hx:ev n F x = .int .i64 a) (hy:ev n F y = .int ky (s:Int)) (hs:s≤62) (h1 : -9223372036854775808≤a*2 ^ s) (h2:a*2 ^ s≤9223372036854775807) :
    Val P n F w (.binOp .shl ty x y ty2) (.int .i64 (a*2 ^ s)) w:=by
  refine ⟨fun d t p af g => ?_⟩
  have hm:min s IntKind.i64.bits=s:=by show min s 64=s; omega
  have:IntKind.i64.wrap (a*2 ^ s)=a*2 ^ s:=by rw [IntKind.wrap_i64]; omega
  have hn:¬ ((s:Int)<0):=by omega
  have hb:(binOp .shl ty (.int .i64 a) (.int ky (s:Int))).run P w = .ok (.int .i64 (a*2 ^ s)) w:=by
    rw [binOp_shl]
    simp only [Op.shift,hn,if_false,Int.toNat_natCast,hm,this]
    rfl
  simp only [execOp,hx,hy,Sem.run_bind,eqGuard_shl,Sem.run_pure,Result.andThen_ok,hb]
theorem zR8 {ty ty2:TypeId} {x y:Operand} {k ky:IntKind} {a:Int} {s:Nat} (hx:ev n F x = .int k a) (hy:ev n F y = .int ky (s:Int)) (hs:s≤k.bits) :
    Val P n F w (.binOp .shr ty x y ty2) (.int k (a.fdiv (2 ^ s))) w:=by
  refine ⟨fun d t p af g => ?_⟩
  have hm:min s k.bits=s:=by omega
  have hn:¬ ((s:Int)<0):=by omega
  have hb:(binOp .shr ty (.int k a) (.int ky (s:Int))).run P w = .ok (.int k (a.fdiv (2 ^ s))) w:=by
    rw [binOp_shr]
    simp only [Op.shift,hn,if_false,Int.toNat_natCast,hm]
    rfl
  simp only [execOp,hx,hy,Sem.run_bind,eqGuard_shr,Sem.run_pure,Result.andThen_ok,hb]
theorem zRA {src dst:TypeId} {x:Operand} {k k':IntKind} {a:Int} {sd:TypeDesc} (hs:P.underlying src=some sd) (hd:P.underlying dst=some (.int k')) (hx:ev n F x = .int k a) (hw:k'.wrap a=a) :
    Val P n F w (.convert src dst x) (.int k' a) w:=by
  refine ⟨fun d t p af g => ?_⟩
  simp [execOp,hx,convert,run_underlying hs,run_underlying hd,Conv.intToInt,hw]
theorem zSw {x y:Operand} {tys:Array TypeId} {a b:Int} (hx:ev n F x = .int .i64 a) (hy:ev n F y = .int .i64 b):Val P n F w (.call { callee := .builtin .min,args := #[x,y],argTypes:=tys }) (.int .i64 (min a b)) w:=by
  refine ⟨fun d t p af g => ?_⟩
  have:(if b<a then b else a)=min a b:=by omega
  simp [execOp,hx,hy,resolve,invoke,builtin,Builtin.min_,Builtin.min2,this]
theorem zOh {x:Operand} {vs:Array Value} {i:Nat} {v:Value} (hx:ev n F x = .tuple vs) (hv:vs[i]?=some v):Val P n F w (.extract x i) v w:=by
  refine ⟨fun d t p af g => ?_⟩
  simp [execOp,hx,Instr.extract,hv]
theorem zP0 {t:TypeId} {x:Operand} {e:TypeId} {a:Option Addr} {m c:Nat} (ht:P.underlying t=some (.slice e)) (hx:ev n F x = .slice a m c):Val P n F w (.call { callee := .builtin .len,args := #[x],argTypes := #[t] }) (.int .i64 (m:Int)) w:=by
  refine ⟨fun d t p af g => ?_⟩
  simp [execOp,hx,resolve,invoke,builtin,Builtin.len_,run_underlying ht,goInt]
theorem zNi {x:Operand} {a:Addr} (hx:ev n F x = .pointer (some a)):Val P n F w (.nilCheck x) (.pointer (some a)) w:=by
  refine ⟨fun d t p af g => ?_⟩
  simp [execOp,hx]
theorem zQj {s:TypeId} {x:Operand} {i b o:Nat} {fs:Array Field} {f:Field} {z:Nat} (hs:P.underlying s=some (.struct fs)) (hf:fs[i]?=some f) (hz:∀ w,(sizeOf f.type).run P w = .ok (z+1) w) (hx:ev n F x = .pointer (some ⟨b,o,none⟩)) :
    Val P n F w (.fieldAddr s x i) (.pointer (some ⟨b,o+f.offset,none⟩)) w:=by
  refine ⟨fun d t p af g => ?_⟩
  have ha:Addr.add ⟨b,o,none⟩ f.offset=⟨b,o+f.offset,none⟩:=Addr.add_lit b o f.offset
  simp [execOp,hx,Instr.fieldAt,run_underlying hs,hf,Instr.sureAddr,fieldPlace,hz,ha]
theorem zNI {t e:TypeId} {x y:Operand} {k:IntKind} {b o m c s i:Nat} (ht:P.underlying t=some (.slice e)) (hs:∀ w,(sizeOf e).run P w = .ok s w) (hx:ev n F x = .slice (some ⟨b,o,none⟩) m c) (hy:ev n F y = .int k (i:Int)) (hi:i<m) :
    Val P n F w (.indexAddr t x y) (.pointer (some ⟨b,o+i*s,none⟩)) w:=by
  refine ⟨fun d t p af g => ?_⟩
  have ha:Addr.add ⟨b,o,none⟩ (i*s)=⟨b,o+i*s,none⟩:=Addr.add_lit b o _
  simp [execOp,hx,hy,Instr.indexAt,asIntOf,run_underlying ht,hi,hs,ha]
theorem zPM {t e:TypeId} {x y:Operand} {k:IntKind} {b o m s i:Nat} (ht:P.underlying t=some (.array m e)) (hs:∀ w,(sizeOf e).run P w = .ok s w) (hx:ev n F x = .pointer (some ⟨b,o,none⟩)) (hy:ev n F y = .int k (i:Int)) (hi:i<m) :
    Val P n F w (.indexAddr t x y) (.pointer (some ⟨b,o+i*s,none⟩)) w:=by
  refine ⟨fun d t p af g => ?_⟩
  have ha:Addr.add ⟨b,o,none⟩ (i*s)=⟨b,o+i*s,none⟩:=Addr.add_lit b o _
  simp [execOp,hx,hy,Instr.indexAt,asIntOf,run_underlying ht,Instr.sureAddr,hi,hs,ha]
theorem zPc {t e:TypeId} {x y:Operand} {k:IntKind} {m i:Nat} {cs:List Value} {v:Value} (ht:P.underlying t=some (.array m e)) (hs:∀ w,(sizeOf e).run P w = .ok 1 w) (ha:∀ w,(isAgg e).run P w = .ok false w) (hx:ev n F x = .agg cs.toArray) (hy:ev n F y = .int k (i:Int)) (hi:i<m) (hv:cs[i]?=some v) :
    Val P n F w (.index t x y) v w:=by
  refine ⟨fun d t p af g => ?_⟩
  simp [execOp,hx,hy,Instr.index,asIntOf,run_underlying ht,hi,part,hs,ha,hv]
theorem zRI {a:Addr} {v:Value} {m:Mode} (h:w.cell? a=some v):(load a m).run P w = .ok v w:=by
  simp [load,Sem.run,h]
theorem zKp {t:TypeId} {x:Operand} {b o j:Nat} {cs:List Value} {v:Value} (ha:∀ w,(isAgg t).run P w = .ok false w) (hx:ev n F x = .pointer (some ⟨b,o+j,none⟩)) (hc:Cells w b o cs) (hv:cs[j]?=some v):Val P n F w (.load t x) v w:=by
  refine ⟨fun d t' p af g => ?_⟩
  have hl:(loadVar t ⟨b,o+j,none⟩).run P w = .ok v w:=by
    simp only [loadVar,Sem.run_bind,ha,Result.andThen_ok,Bool.false_eq_true,if_false]
    exact zRI (hc j v hv)
  simp only [execOp,hx,Instr.loadAt,Instr.sureAddr,Sem.run_bind,Sem.run_pure,Result.andThen_ok,hl]
theorem zJm {t:TypeId} {x:Operand} {b o:Nat} {cs:List Value} (ha:∀ w,(isAgg t).run P w = .ok true w) (hs:∀ w,(sizeOf t).run P w = .ok cs.length w) (hx:ev n F x = .pointer (some ⟨b,o,none⟩)) (hc:Cells w b o cs):Val P n F w (.load t x) (.agg cs.toArray) w:=by
  refine ⟨fun d t' p af g => ?_⟩
  have hl:(loadCells ⟨b,o,none⟩ cs.length).run P w = .ok cs.toArray w:=run_loadCells_list w ⟨b,o,none⟩ cs (fun j v hv=>by
    rw [Addr.add_lit]
    exact hc j v hv)
  have hv:(loadVar t ⟨b,o,none⟩).run P w = .ok (.agg cs.toArray) w:=by
    simp only [loadVar,Sem.run_bind,ha,hs,hl,Result.andThen_ok,if_true,Sem.run_pure]
  simp only [execOp,hx,Instr.loadAt,Instr.sureAddr,Sem.run_bind,Sem.run_pure,Result.andThen_ok,hv]
theorem zQE {f : FuncId} {fn : Func} {c : Code} {xs : Array Operand} {tys : Array TypeId} {args : Array Value} (hf : P.funcs[f]? = some fn) (hb : fn.body = some c) (hn : (fn.name == "runtime.NumGoroutine") = false) (hx : xs.map (ev n F) = args) :
    Ent P n F w (.call { callee := .value (.func f),args:=xs,argTypes:=tys }) f args:=by
  refine ⟨fun d t p af g => ?_⟩
  have hn' : ¬ fn.name = "runtime.NumGoroutine" := by simpa using hn
  simp [execOp,resolve,Deferred.ofValue,invoke,callFunc,hf,hb,hn',hx,zR7]
theorem zSC {x : Operand} {f : FuncId} {fn : Func} {c : Code} {cap : Array Value} {xs : Array Operand} {tys : Array TypeId} {args : Array Value} (hf : P.funcs[f]? = some fn) (hb : fn.body = some c) (hn : (fn.name == "runtime.NumGoroutine") = false) (hx : xs.map (ev n F) = args)
    (hc:ev n F x = .func (.func f) #[] cap):Ent P n F w (.call { callee := .value x,args:=xs,argTypes:=tys }) f (args++cap):=by
  refine ⟨fun d t p af g => ?_⟩
  have hn' : ¬ fn.name = "runtime.NumGoroutine" := by simpa using hn
  simp [execOp,resolve,Deferred.ofValue,invoke,callFunc,hf,hb,hn',hx,hc]
end
section
variable {P:Program} {n:Nat} {ops:Array Oper} {rest:List Oper} {k:Env→World→Prop} {F:Env} {w:World}
theorem zJU (w:World) (t:TypeId) (cs:List Value):Blk (w.alloc (.cells cs.toArray t)) w.heap.size t cs:=heap_alloc_new w _
theorem zRH {e:TypeId} {x:Operand} {cs:List Value} (hx:ev n F x = .agg cs.toArray):Val P n F w (.box e x) (.pointer (some ⟨w.heap.size,0,none⟩)) (w.alloc (.cells cs.toArray e)):=by
  refine ⟨fun d t p af g => ?_⟩
  simp [execOp,hx,Instr.box,newVar,newRow,Value.cells]
theorem zRG {e:TypeId} {x:Operand} {v:Value} (h1:v.cells = #[v]) (hx:ev n F x=v):Val P n F w (.box e x) (.pointer (some ⟨w.heap.size,0,none⟩)) (w.alloc (.cells [v].toArray e)):=by
  refine ⟨fun d t p af g => ?_⟩
  simp [execOp,hx,Instr.box,newVar,newRow,h1]
theorem zQr {e:TypeId} {cs:List Value} {z:Value} (hz:∀ w,(zeroValue e).run P w = .ok z w) (hc:z.cells=cs.toArray):Val P n F w (.alloc e) (.pointer (some ⟨w.heap.size,0,none⟩)) (w.alloc (.cells cs.toArray e)):=by
  refine ⟨fun d t p af g => ?_⟩
  simp [execOp,Instr.alloc,hz,newVar,newRow,hc]
theorem Blk.set {w:World} {b j:Nat} {t:TypeId} {cs:List Value} {v:Value} (h:Blk w b t cs):Blk (w.setCell ⟨b,j,none⟩ v) b t (cs.set j v):=by
  unfold Blk at h ⊢
  simp [World.setCell,Array.getElem?_modify,h]
theorem zKx {w:World} {b j:Nat} {t:TypeId} {cs:List Value} {v:Value} {m:Mode} (h:Blk w b t cs) (hj:j<cs.length) (h1:v.oneCell'=true):(store ⟨b,j,none⟩ v m).run P w = .ok () (w.setCell ⟨b,j,none⟩ v):=by
  have hc:w.cell? ⟨b,j,none⟩=some cs[j]:=by
    have:=h.cells j cs[j] (List.getElem?_eq_getElem hj)
    simpa using this
  have hf:w.frozen? ⟨b,j,none⟩=false:=by
    unfold Blk at h
    simp [World.frozen?,h]
  rw [run_store P w _ v m h1]
  simp [hc,hf]
theorem zKT {t e:TypeId} {x y:Operand} {b j:Nat} {cs:List Value} {v:Value} (hz:∀ w,(sizeOf e).run P w = .ok 1 w) (h:Blk w b t cs) (hj:j<cs.length) (h1:v.oneCell'=true) (hx:ev n F x = .pointer (some ⟨b,j,none⟩)) (hy:ev n F y=v) :
    zUM P n F w (.store e x y) (w.setCell ⟨b,j,none⟩ v):=by
  refine ⟨fun d t p af g => ?_⟩
  have hc:v.cells = #[v]:=by cases v <;> first | rfl | cases h1
  have ha:Addr.add ⟨b,j,none⟩ 0=⟨b,j,none⟩:=by simp [Addr.add]
  simp [execOp,hx,hy,Instr.storeAt,Instr.sureAddr,storeVar,hc,hz,storeCells,ha,zKx h hj h1]
def zDF (cs:List Value) (j:Nat) (vs:List Value):List Value:=cs.take j++vs++cs.drop (j+vs.length)
theorem zLP {cs vs:List Value} {j:Nat} (h:j+vs.length≤cs.length):(zDF cs j vs).length=cs.length:=by
  simp [zDF]; omega
theorem zLG {cs vs:List Value} {j:Nat} {v:Value} (h:j+(v::vs).length≤cs.length):zDF cs j (v::vs)=zDF (cs.set j v) (j+1) vs:=by
  simp only [List.length_cons] at h
  have hj:j<cs.length:=by omega
  unfold zDF
  have h1:(cs.set j v).take (j+1)=cs.take j++[v]:=by
    rw [List.take_succ_eq_append_getElem (by simpa using hj)]
    rw [List.take_set,List.set_eq_of_length_le (by simp; omega)]
    simp
  have h2:(cs.set j v).drop (j+1+vs.length)=cs.drop (j+(v::vs).length):=by
    rw [List.drop_set_of_lt (by omega)]
    congr 1
    simp; omega
  rw [h1,h2]
  simp
theorem zME (cs:List Value) (j:Nat):zDF cs j []=cs:=by simp [zDF]
theorem zGV {t:TypeId} {b o:Nat}:∀ (vs:List Value) (i:Nat) (cs:List Value) (w:World),Blk w b t cs→o+i+vs.length≤cs.length→(∀ v∈vs,v.oneCell'=true) →
    ∃ w',(storeCells ⟨b,o,none⟩ vs i).run P w = .ok () w'∧Kp [b] w w'∧w'.heap.size=w.heap.size∧Blk w' b t (zDF cs (o+i) vs)
  | [],i,cs,w,h,_,_=>⟨w,by simp [storeCells],Kp.refl _ _,rfl,by rw [zME]; exact h⟩
  | v::vs,i,cs,w,h,hl,h1=>by
    simp only [List.length_cons] at hl
    have hr:=zKx (P:=P) (m := .plain) (j:=o+i) (v:=v) h (by omega) (h1 v (by simp))
    obtain ⟨w',r1,r2,r3,r4⟩:=zGV (o:=o) vs (i+1) (cs.set (o+i) v) _ (h.set (j:=o+i) (v:=v)) (by simp; omega) (fun u hu=>h1 u (by simp [hu]))
    have ha:Addr.add ⟨b,o,none⟩ i=⟨b,o+i,none⟩:=Addr.add_lit b o i
    refine ⟨w',by simp [storeCells,ha,hr,r1],(Kp.setCell w ⟨b,o+i,none⟩ v).trans r2,by rw [r3]; simp [World.setCell],?_⟩
    rw [zLG (by simp; omega)]
    exact r4
end
end Go.Wk
