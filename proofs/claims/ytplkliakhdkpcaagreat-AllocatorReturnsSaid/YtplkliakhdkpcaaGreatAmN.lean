/-
  Sets and counts that are maps from int.
  Conditions: none: plain theorems over whatever program P.
-/
import Derived.Test.YtplkliakhdkpcaaGreatAmM
import Derived.Carry
set_option linter.unusedVariables false
set_option linter.unusedSimpArgs false
namespace Go.Am
open Go Go.RowKit Go.Wk
def mI {α:Type} (g:α→Value) (l:List (Int×α)):List (Value×Value):=l.map fun p=>(.int .i64 p.1,g p.2)
def zLQ {α:Type} (d:α) (l:List (Int×α)) (k:Int):α:=match l.find? (fun p=>p.1 == k) with
  | some p=>p.2
  | none=>d
def zJQ {α:Type}:List (Int×α)→Int→α→List (Int×α)
  | [],k,v=>[(k,v)]
  | p::l,k,v=>if p.1=k then (k,v)::l else p::zJQ l k v
section
variable {α:Type} {g:α→Value}
theorem zK5 (k:Int):∀ (en:List MapEntry) (l:List (Int×α)) (i:Nat),en.map (fun e=>(e.key,e.val))=mI g l →
    (Instr.findNow (.int .i64) (.int .i64 k) en i=some none∧l.find? (fun p=>p.1 == k)=none) ∨
    (∃ j p,Instr.findNow (.int .i64) (.int .i64 k) en i=some (some (i+j,g p.2))∧l.find? (fun p=>p.1 == k)=some p∧l[j]?=some p∧p.1=k ∧ ∀ q,q<j → ∀ p',l[q]?=some p'→p'.1≠k)
  | [],l,i,h=>by
    have:l=[]:=by simpa [mI] using h.symm
    subst this
    exact .inl ⟨rfl,rfl⟩
  | e::en,[],i,h=>by simp [mI] at h
  | e::en,p::l,i,h=>by
    simp only [mI,List.map_cons,List.cons.injEq,Prod.mk.injEq] at h
    obtain ⟨⟨h1,h2⟩,h3⟩:=h
    unfold Instr.findNow
    rw [h1]
    simp only [Instr.sameNow,if_true]
    by_cases hk:k=p.1
    · have e1:(k == p.1)=true:=by simpa using hk
      rw [e1]
      refine .inr ⟨0,p,by simp [h2],by simp [List.find?,hk],rfl,hk.symm,fun q hq=>by omega⟩
    · have e1:(k == p.1)=false:=by simpa using hk
      rw [e1]
      have e2:(p.1 == k)=false:=by simpa using fun h=>hk h.symm
      rcases zK5 k en l (i+1) h3 with ⟨q1,q2⟩ | ⟨j,p',q1,q2,q3,q4,q5⟩
      · exact .inl ⟨q1,by simp [List.find?,e2,q2]⟩
      · refine .inr ⟨j+1,p',by rw [q1,Nat.add_assoc,Nat.add_comm 1 j],by simp [List.find?,e2,q2],by simpa using q3,q4,fun q hq p'' hp => ?_⟩
        cases q with
        | zero=>simp at hp; subst hp; exact fun h=>hk h.symm
        | succ q=>exact q5 q (by omega) p'' (by simpa using hp)
theorem zN3 {k:Int} {v:α}:∀ {l:List (Int×α)},l.find? (fun p=>p.1 == k)=none→zJQ l k v=l++[(k,v)]
  | [],_=>rfl
  | p::l,h=>by
    simp only [List.find?] at h
    split at h
    · cases h
    · rename_i hb
      have:p.1≠k:=by simpa using hb
      unfold zJQ
      rw [if_neg this,zN3 h]
      rfl
theorem zNh {k:Int} {v:α}:∀ {l:List (Int×α)} {j:Nat} {p:Int×α},l[j]?=some p→p.1=k→(∀ q,q<j → ∀ p',l[q]?=some p'→p'.1≠k)→zJQ l k v=l.set j (k,v)
  | [],j,p,h,_,_=>by simp at h
  | x::l,0,p,h,hp,_=>by
    simp at h
    subst h
    unfold zJQ
    rw [if_pos hp]
    rfl
  | x::l,j+1,p,h,hp,hq=>by
    have h0:=hq 0 (by omega) x rfl
    unfold zJQ
    rw [if_neg h0,zNh (l:=l) (j:=j) (by simpa using h) hp (fun q hlt p' hp'=>hq (q+1) (by omega) p' (by simpa using hp'))]
    rfl
end
section
variable {P:Program} {n m:Nat} {e e':zCH} {H G:zAQ} {x y z:Operand} {k j o:Nat} {t kt et:TypeId} {ops:Array Oper} {rest:List Oper} {kk:zCH→zAQ→Prop} {d tt:Nat} {p:String} {af:Array Edge}
theorem zKl {t:TypeId}:zLE P n e H (.makeMap t none) (.hd H.length) (H++[.map []]):=by
  intro w A0 κ fp F h1 h2
  have hs:=h1.push (w':=w.alloc (.map #[] 0)) (e2 := .map []) (v2 := .map (some w.heap.size)) (f2:=[w.heap.size]) (KpS.of (Kp.alloc _ _) (fun q hq=>by cases hq)) (by simp) (by simp)
    (fun mv=>⟨w.heap.size,⟨#[],0,rfl,heap_alloc_new w _,rfl⟩,rfl⟩)
  refine ⟨.map (some w.heap.size),_,_,_,⟨fun d t' p af g => ?_⟩,hs.1,?_,hs.2⟩
  · have:=run_makeMap (P:=P) t w
    simp [execOp,this]
  · unfold VR
    exact ⟨by rw [← h1.len,List.getElem?_append_right (Nat.le_refl _)]; simp,rfl⟩
theorem zLr {w:World} {A0:Nat→Prop} {κ:List Value} {fp:Nat→List Nat} {F:Env} (h1:SH w A0 H κ fp) (h2:zJz w (avd A0 fp) κ n e F) {es:List (Value×Value)} (hx:aev n e x = .hd k) (hk:H[k]?=some (.map es)) :
    ∃ r,zRq w es (ev n F x) r∧fp k=[r]∧κ[k]?=some (ev n F x):=by
  have hv:=h2.ev x
  rw [hx] at hv
  unfold VR at hv
  obtain ⟨r,h3,h4⟩:=h1.ent k _ _ hk hv.1
  exact ⟨r,h3,h4,hv.1⟩
theorem zFq {w:World} {b:Bool} {q:Int} (hkt:P.underlying kt=some (.int .i64)):(Instr.checkKey b 10000 kt (.int .i64 q)).run P w = .ok () w:=by
  show (Instr.checkKey b (9999+1) kt (.int .i64 q)).run P w = .ok () w
  unfold Instr.checkKey
  simp only [Sem.run_bind,run_underlying hkt,Result.andThen_ok]
  rfl
theorem zMC {α:Type} {g:α→Value} {q:Int} {l:List (Int×α)} {dflt:α} {a:AV} (ht:P.underlying t=some (.map kt et)) (hkt:P.underlying kt=some (.int .i64)) (hz:∀ w,(zeroValue et).run P w = .ok (g dflt) w) (hx:aev n e x = .hd k) (hk:H[k]?=some (.map (mI g l))) (hy:aev n e y = .lit (.int .i64 q)) (ha : .lit (g (zLQ dflt l q))=a) :
    zt P n e H (.lookup t x y false) a:=by
  subst ha
  refine zB9 fun w A0 κ fp F h1 h2 => ?_
  obtain ⟨r,⟨en,clock,hv,hb,hes⟩,_,_⟩:=zLr h1 h2 hx hk
  have hy':=zAg h2 hy
  refine ⟨fun d t' p af g' => ?_⟩
  have hget:(getObj r).run P w = .ok (.map en clock) w:=by simp [getObj,Sem.run,hb]
  have hrun:(Instr.lookup t (.map (some r)) (.int .i64 q) false).run P w = .ok (g (zLQ dflt l q)) w:=by
    unfold Instr.lookup Instr.findKey
    rcases zK5 (g:=g) q en.toList l 0 hes with ⟨q1,q2⟩ | ⟨j,p',q1,q2,_⟩
    · have e1:zLQ dflt l q=dflt:=by unfold zLQ; rw [q2]
      simp [run_underlying ht,hget,zFq hkt,run_underlying hkt,q1,hz,e1]
    · have e1:zLQ dflt l q=p'.2:=by unfold zLQ; rw [q2]
      simp [run_underlying ht,hget,zFq hkt,run_underlying hkt,q1,e1]
  simp [execOp,hv,hy',hrun]
theorem zPy {α:Type} {g:α→Value} {l:List (Int×α)} (ht:P.underlying t=some (.map kt et)) (hx:aev n e x = .hd k) (hk:H[k]?=some (.map (mI g l))):zt P n e H (.call { callee := .builtin .len,args := #[x],argTypes := #[t] }) (.lit (.int .i64 (l.length:Int))):=by
  refine zB9 fun w A0 κ fp F h1 h2 => ?_
  obtain ⟨r,⟨en,clock,hv,hb,hes⟩,_,_⟩:=zLr h1 h2 hx hk
  have hl:en.size=l.length:=by
    have:=congrArg List.length hes
    simpa [mI] using this
  refine ⟨fun d t' p af g' => ?_⟩
  have hget:(getObj r).run P w = .ok (.map en clock) w:=by simp [getObj,Sem.run,hb]
  simp [execOp,hv,resolve,invoke,builtin,Builtin.len_,run_underlying ht,hget,goInt,hl]
theorem zL0 {α:Type} {g:α→Value} {q:Int} {l:List (Int×α)} {v:α} (ht:P.underlying t=some (.map kt et)) (hkt:P.underlying kt=some (.int .i64)) (hx:aev n e x = .hd k) (hk:H[k]?=some (.map (mI g l))) (hy:aev n e y = .lit (.int .i64 q)) (hz:aev n e z = .lit (g v)) :
    zPE P n e H (.mapUpdate t x y z) (H.set k (.map (mI g (zJQ l q v)))):=by
  intro w A0 κ fp F h1 h2
  obtain ⟨r,⟨en,clock,hv,hb,hes⟩,hfp,hκ⟩:=zLr h1 h2 hx hk
  have hy':=zAg h2 hy
  have hz':=zAg h2 hz
  have hget:(getObj r).run P w = .ok (.map en clock) w:=by simp [getObj,Sem.run,hb]
  have hrl:=zK6 hb
  have hset:∀ o:Obj,(setObj r o).run P w = .ok () { w with heap:=w.heap.setIfInBounds r o }:=fun o=>MapKept.run_setObj_map o hb
  have key:∃ en' clock',(Instr.mapUpdate t (.map (some r)) (.int .i64 q) (g v)).run P w = .ok () { w with heap:=w.heap.setIfInBounds r (.map en' clock') }∧en'.toList.map (fun e=>(e.key,e.val))=mI g (zJQ l q v):=by
    unfold Instr.mapUpdate Instr.findKey
    rcases zK5 (g:=g) q en.toList l 0 hes with ⟨q1,q2⟩ | ⟨j,p',q1,q2,q3,q4,q5⟩
    · refine ⟨en.push { key := .int .i64 q,val:=g v,born:=clock },clock+1,?_,?_⟩
      · simp [run_underlying ht,hget,zFq hkt,run_underlying hkt,q1,hset]
      · rw [zN3 q2]
        simp [mI,hes]
    · have hjl:j<en.size:=by
        have:=zAS q3
        have h3:=congrArg List.length hes
        simp [mI] at h3
        omega
      have hkey:en[j].key = .int .i64 q:=by
        have h3:=congrArg (fun l=>l[j]?) hes
        simp [mI,q3,hjl] at h3
        rw [h3.1,q4]
      refine ⟨en.modify j fun e=>{ e with key := .int .i64 q,val:=g v },clock,?_,?_⟩
      · have hk2:(Instr.keyThatStays (.int .i64 q) (.int .i64 q)).run P w = .ok (.int .i64 q) w:=by
          unfold Instr.keyThatStays
          simp [Instr.sameBits]
        simp [run_underlying ht,hget,zFq hkt,run_underlying hkt,q1,hset,hjl,hkey,hk2]
      · rw [zNh q3 q4 q5]
        unfold mI
        rw [List.map_set]
        have:(en.modify j fun e=>{ e with key := .int .i64 q,val:=g v }).toList=en.toList.modify j fun e=>{ e with key := .int .i64 q,val:=g v }:=by simp
        rw [this]
        have hes':en.toList.map (fun e=>(e.key,e.val))=l.map fun p=>(Value.int .i64 p.1,g p.2):=hes
        rw [← hes']
        apply List.ext_getElem?
        intro i
        by_cases hij:j=i
        · subst hij
          simp [List.getElem?_modify,hjl]
        · simp [List.getElem?_modify,List.getElem?_set,hij]
  obtain ⟨en',clock',hrun,hes'⟩:=key
  have hkp:KpS (fun b=>b∈fp k) w { w with heap:=w.heap.setIfInBounds r (.map en' clock') }:=⟨rfl,rfl,rfl,by simp,fun b hbl hn=>by
    rw [hfp] at hn
    simp at hn
    show (w.heap.setIfInBounds r _)[b]?=_
    rw [Array.getElem?_setIfInBounds,if_neg (fun h=>hn h.symm)]⟩
  have hs:=h1.set1 (k:=k) (e1 := .map (mI g (zJQ l q v))) (f1:=[r]) (zAS hk) hkp (fun x hx => .inl (by rw [hfp]; exact hx)) (by simp) (fun v' hv' mv=>by
    rw [hκ] at hv'
    cases hv'
    refine ⟨r,⟨en',clock',hv,?_,hes'⟩,rfl⟩
    show (w.heap.setIfInBounds r _)[r]?=_
    rw [Array.getElem?_setIfInBounds,if_pos rfl,if_pos hrl])
  refine ⟨_,_,_,⟨fun d t' p af g' => ?_⟩,hs.1,hs.2⟩
  simp [execOp,hv,hy',hz',hrun]
theorem zUu {t k:Nat} {es:List (Value×Value)} (h:aev n e (.tmp t) = .hd k) (hk:H[k]?=some (.map es)):R1 P n e H (.tmp t) (.omap es) (some k):=by
  intro w A0 κ fp F g1 g2
  have hv:=g2.ev (.tmp t)
  rw [h] at hv
  unfold VR at hv
  refine ⟨_,fp k,zPF rfl,?_,g1.nd k,fun x hx=>⟨k,rfl,hx⟩⟩
  have:=g1.ent k _ _ hk hv.1
  unfold VR
  exact this
theorem zL5 {f : FuncId} {fn : Func} {code : Code} {xs : Array Operand} {tys : Array TypeId} {la la' : List AV} {S : List Nat} {caps : List AV} {es : List (Value × Value)} (hf : P.funcs[f]? = some fn) (hb : fn.body = some code) (hn : (fn.name == "runtime.NumGoroutine") = false) (hc : zHq n e x f caps) (has : xs.toList.map (aev n e) ++ caps = la) (hview : zDh H S la la') (hp : PFn P f la' (.omap es))
    (hk:ALW P n m ops rest kk (zHr e d (.hd H.length)) (H++[.map es])):ALW P n m ops (⟨some d,.call { callee := .value x,args:=xs,argTypes:=tys },tt,p,af,none⟩::rest) kk e H:=by
  intro w A0 κ fp F h1 h2
  obtain ⟨cargs,g1,g2⟩:=zM5 (tys:=tys) hf hb hn hc has h2
  refine zKM g1 (hp w (fun b=>avd A0 fp b ∧ ∀ k,k∈S→b ∉ fp k) cargs ?_ (hview.vrt h1 g2)) ?_
  · rintro x ⟨hx | ⟨i,hx⟩,_⟩
    · exact h1.old x hx
    · exact h1.lt i x hx
  rintro v w' ⟨fr,q1,q2,q3,q4⟩
  unfold VR at q1
  have hs:=h1.push (w':=w') (e2 := .map es) (v2:=v) (f2:=fr) q4 q3 q2 (fun mv=>q1)
  refine zCW (hk w' A0 _ _ _ hs.1 ((h2.mv (hs.2.mv A0)).upd ?_)) (fun _ _=>zAr (hs.2.m m))
  unfold VR
  exact ⟨by rw [← h1.len,List.getElem?_append_right (Nat.le_refl _)]; simp,rfl⟩
end
end Go.Am
