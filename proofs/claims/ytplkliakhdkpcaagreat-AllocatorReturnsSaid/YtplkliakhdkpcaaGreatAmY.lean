/-
  Shorter words for the printed walks.
  Conditions: none: plain theorems over whatever program P.
-/
import Derived.Test.YtplkliakhdkpcaaGreatAmX
set_option linter.unusedVariables false
set_option linter.unusedSimpArgs false
namespace Go.Am
open Go Go.RowKit Go.Wk
@[reducible] def ls {α:Type} (f:α→List AV) (l:List α):AV := .sl false (List.map f l)
section
variable {P:Program} {n m:Nat} {e:zCH} {H:zAQ} {ops:Array Oper} {rest:List Oper} {kk:zCH→zAQ→Prop} {d f t tt:Nat} {fn:Func} {code:Code} {x:Operand} {xs:Array Operand} {tys:Array TypeId} {p:String} {af:Array Edge} {la:List AV} {r a:AV} {op:Op}
theorem zNp {S:List Nat}:∀ {la:List AV},la.all nrA=true→zDh H S la la
  | [],_=>trivial
  | a::la,h=>by
    simp only [List.all_cons,Bool.and_eq_true] at h
    exact ⟨zAs.nr h.1,zNp h.2⟩
theorem zh (hf : P.funcs[f]? = some fn) (hb : fn.body = some code) (hn : (fn.name == "runtime.NumGoroutine") = false) (hc : zHq n e x f []) (has : xs.toList.map (aev n e) ++ [] = la) (hview : la.all nrA = true) (hp : PFn P f la r) (hr : frz r = r)
    (hk:ALW P n m ops rest kk (zHr e d r) H):ALW P n m ops (⟨some d,.call { callee := .value x,args:=xs,argTypes:=tys },tt,p,af,none⟩::rest) kk e H :=
  zA5 (S:=[]) hf hb hn hc has (zNp hview) hp (.inl rfl) hr hk
theorem zUv (h:zt P n e H op a) (hk:kk (zHr e d a) H):ALW P n m ops [⟨some d,op,t,p,af,none⟩] kk e H:=zA h (zF hk)
end
theorem zY {P:Program} {n m:Nat} {K:zLT} {e:zCH} {H:zAQ} {c:Operand} {x y:Code} {β:Type} {b:Bool} {X Y:Option β} {r:β} (h:cnd b X Y=some r) (hc:aev n e c = .lit (.bool b)) (ht:b=true→X=some r→AW P n m x K e H) (hf:b=false→Y=some r→AW P n m y K e H):AW P n m (.cond c x y) K e H :=
  zML b hc (fun hb=>ht hb (zFU hb h)) (fun hb=>hf hb (zTo hb h))
theorem zM {β:Type} {b:Bool} {x:Option β} {r:β} {C:Prop} (h:chk b x=some r) (k:b=true→x=some r→C):C:=k (zOt h).1 (zOt h).2
theorem D1 {P:Program} {n m:Nat} {l:List Oper} {la:List AV} {e:zCH} {i d t:Nat} {op:Op} {p:String} {af:Array Edge} {H:zAQ} (h:∀ e',(∀ s,zPd l i s=true→e' s=e s)→zQ8 l la e' af.toList→zt P n e' H op (la.getD i .any)):zRu P n m l la e i ⟨some d,op,t,p,af,none⟩ H H :=
  fun e' s q=>zUv (h e' s q) ⟨fun _=>rfl,rfl⟩
theorem zPO {σ:List Nat} {e:zCH}:∀ {l:List (Nat×AV)},l.map (fun q=>e q.1)=l.map (fun q=>zR1 σ q.2)→(l.all fun q=>okA σ.length q.2)=true→zTO σ e l
  | [],_,_=>trivial
  | q::l,h,h2=>by
    simp only [List.all_cons,Bool.and_eq_true] at h2
    simp only [List.map_cons,List.cons.injEq] at h
    exact ⟨⟨h.1▸Sub.refl _,h2.1⟩,zPO h.2 h2.2⟩
theorem zPP {σ:List Nat} {H:zAQ}:∀ {ss:List Nat} {H0:zAQ},ss.map (fun s=>H[s]?)=H0.map some→H0.all (okR σ)=true→zTL σ H ss H0
  | [],[],_,_=>trivial
  | [],_::_,h,_=>by cases h
  | _::_,[],h,_=>by cases h
  | s::ss,en::ens,h,h2=>by
    simp only [List.all_cons,Bool.and_eq_true] at h2
    simp only [List.map_cons,List.cons.injEq] at h
    exact ⟨⟨h.1,h2.1⟩,zPP h.2 h2.2⟩
theorem zAD {n m:Nat} {e:zCH} {H H0:zAQ} (σ:List Nat) {l:List (Nat×AV)} (hl:l.map (fun q=>e q.1)=l.map (fun q=>zR1 σ q.2)) (hH:σ.map (fun s=>H[s]?)=H0.map some)
    (hok:((l.all fun q=>okA σ.length q.2)&&zN8 σ&&zRz m σ&&H0.all (okR σ))=true):Rep n m e H (mkE l) H0:=by
  simp only [Bool.and_eq_true] at hok
  exact zBh σ (zPO hl hok.1.1.1) hok.1.1.2 hok.1.2 (zPP hH hok.2)
end Go.Am
