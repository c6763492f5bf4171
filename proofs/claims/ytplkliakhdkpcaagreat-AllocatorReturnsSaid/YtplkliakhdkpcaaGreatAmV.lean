/-
  Small facts for arrays within elements of lists.
  Conditions: none.
-/
import Derived.Test.YtplkliakhdkpcaaGreatAmU
set_option linter.unusedVariables false
set_option linter.unusedSimpArgs false
namespace Go.Am
open Go Go.RowKit Go.Wk
theorem zR {α β:Type} {o:Option α} {f:α→Option β} {r:β} {C:Prop} (h:o.bind f=some r) (k:∀ x,o=some x→f x=some r→C):C:=by
  obtain ⟨x,h1,h2⟩:=zRc h
  exact k x h1 h2
theorem zSA {N c M:Nat} {k:Int} (h:inb k N=true) (hc:Nat.ble (c+N) M=true):Nat.blt (c+k.toNat) M=true:=by
  have:=(zBT h).2
  have:=Nat.le_of_ble_eq_true hc
  simp only [Nat.blt_eq]
  omega
section
variable {P:Program} {n m:Nat} {e:zCH} {H:zAQ} {x:Operand} {k:Nat} {ops:Array Oper} {rest:List Oper} {kk:zCH→zAQ→Prop} {d tt:Nat} {p:String} {af:Array Edge} {xs:Array Operand} {tys:Array TypeId} {r:AV} {en':zIJ}
theorem zOa {jj g:Nat} {s:Bool} (hj:(ops[jj]?).bind (·.dst)=some g) (hg:aev n e (.tmp g) = .lit (.bool s))
    (hcall : s = true → ∃ (f : FuncId) (fn : Func) (code : Code) (caps la la' : List AV) (en : zIJ), P.funcs[f]? = some fn ∧ fn.body = some code ∧ (fn.name == "runtime.NumGoroutine") = false ∧ zHq n e x f caps ∧ xs.toList.map (aev n e) ++ caps = la ∧ zL4 H [] k la la' ∧ H[k]? = some en ∧ zTP en = true ∧ zTP en' = true ∧ AFn P f la' [en] r [en'] ∧ nrT r = true)
    (hno:s=false→H[k]?=some en') (hkk:ALW P n m ops rest kk (zHr e d (bif s then r else .lit undef)) (H.set k en')) :
    ALW P n m ops (⟨some d,.call { callee := .value x,args:=xs,argTypes:=tys },tt,p,af,some (jj,true)⟩::rest) kk e H:=by
  intro w A0 κ fp F h1 h2
  cases hs:s with
  | true =>
    obtain ⟨f,fn,code,caps,la,la',en,hf,hb,hn,hc,has,hview,hk,hen,hen',hp,hr⟩:=hcall hs
    rw [hs] at hkk hg
    obtain ⟨cargs,g1,g2⟩:=zMv (tys:=tys) hf hb hn hc has hview hk rfl hen hen' hp hr (.inl rfl) h1 h2
    refine zNU hj (zAg h2 hg) g1 g2 ?_
    rintro v w' ⟨f1,q1,q2,q3⟩
    exact zCW (hkk w' A0 κ _ _ q1 ((h2.mv (q3.mv A0)).upd q2)) (fun _ _=>zAr (q3.m m))
  | false =>
    have hn:=hno hs
    rw [hs] at hkk hg
    rw [zIN hn] at hkk
    exact zKj hj (zAg h2 hg) (hkk w A0 κ fp _ h1 (h2.upd (zHS _ _ _ _)))
end
end Go.Am
