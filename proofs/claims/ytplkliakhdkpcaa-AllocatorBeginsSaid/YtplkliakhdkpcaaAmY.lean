/-
  Shorter words for the printed walks.
  Conditions: none: plain theorems over whatever program P.
-/
import Derived.Test.YtplkliakhdkpcaaAmX
set_option linter.unusedVariables false
set_option linter.unusedSimpArgs false
namespace Go.Am
open Go Go.RowKit Go.Wk
@[reducible] def ls {α : Type} (f : α → List AV) (l : List α) : AV := .sl false (List.map f l)
section
variable {P : Program} {n m : Nat} {e : AEnv} {H : AHeap} {ops : Array Oper} {rest : List Oper} {kk : AEnv → AHeap → Prop} {d f t tt : Nat} {fn : Func} {code : Code} {x : Operand} {xs : Array Operand} {tys : Array TypeId} {p : String} {af : Array Edge} {la : List AV} {r a : AV} {op : Op}
theorem ViewL_all {S : List Nat} : ∀ {la : List AV}, la.all nrA = true → ViewL H S la la
  | [], _ => trivial
  | a :: la, h => by
    simp only [List.all_cons, Bool.and_eq_true] at h
    exact ⟨View.nr h.1, ViewL_all h.2⟩
theorem ALW_callN (hf : P.funcs[f]? = some fn) (hb : fn.body = some code) (hn : (fn.name == "runtime.NumGoroutine") = false) (hc : Callee n e x f []) (has : xs.toList.map (aev n e) ++ [] = la) (hview : la.all nrA = true) (hp : PFn P f la r) (hr : frz r = r)
    (hk : ALW P n m ops rest kk (updA e d r) H) : ALW P n m ops (⟨some d, .call { callee := .value x, args := xs, argTypes := tys }, tt, p, af, none⟩ :: rest) kk e H :=
  ALW_callE (S := []) hf hb hn hc has (ViewL_all hview) hp (.inl rfl) hr hk
theorem ALW1 (h : AVal P n e H op a) (hk : kk (updA e d a) H) : ALW P n m ops [⟨some d, op, t, p, af, none⟩] kk e H := ALW_val h (ALW_nil hk)
end
theorem EnvS_all {σ : List Nat} {e : AEnv} : ∀ {l : List (Nat × AV)}, l.map (fun q => e q.1) = l.map (fun q => renA σ q.2) → (l.all fun q => okA σ.length q.2) = true → EnvS σ e l
  | [], _, _ => trivial
  | q :: l, h, h2 => by
    simp only [List.all_cons, Bool.and_eq_true] at h2
    simp only [List.map_cons, List.cons.injEq] at h
    exact ⟨⟨h.1 ▸ Sub.refl _, h2.1⟩, EnvS_all h.2 h2.2⟩
theorem EntS_all {σ : List Nat} {H : AHeap} : ∀ {ss : List Nat} {H0 : AHeap}, ss.map (fun s => H[s]?) = H0.map some → H0.all (okR σ) = true → EntS σ H ss H0
  | [], [], _, _ => trivial
  | [], _ :: _, h, _ => by cases h
  | _ :: _, [], h, _ => by cases h
  | s :: ss, en :: ens, h, h2 => by
    simp only [List.all_cons, Bool.and_eq_true] at h2
    simp only [List.map_cons, List.cons.injEq] at h
    exact ⟨⟨h.1, h2.1⟩, EntS_all h.2 h2.2⟩
theorem RepP {n m : Nat} {e : AEnv} {H H0 : AHeap} (σ : List Nat) {l : List (Nat × AV)} (hl : l.map (fun q => e q.1) = l.map (fun q => renA σ q.2)) (hH : σ.map (fun s => H[s]?) = H0.map some)
    (hok : ((l.all fun q => okA σ.length q.2) && nodupB σ && baseOk m σ && H0.all (okR σ)) = true) : Rep n m e H (mkE l) H0 := by
  simp only [Bool.and_eq_true] at hok
  exact Rep_perm σ (EnvS_all hl hok.1.1.1) hok.1.1.2 hok.1.2 (EntS_all hH hok.2)
end Go.Am
