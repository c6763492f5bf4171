/-
  Shorter words for the printed walks.
  Conditions: none: plain theorems over whatever program P.
-/
import Derived.Test.YtplkliakhdkpcaaGreatAmX
set_option linter.unusedVariables false
set_option linter.unusedSimpArgs false
namespace Go.Am
open Go Go.RowKit Go.Wk
@[reducible] def ls {α : Type} (f : α → List AV) (l : List α) : AV := .sl false (List.map f l)
section
variable {P : Program} {n m : Nat} {e : zB9} {H : zAR} {ops : Array Oper} {rest : List Oper} {kk : zB9 → zAR → Prop} {d f t tt : Nat} {fn : Func} {code : Code} {x : Operand} {xs : Array Operand} {tys : Array TypeId} {p : String} {af : Array Edge} {la : List AV} {r a : AV} {op : Op}
theorem zMz {S : List Nat} : ∀ {la : List AV}, la.all nrA = true → zDJ H S la la
  | [], _ => trivial
  | a :: la, h => by
    simp only [List.all_cons, Bool.and_eq_true] at h
    exact ⟨zAt.nr h.1, zMz h.2⟩
theorem zd (hf : P.funcs[f]? = some fn) (hb : fn.body = some code) (hn : (fn.name == "runtime.NumGoroutine") = false) (hc : zHC n e x f []) (has : xs.toList.map (aev n e) ++ [] = la) (hview : la.all nrA = true) (hp : PFn P f la r) (hr : frz r = r)
    (hk : ALW P n m ops rest kk (zHA e d r) H) : ALW P n m ops (⟨some d, .call { callee := .value x, args := xs, argTypes := tys }, tt, p, af, none⟩ :: rest) kk e H :=
  zA3 (S := []) hf hb hn hc has (zMz hview) hp (.inl rfl) hr hk
theorem zt (h : zj P n e H op a) (hk : kk (zHA e d a) H) : ALW P n m ops [⟨some d, op, t, p, af, none⟩] kk e H := zA h (zF hk)
end
theorem zN1 {σ : List Nat} {e : zB9} : ∀ {l : List (Nat × AV)}, l.map (fun q => e q.1) = l.map (fun q => zQv σ q.2) → (l.all fun q => okA σ.length q.2) = true → zSI σ e l
  | [], _, _ => trivial
  | q :: l, h, h2 => by
    simp only [List.all_cons, Bool.and_eq_true] at h2
    simp only [List.map_cons, List.cons.injEq] at h
    exact ⟨⟨h.1 ▸ Sub.refl _, h2.1⟩, zN1 h.2 h2.2⟩
theorem zNs {σ : List Nat} {H : zAR} : ∀ {ss : List Nat} {H0 : zAR}, ss.map (fun s => H[s]?) = H0.map some → H0.all (okR σ) = true → zSE σ H ss H0
  | [], [], _, _ => trivial
  | [], _ :: _, h, _ => by cases h
  | _ :: _, [], h, _ => by cases h
  | s :: ss, en :: ens, h, h2 => by
    simp only [List.all_cons, Bool.and_eq_true] at h2
    simp only [List.map_cons, List.cons.injEq] at h
    exact ⟨⟨h.1, h2.1⟩, zNs h.2 h2.2⟩
theorem zAE {n m : Nat} {e : zB9} {H H0 : zAR} (σ : List Nat) {l : List (Nat × AV)} (hl : l.map (fun q => e q.1) = l.map (fun q => zQv σ q.2)) (hH : σ.map (fun s => H[s]?) = H0.map some)
    (hok : ((l.all fun q => okA σ.length q.2) && zNC σ && zQo m σ && H0.all (okR σ)) = true) : Rep n m e H (mkE l) H0 := by
  simp only [Bool.and_eq_true] at hok
  exact zBd σ (zN1 hl hok.1.1.1) hok.1.1.2 hok.1.2 (zNs hH hok.2)
end Go.Am
