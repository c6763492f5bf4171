/-
  Functions as values.
  Conditions: none: plain theorems over whatever program P.
-/
import Derived.Test.YtplkliakhdkpcaaGreatAmT
set_option linter.unusedVariables false
set_option linter.unusedSimpArgs false
namespace Go.Am
open Go Go.RowKit Go.Wk
theorem zR9 {σ : List Nat} {a : AV} (h : nr a = true) : zP7 σ a = a := by cases a <;> first | rfl | simp [nr] at h
theorem zN5 {σ : List Nat} : ∀ {caps : List AV}, caps.all nr = true → caps.map (zP7 σ) = caps
  | [], _ => rfl
  | a :: la, h => by
    simp only [List.all_cons, Bool.and_eq_true] at h
    rw [List.map_cons, zR9 h.1, zN5 h.2]
theorem zD9 {σ : List Nat} {f : FuncId} {caps : List AV} (h : caps.all nr = true) : Sub (.clo f caps) (zQv σ (.clo f caps)) := by
  have : zQv σ (.clo f caps) = .clo f caps := by
    show AV.clo f (caps.map (zP7 σ)) = _
    rw [zN5 h]
  rw [this]
  exact Sub.refl _
theorem zEA {N : Nat} {f : FuncId} {caps : List AV} (h : caps.all nr = true) : okA N (.clo f caps) = true := by
  show caps.all (okL N) = true
  rw [List.all_eq_true] at h ⊢
  intro a ha
  have := h a ha
  cases a <;> first | exact this | simp [nr] at this
def zS4 (a : AV) : Bool := isE a || match a with
  | .clo _ caps => caps.all isE
  | _ => false
section
variable {w : World} {A : Nat → Prop} {κ : List Value}
theorem zSZ : ∀ {la : List AV} {vs : List Value} {fp : List Nat}, la.all isE = true → VRt w A κ la vs fp → fp = []
  | [], _, _, _, h => by unfold VRt at h; exact h.2
  | a :: la, _, _, hE, h => by
    simp only [List.all_cons, Bool.and_eq_true] at hE
    unfold VRt at h
    obtain ⟨u, vs', f1, f2, rfl, rfl, h4, h5⟩ := h
    rw [zRb hE.1 h4, zSZ hE.2 h5]; rfl
theorem zTH {a : AV} {v : Value} {fp : List Nat} (h : zS4 a = true) (hv : VR w A κ a v fp) : fp = [] := by
  unfold zS4 at h
  rw [Bool.or_eq_true] at h
  rcases h with h | h
  · exact zRb h hv
  · split at h
    · unfold VR at hv
      obtain ⟨vs, _, h2⟩ := hv
      exact zSZ h h2
    · cases h
theorem zQl : ∀ {la : List AV} {vs : List Value} {fp : List Nat}, la.all zS4 = true → VRs w A κ la vs fp → fp = []
  | [], _, _, _, h => by unfold VRs at h; exact h.2
  | a :: la, _, _, hE, h => by
    simp only [List.all_cons, Bool.and_eq_true] at hE
    unfold VRs at h
    obtain ⟨u, vs', f1, f2, rfl, rfl, _, h4, h5⟩ := h
    rw [zTH hE.1 h4, zQl hE.2 h5]; rfl
end
section
variable {H : zAR} {S : List Nat}
theorem zAt.ptrV {k t o : Nat} {cs cs' : List AV} (hk : H[k]? = some (.box t cs)) (hS : S.contains k = true) (hE : cs.all zS4 = true) (hv : zDJ H S cs cs') : zAt H S (.ptr k o) (.rp cs' o) := by
  intro w A0 κ fp v h1 hvv
  unfold VR at hvv ⊢
  obtain ⟨_, u, b, g1, g2, rfl⟩ := hvv
  obtain ⟨b', vs, f', rfl, hb, hvs, hfp⟩ := h1.ent k _ u hk g1
  cases g2
  obtain rfl := zQl hE hvs
  exact ⟨rfl, b, 0, vs, by rw [Nat.zero_add], fun hA => hA.2 k (by simpa using hS) (by rw [hfp]; exact List.mem_cons_self ..), hb.lt, hv.vrs h1 hvs, hb.cells⟩
end
theorem zPY {T : Nat} {l : List Int} : zSy (.vec T 1 (List.map cI l)) = true := by
  show ((List.map cI l).all fun r => r.all zLr) = true
  rw [List.all_map, List.all_eq_true]
  intro x _
  rfl
end Go.Am
